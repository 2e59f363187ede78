/- A part of the proof: The law CertificateMakes holds: Make, Impossible, Explain and Enough return what is specified for any system; no conditions. -/
import Derived.Test.YtflfnkdhmcfjlaaN19h
namespace Go.Am
open Go
set_option linter.unusedSimpArgs false
set_option linter.unusedVariables false
def IsD (P : Nat → Int → Prop) (v z : Int) : Prop := (0 ≤ z ∧ P z.toNat v ∧ ∀ k : Nat, P k v → z ≤ k) ∨ (z = -1 ∧ ∀ k, ¬ P k v)
theorem least {p : Nat → Prop} (h : ∃ k, p k) : ∃ k, p k ∧ ∀ j, p j → k ≤ j := by
 obtain ⟨k, hk⟩ := h
 induction k using Nat.strongRecOn with
 | ind k ih =>
  by_cases hj : ∃ j, j < k ∧ p j
  ·obtain ⟨j, h1, h2⟩ := hj
   exact ih j h1 h2
  ·exact ⟨k, hk, fun j hp => Nat.le_of_not_lt fun h => hj ⟨j, h, hp⟩⟩
theorem IsD.ex {P : Nat → Int → Prop} {v : Int} : ∃ z, IsD P v z := by
 by_cases h : ∃ k, P k v
 ·obtain ⟨k, h1, h2⟩ := least h
  exact ⟨k, .inl ⟨by omega, by simpa using h1, fun j hj => by have := h2 j hj; omega⟩⟩
 ·exact ⟨-1, .inr ⟨rfl, fun k hk => h ⟨k, hk⟩⟩⟩
theorem IsD.uniq {P : Nat → Int → Prop} {v z w : Int} (h1 : IsD P v z) (h2 : IsD P v w) : z = w := by
 rcases h1 with ⟨a1, a2, a3⟩ | ⟨a1, a2⟩ <;> rcases h2 with ⟨b1, b2, b3⟩ | ⟨b1, b2⟩
 ·have := a3 _ b2; have := b3 _ a2; omega
 ·exact absurd a2 (b2 _)
 ·exact absurd b2 (a2 _)
 ·omega
open Classical in
noncomputable def dist (P : Nat → Int → Prop) (v : Int) : Int := Classical.choose (IsD.ex (P := P) (v := v))
theorem dist_spec {P : Nat → Int → Prop} {v : Int} : IsD P v (dist P v) := Classical.choose_spec (IsD.ex (P := P) (v := v))
theorem dist_eq {P : Nat → Int → Prop} {v z : Int} (h : IsD P v z) : dist P v = z := dist_spec.uniq h
theorem dist_ge {P : Nat → Int → Prop} {v : Int} : -1 ≤ dist P v := by
 rcases dist_spec (P := P) (v := v) with ⟨h, _⟩ | ⟨h, _⟩ <;> omega
structure Steps (N : Nat) (nb : Int → List Int) (P : Nat → Int → Prop) (root : Nat) : Prop where
 rt : root < N
 p0 : ∀ v, P 0 v ↔ v = (root : Int)
 ps : ∀ k v, P (k + 1) v ↔ ∃ x, P k x ∧ v ∈ nb x
 rg : ∀ x y, y ∈ nb x → ∃ v : Nat, y = v ∧ v < N
structure BI (N : Nat) (nb : Int → List Int) (P : Nat → Int → Prop) (root : Nat) (ds qs : List Int) (d : Nat) : Prop where
 dl : ds.length = N
 rg : ∀ x ∈ qs, ∃ v : Nat, x = v ∧ v < N
 nd : qs.Nodup
 dq : d ≤ qs.length
 q0 : (root : Int) ∈ qs ∧ gAt ds root = 0
 inq : ∀ v : Nat, v < N → ((v : Int) ∈ qs ↔ 0 ≤ gAt ds v)
 out : ∀ v : Nat, v < N → gAt ds v < 0 → gAt ds v = -1
 snd : ∀ v : Nat, v < N → 0 ≤ gAt ds v → P (gAt ds v).toNat v
 srt : qs.Pairwise fun a b => gAt ds a ≤ gAt ds b
 bnd : ∀ x, qs[d]? = some x → ∀ y ∈ qs, gAt ds y ≤ gAt ds x + 1
 cl : ∀ x ∈ qs.take d, ∀ y ∈ nb x, 0 ≤ gAt ds y ∧ gAt ds y ≤ gAt ds x + 1
 bd : ∀ v : Nat, v < N → gAt ds v ≤ d
structure BJ (N : Nat) (nb : Int → List Int) (P : Nat → Int → Prop) (root : Nat) (ds qs : List Int) (d u : Nat) (t : List Int) : Prop where
 dl : ds.length = N
 rg : ∀ x ∈ qs, ∃ v : Nat, x = v ∧ v < N
 nd : qs.Nodup
 uq : qs[d]? = some (u : Int)
 uN : u < N
 q0 : (root : Int) ∈ qs ∧ gAt ds root = 0
 inq : ∀ v : Nat, v < N → ((v : Int) ∈ qs ↔ 0 ≤ gAt ds v)
 out : ∀ v : Nat, v < N → gAt ds v < 0 → gAt ds v = -1
 snd : ∀ v : Nat, v < N → 0 ≤ gAt ds v → P (gAt ds v).toNat v
 srt : qs.Pairwise fun a b => gAt ds a ≤ gAt ds b
 bnd : ∀ y ∈ qs, gAt ds y ≤ gAt ds u + 1
 cl : ∀ x ∈ qs.take d, ∀ y ∈ nb x, 0 ≤ gAt ds y ∧ gAt ds y ≤ gAt ds x + 1
 cu : ∀ y ∈ nb u, y ∈ t ∨ (0 ≤ gAt ds y ∧ gAt ds y ≤ gAt ds u + 1)
 tr : ∀ y ∈ t, y ∈ nb u
 bd : ∀ v : Nat, v < N → gAt ds v ≤ d + 1
 bu : 0 ≤ gAt ds u ∧ gAt ds u ≤ d
theorem BI.start {N root : Nat} {nb : Int → List Int} {P : Nat → Int → Prop} (S : Steps N nb P root) : BI N nb P root ((List.replicate N (-1)).set root 0) [(root : Int)] 0 := by
 have hr := S.rt
 have hz : ∀ v : Nat, v < N → gAt (List.replicate N (-1)) v = -1 := fun v h => by
  unfold gAt
  rw [Int.toNat_natCast, List.getD, List.getElem?_replicate_of_lt h]; rfl
 have gs : ∀ v : Nat, v < N → gAt ((List.replicate N (-1)).set root 0) v = if v = root then 0 else -1 := fun v h => by
  rw [gAt_set (by simp; exact hr), hz v h]
 refine ⟨by simp, fun x hx => ⟨root, by simpa using hx, hr⟩, by simp, Nat.zero_le _, ⟨by simp, by rw [gs root hr, if_pos rfl]⟩, fun v hv => ?_, fun v hv h => ?_, fun v hv h => ?_, by simp, fun x hx y hy => ?_, fun x hx => by simp at hx, fun v hv => ?_⟩
 ·rw [gs v hv]
  by_cases h : v = root
  ·simp [h]
  ·rw [if_neg h]; simp; omega
 ·rw [gs v hv] at h ⊢
  split at h
  ·omega
  ·rename_i h1; rw [if_neg h1]
 ·rw [gs v hv] at h ⊢
  split at h
  ·rename_i h1
   rw [if_pos h1]
   exact (S.p0 _).2 (by rw [h1])
  ·omega
 ·simp at hx hy
  subst hx
  subst hy
  omega
 ·rw [gs v hv]
  split <;> omega
theorem BI.enter {N root : Nat} {nb : Int → List Int} {P : Nat → Int → Prop} {ds qs : List Int} {d u : Nat} (H : BI N nb P root ds qs d) (hu : qs[d]? = some (u : Int)) : BJ N nb P root ds qs d u (nb u) := by
 have hm := List.mem_of_getElem? hu
 obtain ⟨v, hv, hvN⟩ := H.rg _ hm
 have : v = u := by omega
 subst this
 exact ⟨H.dl, H.rg, H.nd, hu, hvN, H.q0, H.inq, H.out, H.snd, H.srt, H.bnd _ hu, H.cl, fun y hy => .inl hy, fun y hy => hy, fun w hw => by have := H.bd w hw; omega, (H.inq v hvN).1 hm, H.bd v hvN⟩
theorem BJ.leave {N root : Nat} {nb : Int → List Int} {P : Nat → Int → Prop} {ds qs : List Int} {d u : Nat} (H : BJ N nb P root ds qs d u []) : BI N nb P root ds qs (d + 1) := by
 have ht : qs.take (d + 1) = qs.take d ++ [(u : Int)] := by rw [List.take_add_one, H.uq]; rfl
 have hd := (List.getElem?_eq_some_iff.1 H.uq).1
 refine ⟨H.dl, H.rg, H.nd, hd, H.q0, H.inq, H.out, H.snd, H.srt, fun x hx y hy => ?_, fun x hx y hy => ?_, fun v hv => by have := H.bd v hv; push_cast; omega⟩
 ·have h1 := H.bnd y hy
  have hdl := (List.getElem?_eq_some_iff.1 hx).1
  have h2 := List.pairwise_iff_getElem.1 H.srt d (d + 1) hd hdl (by omega)
  have e1 := H.uq
  rw [List.getElem?_eq_getElem hd] at e1
  rw [List.getElem?_eq_getElem hdl] at hx
  rw [Option.some.inj e1, Option.some.inj hx] at h2
  omega
 ·rw [ht] at hx
  rcases List.mem_append.1 hx with hx | hx
  ·exact H.cl x hx y hy
  ·simp at hx
   subst hx
   rcases H.cu y hy with h | h
   ·simp at h
   ·exact h
theorem BJ.old {N root : Nat} {nb : Int → List Int} {P : Nat → Int → Prop} {ds qs : List Int} {d u : Nat} {y : Int} {t : List Int} (H : BJ N nb P root ds qs d u (y :: t)) (h : 0 ≤ gAt ds y) (hN : ∃ v : Nat, y = v ∧ v < N) : BJ N nb P root ds qs d u t := by
 refine { H with cu := fun z hz => ?_, tr := fun z hz => H.tr z (by simp [hz]) }
 rcases H.cu z hz with h1 | h1
 ·rcases List.mem_cons.1 h1 with rfl | h1
  ·obtain ⟨v, rfl, hv⟩ := hN
   exact .inr ⟨h, H.bnd _ ((H.inq v hv).2 h)⟩
  ·exact .inl h1
 ·exact .inr h1
theorem BJ.new {N root : Nat} {nb : Int → List Int} {P : Nat → Int → Prop} (S : Steps N nb P root) {ds qs : List Int} {d u w : Nat} {t : List Int} (H : BJ N nb P root ds qs d u ((w : Int) :: t)) (hw : w < N) (h : gAt ds w < 0) : BJ N nb P root (ds.set w (gAt ds u + 1)) (qs ++ [(w : Int)]) d u t := by
 have hnq : (w : Int) ∉ qs := fun hh => by have := (H.inq w hw).1 hh; omega
 have gs : ∀ v : Nat, gAt (ds.set w (gAt ds u + 1)) v = if v = w then gAt ds u + 1 else gAt ds v := fun v => gAt_set (by rw [H.dl]; exact hw)
 have gq : ∀ y ∈ qs, gAt (ds.set w (gAt ds u + 1)) y = gAt ds y := fun y hy => by
  obtain ⟨v, rfl, _⟩ := H.rg y hy
  rw [gs, if_neg (fun hh => hnq (by rw [← hh]; exact hy))]
 have huq := List.mem_of_getElem? H.uq
 have hdl := (List.getElem?_eq_some_iff.1 H.uq).1
 have htk : (qs ++ [(w : Int)]).take d = qs.take d := List.take_append_of_le_length (by omega)
 have hge : ∀ y : Int, (∃ v : Nat, y = v ∧ v < N) → 0 ≤ gAt ds y → gAt (ds.set w (gAt ds u + 1)) y = gAt ds y := fun y hy h0 => by
  obtain ⟨v, rfl, hv⟩ := hy
  exact gq _ ((H.inq v hv).2 h0)
 have b0 := H.bu
 refine ⟨by simp [H.dl], fun x hx => ?_, ?_, by rw [List.getElem?_append_left hdl]; exact H.uq, H.uN, ⟨List.mem_append_left _ H.q0.1, by rw [gq _ H.q0.1]; exact H.q0.2⟩, fun v hv => ?_, fun v hv hlt => ?_, fun v hv hge => ?_, ?_, fun y hy => ?_, fun x hx y hy => ?_, fun y hy => ?_, fun y hy => H.tr y (by simp [hy]), fun v hv => ?_, ?_⟩
 ·rcases List.mem_append.1 hx with hx | hx
  ·exact H.rg x hx
  ·exact ⟨w, by simpa using hx, hw⟩
 ·rw [List.nodup_append]
  exact ⟨H.nd, by simp, fun a ha b hb e => hnq (by simp at hb; rw [← hb, ← e]; exact ha)⟩
 ·rw [gs, List.mem_append]
  by_cases hvw : v = w
  ·rw [if_pos hvw]
   constructor
   ·intro _; omega
   ·intro _; exact .inr (by simp [hvw])
  ·rw [if_neg hvw, ← H.inq v hv]
   constructor
   ·rintro (h1 | h1)
    ·exact h1
    ·simp at h1; omega
   ·exact .inl
 ·rw [gs] at hlt ⊢
  split at hlt
  ·omega
  ·rename_i h1
   rw [if_neg h1]
   exact H.out v hv hlt
 ·rw [gs] at hge ⊢
  split at hge
  ·rename_i h1
   rw [if_pos h1, h1]
   have h2 := H.snd u H.uN b0.1
   have : (gAt ds u + 1).toNat = (gAt ds u).toNat + 1 := by omega
   rw [this]
   exact (S.ps _ _).2 ⟨u, h2, H.tr _ (by simp)⟩
  ·rename_i h1
   rw [if_neg h1]
   exact H.snd v hv hge
 ·rw [List.pairwise_append]
  refine ⟨H.srt.imp_of_mem (fun {a b} ha hb hab => by rw [gq a ha, gq b hb]; exact hab), by simp, fun a ha b hb => ?_⟩
  simp at hb
  subst hb
  rw [gq a ha, gs, if_pos rfl]
  exact H.bnd a ha
 ·rw [gq _ huq]
  rcases List.mem_append.1 hy with hy | hy
  ·rw [gq y hy]; exact H.bnd y hy
  ·simp at hy
   subst hy
   rw [gs, if_pos rfl]
   omega
 ·rw [htk] at hx
  have h1 := H.cl x hx y hy
  rw [gq x (List.mem_of_mem_take hx), hge y (S.rg _ _ hy) h1.1]
  exact h1
 ·rcases H.cu y hy with h1 | h1
  ·rcases List.mem_cons.1 h1 with rfl | h1
   ·rw [gq _ huq, gs, if_pos rfl]
    exact .inr ⟨by omega, by omega⟩
   ·exact .inl h1
  ·rw [gq _ huq, hge y (S.rg _ _ hy) h1.1]
   exact .inr h1
 ·rw [gs]
  have := H.bd v hv
  split <;> omega
 ·rw [gq _ huq]
  exact b0
theorem BJ.len {N root : Nat} {nb : Int → List Int} {P : Nat → Int → Prop} {ds qs : List Int} {d u : Nat} {t : List Int} (H : BJ N nb P root ds qs d u t) : qs.length ≤ N := by
 have := nodup_le (xs := qs) (ys := (List.range N).map fun (i : Nat) => (i : Int)) H.nd (fun x hx => by
  obtain ⟨v, rfl, hv⟩ := H.rg x hx
  exact List.mem_map.2 ⟨v, List.mem_range.2 hv, rfl⟩)
 simpa using this
theorem BI.len {N root : Nat} {nb : Int → List Int} {P : Nat → Int → Prop} {ds qs : List Int} {d : Nat} (H : BI N nb P root ds qs d) : qs.length ≤ N := by
 have := nodup_le (xs := qs) (ys := (List.range N).map fun (i : Nat) => (i : Int)) H.nd (fun x hx => by
  obtain ⟨v, rfl, hv⟩ := H.rg x hx
  exact List.mem_map.2 ⟨v, List.mem_range.2 hv, rfl⟩)
 simpa using this
theorem BI.done {N root : Nat} {nb : Int → List Int} {P : Nat → Int → Prop} (S : Steps N nb P root) {ds qs : List Int} {d : Nat} (H : BI N nb P root ds qs d) (hd : qs.length ≤ d) : ∀ v : Nat, v < N → gAt ds v = dist P v := by
 have ht : qs.take d = qs := List.take_of_length_le hd
 have up : ∀ (k : Nat) (y : Int), P k y → y ∈ qs ∧ gAt ds y ≤ k := by
  intro k
  induction k with
  | zero =>
   intro y hy
   have := (S.p0 y).1 hy
   subst this
   exact ⟨H.q0.1, by rw [H.q0.2]; simp⟩
  | succ k ih =>
   intro y hy
   obtain ⟨x, h1, h2⟩ := (S.ps k y).1 hy
   obtain ⟨h3, h4⟩ := ih x h1
   obtain ⟨h5, h6⟩ := H.cl x (by rw [ht]; exact h3) y h2
   obtain ⟨v, rfl, hv⟩ := S.rg _ _ h2
   exact ⟨(H.inq v hv).2 h5, by push_cast; omega⟩
 intro v hv
 refine (dist_eq ?_).symm
 by_cases h : 0 ≤ gAt ds v
 ·exact .inl ⟨h, H.snd v hv h, fun k hk => (up k v hk).2⟩
 ·refine .inr ⟨H.out v hv (by omega), fun k hk => ?_⟩
  have := (H.inq v hv).1 (up k v hk).1
  omega
def Wk (l : List Edge) : Nat → Int → Int → Prop
 | 0, x, y => x = y
 | k + 1, x, y => ∃ e ∈ l, e.fr = x ∧ Wk l k e.to y
theorem Wk.snoc {l : List Edge} : ∀ {k : Nat} {x y : Int}, Wk l (k + 1) x y ↔ ∃ e ∈ l, Wk l k x e.fr ∧ e.to = y
 | 0, x, y => by
  constructor
  ·rintro ⟨e, he, h1, h2⟩
   exact ⟨e, he, h1.symm, h2⟩
  ·rintro ⟨e, he, h1, h2⟩
   exact ⟨e, he, h1.symm, h2⟩
 | k + 1, x, y => by
  constructor
  ·rintro ⟨e, he, h1, h2⟩
   obtain ⟨f, hf, h3, h4⟩ := Wk.snoc.1 h2
   exact ⟨f, hf, ⟨e, he, h1, h3⟩, h4⟩
  ·rintro ⟨f, hf, ⟨e, he, h1, h3⟩, h4⟩
   exact ⟨e, he, h1, Wk.snoc.2 ⟨f, hf, h3, h4⟩⟩
noncomputable def dst (l : List Edge) (x y : Int) : Int := dist (fun k v => Wk l k x v) y
def outN (l : List Edge) (x : Int) : List Int := (l.filter fun e => decide (e.fr = x)).map Edge.to
theorem steps_fwd {n : Int} {N : Nat} {l : List Edge} (gr : Gr n l) (hN : n = N) {root : Nat} (hr : root < N) : Steps N (outN l) (fun k v => Wk l k root v) root := by
 refine ⟨hr, fun v => eq_comm, fun k v => ?_, fun x y hy => ?_⟩
 ·rw [Wk.snoc]
  constructor
  ·rintro ⟨e, he, h1, h2⟩
   exact ⟨e.fr, h1, List.mem_map.2 ⟨e, List.mem_filter.2 ⟨he, by simp⟩, h2⟩⟩
  ·rintro ⟨x, h1, h2⟩
   obtain ⟨e, he, h3⟩ := List.mem_map.1 h2
   obtain ⟨he, h4⟩ := List.mem_filter.1 he
   simp at h4
   exact ⟨e, he, by rw [h4]; exact h1, h3⟩
 ·obtain ⟨e, he, h3⟩ := List.mem_map.1 hy
  obtain ⟨a, b, h1, h2, h4, h5⟩ := gr.e e (List.mem_filter.1 he).1
  exact ⟨b, by omega, by omega⟩
end Go.Am
namespace Go.Am
open Go
set_option linter.unusedSimpArgs false
set_option linter.unusedVariables false
set_option maxRecDepth 100000
def reachL (N : Nat) (f : Int → Int) : List Int := (List.range N).map fun (v : Nat) => f (v : Int)
theorem reachL_eq {N : Nat} {f : Int → Int} {ds : List Int} (h1 : ds.length = N) (h2 : ∀ v : Nat, v < N → gAt ds v = f v) : ds = reachL N f := by
 refine List.ext_getElem? fun j => ?_
 by_cases h : j < N
 ·rw [gAt_get (by omega), h2 j h]
  simp [reachL, h]
 ·rw [List.getElem?_eq_none (by omega), List.getElem?_eq_none (by simp [reachL]; omega)]
theorem reachL_get {N : Nat} {f : Int → Int} {v : Nat} (h : v < N) : (reachL N f)[v]? = some (f v) := by simp [reachL, h]
theorem reachL_len {N : Nat} {f : Int → Int} : (reachL N f).length = N := by simp [reachL]
theorem outN_cons {l : List Edge} {e : Edge} {x : Int} : outN (e :: l) x = if e.fr = x then e.to :: outN l x else outN l x := by
 unfold outN
 rw [List.filter_cons]
 by_cases h : e.fr = x
 ·simp [h]
 ·simp [h]
theorem w109_2 {F : Nat → Option Fn} {lo : Nat} {n : Int} {N : Nat} {l : List Edge} (gr : Gr n l) (hN : n = N) (hN4 : N ≤ 4096) (hl : l.length < 100000) {root : Nat} (hr : root < N) (k7 b d u : Nat) (hk : k7 < b) (hd4 : d < N) :
  ∀ (t : List Edge) (j : Nat) (ds qs : List Int) (v : V) (m : Mem) (Q : Ex → St → Prop), l.drop j = t → lo ≤ m.next → IR lo m k7 ds → Qs lo m b v qs → BJ N (outN l) (fun k v => Wk l k root v) root ds qs d u (outN t u) →
  (∀ ds qs v m' e, m.next ≤ m'.next → IR lo m' k7 ds → Qs lo m' b v qs → BJ N (outN l) (fun k v => Wk l k root v) root ds qs d u [] → Q (.exit 4) ⟨(1, vEdges l) :: (7, .row 1 k7 0 N) :: (9, v) :: (10, vi d) :: e, [], [], m'⟩) →
  W F lo L109_2 ⟨[(1, vEdges l), (7, .row 1 k7 0 N), (9, v), (10, vi d), (11, vi u), (12, vi j)], [], [], m⟩ Q := by
 intro t
 induction t with
 | nil =>
  intro j ds qs v m Q hd hm r7 hq hJ hQ
  have hlt := drop_nil hd
  rw [W_L (c := L109_2) rfl]
  have : ¬ ((j : Nat) : Int) < (l.length : Int) := by omega
  simp only [↓sxc, sx, se, ↓reduceIte, Nat.reduceEqDiff, Nat.reduceAdd, Nat.reduceLT, Nat.reduceLeDiff, Nat.reduceSub, Nat.reduceMul, Int.reduceToNat, Int.reduceLT, Int.reduceLE, Int.reduceEq, ml_i0, ↓smc, sm, this]
  exact hQ ds qs v m _ (Nat.le_refl _) r7 hq hJ
 | cons x t ih =>
  intro j ds qs v m Q hd hm r7 hq hJ hQ
  obtain ⟨hg, hd', hlt⟩ := drop_cons hd
  have hx := List.mem_of_getElem? hg
  obtain ⟨a, w, ha, hw, ha2, hw2⟩ := gr.e x hx
  rw [W_L (c := L109_2) rfl]
  have : ((j : Nat) : Int) < (l.length : Int) := by omega
  have wr : wrapF .i64 ((j : Int) + 1) = ((j + 1 : Nat) : Int) := by rw [wr_i64 (by omega) (by omega)]; rfl
  rw [outN_cons] at hJ
  by_cases e1 : x.fr = (u : Int)
  ·rw [if_pos e1, hw] at hJ
   have wN : w < N := by omega
   have uN := hJ.uN
   have gw := gAt_get (xs := ds) (v := w) (by rw [hJ.dl]; exact wN)
   have gu := gAt_get (xs := ds) (v := u) (by rw [hJ.dl]; exact uN)
   have w0 : (0 : Int) ≤ w := by omega
   have u0 : (0 : Int) ≤ u := by omega
   have wi : (w : Int) < (N : Int) := by omega
   have ui : (u : Int) < (N : Int) := by omega
   have wn : ((w : Nat) : Int).toNat = w := rfl
   have un : ((u : Nat) : Int).toNat = u := rfl
   have B7 := r7.b
   have L7 := r7.lh
   by_cases e2 : gAt ds w < 0
   ·have hJ' := hJ.new (steps_fwd gr hN hr) wN e2
    have bu := hJ.bu
    have w1 : wrapF .i64 (gAt ds u + 1) = gAt ds u + 1 := wr_i64 (by omega) (by omega)
    let m1 : Mem := (m.bump 13).set k7 (some (.row 1 ((ds.set w (gAt ds u + 1)).map vi)))
    have em1 : (m.bump 13).set k7 (some (.row 1 ((ds.map vi).set w (vi (gAt ds u + 1))))) = m1 := by
     show _ = (m.bump 13).set k7 (some (.row 1 ((ds.set w (gAt ds u + 1)).map vi)))
     rw [List.map_set]
    have r7b : IR lo (m.bump 13) k7 ds := r7.mono (Nat.le_add_right _ _) rfl
    have r7' : IR lo m1 k7 (ds.set w (gAt ds u + 1)) := r7b.set _
    have hq' : Qs lo m1 b v qs := hq.mono (Nat.le_add_right _ _) (fun k hk' _ => set_ne (by omega))
    have n1 : m1.next = m.next + 13 := rfl
    clear_value m1
    obtain ⟨v', m2, q1, q2, q3, q4⟩ := hq'.push (by omega) (by have := hJ.len; omega) (w : Int)
    simp only [↓sxc, sx, se, ↓reduceIte, Nat.reduceEqDiff, Nat.reduceAdd, Nat.reduceLT, Nat.reduceLeDiff, Nat.reduceSub, Nat.reduceMul, Int.reduceToNat, Int.reduceLT, Int.reduceLE, Int.reduceEq, ml_i0, ↓smc, sm, this, hg, e1, hw, w0, u0, wi, ui, wn, un, B7, L7, gw, gu, e2, w1, em1, q1, wr, bump_blk]
    refine ih (j + 1) _ _ v' (m2.bump 1) Q hd' ?_ (r7'.mono ?_ (q4 k7 hk)) q2 hJ' (fun ds qs v m' e p1 p2 p3 p4 => hQ ds qs v m' e ?_ p2 p3 p4)
    ·show lo ≤ m2.next + 1; omega
    ·show m1.next ≤ m2.next + 1; omega
    ·have p1' : m2.next + 1 ≤ m'.next := p1
     omega
   ·have hJ' := hJ.old (by omega) ⟨w, rfl, wN⟩
    simp only [↓sxc, sx, se, ↓reduceIte, Nat.reduceEqDiff, Nat.reduceAdd, Nat.reduceLT, Nat.reduceLeDiff, Nat.reduceSub, Nat.reduceMul, Int.reduceToNat, Int.reduceLT, Int.reduceLE, Int.reduceEq, ml_i0, ↓smc, sm, this, hg, e1, hw, w0, u0, wi, ui, wn, un, B7, L7, gw, gu, e2, wr]
    exact ih (j + 1) ds qs v m Q hd' hm r7 hq hJ' hQ
  ·rw [if_neg e1] at hJ
   simp only [↓sxc, sx, se, ↓reduceIte, Nat.reduceEqDiff, Nat.reduceAdd, Nat.reduceLT, Nat.reduceLeDiff, Nat.reduceSub, Nat.reduceMul, Int.reduceToNat, Int.reduceLT, Int.reduceLE, Int.reduceEq, ml_i0, ↓smc, sm, this, hg, e1, wr]
   exact ih (j + 1) ds qs v m Q hd' hm r7 hq hJ hQ
theorem w109_3 {F : Nat → Option Fn} {lo : Nat} {n : Int} {N : Nat} {l : List Edge} (gr : Gr n l) (hN : n = N) (hN4 : N ≤ 4096) (hl : l.length < 100000) {root : Nat} (hr : root < N) (k7 b : Nat) (hk : k7 < b) :
  ∀ (r d : Nat) (ds qs : List Int) (v : V) (m : Mem) (Q : Ex → St → Prop), N ≤ d + r → lo ≤ m.next → IR lo m k7 ds → Qs lo m b v qs → BI N (outN l) (fun k v => Wk l k root v) root ds qs d →
  (∀ ds qs d m' e, m.next ≤ m'.next → IR lo m' k7 ds → BI N (outN l) (fun k v => Wk l k root v) root ds qs d → qs.length ≤ d → Q (.exit 2) ⟨(1, vEdges l) :: (7, .row 1 k7 0 N) :: e, [], [], m'⟩) →
  W F lo L109_3 ⟨[(1, vEdges l), (7, .row 1 k7 0 N), (9, v), (10, vi d)], [], [], m⟩ Q := by
 intro r
 induction r with
 | zero =>
  intro d ds qs v m Q hr' hm r7 hq hK hQ
  have hlen : retV (.len false) [v] = some (vi qs.length) := by rw [hq.rw.len, List.length_map]
  have hql := hK.len
  rw [W_L (c := L109_3) rfl]
  have : ¬ ((d : Nat) : Int) < (qs.length : Int) := by omega
  simp only [↓sxc, sx, se, ↓reduceIte, Nat.reduceEqDiff, Nat.reduceAdd, Nat.reduceLT, Nat.reduceLeDiff, Nat.reduceSub, Nat.reduceMul, Int.reduceToNat, Int.reduceLT, Int.reduceLE, Int.reduceEq, ml_i0, ↓smc, sm, hlen, this]
  exact hQ ds qs d m _ (Nat.le_refl _) r7 hK (by omega)
 | succ r ih =>
  intro d ds qs v m Q hr' hm r7 hq hK hQ
  have hql := hK.len
  rw [W_L (c := L109_3) rfl]
  by_cases hd : d < qs.length
  ·have hlt : ((d : Nat) : Int) < (qs.length : Int) := by omega
   obtain ⟨kq, rfl, q1, q2, q3, q4⟩ := hq.row (by intro h; rw [h] at hd; simp at hd)
   have hg : qs[d]? = some (qs[d]'hd) := List.getElem?_eq_getElem _
   obtain ⟨u, hu, huN⟩ := hK.rg _ (List.getElem_mem hd)
   rw [hu] at hg
   have hJ := hK.enter hg
   have wr : wrapF .i64 ((d : Int) + 1) = ((d + 1 : Nat) : Int) := by rw [wr_i64 (by omega) (by omega)]; rfl
   have c3 : (0 : Int) ≤ d := by omega
   have d2 : ((d : Nat) : Int).toNat = d := rfl
   simp only [↓sxc, sx, se, ↓reduceIte, Nat.reduceEqDiff, Nat.reduceAdd, Nat.reduceLT, Nat.reduceLeDiff, Nat.reduceSub, Nat.reduceMul, Int.reduceToNat, Int.reduceLT, Int.reduceLE, Int.reduceEq, ml_i0, ↓smc, sm, hlt, q4, hg, c3, d2]
   refine w109_2 gr hN hN4 hl hr k7 b d u hk (by omega) l 0 ds qs _ m _ rfl hm r7 hq hJ (fun ds qs v m' e p1 p2 p3 p4 => ?_)
   simp only [↓sxc, sx, se, ↓reduceIte, Nat.reduceEqDiff, Nat.reduceAdd, Nat.reduceLT, Nat.reduceLeDiff, Nat.reduceSub, Nat.reduceMul, Int.reduceToNat, Int.reduceLT, Int.reduceLE, Int.reduceEq, ml_i0, ↓smc, sm, wr]
   exact ih (d + 1) ds qs v m' Q (by omega) (by omega) p2 p3 p4.leave (fun ds qs d m2 e z1 z2 z3 z4 => hQ ds qs d m2 e (by omega) z2 z3 z4)
  ·have hlen : retV (.len false) [v] = some (vi qs.length) := by rw [hq.rw.len, List.length_map]
   have : ¬ ((d : Nat) : Int) < (qs.length : Int) := by omega
   simp only [↓sxc, sx, se, ↓reduceIte, Nat.reduceEqDiff, Nat.reduceAdd, Nat.reduceLT, Nat.reduceLeDiff, Nat.reduceSub, Nat.reduceMul, Int.reduceToNat, Int.reduceLT, Int.reduceLE, Int.reduceEq, ml_i0, ↓smc, sm, hlen, this]
   exact hQ ds qs d m _ (Nat.le_refl _) r7 hK (by omega)
theorem sp109 {F : Nat → Option Fn} (hG : HasG F) {lo : Nat} {m : Mem} {n : Int} {N : Nat} {l : List Edge} (gr : Gr n l) (hN : n = N) (hl : l.length < 100000) {root : Nat} (hr : root < N) : callw F 109 [vi n, vEdges l, vi root] lo m = some (ints (reachL N (dst l root)), m) := by
 have n4 := gr.n4
 have hN4 : N ≤ 4096 := by omega
 have loop1 : ∀ (r i : Nat) (v : V) (m' : Mem) (Q : Ex → St → Prop), i + r = N → m.next ≤ m'.next → Rw m.next m' 1 v ((List.replicate i (-1 : Int)).map vi) →
   (∀ v m' e, m.next ≤ m'.next → Rw m.next m' 1 v ((List.replicate N (-1 : Int)).map vi) → Q (.exit 0) ⟨(0, vi n) :: (1, vEdges l) :: (2, vi root) :: (7, v) :: e, [], [], m'⟩) →
   W F m.next L109_1 ⟨[(0, vi n), (1, vEdges l), (2, vi root), (7, v), (8, vi i)], [], [], m'⟩ Q := by
  intro r
  induction r with
  | zero =>
   intro i v m' Q hi hm hr hq
   rw [W_L (c := L109_1) rfl]
   have : ¬ ((i : Nat) : Int) < n := by omega
   simp only [↓sxc, sx, se, ↓reduceIte, Nat.reduceEqDiff, Nat.reduceAdd, Nat.reduceLT, Nat.reduceLeDiff, Nat.reduceSub, Nat.reduceMul, Int.reduceToNat, Int.reduceLT, Int.reduceLE, Int.reduceEq, ml_i0, ↓smc, sm, this]
   exact hq v m' _ hm (by rw [← show i = N by omega]; exact hr)
  | succ r ih =>
   intro i v m' Q hi hm hr hq
   rw [W_L (c := L109_1) rfl]
   have : ((i : Nat) : Int) < n := by omega
   have wr : wrapF .i64 ((i : Int) + 1) = ((i + 1 : Nat) : Int) := by rw [wr_i64 (by omega) (by omega)]; rfl
   obtain ⟨v', m'', hap, hr', hn, _⟩ := Rw.app (y := .lst false 1 [vi (-1)]) hr hm vw_lst (.inl rfl) (by simp [big]; omega)
   simp only [↓sxc, sx, se, ↓reduceIte, Nat.reduceEqDiff, Nat.reduceAdd, Nat.reduceLT, Nat.reduceLeDiff, Nat.reduceSub, Nat.reduceMul, Int.reduceToNat, Int.reduceLT, Int.reduceLE, Int.reduceEq, ml_i0, ↓smc, sm, this, hap, wr]
   refine ih (i + 1) v' (m''.bump 1) Q (by omega) ?_ (by rw [List.replicate_succ', List.map_append]; exact hr') hq
   show m.next ≤ m''.next + 1
   omega
 refine call_p hG.h109 rfl ?_
 simp only [↓sxc, sx, se, ↓reduceIte, Nat.reduceEqDiff, Nat.reduceAdd, Nat.reduceLT, Nat.reduceLeDiff, Nat.reduceSub, Nat.reduceMul, Int.reduceToNat, Int.reduceLT, Int.reduceLE, Int.reduceEq, ml_i0, ↓smc, sm]
 refine loop1 N 0 .nil m _ (by omega) (Nat.le_refl _) .nil (fun v m' e h1 h2 => ?_)
 rcases h2 with ⟨_, h3⟩ | ⟨k, rfl, k1, k2, k3⟩
 ·have : (List.map vi (List.replicate N (-1 : Int))).length = 0 := by rw [h3]; rfl
  simp at this
  omega
 ·simp only [List.length_map, List.length_replicate]
  have a0 : (0 : Int) ≤ root := by omega
  have ai : (root : Int) < (N : Int) := by omega
  have an : ((root : Nat) : Int).toNat = root := rfl
  have ga : (List.replicate N (-1 : Int))[root]? = some (-1) := by rw [List.getElem?_replicate_of_lt hr]
  let m1 : Mem := (m'.set m'.next (some (.row 1 [vi root]))).bump 1
  have n1 : m1.next = m'.next + 1 := rfl
  have b1 : m1.blk k = some (.row 1 ((List.replicate N (-1 : Int)).map vi)) := by rw [← k3]; exact set_ne (by omega)
  have qb : m1.blk m'.next = some (.row 1 [vi root]) := by show (m'.set m'.next _).blk m'.next = _; simp [Mem.set]
  have em1 : (m'.set m'.next (some (.row 1 [vi root]))).bump 1 = m1 := rfl
  clear_value m1
  let m2 : Mem := m1.set k (some (.row 1 (((List.replicate N (-1 : Int)).set root 0).map vi)))
  have em2 : m1.set k (some (.row 1 (((List.replicate N (-1 : Int)).map vi).set root (vi 0)))) = m2 := by
   show _ = m1.set k (some (.row 1 (((List.replicate N (-1 : Int)).set root 0).map vi)))
   rw [List.map_set]
  have r7 : IR m.next m2 k ((List.replicate N (-1 : Int)).set root 0) := ⟨k1, by show k < m1.next; omega, by show (m1.set k _).blk k = _; simp [Mem.set]⟩
  have q0 : Qs m.next m2 m'.next (.row 1 m'.next 0 1) [(root : Int)] := ⟨.inr ⟨m'.next, rfl, by omega, by show m'.next < m1.next; omega, (set_ne (by omega)).trans qb⟩, fun j hj => (by cases hj; exact Nat.le_refl _), by show m'.next ≤ m1.next; omega⟩
  have n2 : m2.next = m1.next := rfl
  clear_value m2
  have ga' : (List.map vi (List.replicate N (-1 : Int)))[root]? = some (vi (-1)) := by rw [List.getElem?_map, ga]; rfl
  simp only [↓sxc, sx, se, ↓reduceIte, Nat.reduceEqDiff, Nat.reduceAdd, Nat.reduceLT, Nat.reduceLeDiff, Nat.reduceSub, Nat.reduceMul, Int.reduceToNat, Int.reduceLT, Int.reduceLE, Int.reduceEq, ml_i0, ↓smc, sm, em1, b1, a0, ai, an, ga, ga', k1, em2]
  refine w109_3 gr hN hN4 hl hr k m'.next k2 N 0 _ [(root : Int)] _ m2 _ (by omega) (by omega) r7 q0 (.start (steps_fwd gr hN hr)) (fun ds qs d m3 e z1 z2 z3 z4 => ?_)
  have hd := z3.done (steps_fwd gr hN hr) z4
  have he : ds = reachL N (dst l root) := reachL_eq z3.dl hd
  subst he
  have fz := fz_ir (n := 6) z2.b z2.lh
  rw [reachL_len] at fz
  simp only [↓sxc, sx, se, ↓reduceIte, Nat.reduceEqDiff, Nat.reduceAdd, Nat.reduceLT, Nat.reduceLeDiff, Nat.reduceSub, Nat.reduceMul, Int.reduceToNat, Int.reduceLT, Int.reduceLE, Int.reduceEq, ml_i0, ↓smc, sm, fz]
end Go.Am
namespace Go.Am
open Go
set_option linter.unusedSimpArgs false
set_option linter.unusedVariables false
set_option maxRecDepth 100000
section
variable {F : Nat → Option Fn} {lo : Nat} {md : Option (Nat × Nat)} {ops : List Op} {e b a : Env} {m : Mem} {Q : St → Prop} {d : Nat}
noncomputable def cpV (lo : Nat) (m : Mem) (sz : Nat) (x y : V) : Option (V × Mem) :=
 match x with
 | .row s0 h' o l => if s0 = sz then
   match view m y with
   | none => none
   | some (s, xs) => if lo ≤ h' then
     match m.blk h' with
     | some (.row s' es) => if (s = sz ∨ xs.length = 0) ∧ s' = sz ∧ o + l ≤ es.length then
       some (.int .i64 (min l xs.length : Nat), m.set h' (some (.row s' (es.take o ++ xs.take (min l xs.length) ++ es.drop (o + min l xs.length)))))
      else none
     | _ => none
    else none
  else none
 | _ => none
theorem S_cpy {sz : Nat} {x y : O} : S F lo md (⟨.e d, .cpy sz, [x, y], none⟩ :: ops) ⟨e, b, a, m⟩ Q ↔ OC (getO ⟨e, b, a, m⟩ x) fun u => OC (getO ⟨e, b, a, m⟩ y) fun v => OC (cpV lo m sz u v) fun r => S F lo (nx md) ops ⟨(d, r.1) :: e, b, a, r.2⟩ Q := by
 rw [S_exec]
 simp only [gs_cons, gs_nil, K.allocs, bmp_false]
 cases getO ⟨e, b, a, m⟩ x with
 | none => simp [OC_none]
 | some u =>
  cases getO ⟨e, b, a, m⟩ y with
  | none => simp [OC_none, OC_some]
  | some v =>
   simp only [OC_some, plan, cpV]
   cases u <;> simp only [plan_cpy, OC_none]
   case row s0 h' o l =>
    by_cases hs : s0 = sz
    ·simp only [if_pos hs, OC_some, act]
     cases view m v with
     | none => simp [OC_none]
     | some q =>
      obtain ⟨s, xs⟩ := q
      simp only
      by_cases h : lo ≤ h'
      ·simp only [if_pos h]
       cases m.blk h' with
       | none => simp [OC_none]
       | some B =>
        cases B with
        | map _ => simp [OC_none]
        | row s' es =>
         simp only
         by_cases h2 : (s = sz ∨ xs.length = 0) ∧ s' = sz ∧ o + l ≤ es.length
         ·simp only [if_pos h2, OC_some, put]
         ·simp only [if_neg h2, OC_none]
      ·simp only [if_neg h, OC_none]
    ·simp only [if_neg hs, OC_none]
theorem cp_row {h' o l : Nat} {sz : Nat} {y : V} {xs es : List V} (hv : view m y = some (sz, xs)) (hl : lo ≤ h') (hB : m.blk h' = some (.row sz es)) (ho : o + l ≤ es.length) :
  cpV lo m sz (.row sz h' o l) y = some (.int .i64 (min l xs.length : Nat), m.set h' (some (.row sz (es.take o ++ xs.take (min l xs.length) ++ es.drop (o + min l xs.length))))) := by
 simp only [cpV, hv, if_true, if_pos hl, hB]
 rw [if_pos (by simpa using ho)]
end
theorem len_row {s h o l : Nat} : lenOf (.row s h o l) = some l := rfl
theorem wr_u64 {n : Int} (h1 : 0 ≤ n) (h2 : n ≤ 18446744073709551615) : wrapF .u64 n = n := by
 rw [wrapF_eq]
 exact IntWalk.u64_in n ⟨h1, h2⟩
theorem cv_u64 {n : Int} (h1 : 0 ≤ n) (h2 : n ≤ 18446744073709551615) : retV (.cvt .u64) [.int .i64 n] = some (.int .u64 n) := by
 rw [r_cvt, IntWalk.u64_in n ⟨h1, h2⟩]
theorem cv_i64 {n : Int} (h1 : 0 ≤ n) (h2 : n ≤ 9223372036854775807) : retV (.cvt .i64) [.int .u64 n] = some (.int .i64 n) := by
 rw [r_cvt, IntWalk.i64_in n ⟨by omega, h2⟩]
theorem shr32 {n : Int} (h1 : 0 ≤ n) (h2 : n ≤ 4294967295) : retV (.bin .shr) [.int .u64 n, .int .u64 32] = some (.int .u64 0) := by
 have e : n.fdiv (2 ^ (min (32 : Int).toNat 64)) = 0 := by
  rw [Int.fdiv_eq_ediv_of_nonneg _ (by decide)]
  exact Int.ediv_eq_zero_of_lt h1 (by show n < 4294967296; omega)
 show (match (binPlan .shr .u64 n .u64 32) with | some (.ret v) => some v | _ => none) = _
 simp only [binPlan, shrOp]
 rw [if_neg (by decide)]
 show some (V.int IntKind.u64 (n.fdiv (2 ^ (min (32 : Int).toNat 64)))) = _
 rw [e]
theorem and32 {n : Int} (h1 : 0 ≤ n) (h2 : n ≤ 4294967295) : retV (.bin .and) [.int .u64 n, .int .u64 4294967295] = some (.int .u64 n) := by
 rw [r_bin (by decide)]
 obtain ⟨k, rfl⟩ : ∃ k : Nat, n = k := ⟨n.toNat, by omega⟩
 have hk : k < 2 ^ 32 := by omega
 have e : ((BitVec.ofInt 64 (k : Int)) &&& (BitVec.ofInt 64 4294967295)).toNat = k := by
  rw [BitVec.toNat_and]
  have e1 : (BitVec.ofInt 64 (k : Int)).toNat = k := by
   rw [BitVec.toNat_ofInt]
   omega
  have e2 : (BitVec.ofInt 64 (4294967295 : Int)).toNat = 2 ^ 32 - 1 := by decide
  rw [e1, e2, Nat.and_two_pow_sub_one_eq_mod]
  exact Nat.mod_eq_of_lt hk
 show some (V.int IntKind.u64 (IntKind.u64.wrap (((BitVec.ofInt 64 (k : Int)) &&& (BitVec.ofInt 64 4294967295)).toNat : Int))) = _
 rw [e, IntWalk.u64_in _ ⟨by omega, by omega⟩]
theorem sp169 {F : Nat → Option Fn} (hG : HasG F) {lo : Nat} {m : Mem} {y : Int} (h1 : 0 ≤ y) (h2 : y ≤ 4294967295) : callw F 169 [.int .u64 1, .int .u64 y] lo m = some (.tup [.int .u64 0, .int .u64 y], m) := by
 have a1 := and32 (n := 1) (by omega) (by omega)
 have a2 := and32 h1 h2
 have a0 := and32 (n := 0) (by omega) (by omega)
 have s1 := shr32 (n := 1) (by omega) (by omega)
 have s2 := shr32 h1 h2
 have s0 := shr32 (n := 0) (by omega) (by omega)
 have w0 : wrapF .u64 0 = 0 := rfl
 have wy : wrapF .u64 y = y := wr_u64 h1 (by omega)
 refine call_p hG.h169 rfl ?_
 simp only [↓sxc, sx, se, ↓reduceIte, Nat.reduceEqDiff, Nat.reduceAdd, Nat.reduceLT, Nat.reduceLeDiff, Nat.reduceSub, Nat.reduceMul, Int.reduceToNat, Int.reduceLT, Int.reduceLE, Int.reduceEq, ml_i0, ↓smc, sm, a1, a2, a0, s1, s2, s0, w0, wy, Int.one_mul, Int.mul_one, Int.zero_mul, Int.mul_zero, Int.zero_add, Int.add_zero]
 rfl
theorem sp165 {F : Nat → Option Fn} (hG : HasG F) {lo : Nat} {m : Mem} {y : Int} (h1 : 0 ≤ y) (h2 : y ≤ 4294967295) : callw F 165 [.int .u64 1, .int .u64 y] lo m = some (.tup [.int .u64 0, .int .u64 y], m) := by
 have c1 : ∀ {lo m}, callw F 169 [.int .u64 1, .int .u64 y] lo m = some (.tup [.int .u64 0, .int .u64 y], m) := fun {lo m} => sp169 hG h1 h2
 refine call_p hG.h165 rfl ?_
 simp only [↓sxc, sx, se, ↓reduceIte, Nat.reduceEqDiff, Nat.reduceAdd, Nat.reduceLT, Nat.reduceLeDiff, Nat.reduceSub, Nat.reduceMul, Int.reduceToNat, Int.reduceLT, Int.reduceLE, Int.reduceEq, ml_i0, ↓smc, sm, c1]
 rfl
def fill (N j : Nat) : List Int := List.replicate j (-1) ++ List.replicate (N - j) 0
theorem fill_len {N j : Nat} (h : j ≤ N) : (fill N j).length = N := by simp [fill]; omega
theorem fill_take {N j : Nat} : (fill N j).take j = List.replicate j (-1) := by
 unfold fill
 rw [List.take_left' (by simp)]
theorem fill_drop {N j k : Nat} : (fill N j).drop (j + k) = List.replicate (N - j - k) 0 := by
 unfold fill
 rw [← List.drop_drop, List.drop_left' (by simp), List.drop_replicate]
theorem sp152 {F : Nat → Option Fn} (hG : HasG F) {lo : Nat} {m : Mem} {N h : Nat} (hN : 1 ≤ N) (hN4 : N ≤ 4096) (hlo : lo ≤ m.next) (hm : h < m.next) (hb : m.blk h = some (.row 1 [vi (-1)])) :
  ∃ v m', callw F 152 [.row 1 h 0 1, vi N] lo m = some (v, m') ∧ (v = .row 1 m.next 0 N ∧ m.next + 1 ≤ m'.next ∧ m'.blk m.next = some (.row 1 ((List.replicate N (-1 : Int)).map vi)) ∧ ∀ k, k < m.next → m'.blk k = m.blk k) := by
 have c1 : ∀ {lo m}, callw F 165 [.int .u64 1, .int .u64 N] lo m = some (.tup [.int .u64 0, .int .u64 N], m) := fun {lo m} => sp165 hG (by omega) (by omega)
 have loop : ∀ (r j : Nat) (m' : Mem) (Q : Ex → St → Prop), r = N - j → 1 ≤ j → j ≤ N → m.next + 1 ≤ m'.next → (∀ k, k < m.next → m'.blk k = m.blk k) → m'.blk m.next = some (.row 1 ((fill N j).map vi)) →
   (∀ m' e, m.next + 1 ≤ m'.next → (∀ k, k < m.next → m'.blk k = m.blk k) → m'.blk m.next = some (.row 1 ((List.replicate N (-1 : Int)).map vi)) → Q (.exit 0) ⟨(7, .row 1 m.next 0 N) :: e, [], [], m'⟩) →
   W F lo L152_1 ⟨[(7, .row 1 m.next 0 N), (8, vi j)], [], [], m'⟩ Q := by
  intro r
  induction r using Nat.strongRecOn with
  | ind r ih =>
   intro j m' Q hr h1 h2 h3 h4 h5 hq
   rw [W_L (c := L152_1) rfl]
   by_cases hj : j < N
   ·have c2 : ((j : Nat) : Int) < (N : Int) := by omega
    have c3 : (0 : Int) ≤ (j : Int) := by omega
    have c4 : ((j : Nat) : Int).toNat = j := rfl
    have c5 : (j ≤ N) = True := by simp [h2]
    have c6 : (N ≤ N) = True := by simp
    have hv : view (m'.bump 10) (.row 1 m.next 0 j) = some (1, (List.replicate j (-1 : Int)).map vi) := by
     rw [vw_row (m := m'.bump 10) (es := (fill N j).map vi) h5 (by simp [fill_len h2]; omega)]
     rw [List.drop_zero, ← List.map_take, fill_take]
    have hc := cp_row (lo := lo) (m := m'.bump 10) (h' := m.next) (o := j) (l := N - j) (sz := 1) hv hlo h5 (by simp [fill_len h2]; omega)
    have hlen : ((List.replicate j (-1 : Int)).map vi).length = j := by simp
    rw [hlen] at hc
    have hmin : 1 ≤ min (N - j) j ∧ min (N - j) j ≤ N - j ∧ min (N - j) j ≤ j := by omega
    generalize min (N - j) j = p at hc hmin
    have e1 : List.take j ((fill N j).map vi) ++ List.take p ((List.replicate j (-1 : Int)).map vi) ++ List.drop (j + p) ((fill N j).map vi) = (fill N (j + p)).map vi := by
     rw [← List.map_take, ← List.map_take, ← List.map_drop, fill_take, fill_drop, List.take_replicate, ← List.map_append, ← List.map_append]
     congr 1
     unfold fill
     rw [show min p j = p by omega, List.replicate_append_replicate, show N - j - p = N - (j + p) by omega]
    rw [e1] at hc
    have wr : wrapF .i64 ((j : Int) + (p : Int)) = ((j + p : Nat) : Int) := by rw [wr_i64 (by omega) (by omega)]; rfl
    simp only [↓sxc, sx, se, ↓reduceIte, Nat.reduceEqDiff, Nat.reduceAdd, Nat.reduceLT, Nat.reduceLeDiff, Nat.reduceSub, Nat.reduceMul, Int.reduceToNat, Int.reduceLT, Int.reduceLE, Int.reduceEq, ml_i0, ↓smc, sm, ↓S_cpy, c2, len_row, c3, c4, sl_row, c5, c6, hc, wr, W_dreg0]
    refine ih (N - (j + p)) (by omega) (j + p) _ Q rfl (by omega) (by omega) ?_ (fun k hk => ?_) ?_ hq
    ·show m.next + 1 ≤ m'.next + 10
     omega
    ·rw [set_ne (by omega)]
     exact h4 k hk
    ·simp [Mem.set]
   ·have c2 : ¬ ((j : Nat) : Int) < (N : Int) := by omega
    have hjN : j = N := by omega
    subst hjN
    have e1 : fill j j = List.replicate j (-1) := by unfold fill; simp
    rw [e1] at h5
    simp only [↓sxc, sx, se, ↓reduceIte, Nat.reduceEqDiff, Nat.reduceAdd, Nat.reduceLT, Nat.reduceLeDiff, Nat.reduceSub, Nat.reduceMul, Int.reduceToNat, Int.reduceLT, Int.reduceLE, Int.reduceEq, ml_i0, ↓smc, sm, c2]
    exact hq m' _ h3 h4 h5
 refine call_x hG.h152 rfl ?_
 have n1 : ¬ ((N : Nat) : Int) < 0 := by omega
 have n2 : ¬ (9223372036854775807 : Int) < (N : Int) := by omega
 have n3 : ¬ (0 : Int) < 0 := by omega
 have b1 : 0 ≤ ((N : Nat) : Int) ∧ ((N : Nat) : Int) < big := by simp [big]; omega
 have v1 : retV (.cvt .u64) [.int .i64 ((1 : Nat) : Int)] = some (.int .u64 1) := cv_u64 (by omega) (by omega)
 have v2 : retV (.cvt .u64) [.int .i64 (N : Int)] = some (.int .u64 N) := cv_u64 (by omega) (by omega)
 have v3 : retV (.cvt .i64) [.int .u64 (N : Int)] = some (.int .i64 N) := cv_i64 (by omega) (by omega)
 have tn : ((N : Nat) : Int).toNat = N := rfl
 let m1 : Mem := (m.set m.next (some (.row 1 (List.replicate N (vi 0))))).bump 1
 have em1 : (m.set m.next (some (.row 1 (List.replicate N (vi 0))))).bump 1 = m1 := rfl
 have f1 : ∀ k, k < m.next → m1.blk k = m.blk k := fun k hk => set_ne (by omega)
 have b2 : m1.blk m.next = some (.row 1 (List.replicate N (vi 0))) := by show (m.set m.next _).blk m.next = _; simp [Mem.set]
 have n4 : m1.next = m.next + 1 := rfl
 clear_value m1
 have hv : view m1 (.row 1 h 0 1) = some (1, [vi (-1)]) := by
  rw [vw_row (by rw [f1 h hm]; exact hb) (by simp)]
  rfl
 have hc := cp_row (lo := lo) (m := m1) (h' := m.next) (o := 0) (l := N) (sz := 1) hv hlo b2 (by simp)
 have e1 : min N ([vi (-1)] : List V).length = 1 := by simp; omega
 rw [e1] at hc
 have e2 : List.take 0 (List.replicate N (vi 0)) ++ List.take 1 [vi (-1)] ++ List.drop (0 + 1) (List.replicate N (vi 0)) = (fill N 1).map vi := by
  unfold fill
  rw [List.drop_replicate]
  simp
 rw [e2] at hc
 simp only [↓sxc, sx, se, ↓reduceIte, Nat.reduceEqDiff, Nat.reduceAdd, Nat.reduceLT, Nat.reduceLeDiff, Nat.reduceSub, Nat.reduceMul, Int.reduceToNat, Int.reduceLT, Int.reduceLE, Int.reduceEq, ml_i0, ↓smc, sm, ↓S_cpy, n1, v1, v2, c1, n2, n3, v3, b1, tn, em1, hc, ml_i0]
 refine loop (N - 1) 1 _ _ rfl (Nat.le_refl _) hN ?_ (fun k hk => ?_) ?_ (fun m' e q1 q2 q3 => ?_)
 ·show m.next + 1 ≤ m1.next
  omega
 ·rw [set_ne (by omega)]
  exact f1 k hk
 ·simp [Mem.set]
 ·simp only [↓sxc, sx, se, ↓reduceIte, Nat.reduceEqDiff, Nat.reduceAdd, Nat.reduceLT, Nat.reduceLeDiff, Nat.reduceSub, Nat.reduceMul, Int.reduceToNat, Int.reduceLT, Int.reduceLE, Int.reduceEq, ml_i0, ↓smc, sm, PX_ret, PX_nrm]
  exact ⟨q1, q3, q2⟩
end Go.Am
namespace Go.Am
open Go
set_option linter.unusedSimpArgs false
set_option linter.unusedVariables false
set_option maxRecDepth 100000
structure Qo (lo : Nat) (m : Mem) (b : Nat) (v : V) (xs : List Int) : Prop where
 ex : ∃ k o es, v = .row 1 k o xs.length ∧ lo ≤ k ∧ b ≤ k ∧ k < m.next ∧ m.blk k = some (.row 1 es) ∧ es.drop o = xs.map vi ∧ o + xs.length = es.length
theorem Qo.push {lo b : Nat} {m : Mem} {v : V} {xs : List Int} (H : Qo lo m b v xs) (hlo : lo ≤ m.next) (hb : xs.length < 1000000) (x : Int) :
  ∃ v' m', apV lo m.next m 1 v (.lst false 1 [vi x]) = some (v', m') ∧ Qo lo (m'.bump 1) b v' (xs ++ [x]) ∧ m'.next = m.next ∧ ∀ k, k < b → m'.blk k = m.blk k := by
 obtain ⟨k, o, es, rfl, h1, h2, h3, h4, h5, h6⟩ := H.ex
 have ha := ap_row (m := m) (lo := lo) (h := m.next) (h' := k) (o := o) (l := xs.length) (sz := 1) (s := 1) (y := .lst false 1 [vi x]) (xs := [vi x]) (es := es) vw_lst h1 (.inl rfl) (by simp [big]; omega) h4 (by omega)
 have e1 : (es.drop o).take xs.length ++ [vi x] = (xs ++ [x]).map vi := by
  rw [h5, List.take_of_length_le (by simp), List.map_append]
  rfl
 have e2 : xs.length + [vi x].length = (xs ++ [x]).length := by simp
 rw [e1, e2] at ha
 refine ⟨_, _, ha, ⟨m.next, 0, _, rfl, hlo, by omega, Nat.lt_succ_self _, by simp [Mem.bump, Mem.set], rfl, by simp⟩, rfl, fun j hj => ?_⟩
 rw [set_ne (by omega), set_ne (by omega)]
theorem Qo.mono {lo b : Nat} {m m' : Mem} {v : V} {xs : List Int} (H : Qo lo m b v xs) (hn : m.next ≤ m'.next) (hb : ∀ k, b ≤ k → k < m.next → m'.blk k = m.blk k) : Qo lo m' b v xs := by
 obtain ⟨k, o, es, rfl, h1, h2, h3, h4, h5, h6⟩ := H.ex
 exact ⟨k, o, es, rfl, h1, h2, by omega, by rw [hb k h2 h3]; exact h4, h5, h6⟩
theorem Qo.tail {lo b : Nat} {m : Mem} {v : V} {x : Int} {xs : List Int} (H : Qo lo m b v (x :: xs)) : ∃ v', retV (.sl 1 true false false) [v, vi 1] = some v' ∧ Qo lo m b v' xs := by
 obtain ⟨k, o, es, rfl, h1, h2, h3, h4, h5, h6⟩ := H.ex
 refine ⟨.row 1 k (o + 1) xs.length, ?_, ⟨k, o + 1, es, rfl, h1, h2, h3, h4, ?_, ?_⟩⟩
 ·rw [r_sl_l, len_row]
  simp only
  rw [if_pos (by decide), sl_row, if_pos ⟨by show 1 ≤ xs.length + 1; omega, Nat.le_refl _, rfl⟩]
  rfl
 ·rw [← List.drop_drop, h5]
  rfl
 ·simp at h6
  omega
theorem Qo.len {lo b : Nat} {m : Mem} {v : V} {xs : List Int} (H : Qo lo m b v xs) : retV (.len false) [v] = some (vi xs.length) := by
 obtain ⟨k, o, es, rfl, _⟩ := H.ex
 rfl
theorem Qo.head {lo b : Nat} {m : Mem} {v : V} {x : Int} {xs : List Int} (H : Qo lo m b v (x :: xs)) : ∃ k o es, v = .row 1 k o (xs.length + 1) ∧ m.blk k = some (.row 1 es) ∧ es[o]? = some (vi x) ∧ b ≤ k := by
 obtain ⟨k, o, es, rfl, h1, h2, h3, h4, h5, h6⟩ := H.ex
 refine ⟨k, o, es, rfl, h4, ?_, h2⟩
 have : (es.drop o)[0]? = some (vi x) := by rw [h5]; rfl
 rw [List.getElem?_drop] at this
 exact this
def frAt (l : List Edge) (i : Int) : Int := match l[i.toNat]? with
 | some e => e.fr
 | none => 0
theorem buck_ix {key : Edge → Int} {l : List Edge} {w : Int} : ∀ {p : List Edge} {k : Nat}, (∀ j, p[j]? = l[k + j]?) → (buck key ixV p k w).map (frAt l) = buck key frV p k w
 | [], _, _ => rfl
 | e :: p, k, h => by
  have h0 : l[k]? = some e := by
   have := h 0
   simpa using this.symm
  have ih := buck_ix (key := key) (l := l) (w := w) (p := p) (k := k + 1) (fun j => by
   have := h (j + 1)
   rw [show k + 1 + j = k + (j + 1) by omega, ← this]
   rfl)
  rw [buck, buck, List.map_append, ih]
  congr 1
  split
  ·simp only [List.map_cons, List.map_nil, ixV, frV, frAt, Int.toNat_natCast, h0]
  ·rfl
theorem buck_ix_mem {key : Edge → Int} {l : List Edge} {w i : Int} : ∀ {p : List Edge} {k : Nat}, (∀ j, p[j]? = l[k + j]?) → i ∈ buck key ixV p k w → ∃ j e, i = ((j : Nat) : Int) ∧ l[j]? = some e ∧ key e = w
 | [], _, _, h => by simp [buck] at h
 | e :: p, k, h, hi => by
  have h0 : l[k]? = some e := by
   have := h 0
   simpa using this.symm
  rw [buck, List.mem_append] at hi
  rcases hi with hi | hi
  ·split at hi
   ·rename_i hk
    simp only [List.mem_singleton, ixV] at hi
    exact ⟨k, e, hi, h0, hk⟩
   ·simp at hi
  ·exact buck_ix_mem (p := p) (k := k + 1) (fun j => by
    have := h (j + 1)
    rw [show k + 1 + j = k + (j + 1) by omega, ← this]
    rfl) hi
theorem steps_bwd {n : Int} {N : Nat} {l : List Edge} (gr : Gr n l) (hN : n = N) {root : Nat} (hr : root < N) : Steps N (inL l) (fun k v => Wk l k v root) root := by
 refine ⟨hr, fun v => Iff.rfl, fun k v => ?_, fun x y hy => ?_⟩
 ·constructor
  ·rintro ⟨e, he, h1, h2⟩
   exact ⟨e.to, h2, by rw [← h1]; exact inL_mem he⟩
  ·rintro ⟨x, h1, h2⟩
   obtain ⟨e, he, h3, h4⟩ := mem_inL h2
   exact ⟨e, he, h3, by rw [h4]; exact h1⟩
 ·obtain ⟨e, he, h3, h4⟩ := mem_inL hy
  obtain ⟨a, b, h1, h2, h5, h6⟩ := gr.e e he
  exact ⟨a, by omega, by omega⟩
theorem dst_bwd {l : List Edge} {v w : Int} : dist (fun k v => Wk l k v w) v = dst l v w := dist_eq (dist_spec (P := fun k y => Wk l k v y) (v := w))
theorem w105_1 {F : Nat → Option Fn} {lo : Nat} {n : Int} {N : Nat} {l : List Edge} (gr : Gr n l) (hN : n = N) (hN4 : N ≤ 4096) (hl : l.length < 100000) {root : Nat} (hr : root < N) (k9 b kw d u : Nat) (hk : k9 < b) (hkb : kw < b) (hkk : kw ≠ k9) (hd4 : d < N) (L : List Int) (hL : L = buck Edge.to ixV l 0 u) (u2 w : V) (hw : L ≠ [] → w = .row 1 kw 0 L.length) :
  ∀ (t : List Int) (i : Nat) (ds qs : List Int) (v : V) (m : Mem) (Q : Ex → St → Prop), L.drop i = t → lo ≤ m.next → IR lo m k9 ds → Qo lo m b v (qs.drop d) → (L ≠ [] → m.blk kw = some (.row 1 (L.map vi))) → BJ N (inL l) (fun k v => Wk l k v root) root ds qs d u (t.map (frAt l)) →
  (∀ ds qs v m' e, m.next ≤ m'.next → IR lo m' k9 ds → Qo lo m' b v (qs.drop d) → BJ N (inL l) (fun k v => Wk l k v root) root ds qs d u [] → (∀ k, k < b → k ≠ k9 → m'.blk k = m.blk k) → Q (.exit 2) ⟨(1, vEdges l) :: (2, u2) :: (9, .row 1 k9 0 N) :: (10, v) :: e, [], [], m'⟩) →
  W F lo L105_1 ⟨[(1, vEdges l), (2, u2), (9, .row 1 k9 0 N), (10, v), (32, w), (33, vi L.length), (34, vi i)], [], [], m⟩ Q := by
 intro t
 induction t with
 | nil =>
  intro i ds qs v m Q hd hm r9 hq hb hJ hQ
  have hlt := drop_nil hd
  rw [W_L (c := L105_1) rfl]
  have : ¬ ((i : Nat) : Int) < (L.length : Int) := by omega
  simp only [↓sxc, sx, se, ↓reduceIte, Nat.reduceEqDiff, Nat.reduceAdd, Nat.reduceLT, Nat.reduceLeDiff, Nat.reduceSub, Nat.reduceMul, Int.reduceToNat, Int.reduceLT, Int.reduceLE, Int.reduceEq, ml_i0, ↓smc, sm, this]
  exact hQ ds qs v m _ (Nat.le_refl _) r9 hq hJ (fun _ _ _ => rfl)
 | cons x t ih =>
  intro i ds qs v m Q hd hm r9 hq hb hJ hQ
  obtain ⟨hg, hd', hlt⟩ := drop_cons hd
  have hLl : L.length ≤ l.length := by rw [hL]; exact buck_len
  have hLn : L ≠ [] := by intro h; rw [h] at hlt; simp at hlt
  obtain ⟨j, e, rfl, hje, hto⟩ := buck_ix_mem (p := l) (k := 0) (fun j => by rw [Nat.zero_add]) (by rw [← hL]; exact List.mem_of_getElem? hg)
  obtain ⟨a, w2, ha, hw2, ha2, hb2⟩ := gr.e e (List.mem_of_getElem? hje)
  have efr : frAt l (j : Int) = (a : Int) := by simp only [frAt, Int.toNat_natCast, hje, ha]
  have wv := hw hLn
  subst wv
  have bw := hb hLn
  rw [List.map_cons, efr] at hJ
  rw [W_L (c := L105_1) rfl]
  have c0 : ((i : Nat) : Int) < (L.length : Int) := by omega
  have c1 : ((a : Nat) : Int) < (N : Int) := by omega
  have aN : a < N := by omega
  have uN := hJ.uN
  have c2 : ((u : Nat) : Int) < (N : Int) := by omega
  have i0 : (0 : Int) ≤ i := by omega
  have j0 : (0 : Int) ≤ j := by omega
  have a0 : (0 : Int) ≤ a := by omega
  have u0 : (0 : Int) ≤ u := by omega
  have in_ : ((i : Nat) : Int).toNat = i := rfl
  have jn : ((j : Nat) : Int).toNat = j := rfl
  have an : ((a : Nat) : Int).toNat = a := rfl
  have un : ((u : Nat) : Int).toNat = u := rfl
  have wr : wrapF .i64 ((i : Int) + 1) = ((i + 1 : Nat) : Int) := by rw [wr_i64 (by omega) (by omega)]; rfl
  have ga := gAt_get (xs := ds) (v := a) (by rw [hJ.dl]; exact aN)
  have gu := gAt_get (xs := ds) (v := u) (by rw [hJ.dl]; exact uN)
  have B9 := r9.b
  have L9 := r9.lh
  by_cases e2 : gAt ds a < 0
  ·have hJ' := hJ.new (steps_bwd gr hN hr) aN e2
   have bu := hJ.bu
   have hdl := (List.getElem?_eq_some_iff.1 hJ.uq).1
   have hqd : qs.drop d = (u : Int) :: qs.drop (d + 1) := by
    have := hJ.uq
    rw [List.getElem?_eq_getElem hdl] at this
    rw [List.drop_eq_getElem_cons hdl, Option.some.inj this]
   have hq0 := hq
   rw [hqd] at hq0
   obtain ⟨kq, oq, eq, rfl, q1, q2, q3⟩ := hq0.head
   have w1 : wrapF .i64 (gAt ds u + 1) = gAt ds u + 1 := wr_i64 (by omega) (by omega)
   let m1 : Mem := m.set k9 (some (.row 1 ((ds.set a (gAt ds u + 1)).map vi)))
   have em1 : m.set k9 (some (.row 1 ((ds.map vi).set a (vi (gAt ds u + 1))))) = m1 := by
    show _ = m.set k9 (some (.row 1 ((ds.set a (gAt ds u + 1)).map vi)))
    rw [List.map_set]
   have r9' : IR lo m1 k9 (ds.set a (gAt ds u + 1)) := r9.set _
   have hq' : Qo lo m1 b _ (qs.drop d) := hq.mono (Nat.le_refl _) (fun k hk' _ => set_ne (by omega))
   have n1 : m1.next = m.next := rfl
   have f1 : ∀ k, k ≠ k9 → m1.blk k = m.blk k := fun k hk => set_ne hk
   clear_value m1
   obtain ⟨v', m2, p1, p2, p3, p4⟩ := hq'.push (by omega) (by have := hJ.len; simp; omega) (a : Int)
   have c3 : (0 : Int) < ((qs.drop (d + 1)).length + 1 : Nat) := by omega
   have c4 : (0 : Int).toNat = 0 := rfl
   have e5 : qs.drop d ++ [(a : Int)] = (qs ++ [(a : Int)]).drop d := by rw [List.drop_append_of_le_length (by omega)]
   rw [e5] at p2
   rw [n1] at p1
   simp only [↓sxc, sx, se, ↓reduceIte, Nat.reduceEqDiff, Nat.reduceAdd, Nat.reduceLT, Nat.reduceLeDiff, Nat.reduceSub, Nat.reduceMul, Int.reduceToNat, Int.reduceLT, Int.reduceLE, Int.reduceEq, ml_i0, ↓smc, sm, c0, c1, c2, i0, j0, a0, u0, in_, jn, an, un, hg, bw, hje, ha, B9, L9, ga, gu, e2, q1, q2, c3, c4, w1, em1, n1, p1, wr, Nat.add_zero]
   refine ih (i + 1) _ _ v' (m2.bump 1) Q hd' ?_ (r9'.mono ?_ (p4 k9 hk)) p2 (fun h => ?_) hJ' (fun ds qs v m' e z1 z2 z3 z4 z5 => hQ ds qs v m' e ?_ z2 z3 z4 (fun k h1 h2 => ?_))
   ·show lo ≤ m2.next + 1; omega
   ·show m1.next ≤ m2.next + 1; omega
   ·show m2.blk kw = _
    rw [p4 kw hkb, f1 kw hkk]
    exact bw
   ·have z1' : m2.next + 1 ≤ m'.next := z1
    omega
   ·rw [z5 k h1 h2]
    show m2.blk k = _
    rw [p4 k h1, f1 k h2]
  ·have hJ' := hJ.old (by omega) ⟨a, rfl, aN⟩
   simp only [↓sxc, sx, se, ↓reduceIte, Nat.reduceEqDiff, Nat.reduceAdd, Nat.reduceLT, Nat.reduceLeDiff, Nat.reduceSub, Nat.reduceMul, Int.reduceToNat, Int.reduceLT, Int.reduceLE, Int.reduceEq, ml_i0, ↓smc, sm, c0, c1, c2, i0, j0, a0, u0, in_, jn, an, un, hg, bw, hje, ha, B9, L9, ga, gu, e2, wr]
   exact ih (i + 1) ds qs v m Q hd' hm r9 hq hb hJ' hQ
theorem w105_2 {F : Nat → Option Fn} {lo lo0 : Nat} {n : Int} {N : Nat} {l : List Edge} (gr : Gr n l) (hN : n = N) (hN4 : N ≤ 4096) (hl : l.length < 100000) {root : Nat} (hr : root < N) (k9 b h8 q8 : Nat) (hk : k9 < b) (m0 : Mem) (h09 : m0.next ≤ k9) {es : List V} (H : NestB lo0 m0 h8 q8 (bucks Edge.to ixV N l) es) :
  ∀ (r d : Nat) (ds qs : List Int) (v : V) (m : Mem) (Q : Ex → St → Prop), N ≤ d + r → lo ≤ m.next → IR lo m k9 ds → Qo lo m b v (qs.drop d) → BI N (inL l) (fun k v => Wk l k v root) root ds qs d → (∀ k, k < m0.next → m.blk k = m0.blk k) →
  (∀ ds qs d m' e, m.next ≤ m'.next → IR lo m' k9 ds → BI N (inL l) (fun k v => Wk l k v root) root ds qs d → qs.length ≤ d → Q (.exit 0) ⟨(1, vEdges l) :: (2, .row 1 h8 0 N) :: (9, .row 1 k9 0 N) :: e, [], [], m'⟩) →
  W F lo L105_2 ⟨[(1, vEdges l), (2, .row 1 h8 0 N), (9, .row 1 k9 0 N), (10, v)], [], [], m⟩ Q := by
 intro r
 induction r with
 | zero =>
  intro d ds qs v m Q hr' hm r9 hq hK hf hQ
  have hql := hK.len
  have hlen : retV (.len false) [v] = some (vi 0) := by rw [hq.len]; simp; omega
  rw [W_L (c := L105_2) rfl]
  have : ¬ (0 : Int) < 0 := by omega
  simp only [↓sxc, sx, se, ↓reduceIte, Nat.reduceEqDiff, Nat.reduceAdd, Nat.reduceLT, Nat.reduceLeDiff, Nat.reduceSub, Nat.reduceMul, Int.reduceToNat, Int.reduceLT, Int.reduceLE, Int.reduceEq, ml_i0, ↓smc, sm, hlen, this]
  exact hQ ds qs d m _ (Nat.le_refl _) r9 hK (by omega)
 | succ r ih =>
  intro d ds qs v m Q hr' hm r9 hq hK hf hQ
  have hql := hK.len
  rw [W_L (c := L105_2) rfl]
  by_cases hd : d < qs.length
  ·have hlen := hq.len
   have hlt : (0 : Int) < ((qs.drop d).length : Int) := by simp; omega
   have hg : qs[d]? = some (qs[d]'hd) := List.getElem?_eq_getElem _
   obtain ⟨u, hu, huN⟩ := hK.rg _ (List.getElem_mem hd)
   rw [hu] at hg
   have hJ := hK.enter hg
   have hqd : qs.drop d = (u : Int) :: qs.drop (d + 1) := by
    rw [List.drop_eq_getElem_cons hd, hu]
   have hq0 := hq
   rw [hqd] at hq0
   obtain ⟨kq, oq, eq, rfl, q1, q2, q3⟩ := hq0.head
   have c1 : ((u : Nat) : Int) < (N : Int) := by omega
   have u0 : (0 : Int) ≤ u := by omega
   have un : ((u : Nat) : Int).toNat = u := rfl
   have c3 : (0 : Int) < ((qs.drop (d + 1)).length + 1 : Nat) := by omega
   have c4 : (0 : Int).toNat = 0 := rfl
   have b8 : m.blk h8 = some (.row 1 es) := by rw [hf h8 H.hm]; exact H.bh
   have hel : u < es.length := by rw [H.ln, bucks_len]; exact huN
   have hes : es[u]? = some es[u] := List.getElem?_eq_getElem hel
   have hvw := H.view hes (bucks_get (key := Edge.to) (val := ixV) (l := l) huN)
   generalize es[u] = w at hes hvw
   have hlw : retV (.len false) [w] = some (vi (buck Edge.to ixV l 0 u).length) := by
    rcases hvw with ⟨rfl, h2⟩ | ⟨rfl, _⟩
    ·rw [h2]; rfl
    ·rfl
   obtain ⟨kw, hkw1, hkw2⟩ : ∃ kw, kw < m0.next ∧ (buck Edge.to ixV l 0 u ≠ [] → w = .row 1 kw 0 (buck Edge.to ixV l 0 u).length ∧ m0.blk kw = some (.row 1 ((buck Edge.to ixV l 0 u).map vi))) := by
    rcases hvw with ⟨_, h2⟩ | ⟨h1, h2, _, _, h3⟩
    ·exact ⟨h8, H.hm, fun h => absurd h2 h⟩
    ·exact ⟨_, h2, fun _ => ⟨h1, h3⟩⟩
   have hcw : w.cells[0]? = some w := by
    rcases hvw with ⟨rfl, h2⟩ | ⟨rfl, _⟩ <;> rfl
   have hJ2 : BJ N (inL l) (fun k v => Wk l k v root) root ds qs d u ((buck Edge.to ixV l 0 u).map (frAt l)) := by
    rw [buck_ix (fun j => by rw [Nat.zero_add])]
    exact hJ
   simp only [↓sxc, sx, se, ↓reduceIte, Nat.reduceEqDiff, Nat.reduceAdd, Nat.reduceLT, Nat.reduceLeDiff, Nat.reduceSub, Nat.reduceMul, Int.reduceToNat, Int.reduceLT, Int.reduceLE, Int.reduceEq, ml_i0, ↓smc, sm, hlt, q1, q2, c1, u0, un, c3, c4, b8, hes, hcw, hlw, Nat.add_zero]
   refine w105_1 gr hN hN4 hl hr k9 b kw d u hk (by omega) (by omega) (by omega) _ rfl _ w (fun hn => (hkw2 hn).1) _ 0 ds qs _ m _ rfl hm r9 hq (fun hn => by rw [hf kw hkw1]; exact (hkw2 hn).2) hJ2 (fun ds qs v m' e p1 p2 p3 p4 p5 => ?_)
   ·have hd2 := (List.getElem?_eq_some_iff.1 p4.uq).1
    have hqd2 : qs.drop d = (u : Int) :: qs.drop (d + 1) := by
     have := p4.uq
     rw [List.getElem?_eq_getElem hd2] at this
     rw [List.drop_eq_getElem_cons hd2, Option.some.inj this]
    rw [hqd2] at p3
    obtain ⟨v', s1, s2⟩ := p3.tail
    simp only [↓sxc, sx, se, ↓reduceIte, Nat.reduceEqDiff, Nat.reduceAdd, Nat.reduceLT, Nat.reduceLeDiff, Nat.reduceSub, Nat.reduceMul, Int.reduceToNat, Int.reduceLT, Int.reduceLE, Int.reduceEq, ml_i0, ↓smc, sm, s1]
    refine ih (d + 1) ds qs v' m' Q (by omega) (by omega) p2 s2 p4.leave (fun k hk => ?_) (fun ds qs d m2 e z1 z2 z3 z4 => hQ ds qs d m2 e (by omega) z2 z3 z4)
    rw [p5 k (by omega) (by omega)]
    exact hf k hk
  ·have hlen : retV (.len false) [v] = some (vi 0) := by rw [hq.len]; simp; omega
   have : ¬ (0 : Int) < 0 := by omega
   simp only [↓sxc, sx, se, ↓reduceIte, Nat.reduceEqDiff, Nat.reduceAdd, Nat.reduceLT, Nat.reduceLeDiff, Nat.reduceSub, Nat.reduceMul, Int.reduceToNat, Int.reduceLT, Int.reduceLE, Int.reduceEq, ml_i0, ↓smc, sm, hlen, this]
   exact hQ ds qs d m _ (Nat.le_refl _) r9 hK (by omega)
theorem sp105 {F : Nat → Option Fn} (hG : HasG F) {lo lo0 : Nat} {m : Mem} {n : Int} {N : Nat} {l : List Edge} (gr : Gr n l) (hN : n = N) (hl : l.length < 100000) {root : Nat} (hr : root < N) {h8 q8 : Nat} {es : List V} (H : NestB lo0 m h8 q8 (bucks Edge.to ixV N l) es) :
  callw F 105 [vi n, vEdges l, .row 1 h8 0 N, vi root] lo m = some (ints (reachL N (fun v => dst l v root)), m) := by
 have n4 := gr.n4
 have hN4 : N ≤ 4096 := by omega
 subst hN
 let m1 : Mem := (m.set m.next (some (.row 1 [vi (-1)]))).bump 1
 have em1 : (m.set m.next (some (.row 1 [vi (-1)]))).bump 1 = m1 := rfl
 have n1 : m1.next = m.next + 1 := rfl
 have f1 : ∀ k, k < m.next → m1.blk k = m.blk k := fun k hk => set_ne (by omega)
 have b1 : m1.blk m.next = some (.row 1 [vi (-1)]) := by show (m.set m.next _).blk m.next = _; simp [Mem.set]
 clear_value m1
 obtain ⟨v, m2, s1, rfl, s2, s3, s4⟩ := sp152 hG (lo := m.next) (m := m1) (N := N) (h := m.next) (by omega) hN4 (by omega) (by omega) b1
 rw [n1] at s1 s2 s3
 let m3 : Mem := m2.set (m.next + 1) (some (.row 1 (((List.replicate N (-1 : Int)).set root 0).map vi)))
 have em3 : m2.set (m.next + 1) (some (.row 1 (((List.replicate N (-1 : Int)).map vi).set root (vi 0)))) = m3 := by
  show _ = m2.set (m.next + 1) (some (.row 1 (((List.replicate N (-1 : Int)).set root 0).map vi)))
  rw [List.map_set]
 have n3 : m3.next = m2.next := rfl
 have f3 : ∀ k, k < m.next → m3.blk k = m.blk k := fun k hk => by
  rw [← f1 k hk, ← s4 k (by omega)]
  exact set_ne (by omega)
 have b3 : m3.blk (m.next + 1) = some (.row 1 (((List.replicate N (-1 : Int)).set root 0).map vi)) := by show (m2.set _ _).blk _ = _; simp [Mem.set]
 clear_value m3
 let m4 : Mem := (m3.set m3.next (some (.row 1 [vi root]))).bump 1
 have em4 : (m3.set m3.next (some (.row 1 [vi root]))).bump 1 = m4 := rfl
 have n5 : m4.next = m3.next + 1 := rfl
 have f4 : ∀ k, k < m3.next → m4.blk k = m3.blk k := fun k hk => set_ne (by omega)
 have b4 : m4.blk m3.next = some (.row 1 [vi root]) := by show (m3.set m3.next _).blk m3.next = _; simp [Mem.set]
 clear_value m4
 have a0 : (0 : Int) ≤ root := by omega
 have ai : (root : Int) < (N : Int) := by omega
 have an : ((root : Nat) : Int).toNat = root := rfl
 have ga : (List.replicate N (-1 : Int))[root]? = some (-1) := by rw [List.getElem?_replicate_of_lt hr]
 have ga' : (List.map vi (List.replicate N (-1 : Int)))[root]? = some (vi (-1)) := by rw [List.getElem?_map, ga]; rfl
 have c1 : m.next ≤ m.next + 1 := by omega
 refine call_p hG.h105 rfl ?_
 simp only [↓sxc, sx, se, ↓reduceIte, Nat.reduceEqDiff, Nat.reduceAdd, Nat.reduceLT, Nat.reduceLeDiff, Nat.reduceSub, Nat.reduceMul, Int.reduceToNat, Int.reduceLT, Int.reduceLE, Int.reduceEq, ml_i0, ↓smc, sm, em1, s1, s3, a0, ai, an, ga, ga', c1, em3, em4]
 have r9 : IR m.next m4 (m.next + 1) ((List.replicate N (-1 : Int)).set root 0) := ⟨by omega, by omega, by rw [f4 _ (by omega)]; exact b3⟩
 refine w105_2 gr rfl hN4 hl hr (m.next + 1) (m.next + 2) h8 q8 (by omega) m (by omega) H N 0 _ [(root : Int)] _ m4 _ (by omega) (by omega) r9 ⟨m3.next, 0, _, rfl, by omega, by omega, by omega, b4, rfl, rfl⟩ (.start (steps_bwd gr rfl hr)) (fun k hk => by rw [f4 k (by omega)]; exact f3 k hk) (fun ds qs d m5 e z1 z2 z3 z4 => ?_)
 have hd := z3.done (steps_bwd gr rfl hr) z4
 have he : ds = reachL N (fun v => dst l v root) := reachL_eq z3.dl (fun v hv => by rw [hd v hv, dst_bwd])
 subst he
 have fz := fz_ir (n := 6) z2.b z2.lh
 rw [reachL_len] at fz
 simp only [↓sxc, sx, se, ↓reduceIte, Nat.reduceEqDiff, Nat.reduceAdd, Nat.reduceLT, Nat.reduceLeDiff, Nat.reduceSub, Nat.reduceMul, Int.reduceToNat, Int.reduceLT, Int.reduceLE, Int.reduceEq, ml_i0, ↓smc, sm, fz]
end Go.Am
namespace Go.Am
open Go
set_option linter.unusedSimpArgs false
set_option linter.unusedVariables false
set_option maxRecDepth 100000
theorem idxP_some {α : Type} {p : α → Bool} : ∀ {l : List α} {k : Nat}, 0 ≤ idxP p l k → ∃ j x, idxP p l k = ((k + j : Nat) : Int) ∧ l[j]? = some x ∧ p x = true
 | [], k, h => by simp [idxP] at h
 | x :: t, k, h => by
  cases hx : p x with
  | true => exact ⟨0, x, by simp [idxP, hx], rfl, hx⟩
  | false =>
   have e : idxP p (x :: t) k = idxP p t (k + 1) := by simp [idxP, hx]
   rw [e] at h ⊢
   obtain ⟨j, y, h1, h2, h3⟩ := idxP_some h
   exact ⟨j + 1, y, by rw [h1]; congr 1; omega, h2, h3⟩
theorem dst_zero {l : List Edge} {x y : Int} : dst l x y = 0 ↔ x = y := by
 constructor
 ·intro h
  rcases dist_spec (P := fun k v => Wk l k x v) (v := y) with ⟨h1, h2, h3⟩ | ⟨h1, h2⟩
  ·have : (dist (fun k v => Wk l k x v) y) = 0 := h
   rw [this] at h2
   exact h2
  ·have : (dist (fun k v => Wk l k x v) y) = 0 := h
   omega
 ·intro h
  exact dist_eq (.inl ⟨by omega, h, fun k _ => by omega⟩)
theorem dst_wk {l : List Edge} {x y : Int} (h : 0 ≤ dst l x y) : Wk l (dst l x y).toNat x y ∧ ∀ k : Nat, Wk l k x y → dst l x y ≤ k := by
 rcases dist_spec (P := fun k v => Wk l k x v) (v := y) with ⟨h1, h2, h3⟩ | ⟨h1, h2⟩
 ·exact ⟨h2, h3⟩
 ·have : dst l x y = -1 := h1
  omega
theorem dst_of {l : List Edge} {x y : Int} {k : Nat} (h : Wk l k x y) : 0 ≤ dst l x y ∧ dst l x y ≤ k := by
 rcases dist_spec (P := fun k v => Wk l k x v) (v := y) with ⟨h1, h2, h3⟩ | ⟨h1, h2⟩
 ·exact ⟨h1, h3 k h⟩
 ·exact absurd h (h2 k)
theorem dst_succ {l : List Edge} {x y : Int} {k : Nat} (h : dst l x y = (k : Int) + 1) : ∃ e ∈ l, e.fr = x ∧ dst l e.to y = k := by
 obtain ⟨h1, h2⟩ := dst_wk (l := l) (x := x) (y := y) (by omega)
 have e1 : (dst l x y).toNat = k + 1 := by omega
 rw [e1] at h1
 obtain ⟨e, he, h3, h4⟩ := h1
 refine ⟨e, he, h3, ?_⟩
 obtain ⟨h5, h6⟩ := dst_of h4
 have h7 := (dst_wk h5).1
 have h8 := h2 ((dst l e.to y).toNat + 1) ⟨e, he, h3, h7⟩
 omega
theorem dst_chain {n : Int} {N : Nat} {l : List Edge} (gr : Gr n l) (hN : n = N) {y : Int} : ∀ {k : Nat} {x : Int}, dst l x y = k → (∃ v : Nat, x = v ∧ v < N) → ∃ xs : List Int, xs.length = k + 1 ∧ xs.Nodup ∧ (∀ z ∈ xs, ∃ v : Nat, z = v ∧ v < N) ∧ ∀ z ∈ xs, dst l z y ≤ k
 | 0, x, h, hx => ⟨[x], rfl, by simp, by simpa using hx, by simp [h]⟩
 | k + 1, x, h, hx => by
  obtain ⟨e, he, h1, h2⟩ := dst_succ (k := k) (by rw [h]; push_cast; rfl)
  obtain ⟨a, b, h3, h4, h5, h6⟩ := gr.e e he
  obtain ⟨xs, q1, q2, q3, q4⟩ := dst_chain gr hN h2 ⟨b, h4, by omega⟩
  refine ⟨x :: xs, by simp [q1], List.nodup_cons.2 ⟨fun hc => ?_, q2⟩, fun z hz => ?_, fun z hz => ?_⟩
  ·have := q4 x hc
   omega
  ·rcases List.mem_cons.1 hz with rfl | hz
   ·exact hx
   ·exact q3 z hz
  ·rcases List.mem_cons.1 hz with rfl | hz
   ·omega
   ·have := q4 z hz
    omega
theorem dst_lt {n : Int} {N : Nat} {l : List Edge} (gr : Gr n l) (hN : n = N) {x : Nat} {y : Int} (hx : x < N) : dst l x y < N := by
 by_cases h : dst l x y < 0
 ·omega
 ·obtain ⟨k, hk⟩ : ∃ k : Nat, dst l x y = k := ⟨(dst l x y).toNat, by omega⟩
  obtain ⟨xs, q1, q2, q3, _⟩ := dst_chain gr hN hk ⟨x, rfl, hx⟩
  have := nodup_le (ys := (List.range N).map fun (v : Nat) => (v : Int)) q2 (fun z hz => by
   obtain ⟨v, rfl, hv⟩ := q3 z hz
   exact List.mem_map.2 ⟨v, by simpa using hv, rfl⟩)
  simp at this
  omega
def toAt (l : List Edge) (i : Int) : Int := match l[i.toNat]? with
 | some e => e.to
 | none => 0
noncomputable def selE (l : List Edge) (at_ tgt k : Int) (e : Edge) : Bool := decide (e.fr = at_) && decide (dst l e.to tgt = k)
noncomputable def nxtE (l : List Edge) (at_ tgt k : Int) : Int := idxP (selE l at_ tgt k) l 0
noncomputable def walkE (l : List Edge) (tgt : Int) : Nat → Int → List Int
 | 0, _ => []
 | k + 1, at_ => nxtE l at_ tgt k :: walkE l tgt k (toAt l (nxtE l at_ tgt k))
theorem walkE_len {l : List Edge} {tgt : Int} : ∀ {k : Nat} {at_ : Int}, (walkE l tgt k at_).length = k
 | 0, _ => rfl
 | k + 1, _ => by simp [walkE, walkE_len]
noncomputable def lenE (l : List Edge) (e : Edge) : Int := if dst l e.to e.fr < 0 then -1 else dst l e.to e.fr + 1
noncomputable def bestS (l : List Edge) : List Edge → Nat → Int × Int → Int × Int
 | [], _, b => b
 | e :: t, i, b => bestS l t (i + 1) (if 0 < lenE l e ∧ (b.2 < 0 ∨ lenE l e < b.2) then ((i : Int), lenE l e) else b)
noncomputable def bestE (l : List Edge) : Int × Int := bestS l l 0 (-1, -1)
noncomputable def cycE (n : Int) (l : List Edge) : List Int × Int :=
 if chkG n l ≠ 0 then ([], chkG n l) else if (bestE l).1 < 0 then ([], 0) else ((bestE l).1 :: walkE l (frAt l (bestE l).1) ((bestE l).2 - 1).toNat (toAt l (bestE l).1), 0)
def Bst (l : List Edge) (b : Int × Int) : Prop := (b.1 = -1 ∧ b.2 = -1) ∨ ∃ j e, b.1 = ((j : Nat) : Int) ∧ l[j]? = some e ∧ lenE l e = b.2 ∧ 0 < b.2
theorem Bst.step {l : List Edge} {b : Int × Int} (H : Bst l b) {i : Nat} {e : Edge} (hi : l[i]? = some e) : Bst l (if 0 < lenE l e ∧ (b.2 < 0 ∨ lenE l e < b.2) then ((i : Int), lenE l e) else b) := by
 split
 ·rename_i h
  exact .inr ⟨i, e, rfl, hi, rfl, h.1⟩
 ·exact H
theorem bestS_bst {l : List Edge} : ∀ {t : List Edge} {i : Nat} {b : Int × Int}, l.drop i = t → Bst l b → Bst l (bestS l t i b)
 | [], _, _, _, H => H
 | e :: t, i, b, hd, H => by
  obtain ⟨hg, hd', _⟩ := drop_cons hd
  exact bestS_bst (t := t) (i := i + 1) hd' (H.step hg)
theorem bestE_bst {l : List Edge} : Bst l (bestE l) := bestS_bst rfl (.inl ⟨rfl, rfl⟩)
theorem nxtE_some {l : List Edge} {x y : Int} {k : Nat} (h : dst l x y = (k : Int) + 1) : ∃ j e, nxtE l x y k = ((j : Nat) : Int) ∧ l[j]? = some e ∧ e.fr = x ∧ dst l e.to y = k ∧ toAt l (nxtE l x y k) = e.to := by
 obtain ⟨e, he, h1, h2⟩ := dst_succ h
 have ha : 0 ≤ nxtE l x y k := by
  unfold nxtE
  have : l.any (selE l x y k) = true := List.any_eq_true.2 ⟨e, he, by simp [selE, h1, h2]⟩
  rw [idxP_ge]
  exact this
 obtain ⟨j, f, h3, h4, h5⟩ := idxP_some ha
 have h6 : nxtE l x y k = ((j : Nat) : Int) := by
  show idxP _ l 0 = _
  rw [h3, Nat.zero_add]
 simp only [selE, Bool.and_eq_true, decide_eq_true_eq] at h5
 exact ⟨j, f, h6, h4, h5.1, h5.2, by rw [h6]; simp only [toAt, Int.toNat_natCast, h4]⟩
theorem sp110 {F : Nat → Option Fn} (hG : HasG F) {lo : Nat} {m : Mem} {n : Int} {N : Nat} {l : List Edge} (gr : Gr n l) (hN : n = N) (hl : l.length < 100000) {i : Nat} {e : Edge} (hi : l[i]? = some e) : callw F 110 [vi n, vEdges l, vi i] lo m = some (vi (lenE l e), m) := by
 obtain ⟨a, b, ha, hb, ha2, hb2⟩ := gr.e e (List.mem_of_getElem? hi)
 have aN : a < N := by omega
 have bN : b < N := by omega
 have n4 := gr.n4
 have c109 : ∀ {lo m}, callw F 109 [vi n, vEdges l, vi b] lo m = some (ints (reachL N (dst l b)), m) := fun {lo m} => sp109 hG gr hN hl bN
 have hg : (reachL N (dst l b))[a]? = some (dst l b a) := reachL_get aN
 have i0 : (0 : Int) ≤ i := by omega
 have a0 : (0 : Int) ≤ a := by omega
 have in_ : ((i : Nat) : Int).toNat = i := rfl
 have an : ((a : Nat) : Int).toNat = a := rfl
 have hlt : dst l b a < N := dst_lt gr hN bN
 have ha' := ha
 have hb' := hb
 refine call_p hG.h110 rfl ?_
 unfold lenE
 rw [ha', hb']
 by_cases h : dst l b a < 0
 ·simp only [↓sxc, sx, se, ↓reduceIte, Nat.reduceEqDiff, Nat.reduceAdd, Nat.reduceLT, Nat.reduceLeDiff, Nat.reduceSub, Nat.reduceMul, Int.reduceToNat, Int.reduceLT, Int.reduceLE, Int.reduceEq, ml_i0, ↓smc, sm, i0, in_, hi, ha, hb, c109, a0, an, hg, h]
 ·have w1 : wrapF .i64 (dst l b a + 1) = dst l b a + 1 := wr_i64 (by omega) (by omega)
  simp only [↓sxc, sx, se, ↓reduceIte, Nat.reduceEqDiff, Nat.reduceAdd, Nat.reduceLT, Nat.reduceLeDiff, Nat.reduceSub, Nat.reduceMul, Int.reduceToNat, Int.reduceLT, Int.reduceLE, Int.reduceEq, ml_i0, ↓smc, sm, i0, in_, hi, ha, hb, c109, a0, an, hg, h, w1]
theorem w43_1 {F : Nat → Option Fn} (hG : HasG F) {lo : Nat} {n : Int} {N : Nat} {l : List Edge} (gr : Gr n l) (hN : n = N) (hl : l.length < 100000) :
  ∀ (t : List Edge) (i : Nat) (b : Int × Int) (m : Mem) (Q : Ex → St → Prop), l.drop i = t → Bst l b →
   (∀ e, Q (.exit 0) ⟨(0, vi n) :: (1, vEdges l) :: (7, vi (bestS l t i b).1) :: (8, vi (bestS l t i b).2) :: e, [], [], m⟩) →
   W F lo L43_1 ⟨[(0, vi n), (1, vEdges l), (7, vi b.1), (8, vi b.2), (9, vi i)], [], [], m⟩ Q := by
 intro t
 induction t with
 | nil =>
  intro i b m Q hd hb hQ
  have hlt := drop_nil hd
  rw [W_L (c := L43_1) rfl]
  have : ¬ ((i : Nat) : Int) < (l.length : Int) := by omega
  simp only [↓sxc, sx, se, ↓reduceIte, Nat.reduceEqDiff, Nat.reduceAdd, Nat.reduceLT, Nat.reduceLeDiff, Nat.reduceSub, Nat.reduceMul, Int.reduceToNat, Int.reduceLT, Int.reduceLE, Int.reduceEq, ml_i0, ↓smc, sm, this]
  exact hQ _
 | cons x t ih =>
  intro i b m Q hd hb hQ
  obtain ⟨hg, hd', hlt⟩ := drop_cons hd
  have c110 : ∀ {lo m}, callw F 110 [vi n, vEdges l, vi i] lo m = some (vi (lenE l x), m) := fun {lo m} => sp110 hG gr hN hl hg
  rw [W_L (c := L43_1) rfl]
  have : ((i : Nat) : Int) < (l.length : Int) := by omega
  have wr : wrapF .i64 ((i : Int) + 1) = ((i + 1 : Nat) : Int) := by rw [wr_i64 (by omega) (by omega)]; rfl
  have hs := hb.step hg
  have es : bestS l (x :: t) i b = bestS l t (i + 1) (if 0 < lenE l x ∧ (b.2 < 0 ∨ lenE l x < b.2) then ((i : Int), lenE l x) else b) := rfl
  rw [es] at hQ
  by_cases h1 : 0 < lenE l x
  ·by_cases h2 : b.2 < 0
   ·rw [if_pos ⟨h1, .inl h2⟩] at hs hQ
    simp only [↓sxc, sx, se, ↓reduceIte, Nat.reduceEqDiff, Nat.reduceAdd, Nat.reduceLT, Nat.reduceLeDiff, Nat.reduceSub, Nat.reduceMul, Int.reduceToNat, Int.reduceLT, Int.reduceLE, Int.reduceEq, ml_i0, ↓smc, sm, this, c110, h1, h2, wr]
    exact ih (i + 1) ((i : Int), lenE l x) m Q hd' hs hQ
   ·by_cases h3 : lenE l x < b.2
    ·rw [if_pos ⟨h1, .inr h3⟩] at hs hQ
     simp only [↓sxc, sx, se, ↓reduceIte, Nat.reduceEqDiff, Nat.reduceAdd, Nat.reduceLT, Nat.reduceLeDiff, Nat.reduceSub, Nat.reduceMul, Int.reduceToNat, Int.reduceLT, Int.reduceLE, Int.reduceEq, ml_i0, ↓smc, sm, this, c110, h1, h2, h3, wr]
     exact ih (i + 1) ((i : Int), lenE l x) m Q hd' hs hQ
    ·rw [if_neg (fun h => h.2.elim h2 h3)] at hs hQ
     simp only [↓sxc, sx, se, ↓reduceIte, Nat.reduceEqDiff, Nat.reduceAdd, Nat.reduceLT, Nat.reduceLeDiff, Nat.reduceSub, Nat.reduceMul, Int.reduceToNat, Int.reduceLT, Int.reduceLE, Int.reduceEq, ml_i0, ↓smc, sm, this, c110, h1, h2, h3, wr]
     exact ih (i + 1) b m Q hd' hs hQ
  ·rw [if_neg (fun h => h1 h.1)] at hs hQ
   simp only [↓sxc, sx, se, ↓reduceIte, Nat.reduceEqDiff, Nat.reduceAdd, Nat.reduceLT, Nat.reduceLeDiff, Nat.reduceSub, Nat.reduceMul, Int.reduceToNat, Int.reduceLT, Int.reduceLE, Int.reduceEq, ml_i0, ↓smc, sm, this, c110, h1, wr]
   exact ih (i + 1) b m Q hd' hs hQ
theorem w43_2 {F : Nat → Option Fn} (hG : HasG F) {lo : Nat} {n : Int} {N : Nat} {l : List Edge} (gr : Gr n l) (hN : n = N) (hl : l.length < 100000) (f a0 : Nat) (fe : Edge) (hf : l[f]? = some fe) (hfa : fe.fr = (a0 : Int)) (ha0 : a0 < N) (u11 : V) (at_ : Int) (k : Nat) (hk : k ≤ N) :
  ∀ (t : List Edge) (i : Nat) (m : Mem) (Q : Ex → St → Prop), l.drop i = t →
   (∀ m' e, m'.blk = m.blk → m.next ≤ m'.next → Q (.exit 4) ⟨(0, vi n) :: (1, vEdges l) :: (7, vi f) :: (11, u11) :: (12, vi at_) :: (13, vi ((k : Int) + 1)) :: (14, vi (idxP (selE l at_ a0 k) t i)) :: e, [], [], m'⟩) →
   W F lo L43_2 ⟨[(0, vi n), (1, vEdges l), (7, vi f), (11, u11), (12, vi at_), (13, vi ((k : Int) + 1)), (14, vi (-1)), (15, vi i)], [], [], m⟩ Q := by
 have n4 := gr.n4
 intro t
 induction t with
 | nil =>
  intro i m Q hd hQ
  have hlt := drop_nil hd
  rw [W_L (c := L43_2) rfl]
  have : ¬ ((i : Nat) : Int) < (l.length : Int) := by omega
  simp only [↓sxc, sx, se, ↓reduceIte, Nat.reduceEqDiff, Nat.reduceAdd, Nat.reduceLT, Nat.reduceLeDiff, Nat.reduceSub, Nat.reduceMul, Int.reduceToNat, Int.reduceLT, Int.reduceLE, Int.reduceEq, ml_i0, ↓smc, sm, this]
  exact hQ m _ rfl (Nat.le_refl _)
 | cons x t ih =>
  intro i m Q hd hQ
  obtain ⟨hg, hd', hlt⟩ := drop_cons hd
  obtain ⟨a, b, ha, hb, ha2, hb2⟩ := gr.e x (List.mem_of_getElem? hg)
  have bN : b < N := by omega
  have c109 : ∀ {lo m}, callw F 109 [vi n, vEdges l, vi b] lo m = some (ints (reachL N (dst l b)), m) := fun {lo m} => sp109 hG gr hN hl bN
  have hgr : (reachL N (dst l b))[a0]? = some (dst l b a0) := reachL_get ha0
  rw [W_L (c := L43_2) rfl]
  have c0 : ((i : Nat) : Int) < (l.length : Int) := by omega
  have c1 : (-1 : Int) < 0 := by omega
  have wr : wrapF .i64 ((i : Int) + 1) = ((i + 1 : Nat) : Int) := by rw [wr_i64 (by omega) (by omega)]; rfl
  have i0 : (0 : Int) ≤ i := by omega
  have f0 : (0 : Int) ≤ f := by omega
  have a00 : (0 : Int) ≤ a0 := by omega
  have in_ : ((i : Nat) : Int).toNat = i := rfl
  have fn_ : ((f : Nat) : Int).toNat = f := rfl
  have an : ((a0 : Nat) : Int).toNat = a0 := rfl
  have w1 : wrapF .i64 ((k : Int) + 1 - 1) = (k : Int) := by rw [wr_i64 (by omega) (by omega)]; omega
  by_cases e1 : (a : Int) = at_
  ·by_cases e2 : dst l b a0 = (k : Int)
   ·have es : selE l at_ a0 k x = true := by simp [selE, ha, hb, e1, e2]
    have ei : idxP (selE l at_ a0 k) (x :: t) i = (i : Int) := by simp [idxP, es]
    rw [ei] at hQ
    have c2 : ¬ (i : Int) < 0 := by omega
    simp only [↓sxc, sx, se, ↓reduceIte, Nat.reduceEqDiff, Nat.reduceAdd, Nat.reduceLT, Nat.reduceLeDiff, Nat.reduceSub, Nat.reduceMul, Int.reduceToNat, Int.reduceLT, Int.reduceLE, Int.reduceEq, ml_i0, ↓smc, sm, c0, c1, i0, in_, hg, ha, hb, e1, c109, f0, fn_, hf, hfa, a00, an, hgr, w1, e2, wr]
    rw [W_L (c := L43_2) rfl]
    by_cases c3 : ((i + 1 : Nat) : Int) < (l.length : Int)
    ·simp only [↓sxc, sx, se, ↓reduceIte, Nat.reduceEqDiff, Nat.reduceAdd, Nat.reduceLT, Nat.reduceLeDiff, Nat.reduceSub, Nat.reduceMul, Int.reduceToNat, Int.reduceLT, Int.reduceLE, Int.reduceEq, ml_i0, ↓smc, sm, c3, c2]
     exact hQ _ _ rfl (by show m.next ≤ m.next + _; omega)
    ·simp only [↓sxc, sx, se, ↓reduceIte, Nat.reduceEqDiff, Nat.reduceAdd, Nat.reduceLT, Nat.reduceLeDiff, Nat.reduceSub, Nat.reduceMul, Int.reduceToNat, Int.reduceLT, Int.reduceLE, Int.reduceEq, ml_i0, ↓smc, sm, c3]
     exact hQ _ _ rfl (by show m.next ≤ m.next + _; omega)
   ·have es : selE l at_ a0 k x = false := by simp [selE, ha, hb, e1, e2]
    have ei : idxP (selE l at_ a0 k) (x :: t) i = idxP (selE l at_ a0 k) t (i + 1) := by simp [idxP, es]
    rw [ei] at hQ
    simp only [↓sxc, sx, se, ↓reduceIte, Nat.reduceEqDiff, Nat.reduceAdd, Nat.reduceLT, Nat.reduceLeDiff, Nat.reduceSub, Nat.reduceMul, Int.reduceToNat, Int.reduceLT, Int.reduceLE, Int.reduceEq, ml_i0, ↓smc, sm, c0, c1, i0, in_, hg, ha, hb, e1, c109, f0, fn_, hf, hfa, a00, an, hgr, w1, e2, wr]
    exact ih (i + 1) _ Q hd' (fun m' e h1 h2 => hQ m' e h1 (by have h2' : m.next + 27 ≤ m'.next := h2; omega))
  ·have es : selE l at_ a0 k x = false := by simp [selE, ha, hb, e1]
   have ei : idxP (selE l at_ a0 k) (x :: t) i = idxP (selE l at_ a0 k) t (i + 1) := by simp [idxP, es]
   rw [ei] at hQ
   simp only [↓sxc, sx, se, ↓reduceIte, Nat.reduceEqDiff, Nat.reduceAdd, Nat.reduceLT, Nat.reduceLeDiff, Nat.reduceSub, Nat.reduceMul, Int.reduceToNat, Int.reduceLT, Int.reduceLE, Int.reduceEq, ml_i0, ↓smc, sm, c0, c1, i0, in_, hg, ha, hb, e1, wr]
   exact ih (i + 1) _ Q hd' (fun m' e h1 h2 => hQ m' e h1 (by have h2' : m.next + 27 ≤ m'.next := h2; omega))
theorem w43_3 {F : Nat → Option Fn} (hG : HasG F) {lo : Nat} {n : Int} {N : Nat} {l : List Edge} (gr : Gr n l) (hN : n = N) (hl : l.length < 100000) (f a0 : Nat) (fe : Edge) (hf : l[f]? = some fe) (hfa : fe.fr = (a0 : Int)) (ha0 : a0 < N) :
  ∀ (k : Nat) (at_ : Int) (out : List Int) (v : V) (m : Mem) (Q : Ex → St → Prop), k ≤ N → out.length + k < 100000 → dst l at_ a0 = k → lo ≤ m.next → Rw lo m 1 v (out.map vi) →
   (∀ v m' e, m.next ≤ m'.next → Rw lo m' 1 v ((out ++ walkE l a0 k at_).map vi) → Q (.exit 2) ⟨(0, vi n) :: (1, vEdges l) :: (7, vi f) :: (11, v) :: e, [], [], m'⟩) →
   W F lo L43_3 ⟨[(0, vi n), (1, vEdges l), (7, vi f), (11, v), (12, vi at_), (13, vi k)], [], [], m⟩ Q := by
 have n4 := gr.n4
 intro k
 induction k with
 | zero =>
  intro at_ out v m Q hk ho hd hm hr hQ
  rw [W_L (c := L43_3) rfl]
  have c0 : ¬ (0 : Int) < 0 := by omega
  simp only [↓sxc, sx, se, ↓reduceIte, Nat.reduceEqDiff, Nat.reduceAdd, Nat.reduceLT, Nat.reduceLeDiff, Nat.reduceSub, Nat.reduceMul, Int.reduceToNat, Int.reduceLT, Int.reduceLE, Int.reduceEq, ml_i0, ↓smc, sm, c0]
  exact hQ v m _ (Nat.le_refl _) (by simpa [walkE] using hr)
 | succ k ih =>
  intro at_ out v m Q hk ho hd hm hr hQ
  obtain ⟨j, e, h1, h2, h3, h4, h5⟩ := nxtE_some (l := l) (x := at_) (y := a0) (k := k) (by rw [hd]; push_cast; rfl)
  rw [W_L (c := L43_3) rfl]
  have ek : ((k + 1 : Nat) : Int) = (k : Int) + 1 := by push_cast; rfl
  rw [ek]
  have c0 : (0 : Int) < (k : Int) + 1 := by omega
  simp only [↓sxc, sx, se, ↓reduceIte, Nat.reduceEqDiff, Nat.reduceAdd, Nat.reduceLT, Nat.reduceLeDiff, Nat.reduceSub, Nat.reduceMul, Int.reduceToNat, Int.reduceLT, Int.reduceLE, Int.reduceEq, ml_i0, ↓smc, sm, c0]
  refine w43_2 hG gr hN hl f a0 fe hf hfa ha0 v at_ k (by omega) l 0 m _ rfl (fun m' e' q1 q2 => ?_)
  have e1 : idxP (selE l at_ a0 k) l 0 = (j : Int) := h1
  rw [e1]
  have hr' : Rw lo m' 1 v (out.map vi) := hr.mono q2 (fun k l hk => by rw [q1])
  obtain ⟨v', m'', hap, hr2, hn, _⟩ := hr'.app (y := .lst false 1 [vi j]) (by omega) vw_lst (.inl rfl) (by simp [big]; omega)
  have c2 : ¬ (j : Int) < 0 := by omega
  have j0 : (0 : Int) ≤ j := by omega
  have jn : ((j : Nat) : Int).toNat = j := rfl
  have w1 : wrapF .i64 ((k : Int) + 1 - 1) = (k : Int) := by rw [wr_i64 (by omega) (by omega)]; omega
  simp only [↓sxc, sx, se, ↓reduceIte, Nat.reduceEqDiff, Nat.reduceAdd, Nat.reduceLT, Nat.reduceLeDiff, Nat.reduceSub, Nat.reduceMul, Int.reduceToNat, Int.reduceLT, Int.reduceLE, Int.reduceEq, ml_i0, ↓smc, sm, c2, hap, j0, jn, h2, w1]
  refine ih e.to (out ++ [(j : Int)]) v' (m''.bump 1) Q (by omega) (by simp; omega) h4 ?_ (by rw [List.map_append]; exact hr2) (fun v m3 e3 q3 q4 => hQ v m3 e3 ?_ ?_)
  ·show lo ≤ m''.next + 1; omega
  ·have q3' : m''.next + 1 ≤ m3.next := q3
   omega
  ·rw [List.append_assoc] at q4
   have : out ++ walkE l a0 (k + 1) at_ = out ++ ([(j : Int)] ++ walkE l a0 k e.to) := by
    show out ++ (nxtE l at_ a0 k :: walkE l a0 k (toAt l (nxtE l at_ a0 k))) = _
    rw [h5, h1]
    rfl
   rw [this]
   exact q4
theorem fz_rw {lo n : Nat} {m : Mem} {v : V} {xs : List Int} (h : Rw lo m 1 v (xs.map vi)) : freeze lo m (n + 2) v = some (ints xs) := by
 rw [h.freeze, mapO_id (fun x hx => by
  obtain ⟨y, _, rfl⟩ := List.mem_map.1 hx
  rfl)]
 rfl
theorem sp43 {F : Nat → Option Fn} (hG : HasG F) {lo : Nat} {m : Mem} (n : Int) (l : List Edge) (hl : l.length < 90000) : callw F 43 [vi n, vEdges l] lo m = some (.tup [ints (cycE n l).1, vi (cycE n l).2], m) := by
 have c108 : ∀ {lo m}, callw F 108 [vi n, vEdges l] lo m = some (vi (chkG n l), m) := fun {lo m} => sp108 hG n l (by omega)
 refine call_p hG.h43 rfl ?_
 by_cases h0 : chkG n l = 0
 ·have gr := gr_of h0
  obtain ⟨N, hN⟩ : ∃ N : Nat, n = N := ⟨n.toNat, by have := gr.n0; omega⟩
  have n4 := gr.n4
  simp only [↓sxc, sx, se, ↓reduceIte, Nat.reduceEqDiff, Nat.reduceAdd, Nat.reduceLT, Nat.reduceLeDiff, Nat.reduceSub, Nat.reduceMul, Int.reduceToNat, Int.reduceLT, Int.reduceLE, Int.reduceEq, ml_i0, ↓smc, sm, c108, h0]
  refine w43_1 hG gr hN (by omega) l 0 (-1, -1) m _ rfl (.inl ⟨rfl, rfl⟩) (fun e => ?_)
  have eb : bestS l l 0 (-1, -1) = bestE l := rfl
  rw [eb]
  rcases bestE_bst (l := l) with ⟨h1, h2⟩ | ⟨j, fe, h1, h2, h3, h4⟩
  ·have c0 : (-1 : Int) < 0 := by omega
   have ec : cycE n l = ([], 0) := by unfold cycE; rw [if_neg (by omega), if_pos (by omega)]
   rw [ec]
   simp only [↓sxc, sx, se, ↓reduceIte, Nat.reduceEqDiff, Nat.reduceAdd, Nat.reduceLT, Nat.reduceLeDiff, Nat.reduceSub, Nat.reduceMul, Int.reduceToNat, Int.reduceLT, Int.reduceLE, Int.reduceEq, ml_i0, ↓smc, sm, h1, c0]
   rfl
  ·have c0 : ¬ (j : Int) < 0 := by omega
   obtain ⟨a, b, ha, hb, ha2, hb2⟩ := gr.e fe (List.mem_of_getElem? h2)
   have aN : a < N := by omega
   have bN : b < N := by omega
   have hlt : dst l b a < N := dst_lt gr hN bN
   have h5 : ¬ dst l fe.to fe.fr < 0 := by
    intro hc
    unfold lenE at h3
    rw [if_pos hc] at h3
    omega
   have h6 : (bestE l).2 = dst l b a + 1 := by
    rw [← h3]
    unfold lenE
    rw [if_neg h5, ha, hb]
   rw [ha, hb] at h5
   obtain ⟨k, hk⟩ : ∃ k : Nat, dst l b a = k := ⟨(dst l b a).toNat, by omega⟩
   have j0 : (0 : Int) ≤ j := by omega
   have jn : ((j : Nat) : Int).toNat = j := rfl
   have w1 : wrapF .i64 ((bestE l).2 - 1) = (k : Int) := by rw [wr_i64 (by omega) (by omega)]; omega
   have ec : cycE n l = ((j : Int) :: walkE l a k b, 0) := by
    unfold cycE
    rw [if_neg (by omega), if_neg (by omega), h1, show ((bestE l).2 - 1).toNat = k by omega]
    simp only [frAt, toAt, Int.toNat_natCast, h2, ha, hb]
   rw [ec]
   simp only [↓sxc, sx, se, ↓reduceIte, Nat.reduceEqDiff, Nat.reduceAdd, Nat.reduceLT, Nat.reduceLeDiff, Nat.reduceSub, Nat.reduceMul, Int.reduceToNat, Int.reduceLT, Int.reduceLE, Int.reduceEq, ml_i0, ↓smc, sm, h1, c0, j0, jn, h2, hb, w1]
   refine w43_3 hG gr hN (by omega) j a fe h2 ha aN k b [(j : Int)] _ _ _ (by omega) (by simp; omega) hk (by show m.next ≤ m.next + 1; omega) (.inr ⟨m.next, rfl, Nat.le_refl _, Nat.lt_succ_self _, by simp [Mem.bump, Mem.set]⟩) (fun v m' e q1 q2 => ?_)
   have fz := fz_rw (n := 5) q2
   simp only [↓sxc, sx, se, ↓reduceIte, Nat.reduceEqDiff, Nat.reduceAdd, Nat.reduceLT, Nat.reduceLeDiff, Nat.reduceSub, Nat.reduceMul, Int.reduceToNat, Int.reduceLT, Int.reduceLE, Int.reduceEq, ml_i0, ↓smc, sm]
   simp only [mapO, fz, fz_int]
   rfl
 ·have ec : cycE n l = ([], chkG n l) := by unfold cycE; rw [if_pos h0]
  rw [ec]
  simp only [↓sxc, sx, se, ↓reduceIte, Nat.reduceEqDiff, Nat.reduceAdd, Nat.reduceLT, Nat.reduceLeDiff, Nat.reduceSub, Nat.reduceMul, Int.reduceToNat, Int.reduceLT, Int.reduceLE, Int.reduceEq, ml_i0, ↓smc, sm, c108, h0]
  rfl
end Go.Am
namespace Go.Am
open Go
set_option linter.unusedSimpArgs false
set_option linter.unusedVariables false
set_option maxRecDepth 100000
noncomputable def intss (E : List (List Int)) : V := .ro true 1 (E.map ints)
theorem ia_intss {l : List (List Int)} {k : IntKind} {x : Int} : retV (.ia 1) [intss l, .int k x] = if 0 ≤ x then (l[x.toNat]?).map fun e => .imm (ints e) 0 else none := by
 unfold intss
 rw [r_iaro, ml_get]
 cases l[x.toNat]? <;> rfl
theorem fz_nest {lo n h q : Nat} {m : Mem} {E : List (List Int)} {es : List V} (H : NestB lo m h q E es) : freeze lo m (n + 3) (.row 1 h 0 es.length) = some (intss E) := by
 rw [fz_row H.bh H.lh (by simp), List.drop_zero, List.take_of_length_le (Nat.le_refl _)]
 have : mapO (freeze lo m (n + 2)) es = some (E.map ints) := by
  have key : ∀ (es : List V) (E : List (List Int)), es.length = E.length → (∀ (i : Nat) (v : V) (L : List Int), es[i]? = some v → E[i]? = some L → Rw lo m 1 v (L.map vi)) → mapO (freeze lo m (n + 2)) es = some (E.map ints) := by
   intro es
   induction es with
   | nil =>
    intro E hl _
    cases E with
    | nil => rfl
    | cons => simp at hl
   | cons v es ih =>
    intro E hl hr
    cases E with
    | nil => simp at hl
    | cons L E =>
     have h1 := fz_rw (n := n) (hr 0 v L rfl rfl)
     have h2 := ih E (by simpa using hl) (fun i v L hv hL => hr (i + 1) v L hv hL)
     simp only [mapO, h1, h2, List.map_cons]
  exact key es E H.ln H.rw
 rw [this]
 rfl
theorem w103_1 {F : Nat → Option Fn} {lo : Nat} {n : Int} (l : List Edge) (gr : Gr n l) (hl : l.length < 100000) (N : Nat) (hN : n = N) (h5 : Nat) : ∀ (t : List Edge) (j : Nat) (es : List V) (m : Mem) (Q : Ex → St → Prop), l.drop j = t → lo ≤ m.next → NestB lo m h5 h5 (bucks Edge.fr ixV N (l.take j)) es →
  (∀ es m' e, m.next ≤ m'.next → NestB lo m' h5 h5 (bucks Edge.fr ixV N l) es → Q (.exit 0) ⟨(5, .row 1 h5 0 N) :: e, [], [], m'⟩) →
  W F lo L103_1 ⟨[(5, .row 1 h5 0 N), (10, vEdges l), (11, vi l.length), (12, vi j)], [], [], m⟩ Q := by
 intro t
 induction t with
 | nil =>
  intro j es m Q hd hm h2 hq
  have hlt := drop_nil hd
  rw [W_L (c := L103_1) rfl]
  have : ¬ ((j : Nat) : Int) < (l.length : Int) := by omega
  simp only [↓sxc, sx, se, ↓reduceIte, Nat.reduceEqDiff, Nat.reduceAdd, Nat.reduceLT, Nat.reduceLeDiff, Nat.reduceSub, Nat.reduceMul, Int.reduceToNat, Int.reduceLT, Int.reduceLE, Int.reduceEq, ml_i0, ↓smc, sm, this]
  rw [List.take_of_length_le hlt] at h2
  exact hq es m _ (Nat.le_refl _) h2
 | cons x t ih =>
  intro j es m Q hd hm h2 hq
  obtain ⟨hg, hd', hlt⟩ := drop_cons hd
  rw [W_L (c := L103_1) rfl]
  have : ((j : Nat) : Int) < (l.length : Int) := by omega
  have wr : wrapF .i64 ((j : Int) + 1) = ((j + 1 : Nat) : Int) := by rw [wr_i64 (by omega) (by omega)]; rfl
  obtain ⟨a, b, ha, hb, ha2, hb2⟩ := gr.e x (List.mem_of_getElem? hg)
  subst hN
  have aN : a < N := by omega
  have ai : (a : Int) < (N : Int) := ha2
  have a0 : (0 : Int) ≤ a := by omega
  have an : ((a : Nat) : Int).toNat = a := rfl
  have hl8 := h2.lh
  have hbl := buck_len (key := Edge.fr) (val := ixV) (w := (a : Int)) (p := l.take j) (i := 0)
  have hlj : (l.take j).length = j := by simp; omega
  obtain ⟨v, v', m2, q1, qc, q2, q3, q4, q5, q6, q7, q8⟩ := h2.push 13 (m.next + 10) (by omega) (by omega) (by omega) h2.hm (bucks_get aN) (by omega) (j : Int)
  have hb8 := h2.bh
  simp only [↓sxc, sx, se, ↓reduceIte, Nat.reduceEqDiff, Nat.reduceAdd, Nat.reduceLT, Nat.reduceLeDiff, Nat.reduceSub, Nat.reduceMul, Int.reduceToNat, Int.reduceLT, Int.reduceLE, Int.reduceEq, ml_i0, ↓W_dreg, ↓sk, sk, ↓smc, sm, this, hg, ha, hb, ai, a0, an, hb8, hl8, q1, q2, q3, q4, qc, wr]
  have e8 : (bucks Edge.fr ixV N (l.take j)).set a (buck Edge.fr ixV (l.take j) 0 a ++ [(j : Int)]) = bucks Edge.fr ixV N (l.take (j + 1)) := by
   rw [take_succ_drop hd, ← bucks_push ha aN]
   simp only [ixV, hlj]
  rw [e8] at q8
  refine ⟨by simp [pairsOk, nth_eq, pk_nest], ?_⟩
  refine ih (j + 1) _ _ Q hd' ?_ q8 (fun es m' e p1 p3 => hq es m' e ?_ p3)
  ·show lo ≤ m2.next; omega
  ·have p1' : m2.next ≤ m'.next := p1
   omega
theorem sp103 {F : Nat → Option Fn} (hG : HasG F) {lo : Nat} {m : Mem} {n : Int} {N : Nat} {l : List Edge} (gr : Gr n l) (hN : n = N) (hl : l.length < 100000) : callw F 103 [vi n, vEdges l] lo m = some (intss (bucks Edge.fr ixV N l), m) := by
 have n4 := gr.n4
 have b1 : 0 ≤ (n : Int) ∧ (n : Int) < big := by simp [big]; omega
 have tn : n.toNat = N := by omega
 refine call_p hG.h103 rfl ?_
 simp only [↓sxc, sx, se, ↓reduceIte, Nat.reduceEqDiff, Nat.reduceAdd, Nat.reduceLT, Nat.reduceLeDiff, Nat.reduceSub, Nat.reduceMul, Int.reduceToNat, Int.reduceLT, Int.reduceLE, Int.reduceEq, ml_i0, ↓smc, sm, b1, tn]
 refine w103_1 l gr hl N hN m.next l 0 (List.replicate N .nil) _ _ rfl (by show m.next ≤ m.next + 1; omega) (NestB.start (Nat.le_refl _) (Nat.lt_succ_self _) (by simp [Mem.set, Mem.bump])) (fun es m1 e p1 p2 => ?_)
 have fz := fz_nest (n := 5) p2
 rw [p2.ln, bucks_len] at fz
 simp only [↓sxc, sx, se, ↓reduceIte, Nat.reduceEqDiff, Nat.reduceAdd, Nat.reduceLT, Nat.reduceLeDiff, Nat.reduceSub, Nat.reduceMul, Int.reduceToNat, Int.reduceLT, Int.reduceLE, Int.reduceEq, ml_i0, ↓smc, sm, fz]
theorem sx106m {F : Nat → Option Fn} (hA : HasA F) {lo : Nat} {m : Mem} (l : List Int) {f : Nat} {cs : List V} {p : Int → Bool} (hf : f < 1000) (hp : ∀ x ∈ l, ∀ lo, callw F f (vi x :: cs) lo m = some (.bool (p x), m)) (hs : l.length < 1000000) : callw F 106 [ints l, .fn f cs] lo m = some (vi (idxP p l 0), m) := by
 have loop : ∀ (t : List Int) (i : Nat) (Q : Ex → St → Prop), l.drop i = t → (∀ j, idxP p t i = j → j ≠ -1 → Q .ret ⟨[(4, vi j)], [], [], m⟩) →
   (idxP p t i = -1 → ∀ e, Q (.exit 0) ⟨e, [], [], m⟩) →
   W F m.next L106_1 ⟨[(0, ints l), (1, .fn f cs), (7, vi l.length), (8, vi i)], [], [], m⟩ Q := by
  intro t
  induction t with
  | nil =>
   intro i Q hd h1 h2
   have hlt := drop_nil hd
   rw [W_L (c := L106_1) rfl]
   have : ¬ ((i : Nat) : Int) < (l.length : Int) := by omega
   simp only [↓sxc, sx, se, ↓reduceIte, Nat.reduceEqDiff, Nat.reduceAdd, Nat.reduceLT, Nat.reduceLeDiff, Nat.reduceSub, Nat.reduceMul, Int.reduceToNat, Int.reduceLT, Int.reduceLE, Int.reduceEq, ml_i0, ↓smc, sm, this]
   exact h2 rfl _
  | cons x t ih =>
   intro i Q hd h1 h2
   obtain ⟨hg, hd', hlt⟩ := drop_cons hd
   rw [W_L (c := L106_1) rfl]
   have : ((i : Nat) : Int) < (l.length : Int) := by omega
   have wr : wrapF .i64 ((i : Int) + 1) = ((i + 1 : Nat) : Int) := by rw [wr_i64 (by omega) (by omega)]; rfl
   have hc := hp x (List.mem_of_getElem? hg)
   cases hx : p x with
   | true =>
    have e : idxP p (x :: t) i = (i : Int) := by simp [idxP, hx]
    rw [hx] at hc
    simp only [↓sxc, sx, se, ↓reduceIte, Nat.reduceEqDiff, Nat.reduceAdd, Nat.reduceLT, Nat.reduceLeDiff, Nat.reduceSub, Nat.reduceMul, Int.reduceToNat, Int.reduceLT, Int.reduceLE, Int.reduceEq, ml_i0, ↓smc, sm, this, hg, hf, hc, List.append_eq, List.nil_append, List.cons_append]
    exact h1 i e (by omega)
   | false =>
    have e : idxP p (x :: t) i = idxP p t (i + 1) := by simp [idxP, hx]
    rw [e] at h1 h2
    rw [hx] at hc
    simp only [↓sxc, sx, se, ↓reduceIte, Nat.reduceEqDiff, Nat.reduceAdd, Nat.reduceLT, Nat.reduceLeDiff, Nat.reduceSub, Nat.reduceMul, Int.reduceToNat, Int.reduceLT, Int.reduceLE, Int.reduceEq, ml_i0, ↓smc, sm, this, hg, hf, hc, wr, List.append_eq, List.nil_append, List.cons_append]
    exact ih (i + 1) Q hd' h1 h2
 refine call_p hA.h106 rfl ?_
 simp only [↓sxc, sx, se, ↓reduceIte, Nat.reduceEqDiff, Nat.reduceAdd, Nat.reduceLT, Nat.reduceLeDiff, Nat.reduceSub, Nat.reduceMul, Int.reduceToNat, Int.reduceLT, Int.reduceLE, Int.reduceEq, ml_i0, ↓smc, sm]
 refine loop l 0 _ rfl (fun j hj hne => ?_) (fun hn e => ?_)
 ·simp only [↓sxc, sx, se, ↓reduceIte, Nat.reduceEqDiff, Nat.reduceAdd, Nat.reduceLT, Nat.reduceLeDiff, Nat.reduceSub, Nat.reduceMul, Int.reduceToNat, Int.reduceLT, Int.reduceLE, Int.reduceEq, ml_i0, ↓smc, sm, hj]
 ·simp only [↓sxc, sx, se, ↓reduceIte, Nat.reduceEqDiff, Nat.reduceAdd, Nat.reduceLT, Nat.reduceLeDiff, Nat.reduceSub, Nat.reduceMul, Int.reduceToNat, Int.reduceLT, Int.reduceLE, Int.reduceEq, ml_i0, ↓smc, sm, hn]
theorem buck_pick {l : List Edge} {w : Int} {q : Edge → Bool} {q' : Int → Bool} : ∀ {p : List Edge} {k s : Nat}, (∀ j : Nat, p[j]? = l[k + j]?) → (∀ (j : Nat) e, l[j]? = some e → q' j = q e) → 0 ≤ idxP (fun e => decide (e.fr = w) && q e) p k →
  ∃ pos : Nat, idxP q' (buck Edge.fr ixV p k w) s = ((s + pos : Nat) : Int) ∧ (buck Edge.fr ixV p k w)[pos]? = some (idxP (fun e => decide (e.fr = w) && q e) p k)
 | [], k, s, _, _, h => by simp [idxP] at h
 | e :: p, k, s, h, hq, hx => by
  have h0 : l[k]? = some e := by
   have := h 0
   simpa using this.symm
  have hn : ∀ j : Nat, p[j]? = l[k + 1 + j]? := fun j => by
   have := h (j + 1)
   rw [show k + 1 + j = k + (j + 1) by omega, ← this]
   rfl
  have hqe := hq k e h0
  by_cases hf : e.fr = w
  ·cases hb : q e with
   | true =>
    rw [hb] at hqe
    exact ⟨0, by simp [buck, hf, ixV, idxP, hqe], by simp [buck, hf, ixV, idxP, hb]⟩
   | false =>
    rw [hb] at hqe
    have e1 : idxP (fun e => decide (e.fr = w) && q e) (e :: p) k = idxP (fun e => decide (e.fr = w) && q e) p (k + 1) := by simp [idxP, hb]
    rw [e1] at hx ⊢
    obtain ⟨pos, h1, h2⟩ := buck_pick (s := s + 1) hn hq hx
    refine ⟨pos + 1, ?_, ?_⟩
    ·simp only [buck, hf, if_true, List.cons_append, List.nil_append, ixV, idxP, hqe]
     simp only [Bool.false_eq_true, if_false]
     rw [h1]
     congr 1
     omega
    ·simp only [buck, hf, if_true, List.cons_append, List.nil_append]
     exact h2
  ·have e1 : idxP (fun e => decide (e.fr = w) && q e) (e :: p) k = idxP (fun e => decide (e.fr = w) && q e) p (k + 1) := by simp [idxP, hf]
   rw [e1] at hx ⊢
   have e2 : buck Edge.fr ixV (e :: p) k w = buck Edge.fr ixV p (k + 1) w := by simp [buck, hf]
   rw [e2]
   exact buck_pick hn hq hx
theorem sp107 {F : Nat → Option Fn} (hG : HasG F) {lo : Nat} {m : Mem} {n : Int} {N : Nat} {l : List Edge} (gr : Gr n l) (hN : n = N) (D : Int → Int) {h14 h3 h15 j c : Nat} {e : Edge} (hj : l[j]? = some e) (hc : c < N) (hD : D c ≤ N ∧ -1 ≤ D c) (b14 : m.blk h14 = some (.row 1 [ints (reachL N D)])) (b3 : m.blk h3 = some (.row 1 [vEdges l])) (b15 : m.blk h15 = some (.row 1 [vi c])) :
  callw F 107 [vi j, .ptr h14 0 0, .ptr h3 0 0, .ptr h15 0 0] lo m = some (.bool (decide (D (toAt l j) = D c - 1)), m) := by
 obtain ⟨a, b, ha, hb, ha2, hb2⟩ := gr.e e (List.mem_of_getElem? hj)
 have bN : b < N := by omega
 have n4 := gr.n4
 have j0 : (0 : Int) ≤ j := by omega
 have jn : ((j : Nat) : Int).toNat = j := rfl
 have b0 : (0 : Int) ≤ b := by omega
 have bn : ((b : Nat) : Int).toNat = b := rfl
 have c0 : (0 : Int) ≤ c := by omega
 have cn : ((c : Nat) : Int).toNat = c := rfl
 have g1 : (reachL N D)[b]? = some (D b) := reachL_get bN
 have g2 : (reachL N D)[c]? = some (D c) := reachL_get hc
 have w1 : wrapF .i64 (D c - 1) = D c - 1 := wr_i64 (by omega) (by omega)
 have et : toAt l (j : Int) = b := by simp only [toAt, Int.toNat_natCast, hj, hb]
 rw [et]
 refine call_p hG.h107 rfl ?_
 simp only [↓sxc, sx, se, ↓reduceIte, Nat.reduceEqDiff, Nat.reduceAdd, Nat.reduceLT, Nat.reduceLeDiff, Nat.reduceSub, Nat.reduceMul, Int.reduceToNat, Int.reduceLT, Int.reduceLE, Int.reduceEq, ml_i0, ↓smc, sm, b14, b3, b15, j0, jn, b0, bn, c0, cn, hj, hb, g1, g2, w1]
theorem w40_1 {F : Nat → Option Fn} {lo : Nat} {n : Int} (l : List Edge) (gr : Gr n l) (hl : l.length < 100000) (N : Nat) (hN : n = N) (h3 h8 : Nat) (hne : h3 ≠ h8) (u0 u7 : V) : ∀ (t : List Edge) (j : Nat) (es : List V) (m : Mem) (Q : Ex → St → Prop), l.drop j = t → lo ≤ m.next → h3 < m.next → NestB lo m h8 h3 (bucks Edge.to ixV N (l.take j)) es →
  (∀ es m' e, m.next ≤ m'.next → NestB lo m' h8 h3 (bucks Edge.to ixV N l) es → m'.blk h3 = m.blk h3 → Q (.exit 0) ⟨(0, u0) :: (3, .ptr h3 0 0) :: (7, u7) :: (8, .row 1 h8 0 N) :: e, [], [], m'⟩) →
  W F lo L40_1 ⟨[(0, u0), (3, .ptr h3 0 0), (7, u7), (8, .row 1 h8 0 N), (28, vEdges l), (29, vi l.length), (30, vi j)], [], [], m⟩ Q := by
 intro t
 induction t with
 | nil =>
  intro j es m Q hd hm h3m h2 hq
  have hlt := drop_nil hd
  rw [W_L (c := L40_1) rfl]
  have : ¬ ((j : Nat) : Int) < (l.length : Int) := by omega
  simp only [↓sxc, sx, se, ↓reduceIte, Nat.reduceEqDiff, Nat.reduceAdd, Nat.reduceLT, Nat.reduceLeDiff, Nat.reduceSub, Nat.reduceMul, Int.reduceToNat, Int.reduceLT, Int.reduceLE, Int.reduceEq, ml_i0, ↓smc, sm, this]
  rw [List.take_of_length_le hlt] at h2
  exact hq es m _ (Nat.le_refl _) h2 rfl
 | cons x t ih =>
  intro j es m Q hd hm h3m h2 hq
  obtain ⟨hg, hd', hlt⟩ := drop_cons hd
  rw [W_L (c := L40_1) rfl]
  have : ((j : Nat) : Int) < (l.length : Int) := by omega
  have wr : wrapF .i64 ((j : Int) + 1) = ((j + 1 : Nat) : Int) := by rw [wr_i64 (by omega) (by omega)]; rfl
  obtain ⟨a, b, ha, hb, ha2, hb2⟩ := gr.e x (List.mem_of_getElem? hg)
  subst hN
  have bN : b < N := by omega
  have bi : (b : Int) < (N : Int) := hb2
  have b0 : (0 : Int) ≤ b := by omega
  have bn : ((b : Nat) : Int).toNat = b := rfl
  have hl8 := h2.lh
  have hbl := buck_len (key := Edge.to) (val := ixV) (w := (b : Int)) (p := l.take j) (i := 0)
  have hlj : (l.take j).length = j := by simp; omega
  obtain ⟨v, v', m2, q1, qc, q2, q3, q4, q5, q6, q7, q8⟩ := h2.push 13 (m.next + 10) (by omega) (by omega) (by omega) h3m (bucks_get bN) (by omega) (j : Int)
  have hb8 := h2.bh
  simp only [↓sxc, sx, se, ↓reduceIte, Nat.reduceEqDiff, Nat.reduceAdd, Nat.reduceLT, Nat.reduceLeDiff, Nat.reduceSub, Nat.reduceMul, Int.reduceToNat, Int.reduceLT, Int.reduceLE, Int.reduceEq, ml_i0, ↓W_dreg, ↓sk, sk, ↓smc, sm, this, hg, ha, hb, bi, b0, bn, hb8, hl8, q1, q2, q3, q4, qc, wr]
  have e8 : (bucks Edge.to ixV N (l.take j)).set b (buck Edge.to ixV (l.take j) 0 b ++ [(j : Int)]) = bucks Edge.to ixV N (l.take (j + 1)) := by
   rw [take_succ_drop hd, ← bucks_push hb bN]
   simp only [ixV, hlj]
  rw [e8] at q8
  refine ⟨by simp [pairsOk, nth_eq, pk_nest], ?_⟩
  refine ih (j + 1) _ _ Q hd' ?_ ?_ q8 (fun es m' e p1 p3 p4 => hq es m' e ?_ p3 ?_)
  ·show lo ≤ m2.next; omega
  ·show h3 < m2.next; omega
  ·have p1' : m2.next ≤ m'.next := p1
   omega
  ·rw [p4, set_ne hne]
   exact q7
structure Wm (lo b : Nat) (m0 m : Mem) (kv h14 h15 : Nat) (xs : List Int) (D : V) (c : Nat) : Prop where
 lb : lo ≤ b
 hm : b ≤ m.next
 k1 : b ≤ h14
 k2 : h14 < kv
 k3 : h14 < h15
 k4 : kv ≠ h15
 k5 : kv < m.next
 k6 : h15 < m.next
 bv : m.blk kv = some (.row 1 (xs.map vi))
 b14 : m.blk h14 = some (.row 1 [D])
 b15 : m.blk h15 = some (.row 1 [vi c])
 fr : ∀ k, k < b → m.blk k = m0.blk k
theorem w40_2 {F : Nat → Option Fn} (hA : HasA F) (hG : HasG F) {lo b : Nat} {n : Int} {N : Nat} {l : List Edge} (gr : Gr n l) (hN : n = N) (hl : l.length < 100000) (h3 h8 h14 a0 i : Nat) (h3b : h3 < b) (m0 : Mem) (b3 : m0.blk h3 = some (.row 1 [vEdges l])) (x : Edge) (hxa : x.fr = (a0 : Int)) (ha0 : a0 < N) :
  ∀ (k c : Nat) (xs : List Int) (kv h15 : Nat) (m : Mem) (Q : Ex → St → Prop), c < N → xs.length + k < 100000 → dst l c a0 = k → Wm lo b m0 m kv h14 h15 xs (ints (reachL N (fun v => dst l v a0))) c →
   (∀ kv' h15' c' m' e, Wm lo b m0 m' kv' h14 h15' (xs ++ walkE l a0 k c) (ints (reachL N (fun v => dst l v a0))) c' → m.next ≤ m'.next → Q (.exit 4) ⟨(0, vi n) :: (3, .ptr h3 0 0) :: (7, intss (bucks Edge.fr ixV N l)) :: (8, .row 1 h8 0 N) :: (11, .row 1 kv' 0 (xs ++ walkE l a0 k c).length) :: (14, .ptr h14 0 0) :: (15, .ptr h15' 0 0) :: (48, vEdges l) :: (49, vi l.length) :: (50, vi i) :: e, [(13, vEdge x)], [], m'⟩) →
   W F lo L40_2 ⟨[(0, vi n), (3, .ptr h3 0 0), (7, intss (bucks Edge.fr ixV N l)), (8, .row 1 h8 0 N), (11, .row 1 kv 0 xs.length), (14, .ptr h14 0 0), (15, .ptr h15 0 0), (48, vEdges l), (49, vi l.length), (50, vi i)], [(13, vEdge x)], [], m⟩ Q := by
 have n4 := gr.n4
 have a00 : (0 : Int) ≤ a0 := by omega
 intro k
 induction k with
 | zero =>
  intro c xs kv h15 m Q hc ho hd H hQ
  have ec : (c : Int) = a0 := dst_zero.1 hd
  have b15 := H.b15
  rw [W_L (c := L40_2) rfl]
  simp only [↓sxc, sx, se, ↓reduceIte, Nat.reduceEqDiff, Nat.reduceAdd, Nat.reduceLT, Nat.reduceLeDiff, Nat.reduceSub, Nat.reduceMul, Int.reduceToNat, Int.reduceLT, Int.reduceLE, Int.reduceEq, ml_i0, ↓smc, sm, b15, hxa, ec]
  have := hQ kv h15 c m
  simp only [walkE, List.append_nil] at this
  exact this _ H (Nat.le_refl _)
 | succ k ih =>
  intro c xs kv h15 m Q hc ho hd H hQ
  obtain ⟨j, e, h1, h2, h3', h4, h5⟩ := nxtE_some (l := l) (x := (c : Int)) (y := a0) (k := k) (by rw [hd]; push_cast; rfl)
  have ec : ¬ (c : Int) = a0 := by
   intro h
   have := (dst_zero (l := l)).2 h
   omega
  obtain ⟨a, b2, ha, hb, ha2, hb2⟩ := gr.e e (List.mem_of_getElem? h2)
  have bN : b2 < N := by omega
  have b15 := H.b15
  have b14 := H.b14
  have b3' : m.blk h3 = some (.row 1 [vEdges l]) := by rw [H.fr h3 h3b]; exact b3
  have hD : dst l c a0 ≤ N ∧ -1 ≤ dst l c a0 := ⟨Int.le_of_lt (dst_lt gr hN hc), dist_ge⟩
  let L := buck Edge.fr ixV l 0 c
  have hLl : L.length ≤ l.length := buck_len
  have c106 : ∀ {lo m'}, m'.blk = m.blk → callw F 106 [ints L, .fn 107 [.ptr h14 0 0, .ptr h3 0 0, .ptr h15 0 0]] lo m' = some (vi (idxP (fun i => decide (dst l (toAt l i) a0 = dst l c a0 - 1)) L 0), m') := fun {lo m'} hm' => by
   refine sx106m hA L (by decide) (fun y hy lo => ?_) (by omega)
   obtain ⟨j2, e2, rfl, hj2, _⟩ := buck_ix_mem (p := l) (k := 0) (fun j => by rw [Nat.zero_add]) hy
   exact sp107 hG gr hN (fun v => dst l v a0) hj2 hc hD (by rw [hm']; exact b14) (by rw [hm']; exact b3') (by rw [hm']; exact b15)
  obtain ⟨pos, p1, p2⟩ := buck_pick (l := l) (w := (c : Int)) (q := fun e => decide (dst l e.to a0 = (k : Int))) (q' := fun i => decide (dst l (toAt l i) a0 = dst l c a0 - 1)) (p := l) (k := 0) (s := 0) (fun j => by rw [Nat.zero_add]) (fun j e hj => by
   have : toAt l ((j : Nat) : Int) = e.to := by simp only [toAt, Int.toNat_natCast, hj]
   rw [this, hd]
   congr 1
   apply propext
   push_cast
   omega) (by
    have : 0 ≤ nxtE l c a0 k := by rw [h1]; omega
    exact this)
  have ei : idxP (fun e => decide (e.fr = (c : Int)) && decide (dst l e.to a0 = (k : Int))) l 0 = (j : Int) := h1
  rw [ei] at p2
  rw [Nat.zero_add] at p1
  have c106' : ∀ {lo m'}, m'.blk = m.blk → callw F 106 [ints (buck Edge.fr ixV l 0 c), .fn 107 [.ptr h14 0 0, .ptr h3 0 0, .ptr h15 0 0]] lo m' = some (vi pos, m') := fun {lo m'} hm' => by
   rw [← p1]
   exact c106 hm'
  have c106b : callw F 106 [ints (buck Edge.fr ixV l 0 c), .fn 107 [.ptr h14 0 0, .ptr h3 0 0, .ptr h15 0 0]] lo (m.bump 13) = some (vi pos, m.bump 13) := c106' rfl
  have gb : (bucks Edge.fr ixV N l)[c]? = some (buck Edge.fr ixV l 0 c) := bucks_get hc
  have c0 : (0 : Int) ≤ c := by omega
  have cn : ((c : Nat) : Int).toNat = c := rfl
  have q0 : (0 : Int) ≤ pos := by omega
  have qn : ((pos : Nat) : Int).toNat = pos := rfl
  have j0 : (0 : Int) ≤ j := by omega
  have jn : ((j : Nat) : Int).toNat = j := rfl
  have hlo : lo ≤ kv := by have := H.lb; have := H.k1; have := H.k2; omega
  have hlo15 : lo ≤ h15 := by have := H.lb; have := H.k1; have := H.k3; omega
  have k2 := H.k2
  have k3 := H.k3
  have k4 := H.k4
  have k5 := H.k5
  have k6 := H.k6
  have k1 := H.k1
  have ap := ap_row (m := m.bump 13) (lo := lo) (h := m.next + 13) (h' := kv) (o := 0) (l := xs.length) (sz := 1) (s := 1) (y := .lst false 1 [vi j]) (xs := [vi j]) (es := xs.map vi) vw_lst hlo (.inl rfl) (by simp [big]; omega) H.bv (by simp)
  have e1 : (List.take xs.length (List.drop 0 (xs.map vi)) ++ [vi j]) = (xs ++ [(j : Int)]).map vi := by rw [List.drop_zero, List.take_of_length_le (by simp), List.map_append]; rfl
  have e2 : xs.length + [vi j].length = (xs ++ [(j : Int)]).length := by simp
  rw [e1, e2] at ap
  let m1 : Mem := (((m.bump 13).set kv none).set (m.next + 13) (some (.row 1 ((xs ++ [(j : Int)]).map vi)))).bump 1
  have em1 : (((m.bump 13).set kv none).set (m.next + 13) (some (.row 1 ((xs ++ [(j : Int)]).map vi)))).bump 1 = m1 := rfl
  have n1 : m1.next = m.next + 14 := rfl
  have bv1 : m1.blk (m.next + 13) = some (.row 1 ((xs ++ [(j : Int)]).map vi)) := by show (((m.bump 13).set kv none).set (m.next + 13) _).blk _ = _; simp [Mem.set]
  have f1 : ∀ k, k ≠ kv → k < m.next → m1.blk k = m.blk k := fun k h1 h2 => by
   show (((m.bump 13).set kv none).set (m.next + 13) _).blk _ = _
   rw [set_ne (by omega), set_ne h1]
   rfl
  clear_value m1
  have b15' : m1.blk h15 = some (.row 1 [vi c]) := by rw [f1 h15 (Ne.symm k4) k6]; exact b15
  have b14' : m1.blk h14 = some (.row 1 [ints (reachL N (fun v => dst l v a0))]) := by rw [f1 h14 (by omega) (by omega)]; exact b14
  have b3m : m1.blk h3 = some (.row 1 [vEdges l]) := by rw [f1 h3 (by omega) (by omega)]; exact b3'
  let m2 : Mem := m1.set h15 (some (.row 1 [vi b2]))
  have em2 : m1.set h15 (some (.row 1 [vi b2])) = m2 := rfl
  have n2 : m2.next = m1.next := rfl
  have f2 : ∀ k, k ≠ h15 → m2.blk k = m1.blk k := fun k h => set_ne h
  have b152 : m2.blk h15 = some (.row 1 [vi b2]) := by show (m1.set h15 _).blk h15 = _; simp [Mem.set]
  clear_value m2
  let m3 : Mem := (m2.set m2.next (some (.row 1 [vi 0]))).bump 1
  have em3 : (m2.set m2.next (some (.row 1 [vi 0]))).bump 1 = m3 := rfl
  have n3 : m3.next = m2.next + 1 := rfl
  have f3 : ∀ k, k ≠ m2.next → m3.blk k = m2.blk k := fun k h => set_ne h
  have b153 : m3.blk m2.next = some (.row 1 [vi 0]) := by show (m2.set _ _).blk _ = _; simp [Mem.set]
  clear_value m3
  let m4 : Mem := m3.set m2.next (some (.row 1 [vi b2]))
  have em4 : m3.set m2.next (some (.row 1 [vi b2])) = m4 := rfl
  have n5 : m4.next = m3.next := rfl
  have f4 : ∀ k, k ≠ m2.next → m4.blk k = m3.blk k := fun k h => set_ne h
  have b154 : m4.blk m2.next = some (.row 1 [vi b2]) := by show (m3.set _ _).blk _ = _; simp [Mem.set]
  clear_value m4
  have hlo2 : lo ≤ m2.next := by omega
  rw [W_L (c := L40_2) rfl]
  simp only [↓sxc, sx, se, ↓reduceIte, Nat.reduceEqDiff, Nat.reduceAdd, Nat.reduceLT, Nat.reduceLeDiff, Nat.reduceSub, Nat.reduceMul, Int.reduceToNat, Int.reduceLT, Int.reduceLE, Int.reduceEq, ml_i0, ↓smc, sm, b15, hxa, ec, ia_intss, gb, c0, cn, c106b, q0, qn, p2, ap, em1, b3m, b15', j0, jn, h2, hb, hlo15, em2, b152, em3, b153, hlo2, em4]
  refine ih b2 (xs ++ [(j : Int)]) (m.next + 13) m2.next m4 Q bN (by simp; omega) (by rw [← hb]; exact h4) ⟨H.lb, by have := H.hm; omega, k1, by omega, by omega, by omega, by omega, by omega, ?_, ?_, b154, fun k hk => ?_⟩ (fun kv2 h152 c2 m' e2' q1 q2 => ?_)
  ·rw [f4 _ (by omega), f3 _ (by omega), f2 _ (by omega)]
   exact bv1
  ·rw [f4 _ (by omega), f3 _ (by omega), f2 _ (by omega)]
   exact b14'
  ·rw [f4 _ (by have := H.hm; omega), f3 _ (by have := H.hm; omega), f2 _ (by omega), f1 k (by omega) (by have := H.hm; omega)]
   exact H.fr k hk
  ·have ew : xs ++ walkE l a0 (k + 1) c = xs ++ [(j : Int)] ++ walkE l a0 k b2 := by
    show xs ++ (nxtE l c a0 k :: walkE l a0 k (toAt l (nxtE l c a0 k))) = _
    rw [h5, h1, hb, List.append_assoc]
    rfl
   have := hQ kv2 h152 c2 m' e2' (by rw [ew]; exact q1) (by omega)
   rw [ew] at this
   exact this
theorem bestS_cons {l t : List Edge} {x : Edge} {i : Nat} {b : Int × Int} : bestS l (x :: t) i b = bestS l t (i + 1) (if 0 < lenE l x ∧ (b.2 < 0 ∨ lenE l x < b.2) then ((i : Int), lenE l x) else b) := rfl
noncomputable def cycB (l : List Edge) (b : Int × Int) : List Int := if b.1 < 0 then [] else b.1 :: walkE l (frAt l b.1) (b.2 - 1).toNat (toAt l b.1)
theorem cycB_len {l : List Edge} {b : Int × Int} (H : Bst l b) : (b.2 < 0 ∧ cycB l b = []) ∨ (0 < b.2 ∧ ((cycB l b).length : Int) = b.2 ∧ cycB l b ≠ []) := by
 rcases H with ⟨h1, h2⟩ | ⟨j, e, h1, h2, h3, h4⟩
 ·exact .inl ⟨by omega, by unfold cycB; rw [if_pos (by omega)]⟩
 ·refine .inr ⟨h4, ?_, ?_⟩
  ·unfold cycB
   rw [if_neg (by omega), List.length_cons, walkE_len]
   omega
  ·unfold cycB
   rw [if_neg (by omega)]
   simp
theorem w40_3 {F : Nat → Option Fn} (hA : HasA F) (hG : HasG F) {lo b h3 h8 : Nat} {n : Int} {N : Nat} {l : List Edge} (gr : Gr n l) (hN : n = N) (hl : l.length < 90000) (m0 : Mem) (hm0 : m0.next = b) (hlo : lo ≤ b) (h3b : h3 < b) (b3 : m0.blk h3 = some (.row 1 [vEdges l])) {es : List V} (H8 : NestB lo m0 h8 h3 (bucks Edge.to ixV N l) es) (h38 : h3 ≠ h8) :
  ∀ (t : List Edge) (i : Nat) (bs : Int × Int) (v : V) (m : Mem) (Q : Ex → St → Prop), l.drop i = t → Bst l bs → b ≤ m.next → (∀ k, k < b → m.blk k = m0.blk k) → Qs lo m b v (cycB l bs) → (cycB l bs = [] → v = .nil) →
   (∀ v m' e, m.next ≤ m'.next → Qs lo m' b v (cycB l (bestS l t i bs)) → Q (.exit 2) ⟨(0, vi n) :: (3, .ptr h3 0 0) :: (7, intss (bucks Edge.fr ixV N l)) :: (8, .row 1 h8 0 N) :: (11, v) :: e, [], [], m'⟩) →
   W F lo L40_3 ⟨[(0, vi n), (3, .ptr h3 0 0), (7, intss (bucks Edge.fr ixV N l)), (8, .row 1 h8 0 N), (11, v), (48, vEdges l), (49, vi l.length), (50, vi i)], [], [], m⟩ Q := by
 have n4 := gr.n4
 intro t
 induction t with
 | nil =>
  intro i bs v m Q hd hb hm hf hq hv hQ
  have hlt := drop_nil hd
  rw [W_L (c := L40_3) rfl]
  have : ¬ ((i : Nat) : Int) < (l.length : Int) := by omega
  simp only [↓sxc, sx, se, ↓reduceIte, Nat.reduceEqDiff, Nat.reduceAdd, Nat.reduceLT, Nat.reduceLeDiff, Nat.reduceSub, Nat.reduceMul, Int.reduceToNat, Int.reduceLT, Int.reduceLE, Int.reduceEq, ml_i0, ↓smc, sm, this]
  exact hQ v m _ (Nat.le_refl _) hq
 | cons x t ih =>
  intro i bs v m Q hd hb hm hf hq hv hQ
  obtain ⟨hg, hd', hlt⟩ := drop_cons hd
  obtain ⟨a, c, ha, hc, ha2, hc2⟩ := gr.e x (List.mem_of_getElem? hg)
  have aN : a < N := by omega
  have cN : c < N := by omega
  have hs := hb.step hg
  rw [bestS_cons] at hQ
  have c0 : ((i : Nat) : Int) < (l.length : Int) := by omega
  have wr : wrapF .i64 ((i : Int) + 1) = ((i + 1 : Nat) : Int) := by rw [wr_i64 (by omega) (by omega)]; rfl
  have b3' : m.blk h3 = some (.row 1 [vEdges l]) := by rw [hf h3 h3b]; exact b3
  have Hm : NestB lo m h8 h3 (bucks Edge.to ixV N l) es := H8.mono (by omega) (fun k _ hk => hf k (by omega)) (Ne.symm h38)
  have c105 : ∀ {lo}, callw F 105 [vi n, vEdges l, .row 1 h8 0 N, vi a] lo m = some (ints (reachL N (fun v => dst l v a)), m) := fun {lo} => sp105 hG gr hN (by omega) aN Hm
  let D := ints (reachL N (fun v => dst l v a))
  let m1 : Mem := (m.set m.next (some (.row 1 [.nil]))).bump 1
  have em1 : (m.set m.next (some (.row 1 [.nil]))).bump 1 = m1 := rfl
  have n1 : m1.next = m.next + 1 := rfl
  have f1 : ∀ k, k ≠ m.next → m1.blk k = m.blk k := fun k h => set_ne h
  have b1 : m1.blk m.next = some (.row 1 [.nil]) := by show (m.set m.next _).blk m.next = _; simp [Mem.set]
  clear_value m1
  let m2 : Mem := m1.set m.next (some (.row 1 [ints (reachL N (fun v => dst l v a))]))
  have em2 : m1.set m.next (some (.row 1 [ints (reachL N (fun v => dst l v a))])) = m2 := rfl
  have n2 : m2.next = m1.next := rfl
  have f2 : ∀ k, k ≠ m.next → m2.blk k = m1.blk k := fun k h => set_ne h
  have b14 : m2.blk m.next = some (.row 1 [ints (reachL N (fun v => dst l v a))]) := by show (m1.set m.next _).blk m.next = _; simp [Mem.set]
  clear_value m2
  have hlo14 : lo ≤ m.next := by omega
  have gD : (reachL N (fun v => dst l v a))[c]? = some (dst l c a) := reachL_get cN
  have c00 : (0 : Int) ≤ c := by omega
  have cn : ((c : Nat) : Int).toNat = c := rfl
  have hDb : dst l c a < N := dst_lt gr hN cN
  have hDb2 : -1 ≤ dst l c a := dist_ge
  have w1 : wrapF .i64 (dst l c a + 1) = dst l c a + 1 := wr_i64 (by omega) (by omega)
  have fm2 : ∀ k, k < b → m2.blk k = m0.blk k := fun k hk => by rw [f2 k (by omega), f1 k (by omega)]; exact hf k hk
  have hq2 : Qs lo m2 b v (cycB l bs) := hq.mono (by omega) (fun k _ hk => by rw [f2 k (by omega), f1 k (by omega)])
  have hle : lenE l x = if dst l c a < 0 then -1 else dst l c a + 1 := by unfold lenE; rw [ha, hc]
  by_cases h1 : dst l c a < 0
  ·have hn : ¬ (0 < lenE l x ∧ (bs.2 < 0 ∨ lenE l x < bs.2)) := by rw [hle, if_pos h1]; omega
   rw [if_neg hn] at hs hQ
   rw [W_L (c := L40_3) rfl]
   simp only [↓sxc, sx, se, ↓reduceIte, Nat.reduceEqDiff, Nat.reduceAdd, Nat.reduceLT, Nat.reduceLeDiff, Nat.reduceSub, Nat.reduceMul, Int.reduceToNat, Int.reduceLT, Int.reduceLE, Int.reduceEq, ml_i0, ↓W_dreg, ↓sk, sk, ↓smc, sm, c0, hg, b3', ha, hc, c105, em1, hlo14, b1, em2, b14, c00, cn, gD, h1, wr]
   exact ih (i + 1) bs v m2 Q hd' hs (by omega) fm2 hq2 hv (fun v m' e q1 q2 => hQ v m' e (by omega) q2)
  ·have hlx : lenE l x = dst l c a + 1 := by rw [hle, if_neg h1]
   obtain ⟨k, hk⟩ : ∃ k : Nat, dst l c a = k := ⟨(dst l c a).toNat, by omega⟩
   have ecb : cycB l ((i : Int), lenE l x) = (i : Int) :: walkE l a k c := by
    unfold cycB
    rw [if_neg (by show ¬ (i : Int) < 0; omega), show ((lenE l x) - 1).toNat = k by omega]
    simp only [frAt, toAt, Int.toNat_natCast, hg, ha, hc]
   let m3 : Mem := (m2.set m2.next (some (.row 1 [vi i]))).bump 1
   have em3 : (m2.set m2.next (some (.row 1 [vi i]))).bump 1 = m3 := rfl
   have n3 : m3.next = m2.next + 1 := rfl
   have f3 : ∀ k, k ≠ m2.next → m3.blk k = m2.blk k := fun k h => set_ne h
   have b33 : m3.blk m2.next = some (.row 1 [vi i]) := by show (m2.set m2.next _).blk m2.next = _; simp [Mem.set]
   clear_value m3
   let m4 : Mem := (m3.set m3.next (some (.row 1 [vi 0]))).bump 1
   have em4 : (m3.set m3.next (some (.row 1 [vi 0]))).bump 1 = m4 := rfl
   have n5 : m4.next = m3.next + 1 := rfl
   have f4 : ∀ k, k ≠ m3.next → m4.blk k = m3.blk k := fun k h => set_ne h
   have b44 : m4.blk m3.next = some (.row 1 [vi 0]) := by show (m3.set m3.next _).blk m3.next = _; simp [Mem.set]
   clear_value m4
   let m5 : Mem := m4.set m3.next (some (.row 1 [vi c]))
   have em5 : m4.set m3.next (some (.row 1 [vi c])) = m5 := rfl
   have n6 : m5.next = m4.next := rfl
   have f5 : ∀ k, k ≠ m3.next → m5.blk k = m4.blk k := fun k h => set_ne h
   have b55 : m5.blk m3.next = some (.row 1 [vi c]) := by show (m4.set m3.next _).blk m3.next = _; simp [Mem.set]
   clear_value m5
   have hlo3 : lo ≤ m3.next := by omega
   have fin : ∀ (Q1 : Ex → St → Prop), (∀ v m' e, m.next ≤ m'.next → Qs lo m' b v (cycB l ((i : Int), lenE l x)) → (∀ k, k < b → m'.blk k = m0.blk k) → ∀ p14 p15, Q1 (.exit 4) ⟨(0, vi n) :: (3, .ptr h3 0 0) :: (7, intss (bucks Edge.fr ixV N l)) :: (8, .row 1 h8 0 N) :: (11, v) :: (14, p14) :: (15, p15) :: (48, vEdges l) :: (49, vi l.length) :: (50, vi i) :: e, [(13, vEdge x)], [], m'⟩) →
     W F lo L40_2 ⟨[(0, vi n), (3, .ptr h3 0 0), (7, intss (bucks Edge.fr ixV N l)), (8, .row 1 h8 0 N), (11, .row 1 m2.next 0 1), (14, .ptr m.next 0 0), (15, .ptr m3.next 0 0), (48, vEdges l), (49, vi l.length), (50, vi i)], [(13, vEdge x)], [], m5⟩ Q1 := by
    intro Q1 hq1
    refine w40_2 hA hG (b := b) gr hN (by omega) h3 h8 m.next a i h3b m0 b3 x ha aN k c [(i : Int)] m2.next m3.next m5 Q1 cN (by simp; omega) hk ⟨hlo, by omega, hm, by omega, by omega, by omega, by omega, by omega, ?_, ?_, b55, fun k hk => ?_⟩ (fun kv' h15' c' m' e q1 q2 => ?_)
    ·rw [f5 _ (by omega), f4 _ (by omega)]
     exact b33
    ·rw [f5 _ (by omega), f4 _ (by omega), f3 _ (by omega)]
     exact b14
    ·rw [f5 _ (by omega), f4 _ (by omega), f3 _ (by omega)]
     exact fm2 k hk
    ·have q1' := q1
     rw [List.singleton_append, ← ecb] at q1'
     have := hq1 (.row 1 kv' 0 (cycB l ((i : Int), lenE l x)).length) m' e (by omega) ⟨.inr ⟨kv', by rw [List.length_map], ?_, q1'.k5, q1'.bv⟩, fun j hj => ?_, q1'.hm⟩ q1'.fr (.ptr m.next 0 0) (.ptr h15' 0 0)
     ·rw [ecb] at this
      exact this
     ·have := q1.k2; omega
     ·cases hj
      have := q1.k2; omega
   have fx : V.agg [V.int .i64 (a : Int), V.int .i64 (c : Int), V.int .i64 x.cls, V.int .i64 x.step] = vEdge x := by rw [← ha, ← hc]; rfl
   have ne : cycB l ((i : Int), lenE l x) ≠ [] := by rw [ecb]; simp
   rcases cycB_len hb with ⟨h2, h3'⟩ | ⟨h2, h3', h4⟩
   ·have hp : 0 < lenE l x ∧ (bs.2 < 0 ∨ lenE l x < bs.2) := ⟨by omega, .inl h2⟩
    rw [if_pos hp] at hs hQ
    have hv' := hv h3'
    subst hv'
    rw [W_L (c := L40_3) rfl]
    simp only [↓sxc, sx, se, ↓reduceIte, Nat.reduceEqDiff, Nat.reduceAdd, Nat.reduceLT, Nat.reduceLeDiff, Nat.reduceSub, Nat.reduceMul, Int.reduceToNat, Int.reduceLT, Int.reduceLE, Int.reduceEq, ml_i0, ↓W_dreg, ↓sk, sk, ↓smc, sm, c0, hg, b3', ha, hc, c105, em1, hlo14, b1, em2, b14, c00, cn, gD, h1, em3, em4, b44, hlo3, em5, fx]
    refine fin _ (fun v m' e q1 q2 q3 p14 p15 => ?_)
    simp only [↓sxc, sx, se, ↓reduceIte, Nat.reduceEqDiff, Nat.reduceAdd, Nat.reduceLT, Nat.reduceLeDiff, Nat.reduceSub, Nat.reduceMul, Int.reduceToNat, Int.reduceLT, Int.reduceLE, Int.reduceEq, ml_i0, ↓smc, sm, wr]
    exact ih (i + 1) ((i : Int), lenE l x) v m' Q hd' hs (by omega) q3 q2 (fun h => absurd h ne) (fun v m2 e z1 z2 => hQ v m2 e (by omega) z2)
   ·obtain ⟨kv, rfl, r1, r2, r3, r4⟩ := hq2.row h4
    by_cases h5 : ((cycB l bs).length : Int) ≤ dst l c a + 1
    ·have hn : ¬ (0 < lenE l x ∧ (bs.2 < 0 ∨ lenE l x < bs.2)) := by omega
     rw [if_neg hn] at hs hQ
     rw [W_L (c := L40_3) rfl]
     simp only [↓sxc, sx, se, ↓reduceIte, Nat.reduceEqDiff, Nat.reduceAdd, Nat.reduceLT, Nat.reduceLeDiff, Nat.reduceSub, Nat.reduceMul, Int.reduceToNat, Int.reduceLT, Int.reduceLE, Int.reduceEq, ml_i0, ↓W_dreg, ↓sk, sk, ↓smc, sm, c0, hg, b3', ha, hc, c105, em1, hlo14, b1, em2, b14, c00, cn, gD, h1, w1, h5, wr]
     exact ih (i + 1) bs _ m2 Q hd' hs (by omega) fm2 hq2 hv (fun v m' e q1 q2 => hQ v m' e (by omega) q2)
    ·have hp : 0 < lenE l x ∧ (bs.2 < 0 ∨ lenE l x < bs.2) := ⟨by omega, .inr (by omega)⟩
     rw [if_pos hp] at hs hQ
     rw [W_L (c := L40_3) rfl]
     simp only [↓sxc, sx, se, ↓reduceIte, Nat.reduceEqDiff, Nat.reduceAdd, Nat.reduceLT, Nat.reduceLeDiff, Nat.reduceSub, Nat.reduceMul, Int.reduceToNat, Int.reduceLT, Int.reduceLE, Int.reduceEq, ml_i0, ↓W_dreg, ↓sk, sk, ↓smc, sm, c0, hg, b3', ha, hc, c105, em1, hlo14, b1, em2, b14, c00, cn, gD, h1, w1, h5, em3, em4, b44, hlo3, em5, fx]
     refine fin _ (fun v m' e q1 q2 q3 p14 p15 => ?_)
     simp only [↓sxc, sx, se, ↓reduceIte, Nat.reduceEqDiff, Nat.reduceAdd, Nat.reduceLT, Nat.reduceLeDiff, Nat.reduceSub, Nat.reduceMul, Int.reduceToNat, Int.reduceLT, Int.reduceLE, Int.reduceEq, ml_i0, ↓smc, sm, wr]
     exact ih (i + 1) ((i : Int), lenE l x) v m' Q hd' hs (by omega) q3 q2 (fun h => absurd h ne) (fun v m2 e z1 z2 => hQ v m2 e (by omega) z2)
theorem sp40 {F : Nat → Option Fn} (hA : HasA F) (hG : HasG F) {lo : Nat} {m : Mem} (n : Int) (l : List Edge) (hl : l.length < 90000) : callw F 40 [vi n, vEdges l] lo m = some (.tup [ints (cycE n l).1, vi (cycE n l).2], m) := by
 have c102 : ∀ {lo m}, callw F 102 [vi n, vEdges l] lo m = some (vi (chkG n l), m) := fun {lo m} => sp102 hG n l (by omega)
 have b3 : (m.set m.next (some (.row 1 [vEdges l]))).blk m.next = some (.row 1 [vEdges l]) := by simp [Mem.set]
 refine call_p hG.h40 rfl ?_
 by_cases h0 : chkG n l = 0
 ·have gr := gr_of h0
  obtain ⟨N, hN⟩ : ∃ N : Nat, n = N := ⟨n.toNat, by have := gr.n0; omega⟩
  have n4 := gr.n4
  have b1 : 0 ≤ (n : Int) ∧ (n : Int) < big := by simp [big]; omega
  have tn : n.toNat = N := by omega
  have c103 : ∀ {lo m}, callw F 103 [vi n, vEdges l] lo m = some (intss (bucks Edge.fr ixV N l), m) := fun {lo m} => sp103 hG gr hN (by omega)
  have b3b : ((m.set m.next (some (.row 1 [vEdges l]))).bump (1 + 7)).blk m.next = some (.row 1 [vEdges l]) := b3
  simp only [↓sxc, sx, se, ↓reduceIte, Nat.reduceEqDiff, Nat.reduceAdd, Nat.reduceLT, Nat.reduceLeDiff, Nat.reduceSub, Nat.reduceMul, Int.reduceToNat, Int.reduceLT, Int.reduceLE, Int.reduceEq, ml_i0, ↓W_dreg, ↓sk, sk, ↓smc, sm, b3, b3b, c102, h0, c103, b1, tn]
  refine ⟨by simp [pairsOk, nth_eq, keysApart, Key.apart]; omega, ?_⟩
  have b3c : (((m.set m.next (some (.row 1 [vEdges l]))).bump 8).set (m.next + 1 + 4) (some (.row 1 (List.replicate N .nil)))).blk m.next = some (.row 1 [vEdges l]) := by rw [set_ne (by omega)]; exact b3
  simp only [↓sxc, sx, se, ↓reduceIte, Nat.reduceEqDiff, Nat.reduceAdd, Nat.reduceLT, Nat.reduceLeDiff, Nat.reduceSub, Nat.reduceMul, Int.reduceToNat, Int.reduceLT, Int.reduceLE, Int.reduceEq, ml_i0, ↓smc, sm, b3c]
  refine w40_1 l gr (by omega) N hN m.next (m.next + 1 + 4) (by omega) _ _ l 0 (List.replicate N .nil) _ _ rfl ?_ ?_ (NestB.start ?_ ?_ ?_) (fun es m1 e p1 p2 p3 => ?_)
  ·show m.next ≤ m.next + 8; omega
  ·show m.next < m.next + 8; omega
  ·omega
  ·show m.next + 1 + 4 < m.next + 8; omega
  ·simp [Mem.set]
  have b31 : m1.blk m.next = some (.row 1 [vEdges l]) := by
   rw [p3, set_ne (by omega)]
   exact b3
  have p1' : m.next + 8 ≤ m1.next := p1
  simp only [↓sxc, sx, se, ↓reduceIte, Nat.reduceEqDiff, Nat.reduceAdd, Nat.reduceLT, Nat.reduceLeDiff, Nat.reduceSub, Nat.reduceMul, Int.reduceToNat, Int.reduceLT, Int.reduceLE, Int.reduceEq, ml_i0, ↓smc, sm, b31]
  refine w40_3 hA hG gr hN hl m1 rfl (by omega) (by omega) b31 p2 (by omega) l 0 (-1, -1) .nil m1 _ rfl (.inl ⟨rfl, rfl⟩) (Nat.le_refl _) (fun _ _ => rfl) ⟨.nil, fun k hk => (by cases hk), Nat.le_refl _⟩ (fun _ => rfl) (fun v m2 e q1 q2 => ?_)
  have ec : cycE n l = (cycB l (bestE l), 0) := by
   unfold cycE cycB
   rw [if_neg (by simpa using h0)]
   split <;> rfl
  have eb : bestS l l 0 (-1, -1) = bestE l := rfl
  rw [eb] at q2
  rw [ec]
  have fz := fz_rw (lo := m.next) (n := 5) q2.rw
  simp only [↓sxc, sx, se, ↓reduceIte, Nat.reduceEqDiff, Nat.reduceAdd, Nat.reduceLT, Nat.reduceLeDiff, Nat.reduceSub, Nat.reduceMul, Int.reduceToNat, Int.reduceLT, Int.reduceLE, Int.reduceEq, ml_i0, ↓smc, sm]
  simp only [mapO, fz, fz_int]
  rfl
 ·have ec : cycE n l = ([], chkG n l) := by unfold cycE; rw [if_pos h0]
  rw [ec]
  simp only [↓sxc, sx, se, ↓reduceIte, Nat.reduceEqDiff, Nat.reduceAdd, Nat.reduceLT, Nat.reduceLeDiff, Nat.reduceSub, Nat.reduceMul, Int.reduceToNat, Int.reduceLT, Int.reduceLE, Int.reduceEq, ml_i0, ↓smc, sm, b3, c102, h0]
  rfl
end Go.Am
namespace Go.Am
open Go
set_option linter.unusedSimpArgs false
set_option linter.unusedVariables false
theorem Wk.trans {l : List Edge} {y z : Int} : ∀ {j k : Nat} {x : Int}, Wk l j x y → Wk l k y z → Wk l (j + k) x z
 | 0, k, x, h1, h2 => by
  have : x = y := h1
  subst this
  simpa using h2
 | j + 1, k, x, ⟨e, he, h3, h4⟩, h2 => by
  rw [show j + 1 + k = (j + k) + 1 by omega]
  exact ⟨e, he, h3, Wk.trans h4 h2⟩
def Acyc (l : List Edge) : Prop := ∀ (k : Nat) (x : Int), ¬ Wk l (k + 1) x x
theorem wk_fall {l : List Edge} {f : Int → Int} (hf : ∀ e ∈ l, f e.to + 1 ≤ f e.fr) : ∀ {k : Nat} {x y : Int}, Wk l k x y → f y + k ≤ f x
 | 0, x, y, h => by
  have : x = y := h
  subst this
  simp
 | k + 1, x, y, ⟨e, he, h1, h2⟩ => by
  have h3 := wk_fall hf h2
  have h4 := hf e he
  rw [h1] at h4
  push_cast
  omega
theorem acyc_of {l : List Edge} {f : Int → Int} (hf : ∀ e ∈ l, f e.to + 1 ≤ f e.fr) : Acyc l := fun k x h => by
 have := wk_fall hf h
 omega
theorem LevEq.acyc {N : Nat} {l : List Edge} {f : List Int} (h : LevEq N l f) : Acyc l := acyc_of (f := gAt f) h.ge
theorem acyc_chain {n : Int} {N : Nat} {l : List Edge} (gr : Gr n l) (hN : n = N) (hA : Acyc l) : ∀ {k : Nat} {x y : Int}, Wk l k x y → (∃ v : Nat, x = v ∧ v < N) → ∃ xs : List Int, xs.length = k + 1 ∧ xs.Nodup ∧ (∀ z ∈ xs, ∃ v : Nat, z = v ∧ v < N) ∧ ∀ z ∈ xs, ∃ j, Wk l j x z
 | 0, x, y, h, hx => ⟨[x], rfl, by simp, by simpa using hx, fun z hz => ⟨0, by simp at hz; exact hz.symm⟩⟩
 | k + 1, x, y, ⟨e, he, h1, h2⟩, hx => by
  obtain ⟨a, b, h3, h4, h5, h6⟩ := gr.e e he
  obtain ⟨xs, q1, q2, q3, q4⟩ := acyc_chain gr hN hA h2 ⟨b, h4, by omega⟩
  refine ⟨x :: xs, by simp [q1], List.nodup_cons.2 ⟨fun hc => ?_, q2⟩, fun z hz => ?_, fun z hz => ?_⟩
  ·obtain ⟨j, hj⟩ := q4 x hc
   exact hA j x ⟨e, he, h1, hj⟩
  ·rcases List.mem_cons.1 hz with rfl | hz
   ·exact hx
   ·exact q3 z hz
  ·rcases List.mem_cons.1 hz with rfl | hz
   ·exact ⟨0, rfl⟩
   ·obtain ⟨j, hj⟩ := q4 z hz
    exact ⟨j + 1, e, he, h1, hj⟩
theorem acyc_short {n : Int} {N : Nat} {l : List Edge} (gr : Gr n l) (hN : n = N) (hA : Acyc l) {k : Nat} {x y : Int} (h : Wk l k x y) (hx : ∃ v : Nat, x = v ∧ v < N) : k < N := by
 obtain ⟨xs, q1, q2, q3, _⟩ := acyc_chain gr hN hA h hx
 have := nodup_le (ys := (List.range N).map fun (v : Nat) => (v : Int)) q2 (fun z hz => by
  obtain ⟨v, rfl, hv⟩ := q3 z hz
  exact List.mem_map.2 ⟨v, by simpa using hv, rfl⟩)
 simp at this
 omega
def lw (l : List Edge) : Nat → Int → Int
 | 0, _ => 0
 | k + 1, v => l.foldl (fun a e => if e.fr = v then max a (lw l k e.to + 1) else a) 0
theorem foldl_mx {p : Edge → Bool} {g : Edge → Int} : ∀ {l : List Edge} {a : Int}, a ≤ l.foldl (fun a e => if p e = true then max a (g e) else a) a ∧ (∀ e ∈ l, p e = true → g e ≤ l.foldl (fun a e => if p e = true then max a (g e) else a) a) ∧
  (l.foldl (fun a e => if p e = true then max a (g e) else a) a = a ∨ ∃ e ∈ l, p e = true ∧ l.foldl (fun a e => if p e = true then max a (g e) else a) a = g e)
 | [], a => ⟨Int.le_refl _, by simp, .inl rfl⟩
 | x :: l, a => by
  obtain ⟨h1, h2, h3⟩ := foldl_mx (p := p) (g := g) (l := l) (a := if p x = true then max a (g x) else a)
  simp only [List.foldl_cons]
  generalize hr : List.foldl (fun a e => if p e = true then max a (g e) else a) (if p x = true then max a (g x) else a) l = r at h1 h2 h3
  by_cases hp : p x = true
  ·rw [if_pos hp] at h1 h3
   refine ⟨by omega, fun e he hpe => ?_, ?_⟩
   ·rcases List.mem_cons.1 he with rfl | he
    ·omega
    ·exact h2 e he hpe
   ·rcases h3 with h3 | ⟨e, he, h4, h5⟩
    ·rcases Int.le_total a (g x) with h | h
     ·exact .inr ⟨x, by simp, hp, by omega⟩
     ·exact .inl (by omega)
    ·exact .inr ⟨e, by simp [he], h4, h5⟩
  ·rw [if_neg hp] at h1 h3
   refine ⟨h1, fun e he hpe => ?_, ?_⟩
   ·rcases List.mem_cons.1 he with rfl | he
    ·exact absurd hpe hp
    ·exact h2 e he hpe
   ·rcases h3 with h3 | ⟨e, he, h4, h5⟩
    ·exact .inl h3
    ·exact .inr ⟨e, by simp [he], h4, h5⟩
theorem lw_succ {l : List Edge} {k : Nat} {v : Int} : lw l (k + 1) v = l.foldl (fun a e => if (fun e : Edge => decide (e.fr = v)) e = true then max a ((fun e : Edge => lw l k e.to + 1) e) else a) 0 := by
 simp only [lw, decide_eq_true_eq]
theorem lw_ge {l : List Edge} {k : Nat} {e : Edge} (he : e ∈ l) : lw l k e.to + 1 ≤ lw l (k + 1) e.fr := by
 rw [lw_succ]
 exact foldl_mx.2.1 e he (by simp)
theorem lw_nn {l : List Edge} {k : Nat} {v : Int} : 0 ≤ lw l k v := by
 cases k with
 | zero => exact Int.le_refl _
 | succ k => rw [lw_succ]; exact foldl_mx.1
theorem lw_wit {l : List Edge} {k : Nat} {v : Int} : lw l (k + 1) v = 0 ∨ ∃ e ∈ l, e.fr = v ∧ lw l (k + 1) v = lw l k e.to + 1 := by
 rw [lw_succ]
 rcases (foldl_mx (p := fun e : Edge => decide (e.fr = v)) (g := fun e : Edge => lw l k e.to + 1) (l := l) (a := 0)).2.2 with h | ⟨e, he, h1, h2⟩
 ·exact .inl h
 ·exact .inr ⟨e, he, by simpa using h1, h2⟩
theorem foldl_congr {f g : Int → Edge → Int} : ∀ {l : List Edge} {a : Int}, (∀ e ∈ l, ∀ a, f a e = g a e) → l.foldl f a = l.foldl g a
 | [], _, _ => rfl
 | x :: l, a, h => by
  simp only [List.foldl_cons]
  rw [h x (by simp)]
  exact foldl_congr fun e he => h e (by simp [he])
theorem lw_stop {l : List Edge} : ∀ {k : Nat} {v : Int}, (∀ y, ¬ Wk l (k + 1) v y) → lw l (k + 1) v = lw l k v
 | 0, v, h => by
  rcases lw_wit (l := l) (k := 0) (v := v) with h1 | ⟨e, he, h1, _⟩
  ·exact h1
  ·exact absurd ⟨e, he, h1, rfl⟩ (h e.to)
 | k + 1, v, h => by
  show l.foldl _ 0 = l.foldl _ 0
  refine foldl_congr fun e he a => ?_
  by_cases hf : e.fr = v
  ·rw [if_pos hf, if_pos hf, lw_stop fun y hy => h y ⟨e, he, hf, hy⟩]
  ·rw [if_neg hf, if_neg hf]
theorem acyc_lev {n : Int} {N : Nat} {l : List Edge} (gr : Gr n l) (hN : n = N) (hA : Acyc l) : ∃ f, LevEq N l f := by
 have stop : ∀ v : Nat, v < N → lw l (N + 1) v = lw l N v := fun v hv => lw_stop fun y hy => by
  have := acyc_short gr hN hA hy ⟨v, rfl, hv⟩
  omega
 have g : ∀ v : Nat, v < N → gAt (reachL N (lw l N)) v = lw l N v := fun v hv => by
  have := gAt_get (xs := reachL N (lw l N)) (v := v) (by rw [reachL_len]; exact hv)
  rw [reachL_get hv] at this
  exact (Option.some.inj this).symm
 refine ⟨reachL N (lw l N), reachL_len, fun v hv => by rw [g v hv]; exact lw_nn, fun e he => ?_, fun v hv => ?_⟩
 ·obtain ⟨a, b, h1, h2, h3, h4⟩ := gr.e e he
  have h5 := lw_ge (k := N) he
  rw [h1, h2] at h5 ⊢
  rw [g a (by omega), g b (by omega), ← stop a (by omega)]
  exact h5
 ·rcases lw_wit (l := l) (k := N) (v := v) with h | ⟨e, he, h1, h2⟩
  ·exact .inl (by rw [g v hv, ← stop v hv]; exact h)
  ·obtain ⟨a, b, q1, q2, q3, q4⟩ := gr.e e he
   rw [q2] at h2
   exact .inr ⟨e, he, h1, by rw [g v hv, ← stop v hv, h2, q2, g b (by omega)]⟩
theorem lev_iff {n : Int} {N : Nat} {l : List Edge} (gr : Gr n l) (hN : n = N) : (∃ f, LevEq N l f) ↔ Acyc l := ⟨fun ⟨_, h⟩ => h.acyc, acyc_lev gr hN⟩
def edAt (l : List Edge) (i : Int) : Edge := (l[i.toNat]?).getD ⟨0, 0, 0, 0⟩
def EC : Int → List Edge → Int → Prop
 | x, [], y => x = y
 | x, e :: t, y => e.fr = x ∧ EC e.to t y
theorem EC.next {y : Int} : ∀ {es : List Edge} {x : Int} {i : Nat} {e : Edge}, EC x es y → es[i]? = some e → (∃ e', es[i + 1]? = some e' ∧ e'.fr = e.to) ∨ (i + 1 = es.length ∧ e.to = y)
 | [], _, _, _, _, h => by simp at h
 | a :: es, x, 0, e, ⟨h1, h2⟩, h => by
  simp at h
  subst h
  cases es with
  | nil => exact .inr ⟨rfl, h2⟩
  | cons b es => exact .inl ⟨b, rfl, h2.1⟩
 | a :: es, x, i + 1, e, ⟨h1, h2⟩, h => by
  rcases EC.next (i := i) h2 (by simpa using h) with h3 | ⟨h3, h4⟩
  ·exact .inl (by simpa using h3)
  ·exact .inr ⟨by simp [h3], h4⟩
theorem walk_ec {l : List Edge} {y : Int} : ∀ {k : Nat} {x : Int}, dst l x y = k → (∀ i ∈ walkE l y k x, ∃ (j : Nat) (e : Edge), i = (j : Int) ∧ l[j]? = some e) ∧ EC x ((walkE l y k x).map (edAt l)) y
 | 0, x, h => ⟨by simp [walkE], dst_zero.1 h⟩
 | k + 1, x, h => by
  obtain ⟨j, e, h1, h2, h3, h4, h5⟩ := nxtE_some (l := l) (x := x) (y := y) (k := k) (by rw [h]; push_cast; rfl)
  obtain ⟨q1, q2⟩ := walk_ec h4
  have ew : walkE l y (k + 1) x = (j : Int) :: walkE l y k e.to := by
   show nxtE l x y k :: walkE l y k (toAt l (nxtE l x y k)) = _
   rw [h5, h1]
  rw [ew]
  refine ⟨fun i hi => ?_, ?_, ?_⟩
  ·rcases List.mem_cons.1 hi with rfl | hi
   ·exact ⟨j, e, rfl, h2⟩
   ·exact q1 i hi
  ·simp only [edAt, Int.toNat_natCast, h2, Option.getD_some]
   exact h3
  ·simp only [edAt, Int.toNat_natCast, h2, Option.getD_some]
   exact q2
theorem cyc_ec {n : Int} {l : List Edge} (h0 : chkG n l = 0) : (cycE n l).2 = 0 ∧ (∀ i ∈ (cycE n l).1, ∃ (j : Nat) (e : Edge), i = (j : Int) ∧ l[j]? = some e) ∧ ((cycE n l).1 = [] ∧ (bestE l).1 < 0 ∨ (cycE n l).1 ≠ [] ∧ 0 ≤ (bestE l).1 ∧ ∃ x, EC x ((cycE n l).1.map (edAt l)) x) := by
 rcases bestE_bst (l := l) with ⟨h1, h2⟩ | ⟨j, e, h1, h2, h3, h4⟩
 ·have ec : cycE n l = ([], 0) := by unfold cycE; rw [if_neg (by simpa using h0), if_pos (by omega)]
  rw [ec]
  exact ⟨rfl, by simp, .inl ⟨rfl, by omega⟩⟩
 ·have h5 : ¬ dst l e.to e.fr < 0 := by
   intro hc
   unfold lenE at h3
   rw [if_pos hc] at h3
   omega
  obtain ⟨k, hk⟩ : ∃ k : Nat, dst l e.to e.fr = k := ⟨(dst l e.to e.fr).toNat, by omega⟩
  have h6 : (bestE l).2 = dst l e.to e.fr + 1 := by
   rw [← h3]
   unfold lenE
   rw [if_neg h5]
  have ec : cycE n l = ((j : Int) :: walkE l e.fr k e.to, 0) := by
   unfold cycE
   rw [if_neg (by simpa using h0), if_neg (by omega), h1, show ((bestE l).2 - 1).toNat = k by omega]
   simp only [frAt, toAt, Int.toNat_natCast, h2]
  obtain ⟨q1, q2⟩ := walk_ec hk
  rw [ec]
  refine ⟨rfl, fun i hi => ?_, .inr ⟨by simp, by omega, e.fr, ?_⟩⟩
  ·rcases List.mem_cons.1 hi with rfl | hi
   ·exact ⟨j, e, rfl, h2⟩
   ·exact q1 i hi
  ·show EC e.fr (edAt l (j : Int) :: (walkE l e.fr k e.to).map (edAt l)) e.fr
   have : edAt l (j : Int) = e := by simp only [edAt, Int.toNat_natCast, h2, Option.getD_some]
   rw [this]
   exact ⟨rfl, q2⟩
theorem cyc_len {n : Int} {N : Nat} {l : List Edge} (gr : Gr n l) (hN : n = N) : (cycE n l).1.length ≤ N := by
 unfold cycE
 split
 ·simp
 ·split
  ·simp
  ·rename_i h1
   rcases bestE_bst (l := l) with ⟨h2, _⟩ | ⟨j, e, h2, h3, h4, h5⟩
   ·omega
   ·obtain ⟨a, b, ha, hb, ha2, hb2⟩ := gr.e e (List.mem_of_getElem? h3)
    have h6 := dst_lt (y := e.fr) gr hN (x := b) (by omega)
    unfold lenE at h4
    rw [hb] at h4
    split at h4
    ·omega
    ·simp only [List.length_cons, walkE_len]
     omega
end Go.Am
namespace Go.Am
open Go
set_option linter.unusedSimpArgs false
set_option linter.unusedVariables false
set_option maxRecDepth 100000
theorem sys_chkG {s : Sys} (h0 : chkE s = 0) : chkG (resE s) (edgesE s) = 0 := by
 have hv := valid_of h0
 have p6 := hv.p6
 have l4 := hv.l4
 have c6 := hv.c6
 have er : resE s = s.pools.length + s.locks.length + s.cls.length := by unfold resE; rw [if_neg (by simpa using h0)]
 unfold chkG
 rw [if_neg (by omega), if_neg]
 intro hc
 obtain ⟨e, he, hb⟩ := List.any_eq_true.1 hc
 obtain ⟨⟨a, ha, ha2⟩, b, hb1, hb2⟩ := edge_rng h0 (edgesE_sub he)
 simp only [badN, Bool.or_eq_true, decide_eq_true_eq] at hb
 omega
theorem res_nat {s : Sys} : ∃ N : Nat, resE s = N ∧ (chkE s = 0 → N = s.pools.length + s.locks.length + s.cls.length) := by
 unfold resE
 split
 ·rename_i h
  exact ⟨0, rfl, fun h' => absurd h' h⟩
 ·exact ⟨s.pools.length + s.locks.length + s.cls.length, by omega, fun _ => rfl⟩
noncomputable def makE (s : Sys) : List Int × Int :=
 if chkE s ≠ 0 then ([], chkE s) else if (impA s).2.2 = true then ([], 9) else if (levE (resE s) (edgesE s)).2 ≠ 0 then ([], 20) else ((levE (resE s) (edgesE s)).1, 0)
theorem sp50 {F : Nat → Option Fn} (hA : HasA F) (hB : HasB F) (hC : HasC F) (hG : HasG F) {lo : Nat} {m : Mem} (s : Sys) : callw F 50 [vSys s] lo m = some (.tup [vCert (makE s).1, vi (makE s).2], m) := by
 have c35 : ∀ {lo m}, callw F 35 [vSys s] lo m = some (.tup [vEdges (edgesE s), vi (chkE s)], m) := fun {lo m} => sp35 hA hB s
 have c81 : ∀ {lo m}, callw F 81 [vSys s] lo m = some (.tup [vi (impA s).1, vi (impA s).2.1, .bool (impA s).2.2], m) := fun {lo m} => sp81 hA hC s
 have c29 : ∀ {lo m}, callw F 29 [vSys s] lo m = some (vi (resE s), m) := fun {lo m} => sp29 hA hB s
 refine call_p hC.h50 rfl ?_
 unfold vCert
 by_cases h0 : chkE s = 0
 ·have hl := edgesE_len' h0
  have c41 : ∀ {lo m}, callw F 41 [vi (resE s), vEdges (edgesE s)] lo m = some (.tup [ints (levE (resE s) (edgesE s)).1, vi (levE (resE s) (edgesE s)).2], m) := fun {lo m} => sp41 hG _ _ (by omega)
  cases h1 : (impA s).2.2 with
  | true =>
   have e : makE s = ([], 9) := by unfold makE; rw [if_neg (by simpa using h0), if_pos h1]
   rw [e]
   simp only [↓sxc, sx, se, ↓reduceIte, Nat.reduceEqDiff, Nat.reduceAdd, Nat.reduceLT, Nat.reduceLeDiff, Nat.reduceSub, Nat.reduceMul, Int.reduceToNat, Int.reduceLT, Int.reduceLE, Int.reduceEq, ml_i0, ↓smc, sm, c35, h0, c81, h1]
   rfl
  | false =>
   by_cases h2 : (levE (resE s) (edgesE s)).2 = 0
   ·have e : makE s = ((levE (resE s) (edgesE s)).1, 0) := by unfold makE; rw [if_neg (by simpa using h0), if_neg (by simp [h1]), if_neg (by simpa using h2)]
    rw [e]
    simp only [↓sxc, sx, se, ↓reduceIte, Nat.reduceEqDiff, Nat.reduceAdd, Nat.reduceLT, Nat.reduceLeDiff, Nat.reduceSub, Nat.reduceMul, Int.reduceToNat, Int.reduceLT, Int.reduceLE, Int.reduceEq, ml_i0, ↓smc, sm, c35, h0, c81, h1, c29, c41, h2]
    rfl
   ·have e : makE s = ([], 20) := by unfold makE; rw [if_neg (by simpa using h0), if_neg (by simp [h1]), if_pos h2]
    rw [e]
    simp only [↓sxc, sx, se, ↓reduceIte, Nat.reduceEqDiff, Nat.reduceAdd, Nat.reduceLT, Nat.reduceLeDiff, Nat.reduceSub, Nat.reduceMul, Int.reduceToNat, Int.reduceLT, Int.reduceLE, Int.reduceEq, ml_i0, ↓smc, sm, c35, h0, c81, h1, c29, c41, h2]
    rfl
 ·have e : makE s = ([], chkE s) := by unfold makE; rw [if_pos h0]
  rw [e]
  simp only [↓sxc, sx, se, ↓reduceIte, Nat.reduceEqDiff, Nat.reduceAdd, Nat.reduceLT, Nat.reduceLeDiff, Nat.reduceSub, Nat.reduceMul, Int.reduceToNat, Int.reduceLT, Int.reduceLE, Int.reduceEq, ml_i0, ↓smc, sm, c35, h0]
  rfl
noncomputable def expE (s : Sys) : List Edge := if chkE s ≠ 0 then [] else (cycE (resE s) (edgesE s)).1.map (edAt (edgesE s))
theorem sp83 {F : Nat → Option Fn} (hA : HasA F) (hB : HasB F) (hC : HasC F) (hG : HasG F) {lo : Nat} {m : Mem} (s : Sys) : callw F 83 [vSys s] lo m = some (.tup [vEdges (expE s), vi (chkE s)], m) := by
 have c35 : ∀ {lo m}, callw F 35 [vSys s] lo m = some (.tup [vEdges (edgesE s), vi (chkE s)], m) := fun {lo m} => sp35 hA hB s
 have c29 : ∀ {lo m}, callw F 29 [vSys s] lo m = some (vi (resE s), m) := fun {lo m} => sp29 hA hB s
 refine call_p hC.h83 rfl ?_
 by_cases h0 : chkE s = 0
 ·have hl := edgesE_len' h0
  have hg := sys_chkG h0
  obtain ⟨N, hN, _⟩ := res_nat (s := s)
  have hcl := cyc_len (gr_of hg) hN
  have n4 := (gr_of hg).n4
  have hcl' : (cycE (resE s) (edgesE s)).1.length ≤ 4096 := by omega
  obtain ⟨_, hm, _⟩ := cyc_ec hg
  have c40 : ∀ {lo m}, callw F 40 [vi (resE s), vEdges (edgesE s)] lo m = some (.tup [ints (cycE (resE s) (edgesE s)).1, vi (cycE (resE s) (edgesE s)).2], m) := fun {lo m} => sp40 hA hG _ _ (by omega)
  have ex : expE s = (cycE (resE s) (edgesE s)).1.map (edAt (edgesE s)) := by unfold expE; rw [if_neg (by simpa using h0)]
  rw [ex]
  generalize edgesE s = l at hm hl hcl' c35 c40 ex ⊢
  generalize (cycE (resE s) l).1 = u at hm hcl' c40 ⊢
  have loop : ∀ (t : List Int) (i : Nat) (v : V) (m' : Mem) (Q : Ex → St → Prop), u.drop i = t → m.next ≤ m'.next → Rw m.next m' 4 v (((u.take i).map (edAt l)).map vEdge) →
    (∀ v m' e, m.next ≤ m'.next → Rw m.next m' 4 v ((u.map (edAt l)).map vEdge) → Q (.exit 0) ⟨(4, vEdges l) :: (8, v) :: e, [], [], m'⟩) →
    W F m.next L83_1 ⟨[(4, vEdges l), (8, v), (26, ints u), (27, vi u.length), (28, vi i)], [], [], m'⟩ Q := by
   intro t
   induction t with
   | nil =>
    intro i v m' Q hd hm' hr hQ
    have hlt := drop_nil hd
    rw [W_L (c := L83_1) rfl]
    have : ¬ ((i : Nat) : Int) < (u.length : Int) := by omega
    simp only [↓sxc, sx, se, ↓reduceIte, Nat.reduceEqDiff, Nat.reduceAdd, Nat.reduceLT, Nat.reduceLeDiff, Nat.reduceSub, Nat.reduceMul, Int.reduceToNat, Int.reduceLT, Int.reduceLE, Int.reduceEq, ml_i0, ↓smc, sm, this]
    rw [List.take_of_length_le hlt] at hr
    exact hQ v m' _ hm' hr
   | cons x t ih =>
    intro i v m' Q hd hm' hr hQ
    obtain ⟨hgi, hd', hlt⟩ := drop_cons hd
    obtain ⟨j, e, rfl, hj⟩ := hm x (List.mem_of_getElem? hgi)
    rw [W_L (c := L83_1) rfl]
    have : ((i : Nat) : Int) < (u.length : Int) := by omega
    have wr : wrapF .i64 ((i : Int) + 1) = ((i + 1 : Nat) : Int) := by rw [wr_i64 (by omega) (by omega)]; rfl
    have i0 : (0 : Int) ≤ i := by omega
    have in_ : ((i : Nat) : Int).toNat = i := rfl
    have j0 : (0 : Int) ≤ j := by omega
    have jn : ((j : Nat) : Int).toNat = j := rfl
    obtain ⟨v', m2, hap, hr', hn, _⟩ := hr.app (y := .lst false 4 [vEdge e]) hm' vw_lst (.inl rfl) (by simp [big]; omega)
    have ee : edAt l (j : Int) = e := by simp only [edAt, Int.toNat_natCast, hj, Option.getD_some]
    have fe : V.agg [V.int .i64 e.fr, V.int .i64 e.to, V.int .i64 e.cls, V.int .i64 e.step] = vEdge e := rfl
    simp only [↓sxc, sx, se, ↓reduceIte, Nat.reduceEqDiff, Nat.reduceAdd, Nat.reduceLT, Nat.reduceLeDiff, Nat.reduceSub, Nat.reduceMul, Int.reduceToNat, Int.reduceLT, Int.reduceLE, Int.reduceEq, ml_i0, ↓smc, sm, this, i0, in_, hgi, j0, jn, hj, fe, hap, wr]
    refine ih (i + 1) v' (m2.bump 1) Q hd' ?_ ?_ hQ
    ·show m.next ≤ m2.next + 1; omega
    ·rw [take_succ_drop hd, List.map_append, List.map_append, List.map_cons, List.map_nil, ee]
     exact hr'
  simp only [↓sxc, sx, se, ↓reduceIte, Nat.reduceEqDiff, Nat.reduceAdd, Nat.reduceLT, Nat.reduceLeDiff, Nat.reduceSub, Nat.reduceMul, Int.reduceToNat, Int.reduceLT, Int.reduceLE, Int.reduceEq, ml_i0, ↓smc, sm, c35, h0, c29, c40]
  refine loop u 0 .nil m _ rfl (Nat.le_refl _) .nil (fun v m' e q1 q2 => ?_)
  have fz : freeze m.next m' 7 v = some (vEdges (u.map (edAt l))) := by
   rw [q2.freeze, mapO_id (fun x hx => by
    obtain ⟨y, _, rfl⟩ := List.mem_map.1 hx
    rfl)]
   rfl
  simp only [↓sxc, sx, se, ↓reduceIte, Nat.reduceEqDiff, Nat.reduceAdd, Nat.reduceLT, Nat.reduceLeDiff, Nat.reduceSub, Nat.reduceMul, Int.reduceToNat, Int.reduceLT, Int.reduceLE, Int.reduceEq, ml_i0, ↓smc, sm]
  simp only [mapO, fz, fz_int]
  rfl
 ·have ex : expE s = [] := by unfold expE; rw [if_pos h0]
  rw [ex]
  simp only [↓sxc, sx, se, ↓reduceIte, Nat.reduceEqDiff, Nat.reduceAdd, Nat.reduceLT, Nat.reduceLeDiff, Nat.reduceSub, Nat.reduceMul, Int.reduceToNat, Int.reduceLT, Int.reduceLE, Int.reduceEq, ml_i0, ↓smc, sm, c35, h0]
  rfl
def enoE (s : Sys) (pool : Int) : Int := if 0 < demE s pool true ∧ sizeAt s pool < demE s pool true then -1 else demE s pool true
theorem dem_rng {s : Sys} {pool : Int} (h : demE s pool true ≠ -1) : 0 ≤ pool ∧ chkE s = 0 ∧ ∃ p, s.pools[pool.toNat]? = some p ∧ sizeAt s pool = p.size := by
 unfold demE at h
 split at h
 ·exact absurd rfl h
 ·rename_i h1
  have h2 : pool.toNat < s.pools.length := by omega
  have h3 := List.getElem?_eq_getElem h2
  refine ⟨by omega, by omega, _, h3, ?_⟩
  unfold sizeAt
  rw [h3]
theorem sp86 {F : Nat → Option Fn} (hA : HasA F) (hB : HasB F) (hC : HasC F) {lo : Nat} {m : Mem} (s : Sys) (pool : Int) : callw F 86 [vSys s, vi pool] lo m = some (vi (enoE s pool), m) := by
 have c31 : ∀ {lo m}, callw F 31 [vSys s, vi pool, .bool true] lo m = some (vi (demE s pool true), m) := fun {lo m} => sp31 hA hB s pool true
 refine call_p hC.h86 rfl ?_
 by_cases h1 : 0 < demE s pool true
 ·obtain ⟨h2, h3, p, h4, h5⟩ := dem_rng (s := s) (pool := pool) (by omega)
  by_cases h6 : p.size < demE s pool true
  ·have e : enoE s pool = -1 := by unfold enoE; rw [if_pos ⟨h1, by rw [h5]; exact h6⟩]
   rw [e]
   simp only [↓sxc, sx, se, ↓reduceIte, Nat.reduceEqDiff, Nat.reduceAdd, Nat.reduceLT, Nat.reduceLeDiff, Nat.reduceSub, Nat.reduceMul, Int.reduceToNat, Int.reduceLT, Int.reduceLE, Int.reduceEq, ml_i0, ↓smc, sm, c31, h1, h2, h4, h6]
  ·have e : enoE s pool = demE s pool true := by unfold enoE; rw [if_neg (by rw [h5]; omega)]
   rw [e]
   simp only [↓sxc, sx, se, ↓reduceIte, Nat.reduceEqDiff, Nat.reduceAdd, Nat.reduceLT, Nat.reduceLeDiff, Nat.reduceSub, Nat.reduceMul, Int.reduceToNat, Int.reduceLT, Int.reduceLE, Int.reduceEq, ml_i0, ↓smc, sm, c31, h1, h2, h4, h6]
 ·have e : enoE s pool = demE s pool true := by unfold enoE; rw [if_neg (by omega)]
  rw [e]
  simp only [↓sxc, sx, se, ↓reduceIte, Nat.reduceEqDiff, Nat.reduceAdd, Nat.reduceLT, Nat.reduceLeDiff, Nat.reduceSub, Nat.reduceMul, Int.reduceToNat, Int.reduceLT, Int.reduceLE, Int.reduceEq, ml_i0, ↓smc, sm, c31, h1]
end Go.Am
namespace Go.Am
open Go
set_option linter.unusedSimpArgs false
set_option linter.unusedVariables false
set_option maxRecDepth 100000
theorem sp80 {F : Nat → Option Fn} (hA : HasA F) (hB : HasB F) (hC : HasC F) (hG : HasG F) {lo : Nat} {m : Mem} (s : Sys) : callw F 80 [vSys s] lo m = some (.tup [vCert (makE s).1, vi (makE s).2], m) := by
 have c91 : ∀ {lo m}, callw F 91 [vSys s] lo m = some (vi (chkE s), m) := fun {lo m} => sp91 hA s
 have c36 : ∀ {lo m}, callw F 36 [vSys s] lo m = some (.tup [vEdges (edgesE s), vi (chkE s)], m) := fun {lo m} => sp36 hA hB s
 have c82 : ∀ {lo m}, callw F 82 [vSys s] lo m = some (.tup [vi (impA s).1, vi (impA s).2.1, .bool (impA s).2.2], m) := fun {lo m} => sp82 hA hC s
 have c30 : ∀ {lo m}, callw F 30 [vSys s] lo m = some (vi (resE s), m) := fun {lo m} => sp30 hA hB s
 refine call_p hC.h80 rfl ?_
 unfold vCert
 by_cases h0 : chkE s = 0
 ·have hl := edgesE_len' h0
  have c44 : ∀ {lo m}, callw F 44 [vi (resE s), vEdges (edgesE s)] lo m = some (.tup [ints (levE (resE s) (edgesE s)).1, vi (levE (resE s) (edgesE s)).2], m) := fun {lo m} => sp44 hG _ _ (by omega)
  cases h1 : (impA s).2.2 with
  | true =>
   have e : makE s = ([], 9) := by unfold makE; rw [if_neg (by simpa using h0), if_pos h1]
   rw [e]
   simp only [↓sxc, sx, se, ↓reduceIte, Nat.reduceEqDiff, Nat.reduceAdd, Nat.reduceLT, Nat.reduceLeDiff, Nat.reduceSub, Nat.reduceMul, Int.reduceToNat, Int.reduceLT, Int.reduceLE, Int.reduceEq, ml_i0, ↓smc, sm, c91, h0, c82, h1]
   rfl
  | false =>
   by_cases h2 : (levE (resE s) (edgesE s)).2 = 0
   ·have e : makE s = ((levE (resE s) (edgesE s)).1, 0) := by unfold makE; rw [if_neg (by simpa using h0), if_neg (by simp [h1]), if_neg (by simpa using h2)]
    rw [e]
    simp only [↓sxc, sx, se, ↓reduceIte, Nat.reduceEqDiff, Nat.reduceAdd, Nat.reduceLT, Nat.reduceLeDiff, Nat.reduceSub, Nat.reduceMul, Int.reduceToNat, Int.reduceLT, Int.reduceLE, Int.reduceEq, ml_i0, ↓smc, sm, c91, h0, c82, h1, c36, c30, c44, h2]
    rfl
   ·have e : makE s = ([], 20) := by unfold makE; rw [if_neg (by simpa using h0), if_neg (by simp [h1]), if_pos h2]
    rw [e]
    simp only [↓sxc, sx, se, ↓reduceIte, Nat.reduceEqDiff, Nat.reduceAdd, Nat.reduceLT, Nat.reduceLeDiff, Nat.reduceSub, Nat.reduceMul, Int.reduceToNat, Int.reduceLT, Int.reduceLE, Int.reduceEq, ml_i0, ↓smc, sm, c91, h0, c82, h1, c36, c30, c44, h2]
    rfl
 ·have e : makE s = ([], chkE s) := by unfold makE; rw [if_pos h0]
  rw [e]
  simp only [↓sxc, sx, se, ↓reduceIte, Nat.reduceEqDiff, Nat.reduceAdd, Nat.reduceLT, Nat.reduceLeDiff, Nat.reduceSub, Nat.reduceMul, Int.reduceToNat, Int.reduceLT, Int.reduceLE, Int.reduceEq, ml_i0, ↓smc, sm, c91, h0]
  rfl
theorem sp84 {F : Nat → Option Fn} (hA : HasA F) (hB : HasB F) (hC : HasC F) (hG : HasG F) {lo : Nat} {m : Mem} (s : Sys) : callw F 84 [vSys s] lo m = some (.tup [vEdges (expE s), vi (chkE s)], m) := by
 have c91 : ∀ {lo m}, callw F 91 [vSys s] lo m = some (vi (chkE s), m) := fun {lo m} => sp91 hA s
 have c36 : ∀ {lo m}, callw F 36 [vSys s] lo m = some (.tup [vEdges (edgesE s), vi (chkE s)], m) := fun {lo m} => sp36 hA hB s
 have c30 : ∀ {lo m}, callw F 30 [vSys s] lo m = some (vi (resE s), m) := fun {lo m} => sp30 hA hB s
 refine call_p hC.h84 rfl ?_
 by_cases h0 : chkE s = 0
 ·have hl := edgesE_len' h0
  have hg := sys_chkG h0
  obtain ⟨N, hN, _⟩ := res_nat (s := s)
  have hcl := cyc_len (gr_of hg) hN
  have n4 := (gr_of hg).n4
  have hcl' : (cycE (resE s) (edgesE s)).1.length ≤ 4096 := by omega
  obtain ⟨_, hm, _⟩ := cyc_ec hg
  have c43 : ∀ {lo m}, callw F 43 [vi (resE s), vEdges (edgesE s)] lo m = some (.tup [ints (cycE (resE s) (edgesE s)).1, vi (cycE (resE s) (edgesE s)).2], m) := fun {lo m} => sp43 hG _ _ (by omega)
  have ex : expE s = (cycE (resE s) (edgesE s)).1.map (edAt (edgesE s)) := by unfold expE; rw [if_neg (by simpa using h0)]
  rw [ex]
  generalize edgesE s = l at hm hl hcl' c36 c43 ex ⊢
  generalize (cycE (resE s) l).1 = u at hm hcl' c43 ⊢
  have loop : ∀ (t : List Int) (i : Nat) (v : V) (m' : Mem) (Q : Ex → St → Prop), u.drop i = t → m.next ≤ m'.next → Rw m.next m' 4 v (((u.take i).map (edAt l)).map vEdge) →
    (∀ v m' e, m.next ≤ m'.next → Rw m.next m' 4 v ((u.map (edAt l)).map vEdge) → Q (.exit 0) ⟨(5, vEdges l) :: (7, ints u) :: (9, v) :: e, [], [], m'⟩) →
    W F m.next L84_1 ⟨[(5, vEdges l), (7, ints u), (9, v), (10, vi i)], [], [], m'⟩ Q := by
   intro t
   induction t with
   | nil =>
    intro i v m' Q hd hm' hr hQ
    have hlt := drop_nil hd
    rw [W_L (c := L84_1) rfl]
    have : ¬ ((i : Nat) : Int) < (u.length : Int) := by omega
    simp only [↓sxc, sx, se, ↓reduceIte, Nat.reduceEqDiff, Nat.reduceAdd, Nat.reduceLT, Nat.reduceLeDiff, Nat.reduceSub, Nat.reduceMul, Int.reduceToNat, Int.reduceLT, Int.reduceLE, Int.reduceEq, ml_i0, ↓smc, sm, this]
    rw [List.take_of_length_le hlt] at hr
    exact hQ v m' _ hm' hr
   | cons x t ih =>
    intro i v m' Q hd hm' hr hQ
    obtain ⟨hgi, hd', hlt⟩ := drop_cons hd
    obtain ⟨j, e, rfl, hj⟩ := hm x (List.mem_of_getElem? hgi)
    rw [W_L (c := L84_1) rfl]
    have : ((i : Nat) : Int) < (u.length : Int) := by omega
    have wr : wrapF .i64 ((i : Int) + 1) = ((i + 1 : Nat) : Int) := by rw [wr_i64 (by omega) (by omega)]; rfl
    have i0 : (0 : Int) ≤ i := by omega
    have in_ : ((i : Nat) : Int).toNat = i := rfl
    have j0 : (0 : Int) ≤ j := by omega
    have jn : ((j : Nat) : Int).toNat = j := rfl
    obtain ⟨v', m2, hap, hr', hn, _⟩ := hr.app (y := .lst false 4 [vEdge e]) hm' vw_lst (.inl rfl) (by simp [big]; omega)
    have ee : edAt l (j : Int) = e := by simp only [edAt, Int.toNat_natCast, hj, Option.getD_some]
    have fe : V.agg [V.int .i64 e.fr, V.int .i64 e.to, V.int .i64 e.cls, V.int .i64 e.step] = vEdge e := rfl
    simp only [↓sxc, sx, se, ↓reduceIte, Nat.reduceEqDiff, Nat.reduceAdd, Nat.reduceLT, Nat.reduceLeDiff, Nat.reduceSub, Nat.reduceMul, Int.reduceToNat, Int.reduceLT, Int.reduceLE, Int.reduceEq, ml_i0, ↓smc, sm, this, i0, in_, hgi, j0, jn, hj, fe, hap, wr]
    refine ih (i + 1) v' (m2.bump 1) Q hd' ?_ ?_ hQ
    ·show m.next ≤ m2.next + 1; omega
    ·rw [take_succ_drop hd, List.map_append, List.map_append, List.map_cons, List.map_nil, ee]
     exact hr'
  simp only [↓sxc, sx, se, ↓reduceIte, Nat.reduceEqDiff, Nat.reduceAdd, Nat.reduceLT, Nat.reduceLeDiff, Nat.reduceSub, Nat.reduceMul, Int.reduceToNat, Int.reduceLT, Int.reduceLE, Int.reduceEq, ml_i0, ↓smc, sm, c91, h0, c36, c30, c43]
  refine loop u 0 .nil m _ rfl (Nat.le_refl _) .nil (fun v m' e q1 q2 => ?_)
  have fz : freeze m.next m' 7 v = some (vEdges (u.map (edAt l))) := by
   rw [q2.freeze, mapO_id (fun x hx => by
    obtain ⟨y, _, rfl⟩ := List.mem_map.1 hx
    rfl)]
   rfl
  simp only [↓sxc, sx, se, ↓reduceIte, Nat.reduceEqDiff, Nat.reduceAdd, Nat.reduceLT, Nat.reduceLeDiff, Nat.reduceSub, Nat.reduceMul, Int.reduceToNat, Int.reduceLT, Int.reduceLE, Int.reduceEq, ml_i0, ↓smc, sm]
  simp only [mapO, fz, fz_int]
  rfl
 ·have ex : expE s = [] := by unfold expE; rw [if_pos h0]
  rw [ex]
  simp only [↓sxc, sx, se, ↓reduceIte, Nat.reduceEqDiff, Nat.reduceAdd, Nat.reduceLT, Nat.reduceLeDiff, Nat.reduceSub, Nat.reduceMul, Int.reduceToNat, Int.reduceLT, Int.reduceLE, Int.reduceEq, ml_i0, ↓smc, sm, c91, h0]
  rfl
theorem dem_nn {s : Sys} {pool : Int} (h : demE s pool true ≠ -1) : 0 ≤ demE s pool true := by
 unfold demE at h ⊢
 split at h
 ·exact absurd rfl h
 ·rename_i h1
  rw [if_neg h1, if_pos rfl]
  have hv := valid_of (s := s) (by omega)
  have : ∀ l : List Cls, (∀ c ∈ l, OkC c) → 0 ≤ (dem pool l).2 := by
   intro l
   induction l with
   | nil => intro _; exact Int.le_refl _
   | cons c l ih =>
    intro hc
    have h2 := ih fun c hc' => hc c (by simp [hc'])
    have h3 := pk_bd (pool := pool) (hc c (by simp))
    have h4 := (hc c (by simp)).w0
    simp only [dem]
    have := Int.mul_nonneg h4 h3.2.1
    omega
  exact this _ hv.okC
theorem sp87 {F : Nat → Option Fn} (hA : HasA F) (hB : HasB F) (hC : HasC F) {lo : Nat} {m : Mem} (s : Sys) (pool : Int) : callw F 87 [vSys s, vi pool] lo m = some (vi (enoE s pool), m) := by
 have c32 : ∀ {lo m}, callw F 32 [vSys s, vi pool, .bool true] lo m = some (vi (demE s pool true), m) := fun {lo m} => sp32 hA hB s pool true
 refine call_p hC.h87 rfl ?_
 by_cases h0 : demE s pool true = -1
 ·have e : enoE s pool = -1 := by unfold enoE; rw [if_neg (by omega)]; exact h0
  have h1 : (-1 : Int) < 0 := by omega
  rw [e]
  simp only [↓sxc, sx, se, ↓reduceIte, Nat.reduceEqDiff, Nat.reduceAdd, Nat.reduceLT, Nat.reduceLeDiff, Nat.reduceSub, Nat.reduceMul, Int.reduceToNat, Int.reduceLT, Int.reduceLE, Int.reduceEq, ml_i0, ↓smc, sm, c32, h0, h1]
 ·have h1 := dem_nn h0
  have h1' : ¬ demE s pool true < 0 := by omega
  obtain ⟨h2, h3, p, h4, h5⟩ := dem_rng h0
  have hv := valid_of h3
  have hp := hv.pool p (List.mem_of_getElem? h4)
  by_cases h6 : p.size < demE s pool true
  ·have e : enoE s pool = -1 := by unfold enoE; rw [if_pos ⟨by omega, by rw [h5]; exact h6⟩]
   rw [e]
   simp only [↓sxc, sx, se, ↓reduceIte, Nat.reduceEqDiff, Nat.reduceAdd, Nat.reduceLT, Nat.reduceLeDiff, Nat.reduceSub, Nat.reduceMul, Int.reduceToNat, Int.reduceLT, Int.reduceLE, Int.reduceEq, ml_i0, ↓smc, sm, c32, h1', h2, h4, h6]
  ·have e : enoE s pool = demE s pool true := by unfold enoE; rw [if_neg (by rw [h5]; omega)]
   rw [e]
   simp only [↓sxc, sx, se, ↓reduceIte, Nat.reduceEqDiff, Nat.reduceAdd, Nat.reduceLT, Nat.reduceLeDiff, Nat.reduceSub, Nat.reduceMul, Int.reduceToNat, Int.reduceLT, Int.reduceLE, Int.reduceEq, ml_i0, ↓smc, sm, c32, h1', h2, h4, h6]
theorem sp85 {F : Nat → Option Fn} (hB : HasB F) (hC : HasC F) {lo : Nat} {m : Mem} (a b : List Int) (ha : a.length < 1000000) : callw F 85 [vCert a, vCert b] lo m = some (.bool (decide (a = b)), m) := by
 have c45 : ∀ {lo m}, callw F 45 [ints a, ints b] lo m = some (.bool (decide (a = b)), m) := fun {lo m} => sp45 hB a b ha
 refine call_p hC.h85 rfl ?_
 unfold vCert
 simp only [↓sxc, sx, se, ↓reduceIte, Nat.reduceEqDiff, Nat.reduceAdd, Nat.reduceLT, Nat.reduceLeDiff, Nat.reduceSub, Nat.reduceMul, Int.reduceToNat, Int.reduceLT, Int.reduceLE, Int.reduceEq, ml_i0, ↓smc, sm, c45]
end Go.Am
namespace Go.Am
open Go
set_option linter.unusedSimpArgs false
set_option linter.unusedVariables false
theorem expE_len (s : Sys) : (expE s).length < 1000000 := by
 unfold expE
 split
 ·simp
 ·rename_i h
  have h0 : chkE s = 0 := by omega
  obtain ⟨N, hN, _⟩ := res_nat (s := s)
  have := cyc_len (gr_of (sys_chkG h0)) hN
  have := (gr_of (sys_chkG h0)).n4
  rw [List.length_map]
  omega
theorem lev_cases {n : Int} {N : Nat} {l : List Edge} (h : chkG n l = 0) (hN : n = N) : (∃ f, LevEq N l f ∧ levE n l = (f, 0)) ∨ (¬ Acyc l ∧ levE n l = ([], 10)) := by
 by_cases ha : Acyc l
 ·obtain ⟨f, hf⟩ := acyc_lev (gr_of h) hN ha
  exact .inl ⟨f, hf, levE_ok h hN hf⟩
 ·exact .inr ⟨ha, levE_no h hN fun h' => ha ((lev_iff (gr_of h) hN).1 h')⟩
theorem makE_len (s : Sys) : (makE s).1.length < 1000000 := by
 by_cases h0 : chkE s = 0
 ·have hg := sys_chkG h0
  obtain ⟨N, hN, hN2⟩ := res_nat (s := s)
  have n4 := (gr_of hg).n4
  unfold makE
  rw [if_neg (by simpa using h0)]
  rcases lev_cases hg hN with ⟨f, hf, he⟩ | ⟨hn, he⟩
  ·rw [he]
   split
   ·simp
   ·split
    ·simp
    ·show f.length < 1000000
     rw [hf.ln]
     omega
  ·rw [he]
   split
   ·simp
   ·split
    ·simp
    ·simp
 ·unfold makE
  rw [if_pos h0]
  simp
end Go.Am
namespace Go.Am
open Go
theorem Has.int_inv {k : IntKind} {n : Nat} {cs : List V} (h : Has (.int k) n cs) : n = 1 ∧ ∃ z, cs = [.int k z] ∧ (Lit.int k z).wf = true := by
 cases h with
 | int k z hz => exact ⟨rfl, z, rfl, hz⟩
theorem Has.bool_inv {n : Nat} {cs : List V} (h : Has .bool n cs) : n = 1 ∧ ∃ b, cs = [.bool b] := by
 cases h with
 | bool b => exact ⟨rfl, b, rfl⟩
theorem Has.str_inv {n : Nat} {cs : List V} (h : Has .str n cs) : n = 1 ∧ ∃ s, cs = [.str s] ∧ s.length ≤ maxLen := by
 cases h with
 | str s hs => exact ⟨rfl, s, rfl, hs⟩
theorem Has.nil_inv {n : Nat} {cs : List V} (h : Has (.st []) n cs) : n = 0 ∧ cs = [] := by
 cases h with
 | st0 => exact ⟨rfl, rfl⟩
theorem Has.cons_inv {f : Ty} {fs : List Ty} {n : Nat} {cs : List V} (h : Has (.st (f :: fs)) n cs) : ∃ a b n1 n2, n = n1 + n2 ∧ cs = a ++ b ∧ Has f n1 a ∧ Has (.st fs) n2 b := by
 cases h with
 | st1 f fs n m a b ha hb => exact ⟨a, b, n, m, rfl, rfl, ha, hb⟩
def Dec {α : Type} (e : Ty) (k : Nat) (enc : α → V) (P : α → Prop) : Prop := ∀ n cs, Has e n cs → n = k ∧ ∃ a, wrap e cs = enc a ∧ P a
theorem all_dec {α : Type} {enc : α → V} {P : α → Prop} : ∀ {xs : List V}, (∀ x ∈ xs, ∃ a, x = enc a ∧ P a) → ∃ l : List α, xs = l.map enc ∧ ∀ a ∈ l, P a
 | [], _ => ⟨[], rfl, by simp⟩
 | x :: xs, h => by
  obtain ⟨a, rfl, ha⟩ := h x (by simp)
  obtain ⟨l, rfl, hl⟩ := all_dec (xs := xs) (fun y hy => h y (by simp [hy]))
  exact ⟨a :: l, rfl, fun b hb => by
   rcases List.mem_cons.1 hb with rfl | hb
   ·exact ha
   ·exact hl b hb⟩
theorem Has.sl_inv {α : Type} {e : Ty} {k : Nat} {enc : α → V} {P : α → Prop} (hd : Dec e k enc P) {n : Nat} {cs : List V} (h : Has (.sl e) n cs) : n = 1 ∧ ∃ l : List α, cs = [.ro true k (l.map enc)] ∧ l.length ≤ maxLen ∧ ∀ a ∈ l, P a := by
 cases h with
 | sl e sz xs hl css hw hh =>
  have hx : ∀ x ∈ xs, ∃ a, x = enc a ∧ P a := by
   intro x hx
   obtain ⟨i, hi, rfl⟩ := List.getElem_of_mem hx
   have hg := List.getElem?_eq_getElem hi
   obtain ⟨_, a, ha, hp⟩ := hd _ _ (hh i _ hg)
   exact ⟨a, (hw i _ hg).trans ha, hp⟩
  obtain ⟨l, rfl, hp⟩ := all_dec hx
  refine ⟨rfl, l, ?_, by simpa using hl, hp⟩
  cases l with
  | nil => rfl
  | cons a l =>
   have := (hd _ _ (hh 0 (enc a) rfl)).1
   rw [this]
def tPool : Ty := .st [.str, .int .i64, .int .i64]
def tStp : Ty := .st [.int .i64, .int .i64, .int .i64, .bool]
def tCls : Ty := .st [.str, .int .i64, .bool, .sl tStp]
def tSys : Ty := .st [.sl tPool, .sl .str, .sl tCls]
theorem dec_str : Dec .str 1 V.str (fun _ => True) := fun n cs h => by
 obtain ⟨rfl, s, rfl, _⟩ := h.str_inv
 exact ⟨rfl, s, rfl, trivial⟩
theorem dec_pool : Dec tPool 3 vPool (fun _ => True) := fun n cs h => by
 obtain ⟨a, b, n1, n2, rfl, rfl, h1, h⟩ := h.cons_inv
 obtain ⟨c, d, n3, n4, rfl, rfl, h2, h⟩ := h.cons_inv
 obtain ⟨e, f, n5, n6, rfl, rfl, h3, h⟩ := h.cons_inv
 obtain ⟨rfl, rfl⟩ := h.nil_inv
 obtain ⟨rfl, x, rfl, _⟩ := h1.str_inv
 obtain ⟨rfl, y, rfl, _⟩ := h2.int_inv
 obtain ⟨rfl, z, rfl, _⟩ := h3.int_inv
 exact ⟨rfl, ⟨x, y, z⟩, rfl, trivial⟩
theorem dec_stp : Dec tStp 4 vStp (fun _ => True) := fun n cs h => by
 obtain ⟨a, b, n1, n2, rfl, rfl, h1, h⟩ := h.cons_inv
 obtain ⟨c, d, n3, n4, rfl, rfl, h2, h⟩ := h.cons_inv
 obtain ⟨e, f, n5, n6, rfl, rfl, h3, h⟩ := h.cons_inv
 obtain ⟨e, f, n5, n6, rfl, rfl, h4, h⟩ := h.cons_inv
 obtain ⟨rfl, rfl⟩ := h.nil_inv
 obtain ⟨rfl, x, rfl, _⟩ := h1.int_inv
 obtain ⟨rfl, y, rfl, _⟩ := h2.int_inv
 obtain ⟨rfl, z, rfl, _⟩ := h3.int_inv
 obtain ⟨rfl, b, rfl⟩ := h4.bool_inv
 exact ⟨rfl, ⟨x, y, z, b⟩, rfl, trivial⟩
theorem dec_cls : Dec tCls 4 vCls (fun _ => True) := fun n cs h => by
 obtain ⟨a, b, n1, n2, rfl, rfl, h1, h⟩ := h.cons_inv
 obtain ⟨c, d, n3, n4, rfl, rfl, h2, h⟩ := h.cons_inv
 obtain ⟨e, f, n5, n6, rfl, rfl, h3, h⟩ := h.cons_inv
 obtain ⟨e, f, n5, n6, rfl, rfl, h4, h⟩ := h.cons_inv
 obtain ⟨rfl, rfl⟩ := h.nil_inv
 obtain ⟨rfl, x, rfl, _⟩ := h1.str_inv
 obtain ⟨rfl, y, rfl, _⟩ := h2.int_inv
 obtain ⟨rfl, z, rfl⟩ := h3.bool_inv
 obtain ⟨rfl, l, rfl, _⟩ := h4.sl_inv dec_stp
 exact ⟨rfl, ⟨x, y, z, l⟩, rfl, trivial⟩
theorem open_sys {v : V} (h : HasV tSys v) : ∃ s, v = vSys s := by
 obtain ⟨n, cs, rfl, h⟩ := h
 obtain ⟨a, b, n1, n2, rfl, rfl, h1, h⟩ := h.cons_inv
 obtain ⟨c, d, n3, n4, rfl, rfl, h2, h⟩ := h.cons_inv
 obtain ⟨e, f, n5, n6, rfl, rfl, h3, h⟩ := h.cons_inv
 obtain ⟨rfl, rfl⟩ := h.nil_inv
 obtain ⟨rfl, x, rfl, _⟩ := h1.sl_inv dec_pool
 obtain ⟨rfl, y, rfl, _⟩ := h2.sl_inv dec_str
 obtain ⟨rfl, z, rfl, _⟩ := h3.sl_inv dec_cls
 exact ⟨⟨x, y, z⟩, rfl⟩
theorem open_int' {k : IntKind} {v : V} (h : HasV (.int k) v) : ∃ n, v = .int k n ∧ (Lit.int k n).wf = true := by
 obtain ⟨n, cs, rfl, h⟩ := h
 obtain ⟨rfl, x, rfl, hx⟩ := h.int_inv
 exact ⟨x, rfl, hx⟩
theorem all_cons {T : Ty} {Ts : List Ty} {us : List V} (h : HasAll (T :: Ts) us) : ∃ u vs, us = u :: vs ∧ HasV T u ∧ HasAll Ts vs := by
 cases h with
 | cons _ _ v vs h1 h2 => exact ⟨v, vs, rfl, h1, h2⟩
theorem all_nil {us : List V} (h : HasAll [] us) : us = [] := by
 cases h
 rfl
end Go.Am
