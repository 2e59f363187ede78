/- Breadth first search, plainly. -/
import Derived.Test.YtflfnkdhmcfjlaaGrF
namespace Go.Am
open Go
set_option linter.unusedSimpArgs false
set_option linter.unusedVariables false

/-- z is the least number of steps to v, or -1. -/
def IsD (P : Nat → Int → Prop) (v z : Int) : Prop := (0 ≤ z ∧ P z.toNat v ∧ ∀ k : Nat, P k v → z ≤ k) ∨ (z = -1 ∧ ∀ k, ¬ P k v)
theorem least {p : Nat → Prop} (h : ∃ k, p k) : ∃ k, p k ∧ ∀ j, p j → k ≤ j := by
  obtain ⟨k, hk⟩ := h
  induction k using Nat.strongRecOn with
  | ind k ih =>
    by_cases hj : ∃ j, j < k ∧ p j
    · obtain ⟨j, h1, h2⟩ := hj
      exact ih j h1 h2
    · exact ⟨k, hk, fun j hp => Nat.le_of_not_lt fun h => hj ⟨j, h, hp⟩⟩
theorem IsD.ex {P : Nat → Int → Prop} {v : Int} : ∃ z, IsD P v z := by
  by_cases h : ∃ k, P k v
  · obtain ⟨k, h1, h2⟩ := least h
    exact ⟨k, .inl ⟨by omega, by simpa using h1, fun j hj => by have := h2 j hj; omega⟩⟩
  · exact ⟨-1, .inr ⟨rfl, fun k hk => h ⟨k, hk⟩⟩⟩
theorem IsD.uniq {P : Nat → Int → Prop} {v z w : Int} (h1 : IsD P v z) (h2 : IsD P v w) : z = w := by
  rcases h1 with ⟨a1, a2, a3⟩ | ⟨a1, a2⟩ <;> rcases h2 with ⟨b1, b2, b3⟩ | ⟨b1, b2⟩
  · have := a3 _ b2; have := b3 _ a2; omega
  · exact absurd a2 (b2 _)
  · exact absurd b2 (a2 _)
  · omega
open Classical in
noncomputable def dist (P : Nat → Int → Prop) (v : Int) : Int := Classical.choose (IsD.ex (P := P) (v := v))
theorem dist_spec {P : Nat → Int → Prop} {v : Int} : IsD P v (dist P v) := Classical.choose_spec (IsD.ex (P := P) (v := v))
theorem dist_eq {P : Nat → Int → Prop} {v z : Int} (h : IsD P v z) : dist P v = z := dist_spec.uniq h
theorem dist_ge {P : Nat → Int → Prop} {v : Int} : -1 ≤ dist P v := by
  rcases dist_spec (P := P) (v := v) with ⟨h, _⟩ | ⟨h, _⟩ <;> omega

/-- What a step leads to. -/
structure Steps (N : Nat) (nb : Int → List Int) (P : Nat → Int → Prop) (root : Nat) : Prop where
  rt : root < N
  p0 : ∀ v, P 0 v ↔ v = (root : Int)
  ps : ∀ k v, P (k + 1) v ↔ ∃ x, P k x ∧ v ∈ nb x
  rg : ∀ x y, y ∈ nb x → ∃ v : Nat, y = v ∧ v < N

structure BI (N : Nat) (nb : Int → List Int) (P : Nat → Int → Prop) (root : Nat) (ds qs : List Int) (d : Nat) : Prop where
  dl : ds.length = N
  rg : ∀ x ∈ qs, ∃ v : Nat, x = v ∧ v < N
  nd : qs.Nodup
  dq : d ≤ qs.length
  q0 : (root : Int) ∈ qs ∧ gAt ds root = 0
  inq : ∀ v : Nat, v < N → ((v : Int) ∈ qs ↔ 0 ≤ gAt ds v)
  out : ∀ v : Nat, v < N → gAt ds v < 0 → gAt ds v = -1
  snd : ∀ v : Nat, v < N → 0 ≤ gAt ds v → P (gAt ds v).toNat v
  srt : qs.Pairwise fun a b => gAt ds a ≤ gAt ds b
  bnd : ∀ x, qs[d]? = some x → ∀ y ∈ qs, gAt ds y ≤ gAt ds x + 1
  cl : ∀ x ∈ qs.take d, ∀ y ∈ nb x, 0 ≤ gAt ds y ∧ gAt ds y ≤ gAt ds x + 1
  bd : ∀ v : Nat, v < N → gAt ds v ≤ d

structure BJ (N : Nat) (nb : Int → List Int) (P : Nat → Int → Prop) (root : Nat) (ds qs : List Int) (d u : Nat) (t : List Int) : Prop where
  dl : ds.length = N
  rg : ∀ x ∈ qs, ∃ v : Nat, x = v ∧ v < N
  nd : qs.Nodup
  uq : qs[d]? = some (u : Int)
  uN : u < N
  q0 : (root : Int) ∈ qs ∧ gAt ds root = 0
  inq : ∀ v : Nat, v < N → ((v : Int) ∈ qs ↔ 0 ≤ gAt ds v)
  out : ∀ v : Nat, v < N → gAt ds v < 0 → gAt ds v = -1
  snd : ∀ v : Nat, v < N → 0 ≤ gAt ds v → P (gAt ds v).toNat v
  srt : qs.Pairwise fun a b => gAt ds a ≤ gAt ds b
  bnd : ∀ y ∈ qs, gAt ds y ≤ gAt ds u + 1
  cl : ∀ x ∈ qs.take d, ∀ y ∈ nb x, 0 ≤ gAt ds y ∧ gAt ds y ≤ gAt ds x + 1
  cu : ∀ y ∈ nb u, y ∈ t ∨ (0 ≤ gAt ds y ∧ gAt ds y ≤ gAt ds u + 1)
  tr : ∀ y ∈ t, y ∈ nb u
  bd : ∀ v : Nat, v < N → gAt ds v ≤ d + 1
  bu : 0 ≤ gAt ds u ∧ gAt ds u ≤ d

theorem BI.start {N root : Nat} {nb : Int → List Int} {P : Nat → Int → Prop} (S : Steps N nb P root) : BI N nb P root ((List.replicate N (-1)).set root 0) [(root : Int)] 0 := by
  have hr := S.rt
  have hz : ∀ v : Nat, v < N → gAt (List.replicate N (-1)) v = -1 := fun v h => by
    unfold gAt
    rw [Int.toNat_natCast, List.getD, List.getElem?_replicate_of_lt h]; rfl
  have gs : ∀ v : Nat, v < N → gAt ((List.replicate N (-1)).set root 0) v = if v = root then 0 else -1 := fun v h => by
    rw [gAt_set (by simp; exact hr), hz v h]
  refine ⟨by simp, fun x hx => ⟨root, by simpa using hx, hr⟩, by simp, Nat.zero_le _, ⟨by simp, by rw [gs root hr, if_pos rfl]⟩, fun v hv => ?_, fun v hv h => ?_, fun v hv h => ?_, by simp, fun x hx y hy => ?_, fun x hx => by simp at hx, fun v hv => ?_⟩
  · rw [gs v hv]
    by_cases h : v = root
    · simp [h]
    · rw [if_neg h]; simp; omega
  · rw [gs v hv] at h ⊢
    split at h
    · omega
    · rename_i h1; rw [if_neg h1]
  · rw [gs v hv] at h ⊢
    split at h
    · rename_i h1
      rw [if_pos h1]
      exact (S.p0 _).2 (by rw [h1])
    · omega
  · simp at hx hy
    subst hx
    subst hy
    omega
  · rw [gs v hv]
    split <;> omega

theorem BI.enter {N root : Nat} {nb : Int → List Int} {P : Nat → Int → Prop} {ds qs : List Int} {d u : Nat} (H : BI N nb P root ds qs d) (hu : qs[d]? = some (u : Int)) : BJ N nb P root ds qs d u (nb u) := by
  have hm := List.mem_of_getElem? hu
  obtain ⟨v, hv, hvN⟩ := H.rg _ hm
  have : v = u := by omega
  subst this
  exact ⟨H.dl, H.rg, H.nd, hu, hvN, H.q0, H.inq, H.out, H.snd, H.srt, H.bnd _ hu, H.cl, fun y hy => .inl hy, fun y hy => hy, fun w hw => by have := H.bd w hw; omega, (H.inq v hvN).1 hm, H.bd v hvN⟩

theorem BJ.leave {N root : Nat} {nb : Int → List Int} {P : Nat → Int → Prop} {ds qs : List Int} {d u : Nat} (H : BJ N nb P root ds qs d u []) : BI N nb P root ds qs (d + 1) := by
  have ht : qs.take (d + 1) = qs.take d ++ [(u : Int)] := by rw [List.take_add_one, H.uq]; rfl
  have hd := (List.getElem?_eq_some_iff.1 H.uq).1
  refine ⟨H.dl, H.rg, H.nd, hd, H.q0, H.inq, H.out, H.snd, H.srt, fun x hx y hy => ?_, fun x hx y hy => ?_, fun v hv => by have := H.bd v hv; push_cast; omega⟩
  · have h1 := H.bnd y hy
    have hdl := (List.getElem?_eq_some_iff.1 hx).1
    have h2 := List.pairwise_iff_getElem.1 H.srt d (d + 1) hd hdl (by omega)
    have e1 := H.uq
    rw [List.getElem?_eq_getElem hd] at e1
    rw [List.getElem?_eq_getElem hdl] at hx
    rw [Option.some.inj e1, Option.some.inj hx] at h2
    omega
  · rw [ht] at hx
    rcases List.mem_append.1 hx with hx | hx
    · exact H.cl x hx y hy
    · simp at hx
      subst hx
      rcases H.cu y hy with h | h
      · simp at h
      · exact h

theorem BJ.old {N root : Nat} {nb : Int → List Int} {P : Nat → Int → Prop} {ds qs : List Int} {d u : Nat} {y : Int} {t : List Int} (H : BJ N nb P root ds qs d u (y :: t)) (h : 0 ≤ gAt ds y) (hN : ∃ v : Nat, y = v ∧ v < N) : BJ N nb P root ds qs d u t := by
  refine { H with cu := fun z hz => ?_, tr := fun z hz => H.tr z (by simp [hz]) }
  rcases H.cu z hz with h1 | h1
  · rcases List.mem_cons.1 h1 with rfl | h1
    · obtain ⟨v, rfl, hv⟩ := hN
      exact .inr ⟨h, H.bnd _ ((H.inq v hv).2 h)⟩
    · exact .inl h1
  · exact .inr h1

theorem BJ.new {N root : Nat} {nb : Int → List Int} {P : Nat → Int → Prop} (S : Steps N nb P root) {ds qs : List Int} {d u w : Nat} {t : List Int} (H : BJ N nb P root ds qs d u ((w : Int) :: t)) (hw : w < N) (h : gAt ds w < 0) : BJ N nb P root (ds.set w (gAt ds u + 1)) (qs ++ [(w : Int)]) d u t := by
  have hnq : (w : Int) ∉ qs := fun hh => by have := (H.inq w hw).1 hh; omega
  have gs : ∀ v : Nat, gAt (ds.set w (gAt ds u + 1)) v = if v = w then gAt ds u + 1 else gAt ds v := fun v => gAt_set (by rw [H.dl]; exact hw)
  have gq : ∀ y ∈ qs, gAt (ds.set w (gAt ds u + 1)) y = gAt ds y := fun y hy => by
    obtain ⟨v, rfl, _⟩ := H.rg y hy
    rw [gs, if_neg (fun hh => hnq (by rw [← hh]; exact hy))]
  have huq := List.mem_of_getElem? H.uq
  have hdl := (List.getElem?_eq_some_iff.1 H.uq).1
  have htk : (qs ++ [(w : Int)]).take d = qs.take d := List.take_append_of_le_length (by omega)
  have hge : ∀ y : Int, (∃ v : Nat, y = v ∧ v < N) → 0 ≤ gAt ds y → gAt (ds.set w (gAt ds u + 1)) y = gAt ds y := fun y hy h0 => by
    obtain ⟨v, rfl, hv⟩ := hy
    exact gq _ ((H.inq v hv).2 h0)
  have b0 := H.bu
  refine ⟨by simp [H.dl], fun x hx => ?_, ?_, by rw [List.getElem?_append_left hdl]; exact H.uq, H.uN, ⟨List.mem_append_left _ H.q0.1, by rw [gq _ H.q0.1]; exact H.q0.2⟩, fun v hv => ?_, fun v hv hlt => ?_, fun v hv hge => ?_, ?_, fun y hy => ?_, fun x hx y hy => ?_, fun y hy => ?_, fun y hy => H.tr y (by simp [hy]), fun v hv => ?_, ?_⟩
  · rcases List.mem_append.1 hx with hx | hx
    · exact H.rg x hx
    · exact ⟨w, by simpa using hx, hw⟩
  · rw [List.nodup_append]
    exact ⟨H.nd, by simp, fun a ha b hb e => hnq (by simp at hb; rw [← hb, ← e]; exact ha)⟩
  · rw [gs, List.mem_append]
    by_cases hvw : v = w
    · rw [if_pos hvw]
      constructor
      · intro _; omega
      · intro _; exact .inr (by simp [hvw])
    · rw [if_neg hvw, ← H.inq v hv]
      constructor
      · rintro (h1 | h1)
        · exact h1
        · simp at h1; omega
      · exact .inl
  · rw [gs] at hlt ⊢
    split at hlt
    · omega
    · rename_i h1
      rw [if_neg h1]
      exact H.out v hv hlt
  · rw [gs] at hge ⊢
    split at hge
    · rename_i h1
      rw [if_pos h1, h1]
      have h2 := H.snd u H.uN b0.1
      have : (gAt ds u + 1).toNat = (gAt ds u).toNat + 1 := by omega
      rw [this]
      exact (S.ps _ _).2 ⟨u, h2, H.tr _ (by simp)⟩
    · rename_i h1
      rw [if_neg h1]
      exact H.snd v hv hge
  · rw [List.pairwise_append]
    refine ⟨H.srt.imp_of_mem (fun {a b} ha hb hab => by rw [gq a ha, gq b hb]; exact hab), by simp, fun a ha b hb => ?_⟩
    simp at hb
    subst hb
    rw [gq a ha, gs, if_pos rfl]
    exact H.bnd a ha
  · rw [gq _ huq]
    rcases List.mem_append.1 hy with hy | hy
    · rw [gq y hy]; exact H.bnd y hy
    · simp at hy
      subst hy
      rw [gs, if_pos rfl]
      omega
  · rw [htk] at hx
    have h1 := H.cl x hx y hy
    rw [gq x (List.mem_of_mem_take hx), hge y (S.rg _ _ hy) h1.1]
    exact h1
  · rcases H.cu y hy with h1 | h1
    · rcases List.mem_cons.1 h1 with rfl | h1
      · rw [gq _ huq, gs, if_pos rfl]
        exact .inr ⟨by omega, by omega⟩
      · exact .inl h1
    · rw [gq _ huq, hge y (S.rg _ _ hy) h1.1]
      exact .inr h1
  · rw [gs]
    have := H.bd v hv
    split <;> omega
  · rw [gq _ huq]
    exact b0

theorem BJ.len {N root : Nat} {nb : Int → List Int} {P : Nat → Int → Prop} {ds qs : List Int} {d u : Nat} {t : List Int} (H : BJ N nb P root ds qs d u t) : qs.length ≤ N := by
  have := nodup_le (xs := qs) (ys := (List.range N).map fun (i : Nat) => (i : Int)) H.nd (fun x hx => by
    obtain ⟨v, rfl, hv⟩ := H.rg x hx
    exact List.mem_map.2 ⟨v, List.mem_range.2 hv, rfl⟩)
  simpa using this
theorem BI.len {N root : Nat} {nb : Int → List Int} {P : Nat → Int → Prop} {ds qs : List Int} {d : Nat} (H : BI N nb P root ds qs d) : qs.length ≤ N := by
  have := nodup_le (xs := qs) (ys := (List.range N).map fun (i : Nat) => (i : Int)) H.nd (fun x hx => by
    obtain ⟨v, rfl, hv⟩ := H.rg x hx
    exact List.mem_map.2 ⟨v, List.mem_range.2 hv, rfl⟩)
  simpa using this

theorem BI.done {N root : Nat} {nb : Int → List Int} {P : Nat → Int → Prop} (S : Steps N nb P root) {ds qs : List Int} {d : Nat} (H : BI N nb P root ds qs d) (hd : qs.length ≤ d) : ∀ v : Nat, v < N → gAt ds v = dist P v := by
  have ht : qs.take d = qs := List.take_of_length_le hd
  have up : ∀ (k : Nat) (y : Int), P k y → y ∈ qs ∧ gAt ds y ≤ k := by
    intro k
    induction k with
    | zero =>
      intro y hy
      have := (S.p0 y).1 hy
      subst this
      exact ⟨H.q0.1, by rw [H.q0.2]; simp⟩
    | succ k ih =>
      intro y hy
      obtain ⟨x, h1, h2⟩ := (S.ps k y).1 hy
      obtain ⟨h3, h4⟩ := ih x h1
      obtain ⟨h5, h6⟩ := H.cl x (by rw [ht]; exact h3) y h2
      obtain ⟨v, rfl, hv⟩ := S.rg _ _ h2
      exact ⟨(H.inq v hv).2 h5, by push_cast; omega⟩
  intro v hv
  refine (dist_eq ?_).symm
  by_cases h : 0 ≤ gAt ds v
  · exact .inl ⟨h, H.snd v hv h, fun k hk => (up k v hk).2⟩
  · refine .inr ⟨H.out v hv (by omega), fun k hk => ?_⟩
    have := (H.inq v hv).1 (up k v hk).1
    omega

/-! ### Walks in a graph -/
def Wk (l : List Edge) : Nat → Int → Int → Prop
  | 0, x, y => x = y
  | k + 1, x, y => ∃ e ∈ l, e.fr = x ∧ Wk l k e.to y
theorem Wk.snoc {l : List Edge} : ∀ {k : Nat} {x y : Int}, Wk l (k + 1) x y ↔ ∃ e ∈ l, Wk l k x e.fr ∧ e.to = y
  | 0, x, y => by
    constructor
    · rintro ⟨e, he, h1, h2⟩
      exact ⟨e, he, h1.symm, h2⟩
    · rintro ⟨e, he, h1, h2⟩
      exact ⟨e, he, h1.symm, h2⟩
  | k + 1, x, y => by
    constructor
    · rintro ⟨e, he, h1, h2⟩
      obtain ⟨f, hf, h3, h4⟩ := Wk.snoc.1 h2
      exact ⟨f, hf, ⟨e, he, h1, h3⟩, h4⟩
    · rintro ⟨f, hf, ⟨e, he, h1, h3⟩, h4⟩
      exact ⟨e, he, h1, Wk.snoc.2 ⟨f, hf, h3, h4⟩⟩

/-- The number of edges of a shortest walk. -/
noncomputable def dst (l : List Edge) (x y : Int) : Int := dist (fun k v => Wk l k x v) y
def outN (l : List Edge) (x : Int) : List Int := (l.filter fun e => decide (e.fr = x)).map Edge.to
theorem steps_fwd {n : Int} {N : Nat} {l : List Edge} (gr : Gr n l) (hN : n = N) {root : Nat} (hr : root < N) : Steps N (outN l) (fun k v => Wk l k root v) root := by
  refine ⟨hr, fun v => eq_comm, fun k v => ?_, fun x y hy => ?_⟩
  · rw [Wk.snoc]
    constructor
    · rintro ⟨e, he, h1, h2⟩
      exact ⟨e.fr, h1, List.mem_map.2 ⟨e, List.mem_filter.2 ⟨he, by simp⟩, h2⟩⟩
    · rintro ⟨x, h1, h2⟩
      obtain ⟨e, he, h3⟩ := List.mem_map.1 h2
      obtain ⟨he, h4⟩ := List.mem_filter.1 he
      simp at h4
      exact ⟨e, he, by rw [h4]; exact h1, h3⟩
  · obtain ⟨e, he, h3⟩ := List.mem_map.1 hy
    obtain ⟨a, b, h1, h2, h4, h5⟩ := gr.e e (List.mem_filter.1 he).1
    exact ⟨b, by omega, by omega⟩
end Go.Am
