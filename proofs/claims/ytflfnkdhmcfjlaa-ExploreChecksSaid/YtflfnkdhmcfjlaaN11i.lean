/- A part of the proof: The law ExploreChecks holds: any state of any system has the specified error, and a step of an invalid one returns it; no conditions. -/
import Derived.Test.YtflfnkdhmcfjlaaN11h
namespace Go.Am
open Go
set_option linter.unusedSimpArgs false
set_option linter.unusedVariables false
set_option maxRecDepth 100000
structure Gr (n : Int) (l : List Edge) : Prop where
 n0 : 0 ≤ n
 n4 : n ≤ 4096
 e : ∀ e ∈ l, ∃ a b : Nat, e.fr = a ∧ e.to = b ∧ (a : Int) < n ∧ (b : Int) < n
def hOf : V → Option Nat
 | .row _ h _ _ => some h
 | _ => none
structure NestB (lo : Nat) (m : Mem) (h q : Nat) (E : List (List Int)) (es : List V) : Prop where
 lh : lo ≤ h
 hm : h < m.next
 bh : m.blk h = some (.row 1 es)
 ln : es.length = E.length
 rw : ∀ (i : Nat) (v : V) (L : List Int), es[i]? = some v → E[i]? = some L → Rw lo m 1 v (L.map vi)
 ap : ∀ (i j : Nat) (v w : V) (k : Nat), es[i]? = some v → es[j]? = some w → hOf v = some k → hOf w = some k → i = j
 ne : ∀ (i : Nat) (v : V) (k : Nat), es[i]? = some v → hOf v = some k → k ≠ h ∧ k ≠ q
theorem NestB.mono {lo h q : Nat} {m m' : Mem} {E : List (List Int)} {es : List V} (H : NestB lo m h q E es) (hn : m.next ≤ m'.next) (hb : ∀ k, k ≠ q → k < m.next → m'.blk k = m.blk k) (hq : h ≠ q) : NestB lo m' h q E es := by
 refine ⟨H.lh, Nat.lt_of_lt_of_le H.hm hn, by rw [hb h hq H.hm]; exact H.bh, H.ln, fun i v L h1 h2 => (H.rw i v L h1 h2).mono hn (fun k l hk => ?_), H.ap, H.ne⟩
 subst hk
 have h3 := (H.ne i _ k h1 rfl).2
 rcases H.rw i _ L h1 h2 with ⟨h4, _⟩ | ⟨k2, h4, _, h5, _⟩
 ·cases h4
 ·cases h4
  exact hb k h3 h5
theorem Rw.hand {lo sz : Nat} {m : Mem} {v : V} {xs : List V} (h : Rw lo m sz v xs) {k : Nat} (hk : hOf v = some k) : v = .row sz k 0 xs.length ∧ lo ≤ k ∧ k < m.next ∧ m.blk k = some (.row sz xs) := by
 rcases h with ⟨rfl, _⟩ | ⟨k2, rfl, h1, h2, h3⟩
 ·cases hk
 ·cases hk
  exact ⟨rfl, h1, h2, h3⟩
theorem Rw.hOf_none {lo sz : Nat} {m : Mem} {v : V} {xs : List V} (h : Rw lo m sz v xs) (hk : hOf v = none) : v = .nil ∧ xs = [] := by
 rcases h with h | ⟨k2, rfl, _⟩
 ·exact h
 ·cases hk
theorem NestB.push {lo h q : Nat} {m : Mem} {E : List (List Int)} {es : List V} (H : NestB lo m h q E es) (c hN : Nat) (h1 : m.next ≤ hN) (h2 : hN < m.next + c) (hlo : lo ≤ m.next) (hq : q < m.next) {i : Nat} {L : List Int} (hE : E[i]? = some L) (hL : L.length < 1000000) (x : Int) :
  ∃ v v' m2, es[i]? = some v ∧ v.cells[0]? = some v ∧ apV lo hN (m.bump c) 1 v (.lst false 1 [vi x]) = some (v', m2) ∧ setC 0 1 v' v = some v' ∧ m2.blk h = some (.row 1 es) ∧ m2.next = m.next + c ∧ (∀ k, hOf v ≠ some k → k ≠ hN → m2.blk k = m.blk k) ∧ m2.blk q = m.blk q ∧ NestB lo (m2.set h (some (.row 1 (es.set i v')))) h q (E.set i (L ++ [x])) (es.set i v') := by
 have hi : i < E.length := (List.getElem?_eq_some_iff.1 hE).1
 have hv : es[i]? = some (es[i]'(by rw [H.ln]; exact hi)) := List.getElem?_eq_getElem _
 generalize es[i]'(by rw [H.ln]; exact hi) = v at hv
 have hr := H.rw i v L hv hE
 have hm := H.hm
 have fin : ∀ m2 : Mem, m2.next = m.next + c → m2.blk hN = some (.row 1 ((L ++ [x]).map vi)) → (∀ k, hOf v ≠ some k → k ≠ hN → m2.blk k = m.blk k) →
   NestB lo (m2.set h (some (.row 1 (es.set i (.row 1 hN 0 (L ++ [x]).length))))) h q (E.set i (L ++ [x])) (es.set i (.row 1 hN 0 (L ++ [x]).length)) := by
  intro m2 n2 b1 b2
  refine ⟨H.lh, by show h < m2.next; omega, by simp [Mem.set], by simp [H.ln], fun j w M hj hM => ?_, fun j k w z hk hj hk' e1 e2 => ?_, fun j w k hj hk => ?_⟩
  ·by_cases hij : j = i
   ·subst hij
    rw [List.getElem?_set_self (by rw [H.ln]; exact hi)] at hj
    rw [List.getElem?_set_self hi] at hM
    cases hj
    cases hM
    refine .inr ⟨hN, by simp, by omega, by show hN < m2.next; omega, ?_⟩
    rw [set_ne (by omega)]
    exact b1
   ·rw [List.getElem?_set_ne (Ne.symm hij)] at hj hM
    refine (H.rw j w M hj hM).mono (by show m.next ≤ m2.next; omega) (fun k l hk => ?_)
    subst hk
    have h3 := (H.ne j _ k hj rfl).1
    rw [set_ne h3]
    obtain ⟨_, _, h4, _⟩ := (H.rw j _ M hj hM).hand (k := k) rfl
    exact b2 k (fun hc => hij (H.ap j i _ _ k hj hv rfl hc)) (by omega)
  ·have lt : ∀ (j : Nat) (w : V) (k : Nat), j ≠ i → es[j]? = some w → hOf w = some k → k < m.next := by
    intro j w k _ hj hk
    have hjl := (List.getElem?_eq_some_iff.1 hj).1
    exact ((H.rw j w _ hj (List.getElem?_eq_getElem (by rw [← H.ln]; exact hjl))).hand hk).2.2.1
   by_cases hji : j = i
   ·by_cases hki : k = i
    ·rw [hji, hki]
    ·subst hji
     rw [List.getElem?_set_self (by rw [H.ln]; exact hi)] at hj
     rw [List.getElem?_set_ne (Ne.symm hki)] at hk'
     cases hj
     cases e1
     have := lt k z hN hki hk' e2
     omega
   ·by_cases hki : k = i
    ·subst hki
     rw [List.getElem?_set_self (by rw [H.ln]; exact hi)] at hk'
     rw [List.getElem?_set_ne (Ne.symm hji)] at hj
     cases hk'
     cases e2
     have := lt j w hN hji hj e1
     omega
    ·rw [List.getElem?_set_ne (Ne.symm hji)] at hj
     rw [List.getElem?_set_ne (Ne.symm hki)] at hk'
     exact H.ap j k w z hk hj hk' e1 e2
  ·by_cases hji : j = i
   ·subst hji
    rw [List.getElem?_set_self (by rw [H.ln]; exact hi)] at hj
    cases hj
    cases hk
    exact ⟨by omega, by omega⟩
   ·rw [List.getElem?_set_ne (Ne.symm hji)] at hj
    exact H.ne j w k hj hk
 cases hh : hOf v with
 | none =>
  obtain ⟨rfl, h3⟩ := hr.hOf_none hh
  have hL0 : L = [] := by simpa using h3
  subst hL0
  have hb : ([vi x] : List V).length < big := by simp [big]
  refine ⟨.nil, .row 1 hN 0 1, (m.bump c).set hN (some (.row 1 [vi x])), hv, rfl, ap_nil vw_lst rfl hb, rfl, ?_, rfl, fun k _ hk => set_ne hk, ?_, ?_⟩
  ·rw [set_ne (by omega)]
   exact H.bh
  ·rw [set_ne (by omega)]
   rfl
  ·exact fin ((m.bump c).set hN (some (.row 1 [vi x]))) rfl (by simp [Mem.set]) (fun k _ hk => set_ne hk)
 | some k =>
  obtain ⟨rfl, h3, h4, h5⟩ := hr.hand hh
  have hne := H.ne i _ k hv rfl
  have h6 : (m.bump c).blk k = some (.row 1 (L.map vi)) := h5
  have ha := ap_row (m := m.bump c) (lo := lo) (h := hN) (h' := k) (o := 0) (l := (L.map vi).length) (sz := 1) (s := 1) (y := .lst false 1 [vi x]) (xs := [vi x]) (es := L.map vi) vw_lst h3 (.inl rfl) (by simp [big]; omega) h6 (by simp)
  have e1 : (List.take (L.map vi).length (List.drop 0 (L.map vi)) ++ [vi x]) = (L ++ [x]).map vi := by rw [List.drop_zero, List.take_of_length_le (Nat.le_refl _), List.map_append]; rfl
  have e2 : (L.map vi).length + [vi x].length = (L ++ [x]).length := by simp
  rw [e1, e2] at ha
  have hbl : ∀ j, hOf (V.row 1 k 0 (L.map vi).length) ≠ some j → j ≠ hN → (((m.bump c).set k none).set hN (some (.row 1 ((L ++ [x]).map vi)))).blk j = m.blk j := fun j hj1 hj2 => by
   rw [set_ne hj2, set_ne (fun hc => hj1 (by rw [hc]; rfl))]
   rfl
  refine ⟨_, .row 1 hN 0 (L ++ [x]).length, ((m.bump c).set k none).set hN (some (.row 1 ((L ++ [x]).map vi))), hv, rfl, ha, rfl, ?_, rfl, hbl, ?_, ?_⟩
  ·rw [hbl h (fun hc => hne.1 (Option.some.inj hc)) (by omega)]
   exact H.bh
  ·exact hbl q (fun hc => hne.2 (Option.some.inj hc)) (by omega)
  ·exact fin _ rfl (by simp [Mem.set]) hbl
end Go.Am
namespace Go.Am
open Go
set_option linter.unusedSimpArgs false
set_option linter.unusedVariables false
set_option maxRecDepth 100000
def buck (key : Edge → Int) (val : Nat → Edge → Int) : List Edge → Nat → Int → List Int
 | [], _, _ => []
 | e :: t, i, w => (if key e = w then [val i e] else []) ++ buck key val t (i + 1) w
def bucks (key : Edge → Int) (val : Nat → Edge → Int) (N : Nat) (l : List Edge) : List (List Int) := (List.range N).map fun (w : Nat) => buck key val l 0 (w : Int)
theorem bucks_get {key : Edge → Int} {val : Nat → Edge → Int} {N : Nat} {l : List Edge} {b : Nat} (h : b < N) : (bucks key val N l)[b]? = some (buck key val l 0 b) := by simp [bucks, h]
theorem bucks_len {key : Edge → Int} {val : Nat → Edge → Int} {N : Nat} {l : List Edge} : (bucks key val N l).length = N := by simp [bucks]
def cntF (l : List Edge) (v : Nat) : Int := (l.countP fun e => decide (e.fr = (v : Int)) : Nat)
def cnts (N : Nat) (l : List Edge) : List Int := (List.range N).map (cntF l)
theorem cnts_get {N : Nat} {l : List Edge} {v : Nat} (h : v < N) : (cnts N l)[v]? = some (cntF l v) := by simp [cnts, h]
structure IR (lo : Nat) (m : Mem) (h : Nat) (xs : List Int) : Prop where
 lh : lo ≤ h
 hm : h < m.next
 b : m.blk h = some (.row 1 (xs.map vi))
theorem IR.mono {lo h : Nat} {m m' : Mem} {xs : List Int} (H : IR lo m h xs) (hn : m.next ≤ m'.next) (hb : m'.blk h = m.blk h) : IR lo m' h xs := ⟨H.lh, Nat.lt_of_lt_of_le H.hm hn, by rw [hb]; exact H.b⟩
theorem IR.set {lo h : Nat} {m : Mem} {xs : List Int} (H : IR lo m h xs) (ys : List Int) : IR lo (m.set h (some (.row 1 (ys.map vi)))) h ys := ⟨H.lh, H.hm, by simp [Mem.set]⟩
def frV (_ : Nat) (e : Edge) : Int := e.fr
def zeros (xs : List Int) (j : Nat) : List Int := ((List.range j).filter fun (i : Nat) => decide (xs[i]? = some 0)).map fun (i : Nat) => (i : Int)
structure Qs (lo : Nat) (m : Mem) (b : Nat) (v : V) (xs : List Int) : Prop where
 rw : Rw lo m 1 v (xs.map vi)
 nb : ∀ k, hOf v = some k → b ≤ k
 bn : b ≤ m.next
theorem Qs.push {lo b : Nat} {m : Mem} {v : V} {xs : List Int} (H : Qs lo m b v xs) (hlo : lo ≤ m.next) (hb : xs.length < 1000000) (x : Int) :
  ∃ v' m', apV lo m.next m 1 v (.lst false 1 [vi x]) = some (v', m') ∧ Qs lo (m'.bump 1) b v' (xs ++ [x]) ∧ m'.next = m.next ∧ ∀ k, k < b → m'.blk k = m.blk k := by
 obtain ⟨v', m', h1, h2, h3, _, h4, h5⟩ := H.rw.app2 (y := .lst false 1 [vi x]) hlo vw_lst (.inl rfl) (by simp [big]; omega)
 refine ⟨v', m', h1, ⟨by rw [List.map_append]; exact h2, fun k hk => ?_, by show b ≤ m'.next + 1; have := H.bn; omega⟩, h3, fun k hk => h4 k (fun l hv => ?_) (by have := H.bn; omega)⟩
 ·rcases h5 with rfl | ⟨l, rfl⟩
  ·cases hk
  ·cases hk; exact H.bn
 ·have := H.nb k (by rw [hv]; rfl)
  omega
theorem Qs.mono {lo b : Nat} {m m' : Mem} {v : V} {xs : List Int} (H : Qs lo m b v xs) (hn : m.next ≤ m'.next) (hb : ∀ k, b ≤ k → k < m.next → m'.blk k = m.blk k) : Qs lo m' b v xs :=
 ⟨H.rw.mono hn (fun k l hk => by
  subst hk
  obtain ⟨_, _, h4, _⟩ := H.rw.hand (k := k) rfl
  exact hb k (H.nb k rfl) h4), H.nb, Nat.le_trans H.bn hn⟩
theorem IR.len {lo h : Nat} {m : Mem} {xs : List Int} (H : IR lo m h xs) : True := trivial
end Go.Am
namespace Go.Am
open Go
set_option linter.unusedSimpArgs false
set_option linter.unusedVariables false
theorem nodup_le {α : Type} [DecidableEq α] : ∀ {xs ys : List α}, xs.Nodup → (∀ x ∈ xs, x ∈ ys) → xs.length ≤ ys.length
 | [], ys, _, _ => Nat.zero_le _
 | x :: xs, ys, h, hs => by
  rw [List.nodup_cons] at h
  have hx := hs x (by simp)
  have := nodup_le (xs := xs) (ys := ys.erase x) h.2 (fun y hy => (List.mem_erase_of_ne (fun e => h.1 (by rw [← e]; exact hy))).2 (hs y (by simp [hy])))
  rw [List.length_erase_of_mem hx] at this
  have : 0 < ys.length := List.length_pos_of_mem hx
  simp only [List.length_cons]
  omega
def gAt (xs : List Int) (r : Int) : Int := xs.getD r.toNat 0
theorem gAt_get {xs : List Int} {v : Nat} (h : v < xs.length) : xs[v]? = some (gAt xs v) := by
 rw [List.getElem?_eq_getElem h]
 simp [gAt, List.getD, List.getElem?_eq_getElem h]
theorem gAt_set {xs : List Int} {v w : Nat} {x : Int} (h : v < xs.length) : gAt (xs.set v x) w = if w = v then x else gAt xs w := by
 unfold gAt
 simp only [Int.toNat_natCast, List.getD]
 by_cases e : w = v
 ·subst e
  rw [List.getElem?_set_self h, if_pos rfl]; rfl
 ·rw [List.getElem?_set_ne (Ne.symm e), if_neg e]
structure LevEq (N : Nat) (l : List Edge) (f : List Int) : Prop where
 ln : f.length = N
 nn : ∀ v, v < N → 0 ≤ gAt f v
 ge : ∀ e ∈ l, gAt f e.to + 1 ≤ gAt f e.fr
 wit : ∀ v, v < N → gAt f v = 0 ∨ ∃ e ∈ l, e.fr = (v : Int) ∧ gAt f v = gAt f e.to + 1
theorem LevEq.uniq {n : Int} {N : Nat} {l : List Edge} (gr : Gr n l) (hN : n = N) {f g : List Int} (hf : LevEq N l f) (hg : LevEq N l g) : f = g := by
 have key : ∀ (k : Nat) (v : Nat), v < N → gAt f v < k → gAt f v = gAt g v := by
  intro k
  induction k with
  | zero => intro v hv h; have := hf.nn v hv; omega
  | succ k ih =>
   intro v hv h
   have le : ∀ e ∈ l, e.fr = (v : Int) → gAt f e.to = gAt g e.to := fun e he hfr => by
    obtain ⟨a, b, h1, h2, h3, h4⟩ := gr.e e he
    have h5 := hf.ge e he
    rw [hfr] at h5
    rw [h2] at h5 ⊢
    exact ih b (by omega) (by omega)
   rcases hf.wit v hv with h0 | ⟨e, he, hfr, hw⟩
   ·rcases hg.wit v hv with h1 | ⟨e, he, hfr, hw⟩
    ·omega
    ·have h2 := hf.ge e he
     obtain ⟨a, b, q1, q2, q3, q4⟩ := gr.e e he
     have h3 := hf.nn b (by omega)
     rw [hfr, q2] at h2
     omega
   ·have h1 := hg.ge e he
    rw [hfr, ← le e he hfr] at h1
    rcases hg.wit v hv with h2 | ⟨e', he', hfr', hw'⟩
    ·obtain ⟨a, b, q1, q2, q3, q4⟩ := gr.e e he
     have h3 := hf.nn b (by omega)
     rw [q2] at hw h1
     omega
    ·have h2 := hf.ge e' he'
     rw [hfr', le e' he' hfr'] at h2
     omega
 refine List.ext_getElem? fun v => ?_
 by_cases hv : v < N
 ·rw [gAt_get (by rw [hf.ln]; exact hv), gAt_get (by rw [hg.ln]; exact hv), key ((gAt f v).toNat + 1) v hv (by omega)]
 ·rw [List.getElem?_eq_none (by rw [hf.ln]; omega), List.getElem?_eq_none (by rw [hg.ln]; omega)]
def rest (l : List Edge) (P : List Int) (v : Nat) : Nat := l.countP fun e => decide (e.fr = (v : Int)) && !decide (e.to ∈ P)
theorem rest_nil {l : List Edge} {v : Nat} : (rest l [] v : Int) = cntF l v := by
 unfold rest cntF
 congr 1
 exact List.countP_congr (fun e _ => by simp)
theorem buck_count {P : List Int} {u : Int} {v : Nat} (hu : u ∉ P) : ∀ {l : List Edge} {i : Nat}, rest l P v = rest l (P ++ [u]) v + (buck Edge.to frV l i u).count (v : Int)
 | [], i => by simp [rest, buck]
 | e :: l, i => by
  have ih := buck_count (P := P) (u := u) (v := v) hu (l := l) (i := i + 1)
  unfold rest at ih ⊢
  rw [List.countP_cons, List.countP_cons, ih, buck, List.count_append]
  by_cases h1 : e.to = u
  ·rw [if_pos h1]
   by_cases h2 : e.fr = (v : Int)
   ·have h3 : ¬ e.to ∈ P := by rw [h1]; exact hu
    simp [h1, h2, frV, hu]
    omega
   ·simp [h2, frV, List.count_cons]
  ·rw [if_neg h1]
   by_cases h2 : e.to ∈ P
   ·simp [h2]
   ·simp [h1, h2]
    split <;> omega
theorem mem_inL {l : List Edge} {u x : Int} : ∀ {i : Nat}, x ∈ buck Edge.to frV l i u → ∃ e ∈ l, e.fr = x ∧ e.to = u := by
 induction l with
 | nil => intro i h; simp [buck] at h
 | cons e l ih =>
  intro i h
  rw [buck, List.mem_append] at h
  rcases h with h | h
  ·split at h
   ·rename_i h1
    simp [frV] at h
    exact ⟨e, by simp, h.symm, h1⟩
   ·simp at h
  ·obtain ⟨e', h1, h2⟩ := ih h
   exact ⟨e', by simp [h1], h2⟩
theorem inL_mem {l : List Edge} {e : Edge} : ∀ {i : Nat}, e ∈ l → e.fr ∈ buck Edge.to frV l i e.to := by
 induction l with
 | nil => intro i h; simp at h
 | cons d l ih =>
  intro i h
  rw [buck, List.mem_append]
  rcases List.mem_cons.1 h with rfl | h
  ·exact .inl (by simp [frV])
  ·exact .inr (ih h)
structure KI (N : Nat) (l : List Edge) (lf lv qs : List Int) (d : Nat) : Prop where
 lfl : lf.length = N
 lvl : lv.length = N
 dq : d ≤ qs.length
 nd : qs.Nodup
 rg : ∀ x ∈ qs, ∃ v : Nat, x = v ∧ v < N
 left : ∀ v, v < N → gAt lf v = rest l (qs.take d) v
 zero : ∀ v : Nat, v < N → ((v : Int) ∈ qs ↔ gAt lf v = 0)
 ge : ∀ e ∈ l, e.to ∈ qs.take d → gAt lv e.to + 1 ≤ gAt lv e.fr
 wit : ∀ v, v < N → gAt lv v = 0 ∨ ∃ e ∈ l, e.fr = (v : Int) ∧ e.to ∈ qs.take d ∧ gAt lv v = gAt lv e.to + 1
 bd : ∀ v, v < N → 0 ≤ gAt lv v ∧ gAt lv v ≤ d
structure KJ (N : Nat) (l : List Edge) (lf lv qs : List Int) (d : Nat) (u : Nat) (t : List Int) : Prop where
 lfl : lf.length = N
 lvl : lv.length = N
 uq : qs[d]? = some (u : Int)
 uN : u < N
 nd : qs.Nodup
 rg : ∀ x ∈ qs, ∃ v : Nat, x = v ∧ v < N
 tr : ∀ x ∈ t, ∃ v : Nat, x = v ∧ v < N ∧ ∃ e ∈ l, e.fr = x ∧ e.to = (u : Int)
 left : ∀ v, v < N → gAt lf v = rest l (qs.take d ++ [(u : Int)]) v + t.count (v : Int)
 zero : ∀ v : Nat, v < N → ((v : Int) ∈ qs ↔ gAt lf v = 0)
 ge : ∀ e ∈ l, e.to ∈ qs.take d → gAt lv e.to + 1 ≤ gAt lv e.fr
 gu : ∀ e ∈ l, e.to = (u : Int) → e.fr ∈ t ∨ gAt lv e.to + 1 ≤ gAt lv e.fr
 wit : ∀ v, v < N → gAt lv v = 0 ∨ ∃ e ∈ l, e.fr = (v : Int) ∧ (e.to ∈ qs.take d ∨ e.to = (u : Int)) ∧ gAt lv v = gAt lv e.to + 1
 bd : ∀ v, v < N → 0 ≤ gAt lv v ∧ gAt lv v ≤ d + 1
 bu : gAt lv u ≤ d
theorem nodup_take_get {qs : List Int} {d : Nat} {x : Int} (h : qs.Nodup) (hd : qs[d]? = some x) : x ∉ qs.take d := by
 intro hm
 obtain ⟨i, hi, e⟩ := List.getElem_of_mem hm
 have hdl := (List.getElem?_eq_some_iff.1 hd).1
 have hil : i < d := by simp at hi; omega
 have e1 : qs[i]? = some x := by
  rw [List.getElem_take] at e
  rw [List.getElem?_eq_getElem (by omega), e]
 have e2 := List.pairwise_iff_getElem.1 h i d (by omega) hdl hil
 rw [List.getElem?_eq_getElem (by omega)] at e1
 rw [List.getElem?_eq_getElem hdl] at hd
 rw [Option.some.inj e1, Option.some.inj hd] at e2
 exact e2 rfl
theorem KI.start {N : Nat} {n : Int} {l : List Edge} (gr : Gr n l) (hN : n = N) : KI N l (cnts N l) (List.replicate N 0) (zeros (cnts N l) N) 0 := by
 have hc : ∀ v, v < N → gAt (cnts N l) v = cntF l v := fun v hv => by
  have h1 := gAt_get (xs := cnts N l) (v := v) (by simp [cnts]; exact hv)
  rw [cnts_get hv] at h1
  exact (Option.some.inj h1).symm
 have hz : ∀ v : Nat, gAt (List.replicate N 0) v = 0 := fun v => by
  unfold gAt
  rw [Int.toNat_natCast, List.getD]
  by_cases h : v < N
  ·rw [List.getElem?_replicate_of_lt h]; rfl
  ·rw [List.getElem?_eq_none (by simp; omega)]; rfl
 refine ⟨by simp [cnts], by simp, Nat.zero_le _, ?_, fun x hx => ?_, fun v hv => ?_, fun v hv => ?_, fun e he h => by simp at h, fun v hv => .inl (hz v), fun v hv => by rw [hz v]; simp⟩
 ·unfold zeros
  refine List.Pairwise.map _ (fun a b h => ?_) (List.Pairwise.filter _ List.nodup_range)
  omega
 ·simp only [zeros, List.mem_map, List.mem_filter, List.mem_range] at hx
  obtain ⟨v, ⟨h1, _⟩, rfl⟩ := hx
  exact ⟨v, rfl, h1⟩
 ·rw [hc v hv, List.take_zero, rest_nil]
 ·rw [hc v hv]
  constructor
  ·intro h
   simp only [zeros, List.mem_map, List.mem_filter, List.mem_range, decide_eq_true_eq] at h
   obtain ⟨w, ⟨h1, h2⟩, h3⟩ := h
   have : w = v := by omega
   subst this
   rw [cnts_get h1] at h2
   exact Option.some.inj h2
  ·intro h
   refine List.mem_map.2 ⟨v, List.mem_filter.2 ⟨List.mem_range.2 hv, ?_⟩, rfl⟩
   rw [decide_eq_true_eq, cnts_get hv, h]
theorem KI.enter {N : Nat} {n : Int} {l : List Edge} (gr : Gr n l) (hN : n = N) {lf lv qs : List Int} {d : Nat} (H : KI N l lf lv qs d) {u : Nat} (hu : qs[d]? = some (u : Int)) : KJ N l lf lv qs d u (buck Edge.to frV l 0 u) := by
 have hm := List.mem_of_getElem? hu
 obtain ⟨v, hv, hvN⟩ := H.rg _ hm
 have : v = u := by omega
 subst this
 refine ⟨H.lfl, H.lvl, hu, hvN, H.nd, H.rg, fun x hx => ?_, fun w hw => ?_, H.zero, H.ge, fun e he h => .inl (by rw [← h]; exact inL_mem he), fun w hw => ?_, fun w hw => ?_, (H.bd v hvN).2⟩
 ·obtain ⟨e, he, h1, h2⟩ := mem_inL hx
  obtain ⟨a, b, q1, q2, q3, q4⟩ := gr.e e he
  exact ⟨a, by omega, by omega, e, he, h1, h2⟩
 ·rw [H.left w hw, buck_count (nodup_take_get H.nd hu) (i := 0)]
  push_cast
  rfl
 ·rcases H.wit w hw with h | ⟨e, h1, h2, h3, h4⟩
  ·exact .inl h
  ·exact .inr ⟨e, h1, h2, .inl h3, h4⟩
 ·have := H.bd w hw
  omega
theorem KJ.step {N : Nat} {l : List Edge} {lf lv qs : List Int} {d u x : Nat} {t : List Int} (H : KJ N l lf lv qs d u ((x : Int) :: t)) :
  x < N ∧ 1 ≤ gAt lf x ∧ ((x : Int) ∉ qs) ∧
  KJ N l (lf.set x (gAt lf x - 1)) (lv.set x (max (gAt lv x) (gAt lv u + 1))) (if gAt lf x - 1 = 0 then qs ++ [(x : Int)] else qs) d u t := by
 obtain ⟨w, hw, hxN, e0, he0, hf0, ht0⟩ := H.tr x (by simp)
 have : w = x := by omega
 subst this
 have hl := H.left w hxN
 rw [List.count_cons_self] at hl
 have h1 : 1 ≤ gAt lf w := by omega
 have hnq : (w : Int) ∉ qs := fun h => by have := (H.zero w hxN).1 h; omega
 have huq := List.mem_of_getElem? H.uq
 have huw : u ≠ w := fun h => hnq (by rw [← h]; exact huq)
 have hdl := (List.getElem?_eq_some_iff.1 H.uq).1
 have lfw : ∀ v : Nat, gAt (lf.set w (gAt lf w - 1)) v = if v = w then gAt lf w - 1 else gAt lf v := fun v => gAt_set (by rw [H.lfl]; exact hxN)
 have lvw : ∀ v : Nat, gAt (lv.set w (max (gAt lv w) (gAt lv u + 1))) v = if v = w then max (gAt lv w) (gAt lv u + 1) else gAt lv v := fun v => gAt_set (by rw [H.lvl]; exact hxN)
 have lvq : ∀ y ∈ qs, gAt (lv.set w (max (gAt lv w) (gAt lv u + 1))) y = gAt lv y := fun y hy => by
  obtain ⟨v, rfl, _⟩ := H.rg y hy
  rw [lvw, if_neg (fun h => hnq (by rw [← h]; exact hy))]
 have lvge : ∀ y : Nat, gAt lv y ≤ gAt (lv.set w (max (gAt lv w) (gAt lv u + 1))) y := fun y => by
  rw [lvw]
  split
  ·rename_i h; rw [h]; omega
  ·omega
 have htk : (if gAt lf w - 1 = 0 then qs ++ [(w : Int)] else qs).take d = qs.take d := by
  split
  ·rw [List.take_append_of_le_length (by omega)]
  ·rfl
 have hsub : ∀ y ∈ qs.take d, y ∈ qs := fun y hy => List.mem_of_mem_take hy
 refine ⟨hxN, h1, hnq, ⟨by simp [H.lfl], by simp [H.lvl], ?_, H.uN, ?_, ?_, fun y hy => H.tr y (by simp [hy]), fun v hv => ?_, fun v hv => ?_, fun e he h => ?_, fun e he h => ?_, fun v hv => ?_, fun v hv => ?_, ?_⟩⟩
 ·split
  ·rw [List.getElem?_append_left hdl]; exact H.uq
  ·exact H.uq
 ·split
  ·rw [List.nodup_append]
   exact ⟨H.nd, by simp, fun a ha b hb e => hnq (by simp at hb; rw [← hb, ← e]; exact ha)⟩
  ·exact H.nd
 ·intro y hy
  split at hy
  ·rcases List.mem_append.1 hy with hy | hy
   ·exact H.rg y hy
   ·exact ⟨w, by simpa using hy, hxN⟩
  ·exact H.rg y hy
 ·rw [htk, lfw]
  have hl2 := H.left v hv
  by_cases hvw : v = w
  ·subst hvw
   rw [if_pos rfl]
   omega
  ·rw [if_neg hvw]
   rw [List.count_cons_of_ne (by omega)] at hl2
   exact hl2
 ·rw [lfw]
  by_cases hvw : v = w
  ·subst hvw
   rw [if_pos rfl]
   constructor
   ·intro h
    split at h
    ·assumption
    ·exact absurd h hnq
   ·intro h
    rw [if_pos h]
    simp
  ·rw [if_neg hvw, ← H.zero v hv]
   split
   ·constructor
    ·intro h
     rcases List.mem_append.1 h with h | h
     ·exact h
     ·simp at h; omega
    ·intro h; exact List.mem_append_left _ h
   ·exact Iff.rfl
 ·rw [htk] at h
  have h2 := H.ge e he h
  rw [lvq _ (hsub _ h)]
  by_cases hfr : ∃ y : Nat, e.fr = y
  ·obtain ⟨y, hy⟩ := hfr
   rw [hy] at h2 ⊢
   have := lvge y
   omega
  ·have : gAt (lv.set w (max (gAt lv w) (gAt lv u + 1))) e.fr = gAt (lv.set w (max (gAt lv w) (gAt lv u + 1))) (e.fr.toNat : Nat) := rfl
   have e1 : gAt lv e.fr = gAt lv (e.fr.toNat : Nat) := rfl
   have := lvge e.fr.toNat
   omega
 ·have hfr : gAt (lv.set w (max (gAt lv w) (gAt lv u + 1))) e.fr = gAt (lv.set w (max (gAt lv w) (gAt lv u + 1))) (e.fr.toNat : Nat) := rfl
  have e1 : gAt lv e.fr = gAt lv (e.fr.toNat : Nat) := rfl
  have h2 := lvge e.fr.toNat
  have hto := lvq _ huq
  rw [h, hto]
  rcases H.gu e he h with h3 | h3
  ·rcases List.mem_cons.1 h3 with h3 | h3
   ·right
    rw [h3, lvw, if_pos rfl]
    omega
   ·exact .inl h3
  ·rw [h] at h3
   right
   omega
 ·rw [htk]
  have wq : ∀ e : Edge, (e.to ∈ qs.take d ∨ e.to = (u : Int)) → e.to ∈ qs := fun e h => by
   rcases h with h | h
   ·exact hsub _ h
   ·rw [h]; exact huq
  rw [lvw]
  by_cases hvw : v = w
  ·subst hvw
   rw [if_pos rfl]
   by_cases hm : gAt lv u + 1 ≤ gAt lv v
   ·rcases H.wit v hv with h | ⟨e, q1, q2, q3, q4⟩
    ·exact .inl (by omega)
    ·exact .inr ⟨e, q1, q2, q3, by have := lvq _ (wq e q3); omega⟩
   ·refine .inr ⟨e0, he0, hf0, .inr ht0, ?_⟩
    rw [ht0, lvq _ huq]
    omega
  ·rw [if_neg hvw]
   rcases H.wit v hv with h | ⟨e, q1, q2, q3, q4⟩
   ·exact .inl h
   ·exact .inr ⟨e, q1, q2, q3, by rw [lvq _ (wq e q3)]; exact q4⟩
 ·rw [lvw]
  have b1 := H.bd v hv
  have b2 := H.bu
  split
  ·rename_i h
   subst h
   omega
  ·exact b1
 ·rw [lvq _ huq]
  exact H.bu
theorem KI.len {N : Nat} {l : List Edge} {lf lv qs : List Int} {d : Nat} (H : KI N l lf lv qs d) : qs.length ≤ N := by
 have := nodup_le (xs := qs) (ys := (List.range N).map fun (i : Nat) => (i : Int)) H.nd (fun x hx => by
  obtain ⟨v, rfl, hv⟩ := H.rg x hx
  exact List.mem_map.2 ⟨v, List.mem_range.2 hv, rfl⟩)
 simpa using this
theorem KJ.len {N : Nat} {l : List Edge} {lf lv qs : List Int} {d u : Nat} {t : List Int} (H : KJ N l lf lv qs d u t) : qs.length ≤ N := by
 have := nodup_le (xs := qs) (ys := (List.range N).map fun (i : Nat) => (i : Int)) H.nd (fun x hx => by
  obtain ⟨v, rfl, hv⟩ := H.rg x hx
  exact List.mem_map.2 ⟨v, List.mem_range.2 hv, rfl⟩)
 simpa using this
theorem KI.full {N : Nat} {n : Int} {l : List Edge} (gr : Gr n l) (hN : n = N) {lf lv qs : List Int} {d : Nat} (H : KI N l lf lv qs d) (hd : qs.length ≤ d) (hdN : N ≤ d) : LevEq N l lv := by
 have all : ∀ v : Nat, v < N → (v : Int) ∈ qs := fun v hv => by
  refine Classical.byContradiction fun hn => ?_
  have := nodup_le (xs := (v : Int) :: qs) (ys := (List.range N).map fun (i : Nat) => (i : Int)) (List.nodup_cons.2 ⟨hn, H.nd⟩) (fun x hx => by
   rcases List.mem_cons.1 hx with rfl | hx
   ·exact List.mem_map.2 ⟨v, List.mem_range.2 hv, rfl⟩
   ·obtain ⟨w, rfl, hw⟩ := H.rg x hx
    exact List.mem_map.2 ⟨w, List.mem_range.2 hw, rfl⟩)
  have h2 := H.dq
  simp at this
  omega
 have ht : qs.take d = qs := List.take_of_length_le hd
 refine ⟨H.lvl, fun v hv => (H.bd v hv).1, fun e he => ?_, fun v hv => ?_⟩
 ·obtain ⟨a, b, h1, h2, h3, h4⟩ := gr.e e he
  refine H.ge e he ?_
  rw [ht, h2]
  exact all b (by omega)
 ·rcases H.wit v hv with h | ⟨e, q1, q2, q3, q4⟩
  ·exact .inl h
  ·exact .inr ⟨e, q1, q2, q4⟩
end Go.Am
namespace Go.Am
open Go
set_option linter.unusedSimpArgs false
set_option linter.unusedVariables false
set_option maxRecDepth 100000
theorem Qs.row {lo b : Nat} {m : Mem} {v : V} {xs : List Int} (H : Qs lo m b v xs) (h : xs ≠ []) : ∃ k, v = .row 1 k 0 xs.length ∧ lo ≤ k ∧ b ≤ k ∧ k < m.next ∧ m.blk k = some (.row 1 (xs.map vi)) := by
 rcases H.rw with ⟨_, h2⟩ | ⟨k, h1, h2, h3, h4⟩
 ·simp at h2; exact absurd h2 h
 ·refine ⟨k, by rw [h1]; simp, h2, ?_, h3, h4⟩
  exact H.nb k (by rw [h1]; rfl)
end Go.Am
namespace Go.Am
open Go
set_option linter.unusedSimpArgs false
set_option linter.unusedVariables false
set_option maxRecDepth 100000
theorem bucks_nil {key : Edge → Int} {val : Nat → Edge → Int} {N : Nat} : bucks key val N [] = List.replicate N [] := by
 refine List.ext_getElem? fun j => ?_
 by_cases h : j < N
 ·rw [bucks_get h, List.getElem?_replicate_of_lt h]; rfl
 ·rw [List.getElem?_eq_none (by simp [bucks_len]; omega), List.getElem?_eq_none (by simp; omega)]
theorem NestB.start {lo h q : Nat} {m : Mem} {key : Edge → Int} {val : Nat → Edge → Int} {N : Nat} (h1 : lo ≤ h) (h2 : h < m.next) (h3 : m.blk h = some (.row 1 (List.replicate N .nil))) : NestB lo m h q (bucks key val N []) (List.replicate N .nil) := by
 have nil_of : ∀ (i : Nat) (v : V), (List.replicate N V.nil)[i]? = some v → v = .nil := fun i v h => by
  have := List.mem_of_getElem? h
  exact List.eq_of_mem_replicate this
 refine ⟨h1, h2, h3, by simp [bucks_len], fun i v L hv hL => ?_, fun i j v w k hv hw e1 e2 => ?_, fun i v k hv hk => ?_⟩
 ·rw [nil_of i v hv]
  rw [bucks_nil] at hL
  have := List.eq_of_mem_replicate (List.mem_of_getElem? hL)
  rw [this]
  exact .nil
 ·rw [nil_of i v hv] at e1; cases e1
 ·rw [nil_of i v hv] at hk; cases hk
def shOf (es : List V) (u : Nat) : Nat := ((es[u]?).bind hOf).getD 0
theorem NestB.view {lo h q : Nat} {m : Mem} {E : List (List Int)} {es : List V} (H : NestB lo m h q E es) {u : Nat} {w : V} {L : List Int} (hw : es[u]? = some w) (hL : E[u]? = some L) :
  (w = .nil ∧ L = []) ∨ (w = .row 1 (shOf es u) 0 L.length ∧ shOf es u < m.next ∧ shOf es u ≠ h ∧ shOf es u ≠ q ∧ m.blk (shOf es u) = some (.row 1 (L.map vi))) := by
 rcases H.rw u w L hw hL with ⟨h1, h2⟩ | ⟨k, h1, h2, h3, h4⟩
 ·exact .inl ⟨h1, by simpa using h2⟩
 ·have hs : shOf es u = k := by simp [shOf, hw, h1, hOf]
  have hn := H.ne u w k hw (by rw [h1]; rfl)
  rw [hs]
  exact .inr ⟨by rw [h1]; simp, h3, hn.1, hn.2, h4⟩
end Go.Am
namespace Go.Am
open Go
set_option linter.unusedSimpArgs false
set_option linter.unusedVariables false
set_option maxRecDepth 100000
structure RI (N : Nat) (l : List Edge) (r : Nat) (p : List Edge) (o : List Int) (more : Bool) : Prop where
 ln : o.length = N
 nn : ∀ v, v < N → 0 ≤ gAt o v
 wit : ∀ v, v < N → gAt o v = 0 ∨ ∃ e ∈ l, e.fr = (v : Int) ∧ gAt o v ≤ gAt o e.to + 1
 le : ∀ f, LevEq N l f → ∀ v, v < N → gAt o v ≤ gAt f v
 eq : ∀ f, LevEq N l f → ∀ v, v < N → gAt f v ≤ r → gAt o v = gAt f v
 pr : ∀ f, LevEq N l f → ∀ e ∈ p, gAt f e.to ≤ r → gAt f e.to + 1 ≤ gAt o e.fr
 no : more = false → ∀ e ∈ p, gAt o e.to + 1 ≤ gAt o e.fr
 fin : ∀ f, LevEq N l f → (∀ v, v < N → gAt f v ≤ r) → more = false
 bd : ∀ v, v < N → gAt o v ≤ r * 100000 + p.length
theorem RI.start {N : Nat} {l : List Edge} : RI N l 0 [] (List.replicate N 0) false := by
 have hz : ∀ v : Nat, gAt (List.replicate N 0) v = 0 := fun v => by
  unfold gAt
  rw [Int.toNat_natCast, List.getD]
  by_cases h : v < N
  ·rw [List.getElem?_replicate_of_lt h]; rfl
  ·rw [List.getElem?_eq_none (by simp; omega)]; rfl
 refine ⟨by simp, fun v _ => by rw [hz]; omega, fun v _ => .inl (hz v), fun f hf v hv => by rw [hz]; exact hf.nn v hv, fun f hf v hv h => by rw [hz]; have := hf.nn v hv; omega, fun f hf e he => by simp at he, fun _ e he => by simp at he, fun _ _ _ => rfl, fun v hv => by rw [hz]; simp⟩
theorem RI.keep {N r : Nat} {l p : List Edge} {o : List Int} {more : Bool} (H : RI N l r p o more) {e : Edge} (h : gAt o e.to + 1 ≤ gAt o e.fr) {n : Int} (gr : Gr n l) (hN : n = N) (he : e ∈ l) : RI N l r (p ++ [e]) o more := by
 refine ⟨H.ln, H.nn, H.wit, H.le, H.eq, fun f hf d hd hr => ?_, fun hm d hd => ?_, H.fin, fun v hv => by have := H.bd v hv; simp; omega⟩
 ·rcases List.mem_append.1 hd with hd | hd
  ·exact H.pr f hf d hd hr
  ·simp at hd
   subst hd
   obtain ⟨a, b, h1, h2, h3, h4⟩ := gr.e d he
   rw [h2] at hr h ⊢
   rw [← H.eq f hf b (by omega) hr]
   exact h
 ·rcases List.mem_append.1 hd with hd | hd
  ·exact H.no hm d hd
  ·simp at hd
   subst hd
   exact h
theorem RI.done {N r : Nat} {l : List Edge} {o : List Int} (H : RI N l r l o false) : LevEq N l o := by
 refine ⟨H.ln, H.nn, H.no rfl, fun v hv => ?_⟩
 rcases H.wit v hv with h | ⟨e, h1, h2, h3⟩
 ·exact .inl h
 ·have := H.no rfl e h1
  rw [h2] at this
  exact .inr ⟨e, h1, h2, by omega⟩
theorem RI.next {N r : Nat} {l : List Edge} {o : List Int} (H : RI N l r l o true) (hl : l.length ≤ 100000) : RI N l (r + 1) [] o false := by
 refine ⟨H.ln, H.nn, H.wit, H.le, fun f hf v hv hr => ?_, fun f hf e he => by simp at he, fun _ e he => by simp at he, fun _ _ _ => rfl, fun v hv => by have := H.bd v hv; push_cast; simp; omega⟩
 by_cases h : gAt f v ≤ r
 ·exact H.eq f hf v hv h
 ·rcases hf.wit v hv with h1 | ⟨e, h1, h2, h3⟩
  ·omega
  ·have h4 := H.pr f hf e h1 (by push_cast at hr; omega)
   rw [h2] at h4
   have := H.le f hf v hv
   omega
theorem LevEq.small {n : Int} {N : Nat} {l : List Edge} (gr : Gr n l) (hN : n = N) {f : List Int} (hf : LevEq N l f) : ∀ v, v < N → gAt f v ≤ N := by
 intro v hv
 have down : ∀ (k : Nat) (w : Nat), w < N → (k : Int) ≤ gAt f w → ∃ w', w' < N ∧ gAt f w' = k := by
  intro k w hw hk
  obtain ⟨j, hj⟩ : ∃ j : Nat, gAt f w = k + j := ⟨(gAt f w - k).toNat, by omega⟩
  induction j generalizing w with
  | zero => exact ⟨w, hw, by omega⟩
  | succ j ih =>
   rcases hf.wit w hw with h1 | ⟨e, h1, h2, h3⟩
   ·omega
   ·obtain ⟨a, b, q1, q2, q3, q4⟩ := gr.e e h1
    rw [q2] at h3
    exact ih b (by omega) (by omega) (by omega)
 refine Classical.byContradiction fun hgt => ?_
 have hall : ∀ k : Nat, k < N + 1 → ∃ w, w < N ∧ gAt f w = k := fun k hk => down k v hv (by omega)
 have hch : ∃ g : Nat → Nat, ∀ k, k < N + 1 → g k < N ∧ gAt f (g k) = k := by
  refine ⟨fun k => if h : k < N + 1 then Classical.choose (hall k h) else 0, fun k hk => ?_⟩
  simp only [dif_pos hk]
  exact Classical.choose_spec (hall k hk)
 obtain ⟨g, hg⟩ := hch
 have := nodup_le (xs := (List.range (N + 1)).map g) (ys := List.range N) (by
  refine List.pairwise_map.2 (List.Pairwise.imp_of_mem (fun {a b} ha hb hab he => ?_) List.nodup_range)
  have h1 := (hg a (List.mem_range.1 ha)).2
  have h2 := (hg b (List.mem_range.1 hb)).2
  rw [he] at h1
  exact hab (by omega)) (fun x hx => by
  obtain ⟨k, hk, rfl⟩ := List.mem_map.1 hx
  exact List.mem_range.2 (hg k (List.mem_range.1 hk)).1)
 simp at this
 omega
end Go.Am
namespace Go.Am
open Go
set_option linter.unusedSimpArgs false
set_option linter.unusedVariables false
def IsD (P : Nat → Int → Prop) (v z : Int) : Prop := (0 ≤ z ∧ P z.toNat v ∧ ∀ k : Nat, P k v → z ≤ k) ∨ (z = -1 ∧ ∀ k, ¬ P k v)
theorem least {p : Nat → Prop} (h : ∃ k, p k) : ∃ k, p k ∧ ∀ j, p j → k ≤ j := by
 obtain ⟨k, hk⟩ := h
 induction k using Nat.strongRecOn with
 | ind k ih =>
  by_cases hj : ∃ j, j < k ∧ p j
  ·obtain ⟨j, h1, h2⟩ := hj
   exact ih j h1 h2
  ·exact ⟨k, hk, fun j hp => Nat.le_of_not_lt fun h => hj ⟨j, h, hp⟩⟩
theorem IsD.ex {P : Nat → Int → Prop} {v : Int} : ∃ z, IsD P v z := by
 by_cases h : ∃ k, P k v
 ·obtain ⟨k, h1, h2⟩ := least h
  exact ⟨k, .inl ⟨by omega, by simpa using h1, fun j hj => by have := h2 j hj; omega⟩⟩
 ·exact ⟨-1, .inr ⟨rfl, fun k hk => h ⟨k, hk⟩⟩⟩
theorem IsD.uniq {P : Nat → Int → Prop} {v z w : Int} (h1 : IsD P v z) (h2 : IsD P v w) : z = w := by
 rcases h1 with ⟨a1, a2, a3⟩ | ⟨a1, a2⟩ <;> rcases h2 with ⟨b1, b2, b3⟩ | ⟨b1, b2⟩
 ·have := a3 _ b2; have := b3 _ a2; omega
 ·exact absurd a2 (b2 _)
 ·exact absurd b2 (a2 _)
 ·omega
open Classical in
noncomputable def dist (P : Nat → Int → Prop) (v : Int) : Int := Classical.choose (IsD.ex (P := P) (v := v))
theorem dist_spec {P : Nat → Int → Prop} {v : Int} : IsD P v (dist P v) := Classical.choose_spec (IsD.ex (P := P) (v := v))
theorem dist_eq {P : Nat → Int → Prop} {v z : Int} (h : IsD P v z) : dist P v = z := dist_spec.uniq h
structure Steps (N : Nat) (nb : Int → List Int) (P : Nat → Int → Prop) (root : Nat) : Prop where
 rt : root < N
 p0 : ∀ v, P 0 v ↔ v = (root : Int)
 ps : ∀ k v, P (k + 1) v ↔ ∃ x, P k x ∧ v ∈ nb x
 rg : ∀ x y, y ∈ nb x → ∃ v : Nat, y = v ∧ v < N
structure BI (N : Nat) (nb : Int → List Int) (P : Nat → Int → Prop) (root : Nat) (ds qs : List Int) (d : Nat) : Prop where
 dl : ds.length = N
 rg : ∀ x ∈ qs, ∃ v : Nat, x = v ∧ v < N
 nd : qs.Nodup
 dq : d ≤ qs.length
 q0 : (root : Int) ∈ qs ∧ gAt ds root = 0
 inq : ∀ v : Nat, v < N → ((v : Int) ∈ qs ↔ 0 ≤ gAt ds v)
 out : ∀ v : Nat, v < N → gAt ds v < 0 → gAt ds v = -1
 snd : ∀ v : Nat, v < N → 0 ≤ gAt ds v → P (gAt ds v).toNat v
 srt : qs.Pairwise fun a b => gAt ds a ≤ gAt ds b
 bnd : ∀ x, qs[d]? = some x → ∀ y ∈ qs, gAt ds y ≤ gAt ds x + 1
 cl : ∀ x ∈ qs.take d, ∀ y ∈ nb x, 0 ≤ gAt ds y ∧ gAt ds y ≤ gAt ds x + 1
 bd : ∀ v : Nat, v < N → gAt ds v ≤ d
structure BJ (N : Nat) (nb : Int → List Int) (P : Nat → Int → Prop) (root : Nat) (ds qs : List Int) (d u : Nat) (t : List Int) : Prop where
 dl : ds.length = N
 rg : ∀ x ∈ qs, ∃ v : Nat, x = v ∧ v < N
 nd : qs.Nodup
 uq : qs[d]? = some (u : Int)
 uN : u < N
 q0 : (root : Int) ∈ qs ∧ gAt ds root = 0
 inq : ∀ v : Nat, v < N → ((v : Int) ∈ qs ↔ 0 ≤ gAt ds v)
 out : ∀ v : Nat, v < N → gAt ds v < 0 → gAt ds v = -1
 snd : ∀ v : Nat, v < N → 0 ≤ gAt ds v → P (gAt ds v).toNat v
 srt : qs.Pairwise fun a b => gAt ds a ≤ gAt ds b
 bnd : ∀ y ∈ qs, gAt ds y ≤ gAt ds u + 1
 cl : ∀ x ∈ qs.take d, ∀ y ∈ nb x, 0 ≤ gAt ds y ∧ gAt ds y ≤ gAt ds x + 1
 cu : ∀ y ∈ nb u, y ∈ t ∨ (0 ≤ gAt ds y ∧ gAt ds y ≤ gAt ds u + 1)
 tr : ∀ y ∈ t, y ∈ nb u
 bd : ∀ v : Nat, v < N → gAt ds v ≤ d + 1
 bu : 0 ≤ gAt ds u ∧ gAt ds u ≤ d
theorem BI.start {N root : Nat} {nb : Int → List Int} {P : Nat → Int → Prop} (S : Steps N nb P root) : BI N nb P root ((List.replicate N (-1)).set root 0) [(root : Int)] 0 := by
 have hr := S.rt
 have hz : ∀ v : Nat, v < N → gAt (List.replicate N (-1)) v = -1 := fun v h => by
  unfold gAt
  rw [Int.toNat_natCast, List.getD, List.getElem?_replicate_of_lt h]; rfl
 have gs : ∀ v : Nat, v < N → gAt ((List.replicate N (-1)).set root 0) v = if v = root then 0 else -1 := fun v h => by
  rw [gAt_set (by simp; exact hr), hz v h]
 refine ⟨by simp, fun x hx => ⟨root, by simpa using hx, hr⟩, by simp, Nat.zero_le _, ⟨by simp, by rw [gs root hr, if_pos rfl]⟩, fun v hv => ?_, fun v hv h => ?_, fun v hv h => ?_, by simp, fun x hx y hy => ?_, fun x hx => by simp at hx, fun v hv => ?_⟩
 ·rw [gs v hv]
  by_cases h : v = root
  ·simp [h]
  ·rw [if_neg h]; simp; omega
 ·rw [gs v hv] at h ⊢
  split at h
  ·omega
  ·rename_i h1; rw [if_neg h1]
 ·rw [gs v hv] at h ⊢
  split at h
  ·rename_i h1
   rw [if_pos h1]
   exact (S.p0 _).2 (by rw [h1])
  ·omega
 ·simp at hx hy
  subst hx
  subst hy
  omega
 ·rw [gs v hv]
  split <;> omega
theorem BI.enter {N root : Nat} {nb : Int → List Int} {P : Nat → Int → Prop} {ds qs : List Int} {d u : Nat} (H : BI N nb P root ds qs d) (hu : qs[d]? = some (u : Int)) : BJ N nb P root ds qs d u (nb u) := by
 have hm := List.mem_of_getElem? hu
 obtain ⟨v, hv, hvN⟩ := H.rg _ hm
 have : v = u := by omega
 subst this
 exact ⟨H.dl, H.rg, H.nd, hu, hvN, H.q0, H.inq, H.out, H.snd, H.srt, H.bnd _ hu, H.cl, fun y hy => .inl hy, fun y hy => hy, fun w hw => by have := H.bd w hw; omega, (H.inq v hvN).1 hm, H.bd v hvN⟩
theorem BJ.old {N root : Nat} {nb : Int → List Int} {P : Nat → Int → Prop} {ds qs : List Int} {d u : Nat} {y : Int} {t : List Int} (H : BJ N nb P root ds qs d u (y :: t)) (h : 0 ≤ gAt ds y) (hN : ∃ v : Nat, y = v ∧ v < N) : BJ N nb P root ds qs d u t := by
 refine { H with cu := fun z hz => ?_, tr := fun z hz => H.tr z (by simp [hz]) }
 rcases H.cu z hz with h1 | h1
 ·rcases List.mem_cons.1 h1 with rfl | h1
  ·obtain ⟨v, rfl, hv⟩ := hN
   exact .inr ⟨h, H.bnd _ ((H.inq v hv).2 h)⟩
  ·exact .inl h1
 ·exact .inr h1
theorem BJ.new {N root : Nat} {nb : Int → List Int} {P : Nat → Int → Prop} (S : Steps N nb P root) {ds qs : List Int} {d u w : Nat} {t : List Int} (H : BJ N nb P root ds qs d u ((w : Int) :: t)) (hw : w < N) (h : gAt ds w < 0) : BJ N nb P root (ds.set w (gAt ds u + 1)) (qs ++ [(w : Int)]) d u t := by
 have hnq : (w : Int) ∉ qs := fun hh => by have := (H.inq w hw).1 hh; omega
 have gs : ∀ v : Nat, gAt (ds.set w (gAt ds u + 1)) v = if v = w then gAt ds u + 1 else gAt ds v := fun v => gAt_set (by rw [H.dl]; exact hw)
 have gq : ∀ y ∈ qs, gAt (ds.set w (gAt ds u + 1)) y = gAt ds y := fun y hy => by
  obtain ⟨v, rfl, _⟩ := H.rg y hy
  rw [gs, if_neg (fun hh => hnq (by rw [← hh]; exact hy))]
 have huq := List.mem_of_getElem? H.uq
 have hdl := (List.getElem?_eq_some_iff.1 H.uq).1
 have htk : (qs ++ [(w : Int)]).take d = qs.take d := List.take_append_of_le_length (by omega)
 have hge : ∀ y : Int, (∃ v : Nat, y = v ∧ v < N) → 0 ≤ gAt ds y → gAt (ds.set w (gAt ds u + 1)) y = gAt ds y := fun y hy h0 => by
  obtain ⟨v, rfl, hv⟩ := hy
  exact gq _ ((H.inq v hv).2 h0)
 have b0 := H.bu
 refine ⟨by simp [H.dl], fun x hx => ?_, ?_, by rw [List.getElem?_append_left hdl]; exact H.uq, H.uN, ⟨List.mem_append_left _ H.q0.1, by rw [gq _ H.q0.1]; exact H.q0.2⟩, fun v hv => ?_, fun v hv hlt => ?_, fun v hv hge => ?_, ?_, fun y hy => ?_, fun x hx y hy => ?_, fun y hy => ?_, fun y hy => H.tr y (by simp [hy]), fun v hv => ?_, ?_⟩
 ·rcases List.mem_append.1 hx with hx | hx
  ·exact H.rg x hx
  ·exact ⟨w, by simpa using hx, hw⟩
 ·rw [List.nodup_append]
  exact ⟨H.nd, by simp, fun a ha b hb e => hnq (by simp at hb; rw [← hb, ← e]; exact ha)⟩
 ·rw [gs, List.mem_append]
  by_cases hvw : v = w
  ·rw [if_pos hvw]
   constructor
   ·intro _; omega
   ·intro _; exact .inr (by simp [hvw])
  ·rw [if_neg hvw, ← H.inq v hv]
   constructor
   ·rintro (h1 | h1)
    ·exact h1
    ·simp at h1; omega
   ·exact .inl
 ·rw [gs] at hlt ⊢
  split at hlt
  ·omega
  ·rename_i h1
   rw [if_neg h1]
   exact H.out v hv hlt
 ·rw [gs] at hge ⊢
  split at hge
  ·rename_i h1
   rw [if_pos h1, h1]
   have h2 := H.snd u H.uN b0.1
   have : (gAt ds u + 1).toNat = (gAt ds u).toNat + 1 := by omega
   rw [this]
   exact (S.ps _ _).2 ⟨u, h2, H.tr _ (by simp)⟩
  ·rename_i h1
   rw [if_neg h1]
   exact H.snd v hv hge
 ·rw [List.pairwise_append]
  refine ⟨H.srt.imp_of_mem (fun {a b} ha hb hab => by rw [gq a ha, gq b hb]; exact hab), by simp, fun a ha b hb => ?_⟩
  simp at hb
  subst hb
  rw [gq a ha, gs, if_pos rfl]
  exact H.bnd a ha
 ·rw [gq _ huq]
  rcases List.mem_append.1 hy with hy | hy
  ·rw [gq y hy]; exact H.bnd y hy
  ·simp at hy
   subst hy
   rw [gs, if_pos rfl]
   omega
 ·rw [htk] at hx
  have h1 := H.cl x hx y hy
  rw [gq x (List.mem_of_mem_take hx), hge y (S.rg _ _ hy) h1.1]
  exact h1
 ·rcases H.cu y hy with h1 | h1
  ·rcases List.mem_cons.1 h1 with rfl | h1
   ·rw [gq _ huq, gs, if_pos rfl]
    exact .inr ⟨by omega, by omega⟩
   ·exact .inl h1
  ·rw [gq _ huq, hge y (S.rg _ _ hy) h1.1]
   exact .inr h1
 ·rw [gs]
  have := H.bd v hv
  split <;> omega
 ·rw [gq _ huq]
  exact b0
theorem BJ.len {N root : Nat} {nb : Int → List Int} {P : Nat → Int → Prop} {ds qs : List Int} {d u : Nat} {t : List Int} (H : BJ N nb P root ds qs d u t) : qs.length ≤ N := by
 have := nodup_le (xs := qs) (ys := (List.range N).map fun (i : Nat) => (i : Int)) H.nd (fun x hx => by
  obtain ⟨v, rfl, hv⟩ := H.rg x hx
  exact List.mem_map.2 ⟨v, List.mem_range.2 hv, rfl⟩)
 simpa using this
theorem BI.len {N root : Nat} {nb : Int → List Int} {P : Nat → Int → Prop} {ds qs : List Int} {d : Nat} (H : BI N nb P root ds qs d) : qs.length ≤ N := by
 have := nodup_le (xs := qs) (ys := (List.range N).map fun (i : Nat) => (i : Int)) H.nd (fun x hx => by
  obtain ⟨v, rfl, hv⟩ := H.rg x hx
  exact List.mem_map.2 ⟨v, List.mem_range.2 hv, rfl⟩)
 simpa using this
theorem BI.done {N root : Nat} {nb : Int → List Int} {P : Nat → Int → Prop} (S : Steps N nb P root) {ds qs : List Int} {d : Nat} (H : BI N nb P root ds qs d) (hd : qs.length ≤ d) : ∀ v : Nat, v < N → gAt ds v = dist P v := by
 have ht : qs.take d = qs := List.take_of_length_le hd
 have up : ∀ (k : Nat) (y : Int), P k y → y ∈ qs ∧ gAt ds y ≤ k := by
  intro k
  induction k with
  | zero =>
   intro y hy
   have := (S.p0 y).1 hy
   subst this
   exact ⟨H.q0.1, by rw [H.q0.2]; simp⟩
  | succ k ih =>
   intro y hy
   obtain ⟨x, h1, h2⟩ := (S.ps k y).1 hy
   obtain ⟨h3, h4⟩ := ih x h1
   obtain ⟨h5, h6⟩ := H.cl x (by rw [ht]; exact h3) y h2
   obtain ⟨v, rfl, hv⟩ := S.rg _ _ h2
   exact ⟨(H.inq v hv).2 h5, by push_cast; omega⟩
 intro v hv
 refine (dist_eq ?_).symm
 by_cases h : 0 ≤ gAt ds v
 ·exact .inl ⟨h, H.snd v hv h, fun k hk => (up k v hk).2⟩
 ·refine .inr ⟨H.out v hv (by omega), fun k hk => ?_⟩
  have := (H.inq v hv).1 (up k v hk).1
  omega
def Wk (l : List Edge) : Nat → Int → Int → Prop
 | 0, x, y => x = y
 | k + 1, x, y => ∃ e ∈ l, e.fr = x ∧ Wk l k e.to y
noncomputable def dst (l : List Edge) (x y : Int) : Int := dist (fun k v => Wk l k x v) y
end Go.Am
namespace Go.Am
open Go
set_option linter.unusedSimpArgs false
set_option linter.unusedVariables false
set_option maxRecDepth 100000
def fill (N j : Nat) : List Int := List.replicate j (-1) ++ List.replicate (N - j) 0
end Go.Am
namespace Go.Am
open Go
set_option linter.unusedSimpArgs false
set_option linter.unusedVariables false
set_option maxRecDepth 100000
structure Qo (lo : Nat) (m : Mem) (b : Nat) (v : V) (xs : List Int) : Prop where
 ex : ∃ k o es, v = .row 1 k o xs.length ∧ lo ≤ k ∧ b ≤ k ∧ k < m.next ∧ m.blk k = some (.row 1 es) ∧ es.drop o = xs.map vi ∧ o + xs.length = es.length
theorem Qo.push {lo b : Nat} {m : Mem} {v : V} {xs : List Int} (H : Qo lo m b v xs) (hlo : lo ≤ m.next) (hb : xs.length < 1000000) (x : Int) :
  ∃ v' m', apV lo m.next m 1 v (.lst false 1 [vi x]) = some (v', m') ∧ Qo lo (m'.bump 1) b v' (xs ++ [x]) ∧ m'.next = m.next ∧ ∀ k, k < b → m'.blk k = m.blk k := by
 obtain ⟨k, o, es, rfl, h1, h2, h3, h4, h5, h6⟩ := H.ex
 have ha := ap_row (m := m) (lo := lo) (h := m.next) (h' := k) (o := o) (l := xs.length) (sz := 1) (s := 1) (y := .lst false 1 [vi x]) (xs := [vi x]) (es := es) vw_lst h1 (.inl rfl) (by simp [big]; omega) h4 (by omega)
 have e1 : (es.drop o).take xs.length ++ [vi x] = (xs ++ [x]).map vi := by
  rw [h5, List.take_of_length_le (by simp), List.map_append]
  rfl
 have e2 : xs.length + [vi x].length = (xs ++ [x]).length := by simp
 rw [e1, e2] at ha
 refine ⟨_, _, ha, ⟨m.next, 0, _, rfl, hlo, by omega, Nat.lt_succ_self _, by simp [Mem.bump, Mem.set], rfl, by simp⟩, rfl, fun j hj => ?_⟩
 rw [set_ne (by omega), set_ne (by omega)]
theorem Qo.mono {lo b : Nat} {m m' : Mem} {v : V} {xs : List Int} (H : Qo lo m b v xs) (hn : m.next ≤ m'.next) (hb : ∀ k, b ≤ k → k < m.next → m'.blk k = m.blk k) : Qo lo m' b v xs := by
 obtain ⟨k, o, es, rfl, h1, h2, h3, h4, h5, h6⟩ := H.ex
 exact ⟨k, o, es, rfl, h1, h2, by omega, by rw [hb k h2 h3]; exact h4, h5, h6⟩
theorem Qo.len {lo b : Nat} {m : Mem} {v : V} {xs : List Int} (H : Qo lo m b v xs) : retV (.len false) [v] = some (vi xs.length) := by
 obtain ⟨k, o, es, rfl, _⟩ := H.ex
 rfl
end Go.Am
namespace Go.Am
open Go
set_option linter.unusedSimpArgs false
set_option linter.unusedVariables false
set_option maxRecDepth 100000
noncomputable def lenE (l : List Edge) (e : Edge) : Int := if dst l e.to e.fr < 0 then -1 else dst l e.to e.fr + 1
def Bst (l : List Edge) (b : Int × Int) : Prop := (b.1 = -1 ∧ b.2 = -1) ∨ ∃ j e, b.1 = ((j : Nat) : Int) ∧ l[j]? = some e ∧ lenE l e = b.2 ∧ 0 < b.2
theorem Bst.step {l : List Edge} {b : Int × Int} (H : Bst l b) {i : Nat} {e : Edge} (hi : l[i]? = some e) : Bst l (if 0 < lenE l e ∧ (b.2 < 0 ∨ lenE l e < b.2) then ((i : Int), lenE l e) else b) := by
 split
 ·rename_i h
  exact .inr ⟨i, e, rfl, hi, rfl, h.1⟩
 ·exact H
end Go.Am
namespace Go.Am
open Go
set_option linter.unusedSimpArgs false
set_option linter.unusedVariables false
theorem Wk.trans {l : List Edge} {y z : Int} : ∀ {j k : Nat} {x : Int}, Wk l j x y → Wk l k y z → Wk l (j + k) x z
 | 0, k, x, h1, h2 => by
  have : x = y := h1
  subst this
  simpa using h2
 | j + 1, k, x, ⟨e, he, h3, h4⟩, h2 => by
  rw [show j + 1 + k = (j + k) + 1 by omega]
  exact ⟨e, he, h3, Wk.trans h4 h2⟩
def EC : Int → List Edge → Int → Prop
 | x, [], y => x = y
 | x, e :: t, y => e.fr = x ∧ EC e.to t y
theorem EC.next {y : Int} : ∀ {es : List Edge} {x : Int} {i : Nat} {e : Edge}, EC x es y → es[i]? = some e → (∃ e', es[i + 1]? = some e' ∧ e'.fr = e.to) ∨ (i + 1 = es.length ∧ e.to = y)
 | [], _, _, _, _, h => by simp at h
 | a :: es, x, 0, e, ⟨h1, h2⟩, h => by
  simp at h
  subst h
  cases es with
  | nil => exact .inr ⟨rfl, h2⟩
  | cons b es => exact .inl ⟨b, rfl, h2.1⟩
 | a :: es, x, i + 1, e, ⟨h1, h2⟩, h => by
  rcases EC.next (i := i) h2 (by simpa using h) with h3 | ⟨h3, h4⟩
  ·exact .inl (by simpa using h3)
  ·exact .inr ⟨by simp [h3], h4⟩
end Go.Am
namespace Go.Am
open Go
theorem Has.int_inv {k : IntKind} {n : Nat} {cs : List V} (h : Has (.int k) n cs) : n = 1 ∧ ∃ z, cs = [.int k z] ∧ (Lit.int k z).wf = true := by
 cases h with
 | int k z hz => exact ⟨rfl, z, rfl, hz⟩
theorem Has.bool_inv {n : Nat} {cs : List V} (h : Has .bool n cs) : n = 1 ∧ ∃ b, cs = [.bool b] := by
 cases h with
 | bool b => exact ⟨rfl, b, rfl⟩
theorem Has.str_inv {n : Nat} {cs : List V} (h : Has .str n cs) : n = 1 ∧ ∃ s, cs = [.str s] ∧ s.length ≤ maxLen := by
 cases h with
 | str s hs => exact ⟨rfl, s, rfl, hs⟩
theorem Has.nil_inv {n : Nat} {cs : List V} (h : Has (.st []) n cs) : n = 0 ∧ cs = [] := by
 cases h with
 | st0 => exact ⟨rfl, rfl⟩
theorem Has.cons_inv {f : Ty} {fs : List Ty} {n : Nat} {cs : List V} (h : Has (.st (f :: fs)) n cs) : ∃ a b n1 n2, n = n1 + n2 ∧ cs = a ++ b ∧ Has f n1 a ∧ Has (.st fs) n2 b := by
 cases h with
 | st1 f fs n m a b ha hb => exact ⟨a, b, n, m, rfl, rfl, ha, hb⟩
def Dec {α : Type} (e : Ty) (k : Nat) (enc : α → V) (P : α → Prop) : Prop := ∀ n cs, Has e n cs → n = k ∧ ∃ a, wrap e cs = enc a ∧ P a
theorem all_dec {α : Type} {enc : α → V} {P : α → Prop} : ∀ {xs : List V}, (∀ x ∈ xs, ∃ a, x = enc a ∧ P a) → ∃ l : List α, xs = l.map enc ∧ ∀ a ∈ l, P a
 | [], _ => ⟨[], rfl, by simp⟩
 | x :: xs, h => by
  obtain ⟨a, rfl, ha⟩ := h x (by simp)
  obtain ⟨l, rfl, hl⟩ := all_dec (xs := xs) (fun y hy => h y (by simp [hy]))
  exact ⟨a :: l, rfl, fun b hb => by
   rcases List.mem_cons.1 hb with rfl | hb
   ·exact ha
   ·exact hl b hb⟩
theorem Has.sl_inv {α : Type} {e : Ty} {k : Nat} {enc : α → V} {P : α → Prop} (hd : Dec e k enc P) {n : Nat} {cs : List V} (h : Has (.sl e) n cs) : n = 1 ∧ ∃ l : List α, cs = [.ro true k (l.map enc)] ∧ l.length ≤ maxLen ∧ ∀ a ∈ l, P a := by
 cases h with
 | sl e sz xs hl css hw hh =>
  have hx : ∀ x ∈ xs, ∃ a, x = enc a ∧ P a := by
   intro x hx
   obtain ⟨i, hi, rfl⟩ := List.getElem_of_mem hx
   have hg := List.getElem?_eq_getElem hi
   obtain ⟨_, a, ha, hp⟩ := hd _ _ (hh i _ hg)
   exact ⟨a, (hw i _ hg).trans ha, hp⟩
  obtain ⟨l, rfl, hp⟩ := all_dec hx
  refine ⟨rfl, l, ?_, by simpa using hl, hp⟩
  cases l with
  | nil => rfl
  | cons a l =>
   have := (hd _ _ (hh 0 (enc a) rfl)).1
   rw [this]
def tPool : Ty := .st [.str, .int .i64, .int .i64]
def tStp : Ty := .st [.int .i64, .int .i64, .int .i64, .bool]
def tCls : Ty := .st [.str, .int .i64, .bool, .sl tStp]
def tSys : Ty := .st [.sl tPool, .sl .str, .sl tCls]
theorem dec_str : Dec .str 1 V.str (fun _ => True) := fun n cs h => by
 obtain ⟨rfl, s, rfl, _⟩ := h.str_inv
 exact ⟨rfl, s, rfl, trivial⟩
theorem dec_pool : Dec tPool 3 vPool (fun _ => True) := fun n cs h => by
 obtain ⟨a, b, n1, n2, rfl, rfl, h1, h⟩ := h.cons_inv
 obtain ⟨c, d, n3, n4, rfl, rfl, h2, h⟩ := h.cons_inv
 obtain ⟨e, f, n5, n6, rfl, rfl, h3, h⟩ := h.cons_inv
 obtain ⟨rfl, rfl⟩ := h.nil_inv
 obtain ⟨rfl, x, rfl, _⟩ := h1.str_inv
 obtain ⟨rfl, y, rfl, _⟩ := h2.int_inv
 obtain ⟨rfl, z, rfl, _⟩ := h3.int_inv
 exact ⟨rfl, ⟨x, y, z⟩, rfl, trivial⟩
theorem dec_stp : Dec tStp 4 vStp (fun _ => True) := fun n cs h => by
 obtain ⟨a, b, n1, n2, rfl, rfl, h1, h⟩ := h.cons_inv
 obtain ⟨c, d, n3, n4, rfl, rfl, h2, h⟩ := h.cons_inv
 obtain ⟨e, f, n5, n6, rfl, rfl, h3, h⟩ := h.cons_inv
 obtain ⟨e, f, n5, n6, rfl, rfl, h4, h⟩ := h.cons_inv
 obtain ⟨rfl, rfl⟩ := h.nil_inv
 obtain ⟨rfl, x, rfl, _⟩ := h1.int_inv
 obtain ⟨rfl, y, rfl, _⟩ := h2.int_inv
 obtain ⟨rfl, z, rfl, _⟩ := h3.int_inv
 obtain ⟨rfl, b, rfl⟩ := h4.bool_inv
 exact ⟨rfl, ⟨x, y, z, b⟩, rfl, trivial⟩
theorem dec_cls : Dec tCls 4 vCls (fun _ => True) := fun n cs h => by
 obtain ⟨a, b, n1, n2, rfl, rfl, h1, h⟩ := h.cons_inv
 obtain ⟨c, d, n3, n4, rfl, rfl, h2, h⟩ := h.cons_inv
 obtain ⟨e, f, n5, n6, rfl, rfl, h3, h⟩ := h.cons_inv
 obtain ⟨e, f, n5, n6, rfl, rfl, h4, h⟩ := h.cons_inv
 obtain ⟨rfl, rfl⟩ := h.nil_inv
 obtain ⟨rfl, x, rfl, _⟩ := h1.str_inv
 obtain ⟨rfl, y, rfl, _⟩ := h2.int_inv
 obtain ⟨rfl, z, rfl⟩ := h3.bool_inv
 obtain ⟨rfl, l, rfl, _⟩ := h4.sl_inv dec_stp
 exact ⟨rfl, ⟨x, y, z, l⟩, rfl, trivial⟩
theorem open_sys {v : V} (h : HasV tSys v) : ∃ s, v = vSys s := by
 obtain ⟨n, cs, rfl, h⟩ := h
 obtain ⟨a, b, n1, n2, rfl, rfl, h1, h⟩ := h.cons_inv
 obtain ⟨c, d, n3, n4, rfl, rfl, h2, h⟩ := h.cons_inv
 obtain ⟨e, f, n5, n6, rfl, rfl, h3, h⟩ := h.cons_inv
 obtain ⟨rfl, rfl⟩ := h.nil_inv
 obtain ⟨rfl, x, rfl, _⟩ := h1.sl_inv dec_pool
 obtain ⟨rfl, y, rfl, _⟩ := h2.sl_inv dec_str
 obtain ⟨rfl, z, rfl, _⟩ := h3.sl_inv dec_cls
 exact ⟨⟨x, y, z⟩, rfl⟩
theorem open_int' {k : IntKind} {v : V} (h : HasV (.int k) v) : ∃ n, v = .int k n ∧ (Lit.int k n).wf = true := by
 obtain ⟨n, cs, rfl, h⟩ := h
 obtain ⟨rfl, x, rfl, hx⟩ := h.int_inv
 exact ⟨x, rfl, hx⟩
theorem all_cons {T : Ty} {Ts : List Ty} {us : List V} (h : HasAll (T :: Ts) us) : ∃ u vs, us = u :: vs ∧ HasV T u ∧ HasAll Ts vs := by
 cases h with
 | cons _ _ v vs h1 h2 => exact ⟨v, vs, rfl, h1, h2⟩
theorem all_nil {us : List V} (h : HasAll [] us) : us = [] := by
 cases h
 rfl
end Go.Am
namespace Go.Am
open Go
set_option linter.unusedSimpArgs false
set_option linter.unusedVariables false
set_option maxRecDepth 100000
section
variable {F : Nat → Option Fn} {lo : Nat} {md : Option (Nat × Nat)} {ops : List Op} {e b a : Env} {m : Mem} {Q : St → Prop} {d : Nat}
noncomputable def frz (lo : Nat) (m : Mem) (sz : Nat) : V → Option V
 | .agg cs => if cs.length = sz then freeze lo m 8 (.agg cs) else none
 | _ => none
end
theorem Rw.weak {lo lo' sz : Nat} {m : Mem} {v : V} {xs : List V} (h : Rw lo m sz v xs) (hl : lo' ≤ lo) : Rw lo' m sz v xs := by
 rcases h with h | ⟨k, h1, h2, h3, h4⟩
 ·exact .inl h
 ·exact .inr ⟨k, h1, by omega, h3, h4⟩
noncomputable def cpC (c : Cls) (hk : Nat) : V := .agg [.str c.name, vi c.wk, .bool c.srv, .row 4 hk 0 c.steps.length]
structure Cp (lo : Nat) (m : Mem) (C : V) (cs : List Cls) : Prop where
 ex : ∃ es, Rw lo m 4 C es ∧ es.length = cs.length ∧ ∀ (i : Nat) (v : V) (c : Cls), es[i]? = some v → cs[i]? = some c → ∃ hk, v = cpC c hk ∧ lo ≤ hk ∧ hk < m.next ∧ m.blk hk = some (.row 4 (c.steps.map vStp)) ∧ hOf C ≠ some hk
theorem Cp.weak {lo lo' : Nat} {m : Mem} {C : V} {cs : List Cls} (H : Cp lo m C cs) (hl : lo' ≤ lo) : Cp lo' m C cs := by
 obtain ⟨es, h1, h2, h3⟩ := H.ex
 refine ⟨es, h1.weak hl, h2, fun i v c hv hc => ?_⟩
 obtain ⟨hk, e1, e2, e3⟩ := h3 i v c hv hc
 exact ⟨hk, e1, by omega, e3⟩
theorem fz_cpC {lo n hk : Nat} {m : Mem} {c : Cls} (h1 : lo ≤ hk) (h2 : m.blk hk = some (.row 4 (c.steps.map vStp))) : freeze lo m (n + 4) (cpC c hk) = some (vCls c) := by
 have h3 : freeze lo m (n + 3) (.row 4 hk 0 c.steps.length) = some (vStps c.steps) := by
  rw [fz_row h2 h1 (by simp), List.drop_zero, List.take_of_length_le (by simp), mapO_id (fun x hx => by
   obtain ⟨y, _, rfl⟩ := List.mem_map.1 hx
   rfl)]
  rfl
 unfold cpC
 rw [fz_agg]
 simp only [mapO, fz_str, fz_int, fz_bool, h3]
 rfl
theorem Cp.fz {lo n : Nat} {m : Mem} {C : V} {cs : List Cls} (H : Cp lo m C cs) : freeze lo m (n + 5) C = some (vClss cs) := by
 obtain ⟨es, h1, h2, h3⟩ := H.ex
 rw [h1.freeze]
 have key : ∀ (es : List V) (cs : List Cls), es.length = cs.length → (∀ (i : Nat) (v : V) (c : Cls), es[i]? = some v → cs[i]? = some c → freeze lo m (n + 4) v = some (vCls c)) → mapO (freeze lo m (n + 4)) es = some (cs.map vCls) := by
  intro es
  induction es with
  | nil =>
   intro cs hl _
   cases cs with
   | nil => rfl
   | cons => simp at hl
  | cons v es ih =>
   intro cs hl hr
   cases cs with
   | nil => simp at hl
   | cons c cs =>
    have q1 := hr 0 v c rfl rfl
    have q2 := ih cs (by simpa using hl) (fun i v c hv hc => hr (i + 1) v c hv hc)
    simp only [mapO, q1, q2, List.map_cons]
 rw [key es cs h2 (fun i v c hv hc => by
  obtain ⟨hk, rfl, q1, _, q2, _⟩ := h3 i v c hv hc
  exact fz_cpC q1 q2)]
 rfl
structure CpS (lo : Nat) (m : Mem) (v : V) (s : Sys) : Prop where
 ex : ∃ hp hl C b, v = .agg [.row 3 hp 0 s.pools.length, .row 1 hl 0 s.locks.length, C] ∧ (lo ≤ hp ∧ hp < b ∧ m.blk hp = some (.row 3 (s.pools.map vPool))) ∧ (lo ≤ hl ∧ hl < b ∧ m.blk hl = some (.row 1 (s.locks.map .str))) ∧ hp ≠ hl ∧ lo ≤ b ∧ Cp b m C s.cls
theorem CpS.fz {lo : Nat} {m : Mem} {v : V} {s : Sys} (H : CpS lo m v s) : freeze lo m 8 v = some (vSys s) := by
 obtain ⟨hp, hl, C, b, rfl, ⟨h1, _, h2⟩, ⟨h3, _, h4⟩, _, h5, h6⟩ := H.ex
 have q1 : freeze lo m 7 (.row 3 hp 0 s.pools.length) = some (vPools s.pools) := by
  rw [fz_row h2 h1 (by simp), List.drop_zero, List.take_of_length_le (by simp), mapO_id (fun x hx => by
   obtain ⟨y, _, rfl⟩ := List.mem_map.1 hx
   rfl)]
  rfl
 have q2 : freeze lo m 7 (.row 1 hl 0 s.locks.length) = some (strs s.locks) := by
  rw [fz_row h4 h3 (by simp), List.drop_zero, List.take_of_length_le (by simp), mapO_id (fun x hx => by
   obtain ⟨y, _, rfl⟩ := List.mem_map.1 hx
   rfl)]
  rfl
 rw [fz_agg]
 simp only [mapO, q1, q2, (h6.weak h5).fz]
 rfl
theorem apV_lo {lo lo' h sz : Nat} {m : Mem} {x y : V} {r : V × Mem} (hl : lo ≤ lo') (hh : apV lo' h m sz x y = some r) : apV lo h m sz x y = some r := by
 unfold apV at hh ⊢
 cases hv : view m y with
 | none => rw [hv] at hh; cases hh
 | some q =>
  obtain ⟨s, xs⟩ := q
  rw [hv] at hh
  cases x with
  | row s0 h' o l =>
   simp only at hh ⊢
   by_cases h1 : s0 = sz
   ·rw [if_pos h1] at hh ⊢
    by_cases h2 : lo' ≤ h' ∧ (s = sz ∨ xs.length = 0) ∧ l + xs.length < big
    ·rw [if_pos h2] at hh
     rw [if_pos ⟨by omega, h2.2⟩]
     exact hh
    ·rw [if_neg h2] at hh
     cases hh
   ·rw [if_neg h1] at hh
    cases hh
  | _ => exact hh
theorem Cp.row {b : Nat} {m : Mem} {C : V} {cs : List Cls} (H : Cp b m C cs) (hn : cs ≠ []) : ∃ hC es, C = .row 4 hC 0 cs.length ∧ b ≤ hC ∧ m.blk hC = some (.row 4 es) ∧ es.length = cs.length ∧ ∀ (i : Nat) (c : Cls), cs[i]? = some c → ∃ hk, es[i]? = some (cpC c hk) ∧ b ≤ hk ∧ hk < m.next ∧ m.blk hk = some (.row 4 (c.steps.map vStp)) ∧ hC ≠ hk := by
 obtain ⟨es, h1, h2, h3⟩ := H.ex
 rcases h1 with ⟨_, h⟩ | ⟨hC, rfl, q1, q2, q3⟩
 ·rw [h] at h2
  exact absurd (List.eq_nil_of_length_eq_zero h2.symm) hn
 ·refine ⟨hC, es, by rw [h2], q1, q3, h2, fun i c hc => ?_⟩
  have hi := (List.getElem?_eq_some_iff.1 hc).1
  have hv : es[i]? = some (es[i]'(by omega)) := List.getElem?_eq_getElem _
  obtain ⟨hk, e1, e2, e3, e4, e5⟩ := h3 i _ c hv hc
  rw [e1] at hv
  exact ⟨hk, hv, e2, e3, e4, fun h => e5 (by rw [h]; rfl)⟩
theorem Cp.len {b : Nat} {m : Mem} {C : V} {cs : List Cls} (H : Cp b m C cs) : retV (.len false) [C] = some (vi cs.length) := by
 obtain ⟨es, h1, h2, _⟩ := H.ex
 rw [h1.len, h2]
theorem Cp.other {b hp : Nat} {m : Mem} {C : V} {cs : List Cls} (H : Cp b m C cs) (hb : hp < b) (B : Option Blk) : Cp b (m.set hp B) C cs := by
 obtain ⟨es, h1, h2, h3⟩ := H.ex
 refine ⟨es, h1.mono (Nat.le_refl _) (fun k l hk => ?_), h2, fun i v c hv hc => ?_⟩
 ·obtain ⟨_, h4, _⟩ := h1.hand (k := k) (by rw [hk]; rfl)
  exact set_ne (by omega)
 ·obtain ⟨hk, e1, e2, e3, e4, e5⟩ := h3 i v c hv hc
  exact ⟨hk, e1, e2, e3, by rw [set_ne (by omega)]; exact e4, e5⟩
end Go.Am
namespace Go.Am
open Go
set_option linter.unusedSimpArgs false
set_option linter.unusedVariables false
set_option maxRecDepth 100000
structure Cq (lo : Nat) (m : Mem) (h : Nat) (st : List (List Frm)) (es : List V) : Prop where
 lh : lo ≤ h
 hm : h < m.next
 bh : m.blk h = some (.row 1 es)
 ln : es.length = st.length
 new : ∀ (j : Nat) (l : List Frm), st[j]? = some l → ∃ k, es[j]? = some (V.row 2 k 0 l.length) ∧ lo ≤ k ∧ k ≠ h ∧ k < m.next ∧ m.blk k = some (.row 2 (l.map vFrm))
 inj : ∀ (j j' k l l' : Nat), es[j]? = some (V.row 2 k 0 l) → es[j']? = some (V.row 2 k 0 l') → j = j'
theorem fz_takeQ {lo n h w : Nat} {m2 m3 : Mem} {st : List (List Frm)} {es : List V} {l' : List Frm} {v : V} (H : Cq lo m2 h st es) (hb : m3.blk h = some (.row 1 (es.set w v))) (hw : w < st.length) (hv : freeze lo m3 (n + 4) v = some (vStk l')) (ho : ∀ j k l, j ≠ w → es[j]? = some (.row 2 k 0 l) → m3.blk k = m2.blk k) : freeze lo m3 (n + 5) (.row 1 h 0 st.length) = some (vStks (st.set w l')) := by
 have ln := H.ln
 rw [fz_row hb H.lh (by simp [ln]), List.drop_zero, List.take_of_length_le (by simp [ln])]
 rw [mapO_pt (ys := (st.set w l').map vStk) (by simp [ln]) (fun j x y hx hy => by
  rw [List.getElem?_map] at hy
  by_cases hj : j = w
  ·subst hj
   rw [List.getElem?_set_self (by omega)] at hx
   rw [List.getElem?_set_self (by omega)] at hy
   cases hx
   cases hy
   exact hv
  ·rw [List.getElem?_set_ne (Ne.symm hj)] at hx
   rw [List.getElem?_set_ne (Ne.symm hj)] at hy
   cases hs : st[j]? with
   | none => rw [hs] at hy; cases hy
   | some l =>
    rw [hs] at hy
    cases hy
    obtain ⟨k, a1, a2, a3, a4, a5⟩ := H.new j l hs
    have b := ho j k l.length hj a1
    rw [a1] at hx
    cases hx
    rw [fz_stk (B := l) a2 (by rw [b, a5]) (Nat.le_refl _), List.take_length])]
 rfl
structure Cb (lo : Nat) (m : Mem) (v : V) (st : List (List Frm)) (es : List V) : Prop where
 r : Rw lo m 1 v es
 ln : es.length = st.length
 new : ∀ (j : Nat) (l : List Frm), st[j]? = some l → ∃ k, es[j]? = some (V.row 2 k 0 l.length) ∧ lo ≤ k ∧ k < m.next ∧ m.blk k = some (.row 2 (l.map vFrm)) ∧ ∀ l', v ≠ V.row 1 k 0 l'
 inj : ∀ (j j' k l l' : Nat), es[j]? = some (V.row 2 k 0 l) → es[j']? = some (V.row 2 k 0 l') → j = j'
theorem sp160 {F : Nat → Option Fn} (hE : HasE F) {lo : Nat} {m : Mem} (hlo : lo ≤ m.next) (st : List (List Frm)) (hs : Sml st) (hne : ∀ l ∈ st, l ≠ []) (hst : st ≠ []) : ∃ v m', callw F 160 [vSt st] lo m = some (v, m') ∧ ∃ h es, v = .agg [.row 1 h 0 st.length] ∧ m.next ≤ m'.next ∧ Cq m.next m' h st es ∧ ∀ k, k < m.next → m'.blk k = m.blk k := by
 have hl1 := hs.l1
 have loop1 : ∀ (i : Nat) (l : List Frm) (hi : st[i]? = some l) (u2 u3 : V) (t : List Frm) (j : Nat) (v : V) (m1 m' : Mem) (Q : Ex → St → Prop), l.drop j = t → lo ≤ m1.next → m1.next ≤ m'.next → Rw m1.next m' 2 v ((l.take j).map vFrm) → (∀ k, k < m1.next → m'.blk k = m1.blk k) →
   (∀ v m' e, m1.next ≤ m'.next → Rw m1.next m' 2 v (l.map vFrm) → (∀ k, k < m1.next → m'.blk k = m1.blk k) → Q (.exit 2) ⟨(4, vi i) :: (5, v) :: e, [(1, vSt st), (2, u2), (3, u3)], [], m'⟩) →
   W F lo L160_1 ⟨[(4, vi i), (5, v), (6, vi j)], [(1, vSt st), (2, u2), (3, u3)], [], m'⟩ Q := by
  intro i l hi u2 u3 t
  have hll := hs.stk (List.mem_of_getElem? hi)
  have i0 : (0 : Int) ≤ i := by omega
  have in_ : ((i : Nat) : Int).toNat = i := rfl
  induction t with
  | nil =>
   intro j v m1 m' Q hd hlo1 hm hr hb hQ
   have hlt := drop_nil hd
   rw [W_L (c := L160_1) rfl]
   have : ¬ ((j : Nat) : Int) < (l.length : Int) := by omega
   simp only [↓sxc, sx, se, ↓reduceIte, Nat.reduceEqDiff, Nat.reduceAdd, Nat.reduceLT, Nat.reduceLeDiff, Nat.reduceSub, Nat.reduceMul, Int.reduceToNat, Int.reduceLT, Int.reduceLE, Int.reduceEq, ml_i0, ↓smc, sm, ss, i0, in_, hi, this]
   rw [List.take_of_length_le hlt] at hr
   exact hQ v m' _ hm hr hb
  | cons f t ih =>
   intro j v m1 m' Q hd hlo1 hm hr hb hQ
   obtain ⟨hg, hd', hlt⟩ := drop_cons hd
   rw [W_L (c := L160_1) rfl]
   have c0 : ((j : Nat) : Int) < (l.length : Int) := by omega
   have wr : wrapF .i64 ((j : Int) + 1) = ((j + 1 : Nat) : Int) := by rw [wr_i64 (by omega) (by omega)]; rfl
   have j0 : (0 : Int) ≤ j := by omega
   have jn : ((j : Nat) : Int).toNat = j := rfl
   have fe : Go.Am.V.agg [.int .i64 f.cls, .int .i64 f.at_] = vFrm f := rfl
   obtain ⟨v', m2, hap', hr', hn, _, hk, _⟩ := hr.app2 (y := .lst false 2 [vFrm f]) hm vw_lst (.inl rfl) (by simp [big]; omega)
   have hap := apV_lo hlo1 hap'
   simp only [↓sxc, sx, se, ↓reduceIte, Nat.reduceEqDiff, Nat.reduceAdd, Nat.reduceLT, Nat.reduceLeDiff, Nat.reduceSub, Nat.reduceMul, Int.reduceToNat, Int.reduceLT, Int.reduceLE, Int.reduceEq, ml_i0, ↓smc, sm, ss, i0, in_, hi, c0, j0, jn, hg, wr, fe, hap]
   refine ih (j + 1) v' m1 (m2.bump 1) Q hd' hlo1 ?_ ?_ (fun k hk2 => ?_) hQ
   ·show m1.next ≤ m2.next + 1; omega
   ·rw [take_succ_drop hd, List.map_append]
    exact hr'
   ·show m2.blk k = _
    rw [hk k ?_ (by omega), hb k hk2]
    intro l' e
    rcases hr with ⟨h1, _⟩ | ⟨h, h1, h2, h3, h4⟩
    ·rw [h1] at e; cases e
    ·rw [h1] at e
     cases e
     omega
 have loop2 : ∀ (t : List (List Frm)) (i : Nat) (v : V) (es : List V) (m' : Mem) (Q : Ex → St → Prop), st.drop i = t → m.next ≤ m'.next → Cb m.next m' v (st.take i) es → (∀ k, k < m.next → m'.blk k = m.blk k) →
   (∀ v es m' e, m.next ≤ m'.next → Cb m.next m' v st es → (∀ k, k < m.next → m'.blk k = m.blk k) → Q (.exit 0) ⟨e, [(1, vSt st), (2, .agg [.nil]), (3, .agg [v])], [], m'⟩) →
   W F lo L160_2 ⟨[(4, vi i)], [(1, vSt st), (2, .agg [.nil]), (3, .agg [v])], [], m'⟩ Q := by
  intro t
  induction t with
  | nil =>
   intro i v es m' Q hd hm H hb hQ
   have hlt := drop_nil hd
   rw [W_L (c := L160_2) rfl]
   have : ¬ ((i : Nat) : Int) < (st.length : Int) := by omega
   simp only [↓sxc, sx, se, ↓reduceIte, Nat.reduceEqDiff, Nat.reduceAdd, Nat.reduceLT, Nat.reduceLeDiff, Nat.reduceSub, Nat.reduceMul, Int.reduceToNat, Int.reduceLT, Int.reduceLE, Int.reduceEq, ml_i0, ↓smc, sm, ss, this]
   rw [List.take_of_length_le hlt] at H
   exact hQ v es m' _ hm H hb
  | cons l t ih =>
   intro i v es m' Q hd hm H hb hQ
   obtain ⟨hg, hd', hlt⟩ := drop_cons hd
   rw [W_L (c := L160_2) rfl]
   have c0 : ((i : Nat) : Int) < (st.length : Int) := by omega
   have wr : wrapF .i64 ((i : Int) + 1) = ((i + 1 : Nat) : Int) := by rw [wr_i64 (by omega) (by omega)]; rfl
   simp only [↓sxc, sx, se, ↓reduceIte, Nat.reduceEqDiff, Nat.reduceAdd, Nat.reduceLT, Nat.reduceLeDiff, Nat.reduceSub, Nat.reduceMul, Int.reduceToNat, Int.reduceLT, Int.reduceLE, Int.reduceEq, ml_i0, ↓smc, sm, ss, c0]
   refine loop1 i l hg _ _ l 0 .nil m' m' _ (by simp) (by omega) (Nat.le_refl _) .nil (fun _ _ => rfl) (fun v1 m1 e q1 q2 q3 => ?_)
   have hln : l ≠ [] := hne l (List.mem_of_getElem? hg)
   rcases q2 with ⟨_, h2⟩ | ⟨k1, rfl, g1, g2, g3⟩
   ·exact absurd (List.map_eq_nil_iff.1 h2) hln
   rw [List.length_map] at *
   have hil : (st.take i).length = i := by simp; omega
   have hel := H.ln
   have lt : ∀ k l, v = .row 1 k 0 l → k < m'.next := by
    intro k l hk
    rcases H.r with ⟨h1, _⟩ | ⟨h, h1, h2, h3, h4⟩
    ·rw [h1] at hk; cases hk
    ·rw [h1] at hk
     cases hk
     exact h3
   have hr1 : Rw m.next m1 1 v es := H.r.mono q1 (fun k l hk => q3 k (lt k l hk))
   obtain ⟨v', m2, hap', hr', hn, _, hk, hv'⟩ := hr1.app2 (y := .lst false 1 [.row 2 k1 0 l.length]) (by omega) vw_lst (.inl rfl) (by simp [big]; omega)
   have hap := apV_lo hlo hap'
   have ho : v'.ones = true ∧ v'.cells.length = 1 ∧ v'.cells ++ [] = [v'] := by
    rcases hv' with rfl | ⟨l, rfl⟩ <;> exact ⟨rfl, rfl, rfl⟩
   simp only [↓sxc, sx, se, ↓reduceIte, Nat.reduceEqDiff, Nat.reduceAdd, Nat.reduceLT, Nat.reduceLeDiff, Nat.reduceSub, Nat.reduceMul, Int.reduceToNat, Int.reduceLT, Int.reduceLE, Int.reduceEq, ml_i0, ↓smc, sm, ss, hap, wr]
   rw [ho.2.2]
   have nv : ∀ k, k ≠ m1.next → ∀ l, v' ≠ .row 1 k 0 l := by
    intro k hk l hh
    rcases hv' with rfl | ⟨l', rfl⟩
    ·cases hh
    ·cases hh; exact hk rfl
   have n2 : (m2.bump 1).next = m1.next + 1 := by show m2.next + 1 = _; omega
   have old : ∀ (j : Nat) (l0 : List Frm), (st.take i)[j]? = some l0 → ∃ k, es[j]? = some (.row 2 k 0 l0.length) ∧ m.next ≤ k ∧ k < m'.next ∧ m2.blk k = some (.row 2 (l0.map vFrm)) := by
    intro j l0 hj
    obtain ⟨k, a1, a2, a3, a4, a5⟩ := H.new j l0 hj
    exact ⟨k, a1, a2, a3, by rw [hk k a5 (by omega), q3 k a3, a4]⟩
   refine ⟨⟨ho.1, ho.2.1⟩, ih (i + 1) v' (es ++ [.row 2 k1 0 l.length]) _ Q hd' (by omega) ⟨hr', ?_, fun j l0 hj => ?_, fun j j' k n n' e1 e2 => ?_⟩ (fun k hk2 => ?_) hQ⟩
   ·simp [hel]; omega
   ·rw [take_succ_drop hd] at hj
    by_cases hji : j < i
    ·rw [List.getElem?_append_left (by omega)] at hj
     obtain ⟨k, a1, a2, a3, a4⟩ := old j l0 hj
     exact ⟨k, by rw [List.getElem?_append_left (by omega)]; exact a1, a2, by omega, a4, nv k (by omega)⟩
    ·have hj2 := (List.getElem?_eq_some_iff.1 hj).1
     rw [List.length_append, hil, List.length_singleton] at hj2
     have : j = i := by omega
     subst this
     rw [List.getElem?_append_right (by omega), hil, Nat.sub_self] at hj
     simp only [List.getElem?_cons_zero, Option.some.injEq] at hj
     subst hj
     refine ⟨k1, by rw [List.getElem?_append_right (by omega), hel, hil, Nat.sub_self]; rfl, by omega, by omega, ?_, nv k1 (by omega)⟩
     show m2.blk k1 = _
     rw [hk k1 (fun l' e => by have := lt _ _ e; omega) (by omega)]
     exact g3
   ·have lt2 : ∀ (j k n : Nat), j < i → es[j]? = some (.row 2 k 0 n) → k < m'.next := by
     intro j k n hj he
     have hst : (st.take i)[j]? = some ((st.take i)[j]'(by omega)) := List.getElem?_eq_getElem _
     obtain ⟨k', a1, a2, a3, a4⟩ := old j _ hst
     rw [a1] at he
     cases he
     exact a3
    have cut : ∀ (j k n : Nat), (es ++ [.row 2 k1 0 l.length])[j]? = some (.row 2 k 0 n) → (j < i ∧ es[j]? = some (.row 2 k 0 n)) ∨ (j = i ∧ k = k1) := by
     intro j k n he
     by_cases hj : j < i
     ·rw [List.getElem?_append_left (by omega)] at he
      exact .inl ⟨hj, he⟩
     ·have hj2 := (List.getElem?_eq_some_iff.1 he).1
      rw [List.length_append, hel, hil, List.length_singleton] at hj2
      have : j = i := by omega
      subst this
      rw [List.getElem?_append_right (by omega), hel, hil, Nat.sub_self] at he
      simp only [List.getElem?_cons_zero, Option.some.injEq] at he
      cases he
      exact .inr ⟨rfl, rfl⟩
    rcases cut j k n e1 with ⟨x1, x2⟩ | ⟨x1, x2⟩
    ·rcases cut j' k n' e2 with ⟨y1, y2⟩ | ⟨y1, y2⟩
     ·exact H.inj j j' k n n' x2 y2
     ·have := lt2 j k n x1 x2
      omega
    ·rcases cut j' k n' e2 with ⟨y1, y2⟩ | ⟨y1, y2⟩
     ·have := lt2 j' k n' y1 y2
      omega
     ·omega
   ·show m2.blk k = _
    rw [hk k (fun l' e => ?_) (by omega), q3 k (by omega), hb k hk2]
    rcases H.r with ⟨h1, _⟩ | ⟨h, h1, h2, h3, h4⟩
    ·rw [h1] at e; cases e
    ·rw [h1] at e
     cases e
     omega
 refine call_x hE.h160 rfl ?_
 simp only [↓sxc, sx, se, ↓reduceIte, Nat.reduceEqDiff, Nat.reduceAdd, Nat.reduceLT, Nat.reduceLeDiff, Nat.reduceSub, Nat.reduceMul, Int.reduceToNat, Int.reduceLT, Int.reduceLE, Int.reduceEq, ml_i0, ↓smc, sm, ss]
 refine loop2 st 0 .nil [] m _ rfl (Nat.le_refl _) ⟨.nil, rfl, fun j l hj => by simp at hj, fun j j' k l l' h => by simp at h⟩ (fun _ _ => rfl) (fun v es m' e q1 q2 q3 => ?_)
 rcases q2.r with ⟨rfl, h2⟩ | ⟨h, rfl, h1, h2, h3⟩
 ·have := q2.ln
  rw [h2] at this
  exact absurd (List.length_eq_zero_iff.1 this.symm) hst
 ·simp only [↓sxc, sx, se, ↓reduceIte, Nat.reduceEqDiff, Nat.reduceAdd, Nat.reduceLT, Nat.reduceLeDiff, Nat.reduceSub, Nat.reduceMul, Int.reduceToNat, Int.reduceLT, Int.reduceLE, Int.reduceEq, ml_i0, ↓smc, sm, ss, PX_ret, PX_nrm]
  refine ⟨h, es, by rw [← q2.ln], q1, ⟨h1, h2, h3, q2.ln, fun j l hj => ?_, q2.inj⟩, q3⟩
  obtain ⟨k, a1, a2, a3, a4, a5⟩ := q2.new j l hj
  exact ⟨k, a1, a2, fun e => a5 _ (by rw [e]), a3, a4⟩
end Go.Am
namespace Go.Am
open Go
set_option linter.unusedSimpArgs false
set_option linter.unusedVariables false
set_option maxRecDepth 100000
theorem w128_1 {F : Nat → Option Fn} {lo : Nat} (s : Sys) (hv : Valid s) (k : Nat) (hlk : lo ≤ k) (u2 u6 u7 : V) :
  ∀ (n : Nat) (B : List Frm) (f : Frm) (m : Mem) (Q : Ex → St → Prop), n + 1 ≤ B.length → B.length < 100000 → (∀ f ∈ B.take (n + 1), frB s f = true) → B[n]? = some f → m.blk k = some (.row 2 ((B.set n ⟨f.cls, f.at_ + 1⟩).map vFrm)) →
   (∀ (B' : List Frm) (n' : Nat) m' e, m.next ≤ m'.next → m'.blk k = some (.row 2 (B'.map vFrm)) → n' ≤ B'.length → B'.take n' = advN s B (n + 1) → (∀ j, j ≠ k → m'.blk j = m.blk j) → Q (.exit 0) ⟨(2, u2) :: (8, .row 2 k 0 n') :: e, [(3, vSys s), (6, u6), (7, u7)], [], m'⟩) →
   W F lo L128_1 ⟨[(2, u2), (8, .row 2 k 0 (n + 1))], [(3, vSys s), (6, u6), (7, u7)], [], m⟩ Q := by
 intro n
 induction n with
 | zero =>
  intro B f m Q hn hBl hf hg hb hQ
  obtain ⟨q, a, c, x, e1, e2, e3, e4, e5, e6⟩ := frB_get (hf f (List.mem_of_getElem? (i := 0) (by rw [List.getElem?_take_of_lt (by omega)]; exact hg)))
  obtain ⟨fc, fa⟩ := f
  simp only at e1 e2 hb
  subst e1 e2
  have hme : ((B.set 0 ⟨q, (a : Int) + 1⟩).map vFrm)[0]? = some (vFrm ⟨q, (a : Int) + 1⟩) := by rw [List.getElem?_map, List.getElem?_set_self (by omega)]; rfl
  have al : (c.steps.length : Nat) ≤ 12 := (hv.okC c (List.mem_of_getElem? e3)).l12
  have q0 : (0 : Int) ≤ q := by omega
  have qn : ((q : Nat) : Int).toNat = q := rfl
  have c0 : (vFrm ⟨q, (a : Int) + 1⟩).cells[0]? = some (.int .i64 q) := rfl
  have c1 : (vFrm ⟨q, (a : Int) + 1⟩).cells[1]? = some (.int .i64 ((a : Int) + 1)) := rfl
  have hls : lenS s q = c.steps.length := by unfold lenS; rw [qn, e3]
  have w0 : wrapF .i64 ((1 : Int) - 1) = 0 := rfl
  have hz1 : ((0 + 1 : Nat) : Int) = 1 := rfl
  have hz2 : (0 : Int) < 1 := by omega
  have hz3 : (0 : Int) ≤ 0 := by omega
  rw [W_L (c := L128_1) rfl]
  by_cases hc : (c.steps.length : Int) ≤ (a : Int) + 1
  ·have sc : setC 1 1 (.int .i64 0) (vFrm ⟨q, (a : Int) + 1⟩) = some (vFrm ⟨q, 0⟩) := rfl
   have hc2 : ¬ (c.steps.length : Int) ≤ 0 := by omega
   have g2 : (B.set 0 ⟨q, (a : Int) + 1⟩)[0]? = some ⟨q, (a : Int) + 1⟩ := List.getElem?_set_self (by omega)
   simp only [↓sxc, sx, se, ↓reduceIte, Nat.reduceEqDiff, Nat.reduceAdd, Nat.reduceLT, Nat.reduceLeDiff, Nat.reduceSub, Nat.reduceMul, Int.reduceToNat, Int.reduceLT, Int.reduceLE, Int.reduceEq, ml_i0, ↓smc, sm, ss, hz1, hz2, hz3, w0, hb, hme, hlk, c0, c1, q0, qn, e3, hc, sc, g2]
   have hb2 : ((m.bump 21).set k (some (.row 2 ((List.map vFrm (B.set 0 ⟨q, (a : Int) + 1⟩)).set 0 (vFrm ⟨q, 0⟩))))).blk k = some (.row 2 ((B.set 0 ⟨q, 0⟩).map vFrm)) := by
    simp [Mem.set, List.map_set]
   have hx2 : ∀ j, j ≠ k → ((m.bump 21).set k (some (.row 2 ((List.map vFrm (B.set 0 ⟨q, (a : Int) + 1⟩)).set 0 (vFrm ⟨q, 0⟩))))).blk j = m.blk j := fun j hj => by rw [set_ne hj]; rfl
   have hn2 : ((m.bump 21).set k (some (.row 2 ((List.map vFrm (B.set 0 ⟨q, (a : Int) + 1⟩)).set 0 (vFrm ⟨q, 0⟩))))).next = m.next + 21 := rfl
   generalize ((m.bump 21).set k (some (.row 2 ((List.map vFrm (B.set 0 ⟨q, (a : Int) + 1⟩)).set 0 (vFrm ⟨q, 0⟩))))) = m2 at hb2 hx2 hn2 ⊢
   have hme2 : ((B.set 0 ⟨q, 0⟩).map vFrm)[0]? = some (vFrm ⟨q, 0⟩) := by rw [List.getElem?_map, List.getElem?_set_self (by omega)]; rfl
   have d0 : (vFrm ⟨q, 0⟩).cells[0]? = some (.int .i64 q) := rfl
   have d1 : (vFrm ⟨q, 0⟩).cells[1]? = some (.int .i64 0) := rfl
   rw [W_L (c := L128_1) rfl]
   simp only [↓sxc, sx, se, ↓reduceIte, Nat.reduceEqDiff, Nat.reduceAdd, Nat.reduceLT, Nat.reduceLeDiff, Nat.reduceSub, Nat.reduceMul, Int.reduceToNat, Int.reduceLT, Int.reduceLE, Int.reduceEq, ml_i0, ↓smc, sm, ss, hz1, hz2, hz3, w0, hb2, hme2, hlk, d0, d1, q0, qn, e3, hc2]
   refine hQ _ 1 _ _ ?_ hb2 (by simp; omega) ?_ hx2
   ·show m.next ≤ m2.next + 21; omega
   ·rw [advN]
    simp only [hg, hls]
    rw [if_neg (by omega)]
    cases B with
    | nil => simp at hn
    | cons b B => simp
  ·simp only [↓sxc, sx, se, ↓reduceIte, Nat.reduceEqDiff, Nat.reduceAdd, Nat.reduceLT, Nat.reduceLeDiff, Nat.reduceSub, Nat.reduceMul, Int.reduceToNat, Int.reduceLT, Int.reduceLE, Int.reduceEq, ml_i0, ↓smc, sm, ss, hz1, hz2, hz3, w0, hb, hme, hlk, c0, c1, q0, qn, e3, hc]
   refine hQ _ 1 _ _ ?_ hb (by simp; omega) ?_ (fun _ _ => rfl)
   ·show m.next ≤ m.next + 21; omega
   ·rw [advN]
    simp only [hg, hls]
    rw [if_pos (by omega)]
    cases B with
    | nil => simp at hn
    | cons b B => simp
 | succ n ih =>
  intro B f m Q hn hBl hf hg hb hQ
  obtain ⟨q, a, c, x, e1, e2, e3, e4, e5, e6⟩ := frB_get (hf f (List.mem_of_getElem? (i := n + 1) (by rw [List.getElem?_take_of_lt (by omega)]; exact hg)))
  obtain ⟨fc, fa⟩ := f
  simp only at e1 e2 hb
  subst e1 e2
  have hme : ((B.set (n + 1) ⟨q, (a : Int) + 1⟩).map vFrm)[n + 1]? = some (vFrm ⟨q, (a : Int) + 1⟩) := by rw [List.getElem?_map, List.getElem?_set_self (by omega)]; rfl
  have wr : wrapF .i64 (((n + 1 + 1 : Nat) : Int) - 1) = ((n + 1 : Nat) : Int) := by rw [wr_i64 (by omega) (by omega)]; omega
  have al : (c.steps.length : Nat) ≤ 12 := (hv.okC c (List.mem_of_getElem? e3)).l12
  have n0 : (0 : Int) ≤ ((n + 1 : Nat) : Int) := by omega
  have nn : ((n + 1 : Nat) : Int).toNat = n + 1 := rfl
  have nl : ((n + 1 : Nat) : Int) < ((n + 1 + 1 : Nat) : Int) := by omega
  have q0 : (0 : Int) ≤ q := by omega
  have qn : ((q : Nat) : Int).toNat = q := rfl
  have c0 : (vFrm ⟨q, (a : Int) + 1⟩).cells[0]? = some (.int .i64 q) := rfl
  have c1 : (vFrm ⟨q, (a : Int) + 1⟩).cells[1]? = some (.int .i64 ((a : Int) + 1)) := rfl
  have hls : lenS s q = c.steps.length := by unfold lenS; rw [qn, e3]
  have hgp : B[n]? = some (B[n]'(by omega)) := List.getElem?_eq_getElem _
  generalize B[n]'(by omega) = p at hgp
  rw [W_L (c := L128_1) rfl]
  by_cases hc : (c.steps.length : Int) ≤ (a : Int) + 1
  ·have hz1 : decide (((n + 1 + 1 : Nat) : Int) = 1) = false := by simp; omega
   obtain ⟨q', a', c', x', g1, g2, g3, g4, g5, g6⟩ := frB_get (hf p (List.mem_of_getElem? (i := n) (by rw [List.getElem?_take_of_lt (by omega)]; exact hgp)))
   obtain ⟨pc, pa⟩ := p
   simp only at g1 g2
   subst g1 g2
   have al' : (c'.steps.length : Nat) ≤ 12 := (hv.okC c' (List.mem_of_getElem? g3)).l12
   have wr2 : wrapF .i64 (((n + 1 : Nat) : Int) - 1) = ((n : Nat) : Int) := by rw [wr_i64 (by omega) (by omega)]; omega
   have m0 : (0 : Int) ≤ ((n : Nat) : Int) := by omega
   have mn : ((n : Nat) : Int).toNat = n := rfl
   have ml : ((n : Nat) : Int) < ((n + 1 : Nat) : Int) := by omega
   have wa : wrapF .i64 ((a' : Int) + 1) = (a' : Int) + 1 := wr_i64 (by omega) (by omega)
   have gp : (B.set (n + 1) ⟨q, (a : Int) + 1⟩)[n]? = some ⟨q', a'⟩ := by rw [List.getElem?_set_ne (by omega)]; exact hgp
   have sc : setC 1 1 (.int .i64 ((a' : Int) + 1)) (vFrm ⟨q', a'⟩) = some (vFrm ⟨q', (a' : Int) + 1⟩) := rfl
   have l1 : (lenOf (V.row 2 k 0 (n + 1 + 1))).isSome = true := rfl
   simp only [↓sxc, sx, se, ↓reduceIte, Nat.reduceEqDiff, Nat.reduceAdd, Nat.reduceLT, Nat.reduceLeDiff, Nat.reduceSub, Nat.reduceMul, Int.reduceToNat, Int.reduceLT, Int.reduceLE, Int.reduceEq, ml_i0, ↓smc, sm, ss, wr, n0, nn, nl, hb, hme, hlk, c0, c1, q0, qn, e3, hc, hz1, wr2, m0, mn, ml, gp, wa, sc]
   have hadv : advN s B (n + 1 + 1) = advN s B (n + 1) := by
    rw [advN]
    simp only [hg, hls]
    rw [if_neg (by omega), if_neg (by omega)]
   refine ⟨l1, by omega, ih (B.set (n + 1) ⟨q, (a : Int) + 1⟩) ⟨q', a'⟩ _ Q (by simp; omega) (by simpa using hBl) (fun g hg2 => hf g ?_) gp ?_ (fun B' n' m'' e x1 x2 x3 x4 x5 => hQ B' n' m'' e ?_ x2 x3 ?_ (fun j hj => by rw [x5 j hj, set_ne hj]; rfl))⟩
   ·rw [List.take_set_of_le (by omega)] at hg2
    rw [List.take_add_one]
    exact List.mem_append_left _ hg2
   ·simp [Mem.set, List.map_set]
   ·have : m.next + 21 ≤ m''.next := x1
    omega
   ·rw [x4, advN_set (by omega), hadv]
  ·simp only [↓sxc, sx, se, ↓reduceIte, Nat.reduceEqDiff, Nat.reduceAdd, Nat.reduceLT, Nat.reduceLeDiff, Nat.reduceSub, Nat.reduceMul, Int.reduceToNat, Int.reduceLT, Int.reduceLE, Int.reduceEq, ml_i0, ↓smc, sm, ss, wr, n0, nn, nl, hb, hme, hlk, c0, c1, q0, qn, e3, hc]
   refine hQ _ (n + 1 + 1) _ _ ?_ hb (by simp; omega) ?_ (fun _ _ => rfl)
   ·show m.next ≤ m.next + 21; omega
   ·rw [advN]
    simp only [hg, hls]
    rw [if_pos (by omega), List.take_set, List.take_add_one, hg, List.set_append_right _ _ (by simp; omega)]
    simp [Nat.min_eq_left (show n + 1 ≤ B.length by omega)]
theorem sp128 {F : Nat → Option Fn} (hE : HasE F) {lo : Nat} {m : Mem} (s : Sys) (st : List (List Frm)) (V : VSt s st) {w : Nat} {l : List Frm} (hw : st[w]? = some l) : callw F 128 [vSys s, vSt st, vi w] lo m = some (vSt (takeE s st w), m) := by
 have hv := valid_of V.v
 have hlm := List.mem_of_getElem? hw
 have hll := V.sm.stk hlm
 obtain ⟨f, q, a, c, x, T⟩ := V.top hlm
 have hne := forms_ne V.ln V.fm
 have hst : st ≠ [] := fun h => by rw [h] at hw; cases hw
 have hwl := (List.getElem?_eq_some_iff.1 hw).1
 have w0 : (0 : Int) ≤ w := by omega
 have wn : ((w : Nat) : Int).toNat = w := rfl
 have wl : ((w : Nat) : Int) < (st.length : Int) := by omega
 have h0 := T.ln
 have wr : wrapF .i64 ((l.length : Int) - 1) = ((l.length - 1 : Nat) : Int) := by rw [wr_i64 (by omega) (by omega)]; omega
 have l0 : (0 : Int) ≤ ((l.length - 1 : Nat) : Int) := by omega
 have ln : ((l.length - 1 : Nat) : Int).toNat = l.length - 1 := rfl
 have ll : ((l.length - 1 : Nat) : Int) < (l.length : Int) := by omega
 have q0 : (0 : Int) ≤ q := by omega
 have qn : ((q : Nat) : Int).toNat = q := rfl
 have a0 : (0 : Int) ≤ a := by omega
 have an : ((a : Nat) : Int).toNat = a := rfl
 obtain ⟨fc, fa⟩ := f
 have hq := T.hq
 have ha := T.ha
 simp only at hq ha
 subst hq ha
 have hf := T.hf
 have hc := T.hc
 have hx := T.hx
 have et := T.ht
 have kk1 : vkeys (vStps c.steps) = [] := rfl
 have kk2 : vkeys (vStp x) = [] := rfl
 refine call_p hE.h128 rfl ?_
 obtain ⟨v, m1, c160, h, es, rfl, k2, H, k4⟩ := sp160 hE (lo := m.next) (m := m) (Nat.le_refl _) st V.sm hne hst
 obtain ⟨k, g1, g2, g3, g4, g5⟩ := H.new w l hw
 have lh := H.lh
 have bh := H.bh
 have es1 : (List.map vFrm l)[l.length - 1]? = some (vFrm ⟨q, a⟩) := by rw [List.getElem?_map, hf]; rfl
 simp only [↓sxc, sx, se, ↓reduceIte, Nat.reduceEqDiff, Nat.reduceAdd, Nat.reduceLT, Nat.reduceLeDiff, Nat.reduceSub, Nat.reduceMul, Int.reduceToNat, Int.reduceLT, Int.reduceLE, Int.reduceEq, ml_i0, ↓smc, sm, ss, c160, w0, wn, wl, lh, bh, g1, wr, l0, ln, ll, g2, g5, es1]
 have fe : Go.Am.V.agg [.int .i64 q, .int .i64 a] = vFrm ⟨q, a⟩ := rfl
 rw [fe]
 refine W_cutN (n' := 13) (e := [(2, vi w), (8, .row 2 k 0 l.length)]) (x := [(3, vSys s), (6, .agg [.nil]), (7, .agg [.row 1 h 0 st.length]), (9, vFrm ⟨q, a⟩), (10, vStp x)]) (m := m1) (fun Q hQ => ?_) (fun n => ?_)
 ·simp only [↓sxc, sx, se, ↓reduceIte, Nat.reduceEqDiff, Nat.reduceAdd, Nat.reduceLT, Nat.reduceLeDiff, Nat.reduceSub, Nat.reduceMul, Int.reduceToNat, Int.reduceLT, Int.reduceLE, Int.reduceEq, ml_i0, ↓W_dreg, ↓sk, sk, ss, q0, qn, hc, a0, an, hx]
  exact ⟨by simp [pairsOk, nth_eq, keysApart, Key.apart, kk1, kk2], hQ⟩
 ·have bh2 : ∀ n, (m1.bump n).blk h = some (.row 1 es) := fun _ => bh
  by_cases h5 : x.kind = 5
  ·have ap := ap_row (m := m1.bump (n + 11)) (lo := m.next) (h := m1.next + n + 8) (h' := k) (o := 0) (l := l.length) (sz := 2) (s := 2) (y := .lst false 2 [vFrm ⟨x.on, 0⟩]) (xs := [vFrm ⟨x.on, 0⟩]) (es := l.map vFrm) vw_lst (by omega) (.inl rfl) (by simp [big]; omega) g5 (by simp)
   have fx : Go.Am.V.agg [.int .i64 x.on, .int .i64 0] = vFrm ⟨x.on, 0⟩ := rfl
   have hm := H.hm
   have bh3 : ∀ B, (((m1.bump (n + 11)).set k none).set (m1.next + n + 8) B).blk h = some (.row 1 es) := fun B => by
    rw [set_ne (by omega), set_ne (by omega)]
    exact bh
   have rE : rowE (.row 1 es) w = some (.row 2 k 0 l.length) := g1
   have sE : setC 0 1 (.row 2 (m1.next + n + 8) 0 (l.length + 1)) (.row 2 k 0 l.length) = some (.row 2 (m1.next + n + 8) 0 (l.length + 1)) := rfl
   simp only [↓sxc, sx, se, ↓reduceIte, Nat.reduceEqDiff, Nat.reduceAdd, Nat.reduceLT, Nat.reduceLeDiff, Nat.reduceSub, Nat.reduceMul, Int.reduceToNat, Int.reduceLT, Int.reduceLE, Int.reduceEq, ml_i0, ↓smc, sm, ss, h5]
   simp only [↓sxc, sx, se, ↓reduceIte, Nat.reduceEqDiff, Nat.reduceAdd, Nat.reduceLT, Nat.reduceLeDiff, Nat.reduceSub, Nat.reduceMul, Int.reduceToNat, Int.reduceLT, Int.reduceLE, Int.reduceEq, ml_i0, ↓W_dreg, ↓sk, sk, ss, w0, wn, wl, lh, bh2, fx, ap, List.drop_zero, List.length_cons, List.length_nil, bh3, rE, sE]
   have kk3 : (Go.Am.V.lst false 2 [vFrm ⟨x.on, 0⟩]).key = [] := rfl
   refine ⟨by simp [pairsOk, nth_eq, keysApart, Key.apart, kk3], ?_⟩
   have tk : takeE s st w = st.set w (l ++ [⟨x.on, 0⟩]) := by
    unfold takeE
    simp only [hw, et, if_pos h5]
   rw [tk]
   simp only [mapO]
   have hf := fz_stk (lo := m.next) (k := m1.next + n + 8) (n := 2) (m := ((((m1.bump (n + 11)).set k none).set (m1.next + n + 8) (some (.row 2 (List.take l.length (List.map vFrm l) ++ [vFrm ⟨x.on, 0⟩]))))).set h (some (rowS (.row 1 es) w (.row 2 (m1.next + n + 8) 0 (l.length + 1))))) (B := l ++ [⟨x.on, 0⟩]) (n' := l.length + 1) (by omega) (by
     rw [set_ne (by omega), List.map_append]
     simp [Mem.set, Mem.bump, List.take_of_length_le]) (by simp)
   rw [List.take_of_length_le (l := l ++ [(⟨x.on, 0⟩ : Frm)]) (by simp)] at hf
   rw [fz_takeQ (n := 2) (w := w) (v := .row 2 (m1.next + n + 8) 0 (l.length + 1)) (l' := l ++ [⟨x.on, 0⟩]) (m2 := m1) H (by simp [Mem.set, rowS]) hwl hf ?_]
   ·rfl
   ·intro j k' l'' hj hk'
    have : k' ≠ k := fun h => hj (H.inj j w k' _ _ hk' (by rw [h]; exact g1))
    have hj2 := (List.getElem?_eq_some_iff.1 hk').1
    have hln := H.ln
    obtain ⟨k3, b1, b2, b3, b4, _⟩ := H.new j (st[j]'(by omega)) (List.getElem?_eq_getElem _)
    rw [hk'] at b1
    cases b1
    rw [set_ne (by omega), set_ne (by omega), set_ne this]
    rfl
  ·obtain ⟨n2, hn2⟩ : ∃ n2, l.length = n2 + 1 := ⟨l.length - 1, by omega⟩
   have al : (c.steps.length : Nat) ≤ 12 := (hv.okC c (List.mem_of_getElem? hc)).l12
   have alt := (List.getElem?_eq_some_iff.1 hx).1
   have wa : wrapF .i64 ((a : Int) + 1) = (a : Int) + 1 := wr_i64 (by omega) (by omega)
   have sc : setC 1 1 (.int .i64 ((a : Int) + 1)) (vFrm ⟨q, a⟩) = some (vFrm ⟨q, (a : Int) + 1⟩) := rfl
   simp only [↓sxc, sx, se, ↓reduceIte, Nat.reduceEqDiff, Nat.reduceAdd, Nat.reduceLT, Nat.reduceLeDiff, Nat.reduceSub, Nat.reduceMul, Int.reduceToNat, Int.reduceLT, Int.reduceLE, Int.reduceEq, ml_i0, ↓smc, sm, ss, h5, wr, l0, ln, ll, g2, g5, es1, wa, sc]
   have hfn : l[n2]? = some ⟨q, a⟩ := by
    rw [hn2, Nat.add_sub_cancel] at hf
    exact hf
   have e1 : l.length - 1 = n2 := by omega
   rw [e1, hn2]
   refine w128_1 s hv k g2 _ _ _ n2 l ⟨q, a⟩ _ _ (by omega) hll (fun f hf => forms_ok V.ln V.fm l hlm f (List.mem_of_mem_take hf)) hfn ?_ (fun B' n' m3 e x1 x2 x4 x5 x6 => ?_)
   ·simp [Mem.set, List.map_set]
   have x6' : ∀ j, j ≠ k → m3.blk j = m1.blk j := fun j hj => by rw [x6 j hj, set_ne hj]; rfl
   have bh3 : m3.blk h = some (.row 1 es) := by rw [x6' _ (by omega)]; exact bh
   have hr : setC 0 1 (.row 2 k 0 n') (.row 2 k 0 l.length) = some (.row 2 k 0 n') := rfl
   have hln := H.ln
   have tk : takeE s st w = st.set w (advE s l) := by
    unfold takeE
    simp only [hw, et, if_neg h5]
   simp only [↓sxc, sx, se, ↓reduceIte, Nat.reduceEqDiff, Nat.reduceAdd, Nat.reduceLT, Nat.reduceLeDiff, Nat.reduceSub, Nat.reduceMul, Int.reduceToNat, Int.reduceLT, Int.reduceLE, Int.reduceEq, ml_i0, ↓smc, sm, ss, w0, wn, wl, bh3, g1, lh, hr]
   have hf := fz_stk (lo := m.next) (k := k) (n := 2) (m := m3.set h (some (.row 1 (es.set w (.row 2 k 0 n'))))) (B := B') (n' := n') (by omega) (by rw [set_ne (by omega)]; exact x2) x4
   rw [x5, ← hn2] at hf
   rw [tk]
   simp only [mapO]
   rw [fz_takeQ (n := 2) (w := w) (v := .row 2 k 0 n') (l' := advE s l) (m2 := m1) H (by simp [Mem.set]) hwl hf ?_]
   ·rfl
   ·intro j k' l'' hj hk'
    have hkk : k' ≠ k := fun h => hj (H.inj j w k' _ _ hk' (by rw [h]; exact g1))
    have hj2 := (List.getElem?_eq_some_iff.1 hk').1
    obtain ⟨k3, b1, b2, b3, b4, _⟩ := H.new j (st[j]'(by omega)) (List.getElem?_eq_getElem _)
    rw [hk'] at b1
    cases b1
    rw [set_ne (by omega), x6' _ hkk]
end Go.Am
namespace Go.Am
open Go
set_option linter.unusedSimpArgs false
set_option linter.unusedVariables false
set_option maxRecDepth 100000
theorem sp58 {F : Nat → Option Fn} (hA : HasA F) (hB : HasB F) (hE : HasE F) {lo : Nat} {m : Mem} (s : Sys) (st : List (List Frm)) (hs : Sml st) (w : Int) : callw F 58 [vSys s, vSt st, vi w] lo m = some (.tup [vSt (stepX s st w).1, vi (stepX s st w).2], m) := by
 have c60 : ∀ {lo m}, callw F 60 [vSys s, vSt st] lo m = some (vi (chkX s st), m) := fun {lo m} => sp60 hA hB hE s st hs
 refine call_p hE.h58 rfl ?_
 by_cases h : chkX s st = 0
 ·have V := vst_of hs h
  have hv := valid_of V.v
  by_cases h1 : w < 0
  ·have e : stepX s st w = ([], 6) := by unfold stepX; rw [if_neg (by simpa using h), if_pos (.inl h1)]
   rw [e]
   simp only [↓sxc, sx, se, ↓reduceIte, Nat.reduceEqDiff, Nat.reduceAdd, Nat.reduceLT, Nat.reduceLeDiff, Nat.reduceSub, Nat.reduceMul, Int.reduceToNat, Int.reduceLT, Int.reduceLE, Int.reduceEq, ml_i0, ↓smc, sm, ss, c60, h, h1]
   rfl
  ·by_cases h2 : (st.length : Int) ≤ w
   ·have e : stepX s st w = ([], 6) := by unfold stepX; rw [if_neg (by simpa using h), if_pos (.inr h2)]
    rw [e]
    simp only [↓sxc, sx, se, ↓reduceIte, Nat.reduceEqDiff, Nat.reduceAdd, Nat.reduceLT, Nat.reduceLeDiff, Nat.reduceSub, Nat.reduceMul, Int.reduceToNat, Int.reduceLT, Int.reduceLE, Int.reduceEq, ml_i0, ↓smc, sm, ss, c60, h, h1, h2]
    rfl
   ·obtain ⟨k, hk⟩ : ∃ k : Nat, w = k := ⟨w.toNat, by omega⟩
    subst hk
    have hg : st[k]? = some (st[k]'(by omega)) := List.getElem?_eq_getElem _
    generalize st[k]'(by omega) = l at hg
    have c127 : ∀ {lo m}, callw F 127 [vSys s, vSt st, vi k] lo m = some (.bool (possB s st (topS s l)), m) := fun {lo m} => sp127 hB hE s st V hg
    have c128 : ∀ {lo m}, callw F 128 [vSys s, vSt st, vi k] lo m = some (vSt (takeE s st k), m) := fun {lo m} => sp128 hE s st V hg
    have e : stepX s st k = if possB s st (topS s l) = true then (takeE s st k, 0) else ([], 11) := by
     unfold stepX
     rw [if_neg (by simpa using h), if_neg (by omega), Int.toNat_natCast, hg, Option.getD_some]
    rw [e]
    cases hb : possB s st (topS s l) with
    | false =>
     rw [hb] at c127
     simp only [↓sxc, sx, se, ↓reduceIte, Nat.reduceEqDiff, Nat.reduceAdd, Nat.reduceLT, Nat.reduceLeDiff, Nat.reduceSub, Nat.reduceMul, Int.reduceToNat, Int.reduceLT, Int.reduceLE, Int.reduceEq, ml_i0, ↓smc, sm, ss, c60, h, h1, h2, c127]
     rfl
    | true =>
     rw [hb] at c127
     simp only [↓sxc, sx, se, ↓reduceIte, Nat.reduceEqDiff, Nat.reduceAdd, Nat.reduceLT, Nat.reduceLeDiff, Nat.reduceSub, Nat.reduceMul, Int.reduceToNat, Int.reduceLT, Int.reduceLE, Int.reduceEq, ml_i0, ↓smc, sm, ss, c60, h, h1, h2, c127, c128]
     rfl
 ·have e : stepX s st w = ([], chkX s st) := by unfold stepX; rw [if_pos h]
  rw [e]
  simp only [↓sxc, sx, se, ↓reduceIte, Nat.reduceEqDiff, Nat.reduceAdd, Nat.reduceLT, Nat.reduceLeDiff, Nat.reduceSub, Nat.reduceMul, Int.reduceToNat, Int.reduceLT, Int.reduceLE, Int.reduceEq, ml_i0, ↓smc, sm, ss, c60, h]
  rfl
instance Frm.dec : DecidableEq Frm := fun a b => if h : a.cls = b.cls ∧ a.at_ = b.at_ then isTrue (by cases a; cases b; simp only at h; rw [h.1, h.2]) else isFalse (fun e => h (by rw [e]; exact ⟨rfl, rfl⟩))
theorem aq_vFrm {f g : Frm} : retV (.aq true [0, 0]) [vFrm f, vFrm g] = some (.bool (!@decide (f = g) (Frm.dec f g))) := by
 have : retV (.aq true [0, 0]) [vFrm f, vFrm g] = some (.bool (!(decide (f.cls = g.cls) && decide (f.at_ = g.at_)))) := by
  simp only [vFrm, r_aq, eqKs_int, eqKs_nil]
  by_cases h1 : f.cls = g.cls <;> by_cases h2 : f.at_ = g.at_ <;> simp [h1, h2]
 rw [this, ← Bool.decide_and]
 have e : (f.cls = g.cls ∧ f.at_ = g.at_) ↔ f = g := by
  cases f; cases g; simp
 rw [decide_eq_decide.2 e]
theorem sp61 {F : Nat → Option Fn} (hE : HasE F) {lo : Nat} {m : Mem} (a b : List (List Frm)) (ha : Sml a) : callw F 61 [vSt a, vSt b] lo m = some (.bool (decide (a = b)), m) := by
 have ha1 := ha.l1
 have loop1 : ∀ (la lb : List Frm) (i : Nat) (hia : a[i]? = some la) (hib : b[i]? = some lb) (hln : la.length = lb.length) (t t' : List Frm) (j n : Nat) (Q : Ex → St → Prop), la.drop j = t → lb.drop j = t' → (t ≠ t' → ∀ n, Q .ret ⟨[(4, .bool false)], [], [], m.bump n⟩) →
   (t = t' → ∀ n e, Q (.exit 2) ⟨(5, vi i) :: e, [(2, vSt a), (3, vSt b)], [], m.bump n⟩) →
   W F m.next L61_1 ⟨[(5, vi i), (6, vi j)], [(2, vSt a), (3, vSt b)], [], m.bump n⟩ Q := by
  intro la lb i hia hib hln t
  have i0 : (0 : Int) ≤ i := by omega
  have in_ : ((i : Nat) : Int).toNat = i := rfl
  have hll := ha.stk (List.mem_of_getElem? hia)
  induction t with
  | nil =>
   intro t' j n Q hd hd2 q1 q2
   have hlt := drop_nil hd
   rw [W_L (c := L61_1) rfl]
   have : ¬ ((j : Nat) : Int) < (la.length : Int) := by omega
   simp only [↓sxc, sx, se, ↓reduceIte, Nat.reduceEqDiff, Nat.reduceAdd, Nat.reduceLT, Nat.reduceLeDiff, Nat.reduceSub, Nat.reduceMul, Int.reduceToNat, Int.reduceLT, Int.reduceLE, Int.reduceEq, ml_i0, ↓smc, sm, ss, i0, in_, hia, this]
   refine q2 ?_ _ _
   rw [← hd2, List.drop_eq_nil_of_le (by omega)]
  | cons f t ih =>
   intro t' j n Q hd hd2 q1 q2
   obtain ⟨hg, hd', hlt⟩ := drop_cons hd
   cases t' with
   | nil => have := drop_nil hd2; omega
   | cons g t' =>
    obtain ⟨hg2, hd2', hlt2⟩ := drop_cons hd2
    rw [W_L (c := L61_1) rfl]
    have c0 : ((j : Nat) : Int) < (la.length : Int) := by omega
    have wr : wrapF .i64 ((j : Int) + 1) = ((j + 1 : Nat) : Int) := by rw [wr_i64 (by omega) (by omega)]; rfl
    have j0 : (0 : Int) ≤ j := by omega
    have jn : ((j : Nat) : Int).toNat = j := rfl
    have aq := aq_vFrm (f := f) (g := g)
    by_cases hfg : f = g
    ·subst hfg
     simp only [decide_true, Bool.not_true] at aq
     simp only [↓sxc, sx, se, ↓reduceIte, Nat.reduceEqDiff, Nat.reduceAdd, Nat.reduceLT, Nat.reduceLeDiff, Nat.reduceSub, Nat.reduceMul, Int.reduceToNat, Int.reduceLT, Int.reduceLE, Int.reduceEq, ml_i0, ↓smc, sm, ss, i0, in_, hia, hib, c0, j0, jn, hg, hg2, aq, wr]
     exact ih t' (j + 1) _ Q hd' hd2' (fun h => q1 (fun e => h (List.cons.inj e).2)) (fun h => q2 (by rw [h]))
    ·simp only [hfg, decide_false, Bool.not_false] at aq
     have q1' := q1 (fun e => hfg (List.cons.inj e).1)
     by_cases h1 : f.cls = g.cls
     ·have h2 : ¬ f.at_ = g.at_ := fun h2 => hfg (by cases f; cases g; simp only at h1 h2; rw [h1, h2])
      simp only [↓sxc, sx, se, ↓reduceIte, Nat.reduceEqDiff, Nat.reduceAdd, Nat.reduceLT, Nat.reduceLeDiff, Nat.reduceSub, Nat.reduceMul, Int.reduceToNat, Int.reduceLT, Int.reduceLE, Int.reduceEq, ml_i0, ↓smc, sm, ss, i0, in_, hia, hib, c0, j0, jn, hg, hg2, h1, h2]
      exact q1' _
     ·simp only [↓sxc, sx, se, ↓reduceIte, Nat.reduceEqDiff, Nat.reduceAdd, Nat.reduceLT, Nat.reduceLeDiff, Nat.reduceSub, Nat.reduceMul, Int.reduceToNat, Int.reduceLT, Int.reduceLE, Int.reduceEq, ml_i0, ↓smc, sm, ss, i0, in_, hia, hib, c0, j0, jn, hg, hg2, h1]
      exact q1' _
 have loop2 : a.length = b.length → ∀ (t t' : List (List Frm)) (i n : Nat) (Q : Ex → St → Prop), a.drop i = t → b.drop i = t' → (t ≠ t' → ∀ n, Q .ret ⟨[(4, .bool false)], [], [], m.bump n⟩) →
   (t = t' → ∀ n e b, Q (.exit 0) ⟨e, b, [], m.bump n⟩) →
   W F m.next L61_2 ⟨[(5, vi i)], [(2, vSt a), (3, vSt b)], [], m.bump n⟩ Q := by
  intro hab t
  induction t with
  | nil =>
   intro t' i n Q hd hd2 q1 q2
   have hlt := drop_nil hd
   rw [W_L (c := L61_2) rfl]
   have : ¬ ((i : Nat) : Int) < (a.length : Int) := by omega
   simp only [↓sxc, sx, se, ↓reduceIte, Nat.reduceEqDiff, Nat.reduceAdd, Nat.reduceLT, Nat.reduceLeDiff, Nat.reduceSub, Nat.reduceMul, Int.reduceToNat, Int.reduceLT, Int.reduceLE, Int.reduceEq, ml_i0, ↓smc, sm, ss, this]
   refine q2 ?_ _ _ _
   rw [← hd2, List.drop_eq_nil_of_le (by omega)]
  | cons la t ih =>
   intro t' i n Q hd hd2 q1 q2
   obtain ⟨hg, hd', hlt⟩ := drop_cons hd
   cases t' with
   | nil => have := drop_nil hd2; omega
   | cons lb t' =>
    obtain ⟨hg2, hd2', hlt2⟩ := drop_cons hd2
    rw [W_L (c := L61_2) rfl]
    have c0 : ((i : Nat) : Int) < (a.length : Int) := by omega
    have wr : wrapF .i64 ((i : Int) + 1) = ((i + 1 : Nat) : Int) := by rw [wr_i64 (by omega) (by omega)]; rfl
    have i0 : (0 : Int) ≤ i := by omega
    have in_ : ((i : Nat) : Int).toNat = i := rfl
    by_cases hl : la.length = lb.length
    ·have hl' : (la.length : Int) = lb.length := by omega
     simp only [↓sxc, sx, se, ↓reduceIte, Nat.reduceEqDiff, Nat.reduceAdd, Nat.reduceLT, Nat.reduceLeDiff, Nat.reduceSub, Nat.reduceMul, Int.reduceToNat, Int.reduceLT, Int.reduceLE, Int.reduceEq, ml_i0, ↓smc, sm, ss, i0, in_, hg, hg2, c0, hl']
     refine loop1 la lb i hg hg2 hl la lb 0 _ _ (by simp) (by simp) (fun h n => ?_) (fun h n e => ?_)
     ·simp only [↓sxc, sx, se, ↓reduceIte, Nat.reduceEqDiff, Nat.reduceAdd, Nat.reduceLT, Nat.reduceLeDiff, Nat.reduceSub, Nat.reduceMul, Int.reduceToNat, Int.reduceLT, Int.reduceLE, Int.reduceEq, ml_i0, ↓smc, sm, ss]
      exact q1 (fun e => h (List.cons.inj e).1) _
     ·simp only [↓sxc, sx, se, ↓reduceIte, Nat.reduceEqDiff, Nat.reduceAdd, Nat.reduceLT, Nat.reduceLeDiff, Nat.reduceSub, Nat.reduceMul, Int.reduceToNat, Int.reduceLT, Int.reduceLE, Int.reduceEq, ml_i0, ↓smc, sm, ss, wr]
      exact ih t' (i + 1) _ Q hd' hd2' (fun h2 => q1 (fun e => h2 (List.cons.inj e).2)) (fun h2 => q2 (by rw [h, h2]))
    ·have hl' : ¬ (la.length : Int) = lb.length := by omega
     simp only [↓sxc, sx, se, ↓reduceIte, Nat.reduceEqDiff, Nat.reduceAdd, Nat.reduceLT, Nat.reduceLeDiff, Nat.reduceSub, Nat.reduceMul, Int.reduceToNat, Int.reduceLT, Int.reduceLE, Int.reduceEq, ml_i0, ↓smc, sm, ss, i0, in_, hg, hg2, c0, hl']
     exact q1 (fun e => hl (by rw [(List.cons.inj e).1])) _
 refine call_p hE.h61 rfl ?_
 by_cases hab : a.length = b.length
 ·have hab' : (a.length : Int) = b.length := by omega
  simp only [↓sxc, sx, se, ↓reduceIte, Nat.reduceEqDiff, Nat.reduceAdd, Nat.reduceLT, Nat.reduceLeDiff, Nat.reduceSub, Nat.reduceMul, Int.reduceToNat, Int.reduceLT, Int.reduceLE, Int.reduceEq, ml_i0, ↓smc, sm, ss, hab']
  refine loop2 hab a b 0 0 _ (by simp) (by simp) (fun h n => ?_) (fun h n e b => ?_)
  ·have : decide (a = b) = false := by simpa using h
   rw [this]
   simp only [↓sxc, sx, se, ↓reduceIte, Nat.reduceEqDiff, Nat.reduceAdd, Nat.reduceLT, Nat.reduceLeDiff, Nat.reduceSub, Nat.reduceMul, Int.reduceToNat, Int.reduceLT, Int.reduceLE, Int.reduceEq, ml_i0, ↓smc, sm, ss]
  ·subst h
   simp only [↓sxc, sx, se, ↓reduceIte, Nat.reduceEqDiff, Nat.reduceAdd, Nat.reduceLT, Nat.reduceLeDiff, Nat.reduceSub, Nat.reduceMul, Int.reduceToNat, Int.reduceLT, Int.reduceLE, Int.reduceEq, ml_i0, ↓smc, sm, ss, decide_true]
 ·have hab' : ¬ (a.length : Int) = b.length := by omega
  have : decide (a = b) = false := by
   rw [decide_eq_false_iff_not]
   intro e
   exact hab (by rw [e])
  rw [this]
  simp only [↓sxc, sx, se, ↓reduceIte, Nat.reduceEqDiff, Nat.reduceAdd, Nat.reduceLT, Nat.reduceLeDiff, Nat.reduceSub, Nat.reduceMul, Int.reduceToNat, Int.reduceLT, Int.reduceLE, Int.reduceEq, ml_i0, ↓smc, sm, ss, hab']
def fewC : List Cls → Int → Bool
 | [], n => decide (n ≤ 4)
 | c :: t, n => if 8 < c.steps.length then false else fewC t (if c.srv = true then n else n + max 0 (min c.wk 9))
def fewX (s : Sys) : Bool := few s && decide (s.cls.length ≤ 4) && fewC s.cls 0
theorem sp56 {F : Nat → Option Fn} (hA : HasA F) (hE : HasE F) {lo : Nat} {m : Mem} (s : Sys) : callw F 56 [vSys s] lo m = some (.bool (fewX s), m) := by
 have c28 : ∀ {lo m}, callw F 28 [vSys s] lo m = some (.bool (few s), m) := fun {lo m} => sp28 hA s
 refine call_p hE.h56 rfl ?_
 unfold fewX
 cases hf : few s with
 | false =>
  rw [hf] at c28
  simp only [↓sxc, sx, se, ↓reduceIte, Nat.reduceEqDiff, Nat.reduceAdd, Nat.reduceLT, Nat.reduceLeDiff, Nat.reduceSub, Nat.reduceMul, Int.reduceToNat, Int.reduceLT, Int.reduceLE, Int.reduceEq, ml_i0, ↓smc, sm, c28, Bool.false_and]
 | true =>
  rw [hf] at c28
  by_cases h4 : s.cls.length ≤ 4
  ·have h4' : ¬ (4 : Int) < (s.cls.length : Int) := by omega
   have h4d : decide (s.cls.length ≤ 4) = true := by simpa using h4
   have loop : ∀ (t : List Cls) (i n : Nat) (k : Int) (Q : Ex → St → Prop), s.cls.drop i = t → 0 ≤ k → k ≤ 9 * i → (∀ n, (fewC t k = false) → Q .ret ⟨[(2, .bool false)], [], [], m.bump n⟩) →
     (∀ n e b k', fewC t k = decide (k' ≤ 4) → Q (.exit 0) ⟨(3, vi k') :: e, b, [], m.bump n⟩) →
     W F m.next L56_1 ⟨[(3, vi k), (4, vi i)], [(1, vSys s)], [], m.bump n⟩ Q := by
    intro t
    induction t with
    | nil =>
     intro i n k Q hd hk1 hk2 q1 q2
     have hlt := drop_nil hd
     rw [W_L (c := L56_1) rfl]
     have : ¬ ((i : Nat) : Int) < (s.cls.length : Int) := by omega
     simp only [↓sxc, sx, se, ↓reduceIte, Nat.reduceEqDiff, Nat.reduceAdd, Nat.reduceLT, Nat.reduceLeDiff, Nat.reduceSub, Nat.reduceMul, Int.reduceToNat, Int.reduceLT, Int.reduceLE, Int.reduceEq, ml_i0, ↓smc, sm, this]
     exact q2 _ _ _ _ rfl
    | cons c t ih =>
     intro i n k Q hd hk1 hk2 q1 q2
     obtain ⟨hg, hd', hlt⟩ := drop_cons hd
     rw [W_L (c := L56_1) rfl]
     have c0 : ((i : Nat) : Int) < (s.cls.length : Int) := by omega
     have wr : wrapF .i64 ((i : Int) + 1) = ((i + 1 : Nat) : Int) := by rw [wr_i64 (by omega) (by omega)]; rfl
     have i0 : (0 : Int) ≤ i := by omega
     have in_ : ((i : Nat) : Int).toNat = i := rfl
     by_cases h8 : 8 < c.steps.length
     ·have h8' : (8 : Int) < (c.steps.length : Int) := by omega
      simp only [↓sxc, sx, se, ↓reduceIte, Nat.reduceEqDiff, Nat.reduceAdd, Nat.reduceLT, Nat.reduceLeDiff, Nat.reduceSub, Nat.reduceMul, Int.reduceToNat, Int.reduceLT, Int.reduceLE, Int.reduceEq, ml_i0, ↓smc, sm, c0, i0, in_, hg, h8']
      exact q1 _ (by unfold fewC; rw [if_pos h8])
     ·have h8' : ¬ (8 : Int) < (c.steps.length : Int) := by omega
      have ef : fewC (c :: t) k = fewC t (if c.srv = true then k else k + max 0 (min c.wk 9)) := by
       rw [fewC, if_neg h8]
      rw [ef] at q1 q2
      cases hs : c.srv with
      | true =>
       simp only [hs, if_true] at q1 q2
       simp only [↓sxc, sx, se, ↓reduceIte, Nat.reduceEqDiff, Nat.reduceAdd, Nat.reduceLT, Nat.reduceLeDiff, Nat.reduceSub, Nat.reduceMul, Int.reduceToNat, Int.reduceLT, Int.reduceLE, Int.reduceEq, ml_i0, ↓smc, sm, c0, i0, in_, hg, h8', hs, wr]
       exact ih (i + 1) _ k Q hd' hk1 (by omega) q1 q2
      | false =>
       simp only [hs, Bool.false_eq_true, if_false] at q1 q2
       have wa : wrapF .i64 (k + max 0 (min c.wk 9)) = k + max 0 (min c.wk 9) := wr_i64 (by omega) (by omega)
       simp only [↓sxc, sx, se, ↓reduceIte, Nat.reduceEqDiff, Nat.reduceAdd, Nat.reduceLT, Nat.reduceLeDiff, Nat.reduceSub, Nat.reduceMul, Int.reduceToNat, Int.reduceLT, Int.reduceLE, Int.reduceEq, ml_i0, ↓smc, sm, c0, i0, in_, hg, h8', hs, wr, wa]
       exact ih (i + 1) _ _ Q hd' (by omega) (by omega) q1 q2
   rw [h4d]
   simp only [↓sxc, sx, se, ↓reduceIte, Nat.reduceEqDiff, Nat.reduceAdd, Nat.reduceLT, Nat.reduceLeDiff, Nat.reduceSub, Nat.reduceMul, Int.reduceToNat, Int.reduceLT, Int.reduceLE, Int.reduceEq, ml_i0, ↓smc, sm, c28, h4']
   refine loop s.cls 0 0 0 _ rfl (by omega) (by omega) (fun n h => ?_) (fun n e b k h => ?_)
   ·rw [h]
    simp only [↓sxc, sx, se, ↓reduceIte, Nat.reduceEqDiff, Nat.reduceAdd, Nat.reduceLT, Nat.reduceLeDiff, Nat.reduceSub, Nat.reduceMul, Int.reduceToNat, Int.reduceLT, Int.reduceLE, Int.reduceEq, ml_i0, ↓smc, sm]
   ·rw [h]
    simp only [↓sxc, sx, se, ↓reduceIte, Nat.reduceEqDiff, Nat.reduceAdd, Nat.reduceLT, Nat.reduceLeDiff, Nat.reduceSub, Nat.reduceMul, Int.reduceToNat, Int.reduceLT, Int.reduceLE, Int.reduceEq, ml_i0, ↓smc, sm]
  ·have h4' : (4 : Int) < (s.cls.length : Int) := by omega
   have h4d : decide (s.cls.length ≤ 4) = false := by simpa using h4
   rw [h4d]
   simp only [↓sxc, sx, se, ↓reduceIte, Nat.reduceEqDiff, Nat.reduceAdd, Nat.reduceLT, Nat.reduceLeDiff, Nat.reduceSub, Nat.reduceMul, Int.reduceToNat, Int.reduceLT, Int.reduceLE, Int.reduceEq, ml_i0, ↓smc, sm, c28, h4']
end Go.Am
namespace Go.Am
open Go
set_option linter.unusedVariables false
def tFrm : Ty := .st [.int .i64, .int .i64]
def tState : Ty := .st [.sl (.sl tFrm)]
theorem dec_frm : Dec tFrm 2 vFrm (fun _ => True) := fun n cs h => by
 obtain ⟨a, b, n1, n2, rfl, rfl, h1, h⟩ := h.cons_inv
 obtain ⟨c, d, n3, n4, rfl, rfl, h2, h⟩ := h.cons_inv
 obtain ⟨rfl, rfl⟩ := h.nil_inv
 obtain ⟨rfl, x, rfl, _⟩ := h1.int_inv
 obtain ⟨rfl, y, rfl, _⟩ := h2.int_inv
 exact ⟨rfl, ⟨x, y⟩, rfl, trivial⟩
theorem dec_stk : Dec (.sl tFrm) 1 vStk (fun l => l.length ≤ maxLen) := fun n cs h => by
 obtain ⟨rfl, l, rfl, hl, _⟩ := h.sl_inv dec_frm
 exact ⟨rfl, l, rfl, hl⟩
theorem open_state {v : V} (h : HasV tState v) : ∃ st, v = vSt st ∧ st.length ≤ maxLen ∧ ∀ l ∈ st, l.length ≤ maxLen := by
 obtain ⟨n, cs, rfl, h⟩ := h
 obtain ⟨a, b, n1, n2, rfl, rfl, h1, h⟩ := h.cons_inv
 obtain ⟨rfl, rfl⟩ := h.nil_inv
 obtain ⟨rfl, x, rfl, hl, hp⟩ := h1.sl_inv dec_stk
 exact ⟨x, rfl, hl, hp⟩
end Go.Am
