/- Graphs: the check; rows of rows that are built by append. -/
import Derived.Test.YtflfnkdhmcfjlaaMpr
import Derived.Test.YtflfnkdhmcfjlaaCG
namespace Go.Am
open Go
set_option linter.unusedSimpArgs false
set_option linter.unusedVariables false
set_option maxRecDepth 100000

def badN (n : Int) (e : Edge) : Bool := decide (e.fr < 0) || decide (n ≤ e.fr) || decide (e.to < 0) || decide (n ≤ e.to)
def chkG (n : Int) (l : List Edge) : Int := if n < 0 ∨ 4096 < n then 2 else if l.any (badN n) = true then 1 else 0

theorem sp102 {F : Nat → Option Fn} (hG : HasG F) {lo : Nat} {m : Mem} (n : Int) (l : List Edge) (hl : l.length < 1000000) : callw F 102 [vi n, vEdges l] lo m = some (vi (chkG n l), m) := by
  have loop : ∀ (t : List Edge) (i : Nat) (Q : Ex → St → Prop), l.drop i = t → (t.any (badN n) = true → Q .ret ⟨[(4, vi 1)], [], [], m⟩) → (t.any (badN n) = false → ∀ e, Q (.exit 0) ⟨e, [], [], m⟩) →
      W F m.next L102_1 ⟨[(0, vi n), (13, vEdges l), (14, vi l.length), (15, vi i)], [], [], m⟩ Q := by
    intro t
    induction t with
    | nil =>
      intro i Q hd q1 q2
      have hlt := drop_nil hd
      rw [W_L (c := L102_1) rfl]
      have : ¬ ((i : Nat) : Int) < (l.length : Int) := by omega
      simp only [↓sxc, sx, se, ↓reduceIte, Nat.reduceEqDiff, Nat.reduceAdd, Nat.reduceLT, Nat.reduceLeDiff, Nat.reduceSub, Nat.reduceMul, Int.reduceToNat, Int.reduceLT, Int.reduceLE, Int.reduceEq, ml_i0, ↓smc, sm, this]
      exact q2 rfl _
    | cons x t ih =>
      intro i Q hd q1 q2
      obtain ⟨hg, hd', hlt⟩ := drop_cons hd
      rw [W_L (c := L102_1) rfl]
      have : ((i : Nat) : Int) < (l.length : Int) := by omega
      have wr : wrapF .i64 ((i : Int) + 1) = ((i + 1 : Nat) : Int) := by rw [wr_i64 (by omega) (by omega)]; rfl
      by_cases e1 : x.fr < 0
      · simp only [↓sxc, sx, se, ↓reduceIte, Nat.reduceEqDiff, Nat.reduceAdd, Nat.reduceLT, Nat.reduceLeDiff, Nat.reduceSub, Nat.reduceMul, Int.reduceToNat, Int.reduceLT, Int.reduceLE, Int.reduceEq, ml_i0, ↓smc, sm, this, hg, e1]
        exact q1 (by simp [badN, e1])
      · by_cases e2 : n ≤ x.fr
        · simp only [↓sxc, sx, se, ↓reduceIte, Nat.reduceEqDiff, Nat.reduceAdd, Nat.reduceLT, Nat.reduceLeDiff, Nat.reduceSub, Nat.reduceMul, Int.reduceToNat, Int.reduceLT, Int.reduceLE, Int.reduceEq, ml_i0, ↓smc, sm, this, hg, e1, e2]
          exact q1 (by simp [badN, e2])
        · by_cases e3 : x.to < 0
          · simp only [↓sxc, sx, se, ↓reduceIte, Nat.reduceEqDiff, Nat.reduceAdd, Nat.reduceLT, Nat.reduceLeDiff, Nat.reduceSub, Nat.reduceMul, Int.reduceToNat, Int.reduceLT, Int.reduceLE, Int.reduceEq, ml_i0, ↓smc, sm, this, hg, e1, e2, e3]
            exact q1 (by simp [badN, e3])
          · by_cases e4 : n ≤ x.to
            · simp only [↓sxc, sx, se, ↓reduceIte, Nat.reduceEqDiff, Nat.reduceAdd, Nat.reduceLT, Nat.reduceLeDiff, Nat.reduceSub, Nat.reduceMul, Int.reduceToNat, Int.reduceLT, Int.reduceLE, Int.reduceEq, ml_i0, ↓smc, sm, this, hg, e1, e2, e3, e4]
              exact q1 (by simp [badN, e4])
            · have e : (x :: t).any (badN n) = t.any (badN n) := by simp [badN, e1, e2, e3, e4]
              rw [e] at q1 q2
              simp only [↓sxc, sx, se, ↓reduceIte, Nat.reduceEqDiff, Nat.reduceAdd, Nat.reduceLT, Nat.reduceLeDiff, Nat.reduceSub, Nat.reduceMul, Int.reduceToNat, Int.reduceLT, Int.reduceLE, Int.reduceEq, ml_i0, ↓smc, sm, this, hg, e1, e2, e3, e4, wr]
              exact ih (i + 1) Q hd' q1 q2
  refine call_p hG.h102 rfl ?_
  by_cases h1 : n < 0
  · have e : chkG n l = 2 := by simp [chkG, h1]
    simp only [↓sxc, sx, se, ↓reduceIte, Nat.reduceEqDiff, Nat.reduceAdd, Nat.reduceLT, Nat.reduceLeDiff, Nat.reduceSub, Nat.reduceMul, Int.reduceToNat, Int.reduceLT, Int.reduceLE, Int.reduceEq, ml_i0, ↓smc, sm, h1, e]
  · by_cases h2 : 4096 < n
    · have e : chkG n l = 2 := by simp [chkG, h2]
      simp only [↓sxc, sx, se, ↓reduceIte, Nat.reduceEqDiff, Nat.reduceAdd, Nat.reduceLT, Nat.reduceLeDiff, Nat.reduceSub, Nat.reduceMul, Int.reduceToNat, Int.reduceLT, Int.reduceLE, Int.reduceEq, ml_i0, ↓smc, sm, h1, h2, e]
    · simp only [↓sxc, sx, se, ↓reduceIte, Nat.reduceEqDiff, Nat.reduceAdd, Nat.reduceLT, Nat.reduceLeDiff, Nat.reduceSub, Nat.reduceMul, Int.reduceToNat, Int.reduceLT, Int.reduceLE, Int.reduceEq, ml_i0, ↓smc, sm, h1, h2]
      refine loop l 0 _ rfl (fun h => ?_) (fun h e => ?_)
      · have e : chkG n l = 1 := by simp [chkG, h1, h2, h]
        simp only [↓sxc, sx, se, ↓reduceIte, Nat.reduceEqDiff, Nat.reduceAdd, Nat.reduceLT, Nat.reduceLeDiff, Nat.reduceSub, Nat.reduceMul, Int.reduceToNat, Int.reduceLT, Int.reduceLE, Int.reduceEq, ml_i0, ↓smc, sm, e]
      · have e : chkG n l = 0 := by simp only [chkG, h]; simp; omega
        simp only [↓sxc, sx, se, ↓reduceIte, Nat.reduceEqDiff, Nat.reduceAdd, Nat.reduceLT, Nat.reduceLeDiff, Nat.reduceSub, Nat.reduceMul, Int.reduceToNat, Int.reduceLT, Int.reduceLE, Int.reduceEq, ml_i0, ↓smc, sm, e]

theorem sp108 {F : Nat → Option Fn} (hG : HasG F) {lo : Nat} {m : Mem} (n : Int) (l : List Edge) (hl : l.length < 1000000) : callw F 108 [vi n, vEdges l] lo m = some (vi (chkG n l), m) := by
  have loop : ∀ (t : List Edge) (i : Nat) (Q : Ex → St → Prop), l.drop i = t → (t.any (badN n) = true → Q .ret ⟨[(4, vi 1)], [], [], m⟩) → (t.any (badN n) = false → ∀ e, Q (.exit 0) ⟨e, [], [], m⟩) →
      W F m.next L108_1 ⟨[(0, vi n), (1, vEdges l), (5, vi i)], [], [], m⟩ Q := by
    intro t
    induction t with
    | nil =>
      intro i Q hd q1 q2
      have hlt := drop_nil hd
      rw [W_L (c := L108_1) rfl]
      have : ¬ ((i : Nat) : Int) < (l.length : Int) := by omega
      simp only [↓sxc, sx, se, ↓reduceIte, Nat.reduceEqDiff, Nat.reduceAdd, Nat.reduceLT, Nat.reduceLeDiff, Nat.reduceSub, Nat.reduceMul, Int.reduceToNat, Int.reduceLT, Int.reduceLE, Int.reduceEq, ml_i0, ↓smc, sm, this]
      exact q2 rfl _
    | cons x t ih =>
      intro i Q hd q1 q2
      obtain ⟨hg, hd', hlt⟩ := drop_cons hd
      rw [W_L (c := L108_1) rfl]
      have : ((i : Nat) : Int) < (l.length : Int) := by omega
      have wr : wrapF .i64 ((i : Int) + 1) = ((i + 1 : Nat) : Int) := by rw [wr_i64 (by omega) (by omega)]; rfl
      by_cases e1 : x.fr < 0
      · simp only [↓sxc, sx, se, ↓reduceIte, Nat.reduceEqDiff, Nat.reduceAdd, Nat.reduceLT, Nat.reduceLeDiff, Nat.reduceSub, Nat.reduceMul, Int.reduceToNat, Int.reduceLT, Int.reduceLE, Int.reduceEq, ml_i0, ↓smc, sm, this, hg, e1]
        exact q1 (by simp [badN, e1])
      · by_cases e2 : n ≤ x.fr
        · simp only [↓sxc, sx, se, ↓reduceIte, Nat.reduceEqDiff, Nat.reduceAdd, Nat.reduceLT, Nat.reduceLeDiff, Nat.reduceSub, Nat.reduceMul, Int.reduceToNat, Int.reduceLT, Int.reduceLE, Int.reduceEq, ml_i0, ↓smc, sm, this, hg, e1, e2]
          exact q1 (by simp [badN, e2])
        · by_cases e3 : x.to < 0
          · simp only [↓sxc, sx, se, ↓reduceIte, Nat.reduceEqDiff, Nat.reduceAdd, Nat.reduceLT, Nat.reduceLeDiff, Nat.reduceSub, Nat.reduceMul, Int.reduceToNat, Int.reduceLT, Int.reduceLE, Int.reduceEq, ml_i0, ↓smc, sm, this, hg, e1, e2, e3]
            exact q1 (by simp [badN, e3])
          · by_cases e4 : n ≤ x.to
            · simp only [↓sxc, sx, se, ↓reduceIte, Nat.reduceEqDiff, Nat.reduceAdd, Nat.reduceLT, Nat.reduceLeDiff, Nat.reduceSub, Nat.reduceMul, Int.reduceToNat, Int.reduceLT, Int.reduceLE, Int.reduceEq, ml_i0, ↓smc, sm, this, hg, e1, e2, e3, e4]
              exact q1 (by simp [badN, e4])
            · have e : (x :: t).any (badN n) = t.any (badN n) := by simp [badN, e1, e2, e3, e4]
              rw [e] at q1 q2
              simp only [↓sxc, sx, se, ↓reduceIte, Nat.reduceEqDiff, Nat.reduceAdd, Nat.reduceLT, Nat.reduceLeDiff, Nat.reduceSub, Nat.reduceMul, Int.reduceToNat, Int.reduceLT, Int.reduceLE, Int.reduceEq, ml_i0, ↓smc, sm, this, hg, e1, e2, e3, e4, wr]
              exact ih (i + 1) Q hd' q1 q2
  refine call_p hG.h108 rfl ?_
  by_cases h1 : n < 0
  · have e : chkG n l = 2 := by simp [chkG, h1]
    simp only [↓sxc, sx, se, ↓reduceIte, Nat.reduceEqDiff, Nat.reduceAdd, Nat.reduceLT, Nat.reduceLeDiff, Nat.reduceSub, Nat.reduceMul, Int.reduceToNat, Int.reduceLT, Int.reduceLE, Int.reduceEq, ml_i0, ↓smc, sm, h1, e]
  · by_cases h2 : 4096 < n
    · have e : chkG n l = 2 := by simp [chkG, h2]
      simp only [↓sxc, sx, se, ↓reduceIte, Nat.reduceEqDiff, Nat.reduceAdd, Nat.reduceLT, Nat.reduceLeDiff, Nat.reduceSub, Nat.reduceMul, Int.reduceToNat, Int.reduceLT, Int.reduceLE, Int.reduceEq, ml_i0, ↓smc, sm, h1, h2, e]
    · simp only [↓sxc, sx, se, ↓reduceIte, Nat.reduceEqDiff, Nat.reduceAdd, Nat.reduceLT, Nat.reduceLeDiff, Nat.reduceSub, Nat.reduceMul, Int.reduceToNat, Int.reduceLT, Int.reduceLE, Int.reduceEq, ml_i0, ↓smc, sm, h1, h2]
      refine loop l 0 _ rfl (fun h => ?_) (fun h e => ?_)
      · have e : chkG n l = 1 := by simp [chkG, h1, h2, h]
        simp only [↓sxc, sx, se, ↓reduceIte, Nat.reduceEqDiff, Nat.reduceAdd, Nat.reduceLT, Nat.reduceLeDiff, Nat.reduceSub, Nat.reduceMul, Int.reduceToNat, Int.reduceLT, Int.reduceLE, Int.reduceEq, ml_i0, ↓smc, sm, e]
      · have e : chkG n l = 0 := by simp only [chkG, h]; simp; omega
        simp only [↓sxc, sx, se, ↓reduceIte, Nat.reduceEqDiff, Nat.reduceAdd, Nat.reduceLT, Nat.reduceLeDiff, Nat.reduceSub, Nat.reduceMul, Int.reduceToNat, Int.reduceLT, Int.reduceLE, Int.reduceEq, ml_i0, ↓smc, sm, e]

/-- A graph whose edges are in range. -/
structure Gr (n : Int) (l : List Edge) : Prop where
  n0 : 0 ≤ n
  n4 : n ≤ 4096
  e : ∀ e ∈ l, ∃ a b : Nat, e.fr = a ∧ e.to = b ∧ (a : Int) < n ∧ (b : Int) < n
theorem gr_of {n : Int} {l : List Edge} (h : chkG n l = 0) : Gr n l := by
  unfold chkG at h
  split at h
  · omega
  · rename_i h1
    split at h
    · omega
    · rename_i h2
      refine ⟨by omega, by omega, fun e he => ?_⟩
      have h3 : l.any (badN n) = false := by simpa using h2
      have := List.any_eq_false.1 h3 e he
      simp [badN] at this
      exact ⟨e.fr.toNat, e.to.toNat, by omega, by omega, by omega, by omega⟩

/-! ### Rows of rows -/
def hOf : V → Option Nat
  | .row _ h _ _ => some h
  | _ => none

/-- A row at handle h of slices that are built by append: they show these lists; none of their blocks is h or q. -/
structure NestB (lo : Nat) (m : Mem) (h q : Nat) (E : List (List Int)) (es : List V) : Prop where
  lh : lo ≤ h
  hm : h < m.next
  bh : m.blk h = some (.row 1 es)
  ln : es.length = E.length
  rw : ∀ (i : Nat) (v : V) (L : List Int), es[i]? = some v → E[i]? = some L → Rw lo m 1 v (L.map vi)
  ap : ∀ (i j : Nat) (v w : V) (k : Nat), es[i]? = some v → es[j]? = some w → hOf v = some k → hOf w = some k → i = j
  ne : ∀ (i : Nat) (v : V) (k : Nat), es[i]? = some v → hOf v = some k → k ≠ h ∧ k ≠ q

theorem NestB.mono {lo h q : Nat} {m m' : Mem} {E : List (List Int)} {es : List V} (H : NestB lo m h q E es) (hn : m.next ≤ m'.next) (hb : ∀ k, k ≠ q → k < m.next → m'.blk k = m.blk k) (hq : h ≠ q) : NestB lo m' h q E es := by
  refine ⟨H.lh, Nat.lt_of_lt_of_le H.hm hn, by rw [hb h hq H.hm]; exact H.bh, H.ln, fun i v L h1 h2 => (H.rw i v L h1 h2).mono hn (fun k l hk => ?_), H.ap, H.ne⟩
  subst hk
  have h3 := (H.ne i _ k h1 rfl).2
  rcases H.rw i _ L h1 h2 with ⟨h4, _⟩ | ⟨k2, h4, _, h5, _⟩
  · cases h4
  · cases h4
    exact hb k h3 h5

theorem Rw.hand {lo sz : Nat} {m : Mem} {v : V} {xs : List V} (h : Rw lo m sz v xs) {k : Nat} (hk : hOf v = some k) : v = .row sz k 0 xs.length ∧ lo ≤ k ∧ k < m.next ∧ m.blk k = some (.row sz xs) := by
  rcases h with ⟨rfl, _⟩ | ⟨k2, rfl, h1, h2, h3⟩
  · cases hk
  · cases hk
    exact ⟨rfl, h1, h2, h3⟩
theorem Rw.hOf_none {lo sz : Nat} {m : Mem} {v : V} {xs : List V} (h : Rw lo m sz v xs) (hk : hOf v = none) : v = .nil ∧ xs = [] := by
  rcases h with h | ⟨k2, rfl, _⟩
  · exact h
  · cases hk

theorem NestB.push {lo h q : Nat} {m : Mem} {E : List (List Int)} {es : List V} (H : NestB lo m h q E es) (c hN : Nat) (h1 : m.next ≤ hN) (h2 : hN < m.next + c) (hlo : lo ≤ m.next) (hq : q < m.next) {i : Nat} {L : List Int} (hE : E[i]? = some L) (hL : L.length < 1000000) (x : Int) :
    ∃ v v' m2, es[i]? = some v ∧ v.cells[0]? = some v ∧ apV lo hN (m.bump c) 1 v (.lst false 1 [vi x]) = some (v', m2) ∧ setC 0 1 v' v = some v' ∧ m2.blk h = some (.row 1 es) ∧ m2.next = m.next + c ∧ (∀ k, hOf v ≠ some k → k ≠ hN → m2.blk k = m.blk k) ∧ m2.blk q = m.blk q ∧ NestB lo (m2.set h (some (.row 1 (es.set i v')))) h q (E.set i (L ++ [x])) (es.set i v') := by
  have hi : i < E.length := (List.getElem?_eq_some_iff.1 hE).1
  have hv : es[i]? = some (es[i]'(by rw [H.ln]; exact hi)) := List.getElem?_eq_getElem _
  generalize es[i]'(by rw [H.ln]; exact hi) = v at hv
  have hr := H.rw i v L hv hE
  have hm := H.hm
  have fin : ∀ m2 : Mem, m2.next = m.next + c → m2.blk hN = some (.row 1 ((L ++ [x]).map vi)) → (∀ k, hOf v ≠ some k → k ≠ hN → m2.blk k = m.blk k) →
      NestB lo (m2.set h (some (.row 1 (es.set i (.row 1 hN 0 (L ++ [x]).length))))) h q (E.set i (L ++ [x])) (es.set i (.row 1 hN 0 (L ++ [x]).length)) := by
    intro m2 n2 b1 b2
    refine ⟨H.lh, by show h < m2.next; omega, by simp [Mem.set], by simp [H.ln], fun j w M hj hM => ?_, fun j k w z hk hj hk' e1 e2 => ?_, fun j w k hj hk => ?_⟩
    · by_cases hij : j = i
      · subst hij
        rw [List.getElem?_set_self (by rw [H.ln]; exact hi)] at hj
        rw [List.getElem?_set_self hi] at hM
        cases hj
        cases hM
        refine .inr ⟨hN, by simp, by omega, by show hN < m2.next; omega, ?_⟩
        rw [set_ne (by omega)]
        exact b1
      · rw [List.getElem?_set_ne (Ne.symm hij)] at hj hM
        refine (H.rw j w M hj hM).mono (by show m.next ≤ m2.next; omega) (fun k l hk => ?_)
        subst hk
        have h3 := (H.ne j _ k hj rfl).1
        rw [set_ne h3]
        obtain ⟨_, _, h4, _⟩ := (H.rw j _ M hj hM).hand (k := k) rfl
        exact b2 k (fun hc => hij (H.ap j i _ _ k hj hv rfl hc)) (by omega)
    · have lt : ∀ (j : Nat) (w : V) (k : Nat), j ≠ i → es[j]? = some w → hOf w = some k → k < m.next := by
        intro j w k _ hj hk
        have hjl := (List.getElem?_eq_some_iff.1 hj).1
        exact ((H.rw j w _ hj (List.getElem?_eq_getElem (by rw [← H.ln]; exact hjl))).hand hk).2.2.1
      by_cases hji : j = i
      · by_cases hki : k = i
        · rw [hji, hki]
        · subst hji
          rw [List.getElem?_set_self (by rw [H.ln]; exact hi)] at hj
          rw [List.getElem?_set_ne (Ne.symm hki)] at hk'
          cases hj
          cases e1
          have := lt k z hN hki hk' e2
          omega
      · by_cases hki : k = i
        · subst hki
          rw [List.getElem?_set_self (by rw [H.ln]; exact hi)] at hk'
          rw [List.getElem?_set_ne (Ne.symm hji)] at hj
          cases hk'
          cases e2
          have := lt j w hN hji hj e1
          omega
        · rw [List.getElem?_set_ne (Ne.symm hji)] at hj
          rw [List.getElem?_set_ne (Ne.symm hki)] at hk'
          exact H.ap j k w z hk hj hk' e1 e2
    · by_cases hji : j = i
      · subst hji
        rw [List.getElem?_set_self (by rw [H.ln]; exact hi)] at hj
        cases hj
        cases hk
        exact ⟨by omega, by omega⟩
      · rw [List.getElem?_set_ne (Ne.symm hji)] at hj
        exact H.ne j w k hj hk
  cases hh : hOf v with
  | none =>
    obtain ⟨rfl, h3⟩ := hr.hOf_none hh
    have hL0 : L = [] := by simpa using h3
    subst hL0
    have hb : ([vi x] : List V).length < big := by simp [big]
    refine ⟨.nil, .row 1 hN 0 1, (m.bump c).set hN (some (.row 1 [vi x])), hv, rfl, ap_nil vw_lst rfl hb, rfl, ?_, rfl, fun k _ hk => set_ne hk, ?_, ?_⟩
    · rw [set_ne (by omega)]
      exact H.bh
    · rw [set_ne (by omega)]
      rfl
    · exact fin ((m.bump c).set hN (some (.row 1 [vi x]))) rfl (by simp [Mem.set]) (fun k _ hk => set_ne hk)
  | some k =>
    obtain ⟨rfl, h3, h4, h5⟩ := hr.hand hh
    have hne := H.ne i _ k hv rfl
    have h6 : (m.bump c).blk k = some (.row 1 (L.map vi)) := h5
    have ha := ap_row (m := m.bump c) (lo := lo) (h := hN) (h' := k) (o := 0) (l := (L.map vi).length) (sz := 1) (s := 1) (y := .lst false 1 [vi x]) (xs := [vi x]) (es := L.map vi) vw_lst h3 (.inl rfl) (by simp [big]; omega) h6 (by simp)
    have e1 : (List.take (L.map vi).length (List.drop 0 (L.map vi)) ++ [vi x]) = (L ++ [x]).map vi := by rw [List.drop_zero, List.take_of_length_le (Nat.le_refl _), List.map_append]; rfl
    have e2 : (L.map vi).length + [vi x].length = (L ++ [x]).length := by simp
    rw [e1, e2] at ha
    have hbl : ∀ j, hOf (V.row 1 k 0 (L.map vi).length) ≠ some j → j ≠ hN → (((m.bump c).set k none).set hN (some (.row 1 ((L ++ [x]).map vi)))).blk j = m.blk j := fun j hj1 hj2 => by
      rw [set_ne hj2, set_ne (fun hc => hj1 (by rw [hc]; rfl))]
      rfl
    refine ⟨_, .row 1 hN 0 (L ++ [x]).length, ((m.bump c).set k none).set hN (some (.row 1 ((L ++ [x]).map vi))), hv, rfl, ha, rfl, ?_, rfl, hbl, ?_, ?_⟩
    · rw [hbl h (fun hc => hne.1 (Option.some.inj hc)) (by omega)]
      exact H.bh
    · exact hbl q (fun hc => hne.2 (Option.some.inj hc)) (by omega)
    · exact fin _ rfl (by simp [Mem.set]) hbl

theorem pk_nest {t a : Nat} {v y : V} : keysApart [Key.bx t] (Key.h a :: (v.key ++ y.key)) = true := by
  simp only [keysApart, List.all_cons, List.all_nil, List.all_append, Bool.and_true]
  cases v <;> cases y <;> rfl
theorem key_bx {t : Nat} (v : V) : (v.key.all fun b => (Key.bx t).apart b) = true := by cases v <;> rfl

end Go.Am
