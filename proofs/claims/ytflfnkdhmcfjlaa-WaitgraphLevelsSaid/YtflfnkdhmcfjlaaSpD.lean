/- The reference's class and Check. -/
import Derived.Test.YtflfnkdhmcfjlaaSpC
namespace Go.Am
open Go
set_option linter.unusedSimpArgs false
set_option linter.unusedVariables false
set_option maxRecDepth 100000

theorem stepE_cnt {s : Sys} {x : Stp} {b0 b1 : Int} (h : stepE s x b0 b1 = 0) (hp : ∀ p ∈ s.pools, p.size ≤ 1000) : -1000 ≤ x.cnt ∧ x.cnt ≤ 1000 := by
  have hs : sizeAt s x.on ≤ 1000 := by
    unfold sizeAt
    split
    · rename_i p hp'; exact hp p (List.mem_of_getElem? hp')
    · omega
  have h0 : preE s x = 0 := by
    unfold stepE at h
    split at h
    · exact h
    · rename_i h1; simpa using h1
  unfold preE at h0
  split at h0
  · omega
  · rename_i h1
    split at h0
    · omega
    · split at h0
      · omega
      · rename_i h2
        by_cases ht : x.kind = 1 ∨ x.kind = 2
        · have : ¬ (x.cnt < 1 ∨ sizeAt s x.on < x.cnt) := fun h => h2 ⟨ht, h⟩
          omega
        · have : x.cnt = 0 := by
            apply Classical.byContradiction
            intro hc
            exact h1 (.inr (.inr (.inl ⟨ht, hc⟩)))
          omega

def stepsE (s : Sys) (pre : List Stp) : List Stp → Int
  | [] => 0
  | x :: t => if stepE s x (bal x.on 0 pre) (bal x.on 1 pre) ≠ 0 then stepE s x (bal x.on 0 pre) (bal x.on 1 pre) else stepsE s (pre ++ [x]) t
def over (l : List Stp) (kind : Int) (n : Nat) : Bool := (List.range n).any fun i => decide (0 < bal i kind l)
def clsE (s : Sys) (c : Cls) : Int :=
  if c.wk < 0 ∨ 4 < c.wk then 2 else if c.steps.length < 1 ∨ 12 < c.steps.length then 9
  else if stepsE s [] c.steps ≠ 0 then stepsE s [] c.steps
  else if over c.steps 0 s.pools.length = true then 11 else if over c.steps 1 s.locks.length = true then 11 else 0

theorem stepsE_cnt {s : Sys} (hp : ∀ p ∈ s.pools, p.size ≤ 1000) : ∀ {t pre : List Stp}, stepsE s pre t = 0 → ∀ x ∈ t, -1000 ≤ x.cnt ∧ x.cnt ≤ 1000
  | [], pre, _, x, hx => by simp at hx
  | y :: t, pre, h, x, hx => by
    unfold stepsE at h
    split at h
    · rename_i h1; exact absurd h h1
    · rename_i h1
      rcases List.mem_cons.1 hx with rfl | hx
      · exact stepE_cnt (by simpa using h1) hp
      · exact stepsE_cnt hp h x hx

theorem take_succ_drop {α : Type} {l : List α} {i : Nat} {x : α} {t : List α} (h : l.drop i = x :: t) : l.take (i + 1) = l.take i ++ [x] := by
  obtain ⟨hg, _, hlt⟩ := drop_cons h
  rw [List.take_add_one, hg]
  rfl

theorem range_any_drop {p : Nat → Bool} {n : Nat} : (List.range n).any p = (List.range' 0 n).any p := by rw [List.range_eq_range']

theorem sp147 {F : Nat → Option Fn} (hA : HasA F) {lo : Nat} {m : Mem} (s : Sys) (c : Cls) (hp : ∀ p ∈ s.pools, p.size ≤ 1000) (h1 : s.pools.length < 100) (h2 : s.locks.length < 100) : callw F 147 [vSys s, vCls c] lo m = some (vi (clsE s c), m) := by
  have loop1 : c.steps.length < 100 → ∀ (t : List Stp) (i : Nat) (Q : Ex → St → Prop), c.steps.drop i = t → (∀ x ∈ c.steps.take i, -1000 ≤ x.cnt ∧ x.cnt ≤ 1000) →
      (stepsE s (c.steps.take i) t ≠ 0 → Q .ret ⟨[(4, vi (stepsE s (c.steps.take i) t))], [], [], m⟩) →
      (stepsE s (c.steps.take i) t = 0 → ∀ e, Q (.exit 0) ⟨(5, vi c.steps.length) :: e, [(2, vSys s), (3, vCls c)], [], m⟩) →
      W F m.next L147_1 ⟨[(5, vi c.steps.length), (6, vi i)], [(2, vSys s), (3, vCls c)], [], m⟩ Q := by
    intro hlen t
    induction t with
    | nil =>
      intro i Q hd hb h1 h2
      have hlt := drop_nil hd
      rw [W_L (c := L147_1) rfl]
      have : ¬ ((i : Nat) : Int) < (c.steps.length : Int) := by omega
      simp only [↓sxc, sx, se, ↓reduceIte, Nat.reduceEqDiff, Nat.reduceAdd, Nat.reduceLT, Nat.reduceLeDiff, Nat.reduceSub, Nat.reduceMul, Int.reduceToNat, Int.reduceLT, Int.reduceLE, Int.reduceEq, ml_i0, this]
      exact h2 rfl _
    | cons x t ih =>
      intro i Q hd hb h1 h2
      obtain ⟨hg, hd', hlt⟩ := drop_cons hd
      rw [W_L (c := L147_1) rfl]
      have : ((i : Nat) : Int) < (c.steps.length : Int) := by omega
      have wr : wrapF .i64 ((i : Int) + 1) = ((i + 1 : Nat) : Int) := by rw [wr_i64 (by omega) (by omega)]; rfl
      have hc : ∀ {lo m}, callw F 163 [vSys s, vStps c.steps, vi i] lo m = some (vi (stepE s x (bal x.on 0 (c.steps.take i)) (bal x.on 1 (c.steps.take i))), m) := fun {lo m} => sp163 hA s c.steps i x hg (by omega) hb hp
      unfold stepsE at h1 h2
      by_cases he : stepE s x (bal x.on 0 (c.steps.take i)) (bal x.on 1 (c.steps.take i)) = 0
      · rw [if_neg (by simpa using he)] at h1 h2
        simp only [↓sxc, sx, se, ↓reduceIte, Nat.reduceEqDiff, Nat.reduceAdd, Nat.reduceLT, Nat.reduceLeDiff, Nat.reduceSub, Nat.reduceMul, Int.reduceToNat, Int.reduceLT, Int.reduceLE, Int.reduceEq, ml_i0, this, hc, he, wr]
        rw [← take_succ_drop hd] at h1 h2
        refine ih (i + 1) Q hd' (fun y hy => ?_) h1 h2
        rw [take_succ_drop hd] at hy
        rcases List.mem_append.1 hy with hy | hy
        · exact hb y hy
        · simp at hy
          subst hy
          exact stepE_cnt he hp
      · rw [if_pos he] at h1
        simp only [↓sxc, sx, se, ↓reduceIte, Nat.reduceEqDiff, Nat.reduceAdd, Nat.reduceLT, Nat.reduceLeDiff, Nat.reduceSub, Nat.reduceMul, Int.reduceToNat, Int.reduceLT, Int.reduceLE, Int.reduceEq, ml_i0, this, hc, he]
        exact h1 he
  have loop2 : c.steps.length < 100 → (∀ x ∈ c.steps, -1000 ≤ x.cnt ∧ x.cnt ≤ 1000) → ∀ (k i : Nat) (Q : Ex → St → Prop), i + k = s.pools.length →
      ((List.range' i k).any (fun i => decide (0 < bal i 0 c.steps)) = true → Q .ret ⟨[(4, vi 11)], [], [], m⟩) →
      ((List.range' i k).any (fun i => decide (0 < bal i 0 c.steps)) = false → ∀ e, Q (.exit 2) ⟨(5, vi c.steps.length) :: e, [(2, vSys s), (3, vCls c)], [], m⟩) →
      W F m.next L147_2 ⟨[(5, vi c.steps.length), (8, vi i)], [(2, vSys s), (3, vCls c)], [], m⟩ Q := by
    intro hlen hb k
    induction k with
    | zero =>
      intro i Q hi q1 q2
      rw [W_L (c := L147_2) rfl]
      have : ¬ ((i : Nat) : Int) < (s.pools.length : Int) := by omega
      simp only [↓sxc, sx, se, ↓reduceIte, Nat.reduceEqDiff, Nat.reduceAdd, Nat.reduceLT, Nat.reduceLeDiff, Nat.reduceSub, Nat.reduceMul, Int.reduceToNat, Int.reduceLT, Int.reduceLE, Int.reduceEq, ml_i0, this]
      exact q2 rfl _
    | succ k ih =>
      intro i Q hi q1 q2
      rw [W_L (c := L147_2) rfl]
      have : ((i : Nat) : Int) < (s.pools.length : Int) := by omega
      have wr : wrapF .i64 ((i : Int) + 1) = ((i + 1 : Nat) : Int) := by rw [wr_i64 (by omega) (by omega)]; rfl
      have hc : ∀ {lo m}, callw F 164 [vStps c.steps, vi c.steps.length, vi i, vi 0] lo m = some (vi (bal i 0 c.steps), m) := fun {lo m} => by
        have := sp164 hA (lo := lo) (m := m) c.steps c.steps.length i 0 (Nat.le_refl _) (by omega) (by rw [List.take_length]; exact hb)
        rw [List.take_length] at this
        exact this
      rw [List.range'_succ, List.any_cons] at q1 q2
      by_cases he : 0 < bal i 0 c.steps
      · simp only [↓sxc, sx, se, ↓reduceIte, Nat.reduceEqDiff, Nat.reduceAdd, Nat.reduceLT, Nat.reduceLeDiff, Nat.reduceSub, Nat.reduceMul, Int.reduceToNat, Int.reduceLT, Int.reduceLE, Int.reduceEq, ml_i0, this, hc, he]
        exact q1 (by simp [he])
      · simp only [he, decide_false, Bool.false_or] at q1 q2
        simp only [↓sxc, sx, se, ↓reduceIte, Nat.reduceEqDiff, Nat.reduceAdd, Nat.reduceLT, Nat.reduceLeDiff, Nat.reduceSub, Nat.reduceMul, Int.reduceToNat, Int.reduceLT, Int.reduceLE, Int.reduceEq, ml_i0, this, hc, he, wr]
        exact ih (i + 1) Q (by omega) q1 q2
  have loop3 : c.steps.length < 100 → (∀ x ∈ c.steps, -1000 ≤ x.cnt ∧ x.cnt ≤ 1000) → ∀ (k i : Nat) (Q : Ex → St → Prop), i + k = s.locks.length →
      ((List.range' i k).any (fun i => decide (0 < bal i 1 c.steps)) = true → Q .ret ⟨[(4, vi 11)], [], [], m⟩) →
      ((List.range' i k).any (fun i => decide (0 < bal i 1 c.steps)) = false → ∀ e, Q (.exit 4) ⟨(5, vi c.steps.length) :: e, [(2, vSys s), (3, vCls c)], [], m⟩) →
      W F m.next L147_3 ⟨[(5, vi c.steps.length), (9, vi i)], [(2, vSys s), (3, vCls c)], [], m⟩ Q := by
    intro hlen hb k
    induction k with
    | zero =>
      intro i Q hi q1 q2
      rw [W_L (c := L147_3) rfl]
      have : ¬ ((i : Nat) : Int) < (s.locks.length : Int) := by omega
      simp only [↓sxc, sx, se, ↓reduceIte, Nat.reduceEqDiff, Nat.reduceAdd, Nat.reduceLT, Nat.reduceLeDiff, Nat.reduceSub, Nat.reduceMul, Int.reduceToNat, Int.reduceLT, Int.reduceLE, Int.reduceEq, ml_i0, this]
      exact q2 rfl _
    | succ k ih =>
      intro i Q hi q1 q2
      rw [W_L (c := L147_3) rfl]
      have : ((i : Nat) : Int) < (s.locks.length : Int) := by omega
      have wr : wrapF .i64 ((i : Int) + 1) = ((i + 1 : Nat) : Int) := by rw [wr_i64 (by omega) (by omega)]; rfl
      have hc : ∀ {lo m}, callw F 164 [vStps c.steps, vi c.steps.length, vi i, vi 1] lo m = some (vi (bal i 1 c.steps), m) := fun {lo m} => by
        have := sp164 hA (lo := lo) (m := m) c.steps c.steps.length i 1 (Nat.le_refl _) (by omega) (by rw [List.take_length]; exact hb)
        rw [List.take_length] at this
        exact this
      rw [List.range'_succ, List.any_cons] at q1 q2
      by_cases he : 0 < bal i 1 c.steps
      · simp only [↓sxc, sx, se, ↓reduceIte, Nat.reduceEqDiff, Nat.reduceAdd, Nat.reduceLT, Nat.reduceLeDiff, Nat.reduceSub, Nat.reduceMul, Int.reduceToNat, Int.reduceLT, Int.reduceLE, Int.reduceEq, ml_i0, this, hc, he]
        exact q1 (by simp [he])
      · simp only [he, decide_false, Bool.false_or] at q1 q2
        simp only [↓sxc, sx, se, ↓reduceIte, Nat.reduceEqDiff, Nat.reduceAdd, Nat.reduceLT, Nat.reduceLeDiff, Nat.reduceSub, Nat.reduceMul, Int.reduceToNat, Int.reduceLT, Int.reduceLE, Int.reduceEq, ml_i0, this, hc, he, wr]
        exact ih (i + 1) Q (by omega) q1 q2
  refine call_p hA.h147 rfl ?_
  by_cases w1 : c.wk < 0
  · have e : clsE s c = 2 := by simp [clsE, w1]
    simp only [↓sxc, sx, se, ↓reduceIte, Nat.reduceEqDiff, Nat.reduceAdd, Nat.reduceLT, Nat.reduceLeDiff, Nat.reduceSub, Nat.reduceMul, Int.reduceToNat, Int.reduceLT, Int.reduceLE, Int.reduceEq, ml_i0, w1, e]
  · by_cases w2 : 4 < c.wk
    · have e : clsE s c = 2 := by simp [clsE, w2]
      simp only [↓sxc, sx, se, ↓reduceIte, Nat.reduceEqDiff, Nat.reduceAdd, Nat.reduceLT, Nat.reduceLeDiff, Nat.reduceSub, Nat.reduceMul, Int.reduceToNat, Int.reduceLT, Int.reduceLE, Int.reduceEq, ml_i0, w1, w2, e]
    · by_cases l1 : (c.steps.length : Int) < 1
      · have e : clsE s c = 9 := by
          have : c.steps.length < 1 := by omega
          simp only [clsE, w1, w2, or_self, if_false, this, true_or, if_true]
        simp only [↓sxc, sx, se, ↓reduceIte, Nat.reduceEqDiff, Nat.reduceAdd, Nat.reduceLT, Nat.reduceLeDiff, Nat.reduceSub, Nat.reduceMul, Int.reduceToNat, Int.reduceLT, Int.reduceLE, Int.reduceEq, ml_i0, w1, w2, l1, e]
      · by_cases l2 : 12 < (c.steps.length : Int)
        · have e : clsE s c = 9 := by
            have : 12 < c.steps.length := by omega
            simp only [clsE, w1, w2, or_self, if_false, this, or_true, if_true]
          simp only [↓sxc, sx, se, ↓reduceIte, Nat.reduceEqDiff, Nat.reduceAdd, Nat.reduceLT, Nat.reduceLeDiff, Nat.reduceSub, Nat.reduceMul, Int.reduceToNat, Int.reduceLT, Int.reduceLE, Int.reduceEq, ml_i0, w1, w2, l1, l2, e]
        · have hlen : c.steps.length < 100 := by omega
          have e : clsE s c = if stepsE s [] c.steps ≠ 0 then stepsE s [] c.steps else if over c.steps 0 s.pools.length = true then 11 else if over c.steps 1 s.locks.length = true then 11 else 0 := by
            have a1 : ¬ c.steps.length < 1 := by omega
            have a2 : ¬ 12 < c.steps.length := by omega
            simp only [clsE, w1, w2, or_self, if_false, a1, a2]
          simp only [↓sxc, sx, se, ↓reduceIte, Nat.reduceEqDiff, Nat.reduceAdd, Nat.reduceLT, Nat.reduceLeDiff, Nat.reduceSub, Nat.reduceMul, Int.reduceToNat, Int.reduceLT, Int.reduceLE, Int.reduceEq, ml_i0, w1, w2, l1, l2]
          refine loop1 hlen c.steps 0 _ rfl (by simp) (fun h => ?_) (fun h e1 => ?_)
          · rw [if_pos (by simpa using h)] at e
            simp only [↓sxc, sx, se, ↓reduceIte, Nat.reduceEqDiff, Nat.reduceAdd, Nat.reduceLT, Nat.reduceLeDiff, Nat.reduceSub, Nat.reduceMul, Int.reduceToNat, Int.reduceLT, Int.reduceLE, Int.reduceEq, ml_i0, e]
          · rw [if_neg (by simpa using h)] at e
            have hb := stepsE_cnt hp h
            simp only [↓sxc, sx, se, ↓reduceIte, Nat.reduceEqDiff, Nat.reduceAdd, Nat.reduceLT, Nat.reduceLeDiff, Nat.reduceSub, Nat.reduceMul, Int.reduceToNat, Int.reduceLT, Int.reduceLE, Int.reduceEq, ml_i0]
            refine loop2 hlen hb s.pools.length 0 _ (Nat.zero_add _) (fun h3 => ?_) (fun h3 e2 => ?_)
            · rw [← List.range_eq_range'] at h3
              rw [if_pos (show over c.steps 0 s.pools.length = true from h3)] at e
              simp only [↓sxc, sx, se, ↓reduceIte, Nat.reduceEqDiff, Nat.reduceAdd, Nat.reduceLT, Nat.reduceLeDiff, Nat.reduceSub, Nat.reduceMul, Int.reduceToNat, Int.reduceLT, Int.reduceLE, Int.reduceEq, ml_i0, e]
            · rw [← List.range_eq_range'] at h3
              rw [if_neg (show ¬ over c.steps 0 s.pools.length = true from by rw [show over c.steps 0 s.pools.length = false from h3]; simp)] at e
              simp only [↓sxc, sx, se, ↓reduceIte, Nat.reduceEqDiff, Nat.reduceAdd, Nat.reduceLT, Nat.reduceLeDiff, Nat.reduceSub, Nat.reduceMul, Int.reduceToNat, Int.reduceLT, Int.reduceLE, Int.reduceEq, ml_i0]
              refine loop3 hlen hb s.locks.length 0 _ (Nat.zero_add _) (fun h4 => ?_) (fun h4 e2 => ?_)
              · rw [← List.range_eq_range'] at h4
                rw [if_pos (show over c.steps 1 s.locks.length = true from h4)] at e
                simp only [↓sxc, sx, se, ↓reduceIte, Nat.reduceEqDiff, Nat.reduceAdd, Nat.reduceLT, Nat.reduceLeDiff, Nat.reduceSub, Nat.reduceMul, Int.reduceToNat, Int.reduceLT, Int.reduceLE, Int.reduceEq, ml_i0, e]
              · rw [← List.range_eq_range'] at h4
                rw [if_neg (show ¬ over c.steps 1 s.locks.length = true from by rw [show over c.steps 1 s.locks.length = false from h4]; simp)] at e
                simp only [↓sxc, sx, se, ↓reduceIte, Nat.reduceEqDiff, Nat.reduceAdd, Nat.reduceLT, Nat.reduceLeDiff, Nat.reduceSub, Nat.reduceMul, Int.reduceToNat, Int.reduceLT, Int.reduceLE, Int.reduceEq, ml_i0, e]

end Go.Am
