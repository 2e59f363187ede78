/- The reference's Check. -/
import Derived.Test.YtflfnkdhmcfjlaaSpD
namespace Go.Am
open Go
set_option linter.unusedSimpArgs false
set_option linter.unusedVariables false
set_option maxRecDepth 100000

def nmE (pre : List (List UInt8)) : List (List UInt8) → Int
  | [] => 0
  | x :: t => if isNm x = false then 3 else if pre.any (fun y => decide (y = x)) = true then 5 else nmE (pre ++ [x]) t
def poolBad (p : Pool) : Bool := decide (p.size < 1) || decide (8 < p.size) || decide (p.res < 0) || decide (p.size < p.res)
def firstE (f : Cls → Int) : List Cls → Int
  | [] => 0
  | c :: t => if f c ≠ 0 then f c else firstE f t
def chkE (s : Sys) : Int :=
  if 6 < s.pools.length ∨ 4 < s.locks.length ∨ 6 < s.cls.length then 9
  else if nmE [] (namesOf s) ≠ 0 then nmE [] (namesOf s)
  else if s.pools.any poolBad = true then 2 else firstE (clsE s) s.cls

theorem names_len {s : Sys} : (namesOf s).length = s.pools.length + s.locks.length + s.cls.length := by simp [namesOf]; omega

theorem sp91 {F : Nat → Option Fn} (hA : HasA F) {lo : Nat} {m : Mem} (s : Sys) : callw F 91 [vSys s] lo m = some (vi (chkE s), m) := by
  have loop1 : ∀ (l : List (List UInt8)), l.length < 100 → ∀ (t : List (List UInt8)) (i : Nat) (Q : Ex → St → Prop), l.drop i = t →
      (nmE (l.take i) t ≠ 0 → Q .ret ⟨[(2, vi (nmE (l.take i) t))], [], [], m⟩) →
      (nmE (l.take i) t = 0 → ∀ e, Q (.exit 0) ⟨(3, strs l) :: e, [(1, vSys s)], [], m⟩) →
      W F m.next L91_1 ⟨[(3, strs l), (4, vi i)], [(1, vSys s)], [], m⟩ Q := by
    intro l hlen t
    induction t with
    | nil =>
      intro i Q hd h1 h2
      have hlt := drop_nil hd
      rw [W_L (c := L91_1) rfl]
      have : ¬ ((i : Nat) : Int) < (l.length : Int) := by omega
      simp only [↓sxc, sx, se, ↓reduceIte, Nat.reduceEqDiff, Nat.reduceAdd, Nat.reduceLT, Nat.reduceLeDiff, Nat.reduceSub, Nat.reduceMul, Int.reduceToNat, Int.reduceLT, Int.reduceLE, Int.reduceEq, ml_i0, this]
      exact h2 rfl _
    | cons x t ih =>
      intro i Q hd h1 h2
      obtain ⟨hg, hd', hlt⟩ := drop_cons hd
      rw [W_L (c := L91_1) rfl]
      have : ((i : Nat) : Int) < (l.length : Int) := by omega
      have wr : wrapF .i64 ((i : Int) + 1) = ((i + 1 : Nat) : Int) := by rw [wr_i64 (by omega) (by omega)]; rfl
      have c1 : ∀ {lo m}, callw F 145 [.str x] lo m = some (.bool (isNm x), m) := fun {lo m} => sp145 hA x
      have c2 : ∀ {lo m}, callw F 146 [strs l, vi i] lo m = some (.bool ((l.take i).any fun y => decide (y = x)), m) := fun {lo m} => sp146 hA l i x hg (by omega)
      unfold nmE at h1 h2
      cases he : isNm x with
      | false =>
        rw [if_pos he] at h1
        simp only [↓sxc, sx, se, ↓reduceIte, Nat.reduceEqDiff, Nat.reduceAdd, Nat.reduceLT, Nat.reduceLeDiff, Nat.reduceSub, Nat.reduceMul, Int.reduceToNat, Int.reduceLT, Int.reduceLE, Int.reduceEq, ml_i0, this, hg, c1, he]
        exact h1 (by omega)
      | true =>
        rw [if_neg (by rw [he]; simp)] at h1 h2
        cases hb : (l.take i).any fun y => decide (y = x) with
        | true =>
          rw [if_pos hb] at h1
          simp only [↓sxc, sx, se, ↓reduceIte, Nat.reduceEqDiff, Nat.reduceAdd, Nat.reduceLT, Nat.reduceLeDiff, Nat.reduceSub, Nat.reduceMul, Int.reduceToNat, Int.reduceLT, Int.reduceLE, Int.reduceEq, ml_i0, this, hg, c1, he, c2, hb]
          exact h1 (by omega)
        | false =>
          rw [if_neg (by rw [hb]; simp)] at h1 h2
          simp only [↓sxc, sx, se, ↓reduceIte, Nat.reduceEqDiff, Nat.reduceAdd, Nat.reduceLT, Nat.reduceLeDiff, Nat.reduceSub, Nat.reduceMul, Int.reduceToNat, Int.reduceLT, Int.reduceLE, Int.reduceEq, ml_i0, this, hg, c1, he, c2, hb, wr]
          rw [← take_succ_drop hd] at h1 h2
          exact ih (i + 1) Q hd' h1 h2
  have loop2 : s.pools.length < 100 → ∀ (t : List Pool) (i : Nat) (Q : Ex → St → Prop), s.pools.drop i = t →
      (t.any poolBad = true → Q .ret ⟨[(2, vi 2)], [], [], m⟩) →
      (t.any poolBad = false → ∀ e, Q (.exit 2) ⟨e, [(1, vSys s)], [], m⟩) →
      W F m.next L91_2 ⟨[(5, vi i)], [(1, vSys s)], [], m⟩ Q := by
    intro hlen t
    induction t with
    | nil =>
      intro i Q hd h1 h2
      have hlt := drop_nil hd
      rw [W_L (c := L91_2) rfl]
      have : ¬ ((i : Nat) : Int) < (s.pools.length : Int) := by omega
      simp only [↓sxc, sx, se, ↓reduceIte, Nat.reduceEqDiff, Nat.reduceAdd, Nat.reduceLT, Nat.reduceLeDiff, Nat.reduceSub, Nat.reduceMul, Int.reduceToNat, Int.reduceLT, Int.reduceLE, Int.reduceEq, ml_i0, this]
      exact h2 rfl _
    | cons x t ih =>
      intro i Q hd h1 h2
      obtain ⟨hg, hd', hlt⟩ := drop_cons hd
      rw [W_L (c := L91_2) rfl]
      have : ((i : Nat) : Int) < (s.pools.length : Int) := by omega
      have wr : wrapF .i64 ((i : Int) + 1) = ((i + 1 : Nat) : Int) := by rw [wr_i64 (by omega) (by omega)]; rfl
      have ih' := ih (i + 1) Q hd'
      rw [List.any_cons] at h1 h2
      by_cases p1 : x.size < 1
      · simp only [↓sxc, sx, se, ↓reduceIte, Nat.reduceEqDiff, Nat.reduceAdd, Nat.reduceLT, Nat.reduceLeDiff, Nat.reduceSub, Nat.reduceMul, Int.reduceToNat, Int.reduceLT, Int.reduceLE, Int.reduceEq, ml_i0, this, hg, p1]
        exact h1 (by simp [poolBad, p1])
      · by_cases p2 : 8 < x.size
        · simp only [↓sxc, sx, se, ↓reduceIte, Nat.reduceEqDiff, Nat.reduceAdd, Nat.reduceLT, Nat.reduceLeDiff, Nat.reduceSub, Nat.reduceMul, Int.reduceToNat, Int.reduceLT, Int.reduceLE, Int.reduceEq, ml_i0, this, hg, p1, p2]
          exact h1 (by simp [poolBad, p2])
        · by_cases p3 : x.res < 0
          · simp only [↓sxc, sx, se, ↓reduceIte, Nat.reduceEqDiff, Nat.reduceAdd, Nat.reduceLT, Nat.reduceLeDiff, Nat.reduceSub, Nat.reduceMul, Int.reduceToNat, Int.reduceLT, Int.reduceLE, Int.reduceEq, ml_i0, this, hg, p1, p2, p3]
            exact h1 (by simp [poolBad, p3])
          · by_cases p4 : x.size < x.res
            · simp only [↓sxc, sx, se, ↓reduceIte, Nat.reduceEqDiff, Nat.reduceAdd, Nat.reduceLT, Nat.reduceLeDiff, Nat.reduceSub, Nat.reduceMul, Int.reduceToNat, Int.reduceLT, Int.reduceLE, Int.reduceEq, ml_i0, this, hg, p1, p2, p3, p4]
              exact h1 (by simp [poolBad, p4])
            · have pb : poolBad x = false := by
                unfold poolBad
                simp only [p1, p2, p3, p4, decide_false, Bool.or_self]
              rw [pb, Bool.false_or] at h1 h2
              simp only [↓sxc, sx, se, ↓reduceIte, Nat.reduceEqDiff, Nat.reduceAdd, Nat.reduceLT, Nat.reduceLeDiff, Nat.reduceSub, Nat.reduceMul, Int.reduceToNat, Int.reduceLT, Int.reduceLE, Int.reduceEq, ml_i0, this, hg, p1, p2, p3, p4, wr]
              exact ih' h1 h2
  have loop3 : s.cls.length < 100 → s.pools.length < 100 → s.locks.length < 100 → (∀ p ∈ s.pools, p.size ≤ 1000) → ∀ (t : List Cls) (i n : Nat) (Q : Ex → St → Prop), s.cls.drop i = t →
      (firstE (clsE s) t ≠ 0 → ∀ n, Q .ret ⟨[(2, vi (firstE (clsE s) t))], [], [], m.bump n⟩) →
      (firstE (clsE s) t = 0 → ∀ n e, Q (.exit 4) ⟨e, [(1, vSys s)], [], m.bump n⟩) →
      W F m.next L91_3 ⟨[(7, vi i)], [(1, vSys s)], [], m.bump n⟩ Q := by
    intro hlen hlp hll hp t
    induction t with
    | nil =>
      intro i n Q hd h1 h2
      have hlt := drop_nil hd
      rw [W_L (c := L91_3) rfl]
      have : ¬ ((i : Nat) : Int) < (s.cls.length : Int) := by omega
      simp only [↓sxc, sx, se, ↓reduceIte, Nat.reduceEqDiff, Nat.reduceAdd, Nat.reduceLT, Nat.reduceLeDiff, Nat.reduceSub, Nat.reduceMul, Int.reduceToNat, Int.reduceLT, Int.reduceLE, Int.reduceEq, ml_i0, this]
      exact h2 rfl _ _
    | cons x t ih =>
      intro i n Q hd h1 h2
      obtain ⟨hg, hd', hlt⟩ := drop_cons hd
      rw [W_L (c := L91_3) rfl]
      have : ((i : Nat) : Int) < (s.cls.length : Int) := by omega
      have wr : wrapF .i64 ((i : Int) + 1) = ((i + 1 : Nat) : Int) := by rw [wr_i64 (by omega) (by omega)]; rfl
      have c1 : ∀ {lo m}, callw F 147 [vSys s, vCls x] lo m = some (vi (clsE s x), m) := fun {lo m} => sp147 hA s x hp hlp hll
      unfold firstE at h1 h2
      by_cases he : clsE s x = 0
      · rw [if_neg (by simpa using he)] at h1 h2
        simp only [↓sxc, sx, se, ↓reduceIte, Nat.reduceEqDiff, Nat.reduceAdd, Nat.reduceLT, Nat.reduceLeDiff, Nat.reduceSub, Nat.reduceMul, Int.reduceToNat, Int.reduceLT, Int.reduceLE, Int.reduceEq, ml_i0, this, hg, c1, he, wr]
        exact ih (i + 1) _ Q hd' h1 h2
      · rw [if_pos he] at h1
        simp only [↓sxc, sx, se, ↓reduceIte, Nat.reduceEqDiff, Nat.reduceAdd, Nat.reduceLT, Nat.reduceLeDiff, Nat.reduceSub, Nat.reduceMul, Int.reduceToNat, Int.reduceLT, Int.reduceLE, Int.reduceEq, ml_i0, this, hg, c1, he]
        exact h1 he _
  refine call_p hA.h91 rfl ?_
  by_cases l1 : 6 < (s.pools.length : Int)
  · have e : chkE s = 9 := by
      have : 6 < s.pools.length := by omega
      simp only [chkE, this, true_or, if_true]
    simp only [↓sxc, sx, se, ↓reduceIte, Nat.reduceEqDiff, Nat.reduceAdd, Nat.reduceLT, Nat.reduceLeDiff, Nat.reduceSub, Nat.reduceMul, Int.reduceToNat, Int.reduceLT, Int.reduceLE, Int.reduceEq, ml_i0, l1, e]
  · by_cases l2 : 4 < (s.locks.length : Int)
    · have e : chkE s = 9 := by
        have : 4 < s.locks.length := by omega
        simp only [chkE, this, true_or, or_true, if_true]
      simp only [↓sxc, sx, se, ↓reduceIte, Nat.reduceEqDiff, Nat.reduceAdd, Nat.reduceLT, Nat.reduceLeDiff, Nat.reduceSub, Nat.reduceMul, Int.reduceToNat, Int.reduceLT, Int.reduceLE, Int.reduceEq, ml_i0, l1, l2, e]
    · by_cases l3 : 6 < (s.cls.length : Int)
      · have e : chkE s = 9 := by
          have : 6 < s.cls.length := by omega
          simp only [chkE, this, or_true, if_true]
        simp only [↓sxc, sx, se, ↓reduceIte, Nat.reduceEqDiff, Nat.reduceAdd, Nat.reduceLT, Nat.reduceLeDiff, Nat.reduceSub, Nat.reduceMul, Int.reduceToNat, Int.reduceLT, Int.reduceLE, Int.reduceEq, ml_i0, l1, l2, l3, e]
      · have e : chkE s = if nmE [] (namesOf s) ≠ 0 then nmE [] (namesOf s) else if s.pools.any poolBad = true then 2 else firstE (clsE s) s.cls := by
          have a1 : ¬ 6 < s.pools.length := by omega
          have a2 : ¬ 4 < s.locks.length := by omega
          have a3 : ¬ 6 < s.cls.length := by omega
          simp only [chkE, a1, a2, a3, or_self, if_false]
        have c0 : ∀ {lo m}, callw F 144 [vSys s] lo m = some (strs (namesOf s), m) := fun {lo m} => sp144 hA s (by omega) (by omega) (by omega)
        simp only [↓sxc, sx, se, ↓reduceIte, Nat.reduceEqDiff, Nat.reduceAdd, Nat.reduceLT, Nat.reduceLeDiff, Nat.reduceSub, Nat.reduceMul, Int.reduceToNat, Int.reduceLT, Int.reduceLE, Int.reduceEq, ml_i0, l1, l2, l3, c0]
        refine loop1 (namesOf s) (by rw [names_len]; omega) (namesOf s) 0 _ rfl (fun h => ?_) (fun h e1 => ?_)
        · rw [if_pos (by simpa using h)] at e
          simp only [↓sxc, sx, se, ↓reduceIte, Nat.reduceEqDiff, Nat.reduceAdd, Nat.reduceLT, Nat.reduceLeDiff, Nat.reduceSub, Nat.reduceMul, Int.reduceToNat, Int.reduceLT, Int.reduceLE, Int.reduceEq, ml_i0, e]
        · rw [if_neg (by simpa using h)] at e
          simp only [↓sxc, sx, se, ↓reduceIte, Nat.reduceEqDiff, Nat.reduceAdd, Nat.reduceLT, Nat.reduceLeDiff, Nat.reduceSub, Nat.reduceMul, Int.reduceToNat, Int.reduceLT, Int.reduceLE, Int.reduceEq, ml_i0]
          refine loop2 (by omega) s.pools 0 _ rfl (fun h => ?_) (fun h e1 => ?_)
          · rw [if_pos h] at e
            simp only [↓sxc, sx, se, ↓reduceIte, Nat.reduceEqDiff, Nat.reduceAdd, Nat.reduceLT, Nat.reduceLeDiff, Nat.reduceSub, Nat.reduceMul, Int.reduceToNat, Int.reduceLT, Int.reduceLE, Int.reduceEq, ml_i0, e]
          · rw [if_neg (by rw [h]; simp)] at e
            simp only [↓sxc, sx, se, ↓reduceIte, Nat.reduceEqDiff, Nat.reduceAdd, Nat.reduceLT, Nat.reduceLeDiff, Nat.reduceSub, Nat.reduceMul, Int.reduceToNat, Int.reduceLT, Int.reduceLE, Int.reduceEq, ml_i0]
            have hp : ∀ p ∈ s.pools, p.size ≤ 1000 := fun p hpm => by
              have := List.any_eq_false.1 h p hpm
              simp [poolBad] at this
              omega
            refine loop3 (by omega) (by omega) (by omega) hp s.cls 0 0 _ rfl (fun h n => ?_) (fun h n e1 => ?_)
            · simp only [↓sxc, sx, se, ↓reduceIte, Nat.reduceEqDiff, Nat.reduceAdd, Nat.reduceLT, Nat.reduceLeDiff, Nat.reduceSub, Nat.reduceMul, Int.reduceToNat, Int.reduceLT, Int.reduceLE, Int.reduceEq, ml_i0, e]
            · rw [h] at e
              simp only [↓sxc, sx, se, ↓reduceIte, Nat.reduceEqDiff, Nat.reduceAdd, Nat.reduceLT, Nat.reduceLeDiff, Nat.reduceSub, Nat.reduceMul, Int.reduceToNat, Int.reduceLT, Int.reduceLE, Int.reduceEq, ml_i0, e]

end Go.Am
