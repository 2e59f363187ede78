/- The reference's holdings. -/
import Derived.Test.YtflfnkdhmcfjlaaSpM
namespace Go.Am
open Go
set_option linter.unusedSimpArgs false
set_option linter.unusedVariables false
set_option maxRecDepth 100000

theorem sp99 {F : Nat → Option Fn} (hA : HasA F) (hB : HasB F) {lo : Nat} {m : Mem} (s : Sys) (h0 : chkE s = 0) (i k : Nat) (c : Cls) (hc : s.cls[i]? = some c) (hk : k ≤ c.steps.length) : callw F 99 [vSys s, vi i, vi k] lo m = some (ints (hold s i c (c.steps.take k)), m) := by
  have hv := valid_of h0
  have p6 := hv.p6
  have l4 := hv.l4
  have c6 := hv.c6
  have hil := (List.getElem?_eq_some_iff.1 hc).1
  have hoc := hv.okC c (List.mem_of_getElem? hc)
  have c1 : ∀ {lo m}, callw F 149 [vSys s, vi i, vi k] lo m = some (.tup [ints (uL s (c.steps.take k)), bools (kL s (c.steps.take k)), vi 0], m) := fun {lo m} => sp149 hA s h0 i k c hc hk
  have c2 : ∀ {lo m} (pool : Int), callw F 93 [vCls c, vi pool, vi k, .bool false] lo m = some (vi (bal pool 0 (c.steps.take k)), m) := fun {lo m} pool => by
    have := sp93 hB (lo := lo) (m := m) c pool k false hoc hk
    rw [this]
    simp [unitsE, ud_bal]
  generalize c.steps.take k = L at *
  have ul : (uL s L).length = s.pools.length := by simp [uL]
  have kl : (kL s L).length = s.locks.length := by simp [kL]
  have loop1 : ∀ (r j : Nat) (v : V) (m' : Mem) (Q : Ex → St → Prop), j + r = s.pools.length → m.next ≤ m'.next → Rw m.next m' 1 v ((held0 L j).map vi) →
      (∀ v m' e, m.next ≤ m'.next → Rw m.next m' 1 v ((held0 L s.pools.length).map vi) → Q (.exit 0) ⟨(1, vi i) :: (2, vi k) :: (7, v) :: e, [(3, vSys s), (8, vCls c)], [], m'⟩) →
      W F m.next L99_1 ⟨[(1, vi i), (2, vi k), (7, v), (9, vi j)], [(3, vSys s), (8, vCls c)], [], m'⟩ Q := by
    intro r
    induction r with
    | zero =>
      intro j v m' Q hi hm hr hq
      rw [W_L (c := L99_1) rfl]
      have : ¬ ((j : Nat) : Int) < (s.pools.length : Int) := by omega
      simp only [↓sxc, sx, se, ↓reduceIte, Nat.reduceEqDiff, Nat.reduceAdd, Nat.reduceLT, Nat.reduceLeDiff, Nat.reduceSub, Nat.reduceMul, Int.reduceToNat, Int.reduceLT, Int.reduceLE, Int.reduceEq, ml_i0, this]
      exact hq v m' _ hm (by rw [← show j = s.pools.length by omega]; exact hr)
    | succ r ih =>
      intro j v m' Q hi hm hr hq
      rw [W_L (c := L99_1) rfl]
      have : ((j : Nat) : Int) < (s.pools.length : Int) := by omega
      have wr : wrapF .i64 ((j : Int) + 1) = ((j + 1 : Nat) : Int) := by rw [wr_i64 (by omega) (by omega)]; rfl
      have hlen := held0_len (l := L) (n := j)
      by_cases hb : 0 < bal (j : Int) 0 L
      · obtain ⟨v', m'', hap, hr', hn, _⟩ := Rw.app (y := .lst false 1 [vi (j : Int)]) hr hm vw_lst (.inl rfl) (by simp [big]; omega)
        simp only [↓sxc, sx, se, ↓reduceIte, Nat.reduceEqDiff, Nat.reduceAdd, Nat.reduceLT, Nat.reduceLeDiff, Nat.reduceSub, Nat.reduceMul, Int.reduceToNat, Int.reduceLT, Int.reduceLE, Int.reduceEq, ml_i0, this, c2, hb, hap, wr]
        refine ih (j + 1) v' (m''.bump 1) Q (by omega) ?_ (by rw [held0_succ, if_pos hb]; simpa using hr') hq
        show m.next ≤ m''.next + 1
        omega
      · simp only [↓sxc, sx, se, ↓reduceIte, Nat.reduceEqDiff, Nat.reduceAdd, Nat.reduceLT, Nat.reduceLeDiff, Nat.reduceSub, Nat.reduceMul, Int.reduceToNat, Int.reduceLT, Int.reduceLE, Int.reduceEq, ml_i0, this, c2, hb, wr]
        exact ih (j + 1) v m' Q (by omega) hm (by rw [held0_succ, if_neg hb, List.append_nil]; exact hr) hq
  have loop2 : ∀ (r j : Nat) (v : V) (m' : Mem) (Q : Ex → St → Prop), j + r = s.locks.length → m.next ≤ m'.next → Rw m.next m' 1 v ((held0 L s.pools.length ++ held1 s.pools.length L j).map vi) →
      (∀ v m' e, m.next ≤ m'.next → Rw m.next m' 1 v ((held0 L s.pools.length ++ held1 s.pools.length L s.locks.length).map vi) → Q (.exit 2) ⟨(1, vi i) :: (7, v) :: e, [(3, vSys s), (8, vCls c)], [], m'⟩) →
      W F m.next L99_2 ⟨[(1, vi i), (7, v), (11, bools (kL s L)), (13, vi j)], [(3, vSys s), (8, vCls c)], [], m'⟩ Q := by
    intro r
    induction r with
    | zero =>
      intro j v m' Q hi hm hr hq
      rw [W_L (c := L99_2) rfl]
      have : ¬ ((j : Nat) : Int) < (s.locks.length : Int) := by omega
      simp only [↓sxc, sx, se, ↓reduceIte, Nat.reduceEqDiff, Nat.reduceAdd, Nat.reduceLT, Nat.reduceLeDiff, Nat.reduceSub, Nat.reduceMul, Int.reduceToNat, Int.reduceLT, Int.reduceLE, Int.reduceEq, ml_i0, this, kl]
      exact hq v m' _ hm (by rw [← show j = s.locks.length by omega]; exact hr)
    | succ r ih =>
      intro j v m' Q hi hm hr hq
      rw [W_L (c := L99_2) rfl]
      have : ((j : Nat) : Int) < (s.locks.length : Int) := by omega
      have wr : wrapF .i64 ((j : Int) + 1) = ((j + 1 : Nat) : Int) := by rw [wr_i64 (by omega) (by omega)]; rfl
      have w2 : wrapF .i64 ((s.pools.length : Int) + (j : Int)) = (s.pools.length : Int) + (j : Int) := wr_i64 (by omega) (by omega)
      have hg : (kL s L)[j]? = some (decide (0 < bal (j : Int) 1 L)) := by simp [kL, show j < s.locks.length by omega]
      have hlen := held0_len (l := L) (n := s.pools.length)
      have hlen2 := held1_len (p := s.pools.length) (l := L) (n := j)
      by_cases hb : 0 < bal (j : Int) 1 L
      · obtain ⟨v', m'', hap, hr', hn, _⟩ := Rw.app (y := .lst false 1 [vi ((s.pools.length : Int) + (j : Int))]) hr hm vw_lst (.inl rfl) (by simp [big]; omega)
        have hd : decide (0 < bal (j : Int) 1 L) = true := by simp [hb]
        rw [hd] at hg
        simp only [↓sxc, sx, se, ↓reduceIte, Nat.reduceEqDiff, Nat.reduceAdd, Nat.reduceLT, Nat.reduceLeDiff, Nat.reduceSub, Nat.reduceMul, Int.reduceToNat, Int.reduceLT, Int.reduceLE, Int.reduceEq, ml_i0, this, kl, hg, hap, wr, w2]
        refine ih (j + 1) v' (m''.bump 1) Q (by omega) ?_ (by rw [held1_succ, if_pos hb]; simpa using hr') hq
        show m.next ≤ m''.next + 1
        omega
      · have hd : decide (0 < bal (j : Int) 1 L) = false := by simp [hb]
        rw [hd] at hg
        simp only [↓sxc, sx, se, ↓reduceIte, Nat.reduceEqDiff, Nat.reduceAdd, Nat.reduceLT, Nat.reduceLeDiff, Nat.reduceSub, Nat.reduceMul, Int.reduceToNat, Int.reduceLT, Int.reduceLE, Int.reduceEq, ml_i0, this, kl, hg, wr]
        exact ih (j + 1) v m' Q (by omega) hm (by rw [held1_succ, if_neg hb, List.append_nil]; exact hr) hq
  have i0 : ((i : Nat) : Int).toNat = i := rfl
  have p0 : (0 : Int) ≤ (i : Int) := by omega
  have w1 : wrapF .i64 ((s.pools.length : Int) + (s.locks.length : Int)) = (s.pools.length : Int) + (s.locks.length : Int) := wr_i64 (by omega) (by omega)
  have w2 : wrapF .i64 ((s.pools.length : Int) + (s.locks.length : Int) + (i : Int)) = (s.pools.length : Int) + (s.locks.length : Int) + (i : Int) := wr_i64 (by omega) (by omega)
  have hlen := held0_len (l := L) (n := s.pools.length)
  have hlen2 := held1_len (p := s.pools.length) (l := L) (n := s.locks.length)
  refine call_p hB.h99 rfl ?_
  simp only [↓sxc, sx, se, ↓reduceIte, Nat.reduceEqDiff, Nat.reduceAdd, Nat.reduceLT, Nat.reduceLeDiff, Nat.reduceSub, Nat.reduceMul, Int.reduceToNat, Int.reduceLT, Int.reduceLE, Int.reduceEq, ml_i0, hc, i0, p0]
  refine loop1 s.pools.length 0 .nil m _ (by omega) (Nat.le_refl _) .nil (fun v m' e hm hr => ?_)
  simp only [↓sxc, sx, se, ↓reduceIte, Nat.reduceEqDiff, Nat.reduceAdd, Nat.reduceLT, Nat.reduceLeDiff, Nat.reduceSub, Nat.reduceMul, Int.reduceToNat, Int.reduceLT, Int.reduceLE, Int.reduceEq, ml_i0, c1]
  refine loop2 s.locks.length 0 v m' _ (by omega) hm (by simpa [held1] using hr) (fun v m' e hm hr => ?_)
  cases hs : c.srv with
  | true =>
    obtain ⟨v', m'', hap, hr', hn, _⟩ := Rw.app (y := .lst false 1 [vi ((s.pools.length : Int) + (s.locks.length : Int) + (i : Int))]) hr hm vw_lst (.inl rfl) (by simp [big]; omega)
    simp only [↓sxc, sx, se, ↓reduceIte, Nat.reduceEqDiff, Nat.reduceAdd, Nat.reduceLT, Nat.reduceLeDiff, Nat.reduceSub, Nat.reduceMul, Int.reduceToNat, Int.reduceLT, Int.reduceLE, Int.reduceEq, ml_i0, hs, w1, w2, hap]
    rw [hr'.freeze, mapO_id (fun x hx => by
      simp only [List.mem_append, List.mem_map, List.mem_singleton] at hx
      rcases hx with ⟨y, _, rfl⟩ | rfl <;> rfl)]
    simp [hold, hs, ints]
  | false =>
    simp only [↓sxc, sx, se, ↓reduceIte, Nat.reduceEqDiff, Nat.reduceAdd, Nat.reduceLT, Nat.reduceLeDiff, Nat.reduceSub, Nat.reduceMul, Int.reduceToNat, Int.reduceLT, Int.reduceLE, Int.reduceEq, ml_i0, hs]
    rw [hr.freeze, mapO_id (fun x hx => by
      obtain ⟨y, _, rfl⟩ := List.mem_map.1 hx
      rfl)]
    simp [hold, hs, ints]

end Go.Am
