/- Holdings and targets. -/
import Derived.Test.YtflfnkdhmcfjlaaSpL
namespace Go.Am
open Go
set_option linter.unusedSimpArgs false
set_option linter.unusedVariables false
set_option maxRecDepth 100000

/-- The resource that a step takes, locks or calls. -/
def target (s : Sys) (x : Stp) : Int := if x.kind = 3 then s.pools.length + x.on else if x.kind = 5 then s.pools.length + s.locks.length + x.on else x.on

theorem sp97 {F : Nat → Option Fn} (hB : HasB F) {lo : Nat} {m : Mem} (s : Sys) (x : Stp) (hv : Valid s) (hp : preE s x = 0) : callw F 97 [vSys s, vStp x] lo m = some (vi (target s x), m) := by
  have p6 := hv.p6
  have l4 := hv.l4
  have c6 := hv.c6
  obtain ⟨o1, o2, _⟩ := preE_on hp
  have hn : nOf s x ≤ 10 := by unfold nOf; repeat' split
                               all_goals omega
  have w1 : wrapF .i64 ((s.pools.length : Int) + x.on) = s.pools.length + x.on := wr_i64 (by omega) (by omega)
  have w2 : wrapF .i64 ((s.pools.length : Int) + s.locks.length) = s.pools.length + s.locks.length := wr_i64 (by omega) (by omega)
  have w3 : wrapF .i64 ((s.pools.length : Int) + s.locks.length + x.on) = s.pools.length + s.locks.length + x.on := wr_i64 (by omega) (by omega)
  refine call_p hB.h97 rfl ?_
  by_cases k3 : x.kind = 3
  · have e : target s x = s.pools.length + x.on := by simp [target, k3]
    simp only [↓sxc, sx, se, ↓reduceIte, Nat.reduceEqDiff, Nat.reduceAdd, Nat.reduceLT, Nat.reduceLeDiff, Nat.reduceSub, Nat.reduceMul, Int.reduceToNat, Int.reduceLT, Int.reduceLE, Int.reduceEq, ml_i0, k3, w1, e]
  · by_cases k5 : x.kind = 5
    · have e : target s x = s.pools.length + s.locks.length + x.on := by simp [target, k5]
      simp only [↓sxc, sx, se, ↓reduceIte, Nat.reduceEqDiff, Nat.reduceAdd, Nat.reduceLT, Nat.reduceLeDiff, Nat.reduceSub, Nat.reduceMul, Int.reduceToNat, Int.reduceLT, Int.reduceLE, Int.reduceEq, ml_i0, k5, w2, w3, e]
    · have e : target s x = x.on := by simp [target, k3, k5]
      simp only [↓sxc, sx, se, ↓reduceIte, Nat.reduceEqDiff, Nat.reduceAdd, Nat.reduceLT, Nat.reduceLeDiff, Nat.reduceSub, Nat.reduceMul, Int.reduceToNat, Int.reduceLT, Int.reduceLE, Int.reduceEq, ml_i0, k3, k5, e]
theorem sp100 {F : Nat → Option Fn} (hB : HasB F) {lo : Nat} {m : Mem} (s : Sys) (x : Stp) (hv : Valid s) (hp : preE s x = 0) : callw F 100 [vSys s, vStp x] lo m = some (vi (target s x), m) := by
  have p6 := hv.p6
  have l4 := hv.l4
  have c6 := hv.c6
  obtain ⟨o1, o2, _⟩ := preE_on hp
  have hn : nOf s x ≤ 10 := by unfold nOf; repeat' split
                               all_goals omega
  have w1 : wrapF .i64 ((s.pools.length : Int) + x.on) = s.pools.length + x.on := wr_i64 (by omega) (by omega)
  have w2 : wrapF .i64 ((s.pools.length : Int) + s.locks.length) = s.pools.length + s.locks.length := wr_i64 (by omega) (by omega)
  have w3 : wrapF .i64 ((s.pools.length : Int) + s.locks.length + x.on) = s.pools.length + s.locks.length + x.on := wr_i64 (by omega) (by omega)
  refine call_p hB.h100 rfl ?_
  by_cases k3 : x.kind = 3
  · have e : target s x = s.pools.length + x.on := by simp [target, k3]
    simp only [↓sxc, sx, se, ↓reduceIte, Nat.reduceEqDiff, Nat.reduceAdd, Nat.reduceLT, Nat.reduceLeDiff, Nat.reduceSub, Nat.reduceMul, Int.reduceToNat, Int.reduceLT, Int.reduceLE, Int.reduceEq, ml_i0, k3, w1, e]
  · by_cases k5 : x.kind = 5
    · have e : target s x = s.pools.length + s.locks.length + x.on := by simp [target, k5]
      simp only [↓sxc, sx, se, ↓reduceIte, Nat.reduceEqDiff, Nat.reduceAdd, Nat.reduceLT, Nat.reduceLeDiff, Nat.reduceSub, Nat.reduceMul, Int.reduceToNat, Int.reduceLT, Int.reduceLE, Int.reduceEq, ml_i0, k5, w2, w3, e]
    · have e : target s x = x.on := by simp [target, k3, k5]
      simp only [↓sxc, sx, se, ↓reduceIte, Nat.reduceEqDiff, Nat.reduceAdd, Nat.reduceLT, Nat.reduceLeDiff, Nat.reduceSub, Nat.reduceMul, Int.reduceToNat, Int.reduceLT, Int.reduceLE, Int.reduceEq, ml_i0, k3, k5, e]

theorem ud_bal {pool : Int} : ∀ {l : List Stp} {q : Int × Int}, (ud pool l q).1 = q.1 + bal pool 0 l
  | [], q => by simp [ud, bal]
  | x :: t, q => by
    rw [ud, ud_bal (l := t), bal]
    have : (udStep pool x q).1 = q.1 + delta pool 0 x := by
      unfold udStep delta
      by_cases h : x.on = pool
      · by_cases h1 : x.kind = 1
        · simp [h, h1]
        · by_cases h2 : x.kind = 2
          · simp [h, h2]; omega
          · simp [h, h1, h2]
      · simp [h]
    omega

def held0 (l : List Stp) (n : Nat) : List Int := ((List.range n).filter fun (j : Nat) => decide (0 < bal (j : Int) 0 l)).map fun (j : Nat) => (j : Int)
def held1 (p : Nat) (l : List Stp) (n : Nat) : List Int := ((List.range n).filter fun (j : Nat) => decide (0 < bal (j : Int) 1 l)).map fun (j : Nat) => (p : Int) + (j : Int)
/-- The holdings of class i before a step. -/
def hold (s : Sys) (i : Nat) (c : Cls) (l : List Stp) : List Int :=
  held0 l s.pools.length ++ held1 s.pools.length l s.locks.length ++ if c.srv = true then [(s.pools.length : Int) + s.locks.length + i] else []

theorem held0_succ {l : List Stp} {n : Nat} : held0 l (n + 1) = held0 l n ++ if 0 < bal (n : Int) 0 l then [(n : Int)] else [] := by
  unfold held0
  rw [List.range_succ, List.filter_append, List.map_append]
  by_cases h : 0 < bal (n : Int) 0 l <;> simp [h]
theorem held1_succ {p : Nat} {l : List Stp} {n : Nat} : held1 p l (n + 1) = held1 p l n ++ if 0 < bal (n : Int) 1 l then [(p : Int) + n] else [] := by
  unfold held1
  rw [List.range_succ, List.filter_append, List.map_append]
  by_cases h : 0 < bal (n : Int) 1 l <;> simp [h]
theorem held0_len {l : List Stp} {n : Nat} : (held0 l n).length ≤ n := by
  unfold held0
  rw [List.length_map]
  exact Nat.le_trans (List.length_filter_le ..) (by simp)
theorem held1_len {p : Nat} {l : List Stp} {n : Nat} : (held1 p l n).length ≤ n := by
  unfold held1
  rw [List.length_map]
  exact Nat.le_trans (List.length_filter_le ..) (by simp)

theorem sp98 {F : Nat → Option Fn} (hA : HasA F) (hB : HasB F) {lo : Nat} {m : Mem} (s : Sys) (h0 : chkE s = 0) (i k : Nat) (c : Cls) (hc : s.cls[i]? = some c) (hk : k ≤ c.steps.length) : callw F 98 [vSys s, vi i, vi k] lo m = some (ints (hold s i c (c.steps.take k)), m) := by
  have hv := valid_of h0
  have p6 := hv.p6
  have l4 := hv.l4
  have c6 := hv.c6
  have hil := (List.getElem?_eq_some_iff.1 hc).1
  have c1 : ∀ {lo m}, callw F 54 [vSys s, vi i, vi k] lo m = some (.tup [ints (uL s (c.steps.take k)), bools (kL s (c.steps.take k)), vi 0], m) := fun {lo m} => sp54 hA s h0 i k c hc hk
  generalize c.steps.take k = L at *
  have ul : (uL s L).length = s.pools.length := by simp [uL]
  have kl : (kL s L).length = s.locks.length := by simp [kL]
  have loop1 : ∀ (r j : Nat) (v : V) (m' : Mem) (Q : Ex → St → Prop), j + r = s.pools.length → m.next ≤ m'.next → Rw m.next m' 1 v ((held0 L j).map vi) →
      (∀ v m' e, m.next ≤ m'.next → Rw m.next m' 1 v ((held0 L s.pools.length).map vi) → Q (.exit 0) ⟨(1, vi i) :: (8, bools (kL s L)) :: (10, v) :: e, [(3, vSys s)], [], m'⟩) →
      W F m.next L98_1 ⟨[(1, vi i), (8, bools (kL s L)), (10, v), (23, ints (uL s L)), (24, vi s.pools.length), (25, vi j)], [(3, vSys s)], [], m'⟩ Q := by
    intro r
    induction r with
    | zero =>
      intro j v m' Q hi hm hr hq
      rw [W_L (c := L98_1) rfl]
      have : ¬ ((j : Nat) : Int) < (s.pools.length : Int) := by omega
      simp only [↓sxc, sx, se, ↓reduceIte, Nat.reduceEqDiff, Nat.reduceAdd, Nat.reduceLT, Nat.reduceLeDiff, Nat.reduceSub, Nat.reduceMul, Int.reduceToNat, Int.reduceLT, Int.reduceLE, Int.reduceEq, ml_i0, this]
      exact hq v m' _ hm (by rw [← show j = s.pools.length by omega]; exact hr)
    | succ r ih =>
      intro j v m' Q hi hm hr hq
      rw [W_L (c := L98_1) rfl]
      have : ((j : Nat) : Int) < (s.pools.length : Int) := by omega
      have wr : wrapF .i64 ((j : Int) + 1) = ((j + 1 : Nat) : Int) := by rw [wr_i64 (by omega) (by omega)]; rfl
      have hg : (uL s L)[j]? = some (bal (j : Int) 0 L) := by simp [uL, show j < s.pools.length by omega]
      have hlen := held0_len (l := L) (n := j)
      by_cases hb : 0 < bal (j : Int) 0 L
      · obtain ⟨v', m'', hap, hr', hn, _⟩ := Rw.app (y := .lst false 1 [vi (j : Int)]) hr hm vw_lst (.inl rfl) (by simp [big]; omega)
        simp only [↓sxc, sx, se, ↓reduceIte, Nat.reduceEqDiff, Nat.reduceAdd, Nat.reduceLT, Nat.reduceLeDiff, Nat.reduceSub, Nat.reduceMul, Int.reduceToNat, Int.reduceLT, Int.reduceLE, Int.reduceEq, ml_i0, this, hg, hb, hap, wr]
        refine ih (j + 1) v' (m''.bump 1) Q (by omega) ?_ (by rw [held0_succ, if_pos hb]; simpa using hr') hq
        show m.next ≤ m''.next + 1
        omega
      · simp only [↓sxc, sx, se, ↓reduceIte, Nat.reduceEqDiff, Nat.reduceAdd, Nat.reduceLT, Nat.reduceLeDiff, Nat.reduceSub, Nat.reduceMul, Int.reduceToNat, Int.reduceLT, Int.reduceLE, Int.reduceEq, ml_i0, this, hg, hb, wr]
        exact ih (j + 1) v m' Q (by omega) hm (by rw [held0_succ, if_neg hb, List.append_nil]; exact hr) hq
  have loop2 : ∀ (r j : Nat) (v : V) (m' : Mem) (Q : Ex → St → Prop), j + r = s.locks.length → m.next ≤ m'.next → Rw m.next m' 1 v ((held0 L s.pools.length ++ held1 s.pools.length L j).map vi) →
      (∀ v m' e, m.next ≤ m'.next → Rw m.next m' 1 v ((held0 L s.pools.length ++ held1 s.pools.length L s.locks.length).map vi) → Q (.exit 2) ⟨(1, vi i) :: (10, v) :: e, [(3, vSys s)], [], m'⟩) →
      W F m.next L98_2 ⟨[(1, vi i), (10, v), (37, bools (kL s L)), (38, vi s.locks.length), (39, vi j)], [(3, vSys s)], [], m'⟩ Q := by
    intro r
    induction r with
    | zero =>
      intro j v m' Q hi hm hr hq
      rw [W_L (c := L98_2) rfl]
      have : ¬ ((j : Nat) : Int) < (s.locks.length : Int) := by omega
      simp only [↓sxc, sx, se, ↓reduceIte, Nat.reduceEqDiff, Nat.reduceAdd, Nat.reduceLT, Nat.reduceLeDiff, Nat.reduceSub, Nat.reduceMul, Int.reduceToNat, Int.reduceLT, Int.reduceLE, Int.reduceEq, ml_i0, this]
      exact hq v m' _ hm (by rw [← show j = s.locks.length by omega]; exact hr)
    | succ r ih =>
      intro j v m' Q hi hm hr hq
      rw [W_L (c := L98_2) rfl]
      have : ((j : Nat) : Int) < (s.locks.length : Int) := by omega
      have wr : wrapF .i64 ((j : Int) + 1) = ((j + 1 : Nat) : Int) := by rw [wr_i64 (by omega) (by omega)]; rfl
      have w2 : wrapF .i64 ((s.pools.length : Int) + (j : Int)) = (s.pools.length : Int) + (j : Int) := wr_i64 (by omega) (by omega)
      have hg : (kL s L)[j]? = some (decide (0 < bal (j : Int) 1 L)) := by simp [kL, show j < s.locks.length by omega]
      have hlen := held0_len (l := L) (n := s.pools.length)
      have hlen2 := held1_len (p := s.pools.length) (l := L) (n := j)
      by_cases hb : 0 < bal (j : Int) 1 L
      · obtain ⟨v', m'', hap, hr', hn, _⟩ := Rw.app (y := .lst false 1 [vi ((s.pools.length : Int) + (j : Int))]) hr hm vw_lst (.inl rfl) (by simp [big]; omega)
        have hd : decide (0 < bal (j : Int) 1 L) = true := by simp [hb]
        rw [hd] at hg
        simp only [↓sxc, sx, se, ↓reduceIte, Nat.reduceEqDiff, Nat.reduceAdd, Nat.reduceLT, Nat.reduceLeDiff, Nat.reduceSub, Nat.reduceMul, Int.reduceToNat, Int.reduceLT, Int.reduceLE, Int.reduceEq, ml_i0, this, hg, hap, wr, w2]
        refine ih (j + 1) v' (m''.bump 1) Q (by omega) ?_ (by rw [held1_succ, if_pos hb]; simpa using hr') hq
        show m.next ≤ m''.next + 1
        omega
      · have hd : decide (0 < bal (j : Int) 1 L) = false := by simp [hb]
        rw [hd] at hg
        simp only [↓sxc, sx, se, ↓reduceIte, Nat.reduceEqDiff, Nat.reduceAdd, Nat.reduceLT, Nat.reduceLeDiff, Nat.reduceSub, Nat.reduceMul, Int.reduceToNat, Int.reduceLT, Int.reduceLE, Int.reduceEq, ml_i0, this, hg, wr]
        exact ih (j + 1) v m' Q (by omega) hm (by rw [held1_succ, if_neg hb, List.append_nil]; exact hr) hq
  have i0 : ((i : Nat) : Int).toNat = i := rfl
  have p0 : (0 : Int) ≤ (i : Int) := by omega
  have w1 : wrapF .i64 ((s.pools.length : Int) + (s.locks.length : Int)) = (s.pools.length : Int) + (s.locks.length : Int) := wr_i64 (by omega) (by omega)
  have w2 : wrapF .i64 ((s.pools.length : Int) + (s.locks.length : Int) + (i : Int)) = (s.pools.length : Int) + (s.locks.length : Int) + (i : Int) := wr_i64 (by omega) (by omega)
  have hlen := held0_len (l := L) (n := s.pools.length)
  have hlen2 := held1_len (p := s.pools.length) (l := L) (n := s.locks.length)
  refine call_p hB.h98 rfl ?_
  simp only [↓sxc, sx, se, ↓reduceIte, Nat.reduceEqDiff, Nat.reduceAdd, Nat.reduceLT, Nat.reduceLeDiff, Nat.reduceSub, Nat.reduceMul, Int.reduceToNat, Int.reduceLT, Int.reduceLE, Int.reduceEq, ml_i0, c1, ul]
  refine loop1 s.pools.length 0 .nil m _ (by omega) (Nat.le_refl _) .nil (fun v m' e hm hr => ?_)
  simp only [↓sxc, sx, se, ↓reduceIte, Nat.reduceEqDiff, Nat.reduceAdd, Nat.reduceLT, Nat.reduceLeDiff, Nat.reduceSub, Nat.reduceMul, Int.reduceToNat, Int.reduceLT, Int.reduceLE, Int.reduceEq, ml_i0, kl]
  refine loop2 s.locks.length 0 v m' _ (by omega) hm (by simpa [held1] using hr) (fun v m' e hm hr => ?_)
  cases hs : c.srv with
  | true =>
    obtain ⟨v', m'', hap, hr', hn, _⟩ := Rw.app (y := .lst false 1 [vi ((s.pools.length : Int) + (s.locks.length : Int) + (i : Int))]) hr hm vw_lst (.inl rfl) (by simp [big]; omega)
    simp only [↓sxc, sx, se, ↓reduceIte, Nat.reduceEqDiff, Nat.reduceAdd, Nat.reduceLT, Nat.reduceLeDiff, Nat.reduceSub, Nat.reduceMul, Int.reduceToNat, Int.reduceLT, Int.reduceLE, Int.reduceEq, ml_i0, hc, i0, p0, hs, w1, w2, hap]
    rw [hr'.freeze, mapO_id (fun x hx => by
      simp only [List.mem_append, List.mem_map, List.mem_singleton] at hx
      rcases hx with ⟨y, _, rfl⟩ | rfl <;> rfl)]
    simp [hold, hs, ints]
  | false =>
    simp only [↓sxc, sx, se, ↓reduceIte, Nat.reduceEqDiff, Nat.reduceAdd, Nat.reduceLT, Nat.reduceLeDiff, Nat.reduceSub, Nat.reduceMul, Int.reduceToNat, Int.reduceLT, Int.reduceLE, Int.reduceEq, ml_i0, hc, i0, p0, hs]
    rw [hr.freeze, mapO_id (fun x hx => by
      obtain ⟨y, _, rfl⟩ := List.mem_map.1 hx
      rfl)]
    simp [hold, hs, ints]

end Go.Am
