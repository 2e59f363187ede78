/- The law on holdings and edges: the loops around. -/
import Derived.Test.YtflfnkdhmcfjlaaSpQ
namespace Go.Am
open Go
set_option linter.unusedSimpArgs false
set_option linter.unusedVariables false
set_option maxRecDepth 100000

theorem w10_2 {F : Nat → Option Fn} {lo h : Nat} (s : Sys) (hv : Valid s) (l : List Edge) (hl : l.length < 100000) (i k : Nat) (c : Cls) (hi : i < s.cls.length) (L : List Stp) (to : Int)
    (hfd : ∀ f ∈ hold s i c L, ∃ x ∈ l, x.fr = f ∧ x.to = to) : ∀ (n r : Nat) (us : List Bool) (m : Mem) (Q : Ex → St → Prop), r + n = s.pools.length + s.locks.length + s.cls.length → Us lo m h l.length us →
    (∀ us' m' e, Us lo m' h l.length us' → More us us' → (∀ f ∈ hold s i c L, (r : Int) ≤ f → ∀ (j : Nat) y, l[j]? = some y → hit f to y = true → us'[j]? = some true) →
      Q (.exit 5) ⟨(3, vEdges l) :: (5, .row 1 h 0 l.length) :: (6, vi s.pools.length) :: (7, vi (s.pools.length + s.locks.length)) :: (8, vi i) :: (12, vi to) :: (13, ints (uL s L)) :: (14, bools (kL s L)) :: (57, vClss s.cls) :: (58, vi s.cls.length) :: (59, vi i) :: (65, vStps c.steps) :: (66, vi c.steps.length) :: (67, vi k) :: e, [(1, vSys s), (9, vCls c)], [], m'⟩) →
    W F lo L10_2 ⟨[(3, vEdges l), (5, .row 1 h 0 l.length), (6, vi s.pools.length), (7, vi (s.pools.length + s.locks.length)), (8, vi i), (12, vi to), (13, ints (uL s L)), (14, bools (kL s L)), (57, vClss s.cls), (58, vi s.cls.length), (59, vi i), (65, vStps c.steps), (66, vi c.steps.length), (67, vi k), (121, vi (s.pools.length + s.locks.length + s.cls.length)), (122, vi r)], [(1, vSys s), (9, vCls c)], [], m⟩ Q := by
  have p6 := hv.p6
  have l4 := hv.l4
  have c6 := hv.c6
  intro n
  induction n with
  | zero =>
    intro r us m Q hr hu hq
    rw [W_L (c := L10_2) rfl]
    have : ¬ ((r : Nat) : Int) < (s.pools.length : Int) + s.locks.length + s.cls.length := by omega
    simp only [↓sxc, sx, se, ↓reduceIte, Nat.reduceEqDiff, Nat.reduceAdd, Nat.reduceLT, Nat.reduceLeDiff, Nat.reduceSub, Nat.reduceMul, Int.reduceToNat, Int.reduceLT, Int.reduceLE, Int.reduceEq, ml_i0, ↓smc, sm, this]
    exact hq us m _ hu .refl (fun f hf hle => by obtain ⟨q, rfl, hq⟩ := hold_nat hf hi; omega)
  | succ n ih =>
    intro r us m Q hr hu hq
    rw [W_L (c := L10_2) rfl]
    have hlt : ((r : Nat) : Int) < (s.pools.length : Int) + s.locks.length + s.cls.length := by omega
    have wr : wrapF .i64 ((r : Int) + 1) = ((r + 1 : Nat) : Int) := by rw [wr_i64 (by omega) (by omega)]; rfl
    have w1 : wrapF .i64 ((s.pools.length : Int) - 1) = (s.pools.length : Int) - 1 := wr_i64 (by omega) (by omega)
    have w2 : wrapF .i64 ((r : Int) - s.pools.length) = (r : Int) - s.pools.length := wr_i64 (by omega) (by omega)
    have w3 : wrapF .i64 ((r : Int) - (s.pools.length + s.locks.length)) = (r : Int) - (s.pools.length + s.locks.length) := wr_i64 (by omega) (by omega)
    -- what is common to the ways: b says whether r is held
    have common : ∀ (b : Bool), (b = true ↔ (r : Int) ∈ hold s i c L) → ∀ us' m', Us lo m' h l.length us' → More us us' → (b = true → ∀ (k : Nat) y, 0 ≤ k → l[k]? = some y → hit r to y = true → us'[k]? = some true) →
        W F lo L10_2 ⟨[(3, vEdges l), (5, .row 1 h 0 l.length), (6, vi s.pools.length), (7, vi (s.pools.length + s.locks.length)), (8, vi i), (12, vi to), (13, ints (uL s L)), (14, bools (kL s L)), (57, vClss s.cls), (58, vi s.cls.length), (59, vi i), (65, vStps c.steps), (66, vi c.steps.length), (67, vi k), (121, vi (s.pools.length + s.locks.length + s.cls.length)), (122, vi (r + 1 : Nat))], [(1, vSys s), (9, vCls c)], [], m'⟩ Q := by
      intro b hb us' m' h1 h2 h3
      refine ih (r + 1) us' m' Q (by omega) h1 (fun us2 m2 e h4 h5 h6 => hq us2 m2 e h4 (h2.trans h5) (fun f hf hle j y hy hh => ?_))
      by_cases hfr : f = (r : Int)
      · subst hfr
        exact h5.2 j (h3 (hb.2 hf) j y (by omega) hy hh)
      · exact h6 f hf (by omega) j y hy hh
    have any_of : (r : Int) ∈ hold s i c L → l.any (hit r to) = true := fun hm => by
      obtain ⟨x, hx, e1, e2⟩ := hfd _ hm
      exact List.any_eq_true.2 ⟨x, hx, by simp [hit, e1, e2]⟩
    by_cases r1 : r < s.pools.length
    · have a1 : (r : Int) < s.pools.length := by omega
      have a2 : ¬ (s.pools.length : Int) ≤ r := by omega
      have a3 : ¬ ((s.pools.length : Int) + s.locks.length ≤ r) := by omega
      have a4 : ¬ ((s.pools.length : Int) - 1 < r) := by omega
      have hg : (uL s L)[r]? = some (bal (r : Int) 0 L) := by simp [uL, r1]
      have hm : (decide (0 < bal (r : Int) 0 L) = true) ↔ (r : Int) ∈ hold s i c L := by
        rw [mem_hold, decide_eq_true_eq]
        constructor
        · intro h; exact .inl ⟨r1, h⟩
        · rintro (h | h | h)
          · exact h.2
          · omega
          · omega
      have a5 : min (r : Int) ((s.pools.length : Int) - 1) = r := by omega
      have a6 : (0 : Int) ≤ r := by omega
      have a7 : ((r : Nat) : Int).toNat = r := rfl
      simp only [↓sxc, sx, se, ↓reduceIte, Nat.reduceEqDiff, Nat.reduceAdd, Nat.reduceLT, Nat.reduceLeDiff, Nat.reduceSub, Nat.reduceMul, Int.reduceToNat, Int.reduceLT, Int.reduceLE, Int.reduceEq, ml_i0, ↓smc, sm, hlt, a1, a2, a3, a4, a5, a6, a7, w1, hg]
      refine w10_1 l hl (r : Int) to (decide (0 < bal (r : Int) 0 L)) _ _ _ _ _ _ _ _ _ _ _ _ _ _ _ l 0 us false m _ rfl hu (fun us' m' e h1 h2 h3 => ?_)
      have hc := common _ hm us' m' h1 h2 h3
      cases hb : decide (0 < bal (r : Int) 0 L) with
      | true =>
        have hf := any_of (hm.1 hb)
        simp only [↓sxc, sx, se, ↓reduceIte, Nat.reduceEqDiff, Nat.reduceAdd, Nat.reduceLT, Nat.reduceLeDiff, Nat.reduceSub, Nat.reduceMul, Int.reduceToNat, Int.reduceLT, Int.reduceLE, Int.reduceEq, ml_i0, ↓smc, sm, hf, wr, Bool.false_or]
        exact hc
      | false =>
        simp only [↓sxc, sx, se, ↓reduceIte, Nat.reduceEqDiff, Nat.reduceAdd, Nat.reduceLT, Nat.reduceLeDiff, Nat.reduceSub, Nat.reduceMul, Int.reduceToNat, Int.reduceLT, Int.reduceLE, Int.reduceEq, ml_i0, ↓smc, sm, wr, Bool.false_or]
        exact hc
    · by_cases r2 : r < s.pools.length + s.locks.length
      · have a1 : ¬ (r : Int) < s.pools.length := by omega
        have a2 : (s.pools.length : Int) ≤ r := by omega
        have a3 : ¬ ((s.pools.length : Int) + s.locks.length ≤ r) := by omega
        have a4 : (r : Int) < s.pools.length + s.locks.length := by omega
        have a5 : (0 : Int) ≤ (r : Int) - s.pools.length := by omega
        have a6 : ((r : Int) - s.pools.length).toNat = r - s.pools.length := by omega
        have hg : (kL s L)[r - s.pools.length]? = some (decide (0 < bal ((r - s.pools.length : Nat) : Int) 1 L)) := by simp [kL, show r - s.pools.length < s.locks.length by omega]
        have hm : (decide (0 < bal ((r - s.pools.length : Nat) : Int) 1 L) = true) ↔ (r : Int) ∈ hold s i c L := by
          rw [mem_hold, decide_eq_true_eq]
          constructor
          · intro h; exact .inr (.inl ⟨by omega, r2, h⟩)
          · rintro (h | h | h)
            · omega
            · exact h.2.2
            · omega
        simp only [↓sxc, sx, se, ↓reduceIte, Nat.reduceEqDiff, Nat.reduceAdd, Nat.reduceLT, Nat.reduceLeDiff, Nat.reduceSub, Nat.reduceMul, Int.reduceToNat, Int.reduceLT, Int.reduceLE, Int.reduceEq, ml_i0, ↓smc, sm, hlt, a1, a2, a3, a4, a5, a6, w2, hg]
        refine w10_1 l hl (r : Int) to (decide (0 < bal ((r - s.pools.length : Nat) : Int) 1 L)) _ _ _ _ _ _ _ _ _ _ _ _ _ _ _ l 0 us false m _ rfl hu (fun us' m' e h1 h2 h3 => ?_)
        have hc := common _ hm us' m' h1 h2 h3
        cases hb : decide (0 < bal ((r - s.pools.length : Nat) : Int) 1 L) with
        | true =>
          have hf := any_of (hm.1 hb)
          simp only [↓sxc, sx, se, ↓reduceIte, Nat.reduceEqDiff, Nat.reduceAdd, Nat.reduceLT, Nat.reduceLeDiff, Nat.reduceSub, Nat.reduceMul, Int.reduceToNat, Int.reduceLT, Int.reduceLE, Int.reduceEq, ml_i0, ↓smc, sm, hf, wr, Bool.false_or]
          exact hc
        | false =>
          simp only [↓sxc, sx, se, ↓reduceIte, Nat.reduceEqDiff, Nat.reduceAdd, Nat.reduceLT, Nat.reduceLeDiff, Nat.reduceSub, Nat.reduceMul, Int.reduceToNat, Int.reduceLT, Int.reduceLE, Int.reduceEq, ml_i0, ↓smc, sm, wr, Bool.false_or]
          exact hc
      · have a1 : ¬ (r : Int) < s.pools.length := by omega
        have a2 : (s.pools.length : Int) ≤ r := by omega
        have a3 : (s.pools.length : Int) + s.locks.length ≤ r := by omega
        have a4 : ¬ (r : Int) < s.pools.length + s.locks.length := by omega
        have hm : ((c.srv && decide ((r : Int) - (s.pools.length + s.locks.length) = i)) = true) ↔ (r : Int) ∈ hold s i c L := by
          rw [mem_hold, Bool.and_eq_true, decide_eq_true_eq]
          constructor
          · rintro ⟨h1, h2⟩; exact .inr (.inr ⟨h1, by omega⟩)
          · rintro (h | h | h)
            · omega
            · omega
            · exact ⟨h.1, by omega⟩
        cases hs : c.srv with
        | false =>
          rw [hs, Bool.false_and] at hm
          simp only [↓sxc, sx, se, ↓reduceIte, Nat.reduceEqDiff, Nat.reduceAdd, Nat.reduceLT, Nat.reduceLeDiff, Nat.reduceSub, Nat.reduceMul, Int.reduceToNat, Int.reduceLT, Int.reduceLE, Int.reduceEq, ml_i0, ↓smc, sm, hlt, a1, a2, a3, a4, w3, hs]
          refine w10_1 l hl (r : Int) to false _ _ _ _ _ _ _ _ _ _ _ _ _ _ _ l 0 us false m _ rfl hu (fun us' m' e h1 h2 h3 => ?_)
          have hc := common _ hm us' m' h1 h2 h3
          simp only [↓sxc, sx, se, ↓reduceIte, Nat.reduceEqDiff, Nat.reduceAdd, Nat.reduceLT, Nat.reduceLeDiff, Nat.reduceSub, Nat.reduceMul, Int.reduceToNat, Int.reduceLT, Int.reduceLE, Int.reduceEq, ml_i0, ↓smc, sm, wr, Bool.false_or]
          exact hc
        | true =>
          rw [hs, Bool.true_and] at hm
          by_cases hri : (r : Int) - (s.pools.length + s.locks.length) = i
          · have hd : decide ((r : Int) - (s.pools.length + s.locks.length) = i) = true := by simp [hri]
            rw [hd] at hm
            have w4 : wrapF .i64 (i : Int) = i := wr_i64 (by omega) (by omega)
            simp only [↓sxc, sx, se, ↓reduceIte, Nat.reduceEqDiff, Nat.reduceAdd, Nat.reduceLT, Nat.reduceLeDiff, Nat.reduceSub, Nat.reduceMul, Int.reduceToNat, Int.reduceLT, Int.reduceLE, Int.reduceEq, ml_i0, ↓smc, sm, hlt, a1, a2, a3, a4, w3, w4, hs, hri, eq_self, decide_true]
            refine w10_1 l hl (r : Int) to true _ _ _ _ _ _ _ _ _ _ _ _ _ _ _ l 0 us false m _ rfl hu (fun us' m' e h1 h2 h3 => ?_)
            have hc := common _ hm us' m' h1 h2 h3
            have hf := any_of (hm.1 rfl)
            simp only [↓sxc, sx, se, ↓reduceIte, Nat.reduceEqDiff, Nat.reduceAdd, Nat.reduceLT, Nat.reduceLeDiff, Nat.reduceSub, Nat.reduceMul, Int.reduceToNat, Int.reduceLT, Int.reduceLE, Int.reduceEq, ml_i0, ↓smc, sm, hf, wr, Bool.false_or]
            exact hc
          · have hd : decide ((r : Int) - (s.pools.length + s.locks.length) = i) = false := by simp [hri]
            rw [hd] at hm
            simp only [↓sxc, sx, se, ↓reduceIte, Nat.reduceEqDiff, Nat.reduceAdd, Nat.reduceLT, Nat.reduceLeDiff, Nat.reduceSub, Nat.reduceMul, Int.reduceToNat, Int.reduceLT, Int.reduceLE, Int.reduceEq, ml_i0, ↓smc, sm, hlt, a1, a2, a3, a4, w3, hs, hri]
            refine w10_1 l hl (r : Int) to false _ _ _ _ _ _ _ _ _ _ _ _ _ _ _ l 0 us false m _ rfl hu (fun us' m' e h1 h2 h3 => ?_)
            have hc := common _ hm us' m' h1 h2 h3
            simp only [↓sxc, sx, se, ↓reduceIte, Nat.reduceEqDiff, Nat.reduceAdd, Nat.reduceLT, Nat.reduceLeDiff, Nat.reduceSub, Nat.reduceMul, Int.reduceToNat, Int.reduceLT, Int.reduceLE, Int.reduceEq, ml_i0, ↓smc, sm, wr, Bool.false_or]
            exact hc

theorem target_kinds {s : Sys} {x : Stp} (h : waitsE s x = true) : x.kind = 1 ∨ x.kind = 3 ∨ x.kind = 5 := by
  unfold waitsE at h
  split at h
  · omega
  · split at h
    · rename_i h1; exact .inl h1
    · cases h

theorem w10_3 {F : Nat → Option Fn} (hA : HasA F) (hB : HasB F) {lo h : Nat} (s : Sys) (h0 : chkE s = 0) (l : List Edge) (hl : l.length < 100000) (i : Nat) (c : Cls) (hc : s.cls[i]? = some c)
    (hfd : ∀ e ∈ alE s s.cls 0, ∃ x ∈ l, x.fr = e.fr ∧ x.to = e.to) : ∀ (t : List Stp) (k : Nat) (us : List Bool) (m : Mem) (Q : Ex → St → Prop), c.steps.drop k = t → Us lo m h l.length us →
    (∀ us' m' e, Us lo m' h l.length us' → More us us' → (∀ e ∈ clE s i c t k, ∀ (j : Nat) y, l[j]? = some y → hit e.fr e.to y = true → us'[j]? = some true) →
      Q (.exit 2) ⟨(3, vEdges l) :: (5, .row 1 h 0 l.length) :: (6, vi s.pools.length) :: (7, vi (s.pools.length + s.locks.length)) :: (8, vi i) :: (57, vClss s.cls) :: (58, vi s.cls.length) :: (59, vi i) :: e, [(1, vSys s), (9, vCls c)], [], m'⟩) →
    W F lo L10_3 ⟨[(3, vEdges l), (5, .row 1 h 0 l.length), (6, vi s.pools.length), (7, vi (s.pools.length + s.locks.length)), (8, vi i), (57, vClss s.cls), (58, vi s.cls.length), (59, vi i), (65, vStps c.steps), (66, vi c.steps.length), (67, vi k)], [(1, vSys s), (9, vCls c)], [], m⟩ Q := by
  have hv := valid_of h0
  have p6 := hv.p6
  have l4 := hv.l4
  have c6 := hv.c6
  have hcm := List.mem_of_getElem? hc
  have hil := (List.getElem?_eq_some_iff.1 hc).1
  have hl12 := (hv.okC c hcm).l12
  intro t
  induction t with
  | nil =>
    intro k us m Q hd hu hq
    have hlt := drop_nil hd
    rw [W_L (c := L10_3) rfl]
    have : ¬ ((k : Nat) : Int) < (c.steps.length : Int) := by omega
    simp only [↓sxc, sx, se, ↓reduceIte, Nat.reduceEqDiff, Nat.reduceAdd, Nat.reduceLT, Nat.reduceLeDiff, Nat.reduceSub, Nat.reduceMul, Int.reduceToNat, Int.reduceLT, Int.reduceLE, Int.reduceEq, ml_i0, ↓smc, sm, this]
    exact hq us m _ hu .refl (fun e he => by simp [clE] at he)
  | cons x t ih =>
    intro k us m Q hd hu hq
    obtain ⟨hg, hd', hlt⟩ := drop_cons hd
    rw [W_L (c := L10_3) rfl]
    have : ((k : Nat) : Int) < (c.steps.length : Int) := by omega
    have wr : wrapF .i64 ((k : Int) + 1) = ((k + 1 : Nat) : Int) := by rw [wr_i64 (by omega) (by omega)]; rfl
    have hp := hv.pre hcm (List.mem_of_getElem? hg)
    have hmw : mayWait s i k = waitsE s x := by
      have a1 : ¬ ((i : Int) < 0) := by omega
      have a2 : ¬ ((k : Int) < 0) := by omega
      simp [mayWait, h0, a1, a2, stepAt, hc, hg]
    have c1 : ∀ {lo m}, callw F 33 [vSys s, vi i, vi k] lo m = some (.bool (waitsE s x), m) := fun {lo m} => by rw [← hmw]; exact sp33 hA hB s i k
    have next : ∀ us' m', Us lo m' h l.length us' → More us us' → (∀ e ∈ stE s i c k x, ∀ (j : Nat) y, l[j]? = some y → hit e.fr e.to y = true → us'[j]? = some true) →
        W F lo L10_3 ⟨[(3, vEdges l), (5, .row 1 h 0 l.length), (6, vi s.pools.length), (7, vi (s.pools.length + s.locks.length)), (8, vi i), (57, vClss s.cls), (58, vi s.cls.length), (59, vi i), (65, vStps c.steps), (66, vi c.steps.length), (67, vi (k + 1 : Nat))], [(1, vSys s), (9, vCls c)], [], m'⟩ Q := by
      intro us' m' h1 h2 h3
      refine ih (k + 1) us' m' Q hd' h1 (fun us2 m2 e h4 h5 h6 => hq us2 m2 e h4 (h2.trans h5) (fun e he j y hy hh => ?_))
      unfold clE at he
      rcases List.mem_append.1 he with he | he
      · exact h5.2 j (h3 e he j y hy hh)
      · exact h6 e he j y hy hh
    cases hw : waitsE s x with
    | false =>
      rw [hw] at c1
      simp only [↓sxc, sx, se, ↓reduceIte, Nat.reduceEqDiff, Nat.reduceAdd, Nat.reduceLT, Nat.reduceLeDiff, Nat.reduceSub, Nat.reduceMul, Int.reduceToNat, Int.reduceLT, Int.reduceLE, Int.reduceEq, ml_i0, ↓smc, sm, this, hg, c1, wr]
      refine next us m hu .refl (fun e he => ?_)
      simp [stE, hw] at he
    | true =>
      rw [hw] at c1
      have c2 : ∀ {lo m}, callw F 54 [vSys s, vi i, vi k] lo m = some (.tup [ints (uL s (c.steps.take k)), bools (kL s (c.steps.take k)), vi 0], m) := fun {lo m} => sp54 hA s h0 i k c hc (by omega)
      have ul : (uL s (c.steps.take k)).length = s.pools.length := by simp [uL]
      have kl : (kL s (c.steps.take k)).length = s.locks.length := by simp [kL]
      obtain ⟨o1, o2, _⟩ := preE_on hp
      have hn : nOf s x ≤ 10 := by unfold nOf; repeat' split
                                   all_goals omega
      have w1 : wrapF .i64 (x.on + (s.pools.length : Int)) = s.pools.length + x.on := by rw [wr_i64 (by omega) (by omega)]; omega
      have w2 : wrapF .i64 (x.on + ((s.pools.length : Int) + s.locks.length)) = s.pools.length + s.locks.length + x.on := by rw [wr_i64 (by omega) (by omega)]; omega
      have w3 : wrapF .i64 ((s.pools.length : Int) + s.locks.length + s.cls.length) = s.pools.length + s.locks.length + s.cls.length := wr_i64 (by omega) (by omega)
      have fin : ∀ m', Us lo m' h l.length us → ∀ to, to = target s x → W F lo L10_2 ⟨[(3, vEdges l), (5, .row 1 h 0 l.length), (6, vi s.pools.length), (7, vi (s.pools.length + s.locks.length)), (8, vi i), (12, vi to), (13, ints (uL s (c.steps.take k))), (14, bools (kL s (c.steps.take k))), (57, vClss s.cls), (58, vi s.cls.length), (59, vi i), (65, vStps c.steps), (66, vi c.steps.length), (67, vi k), (121, vi (s.pools.length + s.locks.length + s.cls.length)), (122, vi (0 : Nat))], [(1, vSys s), (9, vCls c)], [], m'⟩
          (fun ex st => ∃ us' m' e, ex = .exit 5 ∧ st = ⟨(3, vEdges l) :: (5, .row 1 h 0 l.length) :: (6, vi s.pools.length) :: (7, vi (s.pools.length + s.locks.length)) :: (8, vi i) :: (12, vi to) :: (13, ints (uL s (c.steps.take k))) :: (14, bools (kL s (c.steps.take k))) :: (57, vClss s.cls) :: (58, vi s.cls.length) :: (59, vi i) :: (65, vStps c.steps) :: (66, vi c.steps.length) :: (67, vi k) :: e, [(1, vSys s), (9, vCls c)], [], m'⟩ ∧ Us lo m' h l.length us' ∧ More us us' ∧ (∀ e ∈ stE s i c k x, ∀ (j : Nat) y, l[j]? = some y → hit e.fr e.to y = true → us'[j]? = some true)) := by
        intro m' hu to hto
        subst hto
        refine w10_2 s hv l hl i k c hil (c.steps.take k) (target s x) (fun f hf => ?_) _ 0 us m' _ (Nat.zero_add _) hu (fun us' m' e h1 h2 h3 => ⟨us', m', e, rfl, rfl, h1, h2, fun e he j y hy hh => ?_⟩)
        · obtain ⟨y, hy, e1, e2⟩ := hfd _ (edge_to hc hg hw hf)
          exact ⟨y, hy, e1, e2⟩
        · unfold stE at he
          rw [if_pos hw] at he
          obtain ⟨f, hf, rfl⟩ := List.mem_map.1 he
          obtain ⟨r, hr, _⟩ := hold_nat hf hil
          exact h3 f hf (by omega) j y hy hh
      rcases target_kinds hw with hk | hk | hk
      · have ht : x.on = target s x := by simp [target, hk]
        simp only [↓sxc, sx, se, ↓reduceIte, Nat.reduceEqDiff, Nat.reduceAdd, Nat.reduceLT, Nat.reduceLeDiff, Nat.reduceSub, Nat.reduceMul, Int.reduceToNat, Int.reduceLT, Int.reduceLE, Int.reduceEq, ml_i0, ↓smc, sm, this, hg, c1, c2, ul, kl, w3, hk]
        refine W_mono (fin m hu _ ht) (fun ex st hh => ?_)
        obtain ⟨us', m', e, rfl, rfl, h1, h2, h3⟩ := hh
        simp only [↓sxc, sx, se, ↓reduceIte, Nat.reduceEqDiff, Nat.reduceAdd, Nat.reduceLT, Nat.reduceLeDiff, Nat.reduceSub, Nat.reduceMul, Int.reduceToNat, Int.reduceLT, Int.reduceLE, Int.reduceEq, ml_i0, ↓smc, sm, wr]
        exact next us' m' h1 h2 h3
      · have ht : (s.pools.length : Int) + x.on = target s x := by simp [target, hk]
        simp only [↓sxc, sx, se, ↓reduceIte, Nat.reduceEqDiff, Nat.reduceAdd, Nat.reduceLT, Nat.reduceLeDiff, Nat.reduceSub, Nat.reduceMul, Int.reduceToNat, Int.reduceLT, Int.reduceLE, Int.reduceEq, ml_i0, ↓smc, sm, this, hg, c1, c2, ul, kl, w3, hk, w1]
        refine W_mono (fin m hu _ ht) (fun ex st hh => ?_)
        obtain ⟨us', m', e, rfl, rfl, h1, h2, h3⟩ := hh
        simp only [↓sxc, sx, se, ↓reduceIte, Nat.reduceEqDiff, Nat.reduceAdd, Nat.reduceLT, Nat.reduceLeDiff, Nat.reduceSub, Nat.reduceMul, Int.reduceToNat, Int.reduceLT, Int.reduceLE, Int.reduceEq, ml_i0, ↓smc, sm, wr]
        exact next us' m' h1 h2 h3
      · have ht : (s.pools.length : Int) + s.locks.length + x.on = target s x := by simp [target, hk]
        simp only [↓sxc, sx, se, ↓reduceIte, Nat.reduceEqDiff, Nat.reduceAdd, Nat.reduceLT, Nat.reduceLeDiff, Nat.reduceSub, Nat.reduceMul, Int.reduceToNat, Int.reduceLT, Int.reduceLE, Int.reduceEq, ml_i0, ↓smc, sm, this, hg, c1, c2, ul, kl, w3, hk, w2]
        refine W_mono (fin m hu _ ht) (fun ex st hh => ?_)
        obtain ⟨us', m', e, rfl, rfl, h1, h2, h3⟩ := hh
        simp only [↓sxc, sx, se, ↓reduceIte, Nat.reduceEqDiff, Nat.reduceAdd, Nat.reduceLT, Nat.reduceLeDiff, Nat.reduceSub, Nat.reduceMul, Int.reduceToNat, Int.reduceLT, Int.reduceLE, Int.reduceEq, ml_i0, ↓smc, sm, wr]
        exact next us' m' h1 h2 h3

end Go.Am
