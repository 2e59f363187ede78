/- The reference's Verify. -/
import Derived.Test.YtflfnkdhmcfjlaaSpT
namespace Go.Am
open Go
set_option linter.unusedSimpArgs false
set_option linter.unusedVariables false
set_option maxRecDepth 100000

theorem sp88 {F : Nat → Option Fn} (hA : HasA F) (hB : HasB F) (hC : HasC F) {lo : Nat} {m : Mem} (s : Sys) (l : List Int) (hl : l.length < 1000000) : callw F 88 [vSys s, vCert l] lo m = some (vi (verE s l), m) := by
  have c91 : ∀ {lo m}, callw F 91 [vSys s] lo m = some (vi (chkE s), m) := fun {lo m} => sp91 hA s
  refine call_p hC.h88 rfl ?_
  unfold vCert
  by_cases h0 : chkE s = 0
  · have hv := valid_of h0
    have p6 := hv.p6
    have l4 := hv.l4
    have c6 := hv.c6
    have c30 : ∀ {lo m}, callw F 30 [vSys s] lo m = some (vi (resE s), m) := fun {lo m} => sp30 hA hB s
    have c82 : ∀ {lo m}, callw F 82 [vSys s] lo m = some (.tup [vi (impA s).1, vi (impA s).2.1, .bool (impA s).2.2], m) := fun {lo m} => sp82 hA hC s
    have er : resE s = s.pools.length + s.locks.length + s.cls.length := by simp [resE, h0]
    have loop0 : ∀ (t : List Int) (j : Nat) (n : Nat) (Q : Ex → St → Prop), l.drop j = t →
        (t.any outB = true → ∀ n, Q .ret ⟨[(4, vi 3)], [], [], m.bump n⟩) → (t.any outB = false → ∀ n e, Q (.exit 0) ⟨e, [(2, vSys s), (3, .agg [ints l])], [], m.bump n⟩) →
        W F m.next L88_1 ⟨[(6, vi j)], [(2, vSys s), (3, .agg [ints l])], [], m.bump n⟩ Q := by
      intro t
      induction t with
      | nil =>
        intro j n Q hd q1 q2
        have hlt := drop_nil hd
        rw [W_L (c := L88_1) rfl]
        have : ¬ ((j : Nat) : Int) < (l.length : Int) := by omega
        simp only [↓sxc, sx, se, ↓reduceIte, Nat.reduceEqDiff, Nat.reduceAdd, Nat.reduceLT, Nat.reduceLeDiff, Nat.reduceSub, Nat.reduceMul, Int.reduceToNat, Int.reduceLT, Int.reduceLE, Int.reduceEq, ml_i0, ↓smc, sm, this]
        exact q2 rfl _ _
      | cons x t ih =>
        intro j n Q hd q1 q2
        obtain ⟨hg, hd', hlt⟩ := drop_cons hd
        rw [W_L (c := L88_1) rfl]
        have : ((j : Nat) : Int) < (l.length : Int) := by omega
        have j0 : ((j : Nat) : Int).toNat = j := rfl
        have p0 : (0 : Int) ≤ j := by omega
        have wr : wrapF .i64 ((j : Int) + 1) = ((j + 1 : Nat) : Int) := by rw [wr_i64 (by omega) (by omega)]; rfl
        by_cases h1 : x < 0
        · have e : (x :: t).any outB = true := by simp [outB, h1]
          simp only [↓sxc, sx, se, ↓reduceIte, Nat.reduceEqDiff, Nat.reduceAdd, Nat.reduceLT, Nat.reduceLeDiff, Nat.reduceSub, Nat.reduceMul, Int.reduceToNat, Int.reduceLT, Int.reduceLE, Int.reduceEq, ml_i0, ↓smc, sm, this, hg, h1, j0, p0]
          exact q1 e _
        · by_cases h2 : 4096 < x
          · have e : (x :: t).any outB = true := by simp [outB, h2]
            simp only [↓sxc, sx, se, ↓reduceIte, Nat.reduceEqDiff, Nat.reduceAdd, Nat.reduceLT, Nat.reduceLeDiff, Nat.reduceSub, Nat.reduceMul, Int.reduceToNat, Int.reduceLT, Int.reduceLE, Int.reduceEq, ml_i0, ↓smc, sm, this, hg, h1, h2, j0, p0]
            exact q1 e _
          · have e : (x :: t).any outB = t.any outB := by simp [outB, h1, h2]
            rw [e] at q1 q2
            simp only [↓sxc, sx, se, ↓reduceIte, Nat.reduceEqDiff, Nat.reduceAdd, Nat.reduceLT, Nat.reduceLeDiff, Nat.reduceSub, Nat.reduceMul, Int.reduceToNat, Int.reduceLT, Int.reduceLE, Int.reduceEq, ml_i0, ↓smc, sm, this, hg, h1, h2, j0, p0, wr]
            exact ih (j + 1) n Q hd' q1 q2
    by_cases h1 : (l.length : Int) = resE s
    · cases h2 : l.any outB with
      | true =>
        have e : verE s l = 3 := by simp only [verE, h0, h2]; simp
        simp only [↓sxc, sx, se, ↓reduceIte, Nat.reduceEqDiff, Nat.reduceAdd, Nat.reduceLT, Nat.reduceLeDiff, Nat.reduceSub, Nat.reduceMul, Int.reduceToNat, Int.reduceLT, Int.reduceLE, Int.reduceEq, ml_i0, ↓smc, sm, c91, h0, c30, h1]
        refine loop0 l 0 _ _ rfl (fun h n => ?_) (fun h n e1 => ?_)
        · simp only [↓sxc, sx, se, ↓reduceIte, Nat.reduceEqDiff, Nat.reduceAdd, Nat.reduceLT, Nat.reduceLeDiff, Nat.reduceSub, Nat.reduceMul, Int.reduceToNat, Int.reduceLT, Int.reduceLE, Int.reduceEq, ml_i0, ↓smc, sm, e]
        · rw [h2] at h; cases h
      | false =>
        have ev : verE s l = if (impA s).2.2 = true then 9 else if (alE s s.cls 0).any (badEdge l) = true then 19 else 0 := by simp only [verE, h0, h2]; simp [← er, h1]
        have loop1 : ∀ (i k : Nat) (to : Int) (hs : List Int), hs.length < 100 → (∃ r : Nat, to = r ∧ r < l.length) → (∀ f ∈ hs, ∃ r : Nat, f = r ∧ r < l.length) → ∀ (t : List Int) (j : Nat) (n : Nat) (Q : Ex → St → Prop), hs.drop j = t →
            ((t.map fun f => (⟨f, to, i, k⟩ : Edge)).any (badEdge l) = true → ∀ n, Q .ret ⟨[(4, vi 19)], [], [], m.bump n⟩) → ((t.map fun f => (⟨f, to, i, k⟩ : Edge)).any (badEdge l) = false → ∀ n e, Q (.exit 6) ⟨(10, vi i) :: (11, vi k) :: e, [(2, vSys s), (3, .agg [ints l])], [], m.bump n⟩) →
            W F m.next L88_2 ⟨[(10, vi i), (11, vi k), (12, ints hs), (13, vi to), (14, vi j)], [(2, vSys s), (3, .agg [ints l])], [], m.bump n⟩ Q := by
          intro i k to hs hsl hto hfr t
          induction t with
          | nil =>
            intro j n Q hd q1 q2
            have hlt := drop_nil hd
            rw [W_L (c := L88_2) rfl]
            have : ¬ ((j : Nat) : Int) < (hs.length : Int) := by omega
            simp only [↓sxc, sx, se, ↓reduceIte, Nat.reduceEqDiff, Nat.reduceAdd, Nat.reduceLT, Nat.reduceLeDiff, Nat.reduceSub, Nat.reduceMul, Int.reduceToNat, Int.reduceLT, Int.reduceLE, Int.reduceEq, ml_i0, ↓smc, sm, this]
            exact q2 rfl _ _
          | cons x t ih =>
            intro j n Q hd q1 q2
            obtain ⟨hg, hd', hlt⟩ := drop_cons hd
            rw [W_L (c := L88_2) rfl]
            have : ((j : Nat) : Int) < (hs.length : Int) := by omega
            have j0 : ((j : Nat) : Int).toNat = j := rfl
            have p0 : (0 : Int) ≤ j := by omega
            have wr : wrapF .i64 ((j : Int) + 1) = ((j + 1 : Nat) : Int) := by rw [wr_i64 (by omega) (by omega)]; rfl
            obtain ⟨b, hb, hb2⟩ := hto
            obtain ⟨a, ha, ha2⟩ := hfr x (List.mem_of_getElem? hg)
            subst ha
            subst hb
            have ga := lv_get (l := l) (r := a) ha2
            have gb := lv_get (l := l) (r := b) hb2
            have a0 : (0 : Int) ≤ a := by omega
            have b0 : (0 : Int) ≤ b := by omega
            have an : ((a : Nat) : Int).toNat = a := rfl
            have bn : ((b : Nat) : Int).toNat = b := rfl
            rw [List.map_cons, List.any_cons] at q1 q2
            by_cases hx : lvAt l a ≤ lvAt l b
            · simp only [↓sxc, sx, se, ↓reduceIte, Nat.reduceEqDiff, Nat.reduceAdd, Nat.reduceLT, Nat.reduceLeDiff, Nat.reduceSub, Nat.reduceMul, Int.reduceToNat, Int.reduceLT, Int.reduceLE, Int.reduceEq, ml_i0, ↓smc, sm, this, hg, ga, gb, a0, b0, an, bn, hx, j0, p0]
              exact q1 (by simp [badEdge, hx]) _
            · have e : badEdge l ⟨a, b, i, k⟩ = false := by simp [badEdge]; omega
              rw [e, Bool.false_or] at q1 q2
              simp only [↓sxc, sx, se, ↓reduceIte, Nat.reduceEqDiff, Nat.reduceAdd, Nat.reduceLT, Nat.reduceLeDiff, Nat.reduceSub, Nat.reduceMul, Int.reduceToNat, Int.reduceLT, Int.reduceLE, Int.reduceEq, ml_i0, ↓smc, sm, this, hg, ga, gb, a0, b0, an, bn, hx, wr, j0, p0]
              exact ih (j + 1) _ Q hd' q1 q2
        have loop2 : ∀ (i : Nat) (c : Cls) (hc : s.cls[i]? = some c) (t : List Stp) (k : Nat) (n : Nat) (Q : Ex → St → Prop), c.steps.drop k = t →
            ((clE s i c t k).any (badEdge l) = true → ∀ n, Q .ret ⟨[(4, vi 19)], [], [], m.bump n⟩) → ((clE s i c t k).any (badEdge l) = false → ∀ n e, Q (.exit 4) ⟨(10, vi i) :: e, [(2, vSys s), (3, .agg [ints l])], [], m.bump n⟩) →
            W F m.next L88_3 ⟨[(10, vi i), (11, vi k)], [(2, vSys s), (3, .agg [ints l])], [], m.bump n⟩ Q := by
          intro i c hc t
          have hcm := List.mem_of_getElem? hc
          have hil := (List.getElem?_eq_some_iff.1 hc).1
          have hl12 := (hv.okC c hcm).l12
          have i0 : ((i : Nat) : Int).toNat = i := rfl
          have p0 : (0 : Int) ≤ (i : Int) := by omega
          induction t with
          | nil =>
            intro k n Q hd q1 q2
            have hlt := drop_nil hd
            rw [W_L (c := L88_3) rfl]
            have : ¬ ((k : Nat) : Int) < (c.steps.length : Int) := by omega
            simp only [↓sxc, sx, se, ↓reduceIte, Nat.reduceEqDiff, Nat.reduceAdd, Nat.reduceLT, Nat.reduceLeDiff, Nat.reduceSub, Nat.reduceMul, Int.reduceToNat, Int.reduceLT, Int.reduceLE, Int.reduceEq, ml_i0, ↓smc, sm, hc, i0, p0, this]
            exact q2 rfl _ _
          | cons x t ih =>
            intro k n Q hd q1 q2
            obtain ⟨hg, hd', hlt⟩ := drop_cons hd
            rw [W_L (c := L88_3) rfl]
            have : ((k : Nat) : Int) < (c.steps.length : Int) := by omega
            have wr : wrapF .i64 ((k : Int) + 1) = ((k + 1 : Nat) : Int) := by rw [wr_i64 (by omega) (by omega)]; rfl
            have hp := hv.pre hcm (List.mem_of_getElem? hg)
            have hmw : mayWait s i k = waitsE s x := by
              have a1 : ¬ ((i : Int) < 0) := by omega
              have a2 : ¬ ((k : Int) < 0) := by omega
              simp [mayWait, h0, a1, a2, stepAt, hc, hg]
            have c1 : ∀ {lo m}, callw F 34 [vSys s, vi i, vi k] lo m = some (.bool (waitsE s x), m) := fun {lo m} => by rw [← hmw]; exact sp34 hA hB s i k
            have k0 : ((k : Nat) : Int).toNat = k := rfl
            have p1 : (0 : Int) ≤ (k : Int) := by omega
            have ecl : clE s i c (x :: t) k = stE s i c k x ++ clE s i c t (k + 1) := rfl
            cases hw : waitsE s x with
            | false =>
              rw [hw] at c1
              have est : stE s i c k x = [] := by simp [stE, hw]
              rw [ecl, est, List.nil_append] at q1 q2
              simp only [↓sxc, sx, se, ↓reduceIte, Nat.reduceEqDiff, Nat.reduceAdd, Nat.reduceLT, Nat.reduceLeDiff, Nat.reduceSub, Nat.reduceMul, Int.reduceToNat, Int.reduceLT, Int.reduceLE, Int.reduceEq, ml_i0, ↓smc, sm, hc, i0, p0, this, c1, wr]
              exact ih (k + 1) n Q hd' q1 q2
            | true =>
              rw [hw] at c1
              have c2 : ∀ {lo m}, callw F 100 [vSys s, vStp x] lo m = some (vi (target s x), m) := fun {lo m} => sp100 hB s x hv hp
              have c3 : ∀ {lo m}, callw F 99 [vSys s, vi i, vi k] lo m = some (ints (hold s i c (c.steps.take k)), m) := fun {lo m} => sp99 hA hB s h0 i k c hc (by omega)
              have hhl := hold_len (s := s) (i := i) (c := c) (l := c.steps.take k)
              have ht := target_rng hp hw
              have e1 : ((hold s i c (c.steps.take k)).map fun f => (⟨f, target s x, i, k⟩ : Edge)) = stE s i c k x := by unfold stE; rw [if_pos hw]
              rw [ecl, List.any_append] at q1 q2
              simp only [↓sxc, sx, se, ↓reduceIte, Nat.reduceEqDiff, Nat.reduceAdd, Nat.reduceLT, Nat.reduceLeDiff, Nat.reduceSub, Nat.reduceMul, Int.reduceToNat, Int.reduceLT, Int.reduceLE, Int.reduceEq, ml_i0, ↓smc, sm, hc, i0, p0, this, c1, c2, c3, hg, k0, p1]
              refine loop1 i k (target s x) (hold s i c (c.steps.take k)) (by omega) ⟨(target s x).toNat, by omega, by omega⟩ (fun f hf => by
                obtain ⟨r, h2, h3⟩ := hold_nat hf hil
                exact ⟨r, h2, by omega⟩) _ 0 _ _ rfl (fun h n => ?_) (fun h n e => ?_)
              · rw [List.drop_zero, e1] at h
                simp only [↓sxc, sx, se, ↓reduceIte, Nat.reduceEqDiff, Nat.reduceAdd, Nat.reduceLT, Nat.reduceLeDiff, Nat.reduceSub, Nat.reduceMul, Int.reduceToNat, Int.reduceLT, Int.reduceLE, Int.reduceEq, ml_i0, ↓smc, sm]
                exact q1 (by rw [h, Bool.true_or]) n
              · rw [List.drop_zero, e1] at h
                rw [h, Bool.false_or] at q1 q2
                simp only [↓sxc, sx, se, ↓reduceIte, Nat.reduceEqDiff, Nat.reduceAdd, Nat.reduceLT, Nat.reduceLeDiff, Nat.reduceSub, Nat.reduceMul, Int.reduceToNat, Int.reduceLT, Int.reduceLE, Int.reduceEq, ml_i0, ↓smc, sm, wr]
                exact ih (k + 1) n Q hd' q1 q2
        have loop3 : ∀ (t : List Cls) (i : Nat) (n : Nat) (Q : Ex → St → Prop), s.cls.drop i = t →
            ((alE s t i).any (badEdge l) = true → ∀ n, Q .ret ⟨[(4, vi 19)], [], [], m.bump n⟩) → ((alE s t i).any (badEdge l) = false → ∀ n e, Q (.exit 2) ⟨e, [(2, vSys s), (3, .agg [ints l])], [], m.bump n⟩) →
            W F m.next L88_4 ⟨[(10, vi i)], [(2, vSys s), (3, .agg [ints l])], [], m.bump n⟩ Q := by
          intro t
          induction t with
          | nil =>
            intro i n Q hd q1 q2
            have hlt := drop_nil hd
            rw [W_L (c := L88_4) rfl]
            have : ¬ ((i : Nat) : Int) < (s.cls.length : Int) := by omega
            simp only [↓sxc, sx, se, ↓reduceIte, Nat.reduceEqDiff, Nat.reduceAdd, Nat.reduceLT, Nat.reduceLeDiff, Nat.reduceSub, Nat.reduceMul, Int.reduceToNat, Int.reduceLT, Int.reduceLE, Int.reduceEq, ml_i0, ↓smc, sm, this]
            exact q2 rfl _ _
          | cons c t ih =>
            intro i n Q hd q1 q2
            obtain ⟨hg, hd', hlt⟩ := drop_cons hd
            rw [W_L (c := L88_4) rfl]
            have : ((i : Nat) : Int) < (s.cls.length : Int) := by omega
            have wr : wrapF .i64 ((i : Int) + 1) = ((i + 1 : Nat) : Int) := by rw [wr_i64 (by omega) (by omega)]; rfl
            have eal : alE s (c :: t) i = clE s i c c.steps 0 ++ alE s t (i + 1) := rfl
            rw [eal, List.any_append] at q1 q2
            simp only [↓sxc, sx, se, ↓reduceIte, Nat.reduceEqDiff, Nat.reduceAdd, Nat.reduceLT, Nat.reduceLeDiff, Nat.reduceSub, Nat.reduceMul, Int.reduceToNat, Int.reduceLT, Int.reduceLE, Int.reduceEq, ml_i0, ↓smc, sm, this]
            refine loop2 i c hg c.steps 0 _ _ rfl (fun h n => ?_) (fun h n e => ?_)
            · simp only [↓sxc, sx, se, ↓reduceIte, Nat.reduceEqDiff, Nat.reduceAdd, Nat.reduceLT, Nat.reduceLeDiff, Nat.reduceSub, Nat.reduceMul, Int.reduceToNat, Int.reduceLT, Int.reduceLE, Int.reduceEq, ml_i0, ↓smc, sm]
              exact q1 (by rw [h, Bool.true_or]) n
            · rw [h, Bool.false_or] at q1 q2
              simp only [↓sxc, sx, se, ↓reduceIte, Nat.reduceEqDiff, Nat.reduceAdd, Nat.reduceLT, Nat.reduceLeDiff, Nat.reduceSub, Nat.reduceMul, Int.reduceToNat, Int.reduceLT, Int.reduceLE, Int.reduceEq, ml_i0, ↓smc, sm, wr]
              exact ih (i + 1) n Q hd' q1 q2
        simp only [↓sxc, sx, se, ↓reduceIte, Nat.reduceEqDiff, Nat.reduceAdd, Nat.reduceLT, Nat.reduceLeDiff, Nat.reduceSub, Nat.reduceMul, Int.reduceToNat, Int.reduceLT, Int.reduceLE, Int.reduceEq, ml_i0, ↓smc, sm, c91, h0, c30, h1]
        refine loop0 l 0 _ _ rfl (fun h n => ?_) (fun h n e1 => ?_)
        · rw [h2] at h; cases h
        · cases h3 : (impA s).2.2 with
          | true =>
            have e : verE s l = 9 := by rw [ev, h3]; rfl
            simp only [↓sxc, sx, se, ↓reduceIte, Nat.reduceEqDiff, Nat.reduceAdd, Nat.reduceLT, Nat.reduceLeDiff, Nat.reduceSub, Nat.reduceMul, Int.reduceToNat, Int.reduceLT, Int.reduceLE, Int.reduceEq, ml_i0, ↓smc, sm, c82, h3, e]
          | false =>
            rw [h3] at ev
            simp only [↓sxc, sx, se, ↓reduceIte, Nat.reduceEqDiff, Nat.reduceAdd, Nat.reduceLT, Nat.reduceLeDiff, Nat.reduceSub, Nat.reduceMul, Int.reduceToNat, Int.reduceLT, Int.reduceLE, Int.reduceEq, ml_i0, ↓smc, sm, c82, h3]
            refine loop3 s.cls 0 n _ rfl (fun h n => ?_) (fun h n e => ?_)
            · rw [h] at ev
              have e : verE s l = 19 := by rw [ev]; rfl
              simp only [↓sxc, sx, se, ↓reduceIte, Nat.reduceEqDiff, Nat.reduceAdd, Nat.reduceLT, Nat.reduceLeDiff, Nat.reduceSub, Nat.reduceMul, Int.reduceToNat, Int.reduceLT, Int.reduceLE, Int.reduceEq, ml_i0, ↓smc, sm, e]
            · rw [h] at ev
              have e : verE s l = 0 := by rw [ev]; rfl
              simp only [↓sxc, sx, se, ↓reduceIte, Nat.reduceEqDiff, Nat.reduceAdd, Nat.reduceLT, Nat.reduceLeDiff, Nat.reduceSub, Nat.reduceMul, Int.reduceToNat, Int.reduceLT, Int.reduceLE, Int.reduceEq, ml_i0, ↓smc, sm, e]
    · have e : verE s l = 3 := by
        have : (l.length : Int) ≠ s.pools.length + s.locks.length + s.cls.length := by rw [← er]; exact h1
        simp [verE, h0, this]
      simp only [↓sxc, sx, se, ↓reduceIte, Nat.reduceEqDiff, Nat.reduceAdd, Nat.reduceLT, Nat.reduceLeDiff, Nat.reduceSub, Nat.reduceMul, Int.reduceToNat, Int.reduceLT, Int.reduceLE, Int.reduceEq, ml_i0, ↓smc, sm, c91, h0, c30, h1, e]
  · have e : verE s l = chkE s := by simp [verE, h0]
    simp only [↓sxc, sx, se, ↓reduceIte, Nat.reduceEqDiff, Nat.reduceAdd, Nat.reduceLT, Nat.reduceLeDiff, Nat.reduceSub, Nat.reduceMul, Int.reduceToNat, Int.reduceLT, Int.reduceLE, Int.reduceEq, ml_i0, ↓smc, sm, c91, h0, e]

end Go.Am
