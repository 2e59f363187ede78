/- Verify. -/
import Derived.Test.YtflfnkdhmcfjlaaSpS
import Derived.Test.YtflfnkdhmcfjlaaEdF
namespace Go.Am
open Go
set_option linter.unusedSimpArgs false
set_option linter.unusedVariables false
set_option maxRecDepth 100000

noncomputable def vCert (l : List Int) : V := .agg [ints l]
def outB (n : Int) : Bool := decide (n < 0) || decide (4096 < n)
def lvAt (l : List Int) (r : Int) : Int := l.getD r.toNat 0
def badEdge (l : List Int) (e : Edge) : Bool := decide (lvAt l e.fr ≤ lvAt l e.to)
/-- What Verify returns. -/
def verE (s : Sys) (l : List Int) : Int :=
  if chkE s ≠ 0 then chkE s else if (l.length : Int) ≠ s.pools.length + s.locks.length + s.cls.length then 3 else if l.any outB = true then 3 else if (impA s).2.2 = true then 9 else if (alE s s.cls 0).any (badEdge l) = true then 19 else 0

theorem any_edges {s : Sys} (h0 : chkE s = 0) {l : List Int} : (edgesE s).any (badEdge l) = (alE s s.cls 0).any (badEdge l) := by
  rw [Bool.eq_iff_iff, List.any_eq_true, List.any_eq_true]
  constructor
  · rintro ⟨e, he, h⟩
    exact ⟨e, edgesE_sub he, h⟩
  · rintro ⟨e, he, h⟩
    obtain ⟨y, hy, h1, h2⟩ := edgesE_all h0 he
    exact ⟨y, hy, by unfold badEdge at h ⊢; rw [h1, h2]; exact h⟩

theorem sp119 {F : Nat → Option Fn} (hC : HasC F) {lo : Nat} {m : Mem} (n : Int) : callw F 119 [vi n] lo m = some (.bool (outB n), m) := by
  refine call_p hC.h119 rfl ?_
  by_cases h : n < 0
  · have e : outB n = true := by simp [outB, h]
    simp only [↓sxc, sx, se, ↓reduceIte, Nat.reduceEqDiff, Nat.reduceAdd, Nat.reduceLT, Nat.reduceLeDiff, Nat.reduceSub, Nat.reduceMul, Int.reduceToNat, Int.reduceLT, Int.reduceLE, Int.reduceEq, ml_i0, ↓smc, sm, h, e]
  · have e : outB n = decide (4096 < n) := by simp [outB, h]
    simp only [↓sxc, sx, se, ↓reduceIte, Nat.reduceEqDiff, Nat.reduceAdd, Nat.reduceLT, Nat.reduceLeDiff, Nat.reduceSub, Nat.reduceMul, Int.reduceToNat, Int.reduceLT, Int.reduceLE, Int.reduceEq, ml_i0, ↓smc, sm, h, e]

theorem lv_get {l : List Int} {r : Nat} (h : r < l.length) : l[r]? = some (lvAt l r) := by
  rw [List.getElem?_eq_getElem h]
  simp [lvAt, List.getD, List.getElem?_eq_getElem h]

theorem sp52 {F : Nat → Option Fn} (hA : HasA F) (hB : HasB F) (hC : HasC F) {lo : Nat} {m : Mem} (s : Sys) (l : List Int) (hl : l.length < 1000000) : callw F 52 [vSys s, vCert l] lo m = some (vi (verE s l), m) := by
  have c35 : ∀ {lo m}, callw F 35 [vSys s] lo m = some (.tup [vEdges (edgesE s), vi (chkE s)], m) := fun {lo m} => sp35 hA hB s
  refine call_p hC.h52 rfl ?_
  unfold vCert
  by_cases h0 : chkE s = 0
  · have c29 : ∀ {lo m}, callw F 29 [vSys s] lo m = some (vi (resE s), m) := fun {lo m} => sp29 hA hB s
    have c81 : ∀ {lo m}, callw F 81 [vSys s] lo m = some (.tup [vi (impA s).1, vi (impA s).2.1, .bool (impA s).2.2], m) := fun {lo m} => sp81 hA hC s
    have c120 : ∀ {lo m}, callw F 120 [ints l, .fn 119 []] lo m = some (.bool (l.any outB), m) := fun {lo m} => sx120 hA l (f := 119) (cs := []) (p := outB) Sl.ints ⟨by decide, fun x _ lo m => sp119 hC x⟩ hl
    have er : resE s = s.pools.length + s.locks.length + s.cls.length := by simp [resE, h0]
    by_cases h1 : (l.length : Int) = resE s
    · cases h2 : l.any outB with
      | true =>
        have e : verE s l = 3 := by simp only [verE, h0, h2]; simp
        rw [h2] at c120
        simp only [↓sxc, sx, se, ↓reduceIte, Nat.reduceEqDiff, Nat.reduceAdd, Nat.reduceLT, Nat.reduceLeDiff, Nat.reduceSub, Nat.reduceMul, Int.reduceToNat, Int.reduceLT, Int.reduceLE, Int.reduceEq, ml_i0, ↓smc, sm, c35, h0, c29, h1, c120, e]
      | false =>
        rw [h2] at c120
        cases h3 : (impA s).2.2 with
        | true =>
          have e : verE s l = 9 := by simp only [verE, h0, h2, h3]; simp [← er, h1]
          simp only [↓sxc, sx, se, ↓reduceIte, Nat.reduceEqDiff, Nat.reduceAdd, Nat.reduceLT, Nat.reduceLeDiff, Nat.reduceSub, Nat.reduceMul, Int.reduceToNat, Int.reduceLT, Int.reduceLE, Int.reduceEq, ml_i0, ↓smc, sm, c35, h0, c29, h1, c120, c81, h3, e]
        | false =>
          have ev : verE s l = if (edgesE s).any (badEdge l) = true then 19 else 0 := by rw [any_edges h0]; simp only [verE, h0, h2, h3]; simp [← er, h1]
          have hel := edgesE_len' h0
          have loop : ∀ (t : List Edge) (j : Nat) (n : Nat) (Q : Ex → St → Prop), (edgesE s).drop j = t →
              (t.any (badEdge l) = true → ∀ n, Q .ret ⟨[(4, vi 19)], [], [], m.bump n⟩) → (t.any (badEdge l) = false → ∀ n e, Q (.exit 0) ⟨e, [(3, .agg [ints l])], [], m.bump n⟩) →
              W F m.next L52_1 ⟨[(40, vEdges (edgesE s)), (41, vi (edgesE s).length), (42, vi j)], [(3, .agg [ints l])], [], m.bump n⟩ Q := by
            intro t
            induction t with
            | nil =>
              intro j n Q hd q1 q2
              have hlt := drop_nil hd
              rw [W_L (c := L52_1) rfl]
              have : ¬ ((j : Nat) : Int) < ((edgesE s).length : Int) := by omega
              simp only [↓sxc, sx, se, ↓reduceIte, Nat.reduceEqDiff, Nat.reduceAdd, Nat.reduceLT, Nat.reduceLeDiff, Nat.reduceSub, Nat.reduceMul, Int.reduceToNat, Int.reduceLT, Int.reduceLE, Int.reduceEq, ml_i0, ↓smc, sm, this]
              exact q2 rfl _ _
            | cons x t ih =>
              intro j n Q hd q1 q2
              obtain ⟨hg, hd', hlt⟩ := drop_cons hd
              rw [W_L (c := L52_1) rfl]
              have : ((j : Nat) : Int) < ((edgesE s).length : Int) := by omega
              have wr : wrapF .i64 ((j : Int) + 1) = ((j + 1 : Nat) : Int) := by rw [wr_i64 (by omega) (by omega)]; rfl
              obtain ⟨⟨a, ha, ha2⟩, ⟨b, hb, hb2⟩⟩ := edge_rng h0 (edgesE_sub (List.mem_of_getElem? hg))
              have ga := lv_get (l := l) (r := a) (by omega)
              have gb := lv_get (l := l) (r := b) (by omega)
              have a0 : (0 : Int) ≤ a := by omega
              have b0 : (0 : Int) ≤ b := by omega
              have an : ((a : Nat) : Int).toNat = a := rfl
              have bn : ((b : Nat) : Int).toNat = b := rfl
              by_cases hx : lvAt l a ≤ lvAt l b
              · have e : (x :: t).any (badEdge l) = true := by simp [badEdge, ha, hb, hx]
                simp only [↓sxc, sx, se, ↓reduceIte, Nat.reduceEqDiff, Nat.reduceAdd, Nat.reduceLT, Nat.reduceLeDiff, Nat.reduceSub, Nat.reduceMul, Int.reduceToNat, Int.reduceLT, Int.reduceLE, Int.reduceEq, ml_i0, ↓smc, sm, this, hg, ha, hb, ga, gb, a0, b0, an, bn, hx]
                exact q1 e _
              · have e : (x :: t).any (badEdge l) = t.any (badEdge l) := by simp [badEdge, ha, hb, hx]
                rw [e] at q1 q2
                simp only [↓sxc, sx, se, ↓reduceIte, Nat.reduceEqDiff, Nat.reduceAdd, Nat.reduceLT, Nat.reduceLeDiff, Nat.reduceSub, Nat.reduceMul, Int.reduceToNat, Int.reduceLT, Int.reduceLE, Int.reduceEq, ml_i0, ↓smc, sm, this, hg, ha, hb, ga, gb, a0, b0, an, bn, hx, wr]
                exact ih (j + 1) _ Q hd' q1 q2
          simp only [↓sxc, sx, se, ↓reduceIte, Nat.reduceEqDiff, Nat.reduceAdd, Nat.reduceLT, Nat.reduceLeDiff, Nat.reduceSub, Nat.reduceMul, Int.reduceToNat, Int.reduceLT, Int.reduceLE, Int.reduceEq, ml_i0, ↓smc, sm, c35, h0, c29, h1, c120, c81, h3]
          refine loop (edgesE s) 0 _ _ rfl (fun h n => ?_) (fun h n e => ?_)
          · simp only [↓sxc, sx, se, ↓reduceIte, Nat.reduceEqDiff, Nat.reduceAdd, Nat.reduceLT, Nat.reduceLeDiff, Nat.reduceSub, Nat.reduceMul, Int.reduceToNat, Int.reduceLT, Int.reduceLE, Int.reduceEq, ml_i0, ↓smc, sm, ev, h]
          · simp only [↓sxc, sx, se, ↓reduceIte, Nat.reduceEqDiff, Nat.reduceAdd, Nat.reduceLT, Nat.reduceLeDiff, Nat.reduceSub, Nat.reduceMul, Int.reduceToNat, Int.reduceLT, Int.reduceLE, Int.reduceEq, ml_i0, ↓smc, sm, ev, h]
    · have e : verE s l = 3 := by
        have : (l.length : Int) ≠ s.pools.length + s.locks.length + s.cls.length := by rw [← er]; exact h1
        simp [verE, h0, this]
      simp only [↓sxc, sx, se, ↓reduceIte, Nat.reduceEqDiff, Nat.reduceAdd, Nat.reduceLT, Nat.reduceLeDiff, Nat.reduceSub, Nat.reduceMul, Int.reduceToNat, Int.reduceLT, Int.reduceLE, Int.reduceEq, ml_i0, ↓smc, sm, c35, h0, c29, h1, e]
  · have e : verE s l = chkE s := by simp [verE, h0]
    simp only [↓sxc, sx, se, ↓reduceIte, Nat.reduceEqDiff, Nat.reduceAdd, Nat.reduceLT, Nat.reduceLeDiff, Nat.reduceSub, Nat.reduceMul, Int.reduceToNat, Int.reduceLT, Int.reduceLE, Int.reduceEq, ml_i0, ↓smc, sm, c35, h0, e]

end Go.Am
