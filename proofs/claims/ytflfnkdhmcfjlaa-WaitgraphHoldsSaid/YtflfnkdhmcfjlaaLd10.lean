/- The law WaitgraphHolds holds: for each step that may wait there is an edge from everything that its class holds to what it waits for, and there are no other edges; no conditions. -/
import Derived.Test.YtflfnkdhmcfjlaaAw42
import Derived.Test.YtflfnkdhmcfjlaaSpR
import Derived.Test.YtflfnkdhmcfjlaaDat
import Derived.Test.YtflfnkdhmcfjlaaRwa
namespace Go.Am
open Go
set_option linter.unusedSimpArgs false
set_option linter.unusedVariables false
set_option maxRecDepth 100000

theorem w10_4 {F : Nat → Option Fn} (hA : HasA F) (hB : HasB F) {lo h : Nat} (s : Sys) (h0 : chkE s = 0) (l : List Edge) (hl : l.length < 100000)
    (hfd : ∀ e ∈ alE s s.cls 0, ∃ x ∈ l, x.fr = e.fr ∧ x.to = e.to) : ∀ (t : List Cls) (i : Nat) (us : List Bool) (m : Mem) (Q : Ex → St → Prop), s.cls.drop i = t → Us lo m h l.length us →
    (∀ us' m' e, Us lo m' h l.length us' → (∀ e ∈ alE s t i, ∀ (j : Nat) y, l[j]? = some y → hit e.fr e.to y = true → us'[j]? = some true) → More us us' →
      Q (.exit 0) ⟨(3, vEdges l) :: (5, .row 1 h 0 l.length) :: e, [(1, vSys s)], [], m'⟩) →
    W F lo L10_4 ⟨[(3, vEdges l), (5, .row 1 h 0 l.length), (6, vi s.pools.length), (7, vi (s.pools.length + s.locks.length)), (57, vClss s.cls), (58, vi s.cls.length), (59, vi i)], [(1, vSys s)], [], m⟩ Q := by
  have hv := valid_of h0
  have c6 := hv.c6
  intro t
  induction t with
  | nil =>
    intro i us m Q hd hu hq
    have hlt := drop_nil hd
    rw [W_L (c := L10_4) rfl]
    have : ¬ ((i : Nat) : Int) < (s.cls.length : Int) := by omega
    simp only [↓sxc, sx, se, ↓reduceIte, Nat.reduceEqDiff, Nat.reduceAdd, Nat.reduceLT, Nat.reduceLeDiff, Nat.reduceSub, Nat.reduceMul, Int.reduceToNat, Int.reduceLT, Int.reduceLE, Int.reduceEq, ml_i0, ↓smc, sm, this]
    exact hq us m _ hu (fun e he => by simp [alE] at he) .refl
  | cons c t ih =>
    intro i us m Q hd hu hq
    obtain ⟨hg, hd', hlt⟩ := drop_cons hd
    rw [W_L (c := L10_4) rfl]
    have : ((i : Nat) : Int) < (s.cls.length : Int) := by omega
    have wr : wrapF .i64 ((i : Int) + 1) = ((i + 1 : Nat) : Int) := by rw [wr_i64 (by omega) (by omega)]; rfl
    simp only [↓sxc, sx, se, ↓reduceIte, Nat.reduceEqDiff, Nat.reduceAdd, Nat.reduceLT, Nat.reduceLeDiff, Nat.reduceSub, Nat.reduceMul, Int.reduceToNat, Int.reduceLT, Int.reduceLE, Int.reduceEq, ml_i0, ↓smc, sm, this, hg]
    refine w10_3 hA hB s h0 l hl i c hg hfd c.steps 0 us m _ rfl hu (fun us' m' e h1 h2 h3 => ?_)
    simp only [↓sxc, sx, se, ↓reduceIte, Nat.reduceEqDiff, Nat.reduceAdd, Nat.reduceLT, Nat.reduceLeDiff, Nat.reduceSub, Nat.reduceMul, Int.reduceToNat, Int.reduceLT, Int.reduceLE, Int.reduceEq, ml_i0, ↓smc, sm, wr]
    refine ih (i + 1) us' m' Q hd' h1 (fun us2 m2 e h4 h5 h6 => hq us2 m2 e h4 (fun e he j y hy hh => ?_) (h2.trans h6))
    unfold alE at he
    rcases List.mem_append.1 he with he | he
    · exact h6.2 j (h3 e he j y hy hh)
    · exact h5 e he j y hy hh

theorem w10_5 {F : Nat → Option Fn} {lo h : Nat} (s : Sys) (l : List Edge) (hl : l.length < 100000) (us : List Bool)
    (hus : ∀ j : Nat, j < l.length → us[j]? = some true) (hf : ∀ e ∈ l, ∃ (i k : Nat) (c : Cls), s.cls[i]? = some c ∧ k < c.steps.length ∧ e.cls = i ∧ e.step = k) :
    ∀ (t : List Edge) (j : Nat) (m : Mem) (Q : Ex → St → Prop), l.drop j = t → Us lo m h l.length us →
    (∀ m' e, Q (.exit 9) ⟨e, [(1, vSys s)], [], m'⟩) →
    W F lo L10_5 ⟨[(5, .row 1 h 0 l.length), (200, vEdges l), (201, vi l.length), (202, vi j)], [(1, vSys s)], [], m⟩ Q := by
  intro t
  induction t with
  | nil =>
    intro j m Q hd hu hq
    have hlt := drop_nil hd
    rw [W_L (c := L10_5) rfl]
    have : ¬ ((j : Nat) : Int) < (l.length : Int) := by omega
    simp only [↓sxc, sx, se, ↓reduceIte, Nat.reduceEqDiff, Nat.reduceAdd, Nat.reduceLT, Nat.reduceLeDiff, Nat.reduceSub, Nat.reduceMul, Int.reduceToNat, Int.reduceLT, Int.reduceLE, Int.reduceEq, ml_i0, ↓smc, sm, this]
    exact hq m _
  | cons x t ih =>
    intro j m Q hd hu hq
    obtain ⟨hg, hd', hlt⟩ := drop_cons hd
    rw [W_L (c := L10_5) rfl]
    have : ((j : Nat) : Int) < (l.length : Int) := by omega
    have wr : wrapF .i64 ((j : Int) + 1) = ((j + 1 : Nat) : Int) := by rw [wr_i64 (by omega) (by omega)]; rfl
    obtain ⟨i, k, c, hc, hk, e1, e2⟩ := hf x (List.mem_of_getElem? hg)
    have hil := (List.getElem?_eq_some_iff.1 hc).1
    have a1 : ¬ ((i : Int) < 0) := by omega
    have a2 : ¬ ((s.cls.length : Int) ≤ i) := by omega
    have a3 : ¬ ((k : Int) < 0) := by omega
    have a4 : ¬ ((c.steps.length : Int) ≤ k) := by omega
    have a5 : (0 : Int) ≤ i := by omega
    have a6 : ((i : Nat) : Int).toNat = i := rfl
    have hj := hus j hlt
    have hub := hu.b
    have hul := hu.lo
    simp only [↓sxc, sx, se, ↓reduceIte, Nat.reduceEqDiff, Nat.reduceAdd, Nat.reduceLT, Nat.reduceLeDiff, Nat.reduceSub, Nat.reduceMul, Int.reduceToNat, Int.reduceLT, Int.reduceLE, Int.reduceEq, ml_i0, ↓smc, sm, this, hg, e1, e2, a1, a2, a3, a4, a5, a6, hc, hub, hul, hj, wr]
    exact ih (j + 1) _ Q hd' ⟨hu.lo, hu.ln, hu.b⟩ hq

theorem law10 (us : List V) (h : HasAll [tSys] us) : ∃ m, callw F42 10 us 0 m0 = some (.bool true, m) := by
  obtain ⟨u1, us, rfl, h1, h⟩ := all_cons h
  obtain rfl := all_nil h
  obtain ⟨s, rfl⟩ := open_sys h1
  refine ⟨m0, ?_⟩
  have c28 : ∀ {lo m}, callw F42 28 [vSys s] lo m = some (.bool (few s), m) := fun {lo m} => sp28 hasA s
  have c49 : ∀ {lo m}, callw F42 49 [vSys s] lo m = some (vi (chkE s), m) := fun {lo m} => sp49 hasA s
  have c35 : ∀ {lo m}, callw F42 35 [vSys s] lo m = some (.tup [vEdges (edgesE s), vi (chkE s)], m) := fun {lo m} => sp35 hasA hasB s
  refine call_p hasW.h10 rfl ?_
  have ha : ∀ {lo}, callw F42 27 [] lo m0 = some (.bool true, m0) := aw42
  cases hf : few s with
  | false =>
    simp only [↓sxc, sx, se, ↓reduceIte, Nat.reduceEqDiff, Nat.reduceAdd, Nat.reduceLT, Nat.reduceLeDiff, Nat.reduceSub, Nat.reduceMul, Int.reduceToNat, Int.reduceLT, Int.reduceLE, Int.reduceEq, ml_i0, ↓smc, sm, ha, c28, hf]
  | true =>
    by_cases h0 : chkE s = 0
    · have hv := valid_of h0
      have p6 := hv.p6
      have l4 := hv.l4
      have hl : (edgesE s).length < 100000 := by
        have := edgesE_len' h0
        omega
      have b1 : 0 ≤ ((edgesE s).length : Int) ∧ ((edgesE s).length : Int) < big := by simp [big]; omega
      have w1 : wrapF .i64 ((s.pools.length : Int) + (s.locks.length : Int)) = (s.pools.length : Int) + (s.locks.length : Int) := wr_i64 (by omega) (by omega)
      simp only [↓sxc, sx, se, ↓reduceIte, Nat.reduceEqDiff, Nat.reduceAdd, Nat.reduceLT, Nat.reduceLeDiff, Nat.reduceSub, Nat.reduceMul, Int.reduceToNat, Int.reduceLT, Int.reduceLE, Int.reduceEq, ml_i0, ↓smc, sm, ha, c28, hf, c49, c35, h0, b1, w1, Int.toNat_natCast]
      have hu : Us 0 ((m0.set 0 (some (Blk.row 1 (List.replicate (edgesE s).length (V.bool false))))).bump (1 + 12)) 0 (edgesE s).length (List.replicate (edgesE s).length false) := ⟨Nat.le_refl _, by simp, by simp [Mem.set, Mem.bump]⟩
      refine w10_4 hasA hasB s h0 (edgesE s) hl (fun e he => ?_) s.cls 0 (List.replicate (edgesE s).length false) _ _ rfl hu (fun us' m' e h1 h2 _ => ?_)
      · obtain ⟨y, hy, e1, e2⟩ := edgesE_all h0 he
        exact ⟨y, hy, e1, e2⟩
      · simp only [↓sxc, sx, se, ↓reduceIte, Nat.reduceEqDiff, Nat.reduceAdd, Nat.reduceLT, Nat.reduceLeDiff, Nat.reduceSub, Nat.reduceMul, Int.reduceToNat, Int.reduceLT, Int.reduceLE, Int.reduceEq, ml_i0, ↓smc, sm]
        refine w10_5 s (edgesE s) hl us' (fun j hj => ?_) (fun e he => ?_) (edgesE s) 0 m' _ rfl h1 (fun m' e => ?_)
        · exact h2 _ (edgesE_sub (List.getElem_mem hj)) j _ (List.getElem?_eq_getElem hj) (by simp [hit])
        · obtain ⟨i, k, c, x, q1, q2, _, _, _, q3, q4⟩ := edge_from (edgesE_sub he)
          exact ⟨i, k, c, q1, (List.getElem?_eq_some_iff.1 q2).1, q3, q4⟩
        · simp only [↓sxc, sx, se, ↓reduceIte, Nat.reduceEqDiff, Nat.reduceAdd, Nat.reduceLT, Nat.reduceLeDiff, Nat.reduceSub, Nat.reduceMul, Int.reduceToNat, Int.reduceLT, Int.reduceLE, Int.reduceEq, ml_i0, ↓smc, sm]
    · simp only [↓sxc, sx, se, ↓reduceIte, Nat.reduceEqDiff, Nat.reduceAdd, Nat.reduceLT, Nat.reduceLeDiff, Nat.reduceSub, Nat.reduceMul, Int.reduceToNat, Int.reduceLT, Int.reduceLE, Int.reduceEq, ml_i0, ↓smc, sm, ha, c28, hf, c49, h0]

end Go.Am
namespace Go.Proofs.Ytflfnkdhmcfjlaa
open Go Go.Am Go.ChangeShapes Go.WideShapes Go.ChangeAt Go.RowKit
set_option linter.unusedVariables false

theorem own : ownKnob Try.prog.godebug = none := by kernel_rfl
theorem kids : Kids Try.prog (· < Try.prog.types.size) := kids_rows (by kernel_rfl) (by kernel_rfl)
theorem full : ∀ t e, t < Try.prog.types.size → Try.prog.underlying t = some (.slice e) → 0 < Try.prog.cellsOf e := slices_full_of Try.prog (by kernel_rfl)
theorem fit : fitAll Try.prog Try.f10.params.toList [tSys] = true := by kernel_rfl

set_option maxRecDepth 100000 in
theorem lifted (os : Os) (started : os.Started) (H : Type) (enc : TypeId × Value → H) :
    ReturnsInHanded {} Try.checked os 10 .any (Rows.waitgraphHoldsSpec.pre6 enc Try.prog Try.f10 Rows.waitgraphHoldsRow.domain false) (Rows.waitgraphHoldsSpec.post enc Try.prog Try.f10 false true false false) := by
  refine returnsInHanded_of_change (C := Try.checked) own started (by kernel_rfl) Try.func10
    (ChangeSpec.witness6 (enc := enc) (C := Try.checked) false ⟨#[], #[.agg #[.slice none 0 0, .slice none 0 0, .slice none 0 0]], []⟩ 12 (by kernel_rfl) (by kernel_rfl) (by kernel_rfl) (by kernel_rfl)) ?_
  intro W base args ds gs before hval0 hW hcnd _
  have hval : ∀ (j : Nat) t v, Try.f10.params[j]? = some t → args[j]? = some v → Value.okWide Try.prog W .any base t v := hval0
  have hW' := hW
  obtain ⟨p, q, hA0, hV, rfl, hfz, hnd⟩ := hW
  have hA : DataW.TrodAll enc Try.prog W 0 (fun _ => true) true Try.f10.params.toList args.toList ds p := hA0
  obtain ⟨rfl, rfl⟩ := trodVars_none hV
  have hspec : Rows.waitgraphHoldsSpec.fn H (ds ++ []) = { results := [.lit (.bool true)], args := ds } := by
    rw [Try.params10] at hA
    obtain ⟨v0, vs0, d0, ds0, p0, q0, _, rfl, _, _, r0⟩ := trodAll_cons hA
    obtain ⟨_, rfl, _⟩ := trodAll_nil r0
    rfl
  refine (law_calls (P := Try.prog) (F := F42) mixed okAll (by decide) fit (fun us h => law10 us h) hA (fun j t v ht hv => hval j t v (by rw [← Array.getElem?_toList]; exact ht) hv)).mono fun e W' ⟨he, h1, h2, h3⟩ => ?_
  subst he
  exact ⟨_, rfl, kept_post hW' rfl hspec rfl Try.underlying4 kids full (by rw [Try.params10]; decide) h1 h2 h3⟩

theorem reached : Try.prog.closure 10 = [10, 27, 90, 35, 49, 111, 112, 113, 153, 114, 121, 122, 154, 116, 120, 106, 155, 94, 92, 148, 97, 98, 54, 39, 102, 103, 104, 150, 151, 40, 105, 152, 165, 168, 169, 107, 41, 29, 31, 33, 37, 45, 28] := by kernel_rfl
theorem noPlace : Try.prog.inPlace 10 = [] := by unfold Program.inPlace; rw [reached]; kernel_rfl
theorem follows : Try.prog.unfollowed 10 = true := by unfold Program.unfollowed; rw [reached]; kernel_rfl
theorem recurs : Try.prog.recurses 10 = true := by unfold Program.recurses; rw [follows]; rfl
theorem names : Try.prog.varsNamed 10 = [] := by unfold Program.varsNamed; rw [reached]; kernel_rfl
theorem shut : joinedFacts Try.prog 10 Try.f10 Rows.waitgraphHoldsSpec Rows.waitgraphHoldsRow = true :=
  joined 10 Try.f10 Rows.waitgraphHoldsSpec Rows.waitgraphHoldsRow (by kernel_rfl) (by kernel_rfl) (by kernel_rfl) (by kernel_rfl) (by kernel_rfl) noPlace follows recurs names
    (by kernel_rfl) (by kernel_rfl) (by kernel_rfl) (by kernel_rfl) (by kernel_rfl) (by kernel_rfl) (by kernel_rfl) (by kernel_rfl) (by kernel_rfl) rfl rfl rfl rfl (by kernel_rfl) (by kernel_rfl) (by kernel_rfl) (by kernel_rfl)

theorem over : Rows.waitgraphHoldsRow.holds Try.pinned (OpenSpec.ofChange Rows.waitgraphHoldsSpec) :=
  OpenClaim.holds_of_wide 10 Try.f10 rfl rfl rfl rfl rfl rfl rfl ⟨rfl, rfl, rfl, rfl, rfl⟩ rfl rfl rfl rfl rfl (by kernel_rfl) Try.func10 shut
    (of_decide_eq_true (by kernel_rfl)) (by unfold Func.isWrapper; first | (rw [if_pos (by decide +kernel)]; kernel_rfl) | (rw [if_neg (by decide +kernel)]; exact ⟨rfl, rfl⟩))
    (fun os started H enc _ => lifted os started H enc)

/-- The statement. -/
theorem waitgraphHolds_holds : Rows.WaitgraphHoldsSaid := over
end Go.Proofs.Ytflfnkdhmcfjlaa
