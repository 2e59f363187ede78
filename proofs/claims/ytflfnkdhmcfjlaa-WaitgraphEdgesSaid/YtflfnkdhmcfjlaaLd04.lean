/- The law WaitgraphEdges holds: any system has the specified edges or error; no conditions. -/
import Derived.Test.YtflfnkdhmcfjlaaAw42
import Derived.Test.YtflfnkdhmcfjlaaSpP
import Derived.Test.YtflfnkdhmcfjlaaDat
import Derived.Test.YtflfnkdhmcfjlaaRwa
namespace Go.Am
open Go
set_option linter.unusedSimpArgs false
set_option linter.unusedVariables false
set_option maxRecDepth 100000

theorem law4 (us : List V) (h : HasAll [tSys] us) : ∃ m, callw F42 4 us 0 m0 = some (.bool true, m) := by
  obtain ⟨u1, us, rfl, h1, h⟩ := all_cons h
  obtain rfl := all_nil h
  obtain ⟨s, rfl⟩ := open_sys h1
  refine ⟨m0, ?_⟩
  have c28 : ∀ {lo m}, callw F42 28 [vSys s] lo m = some (.bool (few s), m) := fun {lo m} => sp28 hasA s
  have c35 : ∀ {lo m}, callw F42 35 [vSys s] lo m = some (.tup [vEdges (edgesE s), vi (chkE s)], m) := fun {lo m} => sp35 hasA hasB s
  have c36 : ∀ {lo m}, callw F42 36 [vSys s] lo m = some (.tup [vEdges (edgesE s), vi (chkE s)], m) := fun {lo m} => sp36 hasA hasB s
  have c37 : ∀ {lo m}, callw F42 37 [vEdges (edgesE s), vEdges (edgesE s)] lo m = some (.bool true, m) := fun {lo m} => by
    have := sp37 hasB (lo := lo) (m := m) (edgesE s) (edgesE s) edgesE_len
    simpa using this
  refine call_p hasW.h4 rfl ?_
  have ha : ∀ {lo}, callw F42 27 [] lo m0 = some (.bool true, m0) := aw42
  cases hf : few s with
  | false =>
    simp only [↓sxc, sx, se, ↓reduceIte, Nat.reduceEqDiff, Nat.reduceAdd, Nat.reduceLT, Nat.reduceLeDiff, Nat.reduceSub, Nat.reduceMul, Int.reduceToNat, Int.reduceLT, Int.reduceLE, Int.reduceEq, ml_i0, ha, c28, hf]
  | true =>
    simp only [↓sxc, sx, se, ↓reduceIte, Nat.reduceEqDiff, Nat.reduceAdd, Nat.reduceLT, Nat.reduceLeDiff, Nat.reduceSub, Nat.reduceMul, Int.reduceToNat, Int.reduceLT, Int.reduceLE, Int.reduceEq, ml_i0, ha, c28, hf, c35, c36, c37]

end Go.Am
namespace Go.Proofs.Ytflfnkdhmcfjlaa
open Go Go.Am Go.ChangeShapes Go.WideShapes Go.ChangeAt Go.RowKit
set_option linter.unusedVariables false

theorem own : ownKnob Try.prog.godebug = none := by kernel_rfl
theorem kids : Kids Try.prog (· < Try.prog.types.size) := kids_rows (by kernel_rfl) (by kernel_rfl)
theorem full : ∀ t e, t < Try.prog.types.size → Try.prog.underlying t = some (.slice e) → 0 < Try.prog.cellsOf e := slices_full_of Try.prog (by kernel_rfl)
theorem fit : fitAll Try.prog Try.f4.params.toList [tSys] = true := by kernel_rfl

set_option maxRecDepth 100000 in
theorem lifted (os : Os) (started : os.Started) (H : Type) (enc : TypeId × Value → H) :
    ReturnsInHanded {} Try.checked os 4 .any (Rows.waitgraphEdgesSpec.pre6 enc Try.prog Try.f4 Rows.waitgraphEdgesRow.domain false) (Rows.waitgraphEdgesSpec.post enc Try.prog Try.f4 false true false false) := by
  refine returnsInHanded_of_change (C := Try.checked) own started (by kernel_rfl) Try.func4
    (ChangeSpec.witness6 (enc := enc) (C := Try.checked) false ⟨#[], #[.agg #[.slice none 0 0, .slice none 0 0, .slice none 0 0]], []⟩ 12 (by kernel_rfl) (by kernel_rfl) (by kernel_rfl) (by kernel_rfl)) ?_
  intro W base args ds gs before hval0 hW hcnd _
  have hval : ∀ (j : Nat) t v, Try.f4.params[j]? = some t → args[j]? = some v → Value.okWide Try.prog W .any base t v := hval0
  have hW' := hW
  obtain ⟨p, q, hA0, hV, rfl, hfz, hnd⟩ := hW
  have hA : DataW.TrodAll enc Try.prog W 0 (fun _ => true) true Try.f4.params.toList args.toList ds p := hA0
  obtain ⟨rfl, rfl⟩ := trodVars_none hV
  have hspec : Rows.waitgraphEdgesSpec.fn H (ds ++ []) = { results := [.lit (.bool true)], args := ds } := by
    rw [Try.params4] at hA
    obtain ⟨v0, vs0, d0, ds0, p0, q0, _, rfl, _, _, r0⟩ := trodAll_cons hA
    obtain ⟨_, rfl, _⟩ := trodAll_nil r0
    rfl
  refine (law_calls (P := Try.prog) (F := F42) mixed okAll (by decide) fit (fun us h => law4 us h) hA (fun j t v ht hv => hval j t v (by rw [← Array.getElem?_toList]; exact ht) hv)).mono fun e W' ⟨he, h1, h2, h3⟩ => ?_
  subst he
  exact ⟨_, rfl, kept_post hW' rfl hspec rfl Try.underlying4 kids full (by rw [Try.params4]; decide) h1 h2 h3⟩

theorem reached : Try.prog.closure 4 = [4, 27, 90, 35, 49, 111, 112, 113, 153, 114, 121, 122, 154, 116, 120, 106, 155, 94, 92, 148, 97, 98, 54, 39, 102, 103, 104, 150, 151, 40, 105, 152, 165, 168, 169, 107, 41, 29, 31, 33, 37, 45, 28, 36, 91, 144, 145, 146, 147, 163, 164, 34, 95, 32, 93, 96, 99, 149, 100, 101] := by kernel_rfl
theorem noPlace : Try.prog.inPlace 4 = [] := by unfold Program.inPlace; rw [reached]; kernel_rfl
theorem follows : Try.prog.unfollowed 4 = true := by unfold Program.unfollowed; rw [reached]; kernel_rfl
theorem recurs : Try.prog.recurses 4 = true := by unfold Program.recurses; rw [follows]; rfl
theorem names : Try.prog.varsNamed 4 = [] := by unfold Program.varsNamed; rw [reached]; kernel_rfl
theorem shut : joinedFacts Try.prog 4 Try.f4 Rows.waitgraphEdgesSpec Rows.waitgraphEdgesRow = true :=
  joined 4 Try.f4 Rows.waitgraphEdgesSpec Rows.waitgraphEdgesRow (by kernel_rfl) (by kernel_rfl) (by kernel_rfl) (by kernel_rfl) (by kernel_rfl) noPlace follows recurs names
    (by kernel_rfl) (by kernel_rfl) (by kernel_rfl) (by kernel_rfl) (by kernel_rfl) (by kernel_rfl) (by kernel_rfl) (by kernel_rfl) (by kernel_rfl) rfl rfl rfl rfl (by kernel_rfl) (by kernel_rfl) (by kernel_rfl) (by kernel_rfl)

theorem over : Rows.waitgraphEdgesRow.holds Try.pinned (OpenSpec.ofChange Rows.waitgraphEdgesSpec) :=
  OpenClaim.holds_of_wide 4 Try.f4 rfl rfl rfl rfl rfl rfl rfl ⟨rfl, rfl, rfl, rfl, rfl⟩ rfl rfl rfl rfl rfl (by kernel_rfl) Try.func4 shut
    (of_decide_eq_true (by kernel_rfl)) (by unfold Func.isWrapper; first | (rw [if_pos (by decide +kernel)]; kernel_rfl) | (rw [if_neg (by decide +kernel)]; exact ⟨rfl, rfl⟩))
    (fun os started H enc _ => lifted os started H enc)

/-- The statement. -/
theorem waitgraphEdges_holds : Rows.WaitgraphEdgesSaid := over
end Go.Proofs.Ytflfnkdhmcfjlaa
