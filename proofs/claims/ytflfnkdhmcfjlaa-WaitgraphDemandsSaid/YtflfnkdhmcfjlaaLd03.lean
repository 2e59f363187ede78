/- The law WaitgraphDemands holds: the number of resources, the demands and the steps that may wait are the specified ones, for any system; no conditions. -/
import Derived.Test.YtflfnkdhmcfjlaaAw42
import Derived.Test.YtflfnkdhmcfjlaaSpK
import Derived.Test.YtflfnkdhmcfjlaaDat
import Derived.Test.YtflfnkdhmcfjlaaRwa
namespace Go.Am
open Go
set_option linter.unusedSimpArgs false
set_option linter.unusedVariables false
set_option maxRecDepth 100000

theorem law3 (us : List V) (h : HasAll [tSys, .st [.int .i64, .int .i64, .int .i64], .bool] us) : ∃ m, callw F42 3 us 0 m0 = some (.bool true, m) := by
  obtain ⟨u1, us, rfl, h1, h⟩ := all_cons h
  obtain ⟨u2, us, rfl, h2, h⟩ := all_cons h
  obtain ⟨u3, us, rfl, h3, h⟩ := all_cons h
  obtain rfl := all_nil h
  obtain ⟨s, rfl⟩ := open_sys h1
  obtain ⟨x, y, z, rfl⟩ := open_three h2
  obtain ⟨d, rfl⟩ := open_bool' h3
  refine ⟨m0, ?_⟩
  have c28 : ∀ {lo m}, callw F42 28 [vSys s] lo m = some (.bool (few s), m) := fun {lo m} => sp28 hasA s
  have c29 : ∀ {lo m}, callw F42 29 [vSys s] lo m = some (vi (resE s), m) := fun {lo m} => sp29 hasA hasB s
  have c30 : ∀ {lo m}, callw F42 30 [vSys s] lo m = some (vi (resE s), m) := fun {lo m} => sp30 hasA hasB s
  have c31 : ∀ {lo m}, callw F42 31 [vSys s, vi x, .bool d] lo m = some (vi (demE s x d), m) := fun {lo m} => sp31 hasA hasB s x d
  have c32 : ∀ {lo m}, callw F42 32 [vSys s, vi x, .bool d] lo m = some (vi (demE s x d), m) := fun {lo m} => sp32 hasA hasB s x d
  have c33 : ∀ {lo m}, callw F42 33 [vSys s, vi y, vi z] lo m = some (.bool (mayWait s y z), m) := fun {lo m} => sp33 hasA hasB s y z
  have c34 : ∀ {lo m}, callw F42 34 [vSys s, vi y, vi z] lo m = some (.bool (mayWait s y z), m) := fun {lo m} => sp34 hasA hasB s y z
  refine call_p hasW.h3 rfl ?_
  have ha : ∀ {lo}, callw F42 27 [] lo m0 = some (.bool true, m0) := aw42
  cases hf : few s with
  | false =>
    simp only [↓sxc, sx, se, ↓reduceIte, Nat.reduceEqDiff, Nat.reduceAdd, Nat.reduceLT, Nat.reduceLeDiff, Nat.reduceSub, Nat.reduceMul, Int.reduceToNat, Int.reduceLT, Int.reduceLE, Int.reduceEq, ml_i0, ha, c28, hf]
  | true =>
    simp only [↓sxc, sx, se, ↓reduceIte, Nat.reduceEqDiff, Nat.reduceAdd, Nat.reduceLT, Nat.reduceLeDiff, Nat.reduceSub, Nat.reduceMul, Int.reduceToNat, Int.reduceLT, Int.reduceLE, Int.reduceEq, ml_i0, ha, c28, hf, c29, c30, c31, c32, c33, c34]
    decide

end Go.Am
namespace Go.Proofs.Ytflfnkdhmcfjlaa
open Go Go.Am Go.ChangeShapes Go.WideShapes Go.ChangeAt Go.RowKit
set_option linter.unusedVariables false

theorem own : ownKnob Try.prog.godebug = none := by kernel_rfl
theorem kids : Kids Try.prog (· < Try.prog.types.size) := kids_rows (by kernel_rfl) (by kernel_rfl)
theorem full : ∀ t e, t < Try.prog.types.size → Try.prog.underlying t = some (.slice e) → 0 < Try.prog.cellsOf e := slices_full_of Try.prog (by kernel_rfl)
theorem fit : fitAll Try.prog Try.f3.params.toList [tSys, .st [.int .i64, .int .i64, .int .i64], .bool] = true := by kernel_rfl

set_option maxRecDepth 100000 in
theorem lifted (os : Os) (started : os.Started) (H : Type) (enc : TypeId × Value → H) :
    ReturnsInHanded {} Try.checked os 3 .any (Rows.waitgraphDemandsSpec.pre6 enc Try.prog Try.f3 Rows.waitgraphDemandsRow.domain false) (Rows.waitgraphDemandsSpec.post enc Try.prog Try.f3 false true false false) := by
  refine returnsInHanded_of_change (C := Try.checked) own started (by kernel_rfl) Try.func3
    (ChangeSpec.witness6 (enc := enc) (C := Try.checked) false ⟨#[], #[.agg #[.slice none 0 0, .slice none 0 0, .slice none 0 0], .agg #[.int .i64 0, .int .i64 0, .int .i64 0], .bool false], []⟩ 12 (by kernel_rfl) (by kernel_rfl) (by kernel_rfl) (by kernel_rfl)) ?_
  intro W base args ds gs before hval0 hW hcnd _
  have hval : ∀ (j : Nat) t v, Try.f3.params[j]? = some t → args[j]? = some v → Value.okWide Try.prog W .any base t v := hval0
  have hW' := hW
  obtain ⟨p, q, hA0, hV, rfl, hfz, hnd⟩ := hW
  have hA : DataW.TrodAll enc Try.prog W 0 (fun _ => true) true Try.f3.params.toList args.toList ds p := hA0
  obtain ⟨rfl, rfl⟩ := trodVars_none hV
  have hspec : Rows.waitgraphDemandsSpec.fn H (ds ++ []) = { results := [.lit (.bool true)], args := ds } := by
    rw [Try.params3] at hA
    obtain ⟨v0, vs0, d0, ds0, p0, q0, _, rfl, _, _, r0⟩ := trodAll_cons hA
    obtain ⟨v1, vs1, d1, ds1, p1, q1, _, rfl, _, _, r1⟩ := trodAll_cons r0
    obtain ⟨v2, vs2, d2, ds2, p2, q2, _, rfl, _, _, r2⟩ := trodAll_cons r1
    obtain ⟨_, rfl, _⟩ := trodAll_nil r2
    rfl
  refine (law_calls (P := Try.prog) (F := F42) mixed okAll (by decide) fit (fun us h => law3 us h) hA (fun j t v ht hv => hval j t v (by rw [← Array.getElem?_toList]; exact ht) hv)).mono fun e W' ⟨he, h1, h2, h3⟩ => ?_
  subst he
  exact ⟨_, rfl, kept_post hW' rfl hspec rfl Try.underlying4 kids full (by rw [Try.params3]; decide) h1 h2 h3⟩

theorem reached : Try.prog.closure 3 = [3, 27, 90, 35, 49, 111, 112, 113, 153, 114, 121, 122, 154, 116, 120, 106, 155, 94, 92, 148, 97, 98, 54, 39, 102, 103, 104, 150, 151, 40, 105, 152, 165, 168, 169, 107, 41, 29, 31, 33, 37, 45, 28, 30, 91, 144, 145, 146, 147, 163, 164, 32, 93, 34, 95, 96] := by kernel_rfl
theorem noPlace : Try.prog.inPlace 3 = [] := by unfold Program.inPlace; rw [reached]; kernel_rfl
theorem follows : Try.prog.unfollowed 3 = true := by unfold Program.unfollowed; rw [reached]; kernel_rfl
theorem recurs : Try.prog.recurses 3 = true := by unfold Program.recurses; rw [follows]; rfl
theorem names : Try.prog.varsNamed 3 = [] := by unfold Program.varsNamed; rw [reached]; kernel_rfl
theorem shut : joinedFacts Try.prog 3 Try.f3 Rows.waitgraphDemandsSpec Rows.waitgraphDemandsRow = true :=
  joined 3 Try.f3 Rows.waitgraphDemandsSpec Rows.waitgraphDemandsRow (by kernel_rfl) (by kernel_rfl) (by kernel_rfl) (by kernel_rfl) (by kernel_rfl) noPlace follows recurs names
    (by kernel_rfl) (by kernel_rfl) (by kernel_rfl) (by kernel_rfl) (by kernel_rfl) (by kernel_rfl) (by kernel_rfl) (by kernel_rfl) (by kernel_rfl) rfl rfl rfl rfl (by kernel_rfl) (by kernel_rfl) (by kernel_rfl) (by kernel_rfl)

theorem over : Rows.waitgraphDemandsRow.holds Try.pinned (OpenSpec.ofChange Rows.waitgraphDemandsSpec) :=
  OpenClaim.holds_of_wide 3 Try.f3 rfl rfl rfl rfl rfl rfl rfl ⟨rfl, rfl, rfl, rfl, rfl⟩ rfl rfl rfl rfl rfl (by kernel_rfl) Try.func3 shut
    (of_decide_eq_true (by kernel_rfl)) (by unfold Func.isWrapper; first | (rw [if_pos (by decide +kernel)]; kernel_rfl) | (rw [if_neg (by decide +kernel)]; exact ⟨rfl, rfl⟩))
    (fun os started H enc _ => lifted os started H enc)

/-- The statement. -/
theorem waitgraphDemands_holds : Rows.WaitgraphDemandsSaid := over
end Go.Proofs.Ytflfnkdhmcfjlaa
