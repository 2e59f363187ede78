/- The law CertificateVerifies holds: any certificate of any system has the specified error; no conditions. -/
import Derived.Test.YtflfnkdhmcfjlaaAw43
import Derived.Test.YtflfnkdhmcfjlaaSpU
import Derived.Test.YtflfnkdhmcfjlaaDau
import Derived.Test.YtflfnkdhmcfjlaaRwa
namespace Go.Am
open Go
set_option linter.unusedSimpArgs false
set_option linter.unusedVariables false
set_option maxRecDepth 100000

theorem law20 (us : List V) (h : HasAll [tSys, .sl (.int .i64)] us) : ∃ m, callw F43 20 us 0 m0 = some (.bool true, m) := by
  obtain ⟨u1, us, rfl, h1, h⟩ := all_cons h
  obtain ⟨u2, us, rfl, h2, h⟩ := all_cons h
  obtain rfl := all_nil h
  obtain ⟨s, rfl⟩ := open_sys h1
  obtain ⟨l, rfl, _, _⟩ := open_ints h2
  refine ⟨m0, ?_⟩
  have c28 : ∀ {lo m}, callw F43 28 [vSys s] lo m = some (.bool (few s), m) := fun {lo m} => sp28 hasA s
  refine call_p hasX20.h20 rfl ?_
  have ha : ∀ {lo}, callw F43 79 [] lo m0 = some (.bool true, m0) := aw43
  cases hf : few s with
  | false =>
    simp only [↓sxc, sx, se, ↓reduceIte, Nat.reduceEqDiff, Nat.reduceAdd, Nat.reduceLT, Nat.reduceLeDiff, Nat.reduceSub, Nat.reduceMul, Int.reduceToNat, Int.reduceLT, Int.reduceLE, Int.reduceEq, ml_i0, ↓smc, sm, ha, c28, hf]
  | true =>
    by_cases h40 : 40 < (l.length : Int)
    · simp only [↓sxc, sx, se, ↓reduceIte, Nat.reduceEqDiff, Nat.reduceAdd, Nat.reduceLT, Nat.reduceLeDiff, Nat.reduceSub, Nat.reduceMul, Int.reduceToNat, Int.reduceLT, Int.reduceLE, Int.reduceEq, ml_i0, ↓smc, sm, ha, c28, hf, h40]
    · have c52 : ∀ {lo m}, callw F43 52 [vSys s, vCert l] lo m = some (vi (verE s l), m) := fun {lo m} => sp52 hasA hasB hasC s l (by omega)
      have c88 : ∀ {lo m}, callw F43 88 [vSys s, vCert l] lo m = some (vi (verE s l), m) := fun {lo m} => sp88 hasA hasB hasC s l (by omega)
      unfold vCert at c52 c88
      simp only [↓sxc, sx, se, ↓reduceIte, Nat.reduceEqDiff, Nat.reduceAdd, Nat.reduceLT, Nat.reduceLeDiff, Nat.reduceSub, Nat.reduceMul, Int.reduceToNat, Int.reduceLT, Int.reduceLE, Int.reduceEq, ml_i0, ↓smc, sm, ha, c28, hf, h40, c52, c88, decide_true]

end Go.Am
namespace Go.Proofs.Ytflfnkdhmcfjlaa
open Go Go.Am Go.ChangeShapes Go.WideShapes Go.ChangeAt Go.RowKit
set_option linter.unusedVariables false

theorem own : ownKnob Try.prog.godebug = none := by kernel_rfl
theorem kids : Kids Try.prog (· < Try.prog.types.size) := kids_rows (by kernel_rfl) (by kernel_rfl)
theorem full : ∀ t e, t < Try.prog.types.size → Try.prog.underlying t = some (.slice e) → 0 < Try.prog.cellsOf e := slices_full_of Try.prog (by kernel_rfl)
theorem fit : fitAll Try.prog Try.f20.params.toList [tSys, .sl (.int .i64)] = true := by kernel_rfl

set_option maxRecDepth 100000 in
theorem lifted (os : Os) (started : os.Started) (H : Type) (enc : TypeId × Value → H) :
    ReturnsInHanded {} Try.checked os 20 .any (Rows.certificateVerifiesSpec.pre6 enc Try.prog Try.f20 Rows.certificateVerifiesRow.domain false) (Rows.certificateVerifiesSpec.post enc Try.prog Try.f20 false true false false) := by
  refine returnsInHanded_of_change (C := Try.checked) own started (by kernel_rfl) Try.func20
    (ChangeSpec.witness6 (enc := enc) (C := Try.checked) false ⟨#[], #[.agg #[.slice none 0 0, .slice none 0 0, .slice none 0 0], .slice none 0 0], []⟩ 12 (by kernel_rfl) (by kernel_rfl) (by kernel_rfl) (by kernel_rfl)) ?_
  intro W base args ds gs before hval0 hW hcnd _
  have hval : ∀ (j : Nat) t v, Try.f20.params[j]? = some t → args[j]? = some v → Value.okWide Try.prog W .any base t v := hval0
  have hW' := hW
  obtain ⟨p, q, hA0, hV, rfl, hfz, hnd⟩ := hW
  have hA : DataW.TrodAll enc Try.prog W 0 (fun _ => true) true Try.f20.params.toList args.toList ds p := hA0
  obtain ⟨rfl, rfl⟩ := trodVars_none hV
  have hspec : Rows.certificateVerifiesSpec.fn H (ds ++ []) = { results := [.lit (.bool true)], args := ds } := by
    rw [Try.params20] at hA
    obtain ⟨v0, vs0, d0, ds0, p0, q0, _, rfl, _, _, r0⟩ := trodAll_cons hA
    obtain ⟨v1, vs1, d1, ds1, p1, q1, _, rfl, _, _, r1⟩ := trodAll_cons r0
    obtain ⟨_, rfl, _⟩ := trodAll_nil r1
    rfl
  refine (law_calls (P := Try.prog) (F := F43) mixed okAll (by decide) fit (fun us h => law20 us h) hA (fun j t v ht hv => hval j t v (by rw [← Array.getElem?_toList]; exact ht) hv)).mono fun e W' ⟨he, h1, h2, h3⟩ => ?_
  subst he
  exact ⟨_, rfl, kept_post hW' rfl hspec rfl Try.underlying4 kids full (by rw [Try.params20]; decide) h1 h2 h3⟩

theorem reached : Try.prog.closure 20 = [20, 79, 90, 50, 35, 49, 111, 112, 113, 153, 114, 121, 122, 154, 116, 120, 106, 155, 94, 92, 148, 97, 98, 54, 81, 142, 143, 141, 29, 41, 102, 83, 40, 103, 105, 152, 165, 168, 169, 107, 45, 52, 119, 86, 31, 28, 88, 91, 144, 145, 146, 147, 163, 164, 30, 82, 34, 95, 32, 93, 96, 99, 149, 100] := by kernel_rfl
theorem noPlace : Try.prog.inPlace 20 = [] := by unfold Program.inPlace; rw [reached]; kernel_rfl
theorem follows : Try.prog.unfollowed 20 = true := by unfold Program.unfollowed; rw [reached]; kernel_rfl
theorem recurs : Try.prog.recurses 20 = true := by unfold Program.recurses; rw [follows]; rfl
theorem names : Try.prog.varsNamed 20 = [] := by unfold Program.varsNamed; rw [reached]; kernel_rfl
theorem shut : joinedFacts Try.prog 20 Try.f20 Rows.certificateVerifiesSpec Rows.certificateVerifiesRow = true :=
  joined 20 Try.f20 Rows.certificateVerifiesSpec Rows.certificateVerifiesRow (by kernel_rfl) (by kernel_rfl) (by kernel_rfl) (by kernel_rfl) (by kernel_rfl) noPlace follows recurs names
    (by kernel_rfl) (by kernel_rfl) (by kernel_rfl) (by kernel_rfl) (by kernel_rfl) (by kernel_rfl) (by kernel_rfl) (by kernel_rfl) (by kernel_rfl) rfl rfl rfl rfl (by kernel_rfl) (by kernel_rfl) (by kernel_rfl) (by kernel_rfl)

theorem over : Rows.certificateVerifiesRow.holds Try.pinned (OpenSpec.ofChange Rows.certificateVerifiesSpec) :=
  OpenClaim.holds_of_wide 20 Try.f20 rfl rfl rfl rfl rfl rfl rfl ⟨rfl, rfl, rfl, rfl, rfl⟩ rfl rfl rfl rfl rfl (by kernel_rfl) Try.func20 shut
    (of_decide_eq_true (by kernel_rfl)) (by unfold Func.isWrapper; first | (rw [if_pos (by decide +kernel)]; kernel_rfl) | (rw [if_neg (by decide +kernel)]; exact ⟨rfl, rfl⟩))
    (fun os started H enc _ => lifted os started H enc)

/-- The statement. -/
theorem certificateVerifies_holds : Rows.CertificateVerifiesSaid := over
end Go.Proofs.Ytflfnkdhmcfjlaa
