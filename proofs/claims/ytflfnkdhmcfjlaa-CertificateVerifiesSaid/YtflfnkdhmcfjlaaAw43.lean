/- The examples of chapter 43 hold. -/
import Derived.Test.YtflfnkdhmcfjlaaF43
import Derived.Test.YtflfnkdhmcfjlaaOpr
namespace Go.Am
open Go

/-- What a pure function gives does not hang on what its caller may write. -/
theorem call_lo {F : Nat → Option Fn} {f : Nat} {fn : Fn} (hF : F f = some fn) (hp : fn.pure = true) {args : List V} {m : Mem} {lo lo' k : Nat} : call F k f args lo m = call F k f args lo' m := by
  cases k with
  | zero => rfl
  | succ k => simp only [call_succ', hF, hp, if_true]

theorem aw43k : call F43 400 79 [] 0 m0 = some (.bool true, m0) := by kernel_rfl
theorem aw43 {lo : Nat} : callw F43 79 [] lo m0 = some (.bool true, m0) := callw_iff.2 ⟨400, by rw [call_lo (F := F43) (fn := c79) rfl rfl (lo' := 0)]; exact aw43k⟩
end Go.Am
