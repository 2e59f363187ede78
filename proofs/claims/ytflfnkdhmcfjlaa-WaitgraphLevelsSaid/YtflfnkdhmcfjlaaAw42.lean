/- The examples of chapter 42 hold. -/
import Derived.Test.YtflfnkdhmcfjlaaF42
import Derived.Test.YtflfnkdhmcfjlaaOpr
namespace Go.Am
open Go

/-- What a pure function gives does not hang on what its caller may write. -/
theorem call_lo {F : Nat → Option Fn} {f : Nat} {fn : Fn} (hF : F f = some fn) (hp : fn.pure = true) {args : List V} {m : Mem} {lo lo' k : Nat} : call F k f args lo m = call F k f args lo' m := by
  cases k with
  | zero => rfl
  | succ k => simp only [call_succ', hF, hp, if_true]

theorem aw42k : call F42 60 27 [] 0 m0 = some (.bool true, m0) := by kernel_rfl
theorem aw42 {lo : Nat} : callw F42 27 [] lo m0 = some (.bool true, m0) := callw_iff.2 ⟨60, by rw [call_lo (F := F42) (fn := c27) rfl rfl (lo' := 0)]; exact aw42k⟩
end Go.Am
