/- paths.start. -/
import Derived.Test.YtflfnkdhmcfjlaaSpE
namespace Go.Am
open Go
set_option linter.unusedSimpArgs false
set_option linter.unusedVariables false
set_option maxRecDepth 100000

/-! ### Calls that write: what comes of them -/
def PX (res : List Res) (R : V → Mem → Prop) : Ex → St → Prop
  | .exit _, _ => False
  | _, st => OC (getRes st res) fun vs => R (resV vs) st.mem
theorem PX_nrm {res : List Res} {R : V → Mem → Prop} {st : St} : PX res R .nrm st ↔ OC (getRes st res) fun vs => R (resV vs) st.mem := Iff.rfl
theorem PX_ret {res : List Res} {R : V → Mem → Prop} {st : St} : PX res R .ret st ↔ OC (getRes st res) fun vs => R (resV vs) st.mem := Iff.rfl
theorem call_x {F : Nat → Option Fn} {lo f np am bm : Nat} {res : List Res} {body : AC} {args : List V} {m : Mem} {R : V → Mem → Prop} (hF : F f = some ⟨np, am, bm, false, res, body⟩) (hn : args.length = np) (h : W F lo body ⟨initEnv 0 args, [], [], m⟩ (PX res R)) : ∃ v m', callw F f args lo m = some (v, m') ∧ R v m' := by
  have key : ∃ v m', W F lo body ⟨initEnv 0 args, [], [], m⟩ (PI res v m') ∧ R v m' := by
    obtain ⟨N, ex, s, h1, q⟩ := h
    cases ex with
    | exit i => exact q.elim
    | nrm =>
      obtain ⟨vs, q1, q2⟩ := q
      exact ⟨_, _, ⟨N, .nrm, s, h1, vs, q1, rfl, rfl⟩, q2⟩
    | ret =>
      obtain ⟨vs, q1, q2⟩ := q
      exact ⟨_, _, ⟨N, .ret, s, h1, vs, q1, rfl, rfl⟩, q2⟩
  obtain ⟨v, m', h1, h2⟩ := key
  exact ⟨v, m', call_i hF hn h1, h2⟩

theorem set_ne {m : Mem} {i j : Nat} {b : Option Blk} (h : j ≠ i) : (m.set i b).blk j = m.blk j := by simp [Mem.set, h]

theorem sp121 {F : Nat → Option Fn} (hA : HasA F) {lo : Nat} {m : Mem} (s : Sys) (h1 : s.pools.length < 100) (h2 : s.locks.length < 100) : ∃ v m', callw F 121 [vSys s] lo m = some (v, m') ∧ ∃ a b, v = .agg [.row 1 a 0 s.pools.length, .row 1 b 0 s.locks.length] ∧ a ≠ b ∧ m.next ≤ a ∧ m.next ≤ b ∧ a < m'.next ∧ b < m'.next ∧
    m'.blk a = some (.row 1 (List.replicate s.pools.length (vi 0))) ∧ m'.blk b = some (.row 1 (List.replicate s.locks.length (.bool false))) ∧ ∀ k, k < m.next → m'.blk k = m.blk k := by
  refine call_x hA.h121 rfl ?_
  have b1 : 0 ≤ (s.pools.length : Int) ∧ (s.pools.length : Int) < big := by simp [big]; omega
  have b2 : 0 ≤ (s.locks.length : Int) ∧ (s.locks.length : Int) < big := by simp [big]; omega
  simp only [↓sxc, sx, se, ↓reduceIte, Nat.reduceEqDiff, Nat.reduceAdd, Nat.reduceLT, Nat.reduceLeDiff, Nat.reduceSub, Nat.reduceMul, Int.reduceToNat, Int.reduceLT, Int.reduceLE, Int.reduceEq, ml_i0, ↓W_dreg, ↓sk, sk, PX_ret, b1, b2]
  refine ⟨by simp [pairsOk, nth_eq, keysApart, Key.apart], m.next + 3, m.next + 7, rfl, by omega, by omega, by omega, by omega, by omega, ?_, ?_, fun k hk => ?_⟩
  · rw [set_ne (by omega)]
    simp [Mem.set]
  · simp [Mem.set]
  · rw [set_ne (by omega), set_ne (by omega)]
    rfl

/-! ### What a class holds -/
/-- The struct hold at handle p, with its slices of units and of locks at a and b. -/
structure Hd (lo : Nat) (m : Mem) (p a b : Nat) (u : List Int) (k : List Bool) : Prop where
  pa : p ≠ a
  pb : p ≠ b
  ab : a ≠ b
  lp : lo ≤ p
  la : lo ≤ a
  lb : lo ≤ b
  hp : p < m.next
  ha : a < m.next
  hb : b < m.next
  bp : m.blk p = some (.row 2 [.agg [.row 1 a 0 u.length, .row 1 b 0 k.length]])
  ba : m.blk a = some (.row 1 (u.map vi))
  bb : m.blk b = some (.row 1 (k.map .bool))

def uAt (u : List Int) (on : Int) : Int := u.getD on.toNat 0
def kAt (k : List Bool) (on : Int) : Bool := k.getD on.toNat false
def uStep (u : List Int) (x : Stp) : List Int := if x.kind = 1 then u.set x.on.toNat (uAt u x.on + x.cnt) else if x.kind = 2 then u.set x.on.toNat (uAt u x.on - x.cnt) else u
def kStep (k : List Bool) (x : Stp) : List Bool := if x.kind = 3 then k.set x.on.toNat true else if x.kind = 4 then k.set x.on.toNat false else k
/-- The error of a step, what is held being this. -/
def holdE (s : Sys) (u : List Int) (k : List Bool) (x : Stp) : Int := stepE s x (uAt u x.on) (if kAt k x.on = true then 1 else 0)

theorem uStep_len {u : List Int} {x : Stp} : (uStep u x).length = u.length := by
  unfold uStep
  repeat' split
  all_goals simp
theorem kStep_len {k : List Bool} {x : Stp} : (kStep k x).length = k.length := by
  unfold kStep
  repeat' split
  all_goals simp

end Go.Am
