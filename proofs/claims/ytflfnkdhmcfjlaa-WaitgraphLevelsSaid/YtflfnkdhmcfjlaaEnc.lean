/- The data of the laws, in Lean and as values of the abstract machine. -/
import Derived.Test.YtflfnkdhmcfjlaaWps
namespace Go.Am
open Go

noncomputable abbrev vi (n : Int) : V := .int .i64 n
noncomputable def ints (l : List Int) : V := .ro true 1 (l.map vi)
noncomputable def bools (l : List Bool) : V := .ro true 1 (l.map .bool)
noncomputable def strs (l : List (List UInt8)) : V := .ro true 1 (l.map .str)

structure Pool where
  name : List UInt8
  size : Int
  res : Int
structure Stp where
  kind : Int
  on : Int
  cnt : Int
  deep : Bool
structure Cls where
  name : List UInt8
  wk : Int
  srv : Bool
  steps : List Stp
structure Sys where
  pools : List Pool
  locks : List (List UInt8)
  cls : List Cls

noncomputable def vPool (p : Pool) : V := .agg [.str p.name, vi p.size, vi p.res]
noncomputable def vStp (s : Stp) : V := .agg [vi s.kind, vi s.on, vi s.cnt, .bool s.deep]
noncomputable def vStps (l : List Stp) : V := .ro true 4 (l.map vStp)
noncomputable def vCls (c : Cls) : V := .agg [.str c.name, vi c.wk, .bool c.srv, vStps c.steps]
noncomputable def vPools (l : List Pool) : V := .ro true 3 (l.map vPool)
noncomputable def vClss (l : List Cls) : V := .ro true 4 (l.map vCls)
noncomputable def vSys (s : Sys) : V := .agg [vPools s.pools, strs s.locks, vClss s.cls]

/-! ### Rules for these values, folded -/
theorem ia_ints {l : List Int} {k : IntKind} {x : Int} : retV (.ia 1) [ints l, .int k x] = if 0 ≤ x then (l[x.toNat]?).map fun e => .imm (vi e) 0 else none := by
  unfold ints
  rw [r_iaro, ml_get]
  cases l[x.toNat]? <;> rfl
theorem len_ints {l : List Int} : retV (.len false) [ints l] = some (.int .i64 (l.length : Int)) := by
  unfold ints
  rw [r_lenro, ml_len]
theorem lof_ints {l : List Int} : lenOf (ints l) = some l.length := by
  unfold ints
  rw [lenro, ml_len]
theorem ce_ints {l : List Int} : V.cells (ints l) = [ints l] := rfl
theorem on_ints {l : List Int} : V.ones (ints l) = true := rfl
theorem o1_ints {l : List Int} : V.one (ints l) = true := rfl
theorem fz_ints {lo n : Nat} {m : Mem} {l : List Int} : freeze lo m (n + 1) (ints l) = some (ints l) := rfl
theorem vw_ints {m : Mem} {l : List Int} : view m (ints l) = some (nz 1 (l.map vi), l.map vi) := rfl
theorem sl_ints {l : List Int} {a b : Nat} : slOf 1 (ints l) a b = if a ≤ b ∧ b ≤ l.length then some (ints ((l.drop a).take (b - a))) else none := by
  unfold ints
  rw [sl_ro, ml_len]
  by_cases h : a ≤ b ∧ b ≤ l.length
  · rw [if_pos h, if_pos h, List.map_take, List.map_drop]
  · rw [if_neg h, if_neg h]
theorem scn_ints {l : List Int} : setC 0 1 (ints l) .nil = some (ints l) := rfl
theorem sco_ints {l k : List Int} : setC 0 1 (ints l) (ints k) = some (ints l) := rfl
theorem app_ints {l : List Int} : nz 1 (l.map vi) = 1 ∨ (l.map vi).length = 0 := by cases l <;> simp [nz]
theorem ia_bools {l : List Bool} {k : IntKind} {x : Int} : retV (.ia 1) [bools l, .int k x] = if 0 ≤ x then (l[x.toNat]?).map fun e => .imm (V.bool e) 0 else none := by
  unfold bools
  rw [r_iaro, ml_get]
  cases l[x.toNat]? <;> rfl
theorem len_bools {l : List Bool} : retV (.len false) [bools l] = some (.int .i64 (l.length : Int)) := by
  unfold bools
  rw [r_lenro, ml_len]
theorem lof_bools {l : List Bool} : lenOf (bools l) = some l.length := by
  unfold bools
  rw [lenro, ml_len]
theorem ce_bools {l : List Bool} : V.cells (bools l) = [bools l] := rfl
theorem on_bools {l : List Bool} : V.ones (bools l) = true := rfl
theorem o1_bools {l : List Bool} : V.one (bools l) = true := rfl
theorem fz_bools {lo n : Nat} {m : Mem} {l : List Bool} : freeze lo m (n + 1) (bools l) = some (bools l) := rfl
theorem vw_bools {m : Mem} {l : List Bool} : view m (bools l) = some (nz 1 (l.map V.bool), l.map V.bool) := rfl
theorem sl_bools {l : List Bool} {a b : Nat} : slOf 1 (bools l) a b = if a ≤ b ∧ b ≤ l.length then some (bools ((l.drop a).take (b - a))) else none := by
  unfold bools
  rw [sl_ro, ml_len]
  by_cases h : a ≤ b ∧ b ≤ l.length
  · rw [if_pos h, if_pos h, List.map_take, List.map_drop]
  · rw [if_neg h, if_neg h]
theorem scn_bools {l : List Bool} : setC 0 1 (bools l) .nil = some (bools l) := rfl
theorem sco_bools {l k : List Bool} : setC 0 1 (bools l) (bools k) = some (bools l) := rfl
theorem app_bools {l : List Bool} : nz 1 (l.map V.bool) = 1 ∨ (l.map V.bool).length = 0 := by cases l <;> simp [nz]
theorem ia_strs {l : List (List UInt8)} {k : IntKind} {x : Int} : retV (.ia 1) [strs l, .int k x] = if 0 ≤ x then (l[x.toNat]?).map fun e => .imm (V.str e) 0 else none := by
  unfold strs
  rw [r_iaro, ml_get]
  cases l[x.toNat]? <;> rfl
theorem len_strs {l : List (List UInt8)} : retV (.len false) [strs l] = some (.int .i64 (l.length : Int)) := by
  unfold strs
  rw [r_lenro, ml_len]
theorem lof_strs {l : List (List UInt8)} : lenOf (strs l) = some l.length := by
  unfold strs
  rw [lenro, ml_len]
theorem ce_strs {l : List (List UInt8)} : V.cells (strs l) = [strs l] := rfl
theorem on_strs {l : List (List UInt8)} : V.ones (strs l) = true := rfl
theorem o1_strs {l : List (List UInt8)} : V.one (strs l) = true := rfl
theorem fz_strs {lo n : Nat} {m : Mem} {l : List (List UInt8)} : freeze lo m (n + 1) (strs l) = some (strs l) := rfl
theorem vw_strs {m : Mem} {l : List (List UInt8)} : view m (strs l) = some (nz 1 (l.map V.str), l.map V.str) := rfl
theorem sl_strs {l : List (List UInt8)} {a b : Nat} : slOf 1 (strs l) a b = if a ≤ b ∧ b ≤ l.length then some (strs ((l.drop a).take (b - a))) else none := by
  unfold strs
  rw [sl_ro, ml_len]
  by_cases h : a ≤ b ∧ b ≤ l.length
  · rw [if_pos h, if_pos h, List.map_take, List.map_drop]
  · rw [if_neg h, if_neg h]
theorem scn_strs {l : List (List UInt8)} : setC 0 1 (strs l) .nil = some (strs l) := rfl
theorem sco_strs {l k : List (List UInt8)} : setC 0 1 (strs l) (strs k) = some (strs l) := rfl
theorem app_strs {l : List (List UInt8)} : nz 1 (l.map V.str) = 1 ∨ (l.map V.str).length = 0 := by cases l <;> simp [nz]
theorem ia_vPools {l : List Pool} {k : IntKind} {x : Int} : retV (.ia 3) [vPools l, .int k x] = if 0 ≤ x then (l[x.toNat]?).map fun e => .imm (vPool e) 0 else none := by
  unfold vPools
  rw [r_iaro, ml_get]
  cases l[x.toNat]? <;> rfl
theorem len_vPools {l : List Pool} : retV (.len false) [vPools l] = some (.int .i64 (l.length : Int)) := by
  unfold vPools
  rw [r_lenro, ml_len]
theorem lof_vPools {l : List Pool} : lenOf (vPools l) = some l.length := by
  unfold vPools
  rw [lenro, ml_len]
theorem ce_vPools {l : List Pool} : V.cells (vPools l) = [vPools l] := rfl
theorem on_vPools {l : List Pool} : V.ones (vPools l) = true := rfl
theorem o1_vPools {l : List Pool} : V.one (vPools l) = true := rfl
theorem fz_vPools {lo n : Nat} {m : Mem} {l : List Pool} : freeze lo m (n + 1) (vPools l) = some (vPools l) := rfl
theorem vw_vPools {m : Mem} {l : List Pool} : view m (vPools l) = some (nz 3 (l.map vPool), l.map vPool) := rfl
theorem sl_vPools {l : List Pool} {a b : Nat} : slOf 3 (vPools l) a b = if a ≤ b ∧ b ≤ l.length then some (vPools ((l.drop a).take (b - a))) else none := by
  unfold vPools
  rw [sl_ro, ml_len]
  by_cases h : a ≤ b ∧ b ≤ l.length
  · rw [if_pos h, if_pos h, List.map_take, List.map_drop]
  · rw [if_neg h, if_neg h]
theorem scn_vPools {l : List Pool} : setC 0 1 (vPools l) .nil = some (vPools l) := rfl
theorem sco_vPools {l k : List Pool} : setC 0 1 (vPools l) (vPools k) = some (vPools l) := rfl
theorem app_vPools {l : List Pool} : nz 3 (l.map vPool) = 3 ∨ (l.map vPool).length = 0 := by cases l <;> simp [nz]
theorem ia_vStps {l : List Stp} {k : IntKind} {x : Int} : retV (.ia 4) [vStps l, .int k x] = if 0 ≤ x then (l[x.toNat]?).map fun e => .imm (vStp e) 0 else none := by
  unfold vStps
  rw [r_iaro, ml_get]
  cases l[x.toNat]? <;> rfl
theorem len_vStps {l : List Stp} : retV (.len false) [vStps l] = some (.int .i64 (l.length : Int)) := by
  unfold vStps
  rw [r_lenro, ml_len]
theorem lof_vStps {l : List Stp} : lenOf (vStps l) = some l.length := by
  unfold vStps
  rw [lenro, ml_len]
theorem ce_vStps {l : List Stp} : V.cells (vStps l) = [vStps l] := rfl
theorem on_vStps {l : List Stp} : V.ones (vStps l) = true := rfl
theorem o1_vStps {l : List Stp} : V.one (vStps l) = true := rfl
theorem fz_vStps {lo n : Nat} {m : Mem} {l : List Stp} : freeze lo m (n + 1) (vStps l) = some (vStps l) := rfl
theorem vw_vStps {m : Mem} {l : List Stp} : view m (vStps l) = some (nz 4 (l.map vStp), l.map vStp) := rfl
theorem sl_vStps {l : List Stp} {a b : Nat} : slOf 4 (vStps l) a b = if a ≤ b ∧ b ≤ l.length then some (vStps ((l.drop a).take (b - a))) else none := by
  unfold vStps
  rw [sl_ro, ml_len]
  by_cases h : a ≤ b ∧ b ≤ l.length
  · rw [if_pos h, if_pos h, List.map_take, List.map_drop]
  · rw [if_neg h, if_neg h]
theorem scn_vStps {l : List Stp} : setC 0 1 (vStps l) .nil = some (vStps l) := rfl
theorem sco_vStps {l k : List Stp} : setC 0 1 (vStps l) (vStps k) = some (vStps l) := rfl
theorem app_vStps {l : List Stp} : nz 4 (l.map vStp) = 4 ∨ (l.map vStp).length = 0 := by cases l <;> simp [nz]
theorem ia_vClss {l : List Cls} {k : IntKind} {x : Int} : retV (.ia 4) [vClss l, .int k x] = if 0 ≤ x then (l[x.toNat]?).map fun e => .imm (vCls e) 0 else none := by
  unfold vClss
  rw [r_iaro, ml_get]
  cases l[x.toNat]? <;> rfl
theorem len_vClss {l : List Cls} : retV (.len false) [vClss l] = some (.int .i64 (l.length : Int)) := by
  unfold vClss
  rw [r_lenro, ml_len]
theorem lof_vClss {l : List Cls} : lenOf (vClss l) = some l.length := by
  unfold vClss
  rw [lenro, ml_len]
theorem ce_vClss {l : List Cls} : V.cells (vClss l) = [vClss l] := rfl
theorem on_vClss {l : List Cls} : V.ones (vClss l) = true := rfl
theorem o1_vClss {l : List Cls} : V.one (vClss l) = true := rfl
theorem fz_vClss {lo n : Nat} {m : Mem} {l : List Cls} : freeze lo m (n + 1) (vClss l) = some (vClss l) := rfl
theorem vw_vClss {m : Mem} {l : List Cls} : view m (vClss l) = some (nz 4 (l.map vCls), l.map vCls) := rfl
theorem sl_vClss {l : List Cls} {a b : Nat} : slOf 4 (vClss l) a b = if a ≤ b ∧ b ≤ l.length then some (vClss ((l.drop a).take (b - a))) else none := by
  unfold vClss
  rw [sl_ro, ml_len]
  by_cases h : a ≤ b ∧ b ≤ l.length
  · rw [if_pos h, if_pos h, List.map_take, List.map_drop]
  · rw [if_neg h, if_neg h]
theorem scn_vClss {l : List Cls} : setC 0 1 (vClss l) .nil = some (vClss l) := rfl
theorem sco_vClss {l k : List Cls} : setC 0 1 (vClss l) (vClss k) = some (vClss l) := rfl
theorem app_vClss {l : List Cls} : nz 4 (l.map vCls) = 4 ∨ (l.map vCls).length = 0 := by cases l <;> simp [nz]
theorem ces_vPool {s : Pool} : V.cells (vPool s) = [V.str s.name, .int .i64 s.size, .int .i64 s.res] := rfl
theorem ons_vPool {s : Pool} : V.ones (vPool s) = true := rfl
theorem fo_vPool {s : Pool} : V.agg [V.str s.name, .int .i64 s.size, .int .i64 s.res] = vPool s := rfl
theorem fzs_vPool {lo n : Nat} {m : Mem} {s : Pool} : freeze lo m (n + 2) (vPool s) = some (vPool s) := rfl
theorem ces_vStp {s : Stp} : V.cells (vStp s) = [.int .i64 s.kind, .int .i64 s.on, .int .i64 s.cnt, .bool s.deep] := rfl
theorem ons_vStp {s : Stp} : V.ones (vStp s) = true := rfl
theorem fo_vStp {s : Stp} : V.agg [.int .i64 s.kind, .int .i64 s.on, .int .i64 s.cnt, .bool s.deep] = vStp s := rfl
theorem fzs_vStp {lo n : Nat} {m : Mem} {s : Stp} : freeze lo m (n + 2) (vStp s) = some (vStp s) := rfl
theorem ces_vCls {s : Cls} : V.cells (vCls s) = [.str s.name, .int .i64 s.wk, .bool s.srv, vStps s.steps] := rfl
theorem ons_vCls {s : Cls} : V.ones (vCls s) = true := rfl
theorem fo_vCls {s : Cls} : V.agg [.str s.name, .int .i64 s.wk, .bool s.srv, vStps s.steps] = vCls s := rfl
theorem fzs_vCls {lo n : Nat} {m : Mem} {s : Cls} : freeze lo m (n + 2) (vCls s) = some (vCls s) := rfl
theorem ces_vSys {s : Sys} : V.cells (vSys s) = [vPools s.pools, strs s.locks, vClss s.cls] := rfl
theorem ons_vSys {s : Sys} : V.ones (vSys s) = true := rfl
theorem fo_vSys {s : Sys} : V.agg [vPools s.pools, strs s.locks, vClss s.cls] = vSys s := rfl
theorem fzs_vSys {lo n : Nat} {m : Mem} {s : Sys} : freeze lo m (n + 2) (vSys s) = some (vSys s) := rfl
set_option linter.defProp false
def se := And.intro @ia_ints (And.intro @len_ints (And.intro @lof_ints (And.intro @ce_ints (And.intro @on_ints (And.intro @o1_ints (And.intro @fz_ints (And.intro @vw_ints (And.intro @sl_ints (And.intro @scn_ints (And.intro @sco_ints (And.intro @ia_bools (And.intro @len_bools (And.intro @lof_bools (And.intro @ce_bools (And.intro @on_bools (And.intro @o1_bools (And.intro @fz_bools (And.intro @vw_bools (And.intro @sl_bools (And.intro @scn_bools (And.intro @sco_bools (And.intro @ia_strs (And.intro @len_strs (And.intro @lof_strs (And.intro @ce_strs (And.intro @on_strs (And.intro @o1_strs (And.intro @fz_strs (And.intro @vw_strs (And.intro @sl_strs (And.intro @scn_strs (And.intro @sco_strs (And.intro @ia_vPools (And.intro @len_vPools (And.intro @lof_vPools (And.intro @ce_vPools (And.intro @on_vPools (And.intro @o1_vPools (And.intro @fz_vPools (And.intro @vw_vPools (And.intro @sl_vPools (And.intro @scn_vPools (And.intro @sco_vPools (And.intro @ia_vStps (And.intro @len_vStps (And.intro @lof_vStps (And.intro @ce_vStps (And.intro @on_vStps (And.intro @o1_vStps (And.intro @fz_vStps (And.intro @vw_vStps (And.intro @sl_vStps (And.intro @scn_vStps (And.intro @sco_vStps (And.intro @ia_vClss (And.intro @len_vClss (And.intro @lof_vClss (And.intro @ce_vClss (And.intro @on_vClss (And.intro @o1_vClss (And.intro @fz_vClss (And.intro @vw_vClss (And.intro @sl_vClss (And.intro @scn_vClss (And.intro @sco_vClss (And.intro @ces_vPool (And.intro @ons_vPool (And.intro @fo_vPool (And.intro @fzs_vPool (And.intro @ces_vStp (And.intro @ons_vStp (And.intro @fo_vStp (And.intro @fzs_vStp (And.intro @ces_vCls (And.intro @ons_vCls (And.intro @fo_vCls (And.intro @fzs_vCls (And.intro @ces_vSys (And.intro @ons_vSys (And.intro @fo_vSys (@fzs_vSys)))))))))))))))))))))))))))))))))))))))))))))))))))))))))))))))))))))))))))))))))

/-! ### Lists from a place on -/
theorem drop_cons {α : Type} {l : List α} {i : Nat} {x : α} {t : List α} (h : l.drop i = x :: t) : l[i]? = some x ∧ l.drop (i + 1) = t ∧ i < l.length := by
  have hl : i < l.length := by
    rcases Nat.lt_or_ge i l.length with h' | h'
    · exact h'
    · rw [List.drop_eq_nil_of_le h'] at h; cases h
  rw [List.drop_eq_getElem_cons hl] at h
  cases h
  exact ⟨List.getElem?_eq_getElem hl, rfl, hl⟩
theorem drop_nil {α : Type} {l : List α} {i : Nat} (h : l.drop i = []) : l.length ≤ i := List.drop_eq_nil_iff.1 h

/-- The place of the first element of this kind, or -1. -/
def idxP {α : Type} (p : α → Bool) : List α → Nat → Int
  | [], _ => -1
  | x :: xs, i => if p x then (i : Int) else idxP p xs (i + 1)
theorem idxP_ge {α : Type} {p : α → Bool} : ∀ {l : List α} {i : Nat}, (0 ≤ idxP p l i) = (l.any p = true)
  | [], i => by simp [idxP]
  | x :: xs, i => by
    cases h : p x <;> simp [idxP, h, idxP_ge (l := xs)]
end Go.Am
