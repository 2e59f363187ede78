/- Regions whose order is open, with the places that the operations look at. -/
import Derived.Test.YtflfnkdhmcfjlaaSz
namespace Go.Am
open Go

section
variable {F : Nat → Option Fn} {lo base i : Nat} {ops : List Op} {e b a : Env} {m : Mem} {Q : St → List (List Key) → Prop} {d : Nat}

noncomputable def dkeys : D → List Key
  | .x t => [.bx t]
  | _ => []
noncomputable def vkeys : V → List Key
  | .loc t _ => [.bx t]
  | _ => []

theorem RD_exec {D : D} {k : K} {os : List O} : RD F lo base i (⟨D, k, os, none⟩ :: ops) ⟨e, b, a, m⟩ Q ↔ OC (getOs ⟨e, b, a, m⟩ os) fun vs => OC (plan k vs) fun p => OC (act (callw F) lo (base + i) ⟨e, b, a, m⟩ D p) fun s => RD F lo base (i + 1) ops s (fun s' ks => Q s' ((dkeys D ++ p.keys (base + i)) :: ks)) := by
  rw [RD_cons]
  simp only [step, exec, keysOf]
  cases getOs ⟨e, b, a, m⟩ os with
  | none => simp [OC_none]
  | some vs =>
    simp only [OC_some]
    cases plan k vs with
    | none => simp [OC_none]
    | some p => simp only [OC_some]; exact Iff.rfl

@[congr] theorem RD_congr {os : List Op} {st st' : St} {Q : St → List (List Key) → Prop} (h : st = st') : RD F lo base i os st Q = RD F lo base i os st' Q := by rw [h]

theorem RD_ret_e {k : K} {os : List O} (hk : RetK k) : RD F lo base i (⟨.e d, k, os, none⟩ :: ops) ⟨e, b, a, m⟩ Q ↔ OC (getOs ⟨e, b, a, m⟩ os) fun vs => OC (retV k vs) fun v => RD F lo base (i + 1) ops ⟨(d, v) :: e, b, a, m⟩ (fun s' ks => Q s' (vkeys v :: ks)) := by
  rw [RD_exec]
  cases getOs ⟨e, b, a, m⟩ os with
  | none => simp [OC_none]
  | some vs =>
    simp only [OC_some, retV]
    cases hp : plan k vs with
    | none => simp [OC_none]
    | some p =>
      obtain ⟨v, rfl⟩ := hk.2 vs p hp
      have : dkeys (.e d) ++ (Plan.ret v).keys (base + i) = vkeys v := by cases v <;> rfl
      simp only [OC_some, act, put, this]

theorem RD_ret_a {k : K} {os : List O} (hk : RetK k) : RD F lo base i (⟨.a d, k, os, none⟩ :: ops) ⟨e, b, a, m⟩ Q ↔ OC (getOs ⟨e, b, a, m⟩ os) fun vs => OC (retV k vs) fun v => RD F lo base (i + 1) ops ⟨e, b, (d, v) :: a, m⟩ (fun s' ks => Q s' (vkeys v :: ks)) := by
  rw [RD_exec]
  cases getOs ⟨e, b, a, m⟩ os with
  | none => simp [OC_none]
  | some vs =>
    simp only [OC_some, retV]
    cases hp : plan k vs with
    | none => simp [OC_none]
    | some p =>
      obtain ⟨v, rfl⟩ := hk.2 vs p hp
      have : dkeys (.a d) ++ (Plan.ret v).keys (base + i) = vkeys v := by cases v <;> rfl
      simp only [OC_some, act, put, this]

noncomputable def pkeys : V → List Key
  | .ptr h _ _ => [.h h]
  | .loc t _ => [.bx t]
  | _ => []

theorem RD_ld {agg : Bool} {sz : Nat} {x : O} : RD F lo base i (⟨.e d, .ld agg sz, [x], none⟩ :: ops) ⟨e, b, a, m⟩ Q ↔ OC (getO ⟨e, b, a, m⟩ x) fun u => OC (ldV b m agg sz u) fun v => RD F lo base (i + 1) ops ⟨(d, v) :: e, b, a, m⟩ (fun s' ks => Q s' ((match u with | .imm _ _ => vkeys v | u => pkeys u) :: ks)) := by
  rw [RD_exec]
  simp only [gs_cons, gs_nil]
  cases getO ⟨e, b, a, m⟩ x with
  | none => simp [OC_none]
  | some u =>
    simp only [OC_some, plan]
    cases u <;> simp only [plan_ld, ldV, OC_none]
    · simp only [OC_some, act]
      rename_i h j o
      cases hb : m.blk h with
      | none => simp [OC_none]
      | some B =>
        cases B with
        | map _ => simp [OC_none]
        | row s es =>
          simp only [nth_eq]
          cases es[j]? with
          | none => simp [OC_none]
          | some u =>
            simp only
            cases getC agg o sz u <;> simp [OC_none, OC_some, put, dkeys, Plan.keys, pkeys]
    · simp only [OC_some, act]
      rename_i t o
      cases b.get t with
      | none => simp [OC_none]
      | some u =>
        simp only
        cases getC agg o sz u <;> simp [OC_none, OC_some, put, dkeys, Plan.keys, pkeys]
    · rename_i u o
      simp only [OC_map, act, put, OC_some]
      cases getC agg o sz u with
      | none => simp [OC_none]
      | some v =>
        have : dkeys (.e d) ++ (Plan.ret v).keys (base + i) = vkeys v := by cases v <;> rfl
        simp only [OC_some, this]

theorem RD_st {sz : Nat} {x y : O} : RD F lo base i (⟨.n, .st sz, [x, y], none⟩ :: ops) ⟨e, b, a, m⟩ Q ↔ OC (getO ⟨e, b, a, m⟩ x) fun u => OC (getO ⟨e, b, a, m⟩ y) fun v => OC (stV lo b m sz v u) fun r => RD F lo base (i + 1) ops ⟨e, r.1, a, r.2⟩ (fun s' ks => Q s' (pkeys u :: ks)) := by
  rw [RD_exec]
  simp only [gs_cons, gs_nil]
  cases getO ⟨e, b, a, m⟩ x with
  | none => simp [OC_none]
  | some u =>
    cases getO ⟨e, b, a, m⟩ y with
    | none => simp [OC_none, OC_some]
    | some v =>
      simp only [OC_some, plan]
      cases u <;> simp only [plan_st, stV, OC_none]
      · simp only [OC_some, act]
        rename_i h j o
        by_cases hl : lo ≤ h
        · simp only [if_pos hl]
          cases hb : m.blk h with
          | none => simp [OC_none]
          | some B =>
            cases B with
            | map _ => simp [OC_none]
            | row s es =>
              simp only [nth_eq]
              cases es[j]? with
              | none => simp [OC_none]
              | some u =>
                simp only
                cases setC o sz v u <;> simp [OC_none, OC_some, put, dkeys, Plan.keys, pkeys]
        · simp only [if_neg hl, OC_none]
      · simp only [OC_some, act]
        rename_i t o
        cases b.get t with
        | none => simp [OC_none]
        | some u =>
          simp only
          cases setC o sz v u <;> simp [OC_none, OC_some, dkeys, Plan.keys, pkeys]

theorem RD_mk {sz : Nat} {z : V} {x : O} : RD F lo base i (⟨.e d, .mk sz z, [x], none⟩ :: ops) ⟨e, b, a, m⟩ Q ↔ OC (getO ⟨e, b, a, m⟩ x) fun u => OC (mkN u) fun n => RD F lo base (i + 1) ops ⟨(d, .row sz (base + i) 0 n) :: e, b, a, m.set (base + i) (some (.row sz (List.replicate n z)))⟩ (fun s' ks => Q s' ([.h (base + i)] :: ks)) := by
  rw [RD_exec]
  simp only [gs_cons, gs_nil]
  cases getO ⟨e, b, a, m⟩ x with
  | none => simp [OC_none]
  | some u =>
    simp only [OC_some, plan]
    cases u <;> simp only [plan_mk, mkN, OC_none]
    case int k n =>
      by_cases h : 0 ≤ n ∧ n < big
      · simp only [if_pos h, OC_some, act, put]; exact Iff.rfl
      · simp only [if_neg h, OC_none]

theorem RD_hlit {sz n : Nat} {z : V} {ix : List Nat} {os : List O} : RD F lo base i (⟨.e d, .hlit sz n z ix, os, none⟩ :: ops) ⟨e, b, a, m⟩ Q ↔ OC (getOs ⟨e, b, a, m⟩ os) fun vs => OC (fillE sz ix vs (List.replicate n z)) fun es => RD F lo base (i + 1) ops ⟨(d, .row sz (base + i) 0 n) :: e, b, a, m.set (base + i) (some (.row sz es))⟩ (fun s' ks => Q s' ([.h (base + i)] :: ks)) := by
  rw [RD_exec]
  cases getOs ⟨e, b, a, m⟩ os with
  | none => simp [OC_none]
  | some vs =>
    simp only [OC_some, plan, plan_hlit, OC_map, act, put]; exact Iff.rfl

theorem RD_call_e {f : Nat} {os : List O} : RD F lo base i (⟨.e d, .call f, os, none⟩ :: ops) ⟨e, b, a, m⟩ Q ↔ OC (getOs ⟨e, b, a, m⟩ os) fun vs => OC (callw F f vs lo m) fun r => RD F lo base (i + 1) ops ⟨(d, r.1) :: e, b, a, r.2⟩ (fun s' ks => Q s' ([] :: ks)) := by
  rw [RD_exec]
  cases getOs ⟨e, b, a, m⟩ os with
  | none => simp [OC_none]
  | some vs =>
    simp only [OC_some, plan, plan_call, act]
    cases callw F f vs lo m with
    | none => simp [OC_none]
    | some r => simp only [OC_some, put]; exact Iff.rfl

theorem RD_box {x : O} : RD F lo base i (⟨.x d, .box, [x], none⟩ :: ops) ⟨e, b, a, m⟩ Q ↔ OC (getO ⟨e, b, a, m⟩ x) fun v => v.ones = true ∧ hasLoc d a = false ∧ RD F lo base (i + 1) ops ⟨e, (d, v) :: b, a, m⟩ (fun s' ks => Q s' ([.bx d] :: ks)) := by
  rw [RD_exec]
  simp only [gs_cons, gs_nil]
  cases getO ⟨e, b, a, m⟩ x with
  | none => simp [OC_none]
  | some v =>
    simp only [OC_some, plan, plan_box]
    by_cases h1 : v.ones = true
    · simp only [h1, if_true, OC_some, act, true_and]
      cases h2 : hasLoc d a
      · simp only [OC_some, Bool.false_eq_true, if_false, true_and]; exact Iff.rfl
      · simp [OC_none]
    · simp [h1, OC_none]

theorem RD_hbox {sz : Nat} {x : O} : RD F lo base i (⟨.e d, .hbox sz, [x], none⟩ :: ops) ⟨e, b, a, m⟩ Q ↔ OC (getO ⟨e, b, a, m⟩ x) fun v => v.ones = true ∧ v.cells.length = sz ∧ RD F lo base (i + 1) ops ⟨(d, .ptr (base + i) 0 0) :: e, b, a, m.set (base + i) (some (.row sz [v]))⟩ (fun s' ks => Q s' ([.h (base + i)] :: ks)) := by
  rw [RD_exec]
  simp only [gs_cons, gs_nil]
  cases getO ⟨e, b, a, m⟩ x with
  | none => simp [OC_none]
  | some v =>
    simp only [OC_some, plan, plan_hbox]
    by_cases h : v.ones = true ∧ v.cells.length = sz
    · have : (v.ones && v.cells.length == sz) = true := by simp [h]
      rw [if_pos this]
      simp only [OC_some, act, put, h.1, h.2, true_and]; exact Iff.rfl
    · have : (v.ones && v.cells.length == sz) = false := by
        cases hc : (v.ones && v.cells.length == sz) with
        | false => rfl
        | true => simp at hc; exact absurd hc h
      simp only [this, Bool.false_eq_true, if_false, OC_none, false_iff]
      intro hh
      exact h ⟨hh.1, hh.2.1⟩

theorem RD_app {sz : Nat} {x y : O} : RD F lo base i (⟨.e d, .app sz, [x, y], none⟩ :: ops) ⟨e, b, a, m⟩ Q ↔ OC (getO ⟨e, b, a, m⟩ x) fun u => OC (getO ⟨e, b, a, m⟩ y) fun v => OC (apV lo (base + i) m sz u v) fun r => RD F lo base (i + 1) ops ⟨(d, r.1) :: e, b, a, r.2⟩ (fun s' ks => Q s' ((.h (base + i) :: (u.key ++ v.key)) :: ks)) := by
  rw [RD_exec]
  simp only [gs_cons, gs_nil]
  cases getO ⟨e, b, a, m⟩ x with
  | none => simp [OC_none]
  | some u =>
    cases getO ⟨e, b, a, m⟩ y with
    | none => simp [OC_none, OC_some]
    | some v =>
      simp only [OC_some, plan, apV]
      cases u <;> simp only [plan_app, OC_none]
      case nil =>
        simp only [OC_some, act]
        cases view m v with
        | none => simp [OC_none]
        | some q =>
          obtain ⟨s, xs⟩ := q
          cases xs with
          | nil => simp only [OC_some, put]; exact Iff.rfl
          | cons z zs =>
            by_cases h : s = sz ∧ (z :: zs).length < big
            · simp only [if_pos h, OC_some, put]; exact Iff.rfl
            · simp only [if_neg h, OC_none]
      case row s0 h' o l =>
        by_cases hs : s0 = sz
        · simp only [if_pos hs, OC_some, act]
          cases view m v with
          | none => simp [OC_none]
          | some q =>
            obtain ⟨s, xs⟩ := q
            simp only
            by_cases h : lo ≤ h' ∧ (s = sz ∨ xs.length = 0) ∧ l + xs.length < big
            · simp only [if_pos h]
              cases m.blk h' with
              | none => simp [OC_none]
              | some B =>
                cases B with
                | map _ => simp [OC_none]
                | row s' es =>
                  simp only
                  by_cases h2 : s' = sz ∧ o + l ≤ es.length
                  · simp only [if_pos h2, OC_some, put]; exact Iff.rfl
                  · simp only [if_neg h2, OC_none]
            · simp only [if_neg h, OC_none]
        · simp only [if_neg hs, OC_none]
          cases view m v with
          | none => simp [OC_none]
          | some q => simp [OC_none]
      all_goals
        cases view m v with
        | none => simp [OC_none]
        | some q => simp [OC_none]

theorem po_nil {ks : List (List Key)} : pairsOk ks [] = true := rfl
theorem po_cons {ks : List (List Key)} {i j : Nat} {ps : List (Nat × Nat)} {x y : List Key} (hx : ks[i]? = some x) (hy : ks[j]? = some y) : pairsOk ks ((i, j) :: ps) = (keysApart x y && pairsOk ks ps) := by
  simp only [pairsOk, nth_eq, hx, hy]
theorem ka_n {y : List Key} : keysApart [] y = true := rfl
theorem ka_c {x : Key} {xs y : List Key} : keysApart (x :: xs) y = (y.all (fun b => x.apart b) && keysApart xs y) := rfl
theorem kp_hh {x y : Nat} : Key.apart (.h x) (.h y) = decide (x ≠ y) := rfl
theorem kp_bb {x y : Nat} : Key.apart (.bx x) (.bx y) = decide (x ≠ y) := rfl
theorem kp_hb {x y : Nat} : Key.apart (.h x) (.bx y) = true := rfl
theorem kp_bh {x y : Nat} : Key.apart (.bx x) (.h y) = true := rfl
theorem vk_int {k : IntKind} {x : Int} : vkeys (.int k x) = [] := rfl
theorem vk_bool {c : Bool} : vkeys (.bool c) = [] := rfl
theorem vk_str {c : List UInt8} : vkeys (.str c) = [] := rfl
theorem vk_nil : vkeys .nil = [] := rfl
theorem vk_ro {p : Bool} {sz : Nat} {xs : List V} : vkeys (.ro p sz xs) = [] := rfl
theorem vk_row {s h o l : Nat} : vkeys (.row s h o l) = [] := rfl
theorem vk_ptr {h o l : Nat} : vkeys (.ptr h o l) = [] := rfl
theorem vk_imm {v : V} {o : Nat} : vkeys (.imm v o) = [] := rfl
theorem vk_agg {cs : List V} : vkeys (.agg cs) = [] := rfl
theorem vk_tup {cs : List V} : vkeys (.tup cs) = [] := rfl
theorem vk_fn {f : Nat} {cs : List V} : vkeys (.fn f cs) = [] := rfl
theorem vk_loc {t o : Nat} : vkeys (.loc t o) = [.bx t] := rfl
theorem pk_ptr {h o l : Nat} : pkeys (.ptr h o l) = [.h h] := rfl
theorem pk_loc {t o : Nat} : pkeys (.loc t o) = [.bx t] := rfl
theorem k_nil : V.key .nil = [] := rfl
theorem k_row {s h o l : Nat} : V.key (.row s h o l) = [.h h] := rfl
theorem k_ro {p : Bool} {sz : Nat} {xs : List V} : V.key (.ro p sz xs) = [] := rfl
theorem k_all0 {p : Key → Bool} : ([] : List Key).all p = true := rfl
theorem k_all1 {p : Key → Bool} {x : Key} {l : List Key} : (x :: l).all p = (p x && l.all p) := rfl
end
set_option linter.defProp false
def sk := And.intro @RD_nil (And.intro @RD_ret_e (And.intro @RD_ret_a (And.intro @RD_ld (And.intro @RD_st (And.intro @RD_mk (And.intro @RD_hlit (And.intro @RD_call_e (And.intro @RD_box (And.intro @RD_hbox (And.intro @RD_app (And.intro @po_nil (And.intro @ka_n (And.intro @ka_c (And.intro @kp_hh (And.intro @kp_bb (And.intro @kp_hb (And.intro @kp_bh (And.intro @vk_int (And.intro @vk_bool (And.intro @vk_str (And.intro @vk_nil (And.intro @vk_ro (And.intro @vk_row (And.intro @vk_ptr (And.intro @vk_imm (And.intro @vk_agg (And.intro @vk_tup (And.intro @vk_fn (And.intro @vk_loc (And.intro @pk_ptr (And.intro @pk_loc (And.intro @k_nil (And.intro @k_row (And.intro @k_ro (And.intro @k_all0 @k_all1)))))))))))))))))))))))))))))))))))
end Go.Am
