/- Stepping through the abstract machine's code: what each kind of operation does, as rewriting rules. -/
import Derived.Test.YtflfnkdhmcfjlaaSx
namespace Go.Am
set_option linter.unusedSimpArgs false
set_option linter.unusedVariables false
open Go

/-! ### Operands -/
section
variable {st : St}
theorem gs_nil {K : List V → Prop} : OC (getOs st []) K ↔ K [] := by rw [getOs_nil, OC_some]
theorem gs_cons {o : O} {os : List O} {K : List V → Prop} : OC (getOs st (o :: os)) K ↔ OC (getO st o) fun v => OC (getOs st os) fun vs => K (v :: vs) := by
  rw [getOs_cons]
  cases getO st o with
  | none => simp [OC_none]
  | some v =>
    cases getOs st os with
    | none => simp [OC_none, OC_some]
    | some vs => simp [OC_some]
theorem g_t {e b a : Env} {m : Mem} {i : Nat} : getO ⟨e, b, a, m⟩ (.t i) = e.get i := rfl
theorem g_k {v : V} : getO st (.k v) = some v := rfl
theorem g_a {e b a : Env} {m : Mem} {i : Nat} : getO ⟨e, b, a, m⟩ (.a i) = a.get i := rfl
theorem g_b {e b a : Env} {m : Mem} {i : Nat} {K : V → Prop} : OC (getO ⟨e, b, a, m⟩ (.b i)) K ↔ OC (b.get i) fun _ => K (.loc i 0) := by
  simp only [getO]
  cases b.get i with
  | none => simp [OC_none]
  | some v => simp [OC_some]
theorem g_b' {e b a : Env} {m : Mem} {i : Nat} {v : V} (h : b.get i = some v) : getO ⟨e, b, a, m⟩ (.b i) = some (.loc i 0) := by simp only [getO, h]
theorem cut_eq {e b a : Env} {m : Mem} {lv lb : List Nat} : St.cut ⟨e, b, a, m⟩ lv lb = ⟨pick lv e, pick lb b, [], m⟩ := rfl
noncomputable def pickc (t : Nat) (o : Option V) (r : Env) : Env := match o with
  | none => r
  | some v => (t, v) :: r
theorem pickc_some {t : Nat} {v : V} {r : Env} : pickc t (some v) r = (t, v) :: r := rfl
theorem pickc_none {t : Nat} {r : Env} : pickc t none r = r := rfl
theorem pick_nil {e : Env} : pick [] e = [] := rfl
theorem pick_cons {t : Nat} {l : List Nat} {e : Env} : pick (t :: l) e = pickc t (e.get t) (pick l e) := by
  show Option.rec (motive := fun _ => Env) (pick l e) (fun v => (t, v) :: pick l e) (e.get t) = _
  cases e.get t <;> rfl
end

/-! ### Values of kinds that only return -/
section
variable {k k' : IntKind} {x y : Int} {p : Bool} {s sz h o l n i : Nat} {xs : List V} {u v w : V}
theorem r_mv : retV .mv [v] = some v := rfl
theorem r_pmv : retV .pmv [.ptr h i o] = some (.ptr h i o) := rfl
theorem r_pick {c : Bool} : retV .pick [.bool c, u, v] = some (if c = true then u else v) := rfl
theorem r_bin {op : BinOp} (hop : op ≠ .shr) : retV (.bin op) [.int k x, .int k y] = intOp op k x y := by
  unfold retV
  simp only [plan, plan_bin]
  cases op <;> first
    | exact absurd rfl hop
    | (simp only [binPlan, if_true]; cases intOp _ k x y <;> rfl)
theorem r_add : retV (.bin .add) [.int k x, .int k y] = some (.int k (wrapF k (x + y))) := r_bin (by decide)
theorem r_sub : retV (.bin .sub) [.int k x, .int k y] = some (.int k (wrapF k (x - y))) := r_bin (by decide)
theorem r_mul : retV (.bin .mul) [.int k x, .int k y] = some (.int k (wrapF k (x * y))) := r_bin (by decide)
theorem r_quo : retV (.bin .quo) [.int k x, .int k y] = if y = 0 then none else some (.int k (wrapF k (x.tdiv y))) := r_bin (by decide)
theorem r_rem : retV (.bin .rem) [.int k x, .int k y] = if y = 0 then none else some (.int k (x.tmod y)) := r_bin (by decide)
theorem r_eql : retV (.bin .eql) [.int k x, .int k y] = some (.bool (decide (x = y))) := r_bin (by decide)
theorem r_neq : retV (.bin .neq) [.int k x, .int k y] = some (.bool (!decide (x = y))) := r_bin (by decide)
theorem r_lss : retV (.bin .lss) [.int k x, .int k y] = some (.bool (decide (x < y))) := r_bin (by decide)
theorem r_leq : retV (.bin .leq) [.int k x, .int k y] = some (.bool (decide (x ≤ y))) := r_bin (by decide)
theorem r_gtr : retV (.bin .gtr) [.int k x, .int k y] = some (.bool (decide (y < x))) := r_bin (by decide)
theorem r_geq : retV (.bin .geq) [.int k x, .int k y] = some (.bool (decide (y ≤ x))) := r_bin (by decide)
theorem r_bqe {c d : Bool} : retV (.bq false) [.bool c, .bool d] = some (.bool (decide (c = d))) := by cases c <;> cases d <;> rfl
theorem r_bqn {c d : Bool} : retV (.bq true) [.bool c, .bool d] = some (.bool (!decide (c = d))) := by cases c <;> cases d <;> rfl
theorem r_sqe {c d : List UInt8} : retV (.sq false) [.str c, .str d] = some (.bool (decide (c = d))) := by
  have : (c == d) = decide (c = d) := by by_cases h : c = d <;> simp [h]
  simp only [retV, plan, plan_sq, Bool.false_eq_true, if_false, this]
theorem r_sqn {c d : List UInt8} : retV (.sq true) [.str c, .str d] = some (.bool (!decide (c = d))) := by
  have : (c != d) = !decide (c = d) := by by_cases h : c = d <;> simp [h]
  simp only [retV, plan, plan_sq, if_true, this]
theorem r_aq {ne : Bool} {ks : List Nat} {as bs : List V} : retV (.aq ne ks) [.agg as, .agg bs] = (eqKs ks as bs).map fun r => .bool (if ne then !r else r) := by
  simp only [retV, plan, plan_aq]
  cases eqKs ks as bs <;> rfl
theorem eqKs_nil : eqKs [] [] [] = some true := rfl
theorem eqKs_int {ks : List Nat} {as bs : List V} : eqKs (0 :: ks) (.int k x :: as) (.int k y :: bs) = if x = y then eqKs ks as bs else some false := by
  simp only [eqKs, eqK, if_true]
  by_cases h : x = y
  · simp [h]
  · have : (x == y) = false := by simp [h]
    rw [this, if_neg h]
theorem eqKs_bool {ks : List Nat} {c d : Bool} {as bs : List V} : eqKs (1 :: ks) (.bool c :: as) (.bool d :: bs) = if c = d then eqKs ks as bs else some false := by
  simp only [eqKs, eqK]
  cases c <;> cases d <;> rfl
theorem eqKs_str {ks : List Nat} {c d : List UInt8} {as bs : List V} : eqKs (2 :: ks) (.str c :: as) (.str d :: bs) = if c = d then eqKs ks as bs else some false := by
  simp only [eqKs, eqK]
  by_cases h : c = d
  · simp [h]
  · have : (c == d) = false := by simp [h]
    rw [this, if_neg h]
theorem r_nq0 {ne : Bool} : retV (.nq ne) [.nil, .nil] = some (.bool (!ne)) := rfl
theorem r_nq1 {ne : Bool} : retV (.nq ne) [.row s h o l, .nil] = some (.bool ne) := rfl
theorem r_not {c : Bool} : retV .not [.bool c] = some (.bool (!c)) := rfl
theorem r_cvt : retV (.cvt k) [.int k' x] = some (.int k (k.wrap x)) := rfl
theorem r_ext : retV (.ext i) [.tup xs] = xs[i]? := by
  simp only [retV, plan, plan_ext, nth_eq]
  cases xs[i]? <;> rfl
theorem r_lenl : retV (.len false) [.lst p s xs] = some (.int .i64 (xs.length : Int)) := rfl
theorem r_lenn : retV (.len false) [.nil] = some (.int .i64 0) := rfl
theorem r_lenr : retV (.len false) [.row s h o l] = some (.int .i64 (l : Int)) := rfl
theorem r_lens {c : List UInt8} : retV (.len true) [.str c] = some (.int .i64 (c.length : Int)) := rfl
theorem r_mx : retV .mx [.int k x, .int k' y] = some (.int k (max x y)) := by
  simp only [retV, plan, plan_mx]
  congr 2
  omega
theorem r_mn : retV .mn [.int k x, .int k' y] = some (.int k (min x y)) := by
  simp only [retV, plan, plan_mn]
  congr 2
  omega
theorem r_bld {z : List V} {pl : List (Nat × Nat)} : retV (.bld z pl) xs = (fillC pl xs z).map .agg := by
  simp only [retV, plan, plan_bld]
  cases fillC pl xs z <;> rfl
theorem fillC_nil {z : List V} : fillC [] [] z = some z := rfl
theorem fillC_cons {off : Nat} {pl : List (Nat × Nat)} {vs z : List V} : fillC ((off, sz) :: pl) (v :: vs) z = if v.ones && (v.cells.length == sz) && decide (off + sz ≤ z.length) then fillC pl vs (z.take off ++ v.cells ++ z.drop (off + sz)) else none := rfl
theorem r_lit {z : V} {ix : List Nat} {vs : List V} : retV (.lit sz n z ix) vs = (fillE sz ix vs (List.replicate n z)).map (.lst false sz) := by
  simp only [retV, plan, plan_lit]
  cases fillE sz ix vs (List.replicate n z) <;> rfl
theorem fillE_nil {z : List V} : fillE sz [] [] z = some z := rfl
theorem fillE_cons {ix : List Nat} {vs z : List V} : fillE sz (i :: ix) (v :: vs) z = if v.ones && (v.cells.length == sz) && decide (i < z.length) then fillE sz ix vs (z.set i v) else none := rfl
theorem r_six {c : List UInt8} : retV .six [.str c, .int k x] = if 0 ≤ x then (c[x.toNat]?).map fun c => .int .u8 c.toNat else none := by
  simp only [retV, plan, plan_six, nth_eq]
  by_cases hc : 0 ≤ x
  · simp only [if_pos hc]
    cases c[x.toNat]? <;> rfl
  · simp only [if_neg hc]
theorem r_fldf {off : Nat} {cs : List V} : retV (.fld false off sz) [.agg cs] = cs[off]? := by
  simp only [retV, plan, plan_fld, getC, Bool.false_eq_true, if_false, nth_eq, V.cells]
  cases cs[off]? <;> rfl
theorem r_fldt {off : Nat} {cs : List V} : retV (.fld true off sz) [.agg cs] = if off + sz ≤ cs.length then some (.agg ((cs.drop off).take sz)) else none := by
  simp only [retV, plan, plan_fld, getC, if_true, V.cells]
  by_cases hc : off + sz ≤ cs.length
  · simp [hc]
  · simp [hc]
theorem r_sl_lh : retV (.sl sz true true false) [v, .int k x, .int k' y] = (if 0 ≤ x ∧ 0 ≤ y ∧ (lenOf v).isSome then slOf sz v x.toNat y.toNat else none) := by
  simp only [retV, plan, plan_sl, Bool.false_eq_true, if_false, optBound, if_true]
  cases hl : lenOf v with
  | none => simp
  | some n =>
    by_cases hx : 0 ≤ x
    · by_cases hy : 0 ≤ y
      · simp [hx, hy]
        cases slOf sz v x.toNat y.toNat <;> rfl
      · simp [hx, hy]
    · simp [hx]
theorem r_sl_h : retV (.sl sz false true false) [v, .int k' y] = (if 0 ≤ y ∧ (lenOf v).isSome then slOf sz v 0 y.toNat else none) := by
  simp only [retV, plan, plan_sl, Bool.false_eq_true, if_false, optBound, if_true]
  cases hl : lenOf v with
  | none => simp
  | some n =>
    by_cases hy : 0 ≤ y
    · simp [hy]
      cases slOf sz v 0 y.toNat <;> rfl
    · simp [hy]
theorem r_sl_l : retV (.sl sz true false false) [v, .int k x] = (match lenOf v with
    | some n => if 0 ≤ x then slOf sz v x.toNat n else none
    | none => none) := by
  simp only [retV, plan, plan_sl, Bool.false_eq_true, if_false, optBound, if_true]
  cases hl : lenOf v with
  | none => simp
  | some n =>
    by_cases hx : 0 ≤ x
    · simp [hx]
      cases slOf sz v x.toNat n <;> rfl
    · simp [hx]
theorem r_fap {off : Nat} : retV (.fa off) [.ptr h i o] = some (.ptr h i (o + off)) := rfl
theorem r_fai {off : Nat} : retV (.fa off) [.imm v o] = some (.imm v (o + off)) := rfl
theorem r_fal {off t : Nat} : retV (.fa off) [.loc t o] = some (.loc t (o + off)) := rfl
theorem r_iar : retV (.ia sz) [.row s h o l, .int k x] = if 0 ≤ x ∧ x < l ∧ s = sz then some (.ptr h (o + x.toNat) 0) else none := by
  simp only [retV, plan, plan_ia]
  by_cases hc : 0 ≤ x ∧ x < l ∧ s = sz
  · simp only [if_pos hc]
  · simp only [if_neg hc]
theorem r_ial : retV (.ia sz) [.lst p s xs, .int k x] = if 0 ≤ x ∧ s = sz then (xs[x.toNat]?).map fun e => .imm e 0 else none := by
  simp only [retV, plan, plan_ia, nth_eq]
  by_cases hc : 0 ≤ x ∧ s = sz
  · simp only [if_pos hc]
    cases xs[x.toNat]? <;> rfl
  · simp only [if_neg hc]
theorem r_iaro : retV (.ia sz) [.ro p sz xs, .int k x] = if 0 ≤ x then (xs[x.toNat]?).map fun e => .imm e 0 else none := by
  show retV (.ia sz) [.lst p (nz sz xs) xs, .int k x] = _
  rw [r_ial]
  cases xs with
  | nil => simp
  | cons y ys =>
    have : nz sz (y :: ys) = sz := rfl
    simp [this]
theorem r_iaap : retV (.iaa n sz) [.ptr h i o, .int k x] = if 0 ≤ x ∧ x < n then some (.ptr h i (o + x.toNat * sz)) else none := by
  simp only [retV, plan, plan_iaa]
  by_cases hc : 0 ≤ x ∧ x < n
  · simp only [if_pos hc]
  · simp only [if_neg hc]
theorem r_iaai : retV (.iaa n sz) [.imm v o, .int k x] = if 0 ≤ x ∧ x < n then some (.imm v (o + x.toNat * sz)) else none := by
  simp only [retV, plan, plan_iaa]
  by_cases hc : 0 ≤ x ∧ x < n
  · simp only [if_pos hc]
  · simp only [if_neg hc]
theorem r_iaal {t : Nat} : retV (.iaa n sz) [.loc t o, .int k x] = if 0 ≤ x ∧ x < n then some (.loc t (o + x.toNat * sz)) else none := by
  simp only [retV, plan, plan_iaa]
  by_cases hc : 0 ≤ x ∧ x < n
  · simp only [if_pos hc]
  · simp only [if_neg hc]
theorem r_ncp : retV .nc [.ptr h i o] = some (.ptr h i o) := rfl
theorem r_nci : retV .nc [.imm v o] = some (.imm v o) := rfl
theorem r_ncl {t : Nat} : retV .nc [.loc t o] = some (.loc t o) := rfl
theorem r_ncf {f : Nat} {cs : List V} : retV .nc [.fn f cs] = some (.fn f cs) := rfl
theorem r_mkf {f : Nat} : retV (.mkf f) xs = some (.fn f xs) := rfl
theorem r_sadd {c d : List UInt8} : retV .sadd [.str c, .str d] = if c.length + d.length < big then some (.str (c ++ d)) else none := by
  simp only [retV, plan, plan_sadd]
  by_cases hc : c.length + d.length < big
  · simp only [if_pos hc]
  · simp only [if_neg hc]
theorem lenro : lenOf (.ro p sz xs) = some xs.length := rfl
theorem r_lenro : retV (.len false) [.ro p sz xs] = some (.int .i64 (xs.length : Int)) := rfl
theorem sl_ro {a b : Nat} : slOf sz (.ro p sz xs) a b = if a ≤ b ∧ b ≤ xs.length then some (.ro p sz ((xs.drop a).take (b - a))) else none := by
  show slOf sz (.lst p (nz sz xs) xs) a b = _
  simp only [slOf]
  by_cases h1 : a ≤ b
  · simp only [h1, true_and, if_true]
    cases xs with
    | nil =>
      have e : ∀ q, V.ro p q [] = V.ro p sz [] := fun _ => rfl
      simp [e]
    | cons y ys =>
      have e : nz sz (y :: ys) = sz := rfl
      simp [e]
  · simp [h1]
theorem sl_row {a b : Nat} : slOf sz (.row s h o l) a b = if a ≤ b ∧ b ≤ l ∧ s = sz then some (.row s h (o + a) (b - a)) else none := by
  simp only [slOf]
  by_cases h1 : a ≤ b <;> simp [h1]
end

/-! ### The kinds that read and write -/
section
variable {F : Nat → Option Fn} {lo : Nat} {md : Option (Nat × Nat)} {ops : List Op} {e b a : Env} {m : Mem} {Q : St → Prop} {d : Nat}

noncomputable def ldV (bx : Env) (m : Mem) (agg : Bool) (sz : Nat) : V → Option V
  | .imm e o => getC agg o sz e
  | .ptr h i o => match m.blk h with
    | some (.row _ es) => match es[i]? with
      | some e => getC agg o sz e
      | none => none
    | _ => none
  | .loc t o => match bx.get t with
    | some e => getC agg o sz e
    | none => none
  | _ => none

theorem ld_imm {bx : Env} {agg : Bool} {sz o : Nat} {v : V} : ldV bx m agg sz (.imm v o) = getC agg o sz v := rfl
theorem ld_ptr {bx : Env} {agg : Bool} {sz h i o s : Nat} {es : List V} (hb : m.blk h = some (.row s es)) : ldV bx m agg sz (.ptr h i o) = (match es[i]? with
      | some e => getC agg o sz e
      | none => none) := by simp only [ldV, hb]
theorem ld_loc {bx : Env} {agg : Bool} {sz t o : Nat} {v : V} (hb : bx.get t = some v) : ldV bx m agg sz (.loc t o) = getC agg o sz v := by simp only [ldV, hb]
theorem gc_f {o sz : Nat} {v : V} : getC false o sz v = v.cells[o]? := by simp only [getC, Bool.false_eq_true, if_false, nth_eq]
theorem gc_t {o sz : Nat} {v : V} : getC true o sz v = if o + sz ≤ v.cells.length then some (.agg ((v.cells.drop o).take sz)) else none := by simp only [getC, if_true]
theorem ce_agg {cs : List V} : V.cells (.agg cs) = cs := rfl
theorem ce_int {k : IntKind} {x : Int} : V.cells (.int k x) = [.int k x] := rfl
theorem ce_bool {c : Bool} : V.cells (.bool c) = [.bool c] := rfl
theorem ce_str {c : List UInt8} : V.cells (.str c) = [.str c] := rfl
theorem ce_lst {p : Bool} {s : Nat} {xs : List V} : V.cells (.lst p s xs) = [.lst p s xs] := rfl
theorem ce_ro {p : Bool} {s : Nat} {xs : List V} : V.cells (.ro p s xs) = [.ro p s xs] := rfl
theorem ce_row {s h o l : Nat} : V.cells (.row s h o l) = [.row s h o l] := rfl
theorem ce_nil : V.cells .nil = [.nil] := rfl
theorem ce_ptr {h i o : Nat} : V.cells (.ptr h i o) = [.ptr h i o] := rfl
theorem ce_map {h : Nat} : V.cells (.map h) = [.map h] := rfl
theorem ce_fn {f : Nat} {cs : List V} : V.cells (.fn f cs) = [.fn f cs] := rfl
theorem on_int {k : IntKind} {x : Int} : V.ones (.int k x) = true := rfl
theorem on_bool {c : Bool} : V.ones (.bool c) = true := rfl
theorem on_str {c : List UInt8} : V.ones (.str c) = true := rfl
theorem on_lst {p : Bool} {s : Nat} {xs : List V} : V.ones (.lst p s xs) = true := rfl
theorem on_ro {p : Bool} {s : Nat} {xs : List V} : V.ones (.ro p s xs) = true := rfl
theorem on_row {s h o l : Nat} : V.ones (.row s h o l) = true := rfl
theorem on_nil : V.ones .nil = true := rfl
theorem on_ptr {h i o : Nat} : V.ones (.ptr h i o) = true := rfl
theorem on_map {h : Nat} : V.ones (.map h) = true := rfl
theorem on_fn {f : Nat} {cs : List V} : V.ones (.fn f cs) = true := rfl
theorem on_agg {cs : List V} : V.ones (.agg cs) = cs.all V.one := rfl
theorem o1_int {k : IntKind} {x : Int} : V.one (.int k x) = true := rfl
theorem o1_bool {c : Bool} : V.one (.bool c) = true := rfl
theorem o1_str {c : List UInt8} : V.one (.str c) = true := rfl
theorem o1_lst {p : Bool} {s : Nat} {xs : List V} : V.one (.lst p s xs) = true := rfl
theorem o1_ro {p : Bool} {s : Nat} {xs : List V} : V.one (.ro p s xs) = true := rfl
theorem o1_row {s h o l : Nat} : V.one (.row s h o l) = true := rfl
theorem o1_nil : V.one .nil = true := rfl
theorem o1_ptr {h i o : Nat} : V.one (.ptr h i o) = true := rfl
theorem o1_map {h : Nat} : V.one (.map h) = true := rfl
theorem o1_fn {f : Nat} {cs : List V} : V.one (.fn f cs) = true := rfl

/-- A step that no guard guards, from its operands on. -/
theorem S_exec {D : D} {k : K} {os : List O} : S F lo md (⟨D, k, os, none⟩ :: ops) ⟨e, b, a, m⟩ Q ↔ OC (getOs ⟨e, b, a, m⟩ os) fun vs => OC (plan k vs) fun p => OC (act (callw F) lo (hd md m.next) ⟨e, b, a, m⟩ D p) fun s => S F lo (nx md) ops (bmp md k.allocs s) Q := by
  rw [S_cons]
  simp only [step, exec]
  cases getOs ⟨e, b, a, m⟩ os with
  | none => simp [OC_none]
  | some vs =>
    simp only [OC_some]
    cases plan k vs with
    | none => simp [OC_none]
    | some p => simp only [OC_some]

theorem bmp_false {st : St} : bmp md false st = st := by cases md <;> rfl

theorem S_ld {agg : Bool} {sz : Nat} {x : O} : S F lo md (⟨.e d, .ld agg sz, [x], none⟩ :: ops) ⟨e, b, a, m⟩ Q ↔ OC (getO ⟨e, b, a, m⟩ x) fun u => OC (ldV b m agg sz u) fun v => S F lo (nx md) ops ⟨(d, v) :: e, b, a, m⟩ Q := by
  rw [S_exec]
  simp only [gs_cons, gs_nil, K.allocs, bmp_false]
  cases getO ⟨e, b, a, m⟩ x with
  | none => simp [OC_none]
  | some u =>
    simp only [OC_some, plan]
    cases u <;> simp only [plan_ld, ldV, OC_none]
    · simp only [OC_some, act]
      rename_i h i o
      cases hb : m.blk h with
      | none => simp [OC_none]
      | some B =>
        cases B with
        | map _ => simp [OC_none]
        | row s es =>
          simp only [nth_eq]
          cases es[i]? with
          | none => simp [OC_none]
          | some u =>
            simp only
            cases getC agg o sz u <;> simp [OC_none, OC_some, put]
    · simp only [OC_some, act]
      rename_i t o
      cases b.get t with
      | none => simp [OC_none]
      | some u =>
        simp only
        cases getC agg o sz u <;> simp [OC_none, OC_some, put]
    · simp only [OC_map, act, put, OC_some]

noncomputable def stV (lo : Nat) (bx : Env) (m : Mem) (sz : Nat) (v : V) : V → Option (Env × Mem)
  | .ptr h i o => if lo ≤ h then match m.blk h with
      | some (.row s es) => match es[i]? with
        | some e => match setC o sz v e with
          | some e' => some (bx, m.set h (some (.row s (es.set i e'))))
          | none => none
        | none => none
      | _ => none
    else none
  | .loc t o => match bx.get t with
    | some e => match setC o sz v e with
      | some e' => some ((t, e') :: bx, m)
      | none => none
    | none => none
  | _ => none

theorem st_ptr {bx : Env} {sz h i o s : Nat} {es : List V} {v u u' : V} (hl : lo ≤ h) (hb : m.blk h = some (.row s es)) (he : es[i]? = some u) (hs : setC o sz v u = some u') : stV lo bx m sz v (.ptr h i o) = some (bx, m.set h (some (.row s (es.set i u')))) := by
  simp only [stV, hb, if_pos hl, he, hs]
theorem st_loc {bx : Env} {sz t o : Nat} {v u : V} (hb : bx.get t = some u) : stV lo bx m sz v (.loc t o) = (setC o sz v u).map fun e' => ((t, e') :: bx, m) := by
  simp only [stV, hb]
  cases setC o sz v u <;> rfl

theorem S_st {sz : Nat} {x y : O} : S F lo md (⟨.n, .st sz, [x, y], none⟩ :: ops) ⟨e, b, a, m⟩ Q ↔ OC (getO ⟨e, b, a, m⟩ x) fun u => OC (getO ⟨e, b, a, m⟩ y) fun v => OC (stV lo b m sz v u) fun r => S F lo (nx md) ops ⟨e, r.1, a, r.2⟩ Q := by
  rw [S_exec]
  simp only [gs_cons, gs_nil, K.allocs, bmp_false]
  cases getO ⟨e, b, a, m⟩ x with
  | none => simp [OC_none]
  | some u =>
    cases getO ⟨e, b, a, m⟩ y with
    | none => simp [OC_none, OC_some]
    | some v =>
      simp only [OC_some, plan]
      cases u <;> simp only [plan_st, stV, OC_none]
      · simp only [OC_some, act]
        rename_i h i o
        by_cases hl : lo ≤ h
        · simp only [if_pos hl]
          cases hb : m.blk h with
          | none => simp [OC_none]
          | some B =>
            cases B with
            | map _ => simp [OC_none]
            | row s es =>
              simp only [nth_eq]
              cases es[i]? with
              | none => simp [OC_none]
              | some u =>
                simp only
                cases setC o sz v u <;> simp [OC_none, OC_some, put]
        · simp only [if_neg hl, OC_none]
      · simp only [OC_some, act]
        rename_i t o
        cases b.get t with
        | none => simp [OC_none]
        | some u =>
          simp only
          cases setC o sz v u <;> simp [OC_none, OC_some]

theorem S_box {x : O} : S F lo md (⟨.x d, .box, [x], none⟩ :: ops) ⟨e, b, a, m⟩ Q ↔ OC (getO ⟨e, b, a, m⟩ x) fun v => v.ones = true ∧ hasLoc d a = false ∧ S F lo (nx md) ops ⟨e, (d, v) :: b, a, m⟩ Q := by
  rw [S_exec]
  simp only [gs_cons, gs_nil, K.allocs, bmp_false]
  cases getO ⟨e, b, a, m⟩ x with
  | none => simp [OC_none]
  | some v =>
    simp only [OC_some, plan, plan_box]
    by_cases h1 : v.ones = true
    · simp only [h1, if_true, OC_some, act, true_and]
      cases h2 : hasLoc d a
      · simp [OC_some]
      · simp [OC_none]
    · simp [h1, OC_none]

noncomputable def bm (md : Option (Nat × Nat)) (m : Mem) : Mem := match md with
  | none => m.bump 1
  | some _ => m
theorem bmp_true {e b a : Env} {m : Mem} : bmp md true ⟨e, b, a, m⟩ = ⟨e, b, a, bm md m⟩ := by cases md <;> rfl
theorem bm_none {m : Mem} : bm none m = m.bump 1 := rfl
theorem bm_some {q : Nat × Nat} {m : Mem} : bm (some q) m = m := rfl
theorem hd_none {n : Nat} : hd none n = n := rfl
theorem hd_some {x i n : Nat} : hd (some (x, i)) n = x + i := rfl
theorem nx_none : nx none = none := rfl
theorem nx_some {x i : Nat} : nx (some (x, i)) = some (x, i + 1) := rfl

noncomputable def mkN : V → Option Nat
  | .int _ n => if 0 ≤ n ∧ n < big then some n.toNat else none
  | _ => none
theorem mkN_int {k : IntKind} {n : Int} : mkN (.int k n) = if 0 ≤ n ∧ n < big then some n.toNat else none := rfl

theorem S_mk {sz : Nat} {z : V} {x : O} : S F lo md (⟨.e d, .mk sz z, [x], none⟩ :: ops) ⟨e, b, a, m⟩ Q ↔ OC (getO ⟨e, b, a, m⟩ x) fun u => OC (mkN u) fun n => S F lo (nx md) ops ⟨(d, .row sz (hd md m.next) 0 n) :: e, b, a, bm md (m.set (hd md m.next) (some (.row sz (List.replicate n z))))⟩ Q := by
  rw [S_exec]
  simp only [gs_cons, gs_nil, K.allocs]
  cases getO ⟨e, b, a, m⟩ x with
  | none => simp [OC_none]
  | some u =>
    simp only [OC_some, plan]
    cases u <;> simp only [plan_mk, mkN, OC_none]
    case int k n =>
      by_cases h : 0 ≤ n ∧ n < big
      · simp only [if_pos h, OC_some, act, put, bmp_true]
      · simp only [if_neg h, OC_none]

theorem S_hlit {sz n : Nat} {z : V} {ix : List Nat} {os : List O} : S F lo md (⟨.e d, .hlit sz n z ix, os, none⟩ :: ops) ⟨e, b, a, m⟩ Q ↔ OC (getOs ⟨e, b, a, m⟩ os) fun vs => OC (fillE sz ix vs (List.replicate n z)) fun es => S F lo (nx md) ops ⟨(d, .row sz (hd md m.next) 0 n) :: e, b, a, bm md (m.set (hd md m.next) (some (.row sz es)))⟩ Q := by
  rw [S_exec]
  simp only [K.allocs]
  cases getOs ⟨e, b, a, m⟩ os with
  | none => simp [OC_none]
  | some vs =>
    simp only [OC_some, plan, plan_hlit, OC_map, act, put, bmp_true]

theorem S_hbox {sz : Nat} {x : O} : S F lo md (⟨.e d, .hbox sz, [x], none⟩ :: ops) ⟨e, b, a, m⟩ Q ↔ OC (getO ⟨e, b, a, m⟩ x) fun v => v.ones = true ∧ v.cells.length = sz ∧ S F lo (nx md) ops ⟨(d, .ptr (hd md m.next) 0 0) :: e, b, a, bm md (m.set (hd md m.next) (some (.row sz [v])))⟩ Q := by
  rw [S_exec]
  simp only [gs_cons, gs_nil, K.allocs]
  cases getO ⟨e, b, a, m⟩ x with
  | none => simp [OC_none]
  | some v =>
    simp only [OC_some, plan, plan_hbox]
    by_cases h : v.ones = true ∧ v.cells.length = sz
    · simp [h, OC_some, act, put, bmp_true]
    · have : (v.ones && v.cells.length == sz) = false := by
        cases hc : (v.ones && v.cells.length == sz) with
        | false => rfl
        | true => simp at hc; exact absurd hc h
      simp only [this, Bool.false_eq_true, if_false, OC_none, false_iff]
      intro hh
      exact h ⟨hh.1, hh.2.1⟩

theorem S_mkm : S F lo md (⟨.e d, .mkm, [], none⟩ :: ops) ⟨e, b, a, m⟩ Q ↔ S F lo (nx md) ops ⟨(d, .map (hd md m.next)) :: e, b, a, bm md (m.set (hd md m.next) (some (.map [])))⟩ Q := by
  rw [S_exec]
  simp only [gs_nil, K.allocs, plan, plan_mkm, OC_some, act, put, bmp_true]

/-- What an append does to the memory, and what it gives. -/
noncomputable def apV (lo h : Nat) (m : Mem) (sz : Nat) (x y : V) : Option (V × Mem) :=
  match view m y with
  | none => none
  | some (s, xs) => match x with
    | .nil => match xs with
      | [] => some (.nil, m)
      | z :: zs => if s = sz ∧ (z :: zs).length < big then some (.row sz h 0 (z :: zs).length, m.set h (some (.row sz (z :: zs)))) else none
    | .row s0 h' o l => if s0 = sz then if lo ≤ h' ∧ (s = sz ∨ xs.length = 0) ∧ l + xs.length < big then
        match m.blk h' with
        | some (.row s' es) => if s' = sz ∧ o + l ≤ es.length then some (.row sz h 0 (l + xs.length), (m.set h' none).set h (some (.row sz ((es.drop o).take l ++ xs)))) else none
        | _ => none
      else none else none
    | _ => none

theorem S_app {sz : Nat} {x y : O} : S F lo md (⟨.e d, .app sz, [x, y], none⟩ :: ops) ⟨e, b, a, m⟩ Q ↔ OC (getO ⟨e, b, a, m⟩ x) fun u => OC (getO ⟨e, b, a, m⟩ y) fun v => OC (apV lo (hd md m.next) m sz u v) fun r => S F lo (nx md) ops ⟨(d, r.1) :: e, b, a, bm md r.2⟩ Q := by
  rw [S_exec]
  simp only [gs_cons, gs_nil, K.allocs]
  cases getO ⟨e, b, a, m⟩ x with
  | none => simp [OC_none]
  | some u =>
    cases getO ⟨e, b, a, m⟩ y with
    | none => simp [OC_none, OC_some]
    | some v =>
      simp only [OC_some, plan, apV]
      cases u <;> simp only [plan_app, OC_none]
      case nil =>
        simp only [OC_some, act]
        cases view m v with
        | none => simp [OC_none]
        | some q =>
          obtain ⟨s, xs⟩ := q
          cases xs with
          | nil => simp [OC_some, put, bmp_true]
          | cons z zs =>
            by_cases h : s = sz ∧ (z :: zs).length < big
            · simp only [if_pos h, OC_some, put, bmp_true]
            · simp only [if_neg h, OC_none]
      case row s0 h' o l =>
        by_cases hs : s0 = sz
        · simp only [if_pos hs, OC_some, act]
          cases view m v with
          | none => simp [OC_none]
          | some q =>
            obtain ⟨s, xs⟩ := q
            simp only
            by_cases h : lo ≤ h' ∧ (s = sz ∨ xs.length = 0) ∧ l + xs.length < big
            · simp only [if_pos h]
              cases m.blk h' with
              | none => simp [OC_none]
              | some B =>
                cases B with
                | map _ => simp [OC_none]
                | row s' es =>
                  simp only
                  by_cases h2 : s' = sz ∧ o + l ≤ es.length
                  · simp only [if_pos h2, OC_some, put, bmp_true]
                  · simp only [if_neg h2, OC_none]
            · simp only [if_neg h, OC_none]
        · simp only [if_neg hs, OC_none]
          cases view m v with
          | none => simp [OC_none]
          | some q => simp [OC_none]
      all_goals
        cases view m v with
        | none => simp [OC_none]
        | some q => simp [OC_none]

theorem ap_nil {h : Nat} {sz s : Nat} {y z : V} {zs : List V} (hv : view m y = some (s, z :: zs)) (hs : s = sz) (hb : (z :: zs).length < big) : apV lo h m sz .nil y = some (.row sz h 0 (z :: zs).length, m.set h (some (.row sz (z :: zs)))) := by
  simp only [apV, hv]
  rw [if_pos ⟨hs, hb⟩]
theorem ap_row {h h' o l : Nat} {sz s : Nat} {y : V} {xs es : List V} (hv : view m y = some (s, xs)) (hl : lo ≤ h') (hs : s = sz ∨ xs.length = 0) (hb : l + xs.length < big) (hB : m.blk h' = some (.row sz es)) (ho : o + l ≤ es.length) :
    apV lo h m sz (.row sz h' o l) y = some (.row sz h 0 (l + xs.length), (m.set h' none).set h (some (.row sz ((es.drop o).take l ++ xs)))) := by
  simp only [apV, hv, if_true, if_pos (And.intro hl (And.intro hs hb)), hB, true_and, if_pos ho]

theorem vw_nil : view m .nil = some (0, []) := rfl
theorem vw_lst {p : Bool} {s : Nat} {xs : List V} : view m (.lst p s xs) = some (s, xs) := rfl
theorem vw_ro {p : Bool} {s : Nat} {xs : List V} : view m (.ro p s xs) = some (nz s xs, xs) := rfl
theorem vw_row {s h o l : Nat} {es : List V} (hB : m.blk h = some (.row s es)) (ho : o + l ≤ es.length) : view m (.row s h o l) = some (s, (es.drop o).take l) := by
  simp only [view, hB, and_true, if_pos ho]

theorem S_call_e {f : Nat} {os : List O} : S F lo md (⟨.e d, .call f, os, none⟩ :: ops) ⟨e, b, a, m⟩ Q ↔ OC (getOs ⟨e, b, a, m⟩ os) fun vs => OC (callw F f vs lo m) fun r => S F lo (nx md) ops ⟨(d, r.1) :: e, b, a, r.2⟩ Q := by
  rw [S_exec]
  simp only [K.allocs, bmp_false]
  cases getOs ⟨e, b, a, m⟩ os with
  | none => simp [OC_none]
  | some vs =>
    simp only [OC_some, plan, plan_call, act]
    cases callw F f vs lo m with
    | none => simp [OC_none]
    | some r => simp [OC_some, put]

theorem S_call_n {f : Nat} {os : List O} : S F lo md (⟨.n, .call f, os, none⟩ :: ops) ⟨e, b, a, m⟩ Q ↔ OC (getOs ⟨e, b, a, m⟩ os) fun vs => OC (callw F f vs lo m) fun r => S F lo (nx md) ops ⟨e, b, a, r.2⟩ Q := by
  rw [S_exec]
  simp only [K.allocs, bmp_false]
  cases getOs ⟨e, b, a, m⟩ os with
  | none => simp [OC_none]
  | some vs =>
    simp only [OC_some, plan, plan_call, act]
    cases callw F f vs lo m with
    | none => simp [OC_none]
    | some r => simp [OC_some, put]

noncomputable def fnV : List V → Option (Nat × List V)
  | .fn f cs :: ws => if f < 1000 then some (f, ws ++ cs) else none
  | _ => none
theorem fnV_cons {f : Nat} {cs ws : List V} : fnV (.fn f cs :: ws) = if f < 1000 then some (f, ws ++ cs) else none := rfl

theorem S_callv {os : List O} : S F lo md (⟨.e d, .callv, os, none⟩ :: ops) ⟨e, b, a, m⟩ Q ↔ OC (getOs ⟨e, b, a, m⟩ os) fun vs => OC (fnV vs) fun q => OC (callw F q.1 q.2 lo m) fun r => S F lo (nx md) ops ⟨(d, r.1) :: e, b, a, r.2⟩ Q := by
  rw [S_exec]
  simp only [K.allocs, bmp_false]
  cases getOs ⟨e, b, a, m⟩ os with
  | none => simp [OC_none]
  | some vs =>
    simp only [OC_some, plan]
    cases vs with
    | nil => simp [plan_callv, fnV, OC_none]
    | cons v ws =>
      cases v <;> simp only [plan_callv, fnV, OC_none]
      case fn f cs =>
        by_cases h : f < 1000
        · simp only [if_pos h, OC_some, act]
          cases callw F f (ws ++ cs) lo m with
          | none => simp [OC_none]
          | some r => simp [OC_some, put]
        · simp only [if_neg h, OC_none]

theorem lo_loc {bx : Env} {agg : Bool} {sz t o : Nat} {K : V → Prop} : OC (ldV bx m agg sz (.loc t o)) K ↔ OC (bx.get t) fun e => OC (getC agg o sz e) K := by
  simp only [ldV]
  cases bx.get t with
  | none => simp [OC_none]
  | some v => simp [OC_some]
noncomputable def rowE : Blk → Nat → Option V
  | .row _ es, i => es[i]?
  | _, _ => none
theorem rowE_row {s i : Nat} {es : List V} : rowE (.row s es) i = es[i]? := rfl
theorem lo_ptr {bx : Env} {agg : Bool} {sz h i o : Nat} {K : V → Prop} : OC (ldV bx m agg sz (.ptr h i o)) K ↔ OC (m.blk h) fun B => OC (rowE B i) fun e => OC (getC agg o sz e) K := by
  simp only [ldV]
  cases m.blk h with
  | none => simp [OC_none]
  | some B =>
    cases B with
    | map _ => simp [OC_some, OC_none, rowE]
    | row s es =>
      simp only [OC_some, rowE]
      cases es[i]? with
      | none => simp [OC_none]
      | some e => simp [OC_some]
theorem so_loc {bx : Env} {sz t o : Nat} {v : V} {K : Env × Mem → Prop} : OC (stV lo bx m sz v (.loc t o)) K ↔ OC (bx.get t) fun e => OC (setC o sz v e) fun e' => K ((t, e') :: bx, m) := by
  simp only [stV]
  cases bx.get t with
  | none => simp [OC_none]
  | some u =>
    simp only [OC_some]
    cases setC o sz v u with
    | none => simp [OC_none]
    | some e => simp [OC_some]
noncomputable def rowS : Blk → Nat → V → Blk
  | .row s es, i, v => .row s (es.set i v)
  | b, _, _ => b
theorem rowS_row {s i : Nat} {v : V} {es : List V} : rowS (.row s es) i v = .row s (es.set i v) := rfl
theorem so_ptr {bx : Env} {sz h i o : Nat} {v : V} {K : Env × Mem → Prop} : OC (stV lo bx m sz v (.ptr h i o)) K ↔ lo ≤ h ∧ OC (m.blk h) fun B => OC (rowE B i) fun e => OC (setC o sz v e) fun e' => K (bx, m.set h (some (rowS B i e'))) := by
  simp only [stV]
  by_cases hl : lo ≤ h
  · simp only [hl, true_and]
    cases m.blk h with
    | none => simp [OC_none]
    | some B =>
      cases B with
      | map _ => simp [OC_some, OC_none, rowE]
      | row s es =>
        simp only [OC_some, rowE, rowS]
        cases es[i]? with
        | none => simp [OC_none]
        | some e =>
          simp only [OC_some]
          cases setC o sz v e with
          | none => simp [OC_none]
          | some e' => simp [OC_some]
  · simp [hl, OC_none]
theorem sc_agg {o sz : Nat} {v : V} {cs : List V} : setC o sz v (.agg cs) = if v.ones = true ∧ v.cells.length = sz ∧ o + sz ≤ cs.length then some (.agg (cs.take o ++ (v.cells ++ cs.drop (o + sz)))) else none := by
  simp only [setC]
  by_cases h1 : v.ones = true
  · by_cases h2 : v.cells.length = sz
    · simp [h1, h2]
    · have : (v.cells.length == sz) = false := by simp [h2]
      simp [h1, h2]
  · simp [h1]
theorem sc_ii {k k' : IntKind} {x y : Int} : setC 0 1 (.int k x) (.int k' y) = some (.int k x) := rfl
theorem sc_bb {x y : Bool} : setC 0 1 (.bool x) (.bool y) = some (.bool x) := rfl
theorem sc_rr {s h o l s' h' o' l' : Nat} : setC 0 1 (.row s h o l) (.row s' h' o' l') = some (.row s h o l) := rfl
theorem sc_rn {s h o l : Nat} : setC 0 1 (.row s h o l) .nil = some (.row s h o l) := rfl
theorem sc_on {p : Bool} {s : Nat} {xs : List V} : setC 0 1 (.ro p s xs) .nil = some (.ro p s xs) := rfl
theorem sc_oo {p q : Bool} {s t : Nat} {xs ys : List V} : setC 0 1 (.ro p s xs) (.ro q t ys) = some (.ro p s xs) := rfl
end
end Go.Am
