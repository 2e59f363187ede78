/- Kind by kind: numbers, strings, comparisons, conversions. -/
import Derived.Test.YtflfnkdhmcfjlaaKindb
namespace Go.Am
open Go

section
variable {P : Program} {src : Nat → Nat} {fr : Fr} {g : Gh} {st : St} {a : Act} {w : World} {h : Nat} {d : D} {o : Oper}

theorem two_vals (s : Sim fr g st a w) {os : List O} {vs : List V} {x y : Operand} (hok : okOs os [x, y] = true) (hv : isVs os = true) (hg : getOs st os = some vs) : ∃ v u, vs = [v, u] ∧ Img g w v (a.eval x) ∧ Img g w u (a.eval y) := by
  obtain ⟨q, q2, rfl, h1, h1'⟩ := okOs_two hok
  obtain ⟨v, u, rfl, h2, h2'⟩ := getOs_two hg
  obtain ⟨v1, v2⟩ := isVs_two hv
  exact ⟨v, u, rfl, getO_val s v1 h1 h2, getO_val s v2 h1' h2'⟩
theorem one_val (s : Sim fr g st a w) {os : List O} {vs : List V} {x : Operand} (hok : okOs os [x] = true) (hv : isVs os = true) (hg : getOs st os = some vs) : ∃ v, vs = [v] ∧ Img g w v (a.eval x) := by
  obtain ⟨q, rfl, h1⟩ := okOs_one hok
  obtain ⟨v, rfl, h2⟩ := getOs_one hg
  exact ⟨v, rfl, getO_val s (isVs_one hv) h1 h2⟩

theorem run_binOp_int {op : BinOp} {T : TypeId} {k : IntKind} {b c : Int} {v : V} (hv : intOp op k b c = some v) : ∃ x, (binOp op T (.int k b) (.int k c)).run P w = .ok x w ∧ Img g w v x := by
  unfold intOp at hv
  cases op with
  | add => simp only [wrapF_eq] at hv; cases hv; exact ⟨.int k (k.wrap (b + c)), by simp [binOp, Op.intArith], .pure (.int _ _)⟩
  | sub => simp only [wrapF_eq] at hv; cases hv; exact ⟨.int k (k.wrap (b - c)), by simp [binOp, Op.intArith], .pure (.int _ _)⟩
  | mul => simp only [wrapF_eq] at hv; cases hv; exact ⟨.int k (k.wrap (b * c)), by simp [binOp, Op.intArith], .pure (.int _ _)⟩
  | quo =>
    simp only [wrapF_eq] at hv
    by_cases hne : c = 0
    · rw [if_pos hne] at hv; cases hv
    · rw [if_neg hne] at hv; cases hv; exact ⟨.int k (k.wrap (b.tdiv c)), by simp [binOp, Op.intDiv, hne], .pure (.int _ _)⟩
  | rem =>
    by_cases hne : c = 0
    · simp [hne] at hv
    · simp [hne] at hv; subst hv; exact ⟨.int k (b.tmod c), by simp [binOp, Op.intDiv, hne], .pure (.int _ _)⟩
  | and => cases hv; exact ⟨.int k (k.wrap ((BitVec.ofInt k.bits b &&& BitVec.ofInt k.bits c).toNat)), by simp [binOp, Op.intBits], .pure (.int _ _)⟩
  | eql => cases hv; exact ⟨.bool (b == c), by simp [binOp, Op.intCmp], .pure (.bool _)⟩
  | neq => cases hv; exact ⟨.bool (b != c), by simp [binOp, Op.intCmp], .pure (.bool _)⟩
  | lss => cases hv; exact ⟨.bool (decide (b < c)), by simp [binOp, Op.intCmp], .pure (.bool _)⟩
  | leq => cases hv; exact ⟨.bool (decide (b ≤ c)), by simp [binOp, Op.intCmp], .pure (.bool _)⟩
  | gtr => cases hv; exact ⟨.bool (decide (c < b)), by simp [binOp, Op.intCmp], .pure (.bool _)⟩
  | geq => cases hv; exact ⟨.bool (decide (c ≤ b)), by simp [binOp, Op.intCmp], .pure (.bool _)⟩
  | _ => cases hv

theorem k_bin (s : Sim fr g st a w) {os : List O} {vs : List V} {x y : Operand} {op : BinOp} {T T2 : TypeId} (hop : o.op = .binOp op T x y T2) (hok : okOs os [x, y] = true) (hv : isVs os = true) (hg : getOs st os = some vs) {p : Plan} (hp : plan (.bin op) vs = some p) :
    PlanRun src fr g st a w h d ((execOp a.eval o).run P w) p := by
  obtain ⟨v, u, rfl, r1, r2⟩ := two_vals s hok hv hg
  simp only [plan, plan_bin] at hp
  split at hp
  · rename_i k b k' c e
    simp at e
    obtain ⟨rfl, rfl⟩ := e
    have e1 := r1.int_inv
    have e2 := r2.int_inv
    have run : ∀ {z : Value}, (binOp op T (.int k b) (.int k' c)).run P w = .ok z w → (execOp a.eval o).run P w = .ok (.value z) w := by
      intro z hz
      simp [execOp, hop, e1, e2, eqGuard_at_int, hz]
    unfold binPlan at hp
    split at hp
    · simp only [Option.map_eq_some_iff] at hp
      obtain ⟨r, hr, rfl⟩ := hp
      unfold shrOp at hr
      split at hr
      · cases hr
      · rename_i hneg
        cases hr
        exact PR_ret (x := .int k (b.fdiv (2 ^ (min c.toNat k.bits)))) (run (by simp [binOp, Op.shift, hneg])) (.of_img (.pure (.int _ _)))
    · split at hp
      · rename_i hk
        subst hk
        simp only [Option.map_eq_some_iff] at hp
        obtain ⟨r, hr, rfl⟩ := hp
        obtain ⟨z, h1, h2⟩ := run_binOp_int (P := P) (g := g) (w := w) (T := T) hr
        exact PR_ret (run h1) (.of_img h2)
      · cases hp
  · cases hp

theorem k_bq (s : Sim fr g st a w) {os : List O} {vs : List V} {x y : Operand} {op : BinOp} {T T2 : TypeId} {ne : Bool} (hop : o.op = .binOp op T x y T2) (hT : P.underlying T = some .bool) (hne : op = if ne then .neq else .eql) (hok : okOs os [x, y] = true) (hv : isVs os = true) (hg : getOs st os = some vs) {p : Plan} (hp : plan (.bq ne) vs = some p) :
    PlanRun src fr g st a w h d ((execOp a.eval o).run P w) p := by
  obtain ⟨v, u, rfl, r1, r2⟩ := two_vals s hok hv hg
  simp only [plan, plan_bq] at hp
  split at hp
  · rename_i b c e
    simp at e
    obtain ⟨rfl, rfl⟩ := e
    cases hp
    have e1 := r1.bool_inv
    have e2 := r2.bool_inv
    have he : (Op.equal T (.bool b) (.bool c)).run P w = .ok (b == c) w := run_equalIn_bool w _ T b c hT
    refine PR_ret (x := .bool (if ne then b != c else b == c)) ?_ (.of_img (.pure (.bool _)))
    subst hne
    cases ne <;> simp [execOp, hop, e1, e2, eqGuard_at_bool, binOp, he, bne]
  · cases hp

theorem bytes_eq (b c : ByteArray) : (b.toList == c.toList) = (b.data.toList == c.data.toList) := by
  rw [ByteArray.toList_eq, ByteArray.toList_eq]

theorem k_sq (s : Sim fr g st a w) {os : List O} {vs : List V} {x y : Operand} {op : BinOp} {T T2 : TypeId} {ne : Bool} (hop : o.op = .binOp op T x y T2) (hne : op = if ne then .neq else .eql) (hok : okOs os [x, y] = true) (hv : isVs os = true) (hg : getOs st os = some vs) {p : Plan} (hp : plan (.sq ne) vs = some p) :
    PlanRun src fr g st a w h d ((execOp a.eval o).run P w) p := by
  obtain ⟨v, u, rfl, r1, r2⟩ := two_vals s hok hv hg
  simp only [plan, plan_sq] at hp
  split at hp
  · rename_i b c e
    simp at e
    obtain ⟨rfl, rfl⟩ := e
    cases hp
    obtain ⟨b', e1, rfl⟩ := r1.str_inv
    obtain ⟨c', e2, rfl⟩ := r2.str_inv
    refine PR_ret (x := .bool (if ne then b'.data.toList != c'.data.toList else b'.data.toList == c'.data.toList)) ?_ (.of_img (.pure (.bool _)))
    subst hne
    cases ne <;> simp [execOp, hop, e1, e2, eqGuard_at_string, binOp, Op.stringOp, ByteArray.toList_eq, bne]
  · cases hp

theorem k_sadd (s : Sim fr g st a w) {os : List O} {vs : List V} {x y : Operand} {T T2 : TypeId} (hop : o.op = .binOp .add T x y T2) (hok : okOs os [x, y] = true) (hv : isVs os = true) (hg : getOs st os = some vs) {p : Plan} (hp : plan .sadd vs = some p) :
    PlanRun src fr g st a w h d ((execOp a.eval o).run P w) p := by
  obtain ⟨v, u, rfl, r1, r2⟩ := two_vals s hok hv hg
  simp only [plan, plan_sadd] at hp
  split at hp
  · rename_i b c e
    simp at e
    obtain ⟨rfl, rfl⟩ := e
    split at hp
    · rename_i hl
      cases hp
      obtain ⟨b', e1, rfl⟩ := r1.str_inv
      obtain ⟨c', e2, rfl⟩ := r2.str_inv
      have hs : ¬ (((b'.size + c'.size : Nat) : Int) > IntKind.i64.max) := by
        have h1 : b'.size = b'.data.toList.length := (Array.length_toList (xs := b'.data)).symm
        have h2 : c'.size = c'.data.toList.length := (Array.length_toList (xs := c'.data)).symm
        have h3 : b'.data.toList.length + c'.data.toList.length < 2147483648 := hl
        rw [← h1, ← h2] at h3
        rw [IntKind.max_i64]
        omega
      refine PR_ret (x := .string (b' ++ c')) ?_ (.of_img (.pure ?_))
      · simp only [execOp, hop, e1, e2, eqGuard_at_string, binOp, Op.stringOp, if_neg hs]
        rfl
      · have : b'.data.toList ++ c'.data.toList = (b' ++ c').data.toList := by simp
        rw [this]
        exact .str _
    · cases hp
  · cases hp

def kindOf (P : Program) (T : TypeId) : Option Nat :=
  match P.underlying T with
  | some (.int _) => some 0
  | some .bool => some 1
  | some .string => some 2
  | _ => none

/-- Are all fields of the struct single cells in a row, of these kinds? -/
def flatFrom (P : Program) : Nat → List Nat → List Field → Bool
  | _, [], [] => true
  | n, k :: ks, f :: fs => decide (f.offset = n) && decide (f.name ≠ "_") && decide (kindOf P f.type = some k) && flatFrom P (n + 1) ks fs
  | _, _, _ => false

def okFlat (P : Program) (T : TypeId) (ks : List Nat) : Bool :=
  (match P.underlying T with
  | some (.struct fs) => flatFrom P 0 ks fs.toList
  | _ => false) && decide (P.stoodInHeld T = false) && decide (P.eqGuardType P.depth T = false)

theorem run_eqK {d0 : Nat} {T k : Nat} {b c : V} {x y : Value} {q : Bool} (hk : kindOf P T = some k) (i1 : Img g w b x) (i2 : Img g w c y) (hq : eqK k b c = some q) : (Op.equalIn (d0 + 1) T x y).run P w = .ok q w := by
  unfold kindOf at hk
  unfold eqK at hq
  split at hq
  · split at hq
    · rename_i k1 _ k2 _ he
      cases hq
      subst he
      rw [i1.int_inv, i2.int_inv]
      split at hk
      · rename_i k' hu; exact run_equalIn_int w d0 T k1 k' _ _ hu
      · cases hk
      · cases hk
      · cases hk
    · cases hq
  · cases hq
    rw [i1.bool_inv, i2.bool_inv]
    split at hk
    · cases hk
    · rename_i hu; exact run_equalIn_bool' w d0 T _ _ hu
    · cases hk
    · cases hk
  · cases hq
    obtain ⟨b', rfl, rfl⟩ := i1.str_inv
    obtain ⟨c', rfl, rfl⟩ := i2.str_inv
    split at hk
    · cases hk
    · cases hk
    · rename_i hu
      rw [← bytes_eq]
      exact run_equalIn_string w d0 T _ _ hu
    · cases hk
  · cases hq

theorem run_eqFields {d0 : Nat} : ∀ {fs : List Field} {ks : List Nat} {n : Nat} {b c : List V} {xs ys : List Value} {r : Bool}, flatFrom P n ks fs = true → n + b.length = xs.length → n + c.length = ys.length →
    (∀ (i : Nat) (u : V) (x : Value), b[i]? = some u → xs[n + i]? = some x → Img g w u x) → (∀ (i : Nat) (u : V) (x : Value), c[i]? = some u → ys[n + i]? = some x → Img g w u x) → eqKs ks b c = some r →
    (Op.eqFields (d0 + 1) xs.toArray ys.toArray fs).run P w = .ok r w
  | [], [], n, [], [], xs, ys, r, _, _, _, _, _, he => by cases he; rfl
  | f :: fs, k :: ks, n, b :: bs, c :: cs, xs, ys, r, hf, h3, h4, h5, h6, he => by
    simp only [flatFrom, Bool.and_eq_true, decide_eq_true_eq] at hf
    obtain ⟨⟨⟨ho, hn⟩, ht⟩, hrest⟩ := hf
    simp only [List.length_cons] at h3 h4
    have hx : xs[n]? = some (xs[n]'(by omega)) := List.getElem?_eq_getElem (by omega)
    have hy : ys[n]? = some (ys[n]'(by omega)) := List.getElem?_eq_getElem (by omega)
    have i1 := h5 0 b _ rfl hx
    have i2 := h6 0 c _ rfl hy
    have next : ∀ {r : Bool}, eqKs ks bs cs = some r → (Op.eqFields (d0 + 1) xs.toArray ys.toArray fs).run P w = .ok r w := fun hr =>
      run_eqFields hrest (by omega) (by omega) (fun i u x hu hx => h5 (i + 1) u x (by simpa using hu) (by rw [← hx]; congr 1; omega)) (fun i u x hu hx => h6 (i + 1) u x (by simpa using hu) (by rw [← hx]; congr 1; omega)) hr
    have hagg : aggOf P f.type = some false := by
      unfold kindOf at ht
      unfold aggOf
      split at ht <;> first | (rename_i hu; rw [hu]; rfl) | cases ht
    have hpx : (part f.type xs.toArray f.offset).run P w = .ok (xs[n]'(by omega)) w := by
      simp [part, run_isAgg' hagg, ho, hx]
    have hpy : (part f.type ys.toArray f.offset).run P w = .ok (ys[n]'(by omega)) w := by
      simp [part, run_isAgg' hagg, ho, hy]
    simp only [Op.eqFields, if_pos hn, Sem.run_bind, hpx, hpy, Result.andThen_ok]
    simp only [eqKs] at he
    split at he
    · rename_i hq
      rw [run_eqK ht i1 i2 hq]
      simp only [Result.andThen_ok, Bool.not_true, Bool.false_eq_true, if_false]
      exact next he
    · rename_i hq
      cases he
      rw [run_eqK ht i1 i2 hq]
      simp
    · cases he
  | [], [], n, _ :: _, _, xs, ys, r, _, _, _, _, _, he => by cases he
  | [], [], n, [], _ :: _, xs, ys, r, _, _, _, _, _, he => by cases he
  | [], _ :: _, n, _, _, xs, ys, r, hf, _, _, _, _, _ => by cases hf
  | _ :: _, [], n, _, _, xs, ys, r, hf, _, _, _, _, _ => by cases hf
  | _ :: _, _ :: _, n, [], _, xs, ys, r, _, _, _, _, _, he => by cases he
  | _ :: _, _ :: _, n, _ :: _, [], xs, ys, r, _, _, _, _, _, he => by cases he

theorem k_aq (s : Sim fr g st a w) {os : List O} {vs : List V} {x y : Operand} {op : BinOp} {T T2 : TypeId} {ne : Bool} {ks : List Nat} (hop : o.op = .binOp op T x y T2) (hT : okFlat P T ks = true) (hne : op = if ne then .neq else .eql) (hok : okOs os [x, y] = true) (hv : isVs os = true) (hg : getOs st os = some vs) {p : Plan} (hp : plan (.aq ne ks) vs = some p) :
    PlanRun src fr g st a w h d ((execOp a.eval o).run P w) p := by
  obtain ⟨v, u, rfl, r1, r2⟩ := two_vals s hok hv hg
  simp only [plan, plan_aq] at hp
  split at hp
  · rename_i b c e
    simp at e
    obtain ⟨rfl, rfl⟩ := e
    simp only [Option.map_eq_some_iff] at hp
    obtain ⟨r, hr, rfl⟩ := hp
    obtain ⟨xs, e1, l1, _, q1⟩ := r1.agg_inv
    obtain ⟨ys, e2, l2, _, q2⟩ := r2.agg_inv
    simp only [okFlat, Bool.and_eq_true, decide_eq_true_eq] at hT
    obtain ⟨⟨h1, h2⟩, h3⟩ := hT
    split at h1
    · rename_i fs hu
      have hfo : P.fieldsOf T = fs := by simp [Program.fieldsOf, hu]
      have he : (Op.equalIn 10000 T (.agg xs.toArray) (.agg ys.toArray)).run P w = .ok r w := by
        rw [run_equalIn_struct w 9999 T _ _ (by rw [hfo]; exact hu) h2, hfo]
        exact run_eqFields (d0 := 9998) (g := g) h1 (by omega) (by omega) (fun i u x hu hx => q1 i u x hu (by simpa using hx)) (fun i u x hu hx => q2 i u x hu (by simpa using hx)) hr
      refine PR_ret (x := .bool (if ne then !r else r)) ?_ (.of_img (.pure (.bool _)))
      subst hne
      cases ne with
      | true => simp [execOp, hop, e1, e2, run_eqGuard_agg w _ T _ _ _ _ h3, run_neq_struct, he]
      | false => simp [execOp, hop, e1, e2, run_eqGuard_agg w _ T _ _ _ _ h3, run_eql_struct, he]
    · cases h1
  · cases hp

theorem run_eqNil (d0 : Nat) {T e0 : TypeId} (hT : P.underlying T = some (.slice e0)) (ad : Option Addr) (l c : Nat) : (Op.equalIn (d0 + 1) T (.slice ad l c) (.slice none 0 0)).run P w = .ok ad.isNone w := by
  cases ad <;> simp [Op.equalIn, run_underlying hT]

theorem k_nq (s : Sim fr g st a w) {os : List O} {vs : List V} {x y : Operand} {op : BinOp} {T T2 e0 : TypeId} {ne : Bool} (hop : o.op = .binOp op T x y T2) (hT : P.underlying T = some (.slice e0)) (hne : op = if ne then .neq else .eql) (hok : okOs os [x, y] = true) (hv : isVs os = true) (hg : getOs st os = some vs) {p : Plan} (hp : plan (.nq ne) vs = some p) :
    PlanRun src fr g st a w h d ((execOp a.eval o).run P w) p := by
  obtain ⟨v, u, rfl, r1, r2⟩ := two_vals s hok hv hg
  have fin : ∀ {ad : Option Addr} {l c : Nat}, a.eval x = .slice ad l c → a.eval y = .slice none 0 0 → (execOp a.eval o).run P w = .ok (.value (.bool (if ne then ad.isSome else ad.isNone))) w := by
    intro ad l c e1 e2
    have he : (Op.equal T (.slice ad l c) (.slice none 0 0)).run P w = .ok ad.isNone w := run_eqNil 9999 hT ad l c
    subst hne
    cases ne with
    | true => cases ad <;> simp [execOp, hop, e1, e2, eqGuard_at_slice, binOp, he]
    | false => cases ad <;> simp [execOp, hop, e1, e2, eqGuard_at_slice, binOp, he]
  simp only [plan, plan_nq] at hp
  split at hp
  · rename_i e
    simp at e
    obtain ⟨rfl, rfl⟩ := e
    cases hp
    refine PR_ret (fin r1.nil_inv r2.nil_inv) (.of_img ?_)
    cases ne <;> exact .pure (.bool _)
  · rename_i e
    simp at e
    obtain ⟨rfl, rfl⟩ := e
    cases hp
    rcases r1.row_inv with ⟨loc, cap, _, _, _, _, e1⟩ | ⟨rfl, ad, e1⟩
    · refine PR_ret (fin e1 r2.nil_inv) (.of_img ?_)
      cases ne <;> exact .pure (.bool _)
    · refine PR_ret (fin e1 r2.nil_inv) (.of_img ?_)
      cases ne <;> exact .pure (.bool _)
  · rename_i e
    simp at e
    obtain ⟨rfl, rfl⟩ := e
    cases hp
    rcases r1.lst_inv with ⟨e3, _⟩ | ⟨b, oo, cap, vs, e1, _⟩
    · cases e3
    · refine PR_ret (fin e1 r2.nil_inv) (.of_img ?_)
      cases ne <;> exact .pure (.bool _)
  · cases hp

theorem k_cvt (s : Sim fr g st a w) {os : List O} {vs : List V} {x : Operand} {S T : TypeId} {k : IntKind} (hop : o.op = .convert S T x) (hS : (P.underlying S).isSome = true) (hT : P.underlying T = some (.int k)) (hok : okOs os [x] = true) (hv : isVs os = true) (hg : getOs st os = some vs) {p : Plan} (hp : plan (.cvt k) vs = some p) :
    PlanRun src fr g st a w h d ((execOp a.eval o).run P w) p := by
  obtain ⟨v, rfl, r⟩ := one_val s hok hv hg
  obtain ⟨S', hS'⟩ := Option.isSome_iff_exists.1 hS
  simp only [plan, plan_cvt] at hp
  split at hp
  · rename_i k' n e
    simp at e
    subst e
    cases hp
    have e1 := r.int_inv
    exact PR_ret (x := .int k (k.wrap n)) (by simp [execOp, hop, e1, convert, run_underlying hS', run_underlying hT, Conv.intToInt]) (.of_img (.pure (.int _ _)))
  · cases hp

theorem k_len (s : Sim fr g st a w) {os : List O} {vs : List V} {x : Operand} {T : TypeId} {ts : Array TypeId} {str : Bool} (hop : o.op = .call { callee := .builtin .len, args := #[x], argTypes := ts }) (hts : ts[0]? = some T)
    (hT : if str then P.underlying T = some .string else ∃ e, P.underlying T = some (.slice e)) (hok : okOs os [x] = true) (hv : isVs os = true) (hg : getOs st os = some vs) {p : Plan} (hp : plan (.len str) vs = some p) :
    PlanRun src fr g st a w h d ((execOp a.eval o).run P w) p := by
  obtain ⟨v, rfl, r⟩ := one_val s hok hv hg
  have hlen : ∀ {z : Value} {n : Int}, a.eval x = z → (Builtin.len_ ts o.type #[z]).run P w = .ok (.int .i64 n) w → PlanRun src fr g st a w h d ((execOp a.eval o).run P w) (.ret (.int .i64 n)) := by
    intro z n e1 e2
    refine PR_ret (x := .int .i64 n) ?_ (.of_img (.pure (.int _ _)))
    simp [execOp, hop, resolve, e1, invoke, builtin, e2]
  have sl : ∀ {ad : Option Addr} {n c : Nat}, str = false → a.eval x = .slice ad n c → PlanRun src fr g st a w h d ((execOp a.eval o).run P w) (.ret (.int .i64 (n : Int))) := by
    intro ad n c hs e1
    rw [hs] at hT
    obtain ⟨e0, hT⟩ := hT
    refine hlen e1 ?_
    simp [Builtin.len_, hts, run_underlying hT, goInt]
  simp only [plan, plan_len] at hp
  split at hp
  · rename_i l e
    simp at e
    subst e
    split at hp
    · rename_i hs
      cases hp
      rw [if_pos hs] at hT
      obtain ⟨b, e1, rfl⟩ := r.str_inv
      refine hlen e1 ?_
      have h1 : b.size = b.data.toList.length := (Array.length_toList (xs := b.data)).symm
      rw [← h1]
      simp [Builtin.len_, hts, run_underlying hT, goInt]
    · cases hp
  · rename_i z _ e
    simp at e
    subst e
    split at hp
    · cases hp
    · rename_i hs
      have hs' : str = false := by simpa using hs
      split at hp
      · rename_i n hn
        cases hp
        unfold lenOf at hn
        split at hn
        · cases hn; exact sl hs' r.nil_inv
        · cases hn
          rcases r.lst_inv with ⟨rfl, ad, c, e1⟩ | ⟨b, oo, cap, vs, e1, _⟩
          · exact sl hs' e1
          · exact sl hs' e1
        · cases hn
          rcases r.row_inv with ⟨loc, cap, _, _, _, _, e1⟩ | ⟨rfl, ad, e1⟩
          · exact sl hs' e1
          · exact sl hs' e1
        · cases hn
      · cases hp
  · cases hp

theorem k_mx (s : Sim fr g st a w) {os : List O} {vs : List V} {x y : Operand} {ts : Array TypeId} (hop : o.op = .call { callee := .builtin .max, args := #[x, y], argTypes := ts }) (hok : okOs os [x, y] = true) (hv : isVs os = true) (hg : getOs st os = some vs) {p : Plan} (hp : plan .mx vs = some p) :
    PlanRun src fr g st a w h d ((execOp a.eval o).run P w) p := by
  obtain ⟨v, u, rfl, r1, r2⟩ := two_vals s hok hv hg
  simp only [plan, plan_mx] at hp
  split at hp
  · rename_i k b k' c e
    simp at e
    obtain ⟨rfl, rfl⟩ := e
    cases hp
    have e1 := r1.int_inv
    have e2 := r2.int_inv
    exact PR_ret (x := .int k (if c > b then c else b)) (by simp [execOp, hop, resolve, e1, e2, invoke, builtin, Builtin.max_, Builtin.max2]) (.of_img (.pure (.int _ _)))
  · cases hp

theorem k_mn (s : Sim fr g st a w) {os : List O} {vs : List V} {x y : Operand} {ts : Array TypeId} (hop : o.op = .call { callee := .builtin .min, args := #[x, y], argTypes := ts }) (hok : okOs os [x, y] = true) (hv : isVs os = true) (hg : getOs st os = some vs) {p : Plan} (hp : plan .mn vs = some p) :
    PlanRun src fr g st a w h d ((execOp a.eval o).run P w) p := by
  obtain ⟨v, u, rfl, r1, r2⟩ := two_vals s hok hv hg
  simp only [plan, plan_mn] at hp
  split at hp
  · rename_i k b k' c e
    simp at e
    obtain ⟨rfl, rfl⟩ := e
    cases hp
    have e1 := r1.int_inv
    have e2 := r2.int_inv
    exact PR_ret (x := .int k (if c < b then c else b)) (by simp [execOp, hop, resolve, e1, e2, invoke, builtin, Builtin.min_, Builtin.min2]) (.of_img (.pure (.int _ _)))
  · cases hp
end
end Go.Am
