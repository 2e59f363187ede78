/- Kind by kind: moves, addresses, loads, stores, boxes, calls. -/
import Derived.Test.YtflfnkdhmcfjlaaKinds
namespace Go.Am
open Go

section
variable {P : Program} {src : Nat → Nat} {fr : Fr} {g : Gh} {st : St} {a : Act} {w : World} {h : Nat} {d : D} {o : Oper}

def D.isA : D → Bool
  | .a _ => true
  | _ => false

theorem PR_ret {v : V} {x : Value} {r : Result Next} (hr : r = .ok (.value x) w) (hv : DImg d fr.BS g a w v x) : PlanRun src fr g st a w h d r (.ret v) :=
  ⟨x, w, g, hr, .refl g w, hv⟩

theorem getOs_one {x : O} {vs : List V} (hg : getOs st [x] = some vs) : ∃ v, vs = [v] ∧ getO st x = some v := by
  obtain ⟨v, ws, rfl, h1, h2⟩ := getOs_cons_some hg
  cases h2
  exact ⟨v, rfl, h1⟩
theorem getOs_two {x y : O} {vs : List V} (hg : getOs st [x, y] = some vs) : ∃ v u, vs = [v, u] ∧ getO st x = some v ∧ getO st y = some u := by
  obtain ⟨v, ws, rfl, h1, h2⟩ := getOs_cons_some hg
  obtain ⟨u, rfl, h3⟩ := getOs_one h2
  exact ⟨v, u, rfl, h1, h3⟩
theorem getOs_three {x y z : O} {vs : List V} (hg : getOs st [x, y, z] = some vs) : ∃ v u t, vs = [v, u, t] ∧ getO st x = some v ∧ getO st y = some u ∧ getO st z = some t := by
  obtain ⟨v, ws, rfl, h1, h2⟩ := getOs_cons_some hg
  obtain ⟨u, t, rfl, h3, h4⟩ := getOs_two h2
  exact ⟨v, u, t, rfl, h1, h3, h4⟩

/-- Operands as a list of a known length. -/
theorem okOs_one {os : List O} {x : Operand} (h : okOs os [x] = true) : ∃ p, os = [p] ∧ okO p x = true := by
  match os, h with
  | [p], h => exact ⟨p, rfl, by simpa [okOs] using h⟩
  | _ :: _ :: _, h => simp [okOs] at h
theorem okOs_two {os : List O} {x y : Operand} (h : okOs os [x, y] = true) : ∃ p q, os = [p, q] ∧ okO p x = true ∧ okO q y = true := by
  match os, h with
  | [p, q], h => exact ⟨p, q, rfl, by simpa [okOs] using h⟩
  | [_], h => simp [okOs] at h
  | _ :: _ :: _ :: _, h => simp [okOs] at h
theorem okOs_three {os : List O} {x y z : Operand} (h : okOs os [x, y, z] = true) : ∃ p q r, os = [p, q, r] ∧ okO p x = true ∧ okO q y = true ∧ okO r z = true := by
  match os, h with
  | [p, q, r], h => exact ⟨p, q, r, rfl, by simpa [okOs] using h⟩
  | [_], h => simp [okOs] at h
  | [_, _], h => simp [okOs] at h
  | _ :: _ :: _ :: _ :: _, h => simp [okOs] at h
theorem isVs_one {p : O} (h : isVs [p] = true) : p.isV = true := by simpa [isVs] using h
theorem isVs_two {p q : O} (h : isVs [p, q] = true) : p.isV = true ∧ q.isV = true := by simpa [isVs] using h
theorem isVs_three {p q r : O} (h : isVs [p, q, r] = true) : p.isV = true ∧ q.isV = true ∧ r.isV = true := by simpa [isVs] using h

theorem DImg.of {v : V} {x : Value} {p : O} {y : Operand} (s : Sim fr g st a w) (hd : (p.isV || d.isA) = true) (hok : okO p y = true) (hg : getO st p = some v) (hx : x = a.eval y) : DImg d fr.BS g a w v x := by
  subst hx
  cases hp : p.isV with
  | true => exact .of_img (getO_val s hp hok hg)
  | false =>
    rw [hp] at hd
    cases d with
    | a _ => exact getO_img s hok hg
    | _ => simp [D.isA] at hd

/-! ### mv, pmv, nc, pick, not, ext, mkf -/
theorem k_mv (s : Sim fr g st a w) {os : List O} {vs : List V} {x : Operand} (hop : o.op = .move x ∨ o.op = .assign x) (hok : okOs os [x] = true) (hd : (isVs os || d.isA) = true) (hg : getOs st os = some vs) {p : Plan} (hp : plan .mv vs = some p) :
    PlanRun src fr g st a w h d ((execOp a.eval o).run P w) p := by
  obtain ⟨q, rfl, h1⟩ := okOs_one hok
  obtain ⟨v, rfl, h2⟩ := getOs_one hg
  cases hp
  refine PR_ret (x := a.eval x) ?_ (.of s (by simpa [isVs] using hd) h1 h2 rfl)
  rcases hop with e | e <;> simp [execOp, e]

theorem k_pmv (s : Sim fr g st a w) {os : List O} {vs : List V} {x : Operand} (hop : o.op = .move x ∨ o.op = .assign x) (hok : okOs os [x] = true) (hg : getOs st os = some vs) {p : Plan} (hp : plan .pmv vs = some p) :
    PlanRun src fr g st a w h d ((execOp a.eval o).run P w) p := by
  obtain ⟨q, rfl, h1⟩ := okOs_one hok
  obtain ⟨v, rfl, h2⟩ := getOs_one hg
  have h3 := getO_img s h1 h2
  simp only [plan, plan_pmv] at hp
  split at hp
  · rename_i e
    simp at e
    subst e
    cases hp
    refine PR_ret (x := a.eval x) ?_ (.of_img h3)
    rcases hop with e | e <;> simp [execOp, e]
  · cases hp

theorem k_nc (s : Sim fr g st a w) {os : List O} {vs : List V} {x : Operand} (hop : o.op = .nilCheck x) (hok : okOs os [x] = true) (hd : (isVs os || d.isA) = true) (hg : getOs st os = some vs) {p : Plan} (hp : plan .nc vs = some p) :
    PlanRun src fr g st a w h d ((execOp a.eval o).run P w) p := by
  obtain ⟨q, rfl, h1⟩ := okOs_one hok
  obtain ⟨v, rfl, h2⟩ := getOs_one hg
  have h3 := getO_img s h1 h2
  have hd' : DImg d fr.BS g a w v (a.eval x) := .of s (by simpa [isVs] using hd) h1 h2 rfl
  have fin : ∀ {y : Value}, a.eval x = y → (match y with | .pointer (some _) | .func (.func _) _ _ => True | _ => False) → PlanRun src fr g st a w h d ((execOp a.eval o).run P w) (.ret v) := by
    intro y hy ht
    refine PR_ret (x := a.eval x) ?_ hd'
    rw [hy]
    cases y <;> simp_all [execOp]
    · rename_i z; cases z <;> simp_all
    · rename_i z _ _; cases z <;> simp_all
  simp only [plan, plan_nc] at hp
  split at hp
  · rename_i e; simp at e; subst e; cases hp
    obtain ⟨loc, _, h4⟩ := Img.ptr_inv h3
    exact fin h4 trivial
  · rename_i e; simp at e; subst e; cases hp
    obtain ⟨b, o, h4, _⟩ := h3
    exact fin h4 trivial
  · rename_i e; simp at e; subst e; cases hp
    obtain ⟨_, b, _, h4⟩ := h3
    exact fin h4 trivial
  · rename_i e; simp at e; subst e; cases hp
    obtain ⟨us, h4, _⟩ := Img.fn_inv h3
    exact fin h4 trivial
  · cases hp

theorem k_pick (s : Sim fr g st a w) {os : List O} {vs : List V} {x y z : Operand} (hop : o.op = .pick x y z) (hok : okOs os [x, y, z] = true) (hv : isVs os = true) (hg : getOs st os = some vs) {p : Plan} (hp : plan .pick vs = some p) :
    PlanRun src fr g st a w h d ((execOp a.eval o).run P w) p := by
  obtain ⟨p1, p2, p3, rfl, e1, e2, e3⟩ := okOs_three hok
  obtain ⟨v1, v2, v3, rfl, g1, g2, g3⟩ := getOs_three hg
  obtain ⟨i1, i2, i3⟩ := isVs_three hv
  have r1 := getO_val s i1 e1 g1
  have r2 := getO_val s i2 e2 g2
  have r3 := getO_val s i3 e3 g3
  simp only [plan, plan_pick] at hp
  split at hp
  · rename_i c b1 b2 e
    simp at e
    obtain ⟨rfl, rfl, rfl⟩ := e
    cases hp
    have hc := r1.bool_inv
    cases c with
    | true => exact PR_ret (x := a.eval y) (by simp [execOp, hop, hc, asBool]) (.of_img r2)
    | false => exact PR_ret (x := a.eval z) (by simp [execOp, hop, hc, asBool]) (.of_img r3)
  · cases hp

theorem k_not (s : Sim fr g st a w) {os : List O} {vs : List V} {x : Operand} {T : TypeId} (hop : o.op = .unOp .not T x) (hok : okOs os [x] = true) (hv : isVs os = true) (hg : getOs st os = some vs) {p : Plan} (hp : plan .not vs = some p) :
    PlanRun src fr g st a w h d ((execOp a.eval o).run P w) p := by
  obtain ⟨q, rfl, h1⟩ := okOs_one hok
  obtain ⟨v, rfl, h2⟩ := getOs_one hg
  have r := getO_val s (isVs_one hv) h1 h2
  simp only [plan, plan_not] at hp
  split at hp
  · rename_i b e
    simp at e
    subst e
    cases hp
    have hb := r.bool_inv
    exact PR_ret (x := .bool (!b)) (by simp [execOp, hop, hb, Op.unary]) (.of_img (.pure (.bool _)))
  · cases hp

theorem k_ext (s : Sim fr g st a w) {os : List O} {vs : List V} {x : Operand} {i : Nat} (hop : o.op = .extract x i) (hok : okOs os [x] = true) (hv : isVs os = true) (hg : getOs st os = some vs) {p : Plan} (hp : plan (.ext i) vs = some p) :
    PlanRun src fr g st a w h d ((execOp a.eval o).run P w) p := by
  obtain ⟨q, rfl, h1⟩ := okOs_one hok
  obtain ⟨v, rfl, h2⟩ := getOs_one hg
  have r := getO_val s (isVs_one hv) h1 h2
  simp only [plan, plan_ext] at hp
  split at hp
  · rename_i us e
    simp at e
    subst e
    simp only [nth_eq, Option.map_eq_some_iff] at hp
    obtain ⟨c, hc, rfl⟩ := hp
    obtain ⟨ys, hy, hl, hr⟩ := r.tup_inv
    have hi : i < us.length := by
      rcases Nat.lt_or_ge i us.length with h | h
      · exact h
      · rw [List.getElem?_eq_none h] at hc; cases hc
    have hy' : ys[i]? = some (ys[i]'(by omega)) := List.getElem?_eq_getElem (by omega)
    exact PR_ret (x := ys[i]'(by omega)) (by simp [execOp, hop, hy, Instr.extract, hy']) (.of_img (hr i c _ hc hy'))
  · cases hp

theorem evals_spec (s : Sim fr g st a w) {os : List O} {xs : List Operand} {vs : List V} (hv : isVs os = true) (hok : okOs os xs = true) (hg : getOs st os = some vs) :
    vs.length = (xs.map a.eval).length ∧ ∀ (i : Nat) (v : V) (x : Value), vs[i]? = some v → (xs.map a.eval)[i]? = some x → Img g w v x := by
  obtain ⟨h1, h2⟩ := getOs_vals s hv hok hg
  refine ⟨by simp [h1], fun i v x hv hx => ?_⟩
  rw [List.getElem?_map, Option.map_eq_some_iff] at hx
  obtain ⟨y, hy, rfl⟩ := hx
  exact h2 i v y hv hy

theorem k_mkf (s : Sim fr g st a w) {os : List O} {vs : List V} {xs : Array Operand} {f : Nat} (hop : o.op = .makeFunc (.func f) #[] xs) (hok : okOs os xs.toList = true) (hv : isVs os = true) (hg : getOs st os = some vs) {p : Plan} (hp : plan (.mkf f) vs = some p) :
    PlanRun src fr g st a w h d ((execOp a.eval o).run P w) p := by
  obtain ⟨h1, h2⟩ := evals_spec s hv hok hg
  cases hp
  refine PR_ret (x := .func (.func f) #[] (xs.toList.map a.eval).toArray) ?_ (.of_img (.fn f vs _ h1 h2))
  simp [execOp, hop, Instr.makeFunc, ← Array.toList_map]

/-! ### Calls -/
def callable (P : Program) (f : FuncId) : Bool :=
  match P.funcs[f]? with
  | some fn => fn.name != "runtime.NumGoroutine" && fn.body.isSome
  | none => false

theorem run_callFunc {f : FuncId} (h : callable P f = true) (args : Array Value) : (callFunc f args).run P w = .ok (.enter f args) w := by
  unfold callable at h
  split at h
  · rename_i fn hf
    simp only [Bool.and_eq_true, bne_iff_ne, ne_eq] at h
    have h2 : fn.body ≠ none := by
      intro e
      rw [e] at h
      simp at h
    simp [callFunc, hf, h.1, h2]
  · cases h

theorem k_call (s : Sim fr g st a w) {os : List O} {vs : List V} {xs : Array Operand} {ts : Array TypeId} {f f' : Nat} (hop : o.op = .call { callee := .value (.func f), args := xs, argTypes := ts }) (hf : src f' = f) (hc : callable P f = true)
    (hok : okOs os xs.toList = true) (hv : isVs os = true) (hg : getOs st os = some vs) {p : Plan} (hp : plan (.call f') vs = some p) :
    PlanRun src fr g st a w h d ((execOp a.eval o).run P w) p := by
  obtain ⟨h1, h2⟩ := evals_spec s hv hok hg
  cases hp
  refine ⟨xs.toList.map a.eval, ?_, h1, h2⟩
  subst hf
  simp [execOp, hop, resolve, Act.eval, Deferred.ofValue, invoke, run_callFunc hc, ← Array.toList_map]

theorem k_callv (s : Sim fr g st a w) {os : List O} {vs : List V} {x : Operand} {xs : Array Operand} {ts : Array TypeId} (hop : o.op = .call { callee := .value x, args := xs, argTypes := ts })
    (hcs : ∀ f cs, vs.head? = some (.fn f cs) → f < 1000 → src f = f ∧ callable P f = true) (hok : okOs os (x :: xs.toList) = true) (hv : isVs os = true) (hg : getOs st os = some vs) {p : Plan} (hp : plan .callv vs = some p) :
    PlanRun src fr g st a w h d ((execOp a.eval o).run P w) p := by
  match os, hok with
  | q :: os, hok =>
    simp only [okOs, Bool.and_eq_true] at hok
    simp only [isVs, Bool.and_eq_true] at hv
    obtain ⟨v, ws, rfl, h1, h2⟩ := getOs_cons_some hg
    have r := getO_val s hv.1 hok.1 h1
    obtain ⟨h3, h4⟩ := evals_spec s hv.2 hok.2 h2
    simp only [plan, plan_callv] at hp
    split at hp
    · rename_i f cs us e
      simp at e
      obtain ⟨rfl, rfl⟩ := e
      split at hp
      · rename_i hlt
        cases hp
        obtain ⟨ys, hy, hl, hr⟩ := r.fn_inv
        obtain ⟨e1, e2⟩ := hcs f cs rfl hlt
        refine ⟨xs.toList.map a.eval ++ ys, ?_, by simp at h3 ⊢; omega, fun i c z hc hz => ?_⟩
        · rw [e1]
          simp [execOp, hop, resolve, hy, Deferred.ofValue, invoke, run_callFunc e2, ← Array.toList_map]
        · simp only [List.length_map] at h3
          by_cases hi : i < ws.length
          · rw [List.getElem?_append_left hi] at hc
            rw [List.getElem?_append_left (by rw [List.length_map]; omega)] at hz
            exact h4 i c z hc hz
          · rw [List.getElem?_append_right (by omega)] at hc
            rw [List.getElem?_append_right (by rw [List.length_map]; omega)] at hz
            simp only [List.length_map] at hz
            rw [← h3] at hz
            exact hr _ c z hc hz
      · cases hp
    · cases hp
end
end Go.Am
