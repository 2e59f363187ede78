/- A part of the proof: The law ExploreChecks holds: any state of any system has the specified error, and a step of an invalid one returns it; no conditions. -/
import Derived.Test.YtflfnkdhmcfjlaaN11a
import Derived.Deep.AppendSrc
import Derived.WideKeyRuns
namespace Go.Am
open Go
def okC1 : V → Value → Bool
 | .int k n, .int k' n' => decide (k = k') && decide (n = n')
 | .bool b, .bool b' => b == b'
 | .str s, .string b => decide (b.data.toList = s)
 | .nil, .slice none 0 0 => true
 | .nilp, .pointer none => true
 | _, _ => false
def okCs : List V → List Value → Bool
 | [], [] => true
 | c :: cs, v :: vs => okC1 c v && okCs cs vs
 | _, _ => false
def okConst : V → Value → Bool
 | .agg cs, .agg vs => okCs cs vs.toList
 | v, x => okC1 v x
theorem okC1_img {v : V} {x : Value} (h : okC1 v x = true) (I : Nat → Prop) (w : World) : ImgP I w v x ∧ x.oneCell' = true ∧ v.cells = [v] ∧ x.cells = #[x] := by
 unfold okC1 at h
 split at h
 ·simp at h; obtain ⟨rfl, rfl⟩ := h; exact ⟨.int _ _, rfl, rfl, rfl⟩
 ·simp at h; subst h; exact ⟨.bool _, rfl, rfl, rfl⟩
 ·simp at h; subst h; exact ⟨.str _, rfl, rfl, rfl⟩
 ·exact ⟨.nil, rfl, rfl, rfl⟩
 ·exact ⟨.nilp, rfl, rfl, rfl⟩
 ·cases h
theorem okCs_img : ∀ {cs : List V} {vs : List Value}, okCs cs vs = true → ∀ (I : Nat → Prop) (w : World), cs.length = vs.length ∧ (∀ v ∈ vs, v.oneCell' = true) ∧ ∀ (i : Nat) (c : V) (v : Value), cs[i]? = some c → vs[i]? = some v → ImgP I w c v
 | [], [], _, I, w => ⟨rfl, by simp, by simp⟩
 | c :: cs, v :: vs, h, I, w => by
  simp only [okCs, Bool.and_eq_true] at h
  obtain ⟨h1, h2⟩ := h
  obtain ⟨a, b, d⟩ := okCs_img h2 I w
  obtain ⟨e, f, _⟩ := okC1_img h1 I w
  refine ⟨by simp [a], fun x hx => ?_, fun i x y hx hy => ?_⟩
  ·rcases List.mem_cons.1 hx with rfl | hx
   ·exact f
   ·exact b x hx
  ·cases i with
   | zero => simp at hx hy; subst hx hy; exact e
   | succ i => exact d i x y (by simpa using hx) (by simpa using hy)
 | [], _ :: _, h, _, _ => by cases h
 | _ :: _, [], h, _, _ => by cases h
theorem okConst_img {v : V} {x : Value} (h : okConst v x = true) (I : Nat → Prop) (w : World) : ImgP I w v x := by
 unfold okConst at h
 split at h
 ·rename_i cs vs
  obtain ⟨a, b, d⟩ := okCs_img h I w
  have := ImgP.agg (I := I) (w := w) cs vs.toList a b d
  simpa using this
 ·exact (okC1_img h I w).1
theorem okConst_cells {v : V} {x : Value} (h : okConst v x = true) : v.cells.length = x.cells.size ∧ ∀ y ∈ x.cells, y.oneCell' = true := by
 unfold okConst at h
 split at h
 ·rename_i cs vs
  obtain ⟨a, b, _⟩ := okCs_img h (fun _ => False) default
  refine ⟨by simpa [V.cells, Value.cells] using a, fun y hy => b y (by simpa [Value.cells] using hy)⟩
 ·obtain ⟨_, h1, h2, h3⟩ := okC1_img h (fun _ => False) default
  rw [h2, h3]
  refine ⟨rfl, fun y hy => ?_⟩
  simp at hy; subst hy; exact h1
def okO : O → Operand → Bool
 | .t i, .tmp j => i == j
 | .b i, .tmp j => i == j
 | .a i, .tmp j => i == j
 | .k v, .const c => okConst v c
 | .k (.fn f []), .func f' => f == f'
 | _, _ => false
def O.isV : O → Bool
 | .t _ | .k _ => true
 | _ => false
section
variable {fr : Fr} {g : Gh} {st : St} {a : Act} {w : World}
theorem eval_tmp {t : Nat} {x : Value} (h : a.tmps[t]? = some x) : a.eval (.tmp t) = x := by
 simp only [Act.eval, Array.getD_eq_getD_getElem?, h, Option.getD_some]
theorem getO_val (s : Sim fr g st a w) {o : O} {x : Operand} {v : V} (hv : o.isV = true) (hok : okO o x = true) (h : getO st o = some v) : Img g w v (a.eval x) := by
 cases o with
 | t i =>
  cases x with
  | tmp j =>
   have e : i = j := by simpa [okO] using hok
   subst e
   obtain ⟨_, _, y, h1, h2⟩ := s.env i v h
   rw [eval_tmp h1]
   exact h2
  | _ => simp [okO] at hok
 | k u =>
  cases h
  cases x with
  | const c => exact .pure (okConst_img (x := c) (by cases v <;> exact hok) _ _)
  | func f =>
   cases v with
   | fn f' cs =>
    cases cs with
    | nil =>
     have e : f' = f := by simpa [okO] using hok
     subst e
     exact .pure (.fn f')
    | cons _ _ => simp [okO] at hok
   | _ => simp [okO] at hok
  | tmp j => simp [okO] at hok
  | global j => simp [okO] at hok
 | b i => simp [O.isV] at hv
 | a i => simp [O.isV] at hv
theorem getO_img (s : Sim fr g st a w) {o : O} {x : Operand} {v : V} (hok : okO o x = true) (h : getO st o = some v) : ImgA fr.BS g a w v (a.eval x) := by
 cases o with
 | t i => exact (getO_val s rfl hok h).toA
 | k u => exact (getO_val s rfl hok h).toA
 | b i =>
  cases x with
  | tmp j =>
   have e : i = j := by simpa [okO] using hok
   subst e
   simp only [getO] at h
   split at h
   ·rename_i e he
    cases h
    obtain ⟨h1, b, h2, _⟩ := s.bx i e he
    rw [eval_tmp h2]
    exact ⟨h1, b, h2, rfl⟩
   ·cases h
  | _ => simp [okO] at hok
 | a i =>
  cases x with
  | tmp j =>
   have e : i = j := by simpa [okO] using hok
   subst e
   obtain ⟨_, y, h1, h2⟩ := s.ad i v h
   rw [eval_tmp h1]
   exact h2
  | _ => simp [okO] at hok
def okOs : List O → List Operand → Bool
 | [], [] => true
 | o :: os, x :: xs => okO o x && okOs os xs
 | _, _ => false
def snd : List O → Bool
 | [_, q] => q.isV
 | _ => false
def isVs : List O → Bool
 | [] => true
 | o :: os => o.isV && isVs os
theorem getOs_nil : getOs st [] = some [] := rfl
theorem getOs_cons (o : O) (os : List O) : getOs st (o :: os) = (match getO st o with
  | none => none
  | some v => match getOs st os with
   | none => none
   | some vs => some (v :: vs)) := by
 show Option.rec (motive := fun _ => Option (List V)) none (fun v => Option.rec (motive := fun _ => Option (List V)) none (fun vs => some (v :: vs)) (getOs st os)) (getO st o) = _
 cases getO st o with
 | none => rfl
 | some v => cases getOs st os <;> rfl
theorem getOs_cons_some {o : O} {os : List O} {vs : List V} (h : getOs st (o :: os) = some vs) : ∃ v ws, vs = v :: ws ∧ getO st o = some v ∧ getOs st os = some ws := by
 rw [getOs_cons] at h
 split at h
 ·cases h
 ·rename_i v hv
  split at h
  ·cases h
  ·rename_i ws hw
   cases h
   exact ⟨v, ws, rfl, hv, hw⟩
theorem getOs_vals (s : Sim fr g st a w) : ∀ {os : List O} {xs : List Operand} {vs : List V}, isVs os = true → okOs os xs = true → getOs st os = some vs →
  vs.length = xs.length ∧ ∀ (i : Nat) (v : V) (x : Operand), vs[i]? = some v → xs[i]? = some x → Img g w v (a.eval x)
 | [], [], vs, _, _, h => by cases h; exact ⟨rfl, fun i v x h => by simp at h⟩
 | o :: os, x :: xs, vs, hv, hok, h => by
  simp only [isVs, Bool.and_eq_true] at hv
  simp only [okOs, Bool.and_eq_true] at hok
  obtain ⟨v, ws, rfl, h1, h2⟩ := getOs_cons_some h
  obtain ⟨h3, h4⟩ := getOs_vals s hv.2 hok.2 h2
  refine ⟨by simp [h3], fun i u y hu hy => ?_⟩
  cases i with
  | zero => simp at hu hy; subst hu hy; exact getO_val s hv.1 hok.1 h1
  | succ i => exact h4 i u y (by simpa using hu) (by simpa using hy)
 | [], _ :: _, _, _, h, _ => by cases h
 | _ :: _, [], _, _, h, _ => by cases h
end
def szOf (P : Program) (t : TypeId) : Option Nat := (P.info? t).map (·.size)
def aggOf (P : Program) (t : TypeId) : Option Bool := (P.underlying t).map fun | .struct _ | .array _ _ => true | _ => false
theorem run_sizeOf' {P : Program} {t n : Nat} (h : szOf P t = some n) (w : World) : (sizeOf t).run P w = .ok n w := by
 unfold szOf at h
 cases hq : P.info? t with
 | none => simp [hq] at h
 | some i =>
  rw [hq] at h; simp at h; subst h
  simp [sizeOf, typeInfo, hq]
theorem run_isAgg' {P : Program} {t : TypeId} {b : Bool} (h : aggOf P t = some b) (w : World) : (isAgg t).run P w = .ok b w := by
 unfold aggOf at h
 cases hq : P.underlying t with
 | none => simp [hq] at h
 | some d =>
  rw [hq] at h
  simp only [Option.map_some, Option.some.injEq] at h
  subst h
  unfold isAgg
  rw [Sem.run_bind, run_underlying hq w]
  cases d <;> rfl
def ElemAt (g : Gh) (w : World) (b o : Nat) (e : V) : Prop := ∀ (j : Nat) (c : V), e.cells[j]? = some c → ∃ y, w.cell? ⟨b, o + j, none⟩ = some y ∧ y.oneCell' = true ∧ Img g w c y
theorem run_load_at {P : Program} {w : World} {a : Addr} {y : Value} (h : w.cell? a = some y) : (load a).run P w = .ok y w := by
 rw [run_load, h]
theorem add_at (b o n : Nat) : (⟨b, o, none⟩ : Addr).add n = ⟨b, o + n, none⟩ := by
 unfold Addr.add
 split
 ·subst_vars; rfl
 ·rfl
theorem load_elem {P : Program} {g : Gh} {w : World} {b o : Nat} {e : V} (he : ElemAt g w b o e) {T : TypeId} {agg : Bool} {off sz : Nat} {v : V} (ha : aggOf P T = some agg) (hs : agg = true → szOf P T = some sz) (h : getC agg off sz e = some v) :
  ∃ x, (loadVar T ⟨b, o + off, none⟩).run P w = .ok x w ∧ Img g w v x := by
 unfold getC at h
 cases agg with
 | false =>
  simp only [Bool.false_eq_true, if_false, nth_eq] at h
  obtain ⟨y, h1, _, h2⟩ := he off v h
  exact ⟨y, by simp only [loadVar, Sem.run_bind, run_isAgg' ha, Result.andThen_ok, Bool.false_eq_true, if_false]; exact run_load_at h1, h2⟩
 | true =>
  simp only [if_true] at h
  split at h
  ·rename_i hl
   cases h
   have hcell : ∀ j, j < sz → ∃ y, w.cell? ⟨b, o + off + j, none⟩ = some y ∧ y.oneCell' = true ∧ ∀ c, e.cells[off + j]? = some c → Img g w c y := by
    intro j hj
    have hlt : off + j < e.cells.length := by omega
    obtain ⟨y, h1, h2, h3⟩ := he (off + j) e.cells[off + j] (List.getElem?_eq_getElem hlt)
    refine ⟨y, by rw [Nat.add_assoc]; exact h1, h2, fun c hc => ?_⟩
    rw [List.getElem?_eq_getElem hlt] at hc
    cases hc
    exact h3
   have hrun : (loadCells ⟨b, o + off, none⟩ sz).run P w = .ok ((List.range sz).map fun j => (w.cell? ⟨b, o + off + j, none⟩).getD undef).toArray w :=
    run_loadCells w _ sz (fun j => (w.cell? ⟨b, o + off + j, none⟩).getD undef) (fun j hj => by
     obtain ⟨y, h1, _⟩ := hcell j hj
     rw [add_at, h1]; rfl)
   refine ⟨_, by simp only [loadVar, Sem.run_bind, run_isAgg' ha, Result.andThen_ok, if_true, run_sizeOf' (hs rfl), hrun, Sem.run_pure]; rfl, ?_⟩
   refine .agg _ _ (by simp; omega) (fun y hy => ?_) (fun i c y hc hy => ?_)
   ·obtain ⟨j, hj, rfl⟩ := List.mem_map.1 hy
    obtain ⟨y, h1, h2, _⟩ := hcell j (List.mem_range.1 hj)
    simp only [h1, Option.getD_some]; exact h2
   ·have hi : i < sz := by
     rcases Nat.lt_or_ge i sz with h | h
     ·exact h
     ·rw [List.getElem?_eq_none (by simp; omega)] at hc; cases hc
    obtain ⟨z, h1, h2, h3⟩ := hcell i hi
    simp only [List.getElem?_map, List.getElem?_range hi, Option.map_some, Option.some.injEq] at hy
    subst hy
    simp only [h1, Option.getD_some]
    refine h3 c ?_
    rw [List.getElem?_take, if_pos hi, List.getElem?_drop] at hc
    exact hc
  ·cases h
theorem setRow_upd {w : World} {b : Nat} {cur : Array Value} {T : TypeId} (hg : w.heap[b]? = some (.cells cur T (0, 0))) (cs : Array Value) : Upd w (w.setRow b cs) b (.cells cs T (0, 0)) :=
 ⟨setRow_heap w b cur cs T _ hg, fun k hk => setRow_other w b k cs hk, by simp, rfl, rfl, rfl⟩
theorem store_cells {P : Program} {g : Gh} {w : World} {b o : Nat} {cur : Array Value} {T0 : TypeId} (hg : w.heap[b]? = some (.cells cur T0 (0, 0))) {T : TypeId} {sz : Nat} {v : V} {x : Value} (hx : Img g w v x) (h1 : v.ones = true) (hsz : v.cells.length = sz)
  (hT : szOf P T = some sz) (hfit : o + sz ≤ cur.size) :
  ∃ w' cs, (storeVar T ⟨b, o, none⟩ x).run P w = .ok () w' ∧ Upd w w' b (.cells cs T0 (0, 0)) ∧ cs.size = cur.size ∧ (∀ j, j < sz → cs[o + j]? = x.cells[j]?) ∧ ∀ k, (k < o ∨ o + sz ≤ k) → cs[k]? = cur[k]? := by
 have hc := hx.cells
 have hxs : x.cells.size = sz := by rw [← hc.1, hsz]
 have hone : ∀ y ∈ x.cells.toList, y.oneCell' = true := by
  intro y hy
  obtain ⟨i, hi, rfl⟩ := List.getElem_of_mem hy
  exact hx.ones h1 i _ (by simp at hi; simp [hi])
 have hst := run_storeCells_at P b o T0 x.cells.toList 0 cur w hg (by simp; omega) hone
 refine ⟨_, (cur.toList.take (o + 0) ++ x.cells.toList ++ cur.toList.drop (o + 0 + x.cells.toList.length)).toArray, ?_, setRow_upd hg _, ?_, ?_, ?_⟩
 ·simp only [storeVar, Sem.run_bind, run_sizeOf' hT, Result.andThen_ok, hxs, ne_eq, not_true_eq_false, if_false, Sem.run_ite, hst]
 ·simp; omega
 ·intro j hj
  simp only [Nat.add_zero, List.getElem?_toArray]
  rw [List.append_assoc, List.getElem?_append_right (by simp; omega), List.getElem?_append_left (by simp; omega)]
  simp
  congr 1
  omega
 ·intro k hk
  simp only [Nat.add_zero, List.getElem?_toArray]
  rcases hk with hk | hk
  ·rw [List.append_assoc, List.getElem?_append_left (by simp; omega)]
   simp [hk]
  ·rw [List.getElem?_append_right (by simp; omega)]
   simp
   congr 1
   omega
end Go.Am
namespace Go.Am
open Go
section
variable {P : Program} {src : Nat → Nat} {fr : Fr} {g : Gh} {st : St} {a : Act} {w : World} {h : Nat} {d : D} {o : Oper}
def D.isA : D → Bool
 | .a _ => true
 | _ => false
theorem PR_ret {v : V} {x : Value} {r : Result Next} (hr : r = .ok (.value x) w) (hv : DImg d fr.BS g a w v x) : PlanRun src fr g st a w h d r (.ret v) :=
 ⟨x, w, g, hr, .refl g w, hv⟩
theorem getOs_one {x : O} {vs : List V} (hg : getOs st [x] = some vs) : ∃ v, vs = [v] ∧ getO st x = some v := by
 obtain ⟨v, ws, rfl, h1, h2⟩ := getOs_cons_some hg
 cases h2
 exact ⟨v, rfl, h1⟩
theorem getOs_two {x y : O} {vs : List V} (hg : getOs st [x, y] = some vs) : ∃ v u, vs = [v, u] ∧ getO st x = some v ∧ getO st y = some u := by
 obtain ⟨v, ws, rfl, h1, h2⟩ := getOs_cons_some hg
 obtain ⟨u, rfl, h3⟩ := getOs_one h2
 exact ⟨v, u, rfl, h1, h3⟩
theorem getOs_three {x y z : O} {vs : List V} (hg : getOs st [x, y, z] = some vs) : ∃ v u t, vs = [v, u, t] ∧ getO st x = some v ∧ getO st y = some u ∧ getO st z = some t := by
 obtain ⟨v, ws, rfl, h1, h2⟩ := getOs_cons_some hg
 obtain ⟨u, t, rfl, h3, h4⟩ := getOs_two h2
 exact ⟨v, u, t, rfl, h1, h3, h4⟩
theorem okOs_one {os : List O} {x : Operand} (h : okOs os [x] = true) : ∃ p, os = [p] ∧ okO p x = true := by
 match os, h with
 | [p], h => exact ⟨p, rfl, by simpa [okOs] using h⟩
 | _ :: _ :: _, h => simp [okOs] at h
theorem okOs_two {os : List O} {x y : Operand} (h : okOs os [x, y] = true) : ∃ p q, os = [p, q] ∧ okO p x = true ∧ okO q y = true := by
 match os, h with
 | [p, q], h => exact ⟨p, q, rfl, by simpa [okOs] using h⟩
 | [_], h => simp [okOs] at h
 | _ :: _ :: _ :: _, h => simp [okOs] at h
theorem okOs_three {os : List O} {x y z : Operand} (h : okOs os [x, y, z] = true) : ∃ p q r, os = [p, q, r] ∧ okO p x = true ∧ okO q y = true ∧ okO r z = true := by
 match os, h with
 | [p, q, r], h => exact ⟨p, q, r, rfl, by simpa [okOs] using h⟩
 | [_], h => simp [okOs] at h
 | [_, _], h => simp [okOs] at h
 | _ :: _ :: _ :: _ :: _, h => simp [okOs] at h
theorem isVs_one {p : O} (h : isVs [p] = true) : p.isV = true := by simpa [isVs] using h
theorem isVs_two {p q : O} (h : isVs [p, q] = true) : p.isV = true ∧ q.isV = true := by simpa [isVs] using h
theorem isVs_three {p q r : O} (h : isVs [p, q, r] = true) : p.isV = true ∧ q.isV = true ∧ r.isV = true := by simpa [isVs] using h
theorem DImg.of {v : V} {x : Value} {p : O} {y : Operand} (s : Sim fr g st a w) (hd : (p.isV || d.isA) = true) (hok : okO p y = true) (hg : getO st p = some v) (hx : x = a.eval y) : DImg d fr.BS g a w v x := by
 subst hx
 cases hp : p.isV with
 | true => exact .of_img (getO_val s hp hok hg)
 | false =>
  rw [hp] at hd
  cases d with
  | a _ => exact getO_img s hok hg
  | _ => simp [D.isA] at hd
theorem k_mv (s : Sim fr g st a w) {os : List O} {vs : List V} {x : Operand} (hop : o.op = .move x ∨ o.op = .assign x) (hok : okOs os [x] = true) (hd : (isVs os || d.isA) = true) (hg : getOs st os = some vs) {p : Plan} (hp : plan .mv vs = some p) :
  PlanRun src fr g st a w h d ((execOp a.eval o).run P w) p := by
 obtain ⟨q, rfl, h1⟩ := okOs_one hok
 obtain ⟨v, rfl, h2⟩ := getOs_one hg
 cases hp
 refine PR_ret (x := a.eval x) ?_ (.of s (by simpa [isVs] using hd) h1 h2 rfl)
 rcases hop with e | e <;> simp [execOp, e]
theorem k_pmv (s : Sim fr g st a w) {os : List O} {vs : List V} {x : Operand} (hop : o.op = .move x ∨ o.op = .assign x) (hok : okOs os [x] = true) (hg : getOs st os = some vs) {p : Plan} (hp : plan .pmv vs = some p) :
  PlanRun src fr g st a w h d ((execOp a.eval o).run P w) p := by
 obtain ⟨q, rfl, h1⟩ := okOs_one hok
 obtain ⟨v, rfl, h2⟩ := getOs_one hg
 have h3 := getO_img s h1 h2
 simp only [plan, plan_pmv] at hp
 split at hp
 ·rename_i e
  simp at e
  subst e
  cases hp
  refine PR_ret (x := a.eval x) ?_ (.of_img h3)
  rcases hop with e | e <;> simp [execOp, e]
 ·cases hp
theorem k_nc (s : Sim fr g st a w) {os : List O} {vs : List V} {x : Operand} (hop : o.op = .nilCheck x) (hok : okOs os [x] = true) (hd : (isVs os || d.isA) = true) (hg : getOs st os = some vs) {p : Plan} (hp : plan .nc vs = some p) :
  PlanRun src fr g st a w h d ((execOp a.eval o).run P w) p := by
 obtain ⟨q, rfl, h1⟩ := okOs_one hok
 obtain ⟨v, rfl, h2⟩ := getOs_one hg
 have h3 := getO_img s h1 h2
 have hd' : DImg d fr.BS g a w v (a.eval x) := .of s (by simpa [isVs] using hd) h1 h2 rfl
 have fin : ∀ {y : Value}, a.eval x = y → (match y with | .pointer (some _) | .func (.func _) _ _ => True | _ => False) → PlanRun src fr g st a w h d ((execOp a.eval o).run P w) (.ret v) := by
  intro y hy ht
  refine PR_ret (x := a.eval x) ?_ hd'
  rw [hy]
  cases y <;> simp_all [execOp]
  ·rename_i z; cases z <;> simp_all
  ·rename_i z _ _; cases z <;> simp_all
 simp only [plan, plan_nc] at hp
 split at hp
 ·rename_i e; simp at e; subst e; cases hp
  obtain ⟨loc, _, h4⟩ := Img.ptr_inv h3
  exact fin h4 trivial
 ·rename_i e; simp at e; subst e; cases hp
  obtain ⟨b, o, h4, _⟩ := h3
  exact fin h4 trivial
 ·rename_i e; simp at e; subst e; cases hp
  obtain ⟨_, b, _, h4⟩ := h3
  exact fin h4 trivial
 ·rename_i e; simp at e; subst e; cases hp
  obtain ⟨us, h4, _⟩ := Img.fn_inv h3
  exact fin h4 trivial
 ·cases hp
theorem k_pick (s : Sim fr g st a w) {os : List O} {vs : List V} {x y z : Operand} (hop : o.op = .pick x y z) (hok : okOs os [x, y, z] = true) (hv : isVs os = true) (hg : getOs st os = some vs) {p : Plan} (hp : plan .pick vs = some p) :
  PlanRun src fr g st a w h d ((execOp a.eval o).run P w) p := by
 obtain ⟨p1, p2, p3, rfl, e1, e2, e3⟩ := okOs_three hok
 obtain ⟨v1, v2, v3, rfl, g1, g2, g3⟩ := getOs_three hg
 obtain ⟨i1, i2, i3⟩ := isVs_three hv
 have r1 := getO_val s i1 e1 g1
 have r2 := getO_val s i2 e2 g2
 have r3 := getO_val s i3 e3 g3
 simp only [plan, plan_pick] at hp
 split at hp
 ·rename_i c b1 b2 e
  simp at e
  obtain ⟨rfl, rfl, rfl⟩ := e
  cases hp
  have hc := r1.bool_inv
  cases c with
  | true => exact PR_ret (x := a.eval y) (by simp [execOp, hop, hc, asBool]) (.of_img r2)
  | false => exact PR_ret (x := a.eval z) (by simp [execOp, hop, hc, asBool]) (.of_img r3)
 ·cases hp
theorem k_not (s : Sim fr g st a w) {os : List O} {vs : List V} {x : Operand} {T : TypeId} (hop : o.op = .unOp .not T x) (hok : okOs os [x] = true) (hv : isVs os = true) (hg : getOs st os = some vs) {p : Plan} (hp : plan .not vs = some p) :
  PlanRun src fr g st a w h d ((execOp a.eval o).run P w) p := by
 obtain ⟨q, rfl, h1⟩ := okOs_one hok
 obtain ⟨v, rfl, h2⟩ := getOs_one hg
 have r := getO_val s (isVs_one hv) h1 h2
 simp only [plan, plan_not] at hp
 split at hp
 ·rename_i b e
  simp at e
  subst e
  cases hp
  have hb := r.bool_inv
  exact PR_ret (x := .bool (!b)) (by simp [execOp, hop, hb, Op.unary]) (.of_img (.pure (.bool _)))
 ·cases hp
theorem k_ext (s : Sim fr g st a w) {os : List O} {vs : List V} {x : Operand} {i : Nat} (hop : o.op = .extract x i) (hok : okOs os [x] = true) (hv : isVs os = true) (hg : getOs st os = some vs) {p : Plan} (hp : plan (.ext i) vs = some p) :
  PlanRun src fr g st a w h d ((execOp a.eval o).run P w) p := by
 obtain ⟨q, rfl, h1⟩ := okOs_one hok
 obtain ⟨v, rfl, h2⟩ := getOs_one hg
 have r := getO_val s (isVs_one hv) h1 h2
 simp only [plan, plan_ext] at hp
 split at hp
 ·rename_i us e
  simp at e
  subst e
  simp only [nth_eq, Option.map_eq_some_iff] at hp
  obtain ⟨c, hc, rfl⟩ := hp
  obtain ⟨ys, hy, hl, hr⟩ := r.tup_inv
  have hi : i < us.length := by
   rcases Nat.lt_or_ge i us.length with h | h
   ·exact h
   ·rw [List.getElem?_eq_none h] at hc; cases hc
  have hy' : ys[i]? = some (ys[i]'(by omega)) := List.getElem?_eq_getElem (by omega)
  exact PR_ret (x := ys[i]'(by omega)) (by simp [execOp, hop, hy, Instr.extract, hy']) (.of_img (hr i c _ hc hy'))
 ·cases hp
theorem evals_spec (s : Sim fr g st a w) {os : List O} {xs : List Operand} {vs : List V} (hv : isVs os = true) (hok : okOs os xs = true) (hg : getOs st os = some vs) :
  vs.length = (xs.map a.eval).length ∧ ∀ (i : Nat) (v : V) (x : Value), vs[i]? = some v → (xs.map a.eval)[i]? = some x → Img g w v x := by
 obtain ⟨h1, h2⟩ := getOs_vals s hv hok hg
 refine ⟨by simp [h1], fun i v x hv hx => ?_⟩
 rw [List.getElem?_map, Option.map_eq_some_iff] at hx
 obtain ⟨y, hy, rfl⟩ := hx
 exact h2 i v y hv hy
theorem k_mkf (s : Sim fr g st a w) {os : List O} {vs : List V} {xs : Array Operand} {f : Nat} (hop : o.op = .makeFunc (.func f) #[] xs) (hok : okOs os xs.toList = true) (hv : isVs os = true) (hg : getOs st os = some vs) {p : Plan} (hp : plan (.mkf f) vs = some p) :
  PlanRun src fr g st a w h d ((execOp a.eval o).run P w) p := by
 obtain ⟨h1, h2⟩ := evals_spec s hv hok hg
 cases hp
 refine PR_ret (x := .func (.func f) #[] (xs.toList.map a.eval).toArray) ?_ (.of_img (.fn f vs _ h1 h2))
 simp [execOp, hop, Instr.makeFunc, ← Array.toList_map]
def callable (P : Program) (f : FuncId) : Bool :=
 match P.funcs[f]? with
 | some fn => fn.name != "runtime.NumGoroutine" && fn.body.isSome
 | none => false
theorem run_callFunc {f : FuncId} (h : callable P f = true) (args : Array Value) : (callFunc f args).run P w = .ok (.enter f args) w := by
 unfold callable at h
 split at h
 ·rename_i fn hf
  simp only [Bool.and_eq_true, bne_iff_ne, ne_eq] at h
  have h2 : fn.body ≠ none := by
   intro e
   rw [e] at h
   simp at h
  simp [callFunc, hf, h.1, h2]
 ·cases h
theorem k_call (s : Sim fr g st a w) {os : List O} {vs : List V} {xs : Array Operand} {ts : Array TypeId} {f f' : Nat} (hop : o.op = .call { callee := .value (.func f), args := xs, argTypes := ts }) (hf : src f' = f) (hc : callable P f = true)
  (hok : okOs os xs.toList = true) (hv : isVs os = true) (hg : getOs st os = some vs) {p : Plan} (hp : plan (.call f') vs = some p) :
  PlanRun src fr g st a w h d ((execOp a.eval o).run P w) p := by
 obtain ⟨h1, h2⟩ := evals_spec s hv hok hg
 cases hp
 refine ⟨xs.toList.map a.eval, ?_, h1, h2⟩
 subst hf
 simp [execOp, hop, resolve, Act.eval, Deferred.ofValue, invoke, run_callFunc hc, ← Array.toList_map]
theorem k_callv (s : Sim fr g st a w) {os : List O} {vs : List V} {x : Operand} {xs : Array Operand} {ts : Array TypeId} (hop : o.op = .call { callee := .value x, args := xs, argTypes := ts })
  (hcs : ∀ f cs, vs.head? = some (.fn f cs) → f < 1000 → src f = f ∧ callable P f = true) (hok : okOs os (x :: xs.toList) = true) (hv : isVs os = true) (hg : getOs st os = some vs) {p : Plan} (hp : plan .callv vs = some p) :
  PlanRun src fr g st a w h d ((execOp a.eval o).run P w) p := by
 match os, hok with
 | q :: os, hok =>
  simp only [okOs, Bool.and_eq_true] at hok
  simp only [isVs, Bool.and_eq_true] at hv
  obtain ⟨v, ws, rfl, h1, h2⟩ := getOs_cons_some hg
  have r := getO_val s hv.1 hok.1 h1
  obtain ⟨h3, h4⟩ := evals_spec s hv.2 hok.2 h2
  simp only [plan, plan_callv] at hp
  split at hp
  ·rename_i f cs us e
   simp at e
   obtain ⟨rfl, rfl⟩ := e
   split at hp
   ·rename_i hlt
    cases hp
    obtain ⟨ys, hy, hl, hr⟩ := r.fn_inv
    obtain ⟨e1, e2⟩ := hcs f cs rfl hlt
    refine ⟨xs.toList.map a.eval ++ ys, ?_, by simp at h3 ⊢; omega, fun i c z hc hz => ?_⟩
    ·rw [e1]
     simp [execOp, hop, resolve, hy, Deferred.ofValue, invoke, run_callFunc e2, ← Array.toList_map]
    ·simp only [List.length_map] at h3
     by_cases hi : i < ws.length
     ·rw [List.getElem?_append_left hi] at hc
      rw [List.getElem?_append_left (by rw [List.length_map]; omega)] at hz
      exact h4 i c z hc hz
     ·rw [List.getElem?_append_right (by omega)] at hc
      rw [List.getElem?_append_right (by rw [List.length_map]; omega)] at hz
      simp only [List.length_map] at hz
      rw [← h3] at hz
      exact hr _ c z hc hz
   ·cases hp
  ·cases hp
end
end Go.Am
namespace Go.Am
open Go
theorem setC_spec {off sz : Nat} {v e e' : V} (h : setC off sz v e = some e') : v.ones = true ∧ v.cells.length = sz ∧ off + sz ≤ e.cells.length ∧ e'.cells.length = e.cells.length ∧
  ∀ j, e'.cells[j]? = if off ≤ j ∧ j < off + sz then v.cells[j - off]? else e.cells[j]? := by
 unfold setC at h
 split at h
 ·rename_i hc
  simp only [Bool.and_eq_true, beq_iff_eq] at hc
  obtain ⟨h1, h2⟩ := hc
  split at h
  ·rename_i cs
   split at h
   ·rename_i hl
    cases h
    refine ⟨h1, h2, hl, ?_, fun j => ?_⟩
    ·simp only [V.cells_agg, List.length_append, List.length_take, List.length_drop]; omega
    ·simp only [V.cells_agg]
     split
     ·rename_i hj
      rw [List.append_assoc, List.getElem?_append_right (by simp; omega), List.getElem?_append_left (by simp; omega)]
      simp only [List.length_take]
      congr 1
      omega
     ·rename_i hj
      by_cases hlt : j < off
      ·rw [List.append_assoc, List.getElem?_append_left (by simp; omega), List.getElem?_take, if_pos hlt]
      ·rw [List.getElem?_append_right (by simp; omega), List.getElem?_drop]
       congr 1
       simp only [List.length_append, List.length_take]
       omega
   ·cases h
  ·rename_i hne
   split at h
   ·cases h
   ·rename_i hv
    split at h
    ·rename_i ho
     subst ho
     cases h
     have he : e.cells = [e] := by cases e <;> first | rfl | (rename_i cs; exact absurd rfl (hne cs))
     have hv' : v.cells = [v] := by cases v <;> first | rfl | (rename_i cs; exact absurd rfl (hv cs))
     have hs : sz = 1 := by rw [← h2, hv']; rfl
     refine ⟨h1, h2, by rw [he]; simp [hs], by rw [he, hv']; rfl, fun j => ?_⟩
     subst hs
     cases j with
     | zero => simp
     | succ j => simp [he, hv']
    ·cases h
 ·cases h
section
variable {P : Program} {src : Nat → Nat} {fr : Fr} {g : Gh} {st : St} {a : Act} {w : World} {h : Nat} {d : D} {o : Oper}
theorem ElemAt.of_row {es : List V} {sz base : Nat} {cs : Array Value} {b : Nat} {T : TypeId} (hc : CellsOk g w es sz base cs) (hb : w.heap[b]? = some (.cells cs T (0, 0))) {i : Nat} {e : V} (he : es[i]? = some e) : ElemAt g w b (base + i * sz) e := by
 intro j c hj
 obtain ⟨v, h1, h2, h3⟩ := hc.2 i j e c he hj
 exact ⟨v, by rw [cell_of_row w b _ cs T (0, 0) hb]; exact h1, h2, h3⟩
theorem store_row {es : List V} {S base : Nat} {cur cs : Array Value} {w' : World} {i off sz : Nat} {v e e' : V} {x : Value} (hc : CellsOk g w es S base cur) (he : es[i]? = some e) (hset : setC off sz v e = some e') (hx : Img g w v x)
  (hs : Same g.I w w') (h1 : ∀ j, j < sz → cs[base + i * S + off + j]? = x.cells[j]?) (h2 : ∀ k, (k < base + i * S + off ∨ base + i * S + off + sz ≤ k) → cs[k]? = cur[k]?) : CellsOk g w' (es.set i e') S base cs := by
 obtain ⟨ho, hsz, hfit, hlen, hcell⟩ := setC_spec hset
 have heS : e.cells.length = S := hc.1 e (List.mem_of_getElem? he)
 have hi : i < es.length := by
  rcases Nat.lt_or_ge i es.length with h | h
  ·exact h
  ·rw [List.getElem?_eq_none h] at he; cases he
 have hxc := hx.cells
 refine ⟨fun u hu => ?_, fun k j u c hu hj => ?_⟩
 ·rcases List.mem_or_eq_of_mem_set hu with hu | rfl
  ·exact hc.1 u hu
  ·rw [hlen]; exact heS
 ·by_cases hk : i = k
  ·subst hk
   rw [List.getElem?_set_self hi] at hu
   cases hu
   rw [hcell] at hj
   split at hj
   ·rename_i hr
    have hlt : j - off < x.cells.size := by rw [← hxc.1, hsz]; omega
    have hy : x.cells[j - off]? = some x.cells[j - off] := by simp [hlt]
    refine ⟨x.cells[j - off], ?_, hx.ones ho _ _ hy, (hxc.2 _ _ _ hj hy).mono (.refl g) hs⟩
    have := h1 (j - off) (by omega)
    rw [hy] at this
    rw [← this]
    congr 1
    omega
   ·rename_i hr
    obtain ⟨y, h3, h4, h5⟩ := hc.2 i j e c he hj
    refine ⟨y, ?_, h4, h5.mono (.refl g) hs⟩
    rw [h2 _ (by omega)]
    exact h3
  ·rw [List.getElem?_set_ne hk] at hu
   obtain ⟨y, h3, h4, h5⟩ := hc.2 k j u c hu hj
   refine ⟨y, ?_, h4, h5.mono (.refl g) hs⟩
   rw [h2 _ ?_]
   ·exact h3
   ·have huS : u.cells.length = S := hc.1 u (List.mem_of_getElem? hu)
    have hjS : j < S := by
     rcases Nat.lt_or_ge j S with h | h
     ·exact h
     ·rw [List.getElem?_eq_none (by omega)] at hj; cases hj
    rcases Nat.lt_or_ge k i with h | h
    ·left
     have : k * S + S ≤ i * S := by rw [← Nat.succ_mul]; exact Nat.mul_le_mul_right _ h
     omega
    ·right
     have : i * S + S ≤ k * S := by rw [← Nat.succ_mul]; exact Nat.mul_le_mul_right _ (by omega)
     omega
def okFa (P : Program) (T : TypeId) (i off : Nat) : Bool :=
 match P.underlying T with
 | some (.struct fs) => match fs[i]? with
  | some f => decide (f.offset = off) && (match szOf P f.type with | some n => decide (n ≠ 0) | none => false)
  | none => false
 | _ => false
theorem run_fieldAt {T : TypeId} {i off : Nat} (hok : okFa P T i off = true) (ad : Addr) : (Instr.fieldAt T (.pointer (some ad)) i).run P w = .ok (.pointer (some (ad.add off))) w := by
 unfold okFa at hok
 split at hok
 ·rename_i fs hu
  split at hok
  ·rename_i f hf
   simp only [Bool.and_eq_true, decide_eq_true_eq] at hok
   obtain ⟨h1, h2⟩ := hok
   split at h2
   ·rename_i n hn
    simp only [decide_eq_true_eq] at h2
    simp [Instr.fieldAt, run_underlying hu, hf, Instr.sureAddr, fieldPlace, run_sizeOf' hn, h2, h1]
   ·cases h2
  ·cases hok
 ·cases hok
theorem ImgA.step {n : Nat} : (∀ {h i o : Nat} {x : Value}, ImgA fr.BS g a w (.ptr h i o) x → ∃ ad : Addr, x = .pointer (some ad) ∧ ImgA fr.BS g a w (.ptr h i (o + n)) (.pointer (some (ad.add n)))) ∧
  (∀ {e : V} {o : Nat} {x : Value}, ImgA fr.BS g a w (.imm e o) x → ∃ ad : Addr, x = .pointer (some ad) ∧ ImgA fr.BS g a w (.imm e (o + n)) (.pointer (some (ad.add n)))) ∧
  (∀ {t o : Nat} {x : Value}, ImgA fr.BS g a w (.loc t o) x → ∃ ad : Addr, x = .pointer (some ad) ∧ ImgA fr.BS g a w (.loc t (o + n)) (.pointer (some (ad.add n)))) := by
 refine ⟨fun hx => ?_, fun hx => ?_, fun hx => ?_⟩
 ·obtain ⟨loc, h1, rfl⟩ := Img.ptr_inv hx
  refine ⟨_, rfl, ?_⟩
  rw [add_at, Nat.add_assoc]
  exact .ptr _ _ _ loc h1
 ·obtain ⟨b, o', rfl, h1, h2⟩ := hx
  exact ⟨_, rfl, b, o', by rw [add_at, Nat.add_assoc], h1, h2⟩
 ·obtain ⟨h0, b, h1, rfl⟩ := hx
  exact ⟨_, rfl, h0, b, h1, by rw [add_at]⟩
theorem k_fa (s : Sim fr g st a w) {os : List O} {vs : List V} {x : Operand} {T : TypeId} {i off : Nat} (hop : o.op = .fieldAddr T x i) (hT : okFa P T i off = true) (hok : okOs os [x] = true) (hd : d.isA = true) (hg : getOs st os = some vs) {p : Plan} (hp : plan (.fa off) vs = some p) :
  PlanRun src fr g st a w h d ((execOp a.eval o).run P w) p := by
 obtain ⟨q, rfl, h1⟩ := okOs_one hok
 obtain ⟨v, rfl, h2⟩ := getOs_one hg
 have h3 := getO_img s h1 h2
 have fin : ∀ {u : V}, (∃ ad : Addr, a.eval x = .pointer (some ad) ∧ ImgA fr.BS g a w u (.pointer (some (ad.add off)))) → PlanRun src fr g st a w h d ((execOp a.eval o).run P w) (.ret u) := by
  rintro u ⟨ad, e1, e2⟩
  refine PR_ret (x := .pointer (some (ad.add off))) (by simp [execOp, hop, e1, run_fieldAt hT]) ?_
  cases d with
  | a _ => exact e2
  | _ => simp [D.isA] at hd
 simp only [plan, plan_fa] at hp
 split at hp
 ·rename_i e; simp at e; subst e; cases hp; exact fin (ImgA.step.1 h3)
 ·rename_i e; simp at e; subst e; cases hp; exact fin (ImgA.step.2.1 h3)
 ·rename_i e; simp at e; subst e; cases hp; exact fin (ImgA.step.2.2 h3)
 ·cases hp
def okIaa (P : Program) (T : TypeId) (n sz : Nat) : Bool :=
 match P.underlying T with
 | some (.array len e) => decide (len = n) && decide (szOf P e = some sz)
 | _ => false
theorem run_indexAt_array {T : TypeId} {n sz : Nat} (hok : okIaa P T n sz = true) (ad : Addr) (k : IntKind) (j : Int) (h0 : 0 ≤ j) (h1 : j < n) :
  (Instr.indexAt T (.pointer (some ad)) (.int k j)).run P w = .ok (.pointer (some (ad.add (j.toNat * sz)))) w := by
 unfold okIaa at hok
 split at hok
 ·rename_i len e hu
  simp only [Bool.and_eq_true, decide_eq_true_eq] at hok
  obtain ⟨rfl, h2⟩ := hok
  simp [Instr.indexAt, asIntOf, run_underlying hu, Instr.sureAddr, h0, h1, run_sizeOf' h2]
 ·cases hok
theorem k_iaa (s : Sim fr g st a w) {os : List O} {vs : List V} {x y : Operand} {T : TypeId} {n sz : Nat} (hop : o.op = .indexAddr T x y) (hT : okIaa P T n sz = true) (hok : okOs os [x, y] = true) (hv : snd os = true) (hd : d.isA = true) (hg : getOs st os = some vs) {p : Plan} (hp : plan (.iaa n sz) vs = some p) :
  PlanRun src fr g st a w h d ((execOp a.eval o).run P w) p := by
 obtain ⟨q, q2, rfl, h1, h1'⟩ := okOs_two hok
 obtain ⟨v, u, rfl, h2, h2'⟩ := getOs_two hg
 have h3 := getO_img s h1 h2
 have h4 := getO_val s hv h1' h2'
 have fin : ∀ {z : V} {k : IntKind} {j : Int}, u = .int k j → 0 ≤ j ∧ j < n → (∃ ad : Addr, a.eval x = .pointer (some ad) ∧ ImgA fr.BS g a w z (.pointer (some (ad.add (j.toNat * sz))))) → PlanRun src fr g st a w h d ((execOp a.eval o).run P w) (.ret z) := by
  rintro z k j rfl hj ⟨ad, e1, e2⟩
  have e3 := h4.int_inv
  refine PR_ret (x := .pointer (some (ad.add (j.toNat * sz)))) (by simp [execOp, hop, e1, e3, run_indexAt_array hT ad k j hj.1 hj.2]) ?_
  cases d with
  | a _ => exact e2
  | _ => simp [D.isA] at hd
 simp only [plan, plan_iaa] at hp
 split at hp
 ·rename_i e; simp at e; obtain ⟨rfl, rfl⟩ := e
  split at hp
  ·rename_i hj; cases hp; exact fin rfl hj (ImgA.step.1 h3)
  ·cases hp
 ·rename_i e; simp at e; obtain ⟨rfl, rfl⟩ := e
  split at hp
  ·rename_i hj; cases hp; exact fin rfl hj (ImgA.step.2.1 h3)
  ·cases hp
 ·rename_i e; simp at e; obtain ⟨rfl, rfl⟩ := e
  split at hp
  ·rename_i hj; cases hp; exact fin rfl hj (ImgA.step.2.2 h3)
  ·cases hp
 ·cases hp
def okSlc (P : Program) (T : TypeId) (sz : Nat) : Bool :=
 match P.underlying T with
 | some (.slice e) => decide (szOf P e = some sz)
 | _ => false
theorem okSlc_spec {T : TypeId} {sz : Nat} (hok : okSlc P T sz = true) : ∃ e, P.underlying T = some (.slice e) ∧ szOf P e = some sz := by
 unfold okSlc at hok
 split at hok
 ·rename_i e hu
  exact ⟨e, hu, by simpa using hok⟩
 ·cases hok
theorem run_indexAt_slice {T : TypeId} {sz : Nat} (hok : okSlc P T sz = true) (ad : Addr) (len cap : Nat) (k : IntKind) (j : Int) (h0 : 0 ≤ j) (h1 : j < len) :
  (Instr.indexAt T (.slice (some ad) len cap) (.int k j)).run P w = .ok (.pointer (some (ad.add (j.toNat * sz)))) w := by
 obtain ⟨e, hu, h2⟩ := okSlc_spec hok
 simp [Instr.indexAt, asIntOf, run_underlying hu, h0, h1, run_sizeOf' h2]
theorem k_ia (s : Sim fr g st a w) {os : List O} {vs : List V} {x y : Operand} {T : TypeId} {sz : Nat} (hop : o.op = .indexAddr T x y) (hT : okSlc P T sz = true) (hok : okOs os [x, y] = true) (hv : isVs os = true) (hd : d.isA = true) (hg : getOs st os = some vs) {p : Plan} (hp : plan (.ia sz) vs = some p) :
  PlanRun src fr g st a w h d ((execOp a.eval o).run P w) p := by
 obtain ⟨q, q2, rfl, h1, h1'⟩ := okOs_two hok
 obtain ⟨v, u, rfl, h2, h2'⟩ := getOs_two hg
 obtain ⟨v1, v2⟩ := isVs_two hv
 have h3 := getO_val s v1 h1 h2
 have h4 := getO_val s v2 h1' h2'
 simp only [plan, plan_ia] at hp
 split at hp
 ·rename_i e; simp at e; obtain ⟨rfl, rfl⟩ := e
  split at hp
  ·rename_i sv hh oo l k j hj
   cases hp
   have e3 := h4.int_inv
   rcases h3.row_inv with ⟨loc, cap, hφ, rfl, hl, hc, e1⟩ | ⟨rfl, _⟩
   ·refine PR_ret (x := .pointer (some ⟨loc.b, loc.base + (oo + j.toNat) * loc.sz + 0, none⟩)) ?_ ?_
    ·have e4 := run_indexAt_slice (w := w) hT ⟨loc.b, loc.base + oo * loc.sz, none⟩ l cap k j hj.1 hj.2.1
     rw [add_at] at e4
     have e5 : loc.base + (oo + j.toNat) * loc.sz + 0 = loc.base + oo * loc.sz + j.toNat * loc.sz := by rw [Nat.add_mul]; omega
     rw [e5, ← hj.2.2] at *
     simp [execOp, hop, e1, e3, e4]
    ·cases d with
     | a _ => exact .ptr _ _ _ loc hφ
     | _ => simp [D.isA] at hd
   ·have := hj.2.1; have := hj.1; omega
  ·cases hp
 ·rename_i e; simp at e; obtain ⟨rfl, rfl⟩ := e
  split at hp
  ·rename_i pp sv xs k j hj
   simp only [nth_eq, Option.map_eq_some_iff] at hp
   obtain ⟨el, hel, rfl⟩ := hp
   have e3 := h4.int_inv
   have hlt : j.toNat < xs.length := by
    rcases Nat.lt_or_ge j.toNat xs.length with h | h
    ·exact h
    ·rw [List.getElem?_eq_none h] at hel; cases hel
   rcases h3.lst_inv with ⟨rfl, _⟩ | ⟨b, oo, cap, vs, e1, hI, hc, hs, hv, hr, _⟩
   ·simp at hlt
   ·refine PR_ret (x := .pointer (some ⟨b, oo + j.toNat * sz + 0, none⟩)) ?_ ?_
    ·have e4 := run_indexAt_slice (w := w) hT ⟨b, oo, none⟩ xs.length cap k j hj.1 (by omega)
     rw [add_at] at e4
     simp [execOp, hop, e1, e3, e4]
    ·cases d with
     | a _ =>
      refine ⟨b, oo + j.toNat * sz, rfl, hI, fun m c hm => ?_⟩
      obtain ⟨p1, p2⟩ := hv j.toNat m el c hel hm
      rw [hj.2] at p1
      exact ⟨_, p1, p2, hr j.toNat m el c hel hm⟩
     | _ => simp [D.isA] at hd
  ·cases hp
 ·cases hp
theorem k_ld (s : Sim fr g st a w) {os : List O} {vs : List V} {x : Operand} {T : TypeId} {agg : Bool} {sz : Nat} (hop : o.op = .load T x) (hT : (decide (aggOf P T = some agg) && (!agg || decide (szOf P T = some sz))) = true) (hok : okOs os [x] = true) (hg : getOs st os = some vs) {p : Plan} (hp : plan (.ld agg sz) vs = some p) :
  PlanRun src fr g st a w h d ((execOp a.eval o).run P w) p := by
 obtain ⟨q, rfl, h1⟩ := okOs_one hok
 obtain ⟨v, rfl, h2⟩ := getOs_one hg
 have h3 := getO_img s h1 h2
 simp only [Bool.and_eq_true, decide_eq_true_eq, Bool.or_eq_true, Bool.not_eq_true'] at hT
 have hs : agg = true → szOf P T = some sz := fun e => by
  rcases hT.2 with h | h
  ·rw [e] at h; cases h
  ·exact h
 have run : ∀ {b off : Nat} {y : Value}, a.eval x = .pointer (some ⟨b, off, none⟩) → (loadVar T ⟨b, off, none⟩).run P w = .ok y w → (execOp a.eval o).run P w = .ok (.value y) w := by
  intro b off y e1 e2
  simp [execOp, hop, e1, Instr.loadAt, Instr.sureAddr, e2]
 simp only [plan, plan_ld] at hp
 split at hp
 ·rename_i el off e
  simp at e
  subst e
  simp only [Option.map_eq_some_iff] at hp
  obtain ⟨u, hu, rfl⟩ := hp
  obtain ⟨b, oo, e1, hI, he⟩ := h3
  obtain ⟨y, e2, e3⟩ := load_elem (P := P) he hT.1 hs hu
  exact PR_ret (run e1 e2) (.of_img e3)
 ·rename_i hh i off e
  simp at e
  subst e
  cases hp
  intro B u hB hu
  obtain ⟨loc, hφ, e1⟩ := Img.ptr_inv h3
  cases B with
  | map _ => cases hu
  | row S es =>
   simp only [nth_eq] at hu
   split at hu
   ·rename_i el hel
    obtain ⟨loc', e2, hBk, _, _⟩ := s.mem.blk hh _ hB
    rw [hφ] at e2; cases e2
    obtain ⟨hS, _, cs, T0, hb, _, hc⟩ := hBk
    rw [← hS] at hc
    obtain ⟨y, e3, e4⟩ := load_elem (P := P) (ElemAt.of_row hc hb hel) hT.1 hs hu
    exact ⟨y, run e1 e3, e4⟩
   ·cases hu
 ·rename_i t off e
  simp at e
  subst e
  cases hp
  intro el u hel hu
  obtain ⟨_, b, ht, e1⟩ := h3
  obtain ⟨_, b', ht', hbox⟩ := s.bx t el hel
  rw [ht] at ht'; simp at ht'; subst ht'
  obtain ⟨cs, T0, hb, _, hc⟩ := hbox.cells
  have hE : ElemAt g w b 0 el := fun j c hj => by
   obtain ⟨y, p1, p2, p3⟩ := hc j c hj
   exact ⟨y, by rw [cell_of_row w b _ cs T0 (0, 0) hb, Nat.zero_add]; exact p1, p2, p3⟩
  obtain ⟨y, e3, e4⟩ := load_elem (P := P) hE hT.1 hs hu
  rw [Nat.zero_add] at e3
  exact ⟨y, run e1 e3, e4⟩
 ·cases hp
theorem k_frz (s : Sim fr g st a w) {os : List O} {vs : List V} {x : Operand} {T : TypeId} {sz : Nat} (hop : o.op = .load T x) (hT : aggOf P T = some true ∧ szOf P T = some sz) (hok : okOs os [x] = true) (hg : getOs st os = some vs)
  {p : Plan} (hp : plan (.frz sz) vs = some p) : PlanRun src fr g st a w h d ((execOp a.eval o).run P w) p := by
 obtain ⟨q, rfl, h1⟩ := okOs_one hok
 obtain ⟨v, rfl, h2⟩ := getOs_one hg
 have h3 := getO_img s h1 h2
 simp only [plan, plan_frz] at hp
 split at hp
 ·rename_i t e
  simp at e
  subst e
  cases hp
  intro cl hel hl
  obtain ⟨_, b, ht, e1⟩ := h3
  obtain ⟨_, b', ht', hbox⟩ := s.bx t _ hel
  rw [ht] at ht'; simp at ht'; subst ht'
  obtain ⟨cs, T0, hb, _, hc⟩ := hbox.cells
  have hE : ElemAt g w b 0 (.agg cl) := fun j c hj => by
   obtain ⟨y, p1, p2, p3⟩ := hc j c hj
   exact ⟨y, by rw [cell_of_row w b _ cs T0 (0, 0) hb, Nat.zero_add]; exact p1, p2, p3⟩
  have hu : getC true 0 sz (.agg cl) = some (.agg cl) := by
   simp [getC, V.cells_agg, hl]
   rw [← hl]; exact List.take_length
  obtain ⟨y, e3, e4⟩ := load_elem (P := P) hE hT.1 (fun _ => hT.2) hu
  rw [Nat.zero_add] at e3
  exact ⟨y, by simp [execOp, hop, e1, Instr.loadAt, Instr.sureAddr, e3], e4⟩
 ·cases hp
theorem k_st (s : Sim fr g st a w) {os : List O} {vs : List V} {x y : Operand} {T : TypeId} {sz : Nat} (hop : o.op = .store T x y) (hT : szOf P T = some sz) (hok : okOs os [x, y] = true) (hv : snd os = true) (hg : getOs st os = some vs) {p : Plan} (hp : plan (.st sz) vs = some p) :
  PlanRun src fr g st a w h d ((execOp a.eval o).run P w) p := by
 obtain ⟨q, q2, rfl, h1, h1'⟩ := okOs_two hok
 obtain ⟨v, u, rfl, h2, h2'⟩ := getOs_two hg
 have h3 := getO_img s h1 h2
 have h4 := getO_val s hv h1' h2'
 have run : ∀ {b off : Nat} {w' : World}, a.eval x = .pointer (some ⟨b, off, none⟩) → (storeVar T ⟨b, off, none⟩ (a.eval y)).run P w = .ok () w' → (execOp a.eval o).run P w = .ok .skip w' := by
  intro b off w' e1 e2
  simp [execOp, hop, e1, Instr.storeAt, Instr.sureAddr, e2]
 simp only [plan, plan_st] at hp
 split at hp
 ·rename_i hh i off z e
  simp at e
  obtain ⟨rfl, rfl⟩ := e
  cases hp
  refine ⟨rfl, fun B B' hB hB' => ?_⟩
  obtain ⟨loc, hφ, e1⟩ := Img.ptr_inv h3
  cases B with
  | map _ => cases hB'
  | row S es =>
   simp only [nth_eq] at hB'
   split at hB'
   ·rename_i el hel
    simp only [Option.map_eq_some_iff] at hB'
    obtain ⟨e', hset, rfl⟩ := hB'
    obtain ⟨loc', e2, hBk, hnI, _⟩ := s.mem.blk hh _ hB
    rw [hφ] at e2; cases e2
    obtain ⟨hS, hfit, cs, T0, hb, hcs, hc⟩ := hBk
    obtain ⟨ho, hsz, hfit2, _, _⟩ := setC_spec hset
    have hi : i < es.length := by
     rcases Nat.lt_or_ge i es.length with h | h
     ·exact h
     ·rw [List.getElem?_eq_none h] at hel; cases hel
    have heS : el.cells.length = S := hc.1 el (List.mem_of_getElem? hel)
    have hin : i * S + S ≤ es.length * S := by rw [← Nat.succ_mul]; exact Nat.mul_le_mul_right _ hi
    obtain ⟨w', cs', e3, hu, hcs', h5, h6⟩ := store_cells (P := P) hb (o := loc.base + i * S + off) h4 ho hsz hT (by omega)
    have hs : Same g.I w w' := fun b hI => hu.other b (fun e => hnI (e ▸ hI))
    refine ⟨w', loc, _, run (by rw [e1, hS]) e3, hφ, hu, hS, ?_, cs', T0, hu.here, by rw [hcs', hcs], store_row hc hel hset h4 hs h5 h6⟩
    rw [List.length_set]; exact hfit
   ·cases hB'
 ·rename_i t off z e
  simp at e
  obtain ⟨rfl, rfl⟩ := e
  cases hp
  intro el e' hel hset
  obtain ⟨_, b, ht, e1⟩ := h3
  obtain ⟨_, b', ht', hbox⟩ := s.bx t el hel
  rw [ht] at ht'; simp at ht'; subst ht'
  obtain ⟨cs, T0, hb, hcs, hc⟩ := hbox.cells
  obtain ⟨ho, hsz, hfit2, hlen, hcell⟩ := setC_spec hset
  obtain ⟨w', cs', e3, hu, hcs', h5, h6⟩ := store_cells (P := P) hb (o := off) h4 ho hsz hT (by omega)
  have hxc := h4.cells
  refine ⟨w', b, cs', T0, run e1 e3, ht, hu, by omega, fun j c hj => ?_⟩
  rw [hcell] at hj
  split at hj
  ·rename_i hr
   have hlt : j - off < (a.eval y).cells.size := by rw [← hxc.1, hsz]; omega
   have hy : (a.eval y).cells[j - off]? = some (a.eval y).cells[j - off] := by simp [hlt]
   refine ⟨(a.eval y).cells[j - off], ?_, h4.ones ho _ _ hy, hxc.2 _ _ _ hj hy⟩
   have := h5 (j - off) (by omega)
   rw [hy] at this
   rw [← this]
   congr 1
   omega
  ·rename_i hr
   obtain ⟨y', p1, p2, p3⟩ := hc j c hj
   exact ⟨y', by rw [h6 _ (by omega)]; exact p1, p2, p3⟩
 ·cases hp
theorem CellsAt.of_img {v : V} {x : Value} (hx : Img g w v x) (h1 : v.ones = true) : CellsAt g w v x.cells := by
 have hc := hx.cells
 refine ⟨hc.1.symm, fun j c hj => ?_⟩
 have hlt : j < x.cells.size := by
  rw [← hc.1]
  rcases Nat.lt_or_ge j v.cells.length with h | h
  ·exact h
  ·rw [List.getElem?_eq_none h] at hj; cases hj
 have hy : x.cells[j]? = some x.cells[j] := by simp [hlt]
 exact ⟨_, hy, hx.ones h1 _ _ hy, hc.2 _ _ _ hj hy⟩
theorem run_newVar (T : TypeId) (x : Value) : (newVar T x).run P w = .ok ⟨w.heap.size, 0, none⟩ (w.alloc (.cells x.cells T)) := rfl
theorem pr_box {T : TypeId} {v : V} {x : Value} (hx : Img g w v x) (hr : (execOp a.eval o).run P w = .ok (.value (.pointer (some ⟨w.heap.size, 0, none⟩))) (w.alloc (.cells x.cells T))) {p : Plan} (hp : plan .box [v] = some p) :
  PlanRun src fr g st a w h d ((execOp a.eval o).run P w) p := by
 simp only [plan, plan_box] at hp
 split at hp
 ·rename_i h1
  cases hp
  exact ⟨_, x.cells, T, hr, .alloc w _, .of_img hx h1⟩
 ·cases hp
theorem pr_hbox {T : TypeId} {sz : Nat} {v : V} {x : Value} (hf : g.φ h = none) (s : Sim fr g st a w) (hx : Img g w v x) (hr : (execOp a.eval o).run P w = .ok (.value (.pointer (some ⟨w.heap.size, 0, none⟩))) (w.alloc (.cells x.cells T))) {p : Plan} (hp : plan (.hbox sz) [v] = some p) :
  PlanRun src fr g st a w h d ((execOp a.eval o).run P w) p := by
 simp only [plan, plan_hbox] at hp
 split at hp
 ·rename_i h1
  simp only [Bool.and_eq_true, beq_iff_eq] at h1
  cases hp
  obtain ⟨h2, h3⟩ := CellsAt.of_img hx h1.1
  have hle := Gh.le_add (l := ⟨w.heap.size, 0, sz, sz⟩) hf
  have hs : Same g.I w (w.alloc (.cells x.cells T)) := fun b hI => heap_alloc_old w _ (s.mem.lt b hI)
  refine ⟨_, _, ⟨w.heap.size, 0, sz, sz⟩, _, hr, .alloc w _, rfl, ⟨rfl, by simp, x.cells, T, heap_alloc_new w _, by simp only; rw [h2]; exact h1.2, fun e he => by simp at he; subst he; exact h1.2, fun i j e c hi hj => ?_⟩, ?_⟩
  ·cases i with
   | zero =>
    simp at hi; subst hi
    obtain ⟨y, p1, p2, p3⟩ := h3 j c hj
    exact ⟨y, by simpa using p1, p2, p3.mono hle hs⟩
   | succ i => simp at hi
  ·have : Img (g.add h ⟨w.heap.size, 0, sz, sz⟩) (w.alloc (.cells x.cells T)) (.ptr h 0 0) (.pointer (some ⟨w.heap.size, 0 + 0 * sz + 0, none⟩)) := .ptr h 0 0 ⟨w.heap.size, 0, sz, sz⟩ (by simp [Gh.add])
   simpa using this
 ·cases hp
theorem k_box (s : Sim fr g st a w) (hf : g.φ h = none) {os : List O} {vs : List V} {x : Operand} {T : TypeId} (hop : o.op = .box T x) (hok : okOs os [x] = true) (hv : isVs os = true) (hg : getOs st os = some vs) {k : K} (hk : k = .box ∨ ∃ sz, k = .hbox sz) {p : Plan} (hp : plan k vs = some p) :
  PlanRun src fr g st a w h d ((execOp a.eval o).run P w) p := by
 obtain ⟨q, rfl, h1⟩ := okOs_one hok
 obtain ⟨v, rfl, h2⟩ := getOs_one hg
 have h3 := getO_val s (isVs_one hv) h1 h2
 have hr : (execOp a.eval o).run P w = .ok (.value (.pointer (some ⟨w.heap.size, 0, none⟩))) (w.alloc (.cells (a.eval x).cells T)) := by
  simp [execOp, hop, Instr.box, run_newVar]
 rcases hk with rfl | ⟨sz, rfl⟩
 ·exact pr_box h3 hr hp
 ·exact pr_hbox hf s h3 hr hp
def okZero (P : Program) (T : TypeId) (z : V) : Bool :=
 match (P.info? T).bind (·.zero) with
 | some x => okConst z x
 | none => false
theorem okZero_spec {T : TypeId} {z : V} (hz : okZero P T z = true) : ∃ x, okConst z x = true ∧ ∀ w : World, (zeroValue T).run P w = .ok x w := by
 unfold okZero at hz
 split at hz
 ·rename_i x hx
  refine ⟨x, hz, fun w => ?_⟩
  cases hq : P.info? T with
  | none => rw [hq] at hx; cases hx
  | some i =>
   rw [hq] at hx
   simp at hx
   simp [zeroValue, typeInfo, hq, hx]
 ·cases hz
theorem k_alloc (s : Sim fr g st a w) (hf : g.φ h = none) {os : List O} {vs : List V} {T : TypeId} {z : V} (hop : o.op = .alloc T) (hos : os = [.k z]) (hz : okZero P T z = true) (hg : getOs st os = some vs) {k : K} (hk : k = .box ∨ ∃ sz, k = .hbox sz) {p : Plan} (hp : plan k vs = some p) :
  PlanRun src fr g st a w h d ((execOp a.eval o).run P w) p := by
 subst hos
 obtain ⟨v, rfl, h2⟩ := getOs_one hg
 cases h2
 obtain ⟨x, hx, hrun⟩ := okZero_spec hz
 have hr : (execOp a.eval o).run P w = .ok (.value (.pointer (some ⟨w.heap.size, 0, none⟩))) (w.alloc (.cells x.cells T)) := by
  simp [execOp, hop, Instr.alloc, hrun, run_newVar]
 have h3 : Img g w z x := .pure (okConst_img hx _ _)
 rcases hk with rfl | ⟨sz, rfl⟩
 ·exact pr_box h3 hr hp
 ·exact pr_hbox hf s h3 hr hp
end
end Go.Am
namespace Go.Am
open Go
section
variable {P : Program} {src : Nat → Nat} {fr : Fr} {g : Gh} {st : St} {a : Act} {w : World} {h : Nat} {d : D} {o : Oper}
theorem two_vals (s : Sim fr g st a w) {os : List O} {vs : List V} {x y : Operand} (hok : okOs os [x, y] = true) (hv : isVs os = true) (hg : getOs st os = some vs) : ∃ v u, vs = [v, u] ∧ Img g w v (a.eval x) ∧ Img g w u (a.eval y) := by
 obtain ⟨q, q2, rfl, h1, h1'⟩ := okOs_two hok
 obtain ⟨v, u, rfl, h2, h2'⟩ := getOs_two hg
 obtain ⟨v1, v2⟩ := isVs_two hv
 exact ⟨v, u, rfl, getO_val s v1 h1 h2, getO_val s v2 h1' h2'⟩
theorem one_val (s : Sim fr g st a w) {os : List O} {vs : List V} {x : Operand} (hok : okOs os [x] = true) (hv : isVs os = true) (hg : getOs st os = some vs) : ∃ v, vs = [v] ∧ Img g w v (a.eval x) := by
 obtain ⟨q, rfl, h1⟩ := okOs_one hok
 obtain ⟨v, rfl, h2⟩ := getOs_one hg
 exact ⟨v, rfl, getO_val s (isVs_one hv) h1 h2⟩
theorem run_binOp_int {op : BinOp} {T : TypeId} {k : IntKind} {b c : Int} {v : V} (hv : intOp op k b c = some v) : ∃ x, (binOp op T (.int k b) (.int k c)).run P w = .ok x w ∧ Img g w v x := by
 unfold intOp at hv
 cases op with
 | add => simp only [wrapF_eq] at hv; cases hv; exact ⟨.int k (k.wrap (b + c)), by simp [binOp, Op.intArith], .pure (.int _ _)⟩
 | sub => simp only [wrapF_eq] at hv; cases hv; exact ⟨.int k (k.wrap (b - c)), by simp [binOp, Op.intArith], .pure (.int _ _)⟩
 | mul => simp only [wrapF_eq] at hv; cases hv; exact ⟨.int k (k.wrap (b * c)), by simp [binOp, Op.intArith], .pure (.int _ _)⟩
 | quo =>
  simp only [wrapF_eq] at hv
  by_cases hne : c = 0
  ·rw [if_pos hne] at hv; cases hv
  ·rw [if_neg hne] at hv; cases hv; exact ⟨.int k (k.wrap (b.tdiv c)), by simp [binOp, Op.intDiv, hne], .pure (.int _ _)⟩
 | rem =>
  by_cases hne : c = 0
  ·simp [hne] at hv
  ·simp [hne] at hv; subst hv; exact ⟨.int k (b.tmod c), by simp [binOp, Op.intDiv, hne], .pure (.int _ _)⟩
 | and => cases hv; exact ⟨.int k (k.wrap ((BitVec.ofInt k.bits b &&& BitVec.ofInt k.bits c).toNat)), by simp [binOp, Op.intBits], .pure (.int _ _)⟩
 | eql => cases hv; exact ⟨.bool (b == c), by simp [binOp, Op.intCmp], .pure (.bool _)⟩
 | neq => cases hv; exact ⟨.bool (b != c), by simp [binOp, Op.intCmp], .pure (.bool _)⟩
 | lss => cases hv; exact ⟨.bool (decide (b < c)), by simp [binOp, Op.intCmp], .pure (.bool _)⟩
 | leq => cases hv; exact ⟨.bool (decide (b ≤ c)), by simp [binOp, Op.intCmp], .pure (.bool _)⟩
 | gtr => cases hv; exact ⟨.bool (decide (c < b)), by simp [binOp, Op.intCmp], .pure (.bool _)⟩
 | geq => cases hv; exact ⟨.bool (decide (c ≤ b)), by simp [binOp, Op.intCmp], .pure (.bool _)⟩
 | _ => cases hv
theorem k_bin (s : Sim fr g st a w) {os : List O} {vs : List V} {x y : Operand} {op : BinOp} {T T2 : TypeId} (hop : o.op = .binOp op T x y T2) (hok : okOs os [x, y] = true) (hv : isVs os = true) (hg : getOs st os = some vs) {p : Plan} (hp : plan (.bin op) vs = some p) :
  PlanRun src fr g st a w h d ((execOp a.eval o).run P w) p := by
 obtain ⟨v, u, rfl, r1, r2⟩ := two_vals s hok hv hg
 simp only [plan, plan_bin] at hp
 split at hp
 ·rename_i k b k' c e
  simp at e
  obtain ⟨rfl, rfl⟩ := e
  have e1 := r1.int_inv
  have e2 := r2.int_inv
  have run : ∀ {z : Value}, (binOp op T (.int k b) (.int k' c)).run P w = .ok z w → (execOp a.eval o).run P w = .ok (.value z) w := by
   intro z hz
   simp [execOp, hop, e1, e2, eqGuard_at_int, hz]
  unfold binPlan at hp
  split at hp
  ·simp only [Option.map_eq_some_iff] at hp
   obtain ⟨r, hr, rfl⟩ := hp
   unfold shrOp at hr
   split at hr
   ·cases hr
   ·rename_i hneg
    cases hr
    exact PR_ret (x := .int k (b.fdiv (2 ^ (min c.toNat k.bits)))) (run (by simp [binOp, Op.shift, hneg])) (.of_img (.pure (.int _ _)))
  ·split at hp
   ·rename_i hk
    subst hk
    simp only [Option.map_eq_some_iff] at hp
    obtain ⟨r, hr, rfl⟩ := hp
    obtain ⟨z, h1, h2⟩ := run_binOp_int (P := P) (g := g) (w := w) (T := T) hr
    exact PR_ret (run h1) (.of_img h2)
   ·cases hp
 ·cases hp
theorem k_bq (s : Sim fr g st a w) {os : List O} {vs : List V} {x y : Operand} {op : BinOp} {T T2 : TypeId} {ne : Bool} (hop : o.op = .binOp op T x y T2) (hT : P.underlying T = some .bool) (hne : op = if ne then .neq else .eql) (hok : okOs os [x, y] = true) (hv : isVs os = true) (hg : getOs st os = some vs) {p : Plan} (hp : plan (.bq ne) vs = some p) :
  PlanRun src fr g st a w h d ((execOp a.eval o).run P w) p := by
 obtain ⟨v, u, rfl, r1, r2⟩ := two_vals s hok hv hg
 simp only [plan, plan_bq] at hp
 split at hp
 ·rename_i b c e
  simp at e
  obtain ⟨rfl, rfl⟩ := e
  cases hp
  have e1 := r1.bool_inv
  have e2 := r2.bool_inv
  have he : (Op.equal T (.bool b) (.bool c)).run P w = .ok (b == c) w := run_equalIn_bool w _ T b c hT
  refine PR_ret (x := .bool (if ne then b != c else b == c)) ?_ (.of_img (.pure (.bool _)))
  subst hne
  cases ne <;> simp [execOp, hop, e1, e2, eqGuard_at_bool, binOp, he, bne]
 ·cases hp
theorem bytes_eq (b c : ByteArray) : (b.toList == c.toList) = (b.data.toList == c.data.toList) := by
 rw [ByteArray.toList_eq, ByteArray.toList_eq]
theorem k_sq (s : Sim fr g st a w) {os : List O} {vs : List V} {x y : Operand} {op : BinOp} {T T2 : TypeId} {ne : Bool} (hop : o.op = .binOp op T x y T2) (hne : op = if ne then .neq else .eql) (hok : okOs os [x, y] = true) (hv : isVs os = true) (hg : getOs st os = some vs) {p : Plan} (hp : plan (.sq ne) vs = some p) :
  PlanRun src fr g st a w h d ((execOp a.eval o).run P w) p := by
 obtain ⟨v, u, rfl, r1, r2⟩ := two_vals s hok hv hg
 simp only [plan, plan_sq] at hp
 split at hp
 ·rename_i b c e
  simp at e
  obtain ⟨rfl, rfl⟩ := e
  cases hp
  obtain ⟨b', e1, rfl⟩ := r1.str_inv
  obtain ⟨c', e2, rfl⟩ := r2.str_inv
  refine PR_ret (x := .bool (if ne then b'.data.toList != c'.data.toList else b'.data.toList == c'.data.toList)) ?_ (.of_img (.pure (.bool _)))
  subst hne
  cases ne <;> simp [execOp, hop, e1, e2, eqGuard_at_string, binOp, Op.stringOp, ByteArray.toList_eq, bne]
 ·cases hp
theorem k_sadd (s : Sim fr g st a w) {os : List O} {vs : List V} {x y : Operand} {T T2 : TypeId} (hop : o.op = .binOp .add T x y T2) (hok : okOs os [x, y] = true) (hv : isVs os = true) (hg : getOs st os = some vs) {p : Plan} (hp : plan .sadd vs = some p) :
  PlanRun src fr g st a w h d ((execOp a.eval o).run P w) p := by
 obtain ⟨v, u, rfl, r1, r2⟩ := two_vals s hok hv hg
 simp only [plan, plan_sadd] at hp
 split at hp
 ·rename_i b c e
  simp at e
  obtain ⟨rfl, rfl⟩ := e
  split at hp
  ·rename_i hl
   cases hp
   obtain ⟨b', e1, rfl⟩ := r1.str_inv
   obtain ⟨c', e2, rfl⟩ := r2.str_inv
   have hs : ¬ (((b'.size + c'.size : Nat) : Int) > IntKind.i64.max) := by
    have h1 : b'.size = b'.data.toList.length := (Array.length_toList (xs := b'.data)).symm
    have h2 : c'.size = c'.data.toList.length := (Array.length_toList (xs := c'.data)).symm
    have h3 : b'.data.toList.length + c'.data.toList.length < 2147483648 := hl
    rw [← h1, ← h2] at h3
    rw [IntKind.max_i64]
    omega
   refine PR_ret (x := .string (b' ++ c')) ?_ (.of_img (.pure ?_))
   ·simp only [execOp, hop, e1, e2, eqGuard_at_string, binOp, Op.stringOp, if_neg hs]
    rfl
   ·have : b'.data.toList ++ c'.data.toList = (b' ++ c').data.toList := by simp
    rw [this]
    exact .str _
  ·cases hp
 ·cases hp
def kindOf (P : Program) (T : TypeId) : Option Nat :=
 match P.underlying T with
 | some (.int _) => some 0
 | some .bool => some 1
 | some .string => some 2
 | _ => none
def flatFrom (P : Program) : Nat → List Nat → List Field → Bool
 | _, [], [] => true
 | n, k :: ks, f :: fs => decide (f.offset = n) && decide (f.name ≠ "_") && decide (kindOf P f.type = some k) && flatFrom P (n + 1) ks fs
 | _, _, _ => false
def okFlat (P : Program) (T : TypeId) (ks : List Nat) : Bool :=
 (match P.underlying T with
 | some (.struct fs) => flatFrom P 0 ks fs.toList
 | _ => false) && decide (P.stoodInHeld T = false) && decide (P.eqGuardType P.depth T = false)
theorem run_eqK {d0 : Nat} {T k : Nat} {b c : V} {x y : Value} {q : Bool} (hk : kindOf P T = some k) (i1 : Img g w b x) (i2 : Img g w c y) (hq : eqK k b c = some q) : (Op.equalIn (d0 + 1) T x y).run P w = .ok q w := by
 unfold kindOf at hk
 unfold eqK at hq
 split at hq
 ·split at hq
  ·rename_i k1 _ k2 _ he
   cases hq
   subst he
   rw [i1.int_inv, i2.int_inv]
   split at hk
   ·rename_i k' hu; exact run_equalIn_int w d0 T k1 k' _ _ hu
   ·cases hk
   ·cases hk
   ·cases hk
  ·cases hq
 ·cases hq
  rw [i1.bool_inv, i2.bool_inv]
  split at hk
  ·cases hk
  ·rename_i hu; exact run_equalIn_bool' w d0 T _ _ hu
  ·cases hk
  ·cases hk
 ·cases hq
  obtain ⟨b', rfl, rfl⟩ := i1.str_inv
  obtain ⟨c', rfl, rfl⟩ := i2.str_inv
  split at hk
  ·cases hk
  ·cases hk
  ·rename_i hu
   rw [← bytes_eq]
   exact run_equalIn_string w d0 T _ _ hu
  ·cases hk
 ·cases hq
theorem run_eqFields {d0 : Nat} : ∀ {fs : List Field} {ks : List Nat} {n : Nat} {b c : List V} {xs ys : List Value} {r : Bool}, flatFrom P n ks fs = true → n + b.length = xs.length → n + c.length = ys.length →
  (∀ (i : Nat) (u : V) (x : Value), b[i]? = some u → xs[n + i]? = some x → Img g w u x) → (∀ (i : Nat) (u : V) (x : Value), c[i]? = some u → ys[n + i]? = some x → Img g w u x) → eqKs ks b c = some r →
  (Op.eqFields (d0 + 1) xs.toArray ys.toArray fs).run P w = .ok r w
 | [], [], n, [], [], xs, ys, r, _, _, _, _, _, he => by cases he; rfl
 | f :: fs, k :: ks, n, b :: bs, c :: cs, xs, ys, r, hf, h3, h4, h5, h6, he => by
  simp only [flatFrom, Bool.and_eq_true, decide_eq_true_eq] at hf
  obtain ⟨⟨⟨ho, hn⟩, ht⟩, hrest⟩ := hf
  simp only [List.length_cons] at h3 h4
  have hx : xs[n]? = some (xs[n]'(by omega)) := List.getElem?_eq_getElem (by omega)
  have hy : ys[n]? = some (ys[n]'(by omega)) := List.getElem?_eq_getElem (by omega)
  have i1 := h5 0 b _ rfl hx
  have i2 := h6 0 c _ rfl hy
  have next : ∀ {r : Bool}, eqKs ks bs cs = some r → (Op.eqFields (d0 + 1) xs.toArray ys.toArray fs).run P w = .ok r w := fun hr =>
   run_eqFields hrest (by omega) (by omega) (fun i u x hu hx => h5 (i + 1) u x (by simpa using hu) (by rw [← hx]; congr 1; omega)) (fun i u x hu hx => h6 (i + 1) u x (by simpa using hu) (by rw [← hx]; congr 1; omega)) hr
  have hagg : aggOf P f.type = some false := by
   unfold kindOf at ht
   unfold aggOf
   split at ht <;> first | (rename_i hu; rw [hu]; rfl) | cases ht
  have hpx : (part f.type xs.toArray f.offset).run P w = .ok (xs[n]'(by omega)) w := by
   simp [part, run_isAgg' hagg, ho, hx]
  have hpy : (part f.type ys.toArray f.offset).run P w = .ok (ys[n]'(by omega)) w := by
   simp [part, run_isAgg' hagg, ho, hy]
  simp only [Op.eqFields, if_pos hn, Sem.run_bind, hpx, hpy, Result.andThen_ok]
  simp only [eqKs] at he
  split at he
  ·rename_i hq
   rw [run_eqK ht i1 i2 hq]
   simp only [Result.andThen_ok, Bool.not_true, Bool.false_eq_true, if_false]
   exact next he
  ·rename_i hq
   cases he
   rw [run_eqK ht i1 i2 hq]
   simp
  ·cases he
 | [], [], n, _ :: _, _, xs, ys, r, _, _, _, _, _, he => by cases he
 | [], [], n, [], _ :: _, xs, ys, r, _, _, _, _, _, he => by cases he
 | [], _ :: _, n, _, _, xs, ys, r, hf, _, _, _, _, _ => by cases hf
 | _ :: _, [], n, _, _, xs, ys, r, hf, _, _, _, _, _ => by cases hf
 | _ :: _, _ :: _, n, [], _, xs, ys, r, _, _, _, _, _, he => by cases he
 | _ :: _, _ :: _, n, _ :: _, [], xs, ys, r, _, _, _, _, _, he => by cases he
theorem k_aq (s : Sim fr g st a w) {os : List O} {vs : List V} {x y : Operand} {op : BinOp} {T T2 : TypeId} {ne : Bool} {ks : List Nat} (hop : o.op = .binOp op T x y T2) (hT : okFlat P T ks = true) (hne : op = if ne then .neq else .eql) (hok : okOs os [x, y] = true) (hv : isVs os = true) (hg : getOs st os = some vs) {p : Plan} (hp : plan (.aq ne ks) vs = some p) :
  PlanRun src fr g st a w h d ((execOp a.eval o).run P w) p := by
 obtain ⟨v, u, rfl, r1, r2⟩ := two_vals s hok hv hg
 simp only [plan, plan_aq] at hp
 split at hp
 ·rename_i b c e
  simp at e
  obtain ⟨rfl, rfl⟩ := e
  simp only [Option.map_eq_some_iff] at hp
  obtain ⟨r, hr, rfl⟩ := hp
  obtain ⟨xs, e1, l1, _, q1⟩ := r1.agg_inv
  obtain ⟨ys, e2, l2, _, q2⟩ := r2.agg_inv
  simp only [okFlat, Bool.and_eq_true, decide_eq_true_eq] at hT
  obtain ⟨⟨h1, h2⟩, h3⟩ := hT
  split at h1
  ·rename_i fs hu
   have hfo : P.fieldsOf T = fs := by simp [Program.fieldsOf, hu]
   have he : (Op.equalIn 10000 T (.agg xs.toArray) (.agg ys.toArray)).run P w = .ok r w := by
    rw [run_equalIn_struct w 9999 T _ _ (by rw [hfo]; exact hu) h2, hfo]
    exact run_eqFields (d0 := 9998) (g := g) h1 (by omega) (by omega) (fun i u x hu hx => q1 i u x hu (by simpa using hx)) (fun i u x hu hx => q2 i u x hu (by simpa using hx)) hr
   refine PR_ret (x := .bool (if ne then !r else r)) ?_ (.of_img (.pure (.bool _)))
   subst hne
   cases ne with
   | true => simp [execOp, hop, e1, e2, run_eqGuard_agg w _ T _ _ _ _ h3, run_neq_struct, he]
   | false => simp [execOp, hop, e1, e2, run_eqGuard_agg w _ T _ _ _ _ h3, run_eql_struct, he]
  ·cases h1
 ·cases hp
theorem run_eqNil (d0 : Nat) {T e0 : TypeId} (hT : P.underlying T = some (.slice e0)) (ad : Option Addr) (l c : Nat) : (Op.equalIn (d0 + 1) T (.slice ad l c) (.slice none 0 0)).run P w = .ok ad.isNone w := by
 cases ad <;> simp [Op.equalIn, run_underlying hT]
theorem k_nq (s : Sim fr g st a w) {os : List O} {vs : List V} {x y : Operand} {op : BinOp} {T T2 e0 : TypeId} {ne : Bool} (hop : o.op = .binOp op T x y T2) (hT : P.underlying T = some (.slice e0)) (hne : op = if ne then .neq else .eql) (hok : okOs os [x, y] = true) (hv : isVs os = true) (hg : getOs st os = some vs) {p : Plan} (hp : plan (.nq ne) vs = some p) :
  PlanRun src fr g st a w h d ((execOp a.eval o).run P w) p := by
 obtain ⟨v, u, rfl, r1, r2⟩ := two_vals s hok hv hg
 have fin : ∀ {ad : Option Addr} {l c : Nat}, a.eval x = .slice ad l c → a.eval y = .slice none 0 0 → (execOp a.eval o).run P w = .ok (.value (.bool (if ne then ad.isSome else ad.isNone))) w := by
  intro ad l c e1 e2
  have he : (Op.equal T (.slice ad l c) (.slice none 0 0)).run P w = .ok ad.isNone w := run_eqNil 9999 hT ad l c
  subst hne
  cases ne with
  | true => cases ad <;> simp [execOp, hop, e1, e2, eqGuard_at_slice, binOp, he]
  | false => cases ad <;> simp [execOp, hop, e1, e2, eqGuard_at_slice, binOp, he]
 simp only [plan, plan_nq] at hp
 split at hp
 ·rename_i e
  simp at e
  obtain ⟨rfl, rfl⟩ := e
  cases hp
  refine PR_ret (fin r1.nil_inv r2.nil_inv) (.of_img ?_)
  cases ne <;> exact .pure (.bool _)
 ·rename_i e
  simp at e
  obtain ⟨rfl, rfl⟩ := e
  cases hp
  rcases r1.row_inv with ⟨loc, cap, _, _, _, _, e1⟩ | ⟨rfl, ad, e1⟩
  ·refine PR_ret (fin e1 r2.nil_inv) (.of_img ?_)
   cases ne <;> exact .pure (.bool _)
  ·refine PR_ret (fin e1 r2.nil_inv) (.of_img ?_)
   cases ne <;> exact .pure (.bool _)
 ·rename_i e
  simp at e
  obtain ⟨rfl, rfl⟩ := e
  cases hp
  rcases r1.lst_inv with ⟨e3, _⟩ | ⟨b, oo, cap, vs, e1, _⟩
  ·cases e3
  ·refine PR_ret (fin e1 r2.nil_inv) (.of_img ?_)
   cases ne <;> exact .pure (.bool _)
 ·cases hp
theorem k_cvt (s : Sim fr g st a w) {os : List O} {vs : List V} {x : Operand} {S T : TypeId} {k : IntKind} (hop : o.op = .convert S T x) (hS : (P.underlying S).isSome = true) (hT : P.underlying T = some (.int k)) (hok : okOs os [x] = true) (hv : isVs os = true) (hg : getOs st os = some vs) {p : Plan} (hp : plan (.cvt k) vs = some p) :
  PlanRun src fr g st a w h d ((execOp a.eval o).run P w) p := by
 obtain ⟨v, rfl, r⟩ := one_val s hok hv hg
 obtain ⟨S', hS'⟩ := Option.isSome_iff_exists.1 hS
 simp only [plan, plan_cvt] at hp
 split at hp
 ·rename_i k' n e
  simp at e
  subst e
  cases hp
  have e1 := r.int_inv
  exact PR_ret (x := .int k (k.wrap n)) (by simp [execOp, hop, e1, convert, run_underlying hS', run_underlying hT, Conv.intToInt]) (.of_img (.pure (.int _ _)))
 ·cases hp
theorem k_len (s : Sim fr g st a w) {os : List O} {vs : List V} {x : Operand} {T : TypeId} {ts : Array TypeId} {str : Bool} (hop : o.op = .call { callee := .builtin .len, args := #[x], argTypes := ts }) (hts : ts[0]? = some T)
  (hT : if str then P.underlying T = some .string else ∃ e, P.underlying T = some (.slice e)) (hok : okOs os [x] = true) (hv : isVs os = true) (hg : getOs st os = some vs) {p : Plan} (hp : plan (.len str) vs = some p) :
  PlanRun src fr g st a w h d ((execOp a.eval o).run P w) p := by
 obtain ⟨v, rfl, r⟩ := one_val s hok hv hg
 have hlen : ∀ {z : Value} {n : Int}, a.eval x = z → (Builtin.len_ ts o.type #[z]).run P w = .ok (.int .i64 n) w → PlanRun src fr g st a w h d ((execOp a.eval o).run P w) (.ret (.int .i64 n)) := by
  intro z n e1 e2
  refine PR_ret (x := .int .i64 n) ?_ (.of_img (.pure (.int _ _)))
  simp [execOp, hop, resolve, e1, invoke, builtin, e2]
 have sl : ∀ {ad : Option Addr} {n c : Nat}, str = false → a.eval x = .slice ad n c → PlanRun src fr g st a w h d ((execOp a.eval o).run P w) (.ret (.int .i64 (n : Int))) := by
  intro ad n c hs e1
  rw [hs] at hT
  obtain ⟨e0, hT⟩ := hT
  refine hlen e1 ?_
  simp [Builtin.len_, hts, run_underlying hT, goInt]
 simp only [plan, plan_len] at hp
 split at hp
 ·rename_i l e
  simp at e
  subst e
  split at hp
  ·rename_i hs
   cases hp
   rw [if_pos hs] at hT
   obtain ⟨b, e1, rfl⟩ := r.str_inv
   refine hlen e1 ?_
   have h1 : b.size = b.data.toList.length := (Array.length_toList (xs := b.data)).symm
   rw [← h1]
   simp [Builtin.len_, hts, run_underlying hT, goInt]
  ·cases hp
 ·rename_i z _ e
  simp at e
  subst e
  split at hp
  ·cases hp
  ·rename_i hs
   have hs' : str = false := by simpa using hs
   split at hp
   ·rename_i n hn
    cases hp
    unfold lenOf at hn
    split at hn
    ·cases hn; exact sl hs' r.nil_inv
    ·cases hn
     rcases r.lst_inv with ⟨rfl, ad, c, e1⟩ | ⟨b, oo, cap, vs, e1, _⟩
     ·exact sl hs' e1
     ·exact sl hs' e1
    ·cases hn
     rcases r.row_inv with ⟨loc, cap, _, _, _, _, e1⟩ | ⟨rfl, ad, e1⟩
     ·exact sl hs' e1
     ·exact sl hs' e1
    ·cases hn
   ·cases hp
 ·cases hp
theorem k_mx (s : Sim fr g st a w) {os : List O} {vs : List V} {x y : Operand} {ts : Array TypeId} (hop : o.op = .call { callee := .builtin .max, args := #[x, y], argTypes := ts }) (hok : okOs os [x, y] = true) (hv : isVs os = true) (hg : getOs st os = some vs) {p : Plan} (hp : plan .mx vs = some p) :
  PlanRun src fr g st a w h d ((execOp a.eval o).run P w) p := by
 obtain ⟨v, u, rfl, r1, r2⟩ := two_vals s hok hv hg
 simp only [plan, plan_mx] at hp
 split at hp
 ·rename_i k b k' c e
  simp at e
  obtain ⟨rfl, rfl⟩ := e
  cases hp
  have e1 := r1.int_inv
  have e2 := r2.int_inv
  exact PR_ret (x := .int k (if c > b then c else b)) (by simp [execOp, hop, resolve, e1, e2, invoke, builtin, Builtin.max_, Builtin.max2]) (.of_img (.pure (.int _ _)))
 ·cases hp
theorem k_mn (s : Sim fr g st a w) {os : List O} {vs : List V} {x y : Operand} {ts : Array TypeId} (hop : o.op = .call { callee := .builtin .min, args := #[x, y], argTypes := ts }) (hok : okOs os [x, y] = true) (hv : isVs os = true) (hg : getOs st os = some vs) {p : Plan} (hp : plan .mn vs = some p) :
  PlanRun src fr g st a w h d ((execOp a.eval o).run P w) p := by
 obtain ⟨v, u, rfl, r1, r2⟩ := two_vals s hok hv hg
 simp only [plan, plan_mn] at hp
 split at hp
 ·rename_i k b k' c e
  simp at e
  obtain ⟨rfl, rfl⟩ := e
  cases hp
  have e1 := r1.int_inv
  have e2 := r2.int_inv
  exact PR_ret (x := .int k (if c < b then c else b)) (by simp [execOp, hop, resolve, e1, e2, invoke, builtin, Builtin.min_, Builtin.min2]) (.of_img (.pure (.int _ _)))
 ·cases hp
end
end Go.Am
namespace Go.Am
open Go
section
variable {P : Program} {src : Nat → Nat} {fr : Fr} {g : Gh} {st : St} {a : Act} {w : World} {h : Nat} {d : D} {o : Oper}
theorem encode_small {n : Int} (h0 : 0 ≤ n) (h1 : n < 128) : Utf8.encode n = ⟨#[UInt8.ofNat n.toNat]⟩ := by
 have hv : Utf8.valid n = true := by simp [Utf8.valid]; omega
 have : n.toNat < 0x80 := by omega
 simp [Utf8.encode, hv, this]
theorem k_cvs (s : Sim fr g st a w) {os : List O} {vs : List V} {x : Operand} {S T : TypeId} (hop : o.op = .convert S T x) (hS : (P.underlying S).isSome = true) (hT : P.underlying T = some .string) (hok : okOs os [x] = true) (hv : isVs os = true) (hg : getOs st os = some vs) {p : Plan} (hp : plan .cvs vs = some p) :
  PlanRun src fr g st a w h d ((execOp a.eval o).run P w) p := by
 obtain ⟨v, rfl, r⟩ := one_val s hok hv hg
 obtain ⟨S', hS'⟩ := Option.isSome_iff_exists.1 hS
 simp only [plan, plan_cvs] at hp
 split at hp
 ·rename_i k n e
  simp at e
  subst e
  split at hp
  ·rename_i hn
   cases hp
   have e1 := r.int_inv
   refine PR_ret (x := .string ⟨#[UInt8.ofNat n.toNat]⟩) ?_ (.of_img (.pure (.str ⟨#[UInt8.ofNat n.toNat]⟩)))
   simp [execOp, hop, e1, convert, run_underlying hS', run_underlying hT, Conv.intToString, encode_small hn.1 hn.2]
  ·cases hp
 ·cases hp
def isStr (P : Program) (T : TypeId) : Bool := match P.underlying T with | some .string => true | _ => false
def isInt (P : Program) (T : TypeId) (k : IntKind) : Bool := match P.underlying T with | some (.int k') => decide (k' = k) | _ => false
def isBool (P : Program) (T : TypeId) : Bool := match P.underlying T with | some .bool => true | _ => false
theorem isStr_spec {T : TypeId} (h : isStr P T = true) : P.underlying T = some .string := by
 unfold isStr at h; split at h
 ·assumption
 ·cases h
theorem isBool_spec {T : TypeId} (h : isBool P T = true) : P.underlying T = some .bool := by
 unfold isBool at h; split at h
 ·assumption
 ·cases h
theorem isInt_spec {T : TypeId} {k : IntKind} (h : isInt P T k = true) : P.underlying T = some (.int k) := by
 unfold isInt at h; split at h
 ·rename_i k' hu; rw [hu, of_decide_eq_true h]
 ·cases h
def okBts (P : Program) (S T : TypeId) : Bool :=
 (match P.underlying S with
 | some (.slice e) => isInt P e .u8
 | _ => false) && isStr P T
theorem bytesOf_ints : ∀ {zs : List V} {bs : List UInt8}, bytesOf zs = some bs → ∃ ns : List Int, zs = ns.map (V.int .u8) ∧ bs = ns.map fun n => UInt8.ofNat n.toNat := by
 intro zs
 induction zs with
 | nil => intro bs hbs; cases hbs; exact ⟨[], rfl, rfl⟩
 | cons z zs ih =>
  intro bs hbs
  have : ∃ n, z = .int .u8 n := by
   cases z <;> try (cases hbs; done)
   rename_i k n
   cases k <;> try (cases hbs; done)
   exact ⟨n, rfl⟩
  obtain ⟨n, rfl⟩ := this
  simp only [bytesOf, Option.map_eq_some_iff] at hbs
  obtain ⟨bs', h1, rfl⟩ := hbs
  obtain ⟨ns, h2, h3⟩ := ih h1
  exact ⟨n :: ns, by simp [h2], by simp [h3]⟩
theorem foldl_push : ∀ (ns : List Int) (r : ByteArray), ns.foldl (fun r n => r.push (UInt8.ofNat n.toNat)) r = ⟨r.data ++ (ns.map fun n => UInt8.ofNat n.toNat).toArray⟩
 | [], r => by simp
 | n :: ns, r => by
  simp only [List.foldl_cons]
  rw [foldl_push ns]
  simp [ByteArray.push]
theorem k_bts (s : Sim fr g st a w) {os : List O} {vs : List V} {x : Operand} {S T : TypeId} (hop : o.op = .convert S T x) (hT : okBts P S T = true) (hok : okOs os [x] = true) (hv : isVs os = true) (hg : getOs st os = some vs) {p : Plan} (hp : plan .bts vs = some p) :
  PlanRun src fr g st a w h d ((execOp a.eval o).run P w) p := by
 obtain ⟨v, rfl, r⟩ := one_val s hok hv hg
 unfold okBts at hT
 simp only [Bool.and_eq_true] at hT
 obtain ⟨hS, hT⟩ := hT
 replace hT := isStr_spec hT
 split at hS
 ·rename_i e0 hS0
  replace hS := isInt_spec hS
  simp only [plan, plan_bts] at hp
  split at hp
  ·rename_i e
   simp at e
   subst e
   cases hp
   refine PR_ret (x := .string ⟨#[]⟩) ?_ (.of_img (.pure (.str ⟨#[]⟩)))
   simp [execOp, hop, r.nil_inv, run_convert_bytes_string w S T e0 _ _ _ hS0 hS hT, Conv.bytesToString]
   rfl
  ·rename_i sv hh oo l e
   simp at e
   subst e
   cases hp
   intro B u hB hu
   cases B with
   | map _ => cases hu
   | row S' es =>
    simp only at hu
    split at hu
    ·rename_i hfit0
     simp only [Option.map_eq_some_iff] at hu
     obtain ⟨bs, hbs, rfl⟩ := hu
     obtain ⟨ns, hes, rfl⟩ := bytesOf_ints hbs
     have hlen : ns.length = l := by
      have := congrArg List.length hes
      simp at this
      omega
     refine ⟨.string ⟨(ns.map fun n => UInt8.ofNat n.toNat).toArray⟩, ?_, .pure (.str ⟨(ns.map fun n => UInt8.ofNat n.toNat).toArray⟩)⟩
     have fin : ∀ {ad : Addr} {cap : Nat}, a.eval x = .slice (some ad) l cap → (∀ (j : Nat) (n : Int), ns[j]? = some n → w.cell? (ad.add j) = some (.int .u8 n)) →
       (execOp a.eval o).run P w = .ok (.value (.string ⟨(ns.map fun n => UInt8.ofNat n.toNat).toArray⟩)) w := by
      intro ad cap e1 hcell
      have hld : (loadCells ad l).run P w = .ok (ns.map (Value.int .u8)).toArray w := by
       have := run_loadCells_list (P := P) w ad (ns.map (Value.int .u8)) (fun j v hj => by
        simp only [List.getElem?_map, Option.map_eq_some_iff] at hj
        obtain ⟨n, hn, rfl⟩ := hj
        exact hcell j n hn)
       simpa [hlen] using this
      have e2 := run_bytesToString (P := P) w ad l cap ns hld
      rw [foldl_push] at e2
      have he0 : ByteArray.empty.data = #[] := rfl
      rw [he0] at e2
      simp [execOp, hop, e1, run_convert_bytes_string w S T e0 _ _ _ hS0 hS hT, e2]
     rcases r.row_inv with ⟨loc, cap, hφ, hsz, hlc, hlim, e1⟩ | ⟨h0, ad, e1⟩
     ·refine fin e1 fun j n hj => ?_
      obtain ⟨loc', e2, hBk, _, _⟩ := s.mem.blk hh _ hB
      rw [hφ] at e2; cases e2
      obtain ⟨hS', hfit, cs, T0, hb, hcs, hc⟩ := hBk
      have h1 : ((es.drop oo).take l)[j]? = some (.int .u8 n) := by rw [hes]; simp [hj]
      have h2 : es[oo + j]? = some (.int .u8 n) := by
       rw [List.getElem?_take] at h1
       split at h1
       ·rw [List.getElem?_drop] at h1; exact h1
       ·cases h1
      have hs1 : S' = 1 := by
       have := hc.1 _ (List.mem_of_getElem? h2)
       simpa [V.cells] using this.symm
      obtain ⟨y, h3, h4, h5⟩ := hc.2 (oo + j) 0 _ (.int .u8 n) h2 rfl
      rw [h5.int_inv] at h3
      rw [add_at, cell_of_row w loc.b _ cs T0 (0, 0) hb]
      rw [← h3, hS', hs1]
      congr 1
      omega
     ·subst h0
      refine fin e1 fun j n hj => ?_
      have : ns = [] := List.length_eq_zero_iff.1 hlen
      subst this
      simp at hj
    ·cases hu
  ·cases hp
 ·cases hS
theorem k_six (s : Sim fr g st a w) {os : List O} {vs : List V} {x y : Operand} {T : TypeId} (hop : o.op = .index T x y) (hT : P.underlying T = some .string) (hok : okOs os [x, y] = true) (hv : isVs os = true) (hg : getOs st os = some vs) {p : Plan} (hp : plan .six vs = some p) :
  PlanRun src fr g st a w h d ((execOp a.eval o).run P w) p := by
 obtain ⟨v, u, rfl, r1, r2⟩ := two_vals s hok hv hg
 simp only [plan, plan_six] at hp
 split at hp
 ·rename_i l k i e
  simp at e
  obtain ⟨rfl, rfl⟩ := e
  split at hp
  ·rename_i h0
   simp only [nth_eq, Option.map_eq_some_iff] at hp
   obtain ⟨c, hc, rfl⟩ := hp
   obtain ⟨b, e1, rfl⟩ := r1.str_inv
   have e2 := r2.int_inv
   have hb : b[i.toNat]? = some c := by
    have hlt : i.toNat < b.data.toList.length := by
     rcases Nat.lt_or_ge i.toNat b.data.toList.length with h | h
     ·exact h
     ·rw [List.getElem?_eq_none h] at hc; cases hc
    have hlt' : i.toNat < b.size := by
     have h1 : b.size = b.data.toList.length := (Array.length_toList (xs := b.data)).symm
     omega
    rw [List.getElem?_eq_getElem hlt] at hc
    rw [getElem?_pos b i.toNat hlt']
    simp at hc
    rw [← hc]
    rfl
   exact PR_ret (x := .int .u8 c.toNat) (by simp [execOp, hop, e1, e2, Instr.index, asIntOf, run_underlying hT, h0, hb]) (.of_img (.pure (.int _ _)))
  ·cases hp
 ·cases hp
theorem part_img {T : TypeId} {agg : Bool} {off sz : Nat} {v u : V} {cs : Array Value} {x : Value} (hx : x = .agg cs) (ha : aggOf P T = some agg) (hs : agg = true → szOf P T = some sz) (hi : Img g w v x) (hu : getC agg off sz v = some u) :
  ∃ y, (part T cs off).run P w = .ok y w ∧ Img g w u y := by
 subst hx
 have hcells := hi.cells
 have hc2 : (Value.agg cs).cells = cs := rfl
 rw [hc2] at hcells
 unfold getC at hu
 cases agg with
 | false =>
  simp only [Bool.false_eq_true, if_false, nth_eq] at hu
  have hlt : off < cs.size := by
   rw [← hcells.1]
   rcases Nat.lt_or_ge off v.cells.length with h | h
   ·exact h
   ·rw [List.getElem?_eq_none h] at hu; cases hu
  have hy : cs[off]? = some cs[off] := by simp [hlt]
  exact ⟨cs[off], by simp [part, run_isAgg' ha, hlt], hcells.2 off u _ hu hy⟩
 | true =>
  simp only [if_true] at hu
  split at hu
  ·rename_i hl
   cases hu
   refine ⟨.agg (cs.extract off (off + sz)), by simp [part, run_isAgg' ha, run_sizeOf' (hs rfl)], ?_⟩
   have hone : ∀ y ∈ cs, y.oneCell' = true := by
    cases hi with
    | pure hi => cases hi with | agg _ vs h1 h2 h3 => exact fun y hy => h2 y (by simpa using hy)
    | agg _ vs h1 h2 h3 => exact fun y hy => h2 y (by simpa using hy)
   have : cs.extract off (off + sz) = ((cs.toList.drop off).take sz).toArray := by
    apply Array.ext'
    simp
   rw [this]
   refine .agg _ _ (by simp; omega) (fun y hy => hone y (by simpa using List.mem_of_mem_drop (List.mem_of_mem_take hy))) (fun i c y hc hy => ?_)
   rw [List.getElem?_take] at hc hy
   split at hc
   ·rename_i hi'
    rw [if_pos hi'] at hy
    rw [List.getElem?_drop] at hc hy
    exact hcells.2 (off + i) c y hc (by simpa using hy)
   ·cases hc
  ·cases hu
def okFld (P : Program) (T : TypeId) (i : Nat) (agg : Bool) (off sz : Nat) : Bool :=
 match P.underlying T with
 | some (.struct fs) => match fs[i]? with
  | some f => decide (f.offset = off) && decide (aggOf P f.type = some agg) && (!agg || decide (szOf P f.type = some sz))
  | none => false
 | _ => false
theorem k_fld (s : Sim fr g st a w) {os : List O} {vs : List V} {x : Operand} {T : TypeId} {i : Nat} {agg : Bool} {off sz : Nat} (hop : o.op = .field T x i) (hT : okFld P T i agg off sz = true) (hok : okOs os [x] = true) (hv : isVs os = true) (hg : getOs st os = some vs) {p : Plan} (hp : plan (.fld agg off sz) vs = some p) :
  PlanRun src fr g st a w h d ((execOp a.eval o).run P w) p := by
 obtain ⟨v, rfl, r⟩ := one_val s hok hv hg
 unfold okFld at hT
 split at hT
 ·rename_i fs hu
  split at hT
  ·rename_i f hf
   simp only [Bool.and_eq_true, decide_eq_true_eq, Bool.or_eq_true, Bool.not_eq_true'] at hT
   obtain ⟨⟨h1, h2⟩, h3⟩ := hT
   simp only [plan, plan_fld] at hp
   split at hp
   rotate_left
   ·cases hp
   rename_i cs e
   simp at e
   subst e
   simp only [Option.map_eq_some_iff] at hp
   obtain ⟨u, hu', rfl⟩ := hp
   obtain ⟨ys, e1, _⟩ := r.agg_inv
   obtain ⟨y, h4, h5⟩ := part_img (P := P) (T := f.type) e1 h2 (fun e => by
    rcases h3 with h | h
    ·rw [e] at h; cases h
    ·exact h) r hu'
   refine PR_ret (x := y) ?_ (.of_img h5)
   simp [execOp, hop, e1, Instr.field, run_underlying hu, hf, asAgg, h1, h4]
  ·cases hT
 ·cases hT
end
end Go.Am
namespace Go.Am
open Go
section
variable {P : Program} {src : Nat → Nat} {fr : Fr} {g : Gh} {st : St} {a : Act} {w : World} {h : Nat} {d : D} {o : Oper}
theorem run_sliceAt_lh {T e : TypeId} {sz : Nat} (hu : P.underlying T = some (.slice e)) (hs : szOf P e = some sz) (ad : Option Addr) (len cap l h : Nat) (hlen : len ≤ cap) (lo hi : Option Value)
  (hlo : lo = none ∧ l = 0 ∨ ∃ k, lo = some (.int k (l : Int))) (hhi : hi = none ∧ h = len ∨ ∃ k, hi = some (.int k (h : Int))) (h1 : l ≤ h) (h2 : h ≤ cap) :
  (Instr.sliceAt T (.slice ad len cap) lo hi none).run P w = .ok (.slice (if cap = l then ad else ad.map (·.add (l * sz))) (h - l) (cap - l)) w := by
 rcases hlo with ⟨rfl, rfl⟩ | ⟨k, rfl⟩ <;> rcases hhi with ⟨rfl, rfl⟩ | ⟨k', rfl⟩ <;>
  simp [Instr.sliceAt, run_underlying hu, Instr.slice, Instr.sliceBounds, Instr.sliceBound, asIntOf, run_sizeOf' hs, h1, h2]
theorem optBound_spec {b : Bool} {vs rest : List V} {dflt n : Nat} (h : optBound b vs dflt = some (n, rest)) : (b = false ∧ n = dflt ∧ rest = vs) ∨ (b = true ∧ ∃ k, vs = .int k (n : Int) :: rest) := by
 unfold optBound at h
 cases b with
 | false => simp at h; exact .inl ⟨rfl, h.1.symm, h.2.symm⟩
 | true =>
  simp only [if_true] at h
  split at h
  ·rename_i k m vs
   split at h
   ·rename_i h0
    cases h
    exact .inr ⟨rfl, k, by rw [Int.toNat_of_nonneg h0]⟩
   ·cases h
  ·cases h
theorem slOf_img {T e : TypeId} {sz l hh n : Nat} (hu : P.underlying T = some (.slice e)) (hs : szOf P e = some sz) {x u : V} {y : Value} (hi : Img g w x y) (hn : lenOf x = some n) (hsl : slOf sz x l hh = some u) (lo hi' : Option Value)
  (hlo : lo = none ∧ l = 0 ∨ ∃ k, lo = some (.int k (l : Int))) (hhi : hi' = none ∧ hh = n ∨ ∃ k, hi' = some (.int k (hh : Int))) :
  ∃ z, (Instr.sliceAt T y lo hi' none).run P w = .ok z w ∧ Img g w u z := by
 unfold slOf at hsl
 split at hsl
 ·rename_i hle
  split at hsl
  ·split at hsl
   ·rename_i h0
    cases hsl
    have e1 := hi.nil_inv
    cases hn
    subst e1
    have hl0 : l = 0 := by omega
    refine ⟨.slice none 0 0, ?_, .pure .nil⟩
    have := run_sliceAt_lh (w := w) hu hs none 0 0 l hh (Nat.le_refl _) lo hi' hlo hhi hle (by omega)
    rw [this, hl0, h0]
    rfl
   ·cases hsl
  ·rename_i p s xs
   split at hsl
   ·rename_i hc
    cases hsl
    cases hn
    suffices hx : ∃ z, (Instr.sliceAt T y lo hi' none).run P w = .ok z w ∧ Img g w (.lst p s ((xs.drop l).take (hh - l))) z from let ⟨z, a, b⟩ := hx; ⟨z, a, b.ro⟩
    have empty : ∀ (ad : Option Addr) (c : Nat), (xs.drop l).take (hh - l) = [] → ∀ z, z = .slice ad 0 c → Img g w (.lst p s ((xs.drop l).take (hh - l))) z := by
     intro ad c h1 z h2
     rw [h1, h2]
     exact .pure (.lst0 p s ad c)
    rcases hi.lst_inv with ⟨rfl, ad, c, rfl⟩ | ⟨b, o, cap, vs, rfl, hI, hcap, hsz, hv, hr, hP⟩
    ·have h1 := hc.1
     simp at h1
     refine ⟨_, run_sliceAt_lh hu hs ad 0 c l hh (Nat.zero_le _) lo hi' hlo hhi hle (by omega), ?_⟩
     refine empty (if c = l then ad else Option.map (fun x : Addr => x.add (l * sz)) ad) (c - l) (by simp) _ ?_
     rw [show hh - l = 0 by omega]
    ·refine ⟨_, run_sliceAt_lh hu hs (some ⟨b, o, none⟩) xs.length cap l hh hcap lo hi' hlo hhi hle (by omega), ?_⟩
     by_cases h0 : hh - l = 0
     ·refine empty (if cap = l then some (⟨b, o, none⟩ : Addr) else Option.map (fun x : Addr => x.add (l * sz)) (some (⟨b, o, none⟩ : Addr))) (cap - l) (by rw [h0]; rfl) _ ?_
      rw [h0]
     ·have hcl : cap ≠ l := by omega
      have hs2 : s = sz := by
       rcases hc.2 with h | h
       ·exact h
       ·omega
      subst hs2
      rw [if_neg hcl]
      simp only [Option.map_some, add_at]
      have hlen : ((xs.drop l).take (hh - l)).length = hh - l := by simp; omega
      have idx : ∀ (i : Nat) (q : V), ((xs.drop l).take (hh - l))[i]? = some q → xs[l + i]? = some q := by
       intro i q hq
       rw [List.getElem?_take] at hq
       split at hq
       ·rw [List.getElem?_drop] at hq; exact hq
       ·cases hq
      have hv0 : Value.slice (some ⟨b, o + l * s, none⟩) (hh - l) (cap - l) = Value.slice (some ⟨b, o + l * s, none⟩) ((xs.drop l).take (hh - l)).length (cap - l) := by rw [hlen]
      rw [hv0]
      have hsz' : ∀ q ∈ (xs.drop l).take (hh - l), q.cells.length = s := fun q hq => hsz q (List.mem_of_mem_drop (List.mem_of_mem_take hq))
      have hv' : ∀ (i j : Nat) (q c : V), ((xs.drop l).take (hh - l))[i]? = some q → q.cells[j]? = some c → w.cell? ⟨b, o + l * s + i * s + j, none⟩ = some (vs (l + i) j) ∧ (vs (l + i) j).oneCell' = true := by
       intro i j q c hq hj
       have := hv (l + i) j q c (idx i q hq) hj
       rw [Nat.add_mul] at this
       rw [show o + l * s + i * s + j = o + (l * s + i * s) + j by omega]
       exact this
      rcases hP with hP | rfl
      ·cases hP with
       | lst0 => simp at hlen; omega
       | lst _ _ _ _ _ _ vs2 hI2 hc2 hs2 hv2 hr2 =>
        refine .pure (.lst p s _ b (o + l * s) (cap - l) (fun i j => vs2 (l + i) j) hI2 (by rw [hlen]; omega) hsz' (fun i j q c hq hj => ?_) (fun i j q c hq hj => hr2 (l + i) j q c (idx i q hq) hj))
        have := hv2 (l + i) j q c (idx i q hq) hj
        rw [Nat.add_mul] at this
        rw [show o + l * s + i * s + j = o + (l * s + i * s) + j by omega]
        exact this
      ·exact .lst false s _ b (o + l * s) (cap - l) (fun i j => vs (l + i) j) rfl hI (by rw [hlen]; omega) hsz' hv' (fun i j q c hq hj => hr (l + i) j q c (idx i q hq) hj)
   ·cases hsl
  ·rename_i s h' o l'
   split at hsl
   ·rename_i hc
    cases hsl
    cases hn
    obtain ⟨hc1, hc2⟩ := hc
    rcases hi.row_inv with ⟨loc, cap, hφ, hsz, hlc, hlim, rfl⟩ | ⟨rfl, ad, rfl⟩
    ·refine ⟨_, run_sliceAt_lh hu hs _ _ cap l hh hlc lo hi' hlo hhi hle (by omega), ?_⟩
     by_cases hcl : cap = l
     ·have : hh - l = 0 := by omega
      rw [this, if_pos hcl, hcl, Nat.sub_self]
      exact .row0 _ _ _ _
     ·rw [if_neg hcl]
      subst hsz
      simp only [Option.map_some, add_at]
      rw [← hc2]
      rw [show loc.base + o * loc.sz + l * loc.sz = loc.base + (o + l) * loc.sz by rw [Nat.add_mul]; omega]
      exact .row _ _ _ loc _ hφ (by omega) (by rw [show o + l + (cap - l) = o + cap by omega]; exact hlim)
    ·refine ⟨_, run_sliceAt_lh hu hs (some ad) 0 0 l hh (Nat.le_refl _) lo hi' hlo hhi hle (by omega), ?_⟩
     have h1 : l = 0 := by omega
     have h2 : hh = 0 := by omega
     subst h1 h2
     exact .row0 _ _ _ _
   ·cases hsl
  ·cases hsl
 ·cases hsl
theorem k_sl (s : Sim fr g st a w) {os : List O} {vs : List V} {x : Operand} {lo hi : Option Operand} {T : TypeId} {sz : Nat} (hop : o.op = .slice T x lo hi none) (hT : okSlc P T sz = true) (hok : okOs os (x :: (lo.toList ++ hi.toList)) = true) (hv : isVs os = true) (hg : getOs st os = some vs) {p : Plan} (hp : plan (.sl sz lo.isSome hi.isSome false) vs = some p) :
  PlanRun src fr g st a w h d ((execOp a.eval o).run P w) p := by
 obtain ⟨e, hu, hs⟩ := okSlc_spec hT
 match os, hok with
 | q :: os, hok =>
  simp only [okOs, Bool.and_eq_true] at hok
  simp only [isVs, Bool.and_eq_true] at hv
  obtain ⟨v, ws, rfl, h1, h2⟩ := getOs_cons_some hg
  have r := getO_val s hv.1 hok.1 h1
  obtain ⟨h3, h4⟩ := getOs_vals s hv.2 hok.2 h2
  simp only [plan, plan_sl, Bool.false_eq_true, if_false] at hp
  split at hp
  ·cases hp
  ·rename_i n hn
   split at hp
   ·cases hp
   ·rename_i l ws1 hb1
    split at hp
    ·rename_i hh hb2
     simp only [Option.map_eq_some_iff] at hp
     obtain ⟨u, hu', rfl⟩ := hp
     have key : ∃ z, (Instr.sliceAt T (a.eval x) (lo.map a.eval) (hi.map a.eval) none).run P w = .ok z w ∧ Img g w u z := by
      rcases optBound_spec hb1 with ⟨e1, e2, e3⟩ | ⟨e1, k, e2⟩
      ·have hlo : lo = none := by simpa using e1
       subst hlo e2 e3
       rcases optBound_spec hb2 with ⟨e4, e5, e6⟩ | ⟨e4, k', e5⟩
       ·have hhi : hi = none := by simpa using e4
        subst hhi e5
        exact slOf_img hu hs r hn hu' _ _ (.inl ⟨rfl, rfl⟩) (.inl ⟨rfl, rfl⟩)
       ·obtain ⟨hi', rfl⟩ := Option.isSome_iff_exists.1 e4
        subst e5
        have := (h4 0 _ hi' rfl rfl).int_inv
        exact slOf_img hu hs r hn hu' _ _ (.inl ⟨rfl, rfl⟩) (.inr ⟨k', by simp [this]⟩)
      ·obtain ⟨lo', rfl⟩ := Option.isSome_iff_exists.1 e1
       subst e2
       have q1 := (h4 0 _ lo' rfl rfl).int_inv
       rcases optBound_spec hb2 with ⟨e4, e5, e6⟩ | ⟨e4, k', e5⟩
       ·have hhi : hi = none := by simpa using e4
        subst hhi e5
        exact slOf_img hu hs r hn hu' _ _ (.inr ⟨k, by simp [q1]⟩) (.inl ⟨rfl, rfl⟩)
       ·obtain ⟨hi', rfl⟩ := Option.isSome_iff_exists.1 e4
        subst e5
        have q2 := (h4 1 _ hi' rfl rfl).int_inv
        exact slOf_img hu hs r hn hu' _ _ (.inr ⟨k, by simp [q1]⟩) (.inr ⟨k', by simp [q2]⟩)
     obtain ⟨z, h5, h6⟩ := key
     exact PR_ret (x := z) (by simp [execOp, hop, h5]) (.of_img h6)
    ·cases hp
noncomputable def okMk (P : Program) (T : TypeId) (sz : Nat) (z : V) : Bool :=
 match P.underlying T with
 | some (.slice e) => match P.info? e with
  | some i => decide (i.size = sz) && decide (0 < sz) && decide (i.bytes ≤ 65536) && (match i.zero with
   | some x => okConst z x && decide (z.cells.length = sz)
   | none => false)
  | none => false
 | _ => false
theorem okMk_spec {T : TypeId} {sz : Nat} {z : V} (hok : okMk P T sz z = true) : ∃ e i x, P.underlying T = some (.slice e) ∧ P.info? e = some i ∧ i.size = sz ∧ 0 < sz ∧ i.bytes ≤ 65536 ∧ i.zero = some x ∧ okConst z x = true ∧ z.cells.length = sz := by
 unfold okMk at hok
 split at hok
 ·rename_i e hu
  split at hok
  ·rename_i i hi
   simp only [Bool.and_eq_true, decide_eq_true_eq] at hok
   obtain ⟨⟨⟨h1, h2⟩, h3⟩, h4⟩ := hok
   split at h4
   ·rename_i x hx
    simp only [Bool.and_eq_true, decide_eq_true_eq] at h4
    exact ⟨e, i, x, hu, hi, h1, h2, h3, hx, h4.1, h4.2⟩
   ·cases h4
  ·cases hok
 ·cases hok
theorem made_cells {z : V} {x : Value} {sz n : Nat} (hz : okConst z x = true) (hl : z.cells.length = sz) (g : Gh) (w : World) : CellsOk g w (List.replicate n z) sz 0 (madeCells x.cells (n * sz)) := by
 have hx : Img g w z x := .pure (okConst_img hz _ _)
 obtain ⟨hc1, hc2⟩ := hx.cells
 obtain ⟨_, hc3⟩ := okConst_cells hz
 refine ⟨fun e he => by rw [(List.mem_replicate.1 he).2]; exact hl, fun i j e c hi hj => ?_⟩
 have hin : i < n := by
  rcases Nat.lt_or_ge i n with h | h
  ·exact h
  ·rw [List.getElem?_eq_none (by simp; omega)] at hi; cases hi
 have he : e = z := by
  rw [List.getElem?_replicate] at hi
  simp [hin] at hi
  exact hi.symm
 subst he
 have hj' : j < sz := by
  rcases Nat.lt_or_ge j sz with h | h
  ·exact h
  ·rw [List.getElem?_eq_none (by omega)] at hj; cases hj
 have hlt : i * sz + j < n * sz := by
  have : i * sz + sz ≤ n * sz := by rw [← Nat.succ_mul]; exact Nat.mul_le_mul_right _ hin
  omega
 have hxs : x.cells.size = sz := by omega
 have hmod : (i * sz + j) % sz = j := by rw [Nat.mul_comm, Nat.mul_add_mod]; exact Nat.mod_eq_of_lt hj'
 have hjx : j < x.cells.size := by omega
 have hy : x.cells[j]? = some x.cells[j] := by simp [hjx]
 refine ⟨x.cells[j], ?_, hc3 _ (by simp), hc2 j c _ hj hy⟩
 rw [Nat.zero_add]
 simp [madeCells, hlt, hxs, hmod, getElem!_pos x.cells j hjx]
theorem k_mk (s : Sim fr g st a w) {os : List O} {vs : List V} {x y : Operand} {T : TypeId} {sz : Nat} {z : V} (hop : o.op = .makeSlice T x y) (hT : okMk P T sz z = true) (hok : okOs os [x] = true) (hok2 : okOs os [y] = true) (hv : isVs os = true) (hg : getOs st os = some vs) {p : Plan} (hp : plan (.mk sz z) vs = some p) :
  PlanRun src fr g st a w h d ((execOp a.eval o).run P w) p := by
 obtain ⟨v, rfl, r⟩ := one_val s hok hv hg
 obtain ⟨v2, hv2, r2⟩ := one_val s hok2 hv hg
 simp at hv2
 subst hv2
 obtain ⟨e, i, zx, hu, hi, hsz, h0, hby, hz, hzx, hzl⟩ := okMk_spec hT
 simp only [plan, plan_mk] at hp
 split at hp
 ·rename_i k n e0
  simp at e0
  subst e0
  split at hp
  ·rename_i hn
   cases hp
   have e1 := r.int_inv
   have e2 := r2.int_inv
   have hbig : n < 2147483648 := by have h2 := hn.2; simpa [big] using h2
   have hbn : (i.bytes : Int) * n ≤ 281474976710656 := by
    have h1 : (i.bytes : Int) ≤ 65536 := by omega
    have h2 : (i.bytes : Int) * n ≤ 65536 * n := Int.mul_le_mul_of_nonneg_right h1 hn.1
    omega
   have hr := run_make (P := P) w T e i zx hu hi hz k k n n hn.1 (Int.le_refl _) hbn (by omega)
   rw [hsz] at hr
   have hcs : (madeCells zx.cells (n.toNat * sz)).size = n.toNat * sz := size_madeCells _ _
   refine ⟨_, .slice (some ⟨w.heap.size, 0, none⟩) n.toNat n.toNat, ⟨w.heap.size, 0, sz, n.toNat * sz⟩, _, by simp [execOp, hop, e1, e2, hr], .alloc w _, rfl, ⟨rfl, by simp, _, e, heap_alloc_new w _, hcs, made_cells hzx hzl _ _⟩, ?_⟩
   have := Img.row (g := g.add h ⟨w.heap.size, 0, sz, n.toNat * sz⟩) (w := w.alloc (.cells (madeCells zx.cells (n.toNat * sz)) e)) h 0 n.toNat ⟨w.heap.size, 0, sz, n.toNat * sz⟩ n.toNat (by simp [Gh.add]) (Nat.le_refl _) (by simp)
   simpa using this
  ·cases hp
 ·cases hp
end
end Go.Am
namespace Go.Am
open Go
section
variable {P : Program} {src : Nat → Nat} {fr : Fr} {g : Gh} {st : St} {a : Act} {w : World} {h : Nat} {d : D} {o : Oper}
theorem lay_list (off : Nat) : ∀ (l : List Value) (s : Nat) (cs : Array Value), ((l.zipIdx s).foldl (fun cs (x : Value × Nat) => cs.setIfInBounds (off + x.2) x.1) cs).size = cs.size ∧
  ∀ k, ((l.zipIdx s).foldl (fun cs (x : Value × Nat) => cs.setIfInBounds (off + x.2) x.1) cs)[k]? = if off + s ≤ k ∧ k < off + s + l.length ∧ k < cs.size then l[k - (off + s)]? else cs[k]?
 | [], s, cs => ⟨rfl, fun k => by
  have : ¬ (off + s ≤ k ∧ k < off + s + 0 ∧ k < cs.size) := by omega
  simp only [List.length_nil, if_neg this, List.zipIdx_nil, List.foldl_nil]⟩
 | v :: l, s, cs => by
  obtain ⟨h1, h2⟩ := lay_list off l (s + 1) (cs.setIfInBounds (off + s) v)
  simp only [List.zipIdx_cons, List.foldl_cons]
  refine ⟨by rw [h1]; simp, fun k => ?_⟩
  rw [h2 k]
  simp only [Array.size_setIfInBounds, List.length_cons]
  by_cases e1 : k = off + s
  ·subst e1
   rw [if_neg (by omega)]
   by_cases e2 : off + s < cs.size
   ·rw [if_pos (by omega)]
    simp [e2]
   ·rw [if_neg (by omega)]
    simp [e2]
  ·by_cases e2 : off + (s + 1) ≤ k ∧ k < off + (s + 1) + l.length ∧ k < cs.size
   ·rw [if_pos e2, if_pos (by omega)]
    rw [show k - (off + s) = (k - (off + (s + 1))) + 1 by omega]
    rfl
   ·rw [if_neg e2, if_neg (by omega)]
    rw [Array.getElem?_setIfInBounds_ne (by omega)]
theorem lay_cells (off : Nat) (x cs : Array Value) (hfit : off + x.size ≤ cs.size) : (x.zipIdx.foldl (fun cs (c, j) => cs.setIfInBounds (off + j) c) cs).size = cs.size ∧
  ∀ k, (x.zipIdx.foldl (fun cs (c, j) => cs.setIfInBounds (off + j) c) cs)[k]? = if off ≤ k ∧ k < off + x.size then x[k - off]? else cs[k]? := by
 have h := lay_list off x.toList 0 cs
 rw [← Array.foldl_toList, Array.toList_zipIdx]
 refine ⟨h.1, fun k => ?_⟩
 have h2 := h.2 k
 refine Eq.trans h2 ?_
 simp only [Nat.add_zero, Array.length_toList, Array.getElem?_toList]
 by_cases e : off ≤ k ∧ k < off + x.size
 ·rw [if_pos (by omega), if_pos e]
 ·rw [if_neg (by omega), if_neg e]
theorem fill_step {place : Nat → Option (Nat × Nat)} {cs : Array Value} {i off sz : Nat} {v : Value} {rest : List (Nat × Value)} (hp : place i = some (off, sz)) (hs : v.cells.size = sz) (hfit : off + sz ≤ cs.size) :
  Instr.fill place cs ((i, v) :: rest) = Instr.fill place (v.cells.zipIdx.foldl (fun cs (c, j) => cs.setIfInBounds (off + j) c) cs) rest := by
 rw [Instr.fill]
 simp only [hp]
 rw [if_neg]
 simp [hs]
 omega
theorem fill_agg {place : Nat → Option (Nat × Nat)} : ∀ (parts : List (Nat × Value)) (pl : List (Nat × Nat)) (vs z z' : List V) (cs : Array Value), fillC pl vs z = some z' → parts.map (fun p => place p.1) = pl.map some →
  (∀ (i : Nat) (v : V) (p : Nat × Value), vs[i]? = some v → parts[i]? = some p → Img g w v p.2) → CellsAt g w (.agg z) cs → ∃ cs', Instr.fill place cs parts = some cs' ∧ CellsAt g w (.agg z') cs'
 | [], [], [], z, z', cs, hf, _, _, hc => by cases hf; exact ⟨cs, rfl, hc⟩
 | (i, x) :: parts, (off, sz) :: pl, v :: vs, z, z', cs, hf, hp, hi, hc => by
  simp only [fillC] at hf
  split at hf
  ·rename_i hcond
   simp only [Bool.and_eq_true, beq_iff_eq, decide_eq_true_eq] at hcond
   obtain ⟨⟨h1, h2⟩, h3⟩ := hcond
   simp only [List.map_cons, List.cons.injEq] at hp
   have hx := hi 0 v (i, x) rfl rfl
   obtain ⟨hx1, hx2⟩ := hx.cells
   have hxs : x.cells.size = sz := by rw [← hx1, h2]
   have hsize : cs.size = z.length := hc.1
   rw [fill_step hp.1 hxs (by omega)]
   obtain ⟨l1, l2⟩ := lay_cells off x.cells cs (by omega)
   refine fill_agg parts pl vs _ z' _ hf hp.2 (fun k u p hu hpk => hi (k + 1) u p (by simpa using hu) (by simpa using hpk)) ⟨?_, fun j c hj => ?_⟩
   ·rw [l1, hsize]
    simp only [V.cells_agg, List.length_append, List.length_take, List.length_drop]
    omega
   ·simp only [V.cells_agg] at hj
    rw [l2]
    by_cases e : off ≤ j ∧ j < off + x.cells.size
    ·rw [if_pos e]
     rw [List.append_assoc, List.getElem?_append_right (by simp; omega), List.getElem?_append_left (by simp; omega)] at hj
     have : min off z.length = off := by omega
     rw [List.length_take, this] at hj
     have hlt : j - off < x.cells.size := by omega
     have hy : x.cells[j - off]? = some x.cells[j - off] := by simp [hlt]
     exact ⟨_, hy, hx.ones h1 _ _ hy, hx2 _ _ _ hj hy⟩
    ·rw [if_neg e]
     have : z[j]? = some c := by
      rcases Nat.lt_or_ge j off with hlt | hge
      ·rw [List.append_assoc, List.getElem?_append_left (by simp; omega), List.getElem?_take, if_pos hlt] at hj
       exact hj
      ·rw [List.getElem?_append_right (by simp; omega), List.getElem?_drop] at hj
       rw [← hj]
       congr 1
       simp only [List.length_append, List.length_take]
       omega
     exact hc.2 j c this
  ·cases hf
 | [], [], _ :: _, _, _, _, hf, _, _, _ => by cases hf
 | [], _ :: _, _, _, _, _, _, hp, _, _ => by cases hp
 | _ :: _, [], _, _, _, _, _, hp, _, _ => by cases hp
 | _ :: _, _ :: _, [], _, _, _, hf, _, _, _ => by cases hf
theorem parts_evals {parts : List (Nat × Operand)} {os : List O} {vs : List V} (s : Sim fr g st a w) (hok : okOs os (parts.map (·.2)) = true) (hv : isVs os = true) (hg : getOs st os = some vs) :
  vs.length = parts.length ∧ ∀ (i : Nat) (v : V) (p : Nat × Value), vs[i]? = some v → (parts.map fun q => (q.1, a.eval q.2))[i]? = some p → Img g w v p.2 := by
 obtain ⟨h1, h2⟩ := getOs_vals s hv hok hg
 refine ⟨by simpa using h1, fun i v p hu hp => ?_⟩
 rw [List.getElem?_map, Option.map_eq_some_iff] at hp
 obtain ⟨q, hq, rfl⟩ := hp
 exact h2 i v q.2 hu (by rw [List.getElem?_map, hq]; rfl)
def places (P : Program) (T : TypeId) : Option (Nat → Option (Nat × Nat)) :=
 match P.underlying T with
 | some (.array _ e) => match P.info? e with
  | some ie => some fun i => some (i * ie.size, ie.size)
  | none => none
 | some (.struct fields) => match fields.toList.mapM (fun f => (P.info? f.type).map fun i => (f.offset, i.size)) with
  | some ps => some (ps.toArray[·]?)
  | none => none
 | _ => none
def okBld (P : Program) (T : TypeId) (z : List V) (pl : List (Nat × Nat)) (parts : List (Nat × Operand)) : Bool :=
 (match places P T with
 | some place => decide (parts.map (fun p => place p.1) = pl.map some)
 | none => false) && (match (P.info? T).bind (·.zero) with
 | some (.agg x) => okConst (.agg z) (.agg x)
 | _ => false)
theorem CellsAt.of_const {z : List V} {x : Array Value} (hz : okConst (.agg z) (.agg x) = true) : CellsAt g w (.agg z) x := by
 have hx : Img g w (.agg z) (.agg x) := .pure (okConst_img hz _ _)
 obtain ⟨h1, h2⟩ := okConst_cells hz
 obtain ⟨h3, h4⟩ := hx.cells
 refine ⟨h1.symm, fun j c hj => ?_⟩
 have hlt : j < x.size := by
  have : x.size = z.length := h1.symm
  rw [this]
  rcases Nat.lt_or_ge j z.length with h | h
  ·exact h
  ·rw [V.cells_agg, List.getElem?_eq_none h] at hj; cases hj
 have hy : x[j]? = some x[j] := by simp [hlt]
 exact ⟨_, hy, h2 _ (by simp [Value.cells]), h4 j c _ hj hy⟩
theorem agg_of_at {z : List V} {cs : Array Value} (hc : CellsAt g w (.agg z) cs) : Img g w (.agg z) (.agg cs) := by
 have : cs = cs.toList.toArray := rfl
 rw [this]
 have hl : z.length = cs.toList.length := by simpa [V.cells_agg] using hc.1.symm
 refine .agg z cs.toList hl (fun v hv => ?_) (fun i c v h1 h2 => ?_)
 ·obtain ⟨i, hi, rfl⟩ := List.getElem_of_mem hv
  have hi' : i < z.length := by omega
  obtain ⟨y, h1, h2, _⟩ := hc.2 i z[i] (List.getElem?_eq_getElem hi')
  have : cs.toList[i]? = some y := by simpa using h1
  rw [List.getElem?_eq_getElem hi] at this
  cases this
  exact h2
 ·obtain ⟨y, h3, _, h4⟩ := hc.2 i c h1
  have : cs.toList[i]? = some y := by simpa using h3
  rw [h2] at this
  cases this
  exact h4
theorem k_bld (s : Sim fr g st a w) {os : List O} {vs : List V} {T : TypeId} {parts : Array (Nat × Operand)} {z : List V} {pl : List (Nat × Nat)} (hop : o.op = .build T parts) (hT : okBld P T z pl parts.toList = true) (hok : okOs os (parts.toList.map (·.2)) = true) (hv : isVs os = true) (hg : getOs st os = some vs) {p : Plan} (hp : plan (.bld z pl) vs = some p) :
  PlanRun src fr g st a w h d ((execOp a.eval o).run P w) p := by
 obtain ⟨_, hparts⟩ := parts_evals s hok hv hg
 unfold okBld at hT
 simp only [Bool.and_eq_true] at hT
 obtain ⟨h1, h2⟩ := hT
 split at h1
 ·rename_i place hpl
  simp only [decide_eq_true_eq] at h1
  split at h2
  ·rename_i x hx
   simp only [plan, plan_bld, Option.map_eq_some_iff] at hp
   obtain ⟨z', hz', rfl⟩ := hp
   obtain ⟨cs', h3, h4⟩ := fill_agg (place := place) (parts.toList.map fun q => (q.1, a.eval q.2)) pl vs z z' x hz' (by rw [← h1]; simp) hparts (CellsAt.of_const h2)
   refine PR_ret (x := .agg cs') ?_ (.of_img (agg_of_at h4))
   have hb : P.built T (parts.toList.map fun q => (q.1, a.eval q.2)) = some cs' := by
    unfold Program.built
    unfold places at hpl
    cases hq : P.info? T with
    | none => rw [hq] at hx; cases hx
    | some it =>
     rw [hq] at hx
     simp only [Option.bind_some] at hx
     split at hpl
     ·rename_i n e hu
      split at hpl
      ·rename_i ie hie
       cases hpl
       simp only [hu, hx, hie]
       exact h3
      ·cases hpl
     ·rename_i fields hu
      split at hpl
      ·rename_i ps hps
       cases hpl
       simp only [hu, hx, hps]
       exact h3
      ·cases hpl
     ·cases hpl
   have hrun := run_build (P := P) w T (parts.map fun q => (q.1, a.eval q.2)) cs' (by rw [← hb]; simp)
   simp only [execOp, hop, Sem.run_bind]
   rw [hrun]
   rfl
  ·cases h2
 ·cases h1
theorem fill_rows {size : Nat} : ∀ (parts : List (Nat × Value)) (ix : List Nat) (vs z z' : List V) (cs : Array Value), fillE size ix vs z = some z' → parts.map (·.1) = ix →
  (∀ (i : Nat) (v : V) (p : Nat × Value), vs[i]? = some v → parts[i]? = some p → Img g w v p.2) → cs.size = z.length * size → CellsOk g w z size 0 cs →
  ∃ cs', Instr.fill (fun i => some (i * size, size)) cs parts = some cs' ∧ z'.length = z.length ∧ cs'.size = cs.size ∧ CellsOk g w z' size 0 cs'
 | [], [], [], z, z', cs, hf, _, _, _, hc => by cases hf; exact ⟨cs, rfl, rfl, rfl, hc⟩
 | (i, x) :: parts, i' :: ix, v :: vs, z, z', cs, hf, hp, hi, hs, hc => by
  simp only [fillE] at hf
  split at hf
  ·rename_i hcond
   simp only [Bool.and_eq_true, beq_iff_eq, decide_eq_true_eq] at hcond
   obtain ⟨⟨h1, h2⟩, h3⟩ := hcond
   simp only [List.map_cons, List.cons.injEq] at hp
   obtain ⟨hp1, hp2⟩ := hp
   subst hp1
   have hx := hi 0 v (i, x) rfl rfl
   obtain ⟨hx1, hx2⟩ := hx.cells
   have hxs : x.cells.size = size := by rw [← hx1, h2]
   have hin : i * size + size ≤ z.length * size := by rw [← Nat.succ_mul]; exact Nat.mul_le_mul_right _ h3
   rw [fill_step (place := fun i => some (i * size, size)) rfl hxs (by omega)]
   obtain ⟨l1, l2⟩ := lay_cells (i * size) x.cells cs (by omega)
   obtain ⟨cs', q1, q2, q3, q4⟩ := fill_rows parts ix vs (z.set i v) z' _ hf hp2 (fun k u p hu hpk => hi (k + 1) u p (by simpa using hu) (by simpa using hpk)) (by rw [l1, hs]; simp) (by
    refine ⟨fun e he => ?_, fun k j e c hk hj => ?_⟩
    ·rcases List.mem_or_eq_of_mem_set he with he | rfl
     ·exact hc.1 e he
     ·exact h2
    ·rw [Nat.zero_add, l2]
     by_cases e1 : i = k
     ·subst e1
      rw [List.getElem?_set_self h3] at hk
      cases hk
      have hj' : j < size := by
       rcases Nat.lt_or_ge j size with h | h
       ·exact h
       ·rw [List.getElem?_eq_none (by omega)] at hj; cases hj
      rw [if_pos (by omega)]
      rw [show i * size + j - i * size = j by omega]
      have hlt : j < x.cells.size := by omega
      have hy : x.cells[j]? = some x.cells[j] := by simp [hlt]
      exact ⟨_, hy, hx.ones h1 _ _ hy, hx2 _ _ _ hj hy⟩
     ·rw [List.getElem?_set_ne e1] at hk
      have hj' : j < size := by
       have := hc.1 e (List.mem_of_getElem? hk)
       rcases Nat.lt_or_ge j size with h | h
       ·exact h
       ·rw [List.getElem?_eq_none (by omega)] at hj; cases hj
      rw [if_neg ?_]
      ·have := hc.2 k j e c hk hj
       rw [Nat.zero_add] at this
       exact this
      ·intro hh
       rcases Nat.lt_or_ge k i with h | h
       ·have : k * size + size ≤ i * size := by rw [← Nat.succ_mul]; exact Nat.mul_le_mul_right _ h
        omega
       ·have : i * size + size ≤ k * size := by rw [← Nat.succ_mul]; exact Nat.mul_le_mul_right _ (by omega)
        omega)
   exact ⟨cs', q1, by rw [q2]; simp, by rw [q3, l1], q4⟩
  ·cases hf
 | [], [], _ :: _, _, _, _, hf, _, _, _, _ => by cases hf
 | [], _ :: _, _, _, _, _, _, hp, _, _, _ => by cases hp
 | _ :: _, [], _, _, _, _, _, hp, _, _, _ => by cases hp
 | _ :: _, _ :: _, [], _, _, _, hf, _, _, _, _ => by cases hf
theorem run_lit {T : TypeId} {sz n : Nat} {z : V} {ix : List Nat} {parts : List (Nat × Value)} {vs zs : List V} (hT : okMk P T sz z = true) (hn : n * sz ≤ 16777216) (hz : fillE sz ix vs (List.replicate n z) = some zs) (hix : parts.map (·.1) = ix)
  (hi : ∀ (i : Nat) (v : V) (p : Nat × Value), vs[i]? = some v → parts[i]? = some p → Img g w v p.2) :
  ∃ cs e, (Instr.buildSlice T n parts.toArray).run P w = .ok (.slice (some ⟨w.heap.size, 0, none⟩) n n) (w.alloc (.cells cs e)) ∧ zs.length = n ∧ cs.size = n * sz ∧ CellsOk g w zs sz 0 cs := by
 obtain ⟨e, i, x, hu, hie, hsz, h0, hby, hz0, hzx, hzl⟩ := okMk_spec hT
 obtain ⟨cs, h1, h2, h3, h4⟩ := fill_rows (g := g) (w := w) parts ix vs _ zs _ hz hix hi (by rw [size_madeCells]; simp) (made_cells (n := n) hzx hzl g w)
 refine ⟨cs, e, ?_, by simpa using h2, by rw [h3, size_madeCells], h4⟩
 have hbig : ¬ (n * sz > 2 ^ 24) := by omega
 by_cases hn0 : n * sz = 0
 ·have hm : madeCells x.cells (n * sz) = (#[] : Array Value) := Array.eq_empty_of_size_eq_zero (by rw [size_madeCells, hn0])
  rw [hm] at h1
  have hr0 : Array.range 0 = #[] := Array.eq_empty_of_size_eq_zero (by simp)
  simp [Instr.buildSlice, run_underlying hu, sizeOf, typeInfo, hie, hsz, hn0, hr0, h1, newRow]
 ·have h1' : Instr.fill (fun i => some (i * sz, sz)) ((Array.range (n * sz)).map (x.cells[· % x.cells.size]!)) parts = some cs := h1
  have hbig' : ¬ (16777216 < n * sz) := by omega
  simp [Instr.buildSlice, run_underlying hu, sizeOf, typeInfo, zeroValue, hie, hz0, hsz, hbig', hn0, h1', newRow]
noncomputable def okLit (P : Program) (T : TypeId) (sz n : Nat) (z : V) (ix : List Nat) (parts : List (Nat × Operand)) : Bool :=
 okMk P T sz z && decide (n * sz ≤ 16777216) && decide (parts.map (·.1) = ix)
theorem k_lit (s : Sim fr g st a w) {os : List O} {vs : List V} {T : TypeId} {sz n : Nat} {z : V} {ix : List Nat} {parts : Array (Nat × Operand)} (hop : o.op = .buildSlice T n parts) (hT : okLit P T sz n z ix parts.toList = true) (hok : okOs os (parts.toList.map (·.2)) = true) (hv : isVs os = true) (hg : getOs st os = some vs) {p : Plan}
  (hp : plan (.lit sz n z ix) vs = some p) : PlanRun src fr g st a w h d ((execOp a.eval o).run P w) p := by
 obtain ⟨_, hparts⟩ := parts_evals s hok hv hg
 unfold okLit at hT
 simp only [Bool.and_eq_true, decide_eq_true_eq] at hT
 obtain ⟨⟨h1, h2⟩, h3⟩ := hT
 simp only [plan, plan_lit, Option.map_eq_some_iff] at hp
 obtain ⟨zs, hz, rfl⟩ := hp
 obtain ⟨cs, e, hr, hl, hcs, hc⟩ := run_lit (P := P) (parts := parts.toList.map fun q => (q.1, a.eval q.2)) h1 h2 hz (by rw [← h3, List.map_map]; rfl) hparts
 have hr' : (execOp a.eval o).run P w = .ok (.value (.slice (some ⟨w.heap.size, 0, none⟩) n n)) (w.alloc (.cells cs e)) := by
  have he : parts.map (fun q => (q.1, a.eval q.2)) = (parts.toList.map fun q => (q.1, a.eval q.2)).toArray := by rw [← Array.toList_map]
  simp only [execOp, hop, Sem.run_bind]
  rw [he, hr]
  rfl
 let g' : Gh := ⟨g.φ, fun b => g.I b ∨ b = w.heap.size⟩
 have hle : Gh.le g g' := ⟨fun _ _ h => h, fun _ h => .inl h⟩
 have hs : Same g.I w (w.alloc (.cells cs e)) := fun b hI => heap_alloc_old w _ (s.mem.lt b hI)
 refine ⟨_, _, g', hr', ⟨hle, rfl, fun b hb => heap_alloc_old w _ hb, by simp, rfl, rfl, rfl, fun b hb => ?_⟩, .of_img ?_⟩
 ·rcases hb with hb | rfl
  ·exact .inl hb
  ·exact .inr ⟨Nat.le_refl _, by simp⟩
 ·by_cases hn0 : zs = []
  ·subst hn0
   simp at hl
   subst hl
   exact .pure (.lst0 _ _ _ _)
  ·have hb := heap_alloc_new w (.cells cs e)
   have : Value.slice (some ⟨w.heap.size, 0, none⟩) n n = Value.slice (some ⟨w.heap.size, 0, none⟩) zs.length n := by rw [hl]
   rw [this]
   have hcell : ∀ (i j : Nat) (u c : V), zs[i]? = some u → u.cells[j]? = some c → ∃ y, cs[i * sz + j]? = some y ∧ y.oneCell' = true ∧ Img g w c y := by
    intro i j u c hi hj
    have := hc.2 i j u c hi hj
    rw [Nat.zero_add] at this
    exact this
   refine .lst false sz zs w.heap.size 0 n (fun i j => (cs[i * sz + j]?).getD undef) rfl (.inr rfl) (by omega) hc.1 (fun i j u c hi hj => ?_) (fun i j u c hi hj => ?_)
   ·obtain ⟨y, q1, q2, _⟩ := hcell i j u c hi hj
    rw [cell_of_row _ w.heap.size _ cs e (0, 0) hb]
    simp only [q1, Option.getD_some]
    exact ⟨by rw [← q1]; congr 1; omega, q2⟩
   ·obtain ⟨y, q1, _, q3⟩ := hcell i j u c hi hj
    simp only [q1, Option.getD_some]
    exact q3.mono hle hs
theorem k_hlit (s : Sim fr g st a w) (hf : g.φ h = none) {os : List O} {vs : List V} {T : TypeId} {sz n : Nat} {z : V} {ix : List Nat} {parts : Array (Nat × Operand)} (hop : o.op = .buildSlice T n parts) (hT : okLit P T sz n z ix parts.toList = true) (hok : okOs os (parts.toList.map (·.2)) = true) (hv : isVs os = true) (hg : getOs st os = some vs) {p : Plan}
  (hp : plan (.hlit sz n z ix) vs = some p) : PlanRun src fr g st a w h d ((execOp a.eval o).run P w) p := by
 obtain ⟨_, hparts⟩ := parts_evals s hok hv hg
 unfold okLit at hT
 simp only [Bool.and_eq_true, decide_eq_true_eq] at hT
 obtain ⟨⟨h1, h2⟩, h3⟩ := hT
 simp only [plan, plan_hlit, Option.map_eq_some_iff] at hp
 obtain ⟨zs, hz, rfl⟩ := hp
 obtain ⟨cs, e, hr, hl, hcs, hc⟩ := run_lit (P := P) (parts := parts.toList.map fun q => (q.1, a.eval q.2)) h1 h2 hz (by rw [← h3, List.map_map]; rfl) hparts
 have hr' : (execOp a.eval o).run P w = .ok (.value (.slice (some ⟨w.heap.size, 0, none⟩) n n)) (w.alloc (.cells cs e)) := by
  have he : parts.map (fun q => (q.1, a.eval q.2)) = (parts.toList.map fun q => (q.1, a.eval q.2)).toArray := by rw [← Array.toList_map]
  simp only [execOp, hop, Sem.run_bind]
  rw [he, hr]
  rfl
 have hle := Gh.le_add (l := ⟨w.heap.size, 0, sz, n * sz⟩) hf
 have hs : Same g.I w (w.alloc (.cells cs e)) := fun b hI => heap_alloc_old w _ (s.mem.lt b hI)
 refine ⟨_, _, ⟨w.heap.size, 0, sz, n * sz⟩, _, hr', .alloc w _, rfl, ⟨rfl, by simp [hl], cs, e, heap_alloc_new w _, hcs, hc.mono hle hs⟩, ?_⟩
 have := Img.row (g := g.add h ⟨w.heap.size, 0, sz, n * sz⟩) (w := w.alloc (.cells cs e)) h 0 n ⟨w.heap.size, 0, sz, n * sz⟩ n (by simp [Gh.add]) (Nat.le_refl _) (by simp)
 simpa using this
end
end Go.Am
namespace Go.Am
open Go
section
variable {P : Program} {src : Nat → Nat} {fr : Fr} {g : Gh} {st : St} {a : Act} {w : World} {h : Nat} {d : D} {o : Oper}
def NewsOk (g : Gh) (w : World) (xs : List V) (sz : Nat) (news : List Value) : Prop :=
 news.length = xs.length * sz ∧ (∀ e ∈ xs, e.cells.length = sz) ∧ ∀ (i j : Nat) (e c : V), xs[i]? = some e → e.cells[j]? = some c → ∃ v, news[i * sz + j]? = some v ∧ v.oneCell' = true ∧ Img g w c v
theorem NewsOk.ones {xs : List V} {sz : Nat} {news : List Value} (h : NewsOk g w xs sz news) : ∀ u ∈ news, u.oneCell' = true := by
 intro u hu
 obtain ⟨k, hk, rfl⟩ := List.getElem_of_mem hu
 have hk' : k < xs.length * sz := by rw [← h.1]; exact hk
 have hsz : 0 < sz := by
  rcases Nat.eq_zero_or_pos sz with e | e
  ·subst e; simp at hk'
  ·exact e
 have hq : k / sz < xs.length := Nat.div_lt_of_lt_mul (by rw [Nat.mul_comm]; exact hk')
 have he : xs[k / sz]? = some xs[k / sz] := List.getElem?_eq_getElem hq
 have hl : xs[k / sz].cells.length = sz := h.2.1 _ (List.getElem_mem hq)
 have hm : k % sz < xs[k / sz].cells.length := by rw [hl]; exact Nat.mod_lt _ hsz
 obtain ⟨v, h1, h2, _⟩ := h.2.2 (k / sz) (k % sz) _ _ he (List.getElem?_eq_getElem hm)
 rw [Nat.mul_comm, Nat.div_add_mod] at h1
 rw [List.getElem?_eq_getElem hk] at h1
 cases h1
 exact h2
theorem NewsOk.take {xs : List V} {sz n : Nat} {news : List Value} (h : NewsOk g w xs sz news) : NewsOk g w (xs.take n) sz (news.take (n * sz)) := by
 refine ⟨?_, fun e he => h.2.1 e (List.mem_of_mem_take he), fun i j e c hi hj => ?_⟩
 ·rw [List.length_take, List.length_take, h.1]
  rcases Nat.le_total n xs.length with h1 | h1
  ·rw [Nat.min_eq_left h1, Nat.min_eq_left (Nat.mul_le_mul_right _ h1)]
  ·rw [Nat.min_eq_right h1, Nat.min_eq_right (Nat.mul_le_mul_right _ h1)]
 ·rw [List.getElem?_take] at hi
  split at hi
  ·rename_i hin
   obtain ⟨v, h1, h2, h3⟩ := h.2.2 i j e c hi hj
   refine ⟨v, ?_, h2, h3⟩
   have hl := h.2.1 e (List.mem_of_getElem? hi)
   have hj' : j < sz := by
    rcases Nat.lt_or_ge j sz with h | h
    ·exact h
    ·rw [List.getElem?_eq_none (by omega)] at hj; cases hj
   have : i * sz + sz ≤ n * sz := by rw [← Nat.succ_mul]; exact Nat.mul_le_mul_right _ hin
   rw [List.getElem?_take, if_pos (by omega)]
   exact h1
  ·cases hi
theorem view_cells (s : Sim fr g st a w) {x : V} {y : Value} {s0 sz : Nat} {xs : List V} (hi : Img g w x y) (hv : view st.mem x = some (s0, xs)) (hs : s0 = sz ∨ xs.length = 0) :
  ∃ ad c news, y = .slice ad xs.length c ∧ NewsOk g w xs sz news ∧ (ad = none → xs = []) ∧ ∀ b, ad = some b → ∀ j v, news[j]? = some v → w.cell? (b.add j) = some v := by
 have empty : ∀ {ad : Option Addr} {c : Nat}, xs = [] → y = .slice ad 0 c → ∃ ad c news, y = .slice ad xs.length c ∧ NewsOk g w xs sz news ∧ (ad = none → xs = []) ∧ ∀ b, ad = some b → ∀ j v, news[j]? = some v → w.cell? (b.add j) = some v := by
  intro ad c h1 h2
  subst h1
  exact ⟨ad, c, [], h2, ⟨by simp, by simp, by simp⟩, fun _ => rfl, by simp⟩
 unfold view at hv
 split at hv
 ·cases hv
  exact empty rfl hi.nil_inv
 ·rename_i p s1 ys
  cases hv
  rcases hi.lst_inv with ⟨rfl, ad, c, rfl⟩ | ⟨b, o, cap, vs, rfl, hI, hcap, hsz, hcell, hr, _⟩
  ·exact empty rfl rfl
  ·by_cases h0 : xs = []
   ·subst h0; exact empty rfl rfl
   ·have hs' : s0 = sz := by
     rcases hs with h | h
     ·exact h
     ·exact absurd (List.length_eq_zero_iff.1 h) h0
    subst hs'
    refine ⟨some ⟨b, o, none⟩, cap, (List.range (xs.length * s0)).map (fun k => vs (k / s0) (k % s0)), rfl, ⟨by simp, hsz, fun i j e c he hj => ?_⟩, (by simp), fun b' hb' j v hj => ?_⟩
    ·have hl := hsz e (List.mem_of_getElem? he)
     have hj' : j < s0 := by
      rcases Nat.lt_or_ge j s0 with h | h
      ·exact h
      ·rw [List.getElem?_eq_none (by omega)] at hj; cases hj
     have hi' : i < xs.length := by
      rcases Nat.lt_or_ge i xs.length with h | h
      ·exact h
      ·rw [List.getElem?_eq_none h] at he; cases he
     have hlt : i * s0 + j < xs.length * s0 := by
      have : i * s0 + s0 ≤ xs.length * s0 := by rw [← Nat.succ_mul]; exact Nat.mul_le_mul_right _ hi'
      omega
     have hd : (i * s0 + j) / s0 = i := by rw [Nat.mul_comm, Nat.mul_add_div (by omega), Nat.div_eq_of_lt hj', Nat.add_zero]
     have hm : (i * s0 + j) % s0 = j := by rw [Nat.mul_comm, Nat.mul_add_mod]; exact Nat.mod_eq_of_lt hj'
     refine ⟨vs i j, by rw [List.getElem?_map, List.getElem?_range hlt]; simp [hd, hm], (hcell i j e c he hj).2, hr i j e c he hj⟩
    ·cases hb'
     rw [List.getElem?_map, Option.map_eq_some_iff] at hj
     obtain ⟨k, hk, rfl⟩ := hj
     have hklt : j < xs.length * s0 := by
      rcases Nat.lt_or_ge j (xs.length * s0) with h | h
      ·exact h
      ·rw [List.getElem?_eq_none (by simpa using h)] at hk; cases hk
     rw [List.getElem?_range hklt] at hk
     cases hk
     have hp : 0 < s0 := by
      rcases Nat.eq_zero_or_pos s0 with e | e
      ·subst e; simp at hklt
      ·exact e
     have hq : j / s0 < xs.length := Nat.div_lt_of_lt_mul (by rw [Nat.mul_comm]; exact hklt)
     have hl : xs[j / s0].cells.length = s0 := hsz _ (List.getElem_mem hq)
     have hm : j % s0 < xs[j / s0].cells.length := by rw [hl]; exact Nat.mod_lt _ hp
     have := (hcell (j / s0) (j % s0) _ _ (List.getElem?_eq_getElem hq) (List.getElem?_eq_getElem hm)).1
     rw [add_at, ← this]
     congr 2
     rw [Nat.add_assoc, Nat.mul_comm, Nat.div_add_mod]
 ·rename_i s1 hh oo l
  split at hv
  ·rename_i s' es hB
   split at hv
   ·rename_i hc
    obtain ⟨hc1, rfl⟩ := hc
    cases hv
    rcases hi.row_inv with ⟨loc, cap, hφ, hsz, hlc, hlim, rfl⟩ | ⟨rfl, ad, rfl⟩
    ·have hlen : ((es.drop oo).take l).length = l := by simp; omega
     by_cases h0 : l = 0
     ·subst h0; exact empty (by simp) rfl
     ·have hs' : s0 = sz := by
       rcases hs with h | h
       ·exact h
       ·omega
      subst hs'
      obtain ⟨loc', e2, hBk, _, _⟩ := s.mem.blk hh _ hB
      rw [hφ] at e2; cases e2
      obtain ⟨hS, hfit, cs, T0, hb, hcs, hcells⟩ := hBk
      have hidx : ∀ (i : Nat) (e : V), ((es.drop oo).take l)[i]? = some e → es[oo + i]? = some e := by
       intro i e he
       rw [List.getElem?_take] at he
       split at he
       ·rw [List.getElem?_drop] at he; exact he
       ·cases he
      have hin : oo * s0 + l * s0 ≤ es.length * s0 := by rw [← Nat.add_mul]; exact Nat.mul_le_mul_right _ hc1
      refine ⟨_, cap, (cs.toList.drop (loc.base + oo * s0)).take (l * s0), by rw [hlen], ⟨?_, fun e he => hcells.1 e (List.mem_of_mem_drop (List.mem_of_mem_take he)), fun i j e c he hj => ?_⟩, (by simp), fun b' hb' j v hj => ?_⟩
      ·rw [hlen]; simp; omega
      ·have he' := hidx i e he
       obtain ⟨v, h1, h2, h3⟩ := hcells.2 (oo + i) j e c he' hj
       have hl := hcells.1 e (List.mem_of_getElem? he')
       have hj' : j < s0 := by
        rcases Nat.lt_or_ge j s0 with h | h
        ·exact h
        ·rw [List.getElem?_eq_none (by omega)] at hj; cases hj
       have hi' : i < l := by
        rcases Nat.lt_or_ge i l with h | h
        ·exact h
        ·rw [List.getElem?_eq_none (by omega)] at he; cases he
       have : i * s0 + s0 ≤ l * s0 := by rw [← Nat.succ_mul]; exact Nat.mul_le_mul_right _ hi'
       refine ⟨v, ?_, h2, h3⟩
       rw [List.getElem?_take, if_pos (by omega), List.getElem?_drop]
       rw [Nat.add_mul] at h1
       simp only [Array.getElem?_toList]
       rw [← h1]
       congr 1
       omega
      ·cases hb'
       rw [List.getElem?_take] at hj
       split at hj
       ·rw [List.getElem?_drop] at hj
        rw [add_at, cell_of_row w loc.b _ cs T0 (0, 0) hb, hS]
        simpa using hj
       ·cases hj
    ·exact empty (by simp) rfl
   ·cases hv
  ·cases hv
 ·cases hv
theorem view_src (s : Sim fr g st a w) {x : V} {y : Value} {s0 sz : Nat} {xs : List V} {tx e' : TypeId} (ht : P.underlying tx = some (.slice e')) (hi : Img g w x y) (hv : view st.mem x = some (s0, xs)) (hs : s0 = sz ∨ xs.length = 0) :
  ∃ news, Src P sz tx y xs.length news w ∧ NewsOk g w xs sz news := by
 obtain ⟨ad, c, news, rfl, h1, h2, h3⟩ := view_cells s hi hv hs
 refine ⟨news, ?_, h1⟩
 cases ad with
 | none =>
  have := h2 rfl
  subst this
  have hn : news = [] := List.length_eq_zero_iff.1 (by rw [h1.1]; simp)
  subst hn
  exact .ofNil w ht c
 | some b => exact .ofSlice w ht b _ c news h1.1 (h3 b rfl) h1.ones
theorem CellsOk.append {es xs : List V} {sz base : Nat} {cs : Array Value} {olds news : List Value} (h1 : ∀ e ∈ es, e.cells.length = sz) (hb : olds.length = base + es.length * sz) (hc1 : ∀ (i j : Nat) (e c : V), es[i]? = some e → e.cells[j]? = some c → ∃ v, olds[base + i * sz + j]? = some v ∧ v.oneCell' = true ∧ Img g w c v)
  (hn : NewsOk g w xs sz news) {rest : List Value} (hcs : cs.toList = olds ++ news ++ rest) : CellsOk g w (es ++ xs) sz base cs := by
 refine ⟨fun e he => ?_, fun i j e c hi hj => ?_⟩
 ·rcases List.mem_append.1 he with he | he
  ·exact h1 e he
  ·exact hn.2.1 e he
 ·have hget : ∀ k : Nat, cs[k]? = (olds ++ news ++ rest)[k]? := fun k => by rw [← hcs]; simp
  have small : ∀ {l : List Value} {k : Nat} {v : Value}, l[k]? = some v → k < l.length := by
   intro l k v hl
   rcases Nat.lt_or_ge k l.length with h | h
   ·exact h
   ·rw [List.getElem?_eq_none h] at hl; cases hl
  by_cases hlt : i < es.length
  ·rw [List.getElem?_append_left hlt] at hi
   obtain ⟨v, q1, q2, q3⟩ := hc1 i j e c hi hj
   refine ⟨v, ?_, q2, q3⟩
   rw [hget, List.append_assoc, List.getElem?_append_left (small q1)]
   exact q1
  ·rw [List.getElem?_append_right (by omega)] at hi
   obtain ⟨v, q1, q2, q3⟩ := hn.2.2 _ j e c hi hj
   refine ⟨v, ?_, q2, q3⟩
   have e1 : base + i * sz + j = olds.length + ((i - es.length) * sz + j) := by
    rw [hb]
    have : i * sz = es.length * sz + (i - es.length) * sz := by rw [← Nat.add_mul]; congr 1; omega
    omega
   rw [hget, e1, List.append_assoc, List.getElem?_append_right (by omega), Nat.add_sub_cancel_left, List.getElem?_append_left (small q1)]
   exact q1
noncomputable def okApp (P : Program) (T tx : TypeId) (sz : Nat) : Bool :=
 (match P.underlying T with
 | some (.slice e) => match P.info? e with
  | some i => decide (i.size = sz) && decide (i.bytes ≤ 65536) && (match i.zero with
   | some x => decide (x.cells.size = sz)
   | none => false)
  | none => false
 | _ => false) && (match P.underlying tx with | some (.slice _) => true | _ => false)
theorem okApp_spec {T tx : TypeId} {sz : Nat} (hok : okApp P T tx sz = true) : ∃ e i x e', P.underlying T = some (.slice e) ∧ P.info? e = some i ∧ i.size = sz ∧ i.bytes ≤ 65536 ∧ i.zero = some x ∧ x.cells.size = sz ∧ P.underlying tx = some (.slice e') := by
 unfold okApp at hok
 simp only [Bool.and_eq_true] at hok
 obtain ⟨hok, hok2⟩ := hok
 split at hok2
 ·rename_i e' hu'
  split at hok
  ·rename_i e hu
   split at hok
   ·rename_i i hi
    simp only [Bool.and_eq_true, decide_eq_true_eq] at hok
    obtain ⟨⟨h1, h3⟩, h4⟩ := hok
    split at h4
    ·rename_i x hx
     simp only [decide_eq_true_eq] at h4
     exact ⟨e, i, x, e', hu, hi, h1, h3, hx, h4, hu'⟩
    ·cases h4
   ·cases hok
  ·cases hok
 ·cases hok2
theorem run_append_into {t tx ty e : TypeId} {i : TypeInfo} (ht : P.underlying t = some (.slice e)) (hi : P.info? e = some i) (base : Option Addr) (sLen sCap : Nat) (x : Value) (n : Nat) (news : List Value) (hs : Src P i.size tx x n news w) (hroom : sLen + n ≤ sCap) {w' : World}
  (hst : ∀ b, base = some b → (storeCells (b.add (sLen * i.size)) news).run P w = .ok () w') (hn : base = none → w' = w) :
  (Builtin.append_ #[t, tx] ty #[.slice base sLen sCap, x]).run P w = .ok (.slice base (sLen + n) sCap) w' := by
 cases base with
 | none =>
  have := hn rfl
  subst this
  rcases hs.kind with ⟨e', hk⟩ | hk <;> simp [Builtin.append_, run_underlying ht, run_underlying hk, sizeOf, typeInfo, hi, hs.len, hroom, hs.cells]
 | some b =>
  have := hst b rfl
  rcases hs.kind with ⟨e', hk⟩ | hk <;> simp [Builtin.append_, run_underlying ht, run_underlying hk, sizeOf, typeInfo, hi, hs.len, hroom, hs.cells, this]
theorem firstCells_zero (size : Nat) (ad : Option Addr) (l c : Nat) (w : World) : (Builtin.firstCells size 0 (.slice ad l c)).run P w = .ok #[] w := by
 cases ad with
 | none => simp [Builtin.firstCells]
 | some b =>
  have hl : (loadCells b 0).run P w = .ok #[] w := by simpa using run_loadCells_list (P := P) w b [] (by simp)
  simp [Builtin.firstCells, hl]
end
end Go.Am
namespace Go.Am
open Go
section
variable {P : Program} {src : Nat → Nat} {fr : Fr} {g : Gh} {st : St} {a : Act} {w : World} {h : Nat} {d : D} {o : Oper}
theorem size_toArray_append {olds news : List Value} {z : Array Value} {m : Nat} : ((olds ++ news).toArray ++ Builtin.zeroCells z m).size = olds.length + news.length + m * z.size := by
 simp [size_zeroCells]
theorem run_app_exec {x y : Operand} {ts : Array TypeId} (hop : o.op = .call { callee := .builtin .append, args := #[x, y], argTypes := ts }) {v : Value} {w' : World} (hr : (Builtin.append_ ts o.type #[a.eval x, a.eval y]).run P w = .ok v w') :
  (execOp a.eval o).run P w = .ok (.value v) w' := by
 simp [execOp, hop, resolve, invoke, builtin, hr]
theorem grow_new (s : Sim fr g st a w) (hf : g.φ h = none) {xs es : List V} {sz need cap : Nat} {olds news : List Value} {z : Array Value} {e : TypeId} (hz : z.size = sz) (ho : olds.length = es.length * sz)
  (h1 : ∀ e ∈ es, e.cells.length = sz) (hc1 : ∀ (i j : Nat) (e c : V), es[i]? = some e → e.cells[j]? = some c → ∃ v, olds[i * sz + j]? = some v ∧ v.oneCell' = true ∧ Img g w c v) (hn : NewsOk g w xs sz news) (hneed : need = es.length + xs.length) (hcap : need ≤ cap) :
  ∃ (w' : World) (loc : Loc) (ob : Obj), w' = w.drew.alloc (.cells ((olds ++ news).toArray ++ Builtin.zeroCells z (cap - need)) e) ∧ New w w' ob ∧ loc.b = w.heap.size ∧ BlkOk (g.add h loc) w' loc (.row sz (es ++ xs)) ∧ Img (g.add h loc) w' (.row sz h 0 need) (.slice (some ⟨w.heap.size, 0, none⟩) need cap) := by
 have hsize : ((olds ++ news).toArray ++ Builtin.zeroCells z (cap - need)).size = cap * sz := by
  rw [size_toArray_append, ho, hn.1, hz, ← Nat.add_mul, ← Nat.add_mul]
  congr 1
  omega
 have hle := Gh.le_add (l := ⟨w.heap.size, 0, sz, cap * sz⟩) hf
 have hs : Same g.I w (w.drew.alloc (.cells ((olds ++ news).toArray ++ Builtin.zeroCells z (cap - need)) e)) := fun b hI => heap_alloc_old w.drew _ (s.mem.lt b hI)
 have hbl : (es ++ xs).length * sz ≤ cap * sz := Nat.mul_le_mul_right _ (by rw [List.length_append]; omega)
 refine ⟨_, ⟨w.heap.size, 0, sz, cap * sz⟩, _, rfl, .drew w _, rfl, ⟨rfl, by simpa using hbl, _, e, heap_alloc_new w.drew _, hsize, ?_⟩, ?_⟩
 ·refine CellsOk.mono hle hs (CellsOk.append (olds := olds) (news := news) (rest := (Builtin.zeroCells z (cap - need)).toList) h1 (by simpa using ho) (fun i j e c hi hj => by simpa using hc1 i j e c hi hj) hn (by simp))
 ·have := Img.row (g := g.add h ⟨w.heap.size, 0, sz, cap * sz⟩) (w := w.drew.alloc (.cells ((olds ++ news).toArray ++ Builtin.zeroCells z (cap - need)) e)) h 0 need ⟨w.heap.size, 0, sz, cap * sz⟩ cap (by simp [Gh.add]) hcap (by simp)
  simpa using this
theorem fits {need old bytes : Nat} (h : old < need) (h1 : need < 2147483648) (h2 : bytes ≤ 65536) : Builtin.nextslicecap need old * bytes ≤ 281474976710656 := by
 refine growslice_fits h ?_
 calc need * bytes ≤ need * 65536 := Nat.mul_le_mul_left _ h2
  _ ≤ 140737488355328 := by omega
theorem k_app (s : Sim fr g st a w) (hf : g.φ h = none) {os : List O} {vs : List V} {x y : Operand} {ts : Array TypeId} {T tx : TypeId} {sz : Nat} (hop : o.op = .call { callee := .builtin .append, args := #[x, y], argTypes := ts }) (hts : ts = #[T, tx]) (hT : okApp P T tx sz = true)
  (hok : okOs os [x, y] = true) (hv : isVs os = true) (hg : getOs st os = some vs) {p : Plan} (hp : plan (.app sz) vs = some p) : PlanRun src fr g st a w h d ((execOp a.eval o).run P w) p := by
 obtain ⟨v, u, rfl, r1, r2⟩ := two_vals s hok hv hg
 obtain ⟨e, i, zx, e', hu, hi, hsz, hby, hz, hzs, hux⟩ := okApp_spec hT
 subst hts
 simp only [plan, plan_app] at hp
 split at hp
 ·rename_i u' e0
  simp at e0
  obtain ⟨rfl, rfl⟩ := e0
  cases hp
  intro s0 xs hview
  have e1 := r1.nil_inv
  refine ⟨fun _ hxs => ?_, fun _ hxs hs0 hlen => ?_, fun h' oo l es h => by cases h⟩
  ·subst hxs
   obtain ⟨news, hsrc, hn⟩ := view_src s (sz := i.size) hux r2 hview (.inr rfl)
   have hr := run_append_into (w := w) (w' := w) (ty := o.type) hu hi none 0 0 (a.eval y) 0 news hsrc (Nat.le_refl _) (fun b h => by cases h) (fun _ => rfl)
   exact ⟨.slice none 0 0, run_app_exec hop (by rw [e1]; exact hr), .pure .nil⟩
  ·obtain ⟨news, hsrc, hn⟩ := view_src s (sz := i.size) hux r2 hview (.inl (by rw [hs0, hsz]))
   have hpos : 0 < xs.length := List.length_pos_iff.2 hxs
   have hbig : xs.length < 2147483648 := hlen
   have hr := run_append_grow_src w T tx o.type e i zx hu hi hz none 0 0 [] (by simp [run_firstCells_none]) (a.eval y) xs.length news hsrc (by omega) (by omega) (fits (by omega) (by omega) hby)
   simp only [List.nil_append, Nat.zero_add] at hr
   rw [hsz] at hn
   obtain ⟨w', loc, ob, e2, q1, q2, q3, q4⟩ := grow_new s hf (xs := xs) (es := []) (sz := sz) (need := xs.length) (cap := grownCap w xs.length 0 e) (olds := []) (news := news) (z := zx.cells) (e := e) hzs (by simp) (by simp) (by simp) hn (by simp) (grownCap_ge w _ _ e)
   refine ⟨w', _, loc, ob, run_app_exec hop (by rw [e1, e2]; exact hr), q1, q2, q3, q4⟩
 ·rename_i s1 h' oo l u' e0
  simp at e0
  obtain ⟨rfl, rfl⟩ := e0
  split at hp
  ·rename_i hs1
   subst hs1
   cases hp
   intro s0 xs hview
   refine ⟨fun h => (by cases h), fun h => (by cases h), fun h2 o2 l2 es heq hs0 hlen hB hol => ?_⟩
   cases heq
   have hbig : l + xs.length < 2147483648 := hlen
   obtain ⟨news, hsrc, hn⟩ := view_src s (sz := i.size) hux r2 hview (by rw [hsz]; exact hs0)
   obtain ⟨loc, hφ, hBk, hnI, hlt⟩ := s.mem.blk h' _ hB
   obtain ⟨hS, hfit, cs, T0, hb, hcs, hc⟩ := hBk
   have hidx : ∀ (i : Nat) (e : V), ((es.drop oo).take l)[i]? = some e → es[oo + i]? = some e := by
    intro i e he
    rw [List.getElem?_take] at he
    split at he
    ·rw [List.getElem?_drop] at he; exact he
    ·cases he
   have hlen2 : ((es.drop oo).take l).length = l := by simp; omega
   have hin : oo * s1 + l * s1 ≤ es.length * s1 := by rw [← Nat.add_mul]; exact Nat.mul_le_mul_right _ hol
   have hold : ∀ (i j : Nat) (e c : V), ((es.drop oo).take l)[i]? = some e → e.cells[j]? = some c → ∃ v, cs[loc.base + oo * s1 + (i * s1 + j)]? = some v ∧ v.oneCell' = true ∧ Img g w c v ∧ i * s1 + j < l * s1 := by
    intro i j e c he hj
    have he' := hidx i e he
    obtain ⟨v, q1, q2, q3⟩ := hc.2 (oo + i) j e c he' hj
    have hl := hc.1 e (List.mem_of_getElem? he')
    have hj' : j < s1 := by
     rcases Nat.lt_or_ge j s1 with h | h
     ·exact h
     ·rw [List.getElem?_eq_none (by omega)] at hj; cases hj
    have hi' : i < l := by
     rcases Nat.lt_or_ge i l with h | h
     ·exact h
     ·rw [List.getElem?_eq_none (by omega)] at he; cases he
    have : i * s1 + s1 ≤ l * s1 := by rw [← Nat.succ_mul]; exact Nat.mul_le_mul_right _ hi'
    refine ⟨v, ?_, q2, q3, by omega⟩
    rw [← q1]
    congr 1
    rw [Nat.add_mul]
    omega
   have hels : ∀ e ∈ (es.drop oo).take l, e.cells.length = s1 := fun e he => hc.1 e (List.mem_of_mem_drop (List.mem_of_mem_take he))
   have grow : ∀ {ad : Addr} {cap : Nat} {olds : List Value}, a.eval x = .slice (some ad) l cap → cap < l + xs.length → olds.length = l * s1 → (Builtin.firstCells i.size l (.slice (some ad) l cap)).run P w.drew = .ok olds.toArray w.drew →
     (∀ (i j : Nat) (e c : V), ((es.drop oo).take l)[i]? = some e → e.cells[j]? = some c → ∃ v, olds[i * s1 + j]? = some v ∧ v.oneCell' = true ∧ Img g w c v) →
     ∃ w' y loc ob, (execOp a.eval o).run P w = .ok (.value y) w' ∧ (New w w' ob ∧ loc.b = w.heap.size ∨ ∃ loc0, g.φ h' = some loc0 ∧ loc.b = loc0.b ∧ Upd w w' loc0.b ob) ∧
      BlkOk (g.add h loc) w' loc (.row s1 ((es.drop oo).take l ++ xs)) ∧ Img (g.add h loc) w' (.row s1 h 0 (l + xs.length)) y := by
    intro ad cap olds e1 hcap holds hfc hcells
    have hr := run_append_grow_src w T tx o.type e i zx hu hi hz (some ad) l cap olds hfc (a.eval y) xs.length news hsrc hcap (by omega) (fits hcap hbig hby)
    rw [hsz] at hn
    obtain ⟨w', loc', ob, e2, q1, q2, q3, q4⟩ := grow_new s hf (xs := xs) (es := (es.drop oo).take l) (sz := s1) (need := l + xs.length) (cap := grownCap w (l + xs.length) cap e) (olds := olds) (news := news) (z := zx.cells) (e := e) hzs (by rw [hlen2, holds]) hels hcells hn (by rw [hlen2]) (grownCap_ge w _ _ e)
    exact ⟨w', _, loc', ob, run_app_exec hop (by rw [e1, e2]; exact hr), .inl ⟨q1, q2⟩, q3, q4⟩
   rcases r1.row_inv with ⟨loc', cap, hφ', hls, hlc, hlim, e1⟩ | ⟨h0, ad, e1⟩
   ·rw [hφ] at hφ'
    cases hφ'
    by_cases hroom : l + xs.length ≤ cap
    ·
     rw [hsz] at hn
     have hcapin : oo * s1 + cap * s1 ≤ loc.lim - loc.base := by
      rw [hls, Nat.add_mul] at hlim; omega
     have hrm : l * s1 + xs.length * s1 ≤ cap * s1 := by rw [← Nat.add_mul]; exact Nat.mul_le_mul_right _ hroom
     have hblim : loc.base + (oo * s1 + cap * s1) ≤ loc.lim := by rw [hls, Nat.add_mul] at hlim; exact hlim
     have hst := run_storeCells_at (P := P) loc.b (loc.base + oo * s1 + l * s1) T0 news 0 cs w hb (by rw [hn.1]; omega) hn.ones
     have hr := run_append_into (w := w) (ty := o.type) hu hi (some ⟨loc.b, loc.base + oo * s1, none⟩) l cap (a.eval y) xs.length news hsrc hroom (fun b hb' => by cases hb'; rw [hsz, add_at]; exact hst) (fun h => by cases h)
     have hU := setRow_upd hb ((cs.toList.take (loc.base + oo * s1 + l * s1 + 0) ++ news ++ cs.toList.drop (loc.base + oo * s1 + l * s1 + 0 + news.length)).toArray)
     have hle : Gh.le g (g.add h ⟨loc.b, loc.base + oo * s1, s1, loc.lim⟩) := Gh.le_add hf
     have hsame : Same g.I w _ := fun b hI => hU.other b (fun e => hnI (e ▸ hI))
     refine ⟨_, _, ⟨loc.b, loc.base + oo * s1, s1, loc.lim⟩, _, run_app_exec hop (by rw [e1, hls]; exact hr), .inr ⟨loc, hφ, rfl, hU⟩, ?_, ?_⟩
     ·refine ⟨rfl, ?_, _, T0, hU.here, ?_, CellsOk.mono hle hsame ?_⟩
      ·simp only [List.length_append, hlen2, Nat.add_mul]; omega
      ·simp only [List.size_toArray, List.length_append, List.length_take, List.length_drop, Array.length_toList, hn.1]
       omega
      ·have hpre : (cs.toList.take (loc.base + oo * s1 + l * s1)).length = loc.base + oo * s1 + l * s1 := by
        rw [List.length_take, Array.length_toList]; omega
       refine CellsOk.append (olds := cs.toList.take (loc.base + oo * s1 + l * s1)) (news := news) (rest := cs.toList.drop (loc.base + oo * s1 + l * s1 + 0 + news.length)) hels (by rw [hpre, hlen2]) (fun i j e c he hj => ?_) hn (by simp)
       obtain ⟨v, q1, q2, q3, q4⟩ := hold i j e c he hj
       refine ⟨v, ?_, q2, q3⟩
       show (cs.toList.take (loc.base + oo * s1 + l * s1))[loc.base + oo * s1 + i * s1 + j]? = some v
       rw [List.getElem?_take, if_pos (by omega)]
       simp only [Array.getElem?_toList]
       rw [← q1]
       congr 1
       omega
     ·have := Img.row (g := g.add h ⟨loc.b, loc.base + oo * s1, s1, loc.lim⟩) (w := w.setRow loc.b ((cs.toList.take (loc.base + oo * s1 + l * s1 + 0) ++ news ++ cs.toList.drop (loc.base + oo * s1 + l * s1 + 0 + news.length)).toArray)) h 0 (l + xs.length) ⟨loc.b, loc.base + oo * s1, s1, loc.lim⟩ cap (by simp [Gh.add]) hroom (by simp only [Nat.zero_add]; omega)
      simpa using this
    ·have hcell : ∀ (j : Nat) (v : Value), ((cs.toList.drop (loc.base + oo * s1)).take (l * s1))[j]? = some v → w.cell? ((⟨loc.b, loc.base + oo * loc.sz, none⟩ : Addr).add j) = some v := by
      intro j v hj
      rw [List.getElem?_take] at hj
      split at hj
      ·rw [List.getElem?_drop] at hj
       rw [add_at, cell_of_row w loc.b _ cs T0 (0, 0) hb, hls]
       simpa using hj
      ·cases hj
     have hlo : ((cs.toList.drop (loc.base + oo * s1)).take (l * s1)).length = l * s1 := by
      simp only [List.length_take, List.length_drop, Array.length_toList]
      omega
     refine grow e1 (by omega) hlo (run_firstCells_some w.drew i.size l _ l cap _ (by rw [hlo, hsz]) (by simpa using hcell)) (fun i j e c he hj => ?_)
     obtain ⟨v, q1, q2, q3, q4⟩ := hold i j e c he hj
     refine ⟨v, ?_, q2, q3⟩
     rw [List.getElem?_take, if_pos q4, List.getElem?_drop]
     simpa using q1
   ·subst h0
    by_cases hroom : xs.length = 0
    ·have hxs : xs = [] := List.length_eq_zero_iff.1 hroom
     subst hxs
     have hnn : news = [] := List.length_eq_zero_iff.1 (by rw [hn.1]; simp)
     subst hnn
     have hr := run_append_into (w := w) (w' := w) (ty := o.type) hu hi (some ad) 0 0 (a.eval y) 0 [] hsrc (Nat.le_refl _) (fun b _ => by simp [storeCells]) (fun h => by cases h)
     have hU : Upd w w loc.b (.cells cs T0 (0, 0)) := ⟨hb, fun _ _ => rfl, rfl, rfl, rfl, rfl⟩
     refine ⟨w, _, ⟨loc.b, 0, s1, loc.lim⟩, _, run_app_exec hop (by rw [e1]; exact hr), .inr ⟨loc, hφ, rfl, hU⟩, ⟨rfl, by simp, cs, T0, hb, hcs, ⟨by simp, by simp⟩⟩, ?_⟩
     exact .row0 _ _ _ _
    ·exact grow e1 (by omega) (olds := []) (by simp) (firstCells_zero i.size _ _ _ _) (by simp)
  ·cases hp
 ·cases hp
theorem k_cpy (s : Sim fr g st a w) {os : List O} {vs : List V} {x y : Operand} {ts : Array TypeId} {T tx : TypeId} {sz : Nat} (hop : o.op = .call { callee := .builtin .copy, args := #[x, y], argTypes := ts }) (hts : ts = #[T, tx]) (hT : okSlc P T sz = true)
  (hok : okOs os [x, y] = true) (hv : isVs os = true) (hg : getOs st os = some vs) {p : Plan} (hp : plan (.cpy sz) vs = some p) : PlanRun src fr g st a w h d ((execOp a.eval o).run P w) p := by
 obtain ⟨v, u, rfl, r1, r2⟩ := two_vals s hok hv hg
 obtain ⟨e, hu, hs⟩ := okSlc_spec hT
 subst hts
 simp only [plan, plan_cpy] at hp
 split at hp
 ·rename_i s1 h' oo l u' e0
  simp at e0
  obtain ⟨rfl, rfl⟩ := e0
  split at hp
  ·rename_i hs1
   subst hs1
   cases hp
   intro s0 xs es hview hB hs0 hol
   obtain ⟨ad, c, news, e2, hn, hn1, hn2⟩ := view_cells s r2 hview hs0
   obtain ⟨loc, hφ, hBk, hnI, hlt⟩ := s.mem.blk h' _ hB
   obtain ⟨hS, hfit, cs, T0, hb, hcs, hc⟩ := hBk
   obtain ⟨m, hm⟩ : ∃ m, m = min l xs.length := ⟨_, rfl⟩
   rw [← hm]
   have hml : m ≤ l := by omega
   have hmx : m ≤ xs.length := by omega
   have hmc : Nat.min xs.length l = m := by rw [hm]; exact Nat.min_comm _ _
   have hn' := hn.take (n := m)
   have hmin : (xs.take (m)).length = m := by rw [List.length_take]; omega
   have hnl : (news.take (m * s1)).length = m * s1 := by rw [hn'.1, hmin]
   have hfc : (Builtin.firstCells s1 (m) (a.eval y)).run P w = .ok (news.take (m * s1)).toArray w := by
    rw [e2]
    cases ad with
    | none =>
     have := hn1 rfl
     subst this
     have h0 : news = [] := List.length_eq_zero_iff.1 (by rw [hn.1]; simp)
     subst h0
     simp [run_firstCells_none]
    | some b => exact run_firstCells_some w s1 (m) b _ c _ hnl (fun j v hj => by
      rw [List.getElem?_take] at hj
      split at hj
      ·exact hn2 b rfl j v hj
      ·cases hj)
   have hlen : (Builtin.lenOf (a.eval y)).run P w = .ok xs.length w := by rw [e2]; rfl
   have hsz : (sizeOf e).run P w = .ok s1 w := run_sizeOf' hs w
   have copy : ∀ {b : Addr} {cap : Nat} {w' : World}, a.eval x = .slice (some b) l cap → (storeCells b (news.take (m * s1))).run P w = .ok () w' → (execOp a.eval o).run P w = .ok (.value (.int .i64 (m : Nat))) w' := by
    intro b cap w' e1 hst
    have hr : (Builtin.copy_ #[T, tx] o.type #[a.eval x, a.eval y]).run P w = .ok (goInt m) w' := by
     simp only [Builtin.copy_, e1]
     simp [run_underlying hu, hlen, hsz, hmc, hfc, hst]
    simp [execOp, hop, resolve, invoke, builtin, hr, goInt]
   rcases r1.row_inv with ⟨loc', cap, hφ', hls, hlc, hlim, e1⟩ | ⟨h0, b, e1⟩
   ·rw [hφ] at hφ'
    cases hφ'
    have hin : oo * s1 + l * s1 ≤ es.length * s1 := by rw [← Nat.add_mul]; exact Nat.mul_le_mul_right _ hol
    have hmn : m * s1 ≤ l * s1 := Nat.mul_le_mul_right _ hml
    have hst := run_storeCells_at (P := P) loc.b (loc.base + oo * s1) T0 (news.take (m * s1)) 0 cs w hb (by rw [hnl]; omega) hn'.ones
    have hU := setRow_upd hb ((cs.toList.take (loc.base + oo * s1 + 0) ++ news.take (m * s1) ++ cs.toList.drop (loc.base + oo * s1 + 0 + (news.take (m * s1)).length)).toArray)
    have hsame : Same g.I w _ := fun b hI => hU.other b (fun e => hnI (e ▸ hI))
    refine ⟨_, loc, _, copy (by rw [e1, hls]) hst, hφ, hU, hS, ?_, _, T0, hU.here, ?_, CellsOk.mono (.refl g) hsame ?_⟩
    ·have : (es.take oo ++ xs.take (m) ++ es.drop (oo + m)).length = es.length := by
      simp only [List.length_append, hmin, List.length_take, List.length_drop]; omega
     rw [this]; exact hfit
    ·simp only [List.size_toArray, List.length_append, List.length_take, List.length_drop, Array.length_toList, hnl] at *
     omega
    ·have hpre : (cs.toList.take (loc.base + oo * s1 + 0)).length = loc.base + oo * s1 := by rw [List.length_take, Array.length_toList]; omega
     have heo : (es.take oo).length = oo := by rw [List.length_take]; omega
     have hels : ∀ e ∈ es.take oo ++ xs.take m ++ es.drop (oo + m), e.cells.length = s1 := by
      intro e he
      rcases List.mem_append.1 he with he | he
      ·rcases List.mem_append.1 he with he | he
       ·exact hc.1 e (List.mem_of_mem_take he)
       ·exact hn'.2.1 e he
      ·exact hc.1 e (List.mem_of_mem_drop he)
     refine ⟨hels, fun i j e c hi hj => ?_⟩
     have hj' : j < s1 := by
      have := hels e (List.mem_of_getElem? hi)
      rcases Nat.lt_or_ge j s1 with h | h
      ·exact h
      ·rw [List.getElem?_eq_none (by omega)] at hj; cases hj
     have old : ∀ {k : Nat}, es[k]? = some e → ∃ v, cs.toList[loc.base + k * s1 + j]? = some v ∧ v.oneCell' = true ∧ Img g w c v := by
      intro k hk
      obtain ⟨v, q1, q2, q3⟩ := hc.2 k j e c hk hj
      exact ⟨v, by simpa using q1, q2, q3⟩
     simp only [List.getElem?_toArray]
     by_cases c1 : i < oo
     ·rw [List.append_assoc, List.getElem?_append_left (by omega), List.getElem?_take, if_pos c1] at hi
      obtain ⟨v, q1, q2, q3⟩ := old hi
      have : i * s1 + s1 ≤ oo * s1 := by rw [← Nat.succ_mul]; exact Nat.mul_le_mul_right _ c1
      refine ⟨v, ?_, q2, q3⟩
      rw [List.append_assoc, List.getElem?_append_left (by omega), List.getElem?_take, if_pos (by omega)]
      exact q1
     ·by_cases c2 : i < oo + m
      ·rw [List.append_assoc, List.getElem?_append_right (by omega), heo, List.getElem?_append_left (by omega)] at hi
       obtain ⟨v, q1, q2, q3⟩ := hn'.2.2 _ j e c hi hj
       refine ⟨v, ?_, q2, q3⟩
       have e3 : i * s1 = oo * s1 + (i - oo) * s1 := by rw [← Nat.add_mul]; congr 1; omega
       have e4 : (i - oo) * s1 + s1 ≤ m * s1 := by rw [← Nat.succ_mul]; exact Nat.mul_le_mul_right _ (by omega)
       rw [List.append_assoc, List.getElem?_append_right (by omega), hpre, List.getElem?_append_left (by omega)]
       rw [← q1]
       congr 1
       omega
      ·rw [List.getElem?_append_right (by rw [List.length_append]; omega), List.length_append, heo, hmin, List.getElem?_drop, show oo + m + (i - (oo + m)) = i by omega] at hi
       obtain ⟨v, q1, q2, q3⟩ := old hi
       refine ⟨v, ?_, q2, q3⟩
       have e3 : i * s1 = oo * s1 + m * s1 + (i - (oo + m)) * s1 := by rw [← Nat.add_mul, ← Nat.add_mul]; congr 1; omega
       rw [List.getElem?_append_right (by rw [List.length_append]; omega), List.length_append, hpre, hnl, List.getElem?_drop]
       rw [← q1]
       congr 1
       omega
   ·subst h0
    have hm0 : m = 0 := by omega
    subst hm0
    have hU : Upd w w loc.b (.cells cs T0 (0, 0)) := ⟨hb, fun _ _ => rfl, rfl, rfl, rfl, rfl⟩
    refine ⟨w, loc, _, copy e1 (by simp [storeCells]), hφ, hU, ?_⟩
    have : es.take oo ++ xs.take 0 ++ es.drop (oo + 0) = es := by simp
    rw [this]
    exact ⟨hS, hfit, cs, T0, hb, hcs, hc⟩
  ·cases hp
 ·cases hp
end
end Go.Am
namespace Go.Am
open Go
section
variable {P : Program} {src : Nat → Nat} {fr : Fr} {g : Gh} {st : St} {a : Act} {w : World} {h : Nat} {d : D} {o : Oper}
theorem k_mkm {os : List O} {vs : List V} {T : TypeId} (hop : o.op = .makeMap T none) (hg : getOs st os = some vs) {p : Plan} (hp : plan .mkm vs = some p) :
  PlanRun src fr g st a w h d ((execOp a.eval o).run P w) p := by
 simp only [plan, plan_mkm] at hp
 split at hp
 ·cases hp
  exact ⟨w.alloc (.map #[] 0), .map (some w.heap.size), ⟨w.heap.size, 0, 0, 0⟩, _, by simp [execOp, hop, Instr.makeMap], .alloc w _, rfl, ⟨#[], 0, heap_alloc_new w _, rfl, by simp⟩, .map h ⟨w.heap.size, 0, 0, 0⟩ (by simp [Gh.add])⟩
 ·cases hp
def okKey (P : Program) (arr : Bool) (kt : TypeId) : Bool :=
 match arr, P.underlying kt with
 | false, some .string => true
 | true, some (.array 2 e) => isInt P e .i64 && decide (szOf P e = some 1)
 | _, _ => false
theorem keyIs_spec {arr : Bool} {k : V} (h : keyIs arr k = true) : (arr = false ∧ ∃ s, k = .str s) ∨ (arr = true ∧ ∃ a b, k = .agg [.int .i64 a, .int .i64 b]) := by
 unfold keyIs at h
 split at h
 ·exact .inl ⟨rfl, _, rfl⟩
 ·exact .inr ⟨rfl, _, _, rfl⟩
 ·cases h
theorem pair_img {x : Value} {b c : Int} (h : Img g w (.agg [.int .i64 b, .int .i64 c]) x) : x = .agg #[.int .i64 b, .int .i64 c] := by
 obtain ⟨vs, rfl, h1, h2, h3⟩ := h.agg_inv
 match vs, h1 with
 | [y, z], _ =>
  have e1 := (h3 0 _ y rfl rfl).int_inv
  have e2 := (h3 1 _ z rfl rfl).int_inv
  subst e1 e2
  rfl
theorem run_checkKey' {arr : Bool} {kt : TypeId} (hk : okKey P arr kt = true) {k : V} {x : Value} (hi : Img g w k x) (hs : keyIs arr k = true) (em : Bool) (n : Nat) : (Instr.checkKey em (n + 1 + 1) kt x).run P w = .ok () w := by
 rcases keyIs_spec hs with ⟨rfl, s, rfl⟩ | ⟨rfl, b, c, rfl⟩
 ·unfold okKey at hk
  split at hk
  ·rename_i hu
   obtain ⟨y, rfl, _⟩ := hi.str_inv
   simp [Instr.checkKey, run_underlying hu]
  ·rename_i h1 _; cases h1
  ·cases hk
 ·unfold okKey at hk
  split at hk
  ·rename_i h1 _; cases h1
  ·rename_i e _ hu
   simp only [Bool.and_eq_true, decide_eq_true_eq] at hk
   have hx := pair_img hi
   subst hx
   have hue := isInt_spec hk.1
   have hagg : aggOf P e = some false := by unfold aggOf; rw [hue]; rfl
   have hsz := run_sizeOf' hk.2 w
   have hrange : List.range' 0 2 = [0, 1] := rfl
   have p0 : (part e #[Value.int .i64 b, .int .i64 c] 0).run P w = .ok (.int .i64 b) w := by simp [part, run_isAgg' hagg]
   have p1 : (part e #[Value.int .i64 b, .int .i64 c] 1).run P w = .ok (.int .i64 c) w := by simp [part, run_isAgg' hagg]
   simp [Instr.checkKey, run_underlying hu, hsz, Std.Legacy.Range.forIn_eq_forIn_range', Std.Legacy.Range.size, hrange, p0, p1, run_underlying hue]
  ·cases hk
theorem run_checkKey {arr : Bool} {kt : TypeId} (hk : okKey P arr kt = true) {k : V} {x : Value} (hi : Img g w k x) (hs : keyIs arr k = true) (em : Bool) : (Instr.checkKey em 10000 kt x).run P w = .ok () w :=
 run_checkKey' hk hi hs em 9998
theorem bytes_ext {b c : ByteArray} (h : b.data.toList = c.data.toList) : b = c := by
 cases b; cases c
 simp at h
 simp [h]
theorem bytes_beq (b c : ByteArray) : (b == c) = (b.data.toList == c.data.toList) := by
 rw [beq_toListBytes, bytes_eq]
theorem keyEq_str (b c : List UInt8) : keyEq (.str b) (.str c) = some (b == c) := rfl
theorem keyEq_agg (b c b' c' : Int) : keyEq (.agg [.int .i64 b, .int .i64 c]) (.agg [.int .i64 b', .int .i64 c']) = some (b == b' && c == c') := rfl
theorem run_keyEq {arr : Bool} {kt : TypeId} (hk : okKey P arr kt = true) {k k' : V} {x y : Value} (hs : keyIs arr k = true) (hi : Img g w k x) (hj : Img g w k' y) {q : Bool} (hq : keyEq k k' = some q) :
  keyIs arr k' = true ∧ (q = true → x = y ∧ k = k') ∧ (arr = false → Instr.sameNow .string x y = some q) ∧ (arr = true → (Op.equal kt x y).run P w = .ok q w) := by
 rcases keyIs_spec hs with ⟨rfl, s, rfl⟩ | ⟨rfl, b, c, rfl⟩
 ·unfold keyEq at hq
  split at hq
  ·rename_i s1 s2 e1
   cases e1
   cases hq
   obtain ⟨b1, rfl, rfl⟩ := hi.str_inv
   obtain ⟨b2, rfl, rfl⟩ := hj.str_inv
   refine ⟨rfl, fun h => ?_, fun _ => ?_, fun h => by cases h⟩
   ·have := bytes_ext (by simpa using h)
    subst this
    exact ⟨rfl, rfl⟩
   ·simp only [Instr.sameNow, bytes_beq]
  ·rename_i e1; cases e1
  ·cases hq
 ·unfold keyEq at hq
  split at hq
  ·rename_i e1; cases e1
  ·rename_i b1 c1 b2 c2 e1
   cases e1
   cases hq
   have h1 := pair_img hi
   have h2 := pair_img hj
   subst h1 h2
   unfold okKey at hk
   split at hk
   ·rename_i h1 _; cases h1
   ·rename_i e _ hu
    simp only [Bool.and_eq_true, decide_eq_true_eq] at hk
    have hue := isInt_spec hk.1
    have hagg : aggOf P e = some false := by unfold aggOf; rw [hue]; rfl
    refine ⟨rfl, fun h => ?_, fun h => (by cases h), fun _ => ?_⟩
    ·simp at h
     obtain ⟨rfl, rfl⟩ := h
     exact ⟨rfl, rfl⟩
    ·obtain ⟨i, hie⟩ : ∃ i, P.info? e = some i := by
      unfold szOf at hk
      cases hq : P.info? e with
      | none => rw [hq] at hk; cases hk.2
      | some i => exact ⟨i, rfl⟩
     have hc : P.cellsOf e = 1 := by unfold Program.cellsOf; have := hk.2; unfold szOf at this; rw [this]; rfl
     have hr : List.range 2 = [0, 1] := rfl
     have e0 : (Op.equalIn 9999 e (.int .i64 b) (.int .i64 b2)).run P w = .ok (b == b2) w := run_equalIn_int w 9998 e .i64 .i64 _ _ hue
     have e1 : (Op.equalIn 9999 e (.int .i64 c) (.int .i64 c2)).run P w = .ok (c == c2) w := run_equalIn_int w 9998 e .i64 .i64 _ _ hue
     show (Op.equalIn 10000 kt _ _).run P w = _
     rw [run_equalIn_array w 9999 _ _ hu hie, hc, hr]
     have q0 : ∀ u v : Int, (part e #[Value.int .i64 u, .int .i64 v] 0).run P w = .ok (.int .i64 u) w := fun u v => by simp [part, run_isAgg' hagg]
     have q1 : ∀ u v : Int, (part e #[Value.int .i64 u, .int .i64 v] 1).run P w = .ok (.int .i64 v) w := fun u v => by simp [part, run_isAgg' hagg]
     simp only [Op.eqItems, Nat.zero_mul, Nat.one_mul, Sem.run_bind, q0, Result.andThen_ok, e0]
     cases b == b2 with
     | false => simp
     | true => simp only [Bool.not_true, Bool.false_eq_true, if_false, Sem.run_bind, q1, Result.andThen_ok, e1]; cases c == c2 <;> simp
   ·cases hk
  ·cases hq
def Found (es : List (V × V)) (ents : List MapEntry) (k : V) (i0 : Nat) (r : Option (Nat × Value)) (res : Option V) : Prop :=
 (res = none ∧ r = none) ∨ ∃ (j : Nat) (k' v : V) (m : MapEntry), res = some v ∧ r = some (i0 + j, m.val) ∧ es[j]? = some (k', v) ∧ ents[j]? = some m ∧ k = k' ∧ ∀ i k'' v'', i < j → es[i]? = some (k'', v'') → keyEq k k'' = some false
theorem find_list {arr : Bool} {kt : TypeId} (hk : okKey P arr kt = true) {k : V} {x : Value} (hs : keyIs arr k = true) (hi : Img g w k x) : ∀ (es : List (V × V)) (ents : List MapEntry) (i0 : Nat) (res : Option V), ents.length = es.length →
  (∀ (i : Nat) (k v : V) (m : MapEntry), es[i]? = some (k, v) → ents[i]? = some m → Img g w k m.key) → lookKey k es = some res →
  ∃ r, Found es ents k i0 r res ∧ (arr = false → Instr.findNow .string x ents i0 = some r) ∧ (arr = true → (Instr.findAsking kt x ents i0).run P w = .ok r w) ∧ (∀ (j : Nat) (m : MapEntry), r = some (i0 + j, m.val) → ents[j]? = some m → x = m.key ∨ True)
 | [], [], i0, res, _, _, h => by
  cases h
  exact ⟨none, .inl ⟨rfl, rfl⟩, fun _ => rfl, fun _ => rfl, fun _ _ _ _ => .inr trivial⟩
 | (k', v) :: es, m :: ents, i0, res, hl, hks, h => by
  simp only [lookKey] at h
  split at h
  ·rename_i hq
   cases h
   obtain ⟨_, h1, h2, h3⟩ := run_keyEq (w := w) hk hs hi (hks 0 k' v m rfl rfl) hq
   refine ⟨some (i0, m.val), .inr ⟨0, k', v, m, rfl, rfl, rfl, rfl, (h1 rfl).2, fun i _ _ h => absurd h (Nat.not_lt_zero i)⟩, fun ha => ?_, fun ha => ?_, fun _ _ _ _ => .inr trivial⟩
   ·simp only [Instr.findNow, h2 ha]
   ·simp only [Instr.findAsking, Sem.run_bind, h3 ha, Result.andThen_ok]
    rfl
  ·rename_i hq
   obtain ⟨_, h1, h2, h3⟩ := run_keyEq (w := w) hk hs hi (hks 0 k' v m rfl rfl) hq
   obtain ⟨r, f1, f2, f3, _⟩ := find_list hk hs hi es ents (i0 + 1) res (by simpa using hl) (fun i k v m h1 h2 => hks (i + 1) k v m (by simpa using h1) (by simpa using h2)) h
   refine ⟨r, ?_, fun ha => ?_, fun ha => ?_, fun _ _ _ _ => .inr trivial⟩
   ·rcases f1 with f1 | ⟨j, k2, v2, m2, e1, e2, e3, e4, e5, e6⟩
    ·exact .inl f1
    ·refine .inr ⟨j + 1, k2, v2, m2, e1, by rw [e2]; congr 2; omega, by simpa using e3, by simpa using e4, e5, fun i k3 v3 hlt hi3 => ?_⟩
     cases i with
     | zero => simp at hi3; obtain ⟨rfl, rfl⟩ := hi3; exact hq
     | succ i => exact e6 i k3 v3 (by omega) (by simpa using hi3)
   ·simp only [Instr.findNow, h2 ha]
    exact f2 ha
   ·simp only [Instr.findAsking, Sem.run_bind, h3 ha, Result.andThen_ok]
    exact f3 ha
  ·cases h
 | [], _ :: _, _, _, hl, _, _ => by simp at hl
 | _ :: _, [], _, _, hl, _, _ => by simp at hl
theorem run_find {arr : Bool} {kt : TypeId} (hk : okKey P arr kt = true) {k : V} {x : Value} (hs : keyIs arr k = true) (hi : Img g w k x) {es : List (V × V)} {ents : List MapEntry} {res : Option V} (hl : ents.length = es.length)
  (hks : ∀ (i : Nat) (k v : V) (m : MapEntry), es[i]? = some (k, v) → ents[i]? = some m → Img g w k m.key) (h : lookKey k es = some res) : ∃ r, Found es ents k 0 r res ∧ (Instr.findKey kt x ents).run P w = .ok r w := by
 obtain ⟨r, f1, f2, f3, _⟩ := find_list hk hs hi es ents 0 res hl hks h
 refine ⟨r, f1, ?_⟩
 cases arr with
 | false =>
  unfold okKey at hk
  split at hk
  ·rename_i hu; exact MapKept.run_findKey hu (f2 rfl)
  ·rename_i h1 _; cases h1
  ·cases hk
 | true =>
  unfold okKey at hk
  split at hk
  ·rename_i h1 _; cases h1
  ·rename_i e _ hu
   rw [run_findKey_eq w (by rw [hu])]
   exact f3 rfl
  ·cases hk
theorem lookKey_of_set {k v : V} : ∀ {es es' : List (V × V)}, setKey k v es = some es' → (lookKey k es = some none ∧ es' = es ++ [(k, v)]) ∨ ∃ (j : Nat) (v0 : V), lookKey k es = some (some v0) ∧ j < es.length ∧ es' = es.set j (k, v) ∧ (∀ i k' v', i < j → es[i]? = some (k', v') → keyEq k k' = some false) ∧ ∃ k', es[j]? = some (k', v0) ∧ keyEq k k' = some true
 | [], es', h => by cases h; exact .inl ⟨rfl, rfl⟩
 | (k', v') :: es, es', h => by
  simp only [setKey] at h
  split at h
  ·rename_i hq
   cases h
   exact .inr ⟨0, v', by simp only [lookKey, hq], by simp, rfl, by simp, k', rfl, hq⟩
  ·rename_i hq
   simp only [Option.map_eq_some_iff] at h
   obtain ⟨es2, h2, rfl⟩ := h
   rcases lookKey_of_set h2 with ⟨h3, rfl⟩ | ⟨j, v0, h3, h4, rfl, h5, k2, h6, h7⟩
   ·exact .inl ⟨by simp only [lookKey, hq, h3], rfl⟩
   ·refine .inr ⟨j + 1, v0, by simp only [lookKey, hq, h3], by simp; exact h4, rfl, fun i k3 v3 hi h8 => ?_, k2, by simpa using h6, h7⟩
    cases i with
    | zero => simp at h8; obtain ⟨rfl, rfl⟩ := h8; exact hq
    | succ i => exact h5 i k3 v3 (by omega) (by simpa using h8)
  ·cases h
theorem okMap_keys {es : List (V × V)} {ents : Array MapEntry} (hz : ents.size = es.length) (hm : ∀ (i : Nat) (k v : V), es[i]? = some (k, v) → ∃ m, ents[i]? = some m ∧ ImgP g.I w k m.key ∧ Img g w v m.val ∧ m.val.oneCell' = true) :
  ents.toList.length = es.length ∧ ∀ (i : Nat) (k v : V) (m : MapEntry), es[i]? = some (k, v) → ents.toList[i]? = some m → Img g w k m.key := by
 refine ⟨by simpa using hz, fun i k v m h1 h2 => ?_⟩
 obtain ⟨m', h3, h4, _⟩ := hm i k v h1
 have : ents.toList[i]? = some m' := by simpa using h3
 rw [h2] at this
 cases this
 exact .pure h4
def okMap (P : Program) (arr : Bool) (T : TypeId) : Bool :=
 match P.underlying T with
 | some (.map kt _) => okKey P arr kt
 | _ => false
def okLook (P : Program) (arr : Bool) (T : TypeId) (z : V) : Bool :=
 match P.underlying T with
 | some (.map kt e) => okKey P arr kt && okZero P e z
 | _ => false
theorem k_look (s : Sim fr g st a w) {os : List O} {vs : List V} {x y : Operand} {T : TypeId} {arr ok : Bool} {z : V} (hop : o.op = .lookup T x y ok) (hT : okLook P arr T z = true) (hok : okOs os [x, y] = true) (hv : isVs os = true) (hg : getOs st os = some vs) {p : Plan} (hp : plan (.look arr ok z) vs = some p) :
  PlanRun src fr g st a w h d ((execOp a.eval o).run P w) p := by
 obtain ⟨v, u, rfl, r1, r2⟩ := two_vals s hok hv hg
 unfold okLook at hT
 split at hT
 ·rename_i kt e hu
  simp only [Bool.and_eq_true] at hT
  obtain ⟨zx, hzx, hzr⟩ := okZero_spec hT.2
  simp only [plan, plan_look] at hp
  split at hp
  ·rename_i h' k e0
   simp at e0
   obtain ⟨rfl, rfl⟩ := e0
   split at hp
   ·rename_i hks
    cases hp
    intro B u hB hu'
    obtain ⟨loc, hφ, e1⟩ := r1.map_inv
    cases B with
    | row _ _ => cases hu'
    | map es =>
     simp only [Option.map_eq_some_iff] at hu'
     obtain ⟨res, hres, hu'⟩ := hu'
     obtain ⟨loc', e2, hBk, _, _⟩ := s.mem.blk h' _ hB
     rw [hφ] at e2; cases e2
     obtain ⟨ents, clock, hb, hsz, hm⟩ := hBk
     obtain ⟨hl, hkeys⟩ := okMap_keys hsz hm
     obtain ⟨r, hf, hrun⟩ := run_find (w := w) hT.1 hks r2 hl hkeys hres
     have hck := run_checkKey (w := w) hT.1 r2 hks ents.isEmpty
     have hgo := MapKept.run_getObj_map (P := P) hb
     rcases hf with ⟨rfl, rfl⟩ | ⟨j, k', v, m, rfl, rfl, h1, h2, _⟩
     ·have hz : Img g w z zx := .pure (okConst_img hzx _ _)
      have run : (Instr.lookup T (a.eval x) (a.eval y) ok).run P w = .ok (if ok then .tuple #[zx, .bool false] else zx) w := by
       simp [Instr.lookup, run_underlying hu, e1, hgo, hck, hrun, hzr w]
      refine ⟨if ok then .tuple #[zx, .bool false] else zx, by simp [execOp, hop, run], ?_⟩
      cases ok with
      | false => cases hu'; exact hz
      | true =>
       cases hu'
       refine .tup [z, .bool false] [zx, .bool false] rfl (fun i c q h1 h2 => ?_)
       match i with
       | 0 => simp at h1 h2; subst h1 h2; exact hz
       | 1 => simp at h1 h2; subst h1 h2; exact .pure (.bool _)
       | i + 2 => simp at h1
     ·obtain ⟨m', h3, h4, h5, h6⟩ := hm j k' v h1
      have h2' : ents[j]? = some m := by simpa using h2
      rw [h2'] at h3
      cases h3
      have run : (Instr.lookup T (a.eval x) (a.eval y) ok).run P w = .ok (if ok then .tuple #[m.val, .bool true] else m.val) w := by
       simp [Instr.lookup, run_underlying hu, e1, hgo, hck, hrun]
      refine ⟨if ok then .tuple #[m.val, .bool true] else m.val, by simp [execOp, hop, run], ?_⟩
      cases ok with
      | false => cases hu'; exact h5
      | true =>
       cases hu'
       refine .tup [v, .bool true] [m.val, .bool true] rfl (fun i c q h1 h2 => ?_)
       match i with
       | 0 => simp at h1 h2; subst h1 h2; exact h5
       | 1 => simp at h1 h2; subst h1 h2; exact .pure (.bool _)
       | i + 2 => simp at h1
   ·cases hp
  ·cases hp
 ·cases hT
theorem run_setObj_map {r clock : Nat} {ents : Array MapEntry} (hb : w.heap[r]? = some (.map ents clock)) (ob : Obj) : ∃ w', (setObj r ob).run P w = .ok () w' ∧ Upd w w' r ob := by
 obtain ⟨h1, h2⟩ := MapKept.heap_set (o' := ob) hb
 exact ⟨{ w with heap := w.heap.setIfInBounds r ob }, by simp [setObj, Sem.run, hb], ⟨h1, fun k hk => h2 k hk, by simp, rfl, rfl, rfl⟩⟩
theorem sameBits_refl {arr : Bool} {k : V} {x : Value} (hs : keyIs arr k = true) (hi : Img g w k x) : (Instr.keyThatStays x x).run P w = .ok x w := by
 have : Instr.sameBits 10000 x x = true := by
  rcases keyIs_spec hs with ⟨_, s, rfl⟩ | ⟨_, b, c, rfl⟩
  ·obtain ⟨y, rfl, _⟩ := hi.str_inv
   show (y == y) = true
   rw [bytes_beq]
   simp
  ·have := pair_img hi
   subst this
   simp [Instr.sameBits]
 simp [Instr.keyThatStays, this]
theorem key_pure {arr : Bool} {k : V} {x : Value} (hs : keyIs arr k = true) (hi : Img g w k x) (I : Nat → Prop) (w' : World) : ImgP I w' k x := by
 rcases keyIs_spec hs with ⟨_, s, rfl⟩ | ⟨_, b, c, rfl⟩
 ·obtain ⟨y, rfl, rfl⟩ := hi.str_inv
  exact .str y
 ·have := pair_img hi
  subst this
  refine .agg [.int .i64 b, .int .i64 c] [.int .i64 b, .int .i64 c] rfl (by simp [Value.oneCell']) (fun i c q h1 h2 => ?_)
  match i with
  | 0 => simp at h1 h2; subst h1 h2; exact .int _ _
  | 1 => simp at h1 h2; subst h1 h2; exact .int _ _
  | i + 2 => simp at h1
theorem same_key {arr : Bool} {k : V} {x y : Value} (hs : keyIs arr k = true) (hi : Img g w k x) (hj : Img g w k y) : x = y := by
 rcases keyIs_spec hs with ⟨_, s, rfl⟩ | ⟨_, b, c, rfl⟩
 ·obtain ⟨b1, rfl, h1⟩ := hi.str_inv
  obtain ⟨b2, rfl, h2⟩ := hj.str_inv
  rw [bytes_ext (h1.trans h2.symm)]
 ·rw [pair_img hi, pair_img hj]
theorem one_of {v : V} {x : Value} (h1 : v.one = true) (hi : Img g w v x) : x.oneCell' = true := by
 have h2 : v.ones = true := by cases v <;> first | rfl | exact h1 | (simp [V.one] at h1)
 have h3 : v.cells = [v] := by cases v <;> first | rfl | (simp [V.one] at h1)
 have hc := hi.cells
 have hx : x.cells = #[x] := by
  cases x with
  | agg cs =>
   exfalso
   cases hi with
   | pure hi => cases hi; simp [V.one] at h1
   | agg => simp [V.one] at h1
  | _ => rfl
 exact hi.ones h2 0 x (by rw [hx]; rfl)
theorem k_upd (s : Sim fr g st a w) {os : List O} {vs : List V} {x y z : Operand} {T : TypeId} {arr : Bool} (hop : o.op = .mapUpdate T x y z ∨ o.op = .insert T x y z) (hT : okMap P arr T = true) (hok : okOs os [x, y, z] = true) (hv : isVs os = true) (hg : getOs st os = some vs) {p : Plan} (hp : plan (.upd arr) vs = some p) :
  PlanRun src fr g st a w h d ((execOp a.eval o).run P w) p := by
 obtain ⟨p1, p2, p3, rfl, q1, q2, q3⟩ := okOs_three hok
 obtain ⟨v1, v2, v3, rfl, g1, g2, g3⟩ := getOs_three hg
 obtain ⟨i1, i2, i3⟩ := isVs_three hv
 have r1 := getO_val s i1 q1 g1
 have r2 := getO_val s i2 q2 g2
 have r3 := getO_val s i3 q3 g3
 unfold okMap at hT
 split at hT
 ·rename_i kt e hu
  simp only [plan, plan_upd] at hp
  split at hp
  ·rename_i h' k v e0
   simp at e0
   obtain ⟨rfl, hk2, hv3⟩ := e0
   obtain rfl := hk2.symm
   obtain rfl := hv3.symm
   split at hp
   ·rename_i hks
    simp only [Bool.and_eq_true] at hks
    obtain ⟨hks, hone⟩ := hks
    cases hp
    refine ⟨rfl, fun B B' hB hB' => ?_⟩
    obtain ⟨loc, hφ, e1⟩ := r1.map_inv
    cases B with
    | row _ _ => cases hB'
    | map es =>
     simp only [Option.map_eq_some_iff] at hB'
     obtain ⟨es', hes, rfl⟩ := hB'
     obtain ⟨loc', e2, hBk, hnI, _⟩ := s.mem.blk h' _ hB
     rw [hφ] at e2; cases e2
     obtain ⟨ents, clock, hb, hsz, hm⟩ := hBk
     obtain ⟨hl, hkeys⟩ := okMap_keys hsz hm
     have hck := run_checkKey (w := w) hT r2 hks false
     have hgo := MapKept.run_getObj_map (P := P) hb
     have run : ∀ {w' : World}, (Instr.mapUpdate T (a.eval x) (a.eval y) (a.eval z)).run P w = .ok () w' → (execOp a.eval o).run P w = .ok .skip w' := by
      intro w' hr
      rcases hop with hop | hop <;> simp [execOp, hop, hr]
     rcases lookKey_of_set hes with ⟨h1, rfl⟩ | ⟨j, v0, h1, h2, rfl, h3, k', h4, h5⟩
     ·obtain ⟨r, hf, hrun⟩ := run_find (w := w) hT hks r2 hl hkeys h1
      rcases hf with ⟨_, rfl⟩ | ⟨j, k', v, m, h, _⟩
      ·obtain ⟨w', h6, h7⟩ := run_setObj_map (P := P) hb (.map (ents.push { key := a.eval y, val := a.eval z, born := clock }) (clock + 1))
       have hsame : Same g.I w w' := fun b hI => h7.other b (fun e => hnI (e ▸ hI))
       refine ⟨w', loc, _, run (by simp [Instr.mapUpdate, run_underlying hu, e1, hgo, hck, hrun, h6]), hφ, h7, _, _, h7.here, by simp [hsz], fun i k2 v2 hi => ?_⟩
       by_cases hlt : i < es.length
       ·rw [List.getElem?_append_left hlt] at hi
        obtain ⟨m, m1, m2, m3, m4⟩ := hm i k2 v2 hi
        refine ⟨m, ?_, m2.mono (fun _ h => h) hsame, m3.mono (.refl g) hsame, m4⟩
        rw [Array.getElem?_push_lt (by omega)]
        rw [← m1]
        simp [show i < ents.size by omega]
       ·rw [List.getElem?_append_right (by omega)] at hi
        have hi0 : i = es.length := by
         rcases Nat.lt_or_ge (i - es.length) 1 with h | h
         ·omega
         ·rw [List.getElem?_eq_none (by simpa using h)] at hi; cases hi
        subst hi0
        simp at hi
        obtain ⟨rfl, rfl⟩ := hi
        exact ⟨{ key := a.eval y, val := a.eval z, born := clock }, by rw [← hsz]; simp, key_pure hks r2 _ _, r3.mono (.refl g) hsame, one_of hone r3⟩
      ·cases h
     ·obtain ⟨r, hf, hrun⟩ := run_find (w := w) hT hks r2 hl hkeys h1
      rcases hf with ⟨h, _⟩ | ⟨j2, k2, v2, m, e3, rfl, e5, e6, e8, e7⟩
      ·cases h
      ·subst e8
       have hkk : keyEq k k = some true := by
        rcases keyIs_spec hks with ⟨_, s, rfl⟩ | ⟨_, b, c, rfl⟩
        ·rw [keyEq_str]; simp
        ·rw [keyEq_agg]; simp
       have hjj : j2 = j := by
        rcases Nat.lt_trichotomy j2 j with h | h | h
        ·have := h3 j2 k v2 h e5
         rw [hkk] at this; cases this
        ·exact h
        ·have := e7 j k' v0 h h4
         rw [h5] at this; cases this
       subst hjj
       have e6' : ents[j2]? = some m := by simpa using e6
       obtain ⟨m', m1, m2, m3, m4⟩ := hm j2 k v2 e5
       rw [e6'] at m1
       cases m1
       have hxy : m.key = a.eval y := same_key hks (.pure m2) r2
       have hkeep := sameBits_refl (P := P) hks r2
       obtain ⟨w', h6, h7⟩ := run_setObj_map (P := P) hb (.map (ents.modify j2 fun e => { e with key := a.eval y, val := a.eval z }) clock)
       have hsame : Same g.I w w' := fun b hI => h7.other b (fun e => hnI (e ▸ hI))
       refine ⟨w', loc, _, run (by simp [Instr.mapUpdate, run_underlying hu, e1, hgo, hck, hrun, e6', hxy, hkeep, h6]), hφ, h7, _, _, h7.here, by simp [hsz], fun i k2 v2 hi => ?_⟩
       by_cases hij : j2 = i
       ·subst hij
        rw [List.getElem?_set_self h2] at hi
        cases hi
        exact ⟨{ m with key := a.eval y, val := a.eval z }, by rw [Array.getElem?_modify, if_pos rfl, e6']; rfl, key_pure hks r2 _ _, r3.mono (.refl g) hsame, one_of hone r3⟩
       ·rw [List.getElem?_set_ne hij] at hi
        obtain ⟨m', n1, n2, n3, n4⟩ := hm i k2 v2 hi
        exact ⟨m', by rw [Array.getElem?_modify, if_neg hij]; exact n1, n2.mono (fun _ h => h) hsame, n3.mono (.refl g) hsame, n4⟩
   ·cases hp
  ·cases hp
 ·cases hT
end
end Go.Am
