/- Operands, constants, loads and stores: the checker's questions, and what they give. -/
import Derived.Test.YtflfnkdhmcfjlaaExec
namespace Go.Am
open Go

/-! ### Constants and operands -/
def okC1 : V → Value → Bool
  | .int k n, .int k' n' => decide (k = k') && decide (n = n')
  | .bool b, .bool b' => b == b'
  | .str s, .string b => decide (b.data.toList = s)
  | .nil, .slice none 0 0 => true
  | .nilp, .pointer none => true
  | _, _ => false

def okCs : List V → List Value → Bool
  | [], [] => true
  | c :: cs, v :: vs => okC1 c v && okCs cs vs
  | _, _ => false

def okConst : V → Value → Bool
  | .agg cs, .agg vs => okCs cs vs.toList
  | v, x => okC1 v x

theorem okC1_img {v : V} {x : Value} (h : okC1 v x = true) (I : Nat → Prop) (w : World) : ImgP I w v x ∧ x.oneCell' = true ∧ v.cells = [v] ∧ x.cells = #[x] := by
  unfold okC1 at h
  split at h
  · simp at h; obtain ⟨rfl, rfl⟩ := h; exact ⟨.int _ _, rfl, rfl, rfl⟩
  · simp at h; subst h; exact ⟨.bool _, rfl, rfl, rfl⟩
  · simp at h; subst h; exact ⟨.str _, rfl, rfl, rfl⟩
  · exact ⟨.nil, rfl, rfl, rfl⟩
  · exact ⟨.nilp, rfl, rfl, rfl⟩
  · cases h

theorem okCs_img : ∀ {cs : List V} {vs : List Value}, okCs cs vs = true → ∀ (I : Nat → Prop) (w : World), cs.length = vs.length ∧ (∀ v ∈ vs, v.oneCell' = true) ∧ ∀ (i : Nat) (c : V) (v : Value), cs[i]? = some c → vs[i]? = some v → ImgP I w c v
  | [], [], _, I, w => ⟨rfl, by simp, by simp⟩
  | c :: cs, v :: vs, h, I, w => by
    simp only [okCs, Bool.and_eq_true] at h
    obtain ⟨h1, h2⟩ := h
    obtain ⟨a, b, d⟩ := okCs_img h2 I w
    obtain ⟨e, f, _⟩ := okC1_img h1 I w
    refine ⟨by simp [a], fun x hx => ?_, fun i x y hx hy => ?_⟩
    · rcases List.mem_cons.1 hx with rfl | hx
      · exact f
      · exact b x hx
    · cases i with
      | zero => simp at hx hy; subst hx hy; exact e
      | succ i => exact d i x y (by simpa using hx) (by simpa using hy)
  | [], _ :: _, h, _, _ => by cases h
  | _ :: _, [], h, _, _ => by cases h

theorem okConst_img {v : V} {x : Value} (h : okConst v x = true) (I : Nat → Prop) (w : World) : ImgP I w v x := by
  unfold okConst at h
  split at h
  · rename_i cs vs
    obtain ⟨a, b, d⟩ := okCs_img h I w
    have := ImgP.agg (I := I) (w := w) cs vs.toList a b d
    simpa using this
  · exact (okC1_img h I w).1

theorem okConst_cells {v : V} {x : Value} (h : okConst v x = true) : v.cells.length = x.cells.size ∧ ∀ y ∈ x.cells, y.oneCell' = true := by
  unfold okConst at h
  split at h
  · rename_i cs vs
    obtain ⟨a, b, _⟩ := okCs_img h (fun _ => False) default
    refine ⟨by simpa [V.cells, Value.cells] using a, fun y hy => b y (by simpa [Value.cells] using hy)⟩
  · obtain ⟨_, h1, h2, h3⟩ := okC1_img h (fun _ => False) default
    rw [h2, h3]
    refine ⟨rfl, fun y hy => ?_⟩
    simp at hy; subst hy; exact h1

def okO : O → Operand → Bool
  | .t i, .tmp j => i == j
  | .b i, .tmp j => i == j
  | .a i, .tmp j => i == j
  | .k v, .const c => okConst v c
  | .k (.fn f []), .func f' => f == f'
  | _, _ => false

def O.isV : O → Bool
  | .t _ | .k _ => true
  | _ => false

section
variable {fr : Fr} {g : Gh} {st : St} {a : Act} {w : World}

theorem eval_tmp {t : Nat} {x : Value} (h : a.tmps[t]? = some x) : a.eval (.tmp t) = x := by
  simp only [Act.eval, Array.getD_eq_getD_getElem?, h, Option.getD_some]

theorem getO_val (s : Sim fr g st a w) {o : O} {x : Operand} {v : V} (hv : o.isV = true) (hok : okO o x = true) (h : getO st o = some v) : Img g w v (a.eval x) := by
  cases o with
  | t i =>
    cases x with
    | tmp j =>
      have e : i = j := by simpa [okO] using hok
      subst e
      obtain ⟨_, _, y, h1, h2⟩ := s.env i v h
      rw [eval_tmp h1]
      exact h2
    | _ => simp [okO] at hok
  | k u =>
    cases h
    cases x with
    | const c => exact .pure (okConst_img (x := c) (by cases v <;> exact hok) _ _)
    | func f =>
      cases v with
      | fn f' cs =>
        cases cs with
        | nil =>
          have e : f' = f := by simpa [okO] using hok
          subst e
          exact .pure (.fn f')
        | cons _ _ => simp [okO] at hok
      | _ => simp [okO] at hok
    | tmp j => simp [okO] at hok
    | global j => simp [okO] at hok
  | b i => simp [O.isV] at hv
  | a i => simp [O.isV] at hv

theorem getO_img (s : Sim fr g st a w) {o : O} {x : Operand} {v : V} (hok : okO o x = true) (h : getO st o = some v) : ImgA fr.BS g a w v (a.eval x) := by
  cases o with
  | t i => exact (getO_val s rfl hok h).toA
  | k u => exact (getO_val s rfl hok h).toA
  | b i =>
    cases x with
    | tmp j =>
      have e : i = j := by simpa [okO] using hok
      subst e
      simp only [getO] at h
      split at h
      · rename_i e he
        cases h
        obtain ⟨h1, b, h2, _⟩ := s.bx i e he
        rw [eval_tmp h2]
        exact ⟨h1, b, h2, rfl⟩
      · cases h
    | _ => simp [okO] at hok
  | a i =>
    cases x with
    | tmp j =>
      have e : i = j := by simpa [okO] using hok
      subst e
      obtain ⟨_, y, h1, h2⟩ := s.ad i v h
      rw [eval_tmp h1]
      exact h2
    | _ => simp [okO] at hok

def okOs : List O → List Operand → Bool
  | [], [] => true
  | o :: os, x :: xs => okO o x && okOs os xs
  | _, _ => false

def snd : List O → Bool
  | [_, q] => q.isV
  | _ => false

def isVs : List O → Bool
  | [] => true
  | o :: os => o.isV && isVs os

theorem getOs_nil : getOs st [] = some [] := rfl
theorem getOs_cons (o : O) (os : List O) : getOs st (o :: os) = (match getO st o with
    | none => none
    | some v => match getOs st os with
      | none => none
      | some vs => some (v :: vs)) := by
  show Option.rec (motive := fun _ => Option (List V)) none (fun v => Option.rec (motive := fun _ => Option (List V)) none (fun vs => some (v :: vs)) (getOs st os)) (getO st o) = _
  cases getO st o with
  | none => rfl
  | some v => cases getOs st os <;> rfl

theorem getOs_cons_some {o : O} {os : List O} {vs : List V} (h : getOs st (o :: os) = some vs) : ∃ v ws, vs = v :: ws ∧ getO st o = some v ∧ getOs st os = some ws := by
  rw [getOs_cons] at h
  split at h
  · cases h
  · rename_i v hv
    split at h
    · cases h
    · rename_i ws hw
      cases h
      exact ⟨v, ws, rfl, hv, hw⟩

theorem getOs_vals (s : Sim fr g st a w) : ∀ {os : List O} {xs : List Operand} {vs : List V}, isVs os = true → okOs os xs = true → getOs st os = some vs →
    vs.length = xs.length ∧ ∀ (i : Nat) (v : V) (x : Operand), vs[i]? = some v → xs[i]? = some x → Img g w v (a.eval x)
  | [], [], vs, _, _, h => by cases h; exact ⟨rfl, fun i v x h => by simp at h⟩
  | o :: os, x :: xs, vs, hv, hok, h => by
    simp only [isVs, Bool.and_eq_true] at hv
    simp only [okOs, Bool.and_eq_true] at hok
    obtain ⟨v, ws, rfl, h1, h2⟩ := getOs_cons_some h
    obtain ⟨h3, h4⟩ := getOs_vals s hv.2 hok.2 h2
    refine ⟨by simp [h3], fun i u y hu hy => ?_⟩
    cases i with
    | zero => simp at hu hy; subst hu hy; exact getO_val s hv.1 hok.1 h1
    | succ i => exact h4 i u y (by simpa using hu) (by simpa using hy)
  | [], _ :: _, _, _, h, _ => by cases h
  | _ :: _, [], _, _, h, _ => by cases h
end

/-! ### Types -/
def szOf (P : Program) (t : TypeId) : Option Nat := (P.info? t).map (·.size)
def aggOf (P : Program) (t : TypeId) : Option Bool := (P.underlying t).map fun | .struct _ | .array _ _ => true | _ => false

theorem run_sizeOf' {P : Program} {t n : Nat} (h : szOf P t = some n) (w : World) : (sizeOf t).run P w = .ok n w := by
  unfold szOf at h
  cases hq : P.info? t with
  | none => simp [hq] at h
  | some i =>
    rw [hq] at h; simp at h; subst h
    simp [sizeOf, typeInfo, hq]

theorem run_isAgg' {P : Program} {t : TypeId} {b : Bool} (h : aggOf P t = some b) (w : World) : (isAgg t).run P w = .ok b w := by
  unfold aggOf at h
  cases hq : P.underlying t with
  | none => simp [hq] at h
  | some d =>
    rw [hq] at h
    simp only [Option.map_some, Option.some.injEq] at h
    subst h
    unfold isAgg
    rw [Sem.run_bind, run_underlying hq w]
    cases d <;> rfl

/-! ### Loads -/
/-- Element e lies at off o of block b. -/
def ElemAt (g : Gh) (w : World) (b o : Nat) (e : V) : Prop := ∀ (j : Nat) (c : V), e.cells[j]? = some c → ∃ y, w.cell? ⟨b, o + j, none⟩ = some y ∧ y.oneCell' = true ∧ Img g w c y

theorem run_load_at {P : Program} {w : World} {a : Addr} {y : Value} (h : w.cell? a = some y) : (load a).run P w = .ok y w := by
  rw [run_load, h]

theorem add_at (b o n : Nat) : (⟨b, o, none⟩ : Addr).add n = ⟨b, o + n, none⟩ := by
  unfold Addr.add
  split
  · subst_vars; rfl
  · rfl

theorem load_elem {P : Program} {g : Gh} {w : World} {b o : Nat} {e : V} (he : ElemAt g w b o e) {T : TypeId} {agg : Bool} {off sz : Nat} {v : V} (ha : aggOf P T = some agg) (hs : agg = true → szOf P T = some sz) (h : getC agg off sz e = some v) :
    ∃ x, (loadVar T ⟨b, o + off, none⟩).run P w = .ok x w ∧ Img g w v x := by
  unfold getC at h
  cases agg with
  | false =>
    simp only [Bool.false_eq_true, if_false, nth_eq] at h
    obtain ⟨y, h1, _, h2⟩ := he off v h
    exact ⟨y, by simp only [loadVar, Sem.run_bind, run_isAgg' ha, Result.andThen_ok, Bool.false_eq_true, if_false]; exact run_load_at h1, h2⟩
  | true =>
    simp only [if_true] at h
    split at h
    · rename_i hl
      cases h
      have hcell : ∀ j, j < sz → ∃ y, w.cell? ⟨b, o + off + j, none⟩ = some y ∧ y.oneCell' = true ∧ ∀ c, e.cells[off + j]? = some c → Img g w c y := by
        intro j hj
        have hlt : off + j < e.cells.length := by omega
        obtain ⟨y, h1, h2, h3⟩ := he (off + j) e.cells[off + j] (List.getElem?_eq_getElem hlt)
        refine ⟨y, by rw [Nat.add_assoc]; exact h1, h2, fun c hc => ?_⟩
        rw [List.getElem?_eq_getElem hlt] at hc
        cases hc
        exact h3
      have hrun : (loadCells ⟨b, o + off, none⟩ sz).run P w = .ok ((List.range sz).map fun j => (w.cell? ⟨b, o + off + j, none⟩).getD undef).toArray w :=
        run_loadCells w _ sz (fun j => (w.cell? ⟨b, o + off + j, none⟩).getD undef) (fun j hj => by
          obtain ⟨y, h1, _⟩ := hcell j hj
          rw [add_at, h1]; rfl)
      refine ⟨_, by simp only [loadVar, Sem.run_bind, run_isAgg' ha, Result.andThen_ok, if_true, run_sizeOf' (hs rfl), hrun, Sem.run_pure]; rfl, ?_⟩
      refine .agg _ _ (by simp; omega) (fun y hy => ?_) (fun i c y hc hy => ?_)
      · obtain ⟨j, hj, rfl⟩ := List.mem_map.1 hy
        obtain ⟨y, h1, h2, _⟩ := hcell j (List.mem_range.1 hj)
        simp only [h1, Option.getD_some]; exact h2
      · have hi : i < sz := by
          rcases Nat.lt_or_ge i sz with h | h
          · exact h
          · rw [List.getElem?_eq_none (by simp; omega)] at hc; cases hc
        obtain ⟨z, h1, h2, h3⟩ := hcell i hi
        simp only [List.getElem?_map, List.getElem?_range hi, Option.map_some, Option.some.injEq] at hy
        subst hy
        simp only [h1, Option.getD_some]
        refine h3 c ?_
        rw [List.getElem?_take, if_pos hi, List.getElem?_drop] at hc
        exact hc
    · cases h

/-! ### Stores -/
theorem setRow_upd {w : World} {b : Nat} {cur : Array Value} {T : TypeId} (hg : w.heap[b]? = some (.cells cur T (0, 0))) (cs : Array Value) : Upd w (w.setRow b cs) b (.cells cs T (0, 0)) :=
  ⟨setRow_heap w b cur cs T _ hg, fun k hk => setRow_other w b k cs hk, by simp, rfl, rfl, rfl⟩

/-- Storing the cells of a value over cells of a block. -/
theorem store_cells {P : Program} {g : Gh} {w : World} {b o : Nat} {cur : Array Value} {T0 : TypeId} (hg : w.heap[b]? = some (.cells cur T0 (0, 0))) {T : TypeId} {sz : Nat} {v : V} {x : Value} (hx : Img g w v x) (h1 : v.ones = true) (hsz : v.cells.length = sz)
    (hT : szOf P T = some sz) (hfit : o + sz ≤ cur.size) :
    ∃ w' cs, (storeVar T ⟨b, o, none⟩ x).run P w = .ok () w' ∧ Upd w w' b (.cells cs T0 (0, 0)) ∧ cs.size = cur.size ∧ (∀ j, j < sz → cs[o + j]? = x.cells[j]?) ∧ ∀ k, (k < o ∨ o + sz ≤ k) → cs[k]? = cur[k]? := by
  have hc := hx.cells
  have hxs : x.cells.size = sz := by rw [← hc.1, hsz]
  have hone : ∀ y ∈ x.cells.toList, y.oneCell' = true := by
    intro y hy
    obtain ⟨i, hi, rfl⟩ := List.getElem_of_mem hy
    exact hx.ones h1 i _ (by simp at hi; simp [hi])
  have hst := run_storeCells_at P b o T0 x.cells.toList 0 cur w hg (by simp; omega) hone
  refine ⟨_, (cur.toList.take (o + 0) ++ x.cells.toList ++ cur.toList.drop (o + 0 + x.cells.toList.length)).toArray, ?_, setRow_upd hg _, ?_, ?_, ?_⟩
  · simp only [storeVar, Sem.run_bind, run_sizeOf' hT, Result.andThen_ok, hxs, ne_eq, not_true_eq_false, if_false, Sem.run_ite, hst]
  · simp; omega
  · intro j hj
    simp only [Nat.add_zero, List.getElem?_toArray]
    rw [List.append_assoc, List.getElem?_append_right (by simp; omega), List.getElem?_append_left (by simp; omega)]
    simp
    congr 1
    omega
  · intro k hk
    simp only [Nat.add_zero, List.getElem?_toArray]
    rcases hk with hk | hk
    · rw [List.append_assoc, List.getElem?_append_left (by simp; omega)]
      simp [hk]
    · rw [List.getElem?_append_right (by simp; omega)]
      simp
      congr 1
      omega
end Go.Am
