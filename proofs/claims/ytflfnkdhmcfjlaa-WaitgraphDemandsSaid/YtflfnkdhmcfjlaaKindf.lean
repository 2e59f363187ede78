/- Kind by kind: literals of structs, arrays and slices. -/
import Derived.Test.YtflfnkdhmcfjlaaKinde
namespace Go.Am
open Go

section
variable {P : Program} {src : Nat → Nat} {fr : Fr} {g : Gh} {st : St} {a : Act} {w : World} {h : Nat} {d : D} {o : Oper}

/-- Cells laid over cells, one by one. -/
theorem lay_list (off : Nat) : ∀ (l : List Value) (s : Nat) (cs : Array Value), ((l.zipIdx s).foldl (fun cs (x : Value × Nat) => cs.setIfInBounds (off + x.2) x.1) cs).size = cs.size ∧
    ∀ k, ((l.zipIdx s).foldl (fun cs (x : Value × Nat) => cs.setIfInBounds (off + x.2) x.1) cs)[k]? = if off + s ≤ k ∧ k < off + s + l.length ∧ k < cs.size then l[k - (off + s)]? else cs[k]?
  | [], s, cs => ⟨rfl, fun k => by
    have : ¬ (off + s ≤ k ∧ k < off + s + 0 ∧ k < cs.size) := by omega
    simp only [List.length_nil, if_neg this, List.zipIdx_nil, List.foldl_nil]⟩
  | v :: l, s, cs => by
    obtain ⟨h1, h2⟩ := lay_list off l (s + 1) (cs.setIfInBounds (off + s) v)
    simp only [List.zipIdx_cons, List.foldl_cons]
    refine ⟨by rw [h1]; simp, fun k => ?_⟩
    rw [h2 k]
    simp only [Array.size_setIfInBounds, List.length_cons]
    by_cases e1 : k = off + s
    · subst e1
      rw [if_neg (by omega)]
      by_cases e2 : off + s < cs.size
      · rw [if_pos (by omega)]
        simp [e2]
      · rw [if_neg (by omega)]
        simp [e2]
    · by_cases e2 : off + (s + 1) ≤ k ∧ k < off + (s + 1) + l.length ∧ k < cs.size
      · rw [if_pos e2, if_pos (by omega)]
        rw [show k - (off + s) = (k - (off + (s + 1))) + 1 by omega]
        rfl
      · rw [if_neg e2, if_neg (by omega)]
        rw [Array.getElem?_setIfInBounds_ne (by omega)]

theorem lay_cells (off : Nat) (x cs : Array Value) (hfit : off + x.size ≤ cs.size) : (x.zipIdx.foldl (fun cs (c, j) => cs.setIfInBounds (off + j) c) cs).size = cs.size ∧
    ∀ k, (x.zipIdx.foldl (fun cs (c, j) => cs.setIfInBounds (off + j) c) cs)[k]? = if off ≤ k ∧ k < off + x.size then x[k - off]? else cs[k]? := by
  have h := lay_list off x.toList 0 cs
  rw [← Array.foldl_toList, Array.toList_zipIdx]
  refine ⟨h.1, fun k => ?_⟩
  have h2 := h.2 k
  refine Eq.trans h2 ?_
  simp only [Nat.add_zero, Array.length_toList, Array.getElem?_toList]
  by_cases e : off ≤ k ∧ k < off + x.size
  · rw [if_pos (by omega), if_pos e]
  · rw [if_neg (by omega), if_neg e]

theorem fill_step {place : Nat → Option (Nat × Nat)} {cs : Array Value} {i off sz : Nat} {v : Value} {rest : List (Nat × Value)} (hp : place i = some (off, sz)) (hs : v.cells.size = sz) (hfit : off + sz ≤ cs.size) :
    Instr.fill place cs ((i, v) :: rest) = Instr.fill place (v.cells.zipIdx.foldl (fun cs (c, j) => cs.setIfInBounds (off + j) c) cs) rest := by
  rw [Instr.fill]
  simp only [hp]
  rw [if_neg]
  simp [hs]
  omega

theorem fill_agg {place : Nat → Option (Nat × Nat)} : ∀ (parts : List (Nat × Value)) (pl : List (Nat × Nat)) (vs z z' : List V) (cs : Array Value), fillC pl vs z = some z' → parts.map (fun p => place p.1) = pl.map some →
    (∀ (i : Nat) (v : V) (p : Nat × Value), vs[i]? = some v → parts[i]? = some p → Img g w v p.2) → CellsAt g w (.agg z) cs → ∃ cs', Instr.fill place cs parts = some cs' ∧ CellsAt g w (.agg z') cs'
  | [], [], [], z, z', cs, hf, _, _, hc => by cases hf; exact ⟨cs, rfl, hc⟩
  | (i, x) :: parts, (off, sz) :: pl, v :: vs, z, z', cs, hf, hp, hi, hc => by
    simp only [fillC] at hf
    split at hf
    · rename_i hcond
      simp only [Bool.and_eq_true, beq_iff_eq, decide_eq_true_eq] at hcond
      obtain ⟨⟨h1, h2⟩, h3⟩ := hcond
      simp only [List.map_cons, List.cons.injEq] at hp
      have hx := hi 0 v (i, x) rfl rfl
      obtain ⟨hx1, hx2⟩ := hx.cells
      have hxs : x.cells.size = sz := by rw [← hx1, h2]
      have hsize : cs.size = z.length := hc.1
      rw [fill_step hp.1 hxs (by omega)]
      obtain ⟨l1, l2⟩ := lay_cells off x.cells cs (by omega)
      refine fill_agg parts pl vs _ z' _ hf hp.2 (fun k u p hu hpk => hi (k + 1) u p (by simpa using hu) (by simpa using hpk)) ⟨?_, fun j c hj => ?_⟩
      · rw [l1, hsize]
        simp only [V.cells_agg, List.length_append, List.length_take, List.length_drop]
        omega
      · simp only [V.cells_agg] at hj
        rw [l2]
        by_cases e : off ≤ j ∧ j < off + x.cells.size
        · rw [if_pos e]
          rw [List.append_assoc, List.getElem?_append_right (by simp; omega), List.getElem?_append_left (by simp; omega)] at hj
          have : min off z.length = off := by omega
          rw [List.length_take, this] at hj
          have hlt : j - off < x.cells.size := by omega
          have hy : x.cells[j - off]? = some x.cells[j - off] := by simp [hlt]
          exact ⟨_, hy, hx.ones h1 _ _ hy, hx2 _ _ _ hj hy⟩
        · rw [if_neg e]
          have : z[j]? = some c := by
            rcases Nat.lt_or_ge j off with hlt | hge
            · rw [List.append_assoc, List.getElem?_append_left (by simp; omega), List.getElem?_take, if_pos hlt] at hj
              exact hj
            · rw [List.getElem?_append_right (by simp; omega), List.getElem?_drop] at hj
              rw [← hj]
              congr 1
              simp only [List.length_append, List.length_take]
              omega
          exact hc.2 j c this
    · cases hf
  | [], [], _ :: _, _, _, _, hf, _, _, _ => by cases hf
  | [], _ :: _, _, _, _, _, _, hp, _, _ => by cases hp
  | _ :: _, [], _, _, _, _, _, hp, _, _ => by cases hp
  | _ :: _, _ :: _, [], _, _, _, hf, _, _, _ => by cases hf

theorem parts_evals {parts : List (Nat × Operand)} {os : List O} {vs : List V} (s : Sim fr g st a w) (hok : okOs os (parts.map (·.2)) = true) (hv : isVs os = true) (hg : getOs st os = some vs) :
    vs.length = parts.length ∧ ∀ (i : Nat) (v : V) (p : Nat × Value), vs[i]? = some v → (parts.map fun q => (q.1, a.eval q.2))[i]? = some p → Img g w v p.2 := by
  obtain ⟨h1, h2⟩ := getOs_vals s hv hok hg
  refine ⟨by simpa using h1, fun i v p hu hp => ?_⟩
  rw [List.getElem?_map, Option.map_eq_some_iff] at hp
  obtain ⟨q, hq, rfl⟩ := hp
  exact h2 i v q.2 hu (by rw [List.getElem?_map, hq]; rfl)

/-- Where the parts of a literal lie. -/
def places (P : Program) (T : TypeId) : Option (Nat → Option (Nat × Nat)) :=
  match P.underlying T with
  | some (.array _ e) => match P.info? e with
    | some ie => some fun i => some (i * ie.size, ie.size)
    | none => none
  | some (.struct fields) => match fields.toList.mapM (fun f => (P.info? f.type).map fun i => (f.offset, i.size)) with
    | some ps => some (ps.toArray[·]?)
    | none => none
  | _ => none

def okBld (P : Program) (T : TypeId) (z : List V) (pl : List (Nat × Nat)) (parts : List (Nat × Operand)) : Bool :=
  (match places P T with
  | some place => decide (parts.map (fun p => place p.1) = pl.map some)
  | none => false) && (match (P.info? T).bind (·.zero) with
  | some (.agg x) => okConst (.agg z) (.agg x)
  | _ => false)

theorem CellsAt.of_const {z : List V} {x : Array Value} (hz : okConst (.agg z) (.agg x) = true) : CellsAt g w (.agg z) x := by
  have hx : Img g w (.agg z) (.agg x) := .pure (okConst_img hz _ _)
  obtain ⟨h1, h2⟩ := okConst_cells hz
  obtain ⟨h3, h4⟩ := hx.cells
  refine ⟨h1.symm, fun j c hj => ?_⟩
  have hlt : j < x.size := by
    have : x.size = z.length := h1.symm
    rw [this]
    rcases Nat.lt_or_ge j z.length with h | h
    · exact h
    · rw [V.cells_agg, List.getElem?_eq_none h] at hj; cases hj
  have hy : x[j]? = some x[j] := by simp [hlt]
  exact ⟨_, hy, h2 _ (by simp [Value.cells]), h4 j c _ hj hy⟩

theorem agg_of_at {z : List V} {cs : Array Value} (hc : CellsAt g w (.agg z) cs) : Img g w (.agg z) (.agg cs) := by
  have : cs = cs.toList.toArray := rfl
  rw [this]
  have hl : z.length = cs.toList.length := by simpa [V.cells_agg] using hc.1.symm
  refine .agg z cs.toList hl (fun v hv => ?_) (fun i c v h1 h2 => ?_)
  · obtain ⟨i, hi, rfl⟩ := List.getElem_of_mem hv
    have hi' : i < z.length := by omega
    obtain ⟨y, h1, h2, _⟩ := hc.2 i z[i] (List.getElem?_eq_getElem hi')
    have : cs.toList[i]? = some y := by simpa using h1
    rw [List.getElem?_eq_getElem hi] at this
    cases this
    exact h2
  · obtain ⟨y, h3, _, h4⟩ := hc.2 i c h1
    have : cs.toList[i]? = some y := by simpa using h3
    rw [h2] at this
    cases this
    exact h4

theorem k_bld (s : Sim fr g st a w) {os : List O} {vs : List V} {T : TypeId} {parts : Array (Nat × Operand)} {z : List V} {pl : List (Nat × Nat)} (hop : o.op = .build T parts) (hT : okBld P T z pl parts.toList = true) (hok : okOs os (parts.toList.map (·.2)) = true) (hv : isVs os = true) (hg : getOs st os = some vs) {p : Plan} (hp : plan (.bld z pl) vs = some p) :
    PlanRun src fr g st a w h d ((execOp a.eval o).run P w) p := by
  obtain ⟨_, hparts⟩ := parts_evals s hok hv hg
  unfold okBld at hT
  simp only [Bool.and_eq_true] at hT
  obtain ⟨h1, h2⟩ := hT
  split at h1
  · rename_i place hpl
    simp only [decide_eq_true_eq] at h1
    split at h2
    · rename_i x hx
      simp only [plan, plan_bld, Option.map_eq_some_iff] at hp
      obtain ⟨z', hz', rfl⟩ := hp
      obtain ⟨cs', h3, h4⟩ := fill_agg (place := place) (parts.toList.map fun q => (q.1, a.eval q.2)) pl vs z z' x hz' (by rw [← h1]; simp) hparts (CellsAt.of_const h2)
      refine PR_ret (x := .agg cs') ?_ (.of_img (agg_of_at h4))
      have hb : P.built T (parts.toList.map fun q => (q.1, a.eval q.2)) = some cs' := by
        unfold Program.built
        unfold places at hpl
        cases hq : P.info? T with
        | none => rw [hq] at hx; cases hx
        | some it =>
          rw [hq] at hx
          simp only [Option.bind_some] at hx
          split at hpl
          · rename_i n e hu
            split at hpl
            · rename_i ie hie
              cases hpl
              simp only [hu, hx, hie]
              exact h3
            · cases hpl
          · rename_i fields hu
            split at hpl
            · rename_i ps hps
              cases hpl
              simp only [hu, hx, hps]
              exact h3
            · cases hpl
          · cases hpl
      have hrun := run_build (P := P) w T (parts.map fun q => (q.1, a.eval q.2)) cs' (by rw [← hb]; simp)
      simp only [execOp, hop, Sem.run_bind]
      rw [hrun]
      rfl
    · cases h2
  · cases h1

/-! ### Slice literals -/
theorem fill_rows {size : Nat} : ∀ (parts : List (Nat × Value)) (ix : List Nat) (vs z z' : List V) (cs : Array Value), fillE size ix vs z = some z' → parts.map (·.1) = ix →
    (∀ (i : Nat) (v : V) (p : Nat × Value), vs[i]? = some v → parts[i]? = some p → Img g w v p.2) → cs.size = z.length * size → CellsOk g w z size 0 cs →
    ∃ cs', Instr.fill (fun i => some (i * size, size)) cs parts = some cs' ∧ z'.length = z.length ∧ cs'.size = cs.size ∧ CellsOk g w z' size 0 cs'
  | [], [], [], z, z', cs, hf, _, _, _, hc => by cases hf; exact ⟨cs, rfl, rfl, rfl, hc⟩
  | (i, x) :: parts, i' :: ix, v :: vs, z, z', cs, hf, hp, hi, hs, hc => by
    simp only [fillE] at hf
    split at hf
    · rename_i hcond
      simp only [Bool.and_eq_true, beq_iff_eq, decide_eq_true_eq] at hcond
      obtain ⟨⟨h1, h2⟩, h3⟩ := hcond
      simp only [List.map_cons, List.cons.injEq] at hp
      obtain ⟨hp1, hp2⟩ := hp
      subst hp1
      have hx := hi 0 v (i, x) rfl rfl
      obtain ⟨hx1, hx2⟩ := hx.cells
      have hxs : x.cells.size = size := by rw [← hx1, h2]
      have hin : i * size + size ≤ z.length * size := by rw [← Nat.succ_mul]; exact Nat.mul_le_mul_right _ h3
      rw [fill_step (place := fun i => some (i * size, size)) rfl hxs (by omega)]
      obtain ⟨l1, l2⟩ := lay_cells (i * size) x.cells cs (by omega)
      obtain ⟨cs', q1, q2, q3, q4⟩ := fill_rows parts ix vs (z.set i v) z' _ hf hp2 (fun k u p hu hpk => hi (k + 1) u p (by simpa using hu) (by simpa using hpk)) (by rw [l1, hs]; simp) (by
        refine ⟨fun e he => ?_, fun k j e c hk hj => ?_⟩
        · rcases List.mem_or_eq_of_mem_set he with he | rfl
          · exact hc.1 e he
          · exact h2
        · rw [Nat.zero_add, l2]
          by_cases e1 : i = k
          · subst e1
            rw [List.getElem?_set_self h3] at hk
            cases hk
            have hj' : j < size := by
              rcases Nat.lt_or_ge j size with h | h
              · exact h
              · rw [List.getElem?_eq_none (by omega)] at hj; cases hj
            rw [if_pos (by omega)]
            rw [show i * size + j - i * size = j by omega]
            have hlt : j < x.cells.size := by omega
            have hy : x.cells[j]? = some x.cells[j] := by simp [hlt]
            exact ⟨_, hy, hx.ones h1 _ _ hy, hx2 _ _ _ hj hy⟩
          · rw [List.getElem?_set_ne e1] at hk
            have hj' : j < size := by
              have := hc.1 e (List.mem_of_getElem? hk)
              rcases Nat.lt_or_ge j size with h | h
              · exact h
              · rw [List.getElem?_eq_none (by omega)] at hj; cases hj
            rw [if_neg ?_]
            · have := hc.2 k j e c hk hj
              rw [Nat.zero_add] at this
              exact this
            · intro hh
              rcases Nat.lt_or_ge k i with h | h
              · have : k * size + size ≤ i * size := by rw [← Nat.succ_mul]; exact Nat.mul_le_mul_right _ h
                omega
              · have : i * size + size ≤ k * size := by rw [← Nat.succ_mul]; exact Nat.mul_le_mul_right _ (by omega)
                omega)
      exact ⟨cs', q1, by rw [q2]; simp, by rw [q3, l1], q4⟩
    · cases hf
  | [], [], _ :: _, _, _, _, hf, _, _, _, _ => by cases hf
  | [], _ :: _, _, _, _, _, _, hp, _, _, _ => by cases hp
  | _ :: _, [], _, _, _, _, _, hp, _, _, _ => by cases hp
  | _ :: _, _ :: _, [], _, _, _, hf, _, _, _, _ => by cases hf

/-- What a slice literal's block holds. -/
theorem run_lit {T : TypeId} {sz n : Nat} {z : V} {ix : List Nat} {parts : List (Nat × Value)} {vs zs : List V} (hT : okMk P T sz z = true) (hn : n * sz ≤ 16777216) (hz : fillE sz ix vs (List.replicate n z) = some zs) (hix : parts.map (·.1) = ix)
    (hi : ∀ (i : Nat) (v : V) (p : Nat × Value), vs[i]? = some v → parts[i]? = some p → Img g w v p.2) :
    ∃ cs e, (Instr.buildSlice T n parts.toArray).run P w = .ok (.slice (some ⟨w.heap.size, 0, none⟩) n n) (w.alloc (.cells cs e)) ∧ zs.length = n ∧ cs.size = n * sz ∧ CellsOk g w zs sz 0 cs := by
  obtain ⟨e, i, x, hu, hie, hsz, h0, hby, hz0, hzx, hzl⟩ := okMk_spec hT
  obtain ⟨cs, h1, h2, h3, h4⟩ := fill_rows (g := g) (w := w) parts ix vs _ zs _ hz hix hi (by rw [size_madeCells]; simp) (made_cells (n := n) hzx hzl g w)
  refine ⟨cs, e, ?_, by simpa using h2, by rw [h3, size_madeCells], h4⟩
  have hbig : ¬ (n * sz > 2 ^ 24) := by omega
  by_cases hn0 : n * sz = 0
  · have hm : madeCells x.cells (n * sz) = (#[] : Array Value) := Array.eq_empty_of_size_eq_zero (by rw [size_madeCells, hn0])
    rw [hm] at h1
    have hr0 : Array.range 0 = #[] := Array.eq_empty_of_size_eq_zero (by simp)
    simp [Instr.buildSlice, run_underlying hu, sizeOf, typeInfo, hie, hsz, hn0, hr0, h1, newRow]
  · have h1' : Instr.fill (fun i => some (i * sz, sz)) ((Array.range (n * sz)).map (x.cells[· % x.cells.size]!)) parts = some cs := h1
    have hbig' : ¬ (16777216 < n * sz) := by omega
    simp [Instr.buildSlice, run_underlying hu, sizeOf, typeInfo, zeroValue, hie, hz0, hsz, hbig', hn0, h1', newRow]

noncomputable def okLit (P : Program) (T : TypeId) (sz n : Nat) (z : V) (ix : List Nat) (parts : List (Nat × Operand)) : Bool :=
  okMk P T sz z && decide (n * sz ≤ 16777216) && decide (parts.map (·.1) = ix)

theorem k_lit (s : Sim fr g st a w) {os : List O} {vs : List V} {T : TypeId} {sz n : Nat} {z : V} {ix : List Nat} {parts : Array (Nat × Operand)} (hop : o.op = .buildSlice T n parts) (hT : okLit P T sz n z ix parts.toList = true) (hok : okOs os (parts.toList.map (·.2)) = true) (hv : isVs os = true) (hg : getOs st os = some vs) {p : Plan}
    (hp : plan (.lit sz n z ix) vs = some p) : PlanRun src fr g st a w h d ((execOp a.eval o).run P w) p := by
  obtain ⟨_, hparts⟩ := parts_evals s hok hv hg
  unfold okLit at hT
  simp only [Bool.and_eq_true, decide_eq_true_eq] at hT
  obtain ⟨⟨h1, h2⟩, h3⟩ := hT
  simp only [plan, plan_lit, Option.map_eq_some_iff] at hp
  obtain ⟨zs, hz, rfl⟩ := hp
  obtain ⟨cs, e, hr, hl, hcs, hc⟩ := run_lit (P := P) (parts := parts.toList.map fun q => (q.1, a.eval q.2)) h1 h2 hz (by rw [← h3, List.map_map]; rfl) hparts
  have hr' : (execOp a.eval o).run P w = .ok (.value (.slice (some ⟨w.heap.size, 0, none⟩) n n)) (w.alloc (.cells cs e)) := by
    have he : parts.map (fun q => (q.1, a.eval q.2)) = (parts.toList.map fun q => (q.1, a.eval q.2)).toArray := by rw [← Array.toList_map]
    simp only [execOp, hop, Sem.run_bind]
    rw [he, hr]
    rfl
  let g' : Gh := ⟨g.φ, fun b => g.I b ∨ b = w.heap.size⟩
  have hle : Gh.le g g' := ⟨fun _ _ h => h, fun _ h => .inl h⟩
  have hs : Same g.I w (w.alloc (.cells cs e)) := fun b hI => heap_alloc_old w _ (s.mem.lt b hI)
  refine ⟨_, _, g', hr', ⟨hle, rfl, fun b hb => heap_alloc_old w _ hb, by simp, rfl, rfl, rfl, fun b hb => ?_⟩, .of_img ?_⟩
  · rcases hb with hb | rfl
    · exact .inl hb
    · exact .inr ⟨Nat.le_refl _, by simp⟩
  · by_cases hn0 : zs = []
    · subst hn0
      simp at hl
      subst hl
      exact .pure (.lst0 _ _ _ _)
    · have hb := heap_alloc_new w (.cells cs e)
      have : Value.slice (some ⟨w.heap.size, 0, none⟩) n n = Value.slice (some ⟨w.heap.size, 0, none⟩) zs.length n := by rw [hl]
      rw [this]
      have hcell : ∀ (i j : Nat) (u c : V), zs[i]? = some u → u.cells[j]? = some c → ∃ y, cs[i * sz + j]? = some y ∧ y.oneCell' = true ∧ Img g w c y := by
        intro i j u c hi hj
        have := hc.2 i j u c hi hj
        rw [Nat.zero_add] at this
        exact this
      refine .lst false sz zs w.heap.size 0 n (fun i j => (cs[i * sz + j]?).getD undef) rfl (.inr rfl) (by omega) hc.1 (fun i j u c hi hj => ?_) (fun i j u c hi hj => ?_)
      · obtain ⟨y, q1, q2, _⟩ := hcell i j u c hi hj
        rw [cell_of_row _ w.heap.size _ cs e (0, 0) hb]
        simp only [q1, Option.getD_some]
        exact ⟨by rw [← q1]; congr 1; omega, q2⟩
      · obtain ⟨y, q1, _, q3⟩ := hcell i j u c hi hj
        simp only [q1, Option.getD_some]
        exact q3.mono hle hs

theorem k_hlit (s : Sim fr g st a w) (hf : g.φ h = none) {os : List O} {vs : List V} {T : TypeId} {sz n : Nat} {z : V} {ix : List Nat} {parts : Array (Nat × Operand)} (hop : o.op = .buildSlice T n parts) (hT : okLit P T sz n z ix parts.toList = true) (hok : okOs os (parts.toList.map (·.2)) = true) (hv : isVs os = true) (hg : getOs st os = some vs) {p : Plan}
    (hp : plan (.hlit sz n z ix) vs = some p) : PlanRun src fr g st a w h d ((execOp a.eval o).run P w) p := by
  obtain ⟨_, hparts⟩ := parts_evals s hok hv hg
  unfold okLit at hT
  simp only [Bool.and_eq_true, decide_eq_true_eq] at hT
  obtain ⟨⟨h1, h2⟩, h3⟩ := hT
  simp only [plan, plan_hlit, Option.map_eq_some_iff] at hp
  obtain ⟨zs, hz, rfl⟩ := hp
  obtain ⟨cs, e, hr, hl, hcs, hc⟩ := run_lit (P := P) (parts := parts.toList.map fun q => (q.1, a.eval q.2)) h1 h2 hz (by rw [← h3, List.map_map]; rfl) hparts
  have hr' : (execOp a.eval o).run P w = .ok (.value (.slice (some ⟨w.heap.size, 0, none⟩) n n)) (w.alloc (.cells cs e)) := by
    have he : parts.map (fun q => (q.1, a.eval q.2)) = (parts.toList.map fun q => (q.1, a.eval q.2)).toArray := by rw [← Array.toList_map]
    simp only [execOp, hop, Sem.run_bind]
    rw [he, hr]
    rfl
  have hle := Gh.le_add (l := ⟨w.heap.size, 0, sz, n * sz⟩) hf
  have hs : Same g.I w (w.alloc (.cells cs e)) := fun b hI => heap_alloc_old w _ (s.mem.lt b hI)
  refine ⟨_, _, ⟨w.heap.size, 0, sz, n * sz⟩, _, hr', .alloc w _, rfl, ⟨rfl, by simp [hl], cs, e, heap_alloc_new w _, hcs, hc.mono hle hs⟩, ?_⟩
  have := Img.row (g := g.add h ⟨w.heap.size, 0, sz, n * sz⟩) (w := w.alloc (.cells cs e)) h 0 n ⟨w.heap.size, 0, sz, n * sz⟩ n (by simp [Gh.add]) (Nat.le_refl _) (by simp)
  simpa using this
end
end Go.Am
