/- Kind by kind: append and copy, joined. -/
import Derived.Test.YtflfnkdhmcfjlaaKindg
namespace Go.Am
open Go

section
variable {P : Program} {src : Nat → Nat} {fr : Fr} {g : Gh} {st : St} {a : Act} {w : World} {h : Nat} {d : D} {o : Oper}

theorem size_toArray_append {olds news : List Value} {z : Array Value} {m : Nat} : ((olds ++ news).toArray ++ Builtin.zeroCells z m).size = olds.length + news.length + m * z.size := by
  simp [size_zeroCells]

theorem run_app_exec {x y : Operand} {ts : Array TypeId} (hop : o.op = .call { callee := .builtin .append, args := #[x, y], argTypes := ts }) {v : Value} {w' : World} (hr : (Builtin.append_ ts o.type #[a.eval x, a.eval y]).run P w = .ok v w') :
    (execOp a.eval o).run P w = .ok (.value v) w' := by
  simp [execOp, hop, resolve, invoke, builtin, hr]

/-- A new row behind an append. -/
theorem grow_new (s : Sim fr g st a w) (hf : g.φ h = none) {xs es : List V} {sz need cap : Nat} {olds news : List Value} {z : Array Value} {e : TypeId} (hz : z.size = sz) (ho : olds.length = es.length * sz)
    (h1 : ∀ e ∈ es, e.cells.length = sz) (hc1 : ∀ (i j : Nat) (e c : V), es[i]? = some e → e.cells[j]? = some c → ∃ v, olds[i * sz + j]? = some v ∧ v.oneCell' = true ∧ Img g w c v) (hn : NewsOk g w xs sz news) (hneed : need = es.length + xs.length) (hcap : need ≤ cap) :
    ∃ (w' : World) (loc : Loc) (ob : Obj), w' = w.drew.alloc (.cells ((olds ++ news).toArray ++ Builtin.zeroCells z (cap - need)) e) ∧ New w w' ob ∧ loc.b = w.heap.size ∧ BlkOk (g.add h loc) w' loc (.row sz (es ++ xs)) ∧ Img (g.add h loc) w' (.row sz h 0 need) (.slice (some ⟨w.heap.size, 0, none⟩) need cap) := by
  have hsize : ((olds ++ news).toArray ++ Builtin.zeroCells z (cap - need)).size = cap * sz := by
    rw [size_toArray_append, ho, hn.1, hz, ← Nat.add_mul, ← Nat.add_mul]
    congr 1
    omega
  have hle := Gh.le_add (l := ⟨w.heap.size, 0, sz, cap * sz⟩) hf
  have hs : Same g.I w (w.drew.alloc (.cells ((olds ++ news).toArray ++ Builtin.zeroCells z (cap - need)) e)) := fun b hI => heap_alloc_old w.drew _ (s.mem.lt b hI)
  have hbl : (es ++ xs).length * sz ≤ cap * sz := Nat.mul_le_mul_right _ (by rw [List.length_append]; omega)
  refine ⟨_, ⟨w.heap.size, 0, sz, cap * sz⟩, _, rfl, .drew w _, rfl, ⟨rfl, by simpa using hbl, _, e, heap_alloc_new w.drew _, hsize, ?_⟩, ?_⟩
  · refine CellsOk.mono hle hs (CellsOk.append (olds := olds) (news := news) (rest := (Builtin.zeroCells z (cap - need)).toList) h1 (by simpa using ho) (fun i j e c hi hj => by simpa using hc1 i j e c hi hj) hn (by simp))
  · have := Img.row (g := g.add h ⟨w.heap.size, 0, sz, cap * sz⟩) (w := w.drew.alloc (.cells ((olds ++ news).toArray ++ Builtin.zeroCells z (cap - need)) e)) h 0 need ⟨w.heap.size, 0, sz, cap * sz⟩ cap (by simp [Gh.add]) hcap (by simp)
    simpa using this

theorem fits {need old bytes : Nat} (h : old < need) (h1 : need < 2147483648) (h2 : bytes ≤ 65536) : Builtin.nextslicecap need old * bytes ≤ 281474976710656 := by
  refine growslice_fits h ?_
  calc need * bytes ≤ need * 65536 := Nat.mul_le_mul_left _ h2
    _ ≤ 140737488355328 := by omega

theorem k_app (s : Sim fr g st a w) (hf : g.φ h = none) {os : List O} {vs : List V} {x y : Operand} {ts : Array TypeId} {T tx : TypeId} {sz : Nat} (hop : o.op = .call { callee := .builtin .append, args := #[x, y], argTypes := ts }) (hts : ts = #[T, tx]) (hT : okApp P T tx sz = true)
    (hok : okOs os [x, y] = true) (hv : isVs os = true) (hg : getOs st os = some vs) {p : Plan} (hp : plan (.app sz) vs = some p) : PlanRun src fr g st a w h d ((execOp a.eval o).run P w) p := by
  obtain ⟨v, u, rfl, r1, r2⟩ := two_vals s hok hv hg
  obtain ⟨e, i, zx, e', hu, hi, hsz, hby, hz, hzs, hux⟩ := okApp_spec hT
  subst hts
  simp only [plan, plan_app] at hp
  split at hp
  · rename_i u' e0
    simp at e0
    obtain ⟨rfl, rfl⟩ := e0
    cases hp
    intro s0 xs hview
    have e1 := r1.nil_inv
    refine ⟨fun _ hxs => ?_, fun _ hxs hs0 hlen => ?_, fun h' oo l es h => by cases h⟩
    · subst hxs
      obtain ⟨news, hsrc, hn⟩ := view_src s (sz := i.size) hux r2 hview (.inr rfl)
      have hr := run_append_into (w := w) (w' := w) (ty := o.type) hu hi none 0 0 (a.eval y) 0 news hsrc (Nat.le_refl _) (fun b h => by cases h) (fun _ => rfl)
      exact ⟨.slice none 0 0, run_app_exec hop (by rw [e1]; exact hr), .pure .nil⟩
    · obtain ⟨news, hsrc, hn⟩ := view_src s (sz := i.size) hux r2 hview (.inl (by rw [hs0, hsz]))
      have hpos : 0 < xs.length := List.length_pos_iff.2 hxs
      have hbig : xs.length < 2147483648 := hlen
      have hr := run_append_grow_src w T tx o.type e i zx hu hi hz none 0 0 [] (by simp [run_firstCells_none]) (a.eval y) xs.length news hsrc (by omega) (by omega) (fits (by omega) (by omega) hby)
      simp only [List.nil_append, Nat.zero_add] at hr
      rw [hsz] at hn
      obtain ⟨w', loc, ob, e2, q1, q2, q3, q4⟩ := grow_new s hf (xs := xs) (es := []) (sz := sz) (need := xs.length) (cap := grownCap w xs.length 0 e) (olds := []) (news := news) (z := zx.cells) (e := e) hzs (by simp) (by simp) (by simp) hn (by simp) (grownCap_ge w _ _ e)
      refine ⟨w', _, loc, ob, run_app_exec hop (by rw [e1, e2]; exact hr), q1, q2, q3, q4⟩
  · rename_i s1 h' oo l u' e0
    simp at e0
    obtain ⟨rfl, rfl⟩ := e0
    split at hp
    · rename_i hs1
      subst hs1
      cases hp
      intro s0 xs hview
      refine ⟨fun h => (by cases h), fun h => (by cases h), fun h2 o2 l2 es heq hs0 hlen hB hol => ?_⟩
      cases heq
      have hbig : l + xs.length < 2147483648 := hlen
      obtain ⟨news, hsrc, hn⟩ := view_src s (sz := i.size) hux r2 hview (by rw [hsz]; exact hs0)
      obtain ⟨loc, hφ, hBk, hnI, hlt⟩ := s.mem.blk h' _ hB
      obtain ⟨hS, hfit, cs, T0, hb, hcs, hc⟩ := hBk
      have hidx : ∀ (i : Nat) (e : V), ((es.drop oo).take l)[i]? = some e → es[oo + i]? = some e := by
        intro i e he
        rw [List.getElem?_take] at he
        split at he
        · rw [List.getElem?_drop] at he; exact he
        · cases he
      have hlen2 : ((es.drop oo).take l).length = l := by simp; omega
      have hin : oo * s1 + l * s1 ≤ es.length * s1 := by rw [← Nat.add_mul]; exact Nat.mul_le_mul_right _ hol
      -- the cells that were there
      have hold : ∀ (i j : Nat) (e c : V), ((es.drop oo).take l)[i]? = some e → e.cells[j]? = some c → ∃ v, cs[loc.base + oo * s1 + (i * s1 + j)]? = some v ∧ v.oneCell' = true ∧ Img g w c v ∧ i * s1 + j < l * s1 := by
        intro i j e c he hj
        have he' := hidx i e he
        obtain ⟨v, q1, q2, q3⟩ := hc.2 (oo + i) j e c he' hj
        have hl := hc.1 e (List.mem_of_getElem? he')
        have hj' : j < s1 := by
          rcases Nat.lt_or_ge j s1 with h | h
          · exact h
          · rw [List.getElem?_eq_none (by omega)] at hj; cases hj
        have hi' : i < l := by
          rcases Nat.lt_or_ge i l with h | h
          · exact h
          · rw [List.getElem?_eq_none (by omega)] at he; cases he
        have : i * s1 + s1 ≤ l * s1 := by rw [← Nat.succ_mul]; exact Nat.mul_le_mul_right _ hi'
        refine ⟨v, ?_, q2, q3, by omega⟩
        rw [← q1]
        congr 1
        rw [Nat.add_mul]
        omega
      have hels : ∀ e ∈ (es.drop oo).take l, e.cells.length = s1 := fun e he => hc.1 e (List.mem_of_mem_drop (List.mem_of_mem_take he))
      -- the arm that grows
      have grow : ∀ {ad : Addr} {cap : Nat} {olds : List Value}, a.eval x = .slice (some ad) l cap → cap < l + xs.length → olds.length = l * s1 → (Builtin.firstCells i.size l (.slice (some ad) l cap)).run P w.drew = .ok olds.toArray w.drew →
          (∀ (i j : Nat) (e c : V), ((es.drop oo).take l)[i]? = some e → e.cells[j]? = some c → ∃ v, olds[i * s1 + j]? = some v ∧ v.oneCell' = true ∧ Img g w c v) →
          ∃ w' y loc ob, (execOp a.eval o).run P w = .ok (.value y) w' ∧ (New w w' ob ∧ loc.b = w.heap.size ∨ ∃ loc0, g.φ h' = some loc0 ∧ loc.b = loc0.b ∧ Upd w w' loc0.b ob) ∧
            BlkOk (g.add h loc) w' loc (.row s1 ((es.drop oo).take l ++ xs)) ∧ Img (g.add h loc) w' (.row s1 h 0 (l + xs.length)) y := by
        intro ad cap olds e1 hcap holds hfc hcells
        have hr := run_append_grow_src w T tx o.type e i zx hu hi hz (some ad) l cap olds hfc (a.eval y) xs.length news hsrc hcap (by omega) (fits hcap hbig hby)
        rw [hsz] at hn
        obtain ⟨w', loc', ob, e2, q1, q2, q3, q4⟩ := grow_new s hf (xs := xs) (es := (es.drop oo).take l) (sz := s1) (need := l + xs.length) (cap := grownCap w (l + xs.length) cap e) (olds := olds) (news := news) (z := zx.cells) (e := e) hzs (by rw [hlen2, holds]) hels hcells hn (by rw [hlen2]) (grownCap_ge w _ _ e)
        exact ⟨w', _, loc', ob, run_app_exec hop (by rw [e1, e2]; exact hr), .inl ⟨q1, q2⟩, q3, q4⟩
      rcases r1.row_inv with ⟨loc', cap, hφ', hls, hlc, hlim, e1⟩ | ⟨h0, ad, e1⟩
      · rw [hφ] at hφ'
        cases hφ'
        by_cases hroom : l + xs.length ≤ cap
        · -- in place
          rw [hsz] at hn
          have hcapin : oo * s1 + cap * s1 ≤ loc.lim - loc.base := by
            rw [hls, Nat.add_mul] at hlim; omega
          have hrm : l * s1 + xs.length * s1 ≤ cap * s1 := by rw [← Nat.add_mul]; exact Nat.mul_le_mul_right _ hroom
          have hblim : loc.base + (oo * s1 + cap * s1) ≤ loc.lim := by rw [hls, Nat.add_mul] at hlim; exact hlim
          have hst := run_storeCells_at (P := P) loc.b (loc.base + oo * s1 + l * s1) T0 news 0 cs w hb (by rw [hn.1]; omega) hn.ones
          have hr := run_append_into (w := w) (ty := o.type) hu hi (some ⟨loc.b, loc.base + oo * s1, none⟩) l cap (a.eval y) xs.length news hsrc hroom (fun b hb' => by cases hb'; rw [hsz, add_at]; exact hst) (fun h => by cases h)
          have hU := setRow_upd hb ((cs.toList.take (loc.base + oo * s1 + l * s1 + 0) ++ news ++ cs.toList.drop (loc.base + oo * s1 + l * s1 + 0 + news.length)).toArray)
          have hle : Gh.le g (g.add h ⟨loc.b, loc.base + oo * s1, s1, loc.lim⟩) := Gh.le_add hf
          have hsame : Same g.I w _ := fun b hI => hU.other b (fun e => hnI (e ▸ hI))
          refine ⟨_, _, ⟨loc.b, loc.base + oo * s1, s1, loc.lim⟩, _, run_app_exec hop (by rw [e1, hls]; exact hr), .inr ⟨loc, hφ, rfl, hU⟩, ?_, ?_⟩
          · refine ⟨rfl, ?_, _, T0, hU.here, ?_, CellsOk.mono hle hsame ?_⟩
            · simp only [List.length_append, hlen2, Nat.add_mul]; omega
            · simp only [List.size_toArray, List.length_append, List.length_take, List.length_drop, Array.length_toList, hn.1]
              omega
            · have hpre : (cs.toList.take (loc.base + oo * s1 + l * s1)).length = loc.base + oo * s1 + l * s1 := by
                rw [List.length_take, Array.length_toList]; omega
              refine CellsOk.append (olds := cs.toList.take (loc.base + oo * s1 + l * s1)) (news := news) (rest := cs.toList.drop (loc.base + oo * s1 + l * s1 + 0 + news.length)) hels (by rw [hpre, hlen2]) (fun i j e c he hj => ?_) hn (by simp)
              obtain ⟨v, q1, q2, q3, q4⟩ := hold i j e c he hj
              refine ⟨v, ?_, q2, q3⟩
              show (cs.toList.take (loc.base + oo * s1 + l * s1))[loc.base + oo * s1 + i * s1 + j]? = some v
              rw [List.getElem?_take, if_pos (by omega)]
              simp only [Array.getElem?_toList]
              rw [← q1]
              congr 1
              omega
          · have := Img.row (g := g.add h ⟨loc.b, loc.base + oo * s1, s1, loc.lim⟩) (w := w.setRow loc.b ((cs.toList.take (loc.base + oo * s1 + l * s1 + 0) ++ news ++ cs.toList.drop (loc.base + oo * s1 + l * s1 + 0 + news.length)).toArray)) h 0 (l + xs.length) ⟨loc.b, loc.base + oo * s1, s1, loc.lim⟩ cap (by simp [Gh.add]) hroom (by simp only [Nat.zero_add]; omega)
            simpa using this
        · have hcell : ∀ (j : Nat) (v : Value), ((cs.toList.drop (loc.base + oo * s1)).take (l * s1))[j]? = some v → w.cell? ((⟨loc.b, loc.base + oo * loc.sz, none⟩ : Addr).add j) = some v := by
            intro j v hj
            rw [List.getElem?_take] at hj
            split at hj
            · rw [List.getElem?_drop] at hj
              rw [add_at, cell_of_row w loc.b _ cs T0 (0, 0) hb, hls]
              simpa using hj
            · cases hj
          have hlo : ((cs.toList.drop (loc.base + oo * s1)).take (l * s1)).length = l * s1 := by
            simp only [List.length_take, List.length_drop, Array.length_toList]
            omega
          refine grow e1 (by omega) hlo (run_firstCells_some w.drew i.size l _ l cap _ (by rw [hlo, hsz]) (by simpa using hcell)) (fun i j e c he hj => ?_)
          obtain ⟨v, q1, q2, q3, q4⟩ := hold i j e c he hj
          refine ⟨v, ?_, q2, q3⟩
          rw [List.getElem?_take, if_pos q4, List.getElem?_drop]
          simpa using q1
      · subst h0
        by_cases hroom : xs.length = 0
        · have hxs : xs = [] := List.length_eq_zero_iff.1 hroom
          subst hxs
          have hnn : news = [] := List.length_eq_zero_iff.1 (by rw [hn.1]; simp)
          subst hnn
          have hr := run_append_into (w := w) (w' := w) (ty := o.type) hu hi (some ad) 0 0 (a.eval y) 0 [] hsrc (Nat.le_refl _) (fun b _ => by simp [storeCells]) (fun h => by cases h)
          have hU : Upd w w loc.b (.cells cs T0 (0, 0)) := ⟨hb, fun _ _ => rfl, rfl, rfl, rfl, rfl⟩
          refine ⟨w, _, ⟨loc.b, 0, s1, loc.lim⟩, _, run_app_exec hop (by rw [e1]; exact hr), .inr ⟨loc, hφ, rfl, hU⟩, ⟨rfl, by simp, cs, T0, hb, hcs, ⟨by simp, by simp⟩⟩, ?_⟩
          exact .row0 _ _ _ _
        · exact grow e1 (by omega) (olds := []) (by simp) (firstCells_zero i.size _ _ _ _) (by simp)
    · cases hp
  · cases hp

/-! ### copy -/
noncomputable def okCpy (P : Program) (T : TypeId) (sz : Nat) : Bool := okSlc P T sz

theorem k_cpy (s : Sim fr g st a w) {os : List O} {vs : List V} {x y : Operand} {ts : Array TypeId} {T tx : TypeId} {sz : Nat} (hop : o.op = .call { callee := .builtin .copy, args := #[x, y], argTypes := ts }) (hts : ts = #[T, tx]) (hT : okSlc P T sz = true)
    (hok : okOs os [x, y] = true) (hv : isVs os = true) (hg : getOs st os = some vs) {p : Plan} (hp : plan (.cpy sz) vs = some p) : PlanRun src fr g st a w h d ((execOp a.eval o).run P w) p := by
  obtain ⟨v, u, rfl, r1, r2⟩ := two_vals s hok hv hg
  obtain ⟨e, hu, hs⟩ := okSlc_spec hT
  subst hts
  simp only [plan, plan_cpy] at hp
  split at hp
  · rename_i s1 h' oo l u' e0
    simp at e0
    obtain ⟨rfl, rfl⟩ := e0
    split at hp
    · rename_i hs1
      subst hs1
      cases hp
      intro s0 xs es hview hB hs0 hol
      obtain ⟨ad, c, news, e2, hn, hn1, hn2⟩ := view_cells s r2 hview hs0
      obtain ⟨loc, hφ, hBk, hnI, hlt⟩ := s.mem.blk h' _ hB
      obtain ⟨hS, hfit, cs, T0, hb, hcs, hc⟩ := hBk
      obtain ⟨m, hm⟩ : ∃ m, m = min l xs.length := ⟨_, rfl⟩
      rw [← hm]
      have hml : m ≤ l := by omega
      have hmx : m ≤ xs.length := by omega
      have hmc : Nat.min xs.length l = m := by rw [hm]; exact Nat.min_comm _ _
      have hn' := hn.take (n := m)
      have hmin : (xs.take (m)).length = m := by rw [List.length_take]; omega
      have hnl : (news.take (m * s1)).length = m * s1 := by rw [hn'.1, hmin]
      -- what is read
      have hfc : (Builtin.firstCells s1 (m) (a.eval y)).run P w = .ok (news.take (m * s1)).toArray w := by
        rw [e2]
        cases ad with
        | none =>
          have := hn1 rfl
          subst this
          have h0 : news = [] := List.length_eq_zero_iff.1 (by rw [hn.1]; simp)
          subst h0
          simp [run_firstCells_none]
        | some b => exact run_firstCells_some w s1 (m) b _ c _ hnl (fun j v hj => by
            rw [List.getElem?_take] at hj
            split at hj
            · exact hn2 b rfl j v hj
            · cases hj)
      have hlen : (Builtin.lenOf (a.eval y)).run P w = .ok xs.length w := by rw [e2]; rfl
      have hsz : (sizeOf e).run P w = .ok s1 w := run_sizeOf' hs w
      have copy : ∀ {b : Addr} {cap : Nat} {w' : World}, a.eval x = .slice (some b) l cap → (storeCells b (news.take (m * s1))).run P w = .ok () w' → (execOp a.eval o).run P w = .ok (.value (.int .i64 (m : Nat))) w' := by
        intro b cap w' e1 hst
        have hr : (Builtin.copy_ #[T, tx] o.type #[a.eval x, a.eval y]).run P w = .ok (goInt m) w' := by
          simp only [Builtin.copy_, e1]
          simp [run_underlying hu, hlen, hsz, hmc, hfc, hst]
        simp [execOp, hop, resolve, invoke, builtin, hr, goInt]
      rcases r1.row_inv with ⟨loc', cap, hφ', hls, hlc, hlim, e1⟩ | ⟨h0, b, e1⟩
      · rw [hφ] at hφ'
        cases hφ'
        have hin : oo * s1 + l * s1 ≤ es.length * s1 := by rw [← Nat.add_mul]; exact Nat.mul_le_mul_right _ hol
        have hmn : m * s1 ≤ l * s1 := Nat.mul_le_mul_right _ hml
        have hst := run_storeCells_at (P := P) loc.b (loc.base + oo * s1) T0 (news.take (m * s1)) 0 cs w hb (by rw [hnl]; omega) hn'.ones
        have hU := setRow_upd hb ((cs.toList.take (loc.base + oo * s1 + 0) ++ news.take (m * s1) ++ cs.toList.drop (loc.base + oo * s1 + 0 + (news.take (m * s1)).length)).toArray)
        have hsame : Same g.I w _ := fun b hI => hU.other b (fun e => hnI (e ▸ hI))
        refine ⟨_, loc, _, copy (by rw [e1, hls]) hst, hφ, hU, hS, ?_, _, T0, hU.here, ?_, CellsOk.mono (.refl g) hsame ?_⟩
        · have : (es.take oo ++ xs.take (m) ++ es.drop (oo + m)).length = es.length := by
            simp only [List.length_append, hmin, List.length_take, List.length_drop]; omega
          rw [this]; exact hfit
        · simp only [List.size_toArray, List.length_append, List.length_take, List.length_drop, Array.length_toList, hnl] at *
          omega
        · have hpre : (cs.toList.take (loc.base + oo * s1 + 0)).length = loc.base + oo * s1 := by rw [List.length_take, Array.length_toList]; omega
          have heo : (es.take oo).length = oo := by rw [List.length_take]; omega
          have hels : ∀ e ∈ es.take oo ++ xs.take m ++ es.drop (oo + m), e.cells.length = s1 := by
            intro e he
            rcases List.mem_append.1 he with he | he
            · rcases List.mem_append.1 he with he | he
              · exact hc.1 e (List.mem_of_mem_take he)
              · exact hn'.2.1 e he
            · exact hc.1 e (List.mem_of_mem_drop he)
          refine ⟨hels, fun i j e c hi hj => ?_⟩
          have hj' : j < s1 := by
            have := hels e (List.mem_of_getElem? hi)
            rcases Nat.lt_or_ge j s1 with h | h
            · exact h
            · rw [List.getElem?_eq_none (by omega)] at hj; cases hj
          have old : ∀ {k : Nat}, es[k]? = some e → ∃ v, cs.toList[loc.base + k * s1 + j]? = some v ∧ v.oneCell' = true ∧ Img g w c v := by
            intro k hk
            obtain ⟨v, q1, q2, q3⟩ := hc.2 k j e c hk hj
            exact ⟨v, by simpa using q1, q2, q3⟩
          simp only [List.getElem?_toArray]
          by_cases c1 : i < oo
          · rw [List.append_assoc, List.getElem?_append_left (by omega), List.getElem?_take, if_pos c1] at hi
            obtain ⟨v, q1, q2, q3⟩ := old hi
            have : i * s1 + s1 ≤ oo * s1 := by rw [← Nat.succ_mul]; exact Nat.mul_le_mul_right _ c1
            refine ⟨v, ?_, q2, q3⟩
            rw [List.append_assoc, List.getElem?_append_left (by omega), List.getElem?_take, if_pos (by omega)]
            exact q1
          · by_cases c2 : i < oo + m
            · rw [List.append_assoc, List.getElem?_append_right (by omega), heo, List.getElem?_append_left (by omega)] at hi
              obtain ⟨v, q1, q2, q3⟩ := hn'.2.2 _ j e c hi hj
              refine ⟨v, ?_, q2, q3⟩
              have e3 : i * s1 = oo * s1 + (i - oo) * s1 := by rw [← Nat.add_mul]; congr 1; omega
              have e4 : (i - oo) * s1 + s1 ≤ m * s1 := by rw [← Nat.succ_mul]; exact Nat.mul_le_mul_right _ (by omega)
              rw [List.append_assoc, List.getElem?_append_right (by omega), hpre, List.getElem?_append_left (by omega)]
              rw [← q1]
              congr 1
              omega
            · rw [List.getElem?_append_right (by rw [List.length_append]; omega), List.length_append, heo, hmin, List.getElem?_drop, show oo + m + (i - (oo + m)) = i by omega] at hi
              obtain ⟨v, q1, q2, q3⟩ := old hi
              refine ⟨v, ?_, q2, q3⟩
              have e3 : i * s1 = oo * s1 + m * s1 + (i - (oo + m)) * s1 := by rw [← Nat.add_mul, ← Nat.add_mul]; congr 1; omega
              rw [List.getElem?_append_right (by rw [List.length_append]; omega), List.length_append, hpre, hnl, List.getElem?_drop]
              rw [← q1]
              congr 1
              omega
      · subst h0
        have hm0 : m = 0 := by omega
        subst hm0
        have hU : Upd w w loc.b (.cells cs T0 (0, 0)) := ⟨hb, fun _ _ => rfl, rfl, rfl, rfl, rfl⟩
        refine ⟨w, loc, _, copy e1 (by simp [storeCells]), hφ, hU, ?_⟩
        have : es.take oo ++ xs.take 0 ++ es.drop (oo + 0) = es := by simp
        rw [this]
        exact ⟨hS, hfit, cs, T0, hb, hcs, hc⟩
    · cases hp
  · cases hp
end
end Go.Am
