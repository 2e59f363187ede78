/- Kind by kind: append and copy. -/
import Derived.Test.YtflfnkdhmcfjlaaKindf
import Derived.Deep.AppendSrc
namespace Go.Am
open Go

section
variable {P : Program} {src : Nat → Nat} {fr : Fr} {g : Gh} {st : St} {a : Act} {w : World} {h : Nat} {d : D} {o : Oper}

/-- Cells of elements, one element behind the other. -/
def NewsOk (g : Gh) (w : World) (xs : List V) (sz : Nat) (news : List Value) : Prop :=
  news.length = xs.length * sz ∧ (∀ e ∈ xs, e.cells.length = sz) ∧ ∀ (i j : Nat) (e c : V), xs[i]? = some e → e.cells[j]? = some c → ∃ v, news[i * sz + j]? = some v ∧ v.oneCell' = true ∧ Img g w c v

theorem NewsOk.ones {xs : List V} {sz : Nat} {news : List Value} (h : NewsOk g w xs sz news) : ∀ u ∈ news, u.oneCell' = true := by
  intro u hu
  obtain ⟨k, hk, rfl⟩ := List.getElem_of_mem hu
  have hk' : k < xs.length * sz := by rw [← h.1]; exact hk
  have hsz : 0 < sz := by
    rcases Nat.eq_zero_or_pos sz with e | e
    · subst e; simp at hk'
    · exact e
  have hq : k / sz < xs.length := Nat.div_lt_of_lt_mul (by rw [Nat.mul_comm]; exact hk')
  have he : xs[k / sz]? = some xs[k / sz] := List.getElem?_eq_getElem hq
  have hl : xs[k / sz].cells.length = sz := h.2.1 _ (List.getElem_mem hq)
  have hm : k % sz < xs[k / sz].cells.length := by rw [hl]; exact Nat.mod_lt _ hsz
  obtain ⟨v, h1, h2, _⟩ := h.2.2 (k / sz) (k % sz) _ _ he (List.getElem?_eq_getElem hm)
  rw [Nat.mul_comm, Nat.div_add_mod] at h1
  rw [List.getElem?_eq_getElem hk] at h1
  cases h1
  exact h2

theorem NewsOk.take {xs : List V} {sz n : Nat} {news : List Value} (h : NewsOk g w xs sz news) : NewsOk g w (xs.take n) sz (news.take (n * sz)) := by
  refine ⟨?_, fun e he => h.2.1 e (List.mem_of_mem_take he), fun i j e c hi hj => ?_⟩
  · rw [List.length_take, List.length_take, h.1]
    rcases Nat.le_total n xs.length with h1 | h1
    · rw [Nat.min_eq_left h1, Nat.min_eq_left (Nat.mul_le_mul_right _ h1)]
    · rw [Nat.min_eq_right h1, Nat.min_eq_right (Nat.mul_le_mul_right _ h1)]
  · rw [List.getElem?_take] at hi
    split at hi
    · rename_i hin
      obtain ⟨v, h1, h2, h3⟩ := h.2.2 i j e c hi hj
      refine ⟨v, ?_, h2, h3⟩
      have hl := h.2.1 e (List.mem_of_getElem? hi)
      have hj' : j < sz := by
        rcases Nat.lt_or_ge j sz with h | h
        · exact h
        · rw [List.getElem?_eq_none (by omega)] at hj; cases hj
      have : i * sz + sz ≤ n * sz := by rw [← Nat.succ_mul]; exact Nat.mul_le_mul_right _ hin
      rw [List.getElem?_take, if_pos (by omega)]
      exact h1
    · cases hi

/-- What a slice that is looked at shows. -/
theorem view_cells (s : Sim fr g st a w) {x : V} {y : Value} {s0 sz : Nat} {xs : List V} (hi : Img g w x y) (hv : view st.mem x = some (s0, xs)) (hs : s0 = sz ∨ xs.length = 0) :
    ∃ ad c news, y = .slice ad xs.length c ∧ NewsOk g w xs sz news ∧ (ad = none → xs = []) ∧ ∀ b, ad = some b → ∀ j v, news[j]? = some v → w.cell? (b.add j) = some v := by
  have empty : ∀ {ad : Option Addr} {c : Nat}, xs = [] → y = .slice ad 0 c → ∃ ad c news, y = .slice ad xs.length c ∧ NewsOk g w xs sz news ∧ (ad = none → xs = []) ∧ ∀ b, ad = some b → ∀ j v, news[j]? = some v → w.cell? (b.add j) = some v := by
    intro ad c h1 h2
    subst h1
    exact ⟨ad, c, [], h2, ⟨by simp, by simp, by simp⟩, fun _ => rfl, by simp⟩
  unfold view at hv
  split at hv
  · cases hv
    exact empty rfl hi.nil_inv
  · rename_i p s1 ys
    cases hv
    rcases hi.lst_inv with ⟨rfl, ad, c, rfl⟩ | ⟨b, o, cap, vs, rfl, hI, hcap, hsz, hcell, hr, _⟩
    · exact empty rfl rfl
    · by_cases h0 : xs = []
      · subst h0; exact empty rfl rfl
      · have hs' : s0 = sz := by
          rcases hs with h | h
          · exact h
          · exact absurd (List.length_eq_zero_iff.1 h) h0
        subst hs'
        refine ⟨some ⟨b, o, none⟩, cap, (List.range (xs.length * s0)).map (fun k => vs (k / s0) (k % s0)), rfl, ⟨by simp, hsz, fun i j e c he hj => ?_⟩, (by simp), fun b' hb' j v hj => ?_⟩
        · have hl := hsz e (List.mem_of_getElem? he)
          have hj' : j < s0 := by
            rcases Nat.lt_or_ge j s0 with h | h
            · exact h
            · rw [List.getElem?_eq_none (by omega)] at hj; cases hj
          have hi' : i < xs.length := by
            rcases Nat.lt_or_ge i xs.length with h | h
            · exact h
            · rw [List.getElem?_eq_none h] at he; cases he
          have hlt : i * s0 + j < xs.length * s0 := by
            have : i * s0 + s0 ≤ xs.length * s0 := by rw [← Nat.succ_mul]; exact Nat.mul_le_mul_right _ hi'
            omega
          have hd : (i * s0 + j) / s0 = i := by rw [Nat.mul_comm, Nat.mul_add_div (by omega), Nat.div_eq_of_lt hj', Nat.add_zero]
          have hm : (i * s0 + j) % s0 = j := by rw [Nat.mul_comm, Nat.mul_add_mod]; exact Nat.mod_eq_of_lt hj'
          refine ⟨vs i j, by rw [List.getElem?_map, List.getElem?_range hlt]; simp [hd, hm], (hcell i j e c he hj).2, hr i j e c he hj⟩
        · cases hb'
          rw [List.getElem?_map, Option.map_eq_some_iff] at hj
          obtain ⟨k, hk, rfl⟩ := hj
          have hklt : j < xs.length * s0 := by
            rcases Nat.lt_or_ge j (xs.length * s0) with h | h
            · exact h
            · rw [List.getElem?_eq_none (by simpa using h)] at hk; cases hk
          rw [List.getElem?_range hklt] at hk
          cases hk
          have hp : 0 < s0 := by
            rcases Nat.eq_zero_or_pos s0 with e | e
            · subst e; simp at hklt
            · exact e
          have hq : j / s0 < xs.length := Nat.div_lt_of_lt_mul (by rw [Nat.mul_comm]; exact hklt)
          have hl : xs[j / s0].cells.length = s0 := hsz _ (List.getElem_mem hq)
          have hm : j % s0 < xs[j / s0].cells.length := by rw [hl]; exact Nat.mod_lt _ hp
          have := (hcell (j / s0) (j % s0) _ _ (List.getElem?_eq_getElem hq) (List.getElem?_eq_getElem hm)).1
          rw [add_at, ← this]
          congr 2
          rw [Nat.add_assoc, Nat.mul_comm, Nat.div_add_mod]
  · rename_i s1 hh oo l
    split at hv
    · rename_i s' es hB
      split at hv
      · rename_i hc
        obtain ⟨hc1, rfl⟩ := hc
        cases hv
        rcases hi.row_inv with ⟨loc, cap, hφ, hsz, hlc, hlim, rfl⟩ | ⟨rfl, ad, rfl⟩
        · have hlen : ((es.drop oo).take l).length = l := by simp; omega
          by_cases h0 : l = 0
          · subst h0; exact empty (by simp) rfl
          · have hs' : s0 = sz := by
              rcases hs with h | h
              · exact h
              · omega
            subst hs'
            obtain ⟨loc', e2, hBk, _, _⟩ := s.mem.blk hh _ hB
            rw [hφ] at e2; cases e2
            obtain ⟨hS, hfit, cs, T0, hb, hcs, hcells⟩ := hBk
            have hidx : ∀ (i : Nat) (e : V), ((es.drop oo).take l)[i]? = some e → es[oo + i]? = some e := by
              intro i e he
              rw [List.getElem?_take] at he
              split at he
              · rw [List.getElem?_drop] at he; exact he
              · cases he
            have hin : oo * s0 + l * s0 ≤ es.length * s0 := by rw [← Nat.add_mul]; exact Nat.mul_le_mul_right _ hc1
            refine ⟨_, cap, (cs.toList.drop (loc.base + oo * s0)).take (l * s0), by rw [hlen], ⟨?_, fun e he => hcells.1 e (List.mem_of_mem_drop (List.mem_of_mem_take he)), fun i j e c he hj => ?_⟩, (by simp), fun b' hb' j v hj => ?_⟩
            · rw [hlen]; simp; omega
            · have he' := hidx i e he
              obtain ⟨v, h1, h2, h3⟩ := hcells.2 (oo + i) j e c he' hj
              have hl := hcells.1 e (List.mem_of_getElem? he')
              have hj' : j < s0 := by
                rcases Nat.lt_or_ge j s0 with h | h
                · exact h
                · rw [List.getElem?_eq_none (by omega)] at hj; cases hj
              have hi' : i < l := by
                rcases Nat.lt_or_ge i l with h | h
                · exact h
                · rw [List.getElem?_eq_none (by omega)] at he; cases he
              have : i * s0 + s0 ≤ l * s0 := by rw [← Nat.succ_mul]; exact Nat.mul_le_mul_right _ hi'
              refine ⟨v, ?_, h2, h3⟩
              rw [List.getElem?_take, if_pos (by omega), List.getElem?_drop]
              rw [Nat.add_mul] at h1
              simp only [Array.getElem?_toList]
              rw [← h1]
              congr 1
              omega
            · cases hb'
              rw [List.getElem?_take] at hj
              split at hj
              · rw [List.getElem?_drop] at hj
                rw [add_at, cell_of_row w loc.b _ cs T0 (0, 0) hb, hS]
                simpa using hj
              · cases hj
        · exact empty (by simp) rfl
      · cases hv
    · cases hv
  · cases hv

theorem view_src (s : Sim fr g st a w) {x : V} {y : Value} {s0 sz : Nat} {xs : List V} {tx e' : TypeId} (ht : P.underlying tx = some (.slice e')) (hi : Img g w x y) (hv : view st.mem x = some (s0, xs)) (hs : s0 = sz ∨ xs.length = 0) :
    ∃ news, Src P sz tx y xs.length news w ∧ NewsOk g w xs sz news := by
  obtain ⟨ad, c, news, rfl, h1, h2, h3⟩ := view_cells s hi hv hs
  refine ⟨news, ?_, h1⟩
  cases ad with
  | none =>
    have := h2 rfl
    subst this
    have hn : news = [] := List.length_eq_zero_iff.1 (by rw [h1.1]; simp)
    subst hn
    exact .ofNil w ht c
  | some b => exact .ofSlice w ht b _ c news h1.1 (h3 b rfl) h1.ones

theorem CellsOk.append {es xs : List V} {sz base : Nat} {cs : Array Value} {olds news : List Value} (h1 : ∀ e ∈ es, e.cells.length = sz) (hb : olds.length = base + es.length * sz) (hc1 : ∀ (i j : Nat) (e c : V), es[i]? = some e → e.cells[j]? = some c → ∃ v, olds[base + i * sz + j]? = some v ∧ v.oneCell' = true ∧ Img g w c v)
    (hn : NewsOk g w xs sz news) {rest : List Value} (hcs : cs.toList = olds ++ news ++ rest) : CellsOk g w (es ++ xs) sz base cs := by
  refine ⟨fun e he => ?_, fun i j e c hi hj => ?_⟩
  · rcases List.mem_append.1 he with he | he
    · exact h1 e he
    · exact hn.2.1 e he
  · have hget : ∀ k : Nat, cs[k]? = (olds ++ news ++ rest)[k]? := fun k => by rw [← hcs]; simp
    have small : ∀ {l : List Value} {k : Nat} {v : Value}, l[k]? = some v → k < l.length := by
      intro l k v hl
      rcases Nat.lt_or_ge k l.length with h | h
      · exact h
      · rw [List.getElem?_eq_none h] at hl; cases hl
    by_cases hlt : i < es.length
    · rw [List.getElem?_append_left hlt] at hi
      obtain ⟨v, q1, q2, q3⟩ := hc1 i j e c hi hj
      refine ⟨v, ?_, q2, q3⟩
      rw [hget, List.append_assoc, List.getElem?_append_left (small q1)]
      exact q1
    · rw [List.getElem?_append_right (by omega)] at hi
      obtain ⟨v, q1, q2, q3⟩ := hn.2.2 _ j e c hi hj
      refine ⟨v, ?_, q2, q3⟩
      have e1 : base + i * sz + j = olds.length + ((i - es.length) * sz + j) := by
        rw [hb]
        have : i * sz = es.length * sz + (i - es.length) * sz := by rw [← Nat.add_mul]; congr 1; omega
        omega
      rw [hget, e1, List.append_assoc, List.getElem?_append_right (by omega), Nat.add_sub_cancel_left, List.getElem?_append_left (small q1)]
      exact q1

noncomputable def okApp (P : Program) (T tx : TypeId) (sz : Nat) : Bool :=
  (match P.underlying T with
  | some (.slice e) => match P.info? e with
    | some i => decide (i.size = sz) && decide (i.bytes ≤ 65536) && (match i.zero with
      | some x => decide (x.cells.size = sz)
      | none => false)
    | none => false
  | _ => false) && (match P.underlying tx with | some (.slice _) => true | _ => false)

theorem okApp_spec {T tx : TypeId} {sz : Nat} (hok : okApp P T tx sz = true) : ∃ e i x e', P.underlying T = some (.slice e) ∧ P.info? e = some i ∧ i.size = sz ∧ i.bytes ≤ 65536 ∧ i.zero = some x ∧ x.cells.size = sz ∧ P.underlying tx = some (.slice e') := by
  unfold okApp at hok
  simp only [Bool.and_eq_true] at hok
  obtain ⟨hok, hok2⟩ := hok
  split at hok2
  · rename_i e' hu'
    split at hok
    · rename_i e hu
      split at hok
      · rename_i i hi
        simp only [Bool.and_eq_true, decide_eq_true_eq] at hok
        obtain ⟨⟨h1, h3⟩, h4⟩ := hok
        split at h4
        · rename_i x hx
          simp only [decide_eq_true_eq] at h4
          exact ⟨e, i, x, e', hu, hi, h1, h3, hx, h4, hu'⟩
        · cases h4
      · cases hok
    · cases hok
  · cases hok2

/-- There is room (or nothing is appended). -/
theorem run_append_into {t tx ty e : TypeId} {i : TypeInfo} (ht : P.underlying t = some (.slice e)) (hi : P.info? e = some i) (base : Option Addr) (sLen sCap : Nat) (x : Value) (n : Nat) (news : List Value) (hs : Src P i.size tx x n news w) (hroom : sLen + n ≤ sCap) {w' : World}
    (hst : ∀ b, base = some b → (storeCells (b.add (sLen * i.size)) news).run P w = .ok () w') (hn : base = none → w' = w) :
    (Builtin.append_ #[t, tx] ty #[.slice base sLen sCap, x]).run P w = .ok (.slice base (sLen + n) sCap) w' := by
  cases base with
  | none =>
    have := hn rfl
    subst this
    rcases hs.kind with ⟨e', hk⟩ | hk <;> simp [Builtin.append_, run_underlying ht, run_underlying hk, sizeOf, typeInfo, hi, hs.len, hroom, hs.cells]
  | some b =>
    have := hst b rfl
    rcases hs.kind with ⟨e', hk⟩ | hk <;> simp [Builtin.append_, run_underlying ht, run_underlying hk, sizeOf, typeInfo, hi, hs.len, hroom, hs.cells, this]

theorem firstCells_zero (size : Nat) (ad : Option Addr) (l c : Nat) (w : World) : (Builtin.firstCells size 0 (.slice ad l c)).run P w = .ok #[] w := by
  cases ad with
  | none => simp [Builtin.firstCells]
  | some b =>
    have hl : (loadCells b 0).run P w = .ok #[] w := by simpa using run_loadCells_list (P := P) w b [] (by simp)
    simp [Builtin.firstCells, hl]
end
end Go.Am
