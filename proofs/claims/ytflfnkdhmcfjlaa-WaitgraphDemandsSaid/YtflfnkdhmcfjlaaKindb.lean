/- Kind by kind: addresses, loads, stores, boxes. -/
import Derived.Test.YtflfnkdhmcfjlaaKinda
namespace Go.Am
open Go

/-! ### A store into an element -/
theorem setC_spec {off sz : Nat} {v e e' : V} (h : setC off sz v e = some e') : v.ones = true ∧ v.cells.length = sz ∧ off + sz ≤ e.cells.length ∧ e'.cells.length = e.cells.length ∧
    ∀ j, e'.cells[j]? = if off ≤ j ∧ j < off + sz then v.cells[j - off]? else e.cells[j]? := by
  unfold setC at h
  split at h
  · rename_i hc
    simp only [Bool.and_eq_true, beq_iff_eq] at hc
    obtain ⟨h1, h2⟩ := hc
    split at h
    · rename_i cs
      split at h
      · rename_i hl
        cases h
        refine ⟨h1, h2, hl, ?_, fun j => ?_⟩
        · simp only [V.cells_agg, List.length_append, List.length_take, List.length_drop]; omega
        · simp only [V.cells_agg]
          split
          · rename_i hj
            rw [List.append_assoc, List.getElem?_append_right (by simp; omega), List.getElem?_append_left (by simp; omega)]
            simp only [List.length_take]
            congr 1
            omega
          · rename_i hj
            by_cases hlt : j < off
            · rw [List.append_assoc, List.getElem?_append_left (by simp; omega), List.getElem?_take, if_pos hlt]
            · rw [List.getElem?_append_right (by simp; omega), List.getElem?_drop]
              congr 1
              simp only [List.length_append, List.length_take]
              omega
      · cases h
    · rename_i hne
      split at h
      · cases h
      · rename_i hv
        split at h
        · rename_i ho
          subst ho
          cases h
          have he : e.cells = [e] := by cases e <;> first | rfl | (rename_i cs; exact absurd rfl (hne cs))
          have hv' : v.cells = [v] := by cases v <;> first | rfl | (rename_i cs; exact absurd rfl (hv cs))
          have hs : sz = 1 := by rw [← h2, hv']; rfl
          refine ⟨h1, h2, by rw [he]; simp [hs], by rw [he, hv']; rfl, fun j => ?_⟩
          subst hs
          cases j with
          | zero => simp
          | succ j => simp [he, hv']
        · cases h
  · cases h

section
variable {P : Program} {src : Nat → Nat} {fr : Fr} {g : Gh} {st : St} {a : Act} {w : World} {h : Nat} {d : D} {o : Oper}

theorem ElemAt.of_row {es : List V} {sz base : Nat} {cs : Array Value} {b : Nat} {T : TypeId} (hc : CellsOk g w es sz base cs) (hb : w.heap[b]? = some (.cells cs T (0, 0))) {i : Nat} {e : V} (he : es[i]? = some e) : ElemAt g w b (base + i * sz) e := by
  intro j c hj
  obtain ⟨v, h1, h2, h3⟩ := hc.2 i j e c he hj
  exact ⟨v, by rw [cell_of_row w b _ cs T (0, 0) hb]; exact h1, h2, h3⟩

theorem store_row {es : List V} {S base : Nat} {cur cs : Array Value} {w' : World} {i off sz : Nat} {v e e' : V} {x : Value} (hc : CellsOk g w es S base cur) (he : es[i]? = some e) (hset : setC off sz v e = some e') (hx : Img g w v x)
    (hs : Same g.I w w') (h1 : ∀ j, j < sz → cs[base + i * S + off + j]? = x.cells[j]?) (h2 : ∀ k, (k < base + i * S + off ∨ base + i * S + off + sz ≤ k) → cs[k]? = cur[k]?) : CellsOk g w' (es.set i e') S base cs := by
  obtain ⟨ho, hsz, hfit, hlen, hcell⟩ := setC_spec hset
  have heS : e.cells.length = S := hc.1 e (List.mem_of_getElem? he)
  have hi : i < es.length := by
    rcases Nat.lt_or_ge i es.length with h | h
    · exact h
    · rw [List.getElem?_eq_none h] at he; cases he
  have hxc := hx.cells
  refine ⟨fun u hu => ?_, fun k j u c hu hj => ?_⟩
  · rcases List.mem_or_eq_of_mem_set hu with hu | rfl
    · exact hc.1 u hu
    · rw [hlen]; exact heS
  · by_cases hk : i = k
    · subst hk
      rw [List.getElem?_set_self hi] at hu
      cases hu
      rw [hcell] at hj
      split at hj
      · rename_i hr
        have hlt : j - off < x.cells.size := by rw [← hxc.1, hsz]; omega
        have hy : x.cells[j - off]? = some x.cells[j - off] := by simp [hlt]
        refine ⟨x.cells[j - off], ?_, hx.ones ho _ _ hy, (hxc.2 _ _ _ hj hy).mono (.refl g) hs⟩
        have := h1 (j - off) (by omega)
        rw [hy] at this
        rw [← this]
        congr 1
        omega
      · rename_i hr
        obtain ⟨y, h3, h4, h5⟩ := hc.2 i j e c he hj
        refine ⟨y, ?_, h4, h5.mono (.refl g) hs⟩
        rw [h2 _ (by omega)]
        exact h3
    · rw [List.getElem?_set_ne hk] at hu
      obtain ⟨y, h3, h4, h5⟩ := hc.2 k j u c hu hj
      refine ⟨y, ?_, h4, h5.mono (.refl g) hs⟩
      rw [h2 _ ?_]
      · exact h3
      · have huS : u.cells.length = S := hc.1 u (List.mem_of_getElem? hu)
        have hjS : j < S := by
          rcases Nat.lt_or_ge j S with h | h
          · exact h
          · rw [List.getElem?_eq_none (by omega)] at hj; cases hj
        rcases Nat.lt_or_ge k i with h | h
        · left
          have : k * S + S ≤ i * S := by rw [← Nat.succ_mul]; exact Nat.mul_le_mul_right _ h
          omega
        · right
          have : i * S + S ≤ k * S := by rw [← Nat.succ_mul]; exact Nat.mul_le_mul_right _ (by omega)
          omega

/-! ### Addresses -/
def okFa (P : Program) (T : TypeId) (i off : Nat) : Bool :=
  match P.underlying T with
  | some (.struct fs) => match fs[i]? with
    | some f => decide (f.offset = off) && (match szOf P f.type with | some n => decide (n ≠ 0) | none => false)
    | none => false
  | _ => false

theorem run_fieldAt {T : TypeId} {i off : Nat} (hok : okFa P T i off = true) (ad : Addr) : (Instr.fieldAt T (.pointer (some ad)) i).run P w = .ok (.pointer (some (ad.add off))) w := by
  unfold okFa at hok
  split at hok
  · rename_i fs hu
    split at hok
    · rename_i f hf
      simp only [Bool.and_eq_true, decide_eq_true_eq] at hok
      obtain ⟨h1, h2⟩ := hok
      split at h2
      · rename_i n hn
        simp only [decide_eq_true_eq] at h2
        simp [Instr.fieldAt, run_underlying hu, hf, Instr.sureAddr, fieldPlace, run_sizeOf' hn, h2, h1]
      · cases h2
    · cases hok
  · cases hok

theorem ImgA.addr {v : V} {x : Value} (hi : ImgA fr.BS g a w v x) (hv : (∃ h i o, v = .ptr h i o) ∨ (∃ e o, v = .imm e o) ∨ ∃ t o, v = .loc t o) : ∃ b o, x = .pointer (some ⟨b, o, none⟩) := by
  rcases hv with ⟨h, i, o, rfl⟩ | ⟨e, o, rfl⟩ | ⟨t, o, rfl⟩
  · obtain ⟨loc, _, rfl⟩ := Img.ptr_inv hi; exact ⟨_, _, rfl⟩
  · obtain ⟨b, o', rfl, _⟩ := hi; exact ⟨_, _, rfl⟩
  · obtain ⟨_, b, _, rfl⟩ := hi; exact ⟨_, _, rfl⟩

/-- An address n cells on. -/
theorem ImgA.step {n : Nat} : (∀ {h i o : Nat} {x : Value}, ImgA fr.BS g a w (.ptr h i o) x → ∃ ad : Addr, x = .pointer (some ad) ∧ ImgA fr.BS g a w (.ptr h i (o + n)) (.pointer (some (ad.add n)))) ∧
    (∀ {e : V} {o : Nat} {x : Value}, ImgA fr.BS g a w (.imm e o) x → ∃ ad : Addr, x = .pointer (some ad) ∧ ImgA fr.BS g a w (.imm e (o + n)) (.pointer (some (ad.add n)))) ∧
    (∀ {t o : Nat} {x : Value}, ImgA fr.BS g a w (.loc t o) x → ∃ ad : Addr, x = .pointer (some ad) ∧ ImgA fr.BS g a w (.loc t (o + n)) (.pointer (some (ad.add n)))) := by
  refine ⟨fun hx => ?_, fun hx => ?_, fun hx => ?_⟩
  · obtain ⟨loc, h1, rfl⟩ := Img.ptr_inv hx
    refine ⟨_, rfl, ?_⟩
    rw [add_at, Nat.add_assoc]
    exact .ptr _ _ _ loc h1
  · obtain ⟨b, o', rfl, h1, h2⟩ := hx
    exact ⟨_, rfl, b, o', by rw [add_at, Nat.add_assoc], h1, h2⟩
  · obtain ⟨h0, b, h1, rfl⟩ := hx
    exact ⟨_, rfl, h0, b, h1, by rw [add_at]⟩

theorem k_fa (s : Sim fr g st a w) {os : List O} {vs : List V} {x : Operand} {T : TypeId} {i off : Nat} (hop : o.op = .fieldAddr T x i) (hT : okFa P T i off = true) (hok : okOs os [x] = true) (hd : d.isA = true) (hg : getOs st os = some vs) {p : Plan} (hp : plan (.fa off) vs = some p) :
    PlanRun src fr g st a w h d ((execOp a.eval o).run P w) p := by
  obtain ⟨q, rfl, h1⟩ := okOs_one hok
  obtain ⟨v, rfl, h2⟩ := getOs_one hg
  have h3 := getO_img s h1 h2
  have fin : ∀ {u : V}, (∃ ad : Addr, a.eval x = .pointer (some ad) ∧ ImgA fr.BS g a w u (.pointer (some (ad.add off)))) → PlanRun src fr g st a w h d ((execOp a.eval o).run P w) (.ret u) := by
    rintro u ⟨ad, e1, e2⟩
    refine PR_ret (x := .pointer (some (ad.add off))) (by simp [execOp, hop, e1, run_fieldAt hT]) ?_
    cases d with
    | a _ => exact e2
    | _ => simp [D.isA] at hd
  simp only [plan, plan_fa] at hp
  split at hp
  · rename_i e; simp at e; subst e; cases hp; exact fin (ImgA.step.1 h3)
  · rename_i e; simp at e; subst e; cases hp; exact fin (ImgA.step.2.1 h3)
  · rename_i e; simp at e; subst e; cases hp; exact fin (ImgA.step.2.2 h3)
  · cases hp

def okIaa (P : Program) (T : TypeId) (n sz : Nat) : Bool :=
  match P.underlying T with
  | some (.array len e) => decide (len = n) && decide (szOf P e = some sz)
  | _ => false

theorem run_indexAt_array {T : TypeId} {n sz : Nat} (hok : okIaa P T n sz = true) (ad : Addr) (k : IntKind) (j : Int) (h0 : 0 ≤ j) (h1 : j < n) :
    (Instr.indexAt T (.pointer (some ad)) (.int k j)).run P w = .ok (.pointer (some (ad.add (j.toNat * sz)))) w := by
  unfold okIaa at hok
  split at hok
  · rename_i len e hu
    simp only [Bool.and_eq_true, decide_eq_true_eq] at hok
    obtain ⟨rfl, h2⟩ := hok
    simp [Instr.indexAt, asIntOf, run_underlying hu, Instr.sureAddr, h0, h1, run_sizeOf' h2]
  · cases hok

theorem k_iaa (s : Sim fr g st a w) {os : List O} {vs : List V} {x y : Operand} {T : TypeId} {n sz : Nat} (hop : o.op = .indexAddr T x y) (hT : okIaa P T n sz = true) (hok : okOs os [x, y] = true) (hv : snd os = true) (hd : d.isA = true) (hg : getOs st os = some vs) {p : Plan} (hp : plan (.iaa n sz) vs = some p) :
    PlanRun src fr g st a w h d ((execOp a.eval o).run P w) p := by
  obtain ⟨q, q2, rfl, h1, h1'⟩ := okOs_two hok
  obtain ⟨v, u, rfl, h2, h2'⟩ := getOs_two hg
  have h3 := getO_img s h1 h2
  have h4 := getO_val s hv h1' h2'
  have fin : ∀ {z : V} {k : IntKind} {j : Int}, u = .int k j → 0 ≤ j ∧ j < n → (∃ ad : Addr, a.eval x = .pointer (some ad) ∧ ImgA fr.BS g a w z (.pointer (some (ad.add (j.toNat * sz))))) → PlanRun src fr g st a w h d ((execOp a.eval o).run P w) (.ret z) := by
    rintro z k j rfl hj ⟨ad, e1, e2⟩
    have e3 := h4.int_inv
    refine PR_ret (x := .pointer (some (ad.add (j.toNat * sz)))) (by simp [execOp, hop, e1, e3, run_indexAt_array hT ad k j hj.1 hj.2]) ?_
    cases d with
    | a _ => exact e2
    | _ => simp [D.isA] at hd
  simp only [plan, plan_iaa] at hp
  split at hp
  · rename_i e; simp at e; obtain ⟨rfl, rfl⟩ := e
    split at hp
    · rename_i hj; cases hp; exact fin rfl hj (ImgA.step.1 h3)
    · cases hp
  · rename_i e; simp at e; obtain ⟨rfl, rfl⟩ := e
    split at hp
    · rename_i hj; cases hp; exact fin rfl hj (ImgA.step.2.1 h3)
    · cases hp
  · rename_i e; simp at e; obtain ⟨rfl, rfl⟩ := e
    split at hp
    · rename_i hj; cases hp; exact fin rfl hj (ImgA.step.2.2 h3)
    · cases hp
  · cases hp

def okSlc (P : Program) (T : TypeId) (sz : Nat) : Bool :=
  match P.underlying T with
  | some (.slice e) => decide (szOf P e = some sz)
  | _ => false

theorem okSlc_spec {T : TypeId} {sz : Nat} (hok : okSlc P T sz = true) : ∃ e, P.underlying T = some (.slice e) ∧ szOf P e = some sz := by
  unfold okSlc at hok
  split at hok
  · rename_i e hu
    exact ⟨e, hu, by simpa using hok⟩
  · cases hok

theorem run_indexAt_slice {T : TypeId} {sz : Nat} (hok : okSlc P T sz = true) (ad : Addr) (len cap : Nat) (k : IntKind) (j : Int) (h0 : 0 ≤ j) (h1 : j < len) :
    (Instr.indexAt T (.slice (some ad) len cap) (.int k j)).run P w = .ok (.pointer (some (ad.add (j.toNat * sz)))) w := by
  obtain ⟨e, hu, h2⟩ := okSlc_spec hok
  simp [Instr.indexAt, asIntOf, run_underlying hu, h0, h1, run_sizeOf' h2]

theorem k_ia (s : Sim fr g st a w) {os : List O} {vs : List V} {x y : Operand} {T : TypeId} {sz : Nat} (hop : o.op = .indexAddr T x y) (hT : okSlc P T sz = true) (hok : okOs os [x, y] = true) (hv : isVs os = true) (hd : d.isA = true) (hg : getOs st os = some vs) {p : Plan} (hp : plan (.ia sz) vs = some p) :
    PlanRun src fr g st a w h d ((execOp a.eval o).run P w) p := by
  obtain ⟨q, q2, rfl, h1, h1'⟩ := okOs_two hok
  obtain ⟨v, u, rfl, h2, h2'⟩ := getOs_two hg
  obtain ⟨v1, v2⟩ := isVs_two hv
  have h3 := getO_val s v1 h1 h2
  have h4 := getO_val s v2 h1' h2'
  simp only [plan, plan_ia] at hp
  split at hp
  · rename_i e; simp at e; obtain ⟨rfl, rfl⟩ := e
    split at hp
    · rename_i sv hh oo l k j hj
      cases hp
      have e3 := h4.int_inv
      rcases h3.row_inv with ⟨loc, cap, hφ, rfl, hl, hc, e1⟩ | ⟨rfl, _⟩
      · refine PR_ret (x := .pointer (some ⟨loc.b, loc.base + (oo + j.toNat) * loc.sz + 0, none⟩)) ?_ ?_
        · have e4 := run_indexAt_slice (w := w) hT ⟨loc.b, loc.base + oo * loc.sz, none⟩ l cap k j hj.1 hj.2.1
          rw [add_at] at e4
          have e5 : loc.base + (oo + j.toNat) * loc.sz + 0 = loc.base + oo * loc.sz + j.toNat * loc.sz := by rw [Nat.add_mul]; omega
          rw [e5, ← hj.2.2] at *
          simp [execOp, hop, e1, e3, e4]
        · cases d with
          | a _ => exact .ptr _ _ _ loc hφ
          | _ => simp [D.isA] at hd
      · have := hj.2.1; have := hj.1; omega
    · cases hp
  · rename_i e; simp at e; obtain ⟨rfl, rfl⟩ := e
    split at hp
    · rename_i pp sv xs k j hj
      simp only [nth_eq, Option.map_eq_some_iff] at hp
      obtain ⟨el, hel, rfl⟩ := hp
      have e3 := h4.int_inv
      have hlt : j.toNat < xs.length := by
        rcases Nat.lt_or_ge j.toNat xs.length with h | h
        · exact h
        · rw [List.getElem?_eq_none h] at hel; cases hel
      rcases h3.lst_inv with ⟨rfl, _⟩ | ⟨b, oo, cap, vs, e1, hI, hc, hs, hv, hr, _⟩
      · simp at hlt
      · refine PR_ret (x := .pointer (some ⟨b, oo + j.toNat * sz + 0, none⟩)) ?_ ?_
        · have e4 := run_indexAt_slice (w := w) hT ⟨b, oo, none⟩ xs.length cap k j hj.1 (by omega)
          rw [add_at] at e4
          simp [execOp, hop, e1, e3, e4]
        · cases d with
          | a _ =>
            refine ⟨b, oo + j.toNat * sz, rfl, hI, fun m c hm => ?_⟩
            obtain ⟨p1, p2⟩ := hv j.toNat m el c hel hm
            rw [hj.2] at p1
            exact ⟨_, p1, p2, hr j.toNat m el c hel hm⟩
          | _ => simp [D.isA] at hd
    · cases hp
  · cases hp

/-! ### Loads and stores -/
theorem k_ld (s : Sim fr g st a w) {os : List O} {vs : List V} {x : Operand} {T : TypeId} {agg : Bool} {sz : Nat} (hop : o.op = .load T x) (hT : (decide (aggOf P T = some agg) && (!agg || decide (szOf P T = some sz))) = true) (hok : okOs os [x] = true) (hg : getOs st os = some vs) {p : Plan} (hp : plan (.ld agg sz) vs = some p) :
    PlanRun src fr g st a w h d ((execOp a.eval o).run P w) p := by
  obtain ⟨q, rfl, h1⟩ := okOs_one hok
  obtain ⟨v, rfl, h2⟩ := getOs_one hg
  have h3 := getO_img s h1 h2
  simp only [Bool.and_eq_true, decide_eq_true_eq, Bool.or_eq_true, Bool.not_eq_true'] at hT
  have hs : agg = true → szOf P T = some sz := fun e => by
    rcases hT.2 with h | h
    · rw [e] at h; cases h
    · exact h
  have run : ∀ {b off : Nat} {y : Value}, a.eval x = .pointer (some ⟨b, off, none⟩) → (loadVar T ⟨b, off, none⟩).run P w = .ok y w → (execOp a.eval o).run P w = .ok (.value y) w := by
    intro b off y e1 e2
    simp [execOp, hop, e1, Instr.loadAt, Instr.sureAddr, e2]
  simp only [plan, plan_ld] at hp
  split at hp
  · rename_i el off e
    simp at e
    subst e
    simp only [Option.map_eq_some_iff] at hp
    obtain ⟨u, hu, rfl⟩ := hp
    obtain ⟨b, oo, e1, hI, he⟩ := h3
    obtain ⟨y, e2, e3⟩ := load_elem (P := P) he hT.1 hs hu
    exact PR_ret (run e1 e2) (.of_img e3)
  · rename_i hh i off e
    simp at e
    subst e
    cases hp
    intro B u hB hu
    obtain ⟨loc, hφ, e1⟩ := Img.ptr_inv h3
    cases B with
    | map _ => cases hu
    | row S es =>
      simp only [nth_eq] at hu
      split at hu
      · rename_i el hel
        obtain ⟨loc', e2, hBk, _, _⟩ := s.mem.blk hh _ hB
        rw [hφ] at e2; cases e2
        obtain ⟨hS, _, cs, T0, hb, _, hc⟩ := hBk
        rw [← hS] at hc
        obtain ⟨y, e3, e4⟩ := load_elem (P := P) (ElemAt.of_row hc hb hel) hT.1 hs hu
        exact ⟨y, run e1 e3, e4⟩
      · cases hu
  · rename_i t off e
    simp at e
    subst e
    cases hp
    intro el u hel hu
    obtain ⟨_, b, ht, e1⟩ := h3
    obtain ⟨_, b', ht', hbox⟩ := s.bx t el hel
    rw [ht] at ht'; simp at ht'; subst ht'
    obtain ⟨cs, T0, hb, _, hc⟩ := hbox.cells
    have hE : ElemAt g w b 0 el := fun j c hj => by
      obtain ⟨y, p1, p2, p3⟩ := hc j c hj
      exact ⟨y, by rw [cell_of_row w b _ cs T0 (0, 0) hb, Nat.zero_add]; exact p1, p2, p3⟩
    obtain ⟨y, e3, e4⟩ := load_elem (P := P) hE hT.1 hs hu
    rw [Nat.zero_add] at e3
    exact ⟨y, run e1 e3, e4⟩
  · cases hp

theorem k_frz (s : Sim fr g st a w) {os : List O} {vs : List V} {x : Operand} {T : TypeId} {sz : Nat} (hop : o.op = .load T x) (hT : aggOf P T = some true ∧ szOf P T = some sz) (hok : okOs os [x] = true) (hg : getOs st os = some vs)
    {p : Plan} (hp : plan (.frz sz) vs = some p) : PlanRun src fr g st a w h d ((execOp a.eval o).run P w) p := by
  obtain ⟨q, rfl, h1⟩ := okOs_one hok
  obtain ⟨v, rfl, h2⟩ := getOs_one hg
  have h3 := getO_img s h1 h2
  simp only [plan, plan_frz] at hp
  split at hp
  · rename_i t e
    simp at e
    subst e
    cases hp
    intro cl hel hl
    obtain ⟨_, b, ht, e1⟩ := h3
    obtain ⟨_, b', ht', hbox⟩ := s.bx t _ hel
    rw [ht] at ht'; simp at ht'; subst ht'
    obtain ⟨cs, T0, hb, _, hc⟩ := hbox.cells
    have hE : ElemAt g w b 0 (.agg cl) := fun j c hj => by
      obtain ⟨y, p1, p2, p3⟩ := hc j c hj
      exact ⟨y, by rw [cell_of_row w b _ cs T0 (0, 0) hb, Nat.zero_add]; exact p1, p2, p3⟩
    have hu : getC true 0 sz (.agg cl) = some (.agg cl) := by
      simp [getC, V.cells_agg, hl]
      rw [← hl]; exact List.take_length
    obtain ⟨y, e3, e4⟩ := load_elem (P := P) hE hT.1 (fun _ => hT.2) hu
    rw [Nat.zero_add] at e3
    exact ⟨y, by simp [execOp, hop, e1, Instr.loadAt, Instr.sureAddr, e3], e4⟩
  · cases hp

theorem k_st (s : Sim fr g st a w) {os : List O} {vs : List V} {x y : Operand} {T : TypeId} {sz : Nat} (hop : o.op = .store T x y) (hT : szOf P T = some sz) (hok : okOs os [x, y] = true) (hv : snd os = true) (hg : getOs st os = some vs) {p : Plan} (hp : plan (.st sz) vs = some p) :
    PlanRun src fr g st a w h d ((execOp a.eval o).run P w) p := by
  obtain ⟨q, q2, rfl, h1, h1'⟩ := okOs_two hok
  obtain ⟨v, u, rfl, h2, h2'⟩ := getOs_two hg
  have h3 := getO_img s h1 h2
  have h4 := getO_val s hv h1' h2'
  have run : ∀ {b off : Nat} {w' : World}, a.eval x = .pointer (some ⟨b, off, none⟩) → (storeVar T ⟨b, off, none⟩ (a.eval y)).run P w = .ok () w' → (execOp a.eval o).run P w = .ok .skip w' := by
    intro b off w' e1 e2
    simp [execOp, hop, e1, Instr.storeAt, Instr.sureAddr, e2]
  simp only [plan, plan_st] at hp
  split at hp
  · rename_i hh i off z e
    simp at e
    obtain ⟨rfl, rfl⟩ := e
    cases hp
    refine ⟨rfl, fun B B' hB hB' => ?_⟩
    obtain ⟨loc, hφ, e1⟩ := Img.ptr_inv h3
    cases B with
    | map _ => cases hB'
    | row S es =>
      simp only [nth_eq] at hB'
      split at hB'
      · rename_i el hel
        simp only [Option.map_eq_some_iff] at hB'
        obtain ⟨e', hset, rfl⟩ := hB'
        obtain ⟨loc', e2, hBk, hnI, _⟩ := s.mem.blk hh _ hB
        rw [hφ] at e2; cases e2
        obtain ⟨hS, hfit, cs, T0, hb, hcs, hc⟩ := hBk
        obtain ⟨ho, hsz, hfit2, _, _⟩ := setC_spec hset
        have hi : i < es.length := by
          rcases Nat.lt_or_ge i es.length with h | h
          · exact h
          · rw [List.getElem?_eq_none h] at hel; cases hel
        have heS : el.cells.length = S := hc.1 el (List.mem_of_getElem? hel)
        have hin : i * S + S ≤ es.length * S := by rw [← Nat.succ_mul]; exact Nat.mul_le_mul_right _ hi
        obtain ⟨w', cs', e3, hu, hcs', h5, h6⟩ := store_cells (P := P) hb (o := loc.base + i * S + off) h4 ho hsz hT (by omega)
        have hs : Same g.I w w' := fun b hI => hu.other b (fun e => hnI (e ▸ hI))
        refine ⟨w', loc, _, run (by rw [e1, hS]) e3, hφ, hu, hS, ?_, cs', T0, hu.here, by rw [hcs', hcs], store_row hc hel hset h4 hs h5 h6⟩
        rw [List.length_set]; exact hfit
      · cases hB'
  · rename_i t off z e
    simp at e
    obtain ⟨rfl, rfl⟩ := e
    cases hp
    intro el e' hel hset
    obtain ⟨_, b, ht, e1⟩ := h3
    obtain ⟨_, b', ht', hbox⟩ := s.bx t el hel
    rw [ht] at ht'; simp at ht'; subst ht'
    obtain ⟨cs, T0, hb, hcs, hc⟩ := hbox.cells
    obtain ⟨ho, hsz, hfit2, hlen, hcell⟩ := setC_spec hset
    obtain ⟨w', cs', e3, hu, hcs', h5, h6⟩ := store_cells (P := P) hb (o := off) h4 ho hsz hT (by omega)
    have hxc := h4.cells
    refine ⟨w', b, cs', T0, run e1 e3, ht, hu, by omega, fun j c hj => ?_⟩
    rw [hcell] at hj
    split at hj
    · rename_i hr
      have hlt : j - off < (a.eval y).cells.size := by rw [← hxc.1, hsz]; omega
      have hy : (a.eval y).cells[j - off]? = some (a.eval y).cells[j - off] := by simp [hlt]
      refine ⟨(a.eval y).cells[j - off], ?_, h4.ones ho _ _ hy, hxc.2 _ _ _ hj hy⟩
      have := h5 (j - off) (by omega)
      rw [hy] at this
      rw [← this]
      congr 1
      omega
    · rename_i hr
      obtain ⟨y', p1, p2, p3⟩ := hc j c hj
      exact ⟨y', by rw [h6 _ (by omega)]; exact p1, p2, p3⟩
  · cases hp

/-! ### Boxes -/
theorem CellsAt.of_img {v : V} {x : Value} (hx : Img g w v x) (h1 : v.ones = true) : CellsAt g w v x.cells := by
  have hc := hx.cells
  refine ⟨hc.1.symm, fun j c hj => ?_⟩
  have hlt : j < x.cells.size := by
    rw [← hc.1]
    rcases Nat.lt_or_ge j v.cells.length with h | h
    · exact h
    · rw [List.getElem?_eq_none h] at hj; cases hj
  have hy : x.cells[j]? = some x.cells[j] := by simp [hlt]
  exact ⟨_, hy, hx.ones h1 _ _ hy, hc.2 _ _ _ hj hy⟩

theorem run_newVar (T : TypeId) (x : Value) : (newVar T x).run P w = .ok ⟨w.heap.size, 0, none⟩ (w.alloc (.cells x.cells T)) := rfl

theorem pr_box {T : TypeId} {v : V} {x : Value} (hx : Img g w v x) (hr : (execOp a.eval o).run P w = .ok (.value (.pointer (some ⟨w.heap.size, 0, none⟩))) (w.alloc (.cells x.cells T))) {p : Plan} (hp : plan .box [v] = some p) :
    PlanRun src fr g st a w h d ((execOp a.eval o).run P w) p := by
  simp only [plan, plan_box] at hp
  split at hp
  · rename_i h1
    cases hp
    exact ⟨_, x.cells, T, hr, .alloc w _, .of_img hx h1⟩
  · cases hp

theorem pr_hbox {T : TypeId} {sz : Nat} {v : V} {x : Value} (hf : g.φ h = none) (s : Sim fr g st a w) (hx : Img g w v x) (hr : (execOp a.eval o).run P w = .ok (.value (.pointer (some ⟨w.heap.size, 0, none⟩))) (w.alloc (.cells x.cells T))) {p : Plan} (hp : plan (.hbox sz) [v] = some p) :
    PlanRun src fr g st a w h d ((execOp a.eval o).run P w) p := by
  simp only [plan, plan_hbox] at hp
  split at hp
  · rename_i h1
    simp only [Bool.and_eq_true, beq_iff_eq] at h1
    cases hp
    obtain ⟨h2, h3⟩ := CellsAt.of_img hx h1.1
    have hle := Gh.le_add (l := ⟨w.heap.size, 0, sz, sz⟩) hf
    have hs : Same g.I w (w.alloc (.cells x.cells T)) := fun b hI => heap_alloc_old w _ (s.mem.lt b hI)
    refine ⟨_, _, ⟨w.heap.size, 0, sz, sz⟩, _, hr, .alloc w _, rfl, ⟨rfl, by simp, x.cells, T, heap_alloc_new w _, by simp only; rw [h2]; exact h1.2, fun e he => by simp at he; subst he; exact h1.2, fun i j e c hi hj => ?_⟩, ?_⟩
    · cases i with
      | zero =>
        simp at hi; subst hi
        obtain ⟨y, p1, p2, p3⟩ := h3 j c hj
        exact ⟨y, by simpa using p1, p2, p3.mono hle hs⟩
      | succ i => simp at hi
    · have : Img (g.add h ⟨w.heap.size, 0, sz, sz⟩) (w.alloc (.cells x.cells T)) (.ptr h 0 0) (.pointer (some ⟨w.heap.size, 0 + 0 * sz + 0, none⟩)) := .ptr h 0 0 ⟨w.heap.size, 0, sz, sz⟩ (by simp [Gh.add])
      simpa using this
  · cases hp

theorem k_box (s : Sim fr g st a w) (hf : g.φ h = none) {os : List O} {vs : List V} {x : Operand} {T : TypeId} (hop : o.op = .box T x) (hok : okOs os [x] = true) (hv : isVs os = true) (hg : getOs st os = some vs) {k : K} (hk : k = .box ∨ ∃ sz, k = .hbox sz) {p : Plan} (hp : plan k vs = some p) :
    PlanRun src fr g st a w h d ((execOp a.eval o).run P w) p := by
  obtain ⟨q, rfl, h1⟩ := okOs_one hok
  obtain ⟨v, rfl, h2⟩ := getOs_one hg
  have h3 := getO_val s (isVs_one hv) h1 h2
  have hr : (execOp a.eval o).run P w = .ok (.value (.pointer (some ⟨w.heap.size, 0, none⟩))) (w.alloc (.cells (a.eval x).cells T)) := by
    simp [execOp, hop, Instr.box, run_newVar]
  rcases hk with rfl | ⟨sz, rfl⟩
  · exact pr_box h3 hr hp
  · exact pr_hbox hf s h3 hr hp

/-- The zero value of a type. -/
def okZero (P : Program) (T : TypeId) (z : V) : Bool :=
  match (P.info? T).bind (·.zero) with
  | some x => okConst z x
  | none => false

theorem okZero_spec {T : TypeId} {z : V} (hz : okZero P T z = true) : ∃ x, okConst z x = true ∧ ∀ w : World, (zeroValue T).run P w = .ok x w := by
  unfold okZero at hz
  split at hz
  · rename_i x hx
    refine ⟨x, hz, fun w => ?_⟩
    cases hq : P.info? T with
    | none => rw [hq] at hx; cases hx
    | some i =>
      rw [hq] at hx
      simp at hx
      simp [zeroValue, typeInfo, hq, hx]
  · cases hz

theorem k_alloc (s : Sim fr g st a w) (hf : g.φ h = none) {os : List O} {vs : List V} {T : TypeId} {z : V} (hop : o.op = .alloc T) (hos : os = [.k z]) (hz : okZero P T z = true) (hg : getOs st os = some vs) {k : K} (hk : k = .box ∨ ∃ sz, k = .hbox sz) {p : Plan} (hp : plan k vs = some p) :
    PlanRun src fr g st a w h d ((execOp a.eval o).run P w) p := by
  subst hos
  obtain ⟨v, rfl, h2⟩ := getOs_one hg
  cases h2
  obtain ⟨x, hx, hrun⟩ := okZero_spec hz
  have hr : (execOp a.eval o).run P w = .ok (.value (.pointer (some ⟨w.heap.size, 0, none⟩))) (w.alloc (.cells x.cells T)) := by
    simp [execOp, hop, Instr.alloc, hrun, run_newVar]
  have h3 : Img g w z x := .pure (okConst_img hx _ _)
  rcases hk with rfl | ⟨sz, rfl⟩
  · exact pr_box h3 hr hp
  · exact pr_hbox hf s h3 hr hp
end
end Go.Am
