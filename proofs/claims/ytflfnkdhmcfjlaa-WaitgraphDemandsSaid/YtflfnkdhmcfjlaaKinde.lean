/- Kind by kind: slices of slices, made rows, literals. -/
import Derived.Test.YtflfnkdhmcfjlaaKindd
namespace Go.Am
open Go

section
variable {P : Program} {src : Nat → Nat} {fr : Fr} {g : Gh} {st : St} {a : Act} {w : World} {h : Nat} {d : D} {o : Oper}

/-! ### Slices of slices -/
theorem run_sliceAt_lh {T e : TypeId} {sz : Nat} (hu : P.underlying T = some (.slice e)) (hs : szOf P e = some sz) (ad : Option Addr) (len cap l h : Nat) (hlen : len ≤ cap) (lo hi : Option Value)
    (hlo : lo = none ∧ l = 0 ∨ ∃ k, lo = some (.int k (l : Int))) (hhi : hi = none ∧ h = len ∨ ∃ k, hi = some (.int k (h : Int))) (h1 : l ≤ h) (h2 : h ≤ cap) :
    (Instr.sliceAt T (.slice ad len cap) lo hi none).run P w = .ok (.slice (if cap = l then ad else ad.map (·.add (l * sz))) (h - l) (cap - l)) w := by
  rcases hlo with ⟨rfl, rfl⟩ | ⟨k, rfl⟩ <;> rcases hhi with ⟨rfl, rfl⟩ | ⟨k', rfl⟩ <;>
    simp [Instr.sliceAt, run_underlying hu, Instr.slice, Instr.sliceBounds, Instr.sliceBound, asIntOf, run_sizeOf' hs, h1, h2]

theorem optBound_spec {b : Bool} {vs rest : List V} {dflt n : Nat} (h : optBound b vs dflt = some (n, rest)) : (b = false ∧ n = dflt ∧ rest = vs) ∨ (b = true ∧ ∃ k, vs = .int k (n : Int) :: rest) := by
  unfold optBound at h
  cases b with
  | false => simp at h; exact .inl ⟨rfl, h.1.symm, h.2.symm⟩
  | true =>
    simp only [if_true] at h
    split at h
    · rename_i k m vs
      split at h
      · rename_i h0
        cases h
        exact .inr ⟨rfl, k, by rw [Int.toNat_of_nonneg h0]⟩
      · cases h
    · cases h

theorem slOf_img {T e : TypeId} {sz l hh n : Nat} (hu : P.underlying T = some (.slice e)) (hs : szOf P e = some sz) {x u : V} {y : Value} (hi : Img g w x y) (hn : lenOf x = some n) (hsl : slOf sz x l hh = some u) (lo hi' : Option Value)
    (hlo : lo = none ∧ l = 0 ∨ ∃ k, lo = some (.int k (l : Int))) (hhi : hi' = none ∧ hh = n ∨ ∃ k, hi' = some (.int k (hh : Int))) :
    ∃ z, (Instr.sliceAt T y lo hi' none).run P w = .ok z w ∧ Img g w u z := by
  unfold slOf at hsl
  split at hsl
  · rename_i hle
    split at hsl
    · split at hsl
      · rename_i h0
        cases hsl
        have e1 := hi.nil_inv
        cases hn
        subst e1
        have hl0 : l = 0 := by omega
        refine ⟨.slice none 0 0, ?_, .pure .nil⟩
        have := run_sliceAt_lh (w := w) hu hs none 0 0 l hh (Nat.le_refl _) lo hi' hlo hhi hle (by omega)
        rw [this, hl0, h0]
        rfl
      · cases hsl
    · rename_i p s xs
      split at hsl
      · rename_i hc
        cases hsl
        cases hn
        suffices hx : ∃ z, (Instr.sliceAt T y lo hi' none).run P w = .ok z w ∧ Img g w (.lst p s ((xs.drop l).take (hh - l))) z from let ⟨z, a, b⟩ := hx; ⟨z, a, b.ro⟩
        have empty : ∀ (ad : Option Addr) (c : Nat), (xs.drop l).take (hh - l) = [] → ∀ z, z = .slice ad 0 c → Img g w (.lst p s ((xs.drop l).take (hh - l))) z := by
          intro ad c h1 z h2
          rw [h1, h2]
          exact .pure (.lst0 p s ad c)
        rcases hi.lst_inv with ⟨rfl, ad, c, rfl⟩ | ⟨b, o, cap, vs, rfl, hI, hcap, hsz, hv, hr, hP⟩
        · have h1 := hc.1
          simp at h1
          refine ⟨_, run_sliceAt_lh hu hs ad 0 c l hh (Nat.zero_le _) lo hi' hlo hhi hle (by omega), ?_⟩
          refine empty (if c = l then ad else Option.map (fun x : Addr => x.add (l * sz)) ad) (c - l) (by simp) _ ?_
          rw [show hh - l = 0 by omega]
        · refine ⟨_, run_sliceAt_lh hu hs (some ⟨b, o, none⟩) xs.length cap l hh hcap lo hi' hlo hhi hle (by omega), ?_⟩
          by_cases h0 : hh - l = 0
          · refine empty (if cap = l then some (⟨b, o, none⟩ : Addr) else Option.map (fun x : Addr => x.add (l * sz)) (some (⟨b, o, none⟩ : Addr))) (cap - l) (by rw [h0]; rfl) _ ?_
            rw [h0]
          · have hcl : cap ≠ l := by omega
            have hs2 : s = sz := by
              rcases hc.2 with h | h
              · exact h
              · omega
            subst hs2
            rw [if_neg hcl]
            simp only [Option.map_some, add_at]
            have hlen : ((xs.drop l).take (hh - l)).length = hh - l := by simp; omega
            have idx : ∀ (i : Nat) (q : V), ((xs.drop l).take (hh - l))[i]? = some q → xs[l + i]? = some q := by
              intro i q hq
              rw [List.getElem?_take] at hq
              split at hq
              · rw [List.getElem?_drop] at hq; exact hq
              · cases hq
            have hv0 : Value.slice (some ⟨b, o + l * s, none⟩) (hh - l) (cap - l) = Value.slice (some ⟨b, o + l * s, none⟩) ((xs.drop l).take (hh - l)).length (cap - l) := by rw [hlen]
            rw [hv0]
            have hsz' : ∀ q ∈ (xs.drop l).take (hh - l), q.cells.length = s := fun q hq => hsz q (List.mem_of_mem_drop (List.mem_of_mem_take hq))
            have hv' : ∀ (i j : Nat) (q c : V), ((xs.drop l).take (hh - l))[i]? = some q → q.cells[j]? = some c → w.cell? ⟨b, o + l * s + i * s + j, none⟩ = some (vs (l + i) j) ∧ (vs (l + i) j).oneCell' = true := by
              intro i j q c hq hj
              have := hv (l + i) j q c (idx i q hq) hj
              rw [Nat.add_mul] at this
              rw [show o + l * s + i * s + j = o + (l * s + i * s) + j by omega]
              exact this
            rcases hP with hP | rfl
            · cases hP with
              | lst0 => simp at hlen; omega
              | lst _ _ _ _ _ _ vs2 hI2 hc2 hs2 hv2 hr2 =>
                refine .pure (.lst p s _ b (o + l * s) (cap - l) (fun i j => vs2 (l + i) j) hI2 (by rw [hlen]; omega) hsz' (fun i j q c hq hj => ?_) (fun i j q c hq hj => hr2 (l + i) j q c (idx i q hq) hj))
                have := hv2 (l + i) j q c (idx i q hq) hj
                rw [Nat.add_mul] at this
                rw [show o + l * s + i * s + j = o + (l * s + i * s) + j by omega]
                exact this
            · exact .lst false s _ b (o + l * s) (cap - l) (fun i j => vs (l + i) j) rfl hI (by rw [hlen]; omega) hsz' hv' (fun i j q c hq hj => hr (l + i) j q c (idx i q hq) hj)
      · cases hsl
    · rename_i s h' o l'
      split at hsl
      · rename_i hc
        cases hsl
        cases hn
        obtain ⟨hc1, hc2⟩ := hc
        rcases hi.row_inv with ⟨loc, cap, hφ, hsz, hlc, hlim, rfl⟩ | ⟨rfl, ad, rfl⟩
        · refine ⟨_, run_sliceAt_lh hu hs _ _ cap l hh hlc lo hi' hlo hhi hle (by omega), ?_⟩
          by_cases hcl : cap = l
          · have : hh - l = 0 := by omega
            rw [this, if_pos hcl, hcl, Nat.sub_self]
            exact .row0 _ _ _ _
          · rw [if_neg hcl]
            subst hsz
            simp only [Option.map_some, add_at]
            rw [← hc2]
            rw [show loc.base + o * loc.sz + l * loc.sz = loc.base + (o + l) * loc.sz by rw [Nat.add_mul]; omega]
            exact .row _ _ _ loc _ hφ (by omega) (by rw [show o + l + (cap - l) = o + cap by omega]; exact hlim)
        · refine ⟨_, run_sliceAt_lh hu hs (some ad) 0 0 l hh (Nat.le_refl _) lo hi' hlo hhi hle (by omega), ?_⟩
          have h1 : l = 0 := by omega
          have h2 : hh = 0 := by omega
          subst h1 h2
          exact .row0 _ _ _ _
      · cases hsl
    · cases hsl
  · cases hsl

theorem k_sl (s : Sim fr g st a w) {os : List O} {vs : List V} {x : Operand} {lo hi : Option Operand} {T : TypeId} {sz : Nat} (hop : o.op = .slice T x lo hi none) (hT : okSlc P T sz = true) (hok : okOs os (x :: (lo.toList ++ hi.toList)) = true) (hv : isVs os = true) (hg : getOs st os = some vs) {p : Plan} (hp : plan (.sl sz lo.isSome hi.isSome false) vs = some p) :
    PlanRun src fr g st a w h d ((execOp a.eval o).run P w) p := by
  obtain ⟨e, hu, hs⟩ := okSlc_spec hT
  match os, hok with
  | q :: os, hok =>
    simp only [okOs, Bool.and_eq_true] at hok
    simp only [isVs, Bool.and_eq_true] at hv
    obtain ⟨v, ws, rfl, h1, h2⟩ := getOs_cons_some hg
    have r := getO_val s hv.1 hok.1 h1
    obtain ⟨h3, h4⟩ := getOs_vals s hv.2 hok.2 h2
    simp only [plan, plan_sl, Bool.false_eq_true, if_false] at hp
    split at hp
    · cases hp
    · rename_i n hn
      split at hp
      · cases hp
      · rename_i l ws1 hb1
        split at hp
        · rename_i hh hb2
          simp only [Option.map_eq_some_iff] at hp
          obtain ⟨u, hu', rfl⟩ := hp
          have key : ∃ z, (Instr.sliceAt T (a.eval x) (lo.map a.eval) (hi.map a.eval) none).run P w = .ok z w ∧ Img g w u z := by
            rcases optBound_spec hb1 with ⟨e1, e2, e3⟩ | ⟨e1, k, e2⟩
            · have hlo : lo = none := by simpa using e1
              subst hlo e2 e3
              rcases optBound_spec hb2 with ⟨e4, e5, e6⟩ | ⟨e4, k', e5⟩
              · have hhi : hi = none := by simpa using e4
                subst hhi e5
                exact slOf_img hu hs r hn hu' _ _ (.inl ⟨rfl, rfl⟩) (.inl ⟨rfl, rfl⟩)
              · obtain ⟨hi', rfl⟩ := Option.isSome_iff_exists.1 e4
                subst e5
                have := (h4 0 _ hi' rfl rfl).int_inv
                exact slOf_img hu hs r hn hu' _ _ (.inl ⟨rfl, rfl⟩) (.inr ⟨k', by simp [this]⟩)
            · obtain ⟨lo', rfl⟩ := Option.isSome_iff_exists.1 e1
              subst e2
              have q1 := (h4 0 _ lo' rfl rfl).int_inv
              rcases optBound_spec hb2 with ⟨e4, e5, e6⟩ | ⟨e4, k', e5⟩
              · have hhi : hi = none := by simpa using e4
                subst hhi e5
                exact slOf_img hu hs r hn hu' _ _ (.inr ⟨k, by simp [q1]⟩) (.inl ⟨rfl, rfl⟩)
              · obtain ⟨hi', rfl⟩ := Option.isSome_iff_exists.1 e4
                subst e5
                have q2 := (h4 1 _ hi' rfl rfl).int_inv
                exact slOf_img hu hs r hn hu' _ _ (.inr ⟨k, by simp [q1]⟩) (.inr ⟨k', by simp [q2]⟩)
          obtain ⟨z, h5, h6⟩ := key
          exact PR_ret (x := z) (by simp [execOp, hop, h5]) (.of_img h6)
        · cases hp

/-! ### Made rows -/
noncomputable def okMk (P : Program) (T : TypeId) (sz : Nat) (z : V) : Bool :=
  match P.underlying T with
  | some (.slice e) => match P.info? e with
    | some i => decide (i.size = sz) && decide (0 < sz) && decide (i.bytes ≤ 65536) && (match i.zero with
      | some x => okConst z x && decide (z.cells.length = sz)
      | none => false)
    | none => false
  | _ => false

theorem okMk_spec {T : TypeId} {sz : Nat} {z : V} (hok : okMk P T sz z = true) : ∃ e i x, P.underlying T = some (.slice e) ∧ P.info? e = some i ∧ i.size = sz ∧ 0 < sz ∧ i.bytes ≤ 65536 ∧ i.zero = some x ∧ okConst z x = true ∧ z.cells.length = sz := by
  unfold okMk at hok
  split at hok
  · rename_i e hu
    split at hok
    · rename_i i hi
      simp only [Bool.and_eq_true, decide_eq_true_eq] at hok
      obtain ⟨⟨⟨h1, h2⟩, h3⟩, h4⟩ := hok
      split at h4
      · rename_i x hx
        simp only [Bool.and_eq_true, decide_eq_true_eq] at h4
        exact ⟨e, i, x, hu, hi, h1, h2, h3, hx, h4.1, h4.2⟩
      · cases h4
    · cases hok
  · cases hok

theorem made_cells {z : V} {x : Value} {sz n : Nat} (hz : okConst z x = true) (hl : z.cells.length = sz) (g : Gh) (w : World) : CellsOk g w (List.replicate n z) sz 0 (madeCells x.cells (n * sz)) := by
  have hx : Img g w z x := .pure (okConst_img hz _ _)
  obtain ⟨hc1, hc2⟩ := hx.cells
  obtain ⟨_, hc3⟩ := okConst_cells hz
  refine ⟨fun e he => by rw [(List.mem_replicate.1 he).2]; exact hl, fun i j e c hi hj => ?_⟩
  have hin : i < n := by
    rcases Nat.lt_or_ge i n with h | h
    · exact h
    · rw [List.getElem?_eq_none (by simp; omega)] at hi; cases hi
  have he : e = z := by
    rw [List.getElem?_replicate] at hi
    simp [hin] at hi
    exact hi.symm
  subst he
  have hj' : j < sz := by
    rcases Nat.lt_or_ge j sz with h | h
    · exact h
    · rw [List.getElem?_eq_none (by omega)] at hj; cases hj
  have hlt : i * sz + j < n * sz := by
    have : i * sz + sz ≤ n * sz := by rw [← Nat.succ_mul]; exact Nat.mul_le_mul_right _ hin
    omega
  have hxs : x.cells.size = sz := by omega
  have hmod : (i * sz + j) % sz = j := by rw [Nat.mul_comm, Nat.mul_add_mod]; exact Nat.mod_eq_of_lt hj'
  have hjx : j < x.cells.size := by omega
  have hy : x.cells[j]? = some x.cells[j] := by simp [hjx]
  refine ⟨x.cells[j], ?_, hc3 _ (by simp), hc2 j c _ hj hy⟩
  rw [Nat.zero_add]
  simp [madeCells, hlt, hxs, hmod, getElem!_pos x.cells j hjx]

theorem k_mk (s : Sim fr g st a w) {os : List O} {vs : List V} {x y : Operand} {T : TypeId} {sz : Nat} {z : V} (hop : o.op = .makeSlice T x y) (hT : okMk P T sz z = true) (hok : okOs os [x] = true) (hok2 : okOs os [y] = true) (hv : isVs os = true) (hg : getOs st os = some vs) {p : Plan} (hp : plan (.mk sz z) vs = some p) :
    PlanRun src fr g st a w h d ((execOp a.eval o).run P w) p := by
  obtain ⟨v, rfl, r⟩ := one_val s hok hv hg
  obtain ⟨v2, hv2, r2⟩ := one_val s hok2 hv hg
  simp at hv2
  subst hv2
  obtain ⟨e, i, zx, hu, hi, hsz, h0, hby, hz, hzx, hzl⟩ := okMk_spec hT
  simp only [plan, plan_mk] at hp
  split at hp
  · rename_i k n e0
    simp at e0
    subst e0
    split at hp
    · rename_i hn
      cases hp
      have e1 := r.int_inv
      have e2 := r2.int_inv
      have hbig : n < 2147483648 := by have h2 := hn.2; simpa [big] using h2
      have hbn : (i.bytes : Int) * n ≤ 281474976710656 := by
        have h1 : (i.bytes : Int) ≤ 65536 := by omega
        have h2 : (i.bytes : Int) * n ≤ 65536 * n := Int.mul_le_mul_of_nonneg_right h1 hn.1
        omega
      have hr := run_make (P := P) w T e i zx hu hi hz k k n n hn.1 (Int.le_refl _) hbn (by omega)
      rw [hsz] at hr
      have hcs : (madeCells zx.cells (n.toNat * sz)).size = n.toNat * sz := size_madeCells _ _
      refine ⟨_, .slice (some ⟨w.heap.size, 0, none⟩) n.toNat n.toNat, ⟨w.heap.size, 0, sz, n.toNat * sz⟩, _, by simp [execOp, hop, e1, e2, hr], .alloc w _, rfl, ⟨rfl, by simp, _, e, heap_alloc_new w _, hcs, made_cells hzx hzl _ _⟩, ?_⟩
      have := Img.row (g := g.add h ⟨w.heap.size, 0, sz, n.toNat * sz⟩) (w := w.alloc (.cells (madeCells zx.cells (n.toNat * sz)) e)) h 0 n.toNat ⟨w.heap.size, 0, sz, n.toNat * sz⟩ n.toNat (by simp [Gh.add]) (Nat.le_refl _) (by simp)
      simpa using this
    · cases hp
  · cases hp
end
end Go.Am
