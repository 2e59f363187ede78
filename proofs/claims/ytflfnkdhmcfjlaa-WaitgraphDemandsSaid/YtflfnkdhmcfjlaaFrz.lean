/- Rows that nobody writes any more stand for lists. -/
import Derived.Test.YtflfnkdhmcfjlaaAct
namespace Go.Am
open Go

theorem mapO_nil {α β : Type} (f : α → Option β) : mapO f [] = some [] := rfl
theorem mapO_cons {α β : Type} (f : α → Option β) (x : α) (xs : List α) : mapO f (x :: xs) = (match f x with
    | none => none
    | some y => match mapO f xs with
      | none => none
      | some ys => some (y :: ys)) := rfl

theorem mapO_spec {α β : Type} {f : α → Option β} : ∀ {xs : List α} {ys : List β}, mapO f xs = some ys → xs.length = ys.length ∧ ∀ (i : Nat) (y : β), ys[i]? = some y → ∃ x, xs[i]? = some x ∧ f x = some y
  | [], ys, h => by cases h; exact ⟨rfl, fun i y h => by simp at h⟩
  | x :: xs, ys, h => by
    rw [mapO_cons] at h
    cases hx : f x with
    | none => rw [hx] at h; cases h
    | some y =>
      rw [hx] at h
      cases hm : mapO f xs with
      | none => rw [hm] at h; cases h
      | some zs =>
        rw [hm] at h
        cases h
        obtain ⟨h1, h2⟩ := mapO_spec hm
        refine ⟨by simp [h1], fun i z hz => ?_⟩
        cases i with
        | zero => simp at hz; subst hz; exact ⟨x, rfl, hx⟩
        | succ i => simpa using h2 i z (by simpa using hz)

/-- The blocks behind the handles from lo on, besides those that nobody writes already. -/
def frI (lo : Nat) (g : Gh) (mem : Mem) (b : Nat) : Prop := g.I b ∨ ∃ h B l, lo ≤ h ∧ mem.blk h = some B ∧ g.φ h = some l ∧ l.b = b

theorem freeze_succ (lo : Nat) (m : Mem) (n : Nat) (v : V) : freeze lo m (n + 1) v = (match v with
    | .int k n => some (.int k n)
    | .bool b => some (.bool b)
    | .str s => some (.str s)
    | .nil => some (.lst true 0 [])
    | .lst true sz xs => some (.lst true sz xs)
    | .lst false sz xs => (mapO (freeze lo m n) xs).map (.ro true sz)
    | .row s h o l => match m.blk h with
      | some (.row sz es) => if lo ≤ h ∧ o + l ≤ es.length ∧ sz = s then (mapO (freeze lo m n) ((es.drop o).take l)).map (.ro true sz) else none
      | _ => none
    | .agg cs => (mapO (freeze lo m n) cs).map .agg
    | .tup vs => (mapO (freeze lo m n) vs).map .tup
    | _ => none) := by
  cases v <;> rfl

theorem freeze_cells {lo : Nat} {m : Mem} {n : Nat} {e e' : V} (h : freeze lo m n e = some e') :
    e'.cells.length = e.cells.length ∧ ∀ (j : Nat) (c' : V), e'.cells[j]? = some c' → ∃ c k, e.cells[j]? = some c ∧ k ≤ n ∧ freeze lo m k c = some c' := by
  have single : e'.cells = [e'] → e.cells = [e] → e'.cells.length = e.cells.length ∧ ∀ (j : Nat) (c' : V), e'.cells[j]? = some c' → ∃ c k, e.cells[j]? = some c ∧ k ≤ n ∧ freeze lo m k c = some c' := by
    intro h1 h2
    rw [h1, h2]
    refine ⟨rfl, fun j c' hc => ?_⟩
    cases j with
    | zero => simp at hc; subst hc; exact ⟨e, n, rfl, Nat.le_refl _, h⟩
    | succ j => simp at hc
  cases n with
  | zero => cases h
  | succ n =>
    have h0 := h
    rw [freeze_succ] at h
    cases e with
    | agg cs =>
      simp only [Option.map_eq_some_iff] at h
      obtain ⟨ds, h1, rfl⟩ := h
      obtain ⟨h2, h3⟩ := mapO_spec h1
      refine ⟨h2.symm, fun j c' hc => ?_⟩
      obtain ⟨x, h4, h5⟩ := h3 j c' hc
      exact ⟨x, n, h4, Nat.le_succ n, h5⟩
    | lst p sz xs =>
      cases p with
      | true => cases h; exact single rfl rfl
      | false =>
        simp only [Option.map_eq_some_iff] at h
        obtain ⟨ds, h1, rfl⟩ := h
        exact single rfl rfl
    | row s i o l =>
      simp only at h
      split at h
      · split at h
        · simp only [Option.map_eq_some_iff] at h
          obtain ⟨ds, h1, rfl⟩ := h
          exact single rfl rfl
        · cases h
      · cases h
    | tup vs =>
      simp only [Option.map_eq_some_iff] at h
      obtain ⟨ds, h1, rfl⟩ := h
      exact single rfl rfl
    | int => cases h; exact single rfl rfl
    | bool => cases h; exact single rfl rfl
    | str => cases h; exact single rfl rfl
    | nil => cases h; exact single rfl rfl
    | _ => cases h

theorem freeze_sound {g : Gh} {w : World} {mem : Mem} {lo : Nat} (hm : MemOk g mem w) : ∀ (n : Nat) (v v' : V) (x : Value), freeze lo mem n v = some v' → Img g w v x → ImgP (frI lo g mem) w v' x := by
  intro n
  induction n using Nat.strongRecOn with
  | _ n ih =>
    intro v v' x h hx
    have hI : ∀ b, g.I b → frI lo g mem b := fun b hb => .inl hb
    have hw : Same g.I w w := fun _ _ => rfl
    cases n with
    | zero => cases h
    | succ n =>
      rw [freeze_succ] at h
      cases v with
      | int k m => cases h; rw [hx.int_inv]; exact .int k m
      | bool b => cases h; rw [hx.bool_inv]; exact .bool b
      | str s => cases h; obtain ⟨b, rfl, rfl⟩ := hx.str_inv; exact .str b
      | nil => cases h; rw [hx.nil_inv]; exact .lst0 true 0 none 0
      | lst p sz xs =>
        cases p with
        | true =>
          cases h
          rcases hx.lst_inv with ⟨rfl, a, c, rfl⟩ | ⟨b, o, cap, vs, rfl, _, _, _, _, _, h | h⟩
          · exact .lst0 true sz a c
          · exact h.mono hI hw
          · cases h
        | false =>
          simp only [Option.map_eq_some_iff] at h
          obtain ⟨ds, h1, rfl⟩ := h
          refine ImgP.ro ?_
          obtain ⟨h2, h3⟩ := mapO_spec h1
          rcases hx.lst_inv with ⟨rfl, a, c, rfl⟩ | ⟨b, o, cap, vs, rfl, hb, hc, hs, hv, hr, _⟩
          · have : ds = [] := List.eq_nil_of_length_eq_zero (by simpa using h2.symm)
            subst this
            exact .lst0 true sz a c
          · rw [h2]
            refine .lst true sz ds b o cap vs (.inl hb) (by omega) (fun e he => ?_) (fun i j e c hi hj => ?_) (fun i j e c hi hj => ?_)
            · obtain ⟨i, hi, rfl⟩ := List.getElem_of_mem he
              obtain ⟨y, h4, h5⟩ := h3 i ds[i] (List.getElem?_eq_getElem hi)
              rw [(freeze_cells h5).1]
              exact hs y (List.mem_of_getElem? h4)
            · obtain ⟨y, h4, h5⟩ := h3 i e hi
              obtain ⟨c0, k, h6, _, _⟩ := (freeze_cells h5).2 j c hj
              exact hv i j y c0 h4 h6
            · obtain ⟨y, h4, h5⟩ := h3 i e hi
              obtain ⟨c0, k, h6, h7, h8⟩ := (freeze_cells h5).2 j c hj
              exact ih k (by omega) c0 c _ h8 (hr i j y c0 h4 h6)
      | row s i o l =>
        simp only at h
        split at h
        · rename_i sz es hb
          split at h
          · rename_i hc
            obtain ⟨hlo, hol, rfl⟩ := hc
            simp only [Option.map_eq_some_iff] at h
            obtain ⟨ds, h1, rfl⟩ := h
            refine ImgP.ro ?_
            obtain ⟨h2, h3⟩ := mapO_spec h1
            have hlen : ds.length = l := by rw [← h2, List.length_take, List.length_drop]; omega
            rcases hx.row_inv with ⟨loc, cap, hφ, hls, hlc, hcap, rfl⟩ | ⟨rfl, a, rfl⟩
            · obtain ⟨loc', e1, hB, hnI, _⟩ := hm.blk i _ hb
              rw [hφ] at e1; cases e1
              obtain ⟨h4, h5, cs, T, h6, h7, h8, h9⟩ := hB
              have hat : ∀ (k : Nat) (y : V), ((es.drop o).take l)[k]? = some y → es[o + k]? = some y := by
                intro k y hy
                rw [List.getElem?_take] at hy
                split at hy
                · simpa using hy
                · cases hy
              have e0 : Value.slice (some ⟨loc.b, loc.base + o * loc.sz, none⟩) l cap = Value.slice (some ⟨loc.b, loc.base + o * sz, none⟩) ds.length cap := by rw [hls, hlen]
              rw [e0]
              have hcell : ∀ (k j : Nat) (e c : V), ds[k]? = some e → e.cells[j]? = some c → ∃ y c0 m, es[o + k]? = some y ∧ y.cells[j]? = some c0 ∧ m ≤ n ∧ freeze lo mem m c0 = some c := by
                intro k j e c hk hj
                obtain ⟨y, h10, h11⟩ := h3 k e hk
                obtain ⟨c0, m, h12, h13, h14⟩ := (freeze_cells h11).2 j c hj
                exact ⟨y, c0, m, hat k y h10, h12, h13, h14⟩
              refine .lst true sz ds loc.b (loc.base + o * sz) cap (fun k j => cs.getD (loc.base + (o + k) * sz + j) undef) (.inr ⟨i, _, loc, hlo, hb, hφ, rfl⟩) (by omega) (fun e he => ?_) (fun k j e c hk hj => ?_) (fun k j e c hk hj => ?_)
              · obtain ⟨k, hk, rfl⟩ := List.getElem_of_mem he
                obtain ⟨y, h10, h11⟩ := h3 k ds[k] (List.getElem?_eq_getElem hk)
                rw [(freeze_cells h11).1]
                exact h8 y (List.mem_of_getElem? (hat k y h10))
              · obtain ⟨y, c0, m, h10, h11, _, _⟩ := hcell k j e c hk hj
                obtain ⟨v, h12, h13, _⟩ := h9 (o + k) j y c0 h10 h11
                have e2 : loc.base + o * sz + k * sz + j = loc.base + (o + k) * sz + j := by rw [Nat.add_mul]; omega
                refine ⟨?_, ?_⟩
                · rw [cell_of_row w loc.b _ cs T (0, 0) h6, e2, h12]
                  simp [h12]
                · simp only [Array.getD_eq_getD_getElem?, h12, Option.getD_some]; exact h13
              · obtain ⟨y, c0, m, h10, h11, h15, h16⟩ := hcell k j e c hk hj
                obtain ⟨v, h12, h13, h14⟩ := h9 (o + k) j y c0 h10 h11
                simp only [Array.getD_eq_getD_getElem?, h12, Option.getD_some]
                exact ih m (by omega) c0 c v h16 h14
            · have : ds = [] := List.eq_nil_of_length_eq_zero hlen
              subst this
              exact .lst0 true sz (some a) 0
          · cases h
        · cases h
      | agg cs =>
        simp only [Option.map_eq_some_iff] at h
        obtain ⟨ds, h1, rfl⟩ := h
        obtain ⟨h2, h3⟩ := mapO_spec h1
        obtain ⟨vs, rfl, hl, h5, hr⟩ := hx.agg_inv
        refine .agg ds vs (by omega) h5 (fun i c y hc hy => ?_)
        obtain ⟨c0, h6, h7⟩ := h3 i c hc
        exact ih n (by omega) c0 c y h7 (hr i c0 y h6 hy)
      | tup cs =>
        simp only [Option.map_eq_some_iff] at h
        obtain ⟨ds, h1, rfl⟩ := h
        obtain ⟨h2, h3⟩ := mapO_spec h1
        obtain ⟨vs, rfl, hl, hr⟩ := hx.tup_inv
        refine .tup ds vs (by omega) (fun i c y hc hy => ?_)
        obtain ⟨c0, h6, h7⟩ := h3 i c hc
        exact ih n (by omega) c0 c y h7 (hr i c0 y h6 hy)
      | _ => cases h

/-- The memory behind a freeze. -/
theorem MemOk.frozen {g : Gh} {mem : Mem} {w : World} (hm : MemOk g mem w) (lo : Nat) : MemOk ⟨g.φ, frI lo g mem⟩ (mem.kill lo) w ∧ Gh.le g ⟨g.φ, frI lo g mem⟩ := by
  have hle : Gh.le g ⟨g.φ, frI lo g mem⟩ := ⟨fun _ _ h => h, fun _ h => .inl h⟩
  have get : ∀ (i : Nat) (c : Blk), (mem.kill lo).blk i = some c → mem.blk i = some c ∧ i < lo := by
    intro i c hi
    unfold Mem.kill at hi
    simp only at hi
    split at hi
    · cases hi
    · exact ⟨hi, by omega⟩
  refine ⟨⟨fun k b hk => ?_, fun k k' b b1 l l' hne hk hk' => hm.inj k k' b b1 l l' hne (get k b hk).1 (get k' b1 hk').1, fun b hb => ?_⟩, hle⟩
  · obtain ⟨h1, h2⟩ := get k b hk
    obtain ⟨l, h3, h4, h5, h6⟩ := hm.blk k b h1
    refine ⟨l, h3, h4.mono hle (fun _ _ => rfl) rfl, ?_, h6⟩
    rintro (h7 | ⟨h', B, l', h7, h8, h9, h10⟩)
    · exact h5 h7
    · exact hm.inj k h' b B l l' (by omega) h1 h8 h3 h9 h10.symm
  · rcases hb with hb | ⟨h', B, l', h7, h8, h9, rfl⟩
    · exact hm.lt b hb
    · obtain ⟨l, h3, h4, h5, h6⟩ := hm.blk h' B h8
      rw [h9] at h3; cases h3
      exact h6
end Go.Am
