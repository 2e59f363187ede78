/- What the model's operation must have done, plan by plan, so that the abstract machine's action fits. -/
import Derived.Test.YtflfnkdhmcfjlaaRel
namespace Go.Am
open Go

/-- One block is another, everything else is as it was. -/
structure Upd (w w' : World) (b : Nat) (o : Obj) : Prop where
  here : w'.heap[b]? = some o
  other : ∀ k, k ≠ b → w'.heap[k]? = w.heap[k]?
  size : w'.heap.size = w.heap.size
  os : w'.os = w.os
  tape : w'.tape = w.tape
  output : w'.output = w.output

/-- One block is new. -/
structure New (w w' : World) (o : Obj) : Prop where
  here : w'.heap[w.heap.size]? = some o
  old : ∀ k, k < w.heap.size → w'.heap[k]? = w.heap[k]?
  size : w'.heap.size = w.heap.size + 1
  os : w'.os = w.os
  tape : w'.tape = w.tape
  output : w'.output = w.output

theorem New.alloc (w : World) (o : Obj) : New w (w.alloc o) o :=
  ⟨heap_alloc_new w o, fun _ hk => heap_alloc_old w o hk, by simp, rfl, rfl, rfl⟩
theorem New.drew (w : World) (o : Obj) : New w (w.drew.alloc o) o :=
  ⟨heap_alloc_new w.drew o, fun _ hk => heap_alloc_old w.drew o hk, by simp, rfl, rfl, rfl⟩

def Gh.add (g : Gh) (h : Nat) (l : Loc) : Gh := ⟨fun i => if i = h then some l else g.φ i, g.I⟩

theorem Gh.le_add {g : Gh} {h : Nat} {l : Loc} (hf : g.φ h = none) : Gh.le g (g.add h l) where
  φ i x hi := by
    show (if i = h then some l else g.φ i) = some x
    split
    · rename_i e; subst e; rw [hf] at hi; cases hi
    · exact hi
  I _ hb := hb

/-- The cells of an element as they lie in a block. -/
def CellsAt (g : Gh) (w : World) (e : V) (cs : Array Value) : Prop :=
  cs.size = e.cells.length ∧ ∀ (j : Nat) (c : V), e.cells[j]? = some c → ∃ v, cs[j]? = some v ∧ v.oneCell' = true ∧ Img g w c v

/-- The calls that the abstract machine makes are the model's. -/
def CkOk (P : Program) (src : Nat → Nat) (ck : Callk) : Prop :=
  ∀ f args lo mem v mem', ck f args lo mem = some (v, mem') → ∀ g w (xs : List Value), MemOk g mem w → FreshFrom g mem mem.next → args.length = xs.length →
    (∀ (i : Nat) (c : V) (x : Value), args[i]? = some c → xs[i]? = some x → Img g w c x) → lo ≤ mem.next →
    Calls P (src f) xs.toArray w fun e w' => ∃ x g', e = .returned x ∧ Img g' w' v x ∧ Gh.le g g' ∧ MemOk g' mem' w' ∧ FreshFrom g' mem' mem'.next ∧ mem.next ≤ mem'.next ∧
      (∀ h, h < mem.next → mem.blk h = none → mem'.blk h = none) ∧ (∀ h, h < mem.next → g.φ h = none → g'.φ h = none) ∧
      (∀ b, g'.I b → g.I b ∨ w.heap.size ≤ b) ∧
      Keep w.heap.size (fun b => ∃ h B l, lo ≤ h ∧ mem.blk h = some B ∧ g.φ h = some l ∧ l.b = b) w w' ∧
      (∀ h B l, lo ≤ h → mem'.blk h = some B → g'.φ h = some l → w.heap.size ≤ l.b ∨ ∃ h B l', lo ≤ h ∧ mem.blk h = some B ∧ g.φ h = some l' ∧ l'.b = l.b)

/-- What the model's operation did, plan by plan. -/
def DImg (d : D) (BS : List Nat) (g : Gh) (a : Act) (w : World) (v : V) (x : Value) : Prop :=
  match d with
  | .a _ => ImgA BS g a w v x
  | _ => Img g w v x

def PlanRun (src : Nat → Nat) (fr : Fr) (g : Gh) (st : St) (a : Act) (w : World) (h : Nat) (d : D) (r : Result Next) : Plan → Prop
  | .ret v => ∃ x w' g', r = .ok (.value x) w' ∧ Quiet g w g' w' ∧ DImg d fr.BS g' a w' v x
  | .rd h' f => ∀ b v, st.mem.blk h' = some b → f b = some v → ∃ x, r = .ok (.value x) w ∧ Img g w v x
  | .rdb t f => ∀ e v, st.bx.get t = some e → f e = some v → ∃ x, r = .ok (.value x) w ∧ Img g w v x
  | .wr h' f v => v = .und ∧ ∀ b b', st.mem.blk h' = some b → f b = some b' → ∃ w' loc o, r = .ok .skip w' ∧ g.φ h' = some loc ∧ Upd w w' loc.b o ∧ BlkOk g w' loc b'
  | .wrb t f => ∀ e e', st.bx.get t = some e → f e = some e' → ∃ w' b cs T, r = .ok .skip w' ∧ a.tmps[t]? = some (.pointer (some ⟨b, 0, none⟩)) ∧ Upd w w' b (.cells cs T (0, 0)) ∧ CellsAt g w e' cs
  | .bx e => ∃ w' cs T, r = .ok (.value (.pointer (some ⟨w.heap.size, 0, none⟩))) w' ∧ New w w' (.cells cs T (0, 0)) ∧ CellsAt g w e cs
  | .alloc b gv => ∃ w' x loc o, r = .ok (.value x) w' ∧ New w w' o ∧ loc.b = w.heap.size ∧ BlkOk (g.add h loc) w' loc b ∧ Img (g.add h loc) w' (gv h) x
  | .app d' sz x => ∀ s xs, view st.mem x = some (s, xs) →
      (d' = none → xs = [] → ∃ y, r = .ok (.value y) w ∧ Img g w .nil y) ∧
      (d' = none → xs ≠ [] → s = sz → xs.length < big → ∃ w' y loc o, r = .ok (.value y) w' ∧ New w w' o ∧ loc.b = w.heap.size ∧ BlkOk (g.add h loc) w' loc (.row sz xs) ∧ Img (g.add h loc) w' (.row sz h 0 xs.length) y) ∧
      (∀ h' o l es, d' = some (h', o, l) → (s = sz ∨ xs.length = 0) → l + xs.length < big → st.mem.blk h' = some (.row sz es) → o + l ≤ es.length →
        ∃ w' y loc ob, r = .ok (.value y) w' ∧ (New w w' ob ∧ loc.b = w.heap.size ∨ ∃ loc0, g.φ h' = some loc0 ∧ loc.b = loc0.b ∧ Upd w w' loc0.b ob) ∧
          BlkOk (g.add h loc) w' loc (.row sz ((es.drop o).take l ++ xs)) ∧ Img (g.add h loc) w' (.row sz h 0 (l + xs.length)) y)
  | .cpy sz h' o l x => ∀ s xs es, view st.mem x = some (s, xs) → st.mem.blk h' = some (.row sz es) → (s = sz ∨ xs.length = 0) → o + l ≤ es.length →
      ∃ w' loc ob, r = .ok (.value (.int .i64 (min l xs.length : Nat))) w' ∧ g.φ h' = some loc ∧ (Upd w w' loc.b ob) ∧
        BlkOk g w' loc (.row sz (es.take o ++ xs.take (min l xs.length) ++ es.drop (o + min l xs.length)))
  | .call f args => ∃ xs : List Value, r = .ok (.enter (src f) xs.toArray) w ∧ args.length = xs.length ∧ ∀ (i : Nat) (c : V) (x : Value), args[i]? = some c → xs[i]? = some x → Img g w c x
  | .frz t sz => ∀ e, st.bx.get t = some (.agg e) → e.length = sz → ∃ x, r = .ok (.value x) w ∧ Img g w (.agg e) x

/-! ### The memory behind a change -/
theorem MemOk.upd {g : Gh} {mem : Mem} {w w' : World} (hm : MemOk g mem w) {h : Nat} {b0 b' : Blk} {loc : Loc} {o : Obj} (h0 : mem.blk h = some b0) (hφ : g.φ h = some loc) (u : Upd w w' loc.b o) (hb : BlkOk g w' loc b') :
    MemOk g (mem.set h (some b')) w' ∧ Same g.I w w' := by
  obtain ⟨l0, e0, _, hI0, hlt0⟩ := hm.blk h b0 h0
  rw [hφ] at e0; cases e0
  have hs : Same g.I w w' := fun b hI => u.other b (fun e => hI0 (e ▸ hI))
  refine ⟨⟨fun k b hk => ?_, fun k k' b b1 l l' hne hk hk' hl hl' => ?_, fun b hI => by rw [u.size]; exact hm.lt b hI⟩, hs⟩
  · by_cases e : k = h
    · subst e
      simp [Mem.set] at hk
      subst hk
      exact ⟨loc, hφ, hb, hI0, by rw [u.size]; exact hlt0⟩
    · simp [Mem.set, e] at hk
      obtain ⟨l, h1, h2, h3, h4⟩ := hm.blk k b hk
      exact ⟨l, h1, h2.mono (.refl g) hs (u.other _ (hm.inj k h b b0 l loc e hk h0 h1 hφ)), h3, by rw [u.size]; exact h4⟩
  · have get : ∀ (i : Nat) (c : Blk), (mem.set h (some b')).blk i = some c → ∃ c0, mem.blk i = some c0 := by
      intro i c hi
      by_cases e : i = h
      · subst e; exact ⟨b0, h0⟩
      · simp [Mem.set, e] at hi; exact ⟨c, hi⟩
    obtain ⟨c, hc⟩ := get k b hk
    obtain ⟨c', hc'⟩ := get k' b1 hk'
    exact hm.inj k k' c c' l l' hne hc hc' hl hl'

theorem MemOk.new {g : Gh} {mem : Mem} {w w' : World} (hm : MemOk g mem w) {h : Nat} {b' : Blk} {loc : Loc} {o : Obj} (hf : g.φ h = none) (u : New w w' o) (hl : loc.b = w.heap.size) (hb : BlkOk (g.add h loc) w' loc b') :
    MemOk (g.add h loc) (mem.set h (some b')) w' ∧ Same g.I w w' := by
  have hs : Same g.I w w' := fun b hI => u.old b (hm.lt b hI)
  have hle := Gh.le_add (l := loc) hf
  have at' : ∀ i, i ≠ h → (g.add h loc).φ i = g.φ i := fun i hi => by simp [Gh.add, hi]
  refine ⟨⟨fun k b hk => ?_, fun k k' b b1 l l' hne hk hk' hl1 hl2 => ?_, fun b hI => by rw [u.size]; exact Nat.lt_succ_of_lt (hm.lt b hI)⟩, hs⟩
  · by_cases e : k = h
    · subst e
      simp [Mem.set] at hk
      subst hk
      exact ⟨loc, by simp [Gh.add], hb, fun hI => by have := hm.lt _ hI; omega, by rw [u.size]; omega⟩
    · simp [Mem.set, e] at hk
      obtain ⟨l, h1, h2, h3, h4⟩ := hm.blk k b hk
      exact ⟨l, by rw [at' k e]; exact h1, h2.mono hle hs (u.old _ h4), h3, by rw [u.size]; omega⟩
  · by_cases e : k = h
    · subst e
      have e2 : k' ≠ k := fun e => hne e.symm
      simp [Gh.add] at hl1
      subst hl1
      simp [Mem.set, e2] at hk'
      rw [at' _ e2] at hl2
      obtain ⟨l, h1, _, _, h4⟩ := hm.blk k' b1 hk'
      rw [hl2] at h1; cases h1
      omega
    · simp [Mem.set, e] at hk
      rw [at' _ e] at hl1
      by_cases e2 : k' = h
      · subst e2
        simp [Gh.add] at hl2
        subst hl2
        obtain ⟨l2, h1, _, _, h4⟩ := hm.blk k b hk
        rw [hl1] at h1; cases h1
        omega
      · simp [Mem.set, e2] at hk'
        rw [at' _ e2] at hl2
        exact hm.inj k k' b b1 l l' hne hk hk' hl1 hl2

theorem MemOk.kill {g : Gh} {mem : Mem} {w : World} (hm : MemOk g mem w) (h : Nat) : MemOk g (mem.set h none) w := by
  have get : ∀ (i : Nat) (c : Blk), (mem.set h none).blk i = some c → mem.blk i = some c := by
    intro i c hi
    by_cases e : i = h
    · subst e; simp [Mem.set] at hi
    · simp [Mem.set, e] at hi; exact hi
  exact ⟨fun k b hk => hm.blk k b (get k b hk), fun k k' b b1 l l' hne hk hk' => hm.inj k k' b b1 l l' hne (get k b hk) (get k' b1 hk'), hm.lt⟩

/-- A block whose handle is gone, taken by a new handle. -/
theorem MemOk.retake {g : Gh} {mem : Mem} {w w' : World} (hm : MemOk g mem w) {h0 h : Nat} {b0 b' : Blk} {loc0 loc : Loc} {o : Obj} (hb0 : mem.blk h0 = some b0) (hφ : g.φ h0 = some loc0) (hl : loc.b = loc0.b) (hf : g.φ h = none) (u : Upd w w' loc0.b o)
    (hb : BlkOk (g.add h loc) w' loc b') : MemOk (g.add h loc) ((mem.set h0 none).set h (some b')) w' ∧ Same g.I w w' := by
  obtain ⟨l0, e0, _, hI0, hlt0⟩ := hm.blk h0 b0 hb0
  rw [hφ] at e0; cases e0
  have hs : Same g.I w w' := fun b hI => u.other b (fun e => hI0 (e ▸ hI))
  have hle := Gh.le_add (l := loc) hf
  have at' : ∀ i, i ≠ h → (g.add h loc).φ i = g.φ i := fun i hi => by simp [Gh.add, hi]
  have get : ∀ (i : Nat) (c : Blk), i ≠ h → ((mem.set h0 none).set h (some b')).blk i = some c → mem.blk i = some c ∧ i ≠ h0 := by
    intro i c e hi
    simp [Mem.set, e] at hi
    exact ⟨hi.2, hi.1⟩
  refine ⟨⟨fun k b hk => ?_, fun k k' b b1 l l' hne hk hk' hl1 hl2 => ?_, fun b hI => by rw [u.size]; exact hm.lt b hI⟩, hs⟩
  · by_cases e : k = h
    · subst e
      simp [Mem.set] at hk
      subst hk
      exact ⟨loc, by simp [Gh.add], hb, by rw [hl]; exact hI0, by rw [u.size, hl]; exact hlt0⟩
    · obtain ⟨hk1, hk0⟩ := get k b e hk
      obtain ⟨l, h1, h2, h3, h4⟩ := hm.blk k b hk1
      exact ⟨l, by rw [at' k e]; exact h1, h2.mono hle hs (u.other _ (hm.inj k h0 b b0 l loc0 hk0 hk1 hb0 h1 hφ)), h3, by rw [u.size]; exact h4⟩
  · by_cases e : k = h
    · subst e
      have e2 : k' ≠ k := fun e => hne e.symm
      simp [Gh.add] at hl1
      subst hl1
      obtain ⟨hk1, hk0⟩ := get k' b1 e2 hk'
      rw [at' _ e2] at hl2
      rw [hl]
      exact (hm.inj k' h0 b1 b0 l' loc0 hk0 hk1 hb0 hl2 hφ).symm
    · obtain ⟨hk1, hk0⟩ := get k b e hk
      rw [at' _ e] at hl1
      by_cases e2 : k' = h
      · subst e2
        simp [Gh.add] at hl2
        subst hl2
        rw [hl]
        exact hm.inj k h0 b b0 l loc0 hk0 hk1 hb0 hl1 hφ
      · obtain ⟨hk2, _⟩ := get k' b1 e2 hk'
        rw [at' _ e2] at hl2
        exact hm.inj k k' b b1 l l' hne hk1 hk2 hl1 hl2

/-! ### The state behind a change of memory -/
theorem Sim.change {fr : Fr} {g g' : Gh} {st : St} {a : Act} {w w' : World} {mem' : Mem} (s : Sim fr g st a w) (hm : MemOk g' mem' w') (hle : Gh.le g g')
    (hch : ∀ b, b < w.heap.size → w'.heap[b]? = w.heap[b]? ∨ ∃ h0 B0 l0, fr.lo ≤ h0 ∧ st.mem.blk h0 = some B0 ∧ g.φ h0 = some l0 ∧ l0.b = b)
    (hsz : w.heap.size ≤ w'.heap.size) (hos : w'.os = w.os) (htape : w'.tape = w.tape) (hout : w'.output = w.output)
    (hI : ∀ b, g'.I b → g.I b ∨ w.heap.size ≤ b)
    (hfree : ∀ h B l, mem'.blk h = some B → g'.φ h = some l → w.heap.size ≤ l.b ∨ ∃ h0 B0 l0, (fr.lo ≤ h → fr.lo ≤ h0) ∧ st.mem.blk h0 = some B0 ∧ g.φ h0 = some l0 ∧ l0.b = l.b) :
    Sim fr g' { st with mem := mem' } a w' := by
  have hs : Same g.I w w' := fun b hb => by
    rcases hch b (s.mem.lt b hb) with h | ⟨h0, B0, l0, _, h1, h2, rfl⟩
    · exact h
    · obtain ⟨l, e, _, h3, _⟩ := s.mem.blk h0 B0 h1
      rw [h2] at e; cases e
      exact absurd hb h3
  have hn : fr.n0 ≤ w.heap.size := s.keep.size
  refine ⟨hm, fun t v hv => ?_, fun t e he => ?_, s.bxd, fun t v hv => ?_, s.size, s.defers, ⟨hos.trans s.keep.os, htape.trans s.keep.tape, hout.trans s.keep.output, Nat.le_trans hn hsz, fun b hb hS => ?_⟩, fun h b l hlo hb hl => ?_⟩
  · obtain ⟨h1, h2, x, h3, h4⟩ := s.env t v hv
    exact ⟨h1, h2, x, h3, h4.mono hle hs⟩
  · obtain ⟨h1, b, h2, h3⟩ := s.bx t e he
    obtain ⟨cs, T, h4, h5, h6⟩ := h3.cells
    have hlt := lt_of_heap h4
    refine ⟨h1, b, h2, ⟨⟨cs, T, ?_, h5, fun j c hc => let ⟨v, x, y, z⟩ := h6 j c hc; ⟨v, x, y, z.mono hle hs⟩⟩, fun hb => ?_, h3.new, fun h B l hB hl => ?_⟩⟩
    · rcases hch b hlt with h | ⟨h0, B0, l0, _, h7, h8, h9⟩
      · rw [h]; exact h4
      · exact absurd h9 (h3.free h0 B0 l0 h7 h8)
    · rcases hI b hb with h | h
      · exact h3.out h
      · omega
    · rcases hfree h B l hB hl with h | ⟨h0, B0, l0, _, h7, h8, h9⟩
      · omega
      · rw [← h9]; exact h3.free h0 B0 l0 h7 h8
  · obtain ⟨h1, x, h3, h4⟩ := s.ad t v hv
    exact ⟨h1, x, h3, h4.mono hle hs⟩
  · rcases hch b (Nat.lt_of_lt_of_le hb hn) with h | ⟨h0, B0, l0, h6, h7, h8, rfl⟩
    · exact h.trans (s.keep.block b hb hS)
    · rcases s.own h0 B0 l0 h6 h7 h8 with h | h
      · omega
      · exact absurd h hS
  · rcases hfree h b l hb hl with h | ⟨h0, B0, l0, h6, h7, h8, h9⟩
    · exact .inl (Nat.le_trans hn h)
    · rw [← h9]; exact s.own h0 B0 l0 (h6 hlo) h7 h8

/-- Writing a block that the frame may write. -/
theorem Sim.upd {fr : Fr} {g : Gh} {st : St} {a : Act} {w w' : World} (s : Sim fr g st a w) {h : Nat} {b0 b' : Blk} {loc : Loc} {o : Obj} (hlo : fr.lo ≤ h) (h0 : st.mem.blk h = some b0) (hφ : g.φ h = some loc) (u : Upd w w' loc.b o) (hb : BlkOk g w' loc b') :
    Sim fr g { st with mem := st.mem.set h (some b') } a w' := by
  refine s.change (s.mem.upd h0 hφ u hb).1 (.refl g) (fun b _ => ?_) (Nat.le_of_eq u.size.symm) u.os u.tape u.output (fun b hb => .inl hb) (fun k B l hk hl => .inr ?_)
  · by_cases e : b = loc.b
    · exact .inr ⟨h, b0, loc, hlo, h0, hφ, e.symm⟩
    · exact .inl (u.other b e)
  · by_cases e : k = h
    · subst e
      rw [hφ] at hl; cases hl
      exact ⟨k, b0, loc, id, h0, hφ, rfl⟩
    · simp [Mem.set, e] at hk
      exact ⟨k, B, l, id, hk, hl, rfl⟩

theorem Sim.new {fr : Fr} {g : Gh} {st : St} {a : Act} {w w' : World} (s : Sim fr g st a w) {h : Nat} {b' : Blk} {loc : Loc} {o : Obj} (hf : g.φ h = none) (u : New w w' o) (hl : loc.b = w.heap.size) (hb : BlkOk (g.add h loc) w' loc b') :
    Sim fr (g.add h loc) { st with mem := st.mem.set h (some b') } a w' := by
  refine s.change (s.mem.new hf u hl hb).1 (Gh.le_add hf) (fun b hb => .inl (u.old b hb)) (by rw [u.size]; omega) u.os u.tape u.output (fun b hb => .inl hb) (fun k B l hk hl' => ?_)
  by_cases e : k = h
  · subst e
    simp [Gh.add] at hl'
    subst hl'
    exact .inl (Nat.le_of_eq hl.symm)
  · simp [Mem.set, e] at hk
    simp [Gh.add, e] at hl'
    exact .inr ⟨k, B, l, id, hk, hl', rfl⟩

theorem Sim.killed {fr : Fr} {g : Gh} {st : St} {a : Act} {w : World} (s : Sim fr g st a w) (h : Nat) : Sim fr g { st with mem := st.mem.set h none } a w := by
  refine s.change (s.mem.kill h) (.refl g) (fun b _ => .inl rfl) (Nat.le_refl _) rfl rfl rfl (fun b hb => .inl hb) (fun k B l hk hl => .inr ?_)
  by_cases e : k = h
  · subst e; simp [Mem.set] at hk
  · simp [Mem.set, e] at hk
    exact ⟨k, B, l, id, hk, hl, rfl⟩

theorem Sim.retake {fr : Fr} {g : Gh} {st : St} {a : Act} {w w' : World} (s : Sim fr g st a w) {h0 h : Nat} {b0 b' : Blk} {loc0 loc : Loc} {o : Obj} (hlo : fr.lo ≤ h0) (hb0 : st.mem.blk h0 = some b0) (hφ : g.φ h0 = some loc0) (hl : loc.b = loc0.b) (hf : g.φ h = none) (u : Upd w w' loc0.b o)
    (hb : BlkOk (g.add h loc) w' loc b') : Sim fr (g.add h loc) { st with mem := (st.mem.set h0 none).set h (some b') } a w' := by
  refine s.change (s.mem.retake hb0 hφ hl hf u hb).1 (Gh.le_add hf) (fun b _ => ?_) (Nat.le_of_eq u.size.symm) u.os u.tape u.output (fun b hb => .inl hb) (fun k B l hk hl' => .inr ?_)
  · by_cases e : b = loc0.b
    · exact .inr ⟨h0, b0, loc0, hlo, hb0, hφ, e.symm⟩
    · exact .inl (u.other b e)
  · by_cases e : k = h
    · subst e
      simp [Gh.add] at hl'
      subst hl'
      exact ⟨h0, b0, loc0, fun _ => hlo, hb0, hφ, hl.symm⟩
    · simp [Mem.set, e] at hk
      simp [Gh.add, e] at hl'
      exact ⟨k, B, l, id, hk.2, hl', rfl⟩

/-- Writing a box. -/
theorem Sim.wrb {fr : Fr} {g : Gh} {st : St} {a : Act} {w w' : World} (s : Sim fr g st a w) {t : Nat} {e e' : V} {b : Nat} {cs : Array Value} {T : TypeId} (he : st.bx.get t = some e) (ht : a.tmps[t]? = some (.pointer (some ⟨b, 0, none⟩)))
    (u : Upd w w' b (.cells cs T (0, 0))) (hc : CellsAt g w e' cs) : Sim fr g { st with bx := (t, e') :: st.bx } a w' := by
  obtain ⟨hB, b1, h1, h2⟩ := s.bx t e he
  rw [ht] at h1
  simp at h1
  subst h1
  obtain ⟨cs0, T0, h3, _, _⟩ := h2.cells
  have hlt := lt_of_heap h3
  have hs : Same g.I w w' := fun k hI => u.other k (fun e => h2.out (e ▸ hI))
  refine ⟨⟨fun k B hk => ?_, s.mem.inj, fun k hI => by rw [u.size]; exact s.mem.lt k hI⟩, fun t v hv => ?_, fun t' x hx => ?_, fun t1 t2 e1 e2 k hne he1 he2 hk => ?_, fun t v hv => ?_, s.size, s.defers,
    ⟨u.os.trans s.keep.os, u.tape.trans s.keep.tape, u.output.trans s.keep.output, by rw [u.size]; exact s.keep.size, fun k hk hS => ?_⟩, s.own⟩
  · obtain ⟨l, h4, h5, h6, h7⟩ := s.mem.blk k B hk
    exact ⟨l, h4, h5.mono (.refl g) hs (u.other _ (h2.free k B l hk h4)), h6, by rw [u.size]; exact h7⟩
  · obtain ⟨h4, h5, x, h6, h7⟩ := s.env t v hv
    exact ⟨h4, h5, x, h6, h7.mono (.refl g) hs⟩
  · simp only [Env.get_cons] at hx
    split at hx
    · rename_i e1; subst e1
      cases hx
      exact ⟨hB, b, ht, ⟨⟨cs, T, u.here, hc.1, fun j c hj => let ⟨v, p, q, r⟩ := hc.2 j c hj; ⟨v, p, q, r.mono (.refl g) hs⟩⟩, h2.out, h2.new, h2.free⟩⟩
    · rename_i hne
      obtain ⟨h4, b2, h5, h6⟩ := s.bx t' x hx
      obtain ⟨cs2, T2, h7, h8, h9⟩ := h6.cells
      have hb2 : b2 ≠ b := fun e2 => by
        subst e2
        exact s.bxd t t' e x b2 hne he hx ht h5
      exact ⟨h4, b2, h5, ⟨⟨cs2, T2, by rw [u.other _ hb2]; exact h7, h8, fun j c hj => let ⟨v, p, q, r⟩ := h9 j c hj; ⟨v, p, q, r.mono (.refl g) hs⟩⟩, h6.out, h6.new, h6.free⟩⟩
  · have old : ∀ t' x, Env.get ((t, e') :: st.bx) t' = some x → ∃ x0, st.bx.get t' = some x0 := by
      intro t' x hx
      simp only [Env.get_cons] at hx
      split at hx
      · rename_i e1; subst e1; exact ⟨e, he⟩
      · exact ⟨x, hx⟩
    obtain ⟨x1, hx1⟩ := old t1 e1 he1
    obtain ⟨x2, hx2⟩ := old t2 e2 he2
    exact s.bxd t1 t2 x1 x2 k hne hx1 hx2 hk
  · obtain ⟨h4, x, h6, h7⟩ := s.ad t v hv
    exact ⟨h4, x, h6, h7.mono (.refl g) hs⟩
  · have hk2 : k ≠ b := fun e2 => by have := h2.new; omega
    exact (u.other k hk2).trans (s.keep.block k hk hS)

theorem hasLoc_get {d : Nat} : ∀ {ad : Env}, hasLoc d ad = false → ∀ {t : Nat} {v : V}, ad.get t = some v → ∀ off, v ≠ .loc d off
  | [], _, _, _, h, _ => by cases h
  | (t', v') :: ad, hf, t, v, h, off => by
    have key : hasLoc d ad = false ∧ ∀ off, v' ≠ .loc d off := by
      cases v' <;> first
        | exact ⟨hf, fun _ => by intro e; cases e⟩
        | (rename_i t2 o2
           change cond (Nat.beq t2 d) true (hasLoc d ad) = false at hf
           cases hb : Nat.beq t2 d with
           | true => rw [hb] at hf; cases hf
           | false =>
             rw [hb] at hf
             refine ⟨hf, fun o e => ?_⟩
             cases e
             rw [Nat.beq_refl] at hb
             cases hb)
    rw [Env.get_cons] at h
    split at h
    · cases h; exact key.2 off
    · exact hasLoc_get key.1 h off

/-- A new box. -/
theorem Sim.box {fr : Fr} {g : Gh} {st : St} {a : Act} {w w' : World} (s : Sim fr g st a w) {d : Nat} {e : V} {cs : Array Value} {T : TypeId} (hB : d ∈ fr.BS) (hn : d < fr.nt)
    (u : New w w' (.cells cs T (0, 0))) (hc : CellsAt g w e cs) (hl : hasLoc d st.ad = false) :
    Sim fr g { st with bx := (d, e) :: st.bx } (a.put (some d) (.pointer (some ⟨w.heap.size, 0, none⟩))) w' := by
  have hA : d ∉ fr.AS := fun h => fr.disj d h hB
  have hs : Same g.I w w' := fun b hI => u.old b (s.mem.lt b hI)
  have hd : d < a.tmps.size := by rw [s.size]; exact hn
  have oldb : ∀ (t : Nat) (x : V) (b : Nat), st.bx.get t = some x → a.tmps[t]? = some (.pointer (some ⟨b, 0, none⟩)) → b < w.heap.size := by
    intro t x b hx hb
    obtain ⟨_, b2, h5, h6⟩ := s.bx t x hx
    rw [hb] at h5; simp at h5; subst h5
    obtain ⟨_, _, h7, _, _⟩ := h6.cells
    exact lt_of_heap h7
  refine ⟨⟨fun k B hk => ?_, s.mem.inj, fun k hI => by rw [u.size]; exact Nat.lt_succ_of_lt (s.mem.lt k hI)⟩, fun t v hv => ?_, fun t' x hx => ?_, fun t1 t2 e1 e2 k hne he1 he2 hk hk2 => ?_, fun t v hv => ?_, by rw [put_size]; exact s.size, s.defers,
    ⟨u.os.trans s.keep.os, u.tape.trans s.keep.tape, u.output.trans s.keep.output, by rw [u.size]; exact Nat.le_succ_of_le s.keep.size, fun k hk hS => ?_⟩, s.own⟩
  · obtain ⟨l, h4, h5, h6, h7⟩ := s.mem.blk k B hk
    exact ⟨l, h4, h5.mono (.refl g) hs (u.old _ h7), h6, by rw [u.size]; omega⟩
  · obtain ⟨h4, h5, x, h6, h7⟩ := s.env t v hv
    exact ⟨h4, h5, x, by rw [put_tmps_other _ _ _ _ (ne_of_in hB h5)]; exact h6, h7.mono (.refl g) hs⟩
  · simp only [Env.get_cons] at hx
    split at hx
    · rename_i e1; subst e1
      cases hx
      refine ⟨hB, w.heap.size, put_tmps_same _ _ _ hd, ⟨⟨cs, T, u.here, hc.1, fun j c hj => let ⟨v, p, q, r⟩ := hc.2 j c hj; ⟨v, p, q, r.mono (.refl g) hs⟩⟩, fun hI => ?_, s.keep.size, fun h B l hB hl e2 => ?_⟩⟩
      · have := s.mem.lt _ hI; omega
      · obtain ⟨l2, h4, _, _, h7⟩ := s.mem.blk h B hB
        rw [hl] at h4; cases h4
        omega
    · rename_i hne
      obtain ⟨h4, b2, h5, h6⟩ := s.bx t' x hx
      obtain ⟨cs2, T2, h7, h8, h9⟩ := h6.cells
      exact ⟨h4, b2, by rw [put_tmps_other _ _ _ _ hne]; exact h5, ⟨⟨cs2, T2, by rw [u.old _ (lt_of_heap h7)]; exact h7, h8, fun j c hj => let ⟨v, p, q, r⟩ := h9 j c hj; ⟨v, p, q, r.mono (.refl g) hs⟩⟩, h6.out, h6.new, h6.free⟩⟩
  · simp only [Env.get_cons] at he1 he2
    by_cases h1 : d = t1
    · subst h1
      rw [put_tmps_same _ _ _ hd] at hk
      simp at hk
      have h2 : d ≠ t2 := hne
      rw [if_neg h2] at he2
      rw [put_tmps_other _ _ _ _ h2, ← hk] at hk2
      have := oldb t2 e2 _ he2 hk2
      omega
    · rw [if_neg h1] at he1
      rw [put_tmps_other _ _ _ _ h1] at hk
      by_cases h2 : d = t2
      · subst h2
        rw [put_tmps_same _ _ _ hd] at hk2
        simp at hk2
        rw [← hk2] at hk
        have := oldb t1 e1 _ he1 hk
        omega
      · rw [if_neg h2] at he2
        rw [put_tmps_other _ _ _ _ h2] at hk2
        exact s.bxd t1 t2 e1 e2 k hne he1 he2 hk hk2
  · obtain ⟨h4, x, h6, h7⟩ := s.ad t v hv
    refine ⟨h4, x, by rw [put_tmps_other _ _ _ _ (ne_of_out hA h4)]; exact h6, ?_⟩
    have h8 := h7.mono (.refl g) hs
    have h9 := hasLoc_get hl hv
    revert h8
    cases v <;> first
      | exact fun h => h
      | (rintro ⟨p, b, q, r⟩
         exact ⟨p, b, by rw [put_tmps_other _ _ _ _ (fun e => h9 _ (by rw [e]))]; exact q, r⟩)
  · exact (u.old k (Nat.lt_of_lt_of_le hk s.keep.size)).trans (s.keep.block k hk hS)
end Go.Am
