/- When a value, a block and a state of the abstract machine stand for the model's; what stays when the memory grows. -/
import Derived.Test.YtflfnkdhmcfjlaaAm
import Derived.WalkKit
namespace Go.Am
open Go

structure Loc where
  b : Nat
  base : Nat
  sz : Nat
  lim : Nat

structure Gh where
  φ : Nat → Option Loc
  I : Nat → Prop

structure Gh.le (g g' : Gh) : Prop where
  φ : ∀ h l, g.φ h = some l → g'.φ h = some l
  I : ∀ b, g.I b → g'.I b

theorem Gh.le.refl (g : Gh) : Gh.le g g := ⟨fun _ _ h => h, fun _ h => h⟩
theorem Gh.le.trans {a b c : Gh} (h : Gh.le a b) (k : Gh.le b c) : Gh.le a c := ⟨fun x l hx => k.φ x l (h.φ x l hx), fun x hx => k.I x (h.I x hx)⟩

/-- The blocks of I are as they were. -/
def Same (I : Nat → Prop) (w w' : World) : Prop := ∀ b, I b → w'.heap[b]? = w.heap[b]?

theorem cell_of_same {w w' : World} {b o : Nat} (h : w'.heap[b]? = w.heap[b]?) : w'.cell? ⟨b, o, none⟩ = w.cell? ⟨b, o, none⟩ := World.cell?_of_block (a := ⟨b, o, none⟩) h

inductive ImgP (I : Nat → Prop) (w : World) : V → Value → Prop
  | und : ImgP I w .und undef
  | int (k : IntKind) (n : Int) : ImgP I w (.int k n) (.int k n)
  | bool (b : Bool) : ImgP I w (.bool b) (.bool b)
  | str (b : ByteArray) : ImgP I w (.str b.data.toList) (.string b)
  | nil : ImgP I w .nil (.slice none 0 0)
  | nilp : ImgP I w .nilp (.pointer none)
  | lst0 (p : Bool) (sz : Nat) (a : Option Addr) (c : Nat) : ImgP I w (.lst p sz []) (.slice a 0 c)
  | lst (p : Bool) (sz : Nat) (xs : List V) (b o cap : Nat) (vs : Nat → Nat → Value) (hI : I b) (hc : xs.length ≤ cap)
      (hs : ∀ e ∈ xs, e.cells.length = sz)
      (hv : ∀ (i j : Nat) (e c : V), xs[i]? = some e → e.cells[j]? = some c → w.cell? ⟨b, o + i * sz + j, none⟩ = some (vs i j) ∧ (vs i j).oneCell' = true)
      (hr : ∀ (i j : Nat) (e c : V), xs[i]? = some e → e.cells[j]? = some c → ImgP I w c (vs i j)) : ImgP I w (.lst p sz xs) (.slice (some ⟨b, o, none⟩) xs.length cap)
  | agg (cs : List V) (vs : List Value) (hl : cs.length = vs.length) (h1 : ∀ v ∈ vs, v.oneCell' = true)
      (hr : ∀ (i : Nat) (c : V) (v : Value), cs[i]? = some c → vs[i]? = some v → ImgP I w c v) : ImgP I w (.agg cs) (.agg vs.toArray)
  | tup (cs : List V) (vs : List Value) (hl : cs.length = vs.length)
      (hr : ∀ (i : Nat) (c : V) (v : Value), cs[i]? = some c → vs[i]? = some v → ImgP I w c v) : ImgP I w (.tup cs) (.tuple vs.toArray)
  | fn (f : Nat) : ImgP I w (.fn f []) (.func (.func f) #[] #[])

theorem ImgP.mono {I I' : Nat → Prop} {w w' : World} (hI : ∀ b, I b → I' b) (hw : Same I w w') {v : V} {a : Value} (h : ImgP I w v a) : ImgP I' w' v a := by
  induction h with
  | und => exact .und
  | int k n => exact .int k n
  | bool b => exact .bool b
  | str b => exact .str b
  | nil => exact .nil
  | nilp => exact .nilp
  | lst0 p sz a c => exact .lst0 p sz a c
  | lst p sz xs b o cap vs hb hc hs hv _ ih =>
    exact .lst p sz xs b o cap vs (hI b hb) hc hs (fun i j e c h1 h2 => by rw [cell_of_same (hw b hb)]; exact hv i j e c h1 h2) ih
  | agg cs vs hl h1 _ ih => exact .agg cs vs hl h1 ih
  | tup cs vs hl _ ih => exact .tup cs vs hl ih
  | fn f => exact .fn f

inductive Img (g : Gh) (w : World) : V → Value → Prop
  | pure {v : V} {a : Value} (h : ImgP g.I w v a) : Img g w v a
  | row (h o l : Nat) (loc : Loc) (cap : Nat) (hφ : g.φ h = some loc) (hl : l ≤ cap) (hc : loc.base + (o + cap) * loc.sz ≤ loc.lim) :
      Img g w (.row loc.sz h o l) (.slice (some ⟨loc.b, loc.base + o * loc.sz, none⟩) l cap)
  | row0 (s h o : Nat) (a : Addr) : Img g w (.row s h o 0) (.slice (some a) 0 0)
  | ptr (h i off : Nat) (loc : Loc) (hφ : g.φ h = some loc) : Img g w (.ptr h i off) (.pointer (some ⟨loc.b, loc.base + i * loc.sz + off, none⟩))
  | map (h : Nat) (loc : Loc) (hφ : g.φ h = some loc) : Img g w (.map h) (.map (some loc.b))
  | lst (p : Bool) (sz : Nat) (xs : List V) (b o cap : Nat) (vs : Nat → Nat → Value) (hp : p = false) (hI : g.I b) (hc : xs.length ≤ cap)
      (hs : ∀ e ∈ xs, e.cells.length = sz)
      (hv : ∀ (i j : Nat) (e c : V), xs[i]? = some e → e.cells[j]? = some c → w.cell? ⟨b, o + i * sz + j, none⟩ = some (vs i j) ∧ (vs i j).oneCell' = true)
      (hr : ∀ (i j : Nat) (e c : V), xs[i]? = some e → e.cells[j]? = some c → Img g w c (vs i j)) : Img g w (.lst p sz xs) (.slice (some ⟨b, o, none⟩) xs.length cap)
  | agg (cs : List V) (vs : List Value) (hl : cs.length = vs.length) (h1 : ∀ v ∈ vs, v.oneCell' = true)
      (hr : ∀ (i : Nat) (c : V) (v : Value), cs[i]? = some c → vs[i]? = some v → Img g w c v) : Img g w (.agg cs) (.agg vs.toArray)
  | tup (cs : List V) (vs : List Value) (hl : cs.length = vs.length)
      (hr : ∀ (i : Nat) (c : V) (v : Value), cs[i]? = some c → vs[i]? = some v → Img g w c v) : Img g w (.tup cs) (.tuple vs.toArray)
  | fn (f : Nat) (cs : List V) (vs : List Value) (hl : cs.length = vs.length)
      (hr : ∀ (i : Nat) (c : V) (v : Value), cs[i]? = some c → vs[i]? = some v → Img g w c v) : Img g w (.fn f cs) (.func (.func f) #[] vs.toArray)

theorem Img.mono {g g' : Gh} {w w' : World} (hg : Gh.le g g') (hw : Same g.I w w') {v : V} {a : Value} (h : Img g w v a) : Img g' w' v a := by
  induction h with
  | pure h => exact .pure (h.mono hg.I hw)
  | row h o l loc cap hφ hl hc => exact .row h o l loc cap (hg.φ _ _ hφ) hl hc
  | row0 s h o a => exact .row0 s h o a
  | ptr h i off loc hφ => exact .ptr h i off loc (hg.φ _ _ hφ)
  | map h loc hφ => exact .map h loc (hg.φ _ _ hφ)
  | lst p sz xs b o cap vs hp hb hc hs hv _ ih =>
    exact .lst p sz xs b o cap vs hp (hg.I b hb) hc hs (fun i j e c h1 h2 => by rw [cell_of_same (hw b hb)]; exact hv i j e c h1 h2) ih
  | agg cs vs hl h1 _ ih => exact .agg cs vs hl h1 ih
  | tup cs vs hl _ ih => exact .tup cs vs hl ih
  | fn f cs vs hl _ ih => exact .fn f cs vs hl ih

theorem ImgP.ro {I : Nat → Prop} {w : World} {p : Bool} {sz : Nat} {xs : List V} {a : Value} (h : ImgP I w (.lst p sz xs) a) : ImgP I w (.ro p sz xs) a := by
  cases xs with
  | nil => cases h with
    | lst0 => exact .lst0 p 0 _ _
    | lst => exact .lst0 p 0 _ _
  | cons x xs => exact h

theorem Img.ro {g : Gh} {w : World} {p : Bool} {sz : Nat} {xs : List V} {a : Value} (h : Img g w (.lst p sz xs) a) : Img g w (.ro p sz xs) a := by
  cases xs with
  | nil => cases h with
    | pure h => exact .pure h.ro
    | lst => exact .pure (.lst0 p 0 _ _)
  | cons x xs => exact h

/-! ### What a value is, read off its image -/
section
variable {g : Gh} {w : World} {x : Value}
theorem Img.int_inv {k : IntKind} {n : Int} (h : Img g w (.int k n) x) : x = .int k n := by
  cases h with | pure h => cases h; rfl
theorem Img.bool_inv {b : Bool} (h : Img g w (.bool b) x) : x = .bool b := by
  cases h with | pure h => cases h; rfl
theorem Img.und_inv (h : Img g w .und x) : x = undef := by
  cases h with | pure h => cases h; rfl
theorem Img.str_inv {s : List UInt8} (h : Img g w (.str s) x) : ∃ b : ByteArray, x = .string b ∧ b.data.toList = s := by
  cases h with | pure h => cases h with | str b => exact ⟨b, rfl, rfl⟩
theorem Img.nil_inv (h : Img g w .nil x) : x = .slice none 0 0 := by
  cases h with | pure h => cases h; rfl
theorem Img.row_inv {s n o l : Nat} (h : Img g w (.row s n o l) x) : (∃ loc cap, g.φ n = some loc ∧ loc.sz = s ∧ l ≤ cap ∧ loc.base + (o + cap) * loc.sz ≤ loc.lim ∧ x = .slice (some ⟨loc.b, loc.base + o * loc.sz, none⟩) l cap) ∨ (l = 0 ∧ ∃ a, x = .slice (some a) 0 0) := by
  cases h with
  | pure h => cases h
  | row _ _ _ loc cap hφ hl hc => exact .inl ⟨loc, cap, hφ, rfl, hl, hc, rfl⟩
  | row0 => exact .inr ⟨rfl, _, rfl⟩
theorem Img.ptr_inv {n i o : Nat} (h : Img g w (.ptr n i o) x) : ∃ loc, g.φ n = some loc ∧ x = .pointer (some ⟨loc.b, loc.base + i * loc.sz + o, none⟩) := by
  cases h with
  | pure h => cases h
  | ptr _ _ _ loc hφ => exact ⟨loc, hφ, rfl⟩
theorem Img.map_inv {n : Nat} (h : Img g w (.map n) x) : ∃ loc, g.φ n = some loc ∧ x = .map (some loc.b) := by
  cases h with
  | pure h => cases h
  | map _ loc hφ => exact ⟨loc, hφ, rfl⟩
theorem Img.lst_inv {p : Bool} {sz : Nat} {xs : List V} (h : Img g w (.lst p sz xs) x) : (xs = [] ∧ ∃ a c, x = .slice a 0 c) ∨
    ∃ b o cap, ∃ vs : Nat → Nat → Value, x = .slice (some ⟨b, o, none⟩) xs.length cap ∧ g.I b ∧ xs.length ≤ cap ∧ (∀ e ∈ xs, e.cells.length = sz) ∧
      (∀ (i j : Nat) (e c : V), xs[i]? = some e → e.cells[j]? = some c → w.cell? ⟨b, o + i * sz + j, none⟩ = some (vs i j) ∧ (vs i j).oneCell' = true) ∧
      (∀ (i j : Nat) (e c : V), xs[i]? = some e → e.cells[j]? = some c → Img g w c (vs i j)) ∧
      (ImgP g.I w (.lst p sz xs) x ∨ p = false) := by
  cases h with
  | pure h =>
    cases h with
    | lst0 => exact .inl ⟨rfl, _, _, rfl⟩
    | lst _ _ _ b o cap vs hI hc hs hv hr => exact .inr ⟨b, o, cap, vs, rfl, hI, hc, hs, hv, fun i j e c h1 h2 => .pure (hr i j e c h1 h2), .inl (.lst _ _ _ b o cap vs hI hc hs hv hr)⟩
  | lst _ _ _ b o cap vs hp hI hc hs hv hr => exact .inr ⟨b, o, cap, vs, rfl, hI, hc, hs, hv, hr, .inr hp⟩
theorem Img.agg_inv {cs : List V} (h : Img g w (.agg cs) x) : ∃ vs : List Value, x = .agg vs.toArray ∧ cs.length = vs.length ∧ (∀ v ∈ vs, v.oneCell' = true) ∧ ∀ (i : Nat) (c : V) (v : Value), cs[i]? = some c → vs[i]? = some v → Img g w c v := by
  cases h with
  | pure h => cases h with | agg _ vs hl h1 hr => exact ⟨vs, rfl, hl, h1, fun i c v h1 h2 => .pure (hr i c v h1 h2)⟩
  | agg _ vs hl h1 hr => exact ⟨vs, rfl, hl, h1, hr⟩
theorem Img.tup_inv {cs : List V} (h : Img g w (.tup cs) x) : ∃ vs : List Value, x = .tuple vs.toArray ∧ cs.length = vs.length ∧ ∀ (i : Nat) (c : V) (v : Value), cs[i]? = some c → vs[i]? = some v → Img g w c v := by
  cases h with
  | pure h => cases h with | tup _ vs hl hr => exact ⟨vs, rfl, hl, fun i c v h1 h2 => .pure (hr i c v h1 h2)⟩
  | tup _ vs hl hr => exact ⟨vs, rfl, hl, hr⟩
theorem Img.fn_inv {f : Nat} {cs : List V} (h : Img g w (.fn f cs) x) : ∃ vs : List Value, x = .func (.func f) #[] vs.toArray ∧ cs.length = vs.length ∧ ∀ (i : Nat) (c : V) (v : Value), cs[i]? = some c → vs[i]? = some v → Img g w c v := by
  cases h with
  | pure h => cases h with | fn => exact ⟨[], rfl, rfl, fun i c v h => by simp at h⟩
  | fn _ _ vs hl hr => exact ⟨vs, rfl, hl, hr⟩
theorem Img.no_loc {t o : Nat} (h : Img g w (.loc t o) x) : False := by
  cases h with | pure h => cases h
theorem Img.no_imm {e : V} {o : Nat} (h : Img g w (.imm e o) x) : False := by
  cases h with | pure h => cases h
end

theorem V.cells_agg (cs : List V) : V.cells (.agg cs) = cs := rfl

/-- An image is of as many cells, each an image. -/
theorem Img.cells {g : Gh} {w : World} {v : V} {x : Value} (h : Img g w v x) : v.cells.length = x.cells.size ∧ ∀ (i : Nat) (c : V) (y : Value), v.cells[i]? = some c → x.cells[i]? = some y → Img g w c y := by
  have single : ∀ {v : V} {x : Value}, v.cells = [v] → x.cells = #[x] → Img g w v x → v.cells.length = x.cells.size ∧ ∀ (i : Nat) (c : V) (y : Value), v.cells[i]? = some c → x.cells[i]? = some y → Img g w c y := by
    intro v x e1 e2 h
    rw [e1, e2]
    refine ⟨rfl, fun i c y h1 h2 => ?_⟩
    cases i with
    | zero => simp at h1 h2; subst h1 h2; exact h
    | succ i => simp at h1
  cases h with
  | pure h' =>
    have h0 : Img g w v x := .pure h'
    cases h' with
    | agg cs vs hl h1 hr => exact ⟨by simpa [V.cells, Value.cells] using hl, fun i c y h1 h2 => .pure (hr i c y h1 (by simpa [Value.cells] using h2))⟩
    | _ => exact single rfl rfl h0
  | agg cs vs hl h1 hr => exact ⟨by simpa [V.cells, Value.cells] using hl, fun i c y h1 h2 => hr i c y h1 (by simpa [Value.cells] using h2)⟩
  | row h o l loc cap hφ hl hc => exact single rfl rfl (.row h o l loc cap hφ hl hc)
  | row0 s h o a => exact single rfl rfl (.row0 s h o a)
  | ptr h i off loc hφ => exact single rfl rfl (.ptr h i off loc hφ)
  | map h loc hφ => exact single rfl rfl (.map h loc hφ)
  | lst p sz xs b o cap vs hp hI hc hs hv hr => exact single rfl rfl (.lst p sz xs b o cap vs hp hI hc hs hv hr)
  | tup cs vs hl hr => exact single rfl rfl (.tup cs vs hl hr)
  | fn f cs vs hl hr => exact single rfl rfl (.fn f cs vs hl hr)

/-- What can lie in cells is of single cells. -/
theorem Img.ones {g : Gh} {w : World} {v : V} {x : Value} (h : Img g w v x) (h1 : v.ones = true) : ∀ (i : Nat) (y : Value), x.cells[i]? = some y → y.oneCell' = true := by
  have single : ∀ {x : Value}, x.cells = #[x] → x.oneCell' = true → ∀ (i : Nat) (y : Value), x.cells[i]? = some y → y.oneCell' = true := by
    intro x e h i y hy
    rw [e] at hy
    cases i with
    | zero => simp at hy; subst hy; exact h
    | succ i => simp at hy
  cases h with
  | pure h' =>
    cases h' with
    | agg cs vs hl h2 hr =>
      intro i y hy
      exact h2 y (List.mem_of_getElem? (by simpa [Value.cells] using hy))
    | und => simp [V.ones, V.one] at h1
    | tup => simp [V.ones, V.one] at h1
    | _ => exact single rfl rfl
  | agg cs vs hl h2 hr =>
    intro i y hy
    exact h2 y (List.mem_of_getElem? (by simpa [Value.cells] using hy))
  | tup => simp [V.ones, V.one] at h1
  | _ => exact single rfl rfl

/-! ### Blocks, the memory, the state of a frame -/
def CellsOk (g : Gh) (w : World) (es : List V) (sz base : Nat) (cs : Array Value) : Prop :=
  (∀ e ∈ es, e.cells.length = sz) ∧ ∀ (i j : Nat) (e c : V), es[i]? = some e → e.cells[j]? = some c → ∃ v, cs[base + i * sz + j]? = some v ∧ v.oneCell' = true ∧ Img g w c v

def BlkOk (g : Gh) (w : World) (loc : Loc) : Blk → Prop
  | .row sz es => loc.sz = sz ∧ loc.base + es.length * sz ≤ loc.lim ∧ ∃ (cs : Array Value) (T : TypeId), w.heap[loc.b]? = some (.cells cs T (0, 0)) ∧ cs.size = loc.lim ∧ CellsOk g w es sz loc.base cs
  | .map es => ∃ (ents : Array MapEntry) (clock : Nat), w.heap[loc.b]? = some (.map ents clock) ∧ ents.size = es.length ∧
      ∀ (i : Nat) (k v : V), es[i]? = some (k, v) → ∃ m, ents[i]? = some m ∧ ImgP g.I w k m.key ∧ Img g w v m.val ∧ m.val.oneCell' = true

theorem CellsOk.mono {g g' : Gh} {w w' : World} (hg : Gh.le g g') (hw : Same g.I w w') {es : List V} {sz base : Nat} {cs : Array Value} (h : CellsOk g w es sz base cs) : CellsOk g' w' es sz base cs :=
  ⟨h.1, fun i j e c h1 h2 => let ⟨v, a, b, d⟩ := h.2 i j e c h1 h2; ⟨v, a, b, d.mono hg hw⟩⟩

theorem BlkOk.mono {g g' : Gh} {w w' : World} (hg : Gh.le g g') (hw : Same g.I w w') {loc : Loc} {b : Blk} (hb : w'.heap[loc.b]? = w.heap[loc.b]?) (h : BlkOk g w loc b) : BlkOk g' w' loc b := by
  cases b with
  | row sz es =>
    obtain ⟨h1, h2, cs, T, h3, h4, h5⟩ := h
    exact ⟨h1, h2, cs, T, hb.trans h3, h4, h5.mono hg hw⟩
  | map es =>
    obtain ⟨ents, clock, h1, h2, h3⟩ := h
    exact ⟨ents, clock, hb.trans h1, h2, fun i k v hi => let ⟨m, a, b, c, d⟩ := h3 i k v hi; ⟨m, a, b.mono hg.I hw, c.mono hg hw, d⟩⟩

structure MemOk (g : Gh) (mem : Mem) (w : World) : Prop where
  blk : ∀ h b, mem.blk h = some b → ∃ l, g.φ h = some l ∧ BlkOk g w l b ∧ ¬ g.I l.b ∧ l.b < w.heap.size
  inj : ∀ h h' b b' l l', h ≠ h' → mem.blk h = some b → mem.blk h' = some b' → g.φ h = some l → g.φ h' = some l' → l.b ≠ l'.b
  lt : ∀ b, g.I b → b < w.heap.size

/-- From handle n on nothing is known. -/
def FreshFrom (g : Gh) (mem : Mem) (n : Nat) : Prop := ∀ h, n ≤ h → mem.blk h = none ∧ g.φ h = none

/-- The world w0 with its first n0 blocks kept, but for those of S0. -/
structure Keep (n0 : Nat) (S0 : Nat → Prop) (w0 w : World) : Prop where
  os : w.os = w0.os
  tape : w.tape = w0.tape
  output : w.output = w0.output
  size : n0 ≤ w.heap.size
  block : ∀ b, b < n0 → ¬ S0 b → w.heap[b]? = w0.heap[b]?

structure Fr where
  n0 : Nat
  S0 : Nat → Prop
  w0 : World
  lo : Nat
  AS : List Nat
  BS : List Nat
  nt : Nat
  disj : ∀ t, t ∈ AS → t ∉ BS

structure BoxOk (fr : Fr) (g : Gh) (mem : Mem) (w : World) (e : V) (b : Nat) : Prop where
  cells : ∃ (cs : Array Value) (T : TypeId), w.heap[b]? = some (.cells cs T (0, 0)) ∧ cs.size = e.cells.length ∧ ∀ (j : Nat) (c : V), e.cells[j]? = some c → ∃ v, cs[j]? = some v ∧ v.oneCell' = true ∧ Img g w c v
  out : ¬ g.I b
  new : fr.n0 ≤ b
  free : ∀ h B l, mem.blk h = some B → g.φ h = some l → l.b ≠ b

/-- What an operand's value stands for: an address into a box, into an element that nobody writes, or a value. -/
def ImgA (BS : List Nat) (g : Gh) (a : Act) (w : World) (v : V) (x : Value) : Prop :=
  match v with
  | .loc t off => t ∈ BS ∧ ∃ b, a.tmps[t]? = some (.pointer (some ⟨b, 0, none⟩)) ∧ x = .pointer (some ⟨b, off, none⟩)
  | .imm e off => ∃ b o, x = .pointer (some ⟨b, o + off, none⟩) ∧ g.I b ∧ ∀ (j : Nat) (c : V), e.cells[j]? = some c → ∃ y, w.cell? ⟨b, o + j, none⟩ = some y ∧ y.oneCell' = true ∧ Img g w c y
  | v => Img g w v x

structure Sim (fr : Fr) (g : Gh) (st : St) (a : Act) (w : World) : Prop where
  mem : MemOk g st.mem w
  env : ∀ t v, st.env.get t = some v → t ∉ fr.AS ∧ t ∉ fr.BS ∧ ∃ x, a.tmps[t]? = some x ∧ Img g w v x
  bx : ∀ t e, st.bx.get t = some e → t ∈ fr.BS ∧ ∃ b, a.tmps[t]? = some (.pointer (some ⟨b, 0, none⟩)) ∧ BoxOk fr g st.mem w e b
  bxd : ∀ t t' e e' b, t ≠ t' → st.bx.get t = some e → st.bx.get t' = some e' → a.tmps[t]? = some (.pointer (some ⟨b, 0, none⟩)) → a.tmps[t']? ≠ some (.pointer (some ⟨b, 0, none⟩))
  ad : ∀ t v, st.ad.get t = some v → t ∈ fr.AS ∧ ∃ x, a.tmps[t]? = some x ∧ ImgA fr.BS g a w v x
  size : a.tmps.size = fr.nt
  defers : a.defers = []
  keep : Keep fr.n0 fr.S0 fr.w0 w
  own : ∀ h b l, fr.lo ≤ h → st.mem.blk h = some b → g.φ h = some l → fr.n0 ≤ l.b ∨ fr.S0 l.b

/-! ### Steps that change nothing that the state holds -/
/-- New blocks may have come, some that nobody writes; orders may have been drawn. -/
structure Quiet (g : Gh) (w : World) (g' : Gh) (w' : World) : Prop where
  le : Gh.le g g'
  φ : g'.φ = g.φ
  old : ∀ b, b < w.heap.size → w'.heap[b]? = w.heap[b]?
  size : w.heap.size ≤ w'.heap.size
  os : w'.os = w.os
  tape : w'.tape = w.tape
  output : w'.output = w.output
  new : ∀ b, g'.I b → g.I b ∨ (w.heap.size ≤ b ∧ b < w'.heap.size)

theorem Quiet.refl (g : Gh) (w : World) : Quiet g w g w := ⟨.refl g, rfl, fun _ _ => rfl, Nat.le_refl _, rfl, rfl, rfl, fun _ h => .inl h⟩
theorem Quiet.drew (g : Gh) (w : World) : Quiet g w g w.drew := ⟨.refl g, rfl, fun _ _ => rfl, Nat.le_refl _, rfl, rfl, rfl, fun _ h => .inl h⟩

theorem heap_none_of_le {w : World} {b : Nat} (h : w.heap.size ≤ b) : w.heap[b]? = none := Array.getElem?_eq_none h
theorem lt_of_heap {w : World} {b : Nat} {o : Obj} (h : w.heap[b]? = some o) : b < w.heap.size := by
  rcases Nat.lt_or_ge b w.heap.size with h' | h'
  · exact h'
  · rw [heap_none_of_le h'] at h; cases h

theorem Quiet.same {g g' : Gh} {w w' : World} {mem : Mem} (hm : MemOk g mem w) (q : Quiet g w g' w') : Same g.I w w' := fun b hb => q.old b (hm.lt b hb)

theorem MemOk.quiet {g g' : Gh} {w w' : World} {mem : Mem} (hm : MemOk g mem w) (q : Quiet g w g' w') : MemOk g' mem w' where
  blk h b hb := by
    obtain ⟨l, h1, h2, h3, h4⟩ := hm.blk h b hb
    refine ⟨l, by rw [q.φ]; exact h1, h2.mono q.le (q.same hm) (q.old _ h4), fun hI => ?_, Nat.lt_of_lt_of_le h4 q.size⟩
    rcases q.new _ hI with h5 | ⟨h5, _⟩
    · exact h3 h5
    · omega
  inj h h' b b' l l' hne hb hb' hl hl' := hm.inj h h' b b' l l' hne hb hb' (by rw [← q.φ]; exact hl) (by rw [← q.φ]; exact hl')
  lt b hb := by
    rcases q.new b hb with h | ⟨_, h⟩
    · exact Nat.lt_of_lt_of_le (hm.lt b h) q.size
    · exact h

theorem Keep.quiet {n0 : Nat} {S0 : Nat → Prop} {w0 w w' : World} {g g' : Gh} (k : Keep n0 S0 w0 w) (q : Quiet g w g' w') : Keep n0 S0 w0 w' where
  os := q.os.trans k.os
  tape := q.tape.trans k.tape
  output := q.output.trans k.output
  size := Nat.le_trans k.size q.size
  block b hb hS := (q.old b (Nat.lt_of_lt_of_le hb k.size)).trans (k.block b hb hS)

theorem BoxOk.quiet {fr : Fr} {g g' : Gh} {w w' : World} {mem : Mem} {e : V} {b : Nat} (hm : MemOk g mem w) (h : BoxOk fr g mem w e b) (q : Quiet g w g' w') : BoxOk fr g' mem w' e b := by
  obtain ⟨cs, T, h1, h2, h3⟩ := h.cells
  have hlt := lt_of_heap h1
  refine ⟨⟨cs, T, by rw [q.old b hlt]; exact h1, h2, fun j c hc => let ⟨v, x, y, z⟩ := h3 j c hc; ⟨v, x, y, z.mono q.le (q.same hm)⟩⟩, fun hI => ?_, h.new, fun h' B l hB hl => h.free h' B l hB (by rw [← q.φ]; exact hl)⟩
  rcases q.new _ hI with h5 | ⟨h5, _⟩
  · exact h.out h5
  · omega

theorem ImgA.mono {BS : List Nat} {g g' : Gh} {a : Act} {w w' : World} (hg : Gh.le g g') (hw : Same g.I w w') {v : V} {x : Value} (h : ImgA BS g a w v x) : ImgA BS g' a w' v x := by
  cases v <;> first
    | exact Img.mono hg hw h
    | exact h
    | (obtain ⟨b, o, h1, h2, h3⟩ := h
       exact ⟨b, o, h1, hg.I b h2, fun j c hc => let ⟨y, p, q, r⟩ := h3 j c hc; ⟨y, by rw [cell_of_same (hw b h2)]; exact p, q, r.mono hg hw⟩⟩)

theorem Img.toA {BS : List Nat} {g : Gh} {a : Act} {w : World} {v : V} {x : Value} (h : Img g w v x) : ImgA BS g a w v x := by
  cases v <;> first
    | exact h
    | exact absurd h (fun h => h.no_loc)
    | exact absurd h (fun h => h.no_imm)

theorem Sim.quiet {fr : Fr} {g g' : Gh} {st : St} {a : Act} {w w' : World} (s : Sim fr g st a w) (q : Quiet g w g' w') : Sim fr g' st a w' where
  mem := s.mem.quiet q
  env t v hv := let ⟨h1, h2, x, h3, h4⟩ := s.env t v hv; ⟨h1, h2, x, h3, h4.mono q.le (q.same s.mem)⟩
  bx t e he := let ⟨h1, b, h2, h3⟩ := s.bx t e he; ⟨h1, b, h2, h3.quiet s.mem q⟩
  bxd := s.bxd
  ad t v hv := let ⟨h1, x, h3, h4⟩ := s.ad t v hv; ⟨h1, x, h3, h4.mono q.le (q.same s.mem)⟩
  size := s.size
  defers := s.defers
  keep := s.keep.quiet q
  own h b l hlo hb hl := s.own h b l hlo hb (by rw [← q.φ]; exact hl)

/-! ### Putting a result into its slot -/
theorem ne_of_out {l : List Nat} {d t : Nat} (hd : d ∉ l) (ht : t ∈ l) : d ≠ t := by
  intro e
  subst e
  exact hd ht
theorem ne_of_in {l : List Nat} {d t : Nat} (hd : d ∈ l) (ht : t ∉ l) : d ≠ t := by
  intro e
  subst e
  exact ht hd

theorem put_tmps_same (a : Act) (d : Nat) (x : Value) (h : d < a.tmps.size) : (a.put (some d) x).tmps[d]? = some x := by
  simp [Act.put, h]
theorem put_tmps_other (a : Act) (d t : Nat) (x : Value) (h : d ≠ t) : (a.put (some d) x).tmps[t]? = a.tmps[t]? := by
  simp [Act.put, Array.getElem?_setIfInBounds_ne h]
theorem put_size (a : Act) (d : Nat) (x : Value) : (a.put (some d) x).tmps.size = a.tmps.size := by simp [Act.put]
theorem put_defers (a : Act) (d : Nat) (x : Value) : (a.put (some d) x).defers = a.defers := rfl

theorem ImgA.put {BS : List Nat} {g : Gh} {a : Act} {w : World} {v : V} {x : Value} {d : Nat} {y : Value} (hd : d ∉ BS) (h : ImgA BS g a w v x) : ImgA BS g (a.put (some d) y) w v x := by
  cases v <;> first
    | exact h
    | (obtain ⟨h0, b, h1, h2⟩ := h
       exact ⟨h0, b, by rw [put_tmps_other _ _ _ _ (ne_of_out hd h0)]; exact h1, h2⟩)

theorem Sim.put_env {fr : Fr} {g : Gh} {st : St} {a : Act} {w : World} (s : Sim fr g st a w) {d : Nat} {v : V} {x : Value} (hA : d ∉ fr.AS) (hB : d ∉ fr.BS) (hn : d < fr.nt) (hv : Img g w v x) :
    Sim fr g { st with env := (d, v) :: st.env } (a.put (some d) x) w where
  mem := s.mem
  env t u hu := by
    simp only [Env.get_cons] at hu
    split at hu
    · rename_i h; subst h
      cases hu
      exact ⟨hA, hB, x, put_tmps_same _ _ _ (by rw [s.size]; exact hn), hv⟩
    · rename_i h
      obtain ⟨h1, h2, y, h3, h4⟩ := s.env t u hu
      exact ⟨h1, h2, y, by rw [put_tmps_other _ _ _ _ h]; exact h3, h4⟩
  bx t e he := by
    obtain ⟨h1, b, h2, h3⟩ := s.bx t e he
    exact ⟨h1, b, by rw [put_tmps_other _ _ _ _ (ne_of_out hB h1)]; exact h2, h3⟩
  bxd t t' e e' b hne he he' h1 := by
    have h2 := (s.bx t e he).1
    have h3 := (s.bx t' e' he').1
    rw [put_tmps_other _ _ _ _ (ne_of_out hB h3)]
    rw [put_tmps_other _ _ _ _ (ne_of_out hB h2)] at h1
    exact s.bxd t t' e e' b hne he he' h1
  ad t u hu := by
    obtain ⟨h1, y, h3, h4⟩ := s.ad t u hu
    exact ⟨h1, y, by rw [put_tmps_other _ _ _ _ (ne_of_out hA h1)]; exact h3, h4.put hB⟩
  size := by rw [put_size]; exact s.size
  defers := s.defers
  keep := s.keep
  own := s.own

theorem Sim.put_ad {fr : Fr} {g : Gh} {st : St} {a : Act} {w : World} (s : Sim fr g st a w) {d : Nat} {v : V} {x : Value} (hA : d ∈ fr.AS) (hn : d < fr.nt) (hv : ImgA fr.BS g a w v x) :
    Sim fr g { st with ad := (d, v) :: st.ad } (a.put (some d) x) w where
  mem := s.mem
  env t u hu := by
    obtain ⟨h1, h2, y, h3, h4⟩ := s.env t u hu
    exact ⟨h1, h2, y, by rw [put_tmps_other _ _ _ _ (ne_of_in hA h1)]; exact h3, h4⟩
  bx t e he := by
    obtain ⟨h1, b, h2, h3⟩ := s.bx t e he
    exact ⟨h1, b, by rw [put_tmps_other _ _ _ _ (ne_of_out (fr.disj d hA) h1)]; exact h2, h3⟩
  bxd t t' e e' b hne he he' h1 := by
    have h2 := (s.bx t e he).1
    have h3 := (s.bx t' e' he').1
    rw [put_tmps_other _ _ _ _ (ne_of_out (fr.disj d hA) h3)]
    rw [put_tmps_other _ _ _ _ (ne_of_out (fr.disj d hA) h2)] at h1
    exact s.bxd t t' e e' b hne he he' h1
  ad t u hu := by
    simp only [Env.get_cons] at hu
    split at hu
    · rename_i h; subst h
      cases hu
      exact ⟨hA, x, put_tmps_same _ _ _ (by rw [s.size]; exact hn), hv.put (fr.disj d hA)⟩
    · rename_i h
      obtain ⟨h1, y, h3, h4⟩ := s.ad t u hu
      exact ⟨h1, y, by rw [put_tmps_other _ _ _ _ h]; exact h3, h4.put (fr.disj d hA)⟩
  size := by rw [put_size]; exact s.size
  defers := s.defers
  keep := s.keep
  own := s.own
end Go.Am
