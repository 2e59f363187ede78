/- Readable arguments are values of the abstract machine; the row of a law. -/
import Derived.Test.YtflfnkdhmcfjlaaKin
import Derived.OpenShut
import Derived.ReadAgain
import Derived.WideShapes
import Derived.Test.YtflfnkdhmcfjlaaCall
import Derived.Test.YtflfnkdhmcfjlaaWps
import Derived.WalkKit
import Derived.ProofKit

/- What a law's arguments are, as values of the abstract machine: read off the form's own reading of them. -/
namespace Go.Am
open Go Go.WideShapes

/-- The types of plain data that the laws take; an array is a struct of its elements. -/
inductive Ty where
  | int (k : IntKind)
  | bool
  | str
  | sl (e : Ty)
  | st (fs : List Ty)

def Ty.isSt : Ty → Bool
  | .st _ => true
  | _ => false

def wrap (e : Ty) (cs : List V) : V := if e.isSt then .agg cs else match cs with
  | [c] => c
  | _ => .und

/-- The values of a type, cell by cell; 'n' is the number of its cells. -/
inductive Has : Ty → Nat → List V → Prop
  | int (k : IntKind) (n : Int) (h : (Lit.int k n).wf = true) : Has (.int k) 1 [.int k n]
  | bool (b : Bool) : Has .bool 1 [.bool b]
  | str (s : List UInt8) (h : s.length ≤ maxLen) : Has .str 1 [.str s]
  | sl (e : Ty) (sz : Nat) (xs : List V) (hl : xs.length ≤ maxLen) (cs : Nat → List V) (hw : ∀ (i : Nat) (x : V), xs[i]? = some x → x = wrap e (cs i)) (h : ∀ (i : Nat) (x : V), xs[i]? = some x → Has e sz (cs i)) : Has (.sl e) 1 [.ro true sz xs]
  | st0 : Has (.st []) 0 []
  | st1 (f : Ty) (fs : List Ty) (n m : Nat) (a b : List V) (ha : Has f n a) (hb : Has (.st fs) m b) : Has (.st (f :: fs)) (n + m) (a ++ b)

theorem Has.len {T : Ty} {n : Nat} {vs : List V} (h : Has T n vs) : vs.length = n := by
  induction h with
  | st1 f fs n m a b _ _ ih1 ih2 => rw [List.length_append, ih1, ih2]
  | _ => rfl

theorem Has.one {T : Ty} {n : Nat} {vs : List V} (h : Has T n vs) (hT : T.isSt = false) : ∃ c, vs = [c] ∧ c.cells = [c] ∧ n = 1 := by
  cases h with
  | int k n => exact ⟨_, rfl, rfl, rfl⟩
  | bool b => exact ⟨_, rfl, rfl, rfl⟩
  | str s => exact ⟨_, rfl, rfl, rfl⟩
  | sl e sz xs => exact ⟨_, rfl, rfl, rfl⟩
  | st0 => cases hT
  | st1 => cases hT

theorem wrap_cells {T : Ty} {n : Nat} {vs : List V} (h : Has T n vs) : (wrap T vs).cells = vs := by
  unfold wrap
  cases hT : T.isSt with
  | true => rfl
  | false =>
    obtain ⟨c, rfl, h1, _⟩ := h.one hT
    exact h1

section
variable (P : Program)
def fitF (r : TypeId → Ty → Nat → Bool) : List Field → List Ty → Nat → Nat → Bool
  | [], [], off, sz => Nat.beq off sz
  | g :: gs, f :: fs, off, sz => Nat.beq g.offset off && r g.type f (P.cellsOf g.type) && fitF r gs fs (off + P.cellsOf g.type) sz
  | _, _, _, _ => false

/-- Does a type of the program have this form? 'sz' is the number of its cells. -/
def tyFits : Nat → TypeId → Ty → Nat → Bool
  | 0, _, _, _ => false
  | n + 1, t, T, sz => match T with
    | .int k => isInt P t k && Nat.beq sz 1
    | .bool => isBool P t && Nat.beq sz 1
    | .str => isStr P t && Nat.beq sz 1
    | .sl e => Nat.beq sz 1 && match P.underlying t with
      | some (.slice u) => Nat.blt 0 (P.cellsOf u) && tyFits n u e (P.cellsOf u)
      | _ => false
    | .st fs => Nat.beq sz (P.cellsOf t) && match P.underlying t with
      | some (.struct gs) => fitF P (tyFits n) gs.toList fs 0 sz
      | some (.array m e) => Nat.beq fs.length m && Nat.beq sz (m * P.cellsOf e) && fs.all fun f => tyFits n e f (P.cellsOf e)
      | _ => false
end

section
variable {H : Type} {enc : TypeId × Value → H} {P : Program} {w : World}

def Opened (w : World) (T : Ty) (sz : Nat) (cs : List Value) : Prop := cs.length = sz ∧ (∀ v ∈ cs, v.oneCell' = true) ∧ ∃ vs, Has T sz vs ∧ ∀ (i : Nat) (c : V) (v : Value), vs[i]? = some c → cs[i]? = some v → ImgP (fun b => b < w.heap.size) w c v

theorem Opened.nil : Opened w (.st []) 0 [] := ⟨rfl, by simp, [], .st0, by simp⟩
theorem Opened.cons {f : Ty} {fs : List Ty} {n m : Nat} {a b : List Value} (h1 : Opened w f n a) (h2 : Opened w (.st fs) m b) : Opened w (.st (f :: fs)) (n + m) (a ++ b) := by
  obtain ⟨l1, o1, vs, k1, r1⟩ := h1
  obtain ⟨l2, o2, us, k2, r2⟩ := h2
  refine ⟨by rw [List.length_append, l1, l2], fun v hv => (List.mem_append.1 hv).elim (o1 v) (o2 v), vs ++ us, .st1 f fs n m vs us k1 k2, fun i c v hc hv => ?_⟩
  have hl := k1.len
  rcases Nat.lt_or_ge i n with h | h
  · rw [List.getElem?_append_left (by omega)] at hc hv
    exact r1 i c v hc hv
  · rw [List.getElem?_append_right (by omega)] at hc hv
    rw [hl] at hc
    rw [l1] at hv
    exact r2 _ c v hc hv

theorem cells?_get {a : Addr} {n : Nat} {cs : List Value} (h : w.cells? 0 a n = some cs) : cs.length = n ∧ ∀ j, j < n → w.cell? (a.add j) = cs[j]? := by
  unfold World.cells? at h
  rw [if_pos (Nat.zero_le _)] at h
  have hl := mapM_some_length h
  rw [List.length_range] at hl
  exact ⟨hl, fun j hj => mapM_some_get h j j (by simp [hj])⟩

theorem lt_of_cell {a : Addr} {v : Value} (h : w.cell? a = some v) : a.block < w.heap.size ∧ a.spot = none := by
  unfold World.cell? at h
  split at h
  · rename_i c T fr hb
    refine ⟨lt_of_heap hb, ?_⟩
    split at h
    · cases h
    · rename_i hs
      cases hsp : a.spot with
      | none => rfl
      | some x => rw [hsp] at hs; simp at hs
  · cases h

theorem open_ty (spare : Nat → Bool) : ∀ (n m : Nat) (T : Ty) (t : TypeId) (sz : Nat) (cs : List Value) (x : DataW H × List MemPlace), DataW.trod enc P w 0 spare true n t cs = some x → tyFits P m t T sz = true → Opened w T sz cs := by
  intro n
  induction n with
  | zero => intro m T t sz cs x h; simp [DataW.trod] at h
  | succ n ih =>
    intro m T t sz cs x h hf
    cases m with
    | zero => exact absurd hf (by simp [tyFits])
    | succ m =>
      cases T with
      | int k =>
        simp only [tyFits, Bool.and_eq_true] at hf
        obtain ⟨ht, hs⟩ := hf
        have ht := isInt_spec ht
        have hs := Nat.eq_of_beq_eq_true hs
        subst hs
        obtain ⟨z, rfl, _, hz⟩ := DataW.trod_int ht h
        refine ⟨rfl, fun v hv => by simp at hv; subst hv; rfl, [.int k z], .int k z hz, fun i c v hc hv => ?_⟩
        cases i with
        | zero => simp at hc hv; subst hc hv; exact .int k z
        | succ i => simp at hc
      | bool =>
        simp only [tyFits, Bool.and_eq_true] at hf
        obtain ⟨ht, hs⟩ := hf
        have ht := isBool_spec ht
        have hs := Nat.eq_of_beq_eq_true hs
        subst hs
        obtain ⟨z, rfl, _⟩ := DataW.trod_bool ht h
        refine ⟨rfl, fun v hv => by simp at hv; subst hv; rfl, [.bool z], .bool z, fun i c v hc hv => ?_⟩
        cases i with
        | zero => simp at hc hv; subst hc hv; exact .bool z
        | succ i => simp at hc
      | str =>
        simp only [tyFits, Bool.and_eq_true] at hf
        obtain ⟨ht, hs⟩ := hf
        have ht := isStr_spec ht
        have hs := Nat.eq_of_beq_eq_true hs
        subst hs
        obtain ⟨z, rfl, _, hz⟩ := DataW.trod_string ht h
        refine ⟨rfl, fun v hv => by simp at hv; subst hv; rfl, [.str z.data.toList], .str _ (by simpa using hz), fun i c v hc hv => ?_⟩
        cases i with
        | zero => simp at hc hv; subst hc hv; exact .str z
        | succ i => simp at hc
      | sl e =>
        simp only [tyFits, Bool.and_eq_true] at hf
        obtain ⟨hs, hf⟩ := hf
        have hs := Nat.eq_of_beq_eq_true hs
        subst hs
        split at hf
        · rename_i u ht
          simp only [Bool.and_eq_true, Nat.blt_eq] at hf
          obtain ⟨hpos, hf⟩ := hf
          have one : ∀ {y : Value}, y.oneCell' = true → ∀ {xs : List V} (_ : Has (.sl e) 1 [.ro true (P.cellsOf u) xs]) (_ : ImgP (fun b => b < w.heap.size) w (.ro true (P.cellsOf u) xs) y), Opened w (.sl e) 1 [y] := by
            intro y hy xs hh hi
            refine ⟨rfl, fun v hv => by simp at hv; subst hv; exact hy, _, hh, fun i c v hc hv => ?_⟩
            cases i with
            | zero => simp at hc hv; subst hc hv; exact hi
            | succ i => simp at hc
          rcases DataW.trod_slice ht h with ⟨rfl, _⟩ | ⟨a, len, cap, elems, rest, n', hn, rfl, _, _, hlc, hcap, hel, hget, _, _⟩
          · exact one rfl (xs := []) (.sl e _ [] (by simp) (fun _ => []) (by simp) (by simp)) (.lst0 true 0 none 0)
          · cases hn
            by_cases h0 : len = 0
            · subst h0
              exact one rfl (xs := []) (.sl e _ [] (by simp) (fun _ => []) (by simp) (by simp)) (.lst0 true 0 (some a) cap)
            · have hsp : a.spot = none ∧ a.block < w.heap.size := by
                have h1 := hget 0 (by omega)
                rw [List.getElem?_eq_getElem (by omega)] at h1
                simp only [Option.bind_eq_some_iff] at h1
                obtain ⟨cs, h1, _⟩ := h1
                have := (cells?_get h1).2 0 hpos
                rw [List.getElem?_eq_getElem (by rw [(cells?_get h1).1]; exact hpos)] at this
                have := lt_of_cell this
                simp [Addr.add] at this
                exact ⟨this.2, this.1⟩
              obtain ⟨b, o, spot⟩ := a
              obtain ⟨rfl, hlt⟩ := hsp
              have hadd : ∀ o k, Addr.add ⟨b, o, none⟩ k = ⟨b, o + k, none⟩ := fun o k => by
                unfold Addr.add
                split
                · rename_i h; subst h; rfl
                · rfl
              -- each element
              have elem : ∀ i, ∃ cs : List Value, i < len → w.cells? 0 ⟨b, o + i * P.cellsOf u, none⟩ (P.cellsOf u) = some cs ∧ Opened w e (P.cellsOf u) cs := by
                intro i
                by_cases hi : i < len
                · have := hget i hi
                  rw [List.getElem?_eq_getElem (by omega), hadd] at this
                  simp only [Option.bind_eq_some_iff] at this
                  obtain ⟨cs, h1, h2⟩ := this
                  exact ⟨cs, fun _ => ⟨h1, ih m e u _ cs _ h2 hf⟩⟩
                · exact ⟨[], fun h => absurd h hi⟩
              let csf : Nat → List Value := fun i => (elem i).choose
              have hcs : ∀ i, i < len → w.cells? 0 ⟨b, o + i * P.cellsOf u, none⟩ (P.cellsOf u) = some (csf i) ∧ Opened w e (P.cellsOf u) (csf i) := fun i hi => (elem i).choose_spec hi
              have hvs : ∀ i, ∃ vs : List V, i < len → Has e (P.cellsOf u) vs ∧ ∀ (j : Nat) (c : V) (v : Value), vs[j]? = some c → (csf i)[j]? = some v → ImgP (fun b => b < w.heap.size) w c v := by
                intro i
                by_cases hi : i < len
                · obtain ⟨_, _, vs, h1, h2⟩ := (hcs i hi).2
                  exact ⟨vs, fun _ => ⟨h1, h2⟩⟩
                · exact ⟨[], fun h => absurd h hi⟩
              let vsf : Nat → List V := fun i => (hvs i).choose
              have hvf : ∀ i, i < len → Has e (P.cellsOf u) (vsf i) ∧ ∀ (j : Nat) (c : V) (v : Value), (vsf i)[j]? = some c → (csf i)[j]? = some v → ImgP (fun b => b < w.heap.size) w c v := fun i hi => (hvs i).choose_spec hi
              let xs : List V := (List.range len).map fun i => wrap e (vsf i)
              have hxl : xs.length = len := by simp [xs]
              have hxg : ∀ (i : Nat) (x : V), xs[i]? = some x → i < len ∧ x = wrap e (vsf i) := by
                intro i x hx
                simp only [xs, List.getElem?_map] at hx
                rcases Nat.lt_or_ge i len with hi | hi
                · rw [List.getElem?_range hi] at hx
                  simp at hx
                  exact ⟨hi, hx.symm⟩
                · rw [List.getElem?_eq_none (by simpa using hi)] at hx
                  cases hx
              have hcell : ∀ (i j : Nat) (x c : V), xs[i]? = some x → x.cells[j]? = some c → ∃ v, w.cell? ⟨b, o + i * P.cellsOf u + j, none⟩ = some v ∧ v.oneCell' = true ∧ ImgP (fun b => b < w.heap.size) w c v := by
                intro i j x c hx hc
                obtain ⟨hi, rfl⟩ := hxg i x hx
                obtain ⟨h1, h2⟩ := hvf i hi
                rw [wrap_cells h1] at hc
                have hjl : j < P.cellsOf u := by
                  have := h1.len
                  rcases Nat.lt_or_ge j (vsf i).length with h | h
                  · omega
                  · rw [List.getElem?_eq_none h] at hc; cases hc
                obtain ⟨h3, h4, h5, _⟩ := hcs i hi
                obtain ⟨h6, h7⟩ := cells?_get h3
                have hv : (csf i)[j]? = some ((csf i)[j]'(by omega)) := List.getElem?_eq_getElem _
                have h8 := h7 j hjl
                rw [hv, hadd] at h8
                exact ⟨_, h8, h5 _ (List.getElem_mem _), h2 j c _ hc hv⟩
              have hsl : Value.slice (some ⟨b, o, none⟩) len cap = Value.slice (some ⟨b, o, none⟩) xs.length cap := by rw [hxl]
              rw [hsl]
              refine one rfl (xs := xs) (.sl e _ xs (by rw [hxl]; omega) vsf (fun i x hx => (hxg i x hx).2) (fun i x hx => (hvf i (hxg i x hx).1).1)) ?_
              refine ImgP.ro (.lst true _ xs b o cap (fun i j => (w.cell? ⟨b, o + i * P.cellsOf u + j, none⟩).getD undef) hlt (by omega) (fun x hx => ?_) (fun i j x c hx hc => ?_) (fun i j x c hx hc => ?_))
              · obtain ⟨i, hi, rfl⟩ := List.getElem_of_mem hx
                obtain ⟨h1, h2⟩ := hxg i _ (List.getElem?_eq_getElem hi)
                rw [h2, wrap_cells (hvf i h1).1]
                exact (hvf i h1).1.len
              · obtain ⟨v, h1, h2, _⟩ := hcell i j x c hx hc
                rw [h1]
                exact ⟨rfl, h2⟩
              · obtain ⟨v, h1, _, h3⟩ := hcell i j x c hx hc
                simp only [h1, Option.getD_some]
                exact h3
        · cases hf
      | st fs =>
        simp only [tyFits, Bool.and_eq_true] at hf
        obtain ⟨hs, hf⟩ := hf
        have hs := Nat.eq_of_beq_eq_true hs
        subst hs
        split at hf
        · rename_i gs ht
          obtain ⟨xs, n', hn, _, hcl, _, hget⟩ := DataW.trod_struct ht h
          cases hn
          have key : ∀ (gl : List Field) (fs : List Ty) (off k : Nat), fitF P (tyFits P m) gl fs off (P.cellsOf t) = true → (∀ (i : Nat) (g : Field), gl[i]? = some g → gs[k + i]? = some g) → (k + gl.length = gs.size) → off ≤ P.cellsOf t → Opened w (.st fs) (P.cellsOf t - off) (cs.drop off) := by
            intro gl
            induction gl with
            | nil =>
              intro fs off k hgo _ _ hoff
              cases fs with
              | nil =>
                have := Nat.eq_of_beq_eq_true (show Nat.beq off (P.cellsOf t) = true from hgo)
                subst this
                rw [Nat.sub_self, List.drop_eq_nil_of_le (by omega)]
                exact Opened.nil
              | cons => cases hgo
            | cons g gl ihg =>
              intro fs off k hgo hgs hk hoff
              cases fs with
              | nil => cases hgo
              | cons f fs =>
                have hgo' : (Nat.beq g.offset off && tyFits P m g.type f (P.cellsOf g.type) && fitF P (tyFits P m) gl fs (off + P.cellsOf g.type) (P.cellsOf t)) = true := hgo
                simp only [Bool.and_eq_true] at hgo'
                obtain ⟨⟨h1, h2⟩, h3⟩ := hgo'
                have h1 := Nat.eq_of_beq_eq_true h1
                have hgk := hgs 0 g rfl
                rw [Nat.add_zero] at hgk
                have hklt : k < gs.size := by simp at hk; omega
                have hx := hget k g hgk
                have hxl : k < xs.length := by
                  rename_i hxlen
                  omega
                rw [List.getElem?_eq_getElem hxl] at hx
                have hop := ih m f g.type _ _ _ hx h2
                rw [h1] at hop
                have hle : off + P.cellsOf g.type ≤ P.cellsOf t := by
                  have := hop.1
                  rw [List.length_take, List.length_drop] at this
                  omega
                have hrest := ihg fs (off + P.cellsOf g.type) (k + 1) h3 (fun i g' hg => by
                  have := hgs (i + 1) g' (by simpa using hg)
                  rw [show k + 1 + i = k + (i + 1) by omega]
                  exact this) (by simp at hk; omega) hle
                have := Opened.cons hop hrest
                rw [show P.cellsOf g.type + (P.cellsOf t - (off + P.cellsOf g.type)) = P.cellsOf t - off by omega] at this
                have e : (cs.drop off).take (P.cellsOf g.type) ++ cs.drop (off + P.cellsOf g.type) = cs.drop off := by
                  rw [← List.drop_drop]
                  exact List.take_append_drop _ _
                rw [e] at this
                exact this
          have := key gs.toList fs 0 0 hf (fun i g hg => by simpa using hg) (by simp) (Nat.zero_le _)
          simpa using this
        · rename_i k e ht
          simp only [Bool.and_eq_true, List.all_eq_true] at hf
          obtain ⟨⟨h1, h2⟩, h3⟩ := hf
          have h1 := Nat.eq_of_beq_eq_true h1
          have h2 := Nat.eq_of_beq_eq_true h2
          obtain ⟨xs, n', hn, _, hcl, hxl, hget⟩ := DataW.trod_array ht h
          cases hn
          have key : ∀ (fs : List Ty) (i : Nat), (∀ f ∈ fs, tyFits P m e f (P.cellsOf e) = true) → i + fs.length = k → Opened w (.st fs) (fs.length * P.cellsOf e) (cs.drop (i * P.cellsOf e)) := by
            intro fs
            induction fs with
            | nil =>
              intro i _ hi
              have : i = k := by simpa using hi
              subst this
              rw [List.drop_eq_nil_of_le (by omega)]
              simpa using Opened.nil
            | cons f fs ihf =>
              intro i hall hi
              simp at hi
              have hx := hget i (by omega)
              rw [List.getElem?_eq_getElem (by omega)] at hx
              have hop := ih m f e _ _ _ hx (hall f (by simp))
              have hrest := ihf (i + 1) (fun f hf => hall f (by simp [hf])) (by omega)
              have := Opened.cons hop hrest
              rw [show P.cellsOf e + fs.length * P.cellsOf e = (f :: fs).length * P.cellsOf e by simp [Nat.add_mul]; omega] at this
              have e2 : (cs.drop (i * P.cellsOf e)).take (P.cellsOf e) ++ cs.drop ((i + 1) * P.cellsOf e) = cs.drop (i * P.cellsOf e) := by
                rw [Nat.add_mul, Nat.one_mul, ← List.drop_drop]
                exact List.take_append_drop _ _
              rw [e2] at this
              exact this
          have := key fs 0 h3 (by omega)
          rw [h1, ← h2] at this
          simpa using this
        · cases hf

/-- An argument, as a whole. -/
def HasV (T : Ty) (v : V) : Prop := ∃ n cs, v = wrap T cs ∧ Has T n cs

theorem open_val {n : Nat} {T : Ty} {t : TypeId} {sz base : Nat} {v : Value} {d : DataW H} {ps : List MemPlace} {spare : Nat → Bool} (h : DataW.Trod enc P w 0 spare true t v d ps) (hf : tyFits P n t T sz = true) (hok : Value.okWide P w .any base t v) :
    ∃ u, HasV T u ∧ ImgP (fun b => b < w.heap.size) w u v := by
  obtain ⟨k, hk⟩ := h
  obtain ⟨h1, h2, vs, h3, h4⟩ := open_ty spare k n T t sz _ _ hk hf
  refine ⟨wrap T vs, ⟨sz, vs, rfl, h3⟩, ?_⟩
  have single : ∀ {c : V} {y : Value}, T.isSt = false → vs = [c] → v = y → y.cells = #[y] → ImgP (fun b => b < w.heap.size) w (wrap T vs) v := by
    intro c y hT e1 e2 e3
    subst e2
    rw [e1]
    unfold wrap
    rw [hT]
    refine h4 0 c v (by rw [e1]; rfl) (by rw [e3]; rfl)
  cases n with
  | zero => exact absurd hf (by simp [tyFits])
  | succ n =>
    cases T with
    | int k =>
      simp only [tyFits, Bool.and_eq_true] at hf
      obtain ⟨z, rfl⟩ := okWide_int (isInt_spec hf.1) hok
      obtain ⟨c, e, _⟩ := h3.one rfl
      exact single rfl e rfl rfl
    | bool =>
      simp only [tyFits, Bool.and_eq_true] at hf
      obtain ⟨z, rfl⟩ := okWide_bool (isBool_spec hf.1) hok
      obtain ⟨c, e, _⟩ := h3.one rfl
      exact single rfl e rfl rfl
    | str =>
      simp only [tyFits, Bool.and_eq_true] at hf
      obtain ⟨z, rfl⟩ := okWide_string (isStr_spec hf.1) hok
      obtain ⟨c, e, _⟩ := h3.one rfl
      exact single rfl e rfl rfl
    | sl e =>
      simp only [tyFits, Bool.and_eq_true] at hf
      obtain ⟨_, hf⟩ := hf
      split at hf
      · rename_i u hu
        obtain ⟨a, l, c, rfl⟩ := okWide_slice hu hok
        obtain ⟨c, e, _⟩ := h3.one rfl
        exact single rfl e rfl rfl
      · cases hf
    | st fs =>
      have hagg : ∃ cs, v = .agg cs := by
        simp only [tyFits, Bool.and_eq_true] at hf
        obtain ⟨_, hf⟩ := hf
        split at hf
        · rename_i gs hu
          obtain ⟨cs, rfl, _⟩ := okWide_struct hu hok
          exact ⟨cs, rfl⟩
        · rename_i k e hu
          unfold Value.okWide at hok
          rw [hu] at hok
          obtain ⟨cs, rfl, _⟩ := hok
          exact ⟨cs, rfl⟩
        · cases hf
      obtain ⟨cs, rfl⟩ := hagg
      have hw : wrap (.st fs) vs = .agg vs := rfl
      rw [hw]
      have e : (Value.agg cs).cells.toList = cs.toList := rfl
      rw [e] at h1 h2 h4
      have := ImgP.agg (I := fun b => b < w.heap.size) (w := w) vs cs.toList (by rw [h3.len, h1]) h2 h4
      simpa using this

/-- All arguments. -/
inductive HasAll : List Ty → List V → Prop
  | nil : HasAll [] []
  | cons (T : Ty) (Ts : List Ty) (v : V) (vs : List V) (h : HasV T v) (hs : HasAll Ts vs) : HasAll (T :: Ts) (v :: vs)

def fitAll (P : Program) : List TypeId → List Ty → Bool
  | [], [] => true
  | t :: ts, T :: Ts => tyFits P 9 t T (P.cellsOf t) && fitAll P ts Ts
  | _, _ => false

theorem open_all {spare : Nat → Bool} {base : Nat} : ∀ {ts : List TypeId} {Ts : List Ty} {vs : List Value} {ds : List (DataW H)} {ps : List MemPlace}, DataW.TrodAll enc P w 0 spare true ts vs ds ps → fitAll P ts Ts = true → (∀ (j : Nat) t v, ts[j]? = some t → vs[j]? = some v → Value.okWide P w .any base t v) →
    ∃ us, HasAll Ts us ∧ us.length = vs.length ∧ ∀ (i : Nat) (c : V) (v : Value), us[i]? = some c → vs[i]? = some v → ImgP (fun b => b < w.heap.size) w c v
  | [], [], [], [], ps, h, _, _ => ⟨[], .nil, rfl, by simp⟩
  | t :: ts, T :: Ts, v :: vs, d :: ds, ps, ⟨p, q, h1, h2, _⟩, hf, hok => by
    simp only [fitAll, Bool.and_eq_true] at hf
    obtain ⟨u, k1, k2⟩ := open_val h1 hf.1 (hok 0 t v rfl rfl)
    obtain ⟨us, k3, k4, k5⟩ := open_all h2 hf.2 (fun j t v ht hv => hok (j + 1) t v ht hv)
    refine ⟨u :: us, .cons T Ts u us k1 k3, by simp [k4], fun i c x hc hx => ?_⟩
    cases i with
    | zero => simp at hc hx; subst hc hx; exact k2
    | succ i => exact k5 i c x (by simpa using hc) (by simpa using hx)
end
end Go.Am

/- From the abstract machine's answer 'true' to a law's statement. -/
namespace Go.Am
open Go Go.ChangeShapes Go.WideShapes Go.ChangeAt Go.RowKit

noncomputable def m0 : Mem := ⟨fun _ => none, 0⟩

section
variable {H : Type} {enc : TypeId × Value → H} {P : Program} {W W' : World}

theorem sameAt_of {p : MemPlace} (hlt : p.block < W.heap.size) (hb : ∀ b, b < W.heap.size → W'.heap[b]? = W.heap[b]?) : W.sameAt W' p := by
  cases p with
  | cell b off => exact World.cell?_of_block (a := ⟨b, off, none⟩) (hb b hlt)
  | map b => exact hb b hlt

theorem trodAll_carry {base : Nat} {sp : Nat → Bool} {held : Bool} : ∀ {ts : List TypeId} {vs : List Value} {ds : List (DataW H)} {ps : List MemPlace}, DataW.TrodAll enc P W base sp held ts vs ds ps → (∀ p ∈ ps, W.sameAt W' p) → DataW.TrodAll enc P W' base sp held ts vs ds ps
  | [], [], [], _, h, _ => h
  | _ :: _, _ :: _, _ :: _, _, ⟨p, q, ⟨n, h1⟩, h2, e⟩, hs => ⟨p, q, ⟨n, DataW.trod_carry n _ _ _ h1 (fun x hx => hs x (by rw [e]; exact List.mem_append_left _ hx))⟩, trodAll_carry h2 (fun x hx => hs x (by rw [e]; exact List.mem_append_right _ hx)), e⟩

theorem kept_post {f : Func} {s : ChangeSpec} {args : Array Value} {ds gs : List (DataW H)} {before : List MemPlace} {tb : TypeId} (hW : DataW.Whole enc P f.params.toList s.vars false W args.toList ds gs before) (hv : s.vars = [])
    (hs : s.fn H (ds ++ gs) = { results := [.lit (.bool true)], args := ds }) (hr : f.resultTypes = #[tb]) (htb : P.underlying tb = some .bool) (K : Kids P (· < P.types.size)) (full : ∀ t e, t < P.types.size → P.underlying t = some (.slice e) → 0 < P.cellsOf e)
    (hT : ∀ t ∈ f.params.toList, t < P.types.size) (hos : W'.os = W.os) (hout : W'.output = W.output) (hb : ∀ b, b < W.heap.size → W'.heap[b]? = W.heap[b]?) : s.post enc P f false true false false W args (.bool true) W' := by
  have hW' := hW
  obtain ⟨p, q, hA, hV, rfl, _, _⟩ := hW
  have hlt := hW'.lt
  rw [hv] at hV
  have hq : q = [] ∧ gs = [] := by
    obtain ⟨rfl, rfl⟩ := trodVars_none hV
    exact ⟨rfl, rfl⟩
  obtain ⟨rfl, rfl⟩ := hq
  rw [List.append_nil] at hlt
  have hA2 := DataW.TrodAll.respare (spare' := fun b => decide (b < W.heap.size)) K full hT hA (fun x hx => by simpa using hlt x hx)
  have hA3 := trodAll_carry (W' := W') hA2 (fun x hx => sameAt_of (hlt x hx) hb)
  refine ⟨ds, [], p ++ [], [], p, [], hW', ?_, ?_, ?_, ?_, fun h => by cases h⟩
  · rw [hs, hr]
    exact trodAll_cons_mk (shut_bool htb _) trodAll_mk0
  · rw [hs]
    exact hA3
  · rw [hv, hs]
    rfl
  · refine ⟨hos, hout, fun i hi => ?_⟩
    rw [hb i hi]
    cases hW : W.heap[i]? with
    | none => simp
    | some o => cases o <;> simp

/-- The walk of a law: the abstract machine says true. -/
theorem law_calls {F : Nat → Option Fn} {f : FuncId} {Ts : List Ty} {ts : List TypeId} (hm : P.follows .mixedOrders = true) (hF : ∀ g fn, F g = some fn → okFn P (pfOf F) fn (src g) = true) (hf : f < 1000) (hfit : fitAll P ts Ts = true)
    (hlaw : ∀ us, HasAll Ts us → ∃ m, callw F f us 0 m0 = some (.bool true, m)) {base : Nat} {args : Array Value} {ds : List (DataW H)} {ps : List MemPlace} (hA : DataW.TrodAll enc P W 0 (fun _ => true) true ts args.toList ds ps)
    (hval : ∀ (j : Nat) t v, ts[j]? = some t → args[j]? = some v → Value.okWide P W .any base t v) : Calls P f args W fun e W' => e = .returned (.bool true) ∧ W'.os = W.os ∧ W'.output = W.output ∧ ∀ b, b < W.heap.size → W'.heap[b]? = W.heap[b]? := by
  obtain ⟨us, h1, h2, h3⟩ := open_all hA hfit (fun j t v ht hv => hval j t v ht (by simpa using hv))
  obtain ⟨m, h4⟩ := hlaw us h1
  obtain ⟨k, h5⟩ := callw_iff.1 h4
  have := call_sound hm hF k f us 0 m0 (.bool true) m h5 ⟨fun _ => none, fun b => b < W.heap.size⟩ W args.toList ⟨(fun h b hb => by cases hb), (fun h h' b b' l l' _ hb => by cases hb), fun b hb => hb⟩ (fun h _ => ⟨rfl, rfl⟩) h2 (fun i c x hc hx => .pure (h3 i c x hc hx)) (Nat.zero_le _)
  have hsrc : src f = f := by unfold src; rw [if_pos hf]
  rw [hsrc] at this
  have e : args.toList.toArray = args := by simp
  rw [e] at this
  refine this.mono ?_
  rintro e W' ⟨x, g', rfl, hx, _, _, _, _, _, _, _, hk, _⟩
  refine ⟨by rw [hx.bool_inv], hk.os, hk.output, fun b hb => hk.block b hb ?_⟩
  rintro ⟨h, B, l, _, hB, _⟩
  cases hB
end
end Go.Am
