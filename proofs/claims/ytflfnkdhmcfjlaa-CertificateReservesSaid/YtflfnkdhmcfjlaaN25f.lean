/- A part of the proof: The law CertificateReserves holds: with the reserve that Enough returns no step with Deep from the pool may wait, and with a smaller one it may, unless the pool is ample; no conditions. -/
import Derived.Test.YtflfnkdhmcfjlaaN25e
import Derived.OpenShut
import Derived.ReadAgain
import Derived.WideShapes
import Derived.ProofKit
namespace Go.Am
open Go Go.WideShapes
inductive Ty where
 | int (k : IntKind)
 | bool
 | str
 | sl (e : Ty)
 | st (fs : List Ty)
def Ty.isSt : Ty → Bool
 | .st _ => true
 | _ => false
def wrap (e : Ty) (cs : List V) : V := if e.isSt then .agg cs else match cs with
 | [c] => c
 | _ => .und
inductive Has : Ty → Nat → List V → Prop
 | int (k : IntKind) (n : Int) (h : (Lit.int k n).wf = true) : Has (.int k) 1 [.int k n]
 | bool (b : Bool) : Has .bool 1 [.bool b]
 | str (s : List UInt8) (h : s.length ≤ maxLen) : Has .str 1 [.str s]
 | sl (e : Ty) (sz : Nat) (xs : List V) (hl : xs.length ≤ maxLen) (cs : Nat → List V) (hw : ∀ (i : Nat) (x : V), xs[i]? = some x → x = wrap e (cs i)) (h : ∀ (i : Nat) (x : V), xs[i]? = some x → Has e sz (cs i)) : Has (.sl e) 1 [.ro true sz xs]
 | st0 : Has (.st []) 0 []
 | st1 (f : Ty) (fs : List Ty) (n m : Nat) (a b : List V) (ha : Has f n a) (hb : Has (.st fs) m b) : Has (.st (f :: fs)) (n + m) (a ++ b)
theorem Has.len {T : Ty} {n : Nat} {vs : List V} (h : Has T n vs) : vs.length = n := by
 induction h with
 | st1 f fs n m a b _ _ ih1 ih2 => rw [List.length_append, ih1, ih2]
 | _ => rfl
theorem Has.one {T : Ty} {n : Nat} {vs : List V} (h : Has T n vs) (hT : T.isSt = false) : ∃ c, vs = [c] ∧ c.cells = [c] ∧ n = 1 := by
 cases h with
 | int k n => exact ⟨_, rfl, rfl, rfl⟩
 | bool b => exact ⟨_, rfl, rfl, rfl⟩
 | str s => exact ⟨_, rfl, rfl, rfl⟩
 | sl e sz xs => exact ⟨_, rfl, rfl, rfl⟩
 | st0 => cases hT
 | st1 => cases hT
theorem wrap_cells {T : Ty} {n : Nat} {vs : List V} (h : Has T n vs) : (wrap T vs).cells = vs := by
 unfold wrap
 cases hT : T.isSt with
 | true => rfl
 | false =>
  obtain ⟨c, rfl, h1, _⟩ := h.one hT
  exact h1
section
variable (P : Program)
def fitF (r : TypeId → Ty → Nat → Bool) : List Field → List Ty → Nat → Nat → Bool
 | [], [], off, sz => Nat.beq off sz
 | g :: gs, f :: fs, off, sz => Nat.beq g.offset off && r g.type f (P.cellsOf g.type) && fitF r gs fs (off + P.cellsOf g.type) sz
 | _, _, _, _ => false
def tyFits : Nat → TypeId → Ty → Nat → Bool
 | 0, _, _, _ => false
 | n + 1, t, T, sz => match T with
  | .int k => isInt P t k && Nat.beq sz 1
  | .bool => isBool P t && Nat.beq sz 1
  | .str => isStr P t && Nat.beq sz 1
  | .sl e => Nat.beq sz 1 && match P.underlying t with
   | some (.slice u) => Nat.blt 0 (P.cellsOf u) && tyFits n u e (P.cellsOf u)
   | _ => false
  | .st fs => Nat.beq sz (P.cellsOf t) && match P.underlying t with
   | some (.struct gs) => fitF P (tyFits n) gs.toList fs 0 sz
   | some (.array m e) => Nat.beq fs.length m && Nat.beq sz (m * P.cellsOf e) && fs.all fun f => tyFits n e f (P.cellsOf e)
   | _ => false
end
section
variable {H : Type} {enc : TypeId × Value → H} {P : Program} {w : World}
def Opened (w : World) (T : Ty) (sz : Nat) (cs : List Value) : Prop := cs.length = sz ∧ (∀ v ∈ cs, v.oneCell' = true) ∧ ∃ vs, Has T sz vs ∧ ∀ (i : Nat) (c : V) (v : Value), vs[i]? = some c → cs[i]? = some v → ImgP (fun b => b < w.heap.size) w c v
theorem Opened.nil : Opened w (.st []) 0 [] := ⟨rfl, by simp, [], .st0, by simp⟩
theorem Opened.cons {f : Ty} {fs : List Ty} {n m : Nat} {a b : List Value} (h1 : Opened w f n a) (h2 : Opened w (.st fs) m b) : Opened w (.st (f :: fs)) (n + m) (a ++ b) := by
 obtain ⟨l1, o1, vs, k1, r1⟩ := h1
 obtain ⟨l2, o2, us, k2, r2⟩ := h2
 refine ⟨by rw [List.length_append, l1, l2], fun v hv => (List.mem_append.1 hv).elim (o1 v) (o2 v), vs ++ us, .st1 f fs n m vs us k1 k2, fun i c v hc hv => ?_⟩
 have hl := k1.len
 rcases Nat.lt_or_ge i n with h | h
 ·rw [List.getElem?_append_left (by omega)] at hc hv
  exact r1 i c v hc hv
 ·rw [List.getElem?_append_right (by omega)] at hc hv
  rw [hl] at hc
  rw [l1] at hv
  exact r2 _ c v hc hv
theorem cells?_get {a : Addr} {n : Nat} {cs : List Value} (h : w.cells? 0 a n = some cs) : cs.length = n ∧ ∀ j, j < n → w.cell? (a.add j) = cs[j]? := by
 unfold World.cells? at h
 rw [if_pos (Nat.zero_le _)] at h
 have hl := mapM_some_length h
 rw [List.length_range] at hl
 exact ⟨hl, fun j hj => mapM_some_get h j j (by simp [hj])⟩
theorem lt_of_cell {a : Addr} {v : Value} (h : w.cell? a = some v) : a.block < w.heap.size ∧ a.spot = none := by
 unfold World.cell? at h
 split at h
 ·rename_i c T fr hb
  refine ⟨lt_of_heap hb, ?_⟩
  split at h
  ·cases h
  ·rename_i hs
   cases hsp : a.spot with
   | none => rfl
   | some x => rw [hsp] at hs; simp at hs
 ·cases h
theorem open_ty (spare : Nat → Bool) : ∀ (n m : Nat) (T : Ty) (t : TypeId) (sz : Nat) (cs : List Value) (x : DataW H × List MemPlace), DataW.trod enc P w 0 spare true n t cs = some x → tyFits P m t T sz = true → Opened w T sz cs := by
 intro n
 induction n with
 | zero => intro m T t sz cs x h; simp [DataW.trod] at h
 | succ n ih =>
  intro m T t sz cs x h hf
  cases m with
  | zero => exact absurd hf (by simp [tyFits])
  | succ m =>
   cases T with
   | int k =>
    simp only [tyFits, Bool.and_eq_true] at hf
    obtain ⟨ht, hs⟩ := hf
    have ht := isInt_spec ht
    have hs := Nat.eq_of_beq_eq_true hs
    subst hs
    obtain ⟨z, rfl, _, hz⟩ := DataW.trod_int ht h
    refine ⟨rfl, fun v hv => by simp at hv; subst hv; rfl, [.int k z], .int k z hz, fun i c v hc hv => ?_⟩
    cases i with
    | zero => simp at hc hv; subst hc hv; exact .int k z
    | succ i => simp at hc
   | bool =>
    simp only [tyFits, Bool.and_eq_true] at hf
    obtain ⟨ht, hs⟩ := hf
    have ht := isBool_spec ht
    have hs := Nat.eq_of_beq_eq_true hs
    subst hs
    obtain ⟨z, rfl, _⟩ := DataW.trod_bool ht h
    refine ⟨rfl, fun v hv => by simp at hv; subst hv; rfl, [.bool z], .bool z, fun i c v hc hv => ?_⟩
    cases i with
    | zero => simp at hc hv; subst hc hv; exact .bool z
    | succ i => simp at hc
   | str =>
    simp only [tyFits, Bool.and_eq_true] at hf
    obtain ⟨ht, hs⟩ := hf
    have ht := isStr_spec ht
    have hs := Nat.eq_of_beq_eq_true hs
    subst hs
    obtain ⟨z, rfl, _, hz⟩ := DataW.trod_string ht h
    refine ⟨rfl, fun v hv => by simp at hv; subst hv; rfl, [.str z.data.toList], .str _ (by simpa using hz), fun i c v hc hv => ?_⟩
    cases i with
    | zero => simp at hc hv; subst hc hv; exact .str z
    | succ i => simp at hc
   | sl e =>
    simp only [tyFits, Bool.and_eq_true] at hf
    obtain ⟨hs, hf⟩ := hf
    have hs := Nat.eq_of_beq_eq_true hs
    subst hs
    split at hf
    ·rename_i u ht
     simp only [Bool.and_eq_true, Nat.blt_eq] at hf
     obtain ⟨hpos, hf⟩ := hf
     have one : ∀ {y : Value}, y.oneCell' = true → ∀ {xs : List V} (_ : Has (.sl e) 1 [.ro true (P.cellsOf u) xs]) (_ : ImgP (fun b => b < w.heap.size) w (.ro true (P.cellsOf u) xs) y), Opened w (.sl e) 1 [y] := by
      intro y hy xs hh hi
      refine ⟨rfl, fun v hv => by simp at hv; subst hv; exact hy, _, hh, fun i c v hc hv => ?_⟩
      cases i with
      | zero => simp at hc hv; subst hc hv; exact hi
      | succ i => simp at hc
     rcases DataW.trod_slice ht h with ⟨rfl, _⟩ | ⟨a, len, cap, elems, rest, n', hn, rfl, _, _, hlc, hcap, hel, hget, _, _⟩
     ·exact one rfl (xs := []) (.sl e _ [] (by simp) (fun _ => []) (by simp) (by simp)) (.lst0 true 0 none 0)
     ·cases hn
      by_cases h0 : len = 0
      ·subst h0
       exact one rfl (xs := []) (.sl e _ [] (by simp) (fun _ => []) (by simp) (by simp)) (.lst0 true 0 (some a) cap)
      ·have hsp : a.spot = none ∧ a.block < w.heap.size := by
        have h1 := hget 0 (by omega)
        rw [List.getElem?_eq_getElem (by omega)] at h1
        simp only [Option.bind_eq_some_iff] at h1
        obtain ⟨cs, h1, _⟩ := h1
        have := (cells?_get h1).2 0 hpos
        rw [List.getElem?_eq_getElem (by rw [(cells?_get h1).1]; exact hpos)] at this
        have := lt_of_cell this
        simp [Addr.add] at this
        exact ⟨this.2, this.1⟩
       obtain ⟨b, o, spot⟩ := a
       obtain ⟨rfl, hlt⟩ := hsp
       have hadd : ∀ o k, Addr.add ⟨b, o, none⟩ k = ⟨b, o + k, none⟩ := fun o k => by
        unfold Addr.add
        split
        ·rename_i h; subst h; rfl
        ·rfl
       have elem : ∀ i, ∃ cs : List Value, i < len → w.cells? 0 ⟨b, o + i * P.cellsOf u, none⟩ (P.cellsOf u) = some cs ∧ Opened w e (P.cellsOf u) cs := by
        intro i
        by_cases hi : i < len
        ·have := hget i hi
         rw [List.getElem?_eq_getElem (by omega), hadd] at this
         simp only [Option.bind_eq_some_iff] at this
         obtain ⟨cs, h1, h2⟩ := this
         exact ⟨cs, fun _ => ⟨h1, ih m e u _ cs _ h2 hf⟩⟩
        ·exact ⟨[], fun h => absurd h hi⟩
       let csf : Nat → List Value := fun i => (elem i).choose
       have hcs : ∀ i, i < len → w.cells? 0 ⟨b, o + i * P.cellsOf u, none⟩ (P.cellsOf u) = some (csf i) ∧ Opened w e (P.cellsOf u) (csf i) := fun i hi => (elem i).choose_spec hi
       have hvs : ∀ i, ∃ vs : List V, i < len → Has e (P.cellsOf u) vs ∧ ∀ (j : Nat) (c : V) (v : Value), vs[j]? = some c → (csf i)[j]? = some v → ImgP (fun b => b < w.heap.size) w c v := by
        intro i
        by_cases hi : i < len
        ·obtain ⟨_, _, vs, h1, h2⟩ := (hcs i hi).2
         exact ⟨vs, fun _ => ⟨h1, h2⟩⟩
        ·exact ⟨[], fun h => absurd h hi⟩
       let vsf : Nat → List V := fun i => (hvs i).choose
       have hvf : ∀ i, i < len → Has e (P.cellsOf u) (vsf i) ∧ ∀ (j : Nat) (c : V) (v : Value), (vsf i)[j]? = some c → (csf i)[j]? = some v → ImgP (fun b => b < w.heap.size) w c v := fun i hi => (hvs i).choose_spec hi
       let xs : List V := (List.range len).map fun i => wrap e (vsf i)
       have hxl : xs.length = len := by simp [xs]
       have hxg : ∀ (i : Nat) (x : V), xs[i]? = some x → i < len ∧ x = wrap e (vsf i) := by
        intro i x hx
        simp only [xs, List.getElem?_map] at hx
        rcases Nat.lt_or_ge i len with hi | hi
        ·rw [List.getElem?_range hi] at hx
         simp at hx
         exact ⟨hi, hx.symm⟩
        ·rw [List.getElem?_eq_none (by simpa using hi)] at hx
         cases hx
       have hcell : ∀ (i j : Nat) (x c : V), xs[i]? = some x → x.cells[j]? = some c → ∃ v, w.cell? ⟨b, o + i * P.cellsOf u + j, none⟩ = some v ∧ v.oneCell' = true ∧ ImgP (fun b => b < w.heap.size) w c v := by
        intro i j x c hx hc
        obtain ⟨hi, rfl⟩ := hxg i x hx
        obtain ⟨h1, h2⟩ := hvf i hi
        rw [wrap_cells h1] at hc
        have hjl : j < P.cellsOf u := by
         have := h1.len
         rcases Nat.lt_or_ge j (vsf i).length with h | h
         ·omega
         ·rw [List.getElem?_eq_none h] at hc; cases hc
        obtain ⟨h3, h4, h5, _⟩ := hcs i hi
        obtain ⟨h6, h7⟩ := cells?_get h3
        have hv : (csf i)[j]? = some ((csf i)[j]'(by omega)) := List.getElem?_eq_getElem _
        have h8 := h7 j hjl
        rw [hv, hadd] at h8
        exact ⟨_, h8, h5 _ (List.getElem_mem _), h2 j c _ hc hv⟩
       have hsl : Value.slice (some ⟨b, o, none⟩) len cap = Value.slice (some ⟨b, o, none⟩) xs.length cap := by rw [hxl]
       rw [hsl]
       refine one rfl (xs := xs) (.sl e _ xs (by rw [hxl]; omega) vsf (fun i x hx => (hxg i x hx).2) (fun i x hx => (hvf i (hxg i x hx).1).1)) ?_
       refine ImgP.ro (.lst true _ xs b o cap (fun i j => (w.cell? ⟨b, o + i * P.cellsOf u + j, none⟩).getD undef) hlt (by omega) (fun x hx => ?_) (fun i j x c hx hc => ?_) (fun i j x c hx hc => ?_))
       ·obtain ⟨i, hi, rfl⟩ := List.getElem_of_mem hx
        obtain ⟨h1, h2⟩ := hxg i _ (List.getElem?_eq_getElem hi)
        rw [h2, wrap_cells (hvf i h1).1]
        exact (hvf i h1).1.len
       ·obtain ⟨v, h1, h2, _⟩ := hcell i j x c hx hc
        rw [h1]
        exact ⟨rfl, h2⟩
       ·obtain ⟨v, h1, _, h3⟩ := hcell i j x c hx hc
        simp only [h1, Option.getD_some]
        exact h3
    ·cases hf
   | st fs =>
    simp only [tyFits, Bool.and_eq_true] at hf
    obtain ⟨hs, hf⟩ := hf
    have hs := Nat.eq_of_beq_eq_true hs
    subst hs
    split at hf
    ·rename_i gs ht
     obtain ⟨xs, n', hn, _, hcl, _, hget⟩ := DataW.trod_struct ht h
     cases hn
     have key : ∀ (gl : List Field) (fs : List Ty) (off k : Nat), fitF P (tyFits P m) gl fs off (P.cellsOf t) = true → (∀ (i : Nat) (g : Field), gl[i]? = some g → gs[k + i]? = some g) → (k + gl.length = gs.size) → off ≤ P.cellsOf t → Opened w (.st fs) (P.cellsOf t - off) (cs.drop off) := by
      intro gl
      induction gl with
      | nil =>
       intro fs off k hgo _ _ hoff
       cases fs with
       | nil =>
        have := Nat.eq_of_beq_eq_true (show Nat.beq off (P.cellsOf t) = true from hgo)
        subst this
        rw [Nat.sub_self, List.drop_eq_nil_of_le (by omega)]
        exact Opened.nil
       | cons => cases hgo
      | cons g gl ihg =>
       intro fs off k hgo hgs hk hoff
       cases fs with
       | nil => cases hgo
       | cons f fs =>
        have hgo' : (Nat.beq g.offset off && tyFits P m g.type f (P.cellsOf g.type) && fitF P (tyFits P m) gl fs (off + P.cellsOf g.type) (P.cellsOf t)) = true := hgo
        simp only [Bool.and_eq_true] at hgo'
        obtain ⟨⟨h1, h2⟩, h3⟩ := hgo'
        have h1 := Nat.eq_of_beq_eq_true h1
        have hgk := hgs 0 g rfl
        rw [Nat.add_zero] at hgk
        have hklt : k < gs.size := by simp at hk; omega
        have hx := hget k g hgk
        have hxl : k < xs.length := by
         rename_i hxlen
         omega
        rw [List.getElem?_eq_getElem hxl] at hx
        have hop := ih m f g.type _ _ _ hx h2
        rw [h1] at hop
        have hle : off + P.cellsOf g.type ≤ P.cellsOf t := by
         have := hop.1
         rw [List.length_take, List.length_drop] at this
         omega
        have hrest := ihg fs (off + P.cellsOf g.type) (k + 1) h3 (fun i g' hg => by
         have := hgs (i + 1) g' (by simpa using hg)
         rw [show k + 1 + i = k + (i + 1) by omega]
         exact this) (by simp at hk; omega) hle
        have := Opened.cons hop hrest
        rw [show P.cellsOf g.type + (P.cellsOf t - (off + P.cellsOf g.type)) = P.cellsOf t - off by omega] at this
        have e : (cs.drop off).take (P.cellsOf g.type) ++ cs.drop (off + P.cellsOf g.type) = cs.drop off := by
         rw [← List.drop_drop]
         exact List.take_append_drop _ _
        rw [e] at this
        exact this
     have := key gs.toList fs 0 0 hf (fun i g hg => by simpa using hg) (by simp) (Nat.zero_le _)
     simpa using this
    ·rename_i k e ht
     simp only [Bool.and_eq_true, List.all_eq_true] at hf
     obtain ⟨⟨h1, h2⟩, h3⟩ := hf
     have h1 := Nat.eq_of_beq_eq_true h1
     have h2 := Nat.eq_of_beq_eq_true h2
     obtain ⟨xs, n', hn, _, hcl, hxl, hget⟩ := DataW.trod_array ht h
     cases hn
     have key : ∀ (fs : List Ty) (i : Nat), (∀ f ∈ fs, tyFits P m e f (P.cellsOf e) = true) → i + fs.length = k → Opened w (.st fs) (fs.length * P.cellsOf e) (cs.drop (i * P.cellsOf e)) := by
      intro fs
      induction fs with
      | nil =>
       intro i _ hi
       have : i = k := by simpa using hi
       subst this
       rw [List.drop_eq_nil_of_le (by omega)]
       simpa using Opened.nil
      | cons f fs ihf =>
       intro i hall hi
       simp at hi
       have hx := hget i (by omega)
       rw [List.getElem?_eq_getElem (by omega)] at hx
       have hop := ih m f e _ _ _ hx (hall f (by simp))
       have hrest := ihf (i + 1) (fun f hf => hall f (by simp [hf])) (by omega)
       have := Opened.cons hop hrest
       rw [show P.cellsOf e + fs.length * P.cellsOf e = (f :: fs).length * P.cellsOf e by simp [Nat.add_mul]; omega] at this
       have e2 : (cs.drop (i * P.cellsOf e)).take (P.cellsOf e) ++ cs.drop ((i + 1) * P.cellsOf e) = cs.drop (i * P.cellsOf e) := by
        rw [Nat.add_mul, Nat.one_mul, ← List.drop_drop]
        exact List.take_append_drop _ _
       rw [e2] at this
       exact this
     have := key fs 0 h3 (by omega)
     rw [h1, ← h2] at this
     simpa using this
    ·cases hf
def HasV (T : Ty) (v : V) : Prop := ∃ n cs, v = wrap T cs ∧ Has T n cs
theorem open_val {n : Nat} {T : Ty} {t : TypeId} {sz base : Nat} {v : Value} {d : DataW H} {ps : List MemPlace} {spare : Nat → Bool} (h : DataW.Trod enc P w 0 spare true t v d ps) (hf : tyFits P n t T sz = true) (hok : Value.okWide P w .any base t v) :
  ∃ u, HasV T u ∧ ImgP (fun b => b < w.heap.size) w u v := by
 obtain ⟨k, hk⟩ := h
 obtain ⟨h1, h2, vs, h3, h4⟩ := open_ty spare k n T t sz _ _ hk hf
 refine ⟨wrap T vs, ⟨sz, vs, rfl, h3⟩, ?_⟩
 have single : ∀ {c : V} {y : Value}, T.isSt = false → vs = [c] → v = y → y.cells = #[y] → ImgP (fun b => b < w.heap.size) w (wrap T vs) v := by
  intro c y hT e1 e2 e3
  subst e2
  rw [e1]
  unfold wrap
  rw [hT]
  refine h4 0 c v (by rw [e1]; rfl) (by rw [e3]; rfl)
 cases n with
 | zero => exact absurd hf (by simp [tyFits])
 | succ n =>
  cases T with
  | int k =>
   simp only [tyFits, Bool.and_eq_true] at hf
   obtain ⟨z, rfl⟩ := okWide_int (isInt_spec hf.1) hok
   obtain ⟨c, e, _⟩ := h3.one rfl
   exact single rfl e rfl rfl
  | bool =>
   simp only [tyFits, Bool.and_eq_true] at hf
   obtain ⟨z, rfl⟩ := okWide_bool (isBool_spec hf.1) hok
   obtain ⟨c, e, _⟩ := h3.one rfl
   exact single rfl e rfl rfl
  | str =>
   simp only [tyFits, Bool.and_eq_true] at hf
   obtain ⟨z, rfl⟩ := okWide_string (isStr_spec hf.1) hok
   obtain ⟨c, e, _⟩ := h3.one rfl
   exact single rfl e rfl rfl
  | sl e =>
   simp only [tyFits, Bool.and_eq_true] at hf
   obtain ⟨_, hf⟩ := hf
   split at hf
   ·rename_i u hu
    obtain ⟨a, l, c, rfl⟩ := okWide_slice hu hok
    obtain ⟨c, e, _⟩ := h3.one rfl
    exact single rfl e rfl rfl
   ·cases hf
  | st fs =>
   have hagg : ∃ cs, v = .agg cs := by
    simp only [tyFits, Bool.and_eq_true] at hf
    obtain ⟨_, hf⟩ := hf
    split at hf
    ·rename_i gs hu
     obtain ⟨cs, rfl, _⟩ := okWide_struct hu hok
     exact ⟨cs, rfl⟩
    ·rename_i k e hu
     unfold Value.okWide at hok
     rw [hu] at hok
     obtain ⟨cs, rfl, _⟩ := hok
     exact ⟨cs, rfl⟩
    ·cases hf
   obtain ⟨cs, rfl⟩ := hagg
   have hw : wrap (.st fs) vs = .agg vs := rfl
   rw [hw]
   have e : (Value.agg cs).cells.toList = cs.toList := rfl
   rw [e] at h1 h2 h4
   have := ImgP.agg (I := fun b => b < w.heap.size) (w := w) vs cs.toList (by rw [h3.len, h1]) h2 h4
   simpa using this
inductive HasAll : List Ty → List V → Prop
 | nil : HasAll [] []
 | cons (T : Ty) (Ts : List Ty) (v : V) (vs : List V) (h : HasV T v) (hs : HasAll Ts vs) : HasAll (T :: Ts) (v :: vs)
def fitAll (P : Program) : List TypeId → List Ty → Bool
 | [], [] => true
 | t :: ts, T :: Ts => tyFits P 9 t T (P.cellsOf t) && fitAll P ts Ts
 | _, _ => false
theorem open_all {spare : Nat → Bool} {base : Nat} : ∀ {ts : List TypeId} {Ts : List Ty} {vs : List Value} {ds : List (DataW H)} {ps : List MemPlace}, DataW.TrodAll enc P w 0 spare true ts vs ds ps → fitAll P ts Ts = true → (∀ (j : Nat) t v, ts[j]? = some t → vs[j]? = some v → Value.okWide P w .any base t v) →
  ∃ us, HasAll Ts us ∧ us.length = vs.length ∧ ∀ (i : Nat) (c : V) (v : Value), us[i]? = some c → vs[i]? = some v → ImgP (fun b => b < w.heap.size) w c v
 | [], [], [], [], ps, h, _, _ => ⟨[], .nil, rfl, by simp⟩
 | t :: ts, T :: Ts, v :: vs, d :: ds, ps, ⟨p, q, h1, h2, _⟩, hf, hok => by
  simp only [fitAll, Bool.and_eq_true] at hf
  obtain ⟨u, k1, k2⟩ := open_val h1 hf.1 (hok 0 t v rfl rfl)
  obtain ⟨us, k3, k4, k5⟩ := open_all h2 hf.2 (fun j t v ht hv => hok (j + 1) t v ht hv)
  refine ⟨u :: us, .cons T Ts u us k1 k3, by simp [k4], fun i c x hc hx => ?_⟩
  cases i with
  | zero => simp at hc hx; subst hc hx; exact k2
  | succ i => exact k5 i c x (by simpa using hc) (by simpa using hx)
end
end Go.Am
namespace Go.Am
open Go Go.ChangeShapes Go.WideShapes Go.ChangeAt Go.RowKit
noncomputable def m0 : Mem := ⟨fun _ => none, 0⟩
section
variable {H : Type} {enc : TypeId × Value → H} {P : Program} {W W' : World}
theorem sameAt_of {p : MemPlace} (hlt : p.block < W.heap.size) (hb : ∀ b, b < W.heap.size → W'.heap[b]? = W.heap[b]?) : W.sameAt W' p := by
 cases p with
 | cell b off => exact World.cell?_of_block (a := ⟨b, off, none⟩) (hb b hlt)
 | map b => exact hb b hlt
theorem trodAll_carry {base : Nat} {sp : Nat → Bool} {held : Bool} : ∀ {ts : List TypeId} {vs : List Value} {ds : List (DataW H)} {ps : List MemPlace}, DataW.TrodAll enc P W base sp held ts vs ds ps → (∀ p ∈ ps, W.sameAt W' p) → DataW.TrodAll enc P W' base sp held ts vs ds ps
 | [], [], [], _, h, _ => h
 | _ :: _, _ :: _, _ :: _, _, ⟨p, q, ⟨n, h1⟩, h2, e⟩, hs => ⟨p, q, ⟨n, DataW.trod_carry n _ _ _ h1 (fun x hx => hs x (by rw [e]; exact List.mem_append_left _ hx))⟩, trodAll_carry h2 (fun x hx => hs x (by rw [e]; exact List.mem_append_right _ hx)), e⟩
theorem kept_post {f : Func} {s : ChangeSpec} {args : Array Value} {ds gs : List (DataW H)} {before : List MemPlace} {tb : TypeId} (hW : DataW.Whole enc P f.params.toList s.vars false W args.toList ds gs before) (hv : s.vars = [])
  (hs : s.fn H (ds ++ gs) = { results := [.lit (.bool true)], args := ds }) (hr : f.resultTypes = #[tb]) (htb : P.underlying tb = some .bool) (K : Kids P (· < P.types.size)) (full : ∀ t e, t < P.types.size → P.underlying t = some (.slice e) → 0 < P.cellsOf e)
  (hT : ∀ t ∈ f.params.toList, t < P.types.size) (hos : W'.os = W.os) (hout : W'.output = W.output) (hb : ∀ b, b < W.heap.size → W'.heap[b]? = W.heap[b]?) : s.post enc P f false true false false W args (.bool true) W' := by
 have hW' := hW
 obtain ⟨p, q, hA, hV, rfl, _, _⟩ := hW
 have hlt := hW'.lt
 rw [hv] at hV
 have hq : q = [] ∧ gs = [] := by
  obtain ⟨rfl, rfl⟩ := trodVars_none hV
  exact ⟨rfl, rfl⟩
 obtain ⟨rfl, rfl⟩ := hq
 rw [List.append_nil] at hlt
 have hA2 := DataW.TrodAll.respare (spare' := fun b => decide (b < W.heap.size)) K full hT hA (fun x hx => by simpa using hlt x hx)
 have hA3 := trodAll_carry (W' := W') hA2 (fun x hx => sameAt_of (hlt x hx) hb)
 refine ⟨ds, [], p ++ [], [], p, [], hW', ?_, ?_, ?_, ?_, fun h => by cases h⟩
 ·rw [hs, hr]
  exact trodAll_cons_mk (shut_bool htb _) trodAll_mk0
 ·rw [hs]
  exact hA3
 ·rw [hv, hs]
  rfl
 ·refine ⟨hos, hout, fun i hi => ?_⟩
  rw [hb i hi]
  cases hW : W.heap[i]? with
  | none => simp
  | some o => cases o <;> simp
theorem law_calls {F : Nat → Option Fn} {f : FuncId} {Ts : List Ty} {ts : List TypeId} (hm : P.follows .mixedOrders = true) (hF : ∀ g fn, F g = some fn → okFn P (pfOf F) fn (src g) = true) (hf : f < 1000) (hfit : fitAll P ts Ts = true)
  (hlaw : ∀ us, HasAll Ts us → ∃ m, callw F f us 0 m0 = some (.bool true, m)) {base : Nat} {args : Array Value} {ds : List (DataW H)} {ps : List MemPlace} (hA : DataW.TrodAll enc P W 0 (fun _ => true) true ts args.toList ds ps)
  (hval : ∀ (j : Nat) t v, ts[j]? = some t → args[j]? = some v → Value.okWide P W .any base t v) : Calls P f args W fun e W' => e = .returned (.bool true) ∧ W'.os = W.os ∧ W'.output = W.output ∧ ∀ b, b < W.heap.size → W'.heap[b]? = W.heap[b]? := by
 obtain ⟨us, h1, h2, h3⟩ := open_all hA hfit (fun j t v ht hv => hval j t v ht (by simpa using hv))
 obtain ⟨m, h4⟩ := hlaw us h1
 obtain ⟨k, h5⟩ := callw_iff.1 h4
 have := call_sound hm hF k f us 0 m0 (.bool true) m h5 ⟨fun _ => none, fun b => b < W.heap.size⟩ W args.toList ⟨(fun h b hb => by cases hb), (fun h h' b b' l l' _ hb => by cases hb), fun b hb => hb⟩ (fun h _ => ⟨rfl, rfl⟩) h2 (fun i c x hc hx => .pure (h3 i c x hc hx)) (Nat.zero_le _)
 have hsrc : src f = f := by unfold src; rw [if_pos hf]
 rw [hsrc] at this
 have e : args.toList.toArray = args := by simp
 rw [e] at this
 refine this.mono ?_
 rintro e W' ⟨x, g', rfl, hx, _, _, _, _, _, _, _, hk, _⟩
 refine ⟨by rw [hx.bool_inv], hk.os, hk.output, fun b hb => hk.block b hb ?_⟩
 rintro ⟨h, B, l, _, hB, _⟩
 cases hB
end
end Go.Am
namespace Go.Am
open Go
theorem call_lo {F : Nat → Option Fn} {f : Nat} {fn : Fn} (hF : F f = some fn) (hp : fn.pure = true) {args : List V} {m : Mem} {lo lo' k : Nat} : call F k f args lo m = call F k f args lo' m := by
 cases k with
 | zero => rfl
 | succ k => simp only [call_succ', hF, hp, if_true]
theorem aw43k : call F43 400 79 [] 0 m0 = some (.bool true, m0) := by kernel_rfl
theorem aw43 {lo : Nat} : callw F43 79 [] lo m0 = some (.bool true, m0) := callw_iff.2 ⟨400, by rw [call_lo (F := F43) (fn := c79) rfl rfl (lo' := 0)]; exact aw43k⟩
end Go.Am
namespace Go.Am
open Go
noncomputable abbrev vi (n : Int) : V := .int .i64 n
noncomputable def ints (l : List Int) : V := .ro true 1 (l.map vi)
noncomputable def bools (l : List Bool) : V := .ro true 1 (l.map .bool)
noncomputable def strs (l : List (List UInt8)) : V := .ro true 1 (l.map .str)
structure Pool where
 name : List UInt8
 size : Int
 res : Int
structure Stp where
 kind : Int
 on : Int
 cnt : Int
 deep : Bool
structure Cls where
 name : List UInt8
 wk : Int
 srv : Bool
 steps : List Stp
structure Sys where
 pools : List Pool
 locks : List (List UInt8)
 cls : List Cls
noncomputable def vPool (p : Pool) : V := .agg [.str p.name, vi p.size, vi p.res]
noncomputable def vStp (s : Stp) : V := .agg [vi s.kind, vi s.on, vi s.cnt, .bool s.deep]
noncomputable def vStps (l : List Stp) : V := .ro true 4 (l.map vStp)
noncomputable def vCls (c : Cls) : V := .agg [.str c.name, vi c.wk, .bool c.srv, vStps c.steps]
noncomputable def vPools (l : List Pool) : V := .ro true 3 (l.map vPool)
noncomputable def vClss (l : List Cls) : V := .ro true 4 (l.map vCls)
noncomputable def vSys (s : Sys) : V := .agg [vPools s.pools, strs s.locks, vClss s.cls]
theorem ia_ints {l : List Int} {k : IntKind} {x : Int} : retV (.ia 1) [ints l, .int k x] = if 0 ≤ x then (l[x.toNat]?).map fun e => .imm (vi e) 0 else none := by
 unfold ints
 rw [r_iaro, ml_get]
 cases l[x.toNat]? <;> rfl
theorem len_ints {l : List Int} : retV (.len false) [ints l] = some (.int .i64 (l.length : Int)) := by
 unfold ints
 rw [r_lenro, ml_len]
theorem lof_ints {l : List Int} : lenOf (ints l) = some l.length := by
 unfold ints
 rw [lenro, ml_len]
theorem ce_ints {l : List Int} : V.cells (ints l) = [ints l] := rfl
theorem on_ints {l : List Int} : V.ones (ints l) = true := rfl
theorem o1_ints {l : List Int} : V.one (ints l) = true := rfl
theorem fz_ints {lo n : Nat} {m : Mem} {l : List Int} : freeze lo m (n + 1) (ints l) = some (ints l) := rfl
theorem vw_ints {m : Mem} {l : List Int} : view m (ints l) = some (nz 1 (l.map vi), l.map vi) := rfl
theorem sl_ints {l : List Int} {a b : Nat} : slOf 1 (ints l) a b = if a ≤ b ∧ b ≤ l.length then some (ints ((l.drop a).take (b - a))) else none := by
 unfold ints
 rw [sl_ro, ml_len]
 by_cases h : a ≤ b ∧ b ≤ l.length
 ·rw [if_pos h, if_pos h, List.map_take, List.map_drop]
 ·rw [if_neg h, if_neg h]
theorem scn_ints {l : List Int} : setC 0 1 (ints l) .nil = some (ints l) := rfl
theorem sco_ints {l k : List Int} : setC 0 1 (ints l) (ints k) = some (ints l) := rfl
theorem ia_bools {l : List Bool} {k : IntKind} {x : Int} : retV (.ia 1) [bools l, .int k x] = if 0 ≤ x then (l[x.toNat]?).map fun e => .imm (V.bool e) 0 else none := by
 unfold bools
 rw [r_iaro, ml_get]
 cases l[x.toNat]? <;> rfl
theorem len_bools {l : List Bool} : retV (.len false) [bools l] = some (.int .i64 (l.length : Int)) := by
 unfold bools
 rw [r_lenro, ml_len]
theorem lof_bools {l : List Bool} : lenOf (bools l) = some l.length := by
 unfold bools
 rw [lenro, ml_len]
theorem ce_bools {l : List Bool} : V.cells (bools l) = [bools l] := rfl
theorem on_bools {l : List Bool} : V.ones (bools l) = true := rfl
theorem o1_bools {l : List Bool} : V.one (bools l) = true := rfl
theorem fz_bools {lo n : Nat} {m : Mem} {l : List Bool} : freeze lo m (n + 1) (bools l) = some (bools l) := rfl
theorem vw_bools {m : Mem} {l : List Bool} : view m (bools l) = some (nz 1 (l.map V.bool), l.map V.bool) := rfl
theorem sl_bools {l : List Bool} {a b : Nat} : slOf 1 (bools l) a b = if a ≤ b ∧ b ≤ l.length then some (bools ((l.drop a).take (b - a))) else none := by
 unfold bools
 rw [sl_ro, ml_len]
 by_cases h : a ≤ b ∧ b ≤ l.length
 ·rw [if_pos h, if_pos h, List.map_take, List.map_drop]
 ·rw [if_neg h, if_neg h]
theorem scn_bools {l : List Bool} : setC 0 1 (bools l) .nil = some (bools l) := rfl
theorem sco_bools {l k : List Bool} : setC 0 1 (bools l) (bools k) = some (bools l) := rfl
theorem ia_strs {l : List (List UInt8)} {k : IntKind} {x : Int} : retV (.ia 1) [strs l, .int k x] = if 0 ≤ x then (l[x.toNat]?).map fun e => .imm (V.str e) 0 else none := by
 unfold strs
 rw [r_iaro, ml_get]
 cases l[x.toNat]? <;> rfl
theorem len_strs {l : List (List UInt8)} : retV (.len false) [strs l] = some (.int .i64 (l.length : Int)) := by
 unfold strs
 rw [r_lenro, ml_len]
theorem lof_strs {l : List (List UInt8)} : lenOf (strs l) = some l.length := by
 unfold strs
 rw [lenro, ml_len]
theorem ce_strs {l : List (List UInt8)} : V.cells (strs l) = [strs l] := rfl
theorem on_strs {l : List (List UInt8)} : V.ones (strs l) = true := rfl
theorem o1_strs {l : List (List UInt8)} : V.one (strs l) = true := rfl
theorem fz_strs {lo n : Nat} {m : Mem} {l : List (List UInt8)} : freeze lo m (n + 1) (strs l) = some (strs l) := rfl
theorem vw_strs {m : Mem} {l : List (List UInt8)} : view m (strs l) = some (nz 1 (l.map V.str), l.map V.str) := rfl
theorem sl_strs {l : List (List UInt8)} {a b : Nat} : slOf 1 (strs l) a b = if a ≤ b ∧ b ≤ l.length then some (strs ((l.drop a).take (b - a))) else none := by
 unfold strs
 rw [sl_ro, ml_len]
 by_cases h : a ≤ b ∧ b ≤ l.length
 ·rw [if_pos h, if_pos h, List.map_take, List.map_drop]
 ·rw [if_neg h, if_neg h]
theorem scn_strs {l : List (List UInt8)} : setC 0 1 (strs l) .nil = some (strs l) := rfl
theorem sco_strs {l k : List (List UInt8)} : setC 0 1 (strs l) (strs k) = some (strs l) := rfl
theorem app_strs {l : List (List UInt8)} : nz 1 (l.map V.str) = 1 ∨ (l.map V.str).length = 0 := by cases l <;> simp [nz]
theorem ia_vPools {l : List Pool} {k : IntKind} {x : Int} : retV (.ia 3) [vPools l, .int k x] = if 0 ≤ x then (l[x.toNat]?).map fun e => .imm (vPool e) 0 else none := by
 unfold vPools
 rw [r_iaro, ml_get]
 cases l[x.toNat]? <;> rfl
theorem len_vPools {l : List Pool} : retV (.len false) [vPools l] = some (.int .i64 (l.length : Int)) := by
 unfold vPools
 rw [r_lenro, ml_len]
theorem lof_vPools {l : List Pool} : lenOf (vPools l) = some l.length := by
 unfold vPools
 rw [lenro, ml_len]
theorem ce_vPools {l : List Pool} : V.cells (vPools l) = [vPools l] := rfl
theorem on_vPools {l : List Pool} : V.ones (vPools l) = true := rfl
theorem o1_vPools {l : List Pool} : V.one (vPools l) = true := rfl
theorem fz_vPools {lo n : Nat} {m : Mem} {l : List Pool} : freeze lo m (n + 1) (vPools l) = some (vPools l) := rfl
theorem vw_vPools {m : Mem} {l : List Pool} : view m (vPools l) = some (nz 3 (l.map vPool), l.map vPool) := rfl
theorem sl_vPools {l : List Pool} {a b : Nat} : slOf 3 (vPools l) a b = if a ≤ b ∧ b ≤ l.length then some (vPools ((l.drop a).take (b - a))) else none := by
 unfold vPools
 rw [sl_ro, ml_len]
 by_cases h : a ≤ b ∧ b ≤ l.length
 ·rw [if_pos h, if_pos h, List.map_take, List.map_drop]
 ·rw [if_neg h, if_neg h]
theorem scn_vPools {l : List Pool} : setC 0 1 (vPools l) .nil = some (vPools l) := rfl
theorem sco_vPools {l k : List Pool} : setC 0 1 (vPools l) (vPools k) = some (vPools l) := rfl
theorem app_vPools {l : List Pool} : nz 3 (l.map vPool) = 3 ∨ (l.map vPool).length = 0 := by cases l <;> simp [nz]
theorem ia_vStps {l : List Stp} {k : IntKind} {x : Int} : retV (.ia 4) [vStps l, .int k x] = if 0 ≤ x then (l[x.toNat]?).map fun e => .imm (vStp e) 0 else none := by
 unfold vStps
 rw [r_iaro, ml_get]
 cases l[x.toNat]? <;> rfl
theorem len_vStps {l : List Stp} : retV (.len false) [vStps l] = some (.int .i64 (l.length : Int)) := by
 unfold vStps
 rw [r_lenro, ml_len]
theorem lof_vStps {l : List Stp} : lenOf (vStps l) = some l.length := by
 unfold vStps
 rw [lenro, ml_len]
theorem ce_vStps {l : List Stp} : V.cells (vStps l) = [vStps l] := rfl
theorem on_vStps {l : List Stp} : V.ones (vStps l) = true := rfl
theorem o1_vStps {l : List Stp} : V.one (vStps l) = true := rfl
theorem fz_vStps {lo n : Nat} {m : Mem} {l : List Stp} : freeze lo m (n + 1) (vStps l) = some (vStps l) := rfl
theorem vw_vStps {m : Mem} {l : List Stp} : view m (vStps l) = some (nz 4 (l.map vStp), l.map vStp) := rfl
theorem sl_vStps {l : List Stp} {a b : Nat} : slOf 4 (vStps l) a b = if a ≤ b ∧ b ≤ l.length then some (vStps ((l.drop a).take (b - a))) else none := by
 unfold vStps
 rw [sl_ro, ml_len]
 by_cases h : a ≤ b ∧ b ≤ l.length
 ·rw [if_pos h, if_pos h, List.map_take, List.map_drop]
 ·rw [if_neg h, if_neg h]
theorem scn_vStps {l : List Stp} : setC 0 1 (vStps l) .nil = some (vStps l) := rfl
theorem sco_vStps {l k : List Stp} : setC 0 1 (vStps l) (vStps k) = some (vStps l) := rfl
theorem app_vStps {l : List Stp} : nz 4 (l.map vStp) = 4 ∨ (l.map vStp).length = 0 := by cases l <;> simp [nz]
theorem ia_vClss {l : List Cls} {k : IntKind} {x : Int} : retV (.ia 4) [vClss l, .int k x] = if 0 ≤ x then (l[x.toNat]?).map fun e => .imm (vCls e) 0 else none := by
 unfold vClss
 rw [r_iaro, ml_get]
 cases l[x.toNat]? <;> rfl
theorem len_vClss {l : List Cls} : retV (.len false) [vClss l] = some (.int .i64 (l.length : Int)) := by
 unfold vClss
 rw [r_lenro, ml_len]
theorem lof_vClss {l : List Cls} : lenOf (vClss l) = some l.length := by
 unfold vClss
 rw [lenro, ml_len]
theorem ce_vClss {l : List Cls} : V.cells (vClss l) = [vClss l] := rfl
theorem on_vClss {l : List Cls} : V.ones (vClss l) = true := rfl
theorem o1_vClss {l : List Cls} : V.one (vClss l) = true := rfl
theorem fz_vClss {lo n : Nat} {m : Mem} {l : List Cls} : freeze lo m (n + 1) (vClss l) = some (vClss l) := rfl
theorem vw_vClss {m : Mem} {l : List Cls} : view m (vClss l) = some (nz 4 (l.map vCls), l.map vCls) := rfl
theorem sl_vClss {l : List Cls} {a b : Nat} : slOf 4 (vClss l) a b = if a ≤ b ∧ b ≤ l.length then some (vClss ((l.drop a).take (b - a))) else none := by
 unfold vClss
 rw [sl_ro, ml_len]
 by_cases h : a ≤ b ∧ b ≤ l.length
 ·rw [if_pos h, if_pos h, List.map_take, List.map_drop]
 ·rw [if_neg h, if_neg h]
theorem scn_vClss {l : List Cls} : setC 0 1 (vClss l) .nil = some (vClss l) := rfl
theorem sco_vClss {l k : List Cls} : setC 0 1 (vClss l) (vClss k) = some (vClss l) := rfl
theorem ces_vPool {s : Pool} : V.cells (vPool s) = [V.str s.name, .int .i64 s.size, .int .i64 s.res] := rfl
theorem ons_vPool {s : Pool} : V.ones (vPool s) = true := rfl
theorem fo_vPool {s : Pool} : V.agg [V.str s.name, .int .i64 s.size, .int .i64 s.res] = vPool s := rfl
theorem fzs_vPool {lo n : Nat} {m : Mem} {s : Pool} : freeze lo m (n + 2) (vPool s) = some (vPool s) := rfl
theorem ces_vStp {s : Stp} : V.cells (vStp s) = [.int .i64 s.kind, .int .i64 s.on, .int .i64 s.cnt, .bool s.deep] := rfl
theorem ons_vStp {s : Stp} : V.ones (vStp s) = true := rfl
theorem fo_vStp {s : Stp} : V.agg [.int .i64 s.kind, .int .i64 s.on, .int .i64 s.cnt, .bool s.deep] = vStp s := rfl
theorem fzs_vStp {lo n : Nat} {m : Mem} {s : Stp} : freeze lo m (n + 2) (vStp s) = some (vStp s) := rfl
theorem ces_vCls {s : Cls} : V.cells (vCls s) = [.str s.name, .int .i64 s.wk, .bool s.srv, vStps s.steps] := rfl
theorem ons_vCls {s : Cls} : V.ones (vCls s) = true := rfl
theorem fo_vCls {s : Cls} : V.agg [.str s.name, .int .i64 s.wk, .bool s.srv, vStps s.steps] = vCls s := rfl
theorem fzs_vCls {lo n : Nat} {m : Mem} {s : Cls} : freeze lo m (n + 2) (vCls s) = some (vCls s) := rfl
theorem ces_vSys {s : Sys} : V.cells (vSys s) = [vPools s.pools, strs s.locks, vClss s.cls] := rfl
theorem ons_vSys {s : Sys} : V.ones (vSys s) = true := rfl
theorem fo_vSys {s : Sys} : V.agg [vPools s.pools, strs s.locks, vClss s.cls] = vSys s := rfl
theorem fzs_vSys {lo n : Nat} {m : Mem} {s : Sys} : freeze lo m (n + 2) (vSys s) = some (vSys s) := rfl
set_option linter.defProp false
def se := And.intro @ia_ints (And.intro @len_ints (And.intro @lof_ints (And.intro @ce_ints (And.intro @on_ints (And.intro @o1_ints (And.intro @fz_ints (And.intro @vw_ints (And.intro @sl_ints (And.intro @scn_ints (And.intro @sco_ints (And.intro @ia_bools (And.intro @len_bools (And.intro @lof_bools (And.intro @ce_bools (And.intro @on_bools (And.intro @o1_bools (And.intro @fz_bools (And.intro @vw_bools (And.intro @sl_bools (And.intro @scn_bools (And.intro @sco_bools (And.intro @ia_strs (And.intro @len_strs (And.intro @lof_strs (And.intro @ce_strs (And.intro @on_strs (And.intro @o1_strs (And.intro @fz_strs (And.intro @vw_strs (And.intro @sl_strs (And.intro @scn_strs (And.intro @sco_strs (And.intro @ia_vPools (And.intro @len_vPools (And.intro @lof_vPools (And.intro @ce_vPools (And.intro @on_vPools (And.intro @o1_vPools (And.intro @fz_vPools (And.intro @vw_vPools (And.intro @sl_vPools (And.intro @scn_vPools (And.intro @sco_vPools (And.intro @ia_vStps (And.intro @len_vStps (And.intro @lof_vStps (And.intro @ce_vStps (And.intro @on_vStps (And.intro @o1_vStps (And.intro @fz_vStps (And.intro @vw_vStps (And.intro @sl_vStps (And.intro @scn_vStps (And.intro @sco_vStps (And.intro @ia_vClss (And.intro @len_vClss (And.intro @lof_vClss (And.intro @ce_vClss (And.intro @on_vClss (And.intro @o1_vClss (And.intro @fz_vClss (And.intro @vw_vClss (And.intro @sl_vClss (And.intro @scn_vClss (And.intro @sco_vClss (And.intro @ces_vPool (And.intro @ons_vPool (And.intro @fo_vPool (And.intro @fzs_vPool (And.intro @ces_vStp (And.intro @ons_vStp (And.intro @fo_vStp (And.intro @fzs_vStp (And.intro @ces_vCls (And.intro @ons_vCls (And.intro @fo_vCls (And.intro @fzs_vCls (And.intro @ces_vSys (And.intro @ons_vSys (And.intro @fo_vSys (@fzs_vSys)))))))))))))))))))))))))))))))))))))))))))))))))))))))))))))))))))))))))))))))))
theorem drop_cons {α : Type} {l : List α} {i : Nat} {x : α} {t : List α} (h : l.drop i = x :: t) : l[i]? = some x ∧ l.drop (i + 1) = t ∧ i < l.length := by
 have hl : i < l.length := by
  rcases Nat.lt_or_ge i l.length with h' | h'
  ·exact h'
  ·rw [List.drop_eq_nil_of_le h'] at h; cases h
 rw [List.drop_eq_getElem_cons hl] at h
 cases h
 exact ⟨List.getElem?_eq_getElem hl, rfl, hl⟩
theorem drop_nil {α : Type} {l : List α} {i : Nat} (h : l.drop i = []) : l.length ≤ i := List.drop_eq_nil_iff.1 h
def idxP {α : Type} (p : α → Bool) : List α → Nat → Int
 | [], _ => -1
 | x :: xs, i => if p x then (i : Int) else idxP p xs (i + 1)
theorem idxP_ge {α : Type} {p : α → Bool} : ∀ {l : List α} {i : Nat}, (0 ≤ idxP p l i) = (l.any p = true)
 | [], i => by simp [idxP]
 | x :: xs, i => by
  cases h : p x <;> simp [idxP, h, idxP_ge (l := xs)]
end Go.Am
namespace Go.Am
open Go
set_option linter.unusedSimpArgs false
set_option linter.unusedVariables false
def Sl (m : Mem) (sz : Nat) (v : V) (xs : List V) : Prop := (∃ p, v = .ro p sz xs) ∨ ∃ h o es, v = .row sz h o xs.length ∧ m.blk h = some (.row sz es) ∧ o + xs.length ≤ es.length ∧ (es.drop o).take xs.length = xs
theorem Sl.len {m : Mem} {sz : Nat} {v : V} {xs : List V} (h : Sl m sz v xs) : retV (.len false) [v] = some (.int .i64 (xs.length : Int)) := by
 rcases h with ⟨p, rfl⟩ | ⟨h, o, es, rfl, _⟩
 ·rfl
 ·rfl
theorem Sl.at {m : Mem} {sz : Nat} {v x : V} {xs : List V} (h : Sl m sz v xs) {i : Nat} (hi : xs[i]? = some x) : ∃ ad, retV (.ia sz) [v, .int .i64 (i : Int)] = some ad ∧ ∀ bx agg n, ldV bx m agg n ad = getC agg 0 n x := by
 have hlt : i < xs.length := by
  rcases Nat.lt_or_ge i xs.length with h | h
  ·exact h
  ·rw [List.getElem?_eq_none h] at hi; cases hi
 rcases h with ⟨p, rfl⟩ | ⟨h, o, es, rfl, hb, ho, he⟩
 ·refine ⟨.imm x 0, ?_, fun bx agg n => rfl⟩
  rw [r_iaro]
  simp [hi]
 ·refine ⟨.ptr h (o + i) 0, ?_, fun bx agg n => ?_⟩
  ·rw [r_iar]
   simp only [Int.natCast_nonneg, true_and, and_true, Int.toNat_natCast]
   rw [if_pos (by omega)]
  ·rw [ld_ptr hb]
   have : es[o + i]? = some x := by
    rw [← he, List.getElem?_take, if_pos hlt, List.getElem?_drop] at hi
    exact hi
   rw [this]
theorem Sl.ints {m : Mem} {l : List Int} : Sl m 1 (Go.Am.ints l) (l.map vi) := .inl ⟨true, rfl⟩
theorem Sl.bools {m : Mem} {l : List Bool} : Sl m 1 (Go.Am.bools l) (l.map .bool) := .inl ⟨true, rfl⟩
theorem Sl.strs {m : Mem} {l : List (List UInt8)} : Sl m 1 (Go.Am.strs l) (l.map .str) := .inl ⟨true, rfl⟩
theorem Sl.row {m : Mem} {sz h : Nat} {xs : List V} (hb : m.blk h = some (.row sz xs)) : Sl m sz (.row sz h 0 xs.length) xs := .inr ⟨h, 0, xs, rfl, hb, by simp, by simp⟩
theorem Sl.bump {m : Mem} {sz n : Nat} {v : V} {xs : List V} (h : Sl m sz v xs) : Sl (m.bump n) sz v xs := h
theorem sx153 {F : Nat → Option Fn} (hA : HasA F) {lo : Nat} {m : Mem} {v : V} (l : List (List UInt8)) (s : (List UInt8)) (hv : Sl m 1 v (l.map V.str)) (hs : l.length < 1000000) : callw F 153 [v, V.str s] lo m = some (vi (idxP (fun x => decide (s = x)) l 0), m) := by
 have hlen := hv.len
 rw [List.length_map] at hlen
 have loop : ∀ (t : List (List UInt8)) (i : Nat) (Q : Ex → St → Prop), l.drop i = t → (∀ j, idxP (fun x => decide (s = x)) t i = j → j ≠ -1 → Q .ret ⟨[(4, vi j)], [], [], m⟩) →
   (idxP (fun x => decide (s = x)) t i = -1 → ∀ i e, Q (.exit 0) ⟨[(0, v), (1, V.str s), (7, vi l.length), (8, vi i), (9, e)], [], [], m⟩) →
   W F m.next L153_1 ⟨[(0, v), (1, V.str s), (7, vi l.length), (8, vi i)], [], [], m⟩ Q := by
  intro t
  induction t with
  | nil =>
   intro i Q hd h1 h2
   have hlt := drop_nil hd
   rw [W_L (c := L153_1) rfl]
   have : ¬ ((i : Nat) : Int) < (l.length : Int) := by omega
   simp only [↓sxc, sx, se, ↓reduceIte, Nat.reduceEqDiff, Nat.reduceAdd, Nat.reduceLT, Nat.reduceLeDiff, Nat.reduceSub, Nat.reduceMul, Int.reduceToNat, Int.reduceLT, Int.reduceLE, Int.reduceEq, ml_i0, this]
   exact h2 rfl i _
  | cons x t ih =>
   intro i Q hd h1 h2
   obtain ⟨hg, hd', hlt⟩ := drop_cons hd
   rw [W_L (c := L153_1) rfl]
   have : ((i : Nat) : Int) < (l.length : Int) := by omega
   obtain ⟨ad, a1, a2⟩ := hv.at (i := i) (x := V.str x) (by rw [List.getElem?_map, hg]; rfl)
   by_cases hx : s = x
   ·have e : idxP (fun x => decide (s = x)) (x :: t) i = (i : Int) := by simp [idxP, hx]
    simp only [↓sxc, sx, se, ↓reduceIte, Nat.reduceEqDiff, Nat.reduceAdd, Nat.reduceLT, Nat.reduceLeDiff, Nat.reduceSub, Nat.reduceMul, Int.reduceToNat, Int.reduceLT, Int.reduceLE, Int.reduceEq, ml_i0, this, a1, a2, hx]
    exact h1 i e (by omega)
   ·have e : idxP (fun x => decide (s = x)) (x :: t) i = idxP (fun x => decide (s = x)) t (i + 1) := by simp [idxP, hx]
    rw [e] at h1 h2
    simp only [↓sxc, sx, se, ↓reduceIte, Nat.reduceEqDiff, Nat.reduceAdd, Nat.reduceLT, Nat.reduceLeDiff, Nat.reduceSub, Nat.reduceMul, Int.reduceToNat, Int.reduceLT, Int.reduceLE, Int.reduceEq, ml_i0, this, a1, a2, hx]
    rw [wr_i64 (by omega) (by omega)]
    exact ih (i + 1) Q hd' h1 h2
 refine call_p hA.h153 rfl ?_
 simp only [↓sxc, sx, se, ↓reduceIte, Nat.reduceEqDiff, Nat.reduceAdd, Nat.reduceLT, Nat.reduceLeDiff, Nat.reduceSub, Nat.reduceMul, Int.reduceToNat, Int.reduceLT, Int.reduceLE, Int.reduceEq, ml_i0, hlen]
 refine loop l 0 _ rfl (fun j hj hne => ?_) (fun hn i e => ?_)
 ·simp only [↓sxc, sx, se, ↓reduceIte, Nat.reduceEqDiff, Nat.reduceAdd, Nat.reduceLT, Nat.reduceLeDiff, Nat.reduceSub, Nat.reduceMul, Int.reduceToNat, Int.reduceLT, Int.reduceLE, Int.reduceEq, ml_i0, hj]
 ·simp only [↓sxc, sx, se, ↓reduceIte, Nat.reduceEqDiff, Nat.reduceAdd, Nat.reduceLT, Nat.reduceLeDiff, Nat.reduceSub, Nat.reduceMul, Int.reduceToNat, Int.reduceLT, Int.reduceLE, Int.reduceEq, ml_i0, hn]
theorem sx116 {F : Nat → Option Fn} (hA : HasA F) {lo : Nat} {m : Mem} {v : V} (l : List Bool) (s : Bool) (hv : Sl m 1 v (l.map V.bool)) (hs : l.length < 1000000) : callw F 116 [v, V.bool s] lo m = some (vi (idxP (fun x => decide (s = x)) l 0), m) := by
 have hlen := hv.len
 rw [List.length_map] at hlen
 have loop : ∀ (t : List Bool) (i : Nat) (Q : Ex → St → Prop), l.drop i = t → (∀ j, idxP (fun x => decide (s = x)) t i = j → j ≠ -1 → Q .ret ⟨[(4, vi j)], [], [], m⟩) →
   (idxP (fun x => decide (s = x)) t i = -1 → ∀ i e, Q (.exit 0) ⟨[(0, v), (1, V.bool s), (7, vi l.length), (8, vi i), (9, e)], [], [], m⟩) →
   W F m.next L116_1 ⟨[(0, v), (1, V.bool s), (7, vi l.length), (8, vi i)], [], [], m⟩ Q := by
  intro t
  induction t with
  | nil =>
   intro i Q hd h1 h2
   have hlt := drop_nil hd
   rw [W_L (c := L116_1) rfl]
   have : ¬ ((i : Nat) : Int) < (l.length : Int) := by omega
   simp only [↓sxc, sx, se, ↓reduceIte, Nat.reduceEqDiff, Nat.reduceAdd, Nat.reduceLT, Nat.reduceLeDiff, Nat.reduceSub, Nat.reduceMul, Int.reduceToNat, Int.reduceLT, Int.reduceLE, Int.reduceEq, ml_i0, this]
   exact h2 rfl i _
  | cons x t ih =>
   intro i Q hd h1 h2
   obtain ⟨hg, hd', hlt⟩ := drop_cons hd
   rw [W_L (c := L116_1) rfl]
   have : ((i : Nat) : Int) < (l.length : Int) := by omega
   obtain ⟨ad, a1, a2⟩ := hv.at (i := i) (x := V.bool x) (by rw [List.getElem?_map, hg]; rfl)
   by_cases hx : s = x
   ·have e : idxP (fun x => decide (s = x)) (x :: t) i = (i : Int) := by simp [idxP, hx]
    simp only [↓sxc, sx, se, ↓reduceIte, Nat.reduceEqDiff, Nat.reduceAdd, Nat.reduceLT, Nat.reduceLeDiff, Nat.reduceSub, Nat.reduceMul, Int.reduceToNat, Int.reduceLT, Int.reduceLE, Int.reduceEq, ml_i0, this, a1, a2, hx]
    exact h1 i e (by omega)
   ·have e : idxP (fun x => decide (s = x)) (x :: t) i = idxP (fun x => decide (s = x)) t (i + 1) := by simp [idxP, hx]
    rw [e] at h1 h2
    simp only [↓sxc, sx, se, ↓reduceIte, Nat.reduceEqDiff, Nat.reduceAdd, Nat.reduceLT, Nat.reduceLeDiff, Nat.reduceSub, Nat.reduceMul, Int.reduceToNat, Int.reduceLT, Int.reduceLE, Int.reduceEq, ml_i0, this, a1, a2, hx]
    rw [wr_i64 (by omega) (by omega)]
    exact ih (i + 1) Q hd' h1 h2
 refine call_p hA.h116 rfl ?_
 simp only [↓sxc, sx, se, ↓reduceIte, Nat.reduceEqDiff, Nat.reduceAdd, Nat.reduceLT, Nat.reduceLeDiff, Nat.reduceSub, Nat.reduceMul, Int.reduceToNat, Int.reduceLT, Int.reduceLE, Int.reduceEq, ml_i0, hlen]
 refine loop l 0 _ rfl (fun j hj hne => ?_) (fun hn i e => ?_)
 ·simp only [↓sxc, sx, se, ↓reduceIte, Nat.reduceEqDiff, Nat.reduceAdd, Nat.reduceLT, Nat.reduceLeDiff, Nat.reduceSub, Nat.reduceMul, Int.reduceToNat, Int.reduceLT, Int.reduceLE, Int.reduceEq, ml_i0, hj]
 ·simp only [↓sxc, sx, se, ↓reduceIte, Nat.reduceEqDiff, Nat.reduceAdd, Nat.reduceLT, Nat.reduceLeDiff, Nat.reduceSub, Nat.reduceMul, Int.reduceToNat, Int.reduceLT, Int.reduceLE, Int.reduceEq, ml_i0, hn]
theorem sx113 {F : Nat → Option Fn} (hA : HasA F) {lo : Nat} {m : Mem} {v : V} (l : List (List UInt8)) (s : (List UInt8)) (hv : Sl m 1 v (l.map V.str)) (hs : l.length < 1000000) : callw F 113 [v, V.str s] lo m = some (.bool (l.any fun x => decide (s = x)), m) := by
 refine call_p hA.h113 rfl ?_
 have e : decide (0 ≤ idxP (fun x => decide (s = x)) l 0) = l.any fun x => decide (s = x) := by
  rw [Bool.eq_iff_iff, decide_eq_true_iff, idxP_ge]
 simp only [↓sxc, sx, se, ↓reduceIte, Nat.reduceEqDiff, Nat.reduceAdd, Nat.reduceLT, Nat.reduceLeDiff, Nat.reduceSub, Nat.reduceMul, Int.reduceToNat, Int.reduceLT, Int.reduceLE, Int.reduceEq, ml_i0, sx153 hA l s hv hs, e]
theorem sx154 {F : Nat → Option Fn} (hA : HasA F) {lo : Nat} {m : Mem} {v : V} (l : List Bool) (s : Bool) (hv : Sl m 1 v (l.map V.bool)) (hs : l.length < 1000000) : callw F 154 [v, V.bool s] lo m = some (.bool (l.any fun x => decide (s = x)), m) := by
 refine call_p hA.h154 rfl ?_
 have e : decide (0 ≤ idxP (fun x => decide (s = x)) l 0) = l.any fun x => decide (s = x) := by
  rw [Bool.eq_iff_iff, decide_eq_true_iff, idxP_ge]
 simp only [↓sxc, sx, se, ↓reduceIte, Nat.reduceEqDiff, Nat.reduceAdd, Nat.reduceLT, Nat.reduceLeDiff, Nat.reduceSub, Nat.reduceMul, Int.reduceToNat, Int.reduceLT, Int.reduceLE, Int.reduceEq, ml_i0, sx116 hA l s hv hs, e]
def IsPred (F : Nat → Option Fn) (f : Nat) (cs : List V) (p : Int → Bool) (l : List Int) : Prop := f < 1000 ∧ ∀ x ∈ l, ∀ lo m, callw F f (vi x :: cs) lo m = some (.bool (p x), m)
theorem sx106 {F : Nat → Option Fn} (hA : HasA F) {lo : Nat} {m : Mem} {v : V} (l : List Int) {f : Nat} {cs : List V} {p : Int → Bool} (hv : Sl m 1 v (l.map vi)) (hp : IsPred F f cs p l) (hs : l.length < 1000000) : callw F 106 [v, .fn f cs] lo m = some (vi (idxP p l 0), m) := by
 have hlen := hv.len
 rw [List.length_map] at hlen
 have loop : ∀ (t : List Int) (i : Nat) (Q : Ex → St → Prop), l.drop i = t → (∀ j, idxP p t i = j → j ≠ -1 → Q .ret ⟨[(4, vi j)], [], [], m⟩) →
   (idxP p t i = -1 → ∀ i e, Q (.exit 0) ⟨[(0, v), (1, .fn f cs), (7, vi l.length), (8, vi i), (9, e)], [], [], m⟩) →
   W F m.next L106_1 ⟨[(0, v), (1, .fn f cs), (7, vi l.length), (8, vi i)], [], [], m⟩ Q := by
  intro t
  induction t with
  | nil =>
   intro i Q hd h1 h2
   have hlt := drop_nil hd
   rw [W_L (c := L106_1) rfl]
   have : ¬ ((i : Nat) : Int) < (l.length : Int) := by omega
   simp only [↓sxc, sx, se, ↓reduceIte, Nat.reduceEqDiff, Nat.reduceAdd, Nat.reduceLT, Nat.reduceLeDiff, Nat.reduceSub, Nat.reduceMul, Int.reduceToNat, Int.reduceLT, Int.reduceLE, Int.reduceEq, ml_i0, this]
   exact h2 rfl i _
  | cons x t ih =>
   intro i Q hd h1 h2
   obtain ⟨hg, hd', hlt⟩ := drop_cons hd
   rw [W_L (c := L106_1) rfl]
   have : ((i : Nat) : Int) < (l.length : Int) := by omega
   obtain ⟨ad, a1, a2⟩ := hv.at (i := i) (x := vi x) (by rw [List.getElem?_map, hg]; rfl)
   have hc := hp.2 x (List.mem_of_getElem? hg) m.next m
   simp only [↓sxc, sx, se, ↓reduceIte, Nat.reduceEqDiff, Nat.reduceAdd, Nat.reduceLT, Nat.reduceLeDiff, Nat.reduceSub, Nat.reduceMul, Int.reduceToNat, Int.reduceLT, Int.reduceLE, Int.reduceEq, ml_i0, this, a1, a2, hp.1, List.cons_append, List.nil_append, hc]
   cases hx : p x with
   | true =>
    have e : idxP p (x :: t) i = (i : Int) := by simp [idxP, hx]
    simp only [↓sxc, sx, se, ↓reduceIte, Nat.reduceEqDiff, Nat.reduceAdd, Nat.reduceLT, Nat.reduceLeDiff, Nat.reduceSub, Nat.reduceMul, Int.reduceToNat, Int.reduceLT, Int.reduceLE, Int.reduceEq, ml_i0]
    exact h1 i e (by omega)
   | false =>
    have e : idxP p (x :: t) i = idxP p t (i + 1) := by simp [idxP, hx]
    rw [e] at h1 h2
    simp only [↓sxc, sx, se, ↓reduceIte, Nat.reduceEqDiff, Nat.reduceAdd, Nat.reduceLT, Nat.reduceLeDiff, Nat.reduceSub, Nat.reduceMul, Int.reduceToNat, Int.reduceLT, Int.reduceLE, Int.reduceEq, ml_i0]
    rw [wr_i64 (by omega) (by omega)]
    exact ih (i + 1) Q hd' h1 h2
 refine call_p hA.h106 rfl ?_
 simp only [↓sxc, sx, se, ↓reduceIte, Nat.reduceEqDiff, Nat.reduceAdd, Nat.reduceLT, Nat.reduceLeDiff, Nat.reduceSub, Nat.reduceMul, Int.reduceToNat, Int.reduceLT, Int.reduceLE, Int.reduceEq, ml_i0, hlen]
 refine loop l 0 _ rfl (fun j hj hne => ?_) (fun hn i e => ?_)
 ·simp only [↓sxc, sx, se, ↓reduceIte, Nat.reduceEqDiff, Nat.reduceAdd, Nat.reduceLT, Nat.reduceLeDiff, Nat.reduceSub, Nat.reduceMul, Int.reduceToNat, Int.reduceLT, Int.reduceLE, Int.reduceEq, ml_i0, hj]
 ·simp only [↓sxc, sx, se, ↓reduceIte, Nat.reduceEqDiff, Nat.reduceAdd, Nat.reduceLT, Nat.reduceLeDiff, Nat.reduceSub, Nat.reduceMul, Int.reduceToNat, Int.reduceLT, Int.reduceLE, Int.reduceEq, ml_i0, hn]
theorem sx120 {F : Nat → Option Fn} (hA : HasA F) {lo : Nat} {m : Mem} {v : V} (l : List Int) {f : Nat} {cs : List V} {p : Int → Bool} (hv : Sl m 1 v (l.map vi)) (hp : IsPred F f cs p l) (hs : l.length < 1000000) : callw F 120 [v, .fn f cs] lo m = some (.bool (l.any p), m) := by
 refine call_p hA.h120 rfl ?_
 have e : decide (0 ≤ idxP p l 0) = l.any p := by
  rw [Bool.eq_iff_iff, decide_eq_true_iff, idxP_ge]
 simp only [↓sxc, sx, se, ↓reduceIte, Nat.reduceEqDiff, Nat.reduceAdd, Nat.reduceLT, Nat.reduceLeDiff, Nat.reduceSub, Nat.reduceMul, Int.reduceToNat, Int.reduceLT, Int.reduceLE, Int.reduceEq, ml_i0, sx106 hA l hv hp hs, e]
theorem sp155 {F : Nat → Option Fn} (hA : HasA F) {lo : Nat} {m : Mem} (x : Int) : callw F 155 [vi x] lo m = some (.bool (decide (0 < x)), m) := by
 refine call_p hA.h155 rfl ?_
 simp only [↓sxc, sx, se, ↓reduceIte, Nat.reduceEqDiff, Nat.reduceAdd, Nat.reduceLT, Nat.reduceLeDiff, Nat.reduceSub, Nat.reduceMul, Int.reduceToNat, Int.reduceLT, Int.reduceLE, Int.reduceEq, ml_i0]
def lowC (c : UInt8) : Bool := decide (97 ≤ c.toNat) && decide (c.toNat ≤ 122)
def digC (c : UInt8) : Bool := decide (48 ≤ c.toNat) && decide (c.toNat ≤ 57)
def isNm (s : List UInt8) : Bool := decide (1 ≤ s.length) && decide (s.length ≤ 8) && (match s with | [] => false | c :: _ => lowC c) && s.all fun c => lowC c || digC c
theorem lowC_eq {c : UInt8} : lowC c = (!(decide ((c.toNat : Int) < 97)) && !(decide (122 < (c.toNat : Int)))) := by
 unfold lowC
 rw [Bool.eq_iff_iff]
 simp only [Bool.and_eq_true, decide_eq_true_eq, Bool.not_eq_true', decide_eq_false_iff_not]
 omega
theorem digC_eq {c : UInt8} : digC c = (!(decide ((c.toNat : Int) < 48)) && !(decide (57 < (c.toNat : Int)))) := by
 unfold digC
 rw [Bool.eq_iff_iff]
 simp only [Bool.and_eq_true, decide_eq_true_eq, Bool.not_eq_true', decide_eq_false_iff_not]
 omega
theorem sp112 {F : Nat → Option Fn} (hA : HasA F) {lo : Nat} {m : Mem} (s : List UInt8) : callw F 112 [.str s] lo m = some (.bool (isNm s), m) := by
 have loop : s.length < 100 → ∀ (t : List UInt8) (i : Nat) (Q : Ex → St → Prop), s.drop i = t → (t.all (fun c => lowC c || digC c) = false → Q .ret ⟨[(2, .bool false)], [], [], m⟩) →
   (t.all (fun c => lowC c || digC c) = true → ∀ i v, Q (.exit 0) ⟨[(0, .str s), (23, vi s.length), (24, vi i), (25, v)], [], [], m⟩) →
   W F m.next L112_1 ⟨[(0, .str s), (23, vi s.length), (24, vi i)], [], [], m⟩ Q := by
  intro hs t
  induction t with
  | nil =>
   intro i Q hd h1 h2
   have hlt := drop_nil hd
   rw [W_L (c := L112_1) rfl]
   have : ¬ ((i : Nat) : Int) < (s.length : Int) := by omega
   simp only [↓sxc, sx, se, ↓reduceIte, Nat.reduceEqDiff, Nat.reduceAdd, Nat.reduceLT, Nat.reduceLeDiff, Nat.reduceSub, Nat.reduceMul, Int.reduceToNat, Int.reduceLT, Int.reduceLE, Int.reduceEq, ml_i0, this]
   exact h2 rfl i _
  | cons x t ih =>
   intro i Q hd h1 h2
   obtain ⟨hg, hd', hlt⟩ := drop_cons hd
   rw [W_L (c := L112_1) rfl]
   have : ((i : Nat) : Int) < (s.length : Int) := by omega
   rw [List.all_cons, lowC_eq, digC_eq] at h1 h2
   have ih' := ih (i + 1) Q hd'
   have wr : wrapF .i64 ((i : Int) + 1) = ((i + 1 : Nat) : Int) := by rw [wr_i64 (by omega) (by omega)]; rfl
   by_cases c1 : (x.toNat : Int) < 97 <;> by_cases c2 : 122 < (x.toNat : Int) <;> by_cases c3 : (x.toNat : Int) < 48 <;> by_cases c4 : 57 < (x.toNat : Int) <;>
    simp only [c1, c2, c3, c4, decide_true, decide_false, Bool.not_true, Bool.not_false, Bool.and_true, Bool.and_false, Bool.or_true, Bool.or_false, Bool.true_and, Bool.false_and, Bool.false_eq_true, false_implies, true_implies] at h1 h2 <;>
    simp only [↓sxc, sx, se, ↓reduceIte, Nat.reduceEqDiff, Nat.reduceAdd, Nat.reduceLT, Nat.reduceLeDiff, Nat.reduceSub, Nat.reduceMul, Int.reduceToNat, Int.reduceLT, Int.reduceLE, Int.reduceEq, ml_i0, this, hg, c1, c2, c3, c4, wr] <;> first
     | exact h1
     | exact ih' h1 h2
 refine call_p hA.h112 rfl ?_
 rcases s with _ | ⟨c, t⟩
 ·simp only [↓sxc, sx, se, ↓reduceIte, Nat.reduceEqDiff, Nat.reduceAdd, Nat.reduceLT, Nat.reduceLeDiff, Nat.reduceSub, Nat.reduceMul, Int.reduceToNat, Int.reduceLT, Int.reduceLE, Int.reduceEq, ml_i0]
  rfl
 ·have h1 : ¬ ((t.length + 1 : Nat) : Int) < 1 := by omega
  by_cases h8 : 8 < ((t.length + 1 : Nat) : Int)
  ·have e : isNm (c :: t) = false := by
    have : ¬ t.length + 1 ≤ 8 := by omega
    simp [isNm, this]
   simp only [↓sxc, sx, se, ↓reduceIte, Nat.reduceEqDiff, Nat.reduceAdd, Nat.reduceLT, Nat.reduceLeDiff, Nat.reduceSub, Nat.reduceMul, Int.reduceToNat, Int.reduceLT, Int.reduceLE, Int.reduceEq, ml_i0, h1, h8, e]
  ·have e : isNm (c :: t) = (lowC c && (c :: t).all fun c => lowC c || digC c) := by
    have : t.length + 1 ≤ 8 := by omega
    simp [isNm, this]
   rw [e, lowC_eq]
   by_cases c1 : (c.toNat : Int) < 97
   ·simp only [↓sxc, sx, se, ↓reduceIte, Nat.reduceEqDiff, Nat.reduceAdd, Nat.reduceLT, Nat.reduceLeDiff, Nat.reduceSub, Nat.reduceMul, Int.reduceToNat, Int.reduceLT, Int.reduceLE, Int.reduceEq, ml_i0, h1, h8, c1]
   ·by_cases c2 : 122 < (c.toNat : Int)
    ·simp only [↓sxc, sx, se, ↓reduceIte, Nat.reduceEqDiff, Nat.reduceAdd, Nat.reduceLT, Nat.reduceLeDiff, Nat.reduceSub, Nat.reduceMul, Int.reduceToNat, Int.reduceLT, Int.reduceLE, Int.reduceEq, ml_i0, h1, h8, c1, c2]
    ·simp only [↓sxc, sx, se, ↓reduceIte, Nat.reduceEqDiff, Nat.reduceAdd, Nat.reduceLT, Nat.reduceLeDiff, Nat.reduceSub, Nat.reduceMul, Int.reduceToNat, Int.reduceLT, Int.reduceLE, Int.reduceEq, ml_i0, h1, h8, c1, c2]
     refine loop (by simp; omega) (c :: t) 0 _ rfl (fun h => ?_) (fun h i v => ?_)
     ·simp only [↓sxc, sx, se, ↓reduceIte, Nat.reduceEqDiff, Nat.reduceAdd, Nat.reduceLT, Nat.reduceLeDiff, Nat.reduceSub, Nat.reduceMul, Int.reduceToNat, Int.reduceLT, Int.reduceLE, Int.reduceEq, ml_i0, h]
     ·simp only [↓sxc, sx, se, ↓reduceIte, Nat.reduceEqDiff, Nat.reduceAdd, Nat.reduceLT, Nat.reduceLeDiff, Nat.reduceSub, Nat.reduceMul, Int.reduceToNat, Int.reduceLT, Int.reduceLE, Int.reduceEq, ml_i0, h]
def namesOf (s : Sys) : List (List UInt8) := s.pools.map Pool.name ++ s.locks ++ s.cls.map Cls.name
end Go.Am
namespace Go.Am
open Go
set_option linter.unusedSimpArgs false
set_option linter.unusedVariables false
theorem sp111 {F : Nat → Option Fn} (hA : HasA F) {lo : Nat} {m : Mem} (s : Sys) (h1 : s.pools.length < 100) (h2 : s.locks.length < 100) (h3 : s.cls.length < 100) : callw F 111 [vSys s] lo m = some (strs (namesOf s), m) := by
 have loop1 : ∀ (t : List Pool) (i : Nat) (v : V) (xs : List (List UInt8)) (m' : Mem) (Q : Ex → St → Prop), s.pools.drop i = t → xs.length + t.length < 1000 → m.next ≤ m'.next → Rw m.next m' 1 v (xs.map .str) →
   (∀ v m' e, m.next ≤ m'.next → Rw m.next m' 1 v ((xs ++ t.map Pool.name).map .str) → Q (.exit 0) ⟨(3, v) :: e, [(1, vSys s)], [], m'⟩) →
   W F m.next L111_1 ⟨[(3, v), (9, vPools s.pools), (10, vi s.pools.length), (11, vi i)], [(1, vSys s)], [], m'⟩ Q := by
  intro t
  induction t with
  | nil =>
   intro i v xs m' Q hd hl hm hr hq
   have hlt := drop_nil hd
   rw [W_L (c := L111_1) rfl]
   have : ¬ ((i : Nat) : Int) < (s.pools.length : Int) := by omega
   simp only [↓sxc, sx, se, ↓reduceIte, Nat.reduceEqDiff, Nat.reduceAdd, Nat.reduceLT, Nat.reduceLeDiff, Nat.reduceSub, Nat.reduceMul, Int.reduceToNat, Int.reduceLT, Int.reduceLE, Int.reduceEq, ml_i0, this]
   exact hq v m' _ hm (by simpa using hr)
  | cons p t ih =>
   intro i v xs m' Q hd hl hm hr hq
   obtain ⟨hg, hd', hlt⟩ := drop_cons hd
   rw [W_L (c := L111_1) rfl]
   have : ((i : Nat) : Int) < (s.pools.length : Int) := by omega
   obtain ⟨v', m'', hap, hr', hn, _⟩ := Rw.app (y := .lst false 1 [.str p.name]) hr hm vw_lst (.inl rfl) (by simp [big]; simp at hl; omega)
   have wr : wrapF .i64 ((i : Int) + 1) = ((i + 1 : Nat) : Int) := by rw [wr_i64 (by omega) (by omega)]; rfl
   simp only [↓sxc, sx, se, ↓reduceIte, Nat.reduceEqDiff, Nat.reduceAdd, Nat.reduceLT, Nat.reduceLeDiff, Nat.reduceSub, Nat.reduceMul, Int.reduceToNat, Int.reduceLT, Int.reduceLE, Int.reduceEq, ml_i0, this, hg, hap, wr]
   refine ih (i + 1) v' (xs ++ [p.name]) (m''.bump 1) Q hd' (by simp at hl ⊢; omega) ?_ (by simpa using hr') (fun v m' e h1 h2 => hq v m' e h1 (by simpa using h2))
   show m.next ≤ m''.next + 1
   omega
 have loop2 : ∀ (t : List Cls) (i : Nat) (v : V) (xs : List (List UInt8)) (m' : Mem) (Q : Ex → St → Prop), s.cls.drop i = t → xs.length + t.length < 1000 → m.next ≤ m'.next → Rw m.next m' 1 v (xs.map .str) →
   (∀ v m' e, m.next ≤ m'.next → Rw m.next m' 1 v ((xs ++ t.map Cls.name).map .str) → Q (.exit 2) ⟨(3, v) :: e, [], [], m'⟩) →
   W F m.next L111_2 ⟨[(3, v), (26, vClss s.cls), (27, vi s.cls.length), (28, vi i)], [], [], m'⟩ Q := by
  intro t
  induction t with
  | nil =>
   intro i v xs m' Q hd hl hm hr hq
   have hlt := drop_nil hd
   rw [W_L (c := L111_2) rfl]
   have : ¬ ((i : Nat) : Int) < (s.cls.length : Int) := by omega
   simp only [↓sxc, sx, se, ↓reduceIte, Nat.reduceEqDiff, Nat.reduceAdd, Nat.reduceLT, Nat.reduceLeDiff, Nat.reduceSub, Nat.reduceMul, Int.reduceToNat, Int.reduceLT, Int.reduceLE, Int.reduceEq, ml_i0, this]
   exact hq v m' _ hm (by simpa using hr)
  | cons p t ih =>
   intro i v xs m' Q hd hl hm hr hq
   obtain ⟨hg, hd', hlt⟩ := drop_cons hd
   rw [W_L (c := L111_2) rfl]
   have : ((i : Nat) : Int) < (s.cls.length : Int) := by omega
   obtain ⟨v', m'', hap, hr', hn, _⟩ := Rw.app (y := .lst false 1 [.str p.name]) hr hm vw_lst (.inl rfl) (by simp [big]; simp at hl; omega)
   have wr : wrapF .i64 ((i : Int) + 1) = ((i + 1 : Nat) : Int) := by rw [wr_i64 (by omega) (by omega)]; rfl
   simp only [↓sxc, sx, se, ↓reduceIte, Nat.reduceEqDiff, Nat.reduceAdd, Nat.reduceLT, Nat.reduceLeDiff, Nat.reduceSub, Nat.reduceMul, Int.reduceToNat, Int.reduceLT, Int.reduceLE, Int.reduceEq, ml_i0, this, hg, hap, wr]
   refine ih (i + 1) v' (xs ++ [p.name]) (m''.bump 1) Q hd' (by simp at hl ⊢; omega) ?_ (by simpa using hr') (fun v m' e h1 h2 => hq v m' e h1 (by simpa using h2))
   show m.next ≤ m''.next + 1
   omega
 refine call_p hA.h111 rfl ?_
 simp only [↓sxc, sx, se, ↓reduceIte, Nat.reduceEqDiff, Nat.reduceAdd, Nat.reduceLT, Nat.reduceLeDiff, Nat.reduceSub, Nat.reduceMul, Int.reduceToNat, Int.reduceLT, Int.reduceLE, Int.reduceEq, ml_i0]
 refine loop1 s.pools 0 .nil [] m _ rfl (by simp; omega) (Nat.le_refl _) .nil (fun v m' e hm hr => ?_)
 rw [List.nil_append] at hr
 obtain ⟨v', m'', hap, hr', hn, _⟩ := Rw.app (y := strs s.locks) hr hm vw_strs app_strs (by simp [big]; omega)
 simp only [↓sxc, sx, se, ↓reduceIte, Nat.reduceEqDiff, Nat.reduceAdd, Nat.reduceLT, Nat.reduceLeDiff, Nat.reduceSub, Nat.reduceMul, Int.reduceToNat, Int.reduceLT, Int.reduceLE, Int.reduceEq, ml_i0, hap]
 refine loop2 s.cls 0 v' (s.pools.map Pool.name ++ s.locks) (m''.bump 1) _ rfl (by simp; omega) (by show m.next ≤ m''.next + 1; omega) (by simpa using hr') (fun v m' e hm hr => ?_)
 simp only [↓sxc, sx, se, ↓reduceIte, Nat.reduceEqDiff, Nat.reduceAdd, Nat.reduceLT, Nat.reduceLeDiff, Nat.reduceSub, Nat.reduceMul, Int.reduceToNat, Int.reduceLT, Int.reduceLE, Int.reduceEq, ml_i0]
 rw [hr.freeze, mapO_id (fun x hx => by
  obtain ⟨y, _, rfl⟩ := List.mem_map.1 hx
  rfl)]
 rfl
def delta (on kind : Int) (s : Stp) : Int :=
 if s.on = on then
  if s.kind = 1 then (if kind = 0 then s.cnt else 0) else if s.kind = 2 then (if kind = 0 then -s.cnt else 0)
  else if s.kind = 3 then (if kind = 1 then 1 else 0) else if s.kind = 4 then (if kind = 1 then -1 else 0) else 0
 else 0
def bal (on kind : Int) : List Stp → Int
 | [] => 0
 | s :: t => delta on kind s + bal on kind t
theorem bal_append {on kind : Int} : ∀ {a b : List Stp}, bal on kind (a ++ b) = bal on kind a + bal on kind b
 | [], b => by simp [bal]
 | s :: a, b => by simp only [List.cons_append, bal, bal_append (a := a)]; omega
end Go.Am
namespace Go.Am
open Go
set_option linter.unusedSimpArgs false
set_option linter.unusedVariables false
set_option maxRecDepth 100000
def nOf (s : Sys) (x : Stp) : Int := if x.kind = 3 ∨ x.kind = 4 then (s.locks.length : Int) else if x.kind = 5 then (s.cls.length : Int) else (s.pools.length : Int)
def sizeAt (s : Sys) (on : Int) : Int := match s.pools[on.toNat]? with
 | some p => p.size
 | none => 0
def resAt (s : Sys) (on : Int) : Int := match s.pools[on.toNat]? with
 | some p => p.res
 | none => 0
def srvAt (s : Sys) (on : Int) : Bool := match s.cls[on.toNat]? with
 | some c => c.srv
 | none => false
def preE (s : Sys) (x : Stp) : Int :=
 if x.kind < 1 ∨ 5 < x.kind ∨ (¬ (x.kind = 1 ∨ x.kind = 2) ∧ x.cnt ≠ 0) ∨ (x.kind ≠ 1 ∧ x.deep = true) then 1
 else if x.on < 0 ∨ nOf s x ≤ x.on then 6
 else if (x.kind = 1 ∨ x.kind = 2) ∧ (x.cnt < 1 ∨ sizeAt s x.on < x.cnt) then 2 else 0
def badE (s : Sys) (x : Stp) (b0 b1 : Int) : Bool :=
 if x.kind = 1 then decide (sizeAt s x.on < b0 + x.cnt) else if x.kind = 2 then decide (b0 < x.cnt) else if x.kind = 3 then decide (0 < b1) else if x.kind = 4 then decide (b1 = 0) else !srvAt s x.on
def stepE (s : Sys) (x : Stp) (b0 b1 : Int) : Int := if preE s x ≠ 0 then preE s x else if badE s x b0 b1 then 11 else 0
theorem delta_bd {on kind : Int} {x : Stp} (h : -1000 ≤ x.cnt ∧ x.cnt ≤ 1000) : -1000 ≤ delta on kind x ∧ delta on kind x ≤ 1000 := by
 unfold delta
 repeat' split
 all_goals omega
theorem bal_bd {on kind : Int} : ∀ {l : List Stp}, (∀ x ∈ l, -1000 ≤ x.cnt ∧ x.cnt ≤ 1000) → -1000 * l.length ≤ bal on kind l ∧ bal on kind l ≤ 1000 * l.length
 | [], _ => by simp [bal]
 | x :: l, h => by
  have h1 := delta_bd (on := on) (kind := kind) (h x (by simp))
  have h2 := bal_bd (on := on) (kind := kind) (l := l) (fun y hy => h y (by simp [hy]))
  simp only [bal, List.length_cons]
  push_cast
  omega
end Go.Am
namespace Go.Am
open Go
set_option linter.unusedSimpArgs false
set_option linter.unusedVariables false
set_option maxRecDepth 100000
theorem stepE_cnt {s : Sys} {x : Stp} {b0 b1 : Int} (h : stepE s x b0 b1 = 0) (hp : ∀ p ∈ s.pools, p.size ≤ 1000) : -1000 ≤ x.cnt ∧ x.cnt ≤ 1000 := by
 have hs : sizeAt s x.on ≤ 1000 := by
  unfold sizeAt
  split
  ·rename_i p hp'; exact hp p (List.mem_of_getElem? hp')
  ·omega
 have h0 : preE s x = 0 := by
  unfold stepE at h
  split at h
  ·exact h
  ·rename_i h1; simpa using h1
 unfold preE at h0
 split at h0
 ·omega
 ·rename_i h1
  split at h0
  ·omega
  ·split at h0
   ·omega
   ·rename_i h2
    by_cases ht : x.kind = 1 ∨ x.kind = 2
    ·have : ¬ (x.cnt < 1 ∨ sizeAt s x.on < x.cnt) := fun h => h2 ⟨ht, h⟩
     omega
    ·have : x.cnt = 0 := by
      apply Classical.byContradiction
      intro hc
      exact h1 (.inr (.inr (.inl ⟨ht, hc⟩)))
     omega
def stepsE (s : Sys) (pre : List Stp) : List Stp → Int
 | [] => 0
 | x :: t => if stepE s x (bal x.on 0 pre) (bal x.on 1 pre) ≠ 0 then stepE s x (bal x.on 0 pre) (bal x.on 1 pre) else stepsE s (pre ++ [x]) t
def over (l : List Stp) (kind : Int) (n : Nat) : Bool := (List.range n).any fun i => decide (0 < bal i kind l)
def clsE (s : Sys) (c : Cls) : Int :=
 if c.wk < 0 ∨ 4 < c.wk then 2 else if c.steps.length < 1 ∨ 12 < c.steps.length then 9
 else if stepsE s [] c.steps ≠ 0 then stepsE s [] c.steps
 else if over c.steps 0 s.pools.length = true then 11 else if over c.steps 1 s.locks.length = true then 11 else 0
theorem stepsE_cnt {s : Sys} (hp : ∀ p ∈ s.pools, p.size ≤ 1000) : ∀ {t pre : List Stp}, stepsE s pre t = 0 → ∀ x ∈ t, -1000 ≤ x.cnt ∧ x.cnt ≤ 1000
 | [], pre, _, x, hx => by simp at hx
 | y :: t, pre, h, x, hx => by
  unfold stepsE at h
  split at h
  ·rename_i h1; exact absurd h h1
  ·rename_i h1
   rcases List.mem_cons.1 hx with rfl | hx
   ·exact stepE_cnt (by simpa using h1) hp
   ·exact stepsE_cnt hp h x hx
theorem take_succ_drop {α : Type} {l : List α} {i : Nat} {x : α} {t : List α} (h : l.drop i = x :: t) : l.take (i + 1) = l.take i ++ [x] := by
 obtain ⟨hg, _, hlt⟩ := drop_cons h
 rw [List.take_add_one, hg]
 rfl
end Go.Am
namespace Go.Am
open Go
set_option linter.unusedSimpArgs false
set_option linter.unusedVariables false
set_option maxRecDepth 100000
def nmE (pre : List (List UInt8)) : List (List UInt8) → Int
 | [] => 0
 | x :: t => if isNm x = false then 3 else if pre.any (fun y => decide (y = x)) = true then 5 else nmE (pre ++ [x]) t
def poolBad (p : Pool) : Bool := decide (p.size < 1) || decide (8 < p.size) || decide (p.res < 0) || decide (p.size < p.res)
def firstE (f : Cls → Int) : List Cls → Int
 | [] => 0
 | c :: t => if f c ≠ 0 then f c else firstE f t
def chkE (s : Sys) : Int :=
 if 6 < s.pools.length ∨ 4 < s.locks.length ∨ 6 < s.cls.length then 9
 else if nmE [] (namesOf s) ≠ 0 then nmE [] (namesOf s)
 else if s.pools.any poolBad = true then 2 else firstE (clsE s) s.cls
theorem names_len {s : Sys} : (namesOf s).length = s.pools.length + s.locks.length + s.cls.length := by simp [namesOf]; omega
end Go.Am
namespace Go.Am
open Go
set_option linter.unusedSimpArgs false
set_option linter.unusedVariables false
set_option maxRecDepth 100000
def PX (res : List Res) (R : V → Mem → Prop) : Ex → St → Prop
 | .exit _, _ => False
 | _, st => OC (getRes st res) fun vs => R (resV vs) st.mem
theorem PX_nrm {res : List Res} {R : V → Mem → Prop} {st : St} : PX res R .nrm st ↔ OC (getRes st res) fun vs => R (resV vs) st.mem := Iff.rfl
theorem PX_ret {res : List Res} {R : V → Mem → Prop} {st : St} : PX res R .ret st ↔ OC (getRes st res) fun vs => R (resV vs) st.mem := Iff.rfl
theorem call_x {F : Nat → Option Fn} {lo f np am bm : Nat} {res : List Res} {body : AC} {args : List V} {m : Mem} {R : V → Mem → Prop} (hF : F f = some ⟨np, am, bm, false, res, body⟩) (hn : args.length = np) (h : W F lo body ⟨initEnv 0 args, [], [], m⟩ (PX res R)) : ∃ v m', callw F f args lo m = some (v, m') ∧ R v m' := by
 have key : ∃ v m', W F lo body ⟨initEnv 0 args, [], [], m⟩ (PI res v m') ∧ R v m' := by
  obtain ⟨N, ex, s, h1, q⟩ := h
  cases ex with
  | exit i => exact q.elim
  | nrm =>
   obtain ⟨vs, q1, q2⟩ := q
   exact ⟨_, _, ⟨N, .nrm, s, h1, vs, q1, rfl, rfl⟩, q2⟩
  | ret =>
   obtain ⟨vs, q1, q2⟩ := q
   exact ⟨_, _, ⟨N, .ret, s, h1, vs, q1, rfl, rfl⟩, q2⟩
 obtain ⟨v, m', h1, h2⟩ := key
 exact ⟨v, m', call_i hF hn h1, h2⟩
theorem set_ne {m : Mem} {i j : Nat} {b : Option Blk} (h : j ≠ i) : (m.set i b).blk j = m.blk j := by simp [Mem.set, h]
theorem sp121 {F : Nat → Option Fn} (hA : HasA F) {lo : Nat} {m : Mem} (s : Sys) (h1 : s.pools.length < 100) (h2 : s.locks.length < 100) : ∃ v m', callw F 121 [vSys s] lo m = some (v, m') ∧ ∃ a b, v = .agg [.row 1 a 0 s.pools.length, .row 1 b 0 s.locks.length] ∧ a ≠ b ∧ m.next ≤ a ∧ m.next ≤ b ∧ a < m'.next ∧ b < m'.next ∧
  m'.blk a = some (.row 1 (List.replicate s.pools.length (vi 0))) ∧ m'.blk b = some (.row 1 (List.replicate s.locks.length (.bool false))) ∧ ∀ k, k < m.next → m'.blk k = m.blk k := by
 refine call_x hA.h121 rfl ?_
 have b1 : 0 ≤ (s.pools.length : Int) ∧ (s.pools.length : Int) < big := by simp [big]; omega
 have b2 : 0 ≤ (s.locks.length : Int) ∧ (s.locks.length : Int) < big := by simp [big]; omega
 simp only [↓sxc, sx, se, ↓reduceIte, Nat.reduceEqDiff, Nat.reduceAdd, Nat.reduceLT, Nat.reduceLeDiff, Nat.reduceSub, Nat.reduceMul, Int.reduceToNat, Int.reduceLT, Int.reduceLE, Int.reduceEq, ml_i0, ↓W_dreg, ↓sk, sk, PX_ret, b1, b2]
 refine ⟨by simp [pairsOk, nth_eq, keysApart, Key.apart], m.next + 3, m.next + 7, rfl, by omega, by omega, by omega, by omega, by omega, ?_, ?_, fun k hk => ?_⟩
 ·rw [set_ne (by omega)]
  simp [Mem.set]
 ·simp [Mem.set]
 ·rw [set_ne (by omega), set_ne (by omega)]
  rfl
structure Hd (lo : Nat) (m : Mem) (p a b : Nat) (u : List Int) (k : List Bool) : Prop where
 pa : p ≠ a
 pb : p ≠ b
 ab : a ≠ b
 lp : lo ≤ p
 la : lo ≤ a
 lb : lo ≤ b
 hp : p < m.next
 ha : a < m.next
 hb : b < m.next
 bp : m.blk p = some (.row 2 [.agg [.row 1 a 0 u.length, .row 1 b 0 k.length]])
 ba : m.blk a = some (.row 1 (u.map vi))
 bb : m.blk b = some (.row 1 (k.map .bool))
def uAt (u : List Int) (on : Int) : Int := u.getD on.toNat 0
def kAt (k : List Bool) (on : Int) : Bool := k.getD on.toNat false
def uStep (u : List Int) (x : Stp) : List Int := if x.kind = 1 then u.set x.on.toNat (uAt u x.on + x.cnt) else if x.kind = 2 then u.set x.on.toNat (uAt u x.on - x.cnt) else u
def kStep (k : List Bool) (x : Stp) : List Bool := if x.kind = 3 then k.set x.on.toNat true else if x.kind = 4 then k.set x.on.toNat false else k
def holdE (s : Sys) (u : List Int) (k : List Bool) (x : Stp) : Int := stepE s x (uAt u x.on) (if kAt k x.on = true then 1 else 0)
theorem uStep_len {u : List Int} {x : Stp} : (uStep u x).length = u.length := by
 unfold uStep
 repeat' split
 all_goals simp
theorem kStep_len {k : List Bool} {x : Stp} : (kStep k x).length = k.length := by
 unfold kStep
 repeat' split
 all_goals simp
end Go.Am
namespace Go.Am
open Go
set_option linter.unusedSimpArgs false
set_option linter.unusedVariables false
set_option maxRecDepth 100000
theorem getset {l : List Int} {i : Nat} {x : V} (h : i < l.length) : ((l.map vi).set i x)[i]? = some x := by simp [h]
structure HOut (s : Sys) (u : List Int) (k : List Bool) (x : Stp) (a b : Nat) (m : Mem) (v : V) (m' : Mem) : Prop where
 res : v = vi (holdE s u k x)
 nx : m.next ≤ m'.next
 oth : ∀ j, j ≠ a → j ≠ b → m'.blk j = m.blk j
 ba : m'.blk a = some (.row 1 ((if preE s x = 0 then uStep u x else u).map vi))
 bb : m'.blk b = some (.row 1 ((if preE s x = 0 then kStep k x else k).map .bool))
set_option maxHeartbeats 4000000 in
theorem sp122 {F : Nat → Option Fn} (hA : HasA F) {lo : Nat} {m : Mem} (s : Sys) (x : Stp) {p a b : Nat} {u : List Int} {k : List Bool} (H : Hd lo m p a b u k) (hu : u.length = s.pools.length) (hk0 : k.length = s.locks.length) (hp : ∀ p ∈ s.pools, p.size ≤ 1000) (hb0 : ∀ n ∈ u, -1000000 ≤ n ∧ n ≤ 1000000) :
  ∃ v m', callw F 122 [.ptr p 0 0, vSys s, vStp x] lo m = some (v, m') ∧ HOut s u k x a b m v m' := by
 refine call_x hA.h122 rfl ?_
 have n1 : ∀ {m : Mem} {q : Option Blk}, (m.set a q).blk p = m.blk p := fun {m q} => set_ne H.pa
 have fin0 : ∀ {e : Int} {m' : Mem}, e = holdE s u k x → preE s x ≠ 0 → m.next ≤ m'.next → (∀ j, m'.blk j = m.blk j) → HOut s u k x a b m (vi e) m' := by
  intro e m' h1 h2 h3 h4
  subst h1
  exact ⟨rfl, h3, fun j _ _ => h4 j, by rw [h4, if_neg h2]; exact H.ba, by rw [h4, if_neg h2]; exact H.bb⟩
 by_cases e1 : x.kind < 1
 ·have hv : preE s x = 1 := by simp [preE, e1]
  have k1 : ¬ x.kind = 1 := by omega
  have k2 : ¬ x.kind = 2 := by omega
  simp only [↓sxc, sx, se, ↓reduceIte, Nat.reduceEqDiff, Nat.reduceAdd, Nat.reduceLT, Nat.reduceLeDiff, Nat.reduceSub, Nat.reduceMul, Int.reduceToNat, Int.reduceLT, Int.reduceLE, Int.reduceEq, ml_i0, PX_ret, PX_nrm, e1, k1, k2]
  refine fin0 ?_ ?_ ?_ (fun _ => rfl) <;> simp [holdE, stepE, hv, bump_next]
 ·by_cases e5 : 5 < x.kind
  ·have hv : preE s x = 1 := by simp [preE, e5]
   have k1 : ¬ x.kind = 1 := by omega
   have k2 : ¬ x.kind = 2 := by omega
   simp only [↓sxc, sx, se, ↓reduceIte, Nat.reduceEqDiff, Nat.reduceAdd, Nat.reduceLT, Nat.reduceLeDiff, Nat.reduceSub, Nat.reduceMul, Int.reduceToNat, Int.reduceLT, Int.reduceLE, Int.reduceEq, ml_i0, PX_ret, PX_nrm, e1, e5, k1, k2]
   refine fin0 ?_ ?_ ?_ (fun _ => rfl) <;> simp [holdE, stepE, hv, bump_next]
  ·by_cases hk : x.kind = 1
   ·have hpre : preE s x = if x.on < 0 ∨ (s.pools.length : Int) ≤ x.on then 6 else if x.cnt < 1 ∨ sizeAt s x.on < x.cnt then 2 else 0 := by simp [preE, nOf, hk]
    by_cases o1 : x.on < 0
    ·have hv : preE s x = 6 := by simp [hpre, o1]
     cases hd : x.deep <;> (simp only [↓sxc, sx, se, ↓reduceIte, Nat.reduceEqDiff, Nat.reduceAdd, Nat.reduceLT, Nat.reduceLeDiff, Nat.reduceSub, Nat.reduceMul, Int.reduceToNat, Int.reduceLT, Int.reduceLE, Int.reduceEq, ml_i0, PX_ret, PX_nrm, hk, hd, o1]; refine fin0 ?_ ?_ ?_ (fun _ => rfl) <;> simp [holdE, stepE, hv, bump_next])
    ·by_cases o2 : (s.pools.length : Int) ≤ x.on
     ·have hv : preE s x = 6 := by simp [hpre, o1, o2]
      cases hd : x.deep <;> (simp only [↓sxc, sx, se, ↓reduceIte, Nat.reduceEqDiff, Nat.reduceAdd, Nat.reduceLT, Nat.reduceLeDiff, Nat.reduceSub, Nat.reduceMul, Int.reduceToNat, Int.reduceLT, Int.reduceLE, Int.reduceEq, ml_i0, PX_ret, PX_nrm, hk, hd, o1, o2]; refine fin0 ?_ ?_ ?_ (fun _ => rfl) <;> simp [holdE, stepE, hv, bump_next])
     ·have h0 : 0 ≤ x.on := by omega
      have hp' : s.pools[x.on.toNat]? = some (s.pools[x.on.toNat]'(by omega)) := List.getElem?_eq_getElem _
      rw [if_neg (by omega)] at hpre
      have hq := hp _ (List.mem_of_getElem? hp')
      generalize s.pools[x.on.toNat]'(by omega) = p at *
      have hs : sizeAt s x.on = p.size := by simp [sizeAt, hp']
      rw [hs] at hpre
      have hul : x.on < (u.length : Int) := by omega
      have hut : x.on.toNat < u.length := by omega
      have hu' : u[x.on.toNat]? = some (uAt u x.on) := by rw [List.getElem?_eq_getElem hut]; simp [uAt, List.getD, List.getElem?_eq_getElem hut]
      have hub := hb0 (uAt u x.on) (List.mem_of_getElem? hu')
      by_cases q1 : x.cnt < 1
      ·have hv : preE s x = 2 := by simp [hpre, q1]
       cases hd : x.deep <;> (simp only [↓sxc, sx, se, ↓reduceIte, Nat.reduceEqDiff, Nat.reduceAdd, Nat.reduceLT, Nat.reduceLeDiff, Nat.reduceSub, Nat.reduceMul, Int.reduceToNat, Int.reduceLT, Int.reduceLE, Int.reduceEq, ml_i0, PX_ret, PX_nrm, hk, hd, o1, o2, q1, h0, hp']; refine fin0 ?_ ?_ ?_ (fun _ => rfl) <;> simp [holdE, stepE, hv, bump_next])
      ·by_cases q2 : p.size < x.cnt
       ·have hv : preE s x = 2 := by simp [hpre, q1, q2]
        cases hd : x.deep <;> (simp only [↓sxc, sx, se, ↓reduceIte, Nat.reduceEqDiff, Nat.reduceAdd, Nat.reduceLT, Nat.reduceLeDiff, Nat.reduceSub, Nat.reduceMul, Int.reduceToNat, Int.reduceLT, Int.reduceLE, Int.reduceEq, ml_i0, PX_ret, PX_nrm, hk, hd, o1, o2, q1, q2, h0, hp']; refine fin0 ?_ ?_ ?_ (fun _ => rfl) <;> simp [holdE, stepE, hv, bump_next])
       ·have hv : preE s x = 0 := by simp [hpre, q1, q2]
        have w1 : wrapF .i64 (uAt u x.on + x.cnt) = uAt u x.on + x.cnt := wr_i64 (by omega) (by omega)
        have hus : uStep u x = u.set x.on.toNat (uAt u x.on + x.cnt) := by simp [uStep, hk]
        have hks : kStep k x = k := by simp [kStep, hk]
        by_cases f : uAt u x.on + x.cnt ≤ p.size
        ·have hg : ¬ p.size < uAt u x.on + x.cnt := by omega
         cases hd : x.deep <;> (simp only [↓sxc, sx, se, ↓reduceIte, Nat.reduceEqDiff, Nat.reduceAdd, Nat.reduceLT, Nat.reduceLeDiff, Nat.reduceSub, Nat.reduceMul, Int.reduceToNat, Int.reduceLT, Int.reduceLE, Int.reduceEq, ml_i0, PX_ret, PX_nrm, hk, hd, o1, o2, q1, q2, h0, hp', H.bp, H.ba, H.la, hul, hu', w1, n1, getset hut, f]; refine ⟨by simp [holdE, stepE, hv, badE, hk, hs, hg], by simp only [bump_next, set_next]; omega, fun j h1 h2 => by simp [set_ne h1, bump_blk], by simp [hv, hus, Mem.set, Mem.bump, List.map_set], by simp [hv, hks, Mem.set, Mem.bump, (H.ab).symm, H.bb]⟩)
        ·have hg : p.size < uAt u x.on + x.cnt := by omega
         cases hd : x.deep <;> (simp only [↓sxc, sx, se, ↓reduceIte, Nat.reduceEqDiff, Nat.reduceAdd, Nat.reduceLT, Nat.reduceLeDiff, Nat.reduceSub, Nat.reduceMul, Int.reduceToNat, Int.reduceLT, Int.reduceLE, Int.reduceEq, ml_i0, PX_ret, PX_nrm, hk, hd, o1, o2, q1, q2, h0, hp', H.bp, H.ba, H.la, hul, hu', w1, n1, getset hut, f]; refine ⟨by simp [holdE, stepE, hv, badE, hk, hs, hg], by simp only [bump_next, set_next]; omega, fun j h1 h2 => by simp [set_ne h1, bump_blk], by simp [hv, hus, Mem.set, Mem.bump, List.map_set], by simp [hv, hks, Mem.set, Mem.bump, (H.ab).symm, H.bb]⟩)
   ·by_cases hk : x.kind = 2
    ·cases hdd : x.deep with
     | true =>
      have hv : preE s x = 1 := by simp [preE, hk, hdd]
      simp only [↓sxc, sx, se, ↓reduceIte, Nat.reduceEqDiff, Nat.reduceAdd, Nat.reduceLT, Nat.reduceLeDiff, Nat.reduceSub, Nat.reduceMul, Int.reduceToNat, Int.reduceLT, Int.reduceLE, Int.reduceEq, ml_i0, PX_ret, PX_nrm, hk, hdd]
      refine fin0 ?_ ?_ ?_ (fun _ => rfl) <;> simp [holdE, stepE, hv, bump_next]
     | false =>
      have hpre : preE s x = if x.on < 0 ∨ (s.pools.length : Int) ≤ x.on then 6 else if x.cnt < 1 ∨ sizeAt s x.on < x.cnt then 2 else 0 := by simp [preE, nOf, hk, hdd]
      by_cases o1 : x.on < 0
      ·have hv : preE s x = 6 := by simp [hpre, o1]
       simp only [↓sxc, sx, se, ↓reduceIte, Nat.reduceEqDiff, Nat.reduceAdd, Nat.reduceLT, Nat.reduceLeDiff, Nat.reduceSub, Nat.reduceMul, Int.reduceToNat, Int.reduceLT, Int.reduceLE, Int.reduceEq, ml_i0, PX_ret, PX_nrm, hk, hdd, o1]
       refine fin0 ?_ ?_ ?_ (fun _ => rfl) <;> simp [holdE, stepE, hv, bump_next]
      ·by_cases o2 : (s.pools.length : Int) ≤ x.on
       ·have hv : preE s x = 6 := by simp [hpre, o1, o2]
        simp only [↓sxc, sx, se, ↓reduceIte, Nat.reduceEqDiff, Nat.reduceAdd, Nat.reduceLT, Nat.reduceLeDiff, Nat.reduceSub, Nat.reduceMul, Int.reduceToNat, Int.reduceLT, Int.reduceLE, Int.reduceEq, ml_i0, PX_ret, PX_nrm, hk, hdd, o1, o2]
        refine fin0 ?_ ?_ ?_ (fun _ => rfl) <;> simp [holdE, stepE, hv, bump_next]
       ·have h0 : 0 ≤ x.on := by omega
        have hp' : s.pools[x.on.toNat]? = some (s.pools[x.on.toNat]'(by omega)) := List.getElem?_eq_getElem _
        rw [if_neg (by omega)] at hpre
        have hq := hp _ (List.mem_of_getElem? hp')
        generalize s.pools[x.on.toNat]'(by omega) = p at *
        have hs : sizeAt s x.on = p.size := by simp [sizeAt, hp']
        rw [hs] at hpre
        have hul : x.on < (u.length : Int) := by omega
        have hut : x.on.toNat < u.length := by omega
        have hu' : u[x.on.toNat]? = some (uAt u x.on) := by rw [List.getElem?_eq_getElem hut]; simp [uAt, List.getD, List.getElem?_eq_getElem hut]
        have hub := hb0 (uAt u x.on) (List.mem_of_getElem? hu')
        by_cases q1 : x.cnt < 1
        ·have hv : preE s x = 2 := by simp [hpre, q1]
         simp only [↓sxc, sx, se, ↓reduceIte, Nat.reduceEqDiff, Nat.reduceAdd, Nat.reduceLT, Nat.reduceLeDiff, Nat.reduceSub, Nat.reduceMul, Int.reduceToNat, Int.reduceLT, Int.reduceLE, Int.reduceEq, ml_i0, PX_ret, PX_nrm, hk, hdd, o1, o2, q1, h0, hp']
         refine fin0 ?_ ?_ ?_ (fun _ => rfl) <;> simp [holdE, stepE, hv, bump_next]
        ·by_cases q2 : p.size < x.cnt
         ·have hv : preE s x = 2 := by simp [hpre, q1, q2]
          simp only [↓sxc, sx, se, ↓reduceIte, Nat.reduceEqDiff, Nat.reduceAdd, Nat.reduceLT, Nat.reduceLeDiff, Nat.reduceSub, Nat.reduceMul, Int.reduceToNat, Int.reduceLT, Int.reduceLE, Int.reduceEq, ml_i0, PX_ret, PX_nrm, hk, hdd, o1, o2, q1, q2, h0, hp']
          refine fin0 ?_ ?_ ?_ (fun _ => rfl) <;> simp [holdE, stepE, hv, bump_next]
         ·have hv : preE s x = 0 := by simp [hpre, q1, q2]
          have w1 : wrapF .i64 (uAt u x.on - x.cnt) = uAt u x.on - x.cnt := wr_i64 (by omega) (by omega)
          have hus : uStep u x = u.set x.on.toNat (uAt u x.on - x.cnt) := by simp [uStep, hk]
          have hks : kStep k x = k := by simp [kStep, hk]
          by_cases f : 0 ≤ uAt u x.on - x.cnt
          ·have hg : ¬ uAt u x.on < x.cnt := by omega
           simp only [↓sxc, sx, se, ↓reduceIte, Nat.reduceEqDiff, Nat.reduceAdd, Nat.reduceLT, Nat.reduceLeDiff, Nat.reduceSub, Nat.reduceMul, Int.reduceToNat, Int.reduceLT, Int.reduceLE, Int.reduceEq, ml_i0, PX_ret, PX_nrm, hk, hdd, o1, o2, q1, q2, h0, hp', H.bp, H.ba, H.la, hul, hu', w1, n1, getset hut, f]
           refine ⟨by simp [holdE, stepE, hv, badE, hk, hs, hg], by simp only [bump_next, set_next]; omega, fun j h1 h2 => by simp [set_ne h1, bump_blk], by simp [hv, hus, Mem.set, Mem.bump, List.map_set], by simp [hv, hks, Mem.set, Mem.bump, (H.ab).symm, H.bb]⟩
          ·have hg : uAt u x.on < x.cnt := by omega
           simp only [↓sxc, sx, se, ↓reduceIte, Nat.reduceEqDiff, Nat.reduceAdd, Nat.reduceLT, Nat.reduceLeDiff, Nat.reduceSub, Nat.reduceMul, Int.reduceToNat, Int.reduceLT, Int.reduceLE, Int.reduceEq, ml_i0, PX_ret, PX_nrm, hk, hdd, o1, o2, q1, q2, h0, hp', H.bp, H.ba, H.la, hul, hu', w1, n1, getset hut, f]
           refine ⟨by simp [holdE, stepE, hv, badE, hk, hs, hg], by simp only [bump_next, set_next]; omega, fun j h1 h2 => by simp [set_ne h1, bump_blk], by simp [hv, hus, Mem.set, Mem.bump, List.map_set], by simp [hv, hks, Mem.set, Mem.bump, (H.ab).symm, H.bb]⟩
    ·by_cases hk : x.kind = 3
     ·by_cases hz : x.cnt = 0
      ·cases hdd : x.deep with
       | true =>
        have hv : preE s x = 1 := by simp [preE, hk, hdd]
        simp only [↓sxc, sx, se, ↓reduceIte, Nat.reduceEqDiff, Nat.reduceAdd, Nat.reduceLT, Nat.reduceLeDiff, Nat.reduceSub, Nat.reduceMul, Int.reduceToNat, Int.reduceLT, Int.reduceLE, Int.reduceEq, ml_i0, PX_ret, PX_nrm, hk, hz, hdd]
        refine fin0 ?_ ?_ ?_ (fun _ => rfl) <;> simp [holdE, stepE, hv, bump_next]
       | false =>
        have hpre : preE s x = if x.on < 0 ∨ (s.locks.length : Int) ≤ x.on then 6 else 0 := by simp [preE, nOf, hk, hz, hdd]
        by_cases o1 : x.on < 0
        ·have hv : preE s x = 6 := by simp [hpre, o1]
         simp only [↓sxc, sx, se, ↓reduceIte, Nat.reduceEqDiff, Nat.reduceAdd, Nat.reduceLT, Nat.reduceLeDiff, Nat.reduceSub, Nat.reduceMul, Int.reduceToNat, Int.reduceLT, Int.reduceLE, Int.reduceEq, ml_i0, PX_ret, PX_nrm, hk, hz, hdd, o1]
         refine fin0 ?_ ?_ ?_ (fun _ => rfl) <;> simp [holdE, stepE, hv, bump_next]
        ·by_cases o2 : (s.locks.length : Int) ≤ x.on
         ·have hv : preE s x = 6 := by simp [hpre, o1, o2]
          simp only [↓sxc, sx, se, ↓reduceIte, Nat.reduceEqDiff, Nat.reduceAdd, Nat.reduceLT, Nat.reduceLeDiff, Nat.reduceSub, Nat.reduceMul, Int.reduceToNat, Int.reduceLT, Int.reduceLE, Int.reduceEq, ml_i0, PX_ret, PX_nrm, hk, hz, hdd, o1, o2]
          refine fin0 ?_ ?_ ?_ (fun _ => rfl) <;> simp [holdE, stepE, hv, bump_next]
         ·have h0 : 0 ≤ x.on := by omega
          have hp' : s.locks[x.on.toNat]? = some (s.locks[x.on.toNat]'(by omega)) := List.getElem?_eq_getElem _
          rw [if_neg (by omega)] at hpre
          have hkl : x.on < (k.length : Int) := by omega
          have hkt : x.on.toNat < k.length := by omega
          have hk' : k[x.on.toNat]? = some (kAt k x.on) := by rw [List.getElem?_eq_getElem hkt]; simp [kAt, List.getD, List.getElem?_eq_getElem hkt]
          have hv : preE s x = 0 := hpre
          have hus : uStep u x = u := by simp [uStep, hk]
          have hks : kStep k x = k.set x.on.toNat true := by simp [kStep, hk]
          cases f : kAt k x.on
          ·rw [f] at hk'
           simp only [↓sxc, sx, se, ↓reduceIte, Nat.reduceEqDiff, Nat.reduceAdd, Nat.reduceLT, Nat.reduceLeDiff, Nat.reduceSub, Nat.reduceMul, Int.reduceToNat, Int.reduceLT, Int.reduceLE, Int.reduceEq, ml_i0, PX_ret, PX_nrm, hk, hz, hdd, o1, o2, h0, H.bp, H.bb, H.lb, hkl, hk', n1, f]
           refine ⟨by simp [holdE, stepE, hv, badE, hk, f], by simp only [bump_next, set_next]; omega, fun j h1 h2 => by simp [set_ne h2, bump_blk], by simp [hv, hus, Mem.set, Mem.bump, H.ab, H.ba], by simp [hv, hks, Mem.set, Mem.bump, List.map_set]⟩
          ·rw [f] at hk'
           simp only [↓sxc, sx, se, ↓reduceIte, Nat.reduceEqDiff, Nat.reduceAdd, Nat.reduceLT, Nat.reduceLeDiff, Nat.reduceSub, Nat.reduceMul, Int.reduceToNat, Int.reduceLT, Int.reduceLE, Int.reduceEq, ml_i0, PX_ret, PX_nrm, hk, hz, hdd, o1, o2, h0, H.bp, H.bb, H.lb, hkl, hk', n1, f]
           refine ⟨by simp [holdE, stepE, hv, badE, hk, f], by simp only [bump_next, set_next]; omega, fun j h1 h2 => by simp [set_ne h2, bump_blk], by simp [hv, hus, Mem.set, Mem.bump, H.ab, H.ba], by simp [hv, hks, Mem.set, Mem.bump, List.map_set]⟩
      ·have hv : preE s x = 1 := by simp [preE, hk, hz]
       simp only [↓sxc, sx, se, ↓reduceIte, Nat.reduceEqDiff, Nat.reduceAdd, Nat.reduceLT, Nat.reduceLeDiff, Nat.reduceSub, Nat.reduceMul, Int.reduceToNat, Int.reduceLT, Int.reduceLE, Int.reduceEq, ml_i0, PX_ret, PX_nrm, hk, hz]
       refine fin0 ?_ ?_ ?_ (fun _ => rfl) <;> simp [holdE, stepE, hv, bump_next]
     ·by_cases hk : x.kind = 4
      ·by_cases hz : x.cnt = 0
       ·cases hdd : x.deep with
        | true =>
         have hv : preE s x = 1 := by simp [preE, hk, hdd]
         simp only [↓sxc, sx, se, ↓reduceIte, Nat.reduceEqDiff, Nat.reduceAdd, Nat.reduceLT, Nat.reduceLeDiff, Nat.reduceSub, Nat.reduceMul, Int.reduceToNat, Int.reduceLT, Int.reduceLE, Int.reduceEq, ml_i0, PX_ret, PX_nrm, hk, hz, hdd]
         refine fin0 ?_ ?_ ?_ (fun _ => rfl) <;> simp [holdE, stepE, hv, bump_next]
        | false =>
         have hpre : preE s x = if x.on < 0 ∨ (s.locks.length : Int) ≤ x.on then 6 else 0 := by simp [preE, nOf, hk, hz, hdd]
         by_cases o1 : x.on < 0
         ·have hv : preE s x = 6 := by simp [hpre, o1]
          simp only [↓sxc, sx, se, ↓reduceIte, Nat.reduceEqDiff, Nat.reduceAdd, Nat.reduceLT, Nat.reduceLeDiff, Nat.reduceSub, Nat.reduceMul, Int.reduceToNat, Int.reduceLT, Int.reduceLE, Int.reduceEq, ml_i0, PX_ret, PX_nrm, hk, hz, hdd, o1]
          refine fin0 ?_ ?_ ?_ (fun _ => rfl) <;> simp [holdE, stepE, hv, bump_next]
         ·by_cases o2 : (s.locks.length : Int) ≤ x.on
          ·have hv : preE s x = 6 := by simp [hpre, o1, o2]
           simp only [↓sxc, sx, se, ↓reduceIte, Nat.reduceEqDiff, Nat.reduceAdd, Nat.reduceLT, Nat.reduceLeDiff, Nat.reduceSub, Nat.reduceMul, Int.reduceToNat, Int.reduceLT, Int.reduceLE, Int.reduceEq, ml_i0, PX_ret, PX_nrm, hk, hz, hdd, o1, o2]
           refine fin0 ?_ ?_ ?_ (fun _ => rfl) <;> simp [holdE, stepE, hv, bump_next]
          ·have h0 : 0 ≤ x.on := by omega
           have hp' : s.locks[x.on.toNat]? = some (s.locks[x.on.toNat]'(by omega)) := List.getElem?_eq_getElem _
           rw [if_neg (by omega)] at hpre
           have hkl : x.on < (k.length : Int) := by omega
           have hkt : x.on.toNat < k.length := by omega
           have hk' : k[x.on.toNat]? = some (kAt k x.on) := by rw [List.getElem?_eq_getElem hkt]; simp [kAt, List.getD, List.getElem?_eq_getElem hkt]
           have hv : preE s x = 0 := hpre
           have hus : uStep u x = u := by simp [uStep, hk]
           have hks : kStep k x = k.set x.on.toNat false := by simp [kStep, hk]
           cases f : kAt k x.on
           ·rw [f] at hk'
            simp only [↓sxc, sx, se, ↓reduceIte, Nat.reduceEqDiff, Nat.reduceAdd, Nat.reduceLT, Nat.reduceLeDiff, Nat.reduceSub, Nat.reduceMul, Int.reduceToNat, Int.reduceLT, Int.reduceLE, Int.reduceEq, ml_i0, PX_ret, PX_nrm, hk, hz, hdd, o1, o2, h0, H.bp, H.bb, H.lb, hkl, hk', n1, f]
            refine ⟨by simp [holdE, stepE, hv, badE, hk, f], by simp only [bump_next, set_next]; omega, fun j h1 h2 => by simp [set_ne h2, bump_blk], by simp [hv, hus, Mem.set, Mem.bump, H.ab, H.ba], by simp [hv, hks, Mem.set, Mem.bump, List.map_set]⟩
           ·rw [f] at hk'
            simp only [↓sxc, sx, se, ↓reduceIte, Nat.reduceEqDiff, Nat.reduceAdd, Nat.reduceLT, Nat.reduceLeDiff, Nat.reduceSub, Nat.reduceMul, Int.reduceToNat, Int.reduceLT, Int.reduceLE, Int.reduceEq, ml_i0, PX_ret, PX_nrm, hk, hz, hdd, o1, o2, h0, H.bp, H.bb, H.lb, hkl, hk', n1, f]
            refine ⟨by simp [holdE, stepE, hv, badE, hk, f], by simp only [bump_next, set_next]; omega, fun j h1 h2 => by simp [set_ne h2, bump_blk], by simp [hv, hus, Mem.set, Mem.bump, H.ab, H.ba], by simp [hv, hks, Mem.set, Mem.bump, List.map_set]⟩
       ·have hv : preE s x = 1 := by simp [preE, hk, hz]
        simp only [↓sxc, sx, se, ↓reduceIte, Nat.reduceEqDiff, Nat.reduceAdd, Nat.reduceLT, Nat.reduceLeDiff, Nat.reduceSub, Nat.reduceMul, Int.reduceToNat, Int.reduceLT, Int.reduceLE, Int.reduceEq, ml_i0, PX_ret, PX_nrm, hk, hz]
        refine fin0 ?_ ?_ ?_ (fun _ => rfl) <;> simp [holdE, stepE, hv, bump_next]
      ·by_cases hk : x.kind = 5
       ·by_cases hz : x.cnt = 0
        ·cases hdd : x.deep with
         | true =>
          have hv : preE s x = 1 := by simp [preE, hk, hdd]
          simp only [↓sxc, sx, se, ↓reduceIte, Nat.reduceEqDiff, Nat.reduceAdd, Nat.reduceLT, Nat.reduceLeDiff, Nat.reduceSub, Nat.reduceMul, Int.reduceToNat, Int.reduceLT, Int.reduceLE, Int.reduceEq, ml_i0, PX_ret, PX_nrm, hk, hz, hdd]
          refine fin0 ?_ ?_ ?_ (fun _ => rfl) <;> simp [holdE, stepE, hv, bump_next]
         | false =>
          have hpre : preE s x = if x.on < 0 ∨ (s.cls.length : Int) ≤ x.on then 6 else 0 := by simp [preE, nOf, hk, hz, hdd]
          by_cases o1 : x.on < 0
          ·have hv : preE s x = 6 := by simp [hpre, o1]
           simp only [↓sxc, sx, se, ↓reduceIte, Nat.reduceEqDiff, Nat.reduceAdd, Nat.reduceLT, Nat.reduceLeDiff, Nat.reduceSub, Nat.reduceMul, Int.reduceToNat, Int.reduceLT, Int.reduceLE, Int.reduceEq, ml_i0, PX_ret, PX_nrm, hk, hz, hdd, o1]
           refine fin0 ?_ ?_ ?_ (fun _ => rfl) <;> simp [holdE, stepE, hv, bump_next]
          ·by_cases o2 : (s.cls.length : Int) ≤ x.on
           ·have hv : preE s x = 6 := by simp [hpre, o1, o2]
            simp only [↓sxc, sx, se, ↓reduceIte, Nat.reduceEqDiff, Nat.reduceAdd, Nat.reduceLT, Nat.reduceLeDiff, Nat.reduceSub, Nat.reduceMul, Int.reduceToNat, Int.reduceLT, Int.reduceLE, Int.reduceEq, ml_i0, PX_ret, PX_nrm, hk, hz, hdd, o1, o2]
            refine fin0 ?_ ?_ ?_ (fun _ => rfl) <;> simp [holdE, stepE, hv, bump_next]
           ·have h0 : 0 ≤ x.on := by omega
            have hp' : s.cls[x.on.toNat]? = some (s.cls[x.on.toNat]'(by omega)) := List.getElem?_eq_getElem _
            rw [if_neg (by omega)] at hpre
            generalize s.cls[x.on.toNat]'(by omega) = c at *
            have hs : srvAt s x.on = c.srv := by simp [srvAt, hp']
            have hv : preE s x = 0 := hpre
            have hus : uStep u x = u := by simp [uStep, hk]
            have hks : kStep k x = k := by simp [kStep, hk]
            cases f : c.srv
            ·simp only [↓sxc, sx, se, ↓reduceIte, Nat.reduceEqDiff, Nat.reduceAdd, Nat.reduceLT, Nat.reduceLeDiff, Nat.reduceSub, Nat.reduceMul, Int.reduceToNat, Int.reduceLT, Int.reduceLE, Int.reduceEq, ml_i0, PX_ret, PX_nrm, hk, hz, hdd, o1, o2, h0, hp', f]
             exact ⟨by simp [holdE, stepE, hv, badE, hk, hs, f], by simp [bump_next], fun j h1 h2 => rfl, by simp [hv, hus, Mem.bump, H.ba], by simp [hv, hks, Mem.bump, H.bb]⟩
            ·simp only [↓sxc, sx, se, ↓reduceIte, Nat.reduceEqDiff, Nat.reduceAdd, Nat.reduceLT, Nat.reduceLeDiff, Nat.reduceSub, Nat.reduceMul, Int.reduceToNat, Int.reduceLT, Int.reduceLE, Int.reduceEq, ml_i0, PX_ret, PX_nrm, hk, hz, hdd, o1, o2, h0, hp', f]
             exact ⟨by simp [holdE, stepE, hv, badE, hk, hs, f], by simp [bump_next], fun j h1 h2 => rfl, by simp [hv, hus, Mem.bump, H.ba], by simp [hv, hks, Mem.bump, H.bb]⟩
        ·have hv : preE s x = 1 := by simp [preE, hk, hz]
         simp only [↓sxc, sx, se, ↓reduceIte, Nat.reduceEqDiff, Nat.reduceAdd, Nat.reduceLT, Nat.reduceLeDiff, Nat.reduceSub, Nat.reduceMul, Int.reduceToNat, Int.reduceLT, Int.reduceLE, Int.reduceEq, ml_i0, PX_ret, PX_nrm, hk, hz]
         refine fin0 ?_ ?_ ?_ (fun _ => rfl) <;> simp [holdE, stepE, hv, bump_next]
       ·omega
end Go.Am
namespace Go.Am
open Go
set_option linter.unusedSimpArgs false
set_option linter.unusedVariables false
set_option maxRecDepth 100000
structure Rl (s : Sys) (pre : List Stp) (u : List Int) (k : List Bool) : Prop where
 ul : u.length = s.pools.length
 kl : k.length = s.locks.length
 u : ∀ j, j < s.pools.length → u[j]? = some (bal j 0 pre)
 k : ∀ j, j < s.locks.length → ∃ b, k[j]? = some b ∧ bal j 1 pre = if b = true then 1 else 0
theorem stepE_congr {s : Sys} {x : Stp} {b0 b1 c0 c1 : Int} (h0 : preE s x = 0 → (x.kind = 1 ∨ x.kind = 2) → b0 = c0) (h1 : preE s x = 0 → (x.kind = 3 ∨ x.kind = 4) → b1 = c1) : stepE s x b0 b1 = stepE s x c0 c1 := by
 unfold stepE
 by_cases hp : preE s x = 0
 ·simp only [hp, ne_eq, not_true, if_false]
  have : badE s x b0 b1 = badE s x c0 c1 := by
   unfold badE
   by_cases k1 : x.kind = 1
   ·simp only [k1, if_true, h0 hp (.inl k1)]
   ·by_cases k2 : x.kind = 2
    ·simp only [k1, k2, if_false, if_true, h0 hp (.inr k2)]
    ·by_cases k3 : x.kind = 3
     ·simp only [k1, k2, k3, if_false, if_true, h1 hp (.inl k3), Int.reduceEq]
     ·by_cases k4 : x.kind = 4
      ·simp only [k1, k2, k3, k4, if_false, if_true, h1 hp (.inr k4), Int.reduceEq]
      ·simp only [k1, k2, k3, k4, if_false]
  rw [this]
 ·simp only [hp, ne_eq, not_false_iff, if_true]
theorem preE_on {s : Sys} {x : Stp} (h : preE s x = 0) : 0 ≤ x.on ∧ x.on < nOf s x ∧ 1 ≤ x.kind ∧ x.kind ≤ 5 := by
 unfold preE at h
 split at h
 ·omega
 ·rename_i h1
  have k1 : ¬ x.kind < 1 := fun h => h1 (.inl h)
  have k2 : ¬ 5 < x.kind := fun h => h1 (.inr (.inl h))
  split at h
  ·omega
  ·omega
theorem Rl.uAt {s : Sys} {pre : List Stp} {u : List Int} {k : List Bool} (h : Rl s pre u k) {x : Stp} (hp : preE s x = 0) (hk : x.kind = 1 ∨ x.kind = 2) : Go.Am.uAt u x.on = bal x.on 0 pre ∧ x.on.toNat < u.length ∧ ((x.on.toNat : Nat) : Int) = x.on := by
 obtain ⟨o1, o2, _⟩ := preE_on hp
 have : nOf s x = s.pools.length := by
  unfold nOf
  rcases hk with hk | hk <;> simp [hk]
 have hlt : x.on.toNat < s.pools.length := by omega
 have := h.u _ hlt
 refine ⟨?_, by rw [h.ul]; exact hlt, by omega⟩
 unfold Go.Am.uAt
 rw [List.getD_eq_getElem?_getD, this, Option.getD_some]
 rw [show ((x.on.toNat : Nat) : Int) = x.on by omega]
theorem Rl.kAt {s : Sys} {pre : List Stp} {u : List Int} {k : List Bool} (h : Rl s pre u k) {x : Stp} (hp : preE s x = 0) (hk : x.kind = 3 ∨ x.kind = 4) : (if Go.Am.kAt k x.on = true then (1 : Int) else 0) = bal x.on 1 pre ∧ x.on.toNat < k.length ∧ ((x.on.toNat : Nat) : Int) = x.on := by
 obtain ⟨o1, o2, _⟩ := preE_on hp
 have : nOf s x = s.locks.length := by
  unfold nOf
  rcases hk with hk | hk <;> simp [hk]
 have hlt : x.on.toNat < s.locks.length := by omega
 obtain ⟨b, hb, hb2⟩ := h.k _ hlt
 refine ⟨?_, by rw [h.kl]; exact hlt, by omega⟩
 unfold Go.Am.kAt
 rw [List.getD_eq_getElem?_getD, hb, Option.getD_some]
 rw [show ((x.on.toNat : Nat) : Int) = x.on by omega] at hb2
 rw [hb2]
theorem Rl.holdE {s : Sys} {pre : List Stp} {u : List Int} {k : List Bool} (h : Rl s pre u k) (x : Stp) : Go.Am.holdE s u k x = stepE s x (bal x.on 0 pre) (bal x.on 1 pre) := by
 unfold Go.Am.holdE
 exact stepE_congr (fun hp hk => (h.uAt hp hk).1) (fun hp hk => (h.kAt hp hk).1)
theorem stepE_zero {s : Sys} {x : Stp} {b0 b1 : Int} (h : stepE s x b0 b1 = 0) : preE s x = 0 ∧ badE s x b0 b1 = false := by
 unfold stepE at h
 split at h
 ·rename_i h1; exact absurd h h1
 ·rename_i h1
  split at h
  ·omega
  ·rename_i h2; exact ⟨by simpa using h1, by simpa using h2⟩
theorem bal_one {on kind : Int} {pre : List Stp} {x : Stp} : bal on kind (pre ++ [x]) = bal on kind pre + delta on kind x := by
 rw [bal_append]
 simp [bal]
theorem Rl.step {s : Sys} {pre : List Stp} {u : List Int} {k : List Bool} (h : Rl s pre u k) {x : Stp} (he : stepE s x (bal x.on 0 pre) (bal x.on 1 pre) = 0) : Rl s (pre ++ [x]) (uStep u x) (kStep k x) := by
 obtain ⟨hp, hb⟩ := stepE_zero he
 refine ⟨by rw [uStep_len]; exact h.ul, by rw [kStep_len]; exact h.kl, fun j hj => ?_, fun j hj => ?_⟩
 ·rw [bal_one]
  have hu := h.u j hj
  unfold uStep
  by_cases k1 : x.kind = 1
  ·obtain ⟨a1, a2, a3⟩ := h.uAt hp (.inl k1)
   rw [if_pos k1, List.getElem?_set]
   by_cases e : x.on.toNat = j
   ·rw [if_pos e, if_pos a2, a1]
    have e2 : x.on = (j : Int) := by omega
    simp [delta, k1, e2]
   ·rw [if_neg e, hu]
    have : ¬ x.on = (j : Int) := by omega
    simp [delta, this]
  ·by_cases k2 : x.kind = 2
   ·obtain ⟨a1, a2, a3⟩ := h.uAt hp (.inr k2)
    rw [if_neg k1, if_pos k2, List.getElem?_set]
    by_cases e : x.on.toNat = j
    ·rw [if_pos e, if_pos a2, a1]
     have e2 : x.on = (j : Int) := by omega
     simp [delta, k2, e2]
     omega
    ·rw [if_neg e, hu]
     have : ¬ x.on = (j : Int) := by omega
     simp [delta, this]
   ·rw [if_neg k1, if_neg k2, hu]
    simp [delta, k1, k2]
 ·rw [bal_one]
  obtain ⟨b, hk, hk2⟩ := h.k j hj
  unfold kStep
  by_cases k3 : x.kind = 3
  ·obtain ⟨a1, a2, a3⟩ := h.kAt hp (.inl k3)
   rw [if_pos k3, List.getElem?_set]
   by_cases e : x.on.toNat = j
   ·have e2 : x.on = (j : Int) := by omega
    refine ⟨true, by rw [if_pos e, if_pos a2], ?_⟩
    simp [badE, k3] at hb
    rw [← a1] at hb
    rw [← e2, ← a1]
    have : ¬ Go.Am.kAt k x.on = true := by
     intro h1
     rw [if_pos h1] at hb
     omega
    rw [if_neg this]
    simp [delta, k3]
   ·refine ⟨b, by rw [if_neg e, hk], ?_⟩
    have : ¬ x.on = (j : Int) := by omega
    rw [hk2]
    simp [delta, this]
  ·by_cases k4 : x.kind = 4
   ·obtain ⟨a1, a2, a3⟩ := h.kAt hp (.inr k4)
    rw [if_neg k3, if_pos k4, List.getElem?_set]
    by_cases e : x.on.toNat = j
    ·have e2 : x.on = (j : Int) := by omega
     refine ⟨false, by rw [if_pos e, if_pos a2], ?_⟩
     simp [badE, k4] at hb
     rw [← a1] at hb
     rw [← e2, ← a1]
     have : Go.Am.kAt k x.on = true := by
      apply Classical.byContradiction
      intro h1
      rw [if_neg h1] at hb
      omega
     rw [if_pos this]
     simp [delta, k4]
    ·refine ⟨b, by rw [if_neg e, hk], ?_⟩
     have : ¬ x.on = (j : Int) := by omega
     rw [hk2]
     simp [delta, this]
   ·refine ⟨b, by rw [if_neg k3, if_neg k4, hk], ?_⟩
    rw [hk2]
    simp [delta, k3, k4]
theorem Rl.start {s : Sys} : Rl s [] (List.replicate s.pools.length 0) (List.replicate s.locks.length false) :=
 ⟨by simp, by simp, fun j hj => by simp [hj, bal], fun j hj => ⟨false, by simp [hj], by simp [bal]⟩⟩
theorem Rl.over0 {s : Sys} {pre : List Stp} {u : List Int} {k : List Bool} (h : Rl s pre u k) : u.any (fun n => decide (0 < n)) = over pre 0 s.pools.length := by
 unfold over
 rw [Bool.eq_iff_iff, List.any_eq_true, List.any_eq_true]
 constructor
 ·rintro ⟨n, hn, h0⟩
  obtain ⟨j, hj, rfl⟩ := List.getElem_of_mem hn
  have := h.u j (by rw [← h.ul]; exact hj)
  rw [List.getElem?_eq_getElem hj] at this
  refine ⟨j, List.mem_range.2 (by rw [← h.ul]; exact hj), ?_⟩
  rw [← Option.some.inj this]
  exact h0
 ·rintro ⟨j, hj, h0⟩
  exact ⟨_, List.mem_of_getElem? (h.u j (List.mem_range.1 hj)), h0⟩
theorem Rl.over1 {s : Sys} {pre : List Stp} {u : List Int} {k : List Bool} (h : Rl s pre u k) : k.any (fun b => decide (true = b)) = over pre 1 s.locks.length := by
 unfold over
 rw [Bool.eq_iff_iff, List.any_eq_true, List.any_eq_true]
 constructor
 ·rintro ⟨n, hn, h0⟩
  obtain ⟨j, hj, rfl⟩ := List.getElem_of_mem hn
  obtain ⟨b, h1, h2⟩ := h.k j (by rw [← h.kl]; exact hj)
  rw [List.getElem?_eq_getElem hj] at h1
  refine ⟨j, List.mem_range.2 (by rw [← h.kl]; exact hj), ?_⟩
  simp at h0
  rw [h2, ← Option.some.inj h1, if_pos h0]
  rfl
 ·rintro ⟨j, hj, h0⟩
  obtain ⟨b, h1, h2⟩ := h.k j (List.mem_range.1 hj)
  refine ⟨_, List.mem_of_getElem? h1, ?_⟩
  cases b with
  | true => rfl
  | false => rw [h2] at h0; simp at h0
theorem sp114 {F : Nat → Option Fn} (hA : HasA F) {lo : Nat} {m : Mem} (s : Sys) (c : Cls) (hp : ∀ p ∈ s.pools, p.size ≤ 1000) (h1 : s.pools.length < 100) (h2 : s.locks.length < 100) : callw F 114 [vSys s, vCls c] lo m = some (vi (clsE s c), m) := by
 have loop : c.steps.length < 100 → ∀ (p a b : Nat) (t : List Stp) (i : Nat) (u : List Int) (k : List Bool) (m' : Mem) (Q : Ex → St → Prop), c.steps.drop i = t → Rl s (c.steps.take i) u k → Hd m.next m' p a b u k → (∀ x ∈ c.steps.take i, -1000 ≤ x.cnt ∧ x.cnt ≤ 1000) →
   (stepsE s (c.steps.take i) t ≠ 0 → ∀ m', Q .ret ⟨[(4, vi (stepsE s (c.steps.take i) t))], [], [], m'⟩) →
   (stepsE s (c.steps.take i) t = 0 → ∀ u k m' e, Rl s c.steps u k → Hd m.next m' p a b u k → Q (.exit 0) ⟨(5, .ptr p 0 0) :: e, [(2, vSys s)], [], m'⟩) →
   W F m.next L114_1 ⟨[(5, .ptr p 0 0), (30, vStps c.steps), (31, vi c.steps.length), (32, vi i)], [(2, vSys s)], [], m'⟩ Q := by
  intro hlen p a b t
  induction t with
  | nil =>
   intro i u k m' Q hd hr hh hb q1 q2
   have hlt := drop_nil hd
   rw [W_L (c := L114_1) rfl]
   have : ¬ ((i : Nat) : Int) < (c.steps.length : Int) := by omega
   simp only [↓sxc, sx, se, ↓reduceIte, Nat.reduceEqDiff, Nat.reduceAdd, Nat.reduceLT, Nat.reduceLeDiff, Nat.reduceSub, Nat.reduceMul, Int.reduceToNat, Int.reduceLT, Int.reduceLE, Int.reduceEq, ml_i0, this]
   rw [List.take_of_length_le hlt] at hr
   exact q2 rfl u k m' _ hr hh
  | cons x t ih =>
   intro i u k m' Q hd hr hh hb q1 q2
   obtain ⟨hg, hd', hlt⟩ := drop_cons hd
   rw [W_L (c := L114_1) rfl]
   have : ((i : Nat) : Int) < (c.steps.length : Int) := by omega
   have wr : wrapF .i64 ((i : Int) + 1) = ((i + 1 : Nat) : Int) := by rw [wr_i64 (by omega) (by omega)]; rfl
   have hub : ∀ n ∈ u, -1000000 ≤ n ∧ n ≤ 1000000 := by
    intro n hn
    obtain ⟨j, hj, rfl⟩ := List.getElem_of_mem hn
    have h3 := hr.u j (by rw [← hr.ul]; exact hj)
    rw [List.getElem?_eq_getElem hj] at h3
    rw [Option.some.inj h3]
    have := bal_bd (on := j) (kind := 0) hb
    rw [List.length_take] at this
    have : min i c.steps.length ≤ 100 := by omega
    omega
   obtain ⟨v, m'', hc, ho⟩ := sp122 hA (lo := m.next) s x hh hr.ul hr.kl hp hub
   have hv := ho.res
   rw [hr.holdE] at hv
   subst hv
   unfold stepsE at q1 q2
   by_cases he : stepE s x (bal x.on 0 (c.steps.take i)) (bal x.on 1 (c.steps.take i)) = 0
   ·rw [if_neg (by simpa using he)] at q1 q2
    simp only [↓sxc, sx, se, ↓reduceIte, Nat.reduceEqDiff, Nat.reduceAdd, Nat.reduceLT, Nat.reduceLeDiff, Nat.reduceSub, Nat.reduceMul, Int.reduceToNat, Int.reduceLT, Int.reduceLE, Int.reduceEq, ml_i0, this, hg, hc, he, wr]
    have hpr := (stepE_zero he).1
    have hr' := hr.step he
    rw [← take_succ_drop hd] at q1 q2 hr'
    refine ih (i + 1) (uStep u x) (kStep k x) m'' Q hd' hr' ?_ (fun y hy => ?_) q1 q2
    ·have hba := ho.ba
     have hbb := ho.bb
     rw [if_pos hpr] at hba hbb
     have hn := ho.nx
     exact ⟨hh.pa, hh.pb, hh.ab, hh.lp, hh.la, hh.lb, Nat.lt_of_lt_of_le hh.hp hn, Nat.lt_of_lt_of_le hh.ha hn, Nat.lt_of_lt_of_le hh.hb hn, by rw [ho.oth p hh.pa hh.pb, uStep_len, kStep_len]; exact hh.bp, hba, hbb⟩
    ·rw [take_succ_drop hd] at hy
     rcases List.mem_append.1 hy with hy | hy
     ·exact hb y hy
     ·simp at hy
      subst hy
      exact stepE_cnt he hp
   ·rw [if_pos he] at q1
    simp only [↓sxc, sx, se, ↓reduceIte, Nat.reduceEqDiff, Nat.reduceAdd, Nat.reduceLT, Nat.reduceLeDiff, Nat.reduceSub, Nat.reduceMul, Int.reduceToNat, Int.reduceLT, Int.reduceLE, Int.reduceEq, ml_i0, this, hg, hc, he]
    exact q1 he _
 refine call_p hA.h114 rfl ?_
 by_cases w1 : c.wk < 0
 ·have e : clsE s c = 2 := by simp [clsE, w1]
  simp only [↓sxc, sx, se, ↓reduceIte, Nat.reduceEqDiff, Nat.reduceAdd, Nat.reduceLT, Nat.reduceLeDiff, Nat.reduceSub, Nat.reduceMul, Int.reduceToNat, Int.reduceLT, Int.reduceLE, Int.reduceEq, ml_i0, w1, e]
 ·by_cases w2 : 4 < c.wk
  ·have e : clsE s c = 2 := by simp [clsE, w2]
   simp only [↓sxc, sx, se, ↓reduceIte, Nat.reduceEqDiff, Nat.reduceAdd, Nat.reduceLT, Nat.reduceLeDiff, Nat.reduceSub, Nat.reduceMul, Int.reduceToNat, Int.reduceLT, Int.reduceLE, Int.reduceEq, ml_i0, w1, w2, e]
  ·by_cases l1 : (c.steps.length : Int) < 1
   ·have e : clsE s c = 9 := by
     have : c.steps.length < 1 := by omega
     simp only [clsE, w1, w2, or_self, if_false, this, true_or, if_true]
    simp only [↓sxc, sx, se, ↓reduceIte, Nat.reduceEqDiff, Nat.reduceAdd, Nat.reduceLT, Nat.reduceLeDiff, Nat.reduceSub, Nat.reduceMul, Int.reduceToNat, Int.reduceLT, Int.reduceLE, Int.reduceEq, ml_i0, w1, w2, l1, e]
   ·by_cases l2 : 12 < (c.steps.length : Int)
    ·have e : clsE s c = 9 := by
      have : 12 < c.steps.length := by omega
      simp only [clsE, w1, w2, or_self, if_false, this, or_true, if_true]
     simp only [↓sxc, sx, se, ↓reduceIte, Nat.reduceEqDiff, Nat.reduceAdd, Nat.reduceLT, Nat.reduceLeDiff, Nat.reduceSub, Nat.reduceMul, Int.reduceToNat, Int.reduceLT, Int.reduceLE, Int.reduceEq, ml_i0, w1, w2, l1, l2, e]
    ·have hlen : c.steps.length < 100 := by omega
     have e : clsE s c = if stepsE s [] c.steps ≠ 0 then stepsE s [] c.steps else if over c.steps 0 s.pools.length = true then 11 else if over c.steps 1 s.locks.length = true then 11 else 0 := by
      have a1 : ¬ c.steps.length < 1 := by omega
      have a2 : ¬ 12 < c.steps.length := by omega
      simp only [clsE, w1, w2, or_self, if_false, a1, a2]
     obtain ⟨v, m1, hc, a, b, rfl, hab, la, lb, ha, hb, hba, hbb, hold⟩ := sp121 hA (lo := m.next) (m := m) s h1 h2
     have hml : m.next ≤ m1.next := by omega
     simp only [↓sxc, sx, se, ↓reduceIte, Nat.reduceEqDiff, Nat.reduceAdd, Nat.reduceLT, Nat.reduceLeDiff, Nat.reduceSub, Nat.reduceMul, Int.reduceToNat, Int.reduceLT, Int.reduceLE, Int.reduceEq, ml_i0, w1, w2, l1, l2, hc, hml]
     have na : a ≠ m1.next := by omega
     have nb : b ≠ m1.next := by omega
     refine loop hlen m1.next a b c.steps 0 (List.replicate s.pools.length 0) (List.replicate s.locks.length false) _ _ rfl Rl.start ⟨na.symm, nb.symm, hab, by omega, la, lb, Nat.lt_succ_self _, Nat.lt_succ_of_lt ha, Nat.lt_succ_of_lt hb, by simp [Mem.set], by simp [Mem.set, Mem.bump, na, hba], by simp [Mem.set, Mem.bump, nb, hbb]⟩ (by simp) (fun h m' => ?_) (fun h u k m' e1 hr hh => ?_)
     ·rw [if_pos (by simpa using h)] at e
      simp only [↓sxc, sx, se, ↓reduceIte, Nat.reduceEqDiff, Nat.reduceAdd, Nat.reduceLT, Nat.reduceLeDiff, Nat.reduceSub, Nat.reduceMul, Int.reduceToNat, Int.reduceLT, Int.reduceLE, Int.reduceEq, ml_i0, e]
     ·rw [if_neg (by simpa using h)] at e
      have hS1 : Sl m' 1 (.row 1 b 0 k.length) (k.map .bool) := by
       have := Sl.row hh.bb
       rw [List.length_map] at this
       exact this
      have hS0 : Sl m' 1 (.row 1 a 0 u.length) (u.map vi) := by
       have := Sl.row hh.ba
       rw [List.length_map] at this
       exact this
      have c1 := sx154 hA (lo := m.next) k true hS1 (by rw [hr.kl]; omega)
      have c0 := sx120 hA (lo := m.next) u (f := 155) (cs := []) (p := fun n => decide (0 < n)) hS0 ⟨by decide, fun x _ lo m => sp155 hA x⟩ (by rw [hr.ul]; omega)
      rw [hr.over1] at c1
      rw [hr.over0] at c0
      cases o1 : over c.steps 1 s.locks.length with
      | true =>
       have e' : clsE s c = 11 := by
        rw [e, o1]
        by_cases o0 : over c.steps 0 s.pools.length = true <;> simp [o0]
       rw [o1] at c1
       simp only [↓sxc, sx, se, ↓reduceIte, Nat.reduceEqDiff, Nat.reduceAdd, Nat.reduceLT, Nat.reduceLeDiff, Nat.reduceSub, Nat.reduceMul, Int.reduceToNat, Int.reduceLT, Int.reduceLE, Int.reduceEq, ml_i0, hh.bp, c1, e']
      | false =>
       rw [o1] at c1
       cases o0 : over c.steps 0 s.pools.length with
       | true =>
        have e' : clsE s c = 11 := by rw [e, o0]; simp
        rw [o0] at c0
        simp only [↓sxc, sx, se, ↓reduceIte, Nat.reduceEqDiff, Nat.reduceAdd, Nat.reduceLT, Nat.reduceLeDiff, Nat.reduceSub, Nat.reduceMul, Int.reduceToNat, Int.reduceLT, Int.reduceLE, Int.reduceEq, ml_i0, hh.bp, c1, c0, e']
       | false =>
        have e' : clsE s c = 0 := by rw [e, o0, o1]; simp
        rw [o0] at c0
        simp only [↓sxc, sx, se, ↓reduceIte, Nat.reduceEqDiff, Nat.reduceAdd, Nat.reduceLT, Nat.reduceLeDiff, Nat.reduceSub, Nat.reduceMul, Int.reduceToNat, Int.reduceLT, Int.reduceLE, Int.reduceEq, ml_i0, hh.bp, c1, c0, e']
end Go.Am
namespace Go.Am
open Go
set_option linter.unusedSimpArgs false
set_option linter.unusedVariables false
set_option maxRecDepth 100000
theorem any_comm {l : List (List UInt8)} {x : List UInt8} : (l.any fun y => decide (x = y)) = l.any fun y => decide (y = x) := by
 congr 1
 funext y
 rw [Bool.eq_iff_iff]
 simp only [decide_eq_true_iff]
 exact eq_comm
theorem sp49 {F : Nat → Option Fn} (hA : HasA F) {lo : Nat} {m : Mem} (s : Sys) : callw F 49 [vSys s] lo m = some (vi (chkE s), m) := by
 have loop1 : ∀ (l : List (List UInt8)), l.length < 100 → ∀ (t : List (List UInt8)) (i : Nat) (Q : Ex → St → Prop), l.drop i = t →
   (nmE (l.take i) t ≠ 0 → Q .ret ⟨[(2, vi (nmE (l.take i) t))], [], [], m⟩) →
   (nmE (l.take i) t = 0 → ∀ e, Q (.exit 0) ⟨(3, strs l) :: e, [(1, vSys s)], [], m⟩) →
   W F m.next L49_1 ⟨[(3, strs l), (29, strs l), (30, vi l.length), (31, vi i)], [(1, vSys s)], [], m⟩ Q := by
  intro l hlen t
  induction t with
  | nil =>
   intro i Q hd h1 h2
   have hlt := drop_nil hd
   rw [W_L (c := L49_1) rfl]
   have : ¬ ((i : Nat) : Int) < (l.length : Int) := by omega
   simp only [↓sxc, sx, se, ↓reduceIte, Nat.reduceEqDiff, Nat.reduceAdd, Nat.reduceLT, Nat.reduceLeDiff, Nat.reduceSub, Nat.reduceMul, Int.reduceToNat, Int.reduceLT, Int.reduceLE, Int.reduceEq, ml_i0, this]
   exact h2 rfl _
  | cons x t ih =>
   intro i Q hd h1 h2
   obtain ⟨hg, hd', hlt⟩ := drop_cons hd
   rw [W_L (c := L49_1) rfl]
   have : ((i : Nat) : Int) < (l.length : Int) := by omega
   have hle : i ≤ l.length := by omega
   have wr : wrapF .i64 ((i : Int) + 1) = ((i + 1 : Nat) : Int) := by rw [wr_i64 (by omega) (by omega)]; rfl
   have c1 : ∀ {lo m}, callw F 112 [.str x] lo m = some (.bool (isNm x), m) := fun {lo m} => sp112 hA x
   have c2 : ∀ {lo m}, callw F 113 [strs (l.take i), .str x] lo m = some (.bool ((l.take i).any fun y => decide (y = x)), m) := fun {lo m} => by
    rw [← any_comm]
    exact sx113 hA (l.take i) x Sl.strs (by simp; omega)
   unfold nmE at h1 h2
   cases he : isNm x with
   | false =>
    rw [if_pos he] at h1
    simp only [↓sxc, sx, se, ↓reduceIte, Nat.reduceEqDiff, Nat.reduceAdd, Nat.reduceLT, Nat.reduceLeDiff, Nat.reduceSub, Nat.reduceMul, Int.reduceToNat, Int.reduceLT, Int.reduceLE, Int.reduceEq, ml_i0, this, hg, c1, he]
    exact h1 (by omega)
   | true =>
    rw [if_neg (by rw [he]; simp)] at h1 h2
    cases hb : (l.take i).any fun y => decide (y = x) with
    | true =>
     rw [if_pos hb] at h1
     simp only [↓sxc, sx, se, ↓reduceIte, Nat.reduceEqDiff, Nat.reduceAdd, Nat.reduceLT, Nat.reduceLeDiff, Nat.reduceSub, Nat.reduceMul, Int.reduceToNat, Int.reduceLT, Int.reduceLE, Int.reduceEq, ml_i0, this, hle, hg, c1, he, c2, hb]
     exact h1 (by omega)
    | false =>
     rw [if_neg (by rw [hb]; simp)] at h1 h2
     simp only [↓sxc, sx, se, ↓reduceIte, Nat.reduceEqDiff, Nat.reduceAdd, Nat.reduceLT, Nat.reduceLeDiff, Nat.reduceSub, Nat.reduceMul, Int.reduceToNat, Int.reduceLT, Int.reduceLE, Int.reduceEq, ml_i0, this, hle, hg, c1, he, c2, hb, wr]
     rw [← take_succ_drop hd] at h1 h2
     exact ih (i + 1) Q hd' h1 h2
 have loop2 : s.pools.length < 100 → ∀ (t : List Pool) (i : Nat) (Q : Ex → St → Prop), s.pools.drop i = t →
   (t.any poolBad = true → Q .ret ⟨[(2, vi 2)], [], [], m⟩) →
   (t.any poolBad = false → ∀ e, Q (.exit 2) ⟨e, [(1, vSys s)], [], m⟩) →
   W F m.next L49_2 ⟨[(46, vPools s.pools), (47, vi s.pools.length), (48, vi i)], [(1, vSys s)], [], m⟩ Q := by
  intro hlen t
  induction t with
  | nil =>
   intro i Q hd h1 h2
   have hlt := drop_nil hd
   rw [W_L (c := L49_2) rfl]
   have : ¬ ((i : Nat) : Int) < (s.pools.length : Int) := by omega
   simp only [↓sxc, sx, se, ↓reduceIte, Nat.reduceEqDiff, Nat.reduceAdd, Nat.reduceLT, Nat.reduceLeDiff, Nat.reduceSub, Nat.reduceMul, Int.reduceToNat, Int.reduceLT, Int.reduceLE, Int.reduceEq, ml_i0, this]
   exact h2 rfl _
  | cons x t ih =>
   intro i Q hd h1 h2
   obtain ⟨hg, hd', hlt⟩ := drop_cons hd
   rw [W_L (c := L49_2) rfl]
   have : ((i : Nat) : Int) < (s.pools.length : Int) := by omega
   have wr : wrapF .i64 ((i : Int) + 1) = ((i + 1 : Nat) : Int) := by rw [wr_i64 (by omega) (by omega)]; rfl
   have ih' := ih (i + 1) Q hd'
   rw [List.any_cons] at h1 h2
   by_cases p1 : x.size < 1
   ·simp only [↓sxc, sx, se, ↓reduceIte, Nat.reduceEqDiff, Nat.reduceAdd, Nat.reduceLT, Nat.reduceLeDiff, Nat.reduceSub, Nat.reduceMul, Int.reduceToNat, Int.reduceLT, Int.reduceLE, Int.reduceEq, ml_i0, this, hg, p1]
    exact h1 (by simp [poolBad, p1])
   ·by_cases p2 : 8 < x.size
    ·simp only [↓sxc, sx, se, ↓reduceIte, Nat.reduceEqDiff, Nat.reduceAdd, Nat.reduceLT, Nat.reduceLeDiff, Nat.reduceSub, Nat.reduceMul, Int.reduceToNat, Int.reduceLT, Int.reduceLE, Int.reduceEq, ml_i0, this, hg, p1, p2]
     exact h1 (by simp [poolBad, p2])
    ·by_cases p3 : x.res < 0
     ·simp only [↓sxc, sx, se, ↓reduceIte, Nat.reduceEqDiff, Nat.reduceAdd, Nat.reduceLT, Nat.reduceLeDiff, Nat.reduceSub, Nat.reduceMul, Int.reduceToNat, Int.reduceLT, Int.reduceLE, Int.reduceEq, ml_i0, this, hg, p1, p2, p3]
      exact h1 (by simp [poolBad, p3])
     ·by_cases p4 : x.size < x.res
      ·simp only [↓sxc, sx, se, ↓reduceIte, Nat.reduceEqDiff, Nat.reduceAdd, Nat.reduceLT, Nat.reduceLeDiff, Nat.reduceSub, Nat.reduceMul, Int.reduceToNat, Int.reduceLT, Int.reduceLE, Int.reduceEq, ml_i0, this, hg, p1, p2, p3, p4]
       exact h1 (by simp [poolBad, p4])
      ·have pb : poolBad x = false := by
        unfold poolBad
        simp only [p1, p2, p3, p4, decide_false, Bool.or_self]
       rw [pb, Bool.false_or] at h1 h2
       simp only [↓sxc, sx, se, ↓reduceIte, Nat.reduceEqDiff, Nat.reduceAdd, Nat.reduceLT, Nat.reduceLeDiff, Nat.reduceSub, Nat.reduceMul, Int.reduceToNat, Int.reduceLT, Int.reduceLE, Int.reduceEq, ml_i0, this, hg, p1, p2, p3, p4, wr]
       exact ih' h1 h2
 have loop3 : s.cls.length < 100 → s.pools.length < 100 → s.locks.length < 100 → (∀ p ∈ s.pools, p.size ≤ 1000) → ∀ (t : List Cls) (i : Nat) (Q : Ex → St → Prop), s.cls.drop i = t →
   (firstE (clsE s) t ≠ 0 → Q .ret ⟨[(2, vi (firstE (clsE s) t))], [], [], m⟩) →
   (firstE (clsE s) t = 0 → ∀ e, Q (.exit 4) ⟨e, [(1, vSys s)], [], m⟩) →
   W F m.next L49_3 ⟨[(74, vClss s.cls), (75, vi s.cls.length), (76, vi i)], [(1, vSys s)], [], m⟩ Q := by
  intro hlen hlp hll hp t
  induction t with
  | nil =>
   intro i Q hd h1 h2
   have hlt := drop_nil hd
   rw [W_L (c := L49_3) rfl]
   have : ¬ ((i : Nat) : Int) < (s.cls.length : Int) := by omega
   simp only [↓sxc, sx, se, ↓reduceIte, Nat.reduceEqDiff, Nat.reduceAdd, Nat.reduceLT, Nat.reduceLeDiff, Nat.reduceSub, Nat.reduceMul, Int.reduceToNat, Int.reduceLT, Int.reduceLE, Int.reduceEq, ml_i0, this]
   exact h2 rfl _
  | cons x t ih =>
   intro i Q hd h1 h2
   obtain ⟨hg, hd', hlt⟩ := drop_cons hd
   rw [W_L (c := L49_3) rfl]
   have : ((i : Nat) : Int) < (s.cls.length : Int) := by omega
   have wr : wrapF .i64 ((i : Int) + 1) = ((i + 1 : Nat) : Int) := by rw [wr_i64 (by omega) (by omega)]; rfl
   have c1 : ∀ {lo m}, callw F 114 [vSys s, vCls x] lo m = some (vi (clsE s x), m) := fun {lo m} => sp114 hA s x hp hlp hll
   unfold firstE at h1 h2
   by_cases he : clsE s x = 0
   ·rw [if_neg (by simpa using he)] at h1 h2
    simp only [↓sxc, sx, se, ↓reduceIte, Nat.reduceEqDiff, Nat.reduceAdd, Nat.reduceLT, Nat.reduceLeDiff, Nat.reduceSub, Nat.reduceMul, Int.reduceToNat, Int.reduceLT, Int.reduceLE, Int.reduceEq, ml_i0, this, hg, c1, he, wr]
    exact ih (i + 1) Q hd' h1 h2
   ·rw [if_pos he] at h1
    simp only [↓sxc, sx, se, ↓reduceIte, Nat.reduceEqDiff, Nat.reduceAdd, Nat.reduceLT, Nat.reduceLeDiff, Nat.reduceSub, Nat.reduceMul, Int.reduceToNat, Int.reduceLT, Int.reduceLE, Int.reduceEq, ml_i0, this, hg, c1, he]
    exact h1 he
 refine call_p hA.h49 rfl ?_
 by_cases l1 : 6 < (s.pools.length : Int)
 ·have e : chkE s = 9 := by
   have : 6 < s.pools.length := by omega
   simp only [chkE, this, true_or, if_true]
  simp only [↓sxc, sx, se, ↓reduceIte, Nat.reduceEqDiff, Nat.reduceAdd, Nat.reduceLT, Nat.reduceLeDiff, Nat.reduceSub, Nat.reduceMul, Int.reduceToNat, Int.reduceLT, Int.reduceLE, Int.reduceEq, ml_i0, l1, e]
 ·by_cases l2 : 4 < (s.locks.length : Int)
  ·have e : chkE s = 9 := by
    have : 4 < s.locks.length := by omega
    simp only [chkE, this, true_or, or_true, if_true]
   simp only [↓sxc, sx, se, ↓reduceIte, Nat.reduceEqDiff, Nat.reduceAdd, Nat.reduceLT, Nat.reduceLeDiff, Nat.reduceSub, Nat.reduceMul, Int.reduceToNat, Int.reduceLT, Int.reduceLE, Int.reduceEq, ml_i0, l1, l2, e]
  ·by_cases l3 : 6 < (s.cls.length : Int)
   ·have e : chkE s = 9 := by
     have : 6 < s.cls.length := by omega
     simp only [chkE, this, or_true, if_true]
    simp only [↓sxc, sx, se, ↓reduceIte, Nat.reduceEqDiff, Nat.reduceAdd, Nat.reduceLT, Nat.reduceLeDiff, Nat.reduceSub, Nat.reduceMul, Int.reduceToNat, Int.reduceLT, Int.reduceLE, Int.reduceEq, ml_i0, l1, l2, l3, e]
   ·have e : chkE s = if nmE [] (namesOf s) ≠ 0 then nmE [] (namesOf s) else if s.pools.any poolBad = true then 2 else firstE (clsE s) s.cls := by
     have a1 : ¬ 6 < s.pools.length := by omega
     have a2 : ¬ 4 < s.locks.length := by omega
     have a3 : ¬ 6 < s.cls.length := by omega
     simp only [chkE, a1, a2, a3, or_self, if_false]
    have c0 : ∀ {lo m}, callw F 111 [vSys s] lo m = some (strs (namesOf s), m) := fun {lo m} => sp111 hA s (by omega) (by omega) (by omega)
    simp only [↓sxc, sx, se, ↓reduceIte, Nat.reduceEqDiff, Nat.reduceAdd, Nat.reduceLT, Nat.reduceLeDiff, Nat.reduceSub, Nat.reduceMul, Int.reduceToNat, Int.reduceLT, Int.reduceLE, Int.reduceEq, ml_i0, l1, l2, l3, c0]
    refine loop1 (namesOf s) (by rw [names_len]; omega) (namesOf s) 0 _ rfl (fun h => ?_) (fun h e1 => ?_)
    ·rw [if_pos (by simpa using h)] at e
     simp only [↓sxc, sx, se, ↓reduceIte, Nat.reduceEqDiff, Nat.reduceAdd, Nat.reduceLT, Nat.reduceLeDiff, Nat.reduceSub, Nat.reduceMul, Int.reduceToNat, Int.reduceLT, Int.reduceLE, Int.reduceEq, ml_i0, e]
    ·rw [if_neg (by simpa using h)] at e
     simp only [↓sxc, sx, se, ↓reduceIte, Nat.reduceEqDiff, Nat.reduceAdd, Nat.reduceLT, Nat.reduceLeDiff, Nat.reduceSub, Nat.reduceMul, Int.reduceToNat, Int.reduceLT, Int.reduceLE, Int.reduceEq, ml_i0]
     refine loop2 (by omega) s.pools 0 _ rfl (fun h => ?_) (fun h e1 => ?_)
     ·rw [if_pos h] at e
      simp only [↓sxc, sx, se, ↓reduceIte, Nat.reduceEqDiff, Nat.reduceAdd, Nat.reduceLT, Nat.reduceLeDiff, Nat.reduceSub, Nat.reduceMul, Int.reduceToNat, Int.reduceLT, Int.reduceLE, Int.reduceEq, ml_i0, e]
     ·rw [if_neg (by rw [h]; simp)] at e
      simp only [↓sxc, sx, se, ↓reduceIte, Nat.reduceEqDiff, Nat.reduceAdd, Nat.reduceLT, Nat.reduceLeDiff, Nat.reduceSub, Nat.reduceMul, Int.reduceToNat, Int.reduceLT, Int.reduceLE, Int.reduceEq, ml_i0]
      have hp : ∀ p ∈ s.pools, p.size ≤ 1000 := fun p hpm => by
       have := List.any_eq_false.1 h p hpm
       simp [poolBad] at this
       omega
      refine loop3 (by omega) (by omega) (by omega) hp s.cls 0 _ rfl (fun h => ?_) (fun h e1 => ?_)
      ·simp only [↓sxc, sx, se, ↓reduceIte, Nat.reduceEqDiff, Nat.reduceAdd, Nat.reduceLT, Nat.reduceLeDiff, Nat.reduceSub, Nat.reduceMul, Int.reduceToNat, Int.reduceLT, Int.reduceLE, Int.reduceEq, ml_i0, e]
      ·rw [h] at e
       simp only [↓sxc, sx, se, ↓reduceIte, Nat.reduceEqDiff, Nat.reduceAdd, Nat.reduceLT, Nat.reduceLeDiff, Nat.reduceSub, Nat.reduceMul, Int.reduceToNat, Int.reduceLT, Int.reduceLE, Int.reduceEq, ml_i0, e]
def few (s : Sys) : Bool := decide (s.pools.length ≤ 10) && decide (s.locks.length ≤ 10) && decide (s.cls.length ≤ 10) && s.cls.all fun c => decide (c.steps.length ≤ 20)
theorem sp28 {F : Nat → Option Fn} (hA : HasA F) {lo : Nat} {m : Mem} (s : Sys) : callw F 28 [vSys s] lo m = some (.bool (few s), m) := by
 have loop : s.cls.length < 100 → ∀ (t : List Cls) (i : Nat) (Q : Ex → St → Prop), s.cls.drop i = t →
   (t.all (fun c => decide (c.steps.length ≤ 20)) = false → Q .ret ⟨[(2, .bool false)], [], [], m⟩) →
   (t.all (fun c => decide (c.steps.length ≤ 20)) = true → ∀ e, Q (.exit 0) ⟨e, [(1, vSys s)], [], m⟩) →
   W F m.next L28_1 ⟨[(3, vi i)], [(1, vSys s)], [], m⟩ Q := by
  intro hlen t
  induction t with
  | nil =>
   intro i Q hd h1 h2
   have hlt := drop_nil hd
   rw [W_L (c := L28_1) rfl]
   have : ¬ ((i : Nat) : Int) < (s.cls.length : Int) := by omega
   simp only [↓sxc, sx, se, ↓reduceIte, Nat.reduceEqDiff, Nat.reduceAdd, Nat.reduceLT, Nat.reduceLeDiff, Nat.reduceSub, Nat.reduceMul, Int.reduceToNat, Int.reduceLT, Int.reduceLE, Int.reduceEq, ml_i0, this]
   exact h2 rfl _
  | cons x t ih =>
   intro i Q hd h1 h2
   obtain ⟨hg, hd', hlt⟩ := drop_cons hd
   rw [W_L (c := L28_1) rfl]
   have : ((i : Nat) : Int) < (s.cls.length : Int) := by omega
   have wr : wrapF .i64 ((i : Int) + 1) = ((i + 1 : Nat) : Int) := by rw [wr_i64 (by omega) (by omega)]; rfl
   rw [List.all_cons] at h1 h2
   by_cases he : 20 < (x.steps.length : Int)
   ·have e : decide (x.steps.length ≤ 20) = false := by simp; omega
    rw [e] at h1
    simp only [↓sxc, sx, se, ↓reduceIte, Nat.reduceEqDiff, Nat.reduceAdd, Nat.reduceLT, Nat.reduceLeDiff, Nat.reduceSub, Nat.reduceMul, Int.reduceToNat, Int.reduceLT, Int.reduceLE, Int.reduceEq, ml_i0, this, hg, he]
    exact h1 rfl
   ·have e : decide (x.steps.length ≤ 20) = true := by simp; omega
    rw [e, Bool.true_and] at h1 h2
    simp only [↓sxc, sx, se, ↓reduceIte, Nat.reduceEqDiff, Nat.reduceAdd, Nat.reduceLT, Nat.reduceLeDiff, Nat.reduceSub, Nat.reduceMul, Int.reduceToNat, Int.reduceLT, Int.reduceLE, Int.reduceEq, ml_i0, this, hg, he, wr]
    exact ih (i + 1) Q hd' h1 h2
 refine call_p hA.h28 rfl ?_
 by_cases l1 : 10 < (s.pools.length : Int)
 ·have e : few s = false := by
   have : ¬ s.pools.length ≤ 10 := by omega
   simp [few, this]
  simp only [↓sxc, sx, se, ↓reduceIte, Nat.reduceEqDiff, Nat.reduceAdd, Nat.reduceLT, Nat.reduceLeDiff, Nat.reduceSub, Nat.reduceMul, Int.reduceToNat, Int.reduceLT, Int.reduceLE, Int.reduceEq, ml_i0, l1, e]
 ·by_cases l2 : 10 < (s.locks.length : Int)
  ·have e : few s = false := by
    have : ¬ s.locks.length ≤ 10 := by omega
    simp [few, this]
   simp only [↓sxc, sx, se, ↓reduceIte, Nat.reduceEqDiff, Nat.reduceAdd, Nat.reduceLT, Nat.reduceLeDiff, Nat.reduceSub, Nat.reduceMul, Int.reduceToNat, Int.reduceLT, Int.reduceLE, Int.reduceEq, ml_i0, l1, l2, e]
  ·by_cases l3 : 10 < (s.cls.length : Int)
   ·have e : few s = false := by
     have : ¬ s.cls.length ≤ 10 := by omega
     simp [few, this]
    simp only [↓sxc, sx, se, ↓reduceIte, Nat.reduceEqDiff, Nat.reduceAdd, Nat.reduceLT, Nat.reduceLeDiff, Nat.reduceSub, Nat.reduceMul, Int.reduceToNat, Int.reduceLT, Int.reduceLE, Int.reduceEq, ml_i0, l1, l2, l3, e]
   ·have e : few s = s.cls.all fun c => decide (c.steps.length ≤ 20) := by
     have a1 : s.pools.length ≤ 10 := by omega
     have a2 : s.locks.length ≤ 10 := by omega
     have a3 : s.cls.length ≤ 10 := by omega
     simp [few, a1, a2, a3]
    simp only [↓sxc, sx, se, ↓reduceIte, Nat.reduceEqDiff, Nat.reduceAdd, Nat.reduceLT, Nat.reduceLeDiff, Nat.reduceSub, Nat.reduceMul, Int.reduceToNat, Int.reduceLT, Int.reduceLE, Int.reduceEq, ml_i0, l1, l2, l3]
    refine loop (by omega) s.cls 0 _ rfl (fun h => ?_) (fun h e1 => ?_)
    ·rw [h] at e
     simp only [↓sxc, sx, se, ↓reduceIte, Nat.reduceEqDiff, Nat.reduceAdd, Nat.reduceLT, Nat.reduceLeDiff, Nat.reduceSub, Nat.reduceMul, Int.reduceToNat, Int.reduceLT, Int.reduceLE, Int.reduceEq, ml_i0, e]
    ·rw [h] at e
     simp only [↓sxc, sx, se, ↓reduceIte, Nat.reduceEqDiff, Nat.reduceAdd, Nat.reduceLT, Nat.reduceLeDiff, Nat.reduceSub, Nat.reduceMul, Int.reduceToNat, Int.reduceLT, Int.reduceLE, Int.reduceEq, ml_i0, e]
end Go.Am
namespace Go.Am
open Go
set_option linter.unusedSimpArgs false
set_option linter.unusedVariables false
set_option maxRecDepth 100000
structure OkC (c : Cls) : Prop where
 w0 : 0 ≤ c.wk
 w4 : c.wk ≤ 4
 l1 : 1 ≤ c.steps.length
 l12 : c.steps.length ≤ 12
 cnt : ∀ x ∈ c.steps, -1000 ≤ x.cnt ∧ x.cnt ≤ 1000
theorem firstE_zero {f : Cls → Int} : ∀ {l : List Cls}, firstE f l = 0 → ∀ c ∈ l, f c = 0
 | [], _, c, hc => by simp at hc
 | d :: l, h, c, hc => by
  unfold firstE at h
  split at h
  ·rename_i h1; exact absurd h h1
  ·rename_i h1
   rcases List.mem_cons.1 hc with rfl | hc
   ·simpa using h1
   ·exact firstE_zero h c hc
structure Valid (s : Sys) : Prop where
 p6 : s.pools.length ≤ 6
 l4 : s.locks.length ≤ 4
 c6 : s.cls.length ≤ 6
 nm : nmE [] (namesOf s) = 0
 pool : ∀ p ∈ s.pools, 1 ≤ p.size ∧ p.size ≤ 8 ∧ 0 ≤ p.res ∧ p.res ≤ p.size
 cls : ∀ c ∈ s.cls, clsE s c = 0
theorem valid_of {s : Sys} (h : chkE s = 0) : Valid s := by
 unfold chkE at h
 split at h
 ·omega
 ·rename_i h1
  split at h
  ·rename_i h2; exact absurd h h2
  ·rename_i h2
   split at h
   ·omega
   ·rename_i h3
    refine ⟨by omega, by omega, by omega, by simpa using h2, fun p hp => ?_, firstE_zero h⟩
    have h4 : s.pools.any poolBad = false := by simpa using h3
    have := List.any_eq_false.1 h4 p hp
    simp [poolBad] at this
    omega
theorem Valid.size {s : Sys} (h : Valid s) : ∀ p ∈ s.pools, p.size ≤ 1000 := fun p hp => by have := h.pool p hp; omega
structure ClsOk (s : Sys) (c : Cls) : Prop where
 w0 : 0 ≤ c.wk
 w4 : c.wk ≤ 4
 l1 : 1 ≤ c.steps.length
 l12 : c.steps.length ≤ 12
 steps : stepsE s [] c.steps = 0
 o0 : over c.steps 0 s.pools.length = false
 o1 : over c.steps 1 s.locks.length = false
theorem clsOk_of {s : Sys} {c : Cls} (h : clsE s c = 0) : ClsOk s c := by
 unfold clsE at h
 split at h
 ·omega
 ·split at h
  ·omega
  ·split at h
   ·rename_i h1; exact absurd h h1
   ·rename_i h1
    split at h
    ·omega
    ·rename_i h2
     split at h
     ·omega
     ·rename_i h3
      exact ⟨by omega, by omega, by omega, by omega, by simpa using h1, by simpa using h2, by simpa using h3⟩
theorem Valid.okC {s : Sys} (h : Valid s) : ∀ c ∈ s.cls, OkC c := fun c hc => by
 have k := clsOk_of (h.cls c hc)
 exact ⟨k.w0, k.w4, k.l1, k.l12, stepsE_cnt h.size k.steps⟩
def udStep (pool : Int) (x : Stp) (q : Int × Int) : Int × Int :=
 if x.on = pool then if x.kind = 1 then (q.1 + x.cnt, if x.deep = true then q.2 + x.cnt else q.2) else if x.kind = 2 then (q.1 - x.cnt, q.2 - min q.2 x.cnt) else q else q
def pks (pool : Int) : List Stp → Int × Int → Int × Int → Int × Int
 | [], _, b => b
 | x :: t, q, b => pks pool t (udStep pool x q) (max b.1 (udStep pool x q).1, max b.2 (udStep pool x q).2)
def pk (pool : Int) (l : List Stp) : Int × Int := pks pool l (0, 0) (0, 0)
def dem (pool : Int) : List Cls → Int × Int
 | [] => (0, 0)
 | c :: l => (c.wk * (pk pool c.steps).1 + (dem pool l).1, c.wk * (pk pool c.steps).2 + (dem pool l).2)
theorem udStep_bd {pool : Int} {x : Stp} {q : Int × Int} {n : Int} (hx : -1000 ≤ x.cnt ∧ x.cnt ≤ 1000) (h1 : -n ≤ q.1 ∧ q.1 ≤ n) (h2 : -n ≤ q.2 ∧ q.2 ≤ n) :
  (-(n + 1000) ≤ (udStep pool x q).1 ∧ (udStep pool x q).1 ≤ n + 1000) ∧ (-(n + 1000) ≤ (udStep pool x q).2 ∧ (udStep pool x q).2 ≤ n + 1000) := by
 unfold udStep
 repeat' split
 all_goals first
  | omega
  | (simp only; omega)
theorem pks_bd {pool : Int} : ∀ {t : List Stp} {q b : Int × Int} {n : Int}, (∀ x ∈ t, -1000 ≤ x.cnt ∧ x.cnt ≤ 1000) → (-n ≤ q.1 ∧ q.1 ≤ n) → (-n ≤ q.2 ∧ q.2 ≤ n) → (0 ≤ b.1 ∧ b.1 ≤ n) → (0 ≤ b.2 ∧ b.2 ≤ n) →
  (0 ≤ (pks pool t q b).1 ∧ (pks pool t q b).1 ≤ n + 1000 * t.length) ∧ (0 ≤ (pks pool t q b).2 ∧ (pks pool t q b).2 ≤ n + 1000 * t.length)
 | [], q, b, n, _, _, _, h3, h4 => by simp [pks, h3, h4]
 | x :: t, q, b, n, hx, h1, h2, h3, h4 => by
  obtain ⟨k1, k2⟩ := udStep_bd (pool := pool) (hx x (by simp)) h1 h2
  have := pks_bd (pool := pool) (t := t) (q := udStep pool x q) (b := (max b.1 (udStep pool x q).1, max b.2 (udStep pool x q).2)) (n := n + 1000) (fun y hy => hx y (by simp [hy])) k1 k2 (by simp only; omega) (by simp only; omega)
  simp only [pks, List.length_cons]
  push_cast
  omega
theorem pk_bd {pool : Int} {c : Cls} (h : OkC c) : (0 ≤ (pk pool c.steps).1 ∧ (pk pool c.steps).1 ≤ 12000) ∧ (0 ≤ (pk pool c.steps).2 ∧ (pk pool c.steps).2 ≤ 12000) := by
 have := pks_bd (pool := pool) (t := c.steps) (q := (0, 0)) (b := (0, 0)) (n := 0) h.cnt (by simp) (by simp) (by simp) (by simp)
 have hl := h.l12
 unfold pk
 omega
theorem sp148 {F : Nat → Option Fn} (hB : HasB F) {lo : Nat} {m : Mem} (c : Cls) (pool : Int) (hc : OkC c) : callw F 148 [vCls c, vi pool] lo m = some (.tup [vi (pk pool c.steps).1, vi (pk pool c.steps).2], m) := by
 have hl := hc.l12
 have loop : ∀ (t : List Stp) (i : Nat) (a d x y : Int) (Q : Ex → St → Prop), c.steps.drop i = t → (-(1000 * (i : Int)) ≤ a ∧ a ≤ 1000 * i) → (-(1000 * (i : Int)) ≤ d ∧ d ≤ 1000 * i) → a ≤ x → d ≤ y →
   (∀ e a' d', Q (.exit 0) ⟨(1, vi pool) :: (6, a') :: (7, d') :: (8, vi (pks pool t (a, d) (x, y)).1) :: (9, vi (pks pool t (a, d) (x, y)).2) :: e, [], [], m⟩) →
   W F m.next L148_1 ⟨[(1, vi pool), (6, vi a), (7, vi d), (8, vi x), (9, vi y), (13, vStps c.steps), (14, vi c.steps.length), (15, vi i)], [], [], m⟩ Q := by
  intro t
  induction t with
  | nil =>
   intro i a d x y Q hd _ _ _ _ hq
   have hlt := drop_nil hd
   rw [W_L (c := L148_1) rfl]
   have : ¬ ((i : Nat) : Int) < (c.steps.length : Int) := by omega
   simp only [↓sxc, sx, se, ↓reduceIte, Nat.reduceEqDiff, Nat.reduceAdd, Nat.reduceLT, Nat.reduceLeDiff, Nat.reduceSub, Nat.reduceMul, Int.reduceToNat, Int.reduceLT, Int.reduceLE, Int.reduceEq, ml_i0, this]
   exact hq _ _ _
  | cons z t ih =>
   intro i a d x y Q hd ha hdd hax hdy hq
   obtain ⟨hg, hd', hlt⟩ := drop_cons hd
   have hz := hc.cnt z (List.mem_of_getElem? hg)
   rw [W_L (c := L148_1) rfl]
   have : ((i : Nat) : Int) < (c.steps.length : Int) := by omega
   have wr : wrapF .i64 ((i : Int) + 1) = ((i + 1 : Nat) : Int) := by rw [wr_i64 (by omega) (by omega)]; rfl
   have wa : wrapF .i64 (a + z.cnt) = a + z.cnt := wr_i64 (by omega) (by omega)
   have ws : wrapF .i64 (a - z.cnt) = a - z.cnt := wr_i64 (by omega) (by omega)
   have wd : wrapF .i64 (d + z.cnt) = d + z.cnt := wr_i64 (by omega) (by omega)
   have we : wrapF .i64 (d - min d z.cnt) = d - min d z.cnt := wr_i64 (by omega) (by omega)
   have go : ∀ a1 d1 x1 y1, udStep pool z (a, d) = (a1, d1) → max x a1 = x1 → max y d1 = y1 → W F m.next L148_1 ⟨[(1, vi pool), (6, vi a1), (7, vi d1), (8, vi x1), (9, vi y1), (13, vStps c.steps), (14, vi c.steps.length), (15, vi (i + 1 : Nat))], [], [], m⟩ Q := by
    intro a1 d1 x1 y1 hu h1 h2
    have hb := udStep_bd (pool := pool) (q := (a, d)) hz ha hdd
    rw [hu] at hb
    refine ih (i + 1) a1 d1 x1 y1 Q hd' (by push_cast; omega) (by push_cast; omega) (by omega) (by omega) ?_
    simp only [pks, hu, h1, h2] at hq
    exact hq
   by_cases ho : z.on = pool
   ·by_cases k1 : z.kind = 1
    ·cases hdp : z.deep
     ·simp only [↓sxc, sx, se, ↓reduceIte, Nat.reduceEqDiff, Nat.reduceAdd, Nat.reduceLT, Nat.reduceLeDiff, Nat.reduceSub, Nat.reduceMul, Int.reduceToNat, Int.reduceLT, Int.reduceLE, Int.reduceEq, ml_i0, this, hg, ho, k1, hdp, wa, wr]
      exact go _ _ _ _ (by simp [udStep, ho, k1, hdp]) rfl rfl
     ·simp only [↓sxc, sx, se, ↓reduceIte, Nat.reduceEqDiff, Nat.reduceAdd, Nat.reduceLT, Nat.reduceLeDiff, Nat.reduceSub, Nat.reduceMul, Int.reduceToNat, Int.reduceLT, Int.reduceLE, Int.reduceEq, ml_i0, this, hg, ho, k1, hdp, wa, wd, wr]
      exact go _ _ _ _ (by simp [udStep, ho, k1, hdp]) rfl rfl
    ·by_cases k2 : z.kind = 2
     ·simp only [↓sxc, sx, se, ↓reduceIte, Nat.reduceEqDiff, Nat.reduceAdd, Nat.reduceLT, Nat.reduceLeDiff, Nat.reduceSub, Nat.reduceMul, Int.reduceToNat, Int.reduceLT, Int.reduceLE, Int.reduceEq, ml_i0, this, hg, ho, k1, k2, ws, we, wr]
      exact go _ _ _ _ (by simp [udStep, ho, k2]) rfl rfl
     ·simp only [↓sxc, sx, se, ↓reduceIte, Nat.reduceEqDiff, Nat.reduceAdd, Nat.reduceLT, Nat.reduceLeDiff, Nat.reduceSub, Nat.reduceMul, Int.reduceToNat, Int.reduceLT, Int.reduceLE, Int.reduceEq, ml_i0, this, hg, ho, k1, k2, wr]
      exact go _ _ _ _ (by simp [udStep, ho, k1, k2]) rfl rfl
   ·simp only [↓sxc, sx, se, ↓reduceIte, Nat.reduceEqDiff, Nat.reduceAdd, Nat.reduceLT, Nat.reduceLeDiff, Nat.reduceSub, Nat.reduceMul, Int.reduceToNat, Int.reduceLT, Int.reduceLE, Int.reduceEq, ml_i0, this, hg, ho, wr]
    exact go _ _ _ _ (by simp [udStep, ho]) (by omega) (by omega)
 refine call_p hB.h148 rfl ?_
 simp only [↓sxc, sx, se, ↓reduceIte, Nat.reduceEqDiff, Nat.reduceAdd, Nat.reduceLT, Nat.reduceLeDiff, Nat.reduceSub, Nat.reduceMul, Int.reduceToNat, Int.reduceLT, Int.reduceLE, Int.reduceEq, ml_i0]
 refine loop c.steps 0 0 0 0 0 _ rfl (by simp) (by simp) (Int.le_refl _) (Int.le_refl _) (fun e a' d' => ?_)
 simp only [↓sxc, sx, se, ↓reduceIte, Nat.reduceEqDiff, Nat.reduceAdd, Nat.reduceLT, Nat.reduceLeDiff, Nat.reduceSub, Nat.reduceMul, Int.reduceToNat, Int.reduceLT, Int.reduceLE, Int.reduceEq, ml_i0]
 rfl
theorem sp92 {F : Nat → Option Fn} (hB : HasB F) {lo : Nat} {m : Mem} (s : Sys) (pool : Int) (hl : s.cls.length < 100) (hc : ∀ c ∈ s.cls, OkC c) : callw F 92 [vSys s, vi pool] lo m = some (.tup [vi (dem pool s.cls).1, vi (dem pool s.cls).2], m) := by
 have loop : ∀ (t : List Cls) (i : Nat) (a d : Int) (Q : Ex → St → Prop), s.cls.drop i = t → (0 ≤ a ∧ a ≤ 48000 * i) → (0 ≤ d ∧ d ≤ 48000 * i) →
   (∀ e, Q (.exit 0) ⟨(1, vi pool) :: (6, vi (a + (dem pool t).1)) :: (7, vi (d + (dem pool t).2)) :: e, [], [], m⟩) →
   W F m.next L92_1 ⟨[(1, vi pool), (6, vi a), (7, vi d), (13, vClss s.cls), (14, vi s.cls.length), (15, vi i)], [], [], m⟩ Q := by
  intro t
  induction t with
  | nil =>
   intro i a d Q hd _ _ hq
   have hlt := drop_nil hd
   rw [W_L (c := L92_1) rfl]
   have : ¬ ((i : Nat) : Int) < (s.cls.length : Int) := by omega
   simp only [↓sxc, sx, se, ↓reduceIte, Nat.reduceEqDiff, Nat.reduceAdd, Nat.reduceLT, Nat.reduceLeDiff, Nat.reduceSub, Nat.reduceMul, Int.reduceToNat, Int.reduceLT, Int.reduceLE, Int.reduceEq, ml_i0, this]
   simp only [dem, Int.add_zero] at hq
   exact hq _
  | cons z t ih =>
   intro i a d Q hd ha hdd hq
   obtain ⟨hg, hd', hlt⟩ := drop_cons hd
   have hz := hc z (List.mem_of_getElem? hg)
   have hb := pk_bd (pool := pool) hz
   have w0 := hz.w0
   have w4 := hz.w4
   rw [W_L (c := L92_1) rfl]
   have : ((i : Nat) : Int) < (s.cls.length : Int) := by omega
   have wr : wrapF .i64 ((i : Int) + 1) = ((i + 1 : Nat) : Int) := by rw [wr_i64 (by omega) (by omega)]; rfl
   have p1 : 0 ≤ z.wk * (pk pool z.steps).1 ∧ z.wk * (pk pool z.steps).1 ≤ 48000 := by
    refine ⟨Int.mul_nonneg w0 hb.1.1, ?_⟩
    have := Int.mul_le_mul w4 hb.1.2 hb.1.1 (by omega)
    omega
   have p2 : 0 ≤ z.wk * (pk pool z.steps).2 ∧ z.wk * (pk pool z.steps).2 ≤ 48000 := by
    refine ⟨Int.mul_nonneg w0 hb.2.1, ?_⟩
    have := Int.mul_le_mul w4 hb.2.2 hb.2.1 (by omega)
    omega
   have m1 : wrapF .i64 (z.wk * (pk pool z.steps).1) = z.wk * (pk pool z.steps).1 := wr_i64 (by omega) (by omega)
   have m2 : wrapF .i64 (z.wk * (pk pool z.steps).2) = z.wk * (pk pool z.steps).2 := wr_i64 (by omega) (by omega)
   have a1 : wrapF .i64 (a + z.wk * (pk pool z.steps).1) = a + z.wk * (pk pool z.steps).1 := wr_i64 (by omega) (by omega)
   have a2 : wrapF .i64 (d + z.wk * (pk pool z.steps).2) = d + z.wk * (pk pool z.steps).2 := wr_i64 (by omega) (by omega)
   have cc : ∀ {lo m}, callw F 148 [vCls z, vi pool] lo m = some (.tup [vi (pk pool z.steps).1, vi (pk pool z.steps).2], m) := fun {lo m} => sp148 hB z pool hz
   simp only [↓sxc, sx, se, ↓reduceIte, Nat.reduceEqDiff, Nat.reduceAdd, Nat.reduceLT, Nat.reduceLeDiff, Nat.reduceSub, Nat.reduceMul, Int.reduceToNat, Int.reduceLT, Int.reduceLE, Int.reduceEq, ml_i0, this, hg, cc, m1, m2, a1, a2, wr]
   refine ih (i + 1) _ _ Q hd' (by push_cast; omega) (by push_cast; omega) (fun e => ?_)
   simp only [dem] at hq
   have := hq e
   rw [← Int.add_assoc, ← Int.add_assoc] at this
   exact this
 refine call_p hB.h92 rfl ?_
 simp only [↓sxc, sx, se, ↓reduceIte, Nat.reduceEqDiff, Nat.reduceAdd, Nat.reduceLT, Nat.reduceLeDiff, Nat.reduceSub, Nat.reduceMul, Int.reduceToNat, Int.reduceLT, Int.reduceLE, Int.reduceEq, ml_i0]
 refine loop s.cls 0 0 0 _ rfl (by simp) (by simp) (fun e => ?_)
 simp only [↓sxc, sx, se, ↓reduceIte, Nat.reduceEqDiff, Nat.reduceAdd, Nat.reduceLT, Nat.reduceLeDiff, Nat.reduceSub, Nat.reduceMul, Int.reduceToNat, Int.reduceLT, Int.reduceLE, Int.reduceEq, ml_i0, Int.zero_add]
 rfl
def demE (s : Sys) (pool : Int) (deep : Bool) : Int := if chkE s ≠ 0 ∨ pool < 0 ∨ (s.pools.length : Int) ≤ pool then -1 else if deep = true then (dem pool s.cls).2 else (dem pool s.cls).1
theorem sp31 {F : Nat → Option Fn} (hA : HasA F) (hB : HasB F) {lo : Nat} {m : Mem} (s : Sys) (pool : Int) (deep : Bool) : callw F 31 [vSys s, vi pool, .bool deep] lo m = some (vi (demE s pool deep), m) := by
 have c0 : ∀ {lo m}, callw F 49 [vSys s] lo m = some (vi (chkE s), m) := fun {lo m} => sp49 hA s
 refine call_p hB.h31 rfl ?_
 by_cases h0 : chkE s = 0
 ·have hv := valid_of h0
  have hlc : s.cls.length < 100 := by have := hv.c6; omega
  have c1 : ∀ {lo m}, callw F 92 [vSys s, vi pool] lo m = some (.tup [vi (dem pool s.cls).1, vi (dem pool s.cls).2], m) := fun {lo m} => sp92 hB s pool hlc hv.okC
  by_cases p1 : pool < 0
  ·have e : demE s pool deep = -1 := by simp [demE, p1]
   simp only [↓sxc, sx, se, ↓reduceIte, Nat.reduceEqDiff, Nat.reduceAdd, Nat.reduceLT, Nat.reduceLeDiff, Nat.reduceSub, Nat.reduceMul, Int.reduceToNat, Int.reduceLT, Int.reduceLE, Int.reduceEq, ml_i0, c0, h0, p1, e]
  ·by_cases p2 : (s.pools.length : Int) ≤ pool
   ·have e : demE s pool deep = -1 := by simp [demE, p2]
    simp only [↓sxc, sx, se, ↓reduceIte, Nat.reduceEqDiff, Nat.reduceAdd, Nat.reduceLT, Nat.reduceLeDiff, Nat.reduceSub, Nat.reduceMul, Int.reduceToNat, Int.reduceLT, Int.reduceLE, Int.reduceEq, ml_i0, c0, h0, p1, p2, e]
   ·cases deep with
    | true =>
     have e : demE s pool true = (dem pool s.cls).2 := by simp [demE, h0, p1, p2]
     simp only [↓sxc, sx, se, ↓reduceIte, Nat.reduceEqDiff, Nat.reduceAdd, Nat.reduceLT, Nat.reduceLeDiff, Nat.reduceSub, Nat.reduceMul, Int.reduceToNat, Int.reduceLT, Int.reduceLE, Int.reduceEq, ml_i0, c0, h0, p1, p2, c1, e]
    | false =>
     have e : demE s pool false = (dem pool s.cls).1 := by simp [demE, h0, p1, p2]
     simp only [↓sxc, sx, se, ↓reduceIte, Nat.reduceEqDiff, Nat.reduceAdd, Nat.reduceLT, Nat.reduceLeDiff, Nat.reduceSub, Nat.reduceMul, Int.reduceToNat, Int.reduceLT, Int.reduceLE, Int.reduceEq, ml_i0, c0, h0, p1, p2, c1, e]
 ·have e : demE s pool deep = -1 := by simp [demE, h0]
  simp only [↓sxc, sx, se, ↓reduceIte, Nat.reduceEqDiff, Nat.reduceAdd, Nat.reduceLT, Nat.reduceLeDiff, Nat.reduceSub, Nat.reduceMul, Int.reduceToNat, Int.reduceLT, Int.reduceLE, Int.reduceEq, ml_i0, c0, h0, e]
def resE (s : Sys) : Int := if chkE s ≠ 0 then 0 else s.pools.length + s.locks.length + s.cls.length
theorem sp29 {F : Nat → Option Fn} (hA : HasA F) (hB : HasB F) {lo : Nat} {m : Mem} (s : Sys) : callw F 29 [vSys s] lo m = some (vi (resE s), m) := by
 have c0 : ∀ {lo m}, callw F 49 [vSys s] lo m = some (vi (chkE s), m) := fun {lo m} => sp49 hA s
 refine call_p hB.h29 rfl ?_
 by_cases h0 : chkE s = 0
 ·have hv := valid_of h0
  have a1 := hv.p6
  have a2 := hv.l4
  have a3 := hv.c6
  have e : resE s = s.pools.length + s.locks.length + s.cls.length := by simp [resE, h0]
  have w1 : wrapF .i64 ((s.pools.length : Int) + s.locks.length) = s.pools.length + s.locks.length := wr_i64 (by omega) (by omega)
  have w2 : wrapF .i64 ((s.pools.length : Int) + s.locks.length + s.cls.length) = s.pools.length + s.locks.length + s.cls.length := wr_i64 (by omega) (by omega)
  simp only [↓sxc, sx, se, ↓reduceIte, Nat.reduceEqDiff, Nat.reduceAdd, Nat.reduceLT, Nat.reduceLeDiff, Nat.reduceSub, Nat.reduceMul, Int.reduceToNat, Int.reduceLT, Int.reduceLE, Int.reduceEq, ml_i0, c0, h0, w1, w2, e]
 ·have e : resE s = 0 := by simp [resE, h0]
  simp only [↓sxc, sx, se, ↓reduceIte, Nat.reduceEqDiff, Nat.reduceAdd, Nat.reduceLT, Nat.reduceLeDiff, Nat.reduceSub, Nat.reduceMul, Int.reduceToNat, Int.reduceLT, Int.reduceLE, Int.reduceEq, ml_i0, c0, h0, e]
end Go.Am
namespace Go.Am
open Go
set_option linter.unusedSimpArgs false
set_option linter.unusedVariables false
set_option maxRecDepth 100000
theorem OkC.take {c : Cls} (h : OkC c) (n : Nat) : ∀ x ∈ c.steps.take n, -1000 ≤ x.cnt ∧ x.cnt ≤ 1000 := fun x hx => h.cnt x (List.mem_of_mem_take hx)
theorem stepsE_pre {s : Sys} : ∀ {t pre : List Stp}, stepsE s pre t = 0 → ∀ x ∈ t, preE s x = 0
 | [], pre, _, x, hx => by simp at hx
 | y :: t, pre, h, x, hx => by
  unfold stepsE at h
  split at h
  ·rename_i h1; exact absurd h h1
  ·rename_i h1
   rcases List.mem_cons.1 hx with rfl | hx
   ·exact (stepE_zero (by simpa using h1)).1
   ·exact stepsE_pre h x hx
theorem Valid.pre {s : Sys} (h : Valid s) {c : Cls} (hc : c ∈ s.cls) {x : Stp} (hx : x ∈ c.steps) : preE s x = 0 := stepsE_pre (clsOk_of (h.cls c hc)).steps x hx
def waitsE (s : Sys) (x : Stp) : Bool :=
 if x.kind = 3 ∨ x.kind = 5 then true
 else if x.kind = 1 then decide (sizeAt s x.on - resAt s x.on < (dem x.on s.cls).1) && !(x.deep && decide ((dem x.on s.cls).2 ≤ resAt s x.on))
 else false
def stepAt (s : Sys) (i k : Int) : Option Stp := (s.cls[i.toNat]?).bind fun c => c.steps[k.toNat]?
def mayWait (s : Sys) (i k : Int) : Bool :=
 if chkE s ≠ 0 ∨ i < 0 ∨ k < 0 then false else match stepAt s i k with
  | some x => waitsE s x
  | none => false
theorem on_pools {s : Sys} {x : Stp} (h : preE s x = 0) (hk : x.kind = 1) : 0 ≤ x.on ∧ ∃ p, s.pools[x.on.toNat]? = some p := by
 obtain ⟨o1, o2, _⟩ := preE_on h
 have : nOf s x = s.pools.length := by simp [nOf, hk]
 exact ⟨o1, _, List.getElem?_eq_getElem (by omega)⟩
theorem sp94 {F : Nat → Option Fn} (hB : HasB F) {lo : Nat} {m : Mem} (s : Sys) (x : Stp) (hv : Valid s) (hp : preE s x = 0) : callw F 94 [vSys s, vStp x] lo m = some (.bool (waitsE s x), m) := by
 refine call_p hB.h94 rfl ?_
 by_cases k3 : x.kind = 3
 ·have e : waitsE s x = true := by simp [waitsE, k3]
  simp only [↓sxc, sx, se, ↓reduceIte, Nat.reduceEqDiff, Nat.reduceAdd, Nat.reduceLT, Nat.reduceLeDiff, Nat.reduceSub, Nat.reduceMul, Int.reduceToNat, Int.reduceLT, Int.reduceLE, Int.reduceEq, ml_i0, k3, e]
 ·by_cases k5 : x.kind = 5
  ·have e : waitsE s x = true := by simp [waitsE, k5]
   simp only [↓sxc, sx, se, ↓reduceIte, Nat.reduceEqDiff, Nat.reduceAdd, Nat.reduceLT, Nat.reduceLeDiff, Nat.reduceSub, Nat.reduceMul, Int.reduceToNat, Int.reduceLT, Int.reduceLE, Int.reduceEq, ml_i0, k3, k5, e]
  ·by_cases k1 : x.kind = 1
   ·obtain ⟨o1, p, hpp⟩ := on_pools hp k1
    have hs : sizeAt s x.on = p.size := by simp [sizeAt, hpp]
    have hr : resAt s x.on = p.res := by simp [resAt, hpp]
    have hb := hv.pool p (List.mem_of_getElem? hpp)
    have w1 : wrapF .i64 (p.size - p.res) = p.size - p.res := wr_i64 (by omega) (by omega)
    have c1 : ∀ {lo m}, callw F 92 [vSys s, vi x.on] lo m = some (.tup [vi (dem x.on s.cls).1, vi (dem x.on s.cls).2], m) := fun {lo m} => sp92 hB s x.on (by have := hv.c6; omega) hv.okC
    by_cases q1 : p.size - p.res < (dem x.on s.cls).1
    ·cases hd : x.deep
     ·have e : waitsE s x = true := by simp [waitsE, k1, hs, hr, q1, hd]
      simp only [↓sxc, sx, se, ↓reduceIte, Nat.reduceEqDiff, Nat.reduceAdd, Nat.reduceLT, Nat.reduceLeDiff, Nat.reduceSub, Nat.reduceMul, Int.reduceToNat, Int.reduceLT, Int.reduceLE, Int.reduceEq, ml_i0, k3, k5, k1, c1, o1, hpp, w1, q1, hd, e]
     ·by_cases q2 : (dem x.on s.cls).2 ≤ p.res
      ·have e : waitsE s x = false := by simp [waitsE, k1, hs, hr, q1, hd, q2]
       simp only [↓sxc, sx, se, ↓reduceIte, Nat.reduceEqDiff, Nat.reduceAdd, Nat.reduceLT, Nat.reduceLeDiff, Nat.reduceSub, Nat.reduceMul, Int.reduceToNat, Int.reduceLT, Int.reduceLE, Int.reduceEq, ml_i0, k3, k5, k1, c1, o1, hpp, w1, q1, hd, q2, e]
      ·have e : waitsE s x = true := by simp [waitsE, k1, hs, hr, q1, hd, q2]
       simp only [↓sxc, sx, se, ↓reduceIte, Nat.reduceEqDiff, Nat.reduceAdd, Nat.reduceLT, Nat.reduceLeDiff, Nat.reduceSub, Nat.reduceMul, Int.reduceToNat, Int.reduceLT, Int.reduceLE, Int.reduceEq, ml_i0, k3, k5, k1, c1, o1, hpp, w1, q1, hd, q2, e]
    ·have e : waitsE s x = false := by simp [waitsE, k1, hs, hr, q1]
     simp only [↓sxc, sx, se, ↓reduceIte, Nat.reduceEqDiff, Nat.reduceAdd, Nat.reduceLT, Nat.reduceLeDiff, Nat.reduceSub, Nat.reduceMul, Int.reduceToNat, Int.reduceLT, Int.reduceLE, Int.reduceEq, ml_i0, k3, k5, k1, c1, o1, hpp, w1, q1, e]
   ·have e : waitsE s x = false := by simp [waitsE, k3, k5, k1]
    simp only [↓sxc, sx, se, ↓reduceIte, Nat.reduceEqDiff, Nat.reduceAdd, Nat.reduceLT, Nat.reduceLeDiff, Nat.reduceSub, Nat.reduceMul, Int.reduceToNat, Int.reduceLT, Int.reduceLE, Int.reduceEq, ml_i0, k3, k5, k1, e]
theorem sp33 {F : Nat → Option Fn} (hA : HasA F) (hB : HasB F) {lo : Nat} {m : Mem} (s : Sys) (i k : Int) : callw F 33 [vSys s, vi i, vi k] lo m = some (.bool (mayWait s i k), m) := by
 have c0 : ∀ {lo m}, callw F 49 [vSys s] lo m = some (vi (chkE s), m) := fun {lo m} => sp49 hA s
 refine call_p hB.h33 rfl ?_
 by_cases h0 : chkE s = 0
 ·have hv := valid_of h0
  by_cases i1 : i < 0
  ·have e : mayWait s i k = false := by simp [mayWait, i1]
   simp only [↓sxc, sx, se, ↓reduceIte, Nat.reduceEqDiff, Nat.reduceAdd, Nat.reduceLT, Nat.reduceLeDiff, Nat.reduceSub, Nat.reduceMul, Int.reduceToNat, Int.reduceLT, Int.reduceLE, Int.reduceEq, ml_i0, c0, h0, i1, e]
  ·by_cases i2 : (s.cls.length : Int) ≤ i
   ·have e : mayWait s i k = false := by
     have : s.cls[i.toNat]? = none := List.getElem?_eq_none (by omega)
     simp [mayWait, stepAt, this]
    simp only [↓sxc, sx, se, ↓reduceIte, Nat.reduceEqDiff, Nat.reduceAdd, Nat.reduceLT, Nat.reduceLeDiff, Nat.reduceSub, Nat.reduceMul, Int.reduceToNat, Int.reduceLT, Int.reduceLE, Int.reduceEq, ml_i0, c0, h0, i1, i2, e]
   ·have hc : s.cls[i.toNat]? = some (s.cls[i.toNat]'(by omega)) := List.getElem?_eq_getElem _
    generalize s.cls[i.toNat]'(by omega) = c at hc
    have i3 : 0 ≤ i := by omega
    by_cases k1 : k < 0
    ·have e : mayWait s i k = false := by simp [mayWait, k1]
     simp only [↓sxc, sx, se, ↓reduceIte, Nat.reduceEqDiff, Nat.reduceAdd, Nat.reduceLT, Nat.reduceLeDiff, Nat.reduceSub, Nat.reduceMul, Int.reduceToNat, Int.reduceLT, Int.reduceLE, Int.reduceEq, ml_i0, c0, h0, i1, i2, i3, hc, k1, e]
    ·by_cases k2 : (c.steps.length : Int) ≤ k
     ·have e : mayWait s i k = false := by
       have : c.steps[k.toNat]? = none := List.getElem?_eq_none (by omega)
       simp [mayWait, stepAt, hc, this]
      simp only [↓sxc, sx, se, ↓reduceIte, Nat.reduceEqDiff, Nat.reduceAdd, Nat.reduceLT, Nat.reduceLeDiff, Nat.reduceSub, Nat.reduceMul, Int.reduceToNat, Int.reduceLT, Int.reduceLE, Int.reduceEq, ml_i0, c0, h0, i1, i2, i3, hc, k1, k2, e]
     ·have hx : c.steps[k.toNat]? = some (c.steps[k.toNat]'(by omega)) := List.getElem?_eq_getElem _
      generalize c.steps[k.toNat]'(by omega) = x at hx
      have k3 : 0 ≤ k := by omega
      have e : mayWait s i k = waitsE s x := by simp [mayWait, h0, i1, k1, stepAt, hc, hx]
      have c1 : ∀ {lo m}, callw F 94 [vSys s, vStp x] lo m = some (.bool (waitsE s x), m) := fun {lo m} => sp94 hB s x hv (hv.pre (List.mem_of_getElem? hc) (List.mem_of_getElem? hx))
      simp only [↓sxc, sx, se, ↓reduceIte, Nat.reduceEqDiff, Nat.reduceAdd, Nat.reduceLT, Nat.reduceLeDiff, Nat.reduceSub, Nat.reduceMul, Int.reduceToNat, Int.reduceLT, Int.reduceLE, Int.reduceEq, ml_i0, c0, h0, i1, i2, i3, hc, k1, k2, k3, hx, c1, e]
 ·have e : mayWait s i k = false := by simp [mayWait, h0]
  simp only [↓sxc, sx, se, ↓reduceIte, Nat.reduceEqDiff, Nat.reduceAdd, Nat.reduceLT, Nat.reduceLeDiff, Nat.reduceSub, Nat.reduceMul, Int.reduceToNat, Int.reduceLT, Int.reduceLE, Int.reduceEq, ml_i0, c0, h0, e]
end Go.Am
namespace Go.Am
open Go
set_option linter.unusedSimpArgs false
set_option linter.unusedVariables false
set_option maxRecDepth 100000
section
variable {F : Nat → Option Fn} {lo : Nat} {md : Option (Nat × Nat)} {ops : List Op} {e b a : Env} {m : Mem} {Q : St → Prop} {d : Nat}
noncomputable def lookV (m : Mem) (arr ok : Bool) (z u k : V) : Option V :=
 match u with
 | .map h => if keyIs arr k then match m.blk h with
  | some (.map es) => (lookKey k es).map fun r => match r, ok with
   | some v, true => .tup [v, .bool true]
   | none, true => .tup [z, .bool false]
   | some v, false => v
   | none, false => z
  | _ => none
  else none
 | _ => none
noncomputable def updV (lo : Nat) (m : Mem) (arr : Bool) (u k v : V) : Option Mem :=
 match u with
 | .map h => if keyIs arr k && v.one then if lo ≤ h then match m.blk h with
  | some (.map es) => (setKey k v es).map fun es' => m.set h (some (.map es'))
  | _ => none
  else none else none
 | _ => none
theorem S_look {arr ok : Bool} {z : V} {x y : O} : S F lo md (⟨.e d, .look arr ok z, [x, y], none⟩ :: ops) ⟨e, b, a, m⟩ Q ↔ OC (getO ⟨e, b, a, m⟩ x) fun u => OC (getO ⟨e, b, a, m⟩ y) fun k => OC (lookV m arr ok z u k) fun v => S F lo (nx md) ops ⟨(d, v) :: e, b, a, m⟩ Q := by
 rw [S_exec]
 simp only [gs_cons, gs_nil, K.allocs, bmp_false]
 cases getO ⟨e, b, a, m⟩ x with
 | none => simp [OC_none]
 | some u =>
  cases getO ⟨e, b, a, m⟩ y with
  | none => simp [OC_none, OC_some]
  | some k =>
   simp only [OC_some, plan]
   cases u <;> simp only [plan_look, lookV, OC_none]
   rename_i h
   cases hk : keyIs arr k with
   | false => simp [OC_none]
   | true =>
    simp only [if_true, OC_some, act]
    cases m.blk h with
    | none => simp [OC_none]
    | some B =>
     cases B with
     | row _ _ => simp [OC_none]
     | map es =>
      simp only
      cases lookKey k es with
      | none => simp [OC_none]
      | some r => cases r <;> cases ok <;> simp [OC_some, put]
theorem S_upd {arr : Bool} {x y w : O} : S F lo md (⟨.n, .upd arr, [x, y, w], none⟩ :: ops) ⟨e, b, a, m⟩ Q ↔ OC (getO ⟨e, b, a, m⟩ x) fun u => OC (getO ⟨e, b, a, m⟩ y) fun k => OC (getO ⟨e, b, a, m⟩ w) fun v => OC (updV lo m arr u k v) fun m' => S F lo (nx md) ops ⟨e, b, a, m'⟩ Q := by
 rw [S_exec]
 simp only [gs_cons, gs_nil, K.allocs, bmp_false]
 cases getO ⟨e, b, a, m⟩ x with
 | none => simp [OC_none]
 | some u =>
  cases getO ⟨e, b, a, m⟩ y with
  | none => simp [OC_none, OC_some]
  | some k =>
   cases getO ⟨e, b, a, m⟩ w with
   | none => simp [OC_none, OC_some]
   | some v =>
    simp only [OC_some, plan]
    cases u <;> simp only [plan_upd, updV, OC_none]
    rename_i h
    cases hk : (keyIs arr k && v.one) with
    | false => simp [OC_none]
    | true =>
     simp only [if_true, OC_some, act]
     by_cases hl : lo ≤ h
     ·simp only [if_pos hl]
      cases m.blk h with
      | none => simp [OC_none]
      | some B =>
       cases B with
       | row _ _ => simp [OC_none]
       | map es =>
        simp only
        cases setKey k v es with
        | none => simp [OC_none]
        | some r => simp [OC_some, put]
     ·simp only [if_neg hl, OC_none]
end
def Apart (w v : V) : Prop := ∀ s1 s2 h l1 l2, w = .row s1 h 0 l1 → v = .row s2 h 0 l2 → False
theorem Apart.symm {w v : V} (h : Apart w v) : Apart v w := fun s1 s2 k l1 l2 h1 h2 => h s2 s1 k l2 l1 h2 h1
theorem Rw.app2 {lo sz s : Nat} {m : Mem} {v y : V} {xs ys : List V} (h : Rw lo m sz v xs) (hl : lo ≤ m.next) (hv : view m y = some (s, ys)) (hs : s = sz ∨ ys.length = 0) (hb : xs.length + ys.length < big) :
  ∃ v' m', apV lo m.next m sz v y = some (v', m') ∧ Rw lo (m'.bump 1) sz v' (xs ++ ys) ∧ m'.next = m.next ∧ (∀ s w ws, Rw lo m s w ws → Apart w v → Rw lo (m'.bump 1) s w ws ∧ Apart w v') ∧ (∀ k, (∀ l, v ≠ .row sz k 0 l) → k ≠ m.next → m'.blk k = m.blk k) ∧ (v' = .nil ∨ ∃ l, v' = .row sz m.next 0 l) := by
 obtain ⟨v', m', h1, h2, h3, h4⟩ := h.app hl hv hs hb
 have hv' : v' = .nil ∨ ∃ l, v' = .row sz m.next 0 l := by
  rcases h with ⟨rfl, rfl⟩ | ⟨h, rfl, q1, q2, q3⟩
  ·cases ys with
   | nil =>
    simp only [apV, hv] at h1
    cases h1
    exact .inl rfl
   | cons y ys =>
    simp only [apV, hv] at h1
    split at h1
    ·cases h1
     exact .inr ⟨_, rfl⟩
    ·cases h1
  ·simp only [apV, hv, q3, if_true] at h1
   split at h1
   ·split at h1
    ·cases h1
     exact .inr ⟨_, rfl⟩
    ·cases h1
   ·cases h1
 refine ⟨v', m', h1, h2, h3, fun s w ws hw ha => ⟨hw.mono (by show m.next ≤ m'.next + 1; omega) (fun k l hk => ?_), fun s1 s2 k l1 l2 e1 e2 => ?_⟩, h4, hv'⟩
 ·refine h4 k (fun l2 hl2 => ha _ _ _ _ _ hk hl2) ?_
  rcases hw with ⟨rfl, _⟩ | ⟨k2, rfl, _, q2, _⟩
  ·cases hk
  ·cases hk; omega
 ·rcases hw with ⟨rfl, _⟩ | ⟨k2, rfl, _, q2, _⟩
  ·cases e1
  ·cases e1
   rcases hv' with rfl | ⟨l3, rfl⟩
   ·cases e2
   ·cases e2; omega
structure Edge where
 fr : Int
 to : Int
 cls : Int
 step : Int
 deriving DecidableEq
noncomputable def vEdge (e : Edge) : V := .agg [vi e.fr, vi e.to, vi e.cls, vi e.step]
noncomputable def vEdges (l : List Edge) : V := .ro true 4 (l.map vEdge)
theorem ia_vEdges {l : List Edge} {k : IntKind} {x : Int} : retV (.ia 4) [vEdges l, .int k x] = if 0 ≤ x then (l[x.toNat]?).map fun e => .imm (vEdge e) 0 else none := by
 unfold vEdges
 rw [r_iaro, ml_get]
 cases l[x.toNat]? <;> rfl
theorem len_vEdges {l : List Edge} : retV (.len false) [vEdges l] = some (.int .i64 (l.length : Int)) := by
 unfold vEdges
 rw [r_lenro, ml_len]
theorem lof_vEdges {l : List Edge} : lenOf (vEdges l) = some l.length := by
 unfold vEdges
 rw [lenro, ml_len]
theorem ce_vEdges {l : List Edge} : V.cells (vEdges l) = [vEdges l] := rfl
theorem on_vEdges {l : List Edge} : V.ones (vEdges l) = true := rfl
theorem o1_vEdges {l : List Edge} : V.one (vEdges l) = true := rfl
theorem fz_vEdges {lo n : Nat} {m : Mem} {l : List Edge} : freeze lo m (n + 1) (vEdges l) = some (vEdges l) := rfl
theorem vw_vEdges {m : Mem} {l : List Edge} : view m (vEdges l) = some (nz 4 (l.map vEdge), l.map vEdge) := rfl
theorem sl_vEdges {l : List Edge} {a b : Nat} : slOf 4 (vEdges l) a b = if a ≤ b ∧ b ≤ l.length then some (vEdges ((l.drop a).take (b - a))) else none := by
 unfold vEdges
 rw [sl_ro, ml_len]
 by_cases h : a ≤ b ∧ b ≤ l.length
 ·rw [if_pos h, if_pos h, List.map_take, List.map_drop]
 ·rw [if_neg h, if_neg h]
theorem scn_vEdges {l : List Edge} : setC 0 1 (vEdges l) .nil = some (vEdges l) := rfl
theorem sco_vEdges {l k : List Edge} : setC 0 1 (vEdges l) (vEdges k) = some (vEdges l) := rfl
theorem ces_vEdge {s : Edge} : V.cells (vEdge s) = [.int .i64 s.fr, .int .i64 s.to, .int .i64 s.cls, .int .i64 s.step] := rfl
theorem ons_vEdge {s : Edge} : V.ones (vEdge s) = true := rfl
theorem fzs_vEdge {lo n : Nat} {m : Mem} {s : Edge} : freeze lo m (n + 2) (vEdge s) = some (vEdge s) := rfl
set_option linter.defProp false
def sm := And.intro @ia_vEdges (And.intro @len_vEdges (And.intro @lof_vEdges (And.intro @ce_vEdges (And.intro @on_vEdges (And.intro @o1_vEdges (And.intro @fz_vEdges (And.intro @vw_vEdges (And.intro @sl_vEdges (And.intro @scn_vEdges (And.intro @sco_vEdges (And.intro @ces_vEdge (And.intro @ons_vEdge (@fzs_vEdge)))))))))))))
def smc := And.intro @S_look (@S_upd)
noncomputable def pairV (p : Int × Int) : V := .agg [vi p.1, vi p.2]
noncomputable def seenV (l : List (Int × Int)) : List (V × V) := l.map fun p => (pairV p, .bool true)
theorem set_seen {p : Int × Int} : ∀ {l : List (Int × Int)}, p ∉ l → setKey (pairV p) (.bool true) (seenV l) = some (seenV (l ++ [p]))
 | [], _ => rfl
 | q :: l, h => by
  have ih := set_seen (p := p) (l := l) (fun hh => h (by simp [hh]))
  obtain ⟨a, b⟩ := p
  obtain ⟨c, d⟩ := q
  show (match some (a == c && b == d) with
   | some true => some ((pairV (a, b), V.bool true) :: seenV l)
   | some false => (setKey (pairV (a, b)) (V.bool true) (seenV l)).map ((pairV (c, d), V.bool true) :: ·)
   | none => none) = _
  have hne : (a == c && b == d) = false := by
   cases hc : (a == c && b == d) with
   | false => rfl
   | true =>
    simp at hc
    exact absurd (by simp [hc.1, hc.2]) h
  rw [hne, ih]
  rfl
end Go.Am
namespace Go.Am
open Go
set_option linter.unusedSimpArgs false
set_option linter.unusedVariables false
set_option maxRecDepth 100000
theorem stepsE_left {s : Sys} : ∀ {a b pre : List Stp}, stepsE s pre (a ++ b) = 0 → stepsE s pre a = 0
 | [], b, pre, _ => rfl
 | x :: a, b, pre, h => by
  rw [List.cons_append] at h
  unfold stepsE at h ⊢
  split at h
  ·rename_i h1; exact absurd h h1
  ·rename_i h1
   rw [if_neg h1]
   exact stepsE_left h
theorem Valid.left {s : Sys} (h : Valid s) {c : Cls} (hc : c ∈ s.cls) (k : Nat) : stepsE s [] (c.steps.take k) = 0 := by
 have h1 := (clsOk_of (h.cls c hc)).steps
 rw [← List.take_append_drop k c.steps] at h1
 exact stepsE_left h1
end Go.Am
namespace Go.Am
open Go
set_option linter.unusedSimpArgs false
set_option linter.unusedVariables false
set_option maxRecDepth 100000
def held0 (l : List Stp) (n : Nat) : List Int := ((List.range n).filter fun (j : Nat) => decide (0 < bal (j : Int) 0 l)).map fun (j : Nat) => (j : Int)
def held1 (p : Nat) (l : List Stp) (n : Nat) : List Int := ((List.range n).filter fun (j : Nat) => decide (0 < bal (j : Int) 1 l)).map fun (j : Nat) => (p : Int) + (j : Int)
def hold (s : Sys) (i : Nat) (c : Cls) (l : List Stp) : List Int :=
 held0 l s.pools.length ++ held1 s.pools.length l s.locks.length ++ if c.srv = true then [(s.pools.length : Int) + s.locks.length + i] else []
end Go.Am
namespace Go.Am
open Go
set_option linter.unusedSimpArgs false
set_option linter.unusedVariables false
set_option maxRecDepth 100000
def ends (e : Edge) : Int × Int := (e.fr, e.to)
def addE (l : List Edge) (x : Edge) : List Edge := if ends x ∈ l.map ends then l else l ++ [x]
theorem upd_pair {lo : Nat} {m : Mem} {h : Nat} {l : List (Int × Int)} {a b : Int} (hb : m.blk h = some (.map (seenV l))) (hl : lo ≤ h) (hn : (a, b) ∉ l) : ∃ m1, updV lo m true (.map h) (.agg [vi a, vi b]) (.bool true) = some m1 ∧ m1.next = m.next ∧ m1.blk h = some (.map (seenV (l ++ [(a, b)]))) ∧ ∀ k, k ≠ h → m1.blk k = m.blk k := by
 refine ⟨m.set h (some (.map (seenV (l ++ [(a, b)])))), ?_, rfl, by simp [Mem.set], fun k hk => set_ne hk⟩
 have := set_seen (p := (a, b)) (l := l) hn
 have k1 : (keyIs true (V.agg [vi a, vi b]) && (V.bool true).one) = true := rfl
 simp only [updV, k1, if_true, hl, hb]
 rw [show V.agg [vi a, vi b] = pairV (a, b) from rfl, this]
 rfl
structure Ed (lo : Nat) (m : Mem) (v : V) (h : Nat) (l : List Edge) : Prop where
 rw : Rw lo m 4 v (l.map vEdge)
 lh : lo ≤ h
 hm : h < m.next
 bh : m.blk h = some (.map (seenV (l.map ends)))
 ne : ∀ s o k, v ≠ .row s h o k
theorem Ed.skip {lo h : Nat} {m : Mem} {v : V} {l : List Edge} {x : Edge} (H : Ed lo m v h l) (hx : ends x ∈ l.map ends) : Ed lo m v h (addE l x) := by
 unfold addE
 rw [if_pos hx]
 exact H
theorem Ed.add {lo h : Nat} {m : Mem} {v : V} {l : List Edge} {x : Edge} (H : Ed lo m v h l) (hx : ends x ∉ l.map ends) (hlo : lo ≤ m.next) (hl : l.length < 100000) :
  ∃ m1 v' m2, updV lo m true (.map h) (.agg [vi x.fr, vi x.to]) (.bool true) = some m1 ∧ apV lo m1.next m1 4 v (.lst false 4 [.agg [vi x.fr, vi x.to, vi x.cls, vi x.step]]) = some (v', m2) ∧ m.next ≤ m2.next ∧ Ed lo (m2.bump 1) v' h (addE l x) := by
 obtain ⟨m1, h1, h2, h3, h4⟩ := upd_pair H.bh H.lh hx
 have hr : Rw lo m1 4 v (l.map vEdge) := H.rw.mono (by omega) (fun k l hk => h4 k (by
  intro e
  subst e
  exact H.ne _ _ _ hk))
 obtain ⟨v', m2, a1, a2, a3, a4, a5, a6⟩ := hr.app2 (y := .lst false 4 [.agg [vi x.fr, vi x.to, vi x.cls, vi x.step]]) (by omega) vw_lst (.inl rfl) (by simp [big]; omega)
 refine ⟨m1, v', m2, h1, a1, by omega, ?_⟩
 have hm := H.hm
 have e : addE l x = l ++ [x] := by unfold addE; rw [if_neg hx]
 rw [e]
 refine ⟨by rw [List.map_append]; exact a2, H.lh, by show h < m2.next + 1; omega, ?_, fun s o k => ?_⟩
 ·show m2.blk h = _
  rw [a5 h (fun l => H.ne _ _ _) (by omega), h3, List.map_append]
  rfl
 ·rcases a6 with rfl | ⟨l, rfl⟩
  ·exact fun h => by cases h
  ·intro e
   cases e
   omega
end Go.Am
namespace Go.Am
open Go
set_option linter.unusedSimpArgs false
set_option linter.unusedVariables false
set_option maxRecDepth 100000
theorem Rw.sl {lo sz : Nat} {m : Mem} {v : V} {xs : List V} (h : Rw lo m sz v xs) : v = .nil ∧ xs = [] ∨ Sl m sz v xs := by
 rcases h with h | ⟨h, rfl, _, _, h3⟩
 ·exact .inl h
 ·exact .inr (Sl.row h3)
end Go.Am
namespace Go.Am
open Go
set_option linter.unusedSimpArgs false
set_option linter.unusedVariables false
set_option maxRecDepth 100000
def wkAt (s : Sys) (on : Int) : Int := match s.cls[on.toNat]? with
 | some c => c.wk
 | none => 0
def impE (s : Sys) (x : Stp) : Bool :=
 if x.kind = 1 then !x.deep && decide (sizeAt s x.on - resAt s x.on < x.cnt) else if x.kind = 5 then decide (wkAt s x.on = 0) else false
end Go.Am
namespace Go.Am
open Go
set_option linter.unusedSimpArgs false
set_option linter.unusedVariables false
set_option maxRecDepth 100000
structure Gr (n : Int) (l : List Edge) : Prop where
 n0 : 0 ≤ n
 n4 : n ≤ 4096
 e : ∀ e ∈ l, ∃ a b : Nat, e.fr = a ∧ e.to = b ∧ (a : Int) < n ∧ (b : Int) < n
def hOf : V → Option Nat
 | .row _ h _ _ => some h
 | _ => none
structure NestB (lo : Nat) (m : Mem) (h q : Nat) (E : List (List Int)) (es : List V) : Prop where
 lh : lo ≤ h
 hm : h < m.next
 bh : m.blk h = some (.row 1 es)
 ln : es.length = E.length
 rw : ∀ (i : Nat) (v : V) (L : List Int), es[i]? = some v → E[i]? = some L → Rw lo m 1 v (L.map vi)
 ap : ∀ (i j : Nat) (v w : V) (k : Nat), es[i]? = some v → es[j]? = some w → hOf v = some k → hOf w = some k → i = j
 ne : ∀ (i : Nat) (v : V) (k : Nat), es[i]? = some v → hOf v = some k → k ≠ h ∧ k ≠ q
theorem NestB.mono {lo h q : Nat} {m m' : Mem} {E : List (List Int)} {es : List V} (H : NestB lo m h q E es) (hn : m.next ≤ m'.next) (hb : ∀ k, k ≠ q → k < m.next → m'.blk k = m.blk k) (hq : h ≠ q) : NestB lo m' h q E es := by
 refine ⟨H.lh, Nat.lt_of_lt_of_le H.hm hn, by rw [hb h hq H.hm]; exact H.bh, H.ln, fun i v L h1 h2 => (H.rw i v L h1 h2).mono hn (fun k l hk => ?_), H.ap, H.ne⟩
 subst hk
 have h3 := (H.ne i _ k h1 rfl).2
 rcases H.rw i _ L h1 h2 with ⟨h4, _⟩ | ⟨k2, h4, _, h5, _⟩
 ·cases h4
 ·cases h4
  exact hb k h3 h5
theorem Rw.hand {lo sz : Nat} {m : Mem} {v : V} {xs : List V} (h : Rw lo m sz v xs) {k : Nat} (hk : hOf v = some k) : v = .row sz k 0 xs.length ∧ lo ≤ k ∧ k < m.next ∧ m.blk k = some (.row sz xs) := by
 rcases h with ⟨rfl, _⟩ | ⟨k2, rfl, h1, h2, h3⟩
 ·cases hk
 ·cases hk
  exact ⟨rfl, h1, h2, h3⟩
theorem Rw.hOf_none {lo sz : Nat} {m : Mem} {v : V} {xs : List V} (h : Rw lo m sz v xs) (hk : hOf v = none) : v = .nil ∧ xs = [] := by
 rcases h with h | ⟨k2, rfl, _⟩
 ·exact h
 ·cases hk
theorem NestB.push {lo h q : Nat} {m : Mem} {E : List (List Int)} {es : List V} (H : NestB lo m h q E es) (c hN : Nat) (h1 : m.next ≤ hN) (h2 : hN < m.next + c) (hlo : lo ≤ m.next) (hq : q < m.next) {i : Nat} {L : List Int} (hE : E[i]? = some L) (hL : L.length < 1000000) (x : Int) :
  ∃ v v' m2, es[i]? = some v ∧ v.cells[0]? = some v ∧ apV lo hN (m.bump c) 1 v (.lst false 1 [vi x]) = some (v', m2) ∧ setC 0 1 v' v = some v' ∧ m2.blk h = some (.row 1 es) ∧ m2.next = m.next + c ∧ (∀ k, hOf v ≠ some k → k ≠ hN → m2.blk k = m.blk k) ∧ m2.blk q = m.blk q ∧ NestB lo (m2.set h (some (.row 1 (es.set i v')))) h q (E.set i (L ++ [x])) (es.set i v') := by
 have hi : i < E.length := (List.getElem?_eq_some_iff.1 hE).1
 have hv : es[i]? = some (es[i]'(by rw [H.ln]; exact hi)) := List.getElem?_eq_getElem _
 generalize es[i]'(by rw [H.ln]; exact hi) = v at hv
 have hr := H.rw i v L hv hE
 have hm := H.hm
 have fin : ∀ m2 : Mem, m2.next = m.next + c → m2.blk hN = some (.row 1 ((L ++ [x]).map vi)) → (∀ k, hOf v ≠ some k → k ≠ hN → m2.blk k = m.blk k) →
   NestB lo (m2.set h (some (.row 1 (es.set i (.row 1 hN 0 (L ++ [x]).length))))) h q (E.set i (L ++ [x])) (es.set i (.row 1 hN 0 (L ++ [x]).length)) := by
  intro m2 n2 b1 b2
  refine ⟨H.lh, by show h < m2.next; omega, by simp [Mem.set], by simp [H.ln], fun j w M hj hM => ?_, fun j k w z hk hj hk' e1 e2 => ?_, fun j w k hj hk => ?_⟩
  ·by_cases hij : j = i
   ·subst hij
    rw [List.getElem?_set_self (by rw [H.ln]; exact hi)] at hj
    rw [List.getElem?_set_self hi] at hM
    cases hj
    cases hM
    refine .inr ⟨hN, by simp, by omega, by show hN < m2.next; omega, ?_⟩
    rw [set_ne (by omega)]
    exact b1
   ·rw [List.getElem?_set_ne (Ne.symm hij)] at hj hM
    refine (H.rw j w M hj hM).mono (by show m.next ≤ m2.next; omega) (fun k l hk => ?_)
    subst hk
    have h3 := (H.ne j _ k hj rfl).1
    rw [set_ne h3]
    obtain ⟨_, _, h4, _⟩ := (H.rw j _ M hj hM).hand (k := k) rfl
    exact b2 k (fun hc => hij (H.ap j i _ _ k hj hv rfl hc)) (by omega)
  ·have lt : ∀ (j : Nat) (w : V) (k : Nat), j ≠ i → es[j]? = some w → hOf w = some k → k < m.next := by
    intro j w k _ hj hk
    have hjl := (List.getElem?_eq_some_iff.1 hj).1
    exact ((H.rw j w _ hj (List.getElem?_eq_getElem (by rw [← H.ln]; exact hjl))).hand hk).2.2.1
   by_cases hji : j = i
   ·by_cases hki : k = i
    ·rw [hji, hki]
    ·subst hji
     rw [List.getElem?_set_self (by rw [H.ln]; exact hi)] at hj
     rw [List.getElem?_set_ne (Ne.symm hki)] at hk'
     cases hj
     cases e1
     have := lt k z hN hki hk' e2
     omega
   ·by_cases hki : k = i
    ·subst hki
     rw [List.getElem?_set_self (by rw [H.ln]; exact hi)] at hk'
     rw [List.getElem?_set_ne (Ne.symm hji)] at hj
     cases hk'
     cases e2
     have := lt j w hN hji hj e1
     omega
    ·rw [List.getElem?_set_ne (Ne.symm hji)] at hj
     rw [List.getElem?_set_ne (Ne.symm hki)] at hk'
     exact H.ap j k w z hk hj hk' e1 e2
  ·by_cases hji : j = i
   ·subst hji
    rw [List.getElem?_set_self (by rw [H.ln]; exact hi)] at hj
    cases hj
    cases hk
    exact ⟨by omega, by omega⟩
   ·rw [List.getElem?_set_ne (Ne.symm hji)] at hj
    exact H.ne j w k hj hk
 cases hh : hOf v with
 | none =>
  obtain ⟨rfl, h3⟩ := hr.hOf_none hh
  have hL0 : L = [] := by simpa using h3
  subst hL0
  have hb : ([vi x] : List V).length < big := by simp [big]
  refine ⟨.nil, .row 1 hN 0 1, (m.bump c).set hN (some (.row 1 [vi x])), hv, rfl, ap_nil vw_lst rfl hb, rfl, ?_, rfl, fun k _ hk => set_ne hk, ?_, ?_⟩
  ·rw [set_ne (by omega)]
   exact H.bh
  ·rw [set_ne (by omega)]
   rfl
  ·exact fin ((m.bump c).set hN (some (.row 1 [vi x]))) rfl (by simp [Mem.set]) (fun k _ hk => set_ne hk)
 | some k =>
  obtain ⟨rfl, h3, h4, h5⟩ := hr.hand hh
  have hne := H.ne i _ k hv rfl
  have h6 : (m.bump c).blk k = some (.row 1 (L.map vi)) := h5
  have ha := ap_row (m := m.bump c) (lo := lo) (h := hN) (h' := k) (o := 0) (l := (L.map vi).length) (sz := 1) (s := 1) (y := .lst false 1 [vi x]) (xs := [vi x]) (es := L.map vi) vw_lst h3 (.inl rfl) (by simp [big]; omega) h6 (by simp)
  have e1 : (List.take (L.map vi).length (List.drop 0 (L.map vi)) ++ [vi x]) = (L ++ [x]).map vi := by rw [List.drop_zero, List.take_of_length_le (Nat.le_refl _), List.map_append]; rfl
  have e2 : (L.map vi).length + [vi x].length = (L ++ [x]).length := by simp
  rw [e1, e2] at ha
  have hbl : ∀ j, hOf (V.row 1 k 0 (L.map vi).length) ≠ some j → j ≠ hN → (((m.bump c).set k none).set hN (some (.row 1 ((L ++ [x]).map vi)))).blk j = m.blk j := fun j hj1 hj2 => by
   rw [set_ne hj2, set_ne (fun hc => hj1 (by rw [hc]; rfl))]
   rfl
  refine ⟨_, .row 1 hN 0 (L ++ [x]).length, ((m.bump c).set k none).set hN (some (.row 1 ((L ++ [x]).map vi))), hv, rfl, ha, rfl, ?_, rfl, hbl, ?_, ?_⟩
  ·rw [hbl h (fun hc => hne.1 (Option.some.inj hc)) (by omega)]
   exact H.bh
  ·exact hbl q (fun hc => hne.2 (Option.some.inj hc)) (by omega)
  ·exact fin _ rfl (by simp [Mem.set]) hbl
end Go.Am
namespace Go.Am
open Go
set_option linter.unusedSimpArgs false
set_option linter.unusedVariables false
set_option maxRecDepth 100000
def buck (key : Edge → Int) (val : Nat → Edge → Int) : List Edge → Nat → Int → List Int
 | [], _, _ => []
 | e :: t, i, w => (if key e = w then [val i e] else []) ++ buck key val t (i + 1) w
def bucks (key : Edge → Int) (val : Nat → Edge → Int) (N : Nat) (l : List Edge) : List (List Int) := (List.range N).map fun (w : Nat) => buck key val l 0 (w : Int)
theorem bucks_get {key : Edge → Int} {val : Nat → Edge → Int} {N : Nat} {l : List Edge} {b : Nat} (h : b < N) : (bucks key val N l)[b]? = some (buck key val l 0 b) := by simp [bucks, h]
theorem bucks_len {key : Edge → Int} {val : Nat → Edge → Int} {N : Nat} {l : List Edge} : (bucks key val N l).length = N := by simp [bucks]
def cntF (l : List Edge) (v : Nat) : Int := (l.countP fun e => decide (e.fr = (v : Int)) : Nat)
def cnts (N : Nat) (l : List Edge) : List Int := (List.range N).map (cntF l)
theorem cnts_get {N : Nat} {l : List Edge} {v : Nat} (h : v < N) : (cnts N l)[v]? = some (cntF l v) := by simp [cnts, h]
structure IR (lo : Nat) (m : Mem) (h : Nat) (xs : List Int) : Prop where
 lh : lo ≤ h
 hm : h < m.next
 b : m.blk h = some (.row 1 (xs.map vi))
theorem IR.mono {lo h : Nat} {m m' : Mem} {xs : List Int} (H : IR lo m h xs) (hn : m.next ≤ m'.next) (hb : m'.blk h = m.blk h) : IR lo m' h xs := ⟨H.lh, Nat.lt_of_lt_of_le H.hm hn, by rw [hb]; exact H.b⟩
theorem IR.set {lo h : Nat} {m : Mem} {xs : List Int} (H : IR lo m h xs) (ys : List Int) : IR lo (m.set h (some (.row 1 (ys.map vi)))) h ys := ⟨H.lh, H.hm, by simp [Mem.set]⟩
def frV (_ : Nat) (e : Edge) : Int := e.fr
def zeros (xs : List Int) (j : Nat) : List Int := ((List.range j).filter fun (i : Nat) => decide (xs[i]? = some 0)).map fun (i : Nat) => (i : Int)
structure Qs (lo : Nat) (m : Mem) (b : Nat) (v : V) (xs : List Int) : Prop where
 rw : Rw lo m 1 v (xs.map vi)
 nb : ∀ k, hOf v = some k → b ≤ k
 bn : b ≤ m.next
theorem Qs.push {lo b : Nat} {m : Mem} {v : V} {xs : List Int} (H : Qs lo m b v xs) (hlo : lo ≤ m.next) (hb : xs.length < 1000000) (x : Int) :
  ∃ v' m', apV lo m.next m 1 v (.lst false 1 [vi x]) = some (v', m') ∧ Qs lo (m'.bump 1) b v' (xs ++ [x]) ∧ m'.next = m.next ∧ ∀ k, k < b → m'.blk k = m.blk k := by
 obtain ⟨v', m', h1, h2, h3, _, h4, h5⟩ := H.rw.app2 (y := .lst false 1 [vi x]) hlo vw_lst (.inl rfl) (by simp [big]; omega)
 refine ⟨v', m', h1, ⟨by rw [List.map_append]; exact h2, fun k hk => ?_, by show b ≤ m'.next + 1; have := H.bn; omega⟩, h3, fun k hk => h4 k (fun l hv => ?_) (by have := H.bn; omega)⟩
 ·rcases h5 with rfl | ⟨l, rfl⟩
  ·cases hk
  ·cases hk; exact H.bn
 ·have := H.nb k (by rw [hv]; rfl)
  omega
theorem Qs.mono {lo b : Nat} {m m' : Mem} {v : V} {xs : List Int} (H : Qs lo m b v xs) (hn : m.next ≤ m'.next) (hb : ∀ k, b ≤ k → k < m.next → m'.blk k = m.blk k) : Qs lo m' b v xs :=
 ⟨H.rw.mono hn (fun k l hk => by
  subst hk
  obtain ⟨_, _, h4, _⟩ := H.rw.hand (k := k) rfl
  exact hb k (H.nb k rfl) h4), H.nb, Nat.le_trans H.bn hn⟩
theorem IR.len {lo h : Nat} {m : Mem} {xs : List Int} (H : IR lo m h xs) : True := trivial
end Go.Am
namespace Go.Am
open Go
set_option linter.unusedSimpArgs false
set_option linter.unusedVariables false
theorem nodup_le {α : Type} [DecidableEq α] : ∀ {xs ys : List α}, xs.Nodup → (∀ x ∈ xs, x ∈ ys) → xs.length ≤ ys.length
 | [], ys, _, _ => Nat.zero_le _
 | x :: xs, ys, h, hs => by
  rw [List.nodup_cons] at h
  have hx := hs x (by simp)
  have := nodup_le (xs := xs) (ys := ys.erase x) h.2 (fun y hy => (List.mem_erase_of_ne (fun e => h.1 (by rw [← e]; exact hy))).2 (hs y (by simp [hy])))
  rw [List.length_erase_of_mem hx] at this
  have : 0 < ys.length := List.length_pos_of_mem hx
  simp only [List.length_cons]
  omega
def gAt (xs : List Int) (r : Int) : Int := xs.getD r.toNat 0
theorem gAt_get {xs : List Int} {v : Nat} (h : v < xs.length) : xs[v]? = some (gAt xs v) := by
 rw [List.getElem?_eq_getElem h]
 simp [gAt, List.getD, List.getElem?_eq_getElem h]
theorem gAt_set {xs : List Int} {v w : Nat} {x : Int} (h : v < xs.length) : gAt (xs.set v x) w = if w = v then x else gAt xs w := by
 unfold gAt
 simp only [Int.toNat_natCast, List.getD]
 by_cases e : w = v
 ·subst e
  rw [List.getElem?_set_self h, if_pos rfl]; rfl
 ·rw [List.getElem?_set_ne (Ne.symm e), if_neg e]
structure LevEq (N : Nat) (l : List Edge) (f : List Int) : Prop where
 ln : f.length = N
 nn : ∀ v, v < N → 0 ≤ gAt f v
 ge : ∀ e ∈ l, gAt f e.to + 1 ≤ gAt f e.fr
 wit : ∀ v, v < N → gAt f v = 0 ∨ ∃ e ∈ l, e.fr = (v : Int) ∧ gAt f v = gAt f e.to + 1
theorem LevEq.uniq {n : Int} {N : Nat} {l : List Edge} (gr : Gr n l) (hN : n = N) {f g : List Int} (hf : LevEq N l f) (hg : LevEq N l g) : f = g := by
 have key : ∀ (k : Nat) (v : Nat), v < N → gAt f v < k → gAt f v = gAt g v := by
  intro k
  induction k with
  | zero => intro v hv h; have := hf.nn v hv; omega
  | succ k ih =>
   intro v hv h
   have le : ∀ e ∈ l, e.fr = (v : Int) → gAt f e.to = gAt g e.to := fun e he hfr => by
    obtain ⟨a, b, h1, h2, h3, h4⟩ := gr.e e he
    have h5 := hf.ge e he
    rw [hfr] at h5
    rw [h2] at h5 ⊢
    exact ih b (by omega) (by omega)
   rcases hf.wit v hv with h0 | ⟨e, he, hfr, hw⟩
   ·rcases hg.wit v hv with h1 | ⟨e, he, hfr, hw⟩
    ·omega
    ·have h2 := hf.ge e he
     obtain ⟨a, b, q1, q2, q3, q4⟩ := gr.e e he
     have h3 := hf.nn b (by omega)
     rw [hfr, q2] at h2
     omega
   ·have h1 := hg.ge e he
    rw [hfr, ← le e he hfr] at h1
    rcases hg.wit v hv with h2 | ⟨e', he', hfr', hw'⟩
    ·obtain ⟨a, b, q1, q2, q3, q4⟩ := gr.e e he
     have h3 := hf.nn b (by omega)
     rw [q2] at hw h1
     omega
    ·have h2 := hf.ge e' he'
     rw [hfr', le e' he' hfr'] at h2
     omega
 refine List.ext_getElem? fun v => ?_
 by_cases hv : v < N
 ·rw [gAt_get (by rw [hf.ln]; exact hv), gAt_get (by rw [hg.ln]; exact hv), key ((gAt f v).toNat + 1) v hv (by omega)]
 ·rw [List.getElem?_eq_none (by rw [hf.ln]; omega), List.getElem?_eq_none (by rw [hg.ln]; omega)]
def rest (l : List Edge) (P : List Int) (v : Nat) : Nat := l.countP fun e => decide (e.fr = (v : Int)) && !decide (e.to ∈ P)
theorem rest_nil {l : List Edge} {v : Nat} : (rest l [] v : Int) = cntF l v := by
 unfold rest cntF
 congr 1
 exact List.countP_congr (fun e _ => by simp)
theorem buck_count {P : List Int} {u : Int} {v : Nat} (hu : u ∉ P) : ∀ {l : List Edge} {i : Nat}, rest l P v = rest l (P ++ [u]) v + (buck Edge.to frV l i u).count (v : Int)
 | [], i => by simp [rest, buck]
 | e :: l, i => by
  have ih := buck_count (P := P) (u := u) (v := v) hu (l := l) (i := i + 1)
  unfold rest at ih ⊢
  rw [List.countP_cons, List.countP_cons, ih, buck, List.count_append]
  by_cases h1 : e.to = u
  ·rw [if_pos h1]
   by_cases h2 : e.fr = (v : Int)
   ·have h3 : ¬ e.to ∈ P := by rw [h1]; exact hu
    simp [h1, h2, frV, hu]
    omega
   ·simp [h2, frV, List.count_cons]
  ·rw [if_neg h1]
   by_cases h2 : e.to ∈ P
   ·simp [h2]
   ·simp [h1, h2]
    split <;> omega
theorem mem_inL {l : List Edge} {u x : Int} : ∀ {i : Nat}, x ∈ buck Edge.to frV l i u → ∃ e ∈ l, e.fr = x ∧ e.to = u := by
 induction l with
 | nil => intro i h; simp [buck] at h
 | cons e l ih =>
  intro i h
  rw [buck, List.mem_append] at h
  rcases h with h | h
  ·split at h
   ·rename_i h1
    simp [frV] at h
    exact ⟨e, by simp, h.symm, h1⟩
   ·simp at h
  ·obtain ⟨e', h1, h2⟩ := ih h
   exact ⟨e', by simp [h1], h2⟩
theorem inL_mem {l : List Edge} {e : Edge} : ∀ {i : Nat}, e ∈ l → e.fr ∈ buck Edge.to frV l i e.to := by
 induction l with
 | nil => intro i h; simp at h
 | cons d l ih =>
  intro i h
  rw [buck, List.mem_append]
  rcases List.mem_cons.1 h with rfl | h
  ·exact .inl (by simp [frV])
  ·exact .inr (ih h)
structure KI (N : Nat) (l : List Edge) (lf lv qs : List Int) (d : Nat) : Prop where
 lfl : lf.length = N
 lvl : lv.length = N
 dq : d ≤ qs.length
 nd : qs.Nodup
 rg : ∀ x ∈ qs, ∃ v : Nat, x = v ∧ v < N
 left : ∀ v, v < N → gAt lf v = rest l (qs.take d) v
 zero : ∀ v : Nat, v < N → ((v : Int) ∈ qs ↔ gAt lf v = 0)
 ge : ∀ e ∈ l, e.to ∈ qs.take d → gAt lv e.to + 1 ≤ gAt lv e.fr
 wit : ∀ v, v < N → gAt lv v = 0 ∨ ∃ e ∈ l, e.fr = (v : Int) ∧ e.to ∈ qs.take d ∧ gAt lv v = gAt lv e.to + 1
 bd : ∀ v, v < N → 0 ≤ gAt lv v ∧ gAt lv v ≤ d
structure KJ (N : Nat) (l : List Edge) (lf lv qs : List Int) (d : Nat) (u : Nat) (t : List Int) : Prop where
 lfl : lf.length = N
 lvl : lv.length = N
 uq : qs[d]? = some (u : Int)
 uN : u < N
 nd : qs.Nodup
 rg : ∀ x ∈ qs, ∃ v : Nat, x = v ∧ v < N
 tr : ∀ x ∈ t, ∃ v : Nat, x = v ∧ v < N ∧ ∃ e ∈ l, e.fr = x ∧ e.to = (u : Int)
 left : ∀ v, v < N → gAt lf v = rest l (qs.take d ++ [(u : Int)]) v + t.count (v : Int)
 zero : ∀ v : Nat, v < N → ((v : Int) ∈ qs ↔ gAt lf v = 0)
 ge : ∀ e ∈ l, e.to ∈ qs.take d → gAt lv e.to + 1 ≤ gAt lv e.fr
 gu : ∀ e ∈ l, e.to = (u : Int) → e.fr ∈ t ∨ gAt lv e.to + 1 ≤ gAt lv e.fr
 wit : ∀ v, v < N → gAt lv v = 0 ∨ ∃ e ∈ l, e.fr = (v : Int) ∧ (e.to ∈ qs.take d ∨ e.to = (u : Int)) ∧ gAt lv v = gAt lv e.to + 1
 bd : ∀ v, v < N → 0 ≤ gAt lv v ∧ gAt lv v ≤ d + 1
 bu : gAt lv u ≤ d
theorem nodup_take_get {qs : List Int} {d : Nat} {x : Int} (h : qs.Nodup) (hd : qs[d]? = some x) : x ∉ qs.take d := by
 intro hm
 obtain ⟨i, hi, e⟩ := List.getElem_of_mem hm
 have hdl := (List.getElem?_eq_some_iff.1 hd).1
 have hil : i < d := by simp at hi; omega
 have e1 : qs[i]? = some x := by
  rw [List.getElem_take] at e
  rw [List.getElem?_eq_getElem (by omega), e]
 have e2 := List.pairwise_iff_getElem.1 h i d (by omega) hdl hil
 rw [List.getElem?_eq_getElem (by omega)] at e1
 rw [List.getElem?_eq_getElem hdl] at hd
 rw [Option.some.inj e1, Option.some.inj hd] at e2
 exact e2 rfl
theorem KI.start {N : Nat} {n : Int} {l : List Edge} (gr : Gr n l) (hN : n = N) : KI N l (cnts N l) (List.replicate N 0) (zeros (cnts N l) N) 0 := by
 have hc : ∀ v, v < N → gAt (cnts N l) v = cntF l v := fun v hv => by
  have h1 := gAt_get (xs := cnts N l) (v := v) (by simp [cnts]; exact hv)
  rw [cnts_get hv] at h1
  exact (Option.some.inj h1).symm
 have hz : ∀ v : Nat, gAt (List.replicate N 0) v = 0 := fun v => by
  unfold gAt
  rw [Int.toNat_natCast, List.getD]
  by_cases h : v < N
  ·rw [List.getElem?_replicate_of_lt h]; rfl
  ·rw [List.getElem?_eq_none (by simp; omega)]; rfl
 refine ⟨by simp [cnts], by simp, Nat.zero_le _, ?_, fun x hx => ?_, fun v hv => ?_, fun v hv => ?_, fun e he h => by simp at h, fun v hv => .inl (hz v), fun v hv => by rw [hz v]; simp⟩
 ·unfold zeros
  refine List.Pairwise.map _ (fun a b h => ?_) (List.Pairwise.filter _ List.nodup_range)
  omega
 ·simp only [zeros, List.mem_map, List.mem_filter, List.mem_range] at hx
  obtain ⟨v, ⟨h1, _⟩, rfl⟩ := hx
  exact ⟨v, rfl, h1⟩
 ·rw [hc v hv, List.take_zero, rest_nil]
 ·rw [hc v hv]
  constructor
  ·intro h
   simp only [zeros, List.mem_map, List.mem_filter, List.mem_range, decide_eq_true_eq] at h
   obtain ⟨w, ⟨h1, h2⟩, h3⟩ := h
   have : w = v := by omega
   subst this
   rw [cnts_get h1] at h2
   exact Option.some.inj h2
  ·intro h
   refine List.mem_map.2 ⟨v, List.mem_filter.2 ⟨List.mem_range.2 hv, ?_⟩, rfl⟩
   rw [decide_eq_true_eq, cnts_get hv, h]
theorem KI.enter {N : Nat} {n : Int} {l : List Edge} (gr : Gr n l) (hN : n = N) {lf lv qs : List Int} {d : Nat} (H : KI N l lf lv qs d) {u : Nat} (hu : qs[d]? = some (u : Int)) : KJ N l lf lv qs d u (buck Edge.to frV l 0 u) := by
 have hm := List.mem_of_getElem? hu
 obtain ⟨v, hv, hvN⟩ := H.rg _ hm
 have : v = u := by omega
 subst this
 refine ⟨H.lfl, H.lvl, hu, hvN, H.nd, H.rg, fun x hx => ?_, fun w hw => ?_, H.zero, H.ge, fun e he h => .inl (by rw [← h]; exact inL_mem he), fun w hw => ?_, fun w hw => ?_, (H.bd v hvN).2⟩
 ·obtain ⟨e, he, h1, h2⟩ := mem_inL hx
  obtain ⟨a, b, q1, q2, q3, q4⟩ := gr.e e he
  exact ⟨a, by omega, by omega, e, he, h1, h2⟩
 ·rw [H.left w hw, buck_count (nodup_take_get H.nd hu) (i := 0)]
  push_cast
  rfl
 ·rcases H.wit w hw with h | ⟨e, h1, h2, h3, h4⟩
  ·exact .inl h
  ·exact .inr ⟨e, h1, h2, .inl h3, h4⟩
 ·have := H.bd w hw
  omega
theorem KJ.step {N : Nat} {l : List Edge} {lf lv qs : List Int} {d u x : Nat} {t : List Int} (H : KJ N l lf lv qs d u ((x : Int) :: t)) :
  x < N ∧ 1 ≤ gAt lf x ∧ ((x : Int) ∉ qs) ∧
  KJ N l (lf.set x (gAt lf x - 1)) (lv.set x (max (gAt lv x) (gAt lv u + 1))) (if gAt lf x - 1 = 0 then qs ++ [(x : Int)] else qs) d u t := by
 obtain ⟨w, hw, hxN, e0, he0, hf0, ht0⟩ := H.tr x (by simp)
 have : w = x := by omega
 subst this
 have hl := H.left w hxN
 rw [List.count_cons_self] at hl
 have h1 : 1 ≤ gAt lf w := by omega
 have hnq : (w : Int) ∉ qs := fun h => by have := (H.zero w hxN).1 h; omega
 have huq := List.mem_of_getElem? H.uq
 have huw : u ≠ w := fun h => hnq (by rw [← h]; exact huq)
 have hdl := (List.getElem?_eq_some_iff.1 H.uq).1
 have lfw : ∀ v : Nat, gAt (lf.set w (gAt lf w - 1)) v = if v = w then gAt lf w - 1 else gAt lf v := fun v => gAt_set (by rw [H.lfl]; exact hxN)
 have lvw : ∀ v : Nat, gAt (lv.set w (max (gAt lv w) (gAt lv u + 1))) v = if v = w then max (gAt lv w) (gAt lv u + 1) else gAt lv v := fun v => gAt_set (by rw [H.lvl]; exact hxN)
 have lvq : ∀ y ∈ qs, gAt (lv.set w (max (gAt lv w) (gAt lv u + 1))) y = gAt lv y := fun y hy => by
  obtain ⟨v, rfl, _⟩ := H.rg y hy
  rw [lvw, if_neg (fun h => hnq (by rw [← h]; exact hy))]
 have lvge : ∀ y : Nat, gAt lv y ≤ gAt (lv.set w (max (gAt lv w) (gAt lv u + 1))) y := fun y => by
  rw [lvw]
  split
  ·rename_i h; rw [h]; omega
  ·omega
 have htk : (if gAt lf w - 1 = 0 then qs ++ [(w : Int)] else qs).take d = qs.take d := by
  split
  ·rw [List.take_append_of_le_length (by omega)]
  ·rfl
 have hsub : ∀ y ∈ qs.take d, y ∈ qs := fun y hy => List.mem_of_mem_take hy
 refine ⟨hxN, h1, hnq, ⟨by simp [H.lfl], by simp [H.lvl], ?_, H.uN, ?_, ?_, fun y hy => H.tr y (by simp [hy]), fun v hv => ?_, fun v hv => ?_, fun e he h => ?_, fun e he h => ?_, fun v hv => ?_, fun v hv => ?_, ?_⟩⟩
 ·split
  ·rw [List.getElem?_append_left hdl]; exact H.uq
  ·exact H.uq
 ·split
  ·rw [List.nodup_append]
   exact ⟨H.nd, by simp, fun a ha b hb e => hnq (by simp at hb; rw [← hb, ← e]; exact ha)⟩
  ·exact H.nd
 ·intro y hy
  split at hy
  ·rcases List.mem_append.1 hy with hy | hy
   ·exact H.rg y hy
   ·exact ⟨w, by simpa using hy, hxN⟩
  ·exact H.rg y hy
 ·rw [htk, lfw]
  have hl2 := H.left v hv
  by_cases hvw : v = w
  ·subst hvw
   rw [if_pos rfl]
   omega
  ·rw [if_neg hvw]
   rw [List.count_cons_of_ne (by omega)] at hl2
   exact hl2
 ·rw [lfw]
  by_cases hvw : v = w
  ·subst hvw
   rw [if_pos rfl]
   constructor
   ·intro h
    split at h
    ·assumption
    ·exact absurd h hnq
   ·intro h
    rw [if_pos h]
    simp
  ·rw [if_neg hvw, ← H.zero v hv]
   split
   ·constructor
    ·intro h
     rcases List.mem_append.1 h with h | h
     ·exact h
     ·simp at h; omega
    ·intro h; exact List.mem_append_left _ h
   ·exact Iff.rfl
 ·rw [htk] at h
  have h2 := H.ge e he h
  rw [lvq _ (hsub _ h)]
  by_cases hfr : ∃ y : Nat, e.fr = y
  ·obtain ⟨y, hy⟩ := hfr
   rw [hy] at h2 ⊢
   have := lvge y
   omega
  ·have : gAt (lv.set w (max (gAt lv w) (gAt lv u + 1))) e.fr = gAt (lv.set w (max (gAt lv w) (gAt lv u + 1))) (e.fr.toNat : Nat) := rfl
   have e1 : gAt lv e.fr = gAt lv (e.fr.toNat : Nat) := rfl
   have := lvge e.fr.toNat
   omega
 ·have hfr : gAt (lv.set w (max (gAt lv w) (gAt lv u + 1))) e.fr = gAt (lv.set w (max (gAt lv w) (gAt lv u + 1))) (e.fr.toNat : Nat) := rfl
  have e1 : gAt lv e.fr = gAt lv (e.fr.toNat : Nat) := rfl
  have h2 := lvge e.fr.toNat
  have hto := lvq _ huq
  rw [h, hto]
  rcases H.gu e he h with h3 | h3
  ·rcases List.mem_cons.1 h3 with h3 | h3
   ·right
    rw [h3, lvw, if_pos rfl]
    omega
   ·exact .inl h3
  ·rw [h] at h3
   right
   omega
 ·rw [htk]
  have wq : ∀ e : Edge, (e.to ∈ qs.take d ∨ e.to = (u : Int)) → e.to ∈ qs := fun e h => by
   rcases h with h | h
   ·exact hsub _ h
   ·rw [h]; exact huq
  rw [lvw]
  by_cases hvw : v = w
  ·subst hvw
   rw [if_pos rfl]
   by_cases hm : gAt lv u + 1 ≤ gAt lv v
   ·rcases H.wit v hv with h | ⟨e, q1, q2, q3, q4⟩
    ·exact .inl (by omega)
    ·exact .inr ⟨e, q1, q2, q3, by have := lvq _ (wq e q3); omega⟩
   ·refine .inr ⟨e0, he0, hf0, .inr ht0, ?_⟩
    rw [ht0, lvq _ huq]
    omega
  ·rw [if_neg hvw]
   rcases H.wit v hv with h | ⟨e, q1, q2, q3, q4⟩
   ·exact .inl h
   ·exact .inr ⟨e, q1, q2, q3, by rw [lvq _ (wq e q3)]; exact q4⟩
 ·rw [lvw]
  have b1 := H.bd v hv
  have b2 := H.bu
  split
  ·rename_i h
   subst h
   omega
  ·exact b1
 ·rw [lvq _ huq]
  exact H.bu
theorem KI.len {N : Nat} {l : List Edge} {lf lv qs : List Int} {d : Nat} (H : KI N l lf lv qs d) : qs.length ≤ N := by
 have := nodup_le (xs := qs) (ys := (List.range N).map fun (i : Nat) => (i : Int)) H.nd (fun x hx => by
  obtain ⟨v, rfl, hv⟩ := H.rg x hx
  exact List.mem_map.2 ⟨v, List.mem_range.2 hv, rfl⟩)
 simpa using this
theorem KJ.len {N : Nat} {l : List Edge} {lf lv qs : List Int} {d u : Nat} {t : List Int} (H : KJ N l lf lv qs d u t) : qs.length ≤ N := by
 have := nodup_le (xs := qs) (ys := (List.range N).map fun (i : Nat) => (i : Int)) H.nd (fun x hx => by
  obtain ⟨v, rfl, hv⟩ := H.rg x hx
  exact List.mem_map.2 ⟨v, List.mem_range.2 hv, rfl⟩)
 simpa using this
theorem KI.full {N : Nat} {n : Int} {l : List Edge} (gr : Gr n l) (hN : n = N) {lf lv qs : List Int} {d : Nat} (H : KI N l lf lv qs d) (hd : qs.length ≤ d) (hdN : N ≤ d) : LevEq N l lv := by
 have all : ∀ v : Nat, v < N → (v : Int) ∈ qs := fun v hv => by
  refine Classical.byContradiction fun hn => ?_
  have := nodup_le (xs := (v : Int) :: qs) (ys := (List.range N).map fun (i : Nat) => (i : Int)) (List.nodup_cons.2 ⟨hn, H.nd⟩) (fun x hx => by
   rcases List.mem_cons.1 hx with rfl | hx
   ·exact List.mem_map.2 ⟨v, List.mem_range.2 hv, rfl⟩
   ·obtain ⟨w, rfl, hw⟩ := H.rg x hx
    exact List.mem_map.2 ⟨w, List.mem_range.2 hw, rfl⟩)
  have h2 := H.dq
  simp at this
  omega
 have ht : qs.take d = qs := List.take_of_length_le hd
 refine ⟨H.lvl, fun v hv => (H.bd v hv).1, fun e he => ?_, fun v hv => ?_⟩
 ·obtain ⟨a, b, h1, h2, h3, h4⟩ := gr.e e he
  refine H.ge e he ?_
  rw [ht, h2]
  exact all b (by omega)
 ·rcases H.wit v hv with h | ⟨e, q1, q2, q3, q4⟩
  ·exact .inl h
  ·exact .inr ⟨e, q1, q2, q4⟩
end Go.Am
namespace Go.Am
open Go
set_option linter.unusedSimpArgs false
set_option linter.unusedVariables false
set_option maxRecDepth 100000
theorem Qs.row {lo b : Nat} {m : Mem} {v : V} {xs : List Int} (H : Qs lo m b v xs) (h : xs ≠ []) : ∃ k, v = .row 1 k 0 xs.length ∧ lo ≤ k ∧ b ≤ k ∧ k < m.next ∧ m.blk k = some (.row 1 (xs.map vi)) := by
 rcases H.rw with ⟨_, h2⟩ | ⟨k, h1, h2, h3, h4⟩
 ·simp at h2; exact absurd h2 h
 ·refine ⟨k, by rw [h1]; simp, h2, ?_, h3, h4⟩
  exact H.nb k (by rw [h1]; rfl)
end Go.Am
namespace Go.Am
open Go
set_option linter.unusedSimpArgs false
set_option linter.unusedVariables false
set_option maxRecDepth 100000
theorem bucks_nil {key : Edge → Int} {val : Nat → Edge → Int} {N : Nat} : bucks key val N [] = List.replicate N [] := by
 refine List.ext_getElem? fun j => ?_
 by_cases h : j < N
 ·rw [bucks_get h, List.getElem?_replicate_of_lt h]; rfl
 ·rw [List.getElem?_eq_none (by simp [bucks_len]; omega), List.getElem?_eq_none (by simp; omega)]
theorem NestB.start {lo h q : Nat} {m : Mem} {key : Edge → Int} {val : Nat → Edge → Int} {N : Nat} (h1 : lo ≤ h) (h2 : h < m.next) (h3 : m.blk h = some (.row 1 (List.replicate N .nil))) : NestB lo m h q (bucks key val N []) (List.replicate N .nil) := by
 have nil_of : ∀ (i : Nat) (v : V), (List.replicate N V.nil)[i]? = some v → v = .nil := fun i v h => by
  have := List.mem_of_getElem? h
  exact List.eq_of_mem_replicate this
 refine ⟨h1, h2, h3, by simp [bucks_len], fun i v L hv hL => ?_, fun i j v w k hv hw e1 e2 => ?_, fun i v k hv hk => ?_⟩
 ·rw [nil_of i v hv]
  rw [bucks_nil] at hL
  have := List.eq_of_mem_replicate (List.mem_of_getElem? hL)
  rw [this]
  exact .nil
 ·rw [nil_of i v hv] at e1; cases e1
 ·rw [nil_of i v hv] at hk; cases hk
def shOf (es : List V) (u : Nat) : Nat := ((es[u]?).bind hOf).getD 0
theorem NestB.view {lo h q : Nat} {m : Mem} {E : List (List Int)} {es : List V} (H : NestB lo m h q E es) {u : Nat} {w : V} {L : List Int} (hw : es[u]? = some w) (hL : E[u]? = some L) :
  (w = .nil ∧ L = []) ∨ (w = .row 1 (shOf es u) 0 L.length ∧ shOf es u < m.next ∧ shOf es u ≠ h ∧ shOf es u ≠ q ∧ m.blk (shOf es u) = some (.row 1 (L.map vi))) := by
 rcases H.rw u w L hw hL with ⟨h1, h2⟩ | ⟨k, h1, h2, h3, h4⟩
 ·exact .inl ⟨h1, by simpa using h2⟩
 ·have hs : shOf es u = k := by simp [shOf, hw, h1, hOf]
  have hn := H.ne u w k hw (by rw [h1]; rfl)
  rw [hs]
  exact .inr ⟨by rw [h1]; simp, h3, hn.1, hn.2, h4⟩
end Go.Am
namespace Go.Am
open Go
set_option linter.unusedSimpArgs false
set_option linter.unusedVariables false
set_option maxRecDepth 100000
structure RI (N : Nat) (l : List Edge) (r : Nat) (p : List Edge) (o : List Int) (more : Bool) : Prop where
 ln : o.length = N
 nn : ∀ v, v < N → 0 ≤ gAt o v
 wit : ∀ v, v < N → gAt o v = 0 ∨ ∃ e ∈ l, e.fr = (v : Int) ∧ gAt o v ≤ gAt o e.to + 1
 le : ∀ f, LevEq N l f → ∀ v, v < N → gAt o v ≤ gAt f v
 eq : ∀ f, LevEq N l f → ∀ v, v < N → gAt f v ≤ r → gAt o v = gAt f v
 pr : ∀ f, LevEq N l f → ∀ e ∈ p, gAt f e.to ≤ r → gAt f e.to + 1 ≤ gAt o e.fr
 no : more = false → ∀ e ∈ p, gAt o e.to + 1 ≤ gAt o e.fr
 fin : ∀ f, LevEq N l f → (∀ v, v < N → gAt f v ≤ r) → more = false
 bd : ∀ v, v < N → gAt o v ≤ r * 100000 + p.length
theorem RI.start {N : Nat} {l : List Edge} : RI N l 0 [] (List.replicate N 0) false := by
 have hz : ∀ v : Nat, gAt (List.replicate N 0) v = 0 := fun v => by
  unfold gAt
  rw [Int.toNat_natCast, List.getD]
  by_cases h : v < N
  ·rw [List.getElem?_replicate_of_lt h]; rfl
  ·rw [List.getElem?_eq_none (by simp; omega)]; rfl
 refine ⟨by simp, fun v _ => by rw [hz]; omega, fun v _ => .inl (hz v), fun f hf v hv => by rw [hz]; exact hf.nn v hv, fun f hf v hv h => by rw [hz]; have := hf.nn v hv; omega, fun f hf e he => by simp at he, fun _ e he => by simp at he, fun _ _ _ => rfl, fun v hv => by rw [hz]; simp⟩
theorem RI.keep {N r : Nat} {l p : List Edge} {o : List Int} {more : Bool} (H : RI N l r p o more) {e : Edge} (h : gAt o e.to + 1 ≤ gAt o e.fr) {n : Int} (gr : Gr n l) (hN : n = N) (he : e ∈ l) : RI N l r (p ++ [e]) o more := by
 refine ⟨H.ln, H.nn, H.wit, H.le, H.eq, fun f hf d hd hr => ?_, fun hm d hd => ?_, H.fin, fun v hv => by have := H.bd v hv; simp; omega⟩
 ·rcases List.mem_append.1 hd with hd | hd
  ·exact H.pr f hf d hd hr
  ·simp at hd
   subst hd
   obtain ⟨a, b, h1, h2, h3, h4⟩ := gr.e d he
   rw [h2] at hr h ⊢
   rw [← H.eq f hf b (by omega) hr]
   exact h
 ·rcases List.mem_append.1 hd with hd | hd
  ·exact H.no hm d hd
  ·simp at hd
   subst hd
   exact h
theorem RI.done {N r : Nat} {l : List Edge} {o : List Int} (H : RI N l r l o false) : LevEq N l o := by
 refine ⟨H.ln, H.nn, H.no rfl, fun v hv => ?_⟩
 rcases H.wit v hv with h | ⟨e, h1, h2, h3⟩
 ·exact .inl h
 ·have := H.no rfl e h1
  rw [h2] at this
  exact .inr ⟨e, h1, h2, by omega⟩
theorem RI.next {N r : Nat} {l : List Edge} {o : List Int} (H : RI N l r l o true) (hl : l.length ≤ 100000) : RI N l (r + 1) [] o false := by
 refine ⟨H.ln, H.nn, H.wit, H.le, fun f hf v hv hr => ?_, fun f hf e he => by simp at he, fun _ e he => by simp at he, fun _ _ _ => rfl, fun v hv => by have := H.bd v hv; push_cast; simp; omega⟩
 by_cases h : gAt f v ≤ r
 ·exact H.eq f hf v hv h
 ·rcases hf.wit v hv with h1 | ⟨e, h1, h2, h3⟩
  ·omega
  ·have h4 := H.pr f hf e h1 (by push_cast at hr; omega)
   rw [h2] at h4
   have := H.le f hf v hv
   omega
theorem LevEq.small {n : Int} {N : Nat} {l : List Edge} (gr : Gr n l) (hN : n = N) {f : List Int} (hf : LevEq N l f) : ∀ v, v < N → gAt f v ≤ N := by
 intro v hv
 have down : ∀ (k : Nat) (w : Nat), w < N → (k : Int) ≤ gAt f w → ∃ w', w' < N ∧ gAt f w' = k := by
  intro k w hw hk
  obtain ⟨j, hj⟩ : ∃ j : Nat, gAt f w = k + j := ⟨(gAt f w - k).toNat, by omega⟩
  induction j generalizing w with
  | zero => exact ⟨w, hw, by omega⟩
  | succ j ih =>
   rcases hf.wit w hw with h1 | ⟨e, h1, h2, h3⟩
   ·omega
   ·obtain ⟨a, b, q1, q2, q3, q4⟩ := gr.e e h1
    rw [q2] at h3
    exact ih b (by omega) (by omega) (by omega)
 refine Classical.byContradiction fun hgt => ?_
 have hall : ∀ k : Nat, k < N + 1 → ∃ w, w < N ∧ gAt f w = k := fun k hk => down k v hv (by omega)
 have hch : ∃ g : Nat → Nat, ∀ k, k < N + 1 → g k < N ∧ gAt f (g k) = k := by
  refine ⟨fun k => if h : k < N + 1 then Classical.choose (hall k h) else 0, fun k hk => ?_⟩
  simp only [dif_pos hk]
  exact Classical.choose_spec (hall k hk)
 obtain ⟨g, hg⟩ := hch
 have := nodup_le (xs := (List.range (N + 1)).map g) (ys := List.range N) (by
  refine List.pairwise_map.2 (List.Pairwise.imp_of_mem (fun {a b} ha hb hab he => ?_) List.nodup_range)
  have h1 := (hg a (List.mem_range.1 ha)).2
  have h2 := (hg b (List.mem_range.1 hb)).2
  rw [he] at h1
  exact hab (by omega)) (fun x hx => by
  obtain ⟨k, hk, rfl⟩ := List.mem_map.1 hx
  exact List.mem_range.2 (hg k (List.mem_range.1 hk)).1)
 simp at this
 omega
end Go.Am
namespace Go.Am
open Go
set_option linter.unusedSimpArgs false
set_option linter.unusedVariables false
def IsD (P : Nat → Int → Prop) (v z : Int) : Prop := (0 ≤ z ∧ P z.toNat v ∧ ∀ k : Nat, P k v → z ≤ k) ∨ (z = -1 ∧ ∀ k, ¬ P k v)
theorem least {p : Nat → Prop} (h : ∃ k, p k) : ∃ k, p k ∧ ∀ j, p j → k ≤ j := by
 obtain ⟨k, hk⟩ := h
 induction k using Nat.strongRecOn with
 | ind k ih =>
  by_cases hj : ∃ j, j < k ∧ p j
  ·obtain ⟨j, h1, h2⟩ := hj
   exact ih j h1 h2
  ·exact ⟨k, hk, fun j hp => Nat.le_of_not_lt fun h => hj ⟨j, h, hp⟩⟩
theorem IsD.ex {P : Nat → Int → Prop} {v : Int} : ∃ z, IsD P v z := by
 by_cases h : ∃ k, P k v
 ·obtain ⟨k, h1, h2⟩ := least h
  exact ⟨k, .inl ⟨by omega, by simpa using h1, fun j hj => by have := h2 j hj; omega⟩⟩
 ·exact ⟨-1, .inr ⟨rfl, fun k hk => h ⟨k, hk⟩⟩⟩
theorem IsD.uniq {P : Nat → Int → Prop} {v z w : Int} (h1 : IsD P v z) (h2 : IsD P v w) : z = w := by
 rcases h1 with ⟨a1, a2, a3⟩ | ⟨a1, a2⟩ <;> rcases h2 with ⟨b1, b2, b3⟩ | ⟨b1, b2⟩
 ·have := a3 _ b2; have := b3 _ a2; omega
 ·exact absurd a2 (b2 _)
 ·exact absurd b2 (a2 _)
 ·omega
open Classical in
noncomputable def dist (P : Nat → Int → Prop) (v : Int) : Int := Classical.choose (IsD.ex (P := P) (v := v))
theorem dist_spec {P : Nat → Int → Prop} {v : Int} : IsD P v (dist P v) := Classical.choose_spec (IsD.ex (P := P) (v := v))
theorem dist_eq {P : Nat → Int → Prop} {v z : Int} (h : IsD P v z) : dist P v = z := dist_spec.uniq h
structure Steps (N : Nat) (nb : Int → List Int) (P : Nat → Int → Prop) (root : Nat) : Prop where
 rt : root < N
 p0 : ∀ v, P 0 v ↔ v = (root : Int)
 ps : ∀ k v, P (k + 1) v ↔ ∃ x, P k x ∧ v ∈ nb x
 rg : ∀ x y, y ∈ nb x → ∃ v : Nat, y = v ∧ v < N
structure BI (N : Nat) (nb : Int → List Int) (P : Nat → Int → Prop) (root : Nat) (ds qs : List Int) (d : Nat) : Prop where
 dl : ds.length = N
 rg : ∀ x ∈ qs, ∃ v : Nat, x = v ∧ v < N
 nd : qs.Nodup
 dq : d ≤ qs.length
 q0 : (root : Int) ∈ qs ∧ gAt ds root = 0
 inq : ∀ v : Nat, v < N → ((v : Int) ∈ qs ↔ 0 ≤ gAt ds v)
 out : ∀ v : Nat, v < N → gAt ds v < 0 → gAt ds v = -1
 snd : ∀ v : Nat, v < N → 0 ≤ gAt ds v → P (gAt ds v).toNat v
 srt : qs.Pairwise fun a b => gAt ds a ≤ gAt ds b
 bnd : ∀ x, qs[d]? = some x → ∀ y ∈ qs, gAt ds y ≤ gAt ds x + 1
 cl : ∀ x ∈ qs.take d, ∀ y ∈ nb x, 0 ≤ gAt ds y ∧ gAt ds y ≤ gAt ds x + 1
 bd : ∀ v : Nat, v < N → gAt ds v ≤ d
structure BJ (N : Nat) (nb : Int → List Int) (P : Nat → Int → Prop) (root : Nat) (ds qs : List Int) (d u : Nat) (t : List Int) : Prop where
 dl : ds.length = N
 rg : ∀ x ∈ qs, ∃ v : Nat, x = v ∧ v < N
 nd : qs.Nodup
 uq : qs[d]? = some (u : Int)
 uN : u < N
 q0 : (root : Int) ∈ qs ∧ gAt ds root = 0
 inq : ∀ v : Nat, v < N → ((v : Int) ∈ qs ↔ 0 ≤ gAt ds v)
 out : ∀ v : Nat, v < N → gAt ds v < 0 → gAt ds v = -1
 snd : ∀ v : Nat, v < N → 0 ≤ gAt ds v → P (gAt ds v).toNat v
 srt : qs.Pairwise fun a b => gAt ds a ≤ gAt ds b
 bnd : ∀ y ∈ qs, gAt ds y ≤ gAt ds u + 1
 cl : ∀ x ∈ qs.take d, ∀ y ∈ nb x, 0 ≤ gAt ds y ∧ gAt ds y ≤ gAt ds x + 1
 cu : ∀ y ∈ nb u, y ∈ t ∨ (0 ≤ gAt ds y ∧ gAt ds y ≤ gAt ds u + 1)
 tr : ∀ y ∈ t, y ∈ nb u
 bd : ∀ v : Nat, v < N → gAt ds v ≤ d + 1
 bu : 0 ≤ gAt ds u ∧ gAt ds u ≤ d
theorem BI.start {N root : Nat} {nb : Int → List Int} {P : Nat → Int → Prop} (S : Steps N nb P root) : BI N nb P root ((List.replicate N (-1)).set root 0) [(root : Int)] 0 := by
 have hr := S.rt
 have hz : ∀ v : Nat, v < N → gAt (List.replicate N (-1)) v = -1 := fun v h => by
  unfold gAt
  rw [Int.toNat_natCast, List.getD, List.getElem?_replicate_of_lt h]; rfl
 have gs : ∀ v : Nat, v < N → gAt ((List.replicate N (-1)).set root 0) v = if v = root then 0 else -1 := fun v h => by
  rw [gAt_set (by simp; exact hr), hz v h]
 refine ⟨by simp, fun x hx => ⟨root, by simpa using hx, hr⟩, by simp, Nat.zero_le _, ⟨by simp, by rw [gs root hr, if_pos rfl]⟩, fun v hv => ?_, fun v hv h => ?_, fun v hv h => ?_, by simp, fun x hx y hy => ?_, fun x hx => by simp at hx, fun v hv => ?_⟩
 ·rw [gs v hv]
  by_cases h : v = root
  ·simp [h]
  ·rw [if_neg h]; simp; omega
 ·rw [gs v hv] at h ⊢
  split at h
  ·omega
  ·rename_i h1; rw [if_neg h1]
 ·rw [gs v hv] at h ⊢
  split at h
  ·rename_i h1
   rw [if_pos h1]
   exact (S.p0 _).2 (by rw [h1])
  ·omega
 ·simp at hx hy
  subst hx
  subst hy
  omega
 ·rw [gs v hv]
  split <;> omega
theorem BI.enter {N root : Nat} {nb : Int → List Int} {P : Nat → Int → Prop} {ds qs : List Int} {d u : Nat} (H : BI N nb P root ds qs d) (hu : qs[d]? = some (u : Int)) : BJ N nb P root ds qs d u (nb u) := by
 have hm := List.mem_of_getElem? hu
 obtain ⟨v, hv, hvN⟩ := H.rg _ hm
 have : v = u := by omega
 subst this
 exact ⟨H.dl, H.rg, H.nd, hu, hvN, H.q0, H.inq, H.out, H.snd, H.srt, H.bnd _ hu, H.cl, fun y hy => .inl hy, fun y hy => hy, fun w hw => by have := H.bd w hw; omega, (H.inq v hvN).1 hm, H.bd v hvN⟩
theorem BJ.old {N root : Nat} {nb : Int → List Int} {P : Nat → Int → Prop} {ds qs : List Int} {d u : Nat} {y : Int} {t : List Int} (H : BJ N nb P root ds qs d u (y :: t)) (h : 0 ≤ gAt ds y) (hN : ∃ v : Nat, y = v ∧ v < N) : BJ N nb P root ds qs d u t := by
 refine { H with cu := fun z hz => ?_, tr := fun z hz => H.tr z (by simp [hz]) }
 rcases H.cu z hz with h1 | h1
 ·rcases List.mem_cons.1 h1 with rfl | h1
  ·obtain ⟨v, rfl, hv⟩ := hN
   exact .inr ⟨h, H.bnd _ ((H.inq v hv).2 h)⟩
  ·exact .inl h1
 ·exact .inr h1
theorem BJ.new {N root : Nat} {nb : Int → List Int} {P : Nat → Int → Prop} (S : Steps N nb P root) {ds qs : List Int} {d u w : Nat} {t : List Int} (H : BJ N nb P root ds qs d u ((w : Int) :: t)) (hw : w < N) (h : gAt ds w < 0) : BJ N nb P root (ds.set w (gAt ds u + 1)) (qs ++ [(w : Int)]) d u t := by
 have hnq : (w : Int) ∉ qs := fun hh => by have := (H.inq w hw).1 hh; omega
 have gs : ∀ v : Nat, gAt (ds.set w (gAt ds u + 1)) v = if v = w then gAt ds u + 1 else gAt ds v := fun v => gAt_set (by rw [H.dl]; exact hw)
 have gq : ∀ y ∈ qs, gAt (ds.set w (gAt ds u + 1)) y = gAt ds y := fun y hy => by
  obtain ⟨v, rfl, _⟩ := H.rg y hy
  rw [gs, if_neg (fun hh => hnq (by rw [← hh]; exact hy))]
 have huq := List.mem_of_getElem? H.uq
 have hdl := (List.getElem?_eq_some_iff.1 H.uq).1
 have htk : (qs ++ [(w : Int)]).take d = qs.take d := List.take_append_of_le_length (by omega)
 have hge : ∀ y : Int, (∃ v : Nat, y = v ∧ v < N) → 0 ≤ gAt ds y → gAt (ds.set w (gAt ds u + 1)) y = gAt ds y := fun y hy h0 => by
  obtain ⟨v, rfl, hv⟩ := hy
  exact gq _ ((H.inq v hv).2 h0)
 have b0 := H.bu
 refine ⟨by simp [H.dl], fun x hx => ?_, ?_, by rw [List.getElem?_append_left hdl]; exact H.uq, H.uN, ⟨List.mem_append_left _ H.q0.1, by rw [gq _ H.q0.1]; exact H.q0.2⟩, fun v hv => ?_, fun v hv hlt => ?_, fun v hv hge => ?_, ?_, fun y hy => ?_, fun x hx y hy => ?_, fun y hy => ?_, fun y hy => H.tr y (by simp [hy]), fun v hv => ?_, ?_⟩
 ·rcases List.mem_append.1 hx with hx | hx
  ·exact H.rg x hx
  ·exact ⟨w, by simpa using hx, hw⟩
 ·rw [List.nodup_append]
  exact ⟨H.nd, by simp, fun a ha b hb e => hnq (by simp at hb; rw [← hb, ← e]; exact ha)⟩
 ·rw [gs, List.mem_append]
  by_cases hvw : v = w
  ·rw [if_pos hvw]
   constructor
   ·intro _; omega
   ·intro _; exact .inr (by simp [hvw])
  ·rw [if_neg hvw, ← H.inq v hv]
   constructor
   ·rintro (h1 | h1)
    ·exact h1
    ·simp at h1; omega
   ·exact .inl
 ·rw [gs] at hlt ⊢
  split at hlt
  ·omega
  ·rename_i h1
   rw [if_neg h1]
   exact H.out v hv hlt
 ·rw [gs] at hge ⊢
  split at hge
  ·rename_i h1
   rw [if_pos h1, h1]
   have h2 := H.snd u H.uN b0.1
   have : (gAt ds u + 1).toNat = (gAt ds u).toNat + 1 := by omega
   rw [this]
   exact (S.ps _ _).2 ⟨u, h2, H.tr _ (by simp)⟩
  ·rename_i h1
   rw [if_neg h1]
   exact H.snd v hv hge
 ·rw [List.pairwise_append]
  refine ⟨H.srt.imp_of_mem (fun {a b} ha hb hab => by rw [gq a ha, gq b hb]; exact hab), by simp, fun a ha b hb => ?_⟩
  simp at hb
  subst hb
  rw [gq a ha, gs, if_pos rfl]
  exact H.bnd a ha
 ·rw [gq _ huq]
  rcases List.mem_append.1 hy with hy | hy
  ·rw [gq y hy]; exact H.bnd y hy
  ·simp at hy
   subst hy
   rw [gs, if_pos rfl]
   omega
 ·rw [htk] at hx
  have h1 := H.cl x hx y hy
  rw [gq x (List.mem_of_mem_take hx), hge y (S.rg _ _ hy) h1.1]
  exact h1
 ·rcases H.cu y hy with h1 | h1
  ·rcases List.mem_cons.1 h1 with rfl | h1
   ·rw [gq _ huq, gs, if_pos rfl]
    exact .inr ⟨by omega, by omega⟩
   ·exact .inl h1
  ·rw [gq _ huq, hge y (S.rg _ _ hy) h1.1]
   exact .inr h1
 ·rw [gs]
  have := H.bd v hv
  split <;> omega
 ·rw [gq _ huq]
  exact b0
theorem BJ.len {N root : Nat} {nb : Int → List Int} {P : Nat → Int → Prop} {ds qs : List Int} {d u : Nat} {t : List Int} (H : BJ N nb P root ds qs d u t) : qs.length ≤ N := by
 have := nodup_le (xs := qs) (ys := (List.range N).map fun (i : Nat) => (i : Int)) H.nd (fun x hx => by
  obtain ⟨v, rfl, hv⟩ := H.rg x hx
  exact List.mem_map.2 ⟨v, List.mem_range.2 hv, rfl⟩)
 simpa using this
theorem BI.len {N root : Nat} {nb : Int → List Int} {P : Nat → Int → Prop} {ds qs : List Int} {d : Nat} (H : BI N nb P root ds qs d) : qs.length ≤ N := by
 have := nodup_le (xs := qs) (ys := (List.range N).map fun (i : Nat) => (i : Int)) H.nd (fun x hx => by
  obtain ⟨v, rfl, hv⟩ := H.rg x hx
  exact List.mem_map.2 ⟨v, List.mem_range.2 hv, rfl⟩)
 simpa using this
theorem BI.done {N root : Nat} {nb : Int → List Int} {P : Nat → Int → Prop} (S : Steps N nb P root) {ds qs : List Int} {d : Nat} (H : BI N nb P root ds qs d) (hd : qs.length ≤ d) : ∀ v : Nat, v < N → gAt ds v = dist P v := by
 have ht : qs.take d = qs := List.take_of_length_le hd
 have up : ∀ (k : Nat) (y : Int), P k y → y ∈ qs ∧ gAt ds y ≤ k := by
  intro k
  induction k with
  | zero =>
   intro y hy
   have := (S.p0 y).1 hy
   subst this
   exact ⟨H.q0.1, by rw [H.q0.2]; simp⟩
  | succ k ih =>
   intro y hy
   obtain ⟨x, h1, h2⟩ := (S.ps k y).1 hy
   obtain ⟨h3, h4⟩ := ih x h1
   obtain ⟨h5, h6⟩ := H.cl x (by rw [ht]; exact h3) y h2
   obtain ⟨v, rfl, hv⟩ := S.rg _ _ h2
   exact ⟨(H.inq v hv).2 h5, by push_cast; omega⟩
 intro v hv
 refine (dist_eq ?_).symm
 by_cases h : 0 ≤ gAt ds v
 ·exact .inl ⟨h, H.snd v hv h, fun k hk => (up k v hk).2⟩
 ·refine .inr ⟨H.out v hv (by omega), fun k hk => ?_⟩
  have := (H.inq v hv).1 (up k v hk).1
  omega
def Wk (l : List Edge) : Nat → Int → Int → Prop
 | 0, x, y => x = y
 | k + 1, x, y => ∃ e ∈ l, e.fr = x ∧ Wk l k e.to y
noncomputable def dst (l : List Edge) (x y : Int) : Int := dist (fun k v => Wk l k x v) y
end Go.Am
namespace Go.Am
open Go
set_option linter.unusedSimpArgs false
set_option linter.unusedVariables false
set_option maxRecDepth 100000
def fill (N j : Nat) : List Int := List.replicate j (-1) ++ List.replicate (N - j) 0
end Go.Am
namespace Go.Am
open Go
set_option linter.unusedSimpArgs false
set_option linter.unusedVariables false
set_option maxRecDepth 100000
structure Qo (lo : Nat) (m : Mem) (b : Nat) (v : V) (xs : List Int) : Prop where
 ex : ∃ k o es, v = .row 1 k o xs.length ∧ lo ≤ k ∧ b ≤ k ∧ k < m.next ∧ m.blk k = some (.row 1 es) ∧ es.drop o = xs.map vi ∧ o + xs.length = es.length
theorem Qo.push {lo b : Nat} {m : Mem} {v : V} {xs : List Int} (H : Qo lo m b v xs) (hlo : lo ≤ m.next) (hb : xs.length < 1000000) (x : Int) :
  ∃ v' m', apV lo m.next m 1 v (.lst false 1 [vi x]) = some (v', m') ∧ Qo lo (m'.bump 1) b v' (xs ++ [x]) ∧ m'.next = m.next ∧ ∀ k, k < b → m'.blk k = m.blk k := by
 obtain ⟨k, o, es, rfl, h1, h2, h3, h4, h5, h6⟩ := H.ex
 have ha := ap_row (m := m) (lo := lo) (h := m.next) (h' := k) (o := o) (l := xs.length) (sz := 1) (s := 1) (y := .lst false 1 [vi x]) (xs := [vi x]) (es := es) vw_lst h1 (.inl rfl) (by simp [big]; omega) h4 (by omega)
 have e1 : (es.drop o).take xs.length ++ [vi x] = (xs ++ [x]).map vi := by
  rw [h5, List.take_of_length_le (by simp), List.map_append]
  rfl
 have e2 : xs.length + [vi x].length = (xs ++ [x]).length := by simp
 rw [e1, e2] at ha
 refine ⟨_, _, ha, ⟨m.next, 0, _, rfl, hlo, by omega, Nat.lt_succ_self _, by simp [Mem.bump, Mem.set], rfl, by simp⟩, rfl, fun j hj => ?_⟩
 rw [set_ne (by omega), set_ne (by omega)]
theorem Qo.mono {lo b : Nat} {m m' : Mem} {v : V} {xs : List Int} (H : Qo lo m b v xs) (hn : m.next ≤ m'.next) (hb : ∀ k, b ≤ k → k < m.next → m'.blk k = m.blk k) : Qo lo m' b v xs := by
 obtain ⟨k, o, es, rfl, h1, h2, h3, h4, h5, h6⟩ := H.ex
 exact ⟨k, o, es, rfl, h1, h2, by omega, by rw [hb k h2 h3]; exact h4, h5, h6⟩
theorem Qo.len {lo b : Nat} {m : Mem} {v : V} {xs : List Int} (H : Qo lo m b v xs) : retV (.len false) [v] = some (vi xs.length) := by
 obtain ⟨k, o, es, rfl, _⟩ := H.ex
 rfl
end Go.Am
namespace Go.Am
open Go
set_option linter.unusedSimpArgs false
set_option linter.unusedVariables false
set_option maxRecDepth 100000
noncomputable def lenE (l : List Edge) (e : Edge) : Int := if dst l e.to e.fr < 0 then -1 else dst l e.to e.fr + 1
def Bst (l : List Edge) (b : Int × Int) : Prop := (b.1 = -1 ∧ b.2 = -1) ∨ ∃ j e, b.1 = ((j : Nat) : Int) ∧ l[j]? = some e ∧ lenE l e = b.2 ∧ 0 < b.2
theorem Bst.step {l : List Edge} {b : Int × Int} (H : Bst l b) {i : Nat} {e : Edge} (hi : l[i]? = some e) : Bst l (if 0 < lenE l e ∧ (b.2 < 0 ∨ lenE l e < b.2) then ((i : Int), lenE l e) else b) := by
 split
 ·rename_i h
  exact .inr ⟨i, e, rfl, hi, rfl, h.1⟩
 ·exact H
end Go.Am
namespace Go.Am
open Go
set_option linter.unusedSimpArgs false
set_option linter.unusedVariables false
theorem Wk.trans {l : List Edge} {y z : Int} : ∀ {j k : Nat} {x : Int}, Wk l j x y → Wk l k y z → Wk l (j + k) x z
 | 0, k, x, h1, h2 => by
  have : x = y := h1
  subst this
  simpa using h2
 | j + 1, k, x, ⟨e, he, h3, h4⟩, h2 => by
  rw [show j + 1 + k = (j + k) + 1 by omega]
  exact ⟨e, he, h3, Wk.trans h4 h2⟩
def EC : Int → List Edge → Int → Prop
 | x, [], y => x = y
 | x, e :: t, y => e.fr = x ∧ EC e.to t y
theorem EC.next {y : Int} : ∀ {es : List Edge} {x : Int} {i : Nat} {e : Edge}, EC x es y → es[i]? = some e → (∃ e', es[i + 1]? = some e' ∧ e'.fr = e.to) ∨ (i + 1 = es.length ∧ e.to = y)
 | [], _, _, _, _, h => by simp at h
 | a :: es, x, 0, e, ⟨h1, h2⟩, h => by
  simp at h
  subst h
  cases es with
  | nil => exact .inr ⟨rfl, h2⟩
  | cons b es => exact .inl ⟨b, rfl, h2.1⟩
 | a :: es, x, i + 1, e, ⟨h1, h2⟩, h => by
  rcases EC.next (i := i) h2 (by simpa using h) with h3 | ⟨h3, h4⟩
  ·exact .inl (by simpa using h3)
  ·exact .inr ⟨by simp [h3], h4⟩
end Go.Am
namespace Go.Am
open Go
set_option linter.unusedSimpArgs false
set_option linter.unusedVariables false
set_option maxRecDepth 100000
def enoE (s : Sys) (pool : Int) : Int := if 0 < demE s pool true ∧ sizeAt s pool < demE s pool true then -1 else demE s pool true
theorem dem_rng {s : Sys} {pool : Int} (h : demE s pool true ≠ -1) : 0 ≤ pool ∧ chkE s = 0 ∧ ∃ p, s.pools[pool.toNat]? = some p ∧ sizeAt s pool = p.size := by
 unfold demE at h
 split at h
 ·exact absurd rfl h
 ·rename_i h1
  have h2 : pool.toNat < s.pools.length := by omega
  have h3 := List.getElem?_eq_getElem h2
  refine ⟨by omega, by omega, _, h3, ?_⟩
  unfold sizeAt
  rw [h3]
theorem sp86 {F : Nat → Option Fn} (hA : HasA F) (hB : HasB F) (hC : HasC F) {lo : Nat} {m : Mem} (s : Sys) (pool : Int) : callw F 86 [vSys s, vi pool] lo m = some (vi (enoE s pool), m) := by
 have c31 : ∀ {lo m}, callw F 31 [vSys s, vi pool, .bool true] lo m = some (vi (demE s pool true), m) := fun {lo m} => sp31 hA hB s pool true
 refine call_p hC.h86 rfl ?_
 by_cases h1 : 0 < demE s pool true
 ·obtain ⟨h2, h3, p, h4, h5⟩ := dem_rng (s := s) (pool := pool) (by omega)
  by_cases h6 : p.size < demE s pool true
  ·have e : enoE s pool = -1 := by unfold enoE; rw [if_pos ⟨h1, by rw [h5]; exact h6⟩]
   rw [e]
   simp only [↓sxc, sx, se, ↓reduceIte, Nat.reduceEqDiff, Nat.reduceAdd, Nat.reduceLT, Nat.reduceLeDiff, Nat.reduceSub, Nat.reduceMul, Int.reduceToNat, Int.reduceLT, Int.reduceLE, Int.reduceEq, ml_i0, ↓smc, sm, c31, h1, h2, h4, h6]
  ·have e : enoE s pool = demE s pool true := by unfold enoE; rw [if_neg (by rw [h5]; omega)]
   rw [e]
   simp only [↓sxc, sx, se, ↓reduceIte, Nat.reduceEqDiff, Nat.reduceAdd, Nat.reduceLT, Nat.reduceLeDiff, Nat.reduceSub, Nat.reduceMul, Int.reduceToNat, Int.reduceLT, Int.reduceLE, Int.reduceEq, ml_i0, ↓smc, sm, c31, h1, h2, h4, h6]
 ·have e : enoE s pool = demE s pool true := by unfold enoE; rw [if_neg (by omega)]
  rw [e]
  simp only [↓sxc, sx, se, ↓reduceIte, Nat.reduceEqDiff, Nat.reduceAdd, Nat.reduceLT, Nat.reduceLeDiff, Nat.reduceSub, Nat.reduceMul, Int.reduceToNat, Int.reduceLT, Int.reduceLE, Int.reduceEq, ml_i0, ↓smc, sm, c31, h1]
end Go.Am
namespace Go.Am
open Go
theorem Has.int_inv {k : IntKind} {n : Nat} {cs : List V} (h : Has (.int k) n cs) : n = 1 ∧ ∃ z, cs = [.int k z] ∧ (Lit.int k z).wf = true := by
 cases h with
 | int k z hz => exact ⟨rfl, z, rfl, hz⟩
theorem Has.bool_inv {n : Nat} {cs : List V} (h : Has .bool n cs) : n = 1 ∧ ∃ b, cs = [.bool b] := by
 cases h with
 | bool b => exact ⟨rfl, b, rfl⟩
theorem Has.str_inv {n : Nat} {cs : List V} (h : Has .str n cs) : n = 1 ∧ ∃ s, cs = [.str s] ∧ s.length ≤ maxLen := by
 cases h with
 | str s hs => exact ⟨rfl, s, rfl, hs⟩
theorem Has.nil_inv {n : Nat} {cs : List V} (h : Has (.st []) n cs) : n = 0 ∧ cs = [] := by
 cases h with
 | st0 => exact ⟨rfl, rfl⟩
theorem Has.cons_inv {f : Ty} {fs : List Ty} {n : Nat} {cs : List V} (h : Has (.st (f :: fs)) n cs) : ∃ a b n1 n2, n = n1 + n2 ∧ cs = a ++ b ∧ Has f n1 a ∧ Has (.st fs) n2 b := by
 cases h with
 | st1 f fs n m a b ha hb => exact ⟨a, b, n, m, rfl, rfl, ha, hb⟩
def Dec {α : Type} (e : Ty) (k : Nat) (enc : α → V) (P : α → Prop) : Prop := ∀ n cs, Has e n cs → n = k ∧ ∃ a, wrap e cs = enc a ∧ P a
theorem all_dec {α : Type} {enc : α → V} {P : α → Prop} : ∀ {xs : List V}, (∀ x ∈ xs, ∃ a, x = enc a ∧ P a) → ∃ l : List α, xs = l.map enc ∧ ∀ a ∈ l, P a
 | [], _ => ⟨[], rfl, by simp⟩
 | x :: xs, h => by
  obtain ⟨a, rfl, ha⟩ := h x (by simp)
  obtain ⟨l, rfl, hl⟩ := all_dec (xs := xs) (fun y hy => h y (by simp [hy]))
  exact ⟨a :: l, rfl, fun b hb => by
   rcases List.mem_cons.1 hb with rfl | hb
   ·exact ha
   ·exact hl b hb⟩
theorem Has.sl_inv {α : Type} {e : Ty} {k : Nat} {enc : α → V} {P : α → Prop} (hd : Dec e k enc P) {n : Nat} {cs : List V} (h : Has (.sl e) n cs) : n = 1 ∧ ∃ l : List α, cs = [.ro true k (l.map enc)] ∧ l.length ≤ maxLen ∧ ∀ a ∈ l, P a := by
 cases h with
 | sl e sz xs hl css hw hh =>
  have hx : ∀ x ∈ xs, ∃ a, x = enc a ∧ P a := by
   intro x hx
   obtain ⟨i, hi, rfl⟩ := List.getElem_of_mem hx
   have hg := List.getElem?_eq_getElem hi
   obtain ⟨_, a, ha, hp⟩ := hd _ _ (hh i _ hg)
   exact ⟨a, (hw i _ hg).trans ha, hp⟩
  obtain ⟨l, rfl, hp⟩ := all_dec hx
  refine ⟨rfl, l, ?_, by simpa using hl, hp⟩
  cases l with
  | nil => rfl
  | cons a l =>
   have := (hd _ _ (hh 0 (enc a) rfl)).1
   rw [this]
def tPool : Ty := .st [.str, .int .i64, .int .i64]
def tStp : Ty := .st [.int .i64, .int .i64, .int .i64, .bool]
def tCls : Ty := .st [.str, .int .i64, .bool, .sl tStp]
def tSys : Ty := .st [.sl tPool, .sl .str, .sl tCls]
theorem dec_str : Dec .str 1 V.str (fun _ => True) := fun n cs h => by
 obtain ⟨rfl, s, rfl, _⟩ := h.str_inv
 exact ⟨rfl, s, rfl, trivial⟩
theorem dec_pool : Dec tPool 3 vPool (fun _ => True) := fun n cs h => by
 obtain ⟨a, b, n1, n2, rfl, rfl, h1, h⟩ := h.cons_inv
 obtain ⟨c, d, n3, n4, rfl, rfl, h2, h⟩ := h.cons_inv
 obtain ⟨e, f, n5, n6, rfl, rfl, h3, h⟩ := h.cons_inv
 obtain ⟨rfl, rfl⟩ := h.nil_inv
 obtain ⟨rfl, x, rfl, _⟩ := h1.str_inv
 obtain ⟨rfl, y, rfl, _⟩ := h2.int_inv
 obtain ⟨rfl, z, rfl, _⟩ := h3.int_inv
 exact ⟨rfl, ⟨x, y, z⟩, rfl, trivial⟩
theorem dec_stp : Dec tStp 4 vStp (fun _ => True) := fun n cs h => by
 obtain ⟨a, b, n1, n2, rfl, rfl, h1, h⟩ := h.cons_inv
 obtain ⟨c, d, n3, n4, rfl, rfl, h2, h⟩ := h.cons_inv
 obtain ⟨e, f, n5, n6, rfl, rfl, h3, h⟩ := h.cons_inv
 obtain ⟨e, f, n5, n6, rfl, rfl, h4, h⟩ := h.cons_inv
 obtain ⟨rfl, rfl⟩ := h.nil_inv
 obtain ⟨rfl, x, rfl, _⟩ := h1.int_inv
 obtain ⟨rfl, y, rfl, _⟩ := h2.int_inv
 obtain ⟨rfl, z, rfl, _⟩ := h3.int_inv
 obtain ⟨rfl, b, rfl⟩ := h4.bool_inv
 exact ⟨rfl, ⟨x, y, z, b⟩, rfl, trivial⟩
theorem dec_cls : Dec tCls 4 vCls (fun _ => True) := fun n cs h => by
 obtain ⟨a, b, n1, n2, rfl, rfl, h1, h⟩ := h.cons_inv
 obtain ⟨c, d, n3, n4, rfl, rfl, h2, h⟩ := h.cons_inv
 obtain ⟨e, f, n5, n6, rfl, rfl, h3, h⟩ := h.cons_inv
 obtain ⟨e, f, n5, n6, rfl, rfl, h4, h⟩ := h.cons_inv
 obtain ⟨rfl, rfl⟩ := h.nil_inv
 obtain ⟨rfl, x, rfl, _⟩ := h1.str_inv
 obtain ⟨rfl, y, rfl, _⟩ := h2.int_inv
 obtain ⟨rfl, z, rfl⟩ := h3.bool_inv
 obtain ⟨rfl, l, rfl, _⟩ := h4.sl_inv dec_stp
 exact ⟨rfl, ⟨x, y, z, l⟩, rfl, trivial⟩
theorem open_sys {v : V} (h : HasV tSys v) : ∃ s, v = vSys s := by
 obtain ⟨n, cs, rfl, h⟩ := h
 obtain ⟨a, b, n1, n2, rfl, rfl, h1, h⟩ := h.cons_inv
 obtain ⟨c, d, n3, n4, rfl, rfl, h2, h⟩ := h.cons_inv
 obtain ⟨e, f, n5, n6, rfl, rfl, h3, h⟩ := h.cons_inv
 obtain ⟨rfl, rfl⟩ := h.nil_inv
 obtain ⟨rfl, x, rfl, _⟩ := h1.sl_inv dec_pool
 obtain ⟨rfl, y, rfl, _⟩ := h2.sl_inv dec_str
 obtain ⟨rfl, z, rfl, _⟩ := h3.sl_inv dec_cls
 exact ⟨⟨x, y, z⟩, rfl⟩
theorem open_int' {k : IntKind} {v : V} (h : HasV (.int k) v) : ∃ n, v = .int k n ∧ (Lit.int k n).wf = true := by
 obtain ⟨n, cs, rfl, h⟩ := h
 obtain ⟨rfl, x, rfl, hx⟩ := h.int_inv
 exact ⟨x, rfl, hx⟩
theorem all_cons {T : Ty} {Ts : List Ty} {us : List V} (h : HasAll (T :: Ts) us) : ∃ u vs, us = u :: vs ∧ HasV T u ∧ HasAll Ts vs := by
 cases h with
 | cons _ _ v vs h1 h2 => exact ⟨v, vs, rfl, h1, h2⟩
theorem all_nil {us : List V} (h : HasAll [] us) : us = [] := by
 cases h
 rfl
end Go.Am
