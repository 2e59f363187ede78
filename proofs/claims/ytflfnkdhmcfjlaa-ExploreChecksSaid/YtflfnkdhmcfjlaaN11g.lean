/- A part of the proof: The law ExploreChecks holds: any state of any system has the specified error, and a step of an invalid one returns it; no conditions. -/
import Derived.Test.YtflfnkdhmcfjlaaN11f
import Derived.OpenShut
import Derived.ReadAgain
import Derived.WideShapes
import Derived.ProofKit
namespace Go.Am
open Go Go.WideShapes
inductive Ty where
 | int (k : IntKind)
 | bool
 | str
 | sl (e : Ty)
 | st (fs : List Ty)
def Ty.isSt : Ty → Bool
 | .st _ => true
 | _ => false
def wrap (e : Ty) (cs : List V) : V := if e.isSt then .agg cs else match cs with
 | [c] => c
 | _ => .und
inductive Has : Ty → Nat → List V → Prop
 | int (k : IntKind) (n : Int) (h : (Lit.int k n).wf = true) : Has (.int k) 1 [.int k n]
 | bool (b : Bool) : Has .bool 1 [.bool b]
 | str (s : List UInt8) (h : s.length ≤ maxLen) : Has .str 1 [.str s]
 | sl (e : Ty) (sz : Nat) (xs : List V) (hl : xs.length ≤ maxLen) (cs : Nat → List V) (hw : ∀ (i : Nat) (x : V), xs[i]? = some x → x = wrap e (cs i)) (h : ∀ (i : Nat) (x : V), xs[i]? = some x → Has e sz (cs i)) : Has (.sl e) 1 [.ro true sz xs]
 | st0 : Has (.st []) 0 []
 | st1 (f : Ty) (fs : List Ty) (n m : Nat) (a b : List V) (ha : Has f n a) (hb : Has (.st fs) m b) : Has (.st (f :: fs)) (n + m) (a ++ b)
theorem Has.len {T : Ty} {n : Nat} {vs : List V} (h : Has T n vs) : vs.length = n := by
 induction h with
 | st1 f fs n m a b _ _ ih1 ih2 => rw [List.length_append, ih1, ih2]
 | _ => rfl
theorem Has.one {T : Ty} {n : Nat} {vs : List V} (h : Has T n vs) (hT : T.isSt = false) : ∃ c, vs = [c] ∧ c.cells = [c] ∧ n = 1 := by
 cases h with
 | int k n => exact ⟨_, rfl, rfl, rfl⟩
 | bool b => exact ⟨_, rfl, rfl, rfl⟩
 | str s => exact ⟨_, rfl, rfl, rfl⟩
 | sl e sz xs => exact ⟨_, rfl, rfl, rfl⟩
 | st0 => cases hT
 | st1 => cases hT
theorem wrap_cells {T : Ty} {n : Nat} {vs : List V} (h : Has T n vs) : (wrap T vs).cells = vs := by
 unfold wrap
 cases hT : T.isSt with
 | true => rfl
 | false =>
  obtain ⟨c, rfl, h1, _⟩ := h.one hT
  exact h1
section
variable (P : Program)
def fitF (r : TypeId → Ty → Nat → Bool) : List Field → List Ty → Nat → Nat → Bool
 | [], [], off, sz => Nat.beq off sz
 | g :: gs, f :: fs, off, sz => Nat.beq g.offset off && r g.type f (P.cellsOf g.type) && fitF r gs fs (off + P.cellsOf g.type) sz
 | _, _, _, _ => false
def tyFits : Nat → TypeId → Ty → Nat → Bool
 | 0, _, _, _ => false
 | n + 1, t, T, sz => match T with
  | .int k => isInt P t k && Nat.beq sz 1
  | .bool => isBool P t && Nat.beq sz 1
  | .str => isStr P t && Nat.beq sz 1
  | .sl e => Nat.beq sz 1 && match P.underlying t with
   | some (.slice u) => Nat.blt 0 (P.cellsOf u) && tyFits n u e (P.cellsOf u)
   | _ => false
  | .st fs => Nat.beq sz (P.cellsOf t) && match P.underlying t with
   | some (.struct gs) => fitF P (tyFits n) gs.toList fs 0 sz
   | some (.array m e) => Nat.beq fs.length m && Nat.beq sz (m * P.cellsOf e) && fs.all fun f => tyFits n e f (P.cellsOf e)
   | _ => false
end
section
variable {H : Type} {enc : TypeId × Value → H} {P : Program} {w : World}
def Opened (w : World) (T : Ty) (sz : Nat) (cs : List Value) : Prop := cs.length = sz ∧ (∀ v ∈ cs, v.oneCell' = true) ∧ ∃ vs, Has T sz vs ∧ ∀ (i : Nat) (c : V) (v : Value), vs[i]? = some c → cs[i]? = some v → ImgP (fun b => b < w.heap.size) w c v
theorem Opened.nil : Opened w (.st []) 0 [] := ⟨rfl, by simp, [], .st0, by simp⟩
theorem Opened.cons {f : Ty} {fs : List Ty} {n m : Nat} {a b : List Value} (h1 : Opened w f n a) (h2 : Opened w (.st fs) m b) : Opened w (.st (f :: fs)) (n + m) (a ++ b) := by
 obtain ⟨l1, o1, vs, k1, r1⟩ := h1
 obtain ⟨l2, o2, us, k2, r2⟩ := h2
 refine ⟨by rw [List.length_append, l1, l2], fun v hv => (List.mem_append.1 hv).elim (o1 v) (o2 v), vs ++ us, .st1 f fs n m vs us k1 k2, fun i c v hc hv => ?_⟩
 have hl := k1.len
 rcases Nat.lt_or_ge i n with h | h
 ·rw [List.getElem?_append_left (by omega)] at hc hv
  exact r1 i c v hc hv
 ·rw [List.getElem?_append_right (by omega)] at hc hv
  rw [hl] at hc
  rw [l1] at hv
  exact r2 _ c v hc hv
theorem cells?_get {a : Addr} {n : Nat} {cs : List Value} (h : w.cells? 0 a n = some cs) : cs.length = n ∧ ∀ j, j < n → w.cell? (a.add j) = cs[j]? := by
 unfold World.cells? at h
 rw [if_pos (Nat.zero_le _)] at h
 have hl := mapM_some_length h
 rw [List.length_range] at hl
 exact ⟨hl, fun j hj => mapM_some_get h j j (by simp [hj])⟩
theorem lt_of_cell {a : Addr} {v : Value} (h : w.cell? a = some v) : a.block < w.heap.size ∧ a.spot = none := by
 unfold World.cell? at h
 split at h
 ·rename_i c T fr hb
  refine ⟨lt_of_heap hb, ?_⟩
  split at h
  ·cases h
  ·rename_i hs
   cases hsp : a.spot with
   | none => rfl
   | some x => rw [hsp] at hs; simp at hs
 ·cases h
theorem open_ty (spare : Nat → Bool) : ∀ (n m : Nat) (T : Ty) (t : TypeId) (sz : Nat) (cs : List Value) (x : DataW H × List MemPlace), DataW.trod enc P w 0 spare true n t cs = some x → tyFits P m t T sz = true → Opened w T sz cs := by
 intro n
 induction n with
 | zero => intro m T t sz cs x h; simp [DataW.trod] at h
 | succ n ih =>
  intro m T t sz cs x h hf
  cases m with
  | zero => exact absurd hf (by simp [tyFits])
  | succ m =>
   cases T with
   | int k =>
    simp only [tyFits, Bool.and_eq_true] at hf
    obtain ⟨ht, hs⟩ := hf
    have ht := isInt_spec ht
    have hs := Nat.eq_of_beq_eq_true hs
    subst hs
    obtain ⟨z, rfl, _, hz⟩ := DataW.trod_int ht h
    refine ⟨rfl, fun v hv => by simp at hv; subst hv; rfl, [.int k z], .int k z hz, fun i c v hc hv => ?_⟩
    cases i with
    | zero => simp at hc hv; subst hc hv; exact .int k z
    | succ i => simp at hc
   | bool =>
    simp only [tyFits, Bool.and_eq_true] at hf
    obtain ⟨ht, hs⟩ := hf
    have ht := isBool_spec ht
    have hs := Nat.eq_of_beq_eq_true hs
    subst hs
    obtain ⟨z, rfl, _⟩ := DataW.trod_bool ht h
    refine ⟨rfl, fun v hv => by simp at hv; subst hv; rfl, [.bool z], .bool z, fun i c v hc hv => ?_⟩
    cases i with
    | zero => simp at hc hv; subst hc hv; exact .bool z
    | succ i => simp at hc
   | str =>
    simp only [tyFits, Bool.and_eq_true] at hf
    obtain ⟨ht, hs⟩ := hf
    have ht := isStr_spec ht
    have hs := Nat.eq_of_beq_eq_true hs
    subst hs
    obtain ⟨z, rfl, _, hz⟩ := DataW.trod_string ht h
    refine ⟨rfl, fun v hv => by simp at hv; subst hv; rfl, [.str z.data.toList], .str _ (by simpa using hz), fun i c v hc hv => ?_⟩
    cases i with
    | zero => simp at hc hv; subst hc hv; exact .str z
    | succ i => simp at hc
   | sl e =>
    simp only [tyFits, Bool.and_eq_true] at hf
    obtain ⟨hs, hf⟩ := hf
    have hs := Nat.eq_of_beq_eq_true hs
    subst hs
    split at hf
    ·rename_i u ht
     simp only [Bool.and_eq_true, Nat.blt_eq] at hf
     obtain ⟨hpos, hf⟩ := hf
     have one : ∀ {y : Value}, y.oneCell' = true → ∀ {xs : List V} (_ : Has (.sl e) 1 [.ro true (P.cellsOf u) xs]) (_ : ImgP (fun b => b < w.heap.size) w (.ro true (P.cellsOf u) xs) y), Opened w (.sl e) 1 [y] := by
      intro y hy xs hh hi
      refine ⟨rfl, fun v hv => by simp at hv; subst hv; exact hy, _, hh, fun i c v hc hv => ?_⟩
      cases i with
      | zero => simp at hc hv; subst hc hv; exact hi
      | succ i => simp at hc
     rcases DataW.trod_slice ht h with ⟨rfl, _⟩ | ⟨a, len, cap, elems, rest, n', hn, rfl, _, _, hlc, hcap, hel, hget, _, _⟩
     ·exact one rfl (xs := []) (.sl e _ [] (by simp) (fun _ => []) (by simp) (by simp)) (.lst0 true 0 none 0)
     ·cases hn
      by_cases h0 : len = 0
      ·subst h0
       exact one rfl (xs := []) (.sl e _ [] (by simp) (fun _ => []) (by simp) (by simp)) (.lst0 true 0 (some a) cap)
      ·have hsp : a.spot = none ∧ a.block < w.heap.size := by
        have h1 := hget 0 (by omega)
        rw [List.getElem?_eq_getElem (by omega)] at h1
        simp only [Option.bind_eq_some_iff] at h1
        obtain ⟨cs, h1, _⟩ := h1
        have := (cells?_get h1).2 0 hpos
        rw [List.getElem?_eq_getElem (by rw [(cells?_get h1).1]; exact hpos)] at this
        have := lt_of_cell this
        simp [Addr.add] at this
        exact ⟨this.2, this.1⟩
       obtain ⟨b, o, spot⟩ := a
       obtain ⟨rfl, hlt⟩ := hsp
       have hadd : ∀ o k, Addr.add ⟨b, o, none⟩ k = ⟨b, o + k, none⟩ := fun o k => by
        unfold Addr.add
        split
        ·rename_i h; subst h; rfl
        ·rfl
       have elem : ∀ i, ∃ cs : List Value, i < len → w.cells? 0 ⟨b, o + i * P.cellsOf u, none⟩ (P.cellsOf u) = some cs ∧ Opened w e (P.cellsOf u) cs := by
        intro i
        by_cases hi : i < len
        ·have := hget i hi
         rw [List.getElem?_eq_getElem (by omega), hadd] at this
         simp only [Option.bind_eq_some_iff] at this
         obtain ⟨cs, h1, h2⟩ := this
         exact ⟨cs, fun _ => ⟨h1, ih m e u _ cs _ h2 hf⟩⟩
        ·exact ⟨[], fun h => absurd h hi⟩
       let csf : Nat → List Value := fun i => (elem i).choose
       have hcs : ∀ i, i < len → w.cells? 0 ⟨b, o + i * P.cellsOf u, none⟩ (P.cellsOf u) = some (csf i) ∧ Opened w e (P.cellsOf u) (csf i) := fun i hi => (elem i).choose_spec hi
       have hvs : ∀ i, ∃ vs : List V, i < len → Has e (P.cellsOf u) vs ∧ ∀ (j : Nat) (c : V) (v : Value), vs[j]? = some c → (csf i)[j]? = some v → ImgP (fun b => b < w.heap.size) w c v := by
        intro i
        by_cases hi : i < len
        ·obtain ⟨_, _, vs, h1, h2⟩ := (hcs i hi).2
         exact ⟨vs, fun _ => ⟨h1, h2⟩⟩
        ·exact ⟨[], fun h => absurd h hi⟩
       let vsf : Nat → List V := fun i => (hvs i).choose
       have hvf : ∀ i, i < len → Has e (P.cellsOf u) (vsf i) ∧ ∀ (j : Nat) (c : V) (v : Value), (vsf i)[j]? = some c → (csf i)[j]? = some v → ImgP (fun b => b < w.heap.size) w c v := fun i hi => (hvs i).choose_spec hi
       let xs : List V := (List.range len).map fun i => wrap e (vsf i)
       have hxl : xs.length = len := by simp [xs]
       have hxg : ∀ (i : Nat) (x : V), xs[i]? = some x → i < len ∧ x = wrap e (vsf i) := by
        intro i x hx
        simp only [xs, List.getElem?_map] at hx
        rcases Nat.lt_or_ge i len with hi | hi
        ·rw [List.getElem?_range hi] at hx
         simp at hx
         exact ⟨hi, hx.symm⟩
        ·rw [List.getElem?_eq_none (by simpa using hi)] at hx
         cases hx
       have hcell : ∀ (i j : Nat) (x c : V), xs[i]? = some x → x.cells[j]? = some c → ∃ v, w.cell? ⟨b, o + i * P.cellsOf u + j, none⟩ = some v ∧ v.oneCell' = true ∧ ImgP (fun b => b < w.heap.size) w c v := by
        intro i j x c hx hc
        obtain ⟨hi, rfl⟩ := hxg i x hx
        obtain ⟨h1, h2⟩ := hvf i hi
        rw [wrap_cells h1] at hc
        have hjl : j < P.cellsOf u := by
         have := h1.len
         rcases Nat.lt_or_ge j (vsf i).length with h | h
         ·omega
         ·rw [List.getElem?_eq_none h] at hc; cases hc
        obtain ⟨h3, h4, h5, _⟩ := hcs i hi
        obtain ⟨h6, h7⟩ := cells?_get h3
        have hv : (csf i)[j]? = some ((csf i)[j]'(by omega)) := List.getElem?_eq_getElem _
        have h8 := h7 j hjl
        rw [hv, hadd] at h8
        exact ⟨_, h8, h5 _ (List.getElem_mem _), h2 j c _ hc hv⟩
       have hsl : Value.slice (some ⟨b, o, none⟩) len cap = Value.slice (some ⟨b, o, none⟩) xs.length cap := by rw [hxl]
       rw [hsl]
       refine one rfl (xs := xs) (.sl e _ xs (by rw [hxl]; omega) vsf (fun i x hx => (hxg i x hx).2) (fun i x hx => (hvf i (hxg i x hx).1).1)) ?_
       refine ImgP.ro (.lst true _ xs b o cap (fun i j => (w.cell? ⟨b, o + i * P.cellsOf u + j, none⟩).getD undef) hlt (by omega) (fun x hx => ?_) (fun i j x c hx hc => ?_) (fun i j x c hx hc => ?_))
       ·obtain ⟨i, hi, rfl⟩ := List.getElem_of_mem hx
        obtain ⟨h1, h2⟩ := hxg i _ (List.getElem?_eq_getElem hi)
        rw [h2, wrap_cells (hvf i h1).1]
        exact (hvf i h1).1.len
       ·obtain ⟨v, h1, h2, _⟩ := hcell i j x c hx hc
        rw [h1]
        exact ⟨rfl, h2⟩
       ·obtain ⟨v, h1, _, h3⟩ := hcell i j x c hx hc
        simp only [h1, Option.getD_some]
        exact h3
    ·cases hf
   | st fs =>
    simp only [tyFits, Bool.and_eq_true] at hf
    obtain ⟨hs, hf⟩ := hf
    have hs := Nat.eq_of_beq_eq_true hs
    subst hs
    split at hf
    ·rename_i gs ht
     obtain ⟨xs, n', hn, _, hcl, _, hget⟩ := DataW.trod_struct ht h
     cases hn
     have key : ∀ (gl : List Field) (fs : List Ty) (off k : Nat), fitF P (tyFits P m) gl fs off (P.cellsOf t) = true → (∀ (i : Nat) (g : Field), gl[i]? = some g → gs[k + i]? = some g) → (k + gl.length = gs.size) → off ≤ P.cellsOf t → Opened w (.st fs) (P.cellsOf t - off) (cs.drop off) := by
      intro gl
      induction gl with
      | nil =>
       intro fs off k hgo _ _ hoff
       cases fs with
       | nil =>
        have := Nat.eq_of_beq_eq_true (show Nat.beq off (P.cellsOf t) = true from hgo)
        subst this
        rw [Nat.sub_self, List.drop_eq_nil_of_le (by omega)]
        exact Opened.nil
       | cons => cases hgo
      | cons g gl ihg =>
       intro fs off k hgo hgs hk hoff
       cases fs with
       | nil => cases hgo
       | cons f fs =>
        have hgo' : (Nat.beq g.offset off && tyFits P m g.type f (P.cellsOf g.type) && fitF P (tyFits P m) gl fs (off + P.cellsOf g.type) (P.cellsOf t)) = true := hgo
        simp only [Bool.and_eq_true] at hgo'
        obtain ⟨⟨h1, h2⟩, h3⟩ := hgo'
        have h1 := Nat.eq_of_beq_eq_true h1
        have hgk := hgs 0 g rfl
        rw [Nat.add_zero] at hgk
        have hklt : k < gs.size := by simp at hk; omega
        have hx := hget k g hgk
        have hxl : k < xs.length := by
         rename_i hxlen
         omega
        rw [List.getElem?_eq_getElem hxl] at hx
        have hop := ih m f g.type _ _ _ hx h2
        rw [h1] at hop
        have hle : off + P.cellsOf g.type ≤ P.cellsOf t := by
         have := hop.1
         rw [List.length_take, List.length_drop] at this
         omega
        have hrest := ihg fs (off + P.cellsOf g.type) (k + 1) h3 (fun i g' hg => by
         have := hgs (i + 1) g' (by simpa using hg)
         rw [show k + 1 + i = k + (i + 1) by omega]
         exact this) (by simp at hk; omega) hle
        have := Opened.cons hop hrest
        rw [show P.cellsOf g.type + (P.cellsOf t - (off + P.cellsOf g.type)) = P.cellsOf t - off by omega] at this
        have e : (cs.drop off).take (P.cellsOf g.type) ++ cs.drop (off + P.cellsOf g.type) = cs.drop off := by
         rw [← List.drop_drop]
         exact List.take_append_drop _ _
        rw [e] at this
        exact this
     have := key gs.toList fs 0 0 hf (fun i g hg => by simpa using hg) (by simp) (Nat.zero_le _)
     simpa using this
    ·rename_i k e ht
     simp only [Bool.and_eq_true, List.all_eq_true] at hf
     obtain ⟨⟨h1, h2⟩, h3⟩ := hf
     have h1 := Nat.eq_of_beq_eq_true h1
     have h2 := Nat.eq_of_beq_eq_true h2
     obtain ⟨xs, n', hn, _, hcl, hxl, hget⟩ := DataW.trod_array ht h
     cases hn
     have key : ∀ (fs : List Ty) (i : Nat), (∀ f ∈ fs, tyFits P m e f (P.cellsOf e) = true) → i + fs.length = k → Opened w (.st fs) (fs.length * P.cellsOf e) (cs.drop (i * P.cellsOf e)) := by
      intro fs
      induction fs with
      | nil =>
       intro i _ hi
       have : i = k := by simpa using hi
       subst this
       rw [List.drop_eq_nil_of_le (by omega)]
       simpa using Opened.nil
      | cons f fs ihf =>
       intro i hall hi
       simp at hi
       have hx := hget i (by omega)
       rw [List.getElem?_eq_getElem (by omega)] at hx
       have hop := ih m f e _ _ _ hx (hall f (by simp))
       have hrest := ihf (i + 1) (fun f hf => hall f (by simp [hf])) (by omega)
       have := Opened.cons hop hrest
       rw [show P.cellsOf e + fs.length * P.cellsOf e = (f :: fs).length * P.cellsOf e by simp [Nat.add_mul]; omega] at this
       have e2 : (cs.drop (i * P.cellsOf e)).take (P.cellsOf e) ++ cs.drop ((i + 1) * P.cellsOf e) = cs.drop (i * P.cellsOf e) := by
        rw [Nat.add_mul, Nat.one_mul, ← List.drop_drop]
        exact List.take_append_drop _ _
       rw [e2] at this
       exact this
     have := key fs 0 h3 (by omega)
     rw [h1, ← h2] at this
     simpa using this
    ·cases hf
def HasV (T : Ty) (v : V) : Prop := ∃ n cs, v = wrap T cs ∧ Has T n cs
theorem open_val {n : Nat} {T : Ty} {t : TypeId} {sz base : Nat} {v : Value} {d : DataW H} {ps : List MemPlace} {spare : Nat → Bool} (h : DataW.Trod enc P w 0 spare true t v d ps) (hf : tyFits P n t T sz = true) (hok : Value.okWide P w .any base t v) :
  ∃ u, HasV T u ∧ ImgP (fun b => b < w.heap.size) w u v := by
 obtain ⟨k, hk⟩ := h
 obtain ⟨h1, h2, vs, h3, h4⟩ := open_ty spare k n T t sz _ _ hk hf
 refine ⟨wrap T vs, ⟨sz, vs, rfl, h3⟩, ?_⟩
 have single : ∀ {c : V} {y : Value}, T.isSt = false → vs = [c] → v = y → y.cells = #[y] → ImgP (fun b => b < w.heap.size) w (wrap T vs) v := by
  intro c y hT e1 e2 e3
  subst e2
  rw [e1]
  unfold wrap
  rw [hT]
  refine h4 0 c v (by rw [e1]; rfl) (by rw [e3]; rfl)
 cases n with
 | zero => exact absurd hf (by simp [tyFits])
 | succ n =>
  cases T with
  | int k =>
   simp only [tyFits, Bool.and_eq_true] at hf
   obtain ⟨z, rfl⟩ := okWide_int (isInt_spec hf.1) hok
   obtain ⟨c, e, _⟩ := h3.one rfl
   exact single rfl e rfl rfl
  | bool =>
   simp only [tyFits, Bool.and_eq_true] at hf
   obtain ⟨z, rfl⟩ := okWide_bool (isBool_spec hf.1) hok
   obtain ⟨c, e, _⟩ := h3.one rfl
   exact single rfl e rfl rfl
  | str =>
   simp only [tyFits, Bool.and_eq_true] at hf
   obtain ⟨z, rfl⟩ := okWide_string (isStr_spec hf.1) hok
   obtain ⟨c, e, _⟩ := h3.one rfl
   exact single rfl e rfl rfl
  | sl e =>
   simp only [tyFits, Bool.and_eq_true] at hf
   obtain ⟨_, hf⟩ := hf
   split at hf
   ·rename_i u hu
    obtain ⟨a, l, c, rfl⟩ := okWide_slice hu hok
    obtain ⟨c, e, _⟩ := h3.one rfl
    exact single rfl e rfl rfl
   ·cases hf
  | st fs =>
   have hagg : ∃ cs, v = .agg cs := by
    simp only [tyFits, Bool.and_eq_true] at hf
    obtain ⟨_, hf⟩ := hf
    split at hf
    ·rename_i gs hu
     obtain ⟨cs, rfl, _⟩ := okWide_struct hu hok
     exact ⟨cs, rfl⟩
    ·rename_i k e hu
     unfold Value.okWide at hok
     rw [hu] at hok
     obtain ⟨cs, rfl, _⟩ := hok
     exact ⟨cs, rfl⟩
    ·cases hf
   obtain ⟨cs, rfl⟩ := hagg
   have hw : wrap (.st fs) vs = .agg vs := rfl
   rw [hw]
   have e : (Value.agg cs).cells.toList = cs.toList := rfl
   rw [e] at h1 h2 h4
   have := ImgP.agg (I := fun b => b < w.heap.size) (w := w) vs cs.toList (by rw [h3.len, h1]) h2 h4
   simpa using this
inductive HasAll : List Ty → List V → Prop
 | nil : HasAll [] []
 | cons (T : Ty) (Ts : List Ty) (v : V) (vs : List V) (h : HasV T v) (hs : HasAll Ts vs) : HasAll (T :: Ts) (v :: vs)
def fitAll (P : Program) : List TypeId → List Ty → Bool
 | [], [] => true
 | t :: ts, T :: Ts => tyFits P 9 t T (P.cellsOf t) && fitAll P ts Ts
 | _, _ => false
theorem open_all {spare : Nat → Bool} {base : Nat} : ∀ {ts : List TypeId} {Ts : List Ty} {vs : List Value} {ds : List (DataW H)} {ps : List MemPlace}, DataW.TrodAll enc P w 0 spare true ts vs ds ps → fitAll P ts Ts = true → (∀ (j : Nat) t v, ts[j]? = some t → vs[j]? = some v → Value.okWide P w .any base t v) →
  ∃ us, HasAll Ts us ∧ us.length = vs.length ∧ ∀ (i : Nat) (c : V) (v : Value), us[i]? = some c → vs[i]? = some v → ImgP (fun b => b < w.heap.size) w c v
 | [], [], [], [], ps, h, _, _ => ⟨[], .nil, rfl, by simp⟩
 | t :: ts, T :: Ts, v :: vs, d :: ds, ps, ⟨p, q, h1, h2, _⟩, hf, hok => by
  simp only [fitAll, Bool.and_eq_true] at hf
  obtain ⟨u, k1, k2⟩ := open_val h1 hf.1 (hok 0 t v rfl rfl)
  obtain ⟨us, k3, k4, k5⟩ := open_all h2 hf.2 (fun j t v ht hv => hok (j + 1) t v ht hv)
  refine ⟨u :: us, .cons T Ts u us k1 k3, by simp [k4], fun i c x hc hx => ?_⟩
  cases i with
  | zero => simp at hc hx; subst hc hx; exact k2
  | succ i => exact k5 i c x (by simpa using hc) (by simpa using hx)
end
end Go.Am
namespace Go.Am
open Go Go.ChangeShapes Go.WideShapes Go.ChangeAt Go.RowKit
noncomputable def m0 : Mem := ⟨fun _ => none, 0⟩
section
variable {H : Type} {enc : TypeId × Value → H} {P : Program} {W W' : World}
theorem sameAt_of {p : MemPlace} (hlt : p.block < W.heap.size) (hb : ∀ b, b < W.heap.size → W'.heap[b]? = W.heap[b]?) : W.sameAt W' p := by
 cases p with
 | cell b off => exact World.cell?_of_block (a := ⟨b, off, none⟩) (hb b hlt)
 | map b => exact hb b hlt
theorem trodAll_carry {base : Nat} {sp : Nat → Bool} {held : Bool} : ∀ {ts : List TypeId} {vs : List Value} {ds : List (DataW H)} {ps : List MemPlace}, DataW.TrodAll enc P W base sp held ts vs ds ps → (∀ p ∈ ps, W.sameAt W' p) → DataW.TrodAll enc P W' base sp held ts vs ds ps
 | [], [], [], _, h, _ => h
 | _ :: _, _ :: _, _ :: _, _, ⟨p, q, ⟨n, h1⟩, h2, e⟩, hs => ⟨p, q, ⟨n, DataW.trod_carry n _ _ _ h1 (fun x hx => hs x (by rw [e]; exact List.mem_append_left _ hx))⟩, trodAll_carry h2 (fun x hx => hs x (by rw [e]; exact List.mem_append_right _ hx)), e⟩
theorem kept_post {f : Func} {s : ChangeSpec} {args : Array Value} {ds gs : List (DataW H)} {before : List MemPlace} {tb : TypeId} (hW : DataW.Whole enc P f.params.toList s.vars false W args.toList ds gs before) (hv : s.vars = [])
  (hs : s.fn H (ds ++ gs) = { results := [.lit (.bool true)], args := ds }) (hr : f.resultTypes = #[tb]) (htb : P.underlying tb = some .bool) (K : Kids P (· < P.types.size)) (full : ∀ t e, t < P.types.size → P.underlying t = some (.slice e) → 0 < P.cellsOf e)
  (hT : ∀ t ∈ f.params.toList, t < P.types.size) (hos : W'.os = W.os) (hout : W'.output = W.output) (hb : ∀ b, b < W.heap.size → W'.heap[b]? = W.heap[b]?) : s.post enc P f false true false false W args (.bool true) W' := by
 have hW' := hW
 obtain ⟨p, q, hA, hV, rfl, _, _⟩ := hW
 have hlt := hW'.lt
 rw [hv] at hV
 have hq : q = [] ∧ gs = [] := by
  obtain ⟨rfl, rfl⟩ := trodVars_none hV
  exact ⟨rfl, rfl⟩
 obtain ⟨rfl, rfl⟩ := hq
 rw [List.append_nil] at hlt
 have hA2 := DataW.TrodAll.respare (spare' := fun b => decide (b < W.heap.size)) K full hT hA (fun x hx => by simpa using hlt x hx)
 have hA3 := trodAll_carry (W' := W') hA2 (fun x hx => sameAt_of (hlt x hx) hb)
 refine ⟨ds, [], p ++ [], [], p, [], hW', ?_, ?_, ?_, ?_, fun h => by cases h⟩
 ·rw [hs, hr]
  exact trodAll_cons_mk (shut_bool htb _) trodAll_mk0
 ·rw [hs]
  exact hA3
 ·rw [hv, hs]
  rfl
 ·refine ⟨hos, hout, fun i hi => ?_⟩
  rw [hb i hi]
  cases hW : W.heap[i]? with
  | none => simp
  | some o => cases o <;> simp
theorem law_calls {F : Nat → Option Fn} {f : FuncId} {Ts : List Ty} {ts : List TypeId} (hm : P.follows .mixedOrders = true) (hF : ∀ g fn, F g = some fn → okFn P (pfOf F) fn (src g) = true) (hf : f < 1000) (hfit : fitAll P ts Ts = true)
  (hlaw : ∀ us, HasAll Ts us → ∃ m, callw F f us 0 m0 = some (.bool true, m)) {base : Nat} {args : Array Value} {ds : List (DataW H)} {ps : List MemPlace} (hA : DataW.TrodAll enc P W 0 (fun _ => true) true ts args.toList ds ps)
  (hval : ∀ (j : Nat) t v, ts[j]? = some t → args[j]? = some v → Value.okWide P W .any base t v) : Calls P f args W fun e W' => e = .returned (.bool true) ∧ W'.os = W.os ∧ W'.output = W.output ∧ ∀ b, b < W.heap.size → W'.heap[b]? = W.heap[b]? := by
 obtain ⟨us, h1, h2, h3⟩ := open_all hA hfit (fun j t v ht hv => hval j t v ht (by simpa using hv))
 obtain ⟨m, h4⟩ := hlaw us h1
 obtain ⟨k, h5⟩ := callw_iff.1 h4
 have := call_sound hm hF k f us 0 m0 (.bool true) m h5 ⟨fun _ => none, fun b => b < W.heap.size⟩ W args.toList ⟨(fun h b hb => by cases hb), (fun h h' b b' l l' _ hb => by cases hb), fun b hb => hb⟩ (fun h _ => ⟨rfl, rfl⟩) h2 (fun i c x hc hx => .pure (h3 i c x hc hx)) (Nat.zero_le _)
 have hsrc : src f = f := by unfold src; rw [if_pos hf]
 rw [hsrc] at this
 have e : args.toList.toArray = args := by simp
 rw [e] at this
 refine this.mono ?_
 rintro e W' ⟨x, g', rfl, hx, _, _, _, _, _, _, _, hk, _⟩
 refine ⟨by rw [hx.bool_inv], hk.os, hk.output, fun b hb => hk.block b hb ?_⟩
 rintro ⟨h, B, l, _, hB, _⟩
 cases hB
end
end Go.Am
namespace Go.Am
open Go
theorem call_lo' {F : Nat → Option Fn} {f : Nat} {fn : Fn} (hF : F f = some fn) (hp : fn.pure = true) {args : List V} {m : Mem} {lo lo' k : Nat} : call F k f args lo m = call F k f args lo' m := by
 cases k with
 | zero => rfl
 | succ k => simp only [call_succ', hF, hp, if_true]
end Go.Am
namespace Go.Am
open Go
theorem aw44k : call F44 400 55 [] 0 m0 = some (.bool true, m0) := by kernel_rfl
theorem aw44 {lo : Nat} : callw F44 55 [] lo m0 = some (.bool true, m0) := callw_iff.2 ⟨400, by rw [call_lo' (F := F44) (fn := c55) rfl rfl (lo' := 0)]; exact aw44k⟩
end Go.Am
namespace Go.Am
open Go
noncomputable abbrev vi (n : Int) : V := .int .i64 n
noncomputable def ints (l : List Int) : V := .ro true 1 (l.map vi)
noncomputable def bools (l : List Bool) : V := .ro true 1 (l.map .bool)
noncomputable def strs (l : List (List UInt8)) : V := .ro true 1 (l.map .str)
structure Pool where
 name : List UInt8
 size : Int
 res : Int
structure Stp where
 kind : Int
 on : Int
 cnt : Int
 deep : Bool
structure Cls where
 name : List UInt8
 wk : Int
 srv : Bool
 steps : List Stp
structure Sys where
 pools : List Pool
 locks : List (List UInt8)
 cls : List Cls
noncomputable def vPool (p : Pool) : V := .agg [.str p.name, vi p.size, vi p.res]
noncomputable def vStp (s : Stp) : V := .agg [vi s.kind, vi s.on, vi s.cnt, .bool s.deep]
noncomputable def vStps (l : List Stp) : V := .ro true 4 (l.map vStp)
noncomputable def vCls (c : Cls) : V := .agg [.str c.name, vi c.wk, .bool c.srv, vStps c.steps]
noncomputable def vPools (l : List Pool) : V := .ro true 3 (l.map vPool)
noncomputable def vClss (l : List Cls) : V := .ro true 4 (l.map vCls)
noncomputable def vSys (s : Sys) : V := .agg [vPools s.pools, strs s.locks, vClss s.cls]
theorem ia_ints {l : List Int} {k : IntKind} {x : Int} : retV (.ia 1) [ints l, .int k x] = if 0 ≤ x then (l[x.toNat]?).map fun e => .imm (vi e) 0 else none := by
 unfold ints
 rw [r_iaro, ml_get]
 cases l[x.toNat]? <;> rfl
theorem len_ints {l : List Int} : retV (.len false) [ints l] = some (.int .i64 (l.length : Int)) := by
 unfold ints
 rw [r_lenro, ml_len]
theorem lof_ints {l : List Int} : lenOf (ints l) = some l.length := by
 unfold ints
 rw [lenro, ml_len]
theorem ce_ints {l : List Int} : V.cells (ints l) = [ints l] := rfl
theorem on_ints {l : List Int} : V.ones (ints l) = true := rfl
theorem o1_ints {l : List Int} : V.one (ints l) = true := rfl
theorem fz_ints {lo n : Nat} {m : Mem} {l : List Int} : freeze lo m (n + 1) (ints l) = some (ints l) := rfl
theorem vw_ints {m : Mem} {l : List Int} : view m (ints l) = some (nz 1 (l.map vi), l.map vi) := rfl
theorem sl_ints {l : List Int} {a b : Nat} : slOf 1 (ints l) a b = if a ≤ b ∧ b ≤ l.length then some (ints ((l.drop a).take (b - a))) else none := by
 unfold ints
 rw [sl_ro, ml_len]
 by_cases h : a ≤ b ∧ b ≤ l.length
 ·rw [if_pos h, if_pos h, List.map_take, List.map_drop]
 ·rw [if_neg h, if_neg h]
theorem scn_ints {l : List Int} : setC 0 1 (ints l) .nil = some (ints l) := rfl
theorem sco_ints {l k : List Int} : setC 0 1 (ints l) (ints k) = some (ints l) := rfl
theorem ia_bools {l : List Bool} {k : IntKind} {x : Int} : retV (.ia 1) [bools l, .int k x] = if 0 ≤ x then (l[x.toNat]?).map fun e => .imm (V.bool e) 0 else none := by
 unfold bools
 rw [r_iaro, ml_get]
 cases l[x.toNat]? <;> rfl
theorem len_bools {l : List Bool} : retV (.len false) [bools l] = some (.int .i64 (l.length : Int)) := by
 unfold bools
 rw [r_lenro, ml_len]
theorem lof_bools {l : List Bool} : lenOf (bools l) = some l.length := by
 unfold bools
 rw [lenro, ml_len]
theorem ce_bools {l : List Bool} : V.cells (bools l) = [bools l] := rfl
theorem on_bools {l : List Bool} : V.ones (bools l) = true := rfl
theorem o1_bools {l : List Bool} : V.one (bools l) = true := rfl
theorem fz_bools {lo n : Nat} {m : Mem} {l : List Bool} : freeze lo m (n + 1) (bools l) = some (bools l) := rfl
theorem vw_bools {m : Mem} {l : List Bool} : view m (bools l) = some (nz 1 (l.map V.bool), l.map V.bool) := rfl
theorem sl_bools {l : List Bool} {a b : Nat} : slOf 1 (bools l) a b = if a ≤ b ∧ b ≤ l.length then some (bools ((l.drop a).take (b - a))) else none := by
 unfold bools
 rw [sl_ro, ml_len]
 by_cases h : a ≤ b ∧ b ≤ l.length
 ·rw [if_pos h, if_pos h, List.map_take, List.map_drop]
 ·rw [if_neg h, if_neg h]
theorem scn_bools {l : List Bool} : setC 0 1 (bools l) .nil = some (bools l) := rfl
theorem sco_bools {l k : List Bool} : setC 0 1 (bools l) (bools k) = some (bools l) := rfl
theorem ia_strs {l : List (List UInt8)} {k : IntKind} {x : Int} : retV (.ia 1) [strs l, .int k x] = if 0 ≤ x then (l[x.toNat]?).map fun e => .imm (V.str e) 0 else none := by
 unfold strs
 rw [r_iaro, ml_get]
 cases l[x.toNat]? <;> rfl
theorem len_strs {l : List (List UInt8)} : retV (.len false) [strs l] = some (.int .i64 (l.length : Int)) := by
 unfold strs
 rw [r_lenro, ml_len]
theorem lof_strs {l : List (List UInt8)} : lenOf (strs l) = some l.length := by
 unfold strs
 rw [lenro, ml_len]
theorem ce_strs {l : List (List UInt8)} : V.cells (strs l) = [strs l] := rfl
theorem on_strs {l : List (List UInt8)} : V.ones (strs l) = true := rfl
theorem o1_strs {l : List (List UInt8)} : V.one (strs l) = true := rfl
theorem fz_strs {lo n : Nat} {m : Mem} {l : List (List UInt8)} : freeze lo m (n + 1) (strs l) = some (strs l) := rfl
theorem vw_strs {m : Mem} {l : List (List UInt8)} : view m (strs l) = some (nz 1 (l.map V.str), l.map V.str) := rfl
theorem sl_strs {l : List (List UInt8)} {a b : Nat} : slOf 1 (strs l) a b = if a ≤ b ∧ b ≤ l.length then some (strs ((l.drop a).take (b - a))) else none := by
 unfold strs
 rw [sl_ro, ml_len]
 by_cases h : a ≤ b ∧ b ≤ l.length
 ·rw [if_pos h, if_pos h, List.map_take, List.map_drop]
 ·rw [if_neg h, if_neg h]
theorem scn_strs {l : List (List UInt8)} : setC 0 1 (strs l) .nil = some (strs l) := rfl
theorem sco_strs {l k : List (List UInt8)} : setC 0 1 (strs l) (strs k) = some (strs l) := rfl
theorem app_strs {l : List (List UInt8)} : nz 1 (l.map V.str) = 1 ∨ (l.map V.str).length = 0 := by cases l <;> simp [nz]
theorem ia_vPools {l : List Pool} {k : IntKind} {x : Int} : retV (.ia 3) [vPools l, .int k x] = if 0 ≤ x then (l[x.toNat]?).map fun e => .imm (vPool e) 0 else none := by
 unfold vPools
 rw [r_iaro, ml_get]
 cases l[x.toNat]? <;> rfl
theorem len_vPools {l : List Pool} : retV (.len false) [vPools l] = some (.int .i64 (l.length : Int)) := by
 unfold vPools
 rw [r_lenro, ml_len]
theorem lof_vPools {l : List Pool} : lenOf (vPools l) = some l.length := by
 unfold vPools
 rw [lenro, ml_len]
theorem ce_vPools {l : List Pool} : V.cells (vPools l) = [vPools l] := rfl
theorem on_vPools {l : List Pool} : V.ones (vPools l) = true := rfl
theorem o1_vPools {l : List Pool} : V.one (vPools l) = true := rfl
theorem fz_vPools {lo n : Nat} {m : Mem} {l : List Pool} : freeze lo m (n + 1) (vPools l) = some (vPools l) := rfl
theorem vw_vPools {m : Mem} {l : List Pool} : view m (vPools l) = some (nz 3 (l.map vPool), l.map vPool) := rfl
theorem sl_vPools {l : List Pool} {a b : Nat} : slOf 3 (vPools l) a b = if a ≤ b ∧ b ≤ l.length then some (vPools ((l.drop a).take (b - a))) else none := by
 unfold vPools
 rw [sl_ro, ml_len]
 by_cases h : a ≤ b ∧ b ≤ l.length
 ·rw [if_pos h, if_pos h, List.map_take, List.map_drop]
 ·rw [if_neg h, if_neg h]
theorem scn_vPools {l : List Pool} : setC 0 1 (vPools l) .nil = some (vPools l) := rfl
theorem sco_vPools {l k : List Pool} : setC 0 1 (vPools l) (vPools k) = some (vPools l) := rfl
theorem ia_vStps {l : List Stp} {k : IntKind} {x : Int} : retV (.ia 4) [vStps l, .int k x] = if 0 ≤ x then (l[x.toNat]?).map fun e => .imm (vStp e) 0 else none := by
 unfold vStps
 rw [r_iaro, ml_get]
 cases l[x.toNat]? <;> rfl
theorem len_vStps {l : List Stp} : retV (.len false) [vStps l] = some (.int .i64 (l.length : Int)) := by
 unfold vStps
 rw [r_lenro, ml_len]
theorem lof_vStps {l : List Stp} : lenOf (vStps l) = some l.length := by
 unfold vStps
 rw [lenro, ml_len]
theorem ce_vStps {l : List Stp} : V.cells (vStps l) = [vStps l] := rfl
theorem on_vStps {l : List Stp} : V.ones (vStps l) = true := rfl
theorem o1_vStps {l : List Stp} : V.one (vStps l) = true := rfl
theorem fz_vStps {lo n : Nat} {m : Mem} {l : List Stp} : freeze lo m (n + 1) (vStps l) = some (vStps l) := rfl
theorem vw_vStps {m : Mem} {l : List Stp} : view m (vStps l) = some (nz 4 (l.map vStp), l.map vStp) := rfl
theorem sl_vStps {l : List Stp} {a b : Nat} : slOf 4 (vStps l) a b = if a ≤ b ∧ b ≤ l.length then some (vStps ((l.drop a).take (b - a))) else none := by
 unfold vStps
 rw [sl_ro, ml_len]
 by_cases h : a ≤ b ∧ b ≤ l.length
 ·rw [if_pos h, if_pos h, List.map_take, List.map_drop]
 ·rw [if_neg h, if_neg h]
theorem scn_vStps {l : List Stp} : setC 0 1 (vStps l) .nil = some (vStps l) := rfl
theorem sco_vStps {l k : List Stp} : setC 0 1 (vStps l) (vStps k) = some (vStps l) := rfl
theorem ia_vClss {l : List Cls} {k : IntKind} {x : Int} : retV (.ia 4) [vClss l, .int k x] = if 0 ≤ x then (l[x.toNat]?).map fun e => .imm (vCls e) 0 else none := by
 unfold vClss
 rw [r_iaro, ml_get]
 cases l[x.toNat]? <;> rfl
theorem len_vClss {l : List Cls} : retV (.len false) [vClss l] = some (.int .i64 (l.length : Int)) := by
 unfold vClss
 rw [r_lenro, ml_len]
theorem lof_vClss {l : List Cls} : lenOf (vClss l) = some l.length := by
 unfold vClss
 rw [lenro, ml_len]
theorem ce_vClss {l : List Cls} : V.cells (vClss l) = [vClss l] := rfl
theorem on_vClss {l : List Cls} : V.ones (vClss l) = true := rfl
theorem o1_vClss {l : List Cls} : V.one (vClss l) = true := rfl
theorem fz_vClss {lo n : Nat} {m : Mem} {l : List Cls} : freeze lo m (n + 1) (vClss l) = some (vClss l) := rfl
theorem vw_vClss {m : Mem} {l : List Cls} : view m (vClss l) = some (nz 4 (l.map vCls), l.map vCls) := rfl
theorem sl_vClss {l : List Cls} {a b : Nat} : slOf 4 (vClss l) a b = if a ≤ b ∧ b ≤ l.length then some (vClss ((l.drop a).take (b - a))) else none := by
 unfold vClss
 rw [sl_ro, ml_len]
 by_cases h : a ≤ b ∧ b ≤ l.length
 ·rw [if_pos h, if_pos h, List.map_take, List.map_drop]
 ·rw [if_neg h, if_neg h]
theorem scn_vClss {l : List Cls} : setC 0 1 (vClss l) .nil = some (vClss l) := rfl
theorem sco_vClss {l k : List Cls} : setC 0 1 (vClss l) (vClss k) = some (vClss l) := rfl
theorem ces_vPool {s : Pool} : V.cells (vPool s) = [V.str s.name, .int .i64 s.size, .int .i64 s.res] := rfl
theorem ons_vPool {s : Pool} : V.ones (vPool s) = true := rfl
theorem fo_vPool {s : Pool} : V.agg [V.str s.name, .int .i64 s.size, .int .i64 s.res] = vPool s := rfl
theorem fzs_vPool {lo n : Nat} {m : Mem} {s : Pool} : freeze lo m (n + 2) (vPool s) = some (vPool s) := rfl
theorem ces_vStp {s : Stp} : V.cells (vStp s) = [.int .i64 s.kind, .int .i64 s.on, .int .i64 s.cnt, .bool s.deep] := rfl
theorem ons_vStp {s : Stp} : V.ones (vStp s) = true := rfl
theorem fo_vStp {s : Stp} : V.agg [.int .i64 s.kind, .int .i64 s.on, .int .i64 s.cnt, .bool s.deep] = vStp s := rfl
theorem fzs_vStp {lo n : Nat} {m : Mem} {s : Stp} : freeze lo m (n + 2) (vStp s) = some (vStp s) := rfl
theorem ces_vCls {s : Cls} : V.cells (vCls s) = [.str s.name, .int .i64 s.wk, .bool s.srv, vStps s.steps] := rfl
theorem ons_vCls {s : Cls} : V.ones (vCls s) = true := rfl
theorem fo_vCls {s : Cls} : V.agg [.str s.name, .int .i64 s.wk, .bool s.srv, vStps s.steps] = vCls s := rfl
theorem fzs_vCls {lo n : Nat} {m : Mem} {s : Cls} : freeze lo m (n + 2) (vCls s) = some (vCls s) := rfl
theorem ces_vSys {s : Sys} : V.cells (vSys s) = [vPools s.pools, strs s.locks, vClss s.cls] := rfl
theorem ons_vSys {s : Sys} : V.ones (vSys s) = true := rfl
theorem fo_vSys {s : Sys} : V.agg [vPools s.pools, strs s.locks, vClss s.cls] = vSys s := rfl
theorem fzs_vSys {lo n : Nat} {m : Mem} {s : Sys} : freeze lo m (n + 2) (vSys s) = some (vSys s) := rfl
set_option linter.defProp false
def se := And.intro @ia_ints (And.intro @len_ints (And.intro @lof_ints (And.intro @ce_ints (And.intro @on_ints (And.intro @o1_ints (And.intro @fz_ints (And.intro @vw_ints (And.intro @sl_ints (And.intro @scn_ints (And.intro @sco_ints (And.intro @ia_bools (And.intro @len_bools (And.intro @lof_bools (And.intro @ce_bools (And.intro @on_bools (And.intro @o1_bools (And.intro @fz_bools (And.intro @vw_bools (And.intro @sl_bools (And.intro @scn_bools (And.intro @sco_bools (And.intro @ia_strs (And.intro @len_strs (And.intro @lof_strs (And.intro @ce_strs (And.intro @on_strs (And.intro @o1_strs (And.intro @fz_strs (And.intro @vw_strs (And.intro @sl_strs (And.intro @scn_strs (And.intro @sco_strs (And.intro @ia_vPools (And.intro @len_vPools (And.intro @lof_vPools (And.intro @ce_vPools (And.intro @on_vPools (And.intro @o1_vPools (And.intro @fz_vPools (And.intro @vw_vPools (And.intro @sl_vPools (And.intro @scn_vPools (And.intro @sco_vPools (And.intro @ia_vStps (And.intro @len_vStps (And.intro @lof_vStps (And.intro @ce_vStps (And.intro @on_vStps (And.intro @o1_vStps (And.intro @fz_vStps (And.intro @vw_vStps (And.intro @sl_vStps (And.intro @scn_vStps (And.intro @sco_vStps (And.intro @ia_vClss (And.intro @len_vClss (And.intro @lof_vClss (And.intro @ce_vClss (And.intro @on_vClss (And.intro @o1_vClss (And.intro @fz_vClss (And.intro @vw_vClss (And.intro @sl_vClss (And.intro @scn_vClss (And.intro @sco_vClss (And.intro @ces_vPool (And.intro @ons_vPool (And.intro @fo_vPool (And.intro @fzs_vPool (And.intro @ces_vStp (And.intro @ons_vStp (And.intro @fo_vStp (And.intro @fzs_vStp (And.intro @ces_vCls (And.intro @ons_vCls (And.intro @fo_vCls (And.intro @fzs_vCls (And.intro @ces_vSys (And.intro @ons_vSys (And.intro @fo_vSys (@fzs_vSys)))))))))))))))))))))))))))))))))))))))))))))))))))))))))))))))))))))))))))))))))
theorem drop_cons {α : Type} {l : List α} {i : Nat} {x : α} {t : List α} (h : l.drop i = x :: t) : l[i]? = some x ∧ l.drop (i + 1) = t ∧ i < l.length := by
 have hl : i < l.length := by
  rcases Nat.lt_or_ge i l.length with h' | h'
  ·exact h'
  ·rw [List.drop_eq_nil_of_le h'] at h; cases h
 rw [List.drop_eq_getElem_cons hl] at h
 cases h
 exact ⟨List.getElem?_eq_getElem hl, rfl, hl⟩
theorem drop_nil {α : Type} {l : List α} {i : Nat} (h : l.drop i = []) : l.length ≤ i := List.drop_eq_nil_iff.1 h
def idxP {α : Type} (p : α → Bool) : List α → Nat → Int
 | [], _ => -1
 | x :: xs, i => if p x then (i : Int) else idxP p xs (i + 1)
theorem idxP_ge {α : Type} {p : α → Bool} : ∀ {l : List α} {i : Nat}, (0 ≤ idxP p l i) = (l.any p = true)
 | [], i => by simp [idxP]
 | x :: xs, i => by
  cases h : p x <;> simp [idxP, h, idxP_ge (l := xs)]
end Go.Am
namespace Go.Am
open Go
set_option linter.unusedSimpArgs false
set_option linter.unusedVariables false
def Sl (m : Mem) (sz : Nat) (v : V) (xs : List V) : Prop := (∃ p, v = .ro p sz xs) ∨ ∃ h o es, v = .row sz h o xs.length ∧ m.blk h = some (.row sz es) ∧ o + xs.length ≤ es.length ∧ (es.drop o).take xs.length = xs
theorem Sl.len {m : Mem} {sz : Nat} {v : V} {xs : List V} (h : Sl m sz v xs) : retV (.len false) [v] = some (.int .i64 (xs.length : Int)) := by
 rcases h with ⟨p, rfl⟩ | ⟨h, o, es, rfl, _⟩
 ·rfl
 ·rfl
theorem Sl.at {m : Mem} {sz : Nat} {v x : V} {xs : List V} (h : Sl m sz v xs) {i : Nat} (hi : xs[i]? = some x) : ∃ ad, retV (.ia sz) [v, .int .i64 (i : Int)] = some ad ∧ ∀ bx agg n, ldV bx m agg n ad = getC agg 0 n x := by
 have hlt : i < xs.length := by
  rcases Nat.lt_or_ge i xs.length with h | h
  ·exact h
  ·rw [List.getElem?_eq_none h] at hi; cases hi
 rcases h with ⟨p, rfl⟩ | ⟨h, o, es, rfl, hb, ho, he⟩
 ·refine ⟨.imm x 0, ?_, fun bx agg n => rfl⟩
  rw [r_iaro]
  simp [hi]
 ·refine ⟨.ptr h (o + i) 0, ?_, fun bx agg n => ?_⟩
  ·rw [r_iar]
   simp only [Int.natCast_nonneg, true_and, and_true, Int.toNat_natCast]
   rw [if_pos (by omega)]
  ·rw [ld_ptr hb]
   have : es[o + i]? = some x := by
    rw [← he, List.getElem?_take, if_pos hlt, List.getElem?_drop] at hi
    exact hi
   rw [this]
theorem Sl.ints {m : Mem} {l : List Int} : Sl m 1 (Go.Am.ints l) (l.map vi) := .inl ⟨true, rfl⟩
theorem Sl.bools {m : Mem} {l : List Bool} : Sl m 1 (Go.Am.bools l) (l.map .bool) := .inl ⟨true, rfl⟩
theorem Sl.strs {m : Mem} {l : List (List UInt8)} : Sl m 1 (Go.Am.strs l) (l.map .str) := .inl ⟨true, rfl⟩
theorem Sl.row {m : Mem} {sz h : Nat} {xs : List V} (hb : m.blk h = some (.row sz xs)) : Sl m sz (.row sz h 0 xs.length) xs := .inr ⟨h, 0, xs, rfl, hb, by simp, by simp⟩
theorem Sl.bump {m : Mem} {sz n : Nat} {v : V} {xs : List V} (h : Sl m sz v xs) : Sl (m.bump n) sz v xs := h
theorem sx153 {F : Nat → Option Fn} (hA : HasA F) {lo : Nat} {m : Mem} {v : V} (l : List (List UInt8)) (s : (List UInt8)) (hv : Sl m 1 v (l.map V.str)) (hs : l.length < 1000000) : callw F 153 [v, V.str s] lo m = some (vi (idxP (fun x => decide (s = x)) l 0), m) := by
 have hlen := hv.len
 rw [List.length_map] at hlen
 have loop : ∀ (t : List (List UInt8)) (i : Nat) (Q : Ex → St → Prop), l.drop i = t → (∀ j, idxP (fun x => decide (s = x)) t i = j → j ≠ -1 → Q .ret ⟨[(4, vi j)], [], [], m⟩) →
   (idxP (fun x => decide (s = x)) t i = -1 → ∀ i e, Q (.exit 0) ⟨[(0, v), (1, V.str s), (7, vi l.length), (8, vi i), (9, e)], [], [], m⟩) →
   W F m.next L153_1 ⟨[(0, v), (1, V.str s), (7, vi l.length), (8, vi i)], [], [], m⟩ Q := by
  intro t
  induction t with
  | nil =>
   intro i Q hd h1 h2
   have hlt := drop_nil hd
   rw [W_L (c := L153_1) rfl]
   have : ¬ ((i : Nat) : Int) < (l.length : Int) := by omega
   simp only [↓sxc, sx, se, ↓reduceIte, Nat.reduceEqDiff, Nat.reduceAdd, Nat.reduceLT, Nat.reduceLeDiff, Nat.reduceSub, Nat.reduceMul, Int.reduceToNat, Int.reduceLT, Int.reduceLE, Int.reduceEq, ml_i0, this]
   exact h2 rfl i _
  | cons x t ih =>
   intro i Q hd h1 h2
   obtain ⟨hg, hd', hlt⟩ := drop_cons hd
   rw [W_L (c := L153_1) rfl]
   have : ((i : Nat) : Int) < (l.length : Int) := by omega
   obtain ⟨ad, a1, a2⟩ := hv.at (i := i) (x := V.str x) (by rw [List.getElem?_map, hg]; rfl)
   by_cases hx : s = x
   ·have e : idxP (fun x => decide (s = x)) (x :: t) i = (i : Int) := by simp [idxP, hx]
    simp only [↓sxc, sx, se, ↓reduceIte, Nat.reduceEqDiff, Nat.reduceAdd, Nat.reduceLT, Nat.reduceLeDiff, Nat.reduceSub, Nat.reduceMul, Int.reduceToNat, Int.reduceLT, Int.reduceLE, Int.reduceEq, ml_i0, this, a1, a2, hx]
    exact h1 i e (by omega)
   ·have e : idxP (fun x => decide (s = x)) (x :: t) i = idxP (fun x => decide (s = x)) t (i + 1) := by simp [idxP, hx]
    rw [e] at h1 h2
    simp only [↓sxc, sx, se, ↓reduceIte, Nat.reduceEqDiff, Nat.reduceAdd, Nat.reduceLT, Nat.reduceLeDiff, Nat.reduceSub, Nat.reduceMul, Int.reduceToNat, Int.reduceLT, Int.reduceLE, Int.reduceEq, ml_i0, this, a1, a2, hx]
    rw [wr_i64 (by omega) (by omega)]
    exact ih (i + 1) Q hd' h1 h2
 refine call_p hA.h153 rfl ?_
 simp only [↓sxc, sx, se, ↓reduceIte, Nat.reduceEqDiff, Nat.reduceAdd, Nat.reduceLT, Nat.reduceLeDiff, Nat.reduceSub, Nat.reduceMul, Int.reduceToNat, Int.reduceLT, Int.reduceLE, Int.reduceEq, ml_i0, hlen]
 refine loop l 0 _ rfl (fun j hj hne => ?_) (fun hn i e => ?_)
 ·simp only [↓sxc, sx, se, ↓reduceIte, Nat.reduceEqDiff, Nat.reduceAdd, Nat.reduceLT, Nat.reduceLeDiff, Nat.reduceSub, Nat.reduceMul, Int.reduceToNat, Int.reduceLT, Int.reduceLE, Int.reduceEq, ml_i0, hj]
 ·simp only [↓sxc, sx, se, ↓reduceIte, Nat.reduceEqDiff, Nat.reduceAdd, Nat.reduceLT, Nat.reduceLeDiff, Nat.reduceSub, Nat.reduceMul, Int.reduceToNat, Int.reduceLT, Int.reduceLE, Int.reduceEq, ml_i0, hn]
theorem sx116 {F : Nat → Option Fn} (hA : HasA F) {lo : Nat} {m : Mem} {v : V} (l : List Bool) (s : Bool) (hv : Sl m 1 v (l.map V.bool)) (hs : l.length < 1000000) : callw F 116 [v, V.bool s] lo m = some (vi (idxP (fun x => decide (s = x)) l 0), m) := by
 have hlen := hv.len
 rw [List.length_map] at hlen
 have loop : ∀ (t : List Bool) (i : Nat) (Q : Ex → St → Prop), l.drop i = t → (∀ j, idxP (fun x => decide (s = x)) t i = j → j ≠ -1 → Q .ret ⟨[(4, vi j)], [], [], m⟩) →
   (idxP (fun x => decide (s = x)) t i = -1 → ∀ i e, Q (.exit 0) ⟨[(0, v), (1, V.bool s), (7, vi l.length), (8, vi i), (9, e)], [], [], m⟩) →
   W F m.next L116_1 ⟨[(0, v), (1, V.bool s), (7, vi l.length), (8, vi i)], [], [], m⟩ Q := by
  intro t
  induction t with
  | nil =>
   intro i Q hd h1 h2
   have hlt := drop_nil hd
   rw [W_L (c := L116_1) rfl]
   have : ¬ ((i : Nat) : Int) < (l.length : Int) := by omega
   simp only [↓sxc, sx, se, ↓reduceIte, Nat.reduceEqDiff, Nat.reduceAdd, Nat.reduceLT, Nat.reduceLeDiff, Nat.reduceSub, Nat.reduceMul, Int.reduceToNat, Int.reduceLT, Int.reduceLE, Int.reduceEq, ml_i0, this]
   exact h2 rfl i _
  | cons x t ih =>
   intro i Q hd h1 h2
   obtain ⟨hg, hd', hlt⟩ := drop_cons hd
   rw [W_L (c := L116_1) rfl]
   have : ((i : Nat) : Int) < (l.length : Int) := by omega
   obtain ⟨ad, a1, a2⟩ := hv.at (i := i) (x := V.bool x) (by rw [List.getElem?_map, hg]; rfl)
   by_cases hx : s = x
   ·have e : idxP (fun x => decide (s = x)) (x :: t) i = (i : Int) := by simp [idxP, hx]
    simp only [↓sxc, sx, se, ↓reduceIte, Nat.reduceEqDiff, Nat.reduceAdd, Nat.reduceLT, Nat.reduceLeDiff, Nat.reduceSub, Nat.reduceMul, Int.reduceToNat, Int.reduceLT, Int.reduceLE, Int.reduceEq, ml_i0, this, a1, a2, hx]
    exact h1 i e (by omega)
   ·have e : idxP (fun x => decide (s = x)) (x :: t) i = idxP (fun x => decide (s = x)) t (i + 1) := by simp [idxP, hx]
    rw [e] at h1 h2
    simp only [↓sxc, sx, se, ↓reduceIte, Nat.reduceEqDiff, Nat.reduceAdd, Nat.reduceLT, Nat.reduceLeDiff, Nat.reduceSub, Nat.reduceMul, Int.reduceToNat, Int.reduceLT, Int.reduceLE, Int.reduceEq, ml_i0, this, a1, a2, hx]
    rw [wr_i64 (by omega) (by omega)]
    exact ih (i + 1) Q hd' h1 h2
 refine call_p hA.h116 rfl ?_
 simp only [↓sxc, sx, se, ↓reduceIte, Nat.reduceEqDiff, Nat.reduceAdd, Nat.reduceLT, Nat.reduceLeDiff, Nat.reduceSub, Nat.reduceMul, Int.reduceToNat, Int.reduceLT, Int.reduceLE, Int.reduceEq, ml_i0, hlen]
 refine loop l 0 _ rfl (fun j hj hne => ?_) (fun hn i e => ?_)
 ·simp only [↓sxc, sx, se, ↓reduceIte, Nat.reduceEqDiff, Nat.reduceAdd, Nat.reduceLT, Nat.reduceLeDiff, Nat.reduceSub, Nat.reduceMul, Int.reduceToNat, Int.reduceLT, Int.reduceLE, Int.reduceEq, ml_i0, hj]
 ·simp only [↓sxc, sx, se, ↓reduceIte, Nat.reduceEqDiff, Nat.reduceAdd, Nat.reduceLT, Nat.reduceLeDiff, Nat.reduceSub, Nat.reduceMul, Int.reduceToNat, Int.reduceLT, Int.reduceLE, Int.reduceEq, ml_i0, hn]
theorem sx113 {F : Nat → Option Fn} (hA : HasA F) {lo : Nat} {m : Mem} {v : V} (l : List (List UInt8)) (s : (List UInt8)) (hv : Sl m 1 v (l.map V.str)) (hs : l.length < 1000000) : callw F 113 [v, V.str s] lo m = some (.bool (l.any fun x => decide (s = x)), m) := by
 refine call_p hA.h113 rfl ?_
 have e : decide (0 ≤ idxP (fun x => decide (s = x)) l 0) = l.any fun x => decide (s = x) := by
  rw [Bool.eq_iff_iff, decide_eq_true_iff, idxP_ge]
 simp only [↓sxc, sx, se, ↓reduceIte, Nat.reduceEqDiff, Nat.reduceAdd, Nat.reduceLT, Nat.reduceLeDiff, Nat.reduceSub, Nat.reduceMul, Int.reduceToNat, Int.reduceLT, Int.reduceLE, Int.reduceEq, ml_i0, sx153 hA l s hv hs, e]
theorem sx154 {F : Nat → Option Fn} (hA : HasA F) {lo : Nat} {m : Mem} {v : V} (l : List Bool) (s : Bool) (hv : Sl m 1 v (l.map V.bool)) (hs : l.length < 1000000) : callw F 154 [v, V.bool s] lo m = some (.bool (l.any fun x => decide (s = x)), m) := by
 refine call_p hA.h154 rfl ?_
 have e : decide (0 ≤ idxP (fun x => decide (s = x)) l 0) = l.any fun x => decide (s = x) := by
  rw [Bool.eq_iff_iff, decide_eq_true_iff, idxP_ge]
 simp only [↓sxc, sx, se, ↓reduceIte, Nat.reduceEqDiff, Nat.reduceAdd, Nat.reduceLT, Nat.reduceLeDiff, Nat.reduceSub, Nat.reduceMul, Int.reduceToNat, Int.reduceLT, Int.reduceLE, Int.reduceEq, ml_i0, sx116 hA l s hv hs, e]
def IsPred (F : Nat → Option Fn) (f : Nat) (cs : List V) (p : Int → Bool) (l : List Int) : Prop := f < 1000 ∧ ∀ x ∈ l, ∀ lo m, callw F f (vi x :: cs) lo m = some (.bool (p x), m)
theorem sx106 {F : Nat → Option Fn} (hA : HasA F) {lo : Nat} {m : Mem} {v : V} (l : List Int) {f : Nat} {cs : List V} {p : Int → Bool} (hv : Sl m 1 v (l.map vi)) (hp : IsPred F f cs p l) (hs : l.length < 1000000) : callw F 106 [v, .fn f cs] lo m = some (vi (idxP p l 0), m) := by
 have hlen := hv.len
 rw [List.length_map] at hlen
 have loop : ∀ (t : List Int) (i : Nat) (Q : Ex → St → Prop), l.drop i = t → (∀ j, idxP p t i = j → j ≠ -1 → Q .ret ⟨[(4, vi j)], [], [], m⟩) →
   (idxP p t i = -1 → ∀ i e, Q (.exit 0) ⟨[(0, v), (1, .fn f cs), (7, vi l.length), (8, vi i), (9, e)], [], [], m⟩) →
   W F m.next L106_1 ⟨[(0, v), (1, .fn f cs), (7, vi l.length), (8, vi i)], [], [], m⟩ Q := by
  intro t
  induction t with
  | nil =>
   intro i Q hd h1 h2
   have hlt := drop_nil hd
   rw [W_L (c := L106_1) rfl]
   have : ¬ ((i : Nat) : Int) < (l.length : Int) := by omega
   simp only [↓sxc, sx, se, ↓reduceIte, Nat.reduceEqDiff, Nat.reduceAdd, Nat.reduceLT, Nat.reduceLeDiff, Nat.reduceSub, Nat.reduceMul, Int.reduceToNat, Int.reduceLT, Int.reduceLE, Int.reduceEq, ml_i0, this]
   exact h2 rfl i _
  | cons x t ih =>
   intro i Q hd h1 h2
   obtain ⟨hg, hd', hlt⟩ := drop_cons hd
   rw [W_L (c := L106_1) rfl]
   have : ((i : Nat) : Int) < (l.length : Int) := by omega
   obtain ⟨ad, a1, a2⟩ := hv.at (i := i) (x := vi x) (by rw [List.getElem?_map, hg]; rfl)
   have hc := hp.2 x (List.mem_of_getElem? hg) m.next m
   simp only [↓sxc, sx, se, ↓reduceIte, Nat.reduceEqDiff, Nat.reduceAdd, Nat.reduceLT, Nat.reduceLeDiff, Nat.reduceSub, Nat.reduceMul, Int.reduceToNat, Int.reduceLT, Int.reduceLE, Int.reduceEq, ml_i0, this, a1, a2, hp.1, List.cons_append, List.nil_append, hc]
   cases hx : p x with
   | true =>
    have e : idxP p (x :: t) i = (i : Int) := by simp [idxP, hx]
    simp only [↓sxc, sx, se, ↓reduceIte, Nat.reduceEqDiff, Nat.reduceAdd, Nat.reduceLT, Nat.reduceLeDiff, Nat.reduceSub, Nat.reduceMul, Int.reduceToNat, Int.reduceLT, Int.reduceLE, Int.reduceEq, ml_i0]
    exact h1 i e (by omega)
   | false =>
    have e : idxP p (x :: t) i = idxP p t (i + 1) := by simp [idxP, hx]
    rw [e] at h1 h2
    simp only [↓sxc, sx, se, ↓reduceIte, Nat.reduceEqDiff, Nat.reduceAdd, Nat.reduceLT, Nat.reduceLeDiff, Nat.reduceSub, Nat.reduceMul, Int.reduceToNat, Int.reduceLT, Int.reduceLE, Int.reduceEq, ml_i0]
    rw [wr_i64 (by omega) (by omega)]
    exact ih (i + 1) Q hd' h1 h2
 refine call_p hA.h106 rfl ?_
 simp only [↓sxc, sx, se, ↓reduceIte, Nat.reduceEqDiff, Nat.reduceAdd, Nat.reduceLT, Nat.reduceLeDiff, Nat.reduceSub, Nat.reduceMul, Int.reduceToNat, Int.reduceLT, Int.reduceLE, Int.reduceEq, ml_i0, hlen]
 refine loop l 0 _ rfl (fun j hj hne => ?_) (fun hn i e => ?_)
 ·simp only [↓sxc, sx, se, ↓reduceIte, Nat.reduceEqDiff, Nat.reduceAdd, Nat.reduceLT, Nat.reduceLeDiff, Nat.reduceSub, Nat.reduceMul, Int.reduceToNat, Int.reduceLT, Int.reduceLE, Int.reduceEq, ml_i0, hj]
 ·simp only [↓sxc, sx, se, ↓reduceIte, Nat.reduceEqDiff, Nat.reduceAdd, Nat.reduceLT, Nat.reduceLeDiff, Nat.reduceSub, Nat.reduceMul, Int.reduceToNat, Int.reduceLT, Int.reduceLE, Int.reduceEq, ml_i0, hn]
theorem sx120 {F : Nat → Option Fn} (hA : HasA F) {lo : Nat} {m : Mem} {v : V} (l : List Int) {f : Nat} {cs : List V} {p : Int → Bool} (hv : Sl m 1 v (l.map vi)) (hp : IsPred F f cs p l) (hs : l.length < 1000000) : callw F 120 [v, .fn f cs] lo m = some (.bool (l.any p), m) := by
 refine call_p hA.h120 rfl ?_
 have e : decide (0 ≤ idxP p l 0) = l.any p := by
  rw [Bool.eq_iff_iff, decide_eq_true_iff, idxP_ge]
 simp only [↓sxc, sx, se, ↓reduceIte, Nat.reduceEqDiff, Nat.reduceAdd, Nat.reduceLT, Nat.reduceLeDiff, Nat.reduceSub, Nat.reduceMul, Int.reduceToNat, Int.reduceLT, Int.reduceLE, Int.reduceEq, ml_i0, sx106 hA l hv hp hs, e]
theorem sp155 {F : Nat → Option Fn} (hA : HasA F) {lo : Nat} {m : Mem} (x : Int) : callw F 155 [vi x] lo m = some (.bool (decide (0 < x)), m) := by
 refine call_p hA.h155 rfl ?_
 simp only [↓sxc, sx, se, ↓reduceIte, Nat.reduceEqDiff, Nat.reduceAdd, Nat.reduceLT, Nat.reduceLeDiff, Nat.reduceSub, Nat.reduceMul, Int.reduceToNat, Int.reduceLT, Int.reduceLE, Int.reduceEq, ml_i0]
def lowC (c : UInt8) : Bool := decide (97 ≤ c.toNat) && decide (c.toNat ≤ 122)
def digC (c : UInt8) : Bool := decide (48 ≤ c.toNat) && decide (c.toNat ≤ 57)
def isNm (s : List UInt8) : Bool := decide (1 ≤ s.length) && decide (s.length ≤ 8) && (match s with | [] => false | c :: _ => lowC c) && s.all fun c => lowC c || digC c
theorem lowC_eq {c : UInt8} : lowC c = (!(decide ((c.toNat : Int) < 97)) && !(decide (122 < (c.toNat : Int)))) := by
 unfold lowC
 rw [Bool.eq_iff_iff]
 simp only [Bool.and_eq_true, decide_eq_true_eq, Bool.not_eq_true', decide_eq_false_iff_not]
 omega
theorem digC_eq {c : UInt8} : digC c = (!(decide ((c.toNat : Int) < 48)) && !(decide (57 < (c.toNat : Int)))) := by
 unfold digC
 rw [Bool.eq_iff_iff]
 simp only [Bool.and_eq_true, decide_eq_true_eq, Bool.not_eq_true', decide_eq_false_iff_not]
 omega
theorem sp112 {F : Nat → Option Fn} (hA : HasA F) {lo : Nat} {m : Mem} (s : List UInt8) : callw F 112 [.str s] lo m = some (.bool (isNm s), m) := by
 have loop : s.length < 100 → ∀ (t : List UInt8) (i : Nat) (Q : Ex → St → Prop), s.drop i = t → (t.all (fun c => lowC c || digC c) = false → Q .ret ⟨[(2, .bool false)], [], [], m⟩) →
   (t.all (fun c => lowC c || digC c) = true → ∀ i v, Q (.exit 0) ⟨[(0, .str s), (23, vi s.length), (24, vi i), (25, v)], [], [], m⟩) →
   W F m.next L112_1 ⟨[(0, .str s), (23, vi s.length), (24, vi i)], [], [], m⟩ Q := by
  intro hs t
  induction t with
  | nil =>
   intro i Q hd h1 h2
   have hlt := drop_nil hd
   rw [W_L (c := L112_1) rfl]
   have : ¬ ((i : Nat) : Int) < (s.length : Int) := by omega
   simp only [↓sxc, sx, se, ↓reduceIte, Nat.reduceEqDiff, Nat.reduceAdd, Nat.reduceLT, Nat.reduceLeDiff, Nat.reduceSub, Nat.reduceMul, Int.reduceToNat, Int.reduceLT, Int.reduceLE, Int.reduceEq, ml_i0, this]
   exact h2 rfl i _
  | cons x t ih =>
   intro i Q hd h1 h2
   obtain ⟨hg, hd', hlt⟩ := drop_cons hd
   rw [W_L (c := L112_1) rfl]
   have : ((i : Nat) : Int) < (s.length : Int) := by omega
   rw [List.all_cons, lowC_eq, digC_eq] at h1 h2
   have ih' := ih (i + 1) Q hd'
   have wr : wrapF .i64 ((i : Int) + 1) = ((i + 1 : Nat) : Int) := by rw [wr_i64 (by omega) (by omega)]; rfl
   by_cases c1 : (x.toNat : Int) < 97 <;> by_cases c2 : 122 < (x.toNat : Int) <;> by_cases c3 : (x.toNat : Int) < 48 <;> by_cases c4 : 57 < (x.toNat : Int) <;>
    simp only [c1, c2, c3, c4, decide_true, decide_false, Bool.not_true, Bool.not_false, Bool.and_true, Bool.and_false, Bool.or_true, Bool.or_false, Bool.true_and, Bool.false_and, Bool.false_eq_true, false_implies, true_implies] at h1 h2 <;>
    simp only [↓sxc, sx, se, ↓reduceIte, Nat.reduceEqDiff, Nat.reduceAdd, Nat.reduceLT, Nat.reduceLeDiff, Nat.reduceSub, Nat.reduceMul, Int.reduceToNat, Int.reduceLT, Int.reduceLE, Int.reduceEq, ml_i0, this, hg, c1, c2, c3, c4, wr] <;> first
     | exact h1
     | exact ih' h1 h2
 refine call_p hA.h112 rfl ?_
 rcases s with _ | ⟨c, t⟩
 ·simp only [↓sxc, sx, se, ↓reduceIte, Nat.reduceEqDiff, Nat.reduceAdd, Nat.reduceLT, Nat.reduceLeDiff, Nat.reduceSub, Nat.reduceMul, Int.reduceToNat, Int.reduceLT, Int.reduceLE, Int.reduceEq, ml_i0]
  rfl
 ·have h1 : ¬ ((t.length + 1 : Nat) : Int) < 1 := by omega
  by_cases h8 : 8 < ((t.length + 1 : Nat) : Int)
  ·have e : isNm (c :: t) = false := by
    have : ¬ t.length + 1 ≤ 8 := by omega
    simp [isNm, this]
   simp only [↓sxc, sx, se, ↓reduceIte, Nat.reduceEqDiff, Nat.reduceAdd, Nat.reduceLT, Nat.reduceLeDiff, Nat.reduceSub, Nat.reduceMul, Int.reduceToNat, Int.reduceLT, Int.reduceLE, Int.reduceEq, ml_i0, h1, h8, e]
  ·have e : isNm (c :: t) = (lowC c && (c :: t).all fun c => lowC c || digC c) := by
    have : t.length + 1 ≤ 8 := by omega
    simp [isNm, this]
   rw [e, lowC_eq]
   by_cases c1 : (c.toNat : Int) < 97
   ·simp only [↓sxc, sx, se, ↓reduceIte, Nat.reduceEqDiff, Nat.reduceAdd, Nat.reduceLT, Nat.reduceLeDiff, Nat.reduceSub, Nat.reduceMul, Int.reduceToNat, Int.reduceLT, Int.reduceLE, Int.reduceEq, ml_i0, h1, h8, c1]
   ·by_cases c2 : 122 < (c.toNat : Int)
    ·simp only [↓sxc, sx, se, ↓reduceIte, Nat.reduceEqDiff, Nat.reduceAdd, Nat.reduceLT, Nat.reduceLeDiff, Nat.reduceSub, Nat.reduceMul, Int.reduceToNat, Int.reduceLT, Int.reduceLE, Int.reduceEq, ml_i0, h1, h8, c1, c2]
    ·simp only [↓sxc, sx, se, ↓reduceIte, Nat.reduceEqDiff, Nat.reduceAdd, Nat.reduceLT, Nat.reduceLeDiff, Nat.reduceSub, Nat.reduceMul, Int.reduceToNat, Int.reduceLT, Int.reduceLE, Int.reduceEq, ml_i0, h1, h8, c1, c2]
     refine loop (by simp; omega) (c :: t) 0 _ rfl (fun h => ?_) (fun h i v => ?_)
     ·simp only [↓sxc, sx, se, ↓reduceIte, Nat.reduceEqDiff, Nat.reduceAdd, Nat.reduceLT, Nat.reduceLeDiff, Nat.reduceSub, Nat.reduceMul, Int.reduceToNat, Int.reduceLT, Int.reduceLE, Int.reduceEq, ml_i0, h]
     ·simp only [↓sxc, sx, se, ↓reduceIte, Nat.reduceEqDiff, Nat.reduceAdd, Nat.reduceLT, Nat.reduceLeDiff, Nat.reduceSub, Nat.reduceMul, Int.reduceToNat, Int.reduceLT, Int.reduceLE, Int.reduceEq, ml_i0, h]
def headOk : List UInt8 → Bool
 | [] => true
 | c :: t => lowC c && t.all fun c => lowC c || digC c
theorem sp145 {F : Nat → Option Fn} (hA : HasA F) {lo : Nat} {m : Mem} (s : List UInt8) : callw F 145 [.str s] lo m = some (.bool (isNm s), m) := by
 have loop : s.length < 100 → ∀ (t : List UInt8) (i : Nat) (Q : Ex → St → Prop), s.drop i = t → ((if i = 0 then headOk t else t.all (fun c => lowC c || digC c)) = false → Q .ret ⟨[(2, .bool false)], [], [], m⟩) →
   ((if i = 0 then headOk t else t.all (fun c => lowC c || digC c)) = true → ∀ i v, Q (.exit 0) ⟨[(0, .str s), (3, vi i), (16, v)], [], [], m⟩) →
   W F m.next L145_1 ⟨[(0, .str s), (3, vi i)], [], [], m⟩ Q := by
  intro hs t
  induction t with
  | nil =>
   intro i Q hd h1 h2
   have hlt := drop_nil hd
   rw [W_L (c := L145_1) rfl]
   have : ¬ ((i : Nat) : Int) < (s.length : Int) := by omega
   simp only [↓sxc, sx, se, ↓reduceIte, Nat.reduceEqDiff, Nat.reduceAdd, Nat.reduceLT, Nat.reduceLeDiff, Nat.reduceSub, Nat.reduceMul, Int.reduceToNat, Int.reduceLT, Int.reduceLE, Int.reduceEq, ml_i0, this]
   exact h2 (by split <;> rfl) i _
  | cons x t ih =>
   intro i Q hd h1 h2
   obtain ⟨hg, hd', hlt⟩ := drop_cons hd
   rw [W_L (c := L145_1) rfl]
   have : ((i : Nat) : Int) < (s.length : Int) := by omega
   have ih' := ih (i + 1) Q hd'
   rw [if_neg (by omega)] at ih'
   have wr : wrapF .i64 ((i : Int) + 1) = ((i + 1 : Nat) : Int) := by rw [wr_i64 (by omega) (by omega)]; rfl
   have g1 : ∀ c : UInt8, (97 ≤ (c.toNat : Int)) = ¬ ((c.toNat : Int) < 97) := fun c => by simp
   have g2 : ∀ c : UInt8, ((c.toNat : Int) ≤ 122) = ¬ (122 < (c.toNat : Int)) := fun c => by simp
   by_cases hi : i = 0
   ·have hz : (((i : Nat) : Int) = 0) = True := by simp [hi]
    simp only [if_pos hi, headOk, lowC_eq, digC_eq] at h1 h2
    by_cases c1 : (x.toNat : Int) < 97 <;> by_cases c2 : 122 < (x.toNat : Int) <;>
     simp only [c1, c2, decide_true, decide_false, Bool.not_true, Bool.not_false, Bool.and_true, Bool.and_false, Bool.or_true, Bool.or_false, Bool.true_and, Bool.false_and, Bool.false_eq_true, false_implies, true_implies] at h1 h2 <;>
     simp only [↓sxc, sx, se, ↓reduceIte, Nat.reduceEqDiff, Nat.reduceAdd, Nat.reduceLT, Nat.reduceLeDiff, Nat.reduceSub, Nat.reduceMul, Int.reduceToNat, Int.reduceLT, Int.reduceLE, Int.reduceEq, ml_i0, this, hg, g1, g2, c1, c2, wr, hz, not_true, not_false_iff] <;> first
      | exact h1
      | exact ih' (by simp only [lowC_eq, digC_eq]; exact h1) (by simp only [lowC_eq, digC_eq]; exact h2)
   ·have hz : (((i : Nat) : Int) = 0) = False := by simp [hi]
    rw [if_neg hi, List.all_cons, lowC_eq, digC_eq] at h1 h2
    by_cases c1 : (x.toNat : Int) < 97 <;> by_cases c2 : 122 < (x.toNat : Int) <;> by_cases c3 : (x.toNat : Int) < 48 <;> by_cases c4 : 57 < (x.toNat : Int) <;>
     simp only [c1, c2, c3, c4, decide_true, decide_false, Bool.not_true, Bool.not_false, Bool.and_true, Bool.and_false, Bool.or_true, Bool.or_false, Bool.true_and, Bool.false_and, Bool.false_eq_true, false_implies, true_implies] at h1 h2 <;>
     simp only [↓sxc, sx, se, ↓reduceIte, Nat.reduceEqDiff, Nat.reduceAdd, Nat.reduceLT, Nat.reduceLeDiff, Nat.reduceSub, Nat.reduceMul, Int.reduceToNat, Int.reduceLT, Int.reduceLE, Int.reduceEq, ml_i0, this, hg, g1, g2, c1, c2, c3, c4, wr, hz, not_true, not_false_iff] <;> first
      | exact h1
      | exact ih' h1 h2
 refine call_p hA.h145 rfl ?_
 by_cases c1 : (s.length : Int) < 1
 ·have e : isNm s = false := by
   have : ¬ 1 ≤ s.length := by omega
   simp [isNm, this]
  simp only [↓sxc, sx, se, ↓reduceIte, Nat.reduceEqDiff, Nat.reduceAdd, Nat.reduceLT, Nat.reduceLeDiff, Nat.reduceSub, Nat.reduceMul, Int.reduceToNat, Int.reduceLT, Int.reduceLE, Int.reduceEq, ml_i0, c1, e]
 ·by_cases c2 : 8 < (s.length : Int)
  ·have e : isNm s = false := by
    have : ¬ s.length ≤ 8 := by omega
    simp [isNm, this]
   simp only [↓sxc, sx, se, ↓reduceIte, Nat.reduceEqDiff, Nat.reduceAdd, Nat.reduceLT, Nat.reduceLeDiff, Nat.reduceSub, Nat.reduceMul, Int.reduceToNat, Int.reduceLT, Int.reduceLE, Int.reduceEq, ml_i0, c1, c2, e]
  ·have e : isNm s = headOk s := by
    have h1 : 1 ≤ s.length := by omega
    have h2 : s.length ≤ 8 := by omega
    cases s with
    | nil => simp at h1
    | cons c t =>
     simp only [isNm, headOk, h1, h2, decide_true, Bool.true_and, List.all_cons]
     cases lowC c <;> rfl
   simp only [↓sxc, sx, se, ↓reduceIte, Nat.reduceEqDiff, Nat.reduceAdd, Nat.reduceLT, Nat.reduceLeDiff, Nat.reduceSub, Nat.reduceMul, Int.reduceToNat, Int.reduceLT, Int.reduceLE, Int.reduceEq, ml_i0, c1, c2]
   refine loop (by omega) s 0 _ rfl (fun h => ?_) (fun h i v => ?_)
   ·rw [if_pos rfl, ← e] at h
    simp only [↓sxc, sx, se, ↓reduceIte, Nat.reduceEqDiff, Nat.reduceAdd, Nat.reduceLT, Nat.reduceLeDiff, Nat.reduceSub, Nat.reduceMul, Int.reduceToNat, Int.reduceLT, Int.reduceLE, Int.reduceEq, ml_i0, h]
   ·rw [if_pos rfl, ← e] at h
    simp only [↓sxc, sx, se, ↓reduceIte, Nat.reduceEqDiff, Nat.reduceAdd, Nat.reduceLT, Nat.reduceLeDiff, Nat.reduceSub, Nat.reduceMul, Int.reduceToNat, Int.reduceLT, Int.reduceLE, Int.reduceEq, ml_i0, h]
def namesOf (s : Sys) : List (List UInt8) := s.pools.map Pool.name ++ s.locks ++ s.cls.map Cls.name
theorem sp146 {F : Nat → Option Fn} (hA : HasA F) {lo : Nat} {m : Mem} (l : List (List UInt8)) (k : Nat) (x : List UInt8) (hx : l[k]? = some x) (hs : l.length < 1000000) : callw F 146 [strs l, vi k] lo m = some (.bool ((l.take k).any fun y => decide (y = x)), m) := by
 have hk : k < l.length := by
  rcases Nat.lt_or_ge k l.length with h | h
  ·exact h
  ·rw [List.getElem?_eq_none h] at hx; cases hx
 have loop : ∀ (t : List (List UInt8)) (i n : Nat) (Q : Ex → St → Prop), (l.take k).drop i = t → (t.any (fun y => decide (y = x)) = true → ∀ n, Q .ret ⟨[(4, .bool true)], [], [], m.bump n⟩) →
   (t.any (fun y => decide (y = x)) = false → ∀ n i v, Q (.exit 0) ⟨[(0, strs l), (1, vi k), (5, vi i), (8, v)], [], [], m.bump n⟩) →
   W F m.next L146_1 ⟨[(0, strs l), (1, vi k), (5, vi i)], [], [], m.bump n⟩ Q := by
  intro t
  induction t with
  | nil =>
   intro i n Q hd h1 h2
   have hlt := drop_nil hd
   rw [List.length_take, Nat.min_eq_left (Nat.le_of_lt hk)] at hlt
   rw [W_L (c := L146_1) rfl]
   have : ¬ ((i : Nat) : Int) < (k : Int) := by omega
   simp only [↓sxc, sx, se, ↓reduceIte, Nat.reduceEqDiff, Nat.reduceAdd, Nat.reduceLT, Nat.reduceLeDiff, Nat.reduceSub, Nat.reduceMul, Int.reduceToNat, Int.reduceLT, Int.reduceLE, Int.reduceEq, ml_i0, this]
   exact h2 rfl n i _
  | cons y t ih =>
   intro i n Q hd h1 h2
   obtain ⟨hg, hd', hlt⟩ := drop_cons hd
   rw [List.length_take, Nat.min_eq_left (Nat.le_of_lt hk)] at hlt
   have hg : l[i]? = some y := by
    rw [List.getElem?_take, if_pos hlt] at hg
    exact hg
   rw [W_L (c := L146_1) rfl]
   have : ((i : Nat) : Int) < (k : Int) := by omega
   have wr : wrapF .i64 ((i : Int) + 1) = ((i + 1 : Nat) : Int) := by rw [wr_i64 (by omega) (by omega)]; rfl
   rw [List.any_cons] at h1 h2
   by_cases hy : y = x
   ·simp only [↓sxc, sx, se, ↓reduceIte, Nat.reduceEqDiff, Nat.reduceAdd, Nat.reduceLT, Nat.reduceLeDiff, Nat.reduceSub, Nat.reduceMul, Int.reduceToNat, Int.reduceLT, Int.reduceLE, Int.reduceEq, ml_i0, this, hg, hx, hy]
    exact h1 (by simp [hy]) _
   ·simp only [↓sxc, sx, se, ↓reduceIte, Nat.reduceEqDiff, Nat.reduceAdd, Nat.reduceLT, Nat.reduceLeDiff, Nat.reduceSub, Nat.reduceMul, Int.reduceToNat, Int.reduceLT, Int.reduceLE, Int.reduceEq, ml_i0, this, hg, hx, hy, wr]
    exact ih (i + 1) _ Q hd' (fun h => h1 (by simp [h])) (fun h => h2 (by simp [hy, h]))
 refine call_p hA.h146 rfl ?_
 simp only [↓sxc, sx, se, ↓reduceIte, Nat.reduceEqDiff, Nat.reduceAdd, Nat.reduceLT, Nat.reduceLeDiff, Nat.reduceSub, Nat.reduceMul, Int.reduceToNat, Int.reduceLT, Int.reduceLE, Int.reduceEq, ml_i0]
 have e : m = m.bump 0 := rfl
 rw [e]
 refine loop (l.take k) 0 0 _ rfl (fun h n => ?_) (fun h n i v => ?_)
 ·simp only [↓sxc, sx, se, ↓reduceIte, Nat.reduceEqDiff, Nat.reduceAdd, Nat.reduceLT, Nat.reduceLeDiff, Nat.reduceSub, Nat.reduceMul, Int.reduceToNat, Int.reduceLT, Int.reduceLE, Int.reduceEq, ml_i0, h]
 ·simp only [↓sxc, sx, se, ↓reduceIte, Nat.reduceEqDiff, Nat.reduceAdd, Nat.reduceLT, Nat.reduceLeDiff, Nat.reduceSub, Nat.reduceMul, Int.reduceToNat, Int.reduceLT, Int.reduceLE, Int.reduceEq, ml_i0, h]
end Go.Am
namespace Go.Am
open Go
set_option linter.unusedSimpArgs false
set_option linter.unusedVariables false
theorem sp111 {F : Nat → Option Fn} (hA : HasA F) {lo : Nat} {m : Mem} (s : Sys) (h1 : s.pools.length < 100) (h2 : s.locks.length < 100) (h3 : s.cls.length < 100) : callw F 111 [vSys s] lo m = some (strs (namesOf s), m) := by
 have loop1 : ∀ (t : List Pool) (i : Nat) (v : V) (xs : List (List UInt8)) (m' : Mem) (Q : Ex → St → Prop), s.pools.drop i = t → xs.length + t.length < 1000 → m.next ≤ m'.next → Rw m.next m' 1 v (xs.map .str) →
   (∀ v m' e, m.next ≤ m'.next → Rw m.next m' 1 v ((xs ++ t.map Pool.name).map .str) → Q (.exit 0) ⟨(3, v) :: e, [(1, vSys s)], [], m'⟩) →
   W F m.next L111_1 ⟨[(3, v), (9, vPools s.pools), (10, vi s.pools.length), (11, vi i)], [(1, vSys s)], [], m'⟩ Q := by
  intro t
  induction t with
  | nil =>
   intro i v xs m' Q hd hl hm hr hq
   have hlt := drop_nil hd
   rw [W_L (c := L111_1) rfl]
   have : ¬ ((i : Nat) : Int) < (s.pools.length : Int) := by omega
   simp only [↓sxc, sx, se, ↓reduceIte, Nat.reduceEqDiff, Nat.reduceAdd, Nat.reduceLT, Nat.reduceLeDiff, Nat.reduceSub, Nat.reduceMul, Int.reduceToNat, Int.reduceLT, Int.reduceLE, Int.reduceEq, ml_i0, this]
   exact hq v m' _ hm (by simpa using hr)
  | cons p t ih =>
   intro i v xs m' Q hd hl hm hr hq
   obtain ⟨hg, hd', hlt⟩ := drop_cons hd
   rw [W_L (c := L111_1) rfl]
   have : ((i : Nat) : Int) < (s.pools.length : Int) := by omega
   obtain ⟨v', m'', hap, hr', hn, _⟩ := Rw.app (y := .lst false 1 [.str p.name]) hr hm vw_lst (.inl rfl) (by simp [big]; simp at hl; omega)
   have wr : wrapF .i64 ((i : Int) + 1) = ((i + 1 : Nat) : Int) := by rw [wr_i64 (by omega) (by omega)]; rfl
   simp only [↓sxc, sx, se, ↓reduceIte, Nat.reduceEqDiff, Nat.reduceAdd, Nat.reduceLT, Nat.reduceLeDiff, Nat.reduceSub, Nat.reduceMul, Int.reduceToNat, Int.reduceLT, Int.reduceLE, Int.reduceEq, ml_i0, this, hg, hap, wr]
   refine ih (i + 1) v' (xs ++ [p.name]) (m''.bump 1) Q hd' (by simp at hl ⊢; omega) ?_ (by simpa using hr') (fun v m' e h1 h2 => hq v m' e h1 (by simpa using h2))
   show m.next ≤ m''.next + 1
   omega
 have loop2 : ∀ (t : List Cls) (i : Nat) (v : V) (xs : List (List UInt8)) (m' : Mem) (Q : Ex → St → Prop), s.cls.drop i = t → xs.length + t.length < 1000 → m.next ≤ m'.next → Rw m.next m' 1 v (xs.map .str) →
   (∀ v m' e, m.next ≤ m'.next → Rw m.next m' 1 v ((xs ++ t.map Cls.name).map .str) → Q (.exit 2) ⟨(3, v) :: e, [], [], m'⟩) →
   W F m.next L111_2 ⟨[(3, v), (26, vClss s.cls), (27, vi s.cls.length), (28, vi i)], [], [], m'⟩ Q := by
  intro t
  induction t with
  | nil =>
   intro i v xs m' Q hd hl hm hr hq
   have hlt := drop_nil hd
   rw [W_L (c := L111_2) rfl]
   have : ¬ ((i : Nat) : Int) < (s.cls.length : Int) := by omega
   simp only [↓sxc, sx, se, ↓reduceIte, Nat.reduceEqDiff, Nat.reduceAdd, Nat.reduceLT, Nat.reduceLeDiff, Nat.reduceSub, Nat.reduceMul, Int.reduceToNat, Int.reduceLT, Int.reduceLE, Int.reduceEq, ml_i0, this]
   exact hq v m' _ hm (by simpa using hr)
  | cons p t ih =>
   intro i v xs m' Q hd hl hm hr hq
   obtain ⟨hg, hd', hlt⟩ := drop_cons hd
   rw [W_L (c := L111_2) rfl]
   have : ((i : Nat) : Int) < (s.cls.length : Int) := by omega
   obtain ⟨v', m'', hap, hr', hn, _⟩ := Rw.app (y := .lst false 1 [.str p.name]) hr hm vw_lst (.inl rfl) (by simp [big]; simp at hl; omega)
   have wr : wrapF .i64 ((i : Int) + 1) = ((i + 1 : Nat) : Int) := by rw [wr_i64 (by omega) (by omega)]; rfl
   simp only [↓sxc, sx, se, ↓reduceIte, Nat.reduceEqDiff, Nat.reduceAdd, Nat.reduceLT, Nat.reduceLeDiff, Nat.reduceSub, Nat.reduceMul, Int.reduceToNat, Int.reduceLT, Int.reduceLE, Int.reduceEq, ml_i0, this, hg, hap, wr]
   refine ih (i + 1) v' (xs ++ [p.name]) (m''.bump 1) Q hd' (by simp at hl ⊢; omega) ?_ (by simpa using hr') (fun v m' e h1 h2 => hq v m' e h1 (by simpa using h2))
   show m.next ≤ m''.next + 1
   omega
 refine call_p hA.h111 rfl ?_
 simp only [↓sxc, sx, se, ↓reduceIte, Nat.reduceEqDiff, Nat.reduceAdd, Nat.reduceLT, Nat.reduceLeDiff, Nat.reduceSub, Nat.reduceMul, Int.reduceToNat, Int.reduceLT, Int.reduceLE, Int.reduceEq, ml_i0]
 refine loop1 s.pools 0 .nil [] m _ rfl (by simp; omega) (Nat.le_refl _) .nil (fun v m' e hm hr => ?_)
 rw [List.nil_append] at hr
 obtain ⟨v', m'', hap, hr', hn, _⟩ := Rw.app (y := strs s.locks) hr hm vw_strs app_strs (by simp [big]; omega)
 simp only [↓sxc, sx, se, ↓reduceIte, Nat.reduceEqDiff, Nat.reduceAdd, Nat.reduceLT, Nat.reduceLeDiff, Nat.reduceSub, Nat.reduceMul, Int.reduceToNat, Int.reduceLT, Int.reduceLE, Int.reduceEq, ml_i0, hap]
 refine loop2 s.cls 0 v' (s.pools.map Pool.name ++ s.locks) (m''.bump 1) _ rfl (by simp; omega) (by show m.next ≤ m''.next + 1; omega) (by simpa using hr') (fun v m' e hm hr => ?_)
 simp only [↓sxc, sx, se, ↓reduceIte, Nat.reduceEqDiff, Nat.reduceAdd, Nat.reduceLT, Nat.reduceLeDiff, Nat.reduceSub, Nat.reduceMul, Int.reduceToNat, Int.reduceLT, Int.reduceLE, Int.reduceEq, ml_i0]
 rw [hr.freeze, mapO_id (fun x hx => by
  obtain ⟨y, _, rfl⟩ := List.mem_map.1 hx
  rfl)]
 rfl
theorem sp144 {F : Nat → Option Fn} (hA : HasA F) {lo : Nat} {m : Mem} (s : Sys) (h1 : s.pools.length < 100) (h2 : s.locks.length < 100) (h3 : s.cls.length < 100) : callw F 144 [vSys s] lo m = some (strs (namesOf s), m) := by
 have loop1 : ∀ (t : List Pool) (i : Nat) (v : V) (xs : List (List UInt8)) (m' : Mem) (Q : Ex → St → Prop), s.pools.drop i = t → xs.length + t.length < 1000 → m.next ≤ m'.next → Rw m.next m' 1 v (xs.map .str) →
   (∀ v m' e, m.next ≤ m'.next → Rw m.next m' 1 v ((xs ++ t.map Pool.name).map .str) → Q (.exit 0) ⟨(3, v) :: e, [(1, vSys s)], [], m'⟩) →
   W F m.next L144_1 ⟨[(3, v), (4, vi i)], [(1, vSys s)], [], m'⟩ Q := by
  intro t
  induction t with
  | nil =>
   intro i v xs m' Q hd hl hm hr hq
   have hlt := drop_nil hd
   rw [W_L (c := L144_1) rfl]
   have : ¬ ((i : Nat) : Int) < (s.pools.length : Int) := by omega
   simp only [↓sxc, sx, se, ↓reduceIte, Nat.reduceEqDiff, Nat.reduceAdd, Nat.reduceLT, Nat.reduceLeDiff, Nat.reduceSub, Nat.reduceMul, Int.reduceToNat, Int.reduceLT, Int.reduceLE, Int.reduceEq, ml_i0, this]
   exact hq v m' _ hm (by simpa using hr)
  | cons p t ih =>
   intro i v xs m' Q hd hl hm hr hq
   obtain ⟨hg, hd', hlt⟩ := drop_cons hd
   rw [W_L (c := L144_1) rfl]
   have : ((i : Nat) : Int) < (s.pools.length : Int) := by omega
   obtain ⟨v', m'', hap, hr', hn, _⟩ := Rw.app (y := .lst false 1 [.str p.name]) hr hm vw_lst (.inl rfl) (by simp [big]; simp at hl; omega)
   have wr : wrapF .i64 ((i : Int) + 1) = ((i + 1 : Nat) : Int) := by rw [wr_i64 (by omega) (by omega)]; rfl
   simp only [↓sxc, sx, se, ↓reduceIte, Nat.reduceEqDiff, Nat.reduceAdd, Nat.reduceLT, Nat.reduceLeDiff, Nat.reduceSub, Nat.reduceMul, Int.reduceToNat, Int.reduceLT, Int.reduceLE, Int.reduceEq, ml_i0, this, hg, hap, wr]
   refine ih (i + 1) v' (xs ++ [p.name]) (m''.bump 1) Q hd' (by simp at hl ⊢; omega) ?_ (by simpa using hr') (fun v m' e h1 h2 => hq v m' e h1 (by simpa using h2))
   show m.next ≤ m''.next + 1
   omega
 have loop2 : ∀ (t : List Cls) (i : Nat) (v : V) (xs : List (List UInt8)) (m' : Mem) (Q : Ex → St → Prop), s.cls.drop i = t → xs.length + t.length < 1000 → m.next ≤ m'.next → Rw m.next m' 1 v (xs.map .str) →
   (∀ v m' e, m.next ≤ m'.next → Rw m.next m' 1 v ((xs ++ t.map Cls.name).map .str) → Q (.exit 2) ⟨(3, v) :: e, [(1, vSys s)], [], m'⟩) →
   W F m.next L144_2 ⟨[(3, v), (5, vi i)], [(1, vSys s)], [], m'⟩ Q := by
  intro t
  induction t with
  | nil =>
   intro i v xs m' Q hd hl hm hr hq
   have hlt := drop_nil hd
   rw [W_L (c := L144_2) rfl]
   have : ¬ ((i : Nat) : Int) < (s.cls.length : Int) := by omega
   simp only [↓sxc, sx, se, ↓reduceIte, Nat.reduceEqDiff, Nat.reduceAdd, Nat.reduceLT, Nat.reduceLeDiff, Nat.reduceSub, Nat.reduceMul, Int.reduceToNat, Int.reduceLT, Int.reduceLE, Int.reduceEq, ml_i0, this]
   exact hq v m' _ hm (by simpa using hr)
  | cons p t ih =>
   intro i v xs m' Q hd hl hm hr hq
   obtain ⟨hg, hd', hlt⟩ := drop_cons hd
   rw [W_L (c := L144_2) rfl]
   have : ((i : Nat) : Int) < (s.cls.length : Int) := by omega
   obtain ⟨v', m'', hap, hr', hn, _⟩ := Rw.app (y := .lst false 1 [.str p.name]) hr hm vw_lst (.inl rfl) (by simp [big]; simp at hl; omega)
   have wr : wrapF .i64 ((i : Int) + 1) = ((i + 1 : Nat) : Int) := by rw [wr_i64 (by omega) (by omega)]; rfl
   simp only [↓sxc, sx, se, ↓reduceIte, Nat.reduceEqDiff, Nat.reduceAdd, Nat.reduceLT, Nat.reduceLeDiff, Nat.reduceSub, Nat.reduceMul, Int.reduceToNat, Int.reduceLT, Int.reduceLE, Int.reduceEq, ml_i0, this, hg, hap, wr]
   refine ih (i + 1) v' (xs ++ [p.name]) (m''.bump 1) Q hd' (by simp at hl ⊢; omega) ?_ (by simpa using hr') (fun v m' e h1 h2 => hq v m' e h1 (by simpa using h2))
   show m.next ≤ m''.next + 1
   omega
 refine call_p hA.h144 rfl ?_
 simp only [↓sxc, sx, se, ↓reduceIte, Nat.reduceEqDiff, Nat.reduceAdd, Nat.reduceLT, Nat.reduceLeDiff, Nat.reduceSub, Nat.reduceMul, Int.reduceToNat, Int.reduceLT, Int.reduceLE, Int.reduceEq, ml_i0]
 refine loop1 s.pools 0 .nil [] m _ rfl (by simp; omega) (Nat.le_refl _) .nil (fun v m' e hm hr => ?_)
 rw [List.nil_append] at hr
 obtain ⟨v', m'', hap, hr', hn, _⟩ := Rw.app (y := strs s.locks) hr hm vw_strs app_strs (by simp [big]; omega)
 simp only [↓sxc, sx, se, ↓reduceIte, Nat.reduceEqDiff, Nat.reduceAdd, Nat.reduceLT, Nat.reduceLeDiff, Nat.reduceSub, Nat.reduceMul, Int.reduceToNat, Int.reduceLT, Int.reduceLE, Int.reduceEq, ml_i0, hap]
 refine loop2 s.cls 0 v' (s.pools.map Pool.name ++ s.locks) (m''.bump 1) _ rfl (by simp; omega) (by show m.next ≤ m''.next + 1; omega) (by simpa using hr') (fun v m' e hm hr => ?_)
 simp only [↓sxc, sx, se, ↓reduceIte, Nat.reduceEqDiff, Nat.reduceAdd, Nat.reduceLT, Nat.reduceLeDiff, Nat.reduceSub, Nat.reduceMul, Int.reduceToNat, Int.reduceLT, Int.reduceLE, Int.reduceEq, ml_i0]
 rw [hr.freeze, mapO_id (fun x hx => by
  obtain ⟨y, _, rfl⟩ := List.mem_map.1 hx
  rfl)]
 rfl
def delta (on kind : Int) (s : Stp) : Int :=
 if s.on = on then
  if s.kind = 1 then (if kind = 0 then s.cnt else 0) else if s.kind = 2 then (if kind = 0 then -s.cnt else 0)
  else if s.kind = 3 then (if kind = 1 then 1 else 0) else if s.kind = 4 then (if kind = 1 then -1 else 0) else 0
 else 0
def bal (on kind : Int) : List Stp → Int
 | [] => 0
 | s :: t => delta on kind s + bal on kind t
theorem bal_append {on kind : Int} : ∀ {a b : List Stp}, bal on kind (a ++ b) = bal on kind a + bal on kind b
 | [], b => by simp [bal]
 | s :: a, b => by simp only [List.cons_append, bal, bal_append (a := a)]; omega
theorem sp164 {F : Nat → Option Fn} (hA : HasA F) {lo : Nat} {m : Mem} (l : List Stp) (n : Nat) (on kind : Int) (hn : n ≤ l.length) (hn2 : n < 1000) (hb : ∀ x ∈ l.take n, -1000 ≤ x.cnt ∧ x.cnt ≤ 1000) : callw F 164 [vStps l, vi n, vi on, vi kind] lo m = some (vi (bal on kind (l.take n)), m) := by
 have loop : ∀ (t : List Stp) (i : Nat) (acc : Int) (Q : Ex → St → Prop), (l.take n).drop i = t → -1000 * i ≤ acc → acc ≤ 1000 * i →
   (∀ i v, Q (.exit 0) ⟨[(0, vStps l), (1, vi n), (2, vi on), (3, vi kind), (9, vi (acc + bal on kind t)), (10, vi i), (13, v)], [], [], m⟩) →
   W F m.next L164_1 ⟨[(0, vStps l), (1, vi n), (2, vi on), (3, vi kind), (9, vi acc), (10, vi i)], [], [], m⟩ Q := by
  intro t
  induction t with
  | nil =>
   intro i acc Q hd h1 h2 hq
   have hlt := drop_nil hd
   rw [List.length_take, Nat.min_eq_left hn] at hlt
   rw [W_L (c := L164_1) rfl]
   have : ¬ ((i : Nat) : Int) < (n : Int) := by omega
   simp only [↓sxc, sx, se, ↓reduceIte, Nat.reduceEqDiff, Nat.reduceAdd, Nat.reduceLT, Nat.reduceLeDiff, Nat.reduceSub, Nat.reduceMul, Int.reduceToNat, Int.reduceLT, Int.reduceLE, Int.reduceEq, ml_i0, this]
   have := hq i (.bool false)
   rw [bal, Int.add_zero] at this
   exact this
  | cons x t ih =>
   intro i acc Q hd h1 h2 hq
   obtain ⟨hg0, hd', hlt⟩ := drop_cons hd
   rw [List.length_take, Nat.min_eq_left hn] at hlt
   have hg : l[i]? = some x := by
    rw [List.getElem?_take, if_pos hlt] at hg0
    exact hg0
   have hx := hb x (List.mem_of_getElem? hg0)
   rw [W_L (c := L164_1) rfl]
   have : ((i : Nat) : Int) < (n : Int) := by omega
   have wr : wrapF .i64 ((i : Int) + 1) = ((i + 1 : Nat) : Int) := by rw [wr_i64 (by omega) (by omega)]; rfl
   have wa : wrapF .i64 (acc + x.cnt) = acc + x.cnt := wr_i64 (by omega) (by omega)
   have ws : wrapF .i64 (acc - x.cnt) = acc - x.cnt := wr_i64 (by omega) (by omega)
   have wi : wrapF .i64 (acc + 1) = acc + 1 := wr_i64 (by omega) (by omega)
   have wd : wrapF .i64 (acc - 1) = acc - 1 := wr_i64 (by omega) (by omega)
   have go : ∀ d, delta on kind x = d → -1000 ≤ d → d ≤ 1000 → W F m.next L164_1 ⟨[(0, vStps l), (1, vi n), (2, vi on), (3, vi kind), (9, vi (acc + d)), (10, vi (i + 1 : Nat))], [], [], m⟩ Q := by
    intro d hd2 h3 h4
    refine ih (i + 1) (acc + d) Q hd' (by push_cast; omega) (by push_cast; omega) (fun i v => ?_)
    have := hq i v
    rw [bal, hd2, ← Int.add_assoc] at this
    exact this
   by_cases ho : x.on = on
   ·by_cases k1 : x.kind = 1
    ·by_cases z0 : kind = 0
     ·simp only [↓sxc, sx, se, ↓reduceIte, Nat.reduceEqDiff, Nat.reduceAdd, Nat.reduceLT, Nat.reduceLeDiff, Nat.reduceSub, Nat.reduceMul, Int.reduceToNat, Int.reduceLT, Int.reduceLE, Int.reduceEq, ml_i0, this, hg, wr, wa, ho, k1, z0]
      have := go x.cnt (by simp [delta, ho, k1, z0]) (by omega) (by omega)
      rw [z0] at this
      exact this
     ·simp only [↓sxc, sx, se, ↓reduceIte, Nat.reduceEqDiff, Nat.reduceAdd, Nat.reduceLT, Nat.reduceLeDiff, Nat.reduceSub, Nat.reduceMul, Int.reduceToNat, Int.reduceLT, Int.reduceLE, Int.reduceEq, ml_i0, this, hg, wr, wa, ho, k1, z0]
      have := go 0 (by simp [delta, ho, k1, z0]) (by omega) (by omega)
      rw [Int.add_zero] at this
      exact this
    ·by_cases k2 : x.kind = 2
     ·by_cases z0 : kind = 0
      ·simp only [↓sxc, sx, se, ↓reduceIte, Nat.reduceEqDiff, Nat.reduceAdd, Nat.reduceLT, Nat.reduceLeDiff, Nat.reduceSub, Nat.reduceMul, Int.reduceToNat, Int.reduceLT, Int.reduceLE, Int.reduceEq, ml_i0, this, hg, wr, ws, ho, k1, k2, z0]
       have := go (-x.cnt) (by simp [delta, ho, k2, z0]) (by omega) (by omega)
       rw [z0] at this
       exact this
      ·simp only [↓sxc, sx, se, ↓reduceIte, Nat.reduceEqDiff, Nat.reduceAdd, Nat.reduceLT, Nat.reduceLeDiff, Nat.reduceSub, Nat.reduceMul, Int.reduceToNat, Int.reduceLT, Int.reduceLE, Int.reduceEq, ml_i0, this, hg, wr, ws, ho, k1, k2, z0]
       have := go 0 (by simp [delta, ho, k2, z0]) (by omega) (by omega)
       rw [Int.add_zero] at this
       exact this
     ·by_cases k3 : x.kind = 3
      ·by_cases z0 : kind = 1
       ·simp only [↓sxc, sx, se, ↓reduceIte, Nat.reduceEqDiff, Nat.reduceAdd, Nat.reduceLT, Nat.reduceLeDiff, Nat.reduceSub, Nat.reduceMul, Int.reduceToNat, Int.reduceLT, Int.reduceLE, Int.reduceEq, ml_i0, this, hg, wr, wi, ho, k1, k2, k3, z0]
        have := go 1 (by simp [delta, ho, k3, z0]) (by omega) (by omega)
        rw [z0] at this
        exact this
       ·simp only [↓sxc, sx, se, ↓reduceIte, Nat.reduceEqDiff, Nat.reduceAdd, Nat.reduceLT, Nat.reduceLeDiff, Nat.reduceSub, Nat.reduceMul, Int.reduceToNat, Int.reduceLT, Int.reduceLE, Int.reduceEq, ml_i0, this, hg, wr, wi, ho, k1, k2, k3, z0]
        have := go 0 (by simp [delta, ho, k3, z0]) (by omega) (by omega)
        rw [Int.add_zero] at this
        exact this
      ·by_cases k4 : x.kind = 4
       ·by_cases z0 : kind = 1
        ·simp only [↓sxc, sx, se, ↓reduceIte, Nat.reduceEqDiff, Nat.reduceAdd, Nat.reduceLT, Nat.reduceLeDiff, Nat.reduceSub, Nat.reduceMul, Int.reduceToNat, Int.reduceLT, Int.reduceLE, Int.reduceEq, ml_i0, this, hg, wr, wd, ho, k1, k2, k3, k4, z0]
         have := go (-1) (by simp [delta, ho, k4, z0]) (by omega) (by omega)
         rw [z0] at this
         exact this
        ·simp only [↓sxc, sx, se, ↓reduceIte, Nat.reduceEqDiff, Nat.reduceAdd, Nat.reduceLT, Nat.reduceLeDiff, Nat.reduceSub, Nat.reduceMul, Int.reduceToNat, Int.reduceLT, Int.reduceLE, Int.reduceEq, ml_i0, this, hg, wr, wd, ho, k1, k2, k3, k4, z0]
         have := go 0 (by simp [delta, ho, k4, z0]) (by omega) (by omega)
         rw [Int.add_zero] at this
         exact this
       ·simp only [↓sxc, sx, se, ↓reduceIte, Nat.reduceEqDiff, Nat.reduceAdd, Nat.reduceLT, Nat.reduceLeDiff, Nat.reduceSub, Nat.reduceMul, Int.reduceToNat, Int.reduceLT, Int.reduceLE, Int.reduceEq, ml_i0, this, hg, wr, ho, k1, k2, k3, k4]
        have := go 0 (by simp [delta, ho, k1, k2, k3, k4]) (by omega) (by omega)
        rw [Int.add_zero] at this
        exact this
   ·simp only [↓sxc, sx, se, ↓reduceIte, Nat.reduceEqDiff, Nat.reduceAdd, Nat.reduceLT, Nat.reduceLeDiff, Nat.reduceSub, Nat.reduceMul, Int.reduceToNat, Int.reduceLT, Int.reduceLE, Int.reduceEq, ml_i0, this, hg, wr, ho]
    have := go 0 (by simp [delta, ho]) (by omega) (by omega)
    rw [Int.add_zero] at this
    exact this
 refine call_p hA.h164 rfl ?_
 simp only [↓sxc, sx, se, ↓reduceIte, Nat.reduceEqDiff, Nat.reduceAdd, Nat.reduceLT, Nat.reduceLeDiff, Nat.reduceSub, Nat.reduceMul, Int.reduceToNat, Int.reduceLT, Int.reduceLE, Int.reduceEq, ml_i0]
 refine loop (l.take n) 0 0 _ rfl (by simp) (by simp) (fun i v => ?_)
 simp only [↓sxc, sx, se, ↓reduceIte, Nat.reduceEqDiff, Nat.reduceAdd, Nat.reduceLT, Nat.reduceLeDiff, Nat.reduceSub, Nat.reduceMul, Int.reduceToNat, Int.reduceLT, Int.reduceLE, Int.reduceEq, ml_i0, Int.zero_add]
end Go.Am
namespace Go.Am
open Go
set_option linter.unusedSimpArgs false
set_option linter.unusedVariables false
set_option maxRecDepth 100000
def nOf (s : Sys) (x : Stp) : Int := if x.kind = 3 ∨ x.kind = 4 then (s.locks.length : Int) else if x.kind = 5 then (s.cls.length : Int) else (s.pools.length : Int)
def sizeAt (s : Sys) (on : Int) : Int := match s.pools[on.toNat]? with
 | some p => p.size
 | none => 0
def resAt (s : Sys) (on : Int) : Int := match s.pools[on.toNat]? with
 | some p => p.res
 | none => 0
def srvAt (s : Sys) (on : Int) : Bool := match s.cls[on.toNat]? with
 | some c => c.srv
 | none => false
def preE (s : Sys) (x : Stp) : Int :=
 if x.kind < 1 ∨ 5 < x.kind ∨ (¬ (x.kind = 1 ∨ x.kind = 2) ∧ x.cnt ≠ 0) ∨ (x.kind ≠ 1 ∧ x.deep = true) then 1
 else if x.on < 0 ∨ nOf s x ≤ x.on then 6
 else if (x.kind = 1 ∨ x.kind = 2) ∧ (x.cnt < 1 ∨ sizeAt s x.on < x.cnt) then 2 else 0
def badE (s : Sys) (x : Stp) (b0 b1 : Int) : Bool :=
 if x.kind = 1 then decide (sizeAt s x.on < b0 + x.cnt) else if x.kind = 2 then decide (b0 < x.cnt) else if x.kind = 3 then decide (0 < b1) else if x.kind = 4 then decide (b1 = 0) else !srvAt s x.on
def stepE (s : Sys) (x : Stp) (b0 b1 : Int) : Int := if preE s x ≠ 0 then preE s x else if badE s x b0 b1 then 11 else 0
theorem delta_bd {on kind : Int} {x : Stp} (h : -1000 ≤ x.cnt ∧ x.cnt ≤ 1000) : -1000 ≤ delta on kind x ∧ delta on kind x ≤ 1000 := by
 unfold delta
 repeat' split
 all_goals omega
theorem bal_bd {on kind : Int} : ∀ {l : List Stp}, (∀ x ∈ l, -1000 ≤ x.cnt ∧ x.cnt ≤ 1000) → -1000 * l.length ≤ bal on kind l ∧ bal on kind l ≤ 1000 * l.length
 | [], _ => by simp [bal]
 | x :: l, h => by
  have h1 := delta_bd (on := on) (kind := kind) (h x (by simp))
  have h2 := bal_bd (on := on) (kind := kind) (l := l) (fun y hy => h y (by simp [hy]))
  simp only [bal, List.length_cons]
  push_cast
  omega
set_option maxHeartbeats 4000000 in
theorem sp163 {F : Nat → Option Fn} (hA : HasA F) {lo : Nat} {m : Mem} (s : Sys) (l : List Stp) (i : Nat) (x : Stp) (hx : l[i]? = some x) (hi : i < 1000) (hb : ∀ x ∈ l.take i, -1000 ≤ x.cnt ∧ x.cnt ≤ 1000) (hp : ∀ p ∈ s.pools, p.size ≤ 1000) :
  callw F 163 [vSys s, vStps l, vi i] lo m = some (vi (stepE s x (bal x.on 0 (l.take i)) (bal x.on 1 (l.take i))), m) := by
 have hil : i ≤ l.length := by
  rcases Nat.lt_or_ge i l.length with h | h
  ·omega
  ·rw [List.getElem?_eq_none h] at hx; cases hx
 have c0 : ∀ {lo m}, callw F 164 [vStps l, vi i, vi x.on, vi 0] lo m = some (vi (bal x.on 0 (l.take i)), m) := fun {lo m} => sp164 hA l i x.on 0 hil hi hb
 have c1 : ∀ {lo m}, callw F 164 [vStps l, vi i, vi x.on, vi 1] lo m = some (vi (bal x.on 1 (l.take i)), m) := fun {lo m} => sp164 hA l i x.on 1 hil hi hb
 have b0 := bal_bd (on := x.on) (kind := 0) hb
 rw [List.length_take, Nat.min_eq_left hil] at b0
 generalize bal x.on 0 (l.take i) = B0 at *
 generalize bal x.on 1 (l.take i) = B1 at *
 refine call_p hA.h163 rfl ?_
 generalize hr : stepE s x B0 B1 = r
 unfold stepE at hr
 by_cases e1 : x.kind < 1
 ·have : preE s x = 1 := by simp [preE, e1]
  rw [this] at hr
  simp at hr
  subst hr
  by_cases k1 : x.kind = 1
  ·omega
  ·by_cases k2 : x.kind = 2
   ·omega
   ·simp only [↓sxc, sx, se, ↓reduceIte, Nat.reduceEqDiff, Nat.reduceAdd, Nat.reduceLT, Nat.reduceLeDiff, Nat.reduceSub, Nat.reduceMul, Int.reduceToNat, Int.reduceLT, Int.reduceLE, Int.reduceEq, ml_i0, hx, e1, k1, k2]
 ·by_cases e5 : 5 < x.kind
  ·have : preE s x = 1 := by simp [preE, e5]
   rw [this] at hr
   simp at hr
   subst hr
   by_cases k1 : x.kind = 1
   ·omega
   ·by_cases k2 : x.kind = 2
    ·omega
    ·simp only [↓sxc, sx, se, ↓reduceIte, Nat.reduceEqDiff, Nat.reduceAdd, Nat.reduceLT, Nat.reduceLeDiff, Nat.reduceSub, Nat.reduceMul, Int.reduceToNat, Int.reduceLT, Int.reduceLE, Int.reduceEq, ml_i0, hx, e1, e5, k1, k2]
  ·by_cases hk : x.kind = 1
   ·have hpre : preE s x = if x.on < 0 ∨ (s.pools.length : Int) ≤ x.on then 6 else if x.cnt < 1 ∨ sizeAt s x.on < x.cnt then 2 else 0 := by simp [preE, nOf, hk]
    by_cases o1 : x.on < 0
    ·have hv : preE s x = 6 := by simp [hpre, o1]
     rw [hv] at hr
     simp at hr
     subst hr
     cases hd : x.deep <;> simp only [↓sxc, sx, se, ↓reduceIte, Nat.reduceEqDiff, Nat.reduceAdd, Nat.reduceLT, Nat.reduceLeDiff, Nat.reduceSub, Nat.reduceMul, Int.reduceToNat, Int.reduceLT, Int.reduceLE, Int.reduceEq, ml_i0, hx, hk, hd, o1]
    ·by_cases o2 : (s.pools.length : Int) ≤ x.on
     ·have hv : preE s x = 6 := by simp [hpre, o1, o2]
      rw [hv] at hr
      simp at hr
      subst hr
      cases hd : x.deep <;> simp only [↓sxc, sx, se, ↓reduceIte, Nat.reduceEqDiff, Nat.reduceAdd, Nat.reduceLT, Nat.reduceLeDiff, Nat.reduceSub, Nat.reduceMul, Int.reduceToNat, Int.reduceLT, Int.reduceLE, Int.reduceEq, ml_i0, hx, hk, hd, o1, o2]
     ·have h0 : 0 ≤ x.on := by omega
      have hp' : s.pools[x.on.toNat]? = some (s.pools[x.on.toNat]'(by omega)) := List.getElem?_eq_getElem _
      rw [if_neg (by omega)] at hpre
      have hq := hp _ (List.mem_of_getElem? hp')
      generalize s.pools[x.on.toNat]'(by omega) = p at *
      have hs : sizeAt s x.on = p.size := by simp [sizeAt, hp']
      rw [hs] at hpre
      by_cases q1 : x.cnt < 1
      ·have hv : preE s x = 2 := by simp [hpre, q1]
       rw [hv] at hr
       simp at hr
       subst hr
       cases hd : x.deep <;> simp only [↓sxc, sx, se, ↓reduceIte, Nat.reduceEqDiff, Nat.reduceAdd, Nat.reduceLT, Nat.reduceLeDiff, Nat.reduceSub, Nat.reduceMul, Int.reduceToNat, Int.reduceLT, Int.reduceLE, Int.reduceEq, ml_i0, hx, hk, hd, o1, o2, q1, h0, hp']
      ·by_cases q2 : p.size < x.cnt
       ·have hv : preE s x = 2 := by simp [hpre, q1, q2]
        rw [hv] at hr
        simp at hr
        subst hr
        cases hd : x.deep <;> simp only [↓sxc, sx, se, ↓reduceIte, Nat.reduceEqDiff, Nat.reduceAdd, Nat.reduceLT, Nat.reduceLeDiff, Nat.reduceSub, Nat.reduceMul, Int.reduceToNat, Int.reduceLT, Int.reduceLE, Int.reduceEq, ml_i0, hx, hk, hd, o1, o2, q1, q2, h0, hp']
       ·have hv : preE s x = 0 := by simp [hpre, q1, q2]
        have w1 : wrapF .i64 (B0 + x.cnt) = B0 + x.cnt := wr_i64 (by omega) (by omega)
        by_cases f : p.size < B0 + x.cnt
        ·simp [hv, badE, hk, hs, f] at hr
         subst hr
         cases hd : x.deep <;> simp only [↓sxc, sx, se, ↓reduceIte, Nat.reduceEqDiff, Nat.reduceAdd, Nat.reduceLT, Nat.reduceLeDiff, Nat.reduceSub, Nat.reduceMul, Int.reduceToNat, Int.reduceLT, Int.reduceLE, Int.reduceEq, ml_i0, hx, hk, hd, o1, o2, q1, q2, h0, hp', c0, w1, f]
        ·simp [hv, badE, hk, hs, f] at hr
         subst hr
         cases hd : x.deep <;> simp only [↓sxc, sx, se, ↓reduceIte, Nat.reduceEqDiff, Nat.reduceAdd, Nat.reduceLT, Nat.reduceLeDiff, Nat.reduceSub, Nat.reduceMul, Int.reduceToNat, Int.reduceLT, Int.reduceLE, Int.reduceEq, ml_i0, hx, hk, hd, o1, o2, q1, q2, h0, hp', c0, w1, f]
   ·by_cases hk : x.kind = 2
    ·cases hdd : x.deep with
     | true =>
      have : preE s x = 1 := by simp [preE, hk, hdd]
      rw [this] at hr
      simp at hr
      subst hr
      simp only [↓sxc, sx, se, ↓reduceIte, Nat.reduceEqDiff, Nat.reduceAdd, Nat.reduceLT, Nat.reduceLeDiff, Nat.reduceSub, Nat.reduceMul, Int.reduceToNat, Int.reduceLT, Int.reduceLE, Int.reduceEq, ml_i0, hx, hk, hdd]
     | false =>
      have hpre : preE s x = if x.on < 0 ∨ (s.pools.length : Int) ≤ x.on then 6 else if x.cnt < 1 ∨ sizeAt s x.on < x.cnt then 2 else 0 := by simp [preE, nOf, hk, hdd]
      by_cases o1 : x.on < 0
      ·have hv : preE s x = 6 := by simp [hpre, o1]
       rw [hv] at hr
       simp at hr
       subst hr
       simp only [↓sxc, sx, se, ↓reduceIte, Nat.reduceEqDiff, Nat.reduceAdd, Nat.reduceLT, Nat.reduceLeDiff, Nat.reduceSub, Nat.reduceMul, Int.reduceToNat, Int.reduceLT, Int.reduceLE, Int.reduceEq, ml_i0, hx, hk, hdd, o1]
      ·by_cases o2 : (s.pools.length : Int) ≤ x.on
       ·have hv : preE s x = 6 := by simp [hpre, o1, o2]
        rw [hv] at hr
        simp at hr
        subst hr
        simp only [↓sxc, sx, se, ↓reduceIte, Nat.reduceEqDiff, Nat.reduceAdd, Nat.reduceLT, Nat.reduceLeDiff, Nat.reduceSub, Nat.reduceMul, Int.reduceToNat, Int.reduceLT, Int.reduceLE, Int.reduceEq, ml_i0, hx, hk, hdd, o1, o2]
       ·have h0 : 0 ≤ x.on := by omega
        have hp' : s.pools[x.on.toNat]? = some (s.pools[x.on.toNat]'(by omega)) := List.getElem?_eq_getElem _
        rw [if_neg (by omega)] at hpre
        have hq := hp _ (List.mem_of_getElem? hp')
        generalize s.pools[x.on.toNat]'(by omega) = p at *
        have hs : sizeAt s x.on = p.size := by simp [sizeAt, hp']
        rw [hs] at hpre
        by_cases q1 : x.cnt < 1
        ·have hv : preE s x = 2 := by simp [hpre, q1]
         rw [hv] at hr
         simp at hr
         subst hr
         simp only [↓sxc, sx, se, ↓reduceIte, Nat.reduceEqDiff, Nat.reduceAdd, Nat.reduceLT, Nat.reduceLeDiff, Nat.reduceSub, Nat.reduceMul, Int.reduceToNat, Int.reduceLT, Int.reduceLE, Int.reduceEq, ml_i0, hx, hk, hdd, o1, o2, q1, h0, hp']
        ·by_cases q2 : p.size < x.cnt
         ·have hv : preE s x = 2 := by simp [hpre, q1, q2]
          rw [hv] at hr
          simp at hr
          subst hr
          simp only [↓sxc, sx, se, ↓reduceIte, Nat.reduceEqDiff, Nat.reduceAdd, Nat.reduceLT, Nat.reduceLeDiff, Nat.reduceSub, Nat.reduceMul, Int.reduceToNat, Int.reduceLT, Int.reduceLE, Int.reduceEq, ml_i0, hx, hk, hdd, o1, o2, q1, q2, h0, hp']
         ·have hv : preE s x = 0 := by simp [hpre, q1, q2]
          by_cases f : B0 < x.cnt
          ·simp [hv, badE, hk, f] at hr
           subst hr
           simp only [↓sxc, sx, se, ↓reduceIte, Nat.reduceEqDiff, Nat.reduceAdd, Nat.reduceLT, Nat.reduceLeDiff, Nat.reduceSub, Nat.reduceMul, Int.reduceToNat, Int.reduceLT, Int.reduceLE, Int.reduceEq, ml_i0, hx, hk, hdd, o1, o2, q1, q2, h0, hp', c0, f]
          ·simp [hv, badE, hk, f] at hr
           subst hr
           simp only [↓sxc, sx, se, ↓reduceIte, Nat.reduceEqDiff, Nat.reduceAdd, Nat.reduceLT, Nat.reduceLeDiff, Nat.reduceSub, Nat.reduceMul, Int.reduceToNat, Int.reduceLT, Int.reduceLE, Int.reduceEq, ml_i0, hx, hk, hdd, o1, o2, q1, q2, h0, hp', c0, f]
    ·by_cases hk : x.kind = 3
     ·by_cases hz : x.cnt = 0
      ·cases hdd : x.deep with
       | true =>
        have : preE s x = 1 := by simp [preE, hk, hdd]
        rw [this] at hr
        simp at hr
        subst hr
        simp only [↓sxc, sx, se, ↓reduceIte, Nat.reduceEqDiff, Nat.reduceAdd, Nat.reduceLT, Nat.reduceLeDiff, Nat.reduceSub, Nat.reduceMul, Int.reduceToNat, Int.reduceLT, Int.reduceLE, Int.reduceEq, ml_i0, hx, hk, hz, hdd]
       | false =>
        have hpre : preE s x = if x.on < 0 ∨ (s.locks.length : Int) ≤ x.on then 6 else 0 := by simp [preE, nOf, hk, hz, hdd]
        by_cases o1 : x.on < 0
        ·have hv : preE s x = 6 := by simp [hpre, o1]
         rw [hv] at hr
         simp at hr
         subst hr
         simp only [↓sxc, sx, se, ↓reduceIte, Nat.reduceEqDiff, Nat.reduceAdd, Nat.reduceLT, Nat.reduceLeDiff, Nat.reduceSub, Nat.reduceMul, Int.reduceToNat, Int.reduceLT, Int.reduceLE, Int.reduceEq, ml_i0, hx, hk, hz, hdd, o1]
        ·by_cases o2 : (s.locks.length : Int) ≤ x.on
         ·have hv : preE s x = 6 := by simp [hpre, o1, o2]
          rw [hv] at hr
          simp at hr
          subst hr
          simp only [↓sxc, sx, se, ↓reduceIte, Nat.reduceEqDiff, Nat.reduceAdd, Nat.reduceLT, Nat.reduceLeDiff, Nat.reduceSub, Nat.reduceMul, Int.reduceToNat, Int.reduceLT, Int.reduceLE, Int.reduceEq, ml_i0, hx, hk, hz, hdd, o1, o2]
         ·have h0 : 0 ≤ x.on := by omega
          have hp' : s.locks[x.on.toNat]? = some (s.locks[x.on.toNat]'(by omega)) := List.getElem?_eq_getElem _
          rw [if_neg (by omega)] at hpre
          have hv : preE s x = 0 := hpre
          by_cases f : 0 < B1
          ·simp [hv, badE, hk, f] at hr
           subst hr
           simp only [↓sxc, sx, se, ↓reduceIte, Nat.reduceEqDiff, Nat.reduceAdd, Nat.reduceLT, Nat.reduceLeDiff, Nat.reduceSub, Nat.reduceMul, Int.reduceToNat, Int.reduceLT, Int.reduceLE, Int.reduceEq, ml_i0, hx, hk, hz, hdd, o1, o2, h0, c1, f]
          ·simp [hv, badE, hk, f] at hr
           subst hr
           simp only [↓sxc, sx, se, ↓reduceIte, Nat.reduceEqDiff, Nat.reduceAdd, Nat.reduceLT, Nat.reduceLeDiff, Nat.reduceSub, Nat.reduceMul, Int.reduceToNat, Int.reduceLT, Int.reduceLE, Int.reduceEq, ml_i0, hx, hk, hz, hdd, o1, o2, h0, c1, f]
      ·have : preE s x = 1 := by simp [preE, hk, hz]
       rw [this] at hr
       simp at hr
       subst hr
       simp only [↓sxc, sx, se, ↓reduceIte, Nat.reduceEqDiff, Nat.reduceAdd, Nat.reduceLT, Nat.reduceLeDiff, Nat.reduceSub, Nat.reduceMul, Int.reduceToNat, Int.reduceLT, Int.reduceLE, Int.reduceEq, ml_i0, hx, hk, hz]
     ·by_cases hk : x.kind = 4
      ·by_cases hz : x.cnt = 0
       ·cases hdd : x.deep with
        | true =>
         have : preE s x = 1 := by simp [preE, hk, hdd]
         rw [this] at hr
         simp at hr
         subst hr
         simp only [↓sxc, sx, se, ↓reduceIte, Nat.reduceEqDiff, Nat.reduceAdd, Nat.reduceLT, Nat.reduceLeDiff, Nat.reduceSub, Nat.reduceMul, Int.reduceToNat, Int.reduceLT, Int.reduceLE, Int.reduceEq, ml_i0, hx, hk, hz, hdd]
        | false =>
         have hpre : preE s x = if x.on < 0 ∨ (s.locks.length : Int) ≤ x.on then 6 else 0 := by simp [preE, nOf, hk, hz, hdd]
         by_cases o1 : x.on < 0
         ·have hv : preE s x = 6 := by simp [hpre, o1]
          rw [hv] at hr
          simp at hr
          subst hr
          simp only [↓sxc, sx, se, ↓reduceIte, Nat.reduceEqDiff, Nat.reduceAdd, Nat.reduceLT, Nat.reduceLeDiff, Nat.reduceSub, Nat.reduceMul, Int.reduceToNat, Int.reduceLT, Int.reduceLE, Int.reduceEq, ml_i0, hx, hk, hz, hdd, o1]
         ·by_cases o2 : (s.locks.length : Int) ≤ x.on
          ·have hv : preE s x = 6 := by simp [hpre, o1, o2]
           rw [hv] at hr
           simp at hr
           subst hr
           simp only [↓sxc, sx, se, ↓reduceIte, Nat.reduceEqDiff, Nat.reduceAdd, Nat.reduceLT, Nat.reduceLeDiff, Nat.reduceSub, Nat.reduceMul, Int.reduceToNat, Int.reduceLT, Int.reduceLE, Int.reduceEq, ml_i0, hx, hk, hz, hdd, o1, o2]
          ·have h0 : 0 ≤ x.on := by omega
           have hp' : s.locks[x.on.toNat]? = some (s.locks[x.on.toNat]'(by omega)) := List.getElem?_eq_getElem _
           rw [if_neg (by omega)] at hpre
           have hv : preE s x = 0 := hpre
           by_cases f : B1 = 0
           ·simp [hv, badE, hk, f] at hr
            subst hr
            simp only [↓sxc, sx, se, ↓reduceIte, Nat.reduceEqDiff, Nat.reduceAdd, Nat.reduceLT, Nat.reduceLeDiff, Nat.reduceSub, Nat.reduceMul, Int.reduceToNat, Int.reduceLT, Int.reduceLE, Int.reduceEq, ml_i0, hx, hk, hz, hdd, o1, o2, h0, c1, f]
           ·simp [hv, badE, hk, f] at hr
            subst hr
            simp only [↓sxc, sx, se, ↓reduceIte, Nat.reduceEqDiff, Nat.reduceAdd, Nat.reduceLT, Nat.reduceLeDiff, Nat.reduceSub, Nat.reduceMul, Int.reduceToNat, Int.reduceLT, Int.reduceLE, Int.reduceEq, ml_i0, hx, hk, hz, hdd, o1, o2, h0, c1, f]
       ·have : preE s x = 1 := by simp [preE, hk, hz]
        rw [this] at hr
        simp at hr
        subst hr
        simp only [↓sxc, sx, se, ↓reduceIte, Nat.reduceEqDiff, Nat.reduceAdd, Nat.reduceLT, Nat.reduceLeDiff, Nat.reduceSub, Nat.reduceMul, Int.reduceToNat, Int.reduceLT, Int.reduceLE, Int.reduceEq, ml_i0, hx, hk, hz]
      ·by_cases hk : x.kind = 5
       ·by_cases hz : x.cnt = 0
        ·cases hdd : x.deep with
         | true =>
          have : preE s x = 1 := by simp [preE, hk, hdd]
          rw [this] at hr
          simp at hr
          subst hr
          simp only [↓sxc, sx, se, ↓reduceIte, Nat.reduceEqDiff, Nat.reduceAdd, Nat.reduceLT, Nat.reduceLeDiff, Nat.reduceSub, Nat.reduceMul, Int.reduceToNat, Int.reduceLT, Int.reduceLE, Int.reduceEq, ml_i0, hx, hk, hz, hdd]
         | false =>
          have hpre : preE s x = if x.on < 0 ∨ (s.cls.length : Int) ≤ x.on then 6 else 0 := by simp [preE, nOf, hk, hz, hdd]
          by_cases o1 : x.on < 0
          ·have hv : preE s x = 6 := by simp [hpre, o1]
           rw [hv] at hr
           simp at hr
           subst hr
           simp only [↓sxc, sx, se, ↓reduceIte, Nat.reduceEqDiff, Nat.reduceAdd, Nat.reduceLT, Nat.reduceLeDiff, Nat.reduceSub, Nat.reduceMul, Int.reduceToNat, Int.reduceLT, Int.reduceLE, Int.reduceEq, ml_i0, hx, hk, hz, hdd, o1]
          ·by_cases o2 : (s.cls.length : Int) ≤ x.on
           ·have hv : preE s x = 6 := by simp [hpre, o1, o2]
            rw [hv] at hr
            simp at hr
            subst hr
            simp only [↓sxc, sx, se, ↓reduceIte, Nat.reduceEqDiff, Nat.reduceAdd, Nat.reduceLT, Nat.reduceLeDiff, Nat.reduceSub, Nat.reduceMul, Int.reduceToNat, Int.reduceLT, Int.reduceLE, Int.reduceEq, ml_i0, hx, hk, hz, hdd, o1, o2]
           ·have h0 : 0 ≤ x.on := by omega
            have hp' : s.cls[x.on.toNat]? = some (s.cls[x.on.toNat]'(by omega)) := List.getElem?_eq_getElem _
            rw [if_neg (by omega)] at hpre
            generalize s.cls[x.on.toNat]'(by omega) = c at *
            have hs : srvAt s x.on = c.srv := by simp [srvAt, hp']
            have hv : preE s x = 0 := hpre
            simp [hv, badE, hk, hs] at hr
            cases f : c.srv
            ·simp [f] at hr
             subst hr
             simp only [↓sxc, sx, se, ↓reduceIte, Nat.reduceEqDiff, Nat.reduceAdd, Nat.reduceLT, Nat.reduceLeDiff, Nat.reduceSub, Nat.reduceMul, Int.reduceToNat, Int.reduceLT, Int.reduceLE, Int.reduceEq, ml_i0, hx, hk, hz, hdd, o1, o2, h0, hp', f]
            ·simp [f] at hr
             subst hr
             simp only [↓sxc, sx, se, ↓reduceIte, Nat.reduceEqDiff, Nat.reduceAdd, Nat.reduceLT, Nat.reduceLeDiff, Nat.reduceSub, Nat.reduceMul, Int.reduceToNat, Int.reduceLT, Int.reduceLE, Int.reduceEq, ml_i0, hx, hk, hz, hdd, o1, o2, h0, hp', f]
        ·have : preE s x = 1 := by simp [preE, hk, hz]
         rw [this] at hr
         simp at hr
         subst hr
         simp only [↓sxc, sx, se, ↓reduceIte, Nat.reduceEqDiff, Nat.reduceAdd, Nat.reduceLT, Nat.reduceLeDiff, Nat.reduceSub, Nat.reduceMul, Int.reduceToNat, Int.reduceLT, Int.reduceLE, Int.reduceEq, ml_i0, hx, hk, hz]
       ·omega
end Go.Am
namespace Go.Am
open Go
set_option linter.unusedSimpArgs false
set_option linter.unusedVariables false
set_option maxRecDepth 100000
theorem stepE_cnt {s : Sys} {x : Stp} {b0 b1 : Int} (h : stepE s x b0 b1 = 0) (hp : ∀ p ∈ s.pools, p.size ≤ 1000) : -1000 ≤ x.cnt ∧ x.cnt ≤ 1000 := by
 have hs : sizeAt s x.on ≤ 1000 := by
  unfold sizeAt
  split
  ·rename_i p hp'; exact hp p (List.mem_of_getElem? hp')
  ·omega
 have h0 : preE s x = 0 := by
  unfold stepE at h
  split at h
  ·exact h
  ·rename_i h1; simpa using h1
 unfold preE at h0
 split at h0
 ·omega
 ·rename_i h1
  split at h0
  ·omega
  ·split at h0
   ·omega
   ·rename_i h2
    by_cases ht : x.kind = 1 ∨ x.kind = 2
    ·have : ¬ (x.cnt < 1 ∨ sizeAt s x.on < x.cnt) := fun h => h2 ⟨ht, h⟩
     omega
    ·have : x.cnt = 0 := by
      apply Classical.byContradiction
      intro hc
      exact h1 (.inr (.inr (.inl ⟨ht, hc⟩)))
     omega
def stepsE (s : Sys) (pre : List Stp) : List Stp → Int
 | [] => 0
 | x :: t => if stepE s x (bal x.on 0 pre) (bal x.on 1 pre) ≠ 0 then stepE s x (bal x.on 0 pre) (bal x.on 1 pre) else stepsE s (pre ++ [x]) t
def over (l : List Stp) (kind : Int) (n : Nat) : Bool := (List.range n).any fun i => decide (0 < bal i kind l)
def clsE (s : Sys) (c : Cls) : Int :=
 if c.wk < 0 ∨ 4 < c.wk then 2 else if c.steps.length < 1 ∨ 12 < c.steps.length then 9
 else if stepsE s [] c.steps ≠ 0 then stepsE s [] c.steps
 else if over c.steps 0 s.pools.length = true then 11 else if over c.steps 1 s.locks.length = true then 11 else 0
theorem stepsE_cnt {s : Sys} (hp : ∀ p ∈ s.pools, p.size ≤ 1000) : ∀ {t pre : List Stp}, stepsE s pre t = 0 → ∀ x ∈ t, -1000 ≤ x.cnt ∧ x.cnt ≤ 1000
 | [], pre, _, x, hx => by simp at hx
 | y :: t, pre, h, x, hx => by
  unfold stepsE at h
  split at h
  ·rename_i h1; exact absurd h h1
  ·rename_i h1
   rcases List.mem_cons.1 hx with rfl | hx
   ·exact stepE_cnt (by simpa using h1) hp
   ·exact stepsE_cnt hp h x hx
theorem take_succ_drop {α : Type} {l : List α} {i : Nat} {x : α} {t : List α} (h : l.drop i = x :: t) : l.take (i + 1) = l.take i ++ [x] := by
 obtain ⟨hg, _, hlt⟩ := drop_cons h
 rw [List.take_add_one, hg]
 rfl
theorem sp147 {F : Nat → Option Fn} (hA : HasA F) {lo : Nat} {m : Mem} (s : Sys) (c : Cls) (hp : ∀ p ∈ s.pools, p.size ≤ 1000) (h1 : s.pools.length < 100) (h2 : s.locks.length < 100) : callw F 147 [vSys s, vCls c] lo m = some (vi (clsE s c), m) := by
 have loop1 : c.steps.length < 100 → ∀ (t : List Stp) (i : Nat) (Q : Ex → St → Prop), c.steps.drop i = t → (∀ x ∈ c.steps.take i, -1000 ≤ x.cnt ∧ x.cnt ≤ 1000) →
   (stepsE s (c.steps.take i) t ≠ 0 → Q .ret ⟨[(4, vi (stepsE s (c.steps.take i) t))], [], [], m⟩) →
   (stepsE s (c.steps.take i) t = 0 → ∀ e, Q (.exit 0) ⟨(5, vi c.steps.length) :: e, [(2, vSys s), (3, vCls c)], [], m⟩) →
   W F m.next L147_1 ⟨[(5, vi c.steps.length), (6, vi i)], [(2, vSys s), (3, vCls c)], [], m⟩ Q := by
  intro hlen t
  induction t with
  | nil =>
   intro i Q hd hb h1 h2
   have hlt := drop_nil hd
   rw [W_L (c := L147_1) rfl]
   have : ¬ ((i : Nat) : Int) < (c.steps.length : Int) := by omega
   simp only [↓sxc, sx, se, ↓reduceIte, Nat.reduceEqDiff, Nat.reduceAdd, Nat.reduceLT, Nat.reduceLeDiff, Nat.reduceSub, Nat.reduceMul, Int.reduceToNat, Int.reduceLT, Int.reduceLE, Int.reduceEq, ml_i0, this]
   exact h2 rfl _
  | cons x t ih =>
   intro i Q hd hb h1 h2
   obtain ⟨hg, hd', hlt⟩ := drop_cons hd
   rw [W_L (c := L147_1) rfl]
   have : ((i : Nat) : Int) < (c.steps.length : Int) := by omega
   have wr : wrapF .i64 ((i : Int) + 1) = ((i + 1 : Nat) : Int) := by rw [wr_i64 (by omega) (by omega)]; rfl
   have hc : ∀ {lo m}, callw F 163 [vSys s, vStps c.steps, vi i] lo m = some (vi (stepE s x (bal x.on 0 (c.steps.take i)) (bal x.on 1 (c.steps.take i))), m) := fun {lo m} => sp163 hA s c.steps i x hg (by omega) hb hp
   unfold stepsE at h1 h2
   by_cases he : stepE s x (bal x.on 0 (c.steps.take i)) (bal x.on 1 (c.steps.take i)) = 0
   ·rw [if_neg (by simpa using he)] at h1 h2
    simp only [↓sxc, sx, se, ↓reduceIte, Nat.reduceEqDiff, Nat.reduceAdd, Nat.reduceLT, Nat.reduceLeDiff, Nat.reduceSub, Nat.reduceMul, Int.reduceToNat, Int.reduceLT, Int.reduceLE, Int.reduceEq, ml_i0, this, hc, he, wr]
    rw [← take_succ_drop hd] at h1 h2
    refine ih (i + 1) Q hd' (fun y hy => ?_) h1 h2
    rw [take_succ_drop hd] at hy
    rcases List.mem_append.1 hy with hy | hy
    ·exact hb y hy
    ·simp at hy
     subst hy
     exact stepE_cnt he hp
   ·rw [if_pos he] at h1
    simp only [↓sxc, sx, se, ↓reduceIte, Nat.reduceEqDiff, Nat.reduceAdd, Nat.reduceLT, Nat.reduceLeDiff, Nat.reduceSub, Nat.reduceMul, Int.reduceToNat, Int.reduceLT, Int.reduceLE, Int.reduceEq, ml_i0, this, hc, he]
    exact h1 he
 have loop2 : c.steps.length < 100 → (∀ x ∈ c.steps, -1000 ≤ x.cnt ∧ x.cnt ≤ 1000) → ∀ (k i : Nat) (Q : Ex → St → Prop), i + k = s.pools.length →
   ((List.range' i k).any (fun i => decide (0 < bal i 0 c.steps)) = true → Q .ret ⟨[(4, vi 11)], [], [], m⟩) →
   ((List.range' i k).any (fun i => decide (0 < bal i 0 c.steps)) = false → ∀ e, Q (.exit 2) ⟨(5, vi c.steps.length) :: e, [(2, vSys s), (3, vCls c)], [], m⟩) →
   W F m.next L147_2 ⟨[(5, vi c.steps.length), (8, vi i)], [(2, vSys s), (3, vCls c)], [], m⟩ Q := by
  intro hlen hb k
  induction k with
  | zero =>
   intro i Q hi q1 q2
   rw [W_L (c := L147_2) rfl]
   have : ¬ ((i : Nat) : Int) < (s.pools.length : Int) := by omega
   simp only [↓sxc, sx, se, ↓reduceIte, Nat.reduceEqDiff, Nat.reduceAdd, Nat.reduceLT, Nat.reduceLeDiff, Nat.reduceSub, Nat.reduceMul, Int.reduceToNat, Int.reduceLT, Int.reduceLE, Int.reduceEq, ml_i0, this]
   exact q2 rfl _
  | succ k ih =>
   intro i Q hi q1 q2
   rw [W_L (c := L147_2) rfl]
   have : ((i : Nat) : Int) < (s.pools.length : Int) := by omega
   have wr : wrapF .i64 ((i : Int) + 1) = ((i + 1 : Nat) : Int) := by rw [wr_i64 (by omega) (by omega)]; rfl
   have hc : ∀ {lo m}, callw F 164 [vStps c.steps, vi c.steps.length, vi i, vi 0] lo m = some (vi (bal i 0 c.steps), m) := fun {lo m} => by
    have := sp164 hA (lo := lo) (m := m) c.steps c.steps.length i 0 (Nat.le_refl _) (by omega) (by rw [List.take_length]; exact hb)
    rw [List.take_length] at this
    exact this
   rw [List.range'_succ, List.any_cons] at q1 q2
   by_cases he : 0 < bal i 0 c.steps
   ·simp only [↓sxc, sx, se, ↓reduceIte, Nat.reduceEqDiff, Nat.reduceAdd, Nat.reduceLT, Nat.reduceLeDiff, Nat.reduceSub, Nat.reduceMul, Int.reduceToNat, Int.reduceLT, Int.reduceLE, Int.reduceEq, ml_i0, this, hc, he]
    exact q1 (by simp [he])
   ·simp only [he, decide_false, Bool.false_or] at q1 q2
    simp only [↓sxc, sx, se, ↓reduceIte, Nat.reduceEqDiff, Nat.reduceAdd, Nat.reduceLT, Nat.reduceLeDiff, Nat.reduceSub, Nat.reduceMul, Int.reduceToNat, Int.reduceLT, Int.reduceLE, Int.reduceEq, ml_i0, this, hc, he, wr]
    exact ih (i + 1) Q (by omega) q1 q2
 have loop3 : c.steps.length < 100 → (∀ x ∈ c.steps, -1000 ≤ x.cnt ∧ x.cnt ≤ 1000) → ∀ (k i : Nat) (Q : Ex → St → Prop), i + k = s.locks.length →
   ((List.range' i k).any (fun i => decide (0 < bal i 1 c.steps)) = true → Q .ret ⟨[(4, vi 11)], [], [], m⟩) →
   ((List.range' i k).any (fun i => decide (0 < bal i 1 c.steps)) = false → ∀ e, Q (.exit 4) ⟨(5, vi c.steps.length) :: e, [(2, vSys s), (3, vCls c)], [], m⟩) →
   W F m.next L147_3 ⟨[(5, vi c.steps.length), (9, vi i)], [(2, vSys s), (3, vCls c)], [], m⟩ Q := by
  intro hlen hb k
  induction k with
  | zero =>
   intro i Q hi q1 q2
   rw [W_L (c := L147_3) rfl]
   have : ¬ ((i : Nat) : Int) < (s.locks.length : Int) := by omega
   simp only [↓sxc, sx, se, ↓reduceIte, Nat.reduceEqDiff, Nat.reduceAdd, Nat.reduceLT, Nat.reduceLeDiff, Nat.reduceSub, Nat.reduceMul, Int.reduceToNat, Int.reduceLT, Int.reduceLE, Int.reduceEq, ml_i0, this]
   exact q2 rfl _
  | succ k ih =>
   intro i Q hi q1 q2
   rw [W_L (c := L147_3) rfl]
   have : ((i : Nat) : Int) < (s.locks.length : Int) := by omega
   have wr : wrapF .i64 ((i : Int) + 1) = ((i + 1 : Nat) : Int) := by rw [wr_i64 (by omega) (by omega)]; rfl
   have hc : ∀ {lo m}, callw F 164 [vStps c.steps, vi c.steps.length, vi i, vi 1] lo m = some (vi (bal i 1 c.steps), m) := fun {lo m} => by
    have := sp164 hA (lo := lo) (m := m) c.steps c.steps.length i 1 (Nat.le_refl _) (by omega) (by rw [List.take_length]; exact hb)
    rw [List.take_length] at this
    exact this
   rw [List.range'_succ, List.any_cons] at q1 q2
   by_cases he : 0 < bal i 1 c.steps
   ·simp only [↓sxc, sx, se, ↓reduceIte, Nat.reduceEqDiff, Nat.reduceAdd, Nat.reduceLT, Nat.reduceLeDiff, Nat.reduceSub, Nat.reduceMul, Int.reduceToNat, Int.reduceLT, Int.reduceLE, Int.reduceEq, ml_i0, this, hc, he]
    exact q1 (by simp [he])
   ·simp only [he, decide_false, Bool.false_or] at q1 q2
    simp only [↓sxc, sx, se, ↓reduceIte, Nat.reduceEqDiff, Nat.reduceAdd, Nat.reduceLT, Nat.reduceLeDiff, Nat.reduceSub, Nat.reduceMul, Int.reduceToNat, Int.reduceLT, Int.reduceLE, Int.reduceEq, ml_i0, this, hc, he, wr]
    exact ih (i + 1) Q (by omega) q1 q2
 refine call_p hA.h147 rfl ?_
 by_cases w1 : c.wk < 0
 ·have e : clsE s c = 2 := by simp [clsE, w1]
  simp only [↓sxc, sx, se, ↓reduceIte, Nat.reduceEqDiff, Nat.reduceAdd, Nat.reduceLT, Nat.reduceLeDiff, Nat.reduceSub, Nat.reduceMul, Int.reduceToNat, Int.reduceLT, Int.reduceLE, Int.reduceEq, ml_i0, w1, e]
 ·by_cases w2 : 4 < c.wk
  ·have e : clsE s c = 2 := by simp [clsE, w2]
   simp only [↓sxc, sx, se, ↓reduceIte, Nat.reduceEqDiff, Nat.reduceAdd, Nat.reduceLT, Nat.reduceLeDiff, Nat.reduceSub, Nat.reduceMul, Int.reduceToNat, Int.reduceLT, Int.reduceLE, Int.reduceEq, ml_i0, w1, w2, e]
  ·by_cases l1 : (c.steps.length : Int) < 1
   ·have e : clsE s c = 9 := by
     have : c.steps.length < 1 := by omega
     simp only [clsE, w1, w2, or_self, if_false, this, true_or, if_true]
    simp only [↓sxc, sx, se, ↓reduceIte, Nat.reduceEqDiff, Nat.reduceAdd, Nat.reduceLT, Nat.reduceLeDiff, Nat.reduceSub, Nat.reduceMul, Int.reduceToNat, Int.reduceLT, Int.reduceLE, Int.reduceEq, ml_i0, w1, w2, l1, e]
   ·by_cases l2 : 12 < (c.steps.length : Int)
    ·have e : clsE s c = 9 := by
      have : 12 < c.steps.length := by omega
      simp only [clsE, w1, w2, or_self, if_false, this, or_true, if_true]
     simp only [↓sxc, sx, se, ↓reduceIte, Nat.reduceEqDiff, Nat.reduceAdd, Nat.reduceLT, Nat.reduceLeDiff, Nat.reduceSub, Nat.reduceMul, Int.reduceToNat, Int.reduceLT, Int.reduceLE, Int.reduceEq, ml_i0, w1, w2, l1, l2, e]
    ·have hlen : c.steps.length < 100 := by omega
     have e : clsE s c = if stepsE s [] c.steps ≠ 0 then stepsE s [] c.steps else if over c.steps 0 s.pools.length = true then 11 else if over c.steps 1 s.locks.length = true then 11 else 0 := by
      have a1 : ¬ c.steps.length < 1 := by omega
      have a2 : ¬ 12 < c.steps.length := by omega
      simp only [clsE, w1, w2, or_self, if_false, a1, a2]
     simp only [↓sxc, sx, se, ↓reduceIte, Nat.reduceEqDiff, Nat.reduceAdd, Nat.reduceLT, Nat.reduceLeDiff, Nat.reduceSub, Nat.reduceMul, Int.reduceToNat, Int.reduceLT, Int.reduceLE, Int.reduceEq, ml_i0, w1, w2, l1, l2]
     refine loop1 hlen c.steps 0 _ rfl (by simp) (fun h => ?_) (fun h e1 => ?_)
     ·rw [if_pos (by simpa using h)] at e
      simp only [↓sxc, sx, se, ↓reduceIte, Nat.reduceEqDiff, Nat.reduceAdd, Nat.reduceLT, Nat.reduceLeDiff, Nat.reduceSub, Nat.reduceMul, Int.reduceToNat, Int.reduceLT, Int.reduceLE, Int.reduceEq, ml_i0, e]
     ·rw [if_neg (by simpa using h)] at e
      have hb := stepsE_cnt hp h
      simp only [↓sxc, sx, se, ↓reduceIte, Nat.reduceEqDiff, Nat.reduceAdd, Nat.reduceLT, Nat.reduceLeDiff, Nat.reduceSub, Nat.reduceMul, Int.reduceToNat, Int.reduceLT, Int.reduceLE, Int.reduceEq, ml_i0]
      refine loop2 hlen hb s.pools.length 0 _ (Nat.zero_add _) (fun h3 => ?_) (fun h3 e2 => ?_)
      ·rw [← List.range_eq_range'] at h3
       rw [if_pos (show over c.steps 0 s.pools.length = true from h3)] at e
       simp only [↓sxc, sx, se, ↓reduceIte, Nat.reduceEqDiff, Nat.reduceAdd, Nat.reduceLT, Nat.reduceLeDiff, Nat.reduceSub, Nat.reduceMul, Int.reduceToNat, Int.reduceLT, Int.reduceLE, Int.reduceEq, ml_i0, e]
      ·rw [← List.range_eq_range'] at h3
       rw [if_neg (show ¬ over c.steps 0 s.pools.length = true from by rw [show over c.steps 0 s.pools.length = false from h3]; simp)] at e
       simp only [↓sxc, sx, se, ↓reduceIte, Nat.reduceEqDiff, Nat.reduceAdd, Nat.reduceLT, Nat.reduceLeDiff, Nat.reduceSub, Nat.reduceMul, Int.reduceToNat, Int.reduceLT, Int.reduceLE, Int.reduceEq, ml_i0]
       refine loop3 hlen hb s.locks.length 0 _ (Nat.zero_add _) (fun h4 => ?_) (fun h4 e2 => ?_)
       ·rw [← List.range_eq_range'] at h4
        rw [if_pos (show over c.steps 1 s.locks.length = true from h4)] at e
        simp only [↓sxc, sx, se, ↓reduceIte, Nat.reduceEqDiff, Nat.reduceAdd, Nat.reduceLT, Nat.reduceLeDiff, Nat.reduceSub, Nat.reduceMul, Int.reduceToNat, Int.reduceLT, Int.reduceLE, Int.reduceEq, ml_i0, e]
       ·rw [← List.range_eq_range'] at h4
        rw [if_neg (show ¬ over c.steps 1 s.locks.length = true from by rw [show over c.steps 1 s.locks.length = false from h4]; simp)] at e
        simp only [↓sxc, sx, se, ↓reduceIte, Nat.reduceEqDiff, Nat.reduceAdd, Nat.reduceLT, Nat.reduceLeDiff, Nat.reduceSub, Nat.reduceMul, Int.reduceToNat, Int.reduceLT, Int.reduceLE, Int.reduceEq, ml_i0, e]
end Go.Am
namespace Go.Am
open Go
set_option linter.unusedSimpArgs false
set_option linter.unusedVariables false
set_option maxRecDepth 100000
def nmE (pre : List (List UInt8)) : List (List UInt8) → Int
 | [] => 0
 | x :: t => if isNm x = false then 3 else if pre.any (fun y => decide (y = x)) = true then 5 else nmE (pre ++ [x]) t
def poolBad (p : Pool) : Bool := decide (p.size < 1) || decide (8 < p.size) || decide (p.res < 0) || decide (p.size < p.res)
def firstE (f : Cls → Int) : List Cls → Int
 | [] => 0
 | c :: t => if f c ≠ 0 then f c else firstE f t
def chkE (s : Sys) : Int :=
 if 6 < s.pools.length ∨ 4 < s.locks.length ∨ 6 < s.cls.length then 9
 else if nmE [] (namesOf s) ≠ 0 then nmE [] (namesOf s)
 else if s.pools.any poolBad = true then 2 else firstE (clsE s) s.cls
theorem names_len {s : Sys} : (namesOf s).length = s.pools.length + s.locks.length + s.cls.length := by simp [namesOf]; omega
theorem sp91 {F : Nat → Option Fn} (hA : HasA F) {lo : Nat} {m : Mem} (s : Sys) : callw F 91 [vSys s] lo m = some (vi (chkE s), m) := by
 have loop1 : ∀ (l : List (List UInt8)), l.length < 100 → ∀ (t : List (List UInt8)) (i : Nat) (Q : Ex → St → Prop), l.drop i = t →
   (nmE (l.take i) t ≠ 0 → Q .ret ⟨[(2, vi (nmE (l.take i) t))], [], [], m⟩) →
   (nmE (l.take i) t = 0 → ∀ e, Q (.exit 0) ⟨(3, strs l) :: e, [(1, vSys s)], [], m⟩) →
   W F m.next L91_1 ⟨[(3, strs l), (4, vi i)], [(1, vSys s)], [], m⟩ Q := by
  intro l hlen t
  induction t with
  | nil =>
   intro i Q hd h1 h2
   have hlt := drop_nil hd
   rw [W_L (c := L91_1) rfl]
   have : ¬ ((i : Nat) : Int) < (l.length : Int) := by omega
   simp only [↓sxc, sx, se, ↓reduceIte, Nat.reduceEqDiff, Nat.reduceAdd, Nat.reduceLT, Nat.reduceLeDiff, Nat.reduceSub, Nat.reduceMul, Int.reduceToNat, Int.reduceLT, Int.reduceLE, Int.reduceEq, ml_i0, this]
   exact h2 rfl _
  | cons x t ih =>
   intro i Q hd h1 h2
   obtain ⟨hg, hd', hlt⟩ := drop_cons hd
   rw [W_L (c := L91_1) rfl]
   have : ((i : Nat) : Int) < (l.length : Int) := by omega
   have wr : wrapF .i64 ((i : Int) + 1) = ((i + 1 : Nat) : Int) := by rw [wr_i64 (by omega) (by omega)]; rfl
   have c1 : ∀ {lo m}, callw F 145 [.str x] lo m = some (.bool (isNm x), m) := fun {lo m} => sp145 hA x
   have c2 : ∀ {lo m}, callw F 146 [strs l, vi i] lo m = some (.bool ((l.take i).any fun y => decide (y = x)), m) := fun {lo m} => sp146 hA l i x hg (by omega)
   unfold nmE at h1 h2
   cases he : isNm x with
   | false =>
    rw [if_pos he] at h1
    simp only [↓sxc, sx, se, ↓reduceIte, Nat.reduceEqDiff, Nat.reduceAdd, Nat.reduceLT, Nat.reduceLeDiff, Nat.reduceSub, Nat.reduceMul, Int.reduceToNat, Int.reduceLT, Int.reduceLE, Int.reduceEq, ml_i0, this, hg, c1, he]
    exact h1 (by omega)
   | true =>
    rw [if_neg (by rw [he]; simp)] at h1 h2
    cases hb : (l.take i).any fun y => decide (y = x) with
    | true =>
     rw [if_pos hb] at h1
     simp only [↓sxc, sx, se, ↓reduceIte, Nat.reduceEqDiff, Nat.reduceAdd, Nat.reduceLT, Nat.reduceLeDiff, Nat.reduceSub, Nat.reduceMul, Int.reduceToNat, Int.reduceLT, Int.reduceLE, Int.reduceEq, ml_i0, this, hg, c1, he, c2, hb]
     exact h1 (by omega)
    | false =>
     rw [if_neg (by rw [hb]; simp)] at h1 h2
     simp only [↓sxc, sx, se, ↓reduceIte, Nat.reduceEqDiff, Nat.reduceAdd, Nat.reduceLT, Nat.reduceLeDiff, Nat.reduceSub, Nat.reduceMul, Int.reduceToNat, Int.reduceLT, Int.reduceLE, Int.reduceEq, ml_i0, this, hg, c1, he, c2, hb, wr]
     rw [← take_succ_drop hd] at h1 h2
     exact ih (i + 1) Q hd' h1 h2
 have loop2 : s.pools.length < 100 → ∀ (t : List Pool) (i : Nat) (Q : Ex → St → Prop), s.pools.drop i = t →
   (t.any poolBad = true → Q .ret ⟨[(2, vi 2)], [], [], m⟩) →
   (t.any poolBad = false → ∀ e, Q (.exit 2) ⟨e, [(1, vSys s)], [], m⟩) →
   W F m.next L91_2 ⟨[(5, vi i)], [(1, vSys s)], [], m⟩ Q := by
  intro hlen t
  induction t with
  | nil =>
   intro i Q hd h1 h2
   have hlt := drop_nil hd
   rw [W_L (c := L91_2) rfl]
   have : ¬ ((i : Nat) : Int) < (s.pools.length : Int) := by omega
   simp only [↓sxc, sx, se, ↓reduceIte, Nat.reduceEqDiff, Nat.reduceAdd, Nat.reduceLT, Nat.reduceLeDiff, Nat.reduceSub, Nat.reduceMul, Int.reduceToNat, Int.reduceLT, Int.reduceLE, Int.reduceEq, ml_i0, this]
   exact h2 rfl _
  | cons x t ih =>
   intro i Q hd h1 h2
   obtain ⟨hg, hd', hlt⟩ := drop_cons hd
   rw [W_L (c := L91_2) rfl]
   have : ((i : Nat) : Int) < (s.pools.length : Int) := by omega
   have wr : wrapF .i64 ((i : Int) + 1) = ((i + 1 : Nat) : Int) := by rw [wr_i64 (by omega) (by omega)]; rfl
   have ih' := ih (i + 1) Q hd'
   rw [List.any_cons] at h1 h2
   by_cases p1 : x.size < 1
   ·simp only [↓sxc, sx, se, ↓reduceIte, Nat.reduceEqDiff, Nat.reduceAdd, Nat.reduceLT, Nat.reduceLeDiff, Nat.reduceSub, Nat.reduceMul, Int.reduceToNat, Int.reduceLT, Int.reduceLE, Int.reduceEq, ml_i0, this, hg, p1]
    exact h1 (by simp [poolBad, p1])
   ·by_cases p2 : 8 < x.size
    ·simp only [↓sxc, sx, se, ↓reduceIte, Nat.reduceEqDiff, Nat.reduceAdd, Nat.reduceLT, Nat.reduceLeDiff, Nat.reduceSub, Nat.reduceMul, Int.reduceToNat, Int.reduceLT, Int.reduceLE, Int.reduceEq, ml_i0, this, hg, p1, p2]
     exact h1 (by simp [poolBad, p2])
    ·by_cases p3 : x.res < 0
     ·simp only [↓sxc, sx, se, ↓reduceIte, Nat.reduceEqDiff, Nat.reduceAdd, Nat.reduceLT, Nat.reduceLeDiff, Nat.reduceSub, Nat.reduceMul, Int.reduceToNat, Int.reduceLT, Int.reduceLE, Int.reduceEq, ml_i0, this, hg, p1, p2, p3]
      exact h1 (by simp [poolBad, p3])
     ·by_cases p4 : x.size < x.res
      ·simp only [↓sxc, sx, se, ↓reduceIte, Nat.reduceEqDiff, Nat.reduceAdd, Nat.reduceLT, Nat.reduceLeDiff, Nat.reduceSub, Nat.reduceMul, Int.reduceToNat, Int.reduceLT, Int.reduceLE, Int.reduceEq, ml_i0, this, hg, p1, p2, p3, p4]
       exact h1 (by simp [poolBad, p4])
      ·have pb : poolBad x = false := by
        unfold poolBad
        simp only [p1, p2, p3, p4, decide_false, Bool.or_self]
       rw [pb, Bool.false_or] at h1 h2
       simp only [↓sxc, sx, se, ↓reduceIte, Nat.reduceEqDiff, Nat.reduceAdd, Nat.reduceLT, Nat.reduceLeDiff, Nat.reduceSub, Nat.reduceMul, Int.reduceToNat, Int.reduceLT, Int.reduceLE, Int.reduceEq, ml_i0, this, hg, p1, p2, p3, p4, wr]
       exact ih' h1 h2
 have loop3 : s.cls.length < 100 → s.pools.length < 100 → s.locks.length < 100 → (∀ p ∈ s.pools, p.size ≤ 1000) → ∀ (t : List Cls) (i n : Nat) (Q : Ex → St → Prop), s.cls.drop i = t →
   (firstE (clsE s) t ≠ 0 → ∀ n, Q .ret ⟨[(2, vi (firstE (clsE s) t))], [], [], m.bump n⟩) →
   (firstE (clsE s) t = 0 → ∀ n e, Q (.exit 4) ⟨e, [(1, vSys s)], [], m.bump n⟩) →
   W F m.next L91_3 ⟨[(7, vi i)], [(1, vSys s)], [], m.bump n⟩ Q := by
  intro hlen hlp hll hp t
  induction t with
  | nil =>
   intro i n Q hd h1 h2
   have hlt := drop_nil hd
   rw [W_L (c := L91_3) rfl]
   have : ¬ ((i : Nat) : Int) < (s.cls.length : Int) := by omega
   simp only [↓sxc, sx, se, ↓reduceIte, Nat.reduceEqDiff, Nat.reduceAdd, Nat.reduceLT, Nat.reduceLeDiff, Nat.reduceSub, Nat.reduceMul, Int.reduceToNat, Int.reduceLT, Int.reduceLE, Int.reduceEq, ml_i0, this]
   exact h2 rfl _ _
  | cons x t ih =>
   intro i n Q hd h1 h2
   obtain ⟨hg, hd', hlt⟩ := drop_cons hd
   rw [W_L (c := L91_3) rfl]
   have : ((i : Nat) : Int) < (s.cls.length : Int) := by omega
   have wr : wrapF .i64 ((i : Int) + 1) = ((i + 1 : Nat) : Int) := by rw [wr_i64 (by omega) (by omega)]; rfl
   have c1 : ∀ {lo m}, callw F 147 [vSys s, vCls x] lo m = some (vi (clsE s x), m) := fun {lo m} => sp147 hA s x hp hlp hll
   unfold firstE at h1 h2
   by_cases he : clsE s x = 0
   ·rw [if_neg (by simpa using he)] at h1 h2
    simp only [↓sxc, sx, se, ↓reduceIte, Nat.reduceEqDiff, Nat.reduceAdd, Nat.reduceLT, Nat.reduceLeDiff, Nat.reduceSub, Nat.reduceMul, Int.reduceToNat, Int.reduceLT, Int.reduceLE, Int.reduceEq, ml_i0, this, hg, c1, he, wr]
    exact ih (i + 1) _ Q hd' h1 h2
   ·rw [if_pos he] at h1
    simp only [↓sxc, sx, se, ↓reduceIte, Nat.reduceEqDiff, Nat.reduceAdd, Nat.reduceLT, Nat.reduceLeDiff, Nat.reduceSub, Nat.reduceMul, Int.reduceToNat, Int.reduceLT, Int.reduceLE, Int.reduceEq, ml_i0, this, hg, c1, he]
    exact h1 he _
 refine call_p hA.h91 rfl ?_
 by_cases l1 : 6 < (s.pools.length : Int)
 ·have e : chkE s = 9 := by
   have : 6 < s.pools.length := by omega
   simp only [chkE, this, true_or, if_true]
  simp only [↓sxc, sx, se, ↓reduceIte, Nat.reduceEqDiff, Nat.reduceAdd, Nat.reduceLT, Nat.reduceLeDiff, Nat.reduceSub, Nat.reduceMul, Int.reduceToNat, Int.reduceLT, Int.reduceLE, Int.reduceEq, ml_i0, l1, e]
 ·by_cases l2 : 4 < (s.locks.length : Int)
  ·have e : chkE s = 9 := by
    have : 4 < s.locks.length := by omega
    simp only [chkE, this, true_or, or_true, if_true]
   simp only [↓sxc, sx, se, ↓reduceIte, Nat.reduceEqDiff, Nat.reduceAdd, Nat.reduceLT, Nat.reduceLeDiff, Nat.reduceSub, Nat.reduceMul, Int.reduceToNat, Int.reduceLT, Int.reduceLE, Int.reduceEq, ml_i0, l1, l2, e]
  ·by_cases l3 : 6 < (s.cls.length : Int)
   ·have e : chkE s = 9 := by
     have : 6 < s.cls.length := by omega
     simp only [chkE, this, or_true, if_true]
    simp only [↓sxc, sx, se, ↓reduceIte, Nat.reduceEqDiff, Nat.reduceAdd, Nat.reduceLT, Nat.reduceLeDiff, Nat.reduceSub, Nat.reduceMul, Int.reduceToNat, Int.reduceLT, Int.reduceLE, Int.reduceEq, ml_i0, l1, l2, l3, e]
   ·have e : chkE s = if nmE [] (namesOf s) ≠ 0 then nmE [] (namesOf s) else if s.pools.any poolBad = true then 2 else firstE (clsE s) s.cls := by
     have a1 : ¬ 6 < s.pools.length := by omega
     have a2 : ¬ 4 < s.locks.length := by omega
     have a3 : ¬ 6 < s.cls.length := by omega
     simp only [chkE, a1, a2, a3, or_self, if_false]
    have c0 : ∀ {lo m}, callw F 144 [vSys s] lo m = some (strs (namesOf s), m) := fun {lo m} => sp144 hA s (by omega) (by omega) (by omega)
    simp only [↓sxc, sx, se, ↓reduceIte, Nat.reduceEqDiff, Nat.reduceAdd, Nat.reduceLT, Nat.reduceLeDiff, Nat.reduceSub, Nat.reduceMul, Int.reduceToNat, Int.reduceLT, Int.reduceLE, Int.reduceEq, ml_i0, l1, l2, l3, c0]
    refine loop1 (namesOf s) (by rw [names_len]; omega) (namesOf s) 0 _ rfl (fun h => ?_) (fun h e1 => ?_)
    ·rw [if_pos (by simpa using h)] at e
     simp only [↓sxc, sx, se, ↓reduceIte, Nat.reduceEqDiff, Nat.reduceAdd, Nat.reduceLT, Nat.reduceLeDiff, Nat.reduceSub, Nat.reduceMul, Int.reduceToNat, Int.reduceLT, Int.reduceLE, Int.reduceEq, ml_i0, e]
    ·rw [if_neg (by simpa using h)] at e
     simp only [↓sxc, sx, se, ↓reduceIte, Nat.reduceEqDiff, Nat.reduceAdd, Nat.reduceLT, Nat.reduceLeDiff, Nat.reduceSub, Nat.reduceMul, Int.reduceToNat, Int.reduceLT, Int.reduceLE, Int.reduceEq, ml_i0]
     refine loop2 (by omega) s.pools 0 _ rfl (fun h => ?_) (fun h e1 => ?_)
     ·rw [if_pos h] at e
      simp only [↓sxc, sx, se, ↓reduceIte, Nat.reduceEqDiff, Nat.reduceAdd, Nat.reduceLT, Nat.reduceLeDiff, Nat.reduceSub, Nat.reduceMul, Int.reduceToNat, Int.reduceLT, Int.reduceLE, Int.reduceEq, ml_i0, e]
     ·rw [if_neg (by rw [h]; simp)] at e
      simp only [↓sxc, sx, se, ↓reduceIte, Nat.reduceEqDiff, Nat.reduceAdd, Nat.reduceLT, Nat.reduceLeDiff, Nat.reduceSub, Nat.reduceMul, Int.reduceToNat, Int.reduceLT, Int.reduceLE, Int.reduceEq, ml_i0]
      have hp : ∀ p ∈ s.pools, p.size ≤ 1000 := fun p hpm => by
       have := List.any_eq_false.1 h p hpm
       simp [poolBad] at this
       omega
      refine loop3 (by omega) (by omega) (by omega) hp s.cls 0 0 _ rfl (fun h n => ?_) (fun h n e1 => ?_)
      ·simp only [↓sxc, sx, se, ↓reduceIte, Nat.reduceEqDiff, Nat.reduceAdd, Nat.reduceLT, Nat.reduceLeDiff, Nat.reduceSub, Nat.reduceMul, Int.reduceToNat, Int.reduceLT, Int.reduceLE, Int.reduceEq, ml_i0, e]
      ·rw [h] at e
       simp only [↓sxc, sx, se, ↓reduceIte, Nat.reduceEqDiff, Nat.reduceAdd, Nat.reduceLT, Nat.reduceLeDiff, Nat.reduceSub, Nat.reduceMul, Int.reduceToNat, Int.reduceLT, Int.reduceLE, Int.reduceEq, ml_i0, e]
end Go.Am
namespace Go.Am
open Go
set_option linter.unusedSimpArgs false
set_option linter.unusedVariables false
set_option maxRecDepth 100000
def PX (res : List Res) (R : V → Mem → Prop) : Ex → St → Prop
 | .exit _, _ => False
 | _, st => OC (getRes st res) fun vs => R (resV vs) st.mem
theorem PX_nrm {res : List Res} {R : V → Mem → Prop} {st : St} : PX res R .nrm st ↔ OC (getRes st res) fun vs => R (resV vs) st.mem := Iff.rfl
theorem PX_ret {res : List Res} {R : V → Mem → Prop} {st : St} : PX res R .ret st ↔ OC (getRes st res) fun vs => R (resV vs) st.mem := Iff.rfl
theorem call_x {F : Nat → Option Fn} {lo f np am bm : Nat} {res : List Res} {body : AC} {args : List V} {m : Mem} {R : V → Mem → Prop} (hF : F f = some ⟨np, am, bm, false, res, body⟩) (hn : args.length = np) (h : W F lo body ⟨initEnv 0 args, [], [], m⟩ (PX res R)) : ∃ v m', callw F f args lo m = some (v, m') ∧ R v m' := by
 have key : ∃ v m', W F lo body ⟨initEnv 0 args, [], [], m⟩ (PI res v m') ∧ R v m' := by
  obtain ⟨N, ex, s, h1, q⟩ := h
  cases ex with
  | exit i => exact q.elim
  | nrm =>
   obtain ⟨vs, q1, q2⟩ := q
   exact ⟨_, _, ⟨N, .nrm, s, h1, vs, q1, rfl, rfl⟩, q2⟩
  | ret =>
   obtain ⟨vs, q1, q2⟩ := q
   exact ⟨_, _, ⟨N, .ret, s, h1, vs, q1, rfl, rfl⟩, q2⟩
 obtain ⟨v, m', h1, h2⟩ := key
 exact ⟨v, m', call_i hF hn h1, h2⟩
theorem set_ne {m : Mem} {i j : Nat} {b : Option Blk} (h : j ≠ i) : (m.set i b).blk j = m.blk j := by simp [Mem.set, h]
theorem sp121 {F : Nat → Option Fn} (hA : HasA F) {lo : Nat} {m : Mem} (s : Sys) (h1 : s.pools.length < 100) (h2 : s.locks.length < 100) : ∃ v m', callw F 121 [vSys s] lo m = some (v, m') ∧ ∃ a b, v = .agg [.row 1 a 0 s.pools.length, .row 1 b 0 s.locks.length] ∧ a ≠ b ∧ m.next ≤ a ∧ m.next ≤ b ∧ a < m'.next ∧ b < m'.next ∧
  m'.blk a = some (.row 1 (List.replicate s.pools.length (vi 0))) ∧ m'.blk b = some (.row 1 (List.replicate s.locks.length (.bool false))) ∧ ∀ k, k < m.next → m'.blk k = m.blk k := by
 refine call_x hA.h121 rfl ?_
 have b1 : 0 ≤ (s.pools.length : Int) ∧ (s.pools.length : Int) < big := by simp [big]; omega
 have b2 : 0 ≤ (s.locks.length : Int) ∧ (s.locks.length : Int) < big := by simp [big]; omega
 simp only [↓sxc, sx, se, ↓reduceIte, Nat.reduceEqDiff, Nat.reduceAdd, Nat.reduceLT, Nat.reduceLeDiff, Nat.reduceSub, Nat.reduceMul, Int.reduceToNat, Int.reduceLT, Int.reduceLE, Int.reduceEq, ml_i0, ↓W_dreg, ↓sk, sk, PX_ret, b1, b2]
 refine ⟨by simp [pairsOk, nth_eq, keysApart, Key.apart], m.next + 3, m.next + 7, rfl, by omega, by omega, by omega, by omega, by omega, ?_, ?_, fun k hk => ?_⟩
 ·rw [set_ne (by omega)]
  simp [Mem.set]
 ·simp [Mem.set]
 ·rw [set_ne (by omega), set_ne (by omega)]
  rfl
structure Hd (lo : Nat) (m : Mem) (p a b : Nat) (u : List Int) (k : List Bool) : Prop where
 pa : p ≠ a
 pb : p ≠ b
 ab : a ≠ b
 lp : lo ≤ p
 la : lo ≤ a
 lb : lo ≤ b
 hp : p < m.next
 ha : a < m.next
 hb : b < m.next
 bp : m.blk p = some (.row 2 [.agg [.row 1 a 0 u.length, .row 1 b 0 k.length]])
 ba : m.blk a = some (.row 1 (u.map vi))
 bb : m.blk b = some (.row 1 (k.map .bool))
def uAt (u : List Int) (on : Int) : Int := u.getD on.toNat 0
def kAt (k : List Bool) (on : Int) : Bool := k.getD on.toNat false
def uStep (u : List Int) (x : Stp) : List Int := if x.kind = 1 then u.set x.on.toNat (uAt u x.on + x.cnt) else if x.kind = 2 then u.set x.on.toNat (uAt u x.on - x.cnt) else u
def kStep (k : List Bool) (x : Stp) : List Bool := if x.kind = 3 then k.set x.on.toNat true else if x.kind = 4 then k.set x.on.toNat false else k
def holdE (s : Sys) (u : List Int) (k : List Bool) (x : Stp) : Int := stepE s x (uAt u x.on) (if kAt k x.on = true then 1 else 0)
theorem uStep_len {u : List Int} {x : Stp} : (uStep u x).length = u.length := by
 unfold uStep
 repeat' split
 all_goals simp
theorem kStep_len {k : List Bool} {x : Stp} : (kStep k x).length = k.length := by
 unfold kStep
 repeat' split
 all_goals simp
end Go.Am
namespace Go.Am
open Go
set_option linter.unusedSimpArgs false
set_option linter.unusedVariables false
set_option maxRecDepth 100000
theorem getset {l : List Int} {i : Nat} {x : V} (h : i < l.length) : ((l.map vi).set i x)[i]? = some x := by simp [h]
structure HOut (s : Sys) (u : List Int) (k : List Bool) (x : Stp) (a b : Nat) (m : Mem) (v : V) (m' : Mem) : Prop where
 res : v = vi (holdE s u k x)
 nx : m.next ≤ m'.next
 oth : ∀ j, j ≠ a → j ≠ b → m'.blk j = m.blk j
 ba : m'.blk a = some (.row 1 ((if preE s x = 0 then uStep u x else u).map vi))
 bb : m'.blk b = some (.row 1 ((if preE s x = 0 then kStep k x else k).map .bool))
set_option maxHeartbeats 4000000 in
theorem sp122 {F : Nat → Option Fn} (hA : HasA F) {lo : Nat} {m : Mem} (s : Sys) (x : Stp) {p a b : Nat} {u : List Int} {k : List Bool} (H : Hd lo m p a b u k) (hu : u.length = s.pools.length) (hk0 : k.length = s.locks.length) (hp : ∀ p ∈ s.pools, p.size ≤ 1000) (hb0 : ∀ n ∈ u, -1000000 ≤ n ∧ n ≤ 1000000) :
  ∃ v m', callw F 122 [.ptr p 0 0, vSys s, vStp x] lo m = some (v, m') ∧ HOut s u k x a b m v m' := by
 refine call_x hA.h122 rfl ?_
 have n1 : ∀ {m : Mem} {q : Option Blk}, (m.set a q).blk p = m.blk p := fun {m q} => set_ne H.pa
 have fin0 : ∀ {e : Int} {m' : Mem}, e = holdE s u k x → preE s x ≠ 0 → m.next ≤ m'.next → (∀ j, m'.blk j = m.blk j) → HOut s u k x a b m (vi e) m' := by
  intro e m' h1 h2 h3 h4
  subst h1
  exact ⟨rfl, h3, fun j _ _ => h4 j, by rw [h4, if_neg h2]; exact H.ba, by rw [h4, if_neg h2]; exact H.bb⟩
 by_cases e1 : x.kind < 1
 ·have hv : preE s x = 1 := by simp [preE, e1]
  have k1 : ¬ x.kind = 1 := by omega
  have k2 : ¬ x.kind = 2 := by omega
  simp only [↓sxc, sx, se, ↓reduceIte, Nat.reduceEqDiff, Nat.reduceAdd, Nat.reduceLT, Nat.reduceLeDiff, Nat.reduceSub, Nat.reduceMul, Int.reduceToNat, Int.reduceLT, Int.reduceLE, Int.reduceEq, ml_i0, PX_ret, PX_nrm, e1, k1, k2]
  refine fin0 ?_ ?_ ?_ (fun _ => rfl) <;> simp [holdE, stepE, hv, bump_next]
 ·by_cases e5 : 5 < x.kind
  ·have hv : preE s x = 1 := by simp [preE, e5]
   have k1 : ¬ x.kind = 1 := by omega
   have k2 : ¬ x.kind = 2 := by omega
   simp only [↓sxc, sx, se, ↓reduceIte, Nat.reduceEqDiff, Nat.reduceAdd, Nat.reduceLT, Nat.reduceLeDiff, Nat.reduceSub, Nat.reduceMul, Int.reduceToNat, Int.reduceLT, Int.reduceLE, Int.reduceEq, ml_i0, PX_ret, PX_nrm, e1, e5, k1, k2]
   refine fin0 ?_ ?_ ?_ (fun _ => rfl) <;> simp [holdE, stepE, hv, bump_next]
  ·by_cases hk : x.kind = 1
   ·have hpre : preE s x = if x.on < 0 ∨ (s.pools.length : Int) ≤ x.on then 6 else if x.cnt < 1 ∨ sizeAt s x.on < x.cnt then 2 else 0 := by simp [preE, nOf, hk]
    by_cases o1 : x.on < 0
    ·have hv : preE s x = 6 := by simp [hpre, o1]
     cases hd : x.deep <;> (simp only [↓sxc, sx, se, ↓reduceIte, Nat.reduceEqDiff, Nat.reduceAdd, Nat.reduceLT, Nat.reduceLeDiff, Nat.reduceSub, Nat.reduceMul, Int.reduceToNat, Int.reduceLT, Int.reduceLE, Int.reduceEq, ml_i0, PX_ret, PX_nrm, hk, hd, o1]; refine fin0 ?_ ?_ ?_ (fun _ => rfl) <;> simp [holdE, stepE, hv, bump_next])
    ·by_cases o2 : (s.pools.length : Int) ≤ x.on
     ·have hv : preE s x = 6 := by simp [hpre, o1, o2]
      cases hd : x.deep <;> (simp only [↓sxc, sx, se, ↓reduceIte, Nat.reduceEqDiff, Nat.reduceAdd, Nat.reduceLT, Nat.reduceLeDiff, Nat.reduceSub, Nat.reduceMul, Int.reduceToNat, Int.reduceLT, Int.reduceLE, Int.reduceEq, ml_i0, PX_ret, PX_nrm, hk, hd, o1, o2]; refine fin0 ?_ ?_ ?_ (fun _ => rfl) <;> simp [holdE, stepE, hv, bump_next])
     ·have h0 : 0 ≤ x.on := by omega
      have hp' : s.pools[x.on.toNat]? = some (s.pools[x.on.toNat]'(by omega)) := List.getElem?_eq_getElem _
      rw [if_neg (by omega)] at hpre
      have hq := hp _ (List.mem_of_getElem? hp')
      generalize s.pools[x.on.toNat]'(by omega) = p at *
      have hs : sizeAt s x.on = p.size := by simp [sizeAt, hp']
      rw [hs] at hpre
      have hul : x.on < (u.length : Int) := by omega
      have hut : x.on.toNat < u.length := by omega
      have hu' : u[x.on.toNat]? = some (uAt u x.on) := by rw [List.getElem?_eq_getElem hut]; simp [uAt, List.getD, List.getElem?_eq_getElem hut]
      have hub := hb0 (uAt u x.on) (List.mem_of_getElem? hu')
      by_cases q1 : x.cnt < 1
      ·have hv : preE s x = 2 := by simp [hpre, q1]
       cases hd : x.deep <;> (simp only [↓sxc, sx, se, ↓reduceIte, Nat.reduceEqDiff, Nat.reduceAdd, Nat.reduceLT, Nat.reduceLeDiff, Nat.reduceSub, Nat.reduceMul, Int.reduceToNat, Int.reduceLT, Int.reduceLE, Int.reduceEq, ml_i0, PX_ret, PX_nrm, hk, hd, o1, o2, q1, h0, hp']; refine fin0 ?_ ?_ ?_ (fun _ => rfl) <;> simp [holdE, stepE, hv, bump_next])
      ·by_cases q2 : p.size < x.cnt
       ·have hv : preE s x = 2 := by simp [hpre, q1, q2]
        cases hd : x.deep <;> (simp only [↓sxc, sx, se, ↓reduceIte, Nat.reduceEqDiff, Nat.reduceAdd, Nat.reduceLT, Nat.reduceLeDiff, Nat.reduceSub, Nat.reduceMul, Int.reduceToNat, Int.reduceLT, Int.reduceLE, Int.reduceEq, ml_i0, PX_ret, PX_nrm, hk, hd, o1, o2, q1, q2, h0, hp']; refine fin0 ?_ ?_ ?_ (fun _ => rfl) <;> simp [holdE, stepE, hv, bump_next])
       ·have hv : preE s x = 0 := by simp [hpre, q1, q2]
        have w1 : wrapF .i64 (uAt u x.on + x.cnt) = uAt u x.on + x.cnt := wr_i64 (by omega) (by omega)
        have hus : uStep u x = u.set x.on.toNat (uAt u x.on + x.cnt) := by simp [uStep, hk]
        have hks : kStep k x = k := by simp [kStep, hk]
        by_cases f : uAt u x.on + x.cnt ≤ p.size
        ·have hg : ¬ p.size < uAt u x.on + x.cnt := by omega
         cases hd : x.deep <;> (simp only [↓sxc, sx, se, ↓reduceIte, Nat.reduceEqDiff, Nat.reduceAdd, Nat.reduceLT, Nat.reduceLeDiff, Nat.reduceSub, Nat.reduceMul, Int.reduceToNat, Int.reduceLT, Int.reduceLE, Int.reduceEq, ml_i0, PX_ret, PX_nrm, hk, hd, o1, o2, q1, q2, h0, hp', H.bp, H.ba, H.la, hul, hu', w1, n1, getset hut, f]; refine ⟨by simp [holdE, stepE, hv, badE, hk, hs, hg], by simp only [bump_next, set_next]; omega, fun j h1 h2 => by simp [set_ne h1, bump_blk], by simp [hv, hus, Mem.set, Mem.bump, List.map_set], by simp [hv, hks, Mem.set, Mem.bump, (H.ab).symm, H.bb]⟩)
        ·have hg : p.size < uAt u x.on + x.cnt := by omega
         cases hd : x.deep <;> (simp only [↓sxc, sx, se, ↓reduceIte, Nat.reduceEqDiff, Nat.reduceAdd, Nat.reduceLT, Nat.reduceLeDiff, Nat.reduceSub, Nat.reduceMul, Int.reduceToNat, Int.reduceLT, Int.reduceLE, Int.reduceEq, ml_i0, PX_ret, PX_nrm, hk, hd, o1, o2, q1, q2, h0, hp', H.bp, H.ba, H.la, hul, hu', w1, n1, getset hut, f]; refine ⟨by simp [holdE, stepE, hv, badE, hk, hs, hg], by simp only [bump_next, set_next]; omega, fun j h1 h2 => by simp [set_ne h1, bump_blk], by simp [hv, hus, Mem.set, Mem.bump, List.map_set], by simp [hv, hks, Mem.set, Mem.bump, (H.ab).symm, H.bb]⟩)
   ·by_cases hk : x.kind = 2
    ·cases hdd : x.deep with
     | true =>
      have hv : preE s x = 1 := by simp [preE, hk, hdd]
      simp only [↓sxc, sx, se, ↓reduceIte, Nat.reduceEqDiff, Nat.reduceAdd, Nat.reduceLT, Nat.reduceLeDiff, Nat.reduceSub, Nat.reduceMul, Int.reduceToNat, Int.reduceLT, Int.reduceLE, Int.reduceEq, ml_i0, PX_ret, PX_nrm, hk, hdd]
      refine fin0 ?_ ?_ ?_ (fun _ => rfl) <;> simp [holdE, stepE, hv, bump_next]
     | false =>
      have hpre : preE s x = if x.on < 0 ∨ (s.pools.length : Int) ≤ x.on then 6 else if x.cnt < 1 ∨ sizeAt s x.on < x.cnt then 2 else 0 := by simp [preE, nOf, hk, hdd]
      by_cases o1 : x.on < 0
      ·have hv : preE s x = 6 := by simp [hpre, o1]
       simp only [↓sxc, sx, se, ↓reduceIte, Nat.reduceEqDiff, Nat.reduceAdd, Nat.reduceLT, Nat.reduceLeDiff, Nat.reduceSub, Nat.reduceMul, Int.reduceToNat, Int.reduceLT, Int.reduceLE, Int.reduceEq, ml_i0, PX_ret, PX_nrm, hk, hdd, o1]
       refine fin0 ?_ ?_ ?_ (fun _ => rfl) <;> simp [holdE, stepE, hv, bump_next]
      ·by_cases o2 : (s.pools.length : Int) ≤ x.on
       ·have hv : preE s x = 6 := by simp [hpre, o1, o2]
        simp only [↓sxc, sx, se, ↓reduceIte, Nat.reduceEqDiff, Nat.reduceAdd, Nat.reduceLT, Nat.reduceLeDiff, Nat.reduceSub, Nat.reduceMul, Int.reduceToNat, Int.reduceLT, Int.reduceLE, Int.reduceEq, ml_i0, PX_ret, PX_nrm, hk, hdd, o1, o2]
        refine fin0 ?_ ?_ ?_ (fun _ => rfl) <;> simp [holdE, stepE, hv, bump_next]
       ·have h0 : 0 ≤ x.on := by omega
        have hp' : s.pools[x.on.toNat]? = some (s.pools[x.on.toNat]'(by omega)) := List.getElem?_eq_getElem _
        rw [if_neg (by omega)] at hpre
        have hq := hp _ (List.mem_of_getElem? hp')
        generalize s.pools[x.on.toNat]'(by omega) = p at *
        have hs : sizeAt s x.on = p.size := by simp [sizeAt, hp']
        rw [hs] at hpre
        have hul : x.on < (u.length : Int) := by omega
        have hut : x.on.toNat < u.length := by omega
        have hu' : u[x.on.toNat]? = some (uAt u x.on) := by rw [List.getElem?_eq_getElem hut]; simp [uAt, List.getD, List.getElem?_eq_getElem hut]
        have hub := hb0 (uAt u x.on) (List.mem_of_getElem? hu')
        by_cases q1 : x.cnt < 1
        ·have hv : preE s x = 2 := by simp [hpre, q1]
         simp only [↓sxc, sx, se, ↓reduceIte, Nat.reduceEqDiff, Nat.reduceAdd, Nat.reduceLT, Nat.reduceLeDiff, Nat.reduceSub, Nat.reduceMul, Int.reduceToNat, Int.reduceLT, Int.reduceLE, Int.reduceEq, ml_i0, PX_ret, PX_nrm, hk, hdd, o1, o2, q1, h0, hp']
         refine fin0 ?_ ?_ ?_ (fun _ => rfl) <;> simp [holdE, stepE, hv, bump_next]
        ·by_cases q2 : p.size < x.cnt
         ·have hv : preE s x = 2 := by simp [hpre, q1, q2]
          simp only [↓sxc, sx, se, ↓reduceIte, Nat.reduceEqDiff, Nat.reduceAdd, Nat.reduceLT, Nat.reduceLeDiff, Nat.reduceSub, Nat.reduceMul, Int.reduceToNat, Int.reduceLT, Int.reduceLE, Int.reduceEq, ml_i0, PX_ret, PX_nrm, hk, hdd, o1, o2, q1, q2, h0, hp']
          refine fin0 ?_ ?_ ?_ (fun _ => rfl) <;> simp [holdE, stepE, hv, bump_next]
         ·have hv : preE s x = 0 := by simp [hpre, q1, q2]
          have w1 : wrapF .i64 (uAt u x.on - x.cnt) = uAt u x.on - x.cnt := wr_i64 (by omega) (by omega)
          have hus : uStep u x = u.set x.on.toNat (uAt u x.on - x.cnt) := by simp [uStep, hk]
          have hks : kStep k x = k := by simp [kStep, hk]
          by_cases f : 0 ≤ uAt u x.on - x.cnt
          ·have hg : ¬ uAt u x.on < x.cnt := by omega
           simp only [↓sxc, sx, se, ↓reduceIte, Nat.reduceEqDiff, Nat.reduceAdd, Nat.reduceLT, Nat.reduceLeDiff, Nat.reduceSub, Nat.reduceMul, Int.reduceToNat, Int.reduceLT, Int.reduceLE, Int.reduceEq, ml_i0, PX_ret, PX_nrm, hk, hdd, o1, o2, q1, q2, h0, hp', H.bp, H.ba, H.la, hul, hu', w1, n1, getset hut, f]
           refine ⟨by simp [holdE, stepE, hv, badE, hk, hs, hg], by simp only [bump_next, set_next]; omega, fun j h1 h2 => by simp [set_ne h1, bump_blk], by simp [hv, hus, Mem.set, Mem.bump, List.map_set], by simp [hv, hks, Mem.set, Mem.bump, (H.ab).symm, H.bb]⟩
          ·have hg : uAt u x.on < x.cnt := by omega
           simp only [↓sxc, sx, se, ↓reduceIte, Nat.reduceEqDiff, Nat.reduceAdd, Nat.reduceLT, Nat.reduceLeDiff, Nat.reduceSub, Nat.reduceMul, Int.reduceToNat, Int.reduceLT, Int.reduceLE, Int.reduceEq, ml_i0, PX_ret, PX_nrm, hk, hdd, o1, o2, q1, q2, h0, hp', H.bp, H.ba, H.la, hul, hu', w1, n1, getset hut, f]
           refine ⟨by simp [holdE, stepE, hv, badE, hk, hs, hg], by simp only [bump_next, set_next]; omega, fun j h1 h2 => by simp [set_ne h1, bump_blk], by simp [hv, hus, Mem.set, Mem.bump, List.map_set], by simp [hv, hks, Mem.set, Mem.bump, (H.ab).symm, H.bb]⟩
    ·by_cases hk : x.kind = 3
     ·by_cases hz : x.cnt = 0
      ·cases hdd : x.deep with
       | true =>
        have hv : preE s x = 1 := by simp [preE, hk, hdd]
        simp only [↓sxc, sx, se, ↓reduceIte, Nat.reduceEqDiff, Nat.reduceAdd, Nat.reduceLT, Nat.reduceLeDiff, Nat.reduceSub, Nat.reduceMul, Int.reduceToNat, Int.reduceLT, Int.reduceLE, Int.reduceEq, ml_i0, PX_ret, PX_nrm, hk, hz, hdd]
        refine fin0 ?_ ?_ ?_ (fun _ => rfl) <;> simp [holdE, stepE, hv, bump_next]
       | false =>
        have hpre : preE s x = if x.on < 0 ∨ (s.locks.length : Int) ≤ x.on then 6 else 0 := by simp [preE, nOf, hk, hz, hdd]
        by_cases o1 : x.on < 0
        ·have hv : preE s x = 6 := by simp [hpre, o1]
         simp only [↓sxc, sx, se, ↓reduceIte, Nat.reduceEqDiff, Nat.reduceAdd, Nat.reduceLT, Nat.reduceLeDiff, Nat.reduceSub, Nat.reduceMul, Int.reduceToNat, Int.reduceLT, Int.reduceLE, Int.reduceEq, ml_i0, PX_ret, PX_nrm, hk, hz, hdd, o1]
         refine fin0 ?_ ?_ ?_ (fun _ => rfl) <;> simp [holdE, stepE, hv, bump_next]
        ·by_cases o2 : (s.locks.length : Int) ≤ x.on
         ·have hv : preE s x = 6 := by simp [hpre, o1, o2]
          simp only [↓sxc, sx, se, ↓reduceIte, Nat.reduceEqDiff, Nat.reduceAdd, Nat.reduceLT, Nat.reduceLeDiff, Nat.reduceSub, Nat.reduceMul, Int.reduceToNat, Int.reduceLT, Int.reduceLE, Int.reduceEq, ml_i0, PX_ret, PX_nrm, hk, hz, hdd, o1, o2]
          refine fin0 ?_ ?_ ?_ (fun _ => rfl) <;> simp [holdE, stepE, hv, bump_next]
         ·have h0 : 0 ≤ x.on := by omega
          have hp' : s.locks[x.on.toNat]? = some (s.locks[x.on.toNat]'(by omega)) := List.getElem?_eq_getElem _
          rw [if_neg (by omega)] at hpre
          have hkl : x.on < (k.length : Int) := by omega
          have hkt : x.on.toNat < k.length := by omega
          have hk' : k[x.on.toNat]? = some (kAt k x.on) := by rw [List.getElem?_eq_getElem hkt]; simp [kAt, List.getD, List.getElem?_eq_getElem hkt]
          have hv : preE s x = 0 := hpre
          have hus : uStep u x = u := by simp [uStep, hk]
          have hks : kStep k x = k.set x.on.toNat true := by simp [kStep, hk]
          cases f : kAt k x.on
          ·rw [f] at hk'
           simp only [↓sxc, sx, se, ↓reduceIte, Nat.reduceEqDiff, Nat.reduceAdd, Nat.reduceLT, Nat.reduceLeDiff, Nat.reduceSub, Nat.reduceMul, Int.reduceToNat, Int.reduceLT, Int.reduceLE, Int.reduceEq, ml_i0, PX_ret, PX_nrm, hk, hz, hdd, o1, o2, h0, H.bp, H.bb, H.lb, hkl, hk', n1, f]
           refine ⟨by simp [holdE, stepE, hv, badE, hk, f], by simp only [bump_next, set_next]; omega, fun j h1 h2 => by simp [set_ne h2, bump_blk], by simp [hv, hus, Mem.set, Mem.bump, H.ab, H.ba], by simp [hv, hks, Mem.set, Mem.bump, List.map_set]⟩
          ·rw [f] at hk'
           simp only [↓sxc, sx, se, ↓reduceIte, Nat.reduceEqDiff, Nat.reduceAdd, Nat.reduceLT, Nat.reduceLeDiff, Nat.reduceSub, Nat.reduceMul, Int.reduceToNat, Int.reduceLT, Int.reduceLE, Int.reduceEq, ml_i0, PX_ret, PX_nrm, hk, hz, hdd, o1, o2, h0, H.bp, H.bb, H.lb, hkl, hk', n1, f]
           refine ⟨by simp [holdE, stepE, hv, badE, hk, f], by simp only [bump_next, set_next]; omega, fun j h1 h2 => by simp [set_ne h2, bump_blk], by simp [hv, hus, Mem.set, Mem.bump, H.ab, H.ba], by simp [hv, hks, Mem.set, Mem.bump, List.map_set]⟩
      ·have hv : preE s x = 1 := by simp [preE, hk, hz]
       simp only [↓sxc, sx, se, ↓reduceIte, Nat.reduceEqDiff, Nat.reduceAdd, Nat.reduceLT, Nat.reduceLeDiff, Nat.reduceSub, Nat.reduceMul, Int.reduceToNat, Int.reduceLT, Int.reduceLE, Int.reduceEq, ml_i0, PX_ret, PX_nrm, hk, hz]
       refine fin0 ?_ ?_ ?_ (fun _ => rfl) <;> simp [holdE, stepE, hv, bump_next]
     ·by_cases hk : x.kind = 4
      ·by_cases hz : x.cnt = 0
       ·cases hdd : x.deep with
        | true =>
         have hv : preE s x = 1 := by simp [preE, hk, hdd]
         simp only [↓sxc, sx, se, ↓reduceIte, Nat.reduceEqDiff, Nat.reduceAdd, Nat.reduceLT, Nat.reduceLeDiff, Nat.reduceSub, Nat.reduceMul, Int.reduceToNat, Int.reduceLT, Int.reduceLE, Int.reduceEq, ml_i0, PX_ret, PX_nrm, hk, hz, hdd]
         refine fin0 ?_ ?_ ?_ (fun _ => rfl) <;> simp [holdE, stepE, hv, bump_next]
        | false =>
         have hpre : preE s x = if x.on < 0 ∨ (s.locks.length : Int) ≤ x.on then 6 else 0 := by simp [preE, nOf, hk, hz, hdd]
         by_cases o1 : x.on < 0
         ·have hv : preE s x = 6 := by simp [hpre, o1]
          simp only [↓sxc, sx, se, ↓reduceIte, Nat.reduceEqDiff, Nat.reduceAdd, Nat.reduceLT, Nat.reduceLeDiff, Nat.reduceSub, Nat.reduceMul, Int.reduceToNat, Int.reduceLT, Int.reduceLE, Int.reduceEq, ml_i0, PX_ret, PX_nrm, hk, hz, hdd, o1]
          refine fin0 ?_ ?_ ?_ (fun _ => rfl) <;> simp [holdE, stepE, hv, bump_next]
         ·by_cases o2 : (s.locks.length : Int) ≤ x.on
          ·have hv : preE s x = 6 := by simp [hpre, o1, o2]
           simp only [↓sxc, sx, se, ↓reduceIte, Nat.reduceEqDiff, Nat.reduceAdd, Nat.reduceLT, Nat.reduceLeDiff, Nat.reduceSub, Nat.reduceMul, Int.reduceToNat, Int.reduceLT, Int.reduceLE, Int.reduceEq, ml_i0, PX_ret, PX_nrm, hk, hz, hdd, o1, o2]
           refine fin0 ?_ ?_ ?_ (fun _ => rfl) <;> simp [holdE, stepE, hv, bump_next]
          ·have h0 : 0 ≤ x.on := by omega
           have hp' : s.locks[x.on.toNat]? = some (s.locks[x.on.toNat]'(by omega)) := List.getElem?_eq_getElem _
           rw [if_neg (by omega)] at hpre
           have hkl : x.on < (k.length : Int) := by omega
           have hkt : x.on.toNat < k.length := by omega
           have hk' : k[x.on.toNat]? = some (kAt k x.on) := by rw [List.getElem?_eq_getElem hkt]; simp [kAt, List.getD, List.getElem?_eq_getElem hkt]
           have hv : preE s x = 0 := hpre
           have hus : uStep u x = u := by simp [uStep, hk]
           have hks : kStep k x = k.set x.on.toNat false := by simp [kStep, hk]
           cases f : kAt k x.on
           ·rw [f] at hk'
            simp only [↓sxc, sx, se, ↓reduceIte, Nat.reduceEqDiff, Nat.reduceAdd, Nat.reduceLT, Nat.reduceLeDiff, Nat.reduceSub, Nat.reduceMul, Int.reduceToNat, Int.reduceLT, Int.reduceLE, Int.reduceEq, ml_i0, PX_ret, PX_nrm, hk, hz, hdd, o1, o2, h0, H.bp, H.bb, H.lb, hkl, hk', n1, f]
            refine ⟨by simp [holdE, stepE, hv, badE, hk, f], by simp only [bump_next, set_next]; omega, fun j h1 h2 => by simp [set_ne h2, bump_blk], by simp [hv, hus, Mem.set, Mem.bump, H.ab, H.ba], by simp [hv, hks, Mem.set, Mem.bump, List.map_set]⟩
           ·rw [f] at hk'
            simp only [↓sxc, sx, se, ↓reduceIte, Nat.reduceEqDiff, Nat.reduceAdd, Nat.reduceLT, Nat.reduceLeDiff, Nat.reduceSub, Nat.reduceMul, Int.reduceToNat, Int.reduceLT, Int.reduceLE, Int.reduceEq, ml_i0, PX_ret, PX_nrm, hk, hz, hdd, o1, o2, h0, H.bp, H.bb, H.lb, hkl, hk', n1, f]
            refine ⟨by simp [holdE, stepE, hv, badE, hk, f], by simp only [bump_next, set_next]; omega, fun j h1 h2 => by simp [set_ne h2, bump_blk], by simp [hv, hus, Mem.set, Mem.bump, H.ab, H.ba], by simp [hv, hks, Mem.set, Mem.bump, List.map_set]⟩
       ·have hv : preE s x = 1 := by simp [preE, hk, hz]
        simp only [↓sxc, sx, se, ↓reduceIte, Nat.reduceEqDiff, Nat.reduceAdd, Nat.reduceLT, Nat.reduceLeDiff, Nat.reduceSub, Nat.reduceMul, Int.reduceToNat, Int.reduceLT, Int.reduceLE, Int.reduceEq, ml_i0, PX_ret, PX_nrm, hk, hz]
        refine fin0 ?_ ?_ ?_ (fun _ => rfl) <;> simp [holdE, stepE, hv, bump_next]
      ·by_cases hk : x.kind = 5
       ·by_cases hz : x.cnt = 0
        ·cases hdd : x.deep with
         | true =>
          have hv : preE s x = 1 := by simp [preE, hk, hdd]
          simp only [↓sxc, sx, se, ↓reduceIte, Nat.reduceEqDiff, Nat.reduceAdd, Nat.reduceLT, Nat.reduceLeDiff, Nat.reduceSub, Nat.reduceMul, Int.reduceToNat, Int.reduceLT, Int.reduceLE, Int.reduceEq, ml_i0, PX_ret, PX_nrm, hk, hz, hdd]
          refine fin0 ?_ ?_ ?_ (fun _ => rfl) <;> simp [holdE, stepE, hv, bump_next]
         | false =>
          have hpre : preE s x = if x.on < 0 ∨ (s.cls.length : Int) ≤ x.on then 6 else 0 := by simp [preE, nOf, hk, hz, hdd]
          by_cases o1 : x.on < 0
          ·have hv : preE s x = 6 := by simp [hpre, o1]
           simp only [↓sxc, sx, se, ↓reduceIte, Nat.reduceEqDiff, Nat.reduceAdd, Nat.reduceLT, Nat.reduceLeDiff, Nat.reduceSub, Nat.reduceMul, Int.reduceToNat, Int.reduceLT, Int.reduceLE, Int.reduceEq, ml_i0, PX_ret, PX_nrm, hk, hz, hdd, o1]
           refine fin0 ?_ ?_ ?_ (fun _ => rfl) <;> simp [holdE, stepE, hv, bump_next]
          ·by_cases o2 : (s.cls.length : Int) ≤ x.on
           ·have hv : preE s x = 6 := by simp [hpre, o1, o2]
            simp only [↓sxc, sx, se, ↓reduceIte, Nat.reduceEqDiff, Nat.reduceAdd, Nat.reduceLT, Nat.reduceLeDiff, Nat.reduceSub, Nat.reduceMul, Int.reduceToNat, Int.reduceLT, Int.reduceLE, Int.reduceEq, ml_i0, PX_ret, PX_nrm, hk, hz, hdd, o1, o2]
            refine fin0 ?_ ?_ ?_ (fun _ => rfl) <;> simp [holdE, stepE, hv, bump_next]
           ·have h0 : 0 ≤ x.on := by omega
            have hp' : s.cls[x.on.toNat]? = some (s.cls[x.on.toNat]'(by omega)) := List.getElem?_eq_getElem _
            rw [if_neg (by omega)] at hpre
            generalize s.cls[x.on.toNat]'(by omega) = c at *
            have hs : srvAt s x.on = c.srv := by simp [srvAt, hp']
            have hv : preE s x = 0 := hpre
            have hus : uStep u x = u := by simp [uStep, hk]
            have hks : kStep k x = k := by simp [kStep, hk]
            cases f : c.srv
            ·simp only [↓sxc, sx, se, ↓reduceIte, Nat.reduceEqDiff, Nat.reduceAdd, Nat.reduceLT, Nat.reduceLeDiff, Nat.reduceSub, Nat.reduceMul, Int.reduceToNat, Int.reduceLT, Int.reduceLE, Int.reduceEq, ml_i0, PX_ret, PX_nrm, hk, hz, hdd, o1, o2, h0, hp', f]
             exact ⟨by simp [holdE, stepE, hv, badE, hk, hs, f], by simp [bump_next], fun j h1 h2 => rfl, by simp [hv, hus, Mem.bump, H.ba], by simp [hv, hks, Mem.bump, H.bb]⟩
            ·simp only [↓sxc, sx, se, ↓reduceIte, Nat.reduceEqDiff, Nat.reduceAdd, Nat.reduceLT, Nat.reduceLeDiff, Nat.reduceSub, Nat.reduceMul, Int.reduceToNat, Int.reduceLT, Int.reduceLE, Int.reduceEq, ml_i0, PX_ret, PX_nrm, hk, hz, hdd, o1, o2, h0, hp', f]
             exact ⟨by simp [holdE, stepE, hv, badE, hk, hs, f], by simp [bump_next], fun j h1 h2 => rfl, by simp [hv, hus, Mem.bump, H.ba], by simp [hv, hks, Mem.bump, H.bb]⟩
        ·have hv : preE s x = 1 := by simp [preE, hk, hz]
         simp only [↓sxc, sx, se, ↓reduceIte, Nat.reduceEqDiff, Nat.reduceAdd, Nat.reduceLT, Nat.reduceLeDiff, Nat.reduceSub, Nat.reduceMul, Int.reduceToNat, Int.reduceLT, Int.reduceLE, Int.reduceEq, ml_i0, PX_ret, PX_nrm, hk, hz]
         refine fin0 ?_ ?_ ?_ (fun _ => rfl) <;> simp [holdE, stepE, hv, bump_next]
       ·omega
end Go.Am
namespace Go.Am
open Go
set_option linter.unusedSimpArgs false
set_option linter.unusedVariables false
set_option maxRecDepth 100000
structure Rl (s : Sys) (pre : List Stp) (u : List Int) (k : List Bool) : Prop where
 ul : u.length = s.pools.length
 kl : k.length = s.locks.length
 u : ∀ j, j < s.pools.length → u[j]? = some (bal j 0 pre)
 k : ∀ j, j < s.locks.length → ∃ b, k[j]? = some b ∧ bal j 1 pre = if b = true then 1 else 0
theorem stepE_congr {s : Sys} {x : Stp} {b0 b1 c0 c1 : Int} (h0 : preE s x = 0 → (x.kind = 1 ∨ x.kind = 2) → b0 = c0) (h1 : preE s x = 0 → (x.kind = 3 ∨ x.kind = 4) → b1 = c1) : stepE s x b0 b1 = stepE s x c0 c1 := by
 unfold stepE
 by_cases hp : preE s x = 0
 ·simp only [hp, ne_eq, not_true, if_false]
  have : badE s x b0 b1 = badE s x c0 c1 := by
   unfold badE
   by_cases k1 : x.kind = 1
   ·simp only [k1, if_true, h0 hp (.inl k1)]
   ·by_cases k2 : x.kind = 2
    ·simp only [k1, k2, if_false, if_true, h0 hp (.inr k2)]
    ·by_cases k3 : x.kind = 3
     ·simp only [k1, k2, k3, if_false, if_true, h1 hp (.inl k3), Int.reduceEq]
     ·by_cases k4 : x.kind = 4
      ·simp only [k1, k2, k3, k4, if_false, if_true, h1 hp (.inr k4), Int.reduceEq]
      ·simp only [k1, k2, k3, k4, if_false]
  rw [this]
 ·simp only [hp, ne_eq, not_false_iff, if_true]
theorem preE_on {s : Sys} {x : Stp} (h : preE s x = 0) : 0 ≤ x.on ∧ x.on < nOf s x ∧ 1 ≤ x.kind ∧ x.kind ≤ 5 := by
 unfold preE at h
 split at h
 ·omega
 ·rename_i h1
  have k1 : ¬ x.kind < 1 := fun h => h1 (.inl h)
  have k2 : ¬ 5 < x.kind := fun h => h1 (.inr (.inl h))
  split at h
  ·omega
  ·omega
theorem Rl.uAt {s : Sys} {pre : List Stp} {u : List Int} {k : List Bool} (h : Rl s pre u k) {x : Stp} (hp : preE s x = 0) (hk : x.kind = 1 ∨ x.kind = 2) : Go.Am.uAt u x.on = bal x.on 0 pre ∧ x.on.toNat < u.length ∧ ((x.on.toNat : Nat) : Int) = x.on := by
 obtain ⟨o1, o2, _⟩ := preE_on hp
 have : nOf s x = s.pools.length := by
  unfold nOf
  rcases hk with hk | hk <;> simp [hk]
 have hlt : x.on.toNat < s.pools.length := by omega
 have := h.u _ hlt
 refine ⟨?_, by rw [h.ul]; exact hlt, by omega⟩
 unfold Go.Am.uAt
 rw [List.getD_eq_getElem?_getD, this, Option.getD_some]
 rw [show ((x.on.toNat : Nat) : Int) = x.on by omega]
theorem Rl.kAt {s : Sys} {pre : List Stp} {u : List Int} {k : List Bool} (h : Rl s pre u k) {x : Stp} (hp : preE s x = 0) (hk : x.kind = 3 ∨ x.kind = 4) : (if Go.Am.kAt k x.on = true then (1 : Int) else 0) = bal x.on 1 pre ∧ x.on.toNat < k.length ∧ ((x.on.toNat : Nat) : Int) = x.on := by
 obtain ⟨o1, o2, _⟩ := preE_on hp
 have : nOf s x = s.locks.length := by
  unfold nOf
  rcases hk with hk | hk <;> simp [hk]
 have hlt : x.on.toNat < s.locks.length := by omega
 obtain ⟨b, hb, hb2⟩ := h.k _ hlt
 refine ⟨?_, by rw [h.kl]; exact hlt, by omega⟩
 unfold Go.Am.kAt
 rw [List.getD_eq_getElem?_getD, hb, Option.getD_some]
 rw [show ((x.on.toNat : Nat) : Int) = x.on by omega] at hb2
 rw [hb2]
theorem Rl.holdE {s : Sys} {pre : List Stp} {u : List Int} {k : List Bool} (h : Rl s pre u k) (x : Stp) : Go.Am.holdE s u k x = stepE s x (bal x.on 0 pre) (bal x.on 1 pre) := by
 unfold Go.Am.holdE
 exact stepE_congr (fun hp hk => (h.uAt hp hk).1) (fun hp hk => (h.kAt hp hk).1)
theorem stepE_zero {s : Sys} {x : Stp} {b0 b1 : Int} (h : stepE s x b0 b1 = 0) : preE s x = 0 ∧ badE s x b0 b1 = false := by
 unfold stepE at h
 split at h
 ·rename_i h1; exact absurd h h1
 ·rename_i h1
  split at h
  ·omega
  ·rename_i h2; exact ⟨by simpa using h1, by simpa using h2⟩
theorem bal_one {on kind : Int} {pre : List Stp} {x : Stp} : bal on kind (pre ++ [x]) = bal on kind pre + delta on kind x := by
 rw [bal_append]
 simp [bal]
theorem Rl.step {s : Sys} {pre : List Stp} {u : List Int} {k : List Bool} (h : Rl s pre u k) {x : Stp} (he : stepE s x (bal x.on 0 pre) (bal x.on 1 pre) = 0) : Rl s (pre ++ [x]) (uStep u x) (kStep k x) := by
 obtain ⟨hp, hb⟩ := stepE_zero he
 refine ⟨by rw [uStep_len]; exact h.ul, by rw [kStep_len]; exact h.kl, fun j hj => ?_, fun j hj => ?_⟩
 ·rw [bal_one]
  have hu := h.u j hj
  unfold uStep
  by_cases k1 : x.kind = 1
  ·obtain ⟨a1, a2, a3⟩ := h.uAt hp (.inl k1)
   rw [if_pos k1, List.getElem?_set]
   by_cases e : x.on.toNat = j
   ·rw [if_pos e, if_pos a2, a1]
    have e2 : x.on = (j : Int) := by omega
    simp [delta, k1, e2]
   ·rw [if_neg e, hu]
    have : ¬ x.on = (j : Int) := by omega
    simp [delta, this]
  ·by_cases k2 : x.kind = 2
   ·obtain ⟨a1, a2, a3⟩ := h.uAt hp (.inr k2)
    rw [if_neg k1, if_pos k2, List.getElem?_set]
    by_cases e : x.on.toNat = j
    ·rw [if_pos e, if_pos a2, a1]
     have e2 : x.on = (j : Int) := by omega
     simp [delta, k2, e2]
     omega
    ·rw [if_neg e, hu]
     have : ¬ x.on = (j : Int) := by omega
     simp [delta, this]
   ·rw [if_neg k1, if_neg k2, hu]
    simp [delta, k1, k2]
 ·rw [bal_one]
  obtain ⟨b, hk, hk2⟩ := h.k j hj
  unfold kStep
  by_cases k3 : x.kind = 3
  ·obtain ⟨a1, a2, a3⟩ := h.kAt hp (.inl k3)
   rw [if_pos k3, List.getElem?_set]
   by_cases e : x.on.toNat = j
   ·have e2 : x.on = (j : Int) := by omega
    refine ⟨true, by rw [if_pos e, if_pos a2], ?_⟩
    simp [badE, k3] at hb
    rw [← a1] at hb
    rw [← e2, ← a1]
    have : ¬ Go.Am.kAt k x.on = true := by
     intro h1
     rw [if_pos h1] at hb
     omega
    rw [if_neg this]
    simp [delta, k3]
   ·refine ⟨b, by rw [if_neg e, hk], ?_⟩
    have : ¬ x.on = (j : Int) := by omega
    rw [hk2]
    simp [delta, this]
  ·by_cases k4 : x.kind = 4
   ·obtain ⟨a1, a2, a3⟩ := h.kAt hp (.inr k4)
    rw [if_neg k3, if_pos k4, List.getElem?_set]
    by_cases e : x.on.toNat = j
    ·have e2 : x.on = (j : Int) := by omega
     refine ⟨false, by rw [if_pos e, if_pos a2], ?_⟩
     simp [badE, k4] at hb
     rw [← a1] at hb
     rw [← e2, ← a1]
     have : Go.Am.kAt k x.on = true := by
      apply Classical.byContradiction
      intro h1
      rw [if_neg h1] at hb
      omega
     rw [if_pos this]
     simp [delta, k4]
    ·refine ⟨b, by rw [if_neg e, hk], ?_⟩
     have : ¬ x.on = (j : Int) := by omega
     rw [hk2]
     simp [delta, this]
   ·refine ⟨b, by rw [if_neg k3, if_neg k4, hk], ?_⟩
    rw [hk2]
    simp [delta, k3, k4]
theorem Rl.start {s : Sys} : Rl s [] (List.replicate s.pools.length 0) (List.replicate s.locks.length false) :=
 ⟨by simp, by simp, fun j hj => by simp [hj, bal], fun j hj => ⟨false, by simp [hj], by simp [bal]⟩⟩
theorem Rl.over0 {s : Sys} {pre : List Stp} {u : List Int} {k : List Bool} (h : Rl s pre u k) : u.any (fun n => decide (0 < n)) = over pre 0 s.pools.length := by
 unfold over
 rw [Bool.eq_iff_iff, List.any_eq_true, List.any_eq_true]
 constructor
 ·rintro ⟨n, hn, h0⟩
  obtain ⟨j, hj, rfl⟩ := List.getElem_of_mem hn
  have := h.u j (by rw [← h.ul]; exact hj)
  rw [List.getElem?_eq_getElem hj] at this
  refine ⟨j, List.mem_range.2 (by rw [← h.ul]; exact hj), ?_⟩
  rw [← Option.some.inj this]
  exact h0
 ·rintro ⟨j, hj, h0⟩
  exact ⟨_, List.mem_of_getElem? (h.u j (List.mem_range.1 hj)), h0⟩
theorem Rl.over1 {s : Sys} {pre : List Stp} {u : List Int} {k : List Bool} (h : Rl s pre u k) : k.any (fun b => decide (true = b)) = over pre 1 s.locks.length := by
 unfold over
 rw [Bool.eq_iff_iff, List.any_eq_true, List.any_eq_true]
 constructor
 ·rintro ⟨n, hn, h0⟩
  obtain ⟨j, hj, rfl⟩ := List.getElem_of_mem hn
  obtain ⟨b, h1, h2⟩ := h.k j (by rw [← h.kl]; exact hj)
  rw [List.getElem?_eq_getElem hj] at h1
  refine ⟨j, List.mem_range.2 (by rw [← h.kl]; exact hj), ?_⟩
  simp at h0
  rw [h2, ← Option.some.inj h1, if_pos h0]
  rfl
 ·rintro ⟨j, hj, h0⟩
  obtain ⟨b, h1, h2⟩ := h.k j (List.mem_range.1 hj)
  refine ⟨_, List.mem_of_getElem? h1, ?_⟩
  cases b with
  | true => rfl
  | false => rw [h2] at h0; simp at h0
theorem sp114 {F : Nat → Option Fn} (hA : HasA F) {lo : Nat} {m : Mem} (s : Sys) (c : Cls) (hp : ∀ p ∈ s.pools, p.size ≤ 1000) (h1 : s.pools.length < 100) (h2 : s.locks.length < 100) : callw F 114 [vSys s, vCls c] lo m = some (vi (clsE s c), m) := by
 have loop : c.steps.length < 100 → ∀ (p a b : Nat) (t : List Stp) (i : Nat) (u : List Int) (k : List Bool) (m' : Mem) (Q : Ex → St → Prop), c.steps.drop i = t → Rl s (c.steps.take i) u k → Hd m.next m' p a b u k → (∀ x ∈ c.steps.take i, -1000 ≤ x.cnt ∧ x.cnt ≤ 1000) →
   (stepsE s (c.steps.take i) t ≠ 0 → ∀ m', Q .ret ⟨[(4, vi (stepsE s (c.steps.take i) t))], [], [], m'⟩) →
   (stepsE s (c.steps.take i) t = 0 → ∀ u k m' e, Rl s c.steps u k → Hd m.next m' p a b u k → Q (.exit 0) ⟨(5, .ptr p 0 0) :: e, [(2, vSys s)], [], m'⟩) →
   W F m.next L114_1 ⟨[(5, .ptr p 0 0), (30, vStps c.steps), (31, vi c.steps.length), (32, vi i)], [(2, vSys s)], [], m'⟩ Q := by
  intro hlen p a b t
  induction t with
  | nil =>
   intro i u k m' Q hd hr hh hb q1 q2
   have hlt := drop_nil hd
   rw [W_L (c := L114_1) rfl]
   have : ¬ ((i : Nat) : Int) < (c.steps.length : Int) := by omega
   simp only [↓sxc, sx, se, ↓reduceIte, Nat.reduceEqDiff, Nat.reduceAdd, Nat.reduceLT, Nat.reduceLeDiff, Nat.reduceSub, Nat.reduceMul, Int.reduceToNat, Int.reduceLT, Int.reduceLE, Int.reduceEq, ml_i0, this]
   rw [List.take_of_length_le hlt] at hr
   exact q2 rfl u k m' _ hr hh
  | cons x t ih =>
   intro i u k m' Q hd hr hh hb q1 q2
   obtain ⟨hg, hd', hlt⟩ := drop_cons hd
   rw [W_L (c := L114_1) rfl]
   have : ((i : Nat) : Int) < (c.steps.length : Int) := by omega
   have wr : wrapF .i64 ((i : Int) + 1) = ((i + 1 : Nat) : Int) := by rw [wr_i64 (by omega) (by omega)]; rfl
   have hub : ∀ n ∈ u, -1000000 ≤ n ∧ n ≤ 1000000 := by
    intro n hn
    obtain ⟨j, hj, rfl⟩ := List.getElem_of_mem hn
    have h3 := hr.u j (by rw [← hr.ul]; exact hj)
    rw [List.getElem?_eq_getElem hj] at h3
    rw [Option.some.inj h3]
    have := bal_bd (on := j) (kind := 0) hb
    rw [List.length_take] at this
    have : min i c.steps.length ≤ 100 := by omega
    omega
   obtain ⟨v, m'', hc, ho⟩ := sp122 hA (lo := m.next) s x hh hr.ul hr.kl hp hub
   have hv := ho.res
   rw [hr.holdE] at hv
   subst hv
   unfold stepsE at q1 q2
   by_cases he : stepE s x (bal x.on 0 (c.steps.take i)) (bal x.on 1 (c.steps.take i)) = 0
   ·rw [if_neg (by simpa using he)] at q1 q2
    simp only [↓sxc, sx, se, ↓reduceIte, Nat.reduceEqDiff, Nat.reduceAdd, Nat.reduceLT, Nat.reduceLeDiff, Nat.reduceSub, Nat.reduceMul, Int.reduceToNat, Int.reduceLT, Int.reduceLE, Int.reduceEq, ml_i0, this, hg, hc, he, wr]
    have hpr := (stepE_zero he).1
    have hr' := hr.step he
    rw [← take_succ_drop hd] at q1 q2 hr'
    refine ih (i + 1) (uStep u x) (kStep k x) m'' Q hd' hr' ?_ (fun y hy => ?_) q1 q2
    ·have hba := ho.ba
     have hbb := ho.bb
     rw [if_pos hpr] at hba hbb
     have hn := ho.nx
     exact ⟨hh.pa, hh.pb, hh.ab, hh.lp, hh.la, hh.lb, Nat.lt_of_lt_of_le hh.hp hn, Nat.lt_of_lt_of_le hh.ha hn, Nat.lt_of_lt_of_le hh.hb hn, by rw [ho.oth p hh.pa hh.pb, uStep_len, kStep_len]; exact hh.bp, hba, hbb⟩
    ·rw [take_succ_drop hd] at hy
     rcases List.mem_append.1 hy with hy | hy
     ·exact hb y hy
     ·simp at hy
      subst hy
      exact stepE_cnt he hp
   ·rw [if_pos he] at q1
    simp only [↓sxc, sx, se, ↓reduceIte, Nat.reduceEqDiff, Nat.reduceAdd, Nat.reduceLT, Nat.reduceLeDiff, Nat.reduceSub, Nat.reduceMul, Int.reduceToNat, Int.reduceLT, Int.reduceLE, Int.reduceEq, ml_i0, this, hg, hc, he]
    exact q1 he _
 refine call_p hA.h114 rfl ?_
 by_cases w1 : c.wk < 0
 ·have e : clsE s c = 2 := by simp [clsE, w1]
  simp only [↓sxc, sx, se, ↓reduceIte, Nat.reduceEqDiff, Nat.reduceAdd, Nat.reduceLT, Nat.reduceLeDiff, Nat.reduceSub, Nat.reduceMul, Int.reduceToNat, Int.reduceLT, Int.reduceLE, Int.reduceEq, ml_i0, w1, e]
 ·by_cases w2 : 4 < c.wk
  ·have e : clsE s c = 2 := by simp [clsE, w2]
   simp only [↓sxc, sx, se, ↓reduceIte, Nat.reduceEqDiff, Nat.reduceAdd, Nat.reduceLT, Nat.reduceLeDiff, Nat.reduceSub, Nat.reduceMul, Int.reduceToNat, Int.reduceLT, Int.reduceLE, Int.reduceEq, ml_i0, w1, w2, e]
  ·by_cases l1 : (c.steps.length : Int) < 1
   ·have e : clsE s c = 9 := by
     have : c.steps.length < 1 := by omega
     simp only [clsE, w1, w2, or_self, if_false, this, true_or, if_true]
    simp only [↓sxc, sx, se, ↓reduceIte, Nat.reduceEqDiff, Nat.reduceAdd, Nat.reduceLT, Nat.reduceLeDiff, Nat.reduceSub, Nat.reduceMul, Int.reduceToNat, Int.reduceLT, Int.reduceLE, Int.reduceEq, ml_i0, w1, w2, l1, e]
   ·by_cases l2 : 12 < (c.steps.length : Int)
    ·have e : clsE s c = 9 := by
      have : 12 < c.steps.length := by omega
      simp only [clsE, w1, w2, or_self, if_false, this, or_true, if_true]
     simp only [↓sxc, sx, se, ↓reduceIte, Nat.reduceEqDiff, Nat.reduceAdd, Nat.reduceLT, Nat.reduceLeDiff, Nat.reduceSub, Nat.reduceMul, Int.reduceToNat, Int.reduceLT, Int.reduceLE, Int.reduceEq, ml_i0, w1, w2, l1, l2, e]
    ·have hlen : c.steps.length < 100 := by omega
     have e : clsE s c = if stepsE s [] c.steps ≠ 0 then stepsE s [] c.steps else if over c.steps 0 s.pools.length = true then 11 else if over c.steps 1 s.locks.length = true then 11 else 0 := by
      have a1 : ¬ c.steps.length < 1 := by omega
      have a2 : ¬ 12 < c.steps.length := by omega
      simp only [clsE, w1, w2, or_self, if_false, a1, a2]
     obtain ⟨v, m1, hc, a, b, rfl, hab, la, lb, ha, hb, hba, hbb, hold⟩ := sp121 hA (lo := m.next) (m := m) s h1 h2
     have hml : m.next ≤ m1.next := by omega
     simp only [↓sxc, sx, se, ↓reduceIte, Nat.reduceEqDiff, Nat.reduceAdd, Nat.reduceLT, Nat.reduceLeDiff, Nat.reduceSub, Nat.reduceMul, Int.reduceToNat, Int.reduceLT, Int.reduceLE, Int.reduceEq, ml_i0, w1, w2, l1, l2, hc, hml]
     have na : a ≠ m1.next := by omega
     have nb : b ≠ m1.next := by omega
     refine loop hlen m1.next a b c.steps 0 (List.replicate s.pools.length 0) (List.replicate s.locks.length false) _ _ rfl Rl.start ⟨na.symm, nb.symm, hab, by omega, la, lb, Nat.lt_succ_self _, Nat.lt_succ_of_lt ha, Nat.lt_succ_of_lt hb, by simp [Mem.set], by simp [Mem.set, Mem.bump, na, hba], by simp [Mem.set, Mem.bump, nb, hbb]⟩ (by simp) (fun h m' => ?_) (fun h u k m' e1 hr hh => ?_)
     ·rw [if_pos (by simpa using h)] at e
      simp only [↓sxc, sx, se, ↓reduceIte, Nat.reduceEqDiff, Nat.reduceAdd, Nat.reduceLT, Nat.reduceLeDiff, Nat.reduceSub, Nat.reduceMul, Int.reduceToNat, Int.reduceLT, Int.reduceLE, Int.reduceEq, ml_i0, e]
     ·rw [if_neg (by simpa using h)] at e
      have hS1 : Sl m' 1 (.row 1 b 0 k.length) (k.map .bool) := by
       have := Sl.row hh.bb
       rw [List.length_map] at this
       exact this
      have hS0 : Sl m' 1 (.row 1 a 0 u.length) (u.map vi) := by
       have := Sl.row hh.ba
       rw [List.length_map] at this
       exact this
      have c1 := sx154 hA (lo := m.next) k true hS1 (by rw [hr.kl]; omega)
      have c0 := sx120 hA (lo := m.next) u (f := 155) (cs := []) (p := fun n => decide (0 < n)) hS0 ⟨by decide, fun x _ lo m => sp155 hA x⟩ (by rw [hr.ul]; omega)
      rw [hr.over1] at c1
      rw [hr.over0] at c0
      cases o1 : over c.steps 1 s.locks.length with
      | true =>
       have e' : clsE s c = 11 := by
        rw [e, o1]
        by_cases o0 : over c.steps 0 s.pools.length = true <;> simp [o0]
       rw [o1] at c1
       simp only [↓sxc, sx, se, ↓reduceIte, Nat.reduceEqDiff, Nat.reduceAdd, Nat.reduceLT, Nat.reduceLeDiff, Nat.reduceSub, Nat.reduceMul, Int.reduceToNat, Int.reduceLT, Int.reduceLE, Int.reduceEq, ml_i0, hh.bp, c1, e']
      | false =>
       rw [o1] at c1
       cases o0 : over c.steps 0 s.pools.length with
       | true =>
        have e' : clsE s c = 11 := by rw [e, o0]; simp
        rw [o0] at c0
        simp only [↓sxc, sx, se, ↓reduceIte, Nat.reduceEqDiff, Nat.reduceAdd, Nat.reduceLT, Nat.reduceLeDiff, Nat.reduceSub, Nat.reduceMul, Int.reduceToNat, Int.reduceLT, Int.reduceLE, Int.reduceEq, ml_i0, hh.bp, c1, c0, e']
       | false =>
        have e' : clsE s c = 0 := by rw [e, o0, o1]; simp
        rw [o0] at c0
        simp only [↓sxc, sx, se, ↓reduceIte, Nat.reduceEqDiff, Nat.reduceAdd, Nat.reduceLT, Nat.reduceLeDiff, Nat.reduceSub, Nat.reduceMul, Int.reduceToNat, Int.reduceLT, Int.reduceLE, Int.reduceEq, ml_i0, hh.bp, c1, c0, e']
end Go.Am
namespace Go.Am
open Go
set_option linter.unusedSimpArgs false
set_option linter.unusedVariables false
set_option maxRecDepth 100000
theorem any_comm {l : List (List UInt8)} {x : List UInt8} : (l.any fun y => decide (x = y)) = l.any fun y => decide (y = x) := by
 congr 1
 funext y
 rw [Bool.eq_iff_iff]
 simp only [decide_eq_true_iff]
 exact eq_comm
theorem sp49 {F : Nat → Option Fn} (hA : HasA F) {lo : Nat} {m : Mem} (s : Sys) : callw F 49 [vSys s] lo m = some (vi (chkE s), m) := by
 have loop1 : ∀ (l : List (List UInt8)), l.length < 100 → ∀ (t : List (List UInt8)) (i : Nat) (Q : Ex → St → Prop), l.drop i = t →
   (nmE (l.take i) t ≠ 0 → Q .ret ⟨[(2, vi (nmE (l.take i) t))], [], [], m⟩) →
   (nmE (l.take i) t = 0 → ∀ e, Q (.exit 0) ⟨(3, strs l) :: e, [(1, vSys s)], [], m⟩) →
   W F m.next L49_1 ⟨[(3, strs l), (29, strs l), (30, vi l.length), (31, vi i)], [(1, vSys s)], [], m⟩ Q := by
  intro l hlen t
  induction t with
  | nil =>
   intro i Q hd h1 h2
   have hlt := drop_nil hd
   rw [W_L (c := L49_1) rfl]
   have : ¬ ((i : Nat) : Int) < (l.length : Int) := by omega
   simp only [↓sxc, sx, se, ↓reduceIte, Nat.reduceEqDiff, Nat.reduceAdd, Nat.reduceLT, Nat.reduceLeDiff, Nat.reduceSub, Nat.reduceMul, Int.reduceToNat, Int.reduceLT, Int.reduceLE, Int.reduceEq, ml_i0, this]
   exact h2 rfl _
  | cons x t ih =>
   intro i Q hd h1 h2
   obtain ⟨hg, hd', hlt⟩ := drop_cons hd
   rw [W_L (c := L49_1) rfl]
   have : ((i : Nat) : Int) < (l.length : Int) := by omega
   have hle : i ≤ l.length := by omega
   have wr : wrapF .i64 ((i : Int) + 1) = ((i + 1 : Nat) : Int) := by rw [wr_i64 (by omega) (by omega)]; rfl
   have c1 : ∀ {lo m}, callw F 112 [.str x] lo m = some (.bool (isNm x), m) := fun {lo m} => sp112 hA x
   have c2 : ∀ {lo m}, callw F 113 [strs (l.take i), .str x] lo m = some (.bool ((l.take i).any fun y => decide (y = x)), m) := fun {lo m} => by
    rw [← any_comm]
    exact sx113 hA (l.take i) x Sl.strs (by simp; omega)
   unfold nmE at h1 h2
   cases he : isNm x with
   | false =>
    rw [if_pos he] at h1
    simp only [↓sxc, sx, se, ↓reduceIte, Nat.reduceEqDiff, Nat.reduceAdd, Nat.reduceLT, Nat.reduceLeDiff, Nat.reduceSub, Nat.reduceMul, Int.reduceToNat, Int.reduceLT, Int.reduceLE, Int.reduceEq, ml_i0, this, hg, c1, he]
    exact h1 (by omega)
   | true =>
    rw [if_neg (by rw [he]; simp)] at h1 h2
    cases hb : (l.take i).any fun y => decide (y = x) with
    | true =>
     rw [if_pos hb] at h1
     simp only [↓sxc, sx, se, ↓reduceIte, Nat.reduceEqDiff, Nat.reduceAdd, Nat.reduceLT, Nat.reduceLeDiff, Nat.reduceSub, Nat.reduceMul, Int.reduceToNat, Int.reduceLT, Int.reduceLE, Int.reduceEq, ml_i0, this, hle, hg, c1, he, c2, hb]
     exact h1 (by omega)
    | false =>
     rw [if_neg (by rw [hb]; simp)] at h1 h2
     simp only [↓sxc, sx, se, ↓reduceIte, Nat.reduceEqDiff, Nat.reduceAdd, Nat.reduceLT, Nat.reduceLeDiff, Nat.reduceSub, Nat.reduceMul, Int.reduceToNat, Int.reduceLT, Int.reduceLE, Int.reduceEq, ml_i0, this, hle, hg, c1, he, c2, hb, wr]
     rw [← take_succ_drop hd] at h1 h2
     exact ih (i + 1) Q hd' h1 h2
 have loop2 : s.pools.length < 100 → ∀ (t : List Pool) (i : Nat) (Q : Ex → St → Prop), s.pools.drop i = t →
   (t.any poolBad = true → Q .ret ⟨[(2, vi 2)], [], [], m⟩) →
   (t.any poolBad = false → ∀ e, Q (.exit 2) ⟨e, [(1, vSys s)], [], m⟩) →
   W F m.next L49_2 ⟨[(46, vPools s.pools), (47, vi s.pools.length), (48, vi i)], [(1, vSys s)], [], m⟩ Q := by
  intro hlen t
  induction t with
  | nil =>
   intro i Q hd h1 h2
   have hlt := drop_nil hd
   rw [W_L (c := L49_2) rfl]
   have : ¬ ((i : Nat) : Int) < (s.pools.length : Int) := by omega
   simp only [↓sxc, sx, se, ↓reduceIte, Nat.reduceEqDiff, Nat.reduceAdd, Nat.reduceLT, Nat.reduceLeDiff, Nat.reduceSub, Nat.reduceMul, Int.reduceToNat, Int.reduceLT, Int.reduceLE, Int.reduceEq, ml_i0, this]
   exact h2 rfl _
  | cons x t ih =>
   intro i Q hd h1 h2
   obtain ⟨hg, hd', hlt⟩ := drop_cons hd
   rw [W_L (c := L49_2) rfl]
   have : ((i : Nat) : Int) < (s.pools.length : Int) := by omega
   have wr : wrapF .i64 ((i : Int) + 1) = ((i + 1 : Nat) : Int) := by rw [wr_i64 (by omega) (by omega)]; rfl
   have ih' := ih (i + 1) Q hd'
   rw [List.any_cons] at h1 h2
   by_cases p1 : x.size < 1
   ·simp only [↓sxc, sx, se, ↓reduceIte, Nat.reduceEqDiff, Nat.reduceAdd, Nat.reduceLT, Nat.reduceLeDiff, Nat.reduceSub, Nat.reduceMul, Int.reduceToNat, Int.reduceLT, Int.reduceLE, Int.reduceEq, ml_i0, this, hg, p1]
    exact h1 (by simp [poolBad, p1])
   ·by_cases p2 : 8 < x.size
    ·simp only [↓sxc, sx, se, ↓reduceIte, Nat.reduceEqDiff, Nat.reduceAdd, Nat.reduceLT, Nat.reduceLeDiff, Nat.reduceSub, Nat.reduceMul, Int.reduceToNat, Int.reduceLT, Int.reduceLE, Int.reduceEq, ml_i0, this, hg, p1, p2]
     exact h1 (by simp [poolBad, p2])
    ·by_cases p3 : x.res < 0
     ·simp only [↓sxc, sx, se, ↓reduceIte, Nat.reduceEqDiff, Nat.reduceAdd, Nat.reduceLT, Nat.reduceLeDiff, Nat.reduceSub, Nat.reduceMul, Int.reduceToNat, Int.reduceLT, Int.reduceLE, Int.reduceEq, ml_i0, this, hg, p1, p2, p3]
      exact h1 (by simp [poolBad, p3])
     ·by_cases p4 : x.size < x.res
      ·simp only [↓sxc, sx, se, ↓reduceIte, Nat.reduceEqDiff, Nat.reduceAdd, Nat.reduceLT, Nat.reduceLeDiff, Nat.reduceSub, Nat.reduceMul, Int.reduceToNat, Int.reduceLT, Int.reduceLE, Int.reduceEq, ml_i0, this, hg, p1, p2, p3, p4]
       exact h1 (by simp [poolBad, p4])
      ·have pb : poolBad x = false := by
        unfold poolBad
        simp only [p1, p2, p3, p4, decide_false, Bool.or_self]
       rw [pb, Bool.false_or] at h1 h2
       simp only [↓sxc, sx, se, ↓reduceIte, Nat.reduceEqDiff, Nat.reduceAdd, Nat.reduceLT, Nat.reduceLeDiff, Nat.reduceSub, Nat.reduceMul, Int.reduceToNat, Int.reduceLT, Int.reduceLE, Int.reduceEq, ml_i0, this, hg, p1, p2, p3, p4, wr]
       exact ih' h1 h2
 have loop3 : s.cls.length < 100 → s.pools.length < 100 → s.locks.length < 100 → (∀ p ∈ s.pools, p.size ≤ 1000) → ∀ (t : List Cls) (i : Nat) (Q : Ex → St → Prop), s.cls.drop i = t →
   (firstE (clsE s) t ≠ 0 → Q .ret ⟨[(2, vi (firstE (clsE s) t))], [], [], m⟩) →
   (firstE (clsE s) t = 0 → ∀ e, Q (.exit 4) ⟨e, [(1, vSys s)], [], m⟩) →
   W F m.next L49_3 ⟨[(74, vClss s.cls), (75, vi s.cls.length), (76, vi i)], [(1, vSys s)], [], m⟩ Q := by
  intro hlen hlp hll hp t
  induction t with
  | nil =>
   intro i Q hd h1 h2
   have hlt := drop_nil hd
   rw [W_L (c := L49_3) rfl]
   have : ¬ ((i : Nat) : Int) < (s.cls.length : Int) := by omega
   simp only [↓sxc, sx, se, ↓reduceIte, Nat.reduceEqDiff, Nat.reduceAdd, Nat.reduceLT, Nat.reduceLeDiff, Nat.reduceSub, Nat.reduceMul, Int.reduceToNat, Int.reduceLT, Int.reduceLE, Int.reduceEq, ml_i0, this]
   exact h2 rfl _
  | cons x t ih =>
   intro i Q hd h1 h2
   obtain ⟨hg, hd', hlt⟩ := drop_cons hd
   rw [W_L (c := L49_3) rfl]
   have : ((i : Nat) : Int) < (s.cls.length : Int) := by omega
   have wr : wrapF .i64 ((i : Int) + 1) = ((i + 1 : Nat) : Int) := by rw [wr_i64 (by omega) (by omega)]; rfl
   have c1 : ∀ {lo m}, callw F 114 [vSys s, vCls x] lo m = some (vi (clsE s x), m) := fun {lo m} => sp114 hA s x hp hlp hll
   unfold firstE at h1 h2
   by_cases he : clsE s x = 0
   ·rw [if_neg (by simpa using he)] at h1 h2
    simp only [↓sxc, sx, se, ↓reduceIte, Nat.reduceEqDiff, Nat.reduceAdd, Nat.reduceLT, Nat.reduceLeDiff, Nat.reduceSub, Nat.reduceMul, Int.reduceToNat, Int.reduceLT, Int.reduceLE, Int.reduceEq, ml_i0, this, hg, c1, he, wr]
    exact ih (i + 1) Q hd' h1 h2
   ·rw [if_pos he] at h1
    simp only [↓sxc, sx, se, ↓reduceIte, Nat.reduceEqDiff, Nat.reduceAdd, Nat.reduceLT, Nat.reduceLeDiff, Nat.reduceSub, Nat.reduceMul, Int.reduceToNat, Int.reduceLT, Int.reduceLE, Int.reduceEq, ml_i0, this, hg, c1, he]
    exact h1 he
 refine call_p hA.h49 rfl ?_
 by_cases l1 : 6 < (s.pools.length : Int)
 ·have e : chkE s = 9 := by
   have : 6 < s.pools.length := by omega
   simp only [chkE, this, true_or, if_true]
  simp only [↓sxc, sx, se, ↓reduceIte, Nat.reduceEqDiff, Nat.reduceAdd, Nat.reduceLT, Nat.reduceLeDiff, Nat.reduceSub, Nat.reduceMul, Int.reduceToNat, Int.reduceLT, Int.reduceLE, Int.reduceEq, ml_i0, l1, e]
 ·by_cases l2 : 4 < (s.locks.length : Int)
  ·have e : chkE s = 9 := by
    have : 4 < s.locks.length := by omega
    simp only [chkE, this, true_or, or_true, if_true]
   simp only [↓sxc, sx, se, ↓reduceIte, Nat.reduceEqDiff, Nat.reduceAdd, Nat.reduceLT, Nat.reduceLeDiff, Nat.reduceSub, Nat.reduceMul, Int.reduceToNat, Int.reduceLT, Int.reduceLE, Int.reduceEq, ml_i0, l1, l2, e]
  ·by_cases l3 : 6 < (s.cls.length : Int)
   ·have e : chkE s = 9 := by
     have : 6 < s.cls.length := by omega
     simp only [chkE, this, or_true, if_true]
    simp only [↓sxc, sx, se, ↓reduceIte, Nat.reduceEqDiff, Nat.reduceAdd, Nat.reduceLT, Nat.reduceLeDiff, Nat.reduceSub, Nat.reduceMul, Int.reduceToNat, Int.reduceLT, Int.reduceLE, Int.reduceEq, ml_i0, l1, l2, l3, e]
   ·have e : chkE s = if nmE [] (namesOf s) ≠ 0 then nmE [] (namesOf s) else if s.pools.any poolBad = true then 2 else firstE (clsE s) s.cls := by
     have a1 : ¬ 6 < s.pools.length := by omega
     have a2 : ¬ 4 < s.locks.length := by omega
     have a3 : ¬ 6 < s.cls.length := by omega
     simp only [chkE, a1, a2, a3, or_self, if_false]
    have c0 : ∀ {lo m}, callw F 111 [vSys s] lo m = some (strs (namesOf s), m) := fun {lo m} => sp111 hA s (by omega) (by omega) (by omega)
    simp only [↓sxc, sx, se, ↓reduceIte, Nat.reduceEqDiff, Nat.reduceAdd, Nat.reduceLT, Nat.reduceLeDiff, Nat.reduceSub, Nat.reduceMul, Int.reduceToNat, Int.reduceLT, Int.reduceLE, Int.reduceEq, ml_i0, l1, l2, l3, c0]
    refine loop1 (namesOf s) (by rw [names_len]; omega) (namesOf s) 0 _ rfl (fun h => ?_) (fun h e1 => ?_)
    ·rw [if_pos (by simpa using h)] at e
     simp only [↓sxc, sx, se, ↓reduceIte, Nat.reduceEqDiff, Nat.reduceAdd, Nat.reduceLT, Nat.reduceLeDiff, Nat.reduceSub, Nat.reduceMul, Int.reduceToNat, Int.reduceLT, Int.reduceLE, Int.reduceEq, ml_i0, e]
    ·rw [if_neg (by simpa using h)] at e
     simp only [↓sxc, sx, se, ↓reduceIte, Nat.reduceEqDiff, Nat.reduceAdd, Nat.reduceLT, Nat.reduceLeDiff, Nat.reduceSub, Nat.reduceMul, Int.reduceToNat, Int.reduceLT, Int.reduceLE, Int.reduceEq, ml_i0]
     refine loop2 (by omega) s.pools 0 _ rfl (fun h => ?_) (fun h e1 => ?_)
     ·rw [if_pos h] at e
      simp only [↓sxc, sx, se, ↓reduceIte, Nat.reduceEqDiff, Nat.reduceAdd, Nat.reduceLT, Nat.reduceLeDiff, Nat.reduceSub, Nat.reduceMul, Int.reduceToNat, Int.reduceLT, Int.reduceLE, Int.reduceEq, ml_i0, e]
     ·rw [if_neg (by rw [h]; simp)] at e
      simp only [↓sxc, sx, se, ↓reduceIte, Nat.reduceEqDiff, Nat.reduceAdd, Nat.reduceLT, Nat.reduceLeDiff, Nat.reduceSub, Nat.reduceMul, Int.reduceToNat, Int.reduceLT, Int.reduceLE, Int.reduceEq, ml_i0]
      have hp : ∀ p ∈ s.pools, p.size ≤ 1000 := fun p hpm => by
       have := List.any_eq_false.1 h p hpm
       simp [poolBad] at this
       omega
      refine loop3 (by omega) (by omega) (by omega) hp s.cls 0 _ rfl (fun h => ?_) (fun h e1 => ?_)
      ·simp only [↓sxc, sx, se, ↓reduceIte, Nat.reduceEqDiff, Nat.reduceAdd, Nat.reduceLT, Nat.reduceLeDiff, Nat.reduceSub, Nat.reduceMul, Int.reduceToNat, Int.reduceLT, Int.reduceLE, Int.reduceEq, ml_i0, e]
      ·rw [h] at e
       simp only [↓sxc, sx, se, ↓reduceIte, Nat.reduceEqDiff, Nat.reduceAdd, Nat.reduceLT, Nat.reduceLeDiff, Nat.reduceSub, Nat.reduceMul, Int.reduceToNat, Int.reduceLT, Int.reduceLE, Int.reduceEq, ml_i0, e]
def few (s : Sys) : Bool := decide (s.pools.length ≤ 10) && decide (s.locks.length ≤ 10) && decide (s.cls.length ≤ 10) && s.cls.all fun c => decide (c.steps.length ≤ 20)
theorem sp28 {F : Nat → Option Fn} (hA : HasA F) {lo : Nat} {m : Mem} (s : Sys) : callw F 28 [vSys s] lo m = some (.bool (few s), m) := by
 have loop : s.cls.length < 100 → ∀ (t : List Cls) (i : Nat) (Q : Ex → St → Prop), s.cls.drop i = t →
   (t.all (fun c => decide (c.steps.length ≤ 20)) = false → Q .ret ⟨[(2, .bool false)], [], [], m⟩) →
   (t.all (fun c => decide (c.steps.length ≤ 20)) = true → ∀ e, Q (.exit 0) ⟨e, [(1, vSys s)], [], m⟩) →
   W F m.next L28_1 ⟨[(3, vi i)], [(1, vSys s)], [], m⟩ Q := by
  intro hlen t
  induction t with
  | nil =>
   intro i Q hd h1 h2
   have hlt := drop_nil hd
   rw [W_L (c := L28_1) rfl]
   have : ¬ ((i : Nat) : Int) < (s.cls.length : Int) := by omega
   simp only [↓sxc, sx, se, ↓reduceIte, Nat.reduceEqDiff, Nat.reduceAdd, Nat.reduceLT, Nat.reduceLeDiff, Nat.reduceSub, Nat.reduceMul, Int.reduceToNat, Int.reduceLT, Int.reduceLE, Int.reduceEq, ml_i0, this]
   exact h2 rfl _
  | cons x t ih =>
   intro i Q hd h1 h2
   obtain ⟨hg, hd', hlt⟩ := drop_cons hd
   rw [W_L (c := L28_1) rfl]
   have : ((i : Nat) : Int) < (s.cls.length : Int) := by omega
   have wr : wrapF .i64 ((i : Int) + 1) = ((i + 1 : Nat) : Int) := by rw [wr_i64 (by omega) (by omega)]; rfl
   rw [List.all_cons] at h1 h2
   by_cases he : 20 < (x.steps.length : Int)
   ·have e : decide (x.steps.length ≤ 20) = false := by simp; omega
    rw [e] at h1
    simp only [↓sxc, sx, se, ↓reduceIte, Nat.reduceEqDiff, Nat.reduceAdd, Nat.reduceLT, Nat.reduceLeDiff, Nat.reduceSub, Nat.reduceMul, Int.reduceToNat, Int.reduceLT, Int.reduceLE, Int.reduceEq, ml_i0, this, hg, he]
    exact h1 rfl
   ·have e : decide (x.steps.length ≤ 20) = true := by simp; omega
    rw [e, Bool.true_and] at h1 h2
    simp only [↓sxc, sx, se, ↓reduceIte, Nat.reduceEqDiff, Nat.reduceAdd, Nat.reduceLT, Nat.reduceLeDiff, Nat.reduceSub, Nat.reduceMul, Int.reduceToNat, Int.reduceLT, Int.reduceLE, Int.reduceEq, ml_i0, this, hg, he, wr]
    exact ih (i + 1) Q hd' h1 h2
 refine call_p hA.h28 rfl ?_
 by_cases l1 : 10 < (s.pools.length : Int)
 ·have e : few s = false := by
   have : ¬ s.pools.length ≤ 10 := by omega
   simp [few, this]
  simp only [↓sxc, sx, se, ↓reduceIte, Nat.reduceEqDiff, Nat.reduceAdd, Nat.reduceLT, Nat.reduceLeDiff, Nat.reduceSub, Nat.reduceMul, Int.reduceToNat, Int.reduceLT, Int.reduceLE, Int.reduceEq, ml_i0, l1, e]
 ·by_cases l2 : 10 < (s.locks.length : Int)
  ·have e : few s = false := by
    have : ¬ s.locks.length ≤ 10 := by omega
    simp [few, this]
   simp only [↓sxc, sx, se, ↓reduceIte, Nat.reduceEqDiff, Nat.reduceAdd, Nat.reduceLT, Nat.reduceLeDiff, Nat.reduceSub, Nat.reduceMul, Int.reduceToNat, Int.reduceLT, Int.reduceLE, Int.reduceEq, ml_i0, l1, l2, e]
  ·by_cases l3 : 10 < (s.cls.length : Int)
   ·have e : few s = false := by
     have : ¬ s.cls.length ≤ 10 := by omega
     simp [few, this]
    simp only [↓sxc, sx, se, ↓reduceIte, Nat.reduceEqDiff, Nat.reduceAdd, Nat.reduceLT, Nat.reduceLeDiff, Nat.reduceSub, Nat.reduceMul, Int.reduceToNat, Int.reduceLT, Int.reduceLE, Int.reduceEq, ml_i0, l1, l2, l3, e]
   ·have e : few s = s.cls.all fun c => decide (c.steps.length ≤ 20) := by
     have a1 : s.pools.length ≤ 10 := by omega
     have a2 : s.locks.length ≤ 10 := by omega
     have a3 : s.cls.length ≤ 10 := by omega
     simp [few, a1, a2, a3]
    simp only [↓sxc, sx, se, ↓reduceIte, Nat.reduceEqDiff, Nat.reduceAdd, Nat.reduceLT, Nat.reduceLeDiff, Nat.reduceSub, Nat.reduceMul, Int.reduceToNat, Int.reduceLT, Int.reduceLE, Int.reduceEq, ml_i0, l1, l2, l3]
    refine loop (by omega) s.cls 0 _ rfl (fun h => ?_) (fun h e1 => ?_)
    ·rw [h] at e
     simp only [↓sxc, sx, se, ↓reduceIte, Nat.reduceEqDiff, Nat.reduceAdd, Nat.reduceLT, Nat.reduceLeDiff, Nat.reduceSub, Nat.reduceMul, Int.reduceToNat, Int.reduceLT, Int.reduceLE, Int.reduceEq, ml_i0, e]
    ·rw [h] at e
     simp only [↓sxc, sx, se, ↓reduceIte, Nat.reduceEqDiff, Nat.reduceAdd, Nat.reduceLT, Nat.reduceLeDiff, Nat.reduceSub, Nat.reduceMul, Int.reduceToNat, Int.reduceLT, Int.reduceLE, Int.reduceEq, ml_i0, e]
end Go.Am
namespace Go.Am
open Go
set_option linter.unusedSimpArgs false
set_option linter.unusedVariables false
set_option maxRecDepth 100000
structure OkC (c : Cls) : Prop where
 w0 : 0 ≤ c.wk
 w4 : c.wk ≤ 4
 l1 : 1 ≤ c.steps.length
 l12 : c.steps.length ≤ 12
 cnt : ∀ x ∈ c.steps, -1000 ≤ x.cnt ∧ x.cnt ≤ 1000
theorem firstE_zero {f : Cls → Int} : ∀ {l : List Cls}, firstE f l = 0 → ∀ c ∈ l, f c = 0
 | [], _, c, hc => by simp at hc
 | d :: l, h, c, hc => by
  unfold firstE at h
  split at h
  ·rename_i h1; exact absurd h h1
  ·rename_i h1
   rcases List.mem_cons.1 hc with rfl | hc
   ·simpa using h1
   ·exact firstE_zero h c hc
structure Valid (s : Sys) : Prop where
 p6 : s.pools.length ≤ 6
 l4 : s.locks.length ≤ 4
 c6 : s.cls.length ≤ 6
 nm : nmE [] (namesOf s) = 0
 pool : ∀ p ∈ s.pools, 1 ≤ p.size ∧ p.size ≤ 8 ∧ 0 ≤ p.res ∧ p.res ≤ p.size
 cls : ∀ c ∈ s.cls, clsE s c = 0
theorem valid_of {s : Sys} (h : chkE s = 0) : Valid s := by
 unfold chkE at h
 split at h
 ·omega
 ·rename_i h1
  split at h
  ·rename_i h2; exact absurd h h2
  ·rename_i h2
   split at h
   ·omega
   ·rename_i h3
    refine ⟨by omega, by omega, by omega, by simpa using h2, fun p hp => ?_, firstE_zero h⟩
    have h4 : s.pools.any poolBad = false := by simpa using h3
    have := List.any_eq_false.1 h4 p hp
    simp [poolBad] at this
    omega
theorem Valid.size {s : Sys} (h : Valid s) : ∀ p ∈ s.pools, p.size ≤ 1000 := fun p hp => by have := h.pool p hp; omega
structure ClsOk (s : Sys) (c : Cls) : Prop where
 w0 : 0 ≤ c.wk
 w4 : c.wk ≤ 4
 l1 : 1 ≤ c.steps.length
 l12 : c.steps.length ≤ 12
 steps : stepsE s [] c.steps = 0
 o0 : over c.steps 0 s.pools.length = false
 o1 : over c.steps 1 s.locks.length = false
theorem clsOk_of {s : Sys} {c : Cls} (h : clsE s c = 0) : ClsOk s c := by
 unfold clsE at h
 split at h
 ·omega
 ·split at h
  ·omega
  ·split at h
   ·rename_i h1; exact absurd h h1
   ·rename_i h1
    split at h
    ·omega
    ·rename_i h2
     split at h
     ·omega
     ·rename_i h3
      exact ⟨by omega, by omega, by omega, by omega, by simpa using h1, by simpa using h2, by simpa using h3⟩
theorem Valid.okC {s : Sys} (h : Valid s) : ∀ c ∈ s.cls, OkC c := fun c hc => by
 have k := clsOk_of (h.cls c hc)
 exact ⟨k.w0, k.w4, k.l1, k.l12, stepsE_cnt h.size k.steps⟩
def udStep (pool : Int) (x : Stp) (q : Int × Int) : Int × Int :=
 if x.on = pool then if x.kind = 1 then (q.1 + x.cnt, if x.deep = true then q.2 + x.cnt else q.2) else if x.kind = 2 then (q.1 - x.cnt, q.2 - min q.2 x.cnt) else q else q
def ud (pool : Int) : List Stp → Int × Int → Int × Int
 | [], q => q
 | x :: t, q => ud pool t (udStep pool x q)
theorem udStep_bd {pool : Int} {x : Stp} {q : Int × Int} {n : Int} (hx : -1000 ≤ x.cnt ∧ x.cnt ≤ 1000) (h1 : -n ≤ q.1 ∧ q.1 ≤ n) (h2 : -n ≤ q.2 ∧ q.2 ≤ n) :
  (-(n + 1000) ≤ (udStep pool x q).1 ∧ (udStep pool x q).1 ≤ n + 1000) ∧ (-(n + 1000) ≤ (udStep pool x q).2 ∧ (udStep pool x q).2 ≤ n + 1000) := by
 unfold udStep
 repeat' split
 all_goals first
  | omega
  | (simp only; omega)
def unitsE (pool : Int) (l : List Stp) (deep : Bool) : Int := if deep = true then (ud pool l (0, 0)).2 else (ud pool l (0, 0)).1
theorem sp93 {F : Nat → Option Fn} (hB : HasB F) {lo : Nat} {m : Mem} (c : Cls) (pool : Int) (n : Nat) (deep : Bool) (hc : OkC c) (hn : n ≤ c.steps.length) : callw F 93 [vCls c, vi pool, vi n, .bool deep] lo m = some (vi (unitsE pool (c.steps.take n) deep), m) := by
 have hl := hc.l12
 have loop : ∀ (t : List Stp) (i : Nat) (a d : Int) (Q : Ex → St → Prop), (c.steps.take n).drop i = t → (-(1000 * (i : Int)) ≤ a ∧ a ≤ 1000 * i) → (-(1000 * (i : Int)) ≤ d ∧ d ≤ 1000 * i) →
   (∀ e, Q (.exit 0) ⟨(1, vi pool) :: (2, vi n) :: (3, .bool deep) :: (9, vi (ud pool t (a, d)).1) :: (10, vi (ud pool t (a, d)).2) :: e, [(4, vCls c)], [], m⟩) →
   W F m.next L93_1 ⟨[(1, vi pool), (2, vi n), (3, .bool deep), (9, vi a), (10, vi d), (11, vi i)], [(4, vCls c)], [], m⟩ Q := by
  intro t
  induction t with
  | nil =>
   intro i a d Q hd _ _ hq
   have hlt := drop_nil hd
   rw [List.length_take, Nat.min_eq_left hn] at hlt
   rw [W_L (c := L93_1) rfl]
   have : ¬ ((i : Nat) : Int) < (n : Int) := by omega
   simp only [↓sxc, sx, se, ↓reduceIte, Nat.reduceEqDiff, Nat.reduceAdd, Nat.reduceLT, Nat.reduceLeDiff, Nat.reduceSub, Nat.reduceMul, Int.reduceToNat, Int.reduceLT, Int.reduceLE, Int.reduceEq, ml_i0, this]
   exact hq _
  | cons z t ih =>
   intro i a d Q hd ha hdd hq
   obtain ⟨hg0, hd', hlt⟩ := drop_cons hd
   rw [List.length_take, Nat.min_eq_left hn] at hlt
   have hg : c.steps[i]? = some z := by
    rw [List.getElem?_take, if_pos hlt] at hg0
    exact hg0
   have hz := hc.cnt z (List.mem_of_getElem? hg)
   rw [W_L (c := L93_1) rfl]
   have : ((i : Nat) : Int) < (n : Int) := by omega
   have wr : wrapF .i64 ((i : Int) + 1) = ((i + 1 : Nat) : Int) := by rw [wr_i64 (by omega) (by omega)]; rfl
   have wa : wrapF .i64 (a + z.cnt) = a + z.cnt := wr_i64 (by omega) (by omega)
   have ws : wrapF .i64 (a - z.cnt) = a - z.cnt := wr_i64 (by omega) (by omega)
   have wd : wrapF .i64 (d + z.cnt) = d + z.cnt := wr_i64 (by omega) (by omega)
   have we : wrapF .i64 (d - z.cnt) = d - z.cnt := wr_i64 (by omega) (by omega)
   have mx : max (d - z.cnt) 0 = d - min d z.cnt := by omega
   have go : ∀ a1 d1, udStep pool z (a, d) = (a1, d1) → W F m.next L93_1 ⟨[(1, vi pool), (2, vi n), (3, .bool deep), (9, vi a1), (10, vi d1), (11, vi (i + 1 : Nat))], [(4, vCls c)], [], m⟩ Q := by
    intro a1 d1 hu
    have hb := udStep_bd (pool := pool) (q := (a, d)) hz ha hdd
    rw [hu] at hb
    refine ih (i + 1) a1 d1 Q hd' (by push_cast; omega) (by push_cast; omega) ?_
    simp only [ud, hu] at hq
    exact hq
   by_cases ho : z.on = pool
   ·by_cases k1 : z.kind = 1
    ·cases hdp : z.deep
     ·simp only [↓sxc, sx, se, ↓reduceIte, Nat.reduceEqDiff, Nat.reduceAdd, Nat.reduceLT, Nat.reduceLeDiff, Nat.reduceSub, Nat.reduceMul, Int.reduceToNat, Int.reduceLT, Int.reduceLE, Int.reduceEq, ml_i0, this, hg, ho, k1, hdp, wa, wr]
      exact go _ _ (by simp [udStep, ho, k1, hdp])
     ·simp only [↓sxc, sx, se, ↓reduceIte, Nat.reduceEqDiff, Nat.reduceAdd, Nat.reduceLT, Nat.reduceLeDiff, Nat.reduceSub, Nat.reduceMul, Int.reduceToNat, Int.reduceLT, Int.reduceLE, Int.reduceEq, ml_i0, this, hg, ho, k1, hdp, wa, wd, wr]
      exact go _ _ (by simp [udStep, ho, k1, hdp])
    ·by_cases k2 : z.kind = 2
     ·simp only [↓sxc, sx, se, ↓reduceIte, Nat.reduceEqDiff, Nat.reduceAdd, Nat.reduceLT, Nat.reduceLeDiff, Nat.reduceSub, Nat.reduceMul, Int.reduceToNat, Int.reduceLT, Int.reduceLE, Int.reduceEq, ml_i0, this, hg, ho, k1, k2, ws, we, mx, wr]
      exact go _ _ (by simp [udStep, ho, k2])
     ·simp only [↓sxc, sx, se, ↓reduceIte, Nat.reduceEqDiff, Nat.reduceAdd, Nat.reduceLT, Nat.reduceLeDiff, Nat.reduceSub, Nat.reduceMul, Int.reduceToNat, Int.reduceLT, Int.reduceLE, Int.reduceEq, ml_i0, this, hg, ho, k1, k2, wr]
      exact go _ _ (by simp [udStep, ho, k1, k2])
   ·simp only [↓sxc, sx, se, ↓reduceIte, Nat.reduceEqDiff, Nat.reduceAdd, Nat.reduceLT, Nat.reduceLeDiff, Nat.reduceSub, Nat.reduceMul, Int.reduceToNat, Int.reduceLT, Int.reduceLE, Int.reduceEq, ml_i0, this, hg, ho, wr]
    exact go _ _ (by simp [udStep, ho])
 refine call_p hB.h93 rfl ?_
 simp only [↓sxc, sx, se, ↓reduceIte, Nat.reduceEqDiff, Nat.reduceAdd, Nat.reduceLT, Nat.reduceLeDiff, Nat.reduceSub, Nat.reduceMul, Int.reduceToNat, Int.reduceLT, Int.reduceLE, Int.reduceEq, ml_i0]
 refine loop (c.steps.take n) 0 0 0 _ rfl (by simp) (by simp) (fun e => ?_)
 cases deep
 ·simp only [↓sxc, sx, se, ↓reduceIte, Nat.reduceEqDiff, Nat.reduceAdd, Nat.reduceLT, Nat.reduceLeDiff, Nat.reduceSub, Nat.reduceMul, Int.reduceToNat, Int.reduceLT, Int.reduceLE, Int.reduceEq, ml_i0]
  rfl
 ·simp only [↓sxc, sx, se, ↓reduceIte, Nat.reduceEqDiff, Nat.reduceAdd, Nat.reduceLT, Nat.reduceLeDiff, Nat.reduceSub, Nat.reduceMul, Int.reduceToNat, Int.reduceLT, Int.reduceLE, Int.reduceEq, ml_i0]
  rfl
end Go.Am
namespace Go.Am
open Go
set_option linter.unusedSimpArgs false
set_option linter.unusedVariables false
set_option maxRecDepth 100000
theorem OkC.take {c : Cls} (h : OkC c) (n : Nat) : ∀ x ∈ c.steps.take n, -1000 ≤ x.cnt ∧ x.cnt ≤ 1000 := fun x hx => h.cnt x (List.mem_of_mem_take hx)
theorem stepsE_pre {s : Sys} : ∀ {t pre : List Stp}, stepsE s pre t = 0 → ∀ x ∈ t, preE s x = 0
 | [], pre, _, x, hx => by simp at hx
 | y :: t, pre, h, x, hx => by
  unfold stepsE at h
  split at h
  ·rename_i h1; exact absurd h h1
  ·rename_i h1
   rcases List.mem_cons.1 hx with rfl | hx
   ·exact (stepE_zero (by simpa using h1)).1
   ·exact stepsE_pre h x hx
theorem Valid.pre {s : Sys} (h : Valid s) {c : Cls} (hc : c ∈ s.cls) {x : Stp} (hx : x ∈ c.steps) : preE s x = 0 := stepsE_pre (clsOk_of (h.cls c hc)).steps x hx
def stepAt (s : Sys) (i k : Int) : Option Stp := (s.cls[i.toNat]?).bind fun c => c.steps[k.toNat]?
end Go.Am
namespace Go.Am
open Go
set_option linter.unusedSimpArgs false
set_option linter.unusedVariables false
set_option maxRecDepth 100000
section
variable {F : Nat → Option Fn} {lo : Nat} {md : Option (Nat × Nat)} {ops : List Op} {e b a : Env} {m : Mem} {Q : St → Prop} {d : Nat}
noncomputable def lookV (m : Mem) (arr ok : Bool) (z u k : V) : Option V :=
 match u with
 | .map h => if keyIs arr k then match m.blk h with
  | some (.map es) => (lookKey k es).map fun r => match r, ok with
   | some v, true => .tup [v, .bool true]
   | none, true => .tup [z, .bool false]
   | some v, false => v
   | none, false => z
  | _ => none
  else none
 | _ => none
noncomputable def updV (lo : Nat) (m : Mem) (arr : Bool) (u k v : V) : Option Mem :=
 match u with
 | .map h => if keyIs arr k && v.one then if lo ≤ h then match m.blk h with
  | some (.map es) => (setKey k v es).map fun es' => m.set h (some (.map es'))
  | _ => none
  else none else none
 | _ => none
theorem S_look {arr ok : Bool} {z : V} {x y : O} : S F lo md (⟨.e d, .look arr ok z, [x, y], none⟩ :: ops) ⟨e, b, a, m⟩ Q ↔ OC (getO ⟨e, b, a, m⟩ x) fun u => OC (getO ⟨e, b, a, m⟩ y) fun k => OC (lookV m arr ok z u k) fun v => S F lo (nx md) ops ⟨(d, v) :: e, b, a, m⟩ Q := by
 rw [S_exec]
 simp only [gs_cons, gs_nil, K.allocs, bmp_false]
 cases getO ⟨e, b, a, m⟩ x with
 | none => simp [OC_none]
 | some u =>
  cases getO ⟨e, b, a, m⟩ y with
  | none => simp [OC_none, OC_some]
  | some k =>
   simp only [OC_some, plan]
   cases u <;> simp only [plan_look, lookV, OC_none]
   rename_i h
   cases hk : keyIs arr k with
   | false => simp [OC_none]
   | true =>
    simp only [if_true, OC_some, act]
    cases m.blk h with
    | none => simp [OC_none]
    | some B =>
     cases B with
     | row _ _ => simp [OC_none]
     | map es =>
      simp only
      cases lookKey k es with
      | none => simp [OC_none]
      | some r => cases r <;> cases ok <;> simp [OC_some, put]
theorem S_upd {arr : Bool} {x y w : O} : S F lo md (⟨.n, .upd arr, [x, y, w], none⟩ :: ops) ⟨e, b, a, m⟩ Q ↔ OC (getO ⟨e, b, a, m⟩ x) fun u => OC (getO ⟨e, b, a, m⟩ y) fun k => OC (getO ⟨e, b, a, m⟩ w) fun v => OC (updV lo m arr u k v) fun m' => S F lo (nx md) ops ⟨e, b, a, m'⟩ Q := by
 rw [S_exec]
 simp only [gs_cons, gs_nil, K.allocs, bmp_false]
 cases getO ⟨e, b, a, m⟩ x with
 | none => simp [OC_none]
 | some u =>
  cases getO ⟨e, b, a, m⟩ y with
  | none => simp [OC_none, OC_some]
  | some k =>
   cases getO ⟨e, b, a, m⟩ w with
   | none => simp [OC_none, OC_some]
   | some v =>
    simp only [OC_some, plan]
    cases u <;> simp only [plan_upd, updV, OC_none]
    rename_i h
    cases hk : (keyIs arr k && v.one) with
    | false => simp [OC_none]
    | true =>
     simp only [if_true, OC_some, act]
     by_cases hl : lo ≤ h
     ·simp only [if_pos hl]
      cases m.blk h with
      | none => simp [OC_none]
      | some B =>
       cases B with
       | row _ _ => simp [OC_none]
       | map es =>
        simp only
        cases setKey k v es with
        | none => simp [OC_none]
        | some r => simp [OC_some, put]
     ·simp only [if_neg hl, OC_none]
end
def Apart (w v : V) : Prop := ∀ s1 s2 h l1 l2, w = .row s1 h 0 l1 → v = .row s2 h 0 l2 → False
theorem Apart.symm {w v : V} (h : Apart w v) : Apart v w := fun s1 s2 k l1 l2 h1 h2 => h s2 s1 k l2 l1 h2 h1
theorem Rw.app2 {lo sz s : Nat} {m : Mem} {v y : V} {xs ys : List V} (h : Rw lo m sz v xs) (hl : lo ≤ m.next) (hv : view m y = some (s, ys)) (hs : s = sz ∨ ys.length = 0) (hb : xs.length + ys.length < big) :
  ∃ v' m', apV lo m.next m sz v y = some (v', m') ∧ Rw lo (m'.bump 1) sz v' (xs ++ ys) ∧ m'.next = m.next ∧ (∀ s w ws, Rw lo m s w ws → Apart w v → Rw lo (m'.bump 1) s w ws ∧ Apart w v') ∧ (∀ k, (∀ l, v ≠ .row sz k 0 l) → k ≠ m.next → m'.blk k = m.blk k) ∧ (v' = .nil ∨ ∃ l, v' = .row sz m.next 0 l) := by
 obtain ⟨v', m', h1, h2, h3, h4⟩ := h.app hl hv hs hb
 have hv' : v' = .nil ∨ ∃ l, v' = .row sz m.next 0 l := by
  rcases h with ⟨rfl, rfl⟩ | ⟨h, rfl, q1, q2, q3⟩
  ·cases ys with
   | nil =>
    simp only [apV, hv] at h1
    cases h1
    exact .inl rfl
   | cons y ys =>
    simp only [apV, hv] at h1
    split at h1
    ·cases h1
     exact .inr ⟨_, rfl⟩
    ·cases h1
  ·simp only [apV, hv, q3, if_true] at h1
   split at h1
   ·split at h1
    ·cases h1
     exact .inr ⟨_, rfl⟩
    ·cases h1
   ·cases h1
 refine ⟨v', m', h1, h2, h3, fun s w ws hw ha => ⟨hw.mono (by show m.next ≤ m'.next + 1; omega) (fun k l hk => ?_), fun s1 s2 k l1 l2 e1 e2 => ?_⟩, h4, hv'⟩
 ·refine h4 k (fun l2 hl2 => ha _ _ _ _ _ hk hl2) ?_
  rcases hw with ⟨rfl, _⟩ | ⟨k2, rfl, _, q2, _⟩
  ·cases hk
  ·cases hk; omega
 ·rcases hw with ⟨rfl, _⟩ | ⟨k2, rfl, _, q2, _⟩
  ·cases e1
  ·cases e1
   rcases hv' with rfl | ⟨l3, rfl⟩
   ·cases e2
   ·cases e2; omega
structure Edge where
 fr : Int
 to : Int
 cls : Int
 step : Int
 deriving DecidableEq
noncomputable def vEdge (e : Edge) : V := .agg [vi e.fr, vi e.to, vi e.cls, vi e.step]
noncomputable def vEdges (l : List Edge) : V := .ro true 4 (l.map vEdge)
theorem ia_vEdges {l : List Edge} {k : IntKind} {x : Int} : retV (.ia 4) [vEdges l, .int k x] = if 0 ≤ x then (l[x.toNat]?).map fun e => .imm (vEdge e) 0 else none := by
 unfold vEdges
 rw [r_iaro, ml_get]
 cases l[x.toNat]? <;> rfl
theorem len_vEdges {l : List Edge} : retV (.len false) [vEdges l] = some (.int .i64 (l.length : Int)) := by
 unfold vEdges
 rw [r_lenro, ml_len]
theorem lof_vEdges {l : List Edge} : lenOf (vEdges l) = some l.length := by
 unfold vEdges
 rw [lenro, ml_len]
theorem ce_vEdges {l : List Edge} : V.cells (vEdges l) = [vEdges l] := rfl
theorem on_vEdges {l : List Edge} : V.ones (vEdges l) = true := rfl
theorem o1_vEdges {l : List Edge} : V.one (vEdges l) = true := rfl
theorem fz_vEdges {lo n : Nat} {m : Mem} {l : List Edge} : freeze lo m (n + 1) (vEdges l) = some (vEdges l) := rfl
theorem vw_vEdges {m : Mem} {l : List Edge} : view m (vEdges l) = some (nz 4 (l.map vEdge), l.map vEdge) := rfl
theorem sl_vEdges {l : List Edge} {a b : Nat} : slOf 4 (vEdges l) a b = if a ≤ b ∧ b ≤ l.length then some (vEdges ((l.drop a).take (b - a))) else none := by
 unfold vEdges
 rw [sl_ro, ml_len]
 by_cases h : a ≤ b ∧ b ≤ l.length
 ·rw [if_pos h, if_pos h, List.map_take, List.map_drop]
 ·rw [if_neg h, if_neg h]
theorem scn_vEdges {l : List Edge} : setC 0 1 (vEdges l) .nil = some (vEdges l) := rfl
theorem sco_vEdges {l k : List Edge} : setC 0 1 (vEdges l) (vEdges k) = some (vEdges l) := rfl
theorem ces_vEdge {s : Edge} : V.cells (vEdge s) = [.int .i64 s.fr, .int .i64 s.to, .int .i64 s.cls, .int .i64 s.step] := rfl
theorem ons_vEdge {s : Edge} : V.ones (vEdge s) = true := rfl
theorem fzs_vEdge {lo n : Nat} {m : Mem} {s : Edge} : freeze lo m (n + 2) (vEdge s) = some (vEdge s) := rfl
set_option linter.defProp false
def sm := And.intro @ia_vEdges (And.intro @len_vEdges (And.intro @lof_vEdges (And.intro @ce_vEdges (And.intro @on_vEdges (And.intro @o1_vEdges (And.intro @fz_vEdges (And.intro @vw_vEdges (And.intro @sl_vEdges (And.intro @scn_vEdges (And.intro @sco_vEdges (And.intro @ces_vEdge (And.intro @ons_vEdge (@fzs_vEdge)))))))))))))
def smc := And.intro @S_look (@S_upd)
noncomputable def pairV (p : Int × Int) : V := .agg [vi p.1, vi p.2]
noncomputable def seenV (l : List (Int × Int)) : List (V × V) := l.map fun p => (pairV p, .bool true)
theorem set_seen {p : Int × Int} : ∀ {l : List (Int × Int)}, p ∉ l → setKey (pairV p) (.bool true) (seenV l) = some (seenV (l ++ [p]))
 | [], _ => rfl
 | q :: l, h => by
  have ih := set_seen (p := p) (l := l) (fun hh => h (by simp [hh]))
  obtain ⟨a, b⟩ := p
  obtain ⟨c, d⟩ := q
  show (match some (a == c && b == d) with
   | some true => some ((pairV (a, b), V.bool true) :: seenV l)
   | some false => (setKey (pairV (a, b)) (V.bool true) (seenV l)).map ((pairV (c, d), V.bool true) :: ·)
   | none => none) = _
  have hne : (a == c && b == d) = false := by
   cases hc : (a == c && b == d) with
   | false => rfl
   | true =>
    simp at hc
    exact absurd (by simp [hc.1, hc.2]) h
  rw [hne, ih]
  rfl
end Go.Am
namespace Go.Am
open Go
set_option linter.unusedSimpArgs false
set_option linter.unusedVariables false
set_option maxRecDepth 100000
structure Frm where
 cls : Int
 at_ : Int
noncomputable def vFrm (f : Frm) : V := .agg [vi f.cls, vi f.at_]
noncomputable def vStk (l : List Frm) : V := .ro true 2 (l.map vFrm)
noncomputable def vStks (l : List (List Frm)) : V := .ro true 1 (l.map vStk)
noncomputable def vSt (l : List (List Frm)) : V := .agg [vStks l]
theorem ia_vStk {l : List Frm} {k : IntKind} {x : Int} : retV (.ia 2) [vStk l, .int k x] = if 0 ≤ x then (l[x.toNat]?).map fun e => .imm (vFrm e) 0 else none := by
 unfold vStk
 rw [r_iaro, ml_get]
 cases l[x.toNat]? <;> rfl
theorem len_vStk {l : List Frm} : retV (.len false) [vStk l] = some (.int .i64 (l.length : Int)) := by
 unfold vStk
 rw [r_lenro, ml_len]
theorem lof_vStk {l : List Frm} : lenOf (vStk l) = some l.length := by
 unfold vStk
 rw [lenro, ml_len]
theorem ce_vStk {l : List Frm} : V.cells (vStk l) = [vStk l] := rfl
theorem on_vStk {l : List Frm} : V.ones (vStk l) = true := rfl
theorem o1_vStk {l : List Frm} : V.one (vStk l) = true := rfl
theorem fz_vStk {lo n : Nat} {m : Mem} {l : List Frm} : freeze lo m (n + 1) (vStk l) = some (vStk l) := rfl
theorem vw_vStk {m : Mem} {l : List Frm} : view m (vStk l) = some (nz 2 (l.map vFrm), l.map vFrm) := rfl
theorem sl_vStk {l : List Frm} {a b : Nat} : slOf 2 (vStk l) a b = if a ≤ b ∧ b ≤ l.length then some (vStk ((l.drop a).take (b - a))) else none := by
 unfold vStk
 rw [sl_ro, ml_len]
 by_cases h : a ≤ b ∧ b ≤ l.length
 ·rw [if_pos h, if_pos h, List.map_take, List.map_drop]
 ·rw [if_neg h, if_neg h]
theorem scn_vStk {l : List Frm} : setC 0 1 (vStk l) .nil = some (vStk l) := rfl
theorem sco_vStk {l k : List Frm} : setC 0 1 (vStk l) (vStk k) = some (vStk l) := rfl
theorem app_vStk {l : List Frm} : nz 2 (l.map vFrm) = 2 ∨ (l.map vFrm).length = 0 := by cases l <;> simp [nz]
theorem ia_vStks {l : List (List Frm)} {k : IntKind} {x : Int} : retV (.ia 1) [vStks l, .int k x] = if 0 ≤ x then (l[x.toNat]?).map fun e => .imm (vStk e) 0 else none := by
 unfold vStks
 rw [r_iaro, ml_get]
 cases l[x.toNat]? <;> rfl
theorem len_vStks {l : List (List Frm)} : retV (.len false) [vStks l] = some (.int .i64 (l.length : Int)) := by
 unfold vStks
 rw [r_lenro, ml_len]
theorem lof_vStks {l : List (List Frm)} : lenOf (vStks l) = some l.length := by
 unfold vStks
 rw [lenro, ml_len]
theorem ce_vStks {l : List (List Frm)} : V.cells (vStks l) = [vStks l] := rfl
theorem on_vStks {l : List (List Frm)} : V.ones (vStks l) = true := rfl
theorem o1_vStks {l : List (List Frm)} : V.one (vStks l) = true := rfl
theorem fz_vStks {lo n : Nat} {m : Mem} {l : List (List Frm)} : freeze lo m (n + 1) (vStks l) = some (vStks l) := rfl
theorem vw_vStks {m : Mem} {l : List (List Frm)} : view m (vStks l) = some (nz 1 (l.map vStk), l.map vStk) := rfl
theorem sl_vStks {l : List (List Frm)} {a b : Nat} : slOf 1 (vStks l) a b = if a ≤ b ∧ b ≤ l.length then some (vStks ((l.drop a).take (b - a))) else none := by
 unfold vStks
 rw [sl_ro, ml_len]
 by_cases h : a ≤ b ∧ b ≤ l.length
 ·rw [if_pos h, if_pos h, List.map_take, List.map_drop]
 ·rw [if_neg h, if_neg h]
theorem scn_vStks {l : List (List Frm)} : setC 0 1 (vStks l) .nil = some (vStks l) := rfl
theorem sco_vStks {l k : List (List Frm)} : setC 0 1 (vStks l) (vStks k) = some (vStks l) := rfl
theorem app_vStks {l : List (List Frm)} : nz 1 (l.map vStk) = 1 ∨ (l.map vStk).length = 0 := by cases l <;> simp [nz]
theorem ces_vFrm {s : Frm} : V.cells (vFrm s) = [.int .i64 s.cls, .int .i64 s.at_] := rfl
theorem ons_vFrm {s : Frm} : V.ones (vFrm s) = true := rfl
theorem fzs_vFrm {lo n : Nat} {m : Mem} {s : Frm} : freeze lo m (n + 2) (vFrm s) = some (vFrm s) := rfl
theorem ces_vSt {s : List (List Frm)} : V.cells (vSt s) = [vStks s] := rfl
theorem ons_vSt {s : List (List Frm)} : V.ones (vSt s) = true := rfl
theorem fzs_vSt {lo n : Nat} {m : Mem} {s : List (List Frm)} : freeze lo m (n + 2) (vSt s) = some (vSt s) := rfl
theorem fo_vSt {s : List (List Frm)} : V.agg [vStks s] = vSt s := rfl
set_option linter.defProp false
def ss := And.intro @ia_vStk (And.intro @len_vStk (And.intro @lof_vStk (And.intro @ce_vStk (And.intro @on_vStk (And.intro @o1_vStk (And.intro @fz_vStk (And.intro @vw_vStk (And.intro @sl_vStk (And.intro @scn_vStk (And.intro @sco_vStk (And.intro @ia_vStks (And.intro @len_vStks (And.intro @lof_vStks (And.intro @ce_vStks (And.intro @on_vStks (And.intro @o1_vStks (And.intro @fz_vStks (And.intro @vw_vStks (And.intro @sl_vStks (And.intro @scn_vStks (And.intro @sco_vStks (And.intro @ces_vFrm (And.intro @ons_vFrm (And.intro @fzs_vFrm (And.intro @ces_vSt (And.intro @ons_vSt (And.intro @fo_vSt (@fzs_vSt))))))))))))))))))))))))))))
def wksC : List Cls → Nat → List Int
 | [], _ => []
 | c :: t, i => (if c.srv = true then [] else List.replicate c.wk.toNat (i : Int)) ++ wksC t (i + 1)
def wksE (s : Sys) : List Int := wksC s.cls 0
theorem wksC_snoc {c : Cls} : ∀ {l : List Cls} {i : Nat}, wksC (l ++ [c]) i = wksC l i ++ if c.srv = true then [] else List.replicate c.wk.toNat ((i + l.length : Nat) : Int)
 | [], i => by simp [wksC]
 | a :: l, i => by
  rw [List.cons_append, wksC, wksC, wksC_snoc (l := l), List.append_assoc, List.length_cons, show i + 1 + l.length = i + (l.length + 1) by omega]
theorem wksC_len {l : List Cls} {i : Nat} (h : ∀ c ∈ l, c.wk ≤ 1000) : (wksC l i).length ≤ 1000 * l.length := by
 induction l generalizing i with
 | nil => simp [wksC]
 | cons a l ih =>
  have h1 := ih (i := i + 1) fun c hc => h c (by simp [hc])
  have h2 := h a (by simp)
  simp only [wksC, List.length_append, List.length_cons]
  split
  ·simp only [List.length_nil]; omega
  ·simp only [List.length_replicate]; omega
theorem sp129 {F : Nat → Option Fn} (hE : HasE F) {lo : Nat} {m : Mem} (s : Sys) (hl : s.cls.length < 100) (hw : ∀ c ∈ s.cls, c.wk ≤ 1000) : callw F 129 [vSys s] lo m = some (ints (wksE s), m) := by
 have hwl : ∀ k, (wksC (s.cls.take k) 0).length ≤ 100000 := fun k => by
  have h1 := wksC_len (l := s.cls.take k) (i := 0) fun c hc => hw c (List.mem_of_mem_take hc)
  have h2 : (s.cls.take k).length ≤ 100 := by simp; omega
  omega
 have loop1 : ∀ (c : Cls) (hc : c.wk ≤ 1000) (i : Nat) (pre : List Int) (hp : pre.length ≤ 100000) (r : Nat) (j : Nat) (v : V) (m' : Mem) (Q : Ex → St → Prop), r = (c.wk - j).toNat → (c.srv = true ∨ (j : Int) ≤ max c.wk 0) → m.next ≤ m'.next → Rw m.next m' 1 v ((pre ++ if c.srv = true then [] else List.replicate j (i : Int)).map vi) →
   (∀ v m' e b, m.next ≤ m'.next → Rw m.next m' 1 v ((pre ++ if c.srv = true then [] else List.replicate c.wk.toNat (i : Int)).map vi) → Q (.exit 2) ⟨(3, v) :: (4, vi i) :: (7, vClss s.cls) :: (8, vi s.cls.length) :: (9, vi i) :: e, b, [], m'⟩) →
   W F m.next L129_1 ⟨[(3, v), (4, vi i), (7, vClss s.cls), (8, vi s.cls.length), (9, vi i), (15, vi c.wk), (16, vi j)], [(5, vCls c)], [], m'⟩ Q := by
  intro c hc i pre hp r
  induction r with
  | zero =>
   intro j v m' Q hr hjw hm hrw hQ
   rw [W_L (c := L129_1) rfl]
   have : ¬ ((j : Nat) : Int) < c.wk := by omega
   simp only [↓sxc, sx, se, ↓reduceIte, Nat.reduceEqDiff, Nat.reduceAdd, Nat.reduceLT, Nat.reduceLeDiff, Nat.reduceSub, Nat.reduceMul, Int.reduceToNat, Int.reduceLT, Int.reduceLE, Int.reduceEq, ml_i0, ↓smc, sm, this]
   refine hQ v m' _ _ hm ?_
   cases hs : c.srv with
   | true => rw [hs] at hrw; exact hrw
   | false =>
    rw [hs] at hrw
    have : j = c.wk.toNat := by
     rcases hjw with h | h
     ·rw [hs] at h; cases h
     ·omega
    rw [← this]
    exact hrw
  | succ r ih =>
   intro j v m' Q hr hjw hm hrw hQ
   rw [W_L (c := L129_1) rfl]
   have c0 : ((j : Nat) : Int) < c.wk := by omega
   have wr : wrapF .i64 ((j : Int) + 1) = ((j + 1 : Nat) : Int) := by rw [wr_i64 (by omega) (by omega)]; rfl
   cases hs : c.srv with
   | true =>
    simp only [↓sxc, sx, se, ↓reduceIte, Nat.reduceEqDiff, Nat.reduceAdd, Nat.reduceLT, Nat.reduceLeDiff, Nat.reduceSub, Nat.reduceMul, Int.reduceToNat, Int.reduceLT, Int.reduceLE, Int.reduceEq, ml_i0, ↓smc, sm, c0, hs, wr]
    refine ih (j + 1) v m' Q (by omega) (.inl hs) hm ?_ hQ
    rw [hs] at hrw ⊢
    exact hrw
   | false =>
    rw [hs] at hrw
    simp only [Bool.false_eq_true, if_false] at hrw
    obtain ⟨v', m'', hap, hr', hn, _⟩ := hrw.app (y := .lst false 1 [vi i]) hm vw_lst (.inl rfl) (by simp [big]; omega)
    simp only [↓sxc, sx, se, ↓reduceIte, Nat.reduceEqDiff, Nat.reduceAdd, Nat.reduceLT, Nat.reduceLeDiff, Nat.reduceSub, Nat.reduceMul, Int.reduceToNat, Int.reduceLT, Int.reduceLE, Int.reduceEq, ml_i0, ↓smc, sm, c0, hs, hap, wr]
    refine ih (j + 1) v' (m''.bump 1) Q (by omega) (.inr (by omega)) ?_ ?_ hQ
    ·show m.next ≤ m''.next + 1; omega
    ·rw [hs]
     simp only [Bool.false_eq_true, if_false]
     rw [List.replicate_succ', ← List.append_assoc, List.map_append]
     exact hr'
 have loop2 : ∀ (t : List Cls) (i : Nat) (v : V) (m' : Mem) (Q : Ex → St → Prop), s.cls.drop i = t → m.next ≤ m'.next → Rw m.next m' 1 v ((wksC (s.cls.take i) 0).map vi) →
   (∀ v m' e b, m.next ≤ m'.next → Rw m.next m' 1 v ((wksE s).map vi) → Q (.exit 0) ⟨(3, v) :: e, b, [], m'⟩) →
   W F m.next L129_2 ⟨[(3, v), (7, vClss s.cls), (8, vi s.cls.length), (9, vi i)], [], [], m'⟩ Q := by
  intro t
  induction t with
  | nil =>
   intro i v m' Q hd hm hr hQ
   have hlt := drop_nil hd
   rw [W_L (c := L129_2) rfl]
   have : ¬ ((i : Nat) : Int) < (s.cls.length : Int) := by omega
   simp only [↓sxc, sx, se, ↓reduceIte, Nat.reduceEqDiff, Nat.reduceAdd, Nat.reduceLT, Nat.reduceLeDiff, Nat.reduceSub, Nat.reduceMul, Int.reduceToNat, Int.reduceLT, Int.reduceLE, Int.reduceEq, ml_i0, ↓smc, sm, this]
   rw [List.take_of_length_le hlt] at hr
   exact hQ v m' _ _ hm hr
  | cons c t ih =>
   intro i v m' Q hd hm hr hQ
   obtain ⟨hg, hd', hlt⟩ := drop_cons hd
   rw [W_L (c := L129_2) rfl]
   have c0 : ((i : Nat) : Int) < (s.cls.length : Int) := by omega
   have wr : wrapF .i64 ((i : Int) + 1) = ((i + 1 : Nat) : Int) := by rw [wr_i64 (by omega) (by omega)]; rfl
   simp only [↓sxc, sx, se, ↓reduceIte, Nat.reduceEqDiff, Nat.reduceAdd, Nat.reduceLT, Nat.reduceLeDiff, Nat.reduceSub, Nat.reduceMul, Int.reduceToNat, Int.reduceLT, Int.reduceLE, Int.reduceEq, ml_i0, ↓smc, sm, c0, hg]
   refine loop1 c (hw c (List.mem_of_getElem? hg)) i (wksC (s.cls.take i) 0) (hwl i) _ 0 v m' _ rfl (.inr (by omega)) hm (by simpa using hr) (fun v m' e b q1 q2 => ?_)
   simp only [↓sxc, sx, se, ↓reduceIte, Nat.reduceEqDiff, Nat.reduceAdd, Nat.reduceLT, Nat.reduceLeDiff, Nat.reduceSub, Nat.reduceMul, Int.reduceToNat, Int.reduceLT, Int.reduceLE, Int.reduceEq, ml_i0, ↓smc, sm, wr]
   refine ih (i + 1) v m' Q hd' q1 ?_ hQ
   rw [take_succ_drop hd, wksC_snoc]
   have : (s.cls.take i).length = i := by simp; omega
   rw [this, Nat.zero_add]
   exact q2
 refine call_p hE.h129 rfl ?_
 simp only [↓sxc, sx, se, ↓reduceIte, Nat.reduceEqDiff, Nat.reduceAdd, Nat.reduceLT, Nat.reduceLeDiff, Nat.reduceSub, Nat.reduceMul, Int.reduceToNat, Int.reduceLT, Int.reduceLE, Int.reduceEq, ml_i0, ↓smc, sm]
 refine loop2 s.cls 0 .nil m _ rfl (Nat.le_refl _) .nil (fun v m' e b q1 q2 => ?_)
 have fz : freeze m.next m' 8 v = some (ints (wksE s)) := by
  rw [q2.freeze, mapO_id (fun x hx => by
   obtain ⟨y, _, rfl⟩ := List.mem_map.1 hx
   rfl)]
  rfl
 simp only [↓sxc, sx, se, ↓reduceIte, Nat.reduceEqDiff, Nat.reduceAdd, Nat.reduceLT, Nat.reduceLeDiff, Nat.reduceSub, Nat.reduceMul, Int.reduceToNat, Int.reduceLT, Int.reduceLE, Int.reduceEq, ml_i0, ↓smc, sm, fz]
end Go.Am
namespace Go.Am
open Go
set_option linter.unusedSimpArgs false
set_option linter.unusedVariables false
set_option maxRecDepth 100000
theorem stepsE_left {s : Sys} : ∀ {a b pre : List Stp}, stepsE s pre (a ++ b) = 0 → stepsE s pre a = 0
 | [], b, pre, _ => rfl
 | x :: a, b, pre, h => by
  rw [List.cons_append] at h
  unfold stepsE at h ⊢
  split at h
  ·rename_i h1; exact absurd h h1
  ·rename_i h1
   rw [if_neg h1]
   exact stepsE_left h
theorem Valid.left {s : Sys} (h : Valid s) {c : Cls} (hc : c ∈ s.cls) (k : Nat) : stepsE s [] (c.steps.take k) = 0 := by
 have h1 := (clsOk_of (h.cls c hc)).steps
 rw [← List.take_append_drop k c.steps] at h1
 exact stepsE_left h1
theorem fz_introw {lo n h : Nat} {m : Mem} {u : List Int} (hb : m.blk h = some (.row 1 (u.map vi))) (hl : lo ≤ h) : freeze lo m (n + 2) (.row 1 h 0 u.length) = some (ints u) := by
 rw [fz_row hb hl (by simp)]
 have : ((u.map vi).drop 0).take u.length = u.map vi := by rw [List.drop_zero, List.take_of_length_le (by simp)]
 rw [this, mapO_id (fun x hx => by
  obtain ⟨y, _, rfl⟩ := List.mem_map.1 hx
  rfl)]
 rfl
end Go.Am
