/- A part of the proof: The law ExploreChecks holds: any state of any system has the specified error, and a step of an invalid one returns it; no conditions. -/
import Derived.Test.YtflfnkdhmcfjlaaN11b
import Derived.Orders
import Derived.LoopN
namespace Go.Am
open Go
def src (f : Nat) : Nat := if f < 1000 then f else f - 1000
noncomputable section
def ck_mv (d : D) (os : List O) : Go.Op → Bool
 | .move x => okOs os [x] && (isVs os || d.isA)
 | .assign x => okOs os [x] && (isVs os || d.isA)
 | _ => false
def ck_pmv (os : List O) : Go.Op → Bool
 | .move x => okOs os [x]
 | .assign x => okOs os [x]
 | _ => false
def ck_pick (os : List O) : Go.Op → Bool
 | .pick x y z => okOs os [x, y, z] && isVs os
 | _ => false
def ck_bin (b : BinOp) (os : List O) : Go.Op → Bool
 | .binOp b' _ x y _ => decide (b' = b) && okOs os [x, y] && isVs os
 | _ => false
def ck_bq (P : Program) (ne : Bool) (os : List O) : Go.Op → Bool
 | .binOp b T x y _ => decide (b = if ne then .neq else .eql) && isBool P T && okOs os [x, y] && isVs os
 | _ => false
def ck_sq (ne : Bool) (os : List O) : Go.Op → Bool
 | .binOp b _ x y _ => decide (b = if ne then .neq else .eql) && okOs os [x, y] && isVs os
 | _ => false
def ck_aq (P : Program) (ne : Bool) (ks : List Nat) (os : List O) : Go.Op → Bool
 | .binOp b T x y _ => decide (b = if ne then .neq else .eql) && okFlat P T ks && okOs os [x, y] && isVs os
 | _ => false
def isSl (P : Program) (T : TypeId) : Bool := match P.underlying T with | some (.slice _) => true | _ => false
def ck_nq (P : Program) (ne : Bool) (os : List O) : Go.Op → Bool
 | .binOp b T x y _ => decide (b = if ne then .neq else .eql) && isSl P T && okOs os [x, y] && isVs os
 | _ => false
def ck_sadd (os : List O) : Go.Op → Bool
 | .binOp b _ x y _ => decide (b = .add) && okOs os [x, y] && isVs os
 | _ => false
def ck_not (os : List O) : Go.Op → Bool
 | .unOp .not _ x => okOs os [x] && isVs os
 | _ => false
def ck_cvt (P : Program) (k : IntKind) (os : List O) : Go.Op → Bool
 | .convert S T x => (P.underlying S).isSome && isInt P T k && okOs os [x] && isVs os
 | _ => false
def ck_cvs (P : Program) (os : List O) : Go.Op → Bool
 | .convert S T x => (P.underlying S).isSome && isStr P T && okOs os [x] && isVs os
 | _ => false
def ck_bts (P : Program) (os : List O) : Go.Op → Bool
 | .convert S T x => okBts P S T && okOs os [x] && isVs os
 | _ => false
def ck_ext (i : Nat) (os : List O) : Go.Op → Bool
 | .extract x i' => decide (i' = i) && okOs os [x] && isVs os
 | _ => false
def ck_bi (b : Builtin) (t : TypeId → TypeId → Bool) (two : Bool) (os : List O) : Go.Op → Bool
 | .call { callee := .builtin b', args := xs, argTypes := ts } => decide (b' = b) && (match xs.toList, two with
   | [x], false => okOs os [x]
   | [x, y], true => okOs os [x, y]
   | _, _ => false) && (match ts.toList, two with
   | [T], false => t T 0
   | [T, U], true => t T U
   | _, _ => false) && isVs os
 | _ => false
def ck_bld (P : Program) (z : List V) (pl : List (Nat × Nat)) (os : List O) : Go.Op → Bool
 | .build T parts => okBld P T z pl parts.toList && okOs os (parts.toList.map (·.2)) && isVs os
 | _ => false
def ck_lit (P : Program) (sz n : Nat) (z : V) (ix : List Nat) (os : List O) : Go.Op → Bool
 | .buildSlice T n' parts => decide (n' = n) && okLit P T sz n z ix parts.toList && okOs os (parts.toList.map (·.2)) && isVs os
 | _ => false
def ck_six (P : Program) (os : List O) : Go.Op → Bool
 | .index T x y => isStr P T && okOs os [x, y] && isVs os
 | _ => false
def ck_fld (P : Program) (agg : Bool) (off sz : Nat) (os : List O) : Go.Op → Bool
 | .field T x i => okFld P T i agg off sz && okOs os [x] && isVs os
 | _ => false
def ck_sl (P : Program) (sz : Nat) (lo hi mx : Bool) (os : List O) : Go.Op → Bool
 | .slice T x lo' hi' mx' => okSlc P T sz && decide (lo = lo'.isSome) && decide (hi = hi'.isSome) && !mx && mx'.isNone && okOs os (x :: (lo'.toList ++ hi'.toList)) && isVs os
 | _ => false
def ck_fa (P : Program) (off : Nat) (d : D) (os : List O) : Go.Op → Bool
 | .fieldAddr T x i => okFa P T i off && okOs os [x] && d.isA
 | _ => false
def ck_ia (P : Program) (sz : Nat) (d : D) (os : List O) : Go.Op → Bool
 | .indexAddr T x y => okSlc P T sz && okOs os [x, y] && isVs os && d.isA
 | _ => false
def ck_iaa (P : Program) (n sz : Nat) (d : D) (os : List O) : Go.Op → Bool
 | .indexAddr T x y => okIaa P T n sz && okOs os [x, y] && snd os && d.isA
 | _ => false
def ck_nc (d : D) (os : List O) : Go.Op → Bool
 | .nilCheck x => okOs os [x] && (isVs os || d.isA)
 | _ => false
def ck_ld (P : Program) (agg : Bool) (sz : Nat) (os : List O) : Go.Op → Bool
 | .load T x => decide (aggOf P T = some agg) && (!agg || decide (szOf P T = some sz)) && okOs os [x]
 | _ => false
def ck_frz (P : Program) (sz : Nat) (os : List O) : Go.Op → Bool
 | .load T x => decide (aggOf P T = some true) && decide (szOf P T = some sz) && okOs os [x]
 | _ => false
def ck_st (P : Program) (sz : Nat) (os : List O) : Go.Op → Bool
 | .store T x y => decide (szOf P T = some sz) && okOs os [x, y] && snd os
 | _ => false
def ck_box (P : Program) (os : List O) : Go.Op → Bool
 | .box _ x => okOs os [x] && isVs os
 | .alloc T => match os with
  | [.k z] => okZero P T z
  | _ => false
 | _ => false
def ck_mk (P : Program) (sz : Nat) (z : V) (os : List O) : Go.Op → Bool
 | .makeSlice T x y => okMk P T sz z && okOs os [x] && okOs os [y] && isVs os
 | _ => false
def ck_call (f : Nat) (os : List O) : Go.Op → Bool
 | .call { callee := .value (.func f'), args := xs, argTypes := _ } => decide (f' = src f) && okOs os xs.toList && isVs os
 | _ => false
def ck_callv (os : List O) : Go.Op → Bool
 | .call { callee := .value x, args := xs, argTypes := _ } => okOs os (x :: xs.toList) && isVs os
 | _ => false
def ck_mkf (f : Nat) (os : List O) : Go.Op → Bool
 | .makeFunc (.func f') first xs => decide (f' = f) && decide (first.size = 0) && okOs os xs.toList && isVs os
 | _ => false
def ck_mkm : Go.Op → Bool
 | .makeMap _ none => true
 | _ => false
def ck_look (P : Program) (arr ok : Bool) (z : V) (os : List O) : Go.Op → Bool
 | .lookup T x y ok' => decide (ok' = ok) && okLook P arr T z && okOs os [x, y] && isVs os
 | _ => false
def ck_upd (P : Program) (arr : Bool) (os : List O) : Go.Op → Bool
 | .mapUpdate T x y z => okMap P arr T && okOs os [x, y, z] && isVs os
 | .insert T x y z => okMap P arr T && okOs os [x, y, z] && isVs os
 | _ => false
def okLen (P : Program) (str : Bool) (T : TypeId) : Bool := if str then isStr P T else isSl P T
def okKind (P : Program) (k : K) (d : D) (os : List O) (op : Go.Op) : Bool :=
 match k with
 | .mv => ck_mv d os op
 | .pmv => ck_pmv os op
 | .pick => ck_pick os op
 | .bin b => ck_bin b os op
 | .bq ne => ck_bq P ne os op
 | .sq ne => ck_sq ne os op
 | .aq ne ks => ck_aq P ne ks os op
 | .nq ne => ck_nq P ne os op
 | .sadd => ck_sadd os op
 | .not => ck_not os op
 | .cvt k => ck_cvt P k os op
 | .cvs => ck_cvs P os op
 | .bts => ck_bts P os op
 | .ext i => ck_ext i os op
 | .len str => ck_bi .len (fun T _ => okLen P str T) false os op
 | .mx => ck_bi .max (fun _ _ => true) true os op
 | .mn => ck_bi .min (fun _ _ => true) true os op
 | .bld z pl => ck_bld P z pl os op
 | .lit sz n z ix => ck_lit P sz n z ix os op
 | .hlit sz n z ix => ck_lit P sz n z ix os op
 | .six => ck_six P os op
 | .fld agg off sz => ck_fld P agg off sz os op
 | .sl sz lo hi mx => ck_sl P sz lo hi mx os op
 | .fa off => ck_fa P off d os op
 | .ia sz => ck_ia P sz d os op
 | .iaa n sz => ck_iaa P n sz d os op
 | .nc => ck_nc d os op
 | .ld agg sz => ck_ld P agg sz os op
 | .st sz => ck_st P sz os op
 | .box => ck_box P os op
 | .hbox _ => ck_box P os op
 | .mk sz z => ck_mk P sz z os op
 | .app sz => ck_bi .append (fun T U => okApp P T U sz) true os op
 | .cpy sz => ck_bi .copy (fun T _ => okSlc P T sz) true os op
 | .call f => ck_call f os op
 | .callv => ck_callv os op
 | .mkf f => ck_mkf f os op
 | .mkm => ck_mkm op
 | .look arr ok z => ck_look P arr ok z os op
 | .upd arr => ck_upd P arr os op
 | .frz sz => ck_frz P sz os op
end
section
variable {P : Program} {fr : Fr} {g : Gh} {st : St} {a : Act} {w : World} {h : Nat} {d : D} {o : Oper}
theorem isSl_spec {T : TypeId} (h : isSl P T = true) : ∃ e, P.underlying T = some (.slice e) := by
 unfold isSl at h
 split at h
 ·rename_i e hu; exact ⟨e, hu⟩
 ·cases h
theorem ck_bi_one {b : Builtin} {t : TypeId → TypeId → Bool} {os : List O} {op : Go.Op} (h : ck_bi b t false os op = true) : ∃ x ts T, op = .call { callee := .builtin b, args := #[x], argTypes := ts } ∧ okOs os [x] = true ∧ ts[0]? = some T ∧ t T 0 = true ∧ isVs os = true := by
 unfold ck_bi at h
 split at h
 ·rename_i b' xs ts
  simp only [Bool.and_eq_true, decide_eq_true_eq] at h
  obtain ⟨⟨⟨rfl, h1⟩, h2⟩, h3⟩ := h
  split at h1
  ·rename_i x hx _
   have e1 : xs = #[x] := by apply Array.ext'; simpa using hx
   subst e1
   split at h2
   ·rename_i T hT _
    exact ⟨x, ts, T, rfl, h1, by rw [← Array.getElem?_toList, hT]; rfl, h2, h3⟩
   ·rename_i h4; cases h4
   ·cases h2
  ·rename_i h4; cases h4
  ·cases h1
 ·cases h
theorem ck_bi_two {b : Builtin} {t : TypeId → TypeId → Bool} {os : List O} {op : Go.Op} (h : ck_bi b t true os op = true) : ∃ x y ts T U, op = .call { callee := .builtin b, args := #[x, y], argTypes := ts } ∧ okOs os [x, y] = true ∧ ts = #[T, U] ∧ t T U = true ∧ isVs os = true := by
 unfold ck_bi at h
 split at h
 ·rename_i b' xs ts
  simp only [Bool.and_eq_true, decide_eq_true_eq] at h
  obtain ⟨⟨⟨rfl, h1⟩, h2⟩, h3⟩ := h
  split at h1
  ·rename_i h4; cases h4
  ·rename_i x y hx _
   have e1 : xs = #[x, y] := by apply Array.ext'; simpa using hx
   subst e1
   split at h2
   ·rename_i h4; cases h4
   ·rename_i T U hT _
    exact ⟨x, y, ts, T, U, rfl, h1, by apply Array.ext'; simpa using hT, h2, h3⟩
   ·cases h2
  ·cases h1
 ·cases h
theorem kind_sound (s : Sim fr g st a w) (hf : g.φ h = none) {k : K} {os : List O} {vs : List V} (hok : okKind P k d os o.op = true) (hg : getOs st os = some vs) {p : Plan} (hp : plan k vs = some p) (hcall : ∀ f args, p = .call f args → callable P (src f) = true) :
  PlanRun src fr g st a w h d ((execOp a.eval o).run P w) p := by
 cases k with
 | mv =>
  simp only [okKind] at hok
  unfold ck_mv at hok
  split at hok
  ·rename_i x e
   simp only [Bool.and_eq_true] at hok
   exact k_mv s (.inl e) hok.1 hok.2 hg hp
  ·rename_i x e
   simp only [Bool.and_eq_true] at hok
   exact k_mv s (.inr e) hok.1 hok.2 hg hp
  ·cases hok
 | pmv =>
  simp only [okKind] at hok
  unfold ck_pmv at hok
  split at hok
  ·rename_i x e
   exact k_pmv s (.inl e) hok hg hp
  ·rename_i x e
   exact k_pmv s (.inr e) hok hg hp
  ·cases hok
 | pick =>
  simp only [okKind] at hok
  unfold ck_pick at hok
  split at hok
  ·rename_i e
   simp only [Bool.and_eq_true] at hok
   exact k_pick s e hok.1 hok.2 hg hp
  ·cases hok
 | bin b =>
  simp only [okKind] at hok
  unfold ck_bin at hok
  split at hok
  ·rename_i e
   simp only [Bool.and_eq_true, decide_eq_true_eq] at hok
   obtain ⟨⟨rfl, h1⟩, h2⟩ := hok
   exact k_bin s e h1 h2 hg hp
  ·cases hok
 | bq ne =>
  simp only [okKind] at hok
  unfold ck_bq at hok
  split at hok
  ·rename_i e
   simp only [Bool.and_eq_true, decide_eq_true_eq] at hok
   obtain ⟨⟨⟨h0, h1⟩, h2⟩, h3⟩ := hok
   exact k_bq s e (isBool_spec h1) h0 h2 h3 hg hp
  ·cases hok
 | sq ne =>
  simp only [okKind] at hok
  unfold ck_sq at hok
  split at hok
  ·rename_i e
   simp only [Bool.and_eq_true, decide_eq_true_eq] at hok
   obtain ⟨⟨h0, h2⟩, h3⟩ := hok
   exact k_sq s e h0 h2 h3 hg hp
  ·cases hok
 | aq ne ks =>
  simp only [okKind] at hok
  unfold ck_aq at hok
  split at hok
  ·rename_i e
   simp only [Bool.and_eq_true, decide_eq_true_eq] at hok
   obtain ⟨⟨⟨h0, h1⟩, h2⟩, h3⟩ := hok
   exact k_aq s e h1 h0 h2 h3 hg hp
  ·cases hok
 | nq ne =>
  simp only [okKind] at hok
  unfold ck_nq at hok
  split at hok
  ·rename_i e
   simp only [Bool.and_eq_true, decide_eq_true_eq] at hok
   obtain ⟨⟨⟨h0, h1⟩, h2⟩, h3⟩ := hok
   obtain ⟨e0, hu⟩ := isSl_spec h1
   exact k_nq s e hu h0 h2 h3 hg hp
  ·cases hok
 | sadd =>
  simp only [okKind] at hok
  unfold ck_sadd at hok
  split at hok
  ·rename_i e
   simp only [Bool.and_eq_true, decide_eq_true_eq] at hok
   obtain ⟨⟨rfl, h2⟩, h3⟩ := hok
   exact k_sadd s e h2 h3 hg hp
  ·cases hok
 | not =>
  simp only [okKind] at hok
  unfold ck_not at hok
  split at hok
  ·rename_i e
   simp only [Bool.and_eq_true] at hok
   exact k_not s e hok.1 hok.2 hg hp
  ·cases hok
 | cvt k =>
  simp only [okKind] at hok
  unfold ck_cvt at hok
  split at hok
  ·rename_i e
   simp only [Bool.and_eq_true] at hok
   obtain ⟨⟨⟨h0, h1⟩, h2⟩, h3⟩ := hok
   exact k_cvt s e h0 (isInt_spec h1) h2 h3 hg hp
  ·cases hok
 | cvs =>
  simp only [okKind] at hok
  unfold ck_cvs at hok
  split at hok
  ·rename_i e
   simp only [Bool.and_eq_true] at hok
   obtain ⟨⟨⟨h0, h1⟩, h2⟩, h3⟩ := hok
   exact k_cvs s e h0 (isStr_spec h1) h2 h3 hg hp
  ·cases hok
 | bts =>
  simp only [okKind] at hok
  unfold ck_bts at hok
  split at hok
  ·rename_i e
   simp only [Bool.and_eq_true] at hok
   obtain ⟨⟨h1, h2⟩, h3⟩ := hok
   exact k_bts s e h1 h2 h3 hg hp
  ·cases hok
 | ext i =>
  simp only [okKind] at hok
  unfold ck_ext at hok
  split at hok
  ·rename_i e
   simp only [Bool.and_eq_true, decide_eq_true_eq] at hok
   obtain ⟨⟨rfl, h2⟩, h3⟩ := hok
   exact k_ext s e h2 h3 hg hp
  ·cases hok
 | len str =>
  simp only [okKind] at hok
  obtain ⟨x, ts, T, e, h1, h2, h3, h4⟩ := ck_bi_one hok
  refine k_len (T := T) s e h2 ?_ h1 h4 hg hp
  unfold okLen at h3
  cases str with
  | true => simp only [if_true] at h3 ⊢; exact isStr_spec h3
  | false => simp only [Bool.false_eq_true, if_false] at h3 ⊢; exact isSl_spec h3
 | mx =>
  simp only [okKind] at hok
  obtain ⟨x, y, ts, T, U, e, h1, h2, h3, h4⟩ := ck_bi_two hok
  exact k_mx s e h1 h4 hg hp
 | mn =>
  simp only [okKind] at hok
  obtain ⟨x, y, ts, T, U, e, h1, h2, h3, h4⟩ := ck_bi_two hok
  exact k_mn s e h1 h4 hg hp
 | bld z pl =>
  simp only [okKind] at hok
  unfold ck_bld at hok
  split at hok
  ·rename_i e
   simp only [Bool.and_eq_true] at hok
   obtain ⟨⟨h1, h2⟩, h3⟩ := hok
   exact k_bld s e h1 h2 h3 hg hp
  ·cases hok
 | lit sz n z ix =>
  simp only [okKind] at hok
  unfold ck_lit at hok
  split at hok
  ·rename_i e
   simp only [Bool.and_eq_true, decide_eq_true_eq] at hok
   obtain ⟨⟨⟨rfl, h1⟩, h2⟩, h3⟩ := hok
   exact k_lit s e h1 h2 h3 hg hp
  ·cases hok
 | hlit sz n z ix =>
  simp only [okKind] at hok
  unfold ck_lit at hok
  split at hok
  ·rename_i e
   simp only [Bool.and_eq_true, decide_eq_true_eq] at hok
   obtain ⟨⟨⟨rfl, h1⟩, h2⟩, h3⟩ := hok
   exact k_hlit s hf e h1 h2 h3 hg hp
  ·cases hok
 | six =>
  simp only [okKind] at hok
  unfold ck_six at hok
  split at hok
  ·rename_i e
   simp only [Bool.and_eq_true] at hok
   obtain ⟨⟨h1, h2⟩, h3⟩ := hok
   exact k_six s e (isStr_spec h1) h2 h3 hg hp
  ·cases hok
 | fld agg off sz =>
  simp only [okKind] at hok
  unfold ck_fld at hok
  split at hok
  ·rename_i e
   simp only [Bool.and_eq_true] at hok
   obtain ⟨⟨h1, h2⟩, h3⟩ := hok
   exact k_fld s e h1 h2 h3 hg hp
  ·cases hok
 | sl sz lo hi mx =>
  simp only [okKind] at hok
  unfold ck_sl at hok
  split at hok
  ·rename_i T x lo' hi' mx' e
   simp only [Bool.and_eq_true, decide_eq_true_eq, Bool.not_eq_true', Option.isNone_iff_eq_none] at hok
   obtain ⟨⟨⟨⟨⟨⟨h1, rfl⟩, rfl⟩, rfl⟩, rfl⟩, h2⟩, h3⟩ := hok
   exact k_sl s e h1 h2 h3 hg hp
  ·cases hok
 | fa off =>
  simp only [okKind] at hok
  unfold ck_fa at hok
  split at hok
  ·rename_i e
   simp only [Bool.and_eq_true] at hok
   obtain ⟨⟨h1, h2⟩, h3⟩ := hok
   exact k_fa s e h1 h2 h3 hg hp
  ·cases hok
 | ia sz =>
  simp only [okKind] at hok
  unfold ck_ia at hok
  split at hok
  ·rename_i e
   simp only [Bool.and_eq_true] at hok
   obtain ⟨⟨⟨h1, h2⟩, h3⟩, h4⟩ := hok
   exact k_ia s e h1 h2 h3 h4 hg hp
  ·cases hok
 | iaa n sz =>
  simp only [okKind] at hok
  unfold ck_iaa at hok
  split at hok
  ·rename_i e
   simp only [Bool.and_eq_true] at hok
   obtain ⟨⟨⟨h1, h2⟩, h3⟩, h4⟩ := hok
   exact k_iaa s e h1 h2 h3 h4 hg hp
  ·cases hok
 | nc =>
  simp only [okKind] at hok
  unfold ck_nc at hok
  split at hok
  ·rename_i e
   simp only [Bool.and_eq_true] at hok
   exact k_nc s e hok.1 hok.2 hg hp
  ·cases hok
 | ld agg sz =>
  simp only [okKind] at hok
  unfold ck_ld at hok
  split at hok
  ·rename_i e
   rw [Bool.and_eq_true] at hok
   exact k_ld s e hok.1 hok.2 hg hp
  ·cases hok
 | frz sz =>
  simp only [okKind] at hok
  unfold ck_frz at hok
  split at hok
  ·rename_i e
   simp only [Bool.and_eq_true, decide_eq_true_eq] at hok
   exact k_frz s e hok.1 hok.2 hg hp
  ·cases hok
 | st sz =>
  simp only [okKind] at hok
  unfold ck_st at hok
  split at hok
  ·rename_i e
   simp only [Bool.and_eq_true, decide_eq_true_eq] at hok
   obtain ⟨⟨h1, h2⟩, h3⟩ := hok
   exact k_st s e h1 h2 h3 hg hp
  ·cases hok
 | box =>
  simp only [okKind] at hok
  unfold ck_box at hok
  split at hok
  ·rename_i e
   simp only [Bool.and_eq_true] at hok
   exact k_box s hf e hok.1 hok.2 hg (.inl rfl) hp
  ·rename_i T e
   split at hok
   ·exact k_alloc s hf e rfl hok hg (.inl rfl) hp
   ·cases hok
  ·cases hok
 | hbox sz =>
  simp only [okKind] at hok
  unfold ck_box at hok
  split at hok
  ·rename_i e
   simp only [Bool.and_eq_true] at hok
   exact k_box s hf e hok.1 hok.2 hg (.inr ⟨sz, rfl⟩) hp
  ·rename_i T e
   split at hok
   ·exact k_alloc s hf e rfl hok hg (.inr ⟨sz, rfl⟩) hp
   ·cases hok
  ·cases hok
 | mk sz z =>
  simp only [okKind] at hok
  unfold ck_mk at hok
  split at hok
  ·rename_i e
   simp only [Bool.and_eq_true] at hok
   obtain ⟨⟨⟨h1, h2⟩, h3⟩, h4⟩ := hok
   exact k_mk s e h1 h2 h3 h4 hg hp
  ·cases hok
 | app sz =>
  simp only [okKind] at hok
  obtain ⟨x, y, ts, T, U, e, h1, h2, h3, h4⟩ := ck_bi_two hok
  exact k_app s hf e h2 h3 h1 h4 hg hp
 | cpy sz =>
  simp only [okKind] at hok
  obtain ⟨x, y, ts, T, U, e, h1, h2, h3, h4⟩ := ck_bi_two hok
  exact k_cpy s e h2 h3 h1 h4 hg hp
 | call f =>
  simp only [okKind] at hok
  unfold ck_call at hok
  split at hok
  ·rename_i f' xs ts e
   simp only [Bool.and_eq_true, decide_eq_true_eq] at hok
   obtain ⟨⟨h1, h2⟩, h3⟩ := hok
   have hp' := hp
   simp only [plan, plan_call, Option.some.injEq] at hp'
   have hc := hcall f vs hp'.symm
   rw [← h1] at hc
   exact k_call s e h1.symm hc h2 h3 hg hp
  ·cases hok
 | callv =>
  simp only [okKind] at hok
  unfold ck_callv at hok
  split at hok
  ·rename_i x xs ts e
   simp only [Bool.and_eq_true] at hok
   refine k_callv s e (fun f cs hh hlt => ?_) hok.1 hok.2 hg hp
   have hsrc : src f = f := by unfold src; rw [if_pos hlt]
   refine ⟨hsrc, ?_⟩
   cases vs with
   | nil => cases hh
   | cons v vs =>
    simp at hh
    subst hh
    simp only [plan, plan_callv, if_pos hlt, Option.some.injEq] at hp
    have := hcall f _ hp.symm
    rw [hsrc] at this
    exact this
  ·cases hok
 | mkf f =>
  simp only [okKind] at hok
  unfold ck_mkf at hok
  split at hok
  ·rename_i f' first xs e
   simp only [Bool.and_eq_true, decide_eq_true_eq] at hok
   obtain ⟨⟨⟨rfl, h0⟩, h2⟩, h3⟩ := hok
   have : first = #[] := Array.eq_empty_of_size_eq_zero h0
   subst this
   exact k_mkf s e h2 h3 hg hp
  ·cases hok
 | mkm =>
  simp only [okKind] at hok
  unfold ck_mkm at hok
  split at hok
  ·rename_i e
   exact k_mkm e hg hp
  ·cases hok
 | look arr ok z =>
  simp only [okKind] at hok
  unfold ck_look at hok
  split at hok
  ·rename_i e
   simp only [Bool.and_eq_true, decide_eq_true_eq] at hok
   obtain ⟨⟨⟨rfl, h1⟩, h2⟩, h3⟩ := hok
   exact k_look s e h1 h2 h3 hg hp
  ·cases hok
 | upd arr =>
  simp only [okKind] at hok
  unfold ck_upd at hok
  split at hok
  ·rename_i e
   simp only [Bool.and_eq_true] at hok
   obtain ⟨⟨h1, h2⟩, h3⟩ := hok
   exact k_upd s (.inl e) h1 h2 h3 hg hp
  ·rename_i e
   simp only [Bool.and_eq_true] at hok
   obtain ⟨⟨h1, h2⟩, h3⟩ := hok
   exact k_upd s (.inr e) h1 h2 h3 hg hp
  ·cases hok
end
end Go.Am
namespace Go.Am
open Go
def bits (m nt : Nat) : List Nat := (List.range nt).filter fun t => m.testBit t
theorem mem_bits {m nt t : Nat} : t ∈ bits m nt ↔ t < nt ∧ m.testBit t = true := by simp [bits]
def okD (A B nt : Nat) : D → Option Tmp → Bool
 | .e d, some t => Nat.beq t d && !A.testBit d && !B.testBit d && Nat.blt d nt
 | .a d, some t => Nat.beq t d && A.testBit d && Nat.blt d nt
 | .x d, some t => Nat.beq t d && B.testBit d && Nat.blt d nt
 | .n, none => true
 | _, _ => false
theorem okD_spec {A B nt : Nat} {fr : Fr} (hA : fr.AS = bits A nt) (hB : fr.BS = bits B nt) (hn : fr.nt = nt) {d : D} {t : Option Tmp} (h : okD A B nt d t = true) : DOk fr d t := by
 unfold okD at h
 split at h
 ·rename_i d t
  simp only [Bool.and_eq_true, Bool.not_eq_true', Nat.blt_eq] at h
  obtain ⟨⟨⟨h1, h2⟩, h3⟩, h4⟩ := h
  have := Nat.eq_of_beq_eq_true h1
  subst this
  exact ⟨rfl, by rw [hA, mem_bits, h2]; simp, by rw [hB, mem_bits, h3]; simp, by rw [hn]; exact h4⟩
 ·rename_i d t
  simp only [Bool.and_eq_true, Nat.blt_eq] at h
  obtain ⟨⟨h1, h2⟩, h4⟩ := h
  have := Nat.eq_of_beq_eq_true h1
  subst this
  exact ⟨rfl, by rw [hA, mem_bits]; exact ⟨h4, h2⟩, by rw [hn]; exact h4⟩
 ·rename_i d t
  simp only [Bool.and_eq_true, Nat.blt_eq] at h
  obtain ⟨⟨h1, h2⟩, h4⟩ := h
  have := Nat.eq_of_beq_eq_true h1
  subst this
  exact ⟨rfl, by rw [hB, mem_bits]; exact ⟨h4, h2⟩, by rw [hn]; exact h4⟩
 ·rfl
 ·cases h
def okG (ops : Array Oper) : Option (Nat × Bool) → Option (Nat × Bool) → Bool
 | none, none => true
 | some (t, b), some (j, b') => (b == b') && (match (ops[j]?).bind (·.dst) with
  | some t' => Nat.beq t' t
  | none => false)
 | _, _ => false
noncomputable def isFrz : K → Bool
 | .frz _ => true
 | _ => false
noncomputable def okOper (P : Program) (A B nt : Nat) (pure : Bool) (ops : Array Oper) (op : Op) (o : Oper) : Bool :=
 okD A B nt op.d o.dst && okG ops op.g o.guard && okKind P op.k op.d op.os o.op && (pure || !isFrz op.k)
theorem plan_not_al {k : K} {vs : List V} {p : Plan} (h : plan k vs = some p) (hk : k.allocs = false) : p.al = false := by
 cases k <;> first | (cases hk; done) | skip
 all_goals simp only [plan, plan_mv, plan_pmv, plan_pick, plan_bin, plan_bq, plan_sq, plan_aq, plan_nq, plan_sadd, plan_not, plan_cvt, plan_cvs, plan_bts, plan_ext, plan_len, plan_mx, plan_mn, plan_bld, plan_lit, plan_six, plan_fld, plan_sl, plan_fa, plan_ia, plan_iaa, plan_nc, plan_ld, plan_st, plan_box, plan_call, plan_callv, plan_mkf, plan_look, plan_upd, plan_frz, plan_cpy, binPlan] at h
 all_goals repeat' split at h
 all_goals first
  | (cases h; rfl)
  | (cases h; done)
  | (simp only [Option.map_eq_some_iff] at h; obtain ⟨_, _, rfl⟩ := h; rfl)
theorem plan_fz {k : K} {vs : List V} {t sz : Nat} (h : plan k vs = some (.frz t sz)) : isFrz k = true := by
 cases k <;> first | rfl | skip
 all_goals simp only [plan, plan_mv, plan_pmv, plan_pick, plan_bin, plan_bq, plan_sq, plan_aq, plan_nq, plan_sadd, plan_not, plan_cvt, plan_cvs, plan_bts, plan_ext, plan_len, plan_mx, plan_mn, plan_bld, plan_lit, plan_hlit, plan_six, plan_fld, plan_sl, plan_fa, plan_ia, plan_iaa, plan_nc, plan_ld, plan_st, plan_box, plan_hbox, plan_mk, plan_app, plan_call, plan_callv, plan_mkf, plan_mkm, plan_look, plan_upd, plan_cpy, binPlan] at h
 all_goals repeat' split at h
 all_goals first
  | (cases h; done)
  | (simp only [Option.map_eq_some_iff] at h; obtain ⟨_, _, h⟩ := h; cases h; done)
structure Inv (fr : Fr) (g0 : Gh) (mem0 : Mem) (g : Gh) (st : St) (a : Act) (w : World) : Prop where
 sim : Sim fr g st a w
 fresh : FreshFrom g st.mem st.mem.next
 lo : fr.lo ≤ st.mem.next
 le : Gh.le g0 g
 next : mem0.next ≤ st.mem.next
 blk : ∀ k, k < mem0.next → mem0.blk k = none → st.mem.blk k = none
 φ : ∀ k, k < mem0.next → g0.φ k = none → g.φ k = none
 I : ∀ b, g.I b → g0.I b ∨ fr.n0 ≤ b
structure InvH (fr : Fr) (g0 : Gh) (mem0 : Mem) (g : Gh) (mem : Mem) (h : Nat) (al : Bool) (g' : Gh) (st' : St) (a : Act) (w : World) : Prop where
 sim : Sim fr g' st' a w
 after : After g mem g' st'.mem h al
 lo : fr.lo ≤ st'.mem.next
 le : Gh.le g0 g'
 next : mem0.next ≤ st'.mem.next
 blk : ∀ k, k < mem0.next → mem0.blk k = none → st'.mem.blk k = none
 φ : ∀ k, k < mem0.next → g0.φ k = none → g'.φ k = none
 I : ∀ b, g'.I b → g0.I b ∨ fr.n0 ≤ b
section
variable {P : Program} {ck : Callk} {fr : Fr} {g0 : Gh} {mem0 : Mem} {g : Gh} {st st' : St} {a : Act} {w : World} {A B nt : Nat} {pure : Bool} {ops : Array Oper}
theorem Inv.of_sim (i : Inv fr g0 mem0 g st a w) {st' : St} {a' : Act} (s : Sim fr g st' a' w) (hm : st'.mem = st.mem) : Inv fr g0 mem0 g st' a' w :=
 ⟨s, by rw [hm]; exact i.fresh, by rw [hm]; exact i.lo, i.le, by rw [hm]; exact i.next, by rw [hm]; exact i.blk, i.φ, i.I⟩
theorem Inv.toH (i : Inv fr g0 mem0 g st a w) {st' : St} {a' : Act} (s : Sim fr g st' a' w) (hm : st'.mem = st.mem) (h : Nat) : InvH fr g0 mem0 g st.mem h false g st' a' w where
 sim := s
 after := .same i.fresh (.refl g) rfl (by rw [hm]) (by rw [hm]; exact fun _ h => h)
 lo := by rw [hm]; exact i.lo
 le := i.le
 next := by rw [hm]; exact i.next
 blk := by rw [hm]; exact i.blk
 φ := i.φ
 I := i.I
theorem skip_sound (hA : fr.AS = bits A nt) (hB : fr.BS = bits B nt) (hn : fr.nt = nt) (i : Inv fr g0 mem0 g st a w) {d : D} {dst : Option Tmp} (hd : okD A B nt d dst = true) (hs : skipOp st d = some st') : Sim fr g st' (a.put dst undef) w ∧ st'.mem = st.mem := by
 have hd' := okD_spec hA hB hn hd
 have hp : put st d .und = some st' := by
  cases d <;> exact hs
 exact put_sound i.sim hd' (DImg.of_img (.pure .und)) hp
theorem guard_spec (s : Sim fr g st a w) {t : Nat} {want : Bool} {v : V} {o : Oper} (hg : okG ops (some (t, want)) o.guard = true) (hv : st.env.get t = some v) :
  (v = .und → Region.wanted o (yielded ops a.tmps) = false) ∧ ∀ b, v = .bool b → Region.wanted o (yielded ops a.tmps) = (b == want) := by
 unfold okG at hg
 generalize ho : o.guard = og at hg
 split at hg
 ·rename_i h; cases h
 ·rename_i t' b' j b'' h1
  have h2 := ho
  cases h1
  simp only [Bool.and_eq_true, beq_iff_eq] at hg
  obtain ⟨rfl, hg⟩ := hg
  split at hg
  ·rename_i t2 ht2
   have e := Nat.eq_of_beq_eq_true hg
   subst e
   obtain ⟨_, _, x, hx, hi⟩ := s.env _ _ hv
   have hy : yielded ops a.tmps j = (match x with | .bool b => some b | _ => none) := by
    unfold yielded
    rw [ht2]
    simp only [Option.bind_some, hx]
    cases x <;> rfl
   refine ⟨fun e => ?_, fun b e => ?_⟩
   ·subst e
    have := hi.und_inv
    subst this
    simp [Region.wanted, h2, hy, undef]
   ·subst e
    have := hi.bool_inv
    subst this
    simp only [Region.wanted, h2, hy]
    cases b <;> cases want <;> rfl
  ·cases hg
 ·cases hg
theorem step_sound (hck : CkOk P src ck) (hcd : ∀ f args lo m r, ck f args lo m = some r → callable P (src f) = true) (hA : fr.AS = bits A nt) (hB : fr.BS = bits B nt) (hn : fr.nt = nt) (hS : pure = true → ∀ b, ¬ fr.S0 b)
  (i : Inv fr g0 mem0 g st a w) {h : Nat} (hh : st.mem.blk h = none ∧ g.φ h = none) (hhm : mem0.next ≤ h) {op : Op} {o : Oper} (hok : okOper P A B nt pure ops op o = true) (hs : step ck fr.lo h st op = some st')
  {next : Act → World → Prop} {Q : Exit → Act → World → Prop} (hnext : ∀ g' a' w', InvH fr g0 mem0 g st.mem h op.k.allocs g' st' a' w' → next a' w') :
  if Region.wanted o (yielded ops a.tmps) then o.wp P a w next Q else next (a.put o.dst undef) w := by
 unfold okOper at hok
 simp only [Bool.and_eq_true, Bool.or_eq_true] at hok
 obtain ⟨⟨⟨hd, hg⟩, hk⟩, hz⟩ := hok
 have weaken : ∀ {g' : Gh} {st' : St} {a' : Act} {w' : World}, InvH fr g0 mem0 g st.mem h false g' st' a' w' → InvH fr g0 mem0 g st.mem h op.k.allocs g' st' a' w' := fun q =>
  { q with after := { q.after with fresh := fun k hk _ => q.after.fresh k hk (fun e => by cases e) } }
 have hexec : exec ck fr.lo h st op = some st' → o.wp P a w next Q := by
  intro he
  unfold exec at he
  split at he
  ·cases he
  ·rename_i vs hvs
   split at he
   ·cases he
   ·rename_i p hp
    have hcall : ∀ f args, p = .call f args → callable P (src f) = true := by
     rintro f args rfl
     simp only [act] at he
     split at he
     ·cases he
     ·rename_i hc
      exact hcd _ _ _ _ _ hc
    have hPR := kind_sound i.sim hh.2 hk hvs hp hcall
    unfold Oper.wp
    refine act_sound hck i.sim i.fresh i.lo hh (okD_spec hA hB hn hd) hPR he (fun g' a' w' s' haft hI => hnext g' a' w' ?_)
    refine ⟨s', ?_, Nat.le_trans i.lo haft.next, i.le.trans haft.le, Nat.le_trans i.next haft.next, fun k hk1 hk2 => haft.blk k (by omega) (Nat.lt_of_lt_of_le hk1 i.next) (i.blk k hk1 hk2), fun k hk1 hk2 => haft.φ k (by omega) (Nat.lt_of_lt_of_le hk1 i.next) (i.φ k hk1 hk2), fun b hb => ?_⟩
    ·cases hal : op.k.allocs with
     | true => exact { haft with fresh := fun k hk1 hk2 => haft.fresh k hk1 (fun _ => hk2 rfl) }
     | false => rw [plan_not_al hp hal] at haft; exact haft
    ·rcases hI b hb with h1 | h1 | h1
     ·exact i.I b h1
     ·exact .inr (Nat.le_trans i.sim.keep.size h1)
     ·cases p with
      | frz t sz =>
       obtain ⟨h', B', l, h2, h3, h4, rfl⟩ := h1
       rcases i.sim.own h' B' l h2 h3 h4 with h5 | h5
       ·exact .inr h5
       ·rcases hz with hz | hz
        ·exact absurd h5 (hS hz _)
        ·rw [plan_fz hp] at hz; cases hz
      | _ => exact h1.elim
 unfold step at hs
 split at hs
 ·rename_i hgn
  have hw : Region.wanted o (yielded ops a.tmps) = true := by
   rw [hgn] at hg
   unfold okG at hg
   generalize ho : o.guard = og at hg
   split at hg
   ·simp [Region.wanted, ho]
   ·rename_i h1; cases h1
   ·cases hg
  rw [if_pos hw]
  exact hexec hs
 ·rename_i t want hgs
  rw [hgs] at hg
  split at hs
  ·rename_i b hb
   have hw := (guard_spec i.sim hg hb).2 b rfl
   split at hs
   ·rename_i e
    rw [if_pos (by rw [hw, e]; simp)]
    exact hexec hs
   ·rename_i e
    rw [if_neg (by rw [hw]; simpa using e)]
    obtain ⟨s1, hm⟩ := skip_sound hA hB hn i hd hs
    exact hnext g _ w (weaken (i.toH s1 hm h))
  ·rename_i hb
   have hw := (guard_spec i.sim hg hb).1 rfl
   rw [if_neg (by rw [hw]; simp)]
   obtain ⟨s1, hm⟩ := skip_sound hA hB hn i hd hs
   exact hnext g _ w (weaken (i.toH s1 hm h))
  ·cases hs
theorem pick_get : ∀ {live : List Nat} {e : Env} {t : Nat} {v : V}, (pick live e).get t = some v → e.get t = some v
 | [], e, t, v, h => by cases h
 | l :: live, e, t, v, h => by
  have hp : pick (l :: live) e = Option.rec (motive := fun _ => Env) (pick live e) (fun v => (l, v) :: pick live e) (e.get l) := rfl
  rw [hp] at h
  cases hl : e.get l with
  | none => rw [hl] at h; exact pick_get h
  | some u =>
   rw [hl] at h
   simp only [Env.get_cons] at h
   split at h
   ·rename_i e1; subst e1; cases h; exact hl
   ·exact pick_get h
theorem Sim.cut (s : Sim fr g st a w) (lv lb : List Nat) : Sim fr g (st.cut lv lb) a w :=
 ⟨s.mem, fun t v h => s.env t v (pick_get h), fun t e h => s.bx t e (pick_get h), fun t t' e e' b hne h h' => s.bxd t t' e e' b hne (pick_get h) (pick_get h'), fun t v h => (by cases h), s.size, s.defers, s.keep, s.own⟩
theorem Inv.cut (i : Inv fr g0 mem0 g st a w) (lv lb : List Nat) : Inv fr g0 mem0 g (st.cut lv lb) a w := i.of_sim (i.sim.cut lv lb) rfl
theorem Sim.bump (s : Sim fr g st a w) (n : Nat) : Sim fr g { st with mem := st.mem.bump n } a w :=
 ⟨⟨s.mem.blk, s.mem.inj, s.mem.lt⟩, s.env, fun t e h => let ⟨h1, b, h2, h3⟩ := s.bx t e h; ⟨h1, b, h2, ⟨h3.cells, h3.out, h3.new, h3.free⟩⟩, s.bxd, s.ad, s.size, s.defers, s.keep, s.own⟩
theorem InvH.inv {h : Nat} {al : Bool} {g' : Gh} (q : InvH fr g0 mem0 g st.mem h al g' st' a w) (hlt : al = true → h < st'.mem.next) : Inv fr g0 mem0 g' st' a w :=
 ⟨q.sim, fun k hk => q.after.fresh k hk (fun e => by have := hlt e; omega), q.lo, q.le, q.next, q.blk, q.φ, q.I⟩
theorem InvH.bumped {al : Bool} {g' : Gh} (q : InvH fr g0 mem0 g st.mem st.mem.next al g' st' a w) : Inv fr g0 mem0 g' (cond al { st' with mem := st'.mem.bump 1 } st') a w := by
 cases al with
 | false => exact q.inv (fun e => by cases e)
 | true =>
  have hn := q.after.next
  refine ⟨q.sim.bump 1, fun k hk => q.after.fresh k ?_ (fun _ => ?_), Nat.le_trans q.lo (Nat.le_add_right _ _), q.le, Nat.le_trans q.next (Nat.le_add_right _ _), q.blk, q.φ, q.I⟩
  ·have : st'.mem.next + 1 ≤ k := hk
   omega
  ·have : st'.mem.next + 1 ≤ k := hk
   omega
noncomputable def okOps (P : Program) (A B nt : Nat) (pure : Bool) (ops : Array Oper) : List Op → List Oper → Bool
 | [], [] => true
 | p :: ps, o :: os => okOper P A B nt pure ops p o && okOps P A B nt pure ops ps os
 | _, _ => false
theorem runOps_cons (lo : Nat) (o : Op) (os : List Op) : runOps ck lo (o :: os) st = (match step ck lo st.mem.next st o with
  | none => none
  | some st' => runOps ck lo os (cond o.k.allocs { st' with mem := st'.mem.bump 1 } st')) := by
 show Option.rec (motive := fun _ => Option St) none (fun st' => runOps ck lo os (cond o.k.allocs { st' with mem := st'.mem.bump 1 } st')) (step ck lo st.mem.next st o) = _
 cases step ck lo st.mem.next st o <;> rfl
theorem ops_sound (hck : CkOk P src ck) (hcd : ∀ f args lo m r, ck f args lo m = some r → callable P (src f) = true) (hA : fr.AS = bits A nt) (hB : fr.BS = bits B nt) (hn : fr.nt = nt) (hS : pure = true → ∀ b, ¬ fr.S0 b) {Q : Exit → Act → World → Prop} :
  ∀ (ps : List Op) (os : List Oper) {g : Gh} {st st' : St} {a : Act} {w : World}, okOps P A B nt pure ops ps os = true → Inv fr g0 mem0 g st a w → runOps ck fr.lo ps st = some st' → (∀ g' a' w', Inv fr g0 mem0 g' st' a' w' → Q .normal a' w') → wpList P ops Q os a w
 | [], [], g, st, st', a, w, _, i, hr, hQ => by
  cases hr
  exact hQ g a w i
 | p :: ps, o :: os, g, st, st', a, w, hok, i, hr, hQ => by
  simp only [okOps, Bool.and_eq_true] at hok
  rw [runOps_cons] at hr
  split at hr
  ·cases hr
  ·rename_i st1 hst
   refine wpList_step fun K hK => ?_
   refine step_sound hck hcd hA hB hn hS i (i.fresh _ (Nat.le_refl _)) i.next hok.1 hst (fun g' a' w' q => hK _ _ ?_)
   exact ops_sound hck hcd hA hB hn hS ps os hok.2 q.bumped hr hQ
 | [], _ :: _, _, _, _, _, _, hok, _, _, _ => by cases hok
 | _ :: _, [], _, _, _, _, _, hok, _, _, _ => by cases hok
end
end Go.Am
namespace Go.Am
open Go
abbrev Wr := List (Nat × Option Blk)
abbrev Bs := List (Nat × V)
def D.isX : D → Bool
 | .x _ => true
 | _ => false
noncomputable def viewF (blk : Nat → Option Blk) : V → Option (Nat × List V)
 | .nil => some (0, [])
 | .lst _ s xs => some (s, xs)
 | .row s h o l => match blk h with
  | some (.row s' es) => if o + l ≤ es.length ∧ s' = s then some (s, (es.drop o).take l) else none
  | _ => none
 | _ => none
noncomputable def eff (lo h : Nat) (blk : Nat → Option Blk) (bg : Nat → Option V) (d : D) : Plan → Option (V × Wr × Bs)
 | .ret v => if d.isX then none else some (v, [], [])
 | .rd h' f => if d.isX then none else match blk h' with
  | none => none
  | some b => (f b).map fun v => (v, [], [])
 | .wr h' f v => if d.isX then none else if lo ≤ h' then match blk h' with
   | none => none
   | some b => (f b).map fun b' => (v, [(h', some b')], [])
  else none
 | .rdb t f => if d.isX then none else match bg t with
  | none => none
  | some e => (f e).map fun v => (v, [], [])
 | .wrb t f => match d with
  | .n => match bg t with
   | none => none
   | some e => (f e).map fun e' => (.und, [], [(t, e')])
  | _ => none
 | .bx e => match d with
  | .x t => some (.und, [], [(t, e)])
  | _ => none
 | .alloc b g => if d.isX then none else some (g h, [(h, some b)], [])
 | .app d' sz x => if d.isX then none else match viewF blk x with
  | none => none
  | some (s, xs) => match d', xs with
   | none, [] => some (.nil, [], [])
   | none, y :: ys => if s = sz ∧ (y :: ys).length < big then some (.row sz h 0 (y :: ys).length, [(h, some (.row sz (y :: ys)))], []) else none
   | some (h', o, l), xs => if lo ≤ h' ∧ (s = sz ∨ xs.length = 0) ∧ l + xs.length < big then
     match blk h' with
     | some (.row s' es) => if s' = sz ∧ o + l ≤ es.length then some (.row sz h 0 (l + xs.length), [(h', none), (h, some (.row sz ((es.drop o).take l ++ xs)))], []) else none
     | _ => none
    else none
 | .cpy sz h' o l x => if d.isX then none else match viewF blk x with
  | none => none
  | some (s, xs) => if lo ≤ h' then
    match blk h' with
    | some (.row s' es) => if (s = sz ∨ xs.length = 0) ∧ s' = sz ∧ o + l ≤ es.length then
      some (.int .i64 (min l xs.length : Nat), [(h', some (.row s' (es.take o ++ xs.take (min l xs.length) ++ es.drop (o + min l xs.length))))], [])
     else none
    | _ => none
   else none
 | .call _ _ => none
 | .frz _ _ => none
noncomputable def Mem.wr (m : Mem) : Wr → Mem
 | [] => m
 | (h, b) :: ws => (m.set h b).wr ws
noncomputable def St.push (st : St) (d : D) (v : V) : St :=
 match d with
 | .e t => { st with env := (t, v) :: st.env }
 | .a t => { st with ad := (t, v) :: st.ad }
 | _ => st
noncomputable def St.app (st : St) (d : D) (r : V × Wr × Bs) : St := St.push { st with mem := st.mem.wr r.2.1, bx := r.2.2 ++ st.bx } d r.1
def Plan.isCall : Plan → Bool
 | .call _ _ => true
 | _ => false
def Plan.isFrz : Plan → Bool
 | .frz _ _ => true
 | _ => false
def Plan.isBx : Plan → Bool
 | .bx _ => true
 | _ => false
theorem put_push {st : St} {d : D} {v : V} : put st d v = if d.isX then none else some (st.push d v) := by
 cases d <;> rfl
theorem act_eff {ck : Callk} {lo h : Nat} {st : St} {d : D} {p : Plan} (hc : p.isCall = false) (hf : p.isFrz = false) :
  act ck lo h st d p = if p.isBx && (match d with | .x t => hasLoc t st.ad | _ => false) then none else (eff lo h st.mem.blk st.bx.get d p).map (st.app d) := by
 have hv : ∀ x, view st.mem x = viewF st.mem.blk x := fun x => by cases x <;> rfl
 cases p with
 | ret v => simp only [act, eff, put_push, Plan.isBx, Bool.false_and]; cases d <;> rfl
 | rd h' f =>
  simp only [act, eff, put_push, Plan.isBx, Bool.false_and]
  cases d <;> (cases st.mem.blk h' with
   | none => rfl
   | some b => simp only; cases f b <;> rfl)
 | wr h' f v =>
  simp only [act, eff, put_push, Plan.isBx, Bool.false_and]
  by_cases hl : lo ≤ h'
  ·simp only [hl, if_true]
   cases d <;> (cases st.mem.blk h' with
    | none => rfl
    | some b => simp only; cases f b <;> rfl)
  ·simp only [hl, if_false]
   cases d <;> rfl
 | rdb t f =>
  simp only [act, eff, put_push, Plan.isBx, Bool.false_and]
  cases d <;> (cases st.bx.get t with
   | none => rfl
   | some b => simp only; cases f b <;> rfl)
 | wrb t f =>
  simp only [act, eff, Plan.isBx, Bool.false_and]
  cases d <;> (cases st.bx.get t with
   | none => rfl
   | some b => simp only; cases f b <;> rfl)
 | bx e =>
  simp only [act, eff, Plan.isBx, Bool.true_and]
  cases d with
  | x t => simp only; cases hasLoc t st.ad <;> rfl
  | _ => rfl
 | alloc b g => simp only [act, eff, put_push, Plan.isBx, Bool.false_and]; cases d <;> rfl
 | app d' sz x =>
  simp only [act, eff, hv, put_push, Plan.isBx, Bool.false_and]
  cases viewF st.mem.blk x with
  | none => cases d <;> rfl
  | some r =>
   obtain ⟨s, xs⟩ := r
   cases d' with
   | none =>
    cases xs with
    | nil => cases d <;> rfl
    | cons y ys =>
     simp only
     by_cases h1 : s = sz ∧ (y :: ys).length < big
     ·simp only [h1, and_self, if_true]; cases d <;> rfl
     ·simp only [h1, if_false]; cases d <;> rfl
   | some q =>
    obtain ⟨h', o, l⟩ := q
    simp only
    by_cases h1 : lo ≤ h' ∧ (s = sz ∨ xs.length = 0) ∧ l + xs.length < big
    ·rw [if_pos h1, if_pos h1]
     cases hb : st.mem.blk h' with
     | none => cases d <;> rfl
     | some b =>
      cases b with
      | map _ => cases d <;> rfl
      | row s' es =>
       simp only
       by_cases h2 : s' = sz ∧ o + l ≤ es.length
       ·rw [if_pos h2, if_pos h2]; cases d <;> rfl
       ·rw [if_neg h2, if_neg h2]; cases d <;> rfl
    ·rw [if_neg h1, if_neg h1]; cases d <;> rfl
 | cpy sz h' o l x =>
  simp only [act, eff, hv, put_push, Plan.isBx, Bool.false_and]
  cases viewF st.mem.blk x with
  | none => cases d <;> rfl
  | some r =>
   obtain ⟨s, xs⟩ := r
   simp only
   by_cases h1 : lo ≤ h'
   ·rw [if_pos h1, if_pos h1]
    cases hb : st.mem.blk h' with
    | none => cases d <;> rfl
    | some b =>
     cases b with
     | map _ => cases d <;> rfl
     | row s' es =>
      simp only
      by_cases h2 : (s = sz ∨ xs.length = 0) ∧ s' = sz ∧ o + l ≤ es.length
      ·rw [if_pos h2, if_pos h2]; cases d <;> rfl
      ·rw [if_neg h2, if_neg h2]; cases d <;> rfl
   ·rw [if_neg h1, if_neg h1]; cases d <;> rfl
 | call _ _ => cases hc
 | frz _ _ => cases hf
noncomputable def Plan.rkeys (h : Nat) : Plan → List Key
 | .ret _ => []
 | p => p.keys h
theorem viewF_cong {blk blk2 : Nat → Option Blk} {x : V} (hk : ∀ h', Key.h h' ∈ x.key → blk h' = blk2 h') : viewF blk x = viewF blk2 x := by
  cases x <;> first
    | rfl
    | (rename_i s h o l
       have := hk h (by simp [V.key])
       simp only [viewF, this])
theorem eff_cong {lo h : Nat} {blk blk2 : Nat → Option Blk} {bg bg2 : Nat → Option V} {d : D} {p : Plan} (hk : ∀ h', Key.h h' ∈ p.rkeys h → blk h' = blk2 h') (hb : ∀ t, Key.bx t ∈ p.rkeys h → bg t = bg2 t) : eff lo h blk bg d p = eff lo h blk2 bg2 d p := by
 cases p with
 | rd h' f => simp only [eff, hk h' (by simp [Plan.rkeys, Plan.keys])]
 | wr h' f v => simp only [eff, hk h' (by simp [Plan.rkeys, Plan.keys])]
 | rdb t f => simp only [eff, hb t (by simp [Plan.rkeys, Plan.keys])]
 | wrb t f => simp only [eff, hb t (by simp [Plan.rkeys, Plan.keys])]
 | app d' sz x =>
  cases d' with
  | none =>
   have hv : viewF blk x = viewF blk2 x := viewF_cong fun h' hh => hk h' (by simp [Plan.rkeys, Plan.keys, hh])
   simp only [eff, hv]
   cases viewF blk2 x with
   | none => rfl
   | some r =>
    obtain ⟨s, xs⟩ := r
    cases xs <;> rfl
  | some q =>
   obtain ⟨h', o, l⟩ := q
   have hv : viewF blk x = viewF blk2 x := viewF_cong fun h' hh => hk h' (by simp [Plan.rkeys, Plan.keys, hh])
   have h1 := hk h' (by simp [Plan.rkeys, Plan.keys])
   simp only [eff, hv, h1]
 | cpy sz h' o l x =>
  have hv : viewF blk x = viewF blk2 x := viewF_cong fun h' hh => hk h' (by simp [Plan.rkeys, Plan.keys, hh])
  have h1 := hk h' (by simp [Plan.rkeys, Plan.keys])
  simp only [eff, hv, h1]
 | _ => rfl
noncomputable def D.keys : D → List Key
 | .x t => [.bx t]
 | _ => []
theorem eff_writes {lo h : Nat} {blk : Nat → Option Blk} {bg : Nat → Option V} {d : D} {p : Plan} {v : V} {ws : Wr} {bs : Bs} (he : eff lo h blk bg d p = some (v, ws, bs)) :
  (∀ k b, (k, b) ∈ ws → Key.h k ∈ p.keys h) ∧ (∀ t e, (t, e) ∈ bs → Key.bx t ∈ d.keys ++ p.keys h ∧ (p.isBx = true ∨ (bg t).isSome = true)) := by
 have base : ∀ {o : Option V} , (o.map fun v => (v, ([] : Wr), ([] : Bs))) = some (v, ws, bs) → ws = [] ∧ bs = [] := by
  intro o h
  simp only [Option.map_eq_some_iff] at h
  obtain ⟨_, _, h⟩ := h
  cases h
  exact ⟨rfl, rfl⟩
 cases p with
 | ret v =>
  simp only [eff] at he
  split at he
  ·cases he
  ·cases he; exact ⟨by simp, by simp⟩
 | rd h' f =>
  simp only [eff] at he
  split at he
  ·cases he
  ·split at he
   ·cases he
   ·obtain ⟨rfl, rfl⟩ := base he; exact ⟨by simp, by simp⟩
 | rdb h' f =>
  simp only [eff] at he
  split at he
  ·cases he
  ·split at he
   ·cases he
   ·obtain ⟨rfl, rfl⟩ := base he; exact ⟨by simp, by simp⟩
 | wr h' f v =>
  simp only [eff] at he
  split at he
  ·cases he
  ·split at he
   ·split at he
    ·cases he
    ·simp only [Option.map_eq_some_iff] at he
     obtain ⟨_, _, he⟩ := he
     cases he
     exact ⟨fun k b hk => by simp at hk; obtain ⟨rfl, _⟩ := hk; simp [Plan.keys], by simp⟩
   ·cases he
 | wrb t f =>
  simp only [eff] at he
  split at he
  ·split at he
   ·cases he
   ·rename_i e0 he0
    simp only [Option.map_eq_some_iff] at he
    obtain ⟨_, _, he⟩ := he
    cases he
    exact ⟨by simp, fun k b hk => by simp at hk; obtain ⟨rfl, _⟩ := hk; exact ⟨by simp [Plan.keys], .inr (by rw [he0]; rfl)⟩⟩
  ·cases he
 | bx e =>
  simp only [eff] at he
  split at he
  ·cases he
   exact ⟨by simp, fun k b hk => by simp at hk; obtain ⟨rfl, _⟩ := hk; exact ⟨by simp [D.keys], .inl rfl⟩⟩
  ·cases he
 | alloc b g =>
  simp only [eff] at he
  split at he
  ·cases he
  ·cases he
   exact ⟨fun k b hk => by simp at hk; obtain ⟨rfl, _⟩ := hk; simp [Plan.keys], by simp⟩
 | app d' sz x =>
  simp only [eff] at he
  split at he
  ·cases he
  ·split at he
   ·cases he
   ·split at he
    ·cases he; exact ⟨by simp, by simp⟩
    ·split at he
     ·cases he
      exact ⟨fun k b hk => by simp at hk; obtain ⟨rfl, _⟩ := hk; simp [Plan.keys], by simp⟩
     ·cases he
    ·split at he
     ·split at he
      ·split at he
       ·cases he
        exact ⟨fun k b hk => by simp at hk; rcases hk with ⟨rfl, _⟩ | ⟨rfl, _⟩ <;> simp [Plan.keys], by simp⟩
       ·cases he
      ·cases he
     ·cases he
 | cpy sz h' o l x =>
  simp only [eff] at he
  split at he
  ·cases he
  ·split at he
   ·cases he
   ·split at he
    ·split at he
     ·split at he
      ·cases he
       exact ⟨fun k b hk => by simp at hk; obtain ⟨rfl, _⟩ := hk; simp [Plan.keys], by simp⟩
      ·cases he
     ·cases he
    ·cases he
 | call _ _ => cases he
 | frz _ _ => cases he
structure Eqv (s s' : St) : Prop where
 env : ∀ t, s.env.get t = s'.env.get t
 bx : ∀ t, s.bx.get t = s'.bx.get t
 ad : ∀ t, s.ad.get t = s'.ad.get t
 loc : ∀ d, hasLoc d s.ad = hasLoc d s'.ad
 mem : s.mem = s'.mem
theorem Eqv.refl (s : St) : Eqv s s := ⟨fun _ => rfl, fun _ => rfl, fun _ => rfl, fun _ => rfl, rfl⟩
theorem Eqv.symm {s t : St} (h : Eqv s t) : Eqv t s := ⟨fun x => (h.env x).symm, fun x => (h.bx x).symm, fun x => (h.ad x).symm, fun x => (h.loc x).symm, h.mem.symm⟩
theorem Eqv.trans {s t u : St} (h : Eqv s t) (k : Eqv t u) : Eqv s u := ⟨fun x => (h.env x).trans (k.env x), fun x => (h.bx x).trans (k.bx x), fun x => (h.ad x).trans (k.ad x), fun x => (h.loc x).trans (k.loc x), h.mem.trans k.mem⟩
def O.name : O → Option Nat
 | .t i | .b i | .a i => some i
 | .k _ => none
def D.name : D → Option Nat
 | .e i | .a i | .x i => some i
 | .n => none
def Op.names (o : Op) : List Nat := (o.os.filterMap O.name) ++ (match o.g with | some (t, _) => [t] | none => [])
theorem getO_same {s s' : St} {o : O} (he : ∀ t, o = .t t → s.env.get t = s'.env.get t) (hb : ∀ t, o = .b t → (s.bx.get t).isSome = (s'.bx.get t).isSome) (ha : ∀ t, o = .a t → s.ad.get t = s'.ad.get t) : getO s o = getO s' o := by
 cases o with
 | t i => exact he i rfl
 | k v => rfl
 | b i =>
  have := hb i rfl
  simp only [getO]
  cases h1 : s.bx.get i <;> cases h2 : s'.bx.get i <;> rw [h1, h2] at this <;> first | rfl | cases this
 | a i => exact ha i rfl
theorem getOs_same {s s' : St} : ∀ {os : List O}, (∀ o ∈ os, getO s o = getO s' o) → getOs s os = getOs s' os
 | [], _ => rfl
 | o :: os, h => by
  rw [getOs_cons, getOs_cons, h o (by simp), getOs_same fun o ho => h o (by simp [ho])]
def Agree (o : Op) (s s' : St) : Prop := (∀ t ∈ o.names, s.env.get t = s'.env.get t ∧ (s.bx.get t).isSome = (s'.bx.get t).isSome ∧ s.ad.get t = s'.ad.get t)
theorem Agree.os {o : Op} {s s' : St} (h : Agree o s s') : getOs s o.os = getOs s' o.os := by
 refine getOs_same fun q hq => ?_
 have hn : ∀ t, q.name = some t → t ∈ o.names := fun t ht => List.mem_append.2 (.inl (List.mem_filterMap.2 ⟨q, hq, ht⟩))
 exact getO_same (fun t e => (h t (hn t (by rw [e]; rfl))).1) (fun t e => (h t (hn t (by rw [e]; rfl))).2.1) (fun t e => (h t (hn t (by rw [e]; rfl))).2.2)
theorem Agree.guard {o : Op} {s s' : St} (h : Agree o s s') {t : Nat} {b : Bool} (hg : o.g = some (t, b)) : s.env.get t = s'.env.get t :=
 (h t (List.mem_append.2 (.inr (by rw [hg]; simp)))).1
theorem Eqv.agree {s s' : St} (h : Eqv s s') (o : Op) : Agree o s s' := fun t _ => ⟨h.env t, by rw [h.bx], h.ad t⟩
noncomputable def pre (st : St) (o : Op) : Option (Option Plan) :=
 let run := match getOs st o.os with
  | none => none
  | some vs => match plan o.k vs with
   | none => none
   | some p => some (some p)
 match o.g with
 | none => run
 | some (t, want) => match st.env.get t with
  | some (.bool b) => if b = want then run else some none
  | some .und => some none
  | _ => none
theorem pre_agree {o : Op} {s s' : St} (h : Agree o s s') : pre s o = pre s' o := by
 unfold pre
 rw [h.os]
 cases hg : o.g with
 | none => rfl
 | some q =>
  obtain ⟨t, b⟩ := q
  simp only [h.guard hg]
theorem step_pre {ck : Callk} {lo h : Nat} {st : St} {o : Op} : step ck lo h st o = (match pre st o with
    | none => none
    | some none => skipOp st o.d
    | some (some p) => act ck lo h st o.d p) := by
  unfold step pre exec
  cases o.g with
  | none =>
    simp only
    cases getOs st o.os with
    | none => rfl
    | some vs => simp only; cases plan o.k vs <;> rfl
  | some q =>
    obtain ⟨t, want⟩ := q
    simp only
    cases st.env.get t with
    | none => rfl
    | some v =>
      cases v <;> first
        | rfl
        | (rename_i b
           simp only
           by_cases e : b = want
           · rw [if_pos e, if_pos e]
             cases getOs st o.os with
             | none => rfl
             | some vs => simp only; cases plan o.k vs <;> rfl
           · rw [if_neg e, if_neg e])
theorem keysOf_agree {o : Op} {s s' : St} {h : Nat} (ha : Agree o s s') : keysOf h s o = keysOf h s' o := by
 unfold keysOf
 rw [ha.os]
inductive Does (ck : Callk) (lo h : Nat) (st : St) (o : Op) : V × Wr × Bs → Prop
 | skip (hp : pre st o = some none) (hx : o.d.isX = false) : Does ck lo h st o (.und, [], [])
 | eff (p : Plan) (r : V × Wr × Bs) (hp : pre st o = some (some p)) (hc : p.isCall = false) (hf : p.isFrz = false) (hl : ∀ t, p.isBx = true → o.d = .x t → hasLoc t st.ad = false) (he : eff lo h st.mem.blk st.bx.get o.d p = some r) : Does ck lo h st o r
 | call (f : Nat) (args : List V) (v : V) (hp : pre st o = some (some (.call f args))) (hx : o.d.isX = false) (hc : ck f args lo st.mem = some (v, st.mem)) : Does ck lo h st o (v, [], [])
theorem Does.step {ck : Callk} {lo h : Nat} {st : St} {o : Op} {r : V × Wr × Bs} (hd : Does ck lo h st o r) : step ck lo h st o = some (st.app o.d r) := by
 rw [step_pre]
 cases hd with
 | skip hp hx =>
  rw [hp]
  simp only [St.app, Mem.wr, List.nil_append]
  cases ho : o.d <;> first | rfl | (rw [ho] at hx; cases hx)
 | eff p r hp hc hf hl he =>
  rw [hp]
  simp only
  rw [act_eff hc hf, he]
  rw [if_neg]
  ·rfl
  ·intro h2
   simp only [Bool.and_eq_true] at h2
   obtain ⟨h3, h4⟩ := h2
   cases ho : o.d with
   | x t => rw [ho] at h4; simp only at h4; rw [hl t h3 ho] at h4; cases h4
   | _ => rw [ho] at h4; cases h4
 | call f args v hp hx hc =>
  rw [hp]
  simp only [act, hc, put_push, hx]
  rfl
def PureCk (ck : Callk) (pf : Nat → Bool) : Prop :=
 ∀ f args lo m v m', ck f args lo m = some (v, m') → pf f = true → m' = m ∧ ∀ h b, m.blk h = none → h < m.next → ck f args lo (m.set h (some b)) = some (v, m.set h (some b))
noncomputable def K.opens (pf : Nat → Bool) : K → Bool
 | .call f => pf f
 | .callv | .frz _ => false
 | _ => true
theorem plan_call_of {k : K} {vs : List V} {f : Nat} {args : List V} (h : plan k vs = some (.call f args)) : k = .call f ∨ k = .callv := by
 cases k <;> first | (exact .inr rfl) | skip
 case call f' => simp only [plan, plan_call] at h; cases h; exact .inl rfl
 all_goals exfalso
 all_goals simp only [plan, plan_mv, plan_pmv, plan_pick, plan_bin, plan_bq, plan_sq, plan_aq, plan_nq, plan_sadd, plan_not, plan_cvt, plan_cvs, plan_bts, plan_ext, plan_len, plan_mx, plan_mn, plan_bld, plan_lit, plan_hlit, plan_six, plan_fld, plan_sl, plan_fa, plan_ia, plan_iaa, plan_nc, plan_ld, plan_st, plan_box, plan_hbox, plan_mk, plan_app, plan_frz, plan_mkf, plan_mkm, plan_look, plan_upd, plan_cpy, binPlan] at h
 all_goals repeat' split at h
 all_goals first
  | (cases h; done)
  | (simp only [Option.map_eq_some_iff] at h; obtain ⟨_, _, h⟩ := h; cases h; done)
theorem pre_plan {st : St} {o : Op} {p : Plan} (h : pre st o = some (some p)) : ∃ vs, getOs st o.os = some vs ∧ plan o.k vs = some p := by
 unfold pre at h
 have key : ∀ {q : Option (Option Plan)}, q = some (some p) → q = (match getOs st o.os with
  | none => none
  | some vs => match plan o.k vs with
   | none => none
   | some p => some (some p)) → ∃ vs, getOs st o.os = some vs ∧ plan o.k vs = some p := by
  intro q h1 h2
  rw [h1] at h2
  cases hg : getOs st o.os with
  | none => rw [hg] at h2; cases h2
  | some vs =>
   rw [hg] at h2
   simp only at h2
   cases hp : plan o.k vs with
   | none => rw [hp] at h2; cases h2
   | some p' => rw [hp] at h2; simp at h2; exact ⟨vs, rfl, by rw [h2]; exact hp⟩
 simp only at h
 split at h
 ·exact key h rfl
 ·split at h
  ·split at h
   ·exact key h rfl
   ·cases h
  ·cases h
  ·cases h
theorem does_of_step {ck : Callk} {pf : Nat → Bool} (hpc : PureCk ck pf) {lo h : Nat} {st st' : St} {o : Op} (ho : o.k.opens pf = true) (hs : step ck lo h st o = some st') : ∃ r, Does ck lo h st o r ∧ st' = st.app o.d r := by
 have hs0 := hs
 rw [step_pre] at hs
 have fin : ∀ {r}, Does ck lo h st o r → ∃ r, Does ck lo h st o r ∧ st' = st.app o.d r := fun hd => ⟨_, hd, by rw [hd.step] at hs0; exact (Option.some.inj hs0).symm⟩
 cases hp : pre st o with
 | none => rw [hp] at hs; cases hs
 | some q =>
  rw [hp] at hs
  cases q with
  | none =>
   refine fin (.skip hp ?_)
   cases hd : o.d <;> first | rfl | (rw [hd] at hs; cases hs)
  | some p =>
   simp only at hs
   obtain ⟨vs, hvs, hpl⟩ := pre_plan hp
   cases hc : p.isCall with
   | true =>
    cases p with
    | call f args =>
     simp only [act] at hs
     split at hs
     ·cases hs
     ·rename_i v m hck
      have hpf : pf f = true := by
       rcases plan_call_of hpl with e | e
       ·rw [e] at ho; exact ho
       ·rw [e] at ho; cases ho
      obtain ⟨rfl, _⟩ := hpc f args lo _ v m hck hpf
      refine fin (.call f args v hp ?_ hck)
      rw [put_push] at hs
      cases hx : o.d.isX with
      | false => rfl
      | true => rw [hx] at hs; cases hs
    | _ => cases hc
   | false =>
    have hf : p.isFrz = false := by
     cases p with
     | frz t sz =>
      have := plan_fz hpl
      cases hk : o.k <;> first | (rw [hk] at this; cases this; done) | (rw [hk] at ho; cases ho)
     | _ => rfl
    rw [act_eff hc hf] at hs
    by_cases hl : (p.isBx && (match o.d with | .x t => hasLoc t st.ad | _ => false)) = true
    ·rw [if_pos hl] at hs; cases hs
    ·rw [if_neg hl] at hs
     simp only [Option.map_eq_some_iff] at hs
     obtain ⟨r, hr, _⟩ := hs
     refine fin (.eff p r hp hc hf (fun t hb hd => ?_) hr)
     rw [hb, hd] at hl
     simpa using hl
theorem Mem.wr_next : ∀ (ws : Wr) (m : Mem), (m.wr ws).next = m.next
 | [], _ => rfl
 | (h, b) :: ws, m => (Mem.wr_next ws (m.set h b)).trans rfl
theorem Mem.wr_out : ∀ {ws : Wr} {m : Mem} {k : Nat}, (∀ b, (k, b) ∉ ws) → (m.wr ws).blk k = m.blk k
 | [], _, _, _ => rfl
 | (h, b) :: ws, m, k, hk => by
  have h1 : k ≠ h := fun e => hk b (by rw [e]; simp)
  rw [Mem.wr, Mem.wr_out (ws := ws) (fun b' hb => hk b' (by simp [hb]))]
  simp [Mem.set, h1]
theorem Mem.wr_in : ∀ {ws : Wr} {m m' : Mem} {k : Nat}, (∃ b, (k, b) ∈ ws) → (m.wr ws).blk k = (m'.wr ws).blk k
 | [], _, _, _, h => by obtain ⟨_, h⟩ := h; cases h
 | (h, b) :: ws, m, m', k, hk => by
  by_cases hin : ∃ b', (k, b') ∈ ws
  ·show ((m.set h b).wr ws).blk k = ((m'.set h b).wr ws).blk k
   exact Mem.wr_in hin
  ·have hout : ∀ b', (k, b') ∉ ws := fun b' hb => hin ⟨b', hb⟩
   rw [Mem.wr, Mem.wr, Mem.wr_out hout, Mem.wr_out hout]
   obtain ⟨b', hb'⟩ := hk
   rcases List.mem_cons.1 hb' with e | e
   ·cases e; simp [Mem.set]
   ·exact absurd e (hout b')
theorem Mem.ext' {m m' : Mem} (h : ∀ k, m.blk k = m'.blk k) (hn : m.next = m'.next) : m = m' := by
 cases m; cases m'
 simp at hn
 subst hn
 congr
 exact funext h
theorem Mem.wr_comm {ws ws' : Wr} {m : Mem} (hd : ∀ k b b', (k, b) ∈ ws → (k, b') ∉ ws') : (m.wr ws).wr ws' = (m.wr ws').wr ws := by
 refine Mem.ext' (fun k => ?_) (by simp only [Mem.wr_next])
 by_cases h1 : ∃ b, (k, b) ∈ ws
 ·obtain ⟨b, hb⟩ := h1
  rw [Mem.wr_out (ws := ws') (fun b' => hd k b b' hb)]
  exact Mem.wr_in ⟨b, hb⟩
 ·have h1' : ∀ b, (k, b) ∉ ws := fun b hb => h1 ⟨b, hb⟩
  rw [Mem.wr_out (ws := ws) (m := m.wr ws') h1']
  by_cases h2 : ∃ b, (k, b) ∈ ws'
  ·exact Mem.wr_in h2
  ·have h2' : ∀ b, (k, b) ∉ ws' := fun b hb => h2 ⟨b, hb⟩
   rw [Mem.wr_out h2', Mem.wr_out h2', Mem.wr_out h1']
theorem Env.get_append : ∀ (a b : Env) (t : Nat), Env.get (a ++ b) t = match Env.get a t with | some v => some v | none => Env.get b t
 | [], _, _ => rfl
 | (k, v) :: a, b, t => by
  rw [List.cons_append, Env.get_cons, Env.get_cons]
  by_cases h : k = t
  ·rw [if_pos h, if_pos h]
  ·rw [if_neg h, if_neg h]
   exact Env.get_append a b t
theorem Env.get_none {a : Env} {t : Nat} (h : ∀ v, (t, v) ∉ a) : Env.get a t = none := by
 induction a with
 | nil => rfl
 | cons p a ih =>
  obtain ⟨k, v⟩ := p
  rw [Env.get_cons, if_neg (fun e => h v (by rw [e]; simp))]
  exact ih fun v hv => h v (by simp [hv])
theorem app_env {s : St} {d : D} {r : V × Wr × Bs} {t : Nat} (h : d.name ≠ some t) : (s.app d r).env.get t = s.env.get t := by
  cases d <;> first
    | rfl
    | (rename_i k
       show Env.get ((k, r.1) :: s.env) t = _
       rw [Env.get_cons, if_neg (fun e => h (by rw [e]; rfl))])
theorem app_ad {s : St} {d : D} {r : V × Wr × Bs} {t : Nat} (h : d.name ≠ some t) : (s.app d r).ad.get t = s.ad.get t := by
  cases d <;> first
    | rfl
    | (rename_i k
       show Env.get ((k, r.1) :: s.ad) t = _
       rw [Env.get_cons, if_neg (fun e => h (by rw [e]; rfl))])
theorem app_bx {s : St} {d : D} {r : V × Wr × Bs} : (s.app d r).bx = r.2.2 ++ s.bx := by cases d <;> rfl
theorem app_mem {s : St} {d : D} {r : V × Wr × Bs} : (s.app d r).mem = s.mem.wr r.2.1 := by cases d <;> rfl
def nmApart (i j : Op) : Prop := (∀ t, i.d.name = some t → t ∉ j.names ∧ j.d.name ≠ some t) ∧ (∀ t, j.d.name = some t → t ∉ i.names)
theorem Does.bs {ck : Callk} {lo h : Nat} {st : St} {o : Op} {r : V × Wr × Bs} (hd : Does ck lo h st o r) : ∀ t e, (t, e) ∈ r.2.2 → o.d.name = some t ∨ (st.bx.get t).isSome = true := by
 intro t e ht
 cases hd with
 | skip => cases ht
 | call => cases ht
 | eff p r hp hc hf hl he =>
  obtain ⟨v, ws, bs⟩ := r
  rcases ((eff_writes he).2 t e ht).2 with h1 | h1
  ·cases p with
   | bx e' =>
    cases ho : o.d with
    | x t' =>
     rw [ho] at he
     cases he
     have h3 : (t, e) ∈ [(t', e')] := ht
     left
     rcases List.mem_cons.1 h3 with h4 | h4
     ·cases h4; rfl
     ·cases h4
    | _ => rw [ho] at he; cases he
   | _ => cases h1
  ·exact .inr h1
theorem app_agree {ck : Callk} {lo h : Nat} {st : St} {i j : Op} {r : V × Wr × Bs} (hd : Does ck lo h st i r) (hn : ∀ t, i.d.name = some t → t ∉ j.names) : Agree j st (st.app i.d r) := by
 intro t ht
 have hne : i.d.name ≠ some t := fun e => hn t e ht
 refine ⟨(app_env hne).symm, ?_, (app_ad hne).symm⟩
 rw [app_bx, Env.get_append]
 cases h1 : Env.get r.2.2 t with
 | none => rfl
 | some v =>
  have hmem : ∃ v, (t, v) ∈ r.2.2 := by
   apply Classical.byContradiction
   intro hno
   have := Env.get_none (a := r.2.2) (t := t) (fun v hv => hno ⟨v, hv⟩)
   rw [h1] at this; cases this
  obtain ⟨v', hv'⟩ := hmem
  rcases hd.bs t v' hv' with e | e
  ·exact absurd e hne
  ·rw [e]; rfl
structure Can (st : St) (hi hj : Nat) (i j : Op) (ri rj : V × Wr × Bs) : Prop where
 nm : nmApart i j
 mem : ∀ k b, (k, b) ∈ ri.2.1 → ∀ b', (k, b') ∉ rj.2.1
 bx : ∀ t e, (t, e) ∈ ri.2.2 → ∀ e', (t, e') ∉ rj.2.2
 kj : ∀ p, pre st j = some (some p) → p.isCall = false → (∀ k, Key.h k ∈ p.rkeys hj → ∀ b, (k, b) ∉ ri.2.1) ∧ (∀ t, Key.bx t ∈ p.rkeys hj → ∀ e, (t, e) ∉ ri.2.2)
 ki : ∀ p, pre st i = some (some p) → p.isCall = false → (∀ k, Key.h k ∈ p.rkeys hi → ∀ b, (k, b) ∉ rj.2.1) ∧ (∀ t, Key.bx t ∈ p.rkeys hi → ∀ e, (t, e) ∉ rj.2.2)
 loc : ∀ t, i.d = .x t → ∀ t', j.d = .a t' → ∀ off, rj.1 ≠ .loc t off
 cj : ∀ f args, pre st j = some (some (.call f args)) → ri.2.1 = []
 ci : ∀ f args, pre st i = some (some (.call f args)) → rj.2.1 = [] ∨ ∃ b, rj.2.1 = [(hj, some b)]
noncomputable def isLoc (t : Nat) : V → Bool
 | .loc t2 _ => Nat.beq t2 t
 | _ => false
theorem hasLoc_cons (t k : Nat) (v : V) (ad : Env) : hasLoc t ((k, v) :: ad) = (isLoc t v || hasLoc t ad) := by
 cases v with
 | loc t2 o2 =>
  show cond (Nat.beq t2 t) true (hasLoc t ad) = (Nat.beq t2 t || hasLoc t ad)
  cases Nat.beq t2 t <;> rfl
 | _ => rfl
theorem isLoc_false {t : Nat} {v : V} (h : ∀ off, v ≠ .loc t off) : isLoc t v = false := by
 cases v with
 | loc t2 o2 =>
  show Nat.beq t2 t = false
  cases hb : Nat.beq t2 t with
  | false => rfl
  | true =>
   have e := Nat.eq_of_beq_eq_true hb
   subst e
   exact absurd rfl (h o2)
 | _ => rfl
theorem app_hasLoc {s : St} {d : D} {r : V × Wr × Bs} {t : Nat} (h : hasLoc t s.ad = false) (hr : ∀ t', d = .a t' → ∀ off, r.1 ≠ .loc t off) : hasLoc t (s.app d r).ad = false := by
 cases d with
 | a k =>
  show hasLoc t ((k, r.1) :: s.ad) = false
  rw [hasLoc_cons, isLoc_false (hr k rfl), h]
  rfl
 | _ => exact h
theorem app_hasLoc_le {s : St} {d : D} {r : V × Wr × Bs} {t : Nat} (h : hasLoc t (s.app d r).ad = false) : hasLoc t s.ad = false := by
 cases d with
 | a k =>
  change hasLoc t ((k, r.1) :: s.ad) = false at h
  rw [hasLoc_cons] at h
  simp only [Bool.or_eq_false_iff] at h
  exact h.2
 | _ => exact h
theorem swap_eqv {s : St} {i j : Op} {ri rj : V × Wr × Bs} (hn : ∀ t, i.d.name = some t → j.d.name ≠ some t) (hm : ∀ k b, (k, b) ∈ ri.2.1 → ∀ b', (k, b') ∉ rj.2.1) (hb : ∀ t e, (t, e) ∈ ri.2.2 → ∀ e', (t, e') ∉ rj.2.2) :
    Eqv ((s.app j.d rj).app i.d ri) ((s.app i.d ri).app j.d rj) := by
  refine ⟨fun t => ?_, fun t => ?_, fun t => ?_, fun t => ?_, ?_⟩
  · by_cases h1 : i.d.name = some t
    · have h2 := hn t h1
      rw [app_env (d := j.d) h2]
      cases hi : i.d with
      | e k =>
        show Env.get ((k, ri.1) :: (s.app j.d rj).env) t = Env.get ((k, ri.1) :: s.env) t
        rw [hi] at h1
        have e : k = t := by simpa [D.name] using h1
        rw [Env.get_cons, Env.get_cons, if_pos e, if_pos e]
      | a k => exact app_env h2
      | x k => exact app_env h2
      | n => exact app_env h2
    · rw [app_env (d := i.d) h1]
      cases hj : j.d with
      | e k =>
        show Env.get ((k, rj.1) :: s.env) t = Env.get ((k, rj.1) :: (s.app i.d ri).env) t
        rw [Env.get_cons, Env.get_cons, app_env h1]
      | a k =>
        show Env.get s.env t = Env.get (s.app i.d ri).env t
        exact (app_env h1).symm
      | x k =>
        show Env.get s.env t = Env.get (s.app i.d ri).env t
        exact (app_env h1).symm
      | n =>
        show Env.get s.env t = Env.get (s.app i.d ri).env t
        exact (app_env h1).symm
  · simp only [app_bx, Env.get_append]
    cases h1 : Env.get ri.2.2 t with
    | none => rfl
    | some v =>
      have : Env.get rj.2.2 t = none := by
        refine Env.get_none fun e' he' => ?_
        have hin : ∃ v, (t, v) ∈ ri.2.2 := by
          apply Classical.byContradiction
          intro hno
          have := Env.get_none (a := ri.2.2) (t := t) (fun v hv => hno ⟨v, hv⟩)
          rw [h1] at this; cases this
        obtain ⟨v', hv'⟩ := hin
        exact hb t v' hv' e' he'
      rw [this]
  · by_cases h1 : i.d.name = some t
    · have h2 := hn t h1
      rw [app_ad (d := j.d) h2]
      cases hi : i.d with
      | a k =>
        show Env.get ((k, ri.1) :: (s.app j.d rj).ad) t = Env.get ((k, ri.1) :: s.ad) t
        rw [hi] at h1
        have e : k = t := by simpa [D.name] using h1
        rw [Env.get_cons, Env.get_cons, if_pos e, if_pos e]
      | e k => exact app_ad h2
      | x k => exact app_ad h2
      | n => exact app_ad h2
    · rw [app_ad (d := i.d) h1]
      cases hj : j.d with
      | a k =>
        show Env.get ((k, rj.1) :: s.ad) t = Env.get ((k, rj.1) :: (s.app i.d ri).ad) t
        rw [Env.get_cons, Env.get_cons, app_ad h1]
      | e k =>
        show Env.get s.ad t = Env.get (s.app i.d ri).ad t
        exact (app_ad h1).symm
      | x k =>
        show Env.get s.ad t = Env.get (s.app i.d ri).ad t
        exact (app_ad h1).symm
      | n =>
        show Env.get s.ad t = Env.get (s.app i.d ri).ad t
        exact (app_ad h1).symm
  · cases hi : i.d <;> cases hj : j.d <;> first
      | rfl
      | (show hasLoc t ((_, ri.1) :: (_, rj.1) :: s.ad) = hasLoc t ((_, rj.1) :: (_, ri.1) :: s.ad)
         simp only [hasLoc_cons]
         cases isLoc t ri.1 <;> cases isLoc t rj.1 <;> rfl)
  · simp only [app_mem]
    exact (Mem.wr_comm fun k b b' h => hm k b h b').symm
theorem swap {ck : Callk} {pf : Nat → Bool} (hpc : PureCk ck pf) {lo hi hj : Nat} {s : St} {i j : Op} {ri rj : V × Wr × Bs} (hki : i.k.opens pf = true) (d1 : Does ck lo hi s i ri) (d2 : Does ck lo hj (s.app i.d ri) j rj) (c : Can s hi hj i j ri rj) (hf : s.mem.blk hj = none ∧ hj < s.mem.next) :
  Does ck lo hj s j rj ∧ Does ck lo hi (s.app j.d rj) i ri ∧ Eqv ((s.app j.d rj).app i.d ri) ((s.app i.d ri).app j.d rj) := by
 have hpj : pre (s.app i.d ri) j = pre s j := (pre_agree (app_agree d1 (fun t ht => (c.nm.1 t ht).1))).symm
 have d2' : Does ck lo hj s j rj := by
  cases d2 with
  | skip hp hx => exact .skip (by rw [← hpj]; exact hp) hx
  | eff p r hp hc hfz hl he =>
   rw [hpj] at hp
   obtain ⟨k1, k2⟩ := c.kj p hp hc
   refine .eff p rj hp hc hfz (fun t hb hd => app_hasLoc_le (hl t hb hd)) ?_
   rw [← he]
   refine eff_cong (fun k hk => ?_) (fun t ht => ?_)
   ·rw [app_mem, Mem.wr_out (k1 k hk)]
   ·rw [app_bx, Env.get_append, Env.get_none (k2 t ht)]
  | call f args v hp hx hc =>
   rw [hpj] at hp
   have h0 := c.cj f args hp
   have hm : (s.app i.d ri).mem = s.mem := by rw [app_mem, h0]; rfl
   rw [hm] at hc
   exact .call f args v hp hx hc
 have hpi : pre (s.app j.d rj) i = pre s i := (pre_agree (app_agree d2' (fun t ht => c.nm.2 t ht))).symm
 refine ⟨d2', ?_, swap_eqv (fun t ht => (c.nm.1 t ht).2) c.mem c.bx⟩
 cases d1 with
 | skip hp hx => exact .skip (by rw [hpi]; exact hp) hx
 | eff p r hp hc hfz hl he =>
  obtain ⟨k1, k2⟩ := c.ki p hp hc
  refine .eff p ri (by rw [hpi]; exact hp) hc hfz (fun t hb hd => app_hasLoc (hl t hb hd) (c.loc t hd)) ?_
  rw [← he]
  refine eff_cong (fun k hk => ?_) (fun t ht => ?_)
  ·rw [app_mem, Mem.wr_out (k1 k hk)]
  ·rw [app_bx, Env.get_append, Env.get_none (k2 t ht)]
 | call f args v hp hx hc =>
  refine .call f args v (by rw [hpi]; exact hp) hx ?_
  rw [app_mem]
  rcases c.ci f args hp with h0 | ⟨b, h0⟩
  ·rw [h0]; exact hc
  ·rw [h0]
   have hpf : pf f = true := by
    obtain ⟨vs, _, hpl⟩ := pre_plan hp
    rcases plan_call_of hpl with e | e
    ·rw [e] at hki; exact hki
    ·rw [e] at hki; cases hki
   exact (hpc f args lo s.mem v s.mem hc hpf).2 hj b hf.1 hf.2
end Go.Am
namespace Go.Am
open Go
theorem pre_eqv {s s' : St} (h : Eqv s s') (o : Op) : pre s o = pre s' o := pre_agree (h.agree o)
theorem Does.eqv {ck : Callk} {lo h : Nat} {s s' : St} {o : Op} {r : V × Wr × Bs} (e : Eqv s s') (d : Does ck lo h s o r) : Does ck lo h s' o r := by
 cases d with
 | skip hp hx => exact .skip (by rw [← pre_eqv e]; exact hp) hx
 | eff p r hp hc hf hl he =>
  refine .eff p r (by rw [← pre_eqv e]; exact hp) hc hf (fun t hb hd => by rw [← e.loc]; exact hl t hb hd) ?_
  rw [← he, e.mem]
  exact eff_cong (fun _ _ => rfl) (fun t _ => (e.bx t).symm)
 | call f args v hp hx hc => exact .call f args v (by rw [← pre_eqv e]; exact hp) hx (by rw [← e.mem]; exact hc)
theorem Eqv.app {s s' : St} (e : Eqv s s') (d : D) (r : V × Wr × Bs) : Eqv (s.app d r) (s'.app d r) := by
 refine ⟨fun t => ?_, fun t => ?_, fun t => ?_, fun t => ?_, by rw [app_mem, app_mem, e.mem]⟩
 ·cases d with
  | e k =>
   show Env.get ((k, r.1) :: s.env) t = Env.get ((k, r.1) :: s'.env) t
   rw [Env.get_cons, Env.get_cons, e.env t]
  | _ => exact e.env t
 ·rw [app_bx, app_bx, Env.get_append, Env.get_append, e.bx t]
 ·cases d with
  | a k =>
   show Env.get ((k, r.1) :: s.ad) t = Env.get ((k, r.1) :: s'.ad) t
   rw [Env.get_cons, Env.get_cons, e.ad t]
  | _ => exact e.ad t
 ·cases d with
  | a k =>
   show hasLoc t ((k, r.1) :: s.ad) = hasLoc t ((k, r.1) :: s'.ad)
   rw [hasLoc_cons, hasLoc_cons, e.loc t]
  | _ => exact e.loc t
structure Ann where
 i : Nat
 o : Op
 q : Option Plan
 r : V × Wr × Bs
def Runs (ck : Callk) (lo base : Nat) : List Ann → St → St → Prop
 | [], s, s' => s' = s
 | x :: l, s, s' => pre s x.o = some x.q ∧ Does ck lo (base + x.i) s x.o x.r ∧ Runs ck lo base l (s.app x.o.d x.r) s'
structure CanA (base : Nat) (x y : Ann) : Prop where
 nm : nmApart x.o y.o
 mem : ∀ k b, (k, b) ∈ x.r.2.1 → ∀ b', (k, b') ∉ y.r.2.1
 bx : ∀ t e, (t, e) ∈ x.r.2.2 → ∀ e', (t, e') ∉ y.r.2.2
 kj : ∀ p, y.q = some p → p.isCall = false → (∀ k, Key.h k ∈ p.rkeys (base + y.i) → ∀ b, (k, b) ∉ x.r.2.1) ∧ (∀ t, Key.bx t ∈ p.rkeys (base + y.i) → ∀ e, (t, e) ∉ x.r.2.2)
 ki : ∀ p, x.q = some p → p.isCall = false → (∀ k, Key.h k ∈ p.rkeys (base + x.i) → ∀ b, (k, b) ∉ y.r.2.1) ∧ (∀ t, Key.bx t ∈ p.rkeys (base + x.i) → ∀ e, (t, e) ∉ y.r.2.2)
 loc : ∀ t, x.o.d = .x t → ∀ t', y.o.d = .a t' → ∀ off, y.r.1 ≠ .loc t off
 cj : ∀ f args, y.q = some (.call f args) → x.r.2.1 = []
 ci : ∀ f args, x.q = some (.call f args) → y.r.2.1 = [] ∨ ∃ b, y.r.2.1 = [(base + y.i, some b)]
section
variable {ck : Callk} {pf : Nat → Bool} {lo base : Nat}
theorem Runs.append {l l' : List Ann} : ∀ {s s' : St}, Runs ck lo base (l ++ l') s s' ↔ ∃ t, Runs ck lo base l s t ∧ Runs ck lo base l' t s' := by
 induction l with
 | nil => intro s s'; exact ⟨fun h => ⟨s, rfl, h⟩, fun ⟨t, h, h'⟩ => by cases h; exact h'⟩
 | cons x l ih =>
  intro s s'
  constructor
  ·rintro ⟨h1, h2, h3⟩
   obtain ⟨t, h4, h5⟩ := ih.1 h3
   exact ⟨t, ⟨h1, h2, h4⟩, h5⟩
  ·rintro ⟨t, ⟨h1, h2, h4⟩, h5⟩
   exact ⟨h1, h2, ih.2 ⟨t, h4, h5⟩⟩
theorem Runs.det {l : List Ann} : ∀ {s s' s'' : St}, Runs ck lo base l s s' → Runs ck lo base l s s'' → s' = s'' := by
 induction l with
 | nil => intro s s' s'' h h'; cases h; cases h'; rfl
 | cons x l ih => rintro s s' s'' ⟨_, _, h⟩ ⟨_, _, h'⟩; exact ih h h'
theorem Runs.eqv {l : List Ann} : ∀ {s s' t : St}, Eqv s t → Runs ck lo base l s s' → ∃ t', Runs ck lo base l t t' ∧ Eqv s' t' := by
 induction l with
 | nil => intro s s' t e h; cases h; exact ⟨t, rfl, e⟩
 | cons x l ih =>
  rintro s s' t e ⟨h1, h2, h3⟩
  obtain ⟨t', h4, h5⟩ := ih (e.app x.o.d x.r) h3
  exact ⟨t', ⟨by rw [← pre_eqv e]; exact h1, h2.eqv e, h4⟩, h5⟩
theorem eff_writes_own {h : Nat} {blk : Nat → Option Blk} {bg : Nat → Option V} {d : D} {p : Plan} {r : V × Wr × Bs} (he : eff lo h blk bg d p = some r) : ∀ k b, (k, b) ∈ r.2.1 → k = h ∨ (blk k).isSome = true := by
 intro k b hk
 obtain ⟨v, ws, bs⟩ := r
 replace hk : (k, b) ∈ ws := hk
 have one : ∀ {k' : Nat} {b' : Option Blk}, ws = [(k', b')] → k = k' := fun e => by rw [e] at hk; simp at hk; exact hk.1
 have base : ∀ {o : Option V} , (o.map fun v => (v, ([] : Wr), ([] : Bs))) = some (v, ws, bs) → ws = [] := by
  intro o h
  simp only [Option.map_eq_some_iff] at h
  obtain ⟨_, _, h⟩ := h
  cases h
  rfl
 cases p with
 | ret v =>
  simp only [eff] at he
  split at he
  ·cases he
  ·cases he; cases hk
 | rd h' f =>
  simp only [eff] at he
  split at he
  ·cases he
  ·split at he
   ·cases he
   ·rw [base he] at hk; cases hk
 | rdb h' f =>
  simp only [eff] at he
  split at he
  ·cases he
  ·split at he
   ·cases he
   ·rw [base he] at hk; cases hk
 | wr h' f v =>
  simp only [eff] at he
  split at he
  ·cases he
  ·split at he
   ·split at he
    ·cases he
    ·rename_i b0 hb0
     simp only [Option.map_eq_some_iff] at he
     obtain ⟨_, _, he⟩ := he
     cases he
     have := one rfl
     subst this
     right; rw [hb0]; rfl
   ·cases he
 | wrb t f =>
  simp only [eff] at he
  split at he
  ·split at he
   ·cases he
   ·simp only [Option.map_eq_some_iff] at he
    obtain ⟨_, _, he⟩ := he
    cases he; cases hk
  ·cases he
 | bx e =>
  cases d with
  | x t => cases he; cases hk
  | _ => cases he
 | alloc b g =>
  simp only [eff] at he
  split at he
  ·cases he
  ·cases he
   exact .inl (one rfl)
 | app d' sz x =>
  simp only [eff] at he
  split at he
  ·cases he
  ·split at he
   ·cases he
   ·split at he
    ·cases he; cases hk
    ·split at he
     ·cases he
      exact .inl (one rfl)
     ·cases he
    ·split at he
     ·split at he
      ·rename_i hb0
       split at he
       ·cases he
        simp at hk
        rcases hk with ⟨rfl, _⟩ | ⟨rfl, _⟩
        ·right; rw [hb0]; rfl
        ·exact .inl rfl
       ·cases he
      ·cases he
     ·cases he
 | cpy sz h' o l x =>
  simp only [eff] at he
  split at he
  ·cases he
  ·split at he
   ·cases he
   ·split at he
    ·split at he
     ·rename_i hb0
      split at he
      ·cases he
       have := one rfl
       subst this
       right; rw [hb0]; rfl
      ·cases he
     ·cases he
    ·cases he
 | call _ _ => cases he
 | frz _ _ => cases he
theorem does_writes {h : Nat} {s : St} {o : Op} {r : V × Wr × Bs} (d : Does ck lo h s o r) : ∀ k b, (k, b) ∈ r.2.1 → k = h ∨ (s.mem.blk k).isSome = true := by
 intro k b hk
 cases d with
 | skip => cases hk
 | call => cases hk
 | eff p r hp hc hf hl he => exact eff_writes_own he k b hk
theorem free_app {h k : Nat} {s : St} {o : Op} {r : V × Wr × Bs} (d : Does ck lo h s o r) (hk : s.mem.blk k = none) (hne : k ≠ h) : (s.app o.d r).mem.blk k = none := by
 rw [app_mem, Mem.wr_out]
 ·exact hk
 ·intro b hb
  rcases does_writes d k b hb with e | e
  ·exact hne e
  ·rw [hk] at e; cases e
theorem next_app {s : St} {d : D} {r : V × Wr × Bs} : (s.app d r).mem.next = s.mem.next := by rw [app_mem, Mem.wr_next]
def Free (base : Nat) (s : St) (i : Nat) : Prop := s.mem.blk (base + i) = none ∧ base + i < s.mem.next
theorem Free.app {s : St} {i k : Nat} {o : Op} {r : V × Wr × Bs} (d : Does ck lo (base + k) s o r) (h : Free base s i) (hne : i ≠ k) : Free base (s.app o.d r) i :=
 ⟨free_app d h.1 (by omega), by rw [next_app]; exact h.2⟩
theorem Runs.free {l : List Ann} : ∀ {s s' : St} {i : Nat}, Runs ck lo base l s s' → Free base s i → (∀ x ∈ l, x.i ≠ i) → Free base s' i := by
 induction l with
 | nil => intro s s' i h hf _; cases h; exact hf
 | cons x l ih => rintro s s' i ⟨_, h2, h3⟩ hf hne; exact ih h3 (hf.app h2 (fun e => hne x (by simp) e.symm)) (fun y hy => hne y (by simp [hy]))
theorem push (hpc : PureCk ck pf) {x : Ann} (hx : x.o.k.opens pf = true) : ∀ (Y : List Ann) {s s' : St}, Runs ck lo base (x :: Y) s s' → (∀ y ∈ Y, CanA base x y) → (∀ y ∈ Y, Free base s y.i) → (Y.map (·.i)).Nodup → (∀ y ∈ Y, y.i ≠ x.i) →
  ∃ t t', Runs ck lo base Y s t ∧ Runs ck lo base [x] t t' ∧ Eqv t' s'
 | [], s, s', h, _, _, _, _ => ⟨s, s', rfl, h, .refl _⟩
 | y :: Y, s, s', ⟨h1, h2, h3, h4, h5⟩, hc, hf, hnd, hne => by
  have c := hc y (by simp)
  have hpy : pre s y.o = some y.q := by rw [← h3]; exact pre_agree (app_agree h2 (fun t ht => (c.nm.1 t ht).1))
  have can : Can s (base + x.i) (base + y.i) x.o y.o x.r y.r := by
   refine ⟨c.nm, c.mem, c.bx, fun p hp hcall => c.kj p ?_ hcall, fun p hp hcall => c.ki p ?_ hcall, c.loc, fun f args hp => c.cj f args ?_, fun f args hp => c.ci f args ?_⟩
   ·rw [hpy] at hp; exact Option.some.inj hp
   ·rw [h1] at hp; exact Option.some.inj hp
   ·rw [hpy] at hp; exact Option.some.inj hp
   ·rw [h1] at hp; exact Option.some.inj hp
  obtain ⟨d1, d2, e⟩ := swap hpc hx h2 h4 can (hf y (by simp))
  obtain ⟨u, hu, eu⟩ := Runs.eqv e.symm h5
  have hpx : pre (s.app y.o.d y.r) x.o = some x.q := by rw [← h1]; exact (pre_agree (app_agree d1 (fun t ht => c.nm.2 t ht))).symm
  have hnd' := List.nodup_cons.1 (by simpa using hnd : ((y.i :: Y.map (·.i)) : List Nat).Nodup)
  obtain ⟨t, t', r1, r2, r3⟩ := push hpc hx Y (s := s.app y.o.d y.r) (s' := u) ⟨hpx, d2, hu⟩ (fun z hz => hc z (by simp [hz])) (fun z hz => (hf z (by simp [hz])).app d1 (fun e => hnd'.1 (List.mem_map.2 ⟨z, hz, e⟩))) hnd'.2 (fun z hz => hne z (by simp [hz]))
  exact ⟨t, t', ⟨hpy, d1, r1⟩, r2, r3.trans eu.symm⟩
theorem runs_filter (hpc : PureCk ck pf) (S : Nat → Bool) : ∀ (L : List Ann) {s s' : St}, Runs ck lo base L s s' → (∀ x ∈ L, x.o.k.opens pf = true) → L.Pairwise (fun x y => S x.i = false → S y.i = true → CanA base x y) → (∀ x ∈ L, Free base s x.i) → (L.map (·.i)).Nodup →
  ∃ t, Runs ck lo base (L.filter fun x => S x.i) s t
 | [], s, s', h, _, _, _, _ => ⟨s, rfl⟩
 | x :: L, s, s', ⟨h1, h2, h3⟩, ho, hp, hf, hnd => by
  have hnd' := List.nodup_cons.1 (by simpa using hnd : ((x.i :: L.map (·.i)) : List Nat).Nodup)
  obtain ⟨hp1, hp2⟩ := List.pairwise_cons.1 hp
  have hne : ∀ y ∈ L, y.i ≠ x.i := fun y hy e => hnd'.1 (List.mem_map.2 ⟨y, hy, e⟩)
  obtain ⟨t, ht⟩ := runs_filter hpc S L h3 (fun y hy => ho y (by simp [hy])) hp2 (fun y hy => (hf y (by simp [hy])).app h2 (hne y hy)) hnd'.2
  by_cases hx : S x.i = true
  ·refine ⟨t, ?_⟩
   rw [List.filter_cons, if_pos hx]
   exact ⟨h1, h2, ht⟩
  ·rw [List.filter_cons, if_neg hx]
   have hx' : S x.i = false := by simpa using hx
   have hsub : ∀ y ∈ L.filter (fun x => S x.i), y ∈ L ∧ S y.i = true := fun y hy => List.mem_filter.1 hy
   obtain ⟨u, _, r1, _, _⟩ := push hpc (ho x (by simp)) (L.filter fun x => S x.i) (s := s) (s' := t) ⟨h1, h2, ht⟩ (fun y hy => hp1 y (hsub y hy).1 hx' (hsub y hy).2) (fun y hy => hf y (by simp [(hsub y hy).1])) (hnd'.2.sublist (List.Sublist.map _ List.filter_sublist)) (fun y hy => hne y (hsub y hy).1)
   exact ⟨u, r1⟩
theorem one_more (hpc : PureCk ck pf) {S : Nat → Bool} {X Y : List Ann} {x : Ann} {s t u : St} (ho : ∀ y ∈ X ++ x :: Y, y.o.k.opens pf = true) (hp : (X ++ x :: Y).Pairwise (fun y z => S y.i = false → S z.i = true → CanA base y z)) (hf : ∀ y ∈ X ++ x :: Y, Free base s y.i) (hnd : ((X ++ x :: Y).map (·.i)).Nodup)
  (hx : S x.i = false) (ht : Runs ck lo base ((X ++ x :: Y).filter fun y => S y.i) s t) (hu : Runs ck lo base ((X ++ x :: Y).filter fun y => S y.i || y.i == x.i) s u) :
  ∃ t', pre t x.o = some x.q ∧ Does ck lo (base + x.i) t x.o x.r ∧ t' = t.app x.o.d x.r ∧ Eqv t' u := by
 have hne : ∀ y, y ∈ X ∨ y ∈ Y → y.i ≠ x.i := by
  rw [List.map_append, List.map_cons, List.nodup_append] at hnd
  obtain ⟨_, h2, h3⟩ := hnd
  rintro y (hy | hy) e
  ·exact h3 y.i (List.mem_map.2 ⟨y, hy, rfl⟩) x.i (by simp) e
  ·exact (List.nodup_cons.1 h2).1 (List.mem_map.2 ⟨y, hy, e⟩)
 have same : ∀ {Z : List Ann}, (∀ y ∈ Z, y ∈ X ∨ y ∈ Y) → Z.filter (fun y => S y.i || y.i == x.i) = Z.filter (fun y => S y.i) := by
  intro Z hZ
  refine List.filter_congr fun y hy => ?_
  have : (y.i == x.i) = false := beq_eq_false_iff_ne.2 (hne y (hZ y hy))
  rw [this, Bool.or_false]
 rw [List.filter_append, List.filter_cons, if_neg (by rw [hx]; simp)] at ht
 rw [List.filter_append, List.filter_cons, if_pos (by simp), same (fun y hy => .inl hy), same (fun y hy => .inr hy)] at hu
 obtain ⟨m, r1, r2⟩ := Runs.append.1 ht
 obtain ⟨m', r3, r4⟩ := Runs.append.1 hu
 have := Runs.det r1 r3
 subst this
 obtain ⟨_, hp2, _⟩ := List.pairwise_append.1 hp
 obtain ⟨hp3, _⟩ := List.pairwise_cons.1 hp2
 have hsub : ∀ y ∈ Y.filter (fun y => S y.i), y ∈ Y ∧ S y.i = true := fun y hy => List.mem_filter.1 hy
 have hndY : (Y.map (·.i)).Nodup := by
  rw [List.map_append, List.map_cons, List.nodup_append] at hnd
  exact (List.nodup_cons.1 hnd.2.1).2
 have hndXY : ∀ y ∈ Y, ∀ z ∈ X.filter (fun y => S y.i), z.i ≠ y.i := by
  intro y hy z hz e
  rw [List.map_append, List.map_cons, List.nodup_append] at hnd
  exact hnd.2.2 z.i (List.mem_map.2 ⟨z, (List.mem_filter.1 hz).1, rfl⟩) y.i (by simp; exact .inr ⟨y, hy, rfl⟩) e
 obtain ⟨v, v', q1, ⟨q2, q3, q4⟩, q5⟩ := push hpc (ho x (by simp)) (Y.filter fun y => S y.i) r4 (fun y hy => hp3 y (hsub y hy).1 hx (hsub y hy).2)
  (fun y hy => r1.free (hf y (by simp [(hsub y hy).1])) (hndXY y (hsub y hy).1)) (hndY.sublist (List.Sublist.map _ List.filter_sublist)) (fun y hy => hne y (.inr (hsub y hy).1))
 have := Runs.det r2 q1
 subst this
 exact ⟨v', q2, q3, q4, q5⟩
end
end Go.Am
namespace Go.Am
open Go
noncomputable section
def K.isRet : K → Bool
 | .mv | .pmv | .pick | .bin _ | .bq _ | .sq _ | .aq _ _ | .nq _ | .sadd | .not | .cvt _ | .cvs | .ext _ | .len _ | .mx | .mn | .bld _ _ | .lit _ _ _ _ | .six | .fld _ _ _ | .sl _ _ _ _ | .fa _ | .ia _ | .iaa _ _ | .nc | .mkf _ => true
 | _ => false
def K.isRd : K → Bool
 | .bts | .ld _ _ | .look _ _ _ => true
 | k => k.isRet
def K.isCall : K → Bool
 | .call _ | .callv => true
 | _ => false
def K.isAl : K → Bool
 | .hlit _ _ _ _ | .hbox _ | .mk _ _ | .mkm => true
 | _ => false
def K.isBox : K → Bool
 | .box => true
 | _ => false
def K.quiet (k : K) : Bool := k.isRd || k.isCall
def D.isA' : D → Bool
 | .a _ => true
 | _ => false
def nmApartB (i j : Op) : Bool :=
 (match i.d.name with
 | some t => !(j.names.contains t) && (match j.d.name with
  | some t' => !(Nat.beq t' t)
  | none => true)
 | none => true) && (match j.d.name with
 | some t => !(i.names.contains t)
 | none => true)
def fineB (i j : Op) (dyn : Bool) : Bool :=
 nmApartB i j && ((i.k.quiet && j.k.quiet) || (i.k.isCall && (j.k.isAl || j.k.isBox)) || (i.k.isRet && !j.k.isCall) || (j.k.isRet && !i.k.isCall) || (dyn && !i.k.isCall && !j.k.isCall)) &&
 (!(i.d.isX && j.d.isA') || (dyn && j.k.isRet))
end
theorem nmApartB_spec {i j : Op} (h : nmApartB i j = true) : nmApart i j := by
 unfold nmApartB at h
 rw [Bool.and_eq_true] at h
 obtain ⟨h1, h2⟩ := h
 refine ⟨fun t ht => ?_, fun t ht => ?_⟩
 ·rw [ht] at h1
  simp only [Bool.and_eq_true, Bool.not_eq_true'] at h1
  obtain ⟨h3, h4⟩ := h1
  refine ⟨fun hin => ?_, fun e => ?_⟩
  ·have : j.names.contains t = true := by simpa using hin
   rw [h3] at this; cases this
  ·rw [e] at h4
   simp at h4
 ·rw [ht] at h2
  simp only [Bool.not_eq_true'] at h2
  intro hin
  have : i.names.contains t = true := by simpa using hin
  rw [h2] at this; cases this
theorem plan_ret {k : K} {vs : List V} {p : Plan} (h : plan k vs = some p) (hk : k.isRet = true) : ∃ v, p = .ret v := by
 cases k <;> first | (cases hk; done) | skip
 all_goals simp only [plan, plan_mv, plan_pmv, plan_pick, plan_bin, plan_bq, plan_sq, plan_aq, plan_nq, plan_sadd, plan_not, plan_cvt, plan_cvs, plan_ext, plan_len, plan_mx, plan_mn, plan_bld, plan_lit, plan_six, plan_fld, plan_sl, plan_fa, plan_ia, plan_iaa, plan_nc, plan_mkf, binPlan] at h
 all_goals repeat' split at h
 all_goals first
  | (cases h; exact ⟨_, rfl⟩)
  | (cases h; done)
  | (simp only [Option.map_eq_some_iff] at h; obtain ⟨_, _, rfl⟩ := h; exact ⟨_, rfl⟩)
def Plan.isRd : Plan → Bool
 | .ret _ | .rd _ _ | .rdb _ _ => true
 | _ => false
theorem plan_rd {k : K} {vs : List V} {p : Plan} (h : plan k vs = some p) (hk : k.isRd = true) : p.isRd = true := by
 by_cases hr : k.isRet = true
 ·obtain ⟨v, rfl⟩ := plan_ret h hr; rfl
 ·cases k <;> first | (exact absurd rfl hr) | (cases hk; done) | skip
  all_goals simp only [plan, plan_bts, plan_ld, plan_look] at h
  all_goals repeat' split at h
  all_goals first
   | (cases h; rfl)
   | (cases h; done)
   | (simp only [Option.map_eq_some_iff] at h; obtain ⟨_, _, rfl⟩ := h; rfl)
theorem plan_alloc {k : K} {vs : List V} {p : Plan} (h : plan k vs = some p) (hk : k.isAl = true) : ∃ b g, p = .alloc b g := by
 cases k <;> first | (cases hk; done) | skip
 all_goals simp only [plan, plan_hlit, plan_hbox, plan_mk, plan_mkm] at h
 all_goals repeat' split at h
 all_goals first
  | (cases h; exact ⟨_, _, rfl⟩)
  | (cases h; done)
  | (simp only [Option.map_eq_some_iff] at h; obtain ⟨_, _, rfl⟩ := h; exact ⟨_, _, rfl⟩)
theorem plan_bx {k : K} {vs : List V} {p : Plan} (h : plan k vs = some p) (hk : k.isBox = true) : ∃ e, p = .bx e := by
 cases k <;> first | (cases hk; done) | skip
 simp only [plan, plan_box] at h
 repeat' split at h
 all_goals first
  | (cases h; exact ⟨_, rfl⟩)
  | (cases h; done)
structure AnnOk (base : Nat) (x : Ann) (ks : List Key) : Prop where
 skip : x.q = none → x.r = (.und, [], []) ∧ x.o.d.isX = false
 keys : ∀ p, x.q = some p → ks = x.o.d.keys ++ p.keys (base + x.i)
 plan : ∀ p, x.q = some p → ∃ vs, plan x.o.k vs = some p
 call : ∀ p, x.q = some p → p.isCall = true → x.r.2 = ([], [])
 wr : ∀ p, x.q = some p → p.isCall = false → (∀ k b, (k, b) ∈ x.r.2.1 → Key.h k ∈ p.keys (base + x.i)) ∧ (∀ t e, (t, e) ∈ x.r.2.2 → Key.bx t ∈ x.o.d.keys ++ p.keys (base + x.i))
 rd : ∀ p, x.q = some p → p.isRd = true → x.r.2 = ([], [])
 ret : ∀ v, x.q = some (.ret v) → x.r.1 = v
 al : ∀ b g, x.q = some (.alloc b g) → x.r.2.1 = [(base + x.i, some b)]
 bx : ∀ e, x.q = some (.bx e) → x.r.2.1 = []
section
variable {ck : Callk} {pf : Nat → Bool} {lo base : Nat}
theorem eff_isRd {h : Nat} {blk : Nat → Option Blk} {bg : Nat → Option V} {d : D} {p : Plan} {r : V × Wr × Bs} (he : eff lo h blk bg d p = some r) (hp : p.isRd = true) : r.2 = ([], []) := by
 have base : ∀ {o : Option V} , (o.map fun v => (v, ([] : Wr), ([] : Bs))) = some r → r.2 = ([], []) := by
  intro o h
  simp only [Option.map_eq_some_iff] at h
  obtain ⟨_, _, rfl⟩ := h
  rfl
 cases p <;> first | (cases hp; done) | skip
 ·simp only [eff] at he
  split at he
  ·cases he
  ·cases he; rfl
 ·simp only [eff] at he
  split at he
  ·cases he
  ·split at he
   ·cases he
   ·exact base he
 ·simp only [eff] at he
  split at he
  ·cases he
  ·split at he
   ·cases he
   ·exact base he
theorem ann_ok {s : St} {x : Ann} (hpre : pre s x.o = some x.q) (hd : Does ck lo (base + x.i) s x.o x.r) : AnnOk base x (keysOf (base + x.i) s x.o) := by
 obtain ⟨i, o, q, r⟩ := x
 simp only at hpre hd
 have hkeys : ∀ p, q = some p → keysOf (base + i) s o = o.d.keys ++ p.keys (base + i) := by
  rintro p rfl
  obtain ⟨vs, h1, h2⟩ := pre_plan hpre
  unfold keysOf
  rw [h1]
  simp only [h2]
  cases o.d <;> rfl
 have hplan : ∀ p, q = some p → ∃ vs, Am.plan o.k vs = some p := by
  rintro p rfl
  obtain ⟨vs, _, h2⟩ := pre_plan hpre
  exact ⟨vs, h2⟩
 cases hd with
 | skip hp hx =>
  rw [hp] at hpre
  cases hpre
  exact ⟨fun _ => ⟨rfl, hx⟩, hkeys, hplan, fun p h => (by cases h), fun p h => (by cases h), fun p h => (by cases h), fun p h => (by cases h), fun p g h => (by cases h), fun p h => (by cases h)⟩
 | eff p r hp hc hf hl he =>
  rw [hp] at hpre
  cases hpre
  obtain ⟨v, ws, bs⟩ := r
  refine ⟨fun h => (by cases h), hkeys, hplan, fun p' h h' => ?_, fun p' h _ => ?_, fun p' h h' => ?_, fun v' h => ?_, fun b g h => ?_, fun e h => ?_⟩
  ·cases h; rw [hc] at h'; cases h'
  ·cases h
   exact ⟨(eff_writes he).1, fun t e ht => ((eff_writes he).2 t e ht).1⟩
  ·cases h
   exact eff_isRd he h'
  ·cases h
   simp only [Am.eff] at he
   split at he
   ·cases he
   ·cases he; rfl
  ·cases h
   simp only [Am.eff] at he
   split at he
   ·cases he
   ·cases he; rfl
  ·cases h
   cases ho : o.d with
   | x t => rw [ho] at he; cases he; rfl
   | _ => rw [ho] at he; cases he
 | call f args v hp hx hc =>
  rw [hp] at hpre
  cases hpre
  refine ⟨fun h => (by cases h), hkeys, hplan, fun p' h h' => rfl, fun p' h h' => ?_, fun p' h h' => rfl, fun v' h => (by cases h), fun b g h => (by cases h), fun e h => (by cases h)⟩
  cases h
  cases h'
theorem apart_h {az bs : List Key} (h : keysApart az bs = true) {k : Nat} (h1 : Key.h k ∈ az) (h2 : Key.h k ∈ bs) : False := by
 unfold keysApart at h
 have := List.all_eq_true.1 (List.all_eq_true.1 h _ h1) _ h2
 simp [Key.apart] at this
theorem apart_bx {az bs : List Key} (h : keysApart az bs = true) {k : Nat} (h1 : Key.bx k ∈ az) (h2 : Key.bx k ∈ bs) : False := by
 unfold keysApart at h
 have := List.all_eq_true.1 (List.all_eq_true.1 h _ h1) _ h2
 simp [Key.apart] at this
theorem rkeys_sub {p : Plan} {h : Nat} {k : Key} (hk : k ∈ p.rkeys h) : k ∈ p.keys h := by
 cases p <;> first | exact hk | cases hk
theorem can_of {x y : Ann} {kx ky : List Key} (hx : AnnOk base x kx) (hy : AnnOk base y ky) {dyn : Bool} (hf : fineB x.o y.o dyn = true) (hdyn : dyn = true → keysApart kx ky = true) : CanA base x y := by
 unfold fineB at hf
 simp only [Bool.and_eq_true] at hf
 obtain ⟨⟨hnm, hcls⟩, hloc⟩ := hf
 have quiet0 : ∀ {z : Ann} {kz : List Key}, AnnOk base z kz → z.o.k.quiet = true → z.r.2 = ([], []) := by
  intro z kz hz hq
  cases hq0 : z.q with
  | none => rw [(hz.skip hq0).1]
  | some p =>
   obtain ⟨vs, hp⟩ := hz.plan p hq0
   unfold K.quiet at hq
   rw [Bool.or_eq_true] at hq
   rcases hq with hq | hq
   ·exact hz.rd p hq0 (plan_rd hp hq)
   ·refine hz.call p hq0 ?_
    cases hk : z.o.k <;> rw [hk] at hq hp <;> first | (cases hq; done) | skip
    ·simp only [Am.plan, plan_call] at hp; cases hp; rfl
    ·simp only [Am.plan, plan_callv] at hp
     split at hp
     ·split at hp
      ·cases hp; rfl
      ·cases hp
     ·cases hp
 have notcall : ∀ {z : Ann} {kz : List Key}, AnnOk base z kz → z.o.k.isCall = false → ∀ f args, z.q = some (.call f args) → False := by
  intro z kz hz hk f args hq
  obtain ⟨vs, hp⟩ := hz.plan _ hq
  rcases plan_call_of hp with e | e <;> rw [e] at hk <;> cases hk
 have iscall : ∀ {z : Ann} {kz : List Key}, AnnOk base z kz → z.o.k.isCall = true → ∀ p, z.q = some p → p.isCall = false → False := by
  intro z kz hz hk p hq hc
  obtain ⟨vs, hp⟩ := hz.plan _ hq
  cases hk' : z.o.k <;> rw [hk'] at hk hp <;> first | (cases hk; done) | skip
  ·simp only [Am.plan, plan_call] at hp; cases hp; cases hc
  ·simp only [Am.plan, plan_callv] at hp
   split at hp
   ·split at hp
    ·cases hp; cases hc
    ·cases hp
   ·cases hp
 have isret : ∀ {z : Ann} {kz : List Key}, AnnOk base z kz → z.o.k.isRet = true → z.r.2 = ([], []) ∧ ∀ p, z.q = some p → ∀ h, p.rkeys h = [] := by
  intro z kz hz hk
  refine ⟨quiet0 hz (by unfold K.quiet K.isRd; cases hk' : z.o.k <;> rw [hk'] at hk <;> first | rfl | (cases hk; done)), fun p hq h => ?_⟩
  obtain ⟨vs, hp⟩ := hz.plan _ hq
  obtain ⟨v, rfl⟩ := plan_ret hp hk
  rfl
 have retcall : ∀ {k : K}, k.isRet = true → k.isCall = false := by intro k hk; cases k <;> first | rfl | (cases hk; done)
 have hl : ∀ t, x.o.d = .x t → ∀ t', y.o.d = .a t' → ∀ off, y.r.1 ≠ .loc t off := by
  intro t ht t' ht' off e
  simp only [Bool.or_eq_true, Bool.not_eq_true', Bool.and_eq_true] at hloc
  rcases hloc with h | ⟨h1, h2⟩
  ·rw [ht, ht'] at h; cases h
  ·have ha := hdyn h1
   cases hxq : x.q with
   | none => have := (hx.skip hxq).2; rw [ht] at this; cases this
   | some p =>
    have hkx := hx.keys p hxq
    cases hyq : y.q with
    | none => rw [(hy.skip hyq).1] at e; cases e
    | some p' =>
     obtain ⟨vs, hp'⟩ := hy.plan _ hyq
     obtain ⟨v, rfl⟩ := plan_ret hp' h2
     have hv := hy.ret v hyq
     rw [e] at hv
     subst hv
     have hky := hy.keys _ hyq
     exact apart_bx ha (k := t) (by rw [hkx, ht]; simp [D.keys]) (by rw [hky, ht']; simp [D.keys, Plan.keys])
 simp only [Bool.or_eq_true, Bool.and_eq_true, Bool.not_eq_true'] at hcls
 have e1 : ∀ {z : Ann}, z.r.2 = ([], []) → z.r.2.1 = [] ∧ z.r.2.2 = [] := fun h => by rw [h]; exact ⟨rfl, rfl⟩
 rcases hcls with (((⟨q1, q2⟩ | ⟨q1, q2⟩) | ⟨q1, q2⟩) | ⟨q1, q2⟩) | ⟨⟨q0, q1⟩, q2⟩
 ·obtain ⟨a1, a2⟩ := e1 (quiet0 hx q1)
  obtain ⟨b1, b2⟩ := e1 (quiet0 hy q2)
  exact ⟨nmApartB_spec hnm, by rw [a1]; simp, by rw [a2]; simp, fun _ _ _ => by rw [a1, a2]; simp, fun _ _ _ => by rw [b1, b2]; simp, hl, fun _ _ _ => a1, fun _ _ _ => .inl b1⟩
 ·obtain ⟨a1, a2⟩ := e1 (quiet0 hx (by unfold K.quiet; rw [q1]; simp))
  refine ⟨nmApartB_spec hnm, by rw [a1]; simp, by rw [a2]; simp, fun _ _ _ => by rw [a1, a2]; simp, fun p hp hc => (iscall hx q1 p hp hc).elim, hl, fun _ _ _ => a1, fun _ _ _ => ?_⟩
  cases hyq : y.q with
  | none => rw [(hy.skip hyq).1]; exact .inl rfl
  | some p =>
   obtain ⟨vs, hp⟩ := hy.plan _ hyq
   rcases q2 with q2 | q2
   ·obtain ⟨b, g, rfl⟩ := plan_alloc hp q2
    exact .inr ⟨b, hy.al b g hyq⟩
   ·obtain ⟨e, rfl⟩ := plan_bx hp q2
    exact .inl (hy.bx e hyq)
 ·obtain ⟨a0, a3⟩ := isret hx q1
  obtain ⟨a1, a2⟩ := e1 a0
  exact ⟨nmApartB_spec hnm, by rw [a1]; simp, by rw [a2]; simp, fun _ _ _ => by rw [a1, a2]; simp, fun p hp _ => by rw [a3 p hp]; simp, hl, fun _ _ _ => a1, fun f args h => (notcall hx (retcall q1) f args h).elim⟩
 ·obtain ⟨b0, b3⟩ := isret hy q1
  obtain ⟨b1, b2⟩ := e1 b0
  exact ⟨nmApartB_spec hnm, by rw [b1]; simp, by rw [b2]; simp, fun p hp _ => by rw [b3 p hp]; simp, fun _ _ _ => by rw [b1, b2]; simp, hl, fun f args h => (notcall hy (retcall q1) f args h).elim, fun _ _ _ => .inl b1⟩
 ·have ha := hdyn q0
  cases hxq : x.q with
  | none =>
   obtain ⟨a1, a2⟩ : x.r.2.1 = [] ∧ x.r.2.2 = [] := by rw [(hx.skip hxq).1]; exact ⟨rfl, rfl⟩
   exact ⟨nmApartB_spec hnm, by rw [a1]; simp, by rw [a2]; simp, fun _ _ _ => by rw [a1, a2]; simp, fun p hp _ => (by rw [hxq] at hp; cases hp), hl, fun _ _ _ => a1, fun f args h => (by rw [hxq] at h; cases h)⟩
  | some p =>
   have hcx : p.isCall = false := by
    cases hc : p.isCall with
    | false => rfl
    | true => cases p <;> first | (cases hc; done) | exact (notcall hx q1 _ _ hxq).elim
   obtain ⟨w1, w2⟩ := hx.wr p hxq hcx
   have hkx := hx.keys p hxq
   cases hyq : y.q with
   | none =>
    obtain ⟨b1, b2⟩ : y.r.2.1 = [] ∧ y.r.2.2 = [] := by rw [(hy.skip hyq).1]; exact ⟨rfl, rfl⟩
    exact ⟨nmApartB_spec hnm, by rw [b1]; simp, by rw [b2]; simp, fun p hp _ => (by rw [hyq] at hp; cases hp), fun _ _ _ => by rw [b1, b2]; simp, hl, fun f args h => (by rw [hyq] at h; cases h), fun _ _ _ => .inl b1⟩
   | some p' =>
    have hcy : p'.isCall = false := by
     cases hc : p'.isCall with
     | false => rfl
     | true => cases p' <;> first | (cases hc; done) | exact (notcall hy q2 _ _ hyq).elim
    obtain ⟨z1, z2⟩ := hy.wr p' hyq hcy
    have hky := hy.keys p' hyq
    refine ⟨nmApartB_spec hnm, fun k b h1 b' h2 => ?_, fun t e h1 e' h2 => ?_, fun p2 hp2 _ => ⟨fun k hk b h1 => ?_, fun t ht e h1 => ?_⟩, fun p2 hp2 _ => ⟨fun k hk b h1 => ?_, fun t ht e h1 => ?_⟩, hl, fun f args h => (notcall hy q2 f args h).elim, fun f args h => (notcall hx q1 f args h).elim⟩
    ·exact apart_h ha (k := k) (by rw [hkx]; simp [w1 k b h1]) (by rw [hky]; simp [z1 k b' h2])
    ·exact apart_bx ha (k := t) (by rw [hkx]; exact w2 t e h1) (by rw [hky]; exact z2 t e' h2)
    ·rw [hyq] at hp2; cases hp2
     exact apart_h ha (k := k) (by rw [hkx]; simp [w1 k b h1]) (by rw [hky]; simp [rkeys_sub hk])
    ·rw [hyq] at hp2; cases hp2
     exact apart_bx ha (k := t) (by rw [hkx]; exact w2 t e h1) (by rw [hky]; simp [rkeys_sub ht])
    ·rw [hxq] at hp2; cases hp2
     exact apart_h ha (k := k) (by rw [hkx]; simp [rkeys_sub hk]) (by rw [hky]; simp [z1 k b h1])
    ·rw [hxq] at hp2; cases hp2
     exact apart_bx ha (k := t) (by rw [hkx]; simp [rkeys_sub ht]) (by rw [hky]; exact z2 t e h1)
end
end Go.Am
namespace Go.Am
open Go
def edgesMask (acc : List Nat) (es : List Edge) : Nat := es.foldl (fun s e => if Region.binds .any e then s ||| 2 ^ e.on ||| acc.getD e.on 0 else s) 0
def masksGo : List Oper → List Nat → List Nat
 | [], acc => acc
 | o :: os, acc => masksGo os (acc ++ [edgesMask acc o.after.toList])
def inPs (ps : List (Nat × Nat)) (i j : Nat) : Bool := ps.any fun p => Nat.beq p.1 i && Nat.beq p.2 j
noncomputable def okPairsB (ps : List (Nat × Nat)) : List (Nat × Op × Nat) → Bool
 | [] => true
 | x :: rest => (rest.all fun y => y.2.2.testBit x.1 || fineB x.2.1 y.2.1 (inPs ps x.1 y.1)) && okPairsB ps rest
def edgesBack : Nat → List Oper → Bool
 | _, [] => true
 | n, o :: os => (o.after.toList.all fun e => !Region.binds .any e || Nat.blt e.on n) && edgesBack (n + 1) os
def zip3 : Nat → List Op → List Nat → List (Nat × Op × Nat)
 | n, o :: os, m :: ms => (n, o, m) :: zip3 (n + 1) os ms
 | _, _, _ => []
noncomputable def okDreg (pf : Nat → Bool) (ops : List Op) (ps : List (Nat × Nat)) (os : List Oper) : Bool :=
 (ops.all fun o => o.k.opens pf) && edgesBack 0 os && okPairsB ps (zip3 0 ops (masksGo os []))
def Closed (os : List Oper) (S : Nat → Bool) : Prop := ∀ (j : Nat) (o : Oper), os[j]? = some o → S j = true → ∀ e ∈ o.after, Region.binds .any e = true → S e.on = true
theorem edgesMask_bit {acc : List Nat} {es : List Edge} {i : Nat} : ∀ {s0 : Nat}, (es.foldl (fun s e => if Region.binds .any e then s ||| 2 ^ e.on ||| acc.getD e.on 0 else s) s0).testBit i = true → s0.testBit i = true ∨ ∃ e ∈ es, Region.binds .any e = true ∧ (e.on = i ∨ (acc.getD e.on 0).testBit i = true) := by
 induction es with
 | nil => intro s0 h; exact .inl h
 | cons e es ih =>
  intro s0 h
  rw [List.foldl_cons] at h
  rcases ih h with h1 | ⟨e', h1, h2, h3⟩
  ·by_cases hb : Region.binds .any e = true
   ·rw [if_pos hb] at h1
    rw [Nat.testBit_or, Nat.testBit_or] at h1
    simp only [Bool.or_eq_true] at h1
    rcases h1 with (h1 | h1) | h1
    ·exact .inl h1
    ·refine .inr ⟨e, by simp, hb, .inl ?_⟩
     rw [Nat.testBit_two_pow] at h1
     exact of_decide_eq_true h1
    ·exact .inr ⟨e, by simp, hb, .inr h1⟩
   ·rw [if_neg hb] at h1
    exact .inl h1
  ·exact .inr ⟨e', by simp [h1], h2, h3⟩
theorem masks_spec {all : List Oper} {S : Nat → Bool} (hS : Closed all S) : ∀ (os : List Oper) (acc : List Nat), (∀ k, os[k]? = all[acc.length + k]?) → (∀ j m, acc[j]? = some m → S j = true → ∀ i, m.testBit i = true → S i = true) →
  ∀ j m, (masksGo os acc)[j]? = some m → S j = true → ∀ i, m.testBit i = true → S i = true
 | [], acc, _, h => h
 | o :: os, acc, hk, h => by
  refine masks_spec hS os (acc ++ [edgesMask acc o.after.toList]) (fun k => ?_) (fun j m hj hSj i hi => ?_)
  ·have := hk (k + 1)
   rw [List.length_append, List.length_singleton]
   rw [show acc.length + 1 + k = acc.length + (k + 1) by omega, ← this]
   rfl
  ·by_cases hlt : j < acc.length
   ·rw [List.getElem?_append_left hlt] at hj
    exact h j m hj hSj i hi
   ·rw [List.getElem?_append_right (by omega)] at hj
    have hj0 : j = acc.length := by
     rcases Nat.lt_or_ge (j - acc.length) 1 with h1 | h1
     ·omega
     ·rw [List.getElem?_eq_none (by simpa using h1)] at hj; cases hj
    subst hj0
    simp at hj
    subst hj
    have ho : all[acc.length]? = some o := by have := hk 0; simpa using this.symm
    rcases edgesMask_bit hi with h1 | ⟨e, h1, h2, h3⟩
    ·simp at h1
    ·have hSe := hS _ o ho hSj e (by simpa using h1) h2
     rcases h3 with rfl | h3
     ·exact hSe
     ·cases he : acc[e.on]? with
      | none => rw [List.getD_eq_getElem?_getD, he] at h3; simp at h3
      | some m =>
       rw [List.getD_eq_getElem?_getD, he] at h3
       exact h e.on m he hSe i h3
theorem masksGo_length : ∀ (os : List Oper) (acc : List Nat), (masksGo os acc).length = acc.length + os.length
 | [], acc => rfl
 | o :: os, acc => by rw [masksGo, masksGo_length os]; simp; omega
theorem zip3_get : ∀ (n : Nat) (ops : List Op) (ms : List Nat) (k : Nat) (o : Op) (m : Nat), ops[k]? = some o → ms[k]? = some m → (zip3 n ops ms)[k]? = some (n + k, o, m)
 | n, o' :: os, m' :: ms, 0, o, m, h1, h2 => by simp at h1 h2; subst h1 h2; rfl
 | n, o' :: os, m' :: ms, k + 1, o, m, h1, h2 => by
  have := zip3_get (n + 1) os ms k o m (by simpa using h1) (by simpa using h2)
  rw [zip3, List.getElem?_cons_succ, this]
  congr 2
  omega
 | _, [], _, _, _, _, h1, _ => by simp at h1
 | _, _ :: _, [], _, _, _, _, h2 => by simp at h2
theorem okPairsB_spec {ps : List (Nat × Nat)} : ∀ {Z : List (Nat × Op × Nat)}, okPairsB ps Z = true → ∀ (i j : Nat) (x y : Nat × Op × Nat), i < j → Z[i]? = some x → Z[j]? = some y → y.2.2.testBit x.1 = true ∨ fineB x.2.1 y.2.1 (inPs ps x.1 y.1) = true
 | [], _, i, j, x, y, _, h, _ => by simp at h
 | z :: Z, hok, i, j, x, y, hlt, hx, hy => by
  simp only [okPairsB, Bool.and_eq_true] at hok
  obtain ⟨j', rfl⟩ : ∃ j', j = j' + 1 := ⟨j - 1, by omega⟩
  have hy' : Z[j']? = some y := by simpa using hy
  cases i with
  | zero =>
   simp at hx
   subst hx
   have := List.all_eq_true.1 hok.1 y (List.mem_of_getElem? hy')
   simpa using this
  | succ i => exact okPairsB_spec hok.2 i j' x y (by omega) (by simpa using hx) hy'
theorem edgesBack_spec : ∀ {n : Nat} {os : List Oper}, edgesBack n os = true → ∀ k o, os[k]? = some o → ∀ e ∈ o.after, Region.binds .any e = true → e.on < n + k
 | n, [], _, k, o, h, _, _, _ => by simp at h
 | n, o' :: os, hok, k, o, h, e, he, hb => by
  simp only [edgesBack, Bool.and_eq_true] at hok
  cases k with
  | zero =>
   simp at h
   subst h
   have := List.all_eq_true.1 hok.1 e (by simpa using he)
   rw [hb] at this
   simpa using this
  | succ k =>
   have := edgesBack_spec hok.2 k o (by simpa using h) e he hb
   omega
theorem pairsOk_spec {ks : List (List Key)} : ∀ {ps : List (Nat × Nat)}, pairsOk ks ps = true → ∀ i j, inPs ps i j = true → ∀ a b, ks[i]? = some a → ks[j]? = some b → keysApart a b = true
 | [], _, i, j, h, _, _, _, _ => by simp [inPs] at h
 | (p, q) :: ps, hok, i, j, h, a, b, ha, hb => by
  simp only [pairsOk, Bool.and_eq_true] at hok
  simp only [inPs, List.any_cons, Bool.or_eq_true, Bool.and_eq_true] at h
  rcases h with ⟨h1, h2⟩ | h
  ·have e1 := Nat.eq_of_beq_eq_true h1
   have e2 := Nat.eq_of_beq_eq_true h2
   subst e1 e2
   have := hok.1
   rw [nth_eq, nth_eq, ha, hb] at this
   exact this
  ·exact pairsOk_spec hok.2 i j h a b ha hb
section
variable {P : Program} {ck : Callk} {pf : Nat → Bool} {fr : Fr} {lo base : Nat}
theorem annot (hpc : PureCk ck pf) : ∀ (ops : List Op) (i : Nat) {s s' : St} {ks : List (List Key)}, runOpsD ck lo base i ops s = some (s', ks) → (∀ o ∈ ops, o.k.opens pf = true) →
  ∃ L : List Ann, L.map (·.o) = ops ∧ L.map (·.i) = List.range' i ops.length ∧ Runs ck lo base L s s' ∧ ∀ (n : Nat) (x : Ann), L[n]? = some x → ∃ k, ks[n]? = some k ∧ AnnOk base x k
 | [], i, s, s', ks, h, _ => by
  cases h
  exact ⟨[], rfl, rfl, rfl, by simp⟩
 | o :: ops, i, s, s', ks, h, ho => by
  simp only [runOpsD] at h
  split at h
  ·cases h
  ·rename_i s1 hs1
   split at h
   ·cases h
   ·rename_i s2 ks' hs2
    cases h
    obtain ⟨r, hd, rfl⟩ := does_of_step hpc (ho o (by simp)) hs1
    obtain ⟨L, h1, h2, h3, h4⟩ := annot hpc ops (i + 1) hs2 (fun q hq => ho q (by simp [hq]))
    have hq : ∃ q, pre s o = some q := by cases hd <;> exact ⟨_, by assumption⟩
    obtain ⟨q, hq⟩ := hq
    refine ⟨⟨i, o, q, r⟩ :: L, by simp [h1], by simp [h2, List.range'_succ], ⟨hq, hd, h3⟩, fun n x hx => ?_⟩
    cases n with
    | zero =>
     simp at hx
     subst hx
     exact ⟨_, rfl, ann_ok hq hd⟩
    | succ n =>
     obtain ⟨k, hk, hk2⟩ := h4 n x (by simpa using hx)
     exact ⟨k, by simpa using hk, hk2⟩
theorem Sim.eqv {g : Gh} {s t : St} {a : Act} {w : World} (e : Eqv s t) (h : Sim fr g s a w) : Sim fr g t a w where
 mem := by rw [← e.mem]; exact h.mem
 env k v hv := h.env k v (by rw [e.env]; exact hv)
 bx k v hv := by
  obtain ⟨h1, b, h2, h3⟩ := h.bx k v (by rw [e.bx]; exact hv)
  exact ⟨h1, b, h2, by rw [← e.mem]; exact h3⟩
 bxd k k' v v' b hne hv hv' := h.bxd k k' v v' b hne (by rw [e.bx]; exact hv) (by rw [e.bx]; exact hv')
 ad k v hv := h.ad k v (by rw [e.ad]; exact hv)
 size := h.size
 defers := h.defers
 keep := h.keep
 own := by rw [← e.mem]; exact h.own
theorem Inv.eqv {g0 : Gh} {mem0 : Mem} {g : Gh} {s t : St} {a : Act} {w : World} (e : Eqv s t) (h : Inv fr g0 mem0 g s a w) : Inv fr g0 mem0 g t a w :=
 ⟨h.sim.eqv e, by rw [← e.mem]; exact h.fresh, by rw [← e.mem]; exact h.lo, h.le, by rw [← e.mem]; exact h.next, by rw [← e.mem]; exact h.blk, h.φ, h.I⟩
end
end Go.Am
namespace Go.Am
open Go
section
variable {P : Program} {ck : Callk} {pf : Nat → Bool} {fr : Fr} {g0 : Gh} {mem0 : Mem} {A B nt : Nat} {pure : Bool} {ops : Array Oper} {base : Nat}
def lst (listed : Array Bool) (k : Nat) : Bool := listed.getD k false
theorem okOps_get : ∀ {ps : List Op} {os : List Oper}, okOps P A B nt pure ops ps os = true → ps.length = os.length ∧ ∀ (k : Nat) (p : Op) (o : Oper), ps[k]? = some p → os[k]? = some o → okOper P A B nt pure ops p o = true
 | [], [], _ => ⟨rfl, by simp⟩
 | p :: ps, o :: os, h => by
  simp only [okOps, Bool.and_eq_true] at h
  obtain ⟨h1, h2⟩ := okOps_get h.2
  refine ⟨by simp [h1], fun k p' o' hp ho => ?_⟩
  cases k with
  | zero => simp at hp ho; subst hp ho; exact h.1
  | succ k => exact h2 k p' o' (by simpa using hp) (by simpa using ho)
 | [], _ :: _, h => by cases h
 | _ :: _, [], h => by cases h
theorem mem_ready {md : Region.Mode} {listed : Array Bool} {i : Nat} : i ∈ Region.ready md ops listed ↔ i < ops.size ∧ listed.getD i true = false ∧ ∃ o, ops[i]? = some o ∧ ∀ e ∈ o.after, Region.binds md e = true → listed.getD e.on false = true := by
 unfold Region.ready
 rw [List.mem_filter, List.mem_range]
 constructor
 ·rintro ⟨h1, h2⟩
  simp only [Bool.and_eq_true, Bool.not_eq_true'] at h2
  obtain ⟨h2, h3⟩ := h2
  have ho : ops[i]? = some ops[i] := by simp [h1]
  refine ⟨h1, h2, ops[i], ho, fun e he hb => ?_⟩
  rw [ho] at h3
  simp only [Option.map_some, Option.getD_some] at h3
  have := (Array.all_eq_true'.1 h3) e he
  rw [hb] at this
  simpa using this
 ·rintro ⟨h1, h2, o, ho, h3⟩
  refine ⟨h1, ?_⟩
  simp only [Bool.and_eq_true, Bool.not_eq_true']
  refine ⟨h2, ?_⟩
  rw [ho]
  simp only [Option.map_some, Option.getD_some]
  refine Array.all_eq_true'.2 fun e he => ?_
  cases hb : Region.binds md e with
  | false => rfl
  | true => simp [h3 e he hb]
theorem getD_of_size {listed : Array Bool} {i : Nat} (h : i < listed.size) (b : Bool) : listed.getD i b = lst listed i := by
 unfold lst
 simp [Array.getD, h]
theorem lst_set {listed : Array Bool} {i : Nat} (h : i < listed.size) (k : Nat) : lst (listed.setIfInBounds i true) k = (lst listed k || k == i) := by
 unfold lst
 rw [Array.getD_eq_getD_getElem?, Array.getD_eq_getD_getElem?, Array.getElem?_setIfInBounds]
 by_cases e : i = k
 ·subst e
  simp [h]
 ·have : (k == i) = false := beq_eq_false_iff_ne.2 (Ne.symm e)
  rw [if_neg e, this, Bool.or_false]
def left (n : Nat) (S : Nat → Bool) : Nat := ((List.range n).filter fun k => !S k).length
theorem left_lt {n : Nat} {S : Nat → Bool} {i : Nat} (hi : i < n) (hS : S i = false) : left n (fun k => S k || k == i) < left n S := by
 unfold left
 have : (List.range n).filter (fun k => !(S k || k == i)) = ((List.range n).filter fun k => !S k).filter fun k => !(k == i) := by
  rw [List.filter_filter]
  refine List.filter_congr fun k _ => ?_
  cases S k <;> cases k == i <;> rfl
 rw [this]
 refine List.length_filter_lt_length_iff_exists.2 ⟨i, List.mem_filter.2 ⟨List.mem_range.2 hi, by simp [hS]⟩, by simp⟩
theorem left_zero {n : Nat} {S : Nat → Bool} (h : left n S = 0) : ∀ k, k < n → S k = true := by
 intro k hk
 cases hS : S k with
 | true => rfl
 | false =>
  have : k ∈ (List.range n).filter fun k => !S k := List.mem_filter.2 ⟨List.mem_range.2 hk, by simp [hS]⟩
  unfold left at h
  rw [List.length_eq_zero_iff.1 h] at this
  cases this
theorem all_of_ready {listed : Array Bool} (hsz : listed.size = ops.size) (hback : edgesBack 0 ops.toList = true) (hr : Region.ready .any ops listed = []) : ∀ k, k < ops.size → lst listed k = true := by
 intro k
 induction k using Nat.strongRecOn with
 | _ k ih =>
  intro hk
  cases hl : lst listed k with
  | true => rfl
  | false =>
   have : k ∈ Region.ready .any ops listed := by
    refine mem_ready.2 ⟨hk, by rw [getD_of_size (by omega)]; exact hl, ops[k], by simp [hk], fun e he hb => ?_⟩
    have := edgesBack_spec hback k ops[k] (by simp [hk]) e he hb
    exact ih e.on (by omega) (by omega)
   rw [hr] at this
   cases this
theorem dreg_any (hck : CkOk P src ck) (hcd : ∀ f args lo m r, ck f args lo m = some r → callable P (src f) = true) (hpc : PureCk ck pf) (hA : fr.AS = bits A nt) (hB : fr.BS = bits B nt) (hn : fr.nt = nt) (hS0 : pure = true → ∀ b, ¬ fr.S0 b) {Q : Exit → Act → World → Prop}
  {L : List Ann} (hLo : okOps P A B nt pure ops (L.map (·.o)) ops.toList = true) (hLi : L.map (·.i) = List.range' 0 L.length) (hopen : ∀ x ∈ L, x.o.k.opens pf = true) (hback : edgesBack 0 ops.toList = true)
  (hcan : ∀ S, Closed ops.toList S → L.Pairwise (fun x y => S x.i = false → S y.i = true → CanA base x y)) {s0 sN : St} (hfull : Runs ck fr.lo base L s0 sN) (hf0 : ∀ x ∈ L, Free base s0 x.i) (hbm : mem0.next ≤ base)
  (hQ : ∀ g a w, Inv fr g0 mem0 g sN a w → Q .normal a w) :
  ∀ (fuel : Nat) (listed : Array Bool) {g : Gh} {t : St} {a : Act} {w : World}, listed.size = ops.size → Closed ops.toList (lst listed) → left ops.size (lst listed) ≤ fuel → Runs ck fr.lo base (L.filter fun x => lst listed x.i) s0 t → Inv fr g0 mem0 g t a w →
   (∀ k, k < ops.size → lst listed k = false → g.φ (base + k) = none) → wpAny P .any ops Q fuel listed a w := by
 have hlen : L.length = ops.size := by
  have := (okOps_get hLo).1
  simpa using this
 have hidx : ∀ (k : Nat) (x : Ann), L[k]? = some x → x.i = k := by
  intro k x hx
  have : (L.map (·.i))[k]? = some x.i := by rw [List.getElem?_map, hx]; rfl
  rw [hLi] at this
  have hk : k < L.length := by
   rcases Nat.lt_or_ge k L.length with h | h
   ·exact h
   ·rw [List.getElem?_eq_none h] at hx; cases hx
  rw [List.getElem?_range' hk] at this
  simp at this
  exact this.symm
 have hnd : (L.map (·.i)).Nodup := by rw [hLi]; exact List.nodup_range'
 have fin : ∀ {listed : Array Bool} {g : Gh} {t : St} {a : Act} {w : World}, (∀ k, k < ops.size → lst listed k = true) → Runs ck fr.lo base (L.filter fun x => lst listed x.i) s0 t → Inv fr g0 mem0 g t a w → Q .normal a w := by
  intro listed g t a w hall hr i
  have : L.filter (fun x => lst listed x.i) = L := by
   refine List.filter_eq_self.2 fun x hx => ?_
   obtain ⟨k, hk, rfl⟩ := List.getElem_of_mem hx
   have := hidx k _ (List.getElem?_eq_getElem hk)
   rw [this]
   exact hall k (by omega)
  rw [this] at hr
  have := Runs.det hr hfull
  subst this
  exact hQ g a w i
 intro fuel
 induction fuel with
 | zero =>
  intro listed g t a w hsz hcl hle hr i _
  have hall := left_zero (Nat.le_zero.1 hle)
  refine ⟨?_, fin hall hr i⟩
  apply List.eq_nil_iff_forall_not_mem.2
  intro k hk
  obtain ⟨h1, h2, _⟩ := mem_ready.1 hk
  rw [getD_of_size (by omega), hall k h1] at h2
  cases h2
 | succ fuel ih =>
  intro listed g t a w hsz hcl hle hr i hφ
  refine ⟨fun hr0 => fin (all_of_ready hsz hback hr0) hr i, fun n hn0 => ?_⟩
  obtain ⟨h1, h2, o, ho, hedges⟩ := mem_ready.1 hn0
  rw [getD_of_size (by omega)] at h2
  have hS' : ∀ k, lst (listed.setIfInBounds n true) k = (lst listed k || k == n) := lst_set (by omega)
  have hcl' : Closed ops.toList (lst (listed.setIfInBounds n true)) := by
   intro j oj hj hSj e he hb
   rw [hS'] at hSj ⊢
   simp only [Bool.or_eq_true, beq_iff_eq] at hSj ⊢
   rcases hSj with h | rfl
   ·exact .inl (hcl j oj hj h e he hb)
   ·have : oj = o := by rw [Array.getElem?_toList, ho] at hj; exact (Option.some.inj hj).symm
    subst this
    exact .inl (hedges e he hb)
  have hnL : n < L.length := by omega
  have hx : L[n]? = some L[n] := List.getElem?_eq_getElem hnL
  have hxi := hidx n _ hx
  obtain ⟨u, hu⟩ := runs_filter hpc (lst (listed.setIfInBounds n true)) L hfull hopen (hcan _ hcl') hf0 hnd
  have hsplit : L = L.take n ++ L[n] :: L.drop (n + 1) := by
   have h1 : L.drop n = L[n] :: L.drop (n + 1) := (List.getElem_cons_drop hnL).symm
   rw [← h1, List.take_append_drop]
  have hone : ∃ t', pre t L[n].o = some L[n].q ∧ Does ck fr.lo (base + L[n].i) t L[n].o L[n].r ∧ t' = t.app L[n].o.d L[n].r ∧ Eqv t' u := by
   have hu' : Runs ck fr.lo base (L.filter fun y => lst listed y.i || y.i == L[n].i) s0 u := by
    have : (fun x : Ann => lst (listed.setIfInBounds n true) x.i) = fun y : Ann => lst listed y.i || y.i == L[n].i := by
     funext y
     rw [hS', hxi]
    rw [this] at hu
    exact hu
   generalize hxx : L[n] = x at *
   rw [hsplit] at hopen hf0 hnd hr hu'
   have hp := hcan _ hcl
   rw [hsplit] at hp
   exact one_more hpc hopen hp hf0 hnd (by rw [hxi]; exact h2) hr hu'
  obtain ⟨t', hpre, hdoes, rfl, heq⟩ := hone
  have hfree : Free base t n := by
   have := hr.free (hf0 _ (List.getElem_mem hnL)) (fun y hy e => by
    have hy2 := (List.mem_filter.1 hy).2
    rw [e, hxi, h2] at hy2
    cases hy2)
   rw [hxi] at this
   exact this
  have hokop : okOper P A B nt pure ops L[n].o o = true := (okOps_get hLo).2 n _ o (by rw [List.getElem?_map, hx]; rfl) (by rw [Array.getElem?_toList]; exact ho)
  rw [hxi] at hdoes
  unfold wpOp
  rw [ho]
  simp only
  have key := step_sound (next := wpAny P .any ops Q fuel (listed.setIfInBounds n true)) (Q := Q) hck hcd hA hB hn hS0 i (h := base + n) ⟨hfree.1, hφ n h1 h2⟩ (by omega) hokop hdoes.step (fun g' a' w' q => by
   have hlt : base + n < (t.app L[n].o.d L[n].r).mem.next := by rw [next_app]; exact hfree.2
   refine ih (listed.setIfInBounds n true) (by simpa using hsz) hcl' ?_ hu ((q.inv (fun _ => hlt)).eqv heq) (fun k hk hSk => ?_)
   ·have : (lst (listed.setIfInBounds n true)) = fun k => lst listed k || k == n := funext hS'
    rw [this]
    have := left_lt (S := lst listed) h1 h2
    omega
   ·rw [hS'] at hSk
    simp only [Bool.or_eq_false_iff, beq_eq_false_iff_ne] at hSk
    have hfk : Free base t k := by
     have hkL : k < L.length := by omega
     have hki := hidx k _ (List.getElem?_eq_getElem hkL)
     have := hr.free (hf0 _ (List.getElem_mem hkL)) (fun y hy e => by
      have hy2 := (List.mem_filter.1 hy).2
      rw [e, hki, hSk.1] at hy2
      cases hy2)
     rw [hki] at this
     exact this
    exact q.after.φ (base + k) (by omega) hfk.2 (hφ k hk hSk.1))
  split
  ·rename_i hw; rw [if_pos hw] at key; exact .inl key
  ·rename_i hw; rw [if_neg hw] at key; exact key
end
end Go.Am
namespace Go.Am
open Go
noncomputable def okCode (P : Program) (A B nt : Nat) (pure : Bool) (pf : Nat → Bool) : AC → Code → Bool
 | .skip, .skip => true
 | .dead, _ => true
 | .reg ops _ _, .region _ os false => okOps P A B nt pure os ops os.toList
 | .dreg ops ps _ _, .region _ os true => okOps P A B nt pure os ops os.toList && okDreg pf ops ps os.toList
 | .seq a b, .seq a' b' => okCode P A B nt pure pf a a' && okCode P A B nt pure pf b b'
 | .cond c a b, .cond c' a' b' => okO c c' && c.isV && okCode P A B nt pure pf a a' && okCode P A B nt pure pf b b'
 | .block i b, .block i' b' => Nat.beq i i' && okCode P A B nt pure pf b b'
 | .loop _ _ b, .loop b' => okCode P A B nt pure pf b b'
 | .exit i, .exit i' => Nat.beq i i'
 | .ret, .ret => true
 | _, _ => false
def Ex.to : Ex → Exit
 | .nrm => .normal
 | .exit i => .exit i
 | .ret => .ret
section
variable {P : Program} {ck : Callk} {pf : Nat → Bool} {fr : Fr} {g0 : Gh} {mem0 : Mem} {A B nt : Nat} {pure : Bool} {N : Nat}
theorem dreg_sound (hm : P.follows .mixedOrders = true) (hck : CkOk P src ck) (hcd : ∀ f args lo m r, ck f args lo m = some r → callable P (src f) = true) (hpc : PureCk ck pf) (hA : fr.AS = bits A nt) (hB : fr.BS = bits B nt) (hn : fr.nt = nt) (hS0 : pure = true → ∀ b, ¬ fr.S0 b) {Q : Exit → Act → World → Prop}
  {ps : List Op} {qs : List (Nat × Nat)} {os : Array Oper} {id : Nat} {g : Gh} {st st' : St} {a : Act} {w : World} {ks : List (List Key)} (hok : okOps P A B nt pure os ps os.toList = true) (hok2 : okDreg pf ps qs os.toList = true) (i : Inv fr g0 mem0 g st a w)
  (hr : runOpsD ck fr.lo st.mem.next 0 ps { st with mem := st.mem.bump ps.length } = some (st', ks)) (hps : pairsOk ks qs = true) (hQ : ∀ g' a' w', Inv fr g0 mem0 g' st' a' w' → Q .normal a' w') : (Code.region id os true).wp P Q a w := by
 unfold okDreg at hok2
 simp only [Bool.and_eq_true] at hok2
 obtain ⟨⟨hop, hback⟩, hpairs⟩ := hok2
 have hopen : ∀ o ∈ ps, o.k.opens pf = true := fun o ho => List.all_eq_true.1 hop o ho
 obtain ⟨L, h1, h2, h3, h4⟩ := annot hpc ps 0 hr hopen
 have hlen : L.length = ps.length := by rw [← h1]; simp
 have hlo := okOps_get hok
 have hsz : ps.length = os.size := by simpa using hlo.1
 have hidx : ∀ (k : Nat) (x : Ann), L[k]? = some x → x.i = k := by
  intro k x hx
  have : (L.map (·.i))[k]? = some x.i := by rw [List.getElem?_map, hx]; rfl
  rw [h2] at this
  have hk : k < ps.length := by
   rcases Nat.lt_or_ge k L.length with h | h
   ·omega
   ·rw [List.getElem?_eq_none h] at hx; cases hx
  rw [List.getElem?_range' hk] at this
  simp at this
  exact this.symm
 have hi0 : Inv fr g0 mem0 g { st with mem := st.mem.bump ps.length } a w.drew := by
  have s1 := (i.sim.quiet (.drew g w)).bump ps.length
  exact ⟨s1, fun k hk => i.fresh k (by have : st.mem.next + ps.length ≤ k := hk; omega), Nat.le_trans i.lo (Nat.le_add_right _ _), i.le, Nat.le_trans i.next (Nat.le_add_right _ _), i.blk, i.φ, i.I⟩
 refine wp_region_any hm ?_
 have hw : ({ w with drawn := w.drawn + 1 } : World) = w.drew := rfl
 rw [hw]
 refine dreg_any (L := L) (base := st.mem.next) (s0 := { st with mem := st.mem.bump ps.length }) hck hcd hpc hA hB hn hS0 (by rw [h1]; exact hok) (by rw [h2, hlen]) (fun x hx => hopen _ (by rw [← h1]; exact List.mem_map.2 ⟨x, hx, rfl⟩)) hback ?_ h3 ?_ i.next hQ os.size (Array.replicate os.size false) (by simp) ?_ ?_ ?_ hi0 ?_
 ·intro S hS
  refine List.pairwise_iff_getElem.2 fun m n hm hn hmn hSm hSn => ?_
  have hxm := List.getElem?_eq_getElem hm
  have hxn := List.getElem?_eq_getElem hn
  have em := hidx m _ hxm
  have en := hidx n _ hxn
  have om : ps[m]? = some L[m].o := by rw [← h1, List.getElem?_map, hxm]; rfl
  have on : ps[n]? = some L[n].o := by rw [← h1, List.getElem?_map, hxn]; rfl
  have hml : (masksGo os.toList []).length = os.toList.length := by rw [masksGo_length]; simp
  have hkm : (masksGo os.toList [])[m]? = some ((masksGo os.toList [])[m]'(by simp at hml ⊢; omega)) := List.getElem?_eq_getElem _
  have hkn : (masksGo os.toList [])[n]? = some ((masksGo os.toList [])[n]'(by simp at hml ⊢; omega)) := List.getElem?_eq_getElem _
  have zm := zip3_get 0 ps _ m _ _ om hkm
  have zn := zip3_get 0 ps _ n _ _ on hkn
  rw [Nat.zero_add] at zm zn
  rw [em] at hSm
  rw [en] at hSn
  rcases okPairsB_spec hpairs m n _ _ hmn zm zn with h | h
  ·have := masks_spec hS os.toList [] (fun k => by simp) (fun j m hj => by simp at hj) n _ hkn hSn m h
   rw [hSm] at this
   cases this
  ·obtain ⟨k1, hk1, ok1⟩ := h4 m _ hxm
   obtain ⟨k2, hk2, ok2⟩ := h4 n _ hxn
   exact can_of ok1 ok2 h (fun hd => pairsOk_spec hps m n hd k1 k2 hk1 hk2)
 ·intro x hx
  obtain ⟨k, hk, rfl⟩ := List.getElem_of_mem hx
  rw [hidx k _ (List.getElem?_eq_getElem hk)]
  exact ⟨(i.fresh _ (Nat.le_add_right _ _)).1, by show st.mem.next + k < st.mem.next + ps.length; omega⟩
 ·intro j o hj hSj
  have hlt : j < os.size := by
   rcases Nat.lt_or_ge j os.toList.length with h | h
   ·simpa using h
   ·rw [List.getElem?_eq_none h] at hj; cases hj
  unfold lst at hSj
  simp [Array.getD, hlt] at hSj
 ·unfold left
  exact Nat.le_trans (List.length_filter_le _ _) (by simp)
 ·have : L.filter (fun x => lst (Array.replicate os.size false) x.i) = [] := by
   refine List.filter_eq_nil_iff.2 fun x hx => ?_
   unfold lst
   simp only [Array.getD]
   split <;> simp
  rw [this]
  rfl
 ·intro k _ _
  exact (i.fresh _ (Nat.le_add_right _ _)).2
theorem run_sound (hm : P.follows .mixedOrders = true) (hck : CkOk P src ck) (hcd : ∀ f args lo m r, ck f args lo m = some r → callable P (src f) = true) (hpc : PureCk ck pf) (hA : fr.AS = bits A nt) (hB : fr.BS = bits B nt) (hn : fr.nt = nt) (hS0 : pure = true → ∀ b, ¬ fr.S0 b) :
  ∀ (c : AC) (k : Code) {g : Gh} {st st' : St} {a : Act} {w : World} {ex : Ex} {Q : Exit → Act → World → Prop}, okCode P A B nt pure pf c k = true → Inv fr g0 mem0 g st a w → run ck N fr.lo c st = some (ex, st') → (∀ g' a' w', Inv fr g0 mem0 g' st' a' w' → Q ex.to a' w') → k.wp P Q a w := by
 intro c
 induction c with
 | skip =>
  intro k g st st' a w ex Q hok i hr hQ
  cases k <;> first | (cases hok; done) | skip
  cases hr
  exact wp_skip (hQ g a w i)
 | dead =>
  intro k g st st' a w ex Q hok i hr hQ
  cases hr
 | reg ops lv lb =>
  intro k g st st' a w ex Q hok i hr hQ
  cases k <;> first | (cases hok; done) | skip
  rename_i id os draw
  cases draw with
  | true => cases hok
  | false =>
   have hr' : (match runOps ck fr.lo ops st with
    | none => none
    | some st' => some (Ex.nrm, st'.cut lv lb)) = some (ex, st') := hr
   split at hr'
   ·cases hr'
   ·rename_i st1 h1
    cases hr'
    exact wp_region_list (ops_sound hck hcd hA hB hn hS0 ops os.toList hok i h1 (fun g' a' w' i' => hQ g' a' w' (i'.cut lv lb)))
 | dreg ops ps lv lb =>
  intro k g st st' a w ex Q hok i hr hQ
  cases k <;> first | (cases hok; done) | skip
  rename_i id os draw
  cases draw with
  | false => cases hok
  | true =>
   have hok' : (okOps P A B nt pure os ops os.toList && okDreg pf ops ps os.toList) = true := hok
   rw [Bool.and_eq_true] at hok'
   have hr' : (match runOpsD ck fr.lo st.mem.next 0 ops { st with mem := st.mem.bump ops.length } with
    | none => none
    | some (st', ks) => if pairsOk ks ps then some (Ex.nrm, st'.cut lv lb) else none) = some (ex, st') := hr
   split at hr'
   ·cases hr'
   ·rename_i st1 ks h1
    split at hr'
    ·rename_i hps
     cases hr'
     exact dreg_sound hm hck hcd hpc hA hB hn hS0 hok'.1 hok'.2 i h1 hps (fun g' a' w' i' => hQ g' a' w' (i'.cut lv lb))
    ·cases hr'
 | seq x y ihx ihy =>
  intro k g st st' a w ex Q hok i hr hQ
  cases k <;> first | (cases hok; done) | skip
  rename_i x' y'
  have hok' : (okCode P A B nt pure pf x x' && okCode P A B nt pure pf y y') = true := hok
  rw [Bool.and_eq_true] at hok'
  have hr' : (match run ck N fr.lo x st with
   | none => none
   | some (.nrm, st') => run ck N fr.lo y st'
   | some (.exit i, st') => some (.exit i, st')
   | some (.ret, st') => some (.ret, st')) = some (ex, st') := hr
  refine wp_seq ?_
  split at hr'
  ·cases hr'
  ·rename_i st1 h1
   exact ihx x' hok'.1 i h1 (fun g' a' w' i' => ihy y' hok'.2 i' hr' hQ)
  ·rename_i h1
   cases hr'
   exact ihx x' hok'.1 i h1 hQ
  ·rename_i h1
   cases hr'
   exact ihx x' hok'.1 i h1 hQ
 | cond c x y ihx ihy =>
  intro k g st st' a w ex Q hok i hr hQ
  cases k <;> first | (cases hok; done) | skip
  rename_i c' x' y'
  have hok' : (okO c c' && c.isV && okCode P A B nt pure pf x x' && okCode P A B nt pure pf y y') = true := hok
  simp only [Bool.and_eq_true] at hok'
  obtain ⟨⟨⟨o1, o2⟩, o3⟩, o4⟩ := hok'
  have hr' : (match getO st c with
   | some (.bool c) => cond c (run ck N fr.lo x st) (run ck N fr.lo y st)
   | _ => none) = some (ex, st') := hr
  split at hr'
  ·rename_i b hb
   have hc := (getO_val i.sim o2 o1 hb).bool_inv
   refine wp_cond hc ?_
   cases b with
   | true => exact ihx x' o3 i hr' hQ
   | false => exact ihy y' o4 i hr' hQ
  ·cases hr'
 | block id b ih =>
  intro k g st st' a w ex Q hok i hr hQ
  cases k <;> first | (cases hok; done) | skip
  rename_i id' b'
  have hok' : (Nat.beq id id' && okCode P A B nt pure pf b b') = true := hok
  rw [Bool.and_eq_true] at hok'
  have e := Nat.eq_of_beq_eq_true hok'.1
  subst e
  have hr' : (match run ck N fr.lo b st with
   | none => none
   | some (.nrm, st') => some (.nrm, st')
   | some (.exit i, st') => if i = id then some (.nrm, st') else some (.exit i, st')
   | some (.ret, st') => some (.ret, st')) = some (ex, st') := hr
  refine wp_block ?_
  split at hr'
  ·cases hr'
  ·rename_i h1
   cases hr'
   exact ih b' hok'.2 i h1 hQ
  ·rename_i j st1 h1
   refine ih b' hok'.2 i h1 (fun g' a' w' i' => ?_)
   show (if j = id then Q .normal a' w' else Q (.exit j) a' w')
   split at hr'
   ·rename_i e; cases hr'; rw [if_pos e]; exact hQ g' a' w' i'
   ·rename_i e; cases hr'; rw [if_neg e]; exact hQ g' a' w' i'
  ·rename_i h1
   cases hr'
   exact ih b' hok'.2 i h1 hQ
 | loop lv lb b ih =>
  intro k g st st' a w ex Q hok i hr hQ
  cases k <;> first | (cases hok; done) | skip
  rename_i b'
  have hok' : okCode P A B nt pure pf b b' = true := hok
  have hr' : iter (fun st => run ck N fr.lo b (st.cut lv lb)) N st = some (ex, st') := hr
  have key : ∀ (n : Nat) {g : Gh} {st : St} {a : Act} {w : World}, Inv fr g0 mem0 g st a w → iter (fun st => run ck N fr.lo b (st.cut lv lb)) n st = some (ex, st') → Code.rounds P b' Q n a w := by
   intro n
   induction n with
   | zero => intro g st a w _ h; cases h
   | succ n ihn =>
    intro g st a w i h
    have h' : (match run ck N fr.lo b (st.cut lv lb) with
     | none => none
     | some (.nrm, st') => iter (fun st => run ck N fr.lo b (st.cut lv lb)) n st'
     | some (.exit i, st') => some (.exit i, st')
     | some (.ret, st') => some (.ret, st')) = some (ex, st') := h
    rw [rounds_succ]
    split at h'
    ·cases h'
    ·rename_i h1
     exact ih b' hok' (i.cut lv lb) h1 (fun g' a' w' i' => ihn i' h')
    ·rename_i h1
     cases h'
     exact ih b' hok' (i.cut lv lb) h1 hQ
    ·rename_i h1
     cases h'
     exact ih b' hok' (i.cut lv lb) h1 hQ
  exact wp_loop_rounds N (key N i hr')
 | exit j =>
  intro k g st st' a w ex Q hok i hr hQ
  cases k <;> first | (cases hok; done) | skip
  rename_i j'
  have e := Nat.eq_of_beq_eq_true (show Nat.beq j j' = true from hok)
  subst e
  cases hr
  exact wp_exit (hQ g a w i)
 | ret =>
  intro k g st st' a w ex Q hok i hr hQ
  cases k <;> first | (cases hok; done) | skip
  cases hr
  exact wp_ret (hQ g a w i)
end
end Go.Am
