/- The checker: does an operation of the abstract machine stand for the program's own? -/
import Derived.Test.YtflfnkdhmcfjlaaKindi
namespace Go.Am
open Go

/-- The program's function behind a name of the abstract machine. -/
def src (f : Nat) : Nat := if f < 1000 then f else f - 1000

noncomputable section
def ck_mv (d : D) (os : List O) : Go.Op → Bool
  | .move x => okOs os [x] && (isVs os || d.isA)
  | .assign x => okOs os [x] && (isVs os || d.isA)
  | _ => false
def ck_pmv (os : List O) : Go.Op → Bool
  | .move x => okOs os [x]
  | .assign x => okOs os [x]
  | _ => false
def ck_pick (os : List O) : Go.Op → Bool
  | .pick x y z => okOs os [x, y, z] && isVs os
  | _ => false
def ck_bin (b : BinOp) (os : List O) : Go.Op → Bool
  | .binOp b' _ x y _ => decide (b' = b) && okOs os [x, y] && isVs os
  | _ => false
def ck_bq (P : Program) (ne : Bool) (os : List O) : Go.Op → Bool
  | .binOp b T x y _ => decide (b = if ne then .neq else .eql) && isBool P T && okOs os [x, y] && isVs os
  | _ => false
def ck_sq (ne : Bool) (os : List O) : Go.Op → Bool
  | .binOp b _ x y _ => decide (b = if ne then .neq else .eql) && okOs os [x, y] && isVs os
  | _ => false
def ck_aq (P : Program) (ne : Bool) (ks : List Nat) (os : List O) : Go.Op → Bool
  | .binOp b T x y _ => decide (b = if ne then .neq else .eql) && okFlat P T ks && okOs os [x, y] && isVs os
  | _ => false
def isSl (P : Program) (T : TypeId) : Bool := match P.underlying T with | some (.slice _) => true | _ => false
def ck_nq (P : Program) (ne : Bool) (os : List O) : Go.Op → Bool
  | .binOp b T x y _ => decide (b = if ne then .neq else .eql) && isSl P T && okOs os [x, y] && isVs os
  | _ => false
def ck_sadd (os : List O) : Go.Op → Bool
  | .binOp b _ x y _ => decide (b = .add) && okOs os [x, y] && isVs os
  | _ => false
def ck_not (os : List O) : Go.Op → Bool
  | .unOp .not _ x => okOs os [x] && isVs os
  | _ => false
def ck_cvt (P : Program) (k : IntKind) (os : List O) : Go.Op → Bool
  | .convert S T x => (P.underlying S).isSome && isInt P T k && okOs os [x] && isVs os
  | _ => false
def ck_cvs (P : Program) (os : List O) : Go.Op → Bool
  | .convert S T x => (P.underlying S).isSome && isStr P T && okOs os [x] && isVs os
  | _ => false
def ck_bts (P : Program) (os : List O) : Go.Op → Bool
  | .convert S T x => okBts P S T && okOs os [x] && isVs os
  | _ => false
def ck_ext (i : Nat) (os : List O) : Go.Op → Bool
  | .extract x i' => decide (i' = i) && okOs os [x] && isVs os
  | _ => false
def ck_bi (b : Builtin) (t : TypeId → TypeId → Bool) (two : Bool) (os : List O) : Go.Op → Bool
  | .call { callee := .builtin b', args := xs, argTypes := ts } => decide (b' = b) && (match xs.toList, two with
      | [x], false => okOs os [x]
      | [x, y], true => okOs os [x, y]
      | _, _ => false) && (match ts.toList, two with
      | [T], false => t T 0
      | [T, U], true => t T U
      | _, _ => false) && isVs os
  | _ => false
def ck_bld (P : Program) (z : List V) (pl : List (Nat × Nat)) (os : List O) : Go.Op → Bool
  | .build T parts => okBld P T z pl parts.toList && okOs os (parts.toList.map (·.2)) && isVs os
  | _ => false
def ck_lit (P : Program) (sz n : Nat) (z : V) (ix : List Nat) (os : List O) : Go.Op → Bool
  | .buildSlice T n' parts => decide (n' = n) && okLit P T sz n z ix parts.toList && okOs os (parts.toList.map (·.2)) && isVs os
  | _ => false
def ck_six (P : Program) (os : List O) : Go.Op → Bool
  | .index T x y => isStr P T && okOs os [x, y] && isVs os
  | _ => false
def ck_fld (P : Program) (agg : Bool) (off sz : Nat) (os : List O) : Go.Op → Bool
  | .field T x i => okFld P T i agg off sz && okOs os [x] && isVs os
  | _ => false
def ck_sl (P : Program) (sz : Nat) (lo hi mx : Bool) (os : List O) : Go.Op → Bool
  | .slice T x lo' hi' mx' => okSlc P T sz && decide (lo = lo'.isSome) && decide (hi = hi'.isSome) && !mx && mx'.isNone && okOs os (x :: (lo'.toList ++ hi'.toList)) && isVs os
  | _ => false
def ck_fa (P : Program) (off : Nat) (d : D) (os : List O) : Go.Op → Bool
  | .fieldAddr T x i => okFa P T i off && okOs os [x] && d.isA
  | _ => false
def ck_ia (P : Program) (sz : Nat) (d : D) (os : List O) : Go.Op → Bool
  | .indexAddr T x y => okSlc P T sz && okOs os [x, y] && isVs os && d.isA
  | _ => false
def ck_iaa (P : Program) (n sz : Nat) (d : D) (os : List O) : Go.Op → Bool
  | .indexAddr T x y => okIaa P T n sz && okOs os [x, y] && snd os && d.isA
  | _ => false
def ck_nc (d : D) (os : List O) : Go.Op → Bool
  | .nilCheck x => okOs os [x] && (isVs os || d.isA)
  | _ => false
def ck_ld (P : Program) (agg : Bool) (sz : Nat) (os : List O) : Go.Op → Bool
  | .load T x => decide (aggOf P T = some agg) && (!agg || decide (szOf P T = some sz)) && okOs os [x]
  | _ => false
def ck_frz (P : Program) (sz : Nat) (os : List O) : Go.Op → Bool
  | .load T x => decide (aggOf P T = some true) && decide (szOf P T = some sz) && okOs os [x]
  | _ => false
def ck_st (P : Program) (sz : Nat) (os : List O) : Go.Op → Bool
  | .store T x y => decide (szOf P T = some sz) && okOs os [x, y] && snd os
  | _ => false
def ck_box (P : Program) (os : List O) : Go.Op → Bool
  | .box _ x => okOs os [x] && isVs os
  | .alloc T => match os with
    | [.k z] => okZero P T z
    | _ => false
  | _ => false
def ck_mk (P : Program) (sz : Nat) (z : V) (os : List O) : Go.Op → Bool
  | .makeSlice T x y => okMk P T sz z && okOs os [x] && okOs os [y] && isVs os
  | _ => false
def ck_call (f : Nat) (os : List O) : Go.Op → Bool
  | .call { callee := .value (.func f'), args := xs, argTypes := _ } => decide (f' = src f) && okOs os xs.toList && isVs os
  | _ => false
def ck_callv (os : List O) : Go.Op → Bool
  | .call { callee := .value x, args := xs, argTypes := _ } => okOs os (x :: xs.toList) && isVs os
  | _ => false
def ck_mkf (f : Nat) (os : List O) : Go.Op → Bool
  | .makeFunc (.func f') first xs => decide (f' = f) && decide (first.size = 0) && okOs os xs.toList && isVs os
  | _ => false
def ck_mkm : Go.Op → Bool
  | .makeMap _ none => true
  | _ => false
def ck_look (P : Program) (arr ok : Bool) (z : V) (os : List O) : Go.Op → Bool
  | .lookup T x y ok' => decide (ok' = ok) && okLook P arr T z && okOs os [x, y] && isVs os
  | _ => false
def ck_upd (P : Program) (arr : Bool) (os : List O) : Go.Op → Bool
  | .mapUpdate T x y z => okMap P arr T && okOs os [x, y, z] && isVs os
  | .insert T x y z => okMap P arr T && okOs os [x, y, z] && isVs os
  | _ => false
def okLen (P : Program) (str : Bool) (T : TypeId) : Bool := if str then isStr P T else isSl P T

def okKind (P : Program) (k : K) (d : D) (os : List O) (op : Go.Op) : Bool :=
  match k with
  | .mv => ck_mv d os op
  | .pmv => ck_pmv os op
  | .pick => ck_pick os op
  | .bin b => ck_bin b os op
  | .bq ne => ck_bq P ne os op
  | .sq ne => ck_sq ne os op
  | .aq ne ks => ck_aq P ne ks os op
  | .nq ne => ck_nq P ne os op
  | .sadd => ck_sadd os op
  | .not => ck_not os op
  | .cvt k => ck_cvt P k os op
  | .cvs => ck_cvs P os op
  | .bts => ck_bts P os op
  | .ext i => ck_ext i os op
  | .len str => ck_bi .len (fun T _ => okLen P str T) false os op
  | .mx => ck_bi .max (fun _ _ => true) true os op
  | .mn => ck_bi .min (fun _ _ => true) true os op
  | .bld z pl => ck_bld P z pl os op
  | .lit sz n z ix => ck_lit P sz n z ix os op
  | .hlit sz n z ix => ck_lit P sz n z ix os op
  | .six => ck_six P os op
  | .fld agg off sz => ck_fld P agg off sz os op
  | .sl sz lo hi mx => ck_sl P sz lo hi mx os op
  | .fa off => ck_fa P off d os op
  | .ia sz => ck_ia P sz d os op
  | .iaa n sz => ck_iaa P n sz d os op
  | .nc => ck_nc d os op
  | .ld agg sz => ck_ld P agg sz os op
  | .st sz => ck_st P sz os op
  | .box => ck_box P os op
  | .hbox _ => ck_box P os op
  | .mk sz z => ck_mk P sz z os op
  | .app sz => ck_bi .append (fun T U => okApp P T U sz) true os op
  | .cpy sz => ck_bi .copy (fun T _ => okSlc P T sz) true os op
  | .call f => ck_call f os op
  | .callv => ck_callv os op
  | .mkf f => ck_mkf f os op
  | .mkm => ck_mkm op
  | .look arr ok z => ck_look P arr ok z os op
  | .upd arr => ck_upd P arr os op
  | .frz sz => ck_frz P sz os op
end

section
variable {P : Program} {fr : Fr} {g : Gh} {st : St} {a : Act} {w : World} {h : Nat} {d : D} {o : Oper}

theorem isSl_spec {T : TypeId} (h : isSl P T = true) : ∃ e, P.underlying T = some (.slice e) := by
  unfold isSl at h
  split at h
  · rename_i e hu; exact ⟨e, hu⟩
  · cases h

theorem ck_bi_one {b : Builtin} {t : TypeId → TypeId → Bool} {os : List O} {op : Go.Op} (h : ck_bi b t false os op = true) : ∃ x ts T, op = .call { callee := .builtin b, args := #[x], argTypes := ts } ∧ okOs os [x] = true ∧ ts[0]? = some T ∧ t T 0 = true ∧ isVs os = true := by
  unfold ck_bi at h
  split at h
  · rename_i b' xs ts
    simp only [Bool.and_eq_true, decide_eq_true_eq] at h
    obtain ⟨⟨⟨rfl, h1⟩, h2⟩, h3⟩ := h
    split at h1
    · rename_i x hx _
      have e1 : xs = #[x] := by apply Array.ext'; simpa using hx
      subst e1
      split at h2
      · rename_i T hT _
        exact ⟨x, ts, T, rfl, h1, by rw [← Array.getElem?_toList, hT]; rfl, h2, h3⟩
      · rename_i h4; cases h4
      · cases h2
    · rename_i h4; cases h4
    · cases h1
  · cases h

theorem ck_bi_two {b : Builtin} {t : TypeId → TypeId → Bool} {os : List O} {op : Go.Op} (h : ck_bi b t true os op = true) : ∃ x y ts T U, op = .call { callee := .builtin b, args := #[x, y], argTypes := ts } ∧ okOs os [x, y] = true ∧ ts = #[T, U] ∧ t T U = true ∧ isVs os = true := by
  unfold ck_bi at h
  split at h
  · rename_i b' xs ts
    simp only [Bool.and_eq_true, decide_eq_true_eq] at h
    obtain ⟨⟨⟨rfl, h1⟩, h2⟩, h3⟩ := h
    split at h1
    · rename_i h4; cases h4
    · rename_i x y hx _
      have e1 : xs = #[x, y] := by apply Array.ext'; simpa using hx
      subst e1
      split at h2
      · rename_i h4; cases h4
      · rename_i T U hT _
        exact ⟨x, y, ts, T, U, rfl, h1, by apply Array.ext'; simpa using hT, h2, h3⟩
      · cases h2
    · cases h1
  · cases h

theorem kind_sound (s : Sim fr g st a w) (hf : g.φ h = none) {k : K} {os : List O} {vs : List V} (hok : okKind P k d os o.op = true) (hg : getOs st os = some vs) {p : Plan} (hp : plan k vs = some p) (hcall : ∀ f args, p = .call f args → callable P (src f) = true) :
    PlanRun src fr g st a w h d ((execOp a.eval o).run P w) p := by
  cases k with
  | mv =>
    simp only [okKind] at hok
    unfold ck_mv at hok
    split at hok
    · rename_i x e
      simp only [Bool.and_eq_true] at hok
      exact k_mv s (.inl e) hok.1 hok.2 hg hp
    · rename_i x e
      simp only [Bool.and_eq_true] at hok
      exact k_mv s (.inr e) hok.1 hok.2 hg hp
    · cases hok
  | pmv =>
    simp only [okKind] at hok
    unfold ck_pmv at hok
    split at hok
    · rename_i x e
      exact k_pmv s (.inl e) hok hg hp
    · rename_i x e
      exact k_pmv s (.inr e) hok hg hp
    · cases hok
  | pick =>
    simp only [okKind] at hok
    unfold ck_pick at hok
    split at hok
    · rename_i e
      simp only [Bool.and_eq_true] at hok
      exact k_pick s e hok.1 hok.2 hg hp
    · cases hok
  | bin b =>
    simp only [okKind] at hok
    unfold ck_bin at hok
    split at hok
    · rename_i e
      simp only [Bool.and_eq_true, decide_eq_true_eq] at hok
      obtain ⟨⟨rfl, h1⟩, h2⟩ := hok
      exact k_bin s e h1 h2 hg hp
    · cases hok
  | bq ne =>
    simp only [okKind] at hok
    unfold ck_bq at hok
    split at hok
    · rename_i e
      simp only [Bool.and_eq_true, decide_eq_true_eq] at hok
      obtain ⟨⟨⟨h0, h1⟩, h2⟩, h3⟩ := hok
      exact k_bq s e (isBool_spec h1) h0 h2 h3 hg hp
    · cases hok
  | sq ne =>
    simp only [okKind] at hok
    unfold ck_sq at hok
    split at hok
    · rename_i e
      simp only [Bool.and_eq_true, decide_eq_true_eq] at hok
      obtain ⟨⟨h0, h2⟩, h3⟩ := hok
      exact k_sq s e h0 h2 h3 hg hp
    · cases hok
  | aq ne ks =>
    simp only [okKind] at hok
    unfold ck_aq at hok
    split at hok
    · rename_i e
      simp only [Bool.and_eq_true, decide_eq_true_eq] at hok
      obtain ⟨⟨⟨h0, h1⟩, h2⟩, h3⟩ := hok
      exact k_aq s e h1 h0 h2 h3 hg hp
    · cases hok
  | nq ne =>
    simp only [okKind] at hok
    unfold ck_nq at hok
    split at hok
    · rename_i e
      simp only [Bool.and_eq_true, decide_eq_true_eq] at hok
      obtain ⟨⟨⟨h0, h1⟩, h2⟩, h3⟩ := hok
      obtain ⟨e0, hu⟩ := isSl_spec h1
      exact k_nq s e hu h0 h2 h3 hg hp
    · cases hok
  | sadd =>
    simp only [okKind] at hok
    unfold ck_sadd at hok
    split at hok
    · rename_i e
      simp only [Bool.and_eq_true, decide_eq_true_eq] at hok
      obtain ⟨⟨rfl, h2⟩, h3⟩ := hok
      exact k_sadd s e h2 h3 hg hp
    · cases hok
  | not =>
    simp only [okKind] at hok
    unfold ck_not at hok
    split at hok
    · rename_i e
      simp only [Bool.and_eq_true] at hok
      exact k_not s e hok.1 hok.2 hg hp
    · cases hok
  | cvt k =>
    simp only [okKind] at hok
    unfold ck_cvt at hok
    split at hok
    · rename_i e
      simp only [Bool.and_eq_true] at hok
      obtain ⟨⟨⟨h0, h1⟩, h2⟩, h3⟩ := hok
      exact k_cvt s e h0 (isInt_spec h1) h2 h3 hg hp
    · cases hok
  | cvs =>
    simp only [okKind] at hok
    unfold ck_cvs at hok
    split at hok
    · rename_i e
      simp only [Bool.and_eq_true] at hok
      obtain ⟨⟨⟨h0, h1⟩, h2⟩, h3⟩ := hok
      exact k_cvs s e h0 (isStr_spec h1) h2 h3 hg hp
    · cases hok
  | bts =>
    simp only [okKind] at hok
    unfold ck_bts at hok
    split at hok
    · rename_i e
      simp only [Bool.and_eq_true] at hok
      obtain ⟨⟨h1, h2⟩, h3⟩ := hok
      exact k_bts s e h1 h2 h3 hg hp
    · cases hok
  | ext i =>
    simp only [okKind] at hok
    unfold ck_ext at hok
    split at hok
    · rename_i e
      simp only [Bool.and_eq_true, decide_eq_true_eq] at hok
      obtain ⟨⟨rfl, h2⟩, h3⟩ := hok
      exact k_ext s e h2 h3 hg hp
    · cases hok
  | len str =>
    simp only [okKind] at hok
    obtain ⟨x, ts, T, e, h1, h2, h3, h4⟩ := ck_bi_one hok
    refine k_len (T := T) s e h2 ?_ h1 h4 hg hp
    unfold okLen at h3
    cases str with
    | true => simp only [if_true] at h3 ⊢; exact isStr_spec h3
    | false => simp only [Bool.false_eq_true, if_false] at h3 ⊢; exact isSl_spec h3
  | mx =>
    simp only [okKind] at hok
    obtain ⟨x, y, ts, T, U, e, h1, h2, h3, h4⟩ := ck_bi_two hok
    exact k_mx s e h1 h4 hg hp
  | mn =>
    simp only [okKind] at hok
    obtain ⟨x, y, ts, T, U, e, h1, h2, h3, h4⟩ := ck_bi_two hok
    exact k_mn s e h1 h4 hg hp
  | bld z pl =>
    simp only [okKind] at hok
    unfold ck_bld at hok
    split at hok
    · rename_i e
      simp only [Bool.and_eq_true] at hok
      obtain ⟨⟨h1, h2⟩, h3⟩ := hok
      exact k_bld s e h1 h2 h3 hg hp
    · cases hok
  | lit sz n z ix =>
    simp only [okKind] at hok
    unfold ck_lit at hok
    split at hok
    · rename_i e
      simp only [Bool.and_eq_true, decide_eq_true_eq] at hok
      obtain ⟨⟨⟨rfl, h1⟩, h2⟩, h3⟩ := hok
      exact k_lit s e h1 h2 h3 hg hp
    · cases hok
  | hlit sz n z ix =>
    simp only [okKind] at hok
    unfold ck_lit at hok
    split at hok
    · rename_i e
      simp only [Bool.and_eq_true, decide_eq_true_eq] at hok
      obtain ⟨⟨⟨rfl, h1⟩, h2⟩, h3⟩ := hok
      exact k_hlit s hf e h1 h2 h3 hg hp
    · cases hok
  | six =>
    simp only [okKind] at hok
    unfold ck_six at hok
    split at hok
    · rename_i e
      simp only [Bool.and_eq_true] at hok
      obtain ⟨⟨h1, h2⟩, h3⟩ := hok
      exact k_six s e (isStr_spec h1) h2 h3 hg hp
    · cases hok
  | fld agg off sz =>
    simp only [okKind] at hok
    unfold ck_fld at hok
    split at hok
    · rename_i e
      simp only [Bool.and_eq_true] at hok
      obtain ⟨⟨h1, h2⟩, h3⟩ := hok
      exact k_fld s e h1 h2 h3 hg hp
    · cases hok
  | sl sz lo hi mx =>
    simp only [okKind] at hok
    unfold ck_sl at hok
    split at hok
    · rename_i T x lo' hi' mx' e
      simp only [Bool.and_eq_true, decide_eq_true_eq, Bool.not_eq_true', Option.isNone_iff_eq_none] at hok
      obtain ⟨⟨⟨⟨⟨⟨h1, rfl⟩, rfl⟩, rfl⟩, rfl⟩, h2⟩, h3⟩ := hok
      exact k_sl s e h1 h2 h3 hg hp
    · cases hok
  | fa off =>
    simp only [okKind] at hok
    unfold ck_fa at hok
    split at hok
    · rename_i e
      simp only [Bool.and_eq_true] at hok
      obtain ⟨⟨h1, h2⟩, h3⟩ := hok
      exact k_fa s e h1 h2 h3 hg hp
    · cases hok
  | ia sz =>
    simp only [okKind] at hok
    unfold ck_ia at hok
    split at hok
    · rename_i e
      simp only [Bool.and_eq_true] at hok
      obtain ⟨⟨⟨h1, h2⟩, h3⟩, h4⟩ := hok
      exact k_ia s e h1 h2 h3 h4 hg hp
    · cases hok
  | iaa n sz =>
    simp only [okKind] at hok
    unfold ck_iaa at hok
    split at hok
    · rename_i e
      simp only [Bool.and_eq_true] at hok
      obtain ⟨⟨⟨h1, h2⟩, h3⟩, h4⟩ := hok
      exact k_iaa s e h1 h2 h3 h4 hg hp
    · cases hok
  | nc =>
    simp only [okKind] at hok
    unfold ck_nc at hok
    split at hok
    · rename_i e
      simp only [Bool.and_eq_true] at hok
      exact k_nc s e hok.1 hok.2 hg hp
    · cases hok
  | ld agg sz =>
    simp only [okKind] at hok
    unfold ck_ld at hok
    split at hok
    · rename_i e
      rw [Bool.and_eq_true] at hok
      exact k_ld s e hok.1 hok.2 hg hp
    · cases hok
  | frz sz =>
    simp only [okKind] at hok
    unfold ck_frz at hok
    split at hok
    · rename_i e
      simp only [Bool.and_eq_true, decide_eq_true_eq] at hok
      exact k_frz s e hok.1 hok.2 hg hp
    · cases hok
  | st sz =>
    simp only [okKind] at hok
    unfold ck_st at hok
    split at hok
    · rename_i e
      simp only [Bool.and_eq_true, decide_eq_true_eq] at hok
      obtain ⟨⟨h1, h2⟩, h3⟩ := hok
      exact k_st s e h1 h2 h3 hg hp
    · cases hok
  | box =>
    simp only [okKind] at hok
    unfold ck_box at hok
    split at hok
    · rename_i e
      simp only [Bool.and_eq_true] at hok
      exact k_box s hf e hok.1 hok.2 hg (.inl rfl) hp
    · rename_i T e
      split at hok
      · exact k_alloc s hf e rfl hok hg (.inl rfl) hp
      · cases hok
    · cases hok
  | hbox sz =>
    simp only [okKind] at hok
    unfold ck_box at hok
    split at hok
    · rename_i e
      simp only [Bool.and_eq_true] at hok
      exact k_box s hf e hok.1 hok.2 hg (.inr ⟨sz, rfl⟩) hp
    · rename_i T e
      split at hok
      · exact k_alloc s hf e rfl hok hg (.inr ⟨sz, rfl⟩) hp
      · cases hok
    · cases hok
  | mk sz z =>
    simp only [okKind] at hok
    unfold ck_mk at hok
    split at hok
    · rename_i e
      simp only [Bool.and_eq_true] at hok
      obtain ⟨⟨⟨h1, h2⟩, h3⟩, h4⟩ := hok
      exact k_mk s e h1 h2 h3 h4 hg hp
    · cases hok
  | app sz =>
    simp only [okKind] at hok
    obtain ⟨x, y, ts, T, U, e, h1, h2, h3, h4⟩ := ck_bi_two hok
    exact k_app s hf e h2 h3 h1 h4 hg hp
  | cpy sz =>
    simp only [okKind] at hok
    obtain ⟨x, y, ts, T, U, e, h1, h2, h3, h4⟩ := ck_bi_two hok
    exact k_cpy s e h2 h3 h1 h4 hg hp
  | call f =>
    simp only [okKind] at hok
    unfold ck_call at hok
    split at hok
    · rename_i f' xs ts e
      simp only [Bool.and_eq_true, decide_eq_true_eq] at hok
      obtain ⟨⟨h1, h2⟩, h3⟩ := hok
      have hp' := hp
      simp only [plan, plan_call, Option.some.injEq] at hp'
      have hc := hcall f vs hp'.symm
      rw [← h1] at hc
      exact k_call s e h1.symm hc h2 h3 hg hp
    · cases hok
  | callv =>
    simp only [okKind] at hok
    unfold ck_callv at hok
    split at hok
    · rename_i x xs ts e
      simp only [Bool.and_eq_true] at hok
      refine k_callv s e (fun f cs hh hlt => ?_) hok.1 hok.2 hg hp
      have hsrc : src f = f := by unfold src; rw [if_pos hlt]
      refine ⟨hsrc, ?_⟩
      cases vs with
      | nil => cases hh
      | cons v vs =>
        simp at hh
        subst hh
        simp only [plan, plan_callv, if_pos hlt, Option.some.injEq] at hp
        have := hcall f _ hp.symm
        rw [hsrc] at this
        exact this
    · cases hok
  | mkf f =>
    simp only [okKind] at hok
    unfold ck_mkf at hok
    split at hok
    · rename_i f' first xs e
      simp only [Bool.and_eq_true, decide_eq_true_eq] at hok
      obtain ⟨⟨⟨rfl, h0⟩, h2⟩, h3⟩ := hok
      have : first = #[] := Array.eq_empty_of_size_eq_zero h0
      subst this
      exact k_mkf s e h2 h3 hg hp
    · cases hok
  | mkm =>
    simp only [okKind] at hok
    unfold ck_mkm at hok
    split at hok
    · rename_i e
      exact k_mkm e hg hp
    · cases hok
  | look arr ok z =>
    simp only [okKind] at hok
    unfold ck_look at hok
    split at hok
    · rename_i e
      simp only [Bool.and_eq_true, decide_eq_true_eq] at hok
      obtain ⟨⟨⟨rfl, h1⟩, h2⟩, h3⟩ := hok
      exact k_look s e h1 h2 h3 hg hp
    · cases hok
  | upd arr =>
    simp only [okKind] at hok
    unfold ck_upd at hok
    split at hok
    · rename_i e
      simp only [Bool.and_eq_true] at hok
      obtain ⟨⟨h1, h2⟩, h3⟩ := hok
      exact k_upd s (.inl e) h1 h2 h3 hg hp
    · rename_i e
      simp only [Bool.and_eq_true] at hok
      obtain ⟨⟨h1, h2⟩, h3⟩ := hok
      exact k_upd s (.inr e) h1 h2 h3 hg hp
    · cases hok
end
end Go.Am
