/- Kind by kind: bytes and strings, fields, slices of slices, made rows. -/
import Derived.Test.YtflfnkdhmcfjlaaKindc
namespace Go.Am
open Go

section
variable {P : Program} {src : Nat → Nat} {fr : Fr} {g : Gh} {st : St} {a : Act} {w : World} {h : Nat} {d : D} {o : Oper}

theorem encode_small {n : Int} (h0 : 0 ≤ n) (h1 : n < 128) : Utf8.encode n = ⟨#[UInt8.ofNat n.toNat]⟩ := by
  have hv : Utf8.valid n = true := by simp [Utf8.valid]; omega
  have : n.toNat < 0x80 := by omega
  simp [Utf8.encode, hv, this]

theorem k_cvs (s : Sim fr g st a w) {os : List O} {vs : List V} {x : Operand} {S T : TypeId} (hop : o.op = .convert S T x) (hS : (P.underlying S).isSome = true) (hT : P.underlying T = some .string) (hok : okOs os [x] = true) (hv : isVs os = true) (hg : getOs st os = some vs) {p : Plan} (hp : plan .cvs vs = some p) :
    PlanRun src fr g st a w h d ((execOp a.eval o).run P w) p := by
  obtain ⟨v, rfl, r⟩ := one_val s hok hv hg
  obtain ⟨S', hS'⟩ := Option.isSome_iff_exists.1 hS
  simp only [plan, plan_cvs] at hp
  split at hp
  · rename_i k n e
    simp at e
    subst e
    split at hp
    · rename_i hn
      cases hp
      have e1 := r.int_inv
      refine PR_ret (x := .string ⟨#[UInt8.ofNat n.toNat]⟩) ?_ (.of_img (.pure (.str ⟨#[UInt8.ofNat n.toNat]⟩)))
      simp [execOp, hop, e1, convert, run_underlying hS', run_underlying hT, Conv.intToString, encode_small hn.1 hn.2]
    · cases hp
  · cases hp

def isStr (P : Program) (T : TypeId) : Bool := match P.underlying T with | some .string => true | _ => false
def isInt (P : Program) (T : TypeId) (k : IntKind) : Bool := match P.underlying T with | some (.int k') => decide (k' = k) | _ => false
def isBool (P : Program) (T : TypeId) : Bool := match P.underlying T with | some .bool => true | _ => false
theorem isStr_spec {T : TypeId} (h : isStr P T = true) : P.underlying T = some .string := by
  unfold isStr at h; split at h
  · assumption
  · cases h
theorem isBool_spec {T : TypeId} (h : isBool P T = true) : P.underlying T = some .bool := by
  unfold isBool at h; split at h
  · assumption
  · cases h
theorem isInt_spec {T : TypeId} {k : IntKind} (h : isInt P T k = true) : P.underlying T = some (.int k) := by
  unfold isInt at h; split at h
  · rename_i k' hu; rw [hu, of_decide_eq_true h]
  · cases h

def okBts (P : Program) (S T : TypeId) : Bool :=
  (match P.underlying S with
  | some (.slice e) => isInt P e .u8
  | _ => false) && isStr P T

theorem bytesOf_ints : ∀ {zs : List V} {bs : List UInt8}, bytesOf zs = some bs → ∃ ns : List Int, zs = ns.map (V.int .u8) ∧ bs = ns.map fun n => UInt8.ofNat n.toNat := by
  intro zs
  induction zs with
  | nil => intro bs hbs; cases hbs; exact ⟨[], rfl, rfl⟩
  | cons z zs ih =>
    intro bs hbs
    have : ∃ n, z = .int .u8 n := by
      cases z <;> try (cases hbs; done)
      rename_i k n
      cases k <;> try (cases hbs; done)
      exact ⟨n, rfl⟩
    obtain ⟨n, rfl⟩ := this
    simp only [bytesOf, Option.map_eq_some_iff] at hbs
    obtain ⟨bs', h1, rfl⟩ := hbs
    obtain ⟨ns, h2, h3⟩ := ih h1
    exact ⟨n :: ns, by simp [h2], by simp [h3]⟩

theorem foldl_push : ∀ (ns : List Int) (r : ByteArray), ns.foldl (fun r n => r.push (UInt8.ofNat n.toNat)) r = ⟨r.data ++ (ns.map fun n => UInt8.ofNat n.toNat).toArray⟩
  | [], r => by simp
  | n :: ns, r => by
    simp only [List.foldl_cons]
    rw [foldl_push ns]
    simp [ByteArray.push]

theorem k_bts (s : Sim fr g st a w) {os : List O} {vs : List V} {x : Operand} {S T : TypeId} (hop : o.op = .convert S T x) (hT : okBts P S T = true) (hok : okOs os [x] = true) (hv : isVs os = true) (hg : getOs st os = some vs) {p : Plan} (hp : plan .bts vs = some p) :
    PlanRun src fr g st a w h d ((execOp a.eval o).run P w) p := by
  obtain ⟨v, rfl, r⟩ := one_val s hok hv hg
  unfold okBts at hT
  simp only [Bool.and_eq_true] at hT
  obtain ⟨hS, hT⟩ := hT
  replace hT := isStr_spec hT
  split at hS
  · rename_i e0 hS0
    replace hS := isInt_spec hS
    simp only [plan, plan_bts] at hp
    split at hp
    · rename_i e
      simp at e
      subst e
      cases hp
      refine PR_ret (x := .string ⟨#[]⟩) ?_ (.of_img (.pure (.str ⟨#[]⟩)))
      simp [execOp, hop, r.nil_inv, run_convert_bytes_string w S T e0 _ _ _ hS0 hS hT, Conv.bytesToString]
      rfl
    · rename_i sv hh oo l e
      simp at e
      subst e
      cases hp
      intro B u hB hu
      cases B with
      | map _ => cases hu
      | row S' es =>
        simp only at hu
        split at hu
        · rename_i hfit0
          simp only [Option.map_eq_some_iff] at hu
          obtain ⟨bs, hbs, rfl⟩ := hu
          obtain ⟨ns, hes, rfl⟩ := bytesOf_ints hbs
          have hlen : ns.length = l := by
            have := congrArg List.length hes
            simp at this
            omega
          refine ⟨.string ⟨(ns.map fun n => UInt8.ofNat n.toNat).toArray⟩, ?_, .pure (.str ⟨(ns.map fun n => UInt8.ofNat n.toNat).toArray⟩)⟩
          have fin : ∀ {ad : Addr} {cap : Nat}, a.eval x = .slice (some ad) l cap → (∀ (j : Nat) (n : Int), ns[j]? = some n → w.cell? (ad.add j) = some (.int .u8 n)) →
              (execOp a.eval o).run P w = .ok (.value (.string ⟨(ns.map fun n => UInt8.ofNat n.toNat).toArray⟩)) w := by
            intro ad cap e1 hcell
            have hld : (loadCells ad l).run P w = .ok (ns.map (Value.int .u8)).toArray w := by
              have := run_loadCells_list (P := P) w ad (ns.map (Value.int .u8)) (fun j v hj => by
                simp only [List.getElem?_map, Option.map_eq_some_iff] at hj
                obtain ⟨n, hn, rfl⟩ := hj
                exact hcell j n hn)
              simpa [hlen] using this
            have e2 := run_bytesToString (P := P) w ad l cap ns hld
            rw [foldl_push] at e2
            have he0 : ByteArray.empty.data = #[] := rfl
            rw [he0] at e2
            simp [execOp, hop, e1, run_convert_bytes_string w S T e0 _ _ _ hS0 hS hT, e2]
          rcases r.row_inv with ⟨loc, cap, hφ, hsz, hlc, hlim, e1⟩ | ⟨h0, ad, e1⟩
          · refine fin e1 fun j n hj => ?_
            obtain ⟨loc', e2, hBk, _, _⟩ := s.mem.blk hh _ hB
            rw [hφ] at e2; cases e2
            obtain ⟨hS', hfit, cs, T0, hb, hcs, hc⟩ := hBk
            have h1 : ((es.drop oo).take l)[j]? = some (.int .u8 n) := by rw [hes]; simp [hj]
            have h2 : es[oo + j]? = some (.int .u8 n) := by
              rw [List.getElem?_take] at h1
              split at h1
              · rw [List.getElem?_drop] at h1; exact h1
              · cases h1
            have hs1 : S' = 1 := by
              have := hc.1 _ (List.mem_of_getElem? h2)
              simpa [V.cells] using this.symm
            obtain ⟨y, h3, h4, h5⟩ := hc.2 (oo + j) 0 _ (.int .u8 n) h2 rfl
            rw [h5.int_inv] at h3
            rw [add_at, cell_of_row w loc.b _ cs T0 (0, 0) hb]
            rw [← h3, hS', hs1]
            congr 1
            omega
          · subst h0
            refine fin e1 fun j n hj => ?_
            have : ns = [] := List.length_eq_zero_iff.1 hlen
            subst this
            simp at hj
        · cases hu
    · cases hp
  · cases hS

theorem k_six (s : Sim fr g st a w) {os : List O} {vs : List V} {x y : Operand} {T : TypeId} (hop : o.op = .index T x y) (hT : P.underlying T = some .string) (hok : okOs os [x, y] = true) (hv : isVs os = true) (hg : getOs st os = some vs) {p : Plan} (hp : plan .six vs = some p) :
    PlanRun src fr g st a w h d ((execOp a.eval o).run P w) p := by
  obtain ⟨v, u, rfl, r1, r2⟩ := two_vals s hok hv hg
  simp only [plan, plan_six] at hp
  split at hp
  · rename_i l k i e
    simp at e
    obtain ⟨rfl, rfl⟩ := e
    split at hp
    · rename_i h0
      simp only [nth_eq, Option.map_eq_some_iff] at hp
      obtain ⟨c, hc, rfl⟩ := hp
      obtain ⟨b, e1, rfl⟩ := r1.str_inv
      have e2 := r2.int_inv
      have hb : b[i.toNat]? = some c := by
        have hlt : i.toNat < b.data.toList.length := by
          rcases Nat.lt_or_ge i.toNat b.data.toList.length with h | h
          · exact h
          · rw [List.getElem?_eq_none h] at hc; cases hc
        have hlt' : i.toNat < b.size := by
          have h1 : b.size = b.data.toList.length := (Array.length_toList (xs := b.data)).symm
          omega
        rw [List.getElem?_eq_getElem hlt] at hc
        rw [getElem?_pos b i.toNat hlt']
        simp at hc
        rw [← hc]
        rfl
      exact PR_ret (x := .int .u8 c.toNat) (by simp [execOp, hop, e1, e2, Instr.index, asIntOf, run_underlying hT, h0, hb]) (.of_img (.pure (.int _ _)))
    · cases hp
  · cases hp

theorem part_img {T : TypeId} {agg : Bool} {off sz : Nat} {v u : V} {cs : Array Value} {x : Value} (hx : x = .agg cs) (ha : aggOf P T = some agg) (hs : agg = true → szOf P T = some sz) (hi : Img g w v x) (hu : getC agg off sz v = some u) :
    ∃ y, (part T cs off).run P w = .ok y w ∧ Img g w u y := by
  subst hx
  have hcells := hi.cells
  have hc2 : (Value.agg cs).cells = cs := rfl
  rw [hc2] at hcells
  unfold getC at hu
  cases agg with
  | false =>
    simp only [Bool.false_eq_true, if_false, nth_eq] at hu
    have hlt : off < cs.size := by
      rw [← hcells.1]
      rcases Nat.lt_or_ge off v.cells.length with h | h
      · exact h
      · rw [List.getElem?_eq_none h] at hu; cases hu
    have hy : cs[off]? = some cs[off] := by simp [hlt]
    exact ⟨cs[off], by simp [part, run_isAgg' ha, hlt], hcells.2 off u _ hu hy⟩
  | true =>
    simp only [if_true] at hu
    split at hu
    · rename_i hl
      cases hu
      refine ⟨.agg (cs.extract off (off + sz)), by simp [part, run_isAgg' ha, run_sizeOf' (hs rfl)], ?_⟩
      have hone : ∀ y ∈ cs, y.oneCell' = true := by
        cases hi with
        | pure hi => cases hi with | agg _ vs h1 h2 h3 => exact fun y hy => h2 y (by simpa using hy)
        | agg _ vs h1 h2 h3 => exact fun y hy => h2 y (by simpa using hy)
      have : cs.extract off (off + sz) = ((cs.toList.drop off).take sz).toArray := by
        apply Array.ext'
        simp
      rw [this]
      refine .agg _ _ (by simp; omega) (fun y hy => hone y (by simpa using List.mem_of_mem_drop (List.mem_of_mem_take hy))) (fun i c y hc hy => ?_)
      rw [List.getElem?_take] at hc hy
      split at hc
      · rename_i hi'
        rw [if_pos hi'] at hy
        rw [List.getElem?_drop] at hc hy
        exact hcells.2 (off + i) c y hc (by simpa using hy)
      · cases hc
    · cases hu

def okFld (P : Program) (T : TypeId) (i : Nat) (agg : Bool) (off sz : Nat) : Bool :=
  match P.underlying T with
  | some (.struct fs) => match fs[i]? with
    | some f => decide (f.offset = off) && decide (aggOf P f.type = some agg) && (!agg || decide (szOf P f.type = some sz))
    | none => false
  | _ => false

theorem k_fld (s : Sim fr g st a w) {os : List O} {vs : List V} {x : Operand} {T : TypeId} {i : Nat} {agg : Bool} {off sz : Nat} (hop : o.op = .field T x i) (hT : okFld P T i agg off sz = true) (hok : okOs os [x] = true) (hv : isVs os = true) (hg : getOs st os = some vs) {p : Plan} (hp : plan (.fld agg off sz) vs = some p) :
    PlanRun src fr g st a w h d ((execOp a.eval o).run P w) p := by
  obtain ⟨v, rfl, r⟩ := one_val s hok hv hg
  unfold okFld at hT
  split at hT
  · rename_i fs hu
    split at hT
    · rename_i f hf
      simp only [Bool.and_eq_true, decide_eq_true_eq, Bool.or_eq_true, Bool.not_eq_true'] at hT
      obtain ⟨⟨h1, h2⟩, h3⟩ := hT
      simp only [plan, plan_fld] at hp
      split at hp
      rotate_left
      · cases hp
      rename_i cs e
      simp at e
      subst e
      simp only [Option.map_eq_some_iff] at hp
      obtain ⟨u, hu', rfl⟩ := hp
      obtain ⟨ys, e1, _⟩ := r.agg_inv
      obtain ⟨y, h4, h5⟩ := part_img (P := P) (T := f.type) e1 h2 (fun e => by
        rcases h3 with h | h
        · rw [e] at h; cases h
        · exact h) r hu'
      refine PR_ret (x := y) ?_ (.of_img h5)
      simp [execOp, hop, e1, Instr.field, run_underlying hu, hf, asAgg, h1, h4]
    · cases hT
  · cases hT
end
end Go.Am
