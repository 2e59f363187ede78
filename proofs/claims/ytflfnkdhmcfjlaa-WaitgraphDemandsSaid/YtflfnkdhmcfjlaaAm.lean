/- The abstract machine of this seat's proofs: a functional evaluator over values and an abstract memory; definitions alone. -/
import GoSem.Core.Code
import GoSem.Op.IntArith
import GoSem.Op.Shift
import Derived.IntWalk
namespace Go.Am

/-- A value of the abstract machine: slices that nobody writes are lists, others name a block of the abstract memory. -/
inductive V where
  | und
  | int (k : IntKind) (n : Int)
  | bool (b : Bool)
  | str (s : List UInt8)
  | nil
  | nilp
  | lst (p : Bool) (sz : Nat) (xs : List V)
  | row (s h o l : Nat)
  | ptr (h i off : Nat)
  | loc (t off : Nat)
  | imm (e : V) (off : Nat)
  | agg (cs : List V)
  | tup (vs : List V)
  | map (h : Nat)
  | fn (f : Nat) (caps : List V)
  deriving Inhabited

inductive Blk where
  | row (sz : Nat) (es : List V)
  | map (es : List (V × V))
  deriving Inhabited

structure Mem where
  blk : Nat → Option Blk
  next : Nat

noncomputable def Mem.set (m : Mem) (h : Nat) (b : Option Blk) : Mem := ⟨fun i => if i = h then b else m.blk i, m.next⟩
noncomputable def Mem.bump (m : Mem) (n : Nat) : Mem := ⟨m.blk, m.next + n⟩

inductive O where
  | t (i : Nat)
  | k (v : V)
  | b (i : Nat)
  | a (i : Nat)
  deriving Inhabited

inductive D where
  | e (d : Nat)
  | a (d : Nat)
  | x (d : Nat)
  | n
  deriving Inhabited

inductive K where
  | mv | pmv | pick
  | bin (op : BinOp)
  | bq (ne : Bool) | sq (ne : Bool) | aq (ne : Bool) (ks : List Nat) | nq (ne : Bool)
  | sadd
  | not
  | cvt (k : IntKind) | cvs | bts
  | ext (i : Nat)
  | len (str : Bool) | mx | mn
  | bld (zero : List V) (pl : List (Nat × Nat))
  | lit (sz n : Nat) (zero : V) (ix : List Nat)
  | hlit (sz n : Nat) (zero : V) (ix : List Nat)
  | six
  | fld (agg : Bool) (off sz : Nat)
  | sl (sz : Nat) (lo hi mx : Bool)
  | fa (off : Nat) | ia (sz : Nat) | iaa (n sz : Nat) | nc
  | ld (agg : Bool) (sz : Nat) | st (sz : Nat)
  | box | hbox (sz : Nat) | mk (sz : Nat) (zero : V)
  | app (sz : Nat) | cpy (sz : Nat)
  | call (f : Nat) | callv | mkf (f : Nat)
  | mkm | look (arr ok : Bool) (zero : V) | upd (arr : Bool)
  | frz (sz : Nat)
  deriving Inhabited

noncomputable def K.allocs : K → Bool
  | .hlit .. | .hbox _ | .mk .. | .app _ | .mkm => true
  | _ => false

structure Op where
  d : D
  k : K
  os : List O
  g : Option (Nat × Bool) := none
  deriving Inhabited

abbrev Env := List (Nat × V)
noncomputable def Env.get (e : Env) (i : Nat) : Option V := List.rec none (fun p _ ih => cond (Nat.beq p.1 i) (some p.2) ih) e
theorem Env.get_nil (i : Nat) : Env.get [] i = none := rfl
theorem Env.get_cons (t i : Nat) (v : V) (e : Env) : Env.get ((t, v) :: e) i = if t = i then some v else Env.get e i := by
  show cond (Nat.beq t i) _ _ = _
  by_cases h : t = i
  · subst h; simp
  · have : Nat.beq t i = false := by
      cases hb : Nat.beq t i with
      | true => exact absurd (Nat.eq_of_beq_eq_true hb) h
      | false => rfl
    rw [this, if_neg h]; rfl

structure St where
  env : Env
  bx : Env
  ad : Env
  mem : Mem

noncomputable def getO (st : St) : O → Option V
  | .t i => st.env.get i
  | .k v => some v
  | .b i => match st.bx.get i with
    | some _ => some (.loc i 0)
    | none => none
  | .a i => st.ad.get i

noncomputable def getOs (st : St) (os : List O) : Option (List V) :=
  List.rec (some []) (fun o _ ih => Option.rec none (fun v => Option.rec none (fun vs => some (v :: vs)) ih) (getO st o)) os

inductive Plan where
  | ret (v : V)
  | rd (h : Nat) (f : Blk → Option V)
  | wr (h : Nat) (f : Blk → Option Blk) (v : V)
  | rdb (t : Nat) (f : V → Option V)
  | wrb (t : Nat) (f : V → Option V)
  | bx (e : V)
  | alloc (b : Blk) (g : Nat → V)
  | app (d : Option (Nat × Nat × Nat)) (sz : Nat) (src : V)
  | cpy (s h o l : Nat) (src : V)
  | call (f : Nat) (args : List V)
  | frz (t sz : Nat)

/-- The size that a list is marked with: none, if it is empty. -/
noncomputable def nz (sz : Nat) (xs : List V) : Nat := List.rec 0 (fun _ _ _ => sz) xs
noncomputable def V.ro (p : Bool) (sz : Nat) (xs : List V) : V := .lst p (nz sz xs) xs

/-- The i-th of a list. -/
noncomputable def nth {α : Type} (xs : List α) : Nat → Option α :=
  List.rec (fun _ => none) (fun x _ ih i => Nat.rec (some x) (fun j _ => ih j) i) xs
theorem nth_eq {α : Type} (xs : List α) (i : Nat) : nth xs i = xs[i]? := by
  induction xs generalizing i with
  | nil => rfl
  | cons x xs ih => cases i with
    | zero => rfl
    | succ i => exact ih i

noncomputable def V.cells : V → List V
  | .agg cs => cs
  | v => [v]

noncomputable def getC (agg : Bool) (off sz : Nat) (e : V) : Option V :=
  if agg then (if off + sz ≤ e.cells.length then some (.agg ((e.cells.drop off).take sz)) else none) else nth e.cells off

noncomputable def V.one : V → Bool
  | .agg _ | .tup _ | .und | .loc _ _ | .imm _ _ => false
  | _ => true

noncomputable def V.ones : V → Bool
  | .agg cs => cs.all V.one
  | v => v.one

noncomputable def setC (off sz : Nat) (v : V) (e : V) : Option V :=
  if v.ones && (v.cells.length == sz) then
    match e with
    | .agg cs => if off + sz ≤ cs.length then some (.agg (cs.take off ++ v.cells ++ cs.drop (off + sz))) else none
    | _ => match v with
      | .agg _ => none
      | _ => if off = 0 then some v else none
  else none

/-- Keys of a map: strings, or two numbers. -/
noncomputable def keyIs : Bool → V → Bool
  | false, .str _ => true
  | true, .agg [.int .i64 _, .int .i64 _] => true
  | _, _ => false

noncomputable def keyEq : V → V → Option Bool
  | .str a, .str b => some (a == b)
  | .agg [.int .i64 a, .int .i64 b], .agg [.int .i64 c, .int .i64 d] => some (a == c && b == d)
  | _, _ => none

noncomputable def lookKey (k : V) : List (V × V) → Option (Option V)
  | [] => some none
  | (k', v) :: es => match keyEq k k' with
    | some true => some (some v)
    | some false => lookKey k es
    | none => none

noncomputable def setKey (k v : V) : List (V × V) → Option (List (V × V))
  | [] => some [(k, v)]
  | (k', v') :: es => match keyEq k k' with
    | some true => some ((k, v) :: es)
    | some false => (setKey k v es).map ((k', v') :: ·)
    | none => none

noncomputable def smallNat (m : Nat) : Bool := Nat.blt m 9223372036854775808
theorem smallNat_spec {m : Nat} (h : smallNat m = true) : (m : Int) ≤ 9223372036854775807 := by
  have : m ≤ 9223372036854775807 := by simpa [smallNat, Nat.blt] using h
  omega

/-- 'wrap', quick at small numbers of the kind int. -/
noncomputable def wrapF (k : IntKind) (n : Int) : Int :=
  IntKind.rec (motive := fun _ => Int) (k.wrap n) (k.wrap n) (k.wrap n)
    (Int.rec (motive := fun _ => Int) (fun m => cond (smallNat m) (.ofNat m) (k.wrap n))
      (fun m => cond (smallNat m) (.negSucc m) (k.wrap n)) n)
    (k.wrap n) (k.wrap n) (k.wrap n) (k.wrap n) k

theorem wrapF_eq (k : IntKind) (n : Int) : wrapF k n = k.wrap n := by
  cases k <;> try rfl
  cases n with
  | ofNat m =>
    show cond (smallNat m) (Int.ofNat m) (IntKind.i64.wrap (Int.ofNat m)) = _
    cases h : smallNat m with
    | false => exact Bool.cond_false
    | true =>
      rw [Bool.cond_true]
      have hm := smallNat_spec h
      have e : Int.ofNat m = (m : Int) := rfl
      rw [e]
      exact (IntWalk.i64_in (m : Int) ⟨by omega, by omega⟩).symm
  | negSucc m =>
    show cond (smallNat m) (Int.negSucc m) (IntKind.i64.wrap (Int.negSucc m)) = _
    cases h : smallNat m with
    | false => exact Bool.cond_false
    | true =>
      rw [Bool.cond_true]
      have hm := smallNat_spec h
      have e : Int.negSucc m = -((m : Int) + 1) := Int.negSucc_eq m
      rw [e]
      exact (IntWalk.i64_in (-((m : Int) + 1)) ⟨by omega, by omega⟩).symm

noncomputable def intOp (op : BinOp) (k : IntKind) (a b : Int) : Option V :=
  match op with
  | .add => some (.int k (wrapF k (a + b)))
  | .sub => some (.int k (wrapF k (a - b)))
  | .mul => some (.int k (wrapF k (a * b)))
  | .quo => if b = 0 then none else some (.int k (wrapF k (a.tdiv b)))
  | .rem => if b = 0 then none else some (.int k (a.tmod b))
  | .and => some (.int k (k.wrap ((BitVec.ofInt k.bits a &&& BitVec.ofInt k.bits b).toNat)))
  | .eql => some (.bool (a == b))
  | .neq => some (.bool (a != b))
  | .lss => some (.bool (decide (a < b)))
  | .leq => some (.bool (decide (a ≤ b)))
  | .gtr => some (.bool (decide (b < a)))
  | .geq => some (.bool (decide (b ≤ a)))
  | _ => none

noncomputable def shrOp (k : IntKind) (a b : Int) : Option V := if b < 0 then none else some (.int k (a.fdiv (2 ^ (min b.toNat k.bits))))

noncomputable def bytesOf : List V → Option (List UInt8)
  | [] => some []
  | .int .u8 n :: vs => (bytesOf vs).map (UInt8.ofNat n.toNat :: ·)
  | _ => none

/-- The parts of a literal, laid over zero cells. -/
noncomputable def fillC : List (Nat × Nat) → List V → List V → Option (List V)
  | [], [], z => some z
  | (off, sz) :: pl, v :: vs, z =>
    if v.ones && (v.cells.length == sz) && decide (off + sz ≤ z.length) then fillC pl vs (z.take off ++ v.cells ++ z.drop (off + sz)) else none
  | _, _, _ => none

noncomputable def fillE (sz : Nat) : List Nat → List V → List V → Option (List V)
  | [], [], z => some z
  | i :: ix, v :: vs, z => if v.ones && (v.cells.length == sz) && decide (i < z.length) then fillE sz ix vs (z.set i v) else none
  | _, _, _ => none

noncomputable def optBound (present : Bool) (vs : List V) (dflt : Nat) : Option (Nat × List V) :=
  if present then
    match vs with
    | .int _ n :: vs => if 0 ≤ n then some (n.toNat, vs) else none
    | _ => none
  else some (dflt, vs)

noncomputable def slOf (sz : Nat) (x : V) (lo hi : Nat) : Option V :=
  if lo ≤ hi then
    match x with
    | .nil => if hi = 0 then some .nil else none
    | .lst p s xs => if hi ≤ xs.length ∧ (s = sz ∨ xs.length = 0) then some (.ro p s ((xs.drop lo).take (hi - lo))) else none
    | .row s h o l => if hi ≤ l ∧ s = sz then some (.row s h (o + lo) (hi - lo)) else none
    | _ => none
  else none

noncomputable def lenOf : V → Option Nat
  | .nil => some 0
  | .lst _ _ xs => some xs.length
  | .row _ _ _ l => some l
  | _ => none

noncomputable def big : Nat := 2147483648

noncomputable def binPlan (op : BinOp) (k : IntKind) (a : Int) (k' : IntKind) (b : Int) : Option Plan :=
  match op with
  | .shr => (shrOp k a b).map .ret
  | op => if k = k' then (intOp op k a b).map .ret else none
noncomputable def plan_mv : List V → Option Plan
  | [v] => some (.ret v)
  | _ => none
noncomputable def plan_pmv : List V → Option Plan
  | [.ptr h i o] => some (.ret (.ptr h i o))
  | _ => none
noncomputable def plan_pick : List V → Option Plan
  | [.bool c, a, b] => some (.ret (if c then a else b))
  | _ => none
noncomputable def plan_bin (op : BinOp) : List V → Option Plan
  | [.int k a, .int k' b] => binPlan op k a k' b
  | _ => none
noncomputable def plan_bq (ne : Bool) : List V → Option Plan
  | [.bool a, .bool b] => some (.ret (.bool (if ne then a != b else a == b)))
  | _ => none
noncomputable def plan_sq (ne : Bool) : List V → Option Plan
  | [.str a, .str b] => some (.ret (.bool (if ne then a != b else a == b)))
  | _ => none
/-- Equality of two cells of a kind: 0 a number, 1 a bool, 2 a string. -/
noncomputable def eqK : Nat → V → V → Option Bool
  | 0, .int k a, .int k' b => if k = k' then some (a == b) else none
  | 1, .bool a, .bool b => some (a == b)
  | 2, .str a, .str b => some (a == b)
  | _, _, _ => none

noncomputable def eqKs : List Nat → List V → List V → Option Bool
  | [], [], [] => some true
  | k :: ks, a :: as, b :: bs => match eqK k a b with
    | some true => eqKs ks as bs
    | some false => some false
    | none => none
  | _, _, _ => none

noncomputable def plan_aq (ne : Bool) (ks : List Nat) : List V → Option Plan
  | [.agg a, .agg b] => (eqKs ks a b).map fun r => .ret (.bool (if ne then !r else r))
  | _ => none
noncomputable def plan_nq (ne : Bool) : List V → Option Plan
  | [.nil, .nil] => some (.ret (.bool (!ne)))
  | [.row _ _ _ _, .nil] => some (.ret (.bool ne))
  | [.lst _ _ (_ :: _), .nil] => some (.ret (.bool ne))
  | _ => none
noncomputable def plan_sadd : List V → Option Plan
  | [.str a, .str b] => if a.length + b.length < big then some (.ret (.str (a ++ b))) else none
  | _ => none
noncomputable def plan_not : List V → Option Plan
  | [.bool a] => some (.ret (.bool (!a)))
  | _ => none
noncomputable def plan_cvt (k : IntKind) : List V → Option Plan
  | [.int _ n] => some (.ret (.int k (k.wrap n)))
  | _ => none
noncomputable def plan_cvs : List V → Option Plan
  | [.int _ n] => if 0 ≤ n ∧ n < 128 then some (.ret (.str [UInt8.ofNat n.toNat])) else none
  | _ => none
noncomputable def plan_bts : List V → Option Plan
  | [.nil] => some (.ret (.str []))
  | [.row _ h o l] => some (.rd h fun b => match b with
    | .row _ es => if o + l ≤ es.length then (bytesOf ((es.drop o).take l)).map .str else none
    | _ => none)
  | _ => none
noncomputable def plan_ext (i : Nat) : List V → Option Plan
  | [.tup vs] => (nth vs i).map .ret
  | _ => none
noncomputable def plan_len (str : Bool) : List V → Option Plan
  | [.str s] => if str then some (.ret (.int .i64 (s.length : Int))) else none
  | [x] => if str then none else
    match lenOf x with
    | some n => some (.ret (.int .i64 (n : Int)))
    | none => none
  | _ => none
noncomputable def plan_mx : List V → Option Plan
  | [.int k a, .int _ b] => some (.ret (.int k (if b > a then b else a)))
  | _ => none
noncomputable def plan_mn : List V → Option Plan
  | [.int k a, .int _ b] => some (.ret (.int k (if b < a then b else a)))
  | _ => none
noncomputable def plan_bld (z : List V) (pl : List (Nat × Nat)) : List V → Option Plan
  | vs => (fillC pl vs z).map fun cs => .ret (.agg cs)
noncomputable def plan_lit (sz : Nat) (n : Nat) (z : V) (ix : List Nat) : List V → Option Plan
  | vs => (fillE sz ix vs (List.replicate n z)).map fun es => .ret (.lst false sz es)
noncomputable def plan_hlit (sz : Nat) (n : Nat) (z : V) (ix : List Nat) : List V → Option Plan
  | vs => (fillE sz ix vs (List.replicate n z)).map fun es => .alloc (.row sz es) fun h => .row sz h 0 n
noncomputable def plan_six : List V → Option Plan
  | [.str s, .int _ i] => if 0 ≤ i then (nth s i.toNat).map fun c => .ret (.int .u8 c.toNat) else none
  | _ => none
noncomputable def plan_fld (agg : Bool) (off : Nat) (sz : Nat) : List V → Option Plan
  | [.agg cs] => (getC agg off sz (.agg cs)).map .ret
  | _ => none
noncomputable def plan_sl (sz : Nat) (lo : Bool) (hi : Bool) (mx : Bool) : List V → Option Plan
  | x :: vs =>
    if mx then none else
    match lenOf x with
    | none => none
    | some n => match optBound lo vs 0 with
      | none => none
      | some (l, vs) => match optBound hi vs n with
        | some (h, []) => (slOf sz x l h).map .ret
        | _ => none
  | _ => none
noncomputable def plan_fa (off : Nat) : List V → Option Plan
  | [.ptr h i o] => some (.ret (.ptr h i (o + off)))
  | [.imm e o] => some (.ret (.imm e (o + off)))
  | [.loc t o] => some (.ret (.loc t (o + off)))
  | _ => none
noncomputable def plan_ia (sz : Nat) : List V → Option Plan
  | [.row s h o l, .int _ i] => if 0 ≤ i ∧ i < l ∧ s = sz then some (.ret (.ptr h (o + i.toNat) 0)) else none
  | [.lst _ s xs, .int _ i] => if 0 ≤ i ∧ s = sz then (nth xs i.toNat).map fun e => .ret (.imm e 0) else none
  | _ => none
noncomputable def plan_iaa (n : Nat) (sz : Nat) : List V → Option Plan
  | [.ptr h i o, .int _ j] => if 0 ≤ j ∧ j < n then some (.ret (.ptr h i (o + j.toNat * sz))) else none
  | [.imm e o, .int _ j] => if 0 ≤ j ∧ j < n then some (.ret (.imm e (o + j.toNat * sz))) else none
  | [.loc t o, .int _ j] => if 0 ≤ j ∧ j < n then some (.ret (.loc t (o + j.toNat * sz))) else none
  | _ => none
noncomputable def plan_nc : List V → Option Plan
  | [.ptr h i o] => some (.ret (.ptr h i o))
  | [.imm e o] => some (.ret (.imm e o))
  | [.loc t o] => some (.ret (.loc t o))
  | [.fn f cs] => some (.ret (.fn f cs))
  | _ => none
noncomputable def plan_ld (agg : Bool) (sz : Nat) : List V → Option Plan
  | [.imm e o] => (getC agg o sz e).map .ret
  | [.ptr h i o] => some (.rd h fun b => match b with
    | .row _ es => match nth es i with
      | some e => getC agg o sz e
      | none => none
    | _ => none)
  | [.loc t o] => some (.rdb t (getC agg o sz))
  | _ => none
noncomputable def plan_st (sz : Nat) : List V → Option Plan
  | [.ptr h i o, v] => some (.wr h (fun b => match b with
    | .row s es => match nth es i with
      | some e => (setC o sz v e).map fun e' => .row s (es.set i e')
      | none => none
    | _ => none) .und)
  | [.loc t o, v] => some (.wrb t (setC o sz v))
  | _ => none
noncomputable def plan_box : List V → Option Plan
  | [v] => if v.ones then some (.bx v) else none
  | _ => none
noncomputable def plan_hbox (sz : Nat) : List V → Option Plan
  | [v] => if v.ones && (v.cells.length == sz) then some (.alloc (.row sz [v]) fun h => .ptr h 0 0) else none
  | _ => none
noncomputable def plan_mk (sz : Nat) (z : V) : List V → Option Plan
  | [.int _ n] => if 0 ≤ n ∧ n < big then some (.alloc (.row sz (List.replicate n.toNat z)) fun h => .row sz h 0 n.toNat) else none
  | _ => none
noncomputable def plan_app (sz : Nat) : List V → Option Plan
  | [.nil, x] => some (.app none sz x)
  | [.row s h o l, x] => if s = sz then some (.app (some (h, o, l)) sz x) else none
  | _ => none
noncomputable def plan_cpy (sz : Nat) : List V → Option Plan
  | [.row s h o l, x] => if s = sz then some (.cpy sz h o l x) else none
  | _ => none
noncomputable def plan_call (f : Nat) : List V → Option Plan
  | vs => some (.call f vs)
noncomputable def plan_callv : List V → Option Plan
  | .fn f cs :: vs => if f < 1000 then some (.call f (vs ++ cs)) else none
  | _ => none
noncomputable def plan_mkf (f : Nat) : List V → Option Plan
  | vs => some (.ret (.fn f vs))
noncomputable def plan_mkm : List V → Option Plan
  | [] => some (.alloc (.map []) .map)
  | _ => none
noncomputable def plan_look (arr ok : Bool) (z : V) : List V → Option Plan
  | [.map h, k] => if keyIs arr k then some (.rd h fun b => match b with
    | .map es => (lookKey k es).map fun r => match r, ok with
      | some v, true => .tup [v, .bool true]
      | none, true => .tup [z, .bool false]
      | some v, false => v
      | none, false => z
    | _ => none) else none
  | _ => none
noncomputable def plan_upd (arr : Bool) : List V → Option Plan
  | [.map h, k, v] => if keyIs arr k && v.one then some (.wr h (fun b => match b with
    | .map es => (setKey k v es).map .map
    | _ => none) .und) else none
  | _ => none
noncomputable def plan_frz (sz : Nat) : List V → Option Plan
  | [.loc t 0] => some (.frz t sz)
  | _ => none
noncomputable def plan : K → List V → Option Plan
  | .mv => plan_mv
  | .pmv => plan_pmv
  | .pick => plan_pick
  | .bin op => plan_bin op
  | .bq ne => plan_bq ne
  | .sq ne => plan_sq ne
  | .aq ne ks => plan_aq ne ks
  | .nq ne => plan_nq ne
  | .sadd => plan_sadd
  | .not => plan_not
  | .cvt k => plan_cvt k
  | .cvs => plan_cvs
  | .bts => plan_bts
  | .ext i => plan_ext i
  | .len str => plan_len str
  | .mx => plan_mx
  | .mn => plan_mn
  | .bld z pl => plan_bld z pl
  | .lit sz n z ix => plan_lit sz n z ix
  | .hlit sz n z ix => plan_hlit sz n z ix
  | .six => plan_six
  | .fld agg off sz => plan_fld agg off sz
  | .sl sz lo hi mx => plan_sl sz lo hi mx
  | .fa off => plan_fa off
  | .ia sz => plan_ia sz
  | .iaa n sz => plan_iaa n sz
  | .nc => plan_nc
  | .ld agg sz => plan_ld agg sz
  | .st sz => plan_st sz
  | .box => plan_box
  | .hbox sz => plan_hbox sz
  | .mk sz z => plan_mk sz z
  | .app sz => plan_app sz
  | .cpy sz => plan_cpy sz
  | .call f => plan_call f
  | .callv => plan_callv
  | .mkf f => plan_mkf f
  | .mkm => plan_mkm
  | .look arr ok z => plan_look arr ok z
  | .upd arr => plan_upd arr
  | .frz sz => plan_frz sz

/-- What a slice shows: its elements' size, and the elements. -/
noncomputable def view (m : Mem) : V → Option (Nat × List V)
  | .nil => some (0, [])
  | .lst _ s xs => some (s, xs)
  | .row s h o l => match m.blk h with
    | some (.row s' es) => if o + l ≤ es.length ∧ s' = s then some (s, (es.drop o).take l) else none
    | _ => none
  | _ => none

noncomputable def put (st : St) : D → V → Option St
  | .e d, v => some { st with env := (d, v) :: st.env }
  | .a d, v => some { st with ad := (d, v) :: st.ad }
  | .n, _ => some st
  | .x _, _ => none

/-- A result made of rows of the call's own, as lists that nobody writes any more. -/
noncomputable def mapO {α β : Type} (f : α → Option β) : List α → Option (List β)
  | [] => some []
  | x :: xs => match f x with
    | none => none
    | some y => match mapO f xs with
      | none => none
      | some ys => some (y :: ys)

noncomputable def freeze (lo : Nat) (m : Mem) : Nat → V → Option V
  | 0, _ => none
  | n + 1, v => match v with
    | .int k n => some (.int k n)
    | .bool b => some (.bool b)
    | .str s => some (.str s)
    | .nil => some (.lst true 0 [])
    | .lst true sz xs => some (.lst true sz xs)
    | .lst false sz xs => (mapO (freeze lo m n) xs).map (.ro true sz)
    | .row s h o l => match m.blk h with
      | some (.row sz es) => if lo ≤ h ∧ o + l ≤ es.length ∧ sz = s then (mapO (freeze lo m n) ((es.drop o).take l)).map (.ro true sz) else none
      | _ => none
    | .agg cs => (mapO (freeze lo m n) cs).map .agg
    | .tup vs => (mapO (freeze lo m n) vs).map .tup
    | _ => none

noncomputable def Mem.kill (m : Mem) (lo : Nat) : Mem := ⟨fun h => if lo ≤ h then none else m.blk h, m.next⟩

/-- Is there an address into box d? -/
noncomputable def hasLoc (d : Nat) (ad : Env) : Bool :=
  List.rec false (fun p _ ih => match p.2 with
    | .loc t _ => cond (Nat.beq t d) true ih
    | _ => ih) ad

abbrev Callk := Nat → List V → Nat → Mem → Option (V × Mem)

noncomputable def act (ck : Callk) (lo h : Nat) (st : St) (d : D) : Plan → Option St
  | .ret v => put st d v
  | .rd h' f => match st.mem.blk h' with
    | none => none
    | some b => match f b with
      | none => none
      | some v => put st d v
  | .wr h' f v => if lo ≤ h' then
      match st.mem.blk h' with
      | none => none
      | some b => match f b with
        | none => none
        | some b' => put { st with mem := st.mem.set h' (some b') } d v
    else none
  | .rdb t f => match st.bx.get t with
    | none => none
    | some e => match f e with
      | none => none
      | some v => put st d v
  | .wrb t f => match st.bx.get t with
    | none => none
    | some e => match f e with
      | none => none
      | some e' => match d with
        | .n => some { st with bx := (t, e') :: st.bx }
        | _ => none
  | .bx e => match d with
    | .x d => if hasLoc d st.ad then none else some { st with bx := (d, e) :: st.bx }
    | _ => none
  | .alloc b g => put { st with mem := st.mem.set h (some b) } d (g h)
  | .app d' sz x => match view st.mem x with
    | none => none
    | some (s, xs) => match d', xs with
      | none, [] => put st d .nil
      | none, y :: ys => if s = sz ∧ (y :: ys).length < big then put { st with mem := st.mem.set h (some (.row sz (y :: ys))) } d (.row sz h 0 (y :: ys).length) else none
      | some (h', o, l), xs => if lo ≤ h' ∧ (s = sz ∨ xs.length = 0) ∧ l + xs.length < big then
          match st.mem.blk h' with
          | some (.row s' es) => if s' = sz ∧ o + l ≤ es.length then
              put { st with mem := (st.mem.set h' none).set h (some (.row sz ((es.drop o).take l ++ xs))) } d (.row sz h 0 (l + xs.length))
            else none
          | _ => none
        else none
  | .cpy sz h' o l x => match view st.mem x with
    | none => none
    | some (s, xs) => if lo ≤ h' then
        match st.mem.blk h' with
        | some (.row s' es) => if (s = sz ∨ xs.length = 0) ∧ s' = sz ∧ o + l ≤ es.length then
            put { st with mem := st.mem.set h' (some (.row s' (es.take o ++ xs.take (min l xs.length) ++ es.drop (o + min l xs.length)))) } d (.int .i64 (min l xs.length : Nat))
          else none
        | _ => none
      else none
  | .call f args => match ck f args lo st.mem with
    | none => none
    | some (v, m) => put { st with mem := m } d v
  | .frz t sz => match st.bx.get t with
    | some (.agg cs) => if cs.length = sz then match freeze lo st.mem 8 (.agg cs) with
        | none => none
        | some v => put { st with bx := (t, v) :: st.bx, mem := st.mem.kill lo } d v
      else none
    | _ => none

noncomputable def exec (ck : Callk) (lo h : Nat) (st : St) (o : Op) : Option St :=
  match getOs st o.os with
  | none => none
  | some vs => match plan o.k vs with
    | none => none
    | some p => act ck lo h st o.d p

noncomputable def skipOp (st : St) : D → Option St
  | .e d => some { st with env := (d, .und) :: st.env }
  | .a d => some { st with ad := (d, .und) :: st.ad }
  | .n => some st
  | .x _ => none

noncomputable def step (ck : Callk) (lo h : Nat) (st : St) (o : Op) : Option St :=
  match o.g with
  | none => exec ck lo h st o
  | some (t, want) => match st.env.get t with
    | some (.bool b) => if b = want then exec ck lo h st o else skipOp st o.d
    | some .und => skipOp st o.d
    | _ => none

noncomputable def runOps (ck : Callk) (lo : Nat) (os : List Op) : St → Option St :=
  List.rec (fun st => some st) (fun o _ ih st => Option.rec none (fun st' => ih (cond o.k.allocs { st' with mem := st'.mem.bump 1 } st')) (step ck lo st.mem.next st o)) os

inductive Key where
  | bx (t : Nat)
  | h (h : Nat)

noncomputable def V.key : V → List Key
  | .row _ h _ _ => [.h h]
  | _ => []

noncomputable def Plan.keys (h : Nat) : Plan → List Key
  | .ret (.loc t _) => [.bx t]
  | .rd h' _ | .wr h' _ _ => [.h h']
  | .rdb t _ | .wrb t _ | .frz t _ => [.bx t]
  | .alloc _ _ => [.h h]
  | .app none _ x => .h h :: x.key
  | .app (some (h', _, _)) _ x => .h h :: .h h' :: x.key
  | .cpy _ h' _ _ x => .h h' :: x.key
  | _ => []

/-- The places that an operation looks at, or changes. -/
noncomputable def keysOf (h : Nat) (st : St) (o : Op) : List Key :=
  (match o.d with | .x t => [.bx t] | _ => []) ++
  match getOs st o.os with
  | none => []
  | some vs => match plan o.k vs with
    | none => []
    | some p => p.keys h

noncomputable def Key.apart : Key → Key → Bool
  | .h a, .h b => decide (a ≠ b)
  | .bx a, .bx b => decide (a ≠ b)
  | _, _ => true

noncomputable def keysApart (as bs : List Key) : Bool := as.all fun a => bs.all fun b => a.apart b

/-- A region whose order is open, in the order of the text; operation i makes block base + i; beside the state the places that the operations look at. -/
noncomputable def runOpsD (ck : Callk) (lo base : Nat) : Nat → List Op → St → Option (St × List (List Key))
  | _, [], st => some (st, [])
  | i, o :: os, st => match step ck lo (base + i) st o with
    | none => none
    | some st' => match runOpsD ck lo base (i + 1) os st' with
      | none => none
      | some (st'', ks) => some (st'', keysOf (base + i) st o :: ks)

noncomputable def pairsOk (ks : List (List Key)) : List (Nat × Nat) → Bool
  | [] => true
  | (i, j) :: ps => (match nth ks i, nth ks j with
    | some a, some b => keysApart a b
    | _, _ => false) && pairsOk ks ps

noncomputable def pick (live : List Nat) (e : Env) : Env :=
  List.rec [] (fun t _ ih => Option.rec ih (fun v => (t, v) :: ih) (e.get t)) live

inductive AC where
  | skip
  | dead
  | reg (ops : List Op) (lv lb : List Nat)
  | dreg (ops : List Op) (ps : List (Nat × Nat)) (lv lb : List Nat)
  | seq (a b : AC)
  | cond (c : O) (a b : AC)
  | block (id : Nat) (b : AC)
  | loop (lv lb : List Nat) (b : AC)
  | exit (id : Nat)
  | ret
  deriving Inhabited

inductive Ex where
  | nrm
  | exit (id : Nat)
  | ret
  deriving DecidableEq

noncomputable def St.cut (st : St) (lv lb : List Nat) : St := ⟨pick lv st.env, pick lb st.bx, [], st.mem⟩

noncomputable def iter (f : St → Option (Ex × St)) (n : Nat) : St → Option (Ex × St) :=
  Nat.rec (fun _ => none) (fun _ ih st => match f st with
    | none => none
    | some (.nrm, st') => ih st'
    | some (.exit i, st') => some (.exit i, st')
    | some (.ret, st') => some (.ret, st')) n

noncomputable def run (ck : Callk) (N lo : Nat) (c : AC) : St → Option (Ex × St) :=
  AC.rec (motive := fun _ => St → Option (Ex × St))
    (fun st => some (.nrm, st))
    (fun _ => none)
    (fun ops lv lb st => match runOps ck lo ops st with
      | none => none
      | some st' => some (.nrm, st'.cut lv lb))
    (fun ops ps lv lb st => match runOpsD ck lo st.mem.next 0 ops { st with mem := st.mem.bump ops.length } with
      | none => none
      | some (st', ks) => if pairsOk ks ps then some (.nrm, st'.cut lv lb) else none)
    (fun _ _ iha ihb st => match iha st with
      | none => none
      | some (.nrm, st') => ihb st'
      | some (.exit i, st') => some (.exit i, st')
      | some (.ret, st') => some (.ret, st'))
    (fun c _ _ iha ihb st => match getO st c with
      | some (.bool c) => cond c (iha st) (ihb st)
      | _ => none)
    (fun id _ ihb st => match ihb st with
      | none => none
      | some (.nrm, st') => some (.nrm, st')
      | some (.exit i, st') => if i = id then some (.nrm, st') else some (.exit i, st')
      | some (.ret, st') => some (.ret, st'))
    (fun lv lb _ ihb st => iter (fun st => ihb (st.cut lv lb)) N st)
    (fun i st => some (.exit i, st))
    (fun st => some (.ret, st)) c

inductive Res where
  | t (i : Nat)
  | c (i : Nat) (agg : Bool) (sz : Nat)
  deriving Inhabited

noncomputable def getR (st : St) : Res → Option V
  | .t i => st.env.get i
  | .c i agg sz => match st.bx.get i with
    | some e => getC agg 0 sz e
    | none => none

noncomputable def getRes (st : St) : List Res → Option (List V)
  | [] => some []
  | r :: rs => match getR st r with
    | none => none
    | some v => match getRes st rs with
      | none => none
      | some vs => some (v :: vs)

noncomputable def resV : List V → V
  | [v] => v
  | vs => .tup vs

/-- A function: its parameters, the temporaries that are addresses and those that are boxes (as numbers, bit by bit), whether it writes nothing of its caller's, its results, its code. -/
structure Fn where
  np : Nat
  am : Nat
  bm : Nat
  pure : Bool
  res : List Res
  body : AC
  deriving Inhabited

noncomputable def initEnv : Nat → List V → Env
  | _, [] => []
  | i, v :: vs => (i, v) :: initEnv (i + 1) vs

noncomputable def call (F : Nat → Option Fn) : Nat → Callk
  | 0, _, _, _, _ => none
  | k + 1, f, args, lo, m => match F f with
    | none => none
    | some fn =>
      if args.length = fn.np then
        match run (call F k) k (if fn.pure then m.next else lo) fn.body ⟨initEnv 0 args, [], [], m⟩ with
        | none => none
        | some (.exit _, _) => none
        | some (_, st) => match getRes st fn.res with
          | none => none
          | some vs => if fn.pure then
              match freeze m.next st.mem 8 (resV vs) with
              | none => none
              | some v => some (v, m)
            else some (resV vs, st.mem)
      else none
end Go.Am
