/- A part of the proof: The law ExploreChecks holds: any state of any system has the specified error, and a step of an invalid one returns it; no conditions. -/
import GoSem.Core.Code
import GoSem.Op.IntArith
import GoSem.Op.Shift
import Derived.IntWalk
import Derived.WalkKit
namespace Go.Am
inductive V where
 | und
 | int (k : IntKind) (n : Int)
 | bool (b : Bool)
 | str (s : List UInt8)
 | nil
 | nilp
 | lst (p : Bool) (sz : Nat) (xs : List V)
 | row (s h o l : Nat)
 | ptr (h i off : Nat)
 | loc (t off : Nat)
 | imm (e : V) (off : Nat)
 | agg (cs : List V)
 | tup (vs : List V)
 | map (h : Nat)
 | fn (f : Nat) (caps : List V)
 deriving Inhabited
inductive Blk where
 | row (sz : Nat) (es : List V)
 | map (es : List (V × V))
 deriving Inhabited
structure Mem where
 blk : Nat → Option Blk
 next : Nat
noncomputable def Mem.set (m : Mem) (h : Nat) (b : Option Blk) : Mem := ⟨fun i => if i = h then b else m.blk i, m.next⟩
noncomputable def Mem.bump (m : Mem) (n : Nat) : Mem := ⟨m.blk, m.next + n⟩
inductive O where
 | t (i : Nat)
 | k (v : V)
 | b (i : Nat)
 | a (i : Nat)
 deriving Inhabited
inductive D where
 | e (d : Nat)
 | a (d : Nat)
 | x (d : Nat)
 | n
 deriving Inhabited
inductive K where
 | mv | pmv | pick
 | bin (op : BinOp)
 | bq (ne : Bool) | sq (ne : Bool) | aq (ne : Bool) (ks : List Nat) | nq (ne : Bool)
 | sadd
 | not
 | cvt (k : IntKind) | cvs | bts
 | ext (i : Nat)
 | len (str : Bool) | mx | mn
 | bld (zero : List V) (pl : List (Nat × Nat))
 | lit (sz n : Nat) (zero : V) (ix : List Nat)
 | hlit (sz n : Nat) (zero : V) (ix : List Nat)
 | six
 | fld (agg : Bool) (off sz : Nat)
 | sl (sz : Nat) (lo hi mx : Bool)
 | fa (off : Nat) | ia (sz : Nat) | iaa (n sz : Nat) | nc
 | ld (agg : Bool) (sz : Nat) | st (sz : Nat)
 | box | hbox (sz : Nat) | mk (sz : Nat) (zero : V)
 | app (sz : Nat) | cpy (sz : Nat)
 | call (f : Nat) | callv | mkf (f : Nat)
 | mkm | look (arr ok : Bool) (zero : V) | upd (arr : Bool)
 | frz (sz : Nat)
 deriving Inhabited
noncomputable def K.allocs : K → Bool
 | .hlit .. | .hbox _ | .mk .. | .app _ | .mkm => true
 | _ => false
structure Op where
 d : D
 k : K
 os : List O
 g : Option (Nat × Bool) := none
 deriving Inhabited
abbrev Env := List (Nat × V)
noncomputable def Env.get (e : Env) (i : Nat) : Option V := List.rec none (fun p _ ih => cond (Nat.beq p.1 i) (some p.2) ih) e
theorem Env.get_nil (i : Nat) : Env.get [] i = none := rfl
theorem Env.get_cons (t i : Nat) (v : V) (e : Env) : Env.get ((t, v) :: e) i = if t = i then some v else Env.get e i := by
 show cond (Nat.beq t i) _ _ = _
 by_cases h : t = i
 ·subst h; simp
 ·have : Nat.beq t i = false := by
   cases hb : Nat.beq t i with
   | true => exact absurd (Nat.eq_of_beq_eq_true hb) h
   | false => rfl
  rw [this, if_neg h]; rfl
structure St where
 env : Env
 bx : Env
 ad : Env
 mem : Mem
noncomputable def getO (st : St) : O → Option V
 | .t i => st.env.get i
 | .k v => some v
 | .b i => match st.bx.get i with
  | some _ => some (.loc i 0)
  | none => none
 | .a i => st.ad.get i
noncomputable def getOs (st : St) (os : List O) : Option (List V) :=
 List.rec (some []) (fun o _ ih => Option.rec none (fun v => Option.rec none (fun vs => some (v :: vs)) ih) (getO st o)) os
inductive Plan where
 | ret (v : V)
 | rd (h : Nat) (f : Blk → Option V)
 | wr (h : Nat) (f : Blk → Option Blk) (v : V)
 | rdb (t : Nat) (f : V → Option V)
 | wrb (t : Nat) (f : V → Option V)
 | bx (e : V)
 | alloc (b : Blk) (g : Nat → V)
 | app (d : Option (Nat × Nat × Nat)) (sz : Nat) (src : V)
 | cpy (s h o l : Nat) (src : V)
 | call (f : Nat) (args : List V)
 | frz (t sz : Nat)
noncomputable def nz (sz : Nat) (xs : List V) : Nat := List.rec 0 (fun _ _ _ => sz) xs
noncomputable def V.ro (p : Bool) (sz : Nat) (xs : List V) : V := .lst p (nz sz xs) xs
noncomputable def nth {α : Type} (xs : List α) : Nat → Option α :=
 List.rec (fun _ => none) (fun x _ ih i => Nat.rec (some x) (fun j _ => ih j) i) xs
theorem nth_eq {α : Type} (xs : List α) (i : Nat) : nth xs i = xs[i]? := by
 induction xs generalizing i with
 | nil => rfl
 | cons x xs ih => cases i with
  | zero => rfl
  | succ i => exact ih i
noncomputable def V.cells : V → List V
 | .agg cs => cs
 | v => [v]
noncomputable def getC (agg : Bool) (off sz : Nat) (e : V) : Option V :=
 if agg then (if off + sz ≤ e.cells.length then some (.agg ((e.cells.drop off).take sz)) else none) else nth e.cells off
noncomputable def V.one : V → Bool
 | .agg _ | .tup _ | .und | .loc _ _ | .imm _ _ => false
 | _ => true
noncomputable def V.ones : V → Bool
 | .agg cs => cs.all V.one
 | v => v.one
noncomputable def setC (off sz : Nat) (v : V) (e : V) : Option V :=
 if v.ones && (v.cells.length == sz) then
  match e with
  | .agg cs => if off + sz ≤ cs.length then some (.agg (cs.take off ++ v.cells ++ cs.drop (off + sz))) else none
  | _ => match v with
   | .agg _ => none
   | _ => if off = 0 then some v else none
 else none
noncomputable def keyIs : Bool → V → Bool
 | false, .str _ => true
 | true, .agg [.int .i64 _, .int .i64 _] => true
 | _, _ => false
noncomputable def keyEq : V → V → Option Bool
 | .str a, .str b => some (a == b)
 | .agg [.int .i64 a, .int .i64 b], .agg [.int .i64 c, .int .i64 d] => some (a == c && b == d)
 | _, _ => none
noncomputable def lookKey (k : V) : List (V × V) → Option (Option V)
 | [] => some none
 | (k', v) :: es => match keyEq k k' with
  | some true => some (some v)
  | some false => lookKey k es
  | none => none
noncomputable def setKey (k v : V) : List (V × V) → Option (List (V × V))
 | [] => some [(k, v)]
 | (k', v') :: es => match keyEq k k' with
  | some true => some ((k, v) :: es)
  | some false => (setKey k v es).map ((k', v') :: ·)
  | none => none
noncomputable def smallNat (m : Nat) : Bool := Nat.blt m 9223372036854775808
theorem smallNat_spec {m : Nat} (h : smallNat m = true) : (m : Int) ≤ 9223372036854775807 := by
 have : m ≤ 9223372036854775807 := by simpa [smallNat, Nat.blt] using h
 omega
noncomputable def wrapF (k : IntKind) (n : Int) : Int :=
 IntKind.rec (motive := fun _ => Int) (k.wrap n) (k.wrap n) (k.wrap n)
  (Int.rec (motive := fun _ => Int) (fun m => cond (smallNat m) (.ofNat m) (k.wrap n))
   (fun m => cond (smallNat m) (.negSucc m) (k.wrap n)) n)
  (k.wrap n) (k.wrap n) (k.wrap n) (k.wrap n) k
theorem wrapF_eq (k : IntKind) (n : Int) : wrapF k n = k.wrap n := by
 cases k <;> try rfl
 cases n with
 | ofNat m =>
  show cond (smallNat m) (Int.ofNat m) (IntKind.i64.wrap (Int.ofNat m)) = _
  cases h : smallNat m with
  | false => exact Bool.cond_false
  | true =>
   rw [Bool.cond_true]
   have hm := smallNat_spec h
   have e : Int.ofNat m = (m : Int) := rfl
   rw [e]
   exact (IntWalk.i64_in (m : Int) ⟨by omega, by omega⟩).symm
 | negSucc m =>
  show cond (smallNat m) (Int.negSucc m) (IntKind.i64.wrap (Int.negSucc m)) = _
  cases h : smallNat m with
  | false => exact Bool.cond_false
  | true =>
   rw [Bool.cond_true]
   have hm := smallNat_spec h
   have e : Int.negSucc m = -((m : Int) + 1) := Int.negSucc_eq m
   rw [e]
   exact (IntWalk.i64_in (-((m : Int) + 1)) ⟨by omega, by omega⟩).symm
noncomputable def intOp (op : BinOp) (k : IntKind) (a b : Int) : Option V :=
 match op with
 | .add => some (.int k (wrapF k (a + b)))
 | .sub => some (.int k (wrapF k (a - b)))
 | .mul => some (.int k (wrapF k (a * b)))
 | .quo => if b = 0 then none else some (.int k (wrapF k (a.tdiv b)))
 | .rem => if b = 0 then none else some (.int k (a.tmod b))
 | .and => some (.int k (k.wrap ((BitVec.ofInt k.bits a &&& BitVec.ofInt k.bits b).toNat)))
 | .eql => some (.bool (a == b))
 | .neq => some (.bool (a != b))
 | .lss => some (.bool (decide (a < b)))
 | .leq => some (.bool (decide (a ≤ b)))
 | .gtr => some (.bool (decide (b < a)))
 | .geq => some (.bool (decide (b ≤ a)))
 | _ => none
noncomputable def shrOp (k : IntKind) (a b : Int) : Option V := if b < 0 then none else some (.int k (a.fdiv (2 ^ (min b.toNat k.bits))))
noncomputable def bytesOf : List V → Option (List UInt8)
 | [] => some []
 | .int .u8 n :: vs => (bytesOf vs).map (UInt8.ofNat n.toNat :: ·)
 | _ => none
noncomputable def fillC : List (Nat × Nat) → List V → List V → Option (List V)
 | [], [], z => some z
 | (off, sz) :: pl, v :: vs, z =>
  if v.ones && (v.cells.length == sz) && decide (off + sz ≤ z.length) then fillC pl vs (z.take off ++ v.cells ++ z.drop (off + sz)) else none
 | _, _, _ => none
noncomputable def fillE (sz : Nat) : List Nat → List V → List V → Option (List V)
 | [], [], z => some z
 | i :: ix, v :: vs, z => if v.ones && (v.cells.length == sz) && decide (i < z.length) then fillE sz ix vs (z.set i v) else none
 | _, _, _ => none
noncomputable def optBound (present : Bool) (vs : List V) (dflt : Nat) : Option (Nat × List V) :=
 if present then
  match vs with
  | .int _ n :: vs => if 0 ≤ n then some (n.toNat, vs) else none
  | _ => none
 else some (dflt, vs)
noncomputable def slOf (sz : Nat) (x : V) (lo hi : Nat) : Option V :=
 if lo ≤ hi then
  match x with
  | .nil => if hi = 0 then some .nil else none
  | .lst p s xs => if hi ≤ xs.length ∧ (s = sz ∨ xs.length = 0) then some (.ro p s ((xs.drop lo).take (hi - lo))) else none
  | .row s h o l => if hi ≤ l ∧ s = sz then some (.row s h (o + lo) (hi - lo)) else none
  | _ => none
 else none
noncomputable def lenOf : V → Option Nat
 | .nil => some 0
 | .lst _ _ xs => some xs.length
 | .row _ _ _ l => some l
 | _ => none
noncomputable def big : Nat := 2147483648
noncomputable def binPlan (op : BinOp) (k : IntKind) (a : Int) (k' : IntKind) (b : Int) : Option Plan :=
 match op with
 | .shr => (shrOp k a b).map .ret
 | op => if k = k' then (intOp op k a b).map .ret else none
noncomputable def plan_mv : List V → Option Plan
 | [v] => some (.ret v)
 | _ => none
noncomputable def plan_pmv : List V → Option Plan
 | [.ptr h i o] => some (.ret (.ptr h i o))
 | _ => none
noncomputable def plan_pick : List V → Option Plan
 | [.bool c, a, b] => some (.ret (if c then a else b))
 | _ => none
noncomputable def plan_bin (op : BinOp) : List V → Option Plan
 | [.int k a, .int k' b] => binPlan op k a k' b
 | _ => none
noncomputable def plan_bq (ne : Bool) : List V → Option Plan
 | [.bool a, .bool b] => some (.ret (.bool (if ne then a != b else a == b)))
 | _ => none
noncomputable def plan_sq (ne : Bool) : List V → Option Plan
 | [.str a, .str b] => some (.ret (.bool (if ne then a != b else a == b)))
 | _ => none
noncomputable def eqK : Nat → V → V → Option Bool
 | 0, .int k a, .int k' b => if k = k' then some (a == b) else none
 | 1, .bool a, .bool b => some (a == b)
 | 2, .str a, .str b => some (a == b)
 | _, _, _ => none
noncomputable def eqKs : List Nat → List V → List V → Option Bool
 | [], [], [] => some true
 | k :: ks, a :: az, b :: bs => match eqK k a b with
  | some true => eqKs ks az bs
  | some false => some false
  | none => none
 | _, _, _ => none
noncomputable def plan_aq (ne : Bool) (ks : List Nat) : List V → Option Plan
 | [.agg a, .agg b] => (eqKs ks a b).map fun r => .ret (.bool (if ne then !r else r))
 | _ => none
noncomputable def plan_nq (ne : Bool) : List V → Option Plan
 | [.nil, .nil] => some (.ret (.bool (!ne)))
 | [.row _ _ _ _, .nil] => some (.ret (.bool ne))
 | [.lst _ _ (_ :: _), .nil] => some (.ret (.bool ne))
 | _ => none
noncomputable def plan_sadd : List V → Option Plan
 | [.str a, .str b] => if a.length + b.length < big then some (.ret (.str (a ++ b))) else none
 | _ => none
noncomputable def plan_not : List V → Option Plan
 | [.bool a] => some (.ret (.bool (!a)))
 | _ => none
noncomputable def plan_cvt (k : IntKind) : List V → Option Plan
 | [.int _ n] => some (.ret (.int k (k.wrap n)))
 | _ => none
noncomputable def plan_cvs : List V → Option Plan
 | [.int _ n] => if 0 ≤ n ∧ n < 128 then some (.ret (.str [UInt8.ofNat n.toNat])) else none
 | _ => none
noncomputable def plan_bts : List V → Option Plan
 | [.nil] => some (.ret (.str []))
 | [.row _ h o l] => some (.rd h fun b => match b with
  | .row _ es => if o + l ≤ es.length then (bytesOf ((es.drop o).take l)).map .str else none
  | _ => none)
 | _ => none
noncomputable def plan_ext (i : Nat) : List V → Option Plan
 | [.tup vs] => (nth vs i).map .ret
 | _ => none
noncomputable def plan_len (str : Bool) : List V → Option Plan
 | [.str s] => if str then some (.ret (.int .i64 (s.length : Int))) else none
 | [x] => if str then none else
  match lenOf x with
  | some n => some (.ret (.int .i64 (n : Int)))
  | none => none
 | _ => none
noncomputable def plan_mx : List V → Option Plan
 | [.int k a, .int _ b] => some (.ret (.int k (if b > a then b else a)))
 | _ => none
noncomputable def plan_mn : List V → Option Plan
 | [.int k a, .int _ b] => some (.ret (.int k (if b < a then b else a)))
 | _ => none
noncomputable def plan_bld (z : List V) (pl : List (Nat × Nat)) : List V → Option Plan
 | vs => (fillC pl vs z).map fun cs => .ret (.agg cs)
noncomputable def plan_lit (sz : Nat) (n : Nat) (z : V) (ix : List Nat) : List V → Option Plan
 | vs => (fillE sz ix vs (List.replicate n z)).map fun es => .ret (.lst false sz es)
noncomputable def plan_hlit (sz : Nat) (n : Nat) (z : V) (ix : List Nat) : List V → Option Plan
 | vs => (fillE sz ix vs (List.replicate n z)).map fun es => .alloc (.row sz es) fun h => .row sz h 0 n
noncomputable def plan_six : List V → Option Plan
 | [.str s, .int _ i] => if 0 ≤ i then (nth s i.toNat).map fun c => .ret (.int .u8 c.toNat) else none
 | _ => none
noncomputable def plan_fld (agg : Bool) (off : Nat) (sz : Nat) : List V → Option Plan
 | [.agg cs] => (getC agg off sz (.agg cs)).map .ret
 | _ => none
noncomputable def plan_sl (sz : Nat) (lo : Bool) (hi : Bool) (mx : Bool) : List V → Option Plan
 | x :: vs =>
  if mx then none else
  match lenOf x with
  | none => none
  | some n => match optBound lo vs 0 with
   | none => none
   | some (l, vs) => match optBound hi vs n with
    | some (h, []) => (slOf sz x l h).map .ret
    | _ => none
 | _ => none
noncomputable def plan_fa (off : Nat) : List V → Option Plan
 | [.ptr h i o] => some (.ret (.ptr h i (o + off)))
 | [.imm e o] => some (.ret (.imm e (o + off)))
 | [.loc t o] => some (.ret (.loc t (o + off)))
 | _ => none
noncomputable def plan_ia (sz : Nat) : List V → Option Plan
 | [.row s h o l, .int _ i] => if 0 ≤ i ∧ i < l ∧ s = sz then some (.ret (.ptr h (o + i.toNat) 0)) else none
 | [.lst _ s xs, .int _ i] => if 0 ≤ i ∧ s = sz then (nth xs i.toNat).map fun e => .ret (.imm e 0) else none
 | _ => none
noncomputable def plan_iaa (n : Nat) (sz : Nat) : List V → Option Plan
 | [.ptr h i o, .int _ j] => if 0 ≤ j ∧ j < n then some (.ret (.ptr h i (o + j.toNat * sz))) else none
 | [.imm e o, .int _ j] => if 0 ≤ j ∧ j < n then some (.ret (.imm e (o + j.toNat * sz))) else none
 | [.loc t o, .int _ j] => if 0 ≤ j ∧ j < n then some (.ret (.loc t (o + j.toNat * sz))) else none
 | _ => none
noncomputable def plan_nc : List V → Option Plan
 | [.ptr h i o] => some (.ret (.ptr h i o))
 | [.imm e o] => some (.ret (.imm e o))
 | [.loc t o] => some (.ret (.loc t o))
 | [.fn f cs] => some (.ret (.fn f cs))
 | _ => none
noncomputable def plan_ld (agg : Bool) (sz : Nat) : List V → Option Plan
 | [.imm e o] => (getC agg o sz e).map .ret
 | [.ptr h i o] => some (.rd h fun b => match b with
  | .row _ es => match nth es i with
   | some e => getC agg o sz e
   | none => none
  | _ => none)
 | [.loc t o] => some (.rdb t (getC agg o sz))
 | _ => none
noncomputable def plan_st (sz : Nat) : List V → Option Plan
 | [.ptr h i o, v] => some (.wr h (fun b => match b with
  | .row s es => match nth es i with
   | some e => (setC o sz v e).map fun e' => .row s (es.set i e')
   | none => none
  | _ => none) .und)
 | [.loc t o, v] => some (.wrb t (setC o sz v))
 | _ => none
noncomputable def plan_box : List V → Option Plan
 | [v] => if v.ones then some (.bx v) else none
 | _ => none
noncomputable def plan_hbox (sz : Nat) : List V → Option Plan
 | [v] => if v.ones && (v.cells.length == sz) then some (.alloc (.row sz [v]) fun h => .ptr h 0 0) else none
 | _ => none
noncomputable def plan_mk (sz : Nat) (z : V) : List V → Option Plan
 | [.int _ n] => if 0 ≤ n ∧ n < big then some (.alloc (.row sz (List.replicate n.toNat z)) fun h => .row sz h 0 n.toNat) else none
 | _ => none
noncomputable def plan_app (sz : Nat) : List V → Option Plan
 | [.nil, x] => some (.app none sz x)
 | [.row s h o l, x] => if s = sz then some (.app (some (h, o, l)) sz x) else none
 | _ => none
noncomputable def plan_cpy (sz : Nat) : List V → Option Plan
 | [.row s h o l, x] => if s = sz then some (.cpy sz h o l x) else none
 | _ => none
noncomputable def plan_call (f : Nat) : List V → Option Plan
 | vs => some (.call f vs)
noncomputable def plan_callv : List V → Option Plan
 | .fn f cs :: vs => if f < 1000 then some (.call f (vs ++ cs)) else none
 | _ => none
noncomputable def plan_mkf (f : Nat) : List V → Option Plan
 | vs => some (.ret (.fn f vs))
noncomputable def plan_mkm : List V → Option Plan
 | [] => some (.alloc (.map []) .map)
 | _ => none
noncomputable def plan_look (arr ok : Bool) (z : V) : List V → Option Plan
 | [.map h, k] => if keyIs arr k then some (.rd h fun b => match b with
  | .map es => (lookKey k es).map fun r => match r, ok with
   | some v, true => .tup [v, .bool true]
   | none, true => .tup [z, .bool false]
   | some v, false => v
   | none, false => z
  | _ => none) else none
 | _ => none
noncomputable def plan_upd (arr : Bool) : List V → Option Plan
 | [.map h, k, v] => if keyIs arr k && v.one then some (.wr h (fun b => match b with
  | .map es => (setKey k v es).map .map
  | _ => none) .und) else none
 | _ => none
noncomputable def plan_frz (sz : Nat) : List V → Option Plan
 | [.loc t 0] => some (.frz t sz)
 | _ => none
noncomputable def plan : K → List V → Option Plan
 | .mv => plan_mv
 | .pmv => plan_pmv
 | .pick => plan_pick
 | .bin op => plan_bin op
 | .bq ne => plan_bq ne
 | .sq ne => plan_sq ne
 | .aq ne ks => plan_aq ne ks
 | .nq ne => plan_nq ne
 | .sadd => plan_sadd
 | .not => plan_not
 | .cvt k => plan_cvt k
 | .cvs => plan_cvs
 | .bts => plan_bts
 | .ext i => plan_ext i
 | .len str => plan_len str
 | .mx => plan_mx
 | .mn => plan_mn
 | .bld z pl => plan_bld z pl
 | .lit sz n z ix => plan_lit sz n z ix
 | .hlit sz n z ix => plan_hlit sz n z ix
 | .six => plan_six
 | .fld agg off sz => plan_fld agg off sz
 | .sl sz lo hi mx => plan_sl sz lo hi mx
 | .fa off => plan_fa off
 | .ia sz => plan_ia sz
 | .iaa n sz => plan_iaa n sz
 | .nc => plan_nc
 | .ld agg sz => plan_ld agg sz
 | .st sz => plan_st sz
 | .box => plan_box
 | .hbox sz => plan_hbox sz
 | .mk sz z => plan_mk sz z
 | .app sz => plan_app sz
 | .cpy sz => plan_cpy sz
 | .call f => plan_call f
 | .callv => plan_callv
 | .mkf f => plan_mkf f
 | .mkm => plan_mkm
 | .look arr ok z => plan_look arr ok z
 | .upd arr => plan_upd arr
 | .frz sz => plan_frz sz
noncomputable def view (m : Mem) : V → Option (Nat × List V)
 | .nil => some (0, [])
 | .lst _ s xs => some (s, xs)
 | .row s h o l => match m.blk h with
  | some (.row s' es) => if o + l ≤ es.length ∧ s' = s then some (s, (es.drop o).take l) else none
  | _ => none
 | _ => none
noncomputable def put (st : St) : D → V → Option St
 | .e d, v => some { st with env := (d, v) :: st.env }
 | .a d, v => some { st with ad := (d, v) :: st.ad }
 | .n, _ => some st
 | .x _, _ => none
noncomputable def mapO {α β : Type} (f : α → Option β) : List α → Option (List β)
 | [] => some []
 | x :: xs => match f x with
  | none => none
  | some y => match mapO f xs with
   | none => none
   | some ys => some (y :: ys)
noncomputable def freeze (lo : Nat) (m : Mem) : Nat → V → Option V
 | 0, _ => none
 | n + 1, v => match v with
  | .int k n => some (.int k n)
  | .bool b => some (.bool b)
  | .str s => some (.str s)
  | .nil => some (.lst true 0 [])
  | .lst true sz xs => some (.lst true sz xs)
  | .lst false sz xs => (mapO (freeze lo m n) xs).map (.ro true sz)
  | .row s h o l => match m.blk h with
   | some (.row sz es) => if lo ≤ h ∧ o + l ≤ es.length ∧ sz = s then (mapO (freeze lo m n) ((es.drop o).take l)).map (.ro true sz) else none
   | _ => none
  | .agg cs => (mapO (freeze lo m n) cs).map .agg
  | .tup vs => (mapO (freeze lo m n) vs).map .tup
  | _ => none
noncomputable def Mem.kill (m : Mem) (lo : Nat) : Mem := ⟨fun h => if lo ≤ h then none else m.blk h, m.next⟩
noncomputable def hasLoc (d : Nat) (ad : Env) : Bool :=
 List.rec false (fun p _ ih => match p.2 with
  | .loc t _ => cond (Nat.beq t d) true ih
  | _ => ih) ad
abbrev Callk := Nat → List V → Nat → Mem → Option (V × Mem)
noncomputable def act (ck : Callk) (lo h : Nat) (st : St) (d : D) : Plan → Option St
 | .ret v => put st d v
 | .rd h' f => match st.mem.blk h' with
  | none => none
  | some b => match f b with
   | none => none
   | some v => put st d v
 | .wr h' f v => if lo ≤ h' then
   match st.mem.blk h' with
   | none => none
   | some b => match f b with
    | none => none
    | some b' => put { st with mem := st.mem.set h' (some b') } d v
  else none
 | .rdb t f => match st.bx.get t with
  | none => none
  | some e => match f e with
   | none => none
   | some v => put st d v
 | .wrb t f => match st.bx.get t with
  | none => none
  | some e => match f e with
   | none => none
   | some e' => match d with
    | .n => some { st with bx := (t, e') :: st.bx }
    | _ => none
 | .bx e => match d with
  | .x d => if hasLoc d st.ad then none else some { st with bx := (d, e) :: st.bx }
  | _ => none
 | .alloc b g => put { st with mem := st.mem.set h (some b) } d (g h)
 | .app d' sz x => match view st.mem x with
  | none => none
  | some (s, xs) => match d', xs with
   | none, [] => put st d .nil
   | none, y :: ys => if s = sz ∧ (y :: ys).length < big then put { st with mem := st.mem.set h (some (.row sz (y :: ys))) } d (.row sz h 0 (y :: ys).length) else none
   | some (h', o, l), xs => if lo ≤ h' ∧ (s = sz ∨ xs.length = 0) ∧ l + xs.length < big then
     match st.mem.blk h' with
     | some (.row s' es) => if s' = sz ∧ o + l ≤ es.length then
       put { st with mem := (st.mem.set h' none).set h (some (.row sz ((es.drop o).take l ++ xs))) } d (.row sz h 0 (l + xs.length))
      else none
     | _ => none
    else none
 | .cpy sz h' o l x => match view st.mem x with
  | none => none
  | some (s, xs) => if lo ≤ h' then
    match st.mem.blk h' with
    | some (.row s' es) => if (s = sz ∨ xs.length = 0) ∧ s' = sz ∧ o + l ≤ es.length then
      put { st with mem := st.mem.set h' (some (.row s' (es.take o ++ xs.take (min l xs.length) ++ es.drop (o + min l xs.length)))) } d (.int .i64 (min l xs.length : Nat))
     else none
    | _ => none
   else none
 | .call f args => match ck f args lo st.mem with
  | none => none
  | some (v, m) => put { st with mem := m } d v
 | .frz t sz => match st.bx.get t with
  | some (.agg cs) => if cs.length = sz then match freeze lo st.mem 8 (.agg cs) with
    | none => none
    | some v => put { st with bx := (t, v) :: st.bx, mem := st.mem.kill lo } d v
   else none
  | _ => none
noncomputable def exec (ck : Callk) (lo h : Nat) (st : St) (o : Op) : Option St :=
 match getOs st o.os with
 | none => none
 | some vs => match plan o.k vs with
  | none => none
  | some p => act ck lo h st o.d p
noncomputable def skipOp (st : St) : D → Option St
 | .e d => some { st with env := (d, .und) :: st.env }
 | .a d => some { st with ad := (d, .und) :: st.ad }
 | .n => some st
 | .x _ => none
noncomputable def step (ck : Callk) (lo h : Nat) (st : St) (o : Op) : Option St :=
 match o.g with
 | none => exec ck lo h st o
 | some (t, want) => match st.env.get t with
  | some (.bool b) => if b = want then exec ck lo h st o else skipOp st o.d
  | some .und => skipOp st o.d
  | _ => none
noncomputable def runOps (ck : Callk) (lo : Nat) (os : List Op) : St → Option St :=
 List.rec (fun st => some st) (fun o _ ih st => Option.rec none (fun st' => ih (cond o.k.allocs { st' with mem := st'.mem.bump 1 } st')) (step ck lo st.mem.next st o)) os
inductive Key where
 | bx (t : Nat)
 | h (h : Nat)
noncomputable def V.key : V → List Key
 | .row _ h _ _ => [.h h]
 | _ => []
noncomputable def Plan.keys (h : Nat) : Plan → List Key
 | .ret (.loc t _) => [.bx t]
 | .rd h' _ | .wr h' _ _ => [.h h']
 | .rdb t _ | .wrb t _ | .frz t _ => [.bx t]
 | .alloc _ _ => [.h h]
 | .app none _ x => .h h :: x.key
 | .app (some (h', _, _)) _ x => .h h :: .h h' :: x.key
 | .cpy _ h' _ _ x => .h h' :: x.key
 | _ => []
noncomputable def keysOf (h : Nat) (st : St) (o : Op) : List Key :=
 (match o.d with | .x t => [.bx t] | _ => []) ++
 match getOs st o.os with
 | none => []
 | some vs => match plan o.k vs with
  | none => []
  | some p => p.keys h
noncomputable def Key.apart : Key → Key → Bool
 | .h a, .h b => decide (a ≠ b)
 | .bx a, .bx b => decide (a ≠ b)
 | _, _ => true
noncomputable def keysApart (az bs : List Key) : Bool := az.all fun a => bs.all fun b => a.apart b
noncomputable def runOpsD (ck : Callk) (lo base : Nat) : Nat → List Op → St → Option (St × List (List Key))
 | _, [], st => some (st, [])
 | i, o :: os, st => match step ck lo (base + i) st o with
  | none => none
  | some st' => match runOpsD ck lo base (i + 1) os st' with
   | none => none
   | some (st'', ks) => some (st'', keysOf (base + i) st o :: ks)
noncomputable def pairsOk (ks : List (List Key)) : List (Nat × Nat) → Bool
 | [] => true
 | (i, j) :: ps => (match nth ks i, nth ks j with
  | some a, some b => keysApart a b
  | _, _ => false) && pairsOk ks ps
noncomputable def pick (live : List Nat) (e : Env) : Env :=
 List.rec [] (fun t _ ih => Option.rec ih (fun v => (t, v) :: ih) (e.get t)) live
inductive AC where
 | skip
 | dead
 | reg (ops : List Op) (lv lb : List Nat)
 | dreg (ops : List Op) (ps : List (Nat × Nat)) (lv lb : List Nat)
 | seq (a b : AC)
 | cond (c : O) (a b : AC)
 | block (id : Nat) (b : AC)
 | loop (lv lb : List Nat) (b : AC)
 | exit (id : Nat)
 | ret
 deriving Inhabited
inductive Ex where
 | nrm
 | exit (id : Nat)
 | ret
 deriving DecidableEq
noncomputable def St.cut (st : St) (lv lb : List Nat) : St := ⟨pick lv st.env, pick lb st.bx, [], st.mem⟩
noncomputable def iter (f : St → Option (Ex × St)) (n : Nat) : St → Option (Ex × St) :=
 Nat.rec (fun _ => none) (fun _ ih st => match f st with
  | none => none
  | some (.nrm, st') => ih st'
  | some (.exit i, st') => some (.exit i, st')
  | some (.ret, st') => some (.ret, st')) n
noncomputable def run (ck : Callk) (N lo : Nat) (c : AC) : St → Option (Ex × St) :=
 AC.rec (motive := fun _ => St → Option (Ex × St))
  (fun st => some (.nrm, st))
  (fun _ => none)
  (fun ops lv lb st => match runOps ck lo ops st with
   | none => none
   | some st' => some (.nrm, st'.cut lv lb))
  (fun ops ps lv lb st => match runOpsD ck lo st.mem.next 0 ops { st with mem := st.mem.bump ops.length } with
   | none => none
   | some (st', ks) => if pairsOk ks ps then some (.nrm, st'.cut lv lb) else none)
  (fun _ _ iha ihb st => match iha st with
   | none => none
   | some (.nrm, st') => ihb st'
   | some (.exit i, st') => some (.exit i, st')
   | some (.ret, st') => some (.ret, st'))
  (fun c _ _ iha ihb st => match getO st c with
   | some (.bool c) => cond c (iha st) (ihb st)
   | _ => none)
  (fun id _ ihb st => match ihb st with
   | none => none
   | some (.nrm, st') => some (.nrm, st')
   | some (.exit i, st') => if i = id then some (.nrm, st') else some (.exit i, st')
   | some (.ret, st') => some (.ret, st'))
  (fun lv lb _ ihb st => iter (fun st => ihb (st.cut lv lb)) N st)
  (fun i st => some (.exit i, st))
  (fun st => some (.ret, st)) c
inductive Res where
 | t (i : Nat)
 | c (i : Nat) (agg : Bool) (sz : Nat)
 deriving Inhabited
noncomputable def getR (st : St) : Res → Option V
 | .t i => st.env.get i
 | .c i agg sz => match st.bx.get i with
  | some e => getC agg 0 sz e
  | none => none
noncomputable def getRes (st : St) : List Res → Option (List V)
 | [] => some []
 | r :: rs => match getR st r with
  | none => none
  | some v => match getRes st rs with
   | none => none
   | some vs => some (v :: vs)
noncomputable def resV : List V → V
 | [v] => v
 | vs => .tup vs
structure Fn where
 np : Nat
 am : Nat
 bm : Nat
 pure : Bool
 res : List Res
 body : AC
 deriving Inhabited
noncomputable def initEnv : Nat → List V → Env
 | _, [] => []
 | i, v :: vs => (i, v) :: initEnv (i + 1) vs
noncomputable def call (F : Nat → Option Fn) : Nat → Callk
 | 0, _, _, _, _ => none
 | k + 1, f, args, lo, m => match F f with
  | none => none
  | some fn =>
   if args.length = fn.np then
    match run (call F k) k (if fn.pure then m.next else lo) fn.body ⟨initEnv 0 args, [], [], m⟩ with
    | none => none
    | some (.exit _, _) => none
    | some (_, st) => match getRes st fn.res with
     | none => none
     | some vs => if fn.pure then
       match freeze m.next st.mem 8 (resV vs) with
       | none => none
       | some v => some (v, m)
      else some (resV vs, st.mem)
   else none
end Go.Am
namespace Go.Am
open Go
structure Loc where
 b : Nat
 base : Nat
 sz : Nat
 lim : Nat
structure Gh where
 φ : Nat → Option Loc
 I : Nat → Prop
structure Gh.le (g g' : Gh) : Prop where
 φ : ∀ h l, g.φ h = some l → g'.φ h = some l
 I : ∀ b, g.I b → g'.I b
theorem Gh.le.refl (g : Gh) : Gh.le g g := ⟨fun _ _ h => h, fun _ h => h⟩
theorem Gh.le.trans {a b c : Gh} (h : Gh.le a b) (k : Gh.le b c) : Gh.le a c := ⟨fun x l hx => k.φ x l (h.φ x l hx), fun x hx => k.I x (h.I x hx)⟩
def Same (I : Nat → Prop) (w w' : World) : Prop := ∀ b, I b → w'.heap[b]? = w.heap[b]?
theorem cell_of_same {w w' : World} {b o : Nat} (h : w'.heap[b]? = w.heap[b]?) : w'.cell? ⟨b, o, none⟩ = w.cell? ⟨b, o, none⟩ := World.cell?_of_block (a := ⟨b, o, none⟩) h
inductive ImgP (I : Nat → Prop) (w : World) : V → Value → Prop
 | und : ImgP I w .und undef
 | int (k : IntKind) (n : Int) : ImgP I w (.int k n) (.int k n)
 | bool (b : Bool) : ImgP I w (.bool b) (.bool b)
 | str (b : ByteArray) : ImgP I w (.str b.data.toList) (.string b)
 | nil : ImgP I w .nil (.slice none 0 0)
 | nilp : ImgP I w .nilp (.pointer none)
 | lst0 (p : Bool) (sz : Nat) (a : Option Addr) (c : Nat) : ImgP I w (.lst p sz []) (.slice a 0 c)
 | lst (p : Bool) (sz : Nat) (xs : List V) (b o cap : Nat) (vs : Nat → Nat → Value) (hI : I b) (hc : xs.length ≤ cap)
   (hs : ∀ e ∈ xs, e.cells.length = sz)
   (hv : ∀ (i j : Nat) (e c : V), xs[i]? = some e → e.cells[j]? = some c → w.cell? ⟨b, o + i * sz + j, none⟩ = some (vs i j) ∧ (vs i j).oneCell' = true)
   (hr : ∀ (i j : Nat) (e c : V), xs[i]? = some e → e.cells[j]? = some c → ImgP I w c (vs i j)) : ImgP I w (.lst p sz xs) (.slice (some ⟨b, o, none⟩) xs.length cap)
 | agg (cs : List V) (vs : List Value) (hl : cs.length = vs.length) (h1 : ∀ v ∈ vs, v.oneCell' = true)
   (hr : ∀ (i : Nat) (c : V) (v : Value), cs[i]? = some c → vs[i]? = some v → ImgP I w c v) : ImgP I w (.agg cs) (.agg vs.toArray)
 | tup (cs : List V) (vs : List Value) (hl : cs.length = vs.length)
   (hr : ∀ (i : Nat) (c : V) (v : Value), cs[i]? = some c → vs[i]? = some v → ImgP I w c v) : ImgP I w (.tup cs) (.tuple vs.toArray)
 | fn (f : Nat) : ImgP I w (.fn f []) (.func (.func f) #[] #[])
theorem ImgP.mono {I I' : Nat → Prop} {w w' : World} (hI : ∀ b, I b → I' b) (hw : Same I w w') {v : V} {a : Value} (h : ImgP I w v a) : ImgP I' w' v a := by
 induction h with
 | und => exact .und
 | int k n => exact .int k n
 | bool b => exact .bool b
 | str b => exact .str b
 | nil => exact .nil
 | nilp => exact .nilp
 | lst0 p sz a c => exact .lst0 p sz a c
 | lst p sz xs b o cap vs hb hc hs hv _ ih =>
  exact .lst p sz xs b o cap vs (hI b hb) hc hs (fun i j e c h1 h2 => by rw [cell_of_same (hw b hb)]; exact hv i j e c h1 h2) ih
 | agg cs vs hl h1 _ ih => exact .agg cs vs hl h1 ih
 | tup cs vs hl _ ih => exact .tup cs vs hl ih
 | fn f => exact .fn f
inductive Img (g : Gh) (w : World) : V → Value → Prop
 | pure {v : V} {a : Value} (h : ImgP g.I w v a) : Img g w v a
 | row (h o l : Nat) (loc : Loc) (cap : Nat) (hφ : g.φ h = some loc) (hl : l ≤ cap) (hc : loc.base + (o + cap) * loc.sz ≤ loc.lim) :
   Img g w (.row loc.sz h o l) (.slice (some ⟨loc.b, loc.base + o * loc.sz, none⟩) l cap)
 | row0 (s h o : Nat) (a : Addr) : Img g w (.row s h o 0) (.slice (some a) 0 0)
 | ptr (h i off : Nat) (loc : Loc) (hφ : g.φ h = some loc) : Img g w (.ptr h i off) (.pointer (some ⟨loc.b, loc.base + i * loc.sz + off, none⟩))
 | map (h : Nat) (loc : Loc) (hφ : g.φ h = some loc) : Img g w (.map h) (.map (some loc.b))
 | lst (p : Bool) (sz : Nat) (xs : List V) (b o cap : Nat) (vs : Nat → Nat → Value) (hp : p = false) (hI : g.I b) (hc : xs.length ≤ cap)
   (hs : ∀ e ∈ xs, e.cells.length = sz)
   (hv : ∀ (i j : Nat) (e c : V), xs[i]? = some e → e.cells[j]? = some c → w.cell? ⟨b, o + i * sz + j, none⟩ = some (vs i j) ∧ (vs i j).oneCell' = true)
   (hr : ∀ (i j : Nat) (e c : V), xs[i]? = some e → e.cells[j]? = some c → Img g w c (vs i j)) : Img g w (.lst p sz xs) (.slice (some ⟨b, o, none⟩) xs.length cap)
 | agg (cs : List V) (vs : List Value) (hl : cs.length = vs.length) (h1 : ∀ v ∈ vs, v.oneCell' = true)
   (hr : ∀ (i : Nat) (c : V) (v : Value), cs[i]? = some c → vs[i]? = some v → Img g w c v) : Img g w (.agg cs) (.agg vs.toArray)
 | tup (cs : List V) (vs : List Value) (hl : cs.length = vs.length)
   (hr : ∀ (i : Nat) (c : V) (v : Value), cs[i]? = some c → vs[i]? = some v → Img g w c v) : Img g w (.tup cs) (.tuple vs.toArray)
 | fn (f : Nat) (cs : List V) (vs : List Value) (hl : cs.length = vs.length)
   (hr : ∀ (i : Nat) (c : V) (v : Value), cs[i]? = some c → vs[i]? = some v → Img g w c v) : Img g w (.fn f cs) (.func (.func f) #[] vs.toArray)
theorem Img.mono {g g' : Gh} {w w' : World} (hg : Gh.le g g') (hw : Same g.I w w') {v : V} {a : Value} (h : Img g w v a) : Img g' w' v a := by
 induction h with
 | pure h => exact .pure (h.mono hg.I hw)
 | row h o l loc cap hφ hl hc => exact .row h o l loc cap (hg.φ _ _ hφ) hl hc
 | row0 s h o a => exact .row0 s h o a
 | ptr h i off loc hφ => exact .ptr h i off loc (hg.φ _ _ hφ)
 | map h loc hφ => exact .map h loc (hg.φ _ _ hφ)
 | lst p sz xs b o cap vs hp hb hc hs hv _ ih =>
  exact .lst p sz xs b o cap vs hp (hg.I b hb) hc hs (fun i j e c h1 h2 => by rw [cell_of_same (hw b hb)]; exact hv i j e c h1 h2) ih
 | agg cs vs hl h1 _ ih => exact .agg cs vs hl h1 ih
 | tup cs vs hl _ ih => exact .tup cs vs hl ih
 | fn f cs vs hl _ ih => exact .fn f cs vs hl ih
theorem ImgP.ro {I : Nat → Prop} {w : World} {p : Bool} {sz : Nat} {xs : List V} {a : Value} (h : ImgP I w (.lst p sz xs) a) : ImgP I w (.ro p sz xs) a := by
 cases xs with
 | nil => cases h with
  | lst0 => exact .lst0 p 0 _ _
  | lst => exact .lst0 p 0 _ _
 | cons x xs => exact h
theorem Img.ro {g : Gh} {w : World} {p : Bool} {sz : Nat} {xs : List V} {a : Value} (h : Img g w (.lst p sz xs) a) : Img g w (.ro p sz xs) a := by
 cases xs with
 | nil => cases h with
  | pure h => exact .pure h.ro
  | lst => exact .pure (.lst0 p 0 _ _)
 | cons x xs => exact h
section
variable {g : Gh} {w : World} {x : Value}
theorem Img.int_inv {k : IntKind} {n : Int} (h : Img g w (.int k n) x) : x = .int k n := by
 cases h with | pure h => cases h; rfl
theorem Img.bool_inv {b : Bool} (h : Img g w (.bool b) x) : x = .bool b := by
 cases h with | pure h => cases h; rfl
theorem Img.und_inv (h : Img g w .und x) : x = undef := by
 cases h with | pure h => cases h; rfl
theorem Img.str_inv {s : List UInt8} (h : Img g w (.str s) x) : ∃ b : ByteArray, x = .string b ∧ b.data.toList = s := by
 cases h with | pure h => cases h with | str b => exact ⟨b, rfl, rfl⟩
theorem Img.nil_inv (h : Img g w .nil x) : x = .slice none 0 0 := by
 cases h with | pure h => cases h; rfl
theorem Img.row_inv {s n o l : Nat} (h : Img g w (.row s n o l) x) : (∃ loc cap, g.φ n = some loc ∧ loc.sz = s ∧ l ≤ cap ∧ loc.base + (o + cap) * loc.sz ≤ loc.lim ∧ x = .slice (some ⟨loc.b, loc.base + o * loc.sz, none⟩) l cap) ∨ (l = 0 ∧ ∃ a, x = .slice (some a) 0 0) := by
 cases h with
 | pure h => cases h
 | row _ _ _ loc cap hφ hl hc => exact .inl ⟨loc, cap, hφ, rfl, hl, hc, rfl⟩
 | row0 => exact .inr ⟨rfl, _, rfl⟩
theorem Img.ptr_inv {n i o : Nat} (h : Img g w (.ptr n i o) x) : ∃ loc, g.φ n = some loc ∧ x = .pointer (some ⟨loc.b, loc.base + i * loc.sz + o, none⟩) := by
 cases h with
 | pure h => cases h
 | ptr _ _ _ loc hφ => exact ⟨loc, hφ, rfl⟩
theorem Img.map_inv {n : Nat} (h : Img g w (.map n) x) : ∃ loc, g.φ n = some loc ∧ x = .map (some loc.b) := by
 cases h with
 | pure h => cases h
 | map _ loc hφ => exact ⟨loc, hφ, rfl⟩
theorem Img.lst_inv {p : Bool} {sz : Nat} {xs : List V} (h : Img g w (.lst p sz xs) x) : (xs = [] ∧ ∃ a c, x = .slice a 0 c) ∨
  ∃ b o cap, ∃ vs : Nat → Nat → Value, x = .slice (some ⟨b, o, none⟩) xs.length cap ∧ g.I b ∧ xs.length ≤ cap ∧ (∀ e ∈ xs, e.cells.length = sz) ∧
   (∀ (i j : Nat) (e c : V), xs[i]? = some e → e.cells[j]? = some c → w.cell? ⟨b, o + i * sz + j, none⟩ = some (vs i j) ∧ (vs i j).oneCell' = true) ∧
   (∀ (i j : Nat) (e c : V), xs[i]? = some e → e.cells[j]? = some c → Img g w c (vs i j)) ∧
   (ImgP g.I w (.lst p sz xs) x ∨ p = false) := by
 cases h with
 | pure h =>
  cases h with
  | lst0 => exact .inl ⟨rfl, _, _, rfl⟩
  | lst _ _ _ b o cap vs hI hc hs hv hr => exact .inr ⟨b, o, cap, vs, rfl, hI, hc, hs, hv, fun i j e c h1 h2 => .pure (hr i j e c h1 h2), .inl (.lst _ _ _ b o cap vs hI hc hs hv hr)⟩
 | lst _ _ _ b o cap vs hp hI hc hs hv hr => exact .inr ⟨b, o, cap, vs, rfl, hI, hc, hs, hv, hr, .inr hp⟩
theorem Img.agg_inv {cs : List V} (h : Img g w (.agg cs) x) : ∃ vs : List Value, x = .agg vs.toArray ∧ cs.length = vs.length ∧ (∀ v ∈ vs, v.oneCell' = true) ∧ ∀ (i : Nat) (c : V) (v : Value), cs[i]? = some c → vs[i]? = some v → Img g w c v := by
 cases h with
 | pure h => cases h with | agg _ vs hl h1 hr => exact ⟨vs, rfl, hl, h1, fun i c v h1 h2 => .pure (hr i c v h1 h2)⟩
 | agg _ vs hl h1 hr => exact ⟨vs, rfl, hl, h1, hr⟩
theorem Img.tup_inv {cs : List V} (h : Img g w (.tup cs) x) : ∃ vs : List Value, x = .tuple vs.toArray ∧ cs.length = vs.length ∧ ∀ (i : Nat) (c : V) (v : Value), cs[i]? = some c → vs[i]? = some v → Img g w c v := by
 cases h with
 | pure h => cases h with | tup _ vs hl hr => exact ⟨vs, rfl, hl, fun i c v h1 h2 => .pure (hr i c v h1 h2)⟩
 | tup _ vs hl hr => exact ⟨vs, rfl, hl, hr⟩
theorem Img.fn_inv {f : Nat} {cs : List V} (h : Img g w (.fn f cs) x) : ∃ vs : List Value, x = .func (.func f) #[] vs.toArray ∧ cs.length = vs.length ∧ ∀ (i : Nat) (c : V) (v : Value), cs[i]? = some c → vs[i]? = some v → Img g w c v := by
 cases h with
 | pure h => cases h with | fn => exact ⟨[], rfl, rfl, fun i c v h => by simp at h⟩
 | fn _ _ vs hl hr => exact ⟨vs, rfl, hl, hr⟩
theorem Img.no_loc {t o : Nat} (h : Img g w (.loc t o) x) : False := by
 cases h with | pure h => cases h
theorem Img.no_imm {e : V} {o : Nat} (h : Img g w (.imm e o) x) : False := by
 cases h with | pure h => cases h
end
theorem V.cells_agg (cs : List V) : V.cells (.agg cs) = cs := rfl
theorem Img.cells {g : Gh} {w : World} {v : V} {x : Value} (h : Img g w v x) : v.cells.length = x.cells.size ∧ ∀ (i : Nat) (c : V) (y : Value), v.cells[i]? = some c → x.cells[i]? = some y → Img g w c y := by
 have single : ∀ {v : V} {x : Value}, v.cells = [v] → x.cells = #[x] → Img g w v x → v.cells.length = x.cells.size ∧ ∀ (i : Nat) (c : V) (y : Value), v.cells[i]? = some c → x.cells[i]? = some y → Img g w c y := by
  intro v x e1 e2 h
  rw [e1, e2]
  refine ⟨rfl, fun i c y h1 h2 => ?_⟩
  cases i with
  | zero => simp at h1 h2; subst h1 h2; exact h
  | succ i => simp at h1
 cases h with
 | pure h' =>
  have h0 : Img g w v x := .pure h'
  cases h' with
  | agg cs vs hl h1 hr => exact ⟨by simpa [V.cells, Value.cells] using hl, fun i c y h1 h2 => .pure (hr i c y h1 (by simpa [Value.cells] using h2))⟩
  | _ => exact single rfl rfl h0
 | agg cs vs hl h1 hr => exact ⟨by simpa [V.cells, Value.cells] using hl, fun i c y h1 h2 => hr i c y h1 (by simpa [Value.cells] using h2)⟩
 | row h o l loc cap hφ hl hc => exact single rfl rfl (.row h o l loc cap hφ hl hc)
 | row0 s h o a => exact single rfl rfl (.row0 s h o a)
 | ptr h i off loc hφ => exact single rfl rfl (.ptr h i off loc hφ)
 | map h loc hφ => exact single rfl rfl (.map h loc hφ)
 | lst p sz xs b o cap vs hp hI hc hs hv hr => exact single rfl rfl (.lst p sz xs b o cap vs hp hI hc hs hv hr)
 | tup cs vs hl hr => exact single rfl rfl (.tup cs vs hl hr)
 | fn f cs vs hl hr => exact single rfl rfl (.fn f cs vs hl hr)
theorem Img.ones {g : Gh} {w : World} {v : V} {x : Value} (h : Img g w v x) (h1 : v.ones = true) : ∀ (i : Nat) (y : Value), x.cells[i]? = some y → y.oneCell' = true := by
 have single : ∀ {x : Value}, x.cells = #[x] → x.oneCell' = true → ∀ (i : Nat) (y : Value), x.cells[i]? = some y → y.oneCell' = true := by
  intro x e h i y hy
  rw [e] at hy
  cases i with
  | zero => simp at hy; subst hy; exact h
  | succ i => simp at hy
 cases h with
 | pure h' =>
  cases h' with
  | agg cs vs hl h2 hr =>
   intro i y hy
   exact h2 y (List.mem_of_getElem? (by simpa [Value.cells] using hy))
  | und => simp [V.ones, V.one] at h1
  | tup => simp [V.ones, V.one] at h1
  | _ => exact single rfl rfl
 | agg cs vs hl h2 hr =>
  intro i y hy
  exact h2 y (List.mem_of_getElem? (by simpa [Value.cells] using hy))
 | tup => simp [V.ones, V.one] at h1
 | _ => exact single rfl rfl
def CellsOk (g : Gh) (w : World) (es : List V) (sz base : Nat) (cs : Array Value) : Prop :=
 (∀ e ∈ es, e.cells.length = sz) ∧ ∀ (i j : Nat) (e c : V), es[i]? = some e → e.cells[j]? = some c → ∃ v, cs[base + i * sz + j]? = some v ∧ v.oneCell' = true ∧ Img g w c v
def BlkOk (g : Gh) (w : World) (loc : Loc) : Blk → Prop
 | .row sz es => loc.sz = sz ∧ loc.base + es.length * sz ≤ loc.lim ∧ ∃ (cs : Array Value) (T : TypeId), w.heap[loc.b]? = some (.cells cs T (0, 0)) ∧ cs.size = loc.lim ∧ CellsOk g w es sz loc.base cs
 | .map es => ∃ (ents : Array MapEntry) (clock : Nat), w.heap[loc.b]? = some (.map ents clock) ∧ ents.size = es.length ∧
   ∀ (i : Nat) (k v : V), es[i]? = some (k, v) → ∃ m, ents[i]? = some m ∧ ImgP g.I w k m.key ∧ Img g w v m.val ∧ m.val.oneCell' = true
theorem CellsOk.mono {g g' : Gh} {w w' : World} (hg : Gh.le g g') (hw : Same g.I w w') {es : List V} {sz base : Nat} {cs : Array Value} (h : CellsOk g w es sz base cs) : CellsOk g' w' es sz base cs :=
 ⟨h.1, fun i j e c h1 h2 => let ⟨v, a, b, d⟩ := h.2 i j e c h1 h2; ⟨v, a, b, d.mono hg hw⟩⟩
theorem BlkOk.mono {g g' : Gh} {w w' : World} (hg : Gh.le g g') (hw : Same g.I w w') {loc : Loc} {b : Blk} (hb : w'.heap[loc.b]? = w.heap[loc.b]?) (h : BlkOk g w loc b) : BlkOk g' w' loc b := by
 cases b with
 | row sz es =>
  obtain ⟨h1, h2, cs, T, h3, h4, h5⟩ := h
  exact ⟨h1, h2, cs, T, hb.trans h3, h4, h5.mono hg hw⟩
 | map es =>
  obtain ⟨ents, clock, h1, h2, h3⟩ := h
  exact ⟨ents, clock, hb.trans h1, h2, fun i k v hi => let ⟨m, a, b, c, d⟩ := h3 i k v hi; ⟨m, a, b.mono hg.I hw, c.mono hg hw, d⟩⟩
structure MemOk (g : Gh) (mem : Mem) (w : World) : Prop where
 blk : ∀ h b, mem.blk h = some b → ∃ l, g.φ h = some l ∧ BlkOk g w l b ∧ ¬ g.I l.b ∧ l.b < w.heap.size
 inj : ∀ h h' b b' l l', h ≠ h' → mem.blk h = some b → mem.blk h' = some b' → g.φ h = some l → g.φ h' = some l' → l.b ≠ l'.b
 lt : ∀ b, g.I b → b < w.heap.size
def FreshFrom (g : Gh) (mem : Mem) (n : Nat) : Prop := ∀ h, n ≤ h → mem.blk h = none ∧ g.φ h = none
structure Keep (n0 : Nat) (S0 : Nat → Prop) (w0 w : World) : Prop where
 os : w.os = w0.os
 tape : w.tape = w0.tape
 output : w.output = w0.output
 size : n0 ≤ w.heap.size
 block : ∀ b, b < n0 → ¬ S0 b → w.heap[b]? = w0.heap[b]?
structure Fr where
 n0 : Nat
 S0 : Nat → Prop
 w0 : World
 lo : Nat
 AS : List Nat
 BS : List Nat
 nt : Nat
 disj : ∀ t, t ∈ AS → t ∉ BS
structure BoxOk (fr : Fr) (g : Gh) (mem : Mem) (w : World) (e : V) (b : Nat) : Prop where
 cells : ∃ (cs : Array Value) (T : TypeId), w.heap[b]? = some (.cells cs T (0, 0)) ∧ cs.size = e.cells.length ∧ ∀ (j : Nat) (c : V), e.cells[j]? = some c → ∃ v, cs[j]? = some v ∧ v.oneCell' = true ∧ Img g w c v
 out : ¬ g.I b
 new : fr.n0 ≤ b
 free : ∀ h B l, mem.blk h = some B → g.φ h = some l → l.b ≠ b
def ImgA (BS : List Nat) (g : Gh) (a : Act) (w : World) (v : V) (x : Value) : Prop :=
 match v with
 | .loc t off => t ∈ BS ∧ ∃ b, a.tmps[t]? = some (.pointer (some ⟨b, 0, none⟩)) ∧ x = .pointer (some ⟨b, off, none⟩)
 | .imm e off => ∃ b o, x = .pointer (some ⟨b, o + off, none⟩) ∧ g.I b ∧ ∀ (j : Nat) (c : V), e.cells[j]? = some c → ∃ y, w.cell? ⟨b, o + j, none⟩ = some y ∧ y.oneCell' = true ∧ Img g w c y
 | v => Img g w v x
structure Sim (fr : Fr) (g : Gh) (st : St) (a : Act) (w : World) : Prop where
 mem : MemOk g st.mem w
 env : ∀ t v, st.env.get t = some v → t ∉ fr.AS ∧ t ∉ fr.BS ∧ ∃ x, a.tmps[t]? = some x ∧ Img g w v x
 bx : ∀ t e, st.bx.get t = some e → t ∈ fr.BS ∧ ∃ b, a.tmps[t]? = some (.pointer (some ⟨b, 0, none⟩)) ∧ BoxOk fr g st.mem w e b
 bxd : ∀ t t' e e' b, t ≠ t' → st.bx.get t = some e → st.bx.get t' = some e' → a.tmps[t]? = some (.pointer (some ⟨b, 0, none⟩)) → a.tmps[t']? ≠ some (.pointer (some ⟨b, 0, none⟩))
 ad : ∀ t v, st.ad.get t = some v → t ∈ fr.AS ∧ ∃ x, a.tmps[t]? = some x ∧ ImgA fr.BS g a w v x
 size : a.tmps.size = fr.nt
 defers : a.defers = []
 keep : Keep fr.n0 fr.S0 fr.w0 w
 own : ∀ h b l, fr.lo ≤ h → st.mem.blk h = some b → g.φ h = some l → fr.n0 ≤ l.b ∨ fr.S0 l.b
structure Quiet (g : Gh) (w : World) (g' : Gh) (w' : World) : Prop where
 le : Gh.le g g'
 φ : g'.φ = g.φ
 old : ∀ b, b < w.heap.size → w'.heap[b]? = w.heap[b]?
 size : w.heap.size ≤ w'.heap.size
 os : w'.os = w.os
 tape : w'.tape = w.tape
 output : w'.output = w.output
 new : ∀ b, g'.I b → g.I b ∨ (w.heap.size ≤ b ∧ b < w'.heap.size)
theorem Quiet.refl (g : Gh) (w : World) : Quiet g w g w := ⟨.refl g, rfl, fun _ _ => rfl, Nat.le_refl _, rfl, rfl, rfl, fun _ h => .inl h⟩
theorem Quiet.drew (g : Gh) (w : World) : Quiet g w g w.drew := ⟨.refl g, rfl, fun _ _ => rfl, Nat.le_refl _, rfl, rfl, rfl, fun _ h => .inl h⟩
theorem heap_none_of_le {w : World} {b : Nat} (h : w.heap.size ≤ b) : w.heap[b]? = none := Array.getElem?_eq_none h
theorem lt_of_heap {w : World} {b : Nat} {o : Obj} (h : w.heap[b]? = some o) : b < w.heap.size := by
 rcases Nat.lt_or_ge b w.heap.size with h' | h'
 ·exact h'
 ·rw [heap_none_of_le h'] at h; cases h
theorem Quiet.same {g g' : Gh} {w w' : World} {mem : Mem} (hm : MemOk g mem w) (q : Quiet g w g' w') : Same g.I w w' := fun b hb => q.old b (hm.lt b hb)
theorem MemOk.quiet {g g' : Gh} {w w' : World} {mem : Mem} (hm : MemOk g mem w) (q : Quiet g w g' w') : MemOk g' mem w' where
 blk h b hb := by
  obtain ⟨l, h1, h2, h3, h4⟩ := hm.blk h b hb
  refine ⟨l, by rw [q.φ]; exact h1, h2.mono q.le (q.same hm) (q.old _ h4), fun hI => ?_, Nat.lt_of_lt_of_le h4 q.size⟩
  rcases q.new _ hI with h5 | ⟨h5, _⟩
  ·exact h3 h5
  ·omega
 inj h h' b b' l l' hne hb hb' hl hl' := hm.inj h h' b b' l l' hne hb hb' (by rw [← q.φ]; exact hl) (by rw [← q.φ]; exact hl')
 lt b hb := by
  rcases q.new b hb with h | ⟨_, h⟩
  ·exact Nat.lt_of_lt_of_le (hm.lt b h) q.size
  ·exact h
theorem Keep.quiet {n0 : Nat} {S0 : Nat → Prop} {w0 w w' : World} {g g' : Gh} (k : Keep n0 S0 w0 w) (q : Quiet g w g' w') : Keep n0 S0 w0 w' where
 os := q.os.trans k.os
 tape := q.tape.trans k.tape
 output := q.output.trans k.output
 size := Nat.le_trans k.size q.size
 block b hb hS := (q.old b (Nat.lt_of_lt_of_le hb k.size)).trans (k.block b hb hS)
theorem BoxOk.quiet {fr : Fr} {g g' : Gh} {w w' : World} {mem : Mem} {e : V} {b : Nat} (hm : MemOk g mem w) (h : BoxOk fr g mem w e b) (q : Quiet g w g' w') : BoxOk fr g' mem w' e b := by
 obtain ⟨cs, T, h1, h2, h3⟩ := h.cells
 have hlt := lt_of_heap h1
 refine ⟨⟨cs, T, by rw [q.old b hlt]; exact h1, h2, fun j c hc => let ⟨v, x, y, z⟩ := h3 j c hc; ⟨v, x, y, z.mono q.le (q.same hm)⟩⟩, fun hI => ?_, h.new, fun h' B l hB hl => h.free h' B l hB (by rw [← q.φ]; exact hl)⟩
 rcases q.new _ hI with h5 | ⟨h5, _⟩
 ·exact h.out h5
 ·omega
theorem ImgA.mono {BS : List Nat} {g g' : Gh} {a : Act} {w w' : World} (hg : Gh.le g g') (hw : Same g.I w w') {v : V} {x : Value} (h : ImgA BS g a w v x) : ImgA BS g' a w' v x := by
  cases v <;> first
    | exact Img.mono hg hw h
    | exact h
    | (obtain ⟨b, o, h1, h2, h3⟩ := h
       exact ⟨b, o, h1, hg.I b h2, fun j c hc => let ⟨y, p, q, r⟩ := h3 j c hc; ⟨y, by rw [cell_of_same (hw b h2)]; exact p, q, r.mono hg hw⟩⟩)
theorem Img.toA {BS : List Nat} {g : Gh} {a : Act} {w : World} {v : V} {x : Value} (h : Img g w v x) : ImgA BS g a w v x := by
 cases v <;> first
  | exact h
  | exact absurd h (fun h => h.no_loc)
  | exact absurd h (fun h => h.no_imm)
theorem Sim.quiet {fr : Fr} {g g' : Gh} {st : St} {a : Act} {w w' : World} (s : Sim fr g st a w) (q : Quiet g w g' w') : Sim fr g' st a w' where
 mem := s.mem.quiet q
 env t v hv := let ⟨h1, h2, x, h3, h4⟩ := s.env t v hv; ⟨h1, h2, x, h3, h4.mono q.le (q.same s.mem)⟩
 bx t e he := let ⟨h1, b, h2, h3⟩ := s.bx t e he; ⟨h1, b, h2, h3.quiet s.mem q⟩
 bxd := s.bxd
 ad t v hv := let ⟨h1, x, h3, h4⟩ := s.ad t v hv; ⟨h1, x, h3, h4.mono q.le (q.same s.mem)⟩
 size := s.size
 defers := s.defers
 keep := s.keep.quiet q
 own h b l hlo hb hl := s.own h b l hlo hb (by rw [← q.φ]; exact hl)
theorem ne_of_out {l : List Nat} {d t : Nat} (hd : d ∉ l) (ht : t ∈ l) : d ≠ t := by
 intro e
 subst e
 exact hd ht
theorem ne_of_in {l : List Nat} {d t : Nat} (hd : d ∈ l) (ht : t ∉ l) : d ≠ t := by
 intro e
 subst e
 exact ht hd
theorem put_tmps_same (a : Act) (d : Nat) (x : Value) (h : d < a.tmps.size) : (a.put (some d) x).tmps[d]? = some x := by
 simp [Act.put, h]
theorem put_tmps_other (a : Act) (d t : Nat) (x : Value) (h : d ≠ t) : (a.put (some d) x).tmps[t]? = a.tmps[t]? := by
 simp [Act.put, Array.getElem?_setIfInBounds_ne h]
theorem put_size (a : Act) (d : Nat) (x : Value) : (a.put (some d) x).tmps.size = a.tmps.size := by simp [Act.put]
theorem ImgA.put {BS : List Nat} {g : Gh} {a : Act} {w : World} {v : V} {x : Value} {d : Nat} {y : Value} (hd : d ∉ BS) (h : ImgA BS g a w v x) : ImgA BS g (a.put (some d) y) w v x := by
  cases v <;> first
    | exact h
    | (obtain ⟨h0, b, h1, h2⟩ := h
       exact ⟨h0, b, by rw [put_tmps_other _ _ _ _ (ne_of_out hd h0)]; exact h1, h2⟩)
theorem Sim.put_env {fr : Fr} {g : Gh} {st : St} {a : Act} {w : World} (s : Sim fr g st a w) {d : Nat} {v : V} {x : Value} (hA : d ∉ fr.AS) (hB : d ∉ fr.BS) (hn : d < fr.nt) (hv : Img g w v x) :
  Sim fr g { st with env := (d, v) :: st.env } (a.put (some d) x) w where
 mem := s.mem
 env t u hu := by
  simp only [Env.get_cons] at hu
  split at hu
  ·rename_i h; subst h
   cases hu
   exact ⟨hA, hB, x, put_tmps_same _ _ _ (by rw [s.size]; exact hn), hv⟩
  ·rename_i h
   obtain ⟨h1, h2, y, h3, h4⟩ := s.env t u hu
   exact ⟨h1, h2, y, by rw [put_tmps_other _ _ _ _ h]; exact h3, h4⟩
 bx t e he := by
  obtain ⟨h1, b, h2, h3⟩ := s.bx t e he
  exact ⟨h1, b, by rw [put_tmps_other _ _ _ _ (ne_of_out hB h1)]; exact h2, h3⟩
 bxd t t' e e' b hne he he' h1 := by
  have h2 := (s.bx t e he).1
  have h3 := (s.bx t' e' he').1
  rw [put_tmps_other _ _ _ _ (ne_of_out hB h3)]
  rw [put_tmps_other _ _ _ _ (ne_of_out hB h2)] at h1
  exact s.bxd t t' e e' b hne he he' h1
 ad t u hu := by
  obtain ⟨h1, y, h3, h4⟩ := s.ad t u hu
  exact ⟨h1, y, by rw [put_tmps_other _ _ _ _ (ne_of_out hA h1)]; exact h3, h4.put hB⟩
 size := by rw [put_size]; exact s.size
 defers := s.defers
 keep := s.keep
 own := s.own
theorem Sim.put_ad {fr : Fr} {g : Gh} {st : St} {a : Act} {w : World} (s : Sim fr g st a w) {d : Nat} {v : V} {x : Value} (hA : d ∈ fr.AS) (hn : d < fr.nt) (hv : ImgA fr.BS g a w v x) :
  Sim fr g { st with ad := (d, v) :: st.ad } (a.put (some d) x) w where
 mem := s.mem
 env t u hu := by
  obtain ⟨h1, h2, y, h3, h4⟩ := s.env t u hu
  exact ⟨h1, h2, y, by rw [put_tmps_other _ _ _ _ (ne_of_in hA h1)]; exact h3, h4⟩
 bx t e he := by
  obtain ⟨h1, b, h2, h3⟩ := s.bx t e he
  exact ⟨h1, b, by rw [put_tmps_other _ _ _ _ (ne_of_out (fr.disj d hA) h1)]; exact h2, h3⟩
 bxd t t' e e' b hne he he' h1 := by
  have h2 := (s.bx t e he).1
  have h3 := (s.bx t' e' he').1
  rw [put_tmps_other _ _ _ _ (ne_of_out (fr.disj d hA) h3)]
  rw [put_tmps_other _ _ _ _ (ne_of_out (fr.disj d hA) h2)] at h1
  exact s.bxd t t' e e' b hne he he' h1
 ad t u hu := by
  simp only [Env.get_cons] at hu
  split at hu
  ·rename_i h; subst h
   cases hu
   exact ⟨hA, x, put_tmps_same _ _ _ (by rw [s.size]; exact hn), hv.put (fr.disj d hA)⟩
  ·rename_i h
   obtain ⟨h1, y, h3, h4⟩ := s.ad t u hu
   exact ⟨h1, y, by rw [put_tmps_other _ _ _ _ h]; exact h3, h4.put (fr.disj d hA)⟩
 size := by rw [put_size]; exact s.size
 defers := s.defers
 keep := s.keep
 own := s.own
end Go.Am
namespace Go.Am
open Go
structure Upd (w w' : World) (b : Nat) (o : Obj) : Prop where
 here : w'.heap[b]? = some o
 other : ∀ k, k ≠ b → w'.heap[k]? = w.heap[k]?
 size : w'.heap.size = w.heap.size
 os : w'.os = w.os
 tape : w'.tape = w.tape
 output : w'.output = w.output
structure New (w w' : World) (o : Obj) : Prop where
 here : w'.heap[w.heap.size]? = some o
 old : ∀ k, k < w.heap.size → w'.heap[k]? = w.heap[k]?
 size : w'.heap.size = w.heap.size + 1
 os : w'.os = w.os
 tape : w'.tape = w.tape
 output : w'.output = w.output
theorem New.alloc (w : World) (o : Obj) : New w (w.alloc o) o :=
 ⟨heap_alloc_new w o, fun _ hk => heap_alloc_old w o hk, by simp, rfl, rfl, rfl⟩
theorem New.drew (w : World) (o : Obj) : New w (w.drew.alloc o) o :=
 ⟨heap_alloc_new w.drew o, fun _ hk => heap_alloc_old w.drew o hk, by simp, rfl, rfl, rfl⟩
def Gh.add (g : Gh) (h : Nat) (l : Loc) : Gh := ⟨fun i => if i = h then some l else g.φ i, g.I⟩
theorem Gh.le_add {g : Gh} {h : Nat} {l : Loc} (hf : g.φ h = none) : Gh.le g (g.add h l) where
 φ i x hi := by
  show (if i = h then some l else g.φ i) = some x
  split
  ·rename_i e; subst e; rw [hf] at hi; cases hi
  ·exact hi
 I _ hb := hb
def CellsAt (g : Gh) (w : World) (e : V) (cs : Array Value) : Prop :=
 cs.size = e.cells.length ∧ ∀ (j : Nat) (c : V), e.cells[j]? = some c → ∃ v, cs[j]? = some v ∧ v.oneCell' = true ∧ Img g w c v
def CkOk (P : Program) (src : Nat → Nat) (ck : Callk) : Prop :=
 ∀ f args lo mem v mem', ck f args lo mem = some (v, mem') → ∀ g w (xs : List Value), MemOk g mem w → FreshFrom g mem mem.next → args.length = xs.length →
  (∀ (i : Nat) (c : V) (x : Value), args[i]? = some c → xs[i]? = some x → Img g w c x) → lo ≤ mem.next →
  Calls P (src f) xs.toArray w fun e w' => ∃ x g', e = .returned x ∧ Img g' w' v x ∧ Gh.le g g' ∧ MemOk g' mem' w' ∧ FreshFrom g' mem' mem'.next ∧ mem.next ≤ mem'.next ∧
   (∀ h, h < mem.next → mem.blk h = none → mem'.blk h = none) ∧ (∀ h, h < mem.next → g.φ h = none → g'.φ h = none) ∧
   (∀ b, g'.I b → g.I b ∨ w.heap.size ≤ b) ∧
   Keep w.heap.size (fun b => ∃ h B l, lo ≤ h ∧ mem.blk h = some B ∧ g.φ h = some l ∧ l.b = b) w w' ∧
   (∀ h B l, lo ≤ h → mem'.blk h = some B → g'.φ h = some l → w.heap.size ≤ l.b ∨ ∃ h B l', lo ≤ h ∧ mem.blk h = some B ∧ g.φ h = some l' ∧ l'.b = l.b)
def DImg (d : D) (BS : List Nat) (g : Gh) (a : Act) (w : World) (v : V) (x : Value) : Prop :=
 match d with
 | .a _ => ImgA BS g a w v x
 | _ => Img g w v x
def PlanRun (src : Nat → Nat) (fr : Fr) (g : Gh) (st : St) (a : Act) (w : World) (h : Nat) (d : D) (r : Result Next) : Plan → Prop
 | .ret v => ∃ x w' g', r = .ok (.value x) w' ∧ Quiet g w g' w' ∧ DImg d fr.BS g' a w' v x
 | .rd h' f => ∀ b v, st.mem.blk h' = some b → f b = some v → ∃ x, r = .ok (.value x) w ∧ Img g w v x
 | .rdb t f => ∀ e v, st.bx.get t = some e → f e = some v → ∃ x, r = .ok (.value x) w ∧ Img g w v x
 | .wr h' f v => v = .und ∧ ∀ b b', st.mem.blk h' = some b → f b = some b' → ∃ w' loc o, r = .ok .skip w' ∧ g.φ h' = some loc ∧ Upd w w' loc.b o ∧ BlkOk g w' loc b'
 | .wrb t f => ∀ e e', st.bx.get t = some e → f e = some e' → ∃ w' b cs T, r = .ok .skip w' ∧ a.tmps[t]? = some (.pointer (some ⟨b, 0, none⟩)) ∧ Upd w w' b (.cells cs T (0, 0)) ∧ CellsAt g w e' cs
 | .bx e => ∃ w' cs T, r = .ok (.value (.pointer (some ⟨w.heap.size, 0, none⟩))) w' ∧ New w w' (.cells cs T (0, 0)) ∧ CellsAt g w e cs
 | .alloc b gv => ∃ w' x loc o, r = .ok (.value x) w' ∧ New w w' o ∧ loc.b = w.heap.size ∧ BlkOk (g.add h loc) w' loc b ∧ Img (g.add h loc) w' (gv h) x
 | .app d' sz x => ∀ s xs, view st.mem x = some (s, xs) →
   (d' = none → xs = [] → ∃ y, r = .ok (.value y) w ∧ Img g w .nil y) ∧
   (d' = none → xs ≠ [] → s = sz → xs.length < big → ∃ w' y loc o, r = .ok (.value y) w' ∧ New w w' o ∧ loc.b = w.heap.size ∧ BlkOk (g.add h loc) w' loc (.row sz xs) ∧ Img (g.add h loc) w' (.row sz h 0 xs.length) y) ∧
   (∀ h' o l es, d' = some (h', o, l) → (s = sz ∨ xs.length = 0) → l + xs.length < big → st.mem.blk h' = some (.row sz es) → o + l ≤ es.length →
    ∃ w' y loc ob, r = .ok (.value y) w' ∧ (New w w' ob ∧ loc.b = w.heap.size ∨ ∃ loc0, g.φ h' = some loc0 ∧ loc.b = loc0.b ∧ Upd w w' loc0.b ob) ∧
     BlkOk (g.add h loc) w' loc (.row sz ((es.drop o).take l ++ xs)) ∧ Img (g.add h loc) w' (.row sz h 0 (l + xs.length)) y)
 | .cpy sz h' o l x => ∀ s xs es, view st.mem x = some (s, xs) → st.mem.blk h' = some (.row sz es) → (s = sz ∨ xs.length = 0) → o + l ≤ es.length →
   ∃ w' loc ob, r = .ok (.value (.int .i64 (min l xs.length : Nat))) w' ∧ g.φ h' = some loc ∧ (Upd w w' loc.b ob) ∧
    BlkOk g w' loc (.row sz (es.take o ++ xs.take (min l xs.length) ++ es.drop (o + min l xs.length)))
 | .call f args => ∃ xs : List Value, r = .ok (.enter (src f) xs.toArray) w ∧ args.length = xs.length ∧ ∀ (i : Nat) (c : V) (x : Value), args[i]? = some c → xs[i]? = some x → Img g w c x
 | .frz t sz => ∀ e, st.bx.get t = some (.agg e) → e.length = sz → ∃ x, r = .ok (.value x) w ∧ Img g w (.agg e) x
theorem MemOk.upd {g : Gh} {mem : Mem} {w w' : World} (hm : MemOk g mem w) {h : Nat} {b0 b' : Blk} {loc : Loc} {o : Obj} (h0 : mem.blk h = some b0) (hφ : g.φ h = some loc) (u : Upd w w' loc.b o) (hb : BlkOk g w' loc b') :
  MemOk g (mem.set h (some b')) w' ∧ Same g.I w w' := by
 obtain ⟨l0, e0, _, hI0, hlt0⟩ := hm.blk h b0 h0
 rw [hφ] at e0; cases e0
 have hs : Same g.I w w' := fun b hI => u.other b (fun e => hI0 (e ▸ hI))
 refine ⟨⟨fun k b hk => ?_, fun k k' b b1 l l' hne hk hk' hl hl' => ?_, fun b hI => by rw [u.size]; exact hm.lt b hI⟩, hs⟩
 ·by_cases e : k = h
  ·subst e
   simp [Mem.set] at hk
   subst hk
   exact ⟨loc, hφ, hb, hI0, by rw [u.size]; exact hlt0⟩
  ·simp [Mem.set, e] at hk
   obtain ⟨l, h1, h2, h3, h4⟩ := hm.blk k b hk
   exact ⟨l, h1, h2.mono (.refl g) hs (u.other _ (hm.inj k h b b0 l loc e hk h0 h1 hφ)), h3, by rw [u.size]; exact h4⟩
 ·have get : ∀ (i : Nat) (c : Blk), (mem.set h (some b')).blk i = some c → ∃ c0, mem.blk i = some c0 := by
   intro i c hi
   by_cases e : i = h
   ·subst e; exact ⟨b0, h0⟩
   ·simp [Mem.set, e] at hi; exact ⟨c, hi⟩
  obtain ⟨c, hc⟩ := get k b hk
  obtain ⟨c', hc'⟩ := get k' b1 hk'
  exact hm.inj k k' c c' l l' hne hc hc' hl hl'
theorem MemOk.new {g : Gh} {mem : Mem} {w w' : World} (hm : MemOk g mem w) {h : Nat} {b' : Blk} {loc : Loc} {o : Obj} (hf : g.φ h = none) (u : New w w' o) (hl : loc.b = w.heap.size) (hb : BlkOk (g.add h loc) w' loc b') :
  MemOk (g.add h loc) (mem.set h (some b')) w' ∧ Same g.I w w' := by
 have hs : Same g.I w w' := fun b hI => u.old b (hm.lt b hI)
 have hle := Gh.le_add (l := loc) hf
 have at' : ∀ i, i ≠ h → (g.add h loc).φ i = g.φ i := fun i hi => by simp [Gh.add, hi]
 refine ⟨⟨fun k b hk => ?_, fun k k' b b1 l l' hne hk hk' hl1 hl2 => ?_, fun b hI => by rw [u.size]; exact Nat.lt_succ_of_lt (hm.lt b hI)⟩, hs⟩
 ·by_cases e : k = h
  ·subst e
   simp [Mem.set] at hk
   subst hk
   exact ⟨loc, by simp [Gh.add], hb, fun hI => by have := hm.lt _ hI; omega, by rw [u.size]; omega⟩
  ·simp [Mem.set, e] at hk
   obtain ⟨l, h1, h2, h3, h4⟩ := hm.blk k b hk
   exact ⟨l, by rw [at' k e]; exact h1, h2.mono hle hs (u.old _ h4), h3, by rw [u.size]; omega⟩
 ·by_cases e : k = h
  ·subst e
   have e2 : k' ≠ k := fun e => hne e.symm
   simp [Gh.add] at hl1
   subst hl1
   simp [Mem.set, e2] at hk'
   rw [at' _ e2] at hl2
   obtain ⟨l, h1, _, _, h4⟩ := hm.blk k' b1 hk'
   rw [hl2] at h1; cases h1
   omega
  ·simp [Mem.set, e] at hk
   rw [at' _ e] at hl1
   by_cases e2 : k' = h
   ·subst e2
    simp [Gh.add] at hl2
    subst hl2
    obtain ⟨l2, h1, _, _, h4⟩ := hm.blk k b hk
    rw [hl1] at h1; cases h1
    omega
   ·simp [Mem.set, e2] at hk'
    rw [at' _ e2] at hl2
    exact hm.inj k k' b b1 l l' hne hk hk' hl1 hl2
theorem MemOk.kill {g : Gh} {mem : Mem} {w : World} (hm : MemOk g mem w) (h : Nat) : MemOk g (mem.set h none) w := by
 have get : ∀ (i : Nat) (c : Blk), (mem.set h none).blk i = some c → mem.blk i = some c := by
  intro i c hi
  by_cases e : i = h
  ·subst e; simp [Mem.set] at hi
  ·simp [Mem.set, e] at hi; exact hi
 exact ⟨fun k b hk => hm.blk k b (get k b hk), fun k k' b b1 l l' hne hk hk' => hm.inj k k' b b1 l l' hne (get k b hk) (get k' b1 hk'), hm.lt⟩
theorem MemOk.retake {g : Gh} {mem : Mem} {w w' : World} (hm : MemOk g mem w) {h0 h : Nat} {b0 b' : Blk} {loc0 loc : Loc} {o : Obj} (hb0 : mem.blk h0 = some b0) (hφ : g.φ h0 = some loc0) (hl : loc.b = loc0.b) (hf : g.φ h = none) (u : Upd w w' loc0.b o)
  (hb : BlkOk (g.add h loc) w' loc b') : MemOk (g.add h loc) ((mem.set h0 none).set h (some b')) w' ∧ Same g.I w w' := by
 obtain ⟨l0, e0, _, hI0, hlt0⟩ := hm.blk h0 b0 hb0
 rw [hφ] at e0; cases e0
 have hs : Same g.I w w' := fun b hI => u.other b (fun e => hI0 (e ▸ hI))
 have hle := Gh.le_add (l := loc) hf
 have at' : ∀ i, i ≠ h → (g.add h loc).φ i = g.φ i := fun i hi => by simp [Gh.add, hi]
 have get : ∀ (i : Nat) (c : Blk), i ≠ h → ((mem.set h0 none).set h (some b')).blk i = some c → mem.blk i = some c ∧ i ≠ h0 := by
  intro i c e hi
  simp [Mem.set, e] at hi
  exact ⟨hi.2, hi.1⟩
 refine ⟨⟨fun k b hk => ?_, fun k k' b b1 l l' hne hk hk' hl1 hl2 => ?_, fun b hI => by rw [u.size]; exact hm.lt b hI⟩, hs⟩
 ·by_cases e : k = h
  ·subst e
   simp [Mem.set] at hk
   subst hk
   exact ⟨loc, by simp [Gh.add], hb, by rw [hl]; exact hI0, by rw [u.size, hl]; exact hlt0⟩
  ·obtain ⟨hk1, hk0⟩ := get k b e hk
   obtain ⟨l, h1, h2, h3, h4⟩ := hm.blk k b hk1
   exact ⟨l, by rw [at' k e]; exact h1, h2.mono hle hs (u.other _ (hm.inj k h0 b b0 l loc0 hk0 hk1 hb0 h1 hφ)), h3, by rw [u.size]; exact h4⟩
 ·by_cases e : k = h
  ·subst e
   have e2 : k' ≠ k := fun e => hne e.symm
   simp [Gh.add] at hl1
   subst hl1
   obtain ⟨hk1, hk0⟩ := get k' b1 e2 hk'
   rw [at' _ e2] at hl2
   rw [hl]
   exact (hm.inj k' h0 b1 b0 l' loc0 hk0 hk1 hb0 hl2 hφ).symm
  ·obtain ⟨hk1, hk0⟩ := get k b e hk
   rw [at' _ e] at hl1
   by_cases e2 : k' = h
   ·subst e2
    simp [Gh.add] at hl2
    subst hl2
    rw [hl]
    exact hm.inj k h0 b b0 l loc0 hk0 hk1 hb0 hl1 hφ
   ·obtain ⟨hk2, _⟩ := get k' b1 e2 hk'
    rw [at' _ e2] at hl2
    exact hm.inj k k' b b1 l l' hne hk1 hk2 hl1 hl2
theorem Sim.change {fr : Fr} {g g' : Gh} {st : St} {a : Act} {w w' : World} {mem' : Mem} (s : Sim fr g st a w) (hm : MemOk g' mem' w') (hle : Gh.le g g')
  (hch : ∀ b, b < w.heap.size → w'.heap[b]? = w.heap[b]? ∨ ∃ h0 B0 l0, fr.lo ≤ h0 ∧ st.mem.blk h0 = some B0 ∧ g.φ h0 = some l0 ∧ l0.b = b)
  (hsz : w.heap.size ≤ w'.heap.size) (hos : w'.os = w.os) (htape : w'.tape = w.tape) (hout : w'.output = w.output)
  (hI : ∀ b, g'.I b → g.I b ∨ w.heap.size ≤ b)
  (hfree : ∀ h B l, mem'.blk h = some B → g'.φ h = some l → w.heap.size ≤ l.b ∨ ∃ h0 B0 l0, (fr.lo ≤ h → fr.lo ≤ h0) ∧ st.mem.blk h0 = some B0 ∧ g.φ h0 = some l0 ∧ l0.b = l.b) :
  Sim fr g' { st with mem := mem' } a w' := by
 have hs : Same g.I w w' := fun b hb => by
  rcases hch b (s.mem.lt b hb) with h | ⟨h0, B0, l0, _, h1, h2, rfl⟩
  ·exact h
  ·obtain ⟨l, e, _, h3, _⟩ := s.mem.blk h0 B0 h1
   rw [h2] at e; cases e
   exact absurd hb h3
 have hn : fr.n0 ≤ w.heap.size := s.keep.size
 refine ⟨hm, fun t v hv => ?_, fun t e he => ?_, s.bxd, fun t v hv => ?_, s.size, s.defers, ⟨hos.trans s.keep.os, htape.trans s.keep.tape, hout.trans s.keep.output, Nat.le_trans hn hsz, fun b hb hS => ?_⟩, fun h b l hlo hb hl => ?_⟩
 ·obtain ⟨h1, h2, x, h3, h4⟩ := s.env t v hv
  exact ⟨h1, h2, x, h3, h4.mono hle hs⟩
 ·obtain ⟨h1, b, h2, h3⟩ := s.bx t e he
  obtain ⟨cs, T, h4, h5, h6⟩ := h3.cells
  have hlt := lt_of_heap h4
  refine ⟨h1, b, h2, ⟨⟨cs, T, ?_, h5, fun j c hc => let ⟨v, x, y, z⟩ := h6 j c hc; ⟨v, x, y, z.mono hle hs⟩⟩, fun hb => ?_, h3.new, fun h B l hB hl => ?_⟩⟩
  ·rcases hch b hlt with h | ⟨h0, B0, l0, _, h7, h8, h9⟩
   ·rw [h]; exact h4
   ·exact absurd h9 (h3.free h0 B0 l0 h7 h8)
  ·rcases hI b hb with h | h
   ·exact h3.out h
   ·omega
  ·rcases hfree h B l hB hl with h | ⟨h0, B0, l0, _, h7, h8, h9⟩
   ·omega
   ·rw [← h9]; exact h3.free h0 B0 l0 h7 h8
 ·obtain ⟨h1, x, h3, h4⟩ := s.ad t v hv
  exact ⟨h1, x, h3, h4.mono hle hs⟩
 ·rcases hch b (Nat.lt_of_lt_of_le hb hn) with h | ⟨h0, B0, l0, h6, h7, h8, rfl⟩
  ·exact h.trans (s.keep.block b hb hS)
  ·rcases s.own h0 B0 l0 h6 h7 h8 with h | h
   ·omega
   ·exact absurd h hS
 ·rcases hfree h b l hb hl with h | ⟨h0, B0, l0, h6, h7, h8, h9⟩
  ·exact .inl (Nat.le_trans hn h)
  ·rw [← h9]; exact s.own h0 B0 l0 (h6 hlo) h7 h8
theorem Sim.upd {fr : Fr} {g : Gh} {st : St} {a : Act} {w w' : World} (s : Sim fr g st a w) {h : Nat} {b0 b' : Blk} {loc : Loc} {o : Obj} (hlo : fr.lo ≤ h) (h0 : st.mem.blk h = some b0) (hφ : g.φ h = some loc) (u : Upd w w' loc.b o) (hb : BlkOk g w' loc b') :
  Sim fr g { st with mem := st.mem.set h (some b') } a w' := by
 refine s.change (s.mem.upd h0 hφ u hb).1 (.refl g) (fun b _ => ?_) (Nat.le_of_eq u.size.symm) u.os u.tape u.output (fun b hb => .inl hb) (fun k B l hk hl => .inr ?_)
 ·by_cases e : b = loc.b
  ·exact .inr ⟨h, b0, loc, hlo, h0, hφ, e.symm⟩
  ·exact .inl (u.other b e)
 ·by_cases e : k = h
  ·subst e
   rw [hφ] at hl; cases hl
   exact ⟨k, b0, loc, id, h0, hφ, rfl⟩
  ·simp [Mem.set, e] at hk
   exact ⟨k, B, l, id, hk, hl, rfl⟩
theorem Sim.new {fr : Fr} {g : Gh} {st : St} {a : Act} {w w' : World} (s : Sim fr g st a w) {h : Nat} {b' : Blk} {loc : Loc} {o : Obj} (hf : g.φ h = none) (u : New w w' o) (hl : loc.b = w.heap.size) (hb : BlkOk (g.add h loc) w' loc b') :
  Sim fr (g.add h loc) { st with mem := st.mem.set h (some b') } a w' := by
 refine s.change (s.mem.new hf u hl hb).1 (Gh.le_add hf) (fun b hb => .inl (u.old b hb)) (by rw [u.size]; omega) u.os u.tape u.output (fun b hb => .inl hb) (fun k B l hk hl' => ?_)
 by_cases e : k = h
 ·subst e
  simp [Gh.add] at hl'
  subst hl'
  exact .inl (Nat.le_of_eq hl.symm)
 ·simp [Mem.set, e] at hk
  simp [Gh.add, e] at hl'
  exact .inr ⟨k, B, l, id, hk, hl', rfl⟩
theorem Sim.killed {fr : Fr} {g : Gh} {st : St} {a : Act} {w : World} (s : Sim fr g st a w) (h : Nat) : Sim fr g { st with mem := st.mem.set h none } a w := by
 refine s.change (s.mem.kill h) (.refl g) (fun b _ => .inl rfl) (Nat.le_refl _) rfl rfl rfl (fun b hb => .inl hb) (fun k B l hk hl => .inr ?_)
 by_cases e : k = h
 ·subst e; simp [Mem.set] at hk
 ·simp [Mem.set, e] at hk
  exact ⟨k, B, l, id, hk, hl, rfl⟩
theorem Sim.retake {fr : Fr} {g : Gh} {st : St} {a : Act} {w w' : World} (s : Sim fr g st a w) {h0 h : Nat} {b0 b' : Blk} {loc0 loc : Loc} {o : Obj} (hlo : fr.lo ≤ h0) (hb0 : st.mem.blk h0 = some b0) (hφ : g.φ h0 = some loc0) (hl : loc.b = loc0.b) (hf : g.φ h = none) (u : Upd w w' loc0.b o)
  (hb : BlkOk (g.add h loc) w' loc b') : Sim fr (g.add h loc) { st with mem := (st.mem.set h0 none).set h (some b') } a w' := by
 refine s.change (s.mem.retake hb0 hφ hl hf u hb).1 (Gh.le_add hf) (fun b _ => ?_) (Nat.le_of_eq u.size.symm) u.os u.tape u.output (fun b hb => .inl hb) (fun k B l hk hl' => .inr ?_)
 ·by_cases e : b = loc0.b
  ·exact .inr ⟨h0, b0, loc0, hlo, hb0, hφ, e.symm⟩
  ·exact .inl (u.other b e)
 ·by_cases e : k = h
  ·subst e
   simp [Gh.add] at hl'
   subst hl'
   exact ⟨h0, b0, loc0, fun _ => hlo, hb0, hφ, hl.symm⟩
  ·simp [Mem.set, e] at hk
   simp [Gh.add, e] at hl'
   exact ⟨k, B, l, id, hk.2, hl', rfl⟩
theorem Sim.wrb {fr : Fr} {g : Gh} {st : St} {a : Act} {w w' : World} (s : Sim fr g st a w) {t : Nat} {e e' : V} {b : Nat} {cs : Array Value} {T : TypeId} (he : st.bx.get t = some e) (ht : a.tmps[t]? = some (.pointer (some ⟨b, 0, none⟩)))
  (u : Upd w w' b (.cells cs T (0, 0))) (hc : CellsAt g w e' cs) : Sim fr g { st with bx := (t, e') :: st.bx } a w' := by
 obtain ⟨hB, b1, h1, h2⟩ := s.bx t e he
 rw [ht] at h1
 simp at h1
 subst h1
 obtain ⟨cs0, T0, h3, _, _⟩ := h2.cells
 have hlt := lt_of_heap h3
 have hs : Same g.I w w' := fun k hI => u.other k (fun e => h2.out (e ▸ hI))
 refine ⟨⟨fun k B hk => ?_, s.mem.inj, fun k hI => by rw [u.size]; exact s.mem.lt k hI⟩, fun t v hv => ?_, fun t' x hx => ?_, fun t1 t2 e1 e2 k hne he1 he2 hk => ?_, fun t v hv => ?_, s.size, s.defers,
  ⟨u.os.trans s.keep.os, u.tape.trans s.keep.tape, u.output.trans s.keep.output, by rw [u.size]; exact s.keep.size, fun k hk hS => ?_⟩, s.own⟩
 ·obtain ⟨l, h4, h5, h6, h7⟩ := s.mem.blk k B hk
  exact ⟨l, h4, h5.mono (.refl g) hs (u.other _ (h2.free k B l hk h4)), h6, by rw [u.size]; exact h7⟩
 ·obtain ⟨h4, h5, x, h6, h7⟩ := s.env t v hv
  exact ⟨h4, h5, x, h6, h7.mono (.refl g) hs⟩
 ·simp only [Env.get_cons] at hx
  split at hx
  ·rename_i e1; subst e1
   cases hx
   exact ⟨hB, b, ht, ⟨⟨cs, T, u.here, hc.1, fun j c hj => let ⟨v, p, q, r⟩ := hc.2 j c hj; ⟨v, p, q, r.mono (.refl g) hs⟩⟩, h2.out, h2.new, h2.free⟩⟩
  ·rename_i hne
   obtain ⟨h4, b2, h5, h6⟩ := s.bx t' x hx
   obtain ⟨cs2, T2, h7, h8, h9⟩ := h6.cells
   have hb2 : b2 ≠ b := fun e2 => by
    subst e2
    exact s.bxd t t' e x b2 hne he hx ht h5
   exact ⟨h4, b2, h5, ⟨⟨cs2, T2, by rw [u.other _ hb2]; exact h7, h8, fun j c hj => let ⟨v, p, q, r⟩ := h9 j c hj; ⟨v, p, q, r.mono (.refl g) hs⟩⟩, h6.out, h6.new, h6.free⟩⟩
 ·have old : ∀ t' x, Env.get ((t, e') :: st.bx) t' = some x → ∃ x0, st.bx.get t' = some x0 := by
   intro t' x hx
   simp only [Env.get_cons] at hx
   split at hx
   ·rename_i e1; subst e1; exact ⟨e, he⟩
   ·exact ⟨x, hx⟩
  obtain ⟨x1, hx1⟩ := old t1 e1 he1
  obtain ⟨x2, hx2⟩ := old t2 e2 he2
  exact s.bxd t1 t2 x1 x2 k hne hx1 hx2 hk
 ·obtain ⟨h4, x, h6, h7⟩ := s.ad t v hv
  exact ⟨h4, x, h6, h7.mono (.refl g) hs⟩
 ·have hk2 : k ≠ b := fun e2 => by have := h2.new; omega
  exact (u.other k hk2).trans (s.keep.block k hk hS)
theorem hasLoc_get {d : Nat} : ∀ {ad : Env}, hasLoc d ad = false → ∀ {t : Nat} {v : V}, ad.get t = some v → ∀ off, v ≠ .loc d off
  | [], _, _, _, h, _ => by cases h
  | (t', v') :: ad, hf, t, v, h, off => by
    have key : hasLoc d ad = false ∧ ∀ off, v' ≠ .loc d off := by
      cases v' <;> first
        | exact ⟨hf, fun _ => by intro e; cases e⟩
        | (rename_i t2 o2
           change cond (Nat.beq t2 d) true (hasLoc d ad) = false at hf
           cases hb : Nat.beq t2 d with
           | true => rw [hb] at hf; cases hf
           | false =>
             rw [hb] at hf
             refine ⟨hf, fun o e => ?_⟩
             cases e
             rw [Nat.beq_refl] at hb
             cases hb)
    rw [Env.get_cons] at h
    split at h
    · cases h; exact key.2 off
    · exact hasLoc_get key.1 h off
theorem Sim.box {fr : Fr} {g : Gh} {st : St} {a : Act} {w w' : World} (s : Sim fr g st a w) {d : Nat} {e : V} {cs : Array Value} {T : TypeId} (hB : d ∈ fr.BS) (hn : d < fr.nt)
    (u : New w w' (.cells cs T (0, 0))) (hc : CellsAt g w e cs) (hl : hasLoc d st.ad = false) :
    Sim fr g { st with bx := (d, e) :: st.bx } (a.put (some d) (.pointer (some ⟨w.heap.size, 0, none⟩))) w' := by
  have hA : d ∉ fr.AS := fun h => fr.disj d h hB
  have hs : Same g.I w w' := fun b hI => u.old b (s.mem.lt b hI)
  have hd : d < a.tmps.size := by rw [s.size]; exact hn
  have oldb : ∀ (t : Nat) (x : V) (b : Nat), st.bx.get t = some x → a.tmps[t]? = some (.pointer (some ⟨b, 0, none⟩)) → b < w.heap.size := by
    intro t x b hx hb
    obtain ⟨_, b2, h5, h6⟩ := s.bx t x hx
    rw [hb] at h5; simp at h5; subst h5
    obtain ⟨_, _, h7, _, _⟩ := h6.cells
    exact lt_of_heap h7
  refine ⟨⟨fun k B hk => ?_, s.mem.inj, fun k hI => by rw [u.size]; exact Nat.lt_succ_of_lt (s.mem.lt k hI)⟩, fun t v hv => ?_, fun t' x hx => ?_, fun t1 t2 e1 e2 k hne he1 he2 hk hk2 => ?_, fun t v hv => ?_, by rw [put_size]; exact s.size, s.defers,
    ⟨u.os.trans s.keep.os, u.tape.trans s.keep.tape, u.output.trans s.keep.output, by rw [u.size]; exact Nat.le_succ_of_le s.keep.size, fun k hk hS => ?_⟩, s.own⟩
  · obtain ⟨l, h4, h5, h6, h7⟩ := s.mem.blk k B hk
    exact ⟨l, h4, h5.mono (.refl g) hs (u.old _ h7), h6, by rw [u.size]; omega⟩
  · obtain ⟨h4, h5, x, h6, h7⟩ := s.env t v hv
    exact ⟨h4, h5, x, by rw [put_tmps_other _ _ _ _ (ne_of_in hB h5)]; exact h6, h7.mono (.refl g) hs⟩
  · simp only [Env.get_cons] at hx
    split at hx
    · rename_i e1; subst e1
      cases hx
      refine ⟨hB, w.heap.size, put_tmps_same _ _ _ hd, ⟨⟨cs, T, u.here, hc.1, fun j c hj => let ⟨v, p, q, r⟩ := hc.2 j c hj; ⟨v, p, q, r.mono (.refl g) hs⟩⟩, fun hI => ?_, s.keep.size, fun h B l hB hl e2 => ?_⟩⟩
      · have := s.mem.lt _ hI; omega
      · obtain ⟨l2, h4, _, _, h7⟩ := s.mem.blk h B hB
        rw [hl] at h4; cases h4
        omega
    · rename_i hne
      obtain ⟨h4, b2, h5, h6⟩ := s.bx t' x hx
      obtain ⟨cs2, T2, h7, h8, h9⟩ := h6.cells
      exact ⟨h4, b2, by rw [put_tmps_other _ _ _ _ hne]; exact h5, ⟨⟨cs2, T2, by rw [u.old _ (lt_of_heap h7)]; exact h7, h8, fun j c hj => let ⟨v, p, q, r⟩ := h9 j c hj; ⟨v, p, q, r.mono (.refl g) hs⟩⟩, h6.out, h6.new, h6.free⟩⟩
  · simp only [Env.get_cons] at he1 he2
    by_cases h1 : d = t1
    · subst h1
      rw [put_tmps_same _ _ _ hd] at hk
      simp at hk
      have h2 : d ≠ t2 := hne
      rw [if_neg h2] at he2
      rw [put_tmps_other _ _ _ _ h2, ← hk] at hk2
      have := oldb t2 e2 _ he2 hk2
      omega
    · rw [if_neg h1] at he1
      rw [put_tmps_other _ _ _ _ h1] at hk
      by_cases h2 : d = t2
      · subst h2
        rw [put_tmps_same _ _ _ hd] at hk2
        simp at hk2
        rw [← hk2] at hk
        have := oldb t1 e1 _ he1 hk
        omega
      · rw [if_neg h2] at he2
        rw [put_tmps_other _ _ _ _ h2] at hk2
        exact s.bxd t1 t2 e1 e2 k hne he1 he2 hk hk2
  · obtain ⟨h4, x, h6, h7⟩ := s.ad t v hv
    refine ⟨h4, x, by rw [put_tmps_other _ _ _ _ (ne_of_out hA h4)]; exact h6, ?_⟩
    have h8 := h7.mono (.refl g) hs
    have h9 := hasLoc_get hl hv
    revert h8
    cases v <;> first
      | exact fun h => h
      | (rintro ⟨p, b, q, r⟩
         exact ⟨p, b, by rw [put_tmps_other _ _ _ _ (fun e => h9 _ (by rw [e]))]; exact q, r⟩)
  · exact (u.old k (Nat.lt_of_lt_of_le hk s.keep.size)).trans (s.keep.block k hk hS)
end Go.Am
namespace Go.Am
open Go
theorem mapO_cons {α β : Type} (f : α → Option β) (x : α) (xs : List α) : mapO f (x :: xs) = (match f x with
  | none => none
  | some y => match mapO f xs with
   | none => none
   | some ys => some (y :: ys)) := rfl
theorem mapO_spec {α β : Type} {f : α → Option β} : ∀ {xs : List α} {ys : List β}, mapO f xs = some ys → xs.length = ys.length ∧ ∀ (i : Nat) (y : β), ys[i]? = some y → ∃ x, xs[i]? = some x ∧ f x = some y
 | [], ys, h => by cases h; exact ⟨rfl, fun i y h => by simp at h⟩
 | x :: xs, ys, h => by
  rw [mapO_cons] at h
  cases hx : f x with
  | none => rw [hx] at h; cases h
  | some y =>
   rw [hx] at h
   cases hm : mapO f xs with
   | none => rw [hm] at h; cases h
   | some zs =>
    rw [hm] at h
    cases h
    obtain ⟨h1, h2⟩ := mapO_spec hm
    refine ⟨by simp [h1], fun i z hz => ?_⟩
    cases i with
    | zero => simp at hz; subst hz; exact ⟨x, rfl, hx⟩
    | succ i => simpa using h2 i z (by simpa using hz)
def frI (lo : Nat) (g : Gh) (mem : Mem) (b : Nat) : Prop := g.I b ∨ ∃ h B l, lo ≤ h ∧ mem.blk h = some B ∧ g.φ h = some l ∧ l.b = b
theorem freeze_succ (lo : Nat) (m : Mem) (n : Nat) (v : V) : freeze lo m (n + 1) v = (match v with
  | .int k n => some (.int k n)
  | .bool b => some (.bool b)
  | .str s => some (.str s)
  | .nil => some (.lst true 0 [])
  | .lst true sz xs => some (.lst true sz xs)
  | .lst false sz xs => (mapO (freeze lo m n) xs).map (.ro true sz)
  | .row s h o l => match m.blk h with
   | some (.row sz es) => if lo ≤ h ∧ o + l ≤ es.length ∧ sz = s then (mapO (freeze lo m n) ((es.drop o).take l)).map (.ro true sz) else none
   | _ => none
  | .agg cs => (mapO (freeze lo m n) cs).map .agg
  | .tup vs => (mapO (freeze lo m n) vs).map .tup
  | _ => none) := by
 cases v <;> rfl
theorem freeze_cells {lo : Nat} {m : Mem} {n : Nat} {e e' : V} (h : freeze lo m n e = some e') :
  e'.cells.length = e.cells.length ∧ ∀ (j : Nat) (c' : V), e'.cells[j]? = some c' → ∃ c k, e.cells[j]? = some c ∧ k ≤ n ∧ freeze lo m k c = some c' := by
 have single : e'.cells = [e'] → e.cells = [e] → e'.cells.length = e.cells.length ∧ ∀ (j : Nat) (c' : V), e'.cells[j]? = some c' → ∃ c k, e.cells[j]? = some c ∧ k ≤ n ∧ freeze lo m k c = some c' := by
  intro h1 h2
  rw [h1, h2]
  refine ⟨rfl, fun j c' hc => ?_⟩
  cases j with
  | zero => simp at hc; subst hc; exact ⟨e, n, rfl, Nat.le_refl _, h⟩
  | succ j => simp at hc
 cases n with
 | zero => cases h
 | succ n =>
  have h0 := h
  rw [freeze_succ] at h
  cases e with
  | agg cs =>
   simp only [Option.map_eq_some_iff] at h
   obtain ⟨ds, h1, rfl⟩ := h
   obtain ⟨h2, h3⟩ := mapO_spec h1
   refine ⟨h2.symm, fun j c' hc => ?_⟩
   obtain ⟨x, h4, h5⟩ := h3 j c' hc
   exact ⟨x, n, h4, Nat.le_succ n, h5⟩
  | lst p sz xs =>
   cases p with
   | true => cases h; exact single rfl rfl
   | false =>
    simp only [Option.map_eq_some_iff] at h
    obtain ⟨ds, h1, rfl⟩ := h
    exact single rfl rfl
  | row s i o l =>
   simp only at h
   split at h
   ·split at h
    ·simp only [Option.map_eq_some_iff] at h
     obtain ⟨ds, h1, rfl⟩ := h
     exact single rfl rfl
    ·cases h
   ·cases h
  | tup vs =>
   simp only [Option.map_eq_some_iff] at h
   obtain ⟨ds, h1, rfl⟩ := h
   exact single rfl rfl
  | int => cases h; exact single rfl rfl
  | bool => cases h; exact single rfl rfl
  | str => cases h; exact single rfl rfl
  | nil => cases h; exact single rfl rfl
  | _ => cases h
theorem freeze_sound {g : Gh} {w : World} {mem : Mem} {lo : Nat} (hm : MemOk g mem w) : ∀ (n : Nat) (v v' : V) (x : Value), freeze lo mem n v = some v' → Img g w v x → ImgP (frI lo g mem) w v' x := by
 intro n
 induction n using Nat.strongRecOn with
 | _ n ih =>
  intro v v' x h hx
  have hI : ∀ b, g.I b → frI lo g mem b := fun b hb => .inl hb
  have hw : Same g.I w w := fun _ _ => rfl
  cases n with
  | zero => cases h
  | succ n =>
   rw [freeze_succ] at h
   cases v with
   | int k m => cases h; rw [hx.int_inv]; exact .int k m
   | bool b => cases h; rw [hx.bool_inv]; exact .bool b
   | str s => cases h; obtain ⟨b, rfl, rfl⟩ := hx.str_inv; exact .str b
   | nil => cases h; rw [hx.nil_inv]; exact .lst0 true 0 none 0
   | lst p sz xs =>
    cases p with
    | true =>
     cases h
     rcases hx.lst_inv with ⟨rfl, a, c, rfl⟩ | ⟨b, o, cap, vs, rfl, _, _, _, _, _, h | h⟩
     ·exact .lst0 true sz a c
     ·exact h.mono hI hw
     ·cases h
    | false =>
     simp only [Option.map_eq_some_iff] at h
     obtain ⟨ds, h1, rfl⟩ := h
     refine ImgP.ro ?_
     obtain ⟨h2, h3⟩ := mapO_spec h1
     rcases hx.lst_inv with ⟨rfl, a, c, rfl⟩ | ⟨b, o, cap, vs, rfl, hb, hc, hs, hv, hr, _⟩
     ·have : ds = [] := List.eq_nil_of_length_eq_zero (by simpa using h2.symm)
      subst this
      exact .lst0 true sz a c
     ·rw [h2]
      refine .lst true sz ds b o cap vs (.inl hb) (by omega) (fun e he => ?_) (fun i j e c hi hj => ?_) (fun i j e c hi hj => ?_)
      ·obtain ⟨i, hi, rfl⟩ := List.getElem_of_mem he
       obtain ⟨y, h4, h5⟩ := h3 i ds[i] (List.getElem?_eq_getElem hi)
       rw [(freeze_cells h5).1]
       exact hs y (List.mem_of_getElem? h4)
      ·obtain ⟨y, h4, h5⟩ := h3 i e hi
       obtain ⟨c0, k, h6, _, _⟩ := (freeze_cells h5).2 j c hj
       exact hv i j y c0 h4 h6
      ·obtain ⟨y, h4, h5⟩ := h3 i e hi
       obtain ⟨c0, k, h6, h7, h8⟩ := (freeze_cells h5).2 j c hj
       exact ih k (by omega) c0 c _ h8 (hr i j y c0 h4 h6)
   | row s i o l =>
    simp only at h
    split at h
    ·rename_i sz es hb
     split at h
     ·rename_i hc
      obtain ⟨hlo, hol, rfl⟩ := hc
      simp only [Option.map_eq_some_iff] at h
      obtain ⟨ds, h1, rfl⟩ := h
      refine ImgP.ro ?_
      obtain ⟨h2, h3⟩ := mapO_spec h1
      have hlen : ds.length = l := by rw [← h2, List.length_take, List.length_drop]; omega
      rcases hx.row_inv with ⟨loc, cap, hφ, hls, hlc, hcap, rfl⟩ | ⟨rfl, a, rfl⟩
      ·obtain ⟨loc', e1, hB, hnI, _⟩ := hm.blk i _ hb
       rw [hφ] at e1; cases e1
       obtain ⟨h4, h5, cs, T, h6, h7, h8, h9⟩ := hB
       have hat : ∀ (k : Nat) (y : V), ((es.drop o).take l)[k]? = some y → es[o + k]? = some y := by
        intro k y hy
        rw [List.getElem?_take] at hy
        split at hy
        ·simpa using hy
        ·cases hy
       have e0 : Value.slice (some ⟨loc.b, loc.base + o * loc.sz, none⟩) l cap = Value.slice (some ⟨loc.b, loc.base + o * sz, none⟩) ds.length cap := by rw [hls, hlen]
       rw [e0]
       have hcell : ∀ (k j : Nat) (e c : V), ds[k]? = some e → e.cells[j]? = some c → ∃ y c0 m, es[o + k]? = some y ∧ y.cells[j]? = some c0 ∧ m ≤ n ∧ freeze lo mem m c0 = some c := by
        intro k j e c hk hj
        obtain ⟨y, h10, h11⟩ := h3 k e hk
        obtain ⟨c0, m, h12, h13, h14⟩ := (freeze_cells h11).2 j c hj
        exact ⟨y, c0, m, hat k y h10, h12, h13, h14⟩
       refine .lst true sz ds loc.b (loc.base + o * sz) cap (fun k j => cs.getD (loc.base + (o + k) * sz + j) undef) (.inr ⟨i, _, loc, hlo, hb, hφ, rfl⟩) (by omega) (fun e he => ?_) (fun k j e c hk hj => ?_) (fun k j e c hk hj => ?_)
       ·obtain ⟨k, hk, rfl⟩ := List.getElem_of_mem he
        obtain ⟨y, h10, h11⟩ := h3 k ds[k] (List.getElem?_eq_getElem hk)
        rw [(freeze_cells h11).1]
        exact h8 y (List.mem_of_getElem? (hat k y h10))
       ·obtain ⟨y, c0, m, h10, h11, _, _⟩ := hcell k j e c hk hj
        obtain ⟨v, h12, h13, _⟩ := h9 (o + k) j y c0 h10 h11
        have e2 : loc.base + o * sz + k * sz + j = loc.base + (o + k) * sz + j := by rw [Nat.add_mul]; omega
        refine ⟨?_, ?_⟩
        ·rw [cell_of_row w loc.b _ cs T (0, 0) h6, e2, h12]
         simp [h12]
        ·simp only [Array.getD_eq_getD_getElem?, h12, Option.getD_some]; exact h13
       ·obtain ⟨y, c0, m, h10, h11, h15, h16⟩ := hcell k j e c hk hj
        obtain ⟨v, h12, h13, h14⟩ := h9 (o + k) j y c0 h10 h11
        simp only [Array.getD_eq_getD_getElem?, h12, Option.getD_some]
        exact ih m (by omega) c0 c v h16 h14
      ·have : ds = [] := List.eq_nil_of_length_eq_zero hlen
       subst this
       exact .lst0 true sz (some a) 0
     ·cases h
    ·cases h
   | agg cs =>
    simp only [Option.map_eq_some_iff] at h
    obtain ⟨ds, h1, rfl⟩ := h
    obtain ⟨h2, h3⟩ := mapO_spec h1
    obtain ⟨vs, rfl, hl, h5, hr⟩ := hx.agg_inv
    refine .agg ds vs (by omega) h5 (fun i c y hc hy => ?_)
    obtain ⟨c0, h6, h7⟩ := h3 i c hc
    exact ih n (by omega) c0 c y h7 (hr i c0 y h6 hy)
   | tup cs =>
    simp only [Option.map_eq_some_iff] at h
    obtain ⟨ds, h1, rfl⟩ := h
    obtain ⟨h2, h3⟩ := mapO_spec h1
    obtain ⟨vs, rfl, hl, hr⟩ := hx.tup_inv
    refine .tup ds vs (by omega) (fun i c y hc hy => ?_)
    obtain ⟨c0, h6, h7⟩ := h3 i c hc
    exact ih n (by omega) c0 c y h7 (hr i c0 y h6 hy)
   | _ => cases h
theorem MemOk.frozen {g : Gh} {mem : Mem} {w : World} (hm : MemOk g mem w) (lo : Nat) : MemOk ⟨g.φ, frI lo g mem⟩ (mem.kill lo) w ∧ Gh.le g ⟨g.φ, frI lo g mem⟩ := by
 have hle : Gh.le g ⟨g.φ, frI lo g mem⟩ := ⟨fun _ _ h => h, fun _ h => .inl h⟩
 have get : ∀ (i : Nat) (c : Blk), (mem.kill lo).blk i = some c → mem.blk i = some c ∧ i < lo := by
  intro i c hi
  unfold Mem.kill at hi
  simp only at hi
  split at hi
  ·cases hi
  ·exact ⟨hi, by omega⟩
 refine ⟨⟨fun k b hk => ?_, fun k k' b b1 l l' hne hk hk' => hm.inj k k' b b1 l l' hne (get k b hk).1 (get k' b1 hk').1, fun b hb => ?_⟩, hle⟩
 ·obtain ⟨h1, h2⟩ := get k b hk
  obtain ⟨l, h3, h4, h5, h6⟩ := hm.blk k b h1
  refine ⟨l, h3, h4.mono hle (fun _ _ => rfl) rfl, ?_, h6⟩
  rintro (h7 | ⟨h', B, l', h7, h8, h9, h10⟩)
  ·exact h5 h7
  ·exact hm.inj k h' b B l l' (by omega) h1 h8 h3 h9 h10.symm
 ·rcases hb with hb | ⟨h', B, l', h7, h8, h9, rfl⟩
  ·exact hm.lt b hb
  ·obtain ⟨l, h3, h4, h5, h6⟩ := hm.blk h' B h8
   rw [h9] at h3; cases h3
   exact h6
end Go.Am
namespace Go.Am
open Go
def DOk (fr : Fr) : D → Option Tmp → Prop
 | .e d, t => t = some d ∧ d ∉ fr.AS ∧ d ∉ fr.BS ∧ d < fr.nt
 | .a d, t => t = some d ∧ d ∈ fr.AS ∧ d < fr.nt
 | .x d, t => t = some d ∧ d ∈ fr.BS ∧ d < fr.nt
 | .n, t => t = none
theorem DImg.of_img {d : D} {BS : List Nat} {g : Gh} {a : Act} {w : World} {v : V} {x : Value} (h : Img g w v x) : DImg d BS g a w v x := by
 cases d <;> first | exact h | exact h.toA
theorem put_sound {fr : Fr} {g : Gh} {st st' : St} {a : Act} {w : World} (s : Sim fr g st a w) {d : D} {dst : Option Tmp} (hd : DOk fr d dst) {v : V} {x : Value} (hv : DImg d fr.BS g a w v x) (h : put st d v = some st') :
  Sim fr g st' (a.put dst x) w ∧ st'.mem = st.mem := by
 cases d with
 | e d =>
  obtain ⟨rfl, h1, h2, h3⟩ := hd
  cases h
  exact ⟨s.put_env h1 h2 h3 hv, rfl⟩
 | a d =>
  obtain ⟨rfl, h1, h2⟩ := hd
  cases h
  exact ⟨s.put_ad h1 h2 hv, rfl⟩
 | x d => cases h
 | n =>
  cases hd
  cases h
  exact ⟨s, rfl⟩
structure After (g : Gh) (mem : Mem) (g' : Gh) (mem' : Mem) (h : Nat) (al : Bool) : Prop where
 le : Gh.le g g'
 next : mem.next ≤ mem'.next
 blk : ∀ k, k ≠ h → k < mem.next → mem.blk k = none → mem'.blk k = none
 φ : ∀ k, k ≠ h → k < mem.next → g.φ k = none → g'.φ k = none
 fresh : ∀ k, mem'.next ≤ k → (al = true → k ≠ h) → mem'.blk k = none ∧ g'.φ k = none
def Plan.fz (fr : Fr) (g : Gh) (mem : Mem) (b : Nat) : Plan → Prop
 | .frz _ _ => ∃ h B l, fr.lo ≤ h ∧ mem.blk h = some B ∧ g.φ h = some l ∧ l.b = b
 | _ => False
def Plan.al : Plan → Bool
 | .alloc _ _ | .app _ _ _ => true
 | _ => false
theorem After.same {g g' : Gh} {mem mem' : Mem} {h : Nat} {al : Bool} (hf : FreshFrom g mem mem.next) (hle : Gh.le g g') (hφ : g'.φ = g.φ) (hn : mem'.next = mem.next) (hb : ∀ k, mem.blk k = none → mem'.blk k = none) : After g mem g' mem' h al where
 le := hle
 next := Nat.le_of_eq hn.symm
 blk k _ _ := hb k
 φ k _ _ hk := by rw [hφ]; exact hk
 fresh k hk _ := by rw [hn] at hk; exact ⟨hb k (hf k hk).1, by rw [hφ]; exact (hf k hk).2⟩
theorem After.add {g : Gh} {mem mem' : Mem} {h : Nat} {l : Loc} (hf : FreshFrom g mem mem.next) (hfr : g.φ h = none) (hn : mem'.next = mem.next) (hb : ∀ k, k ≠ h → mem.blk k = none → mem'.blk k = none) : After g mem (g.add h l) mem' h true where
 le := Gh.le_add hfr
 next := Nat.le_of_eq hn.symm
 blk k hk _ := hb k hk
 φ k hk _ hkn := by simp only [Gh.add, if_neg hk]; exact hkn
 fresh k hk hne := by
  rw [hn] at hk
  have hne := hne rfl
  exact ⟨hb k hne (hf k hk).1, by simp only [Gh.add, if_neg hne]; exact (hf k hk).2⟩
theorem act_sound {P : Program} {src : Nat → Nat} {ck : Callk} (hck : CkOk P src ck) {fr : Fr} {g : Gh} {st st' : St} {a : Act} {w : World} (s : Sim fr g st a w) (hf : FreshFrom g st.mem st.mem.next) (hlo : fr.lo ≤ st.mem.next)
  {h : Nat} (hh : st.mem.blk h = none ∧ g.φ h = none) {d : D} {o : Oper} (hd : DOk fr d o.dst) {p : Plan} {r : Result Next} (hp : PlanRun src fr g st a w h d r p) (ha : act ck fr.lo h st d p = some st')
  {next : Act → World → Prop} {Q : Exit → Act → World → Prop} (hnext : ∀ g' a' w', Sim fr g' st' a' w' → After g st.mem g' st'.mem h p.al → (∀ b, g'.I b → g.I b ∨ w.heap.size ≤ b ∨ p.fz fr g st.mem b) → next a' w') : o.upon P a next Q r := by
 cases p with
 | ret v =>
  obtain ⟨x, w', g', rfl, q, hv⟩ := hp
  obtain ⟨s1, hm⟩ := put_sound (s.quiet q) hd hv ha
  exact hnext g' _ w' s1 (.same hf q.le q.φ (by rw [hm]) (by rw [hm]; exact fun _ h => h)) (fun b hb => (q.new b hb).imp id (fun h => .inl h.1))
 | rd h' f =>
  simp only [act] at ha
  split at ha
  ·cases ha
  ·rename_i b hb
   split at ha
   ·cases ha
   ·rename_i v hv
    obtain ⟨x, rfl, hx⟩ := hp b v hb hv
    obtain ⟨s1, hm⟩ := put_sound s hd (DImg.of_img hx) ha
    exact hnext g _ w s1 (.same hf (.refl g) rfl (by rw [hm]) (by rw [hm]; exact fun _ h => h)) (fun _ hb => .inl hb)
 | rdb t f =>
  simp only [act] at ha
  split at ha
  ·cases ha
  ·rename_i e he
   split at ha
   ·cases ha
   ·rename_i v hv
    obtain ⟨x, rfl, hx⟩ := hp e v he hv
    obtain ⟨s1, hm⟩ := put_sound s hd (DImg.of_img hx) ha
    exact hnext g _ w s1 (.same hf (.refl g) rfl (by rw [hm]) (by rw [hm]; exact fun _ h => h)) (fun _ hb => .inl hb)
 | wr h' f v =>
  obtain ⟨rfl, hp⟩ := hp
  simp only [act] at ha
  split at ha
  ·rename_i hlo'
   split at ha
   ·cases ha
   ·rename_i b hb
    split at ha
    ·cases ha
    ·rename_i b' hb'
     obtain ⟨w', loc, ob, rfl, hφ, u, hB⟩ := hp b b' hb hb'
     have s1 := s.upd hlo' hb hφ u hB
     obtain ⟨s2, hm⟩ := put_sound s1 hd (DImg.of_img (.pure .und)) ha
     refine hnext g _ w' s2 (.same hf (.refl g) rfl (by rw [hm]; rfl) (fun k hk => ?_)) (fun _ hb => .inl hb)
     rw [hm]
     have : k ≠ h' := fun e => by subst e; rw [hb] at hk; cases hk
     simp [Mem.set, this, hk]
  ·cases ha
 | wrb t f =>
  simp only [act] at ha
  split at ha
  ·cases ha
  ·rename_i e he
   split at ha
   ·cases ha
   ·rename_i e' he'
    obtain ⟨w', b, cs, T, rfl, ht, u, hc⟩ := hp e e' he he'
    cases d with
    | n =>
     cases ha
     have hdst : o.dst = none := hd
     have s1 := s.wrb he ht u hc
     show next (a.put o.dst undef) w'
     rw [hdst]
     exact hnext g a w' s1 (.same hf (.refl g) rfl rfl (fun _ h => h)) (fun _ hb => .inl hb)
    | _ => cases ha
 | bx e =>
  obtain ⟨w', cs, T, rfl, u, hc⟩ := hp
  cases d with
  | x d =>
   obtain ⟨hdst, hB, hn⟩ := hd
   simp only [act] at ha
   split at ha
   ·cases ha
   rename_i hl
   cases ha
   show next (a.put o.dst _) w'
   rw [hdst]
   exact hnext g _ w' (s.box hB hn u hc (by simpa using hl)) (.same hf (.refl g) rfl rfl (fun _ h => h)) (fun _ hb => .inl hb)
  | _ => cases ha
 | alloc b gv =>
  obtain ⟨w', x, loc, ob, rfl, u, hl, hB, hx⟩ := hp
  have s1 := s.new hh.2 u hl hB
  obtain ⟨s2, hm⟩ := put_sound s1 hd (DImg.of_img hx) ha
  refine hnext _ _ w' s2 (.add hf hh.2 (by rw [hm]; rfl) (fun k hk hb => ?_)) (fun _ hb => .inl hb)
  rw [hm]
  simp [Mem.set, hk, hb]
 | app d' sz x =>
  simp only [act] at ha
  split at ha
  ·cases ha
  ·rename_i sx xs hv
   obtain ⟨p1, p2, p3⟩ := hp sx xs hv
   split at ha
   ·obtain ⟨y, rfl, hy⟩ := p1 rfl rfl
    obtain ⟨s2, hm⟩ := put_sound s hd (DImg.of_img hy) ha
    exact hnext g _ w s2 (.same hf (.refl g) rfl (by rw [hm]) (by rw [hm]; exact fun _ h => h)) (fun _ hb => .inl hb)
   ·rename_i y ys
    split at ha
    ·rename_i hc
     obtain ⟨w', z, loc, ob, rfl, u, hl, hB, hx⟩ := p2 rfl (by simp) hc.1 hc.2
     have s1 := s.new hh.2 u hl hB
     obtain ⟨s2, hm⟩ := put_sound s1 hd (DImg.of_img hx) ha
     refine hnext _ _ w' s2 (.add hf hh.2 (by rw [hm]; rfl) (fun k hk hb => ?_)) (fun _ hb => .inl hb)
     rw [hm]
     simp [Mem.set, hk, hb]
    ·cases ha
   ·rename_i _ h' oo l
    split at ha
    ·rename_i hc
     split at ha
     ·rename_i s' es hb
      split at ha
      ·rename_i hc2
       obtain ⟨rfl, hol⟩ := hc2
       obtain ⟨w', y, loc, ob, rfl, hcase, hB, hx⟩ := p3 h' oo l es rfl hc.2.1 hc.2.2 hb hol
       have hne : h' ≠ h := fun e => by subst e; rw [hh.1] at hb; cases hb
       rcases hcase with ⟨u, hl⟩ | ⟨loc0, hφ, hl, u⟩
       ·have s1 := (s.killed h').new hh.2 u hl hB
        obtain ⟨s2, hm⟩ := put_sound s1 hd (DImg.of_img hx) ha
        refine hnext _ _ w' s2 (.add hf hh.2 (by rw [hm]; rfl) (fun k hk hb => ?_)) (fun _ hb => .inl hb)
        rw [hm]
        simp [Mem.set, hk, hb]
       ·have s1 := s.retake hc.1 hb hφ hl hh.2 u hB
        obtain ⟨s2, hm⟩ := put_sound s1 hd (DImg.of_img hx) ha
        refine hnext _ _ w' s2 (.add hf hh.2 (by rw [hm]; rfl) (fun k hk hb => ?_)) (fun _ hb => .inl hb)
        rw [hm]
        simp [Mem.set, hk, hb]
      ·cases ha
     ·cases ha
    ·cases ha
 | cpy sz h' oo l x =>
  simp only [act] at ha
  split at ha
  ·cases ha
  ·rename_i sx xs hv
   split at ha
   ·rename_i hlo'
    split at ha
    ·rename_i s' es hb
     split at ha
     ·rename_i hc
      obtain ⟨hc1, rfl, hol⟩ := hc
      obtain ⟨w', loc, ob, rfl, hφ, u, hB⟩ := hp sx xs es hv hb hc1 hol
      have s1 := s.upd hlo' hb hφ u hB
      obtain ⟨s2, hm⟩ := put_sound s1 hd (DImg.of_img (.pure (.int _ _))) ha
      refine hnext g _ w' s2 (.same hf (.refl g) rfl (by rw [hm]; rfl) (fun k hk => ?_)) (fun _ hb => .inl hb)
      rw [hm]
      have : k ≠ h' := fun e => by subst e; rw [hb] at hk; cases hk
      simp [Mem.set, this, hk]
     ·cases ha
    ·cases ha
   ·cases ha
 | call f args =>
  simp only [act] at ha
  split at ha
  ·cases ha
  ·rename_i v m hc
   obtain ⟨xs, rfl, hlen, hargs⟩ := hp
   refine (hck f args fr.lo st.mem v m hc g w xs s.mem hf hlen hargs hlo).mono ?_
   rintro e w' ⟨x, g', rfl, hx, hle, hm', hf', hn', hb', hφ', hI', hk, hown⟩
   have s1 : Sim fr g' { st with mem := m } a w' := by
    refine s.change hm' hle (fun b hb => ?_) hk.size hk.os hk.tape hk.output hI' (fun h1 B l hB hl => ?_)
    ·by_cases e : ∃ h0 B0 l0, fr.lo ≤ h0 ∧ st.mem.blk h0 = some B0 ∧ g.φ h0 = some l0 ∧ l0.b = b
     ·exact .inr e
     ·exact .inl (hk.block b hb e)
    ·by_cases hlt : fr.lo ≤ h1
     ·rcases hown h1 B l hlt hB hl with h2 | ⟨h0, B0, l0, h3, h4, h5, h6⟩
      ·exact .inl h2
      ·exact .inr ⟨h0, B0, l0, fun _ => h3, h4, h5, h6⟩
     ·right
      cases hb0 : st.mem.blk h1 with
      | none => exact absurd (hb' h1 (by omega) hb0) (by rw [hB]; simp)
      | some B0 =>
       obtain ⟨l0, h4, _⟩ := s.mem.blk h1 B0 hb0
       have := hle.φ h1 l0 h4
       rw [hl] at this; cases this
       exact ⟨h1, B0, l, fun h => absurd h hlt, hb0, h4, rfl⟩
   obtain ⟨s2, hm⟩ := put_sound s1 hd (DImg.of_img hx) ha
   exact hnext g' _ w' s2 ⟨hle, by rw [hm]; exact hn', fun k _ hk hkn => by rw [hm]; exact hb' k hk hkn, fun k _ hk hkn => hφ' k hk hkn, fun k hk _ => by rw [hm] at hk ⊢; exact hf' k hk⟩ (fun b hb => (hI' b hb).imp id .inl)
 | frz t sz =>
  simp only [act] at ha
  split at ha
  ·rename_i ecs he
   split at ha
   ·rename_i hsz
    split at ha
    ·cases ha
    ·rename_i v hv
     obtain ⟨x, rfl, hx⟩ := hp ecs he hsz
     obtain ⟨hm1, hle⟩ := s.mem.frozen fr.lo
     have hs : Same g.I w w := fun _ _ => rfl
     have s1 : Sim fr ⟨g.φ, frI fr.lo g st.mem⟩ { st with bx := (t, v) :: st.bx, mem := st.mem.kill fr.lo } a w := by
      have get : ∀ (i : Nat) (c : Blk), (st.mem.kill fr.lo).blk i = some c → st.mem.blk i = some c ∧ i < fr.lo := by
       intro i c hi
       unfold Mem.kill at hi
       simp only at hi
       split at hi
       ·cases hi
       ·exact ⟨hi, by omega⟩
      have out : ∀ b, (¬ g.I b) → (∀ h B l, st.mem.blk h = some B → g.φ h = some l → l.b ≠ b) → ¬ frI fr.lo g st.mem b := by
       rintro b h1 h2 (h3 | ⟨h', B, l, _, h4, h5, h6⟩)
       ·exact h1 h3
       ·exact h2 h' B l h4 h5 h6
      refine ⟨hm1, fun u z hz => ?_, fun t' z hz => ?_, fun t1 t2 e1 e2 k hne he1 he2 hk => ?_, fun u z hz => ?_, s.size, s.defers, s.keep, fun k B l hk hB _ => ?_⟩
      ·obtain ⟨h4, h5, y, h6, h7⟩ := s.env u z hz
       exact ⟨h4, h5, y, h6, h7.mono hle hs⟩
      ·simp only [Env.get_cons] at hz
       split at hz
       ·rename_i e1; subst e1
        cases hz
        obtain ⟨h4, b, h5, h6⟩ := s.bx t (.agg ecs) he
        obtain ⟨cs, T, h7, h8, h9⟩ := h6.cells
        obtain ⟨h10, h11⟩ := freeze_cells hv
        refine ⟨h4, b, h5, ⟨⟨cs, T, h7, by omega, fun j c hj => ?_⟩, out b h6.out h6.free, h6.new, fun h' B l hB hl => h6.free h' B l (get h' B hB).1 hl⟩⟩
        obtain ⟨c0, k, h12, _, h13⟩ := h11 j c hj
        obtain ⟨y, h14, h15, h16⟩ := h9 j c0 h12
        exact ⟨y, h14, h15, .pure (freeze_sound s.mem k c0 c y h13 h16)⟩
       ·obtain ⟨h4, b, h5, h6⟩ := s.bx t' z hz
        obtain ⟨cs, T, h7, h8, h9⟩ := h6.cells
        exact ⟨h4, b, h5, ⟨⟨cs, T, h7, h8, fun j c hj => let ⟨y, p, q, r⟩ := h9 j c hj; ⟨y, p, q, r.mono hle hs⟩⟩, out b h6.out h6.free, h6.new, fun h' B l hB hl => h6.free h' B l (get h' B hB).1 hl⟩⟩
      ·have old : ∀ t' z, Env.get ((t, v) :: st.bx) t' = some z → ∃ x0, st.bx.get t' = some x0 := by
        intro t' z hz
        simp only [Env.get_cons] at hz
        split at hz
        ·rename_i e1; subst e1; exact ⟨.agg ecs, he⟩
        ·exact ⟨z, hz⟩
       obtain ⟨x1, hx1⟩ := old t1 e1 he1
       obtain ⟨x2, hx2⟩ := old t2 e2 he2
       exact s.bxd t1 t2 x1 x2 k hne hx1 hx2 hk
      ·obtain ⟨h4, y, h6, h7⟩ := s.ad u z hz
       exact ⟨h4, y, h6, h7.mono hle hs⟩
      ·have := (get k B hB).2
       omega
     obtain ⟨s2, hm⟩ := put_sound s1 hd (DImg.of_img (.pure (freeze_sound s.mem 8 (.agg ecs) v x hv hx))) ha
     refine hnext _ _ w s2 (.same hf hle rfl (by rw [hm]; rfl) (fun k hk => ?_)) (fun b hb => hb.imp id .inr)
     rw [hm]
     show (if fr.lo ≤ k then none else st.mem.blk k) = none
     rw [hk]
     split <;> rfl
   ·cases ha
  ·cases ha
end Go.Am
