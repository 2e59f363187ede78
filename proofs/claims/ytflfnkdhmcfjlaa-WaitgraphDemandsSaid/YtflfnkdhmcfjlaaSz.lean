/- Stepping through the abstract machine's code: the rules in one bundle. -/
import Derived.Test.YtflfnkdhmcfjlaaSy
namespace Go.Am
open Go

theorem al_mv : K.allocs (K.mv ) = false := rfl
theorem rk_mv : RetK (K.mv ) := retK_of rfl
theorem al_pmv : K.allocs (K.pmv ) = false := rfl
theorem rk_pmv : RetK (K.pmv ) := retK_of rfl
theorem al_pick : K.allocs (K.pick ) = false := rfl
theorem rk_pick : RetK (K.pick ) := retK_of rfl
theorem al_bin {op : BinOp} : K.allocs (K.bin op) = false := rfl
theorem rk_bin {op : BinOp} : RetK (K.bin op) := retK_of rfl
theorem al_bq {ne : Bool} : K.allocs (K.bq ne) = false := rfl
theorem rk_bq {ne : Bool} : RetK (K.bq ne) := retK_of rfl
theorem al_sq {ne : Bool} : K.allocs (K.sq ne) = false := rfl
theorem rk_sq {ne : Bool} : RetK (K.sq ne) := retK_of rfl
theorem al_aq {ne : Bool} {ks : List Nat} : K.allocs (K.aq ne ks) = false := rfl
theorem rk_aq {ne : Bool} {ks : List Nat} : RetK (K.aq ne ks) := retK_of rfl
theorem al_nq {ne : Bool} : K.allocs (K.nq ne) = false := rfl
theorem rk_nq {ne : Bool} : RetK (K.nq ne) := retK_of rfl
theorem al_sadd : K.allocs (K.sadd ) = false := rfl
theorem rk_sadd : RetK (K.sadd ) := retK_of rfl
theorem al_not : K.allocs (K.not ) = false := rfl
theorem rk_not : RetK (K.not ) := retK_of rfl
theorem al_cvt {k : IntKind} : K.allocs (K.cvt k) = false := rfl
theorem rk_cvt {k : IntKind} : RetK (K.cvt k) := retK_of rfl
theorem al_cvs : K.allocs (K.cvs ) = false := rfl
theorem rk_cvs : RetK (K.cvs ) := retK_of rfl
theorem al_bts : K.allocs (K.bts ) = false := rfl
theorem al_ext {i : Nat} : K.allocs (K.ext i) = false := rfl
theorem rk_ext {i : Nat} : RetK (K.ext i) := retK_of rfl
theorem al_len {str : Bool} : K.allocs (K.len str) = false := rfl
theorem rk_len {str : Bool} : RetK (K.len str) := retK_of rfl
theorem al_mx : K.allocs (K.mx ) = false := rfl
theorem rk_mx : RetK (K.mx ) := retK_of rfl
theorem al_mn : K.allocs (K.mn ) = false := rfl
theorem rk_mn : RetK (K.mn ) := retK_of rfl
theorem al_bld {zero : List V} {pl : List (Nat × Nat)} : K.allocs (K.bld zero pl) = false := rfl
theorem rk_bld {zero : List V} {pl : List (Nat × Nat)} : RetK (K.bld zero pl) := retK_of rfl
theorem al_lit {sz : Nat} {n : Nat} {zero : V} {ix : List Nat} : K.allocs (K.lit sz n zero ix) = false := rfl
theorem rk_lit {sz : Nat} {n : Nat} {zero : V} {ix : List Nat} : RetK (K.lit sz n zero ix) := retK_of rfl
theorem al_hlit {sz : Nat} {n : Nat} {zero : V} {ix : List Nat} : K.allocs (K.hlit sz n zero ix) = true := rfl
theorem al_six : K.allocs (K.six ) = false := rfl
theorem rk_six : RetK (K.six ) := retK_of rfl
theorem al_fld {agg : Bool} {off : Nat} {sz : Nat} : K.allocs (K.fld agg off sz) = false := rfl
theorem rk_fld {agg : Bool} {off : Nat} {sz : Nat} : RetK (K.fld agg off sz) := retK_of rfl
theorem al_sl {sz : Nat} {lo : Bool} {hi : Bool} {mx : Bool} : K.allocs (K.sl sz lo hi mx) = false := rfl
theorem rk_sl {sz : Nat} {lo : Bool} {hi : Bool} {mx : Bool} : RetK (K.sl sz lo hi mx) := retK_of rfl
theorem al_fa {off : Nat} : K.allocs (K.fa off) = false := rfl
theorem rk_fa {off : Nat} : RetK (K.fa off) := retK_of rfl
theorem al_ia {sz : Nat} : K.allocs (K.ia sz) = false := rfl
theorem rk_ia {sz : Nat} : RetK (K.ia sz) := retK_of rfl
theorem al_iaa {n : Nat} {sz : Nat} : K.allocs (K.iaa n sz) = false := rfl
theorem rk_iaa {n : Nat} {sz : Nat} : RetK (K.iaa n sz) := retK_of rfl
theorem al_nc : K.allocs (K.nc ) = false := rfl
theorem rk_nc : RetK (K.nc ) := retK_of rfl
theorem al_ld {agg : Bool} {sz : Nat} : K.allocs (K.ld agg sz) = false := rfl
theorem al_st {sz : Nat} : K.allocs (K.st sz) = false := rfl
theorem al_box : K.allocs (K.box ) = false := rfl
theorem al_hbox {sz : Nat} : K.allocs (K.hbox sz) = true := rfl
theorem al_mk {sz : Nat} {zero : V} : K.allocs (K.mk sz zero) = true := rfl
theorem al_app {sz : Nat} : K.allocs (K.app sz) = true := rfl
theorem al_cpy {sz : Nat} : K.allocs (K.cpy sz) = false := rfl
theorem al_call {f : Nat} : K.allocs (K.call f) = false := rfl
theorem al_callv : K.allocs (K.callv ) = false := rfl
theorem al_mkf {f : Nat} : K.allocs (K.mkf f) = false := rfl
theorem rk_mkf {f : Nat} : RetK (K.mkf f) := retK_of rfl
theorem al_mkm : K.allocs (K.mkm ) = true := rfl
theorem al_look {arr : Bool} {ok : Bool} {zero : V} : K.allocs (K.look arr ok zero) = false := rfl
theorem al_upd {arr : Bool} : K.allocs (K.upd arr) = false := rfl
theorem al_frz {sz : Nat} : K.allocs (K.frz sz) = false := rfl

theorem hasLoc_nil {d : Nat} : hasLoc d [] = false := rfl
theorem hasLoc_cons_ {d t : Nat} {v : V} {a : Env} : hasLoc d ((t, v) :: a) = (isLoc d v || hasLoc d a) := hasLoc_cons ..
theorem il_imm {d o : Nat} {v : V} : isLoc d (.imm v o) = false := rfl
theorem il_ptr {d h i o : Nat} : isLoc d (.ptr h i o) = false := rfl
theorem il_loc {d t o : Nat} : isLoc d (.loc t o) = decide (t = d) := by
  show Nat.beq t d = _
  by_cases h : t = d
  · subst h; simp
  · have : Nat.beq t d = false := by
      cases hb : Nat.beq t d with
      | true => exact absurd (Nat.eq_of_beq_eq_true hb) h
      | false => rfl
    rw [this]
    simp [h]
theorem il_und {d : Nat} : isLoc d .und = false := rfl
theorem il_fn {d f : Nat} {cs : List V} : isLoc d (.fn f cs) = false := rfl
theorem ml_o1 {b : Bool} : (b || false) = b := by simp
theorem ml_o2 {b : Bool} : (false || b) = b := rfl

/-! ### Slices that a function builds -/
def Rw (lo : Nat) (m : Mem) (sz : Nat) (v : V) (xs : List V) : Prop := (v = .nil ∧ xs = []) ∨ ∃ h, v = .row sz h 0 xs.length ∧ lo ≤ h ∧ h < m.next ∧ m.blk h = some (.row sz xs)

theorem Rw.nil {lo sz : Nat} {m : Mem} : Rw lo m sz .nil [] := .inl ⟨rfl, rfl⟩

theorem Rw.app {lo sz s : Nat} {m : Mem} {v y : V} {xs ys : List V} (h : Rw lo m sz v xs) (hl : lo ≤ m.next) (hv : view m y = some (s, ys)) (hs : s = sz ∨ ys.length = 0) (hb : xs.length + ys.length < big) :
    ∃ v' m', apV lo m.next m sz v y = some (v', m') ∧ Rw lo (m'.bump 1) sz v' (xs ++ ys) ∧ m'.next = m.next ∧ ∀ k, (∀ l, v ≠ .row sz k 0 l) → k ≠ m.next → m'.blk k = m.blk k := by
  rcases h with ⟨rfl, rfl⟩ | ⟨h, rfl, h1, h2, h3⟩
  · cases ys with
    | nil => exact ⟨.nil, m, by simp only [apV, hv], .inl ⟨rfl, rfl⟩, rfl, fun _ _ _ => rfl⟩
    | cons y ys =>
      have hs' : s = sz := by
        rcases hs with h | h
        · exact h
        · simp at h
      refine ⟨_, _, ap_nil hv hs' (by simpa using hb), .inr ⟨m.next, by simp, hl, Nat.lt_succ_self _, by simp [Mem.bump, Mem.set]⟩, rfl, fun k _ hk => by simp [Mem.set, hk]⟩
  · refine ⟨_, _, ap_row hv h1 hs hb h3 (by simp), .inr ⟨m.next, by simp, hl, Nat.lt_succ_self _, by simp [Mem.bump, Mem.set]⟩, rfl, fun k hk hk2 => ?_⟩
    have : k ≠ h := fun e => hk xs.length (by rw [e])
    simp [Mem.set, hk2, this]

theorem mapO_congr2 {f g : V → Option V} : ∀ {xs : List V}, (∀ x ∈ xs, f x = g x) → mapO f xs = mapO g xs
  | [], _ => rfl
  | x :: xs, h => by
    simp only [mapO, h x (by simp)]
    rw [mapO_congr2 (fun y hy => h y (by simp [hy]))]

theorem freeze_row {lo n s h o l : Nat} {m : Mem} {es : List V} (hb : m.blk h = some (.row s es)) (hl : lo ≤ h) (ho : o + l ≤ es.length) : Go.Am.freeze lo m (n + 1) (.row s h o l) = (mapO (Go.Am.freeze lo m n) ((es.drop o).take l)).map (.ro true s) := by
  simp only [Go.Am.freeze, hb]
  simp only [hl, ho, and_self, if_true]

theorem Rw.freeze {lo sz n : Nat} {m : Mem} {v : V} {xs : List V} (h : Rw lo m sz v xs) : Go.Am.freeze lo m (n + 1) v = (mapO (Go.Am.freeze lo m n) xs).map (.ro true sz) := by
  rcases h with ⟨rfl, rfl⟩ | ⟨h, rfl, h1, h2, h3⟩
  · rfl
  · rw [freeze_row h3 h1 (by simp)]
    simp

theorem Rw.len {lo sz : Nat} {m : Mem} {v : V} {xs : List V} (h : Rw lo m sz v xs) : retV (.len false) [v] = some (.int .i64 (xs.length : Int)) := by
  rcases h with ⟨rfl, rfl⟩ | ⟨h, rfl, _⟩
  · rfl
  · rfl

theorem Rw.mono {lo sz : Nat} {m m' : Mem} {v : V} {xs : List V} (h : Rw lo m sz v xs) (hn : m.next ≤ m'.next) (hb : ∀ k l, v = .row sz k 0 l → m'.blk k = m.blk k) : Rw lo m' sz v xs := by
  rcases h with h | ⟨h, rfl, h1, h2, h3⟩
  · exact .inl h
  · exact .inr ⟨h, rfl, h1, by omega, by rw [hb h _ rfl]; exact h3⟩

/-! ### Calls, from the function's parts -/
def PP (res : List Res) (m : Mem) (v : V) : Ex → St → Prop
  | .exit _, _ => False
  | _, st => OC (getRes st res) fun vs => freeze m.next st.mem 8 (resV vs) = some v
theorem PP_nrm {res : List Res} {m : Mem} {v : V} {st : St} : PP res m v .nrm st ↔ OC (getRes st res) fun vs => freeze m.next st.mem 8 (resV vs) = some v := Iff.rfl
theorem PP_ret {res : List Res} {m : Mem} {v : V} {st : St} : PP res m v .ret st ↔ OC (getRes st res) fun vs => freeze m.next st.mem 8 (resV vs) = some v := Iff.rfl
def PI (res : List Res) (v : V) (m' : Mem) : Ex → St → Prop
  | .exit _, _ => False
  | _, st => OC (getRes st res) fun vs => resV vs = v ∧ st.mem = m'
theorem PI_nrm {res : List Res} {m' : Mem} {v : V} {st : St} : PI res v m' .nrm st ↔ OC (getRes st res) fun vs => resV vs = v ∧ st.mem = m' := Iff.rfl
theorem PI_ret {res : List Res} {m' : Mem} {v : V} {st : St} : PI res v m' .ret st ↔ OC (getRes st res) fun vs => resV vs = v ∧ st.mem = m' := Iff.rfl

section
variable {F : Nat → Option Fn} {lo f np am bm : Nat} {res : List Res} {body : AC} {args : List V} {m m' : Mem} {v : V}
theorem call_p (hF : F f = some ⟨np, am, bm, true, res, body⟩) (hn : args.length = np) (h : W F m.next body ⟨initEnv 0 args, [], [], m⟩ (PP res m v)) : callw F f args lo m = some (v, m) :=
  callw_pure hF rfl hn (W_mono h fun ex s q => by cases ex <;> exact q)
theorem call_i (hF : F f = some ⟨np, am, bm, false, res, body⟩) (hn : args.length = np) (h : W F lo body ⟨initEnv 0 args, [], [], m⟩ (PI res v m')) : callw F f args lo m = some (v, m') :=
  callw_imp hF rfl hn (W_mono h fun ex s q => by cases ex <;> exact q)

theorem ie_nil {i : Nat} : initEnv i [] = [] := rfl
theorem ie_cons {i : Nat} {v : V} {vs : List V} : initEnv i (v :: vs) = (i, v) :: initEnv (i + 1) vs := rfl

theorem rs_nil {st : St} : getRes st [] = some [] := rfl
theorem rs_cons {st : St} {r : Res} {rs : List Res} {K : List V → Prop} : OC (getRes st (r :: rs)) K ↔ OC (getR st r) fun v => OC (getRes st rs) fun vs => K (v :: vs) := by
  simp only [getRes]
  cases getR st r with
  | none => simp [OC_none]
  | some v =>
    simp only [OC_some]
    cases getRes st rs with
    | none => simp [OC_none]
    | some vs => simp [OC_some]
theorem gr_t {e b a : Env} {m : Mem} {i : Nat} : getR ⟨e, b, a, m⟩ (.t i) = e.get i := rfl
theorem gr_c {e b a : Env} {m : Mem} {i sz : Nat} {agg : Bool} {K : V → Prop} : OC (getR ⟨e, b, a, m⟩ (.c i agg sz)) K ↔ OC (b.get i) fun e => OC (getC agg 0 sz e) K := by
  simp only [getR]
  cases b.get i with
  | none => simp [OC_none]
  | some v => simp [OC_some]
theorem rv_one {v : V} : resV [v] = v := rfl
theorem rv_two {u v : V} : resV [u, v] = .tup [u, v] := rfl
theorem rv_three {u v w : V} : resV [u, v, w] = .tup [u, v, w] := rfl

theorem mapO_id {f : V → Option V} : ∀ {xs : List V}, (∀ x ∈ xs, f x = some x) → mapO f xs = some xs
  | [], _ => rfl
  | x :: xs, h => by
    simp only [mapO, h x (by simp)]
    rw [mapO_id (fun y hy => h y (by simp [hy]))]
theorem mo_nil {f : V → Option V} : mapO f [] = some [] := rfl
theorem mo_cons {f : V → Option V} {x : V} {xs : List V} {K : List V → Prop} : OC (mapO f (x :: xs)) K ↔ OC (f x) fun y => OC (mapO f xs) fun ys => K (y :: ys) := by
  simp only [mapO]
  cases f x with
  | none => simp [OC_none]
  | some v =>
    simp only [OC_some]
    cases mapO f xs with
    | none => simp [OC_none]
    | some vs => simp [OC_some]
theorem fz_int {n : Nat} {k : IntKind} {x : Int} : freeze lo m (n + 1) (.int k x) = some (.int k x) := rfl
theorem fz_bool {n : Nat} {c : Bool} : freeze lo m (n + 1) (.bool c) = some (.bool c) := rfl
theorem fz_str {n : Nat} {c : List UInt8} : freeze lo m (n + 1) (.str c) = some (.str c) := rfl
theorem fz_nil {n : Nat} : freeze lo m (n + 1) .nil = some (.ro true 0 []) := rfl
theorem fz_ro {n sz : Nat} {xs : List V} : freeze lo m (n + 1) (.ro true sz xs) = some (.ro true sz xs) := rfl
theorem fz_agg {n : Nat} {cs : List V} : freeze lo m (n + 1) (.agg cs) = (mapO (freeze lo m n) cs).map .agg := rfl
theorem fz_tup {n : Nat} {cs : List V} : freeze lo m (n + 1) (.tup cs) = (mapO (freeze lo m n) cs).map .tup := rfl
theorem fz_lit {n sz : Nat} {xs : List V} : freeze lo m (n + 1) (.lst false sz xs) = (mapO (freeze lo m n) xs).map (.ro true sz) := rfl
theorem fz_row {n s h o l : Nat} {es : List V} (hb : m.blk h = some (.row s es)) (hl : lo ≤ h) (ho : o + l ≤ es.length) : freeze lo m (n + 1) (.row s h o l) = (mapO (freeze lo m n) ((es.drop o).take l)).map (.ro true s) := by
  simp only [freeze, hb]
  simp only [hl, ho, and_self, if_true]
theorem ro_empty {sz : Nat} : V.ro true sz [] = V.ro true 0 [] := rfl
end

theorem ml_i0 : ((0 : Nat) : Int) = 0 := rfl
theorem ml_some {n : Nat} : (some n).isSome = true := rfl
theorem ml_sz {n : Nat} : n - 0 = n := rfl
theorem ml_zl {n : Nat} : (0 ≤ n) = True := by simp
theorem ml_len {α β : Type} {f : α → β} {l : List α} : (l.map f).length = l.length := List.length_map ..
theorem ml_get {α β : Type} {f : α → β} {l : List α} {i : Nat} : (l.map f)[i]? = (l[i]?).map f := List.getElem?_map ..
theorem ml_c0 {α : Type} {x : α} {l : List α} : (x :: l)[0]? = some x := rfl
theorem ml_c1 {α : Type} {x y : α} {l : List α} : (x :: y :: l)[1]? = some y := rfl
theorem ml_c2 {α : Type} {x y z : α} {l : List α} : (x :: y :: z :: l)[2]? = some z := rfl
theorem ml_c3 {α : Type} {x y z u : α} {l : List α} : (x :: y :: z :: u :: l)[3]? = some u := rfl
theorem ml_c4 {α : Type} {x y z u v : α} {l : List α} : (x :: y :: z :: u :: v :: l)[4]? = some v := rfl
theorem ml_om {α β : Type} {f : α → β} {x : α} : (some x).map f = some (f x) := rfl
theorem ml_on {α β : Type} {f : α → β} : (none : Option α).map f = none := rfl
theorem ml_nat {n : Nat} : ((n : Nat) : Int).toNat = n := rfl
theorem ml_pos {n : Nat} : (0 ≤ ((n : Nat) : Int)) = True := by simp
theorem ml_ta {p : Prop} : (True ∧ p) = p := by simp
theorem ml_at {p : Prop} : (p ∧ True) = p := by simp
theorem ml_ft : (false = true) = False := by simp
theorem ml_tf : (true = false) = False := by simp
theorem ml_tt : (true = true) = True := by simp
theorem ml_ff : (false = false) = True := by simp
theorem ml_nt : (!true) = false := rfl
theorem ml_nf : (!false) = true := rfl
theorem ml_dt {h : Decidable True} : @decide True h = true := by simp
theorem ml_df {h : Decidable False} : @decide False h = false := by simp
theorem ml_d0 {α : Type} {l : List α} : l.drop 0 = l := rfl
theorem ml_dc {α : Type} {x : α} {l : List α} {n : Nat} : (x :: l).drop (n + 1) = l.drop n := rfl
theorem ml_t0 {α : Type} {l : List α} : l.take 0 = [] := rfl
theorem ml_tc {α : Type} {x : α} {l : List α} {n : Nat} : (x :: l).take (n + 1) = x :: l.take n := rfl
theorem ml_tn {α : Type} {n : Nat} : ([] : List α).take n = [] := by simp
theorem ml_lc {α : Type} {x : α} {l : List α} : (x :: l).length = l.length + 1 := rfl
theorem ml_ln {α : Type} : ([] : List α).length = 0 := rfl
theorem ml_an {α : Type} {l : List α} : [] ++ l = l := rfl
theorem ml_ac {α : Type} {x : α} {l k : List α} : (x :: l) ++ k = x :: (l ++ k) := rfl
theorem ml_alln {p : V → Bool} : ([] : List V).all p = true := rfl
theorem ml_allc {p : V → Bool} {x : V} {l : List V} : (x :: l).all p = (p x && l.all p) := rfl
theorem ml_b1 {b : Bool} : (true && b) = b := rfl
theorem ml_b2 {b : Bool} : (false && b) = false := rfl
theorem ml_beq {a b : Nat} : (a == b) = decide (a = b) := rfl
theorem ml_z {n : Nat} : 0 + n = n := Nat.zero_add n
theorem ml_z' {n : Nat} : n + 0 = n := rfl
theorem ml_rep {z : V} {n : Nat} : List.replicate (n + 1) z = z :: List.replicate n z := rfl
theorem ml_rep0 {z : V} : List.replicate 0 z = [] := rfl
theorem ml_s0 {x y : V} {l : List V} : (x :: l).set 0 y = y :: l := rfl
theorem ml_s1 {x y z : V} {l : List V} : (x :: z :: l).set 1 y = x :: y :: l := rfl
theorem ml_s2 {x y z u : V} {l : List V} : (x :: z :: u :: l).set 2 y = x :: z :: y :: l := rfl
theorem ml_si {i : Nat} {b : Blk} {m : Mem} : (m.set i (some b)).blk i = some b := by simp [Mem.set]
theorem ml_sj {i j : Nat} {b : Option Blk} {m : Mem} : (m.set i b).blk j = if j = i then b else m.blk j := rfl

set_option linter.defProp false

/-- Numbers that fit. -/
theorem wr_i64 {n : Int} (h1 : -9223372036854775808 ≤ n) (h2 : n ≤ 9223372036854775807) : wrapF .i64 n = n := by
  rw [wrapF_eq]
  exact IntWalk.i64_in n ⟨by omega, by omega⟩

def sxc := And.intro @W_seq (And.intro @W_cond' (And.intro @CV_bool (And.intro @bump_bump (And.intro @bump_blk (And.intro @bump_next (And.intro @set_next (And.intro @W_block (And.intro @W_skip (And.intro @W_exit (And.intro @W_ret (And.intro @W_reg' (And.intro @W_dreg0 (And.intro @KS_nrm (And.intro @KS_exit (And.intro @KS_ret (And.intro @KB_nrm (And.intro @KB_exit (And.intro @KB_ret (And.intro @S_nil (And.intro @S_guard_e (And.intro @S_guard_a (And.intro @S_guard_n (And.intro @GV_bool (And.intro @GV_und (And.intro @S_ret_e (And.intro @S_ret_a (And.intro @OC_some (And.intro @OC_none (And.intro @gs_nil (And.intro @gs_cons (And.intro @g_t (And.intro @g_k (And.intro @g_a (And.intro @g_b (And.intro @cut_eq (And.intro @pickc_some (And.intro @pickc_none (And.intro @pick_nil (And.intro @pick_cons (And.intro @Env.get_nil (And.intro @Env.get_cons (And.intro @hd_none (And.intro @hd_some (And.intro @nx_none (And.intro @nx_some (And.intro @S_ld (And.intro @S_st (And.intro @S_box (And.intro @S_mk (And.intro @S_hlit (And.intro @S_hbox (And.intro @S_mkm (And.intro @S_app (And.intro @S_call_e (And.intro @S_call_n (And.intro @lo_loc (And.intro @lo_ptr (And.intro @so_loc (And.intro @so_ptr (And.intro @S_callv (And.intro @fnV_cons (And.intro @mkN_int (And.intro @PP_nrm (And.intro @PP_ret (And.intro @PI_nrm (And.intro @PI_ret (And.intro @ie_nil (And.intro @ie_cons (And.intro @rs_nil (And.intro @rs_cons (And.intro @gr_t (And.intro @gr_c (And.intro @rv_one (And.intro @rv_two (@rv_three)))))))))))))))))))))))))))))))))))))))))))))))))))))))))))))))))))))))))))
def sxv := And.intro @rowE_row (And.intro @rowS_row (And.intro @sc_agg (And.intro @sc_ii (And.intro @sc_bb (And.intro @sc_rr (And.intro @sc_rn (And.intro @sc_on (And.intro @sc_oo (And.intro @hasLoc_nil (And.intro @il_imm (And.intro @il_ptr (And.intro @il_loc (And.intro @il_und (And.intro @il_fn (And.intro @ml_o1 (And.intro @ml_o2 (And.intro @hasLoc_cons_ (And.intro @r_mv (And.intro @r_pmv (And.intro @r_pick (And.intro @r_add (And.intro @r_sub (And.intro @r_mul (And.intro @r_quo (And.intro @r_rem (And.intro @r_eql (And.intro @r_neq (And.intro @r_lss (And.intro @r_leq (And.intro @r_gtr (And.intro @r_geq (And.intro @r_bqe (And.intro @r_bqn (And.intro @r_sqe (And.intro @r_sqn (And.intro @r_aq (And.intro @eqKs_nil (And.intro @eqKs_int (And.intro @eqKs_bool (And.intro @eqKs_str (And.intro @r_nq0 (And.intro @r_nq1 (And.intro @r_not (And.intro @r_cvt (And.intro @r_ext (And.intro @r_lenro (And.intro @r_lenn (And.intro @r_lenr (And.intro @r_lens (And.intro @r_mx (And.intro @r_mn (And.intro @r_bld (And.intro @fillC_nil (And.intro @fillC_cons (And.intro @r_lit (And.intro @fillE_nil (And.intro @fillE_cons (And.intro @r_six (And.intro @r_fldf (And.intro @r_fldt (And.intro @r_sl_lh (And.intro @r_sl_h (And.intro @r_sl_l (And.intro @r_fap (And.intro @r_fai (And.intro @r_fal (And.intro @r_iar (And.intro @r_iaro (And.intro @r_iaap (And.intro @r_iaai (And.intro @r_iaal (And.intro @r_ncp (And.intro @r_nci (And.intro @r_ncl (And.intro @r_ncf (And.intro @r_mkf (And.intro @r_sadd (And.intro @lenro (And.intro @sl_ro (And.intro @sl_row (And.intro @ld_imm (And.intro @gc_f (And.intro @gc_t (And.intro @ce_agg (And.intro @ce_int (And.intro @ce_bool (And.intro @ce_str (And.intro @ce_lst (And.intro @ce_ro (And.intro @ce_row (And.intro @ce_nil (And.intro @ce_ptr (And.intro @ce_map (And.intro @ce_fn (And.intro @on_int (And.intro @on_bool (And.intro @on_str (And.intro @on_lst (And.intro @on_ro (And.intro @on_row (And.intro @on_nil (And.intro @on_ptr (And.intro @on_map (And.intro @on_fn (And.intro @on_agg (And.intro @o1_int (And.intro @o1_bool (And.intro @o1_str (And.intro @o1_lst (And.intro @o1_ro (And.intro @o1_row (And.intro @o1_nil (And.intro @o1_ptr (And.intro @o1_map (And.intro @o1_fn (And.intro @bm_none (And.intro @bm_some (And.intro @vw_nil (And.intro @vw_ro (And.intro @fz_int (And.intro @fz_bool (And.intro @fz_str (And.intro @fz_nil (And.intro @fz_ro (And.intro @fz_agg (And.intro @fz_tup (And.intro @fz_lit (And.intro @OC_map (And.intro @OC_ite (And.intro @mo_nil (@mo_cons)))))))))))))))))))))))))))))))))))))))))))))))))))))))))))))))))))))))))))))))))))))))))))))))))))))))))))))))))))))))))))))))))))
def sxa := And.intro @al_mv (And.intro @al_pmv (And.intro @al_pick (And.intro @al_bin (And.intro @al_bq (And.intro @al_sq (And.intro @al_aq (And.intro @al_nq (And.intro @al_sadd (And.intro @al_not (And.intro @al_cvt (And.intro @al_cvs (And.intro @al_bts (And.intro @al_ext (And.intro @al_len (And.intro @al_mx (And.intro @al_mn (And.intro @al_bld (And.intro @al_lit (And.intro @al_hlit (And.intro @al_six (And.intro @al_fld (And.intro @al_sl (And.intro @al_fa (And.intro @al_ia (And.intro @al_iaa (And.intro @al_nc (And.intro @al_ld (And.intro @al_st (And.intro @al_box (And.intro @al_hbox (And.intro @al_mk (And.intro @al_app (And.intro @al_cpy (And.intro @al_call (And.intro @al_callv (And.intro @al_mkf (And.intro @al_mkm (And.intro @al_look (And.intro @al_upd (@al_frz))))))))))))))))))))))))))))))))))))))))
def sxr := And.intro @rk_mv (And.intro @rk_pmv (And.intro @rk_pick (And.intro @rk_bin (And.intro @rk_bq (And.intro @rk_sq (And.intro @rk_aq (And.intro @rk_nq (And.intro @rk_sadd (And.intro @rk_not (And.intro @rk_cvt (And.intro @rk_cvs (And.intro @rk_ext (And.intro @rk_len (And.intro @rk_mx (And.intro @rk_mn (And.intro @rk_bld (And.intro @rk_lit (And.intro @rk_six (And.intro @rk_fld (And.intro @rk_sl (And.intro @rk_fa (And.intro @rk_ia (And.intro @rk_iaa (And.intro @rk_nc (@rk_mkf)))))))))))))))))))))))))
def sxm := And.intro @ml_some (And.intro @ml_sz (And.intro @ml_zl (And.intro @ml_len (And.intro @ml_get (And.intro @ml_c0 (And.intro @ml_c1 (And.intro @ml_c2 (And.intro @ml_c3 (And.intro @ml_c4 (And.intro @ml_om (And.intro @ml_on (And.intro @ml_nat (And.intro @ml_pos (And.intro @ml_ta (And.intro @ml_at (And.intro @ml_ft (And.intro @ml_tf (And.intro @ml_tt (And.intro @ml_ff (And.intro @ml_nt (And.intro @ml_nf (And.intro @ml_dt (And.intro @ml_df (And.intro @ml_d0 (And.intro @ml_dc (And.intro @ml_t0 (And.intro @ml_tc (And.intro @ml_tn (And.intro @ml_lc (And.intro @ml_ln (And.intro @ml_an (And.intro @ml_ac (And.intro @ml_alln (And.intro @ml_allc (And.intro @ml_b1 (And.intro @ml_b2 (And.intro @ml_beq (And.intro @ml_z (And.intro @ml_z' (And.intro @ml_rep (And.intro @ml_rep0 (And.intro @ml_s0 (And.intro @ml_s1 (And.intro @ml_s2 (@ml_si)))))))))))))))))))))))))))))))))))))))))))))
def sx := And.intro sxc (And.intro sxv (And.intro sxa (And.intro sxr (sxm))))

theorem W_L {F : Nat → Option Fn} {lo : Nat} {c b : AC} {lv lb : List Nat} {st : St} {Q : Ex → St → Prop} (h : c = .loop lv lb b) : W F lo c st Q ↔ W F lo b (st.cut lv lb) (KS F lo c Q) := by
  subst h
  exact W_loop
end Go.Am
