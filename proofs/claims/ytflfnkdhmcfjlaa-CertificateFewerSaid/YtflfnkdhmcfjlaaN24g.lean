/- A part of the proof: The law CertificateFewer holds: a system that has a certificate has one if a class has a worker less, and if a pool is larger; no conditions. -/
import Derived.Test.YtflfnkdhmcfjlaaN24f
namespace Go.Am
open Go
set_option linter.unusedSimpArgs false
set_option linter.unusedVariables false
set_option maxRecDepth 100000
def badN (n : Int) (e : Edge) : Bool := decide (e.fr < 0) || decide (n ≤ e.fr) || decide (e.to < 0) || decide (n ≤ e.to)
def chkG (n : Int) (l : List Edge) : Int := if n < 0 ∨ 4096 < n then 2 else if l.any (badN n) = true then 1 else 0
theorem sp102 {F : Nat → Option Fn} (hG : HasG F) {lo : Nat} {m : Mem} (n : Int) (l : List Edge) (hl : l.length < 1000000) : callw F 102 [vi n, vEdges l] lo m = some (vi (chkG n l), m) := by
 have loop : ∀ (t : List Edge) (i : Nat) (Q : Ex → St → Prop), l.drop i = t → (t.any (badN n) = true → Q .ret ⟨[(4, vi 1)], [], [], m⟩) → (t.any (badN n) = false → ∀ e, Q (.exit 0) ⟨e, [], [], m⟩) →
   W F m.next L102_1 ⟨[(0, vi n), (13, vEdges l), (14, vi l.length), (15, vi i)], [], [], m⟩ Q := by
  intro t
  induction t with
  | nil =>
   intro i Q hd q1 q2
   have hlt := drop_nil hd
   rw [W_L (c := L102_1) rfl]
   have : ¬ ((i : Nat) : Int) < (l.length : Int) := by omega
   simp only [↓sxc, sx, se, ↓reduceIte, Nat.reduceEqDiff, Nat.reduceAdd, Nat.reduceLT, Nat.reduceLeDiff, Nat.reduceSub, Nat.reduceMul, Int.reduceToNat, Int.reduceLT, Int.reduceLE, Int.reduceEq, ml_i0, ↓smc, sm, this]
   exact q2 rfl _
  | cons x t ih =>
   intro i Q hd q1 q2
   obtain ⟨hg, hd', hlt⟩ := drop_cons hd
   rw [W_L (c := L102_1) rfl]
   have : ((i : Nat) : Int) < (l.length : Int) := by omega
   have wr : wrapF .i64 ((i : Int) + 1) = ((i + 1 : Nat) : Int) := by rw [wr_i64 (by omega) (by omega)]; rfl
   by_cases e1 : x.fr < 0
   ·simp only [↓sxc, sx, se, ↓reduceIte, Nat.reduceEqDiff, Nat.reduceAdd, Nat.reduceLT, Nat.reduceLeDiff, Nat.reduceSub, Nat.reduceMul, Int.reduceToNat, Int.reduceLT, Int.reduceLE, Int.reduceEq, ml_i0, ↓smc, sm, this, hg, e1]
    exact q1 (by simp [badN, e1])
   ·by_cases e2 : n ≤ x.fr
    ·simp only [↓sxc, sx, se, ↓reduceIte, Nat.reduceEqDiff, Nat.reduceAdd, Nat.reduceLT, Nat.reduceLeDiff, Nat.reduceSub, Nat.reduceMul, Int.reduceToNat, Int.reduceLT, Int.reduceLE, Int.reduceEq, ml_i0, ↓smc, sm, this, hg, e1, e2]
     exact q1 (by simp [badN, e2])
    ·by_cases e3 : x.to < 0
     ·simp only [↓sxc, sx, se, ↓reduceIte, Nat.reduceEqDiff, Nat.reduceAdd, Nat.reduceLT, Nat.reduceLeDiff, Nat.reduceSub, Nat.reduceMul, Int.reduceToNat, Int.reduceLT, Int.reduceLE, Int.reduceEq, ml_i0, ↓smc, sm, this, hg, e1, e2, e3]
      exact q1 (by simp [badN, e3])
     ·by_cases e4 : n ≤ x.to
      ·simp only [↓sxc, sx, se, ↓reduceIte, Nat.reduceEqDiff, Nat.reduceAdd, Nat.reduceLT, Nat.reduceLeDiff, Nat.reduceSub, Nat.reduceMul, Int.reduceToNat, Int.reduceLT, Int.reduceLE, Int.reduceEq, ml_i0, ↓smc, sm, this, hg, e1, e2, e3, e4]
       exact q1 (by simp [badN, e4])
      ·have e : (x :: t).any (badN n) = t.any (badN n) := by simp [badN, e1, e2, e3, e4]
       rw [e] at q1 q2
       simp only [↓sxc, sx, se, ↓reduceIte, Nat.reduceEqDiff, Nat.reduceAdd, Nat.reduceLT, Nat.reduceLeDiff, Nat.reduceSub, Nat.reduceMul, Int.reduceToNat, Int.reduceLT, Int.reduceLE, Int.reduceEq, ml_i0, ↓smc, sm, this, hg, e1, e2, e3, e4, wr]
       exact ih (i + 1) Q hd' q1 q2
 refine call_p hG.h102 rfl ?_
 by_cases h1 : n < 0
 ·have e : chkG n l = 2 := by simp [chkG, h1]
  simp only [↓sxc, sx, se, ↓reduceIte, Nat.reduceEqDiff, Nat.reduceAdd, Nat.reduceLT, Nat.reduceLeDiff, Nat.reduceSub, Nat.reduceMul, Int.reduceToNat, Int.reduceLT, Int.reduceLE, Int.reduceEq, ml_i0, ↓smc, sm, h1, e]
 ·by_cases h2 : 4096 < n
  ·have e : chkG n l = 2 := by simp [chkG, h2]
   simp only [↓sxc, sx, se, ↓reduceIte, Nat.reduceEqDiff, Nat.reduceAdd, Nat.reduceLT, Nat.reduceLeDiff, Nat.reduceSub, Nat.reduceMul, Int.reduceToNat, Int.reduceLT, Int.reduceLE, Int.reduceEq, ml_i0, ↓smc, sm, h1, h2, e]
  ·simp only [↓sxc, sx, se, ↓reduceIte, Nat.reduceEqDiff, Nat.reduceAdd, Nat.reduceLT, Nat.reduceLeDiff, Nat.reduceSub, Nat.reduceMul, Int.reduceToNat, Int.reduceLT, Int.reduceLE, Int.reduceEq, ml_i0, ↓smc, sm, h1, h2]
   refine loop l 0 _ rfl (fun h => ?_) (fun h e => ?_)
   ·have e : chkG n l = 1 := by simp [chkG, h1, h2, h]
    simp only [↓sxc, sx, se, ↓reduceIte, Nat.reduceEqDiff, Nat.reduceAdd, Nat.reduceLT, Nat.reduceLeDiff, Nat.reduceSub, Nat.reduceMul, Int.reduceToNat, Int.reduceLT, Int.reduceLE, Int.reduceEq, ml_i0, ↓smc, sm, e]
   ·have e : chkG n l = 0 := by simp only [chkG, h]; simp; omega
    simp only [↓sxc, sx, se, ↓reduceIte, Nat.reduceEqDiff, Nat.reduceAdd, Nat.reduceLT, Nat.reduceLeDiff, Nat.reduceSub, Nat.reduceMul, Int.reduceToNat, Int.reduceLT, Int.reduceLE, Int.reduceEq, ml_i0, ↓smc, sm, e]
structure Gr (n : Int) (l : List Edge) : Prop where
 n0 : 0 ≤ n
 n4 : n ≤ 4096
 e : ∀ e ∈ l, ∃ a b : Nat, e.fr = a ∧ e.to = b ∧ (a : Int) < n ∧ (b : Int) < n
theorem gr_of {n : Int} {l : List Edge} (h : chkG n l = 0) : Gr n l := by
 unfold chkG at h
 split at h
 ·omega
 ·rename_i h1
  split at h
  ·omega
  ·rename_i h2
   refine ⟨by omega, by omega, fun e he => ?_⟩
   have h3 : l.any (badN n) = false := by simpa using h2
   have := List.any_eq_false.1 h3 e he
   simp [badN] at this
   exact ⟨e.fr.toNat, e.to.toNat, by omega, by omega, by omega, by omega⟩
def hOf : V → Option Nat
 | .row _ h _ _ => some h
 | _ => none
structure NestB (lo : Nat) (m : Mem) (h q : Nat) (E : List (List Int)) (es : List V) : Prop where
 lh : lo ≤ h
 hm : h < m.next
 bh : m.blk h = some (.row 1 es)
 ln : es.length = E.length
 rw : ∀ (i : Nat) (v : V) (L : List Int), es[i]? = some v → E[i]? = some L → Rw lo m 1 v (L.map vi)
 ap : ∀ (i j : Nat) (v w : V) (k : Nat), es[i]? = some v → es[j]? = some w → hOf v = some k → hOf w = some k → i = j
 ne : ∀ (i : Nat) (v : V) (k : Nat), es[i]? = some v → hOf v = some k → k ≠ h ∧ k ≠ q
theorem NestB.mono {lo h q : Nat} {m m' : Mem} {E : List (List Int)} {es : List V} (H : NestB lo m h q E es) (hn : m.next ≤ m'.next) (hb : ∀ k, k ≠ q → k < m.next → m'.blk k = m.blk k) (hq : h ≠ q) : NestB lo m' h q E es := by
 refine ⟨H.lh, Nat.lt_of_lt_of_le H.hm hn, by rw [hb h hq H.hm]; exact H.bh, H.ln, fun i v L h1 h2 => (H.rw i v L h1 h2).mono hn (fun k l hk => ?_), H.ap, H.ne⟩
 subst hk
 have h3 := (H.ne i _ k h1 rfl).2
 rcases H.rw i _ L h1 h2 with ⟨h4, _⟩ | ⟨k2, h4, _, h5, _⟩
 ·cases h4
 ·cases h4
  exact hb k h3 h5
theorem Rw.hand {lo sz : Nat} {m : Mem} {v : V} {xs : List V} (h : Rw lo m sz v xs) {k : Nat} (hk : hOf v = some k) : v = .row sz k 0 xs.length ∧ lo ≤ k ∧ k < m.next ∧ m.blk k = some (.row sz xs) := by
 rcases h with ⟨rfl, _⟩ | ⟨k2, rfl, h1, h2, h3⟩
 ·cases hk
 ·cases hk
  exact ⟨rfl, h1, h2, h3⟩
theorem Rw.hOf_none {lo sz : Nat} {m : Mem} {v : V} {xs : List V} (h : Rw lo m sz v xs) (hk : hOf v = none) : v = .nil ∧ xs = [] := by
 rcases h with h | ⟨k2, rfl, _⟩
 ·exact h
 ·cases hk
theorem NestB.push {lo h q : Nat} {m : Mem} {E : List (List Int)} {es : List V} (H : NestB lo m h q E es) (c hN : Nat) (h1 : m.next ≤ hN) (h2 : hN < m.next + c) (hlo : lo ≤ m.next) (hq : q < m.next) {i : Nat} {L : List Int} (hE : E[i]? = some L) (hL : L.length < 1000000) (x : Int) :
  ∃ v v' m2, es[i]? = some v ∧ v.cells[0]? = some v ∧ apV lo hN (m.bump c) 1 v (.lst false 1 [vi x]) = some (v', m2) ∧ setC 0 1 v' v = some v' ∧ m2.blk h = some (.row 1 es) ∧ m2.next = m.next + c ∧ (∀ k, hOf v ≠ some k → k ≠ hN → m2.blk k = m.blk k) ∧ m2.blk q = m.blk q ∧ NestB lo (m2.set h (some (.row 1 (es.set i v')))) h q (E.set i (L ++ [x])) (es.set i v') := by
 have hi : i < E.length := (List.getElem?_eq_some_iff.1 hE).1
 have hv : es[i]? = some (es[i]'(by rw [H.ln]; exact hi)) := List.getElem?_eq_getElem _
 generalize es[i]'(by rw [H.ln]; exact hi) = v at hv
 have hr := H.rw i v L hv hE
 have hm := H.hm
 have fin : ∀ m2 : Mem, m2.next = m.next + c → m2.blk hN = some (.row 1 ((L ++ [x]).map vi)) → (∀ k, hOf v ≠ some k → k ≠ hN → m2.blk k = m.blk k) →
   NestB lo (m2.set h (some (.row 1 (es.set i (.row 1 hN 0 (L ++ [x]).length))))) h q (E.set i (L ++ [x])) (es.set i (.row 1 hN 0 (L ++ [x]).length)) := by
  intro m2 n2 b1 b2
  refine ⟨H.lh, by show h < m2.next; omega, by simp [Mem.set], by simp [H.ln], fun j w M hj hM => ?_, fun j k w z hk hj hk' e1 e2 => ?_, fun j w k hj hk => ?_⟩
  ·by_cases hij : j = i
   ·subst hij
    rw [List.getElem?_set_self (by rw [H.ln]; exact hi)] at hj
    rw [List.getElem?_set_self hi] at hM
    cases hj
    cases hM
    refine .inr ⟨hN, by simp, by omega, by show hN < m2.next; omega, ?_⟩
    rw [set_ne (by omega)]
    exact b1
   ·rw [List.getElem?_set_ne (Ne.symm hij)] at hj hM
    refine (H.rw j w M hj hM).mono (by show m.next ≤ m2.next; omega) (fun k l hk => ?_)
    subst hk
    have h3 := (H.ne j _ k hj rfl).1
    rw [set_ne h3]
    obtain ⟨_, _, h4, _⟩ := (H.rw j _ M hj hM).hand (k := k) rfl
    exact b2 k (fun hc => hij (H.ap j i _ _ k hj hv rfl hc)) (by omega)
  ·have lt : ∀ (j : Nat) (w : V) (k : Nat), j ≠ i → es[j]? = some w → hOf w = some k → k < m.next := by
    intro j w k _ hj hk
    have hjl := (List.getElem?_eq_some_iff.1 hj).1
    exact ((H.rw j w _ hj (List.getElem?_eq_getElem (by rw [← H.ln]; exact hjl))).hand hk).2.2.1
   by_cases hji : j = i
   ·by_cases hki : k = i
    ·rw [hji, hki]
    ·subst hji
     rw [List.getElem?_set_self (by rw [H.ln]; exact hi)] at hj
     rw [List.getElem?_set_ne (Ne.symm hki)] at hk'
     cases hj
     cases e1
     have := lt k z hN hki hk' e2
     omega
   ·by_cases hki : k = i
    ·subst hki
     rw [List.getElem?_set_self (by rw [H.ln]; exact hi)] at hk'
     rw [List.getElem?_set_ne (Ne.symm hji)] at hj
     cases hk'
     cases e2
     have := lt j w hN hji hj e1
     omega
    ·rw [List.getElem?_set_ne (Ne.symm hji)] at hj
     rw [List.getElem?_set_ne (Ne.symm hki)] at hk'
     exact H.ap j k w z hk hj hk' e1 e2
  ·by_cases hji : j = i
   ·subst hji
    rw [List.getElem?_set_self (by rw [H.ln]; exact hi)] at hj
    cases hj
    cases hk
    exact ⟨by omega, by omega⟩
   ·rw [List.getElem?_set_ne (Ne.symm hji)] at hj
    exact H.ne j w k hj hk
 cases hh : hOf v with
 | none =>
  obtain ⟨rfl, h3⟩ := hr.hOf_none hh
  have hL0 : L = [] := by simpa using h3
  subst hL0
  have hb : ([vi x] : List V).length < big := by simp [big]
  refine ⟨.nil, .row 1 hN 0 1, (m.bump c).set hN (some (.row 1 [vi x])), hv, rfl, ap_nil vw_lst rfl hb, rfl, ?_, rfl, fun k _ hk => set_ne hk, ?_, ?_⟩
  ·rw [set_ne (by omega)]
   exact H.bh
  ·rw [set_ne (by omega)]
   rfl
  ·exact fin ((m.bump c).set hN (some (.row 1 [vi x]))) rfl (by simp [Mem.set]) (fun k _ hk => set_ne hk)
 | some k =>
  obtain ⟨rfl, h3, h4, h5⟩ := hr.hand hh
  have hne := H.ne i _ k hv rfl
  have h6 : (m.bump c).blk k = some (.row 1 (L.map vi)) := h5
  have ha := ap_row (m := m.bump c) (lo := lo) (h := hN) (h' := k) (o := 0) (l := (L.map vi).length) (sz := 1) (s := 1) (y := .lst false 1 [vi x]) (xs := [vi x]) (es := L.map vi) vw_lst h3 (.inl rfl) (by simp [big]; omega) h6 (by simp)
  have e1 : (List.take (L.map vi).length (List.drop 0 (L.map vi)) ++ [vi x]) = (L ++ [x]).map vi := by rw [List.drop_zero, List.take_of_length_le (Nat.le_refl _), List.map_append]; rfl
  have e2 : (L.map vi).length + [vi x].length = (L ++ [x]).length := by simp
  rw [e1, e2] at ha
  have hbl : ∀ j, hOf (V.row 1 k 0 (L.map vi).length) ≠ some j → j ≠ hN → (((m.bump c).set k none).set hN (some (.row 1 ((L ++ [x]).map vi)))).blk j = m.blk j := fun j hj1 hj2 => by
   rw [set_ne hj2, set_ne (fun hc => hj1 (by rw [hc]; rfl))]
   rfl
  refine ⟨_, .row 1 hN 0 (L ++ [x]).length, ((m.bump c).set k none).set hN (some (.row 1 ((L ++ [x]).map vi))), hv, rfl, ha, rfl, ?_, rfl, hbl, ?_, ?_⟩
  ·rw [hbl h (fun hc => hne.1 (Option.some.inj hc)) (by omega)]
   exact H.bh
  ·exact hbl q (fun hc => hne.2 (Option.some.inj hc)) (by omega)
  ·exact fin _ rfl (by simp [Mem.set]) hbl
theorem pk_nest {t a : Nat} {v y : V} : keysApart [Key.bx t] (Key.h a :: (v.key ++ y.key)) = true := by
 simp only [keysApart, List.all_cons, List.all_nil, List.all_append, Bool.and_true]
 cases v <;> cases y <;> rfl
end Go.Am
namespace Go.Am
open Go
set_option linter.unusedSimpArgs false
set_option linter.unusedVariables false
set_option maxRecDepth 100000
def buck (key : Edge → Int) (val : Nat → Edge → Int) : List Edge → Nat → Int → List Int
 | [], _, _ => []
 | e :: t, i, w => (if key e = w then [val i e] else []) ++ buck key val t (i + 1) w
theorem buck_snoc {key : Edge → Int} {val : Nat → Edge → Int} {e : Edge} {w : Int} : ∀ {p : List Edge} {i : Nat}, buck key val (p ++ [e]) i w = buck key val p i w ++ if key e = w then [val (i + p.length) e] else []
 | [], i => by simp [buck]
 | x :: p, i => by
  rw [List.cons_append, buck, buck, buck_snoc (p := p), List.append_assoc, List.length_cons, show i + 1 + p.length = i + (p.length + 1) by omega]
theorem buck_len {key : Edge → Int} {val : Nat → Edge → Int} {w : Int} : ∀ {p : List Edge} {i : Nat}, (buck key val p i w).length ≤ p.length
 | [], i => by simp [buck]
 | x :: p, i => by
  have := buck_len (key := key) (val := val) (w := w) (p := p) (i := i + 1)
  rw [buck, List.length_append, List.length_cons]
  split <;> simp <;> omega
def bucks (key : Edge → Int) (val : Nat → Edge → Int) (N : Nat) (l : List Edge) : List (List Int) := (List.range N).map fun (w : Nat) => buck key val l 0 (w : Int)
theorem bucks_get {key : Edge → Int} {val : Nat → Edge → Int} {N : Nat} {l : List Edge} {b : Nat} (h : b < N) : (bucks key val N l)[b]? = some (buck key val l 0 b) := by simp [bucks, h]
theorem bucks_len {key : Edge → Int} {val : Nat → Edge → Int} {N : Nat} {l : List Edge} : (bucks key val N l).length = N := by simp [bucks]
theorem bucks_push {key : Edge → Int} {val : Nat → Edge → Int} {N : Nat} {p : List Edge} {e : Edge} {b : Nat} (hk : key e = b) (hb : b < N) : (bucks key val N p).set b (buck key val p 0 b ++ [val p.length e]) = bucks key val N (p ++ [e]) := by
 refine List.ext_getElem? fun j => ?_
 by_cases hj : j < N
 ·rw [bucks_get hj, buck_snoc, Nat.zero_add]
  by_cases hjb : j = b
  ·subst hjb
   rw [List.getElem?_set_self (by rw [bucks_len]; exact hj), if_pos hk]
  ·rw [List.getElem?_set_ne (Ne.symm hjb), bucks_get hj, if_neg (by rw [hk]; omega), List.append_nil]
 ·rw [List.getElem?_eq_none (by simp [bucks_len]; omega), List.getElem?_eq_none (by simp [bucks_len]; omega)]
def cntF (l : List Edge) (v : Nat) : Int := (l.countP fun e => decide (e.fr = (v : Int)) : Nat)
def cnts (N : Nat) (l : List Edge) : List Int := (List.range N).map (cntF l)
theorem cnts_get {N : Nat} {l : List Edge} {v : Nat} (h : v < N) : (cnts N l)[v]? = some (cntF l v) := by simp [cnts, h]
theorem cnts_push {N : Nat} {p : List Edge} {e : Edge} {a : Nat} (ha : e.fr = a) (hb : a < N) : (cnts N p).set a (cntF p a + 1) = cnts N (p ++ [e]) := by
 refine List.ext_getElem? fun j => ?_
 by_cases hj : j < N
 ·rw [cnts_get hj]
  by_cases hja : j = a
  ·subst hja
   rw [List.getElem?_set_self (by simp [cnts]; exact hj)]
   simp [cntF, ha]
  ·rw [List.getElem?_set_ne (Ne.symm hja), cnts_get hj]
   have : ¬ e.fr = (j : Int) := by omega
   simp [cntF, this]
 ·rw [List.getElem?_eq_none (by simp [cnts]; omega), List.getElem?_eq_none (by simp [cnts]; omega)]
theorem cntF_bd {l : List Edge} {v : Nat} : 0 ≤ cntF l v ∧ cntF l v ≤ l.length := by
 unfold cntF
 have := List.countP_le_length (p := fun e : Edge => decide (e.fr = (v : Int))) (l := l)
 omega
structure IR (lo : Nat) (m : Mem) (h : Nat) (xs : List Int) : Prop where
 lh : lo ≤ h
 hm : h < m.next
 b : m.blk h = some (.row 1 (xs.map vi))
theorem IR.mono {lo h : Nat} {m m' : Mem} {xs : List Int} (H : IR lo m h xs) (hn : m.next ≤ m'.next) (hb : m'.blk h = m.blk h) : IR lo m' h xs := ⟨H.lh, Nat.lt_of_lt_of_le H.hm hn, by rw [hb]; exact H.b⟩
theorem IR.set {lo h : Nat} {m : Mem} {xs : List Int} (H : IR lo m h xs) (ys : List Int) : IR lo (m.set h (some (.row 1 (ys.map vi)))) h ys := ⟨H.lh, H.hm, by simp [Mem.set]⟩
def frV (_ : Nat) (e : Edge) : Int := e.fr
theorem w41_1 {F : Nat → Option Fn} {lo : Nat} {n : Int} (l : List Edge) (gr : Gr n l) (hl : l.length < 100000) (N : Nat) (hN : n = N) (h7 h8 : Nat) (hhq : h8 ≠ h7) : ∀ (t : List Edge) (j : Nat) (es : List V) (m : Mem) (Q : Ex → St → Prop), l.drop j = t → lo ≤ m.next → IR lo m h7 (cnts N (l.take j)) → NestB lo m h8 h7 (bucks Edge.to frV N (l.take j)) es →
  (∀ es m' e, m.next ≤ m'.next → IR lo m' h7 (cnts N l) → NestB lo m' h8 h7 (bucks Edge.to frV N l) es → Q (.exit 0) ⟨(0, vi n) :: (7, .row 1 h7 0 N) :: (8, .row 1 h8 0 N) :: e, [], [], m'⟩) →
  W F lo L41_1 ⟨[(0, vi n), (7, .row 1 h7 0 N), (8, .row 1 h8 0 N), (28, vEdges l), (29, vi l.length), (30, vi j)], [], [], m⟩ Q := by
 intro t
 induction t with
 | nil =>
  intro j es m Q hd hm h1 h2 hq
  have hlt := drop_nil hd
  rw [W_L (c := L41_1) rfl]
  have : ¬ ((j : Nat) : Int) < (l.length : Int) := by omega
  simp only [↓sxc, sx, se, ↓reduceIte, Nat.reduceEqDiff, Nat.reduceAdd, Nat.reduceLT, Nat.reduceLeDiff, Nat.reduceSub, Nat.reduceMul, Int.reduceToNat, Int.reduceLT, Int.reduceLE, Int.reduceEq, ml_i0, ↓smc, sm, this]
  rw [List.take_of_length_le hlt] at h1 h2
  exact hq es m _ (Nat.le_refl _) h1 h2
 | cons x t ih =>
  intro j es m Q hd hm h1 h2 hq
  obtain ⟨hg, hd', hlt⟩ := drop_cons hd
  rw [W_L (c := L41_1) rfl]
  have : ((j : Nat) : Int) < (l.length : Int) := by omega
  have wr : wrapF .i64 ((j : Int) + 1) = ((j + 1 : Nat) : Int) := by rw [wr_i64 (by omega) (by omega)]; rfl
  obtain ⟨a, b, ha, hb, ha2, hb2⟩ := gr.e x (List.mem_of_getElem? hg)
  subst hN
  have aN : a < N := by omega
  have bN : b < N := by omega
  have ai : (a : Int) < (N : Int) := ha2
  have bi : (b : Int) < (N : Int) := hb2
  have a0 : (0 : Int) ≤ a := by omega
  have b0 : (0 : Int) ≤ b := by omega
  have an : ((a : Nat) : Int).toNat = a := rfl
  have bn : ((b : Nat) : Int).toNat = b := rfl
  have ga := cnts_get (l := l.take j) aN
  have cb := cntF_bd (l := l.take j) (v := a)
  have hlj : ((l.take j).length : Int) ≤ l.length := by simp; omega
  have w1 : wrapF .i64 (cntF (l.take j) a + 1) = cntF (l.take j) a + 1 := wr_i64 (by omega) (by omega)
  have hb7 := h1.b
  have hl7 := h1.lh
  have hl8 := h2.lh
  let m1 : Mem := m.set h7 (some (.row 1 ((cnts N (l.take (j + 1))).map vi)))
  have ep : (cnts N (l.take j)).set a (cntF (l.take j) a + 1) = cnts N (l.take (j + 1)) := by rw [cnts_push ha aN, take_succ_drop hd]
  have em : m.set h7 (some (.row 1 (((cnts N (l.take j)).map vi).set a (vi (cntF (l.take j) a + 1))))) = m1 := by
   show _ = m.set h7 (some (.row 1 ((cnts N (l.take (j + 1))).map vi)))
   rw [← ep, List.map_set]
  have h1' : IR lo m1 h7 (cnts N (l.take (j + 1))) := h1.set _
  have h2' : NestB lo m1 h8 h7 (bucks Edge.to frV N (l.take j)) es := h2.mono (Nat.le_refl _) (fun k hk _ => set_ne hk) hhq
  have n1 : m1.next = m.next := rfl
  have hbl := buck_len (key := Edge.to) (val := frV) (w := (b : Int)) (p := l.take j) (i := 0)
  obtain ⟨v, v', m2, q1, qc, q2, q3, q4, q5, q6, q7, q8⟩ := h2'.push 14 (m1.next + 11) (by omega) (by omega) (by omega) (by rw [n1]; exact h1.hm) (bucks_get bN) (by omega) (a : Int)
  have hb8 := h2'.bh
  rw [n1] at q2
  clear_value m1
  simp only [↓sxc, sx, se, ↓reduceIte, Nat.reduceEqDiff, Nat.reduceAdd, Nat.reduceLT, Nat.reduceLeDiff, Nat.reduceSub, Nat.reduceMul, Int.reduceToNat, Int.reduceLT, Int.reduceLE, Int.reduceEq, ml_i0, ↓W_dreg, ↓sk, sk, ↓smc, sm, this, hg, ha, hb, ai, bi, a0, b0, an, bn, hb7, hl7, ga, w1, em, hb8, hl8, q1, q2, q3, q4, qc, wr, n1]
  have e8 : (bucks Edge.to frV N (l.take j)).set b (buck Edge.to frV (l.take j) 0 b ++ [(a : Int)]) = bucks Edge.to frV N (l.take (j + 1)) := by
   rw [take_succ_drop hd, ← bucks_push hb bN]
   simp only [frV, ha]
  rw [e8] at q8
  refine ⟨by simp [pairsOk, nth_eq, pk_nest], ?_⟩
  refine ih (j + 1) _ _ Q hd' ?_ (h1'.mono ?_ ?_) q8 (fun es m' e p1 p2 p3 => hq es m' e ?_ p2 p3)
  ·show lo ≤ m2.next; omega
  ·show m1.next ≤ m2.next; omega
  ·rw [set_ne (Ne.symm hhq)]; exact q7
  ·have p1' : m2.next ≤ m'.next := p1
   omega
def zeros (xs : List Int) (j : Nat) : List Int := ((List.range j).filter fun (i : Nat) => decide (xs[i]? = some 0)).map fun (i : Nat) => (i : Int)
theorem zeros_succ {xs : List Int} {j : Nat} {x : Int} (h : xs[j]? = some x) : zeros xs (j + 1) = zeros xs j ++ if x = 0 then [(j : Int)] else [] := by
 unfold zeros
 rw [List.range_succ, List.filter_append, List.map_append]
 by_cases hx : x = 0
 ·subst hx; simp [h]
 ·have : ¬ xs[j]? = some 0 := by rw [h]; simpa using hx
  simp [this, hx]
theorem zeros_len {xs : List Int} {j : Nat} : (zeros xs j).length ≤ j := by
 unfold zeros
 rw [List.length_map]
 exact Nat.le_trans (List.length_filter_le ..) (by simp)
structure Qs (lo : Nat) (m : Mem) (b : Nat) (v : V) (xs : List Int) : Prop where
 rw : Rw lo m 1 v (xs.map vi)
 nb : ∀ k, hOf v = some k → b ≤ k
 bn : b ≤ m.next
theorem Qs.push {lo b : Nat} {m : Mem} {v : V} {xs : List Int} (H : Qs lo m b v xs) (hlo : lo ≤ m.next) (hb : xs.length < 1000000) (x : Int) :
  ∃ v' m', apV lo m.next m 1 v (.lst false 1 [vi x]) = some (v', m') ∧ Qs lo (m'.bump 1) b v' (xs ++ [x]) ∧ m'.next = m.next ∧ ∀ k, k < b → m'.blk k = m.blk k := by
 obtain ⟨v', m', h1, h2, h3, _, h4, h5⟩ := H.rw.app2 (y := .lst false 1 [vi x]) hlo vw_lst (.inl rfl) (by simp [big]; omega)
 refine ⟨v', m', h1, ⟨by rw [List.map_append]; exact h2, fun k hk => ?_, by show b ≤ m'.next + 1; have := H.bn; omega⟩, h3, fun k hk => h4 k (fun l hv => ?_) (by have := H.bn; omega)⟩
 ·rcases h5 with rfl | ⟨l, rfl⟩
  ·cases hk
  ·cases hk; exact H.bn
 ·have := H.nb k (by rw [hv]; rfl)
  omega
theorem Qs.mono {lo b : Nat} {m m' : Mem} {v : V} {xs : List Int} (H : Qs lo m b v xs) (hn : m.next ≤ m'.next) (hb : ∀ k, b ≤ k → k < m.next → m'.blk k = m.blk k) : Qs lo m' b v xs :=
 ⟨H.rw.mono hn (fun k l hk => by
  subst hk
  obtain ⟨_, _, h4, _⟩ := H.rw.hand (k := k) rfl
  exact hb k (H.nb k rfl) h4), H.nb, Nat.le_trans H.bn hn⟩
theorem IR.len {lo h : Nat} {m : Mem} {xs : List Int} (H : IR lo m h xs) : True := trivial
theorem w41_2 {F : Nat → Option Fn} {lo : Nat} {n : Int} (N : Nat) (hN : N ≤ 4096) (h7 b : Nat) (h7b : h7 < b) (u8 u11 : V) (xs : List Int) (hx : xs.length = N) : ∀ (r j : Nat) (v : V) (m : Mem) (Q : Ex → St → Prop), j + r = N → lo ≤ m.next → IR lo m h7 xs → Qs lo m b v (zeros xs j) →
  (∀ v m' e, m.next ≤ m'.next → Qs lo m' b v (zeros xs N) → (∀ k, k < b → m'.blk k = m.blk k) → Q (.exit 2) ⟨(0, vi n) :: (7, .row 1 h7 0 N) :: (8, u8) :: (11, u11) :: (12, v) :: e, [], [], m'⟩) →
  W F lo L41_2 ⟨[(0, vi n), (7, .row 1 h7 0 N), (8, u8), (11, u11), (12, v), (57, .row 1 h7 0 N), (58, vi N), (59, vi j)], [], [], m⟩ Q := by
 intro r
 induction r with
 | zero =>
  intro j v m Q hj hm h1 h2 hq
  rw [W_L (c := L41_2) rfl]
  have : ¬ ((j : Nat) : Int) < (N : Int) := by omega
  simp only [↓sxc, sx, se, ↓reduceIte, Nat.reduceEqDiff, Nat.reduceAdd, Nat.reduceLT, Nat.reduceLeDiff, Nat.reduceSub, Nat.reduceMul, Int.reduceToNat, Int.reduceLT, Int.reduceLE, Int.reduceEq, ml_i0, ↓smc, sm, this]
  exact hq v m _ (Nat.le_refl _) (by rw [← show j = N by omega]; exact h2) (fun _ _ => rfl)
 | succ r ih =>
  intro j v m Q hj hm h1 h2 hq
  rw [W_L (c := L41_2) rfl]
  have : ((j : Nat) : Int) < (N : Int) := by omega
  have wr : wrapF .i64 ((j : Int) + 1) = ((j + 1 : Nat) : Int) := by rw [wr_i64 (by omega) (by omega)]; rfl
  have hg : xs[j]? = some (xs[j]'(by omega)) := List.getElem?_eq_getElem _
  generalize xs[j]'(by omega) = x at hg
  have hb7 := h1.b
  have hzl := zeros_len (xs := xs) (j := j)
  by_cases hx0 : x = 0
  ·obtain ⟨v', m', q1, q2, q3, q4⟩ := h2.push hm (by omega) (j : Int)
   simp only [↓sxc, sx, se, ↓reduceIte, Nat.reduceEqDiff, Nat.reduceAdd, Nat.reduceLT, Nat.reduceLeDiff, Nat.reduceSub, Nat.reduceMul, Int.reduceToNat, Int.reduceLT, Int.reduceLE, Int.reduceEq, ml_i0, ↓smc, sm, this, hb7, hg, hx0, q1, wr]
   refine ih (j + 1) v' _ Q (by omega) (by show lo ≤ m'.next + 1; omega) (h1.mono (by show m.next ≤ m'.next + 1; omega) (q4 h7 h7b)) (by rw [zeros_succ hg, if_pos hx0]; exact q2) (fun v m2 e p1 p2 p3 => hq v m2 e ?_ p2 (fun k hk => by rw [p3 k hk]; exact q4 k hk))
   have : m'.next + 1 ≤ m2.next := p1
   omega
  ·simp only [↓sxc, sx, se, ↓reduceIte, Nat.reduceEqDiff, Nat.reduceAdd, Nat.reduceLT, Nat.reduceLeDiff, Nat.reduceSub, Nat.reduceMul, Int.reduceToNat, Int.reduceLT, Int.reduceLE, Int.reduceEq, ml_i0, ↓smc, sm, this, hb7, hg, hx0, wr]
   exact ih (j + 1) v m Q (by omega) hm h1 (by rw [zeros_succ hg, if_neg hx0, List.append_nil]; exact h2) hq
end Go.Am
namespace Go.Am
open Go
set_option linter.unusedSimpArgs false
set_option linter.unusedVariables false
theorem nodup_le {α : Type} [DecidableEq α] : ∀ {xs ys : List α}, xs.Nodup → (∀ x ∈ xs, x ∈ ys) → xs.length ≤ ys.length
 | [], ys, _, _ => Nat.zero_le _
 | x :: xs, ys, h, hs => by
  rw [List.nodup_cons] at h
  have hx := hs x (by simp)
  have := nodup_le (xs := xs) (ys := ys.erase x) h.2 (fun y hy => (List.mem_erase_of_ne (fun e => h.1 (by rw [← e]; exact hy))).2 (hs y (by simp [hy])))
  rw [List.length_erase_of_mem hx] at this
  have : 0 < ys.length := List.length_pos_of_mem hx
  simp only [List.length_cons]
  omega
def gAt (xs : List Int) (r : Int) : Int := xs.getD r.toNat 0
theorem gAt_get {xs : List Int} {v : Nat} (h : v < xs.length) : xs[v]? = some (gAt xs v) := by
 rw [List.getElem?_eq_getElem h]
 simp [gAt, List.getD, List.getElem?_eq_getElem h]
theorem gAt_set {xs : List Int} {v w : Nat} {x : Int} (h : v < xs.length) : gAt (xs.set v x) w = if w = v then x else gAt xs w := by
 unfold gAt
 simp only [Int.toNat_natCast, List.getD]
 by_cases e : w = v
 ·subst e
  rw [List.getElem?_set_self h, if_pos rfl]; rfl
 ·rw [List.getElem?_set_ne (Ne.symm e), if_neg e]
structure LevEq (N : Nat) (l : List Edge) (f : List Int) : Prop where
 ln : f.length = N
 nn : ∀ v, v < N → 0 ≤ gAt f v
 ge : ∀ e ∈ l, gAt f e.to + 1 ≤ gAt f e.fr
 wit : ∀ v, v < N → gAt f v = 0 ∨ ∃ e ∈ l, e.fr = (v : Int) ∧ gAt f v = gAt f e.to + 1
theorem LevEq.uniq {n : Int} {N : Nat} {l : List Edge} (gr : Gr n l) (hN : n = N) {f g : List Int} (hf : LevEq N l f) (hg : LevEq N l g) : f = g := by
 have key : ∀ (k : Nat) (v : Nat), v < N → gAt f v < k → gAt f v = gAt g v := by
  intro k
  induction k with
  | zero => intro v hv h; have := hf.nn v hv; omega
  | succ k ih =>
   intro v hv h
   have le : ∀ e ∈ l, e.fr = (v : Int) → gAt f e.to = gAt g e.to := fun e he hfr => by
    obtain ⟨a, b, h1, h2, h3, h4⟩ := gr.e e he
    have h5 := hf.ge e he
    rw [hfr] at h5
    rw [h2] at h5 ⊢
    exact ih b (by omega) (by omega)
   rcases hf.wit v hv with h0 | ⟨e, he, hfr, hw⟩
   ·rcases hg.wit v hv with h1 | ⟨e, he, hfr, hw⟩
    ·omega
    ·have h2 := hf.ge e he
     obtain ⟨a, b, q1, q2, q3, q4⟩ := gr.e e he
     have h3 := hf.nn b (by omega)
     rw [hfr, q2] at h2
     omega
   ·have h1 := hg.ge e he
    rw [hfr, ← le e he hfr] at h1
    rcases hg.wit v hv with h2 | ⟨e', he', hfr', hw'⟩
    ·obtain ⟨a, b, q1, q2, q3, q4⟩ := gr.e e he
     have h3 := hf.nn b (by omega)
     rw [q2] at hw h1
     omega
    ·have h2 := hf.ge e' he'
     rw [hfr', le e' he' hfr'] at h2
     omega
 refine List.ext_getElem? fun v => ?_
 by_cases hv : v < N
 ·rw [gAt_get (by rw [hf.ln]; exact hv), gAt_get (by rw [hg.ln]; exact hv), key ((gAt f v).toNat + 1) v hv (by omega)]
 ·rw [List.getElem?_eq_none (by rw [hf.ln]; omega), List.getElem?_eq_none (by rw [hg.ln]; omega)]
def rest (l : List Edge) (P : List Int) (v : Nat) : Nat := l.countP fun e => decide (e.fr = (v : Int)) && !decide (e.to ∈ P)
theorem rest_nil {l : List Edge} {v : Nat} : (rest l [] v : Int) = cntF l v := by
 unfold rest cntF
 congr 1
 exact List.countP_congr (fun e _ => by simp)
theorem buck_count {P : List Int} {u : Int} {v : Nat} (hu : u ∉ P) : ∀ {l : List Edge} {i : Nat}, rest l P v = rest l (P ++ [u]) v + (buck Edge.to frV l i u).count (v : Int)
 | [], i => by simp [rest, buck]
 | e :: l, i => by
  have ih := buck_count (P := P) (u := u) (v := v) hu (l := l) (i := i + 1)
  unfold rest at ih ⊢
  rw [List.countP_cons, List.countP_cons, ih, buck, List.count_append]
  by_cases h1 : e.to = u
  ·rw [if_pos h1]
   by_cases h2 : e.fr = (v : Int)
   ·have h3 : ¬ e.to ∈ P := by rw [h1]; exact hu
    simp [h1, h2, frV, hu]
    omega
   ·simp [h2, frV, List.count_cons]
  ·rw [if_neg h1]
   by_cases h2 : e.to ∈ P
   ·simp [h2]
   ·simp [h1, h2]
    split <;> omega
theorem mem_inL {l : List Edge} {u x : Int} : ∀ {i : Nat}, x ∈ buck Edge.to frV l i u → ∃ e ∈ l, e.fr = x ∧ e.to = u := by
 induction l with
 | nil => intro i h; simp [buck] at h
 | cons e l ih =>
  intro i h
  rw [buck, List.mem_append] at h
  rcases h with h | h
  ·split at h
   ·rename_i h1
    simp [frV] at h
    exact ⟨e, by simp, h.symm, h1⟩
   ·simp at h
  ·obtain ⟨e', h1, h2⟩ := ih h
   exact ⟨e', by simp [h1], h2⟩
theorem inL_mem {l : List Edge} {e : Edge} : ∀ {i : Nat}, e ∈ l → e.fr ∈ buck Edge.to frV l i e.to := by
 induction l with
 | nil => intro i h; simp at h
 | cons d l ih =>
  intro i h
  rw [buck, List.mem_append]
  rcases List.mem_cons.1 h with rfl | h
  ·exact .inl (by simp [frV])
  ·exact .inr (ih h)
structure KI (N : Nat) (l : List Edge) (lf lv qs : List Int) (d : Nat) : Prop where
 lfl : lf.length = N
 lvl : lv.length = N
 dq : d ≤ qs.length
 nd : qs.Nodup
 rg : ∀ x ∈ qs, ∃ v : Nat, x = v ∧ v < N
 left : ∀ v, v < N → gAt lf v = rest l (qs.take d) v
 zero : ∀ v : Nat, v < N → ((v : Int) ∈ qs ↔ gAt lf v = 0)
 ge : ∀ e ∈ l, e.to ∈ qs.take d → gAt lv e.to + 1 ≤ gAt lv e.fr
 wit : ∀ v, v < N → gAt lv v = 0 ∨ ∃ e ∈ l, e.fr = (v : Int) ∧ e.to ∈ qs.take d ∧ gAt lv v = gAt lv e.to + 1
 bd : ∀ v, v < N → 0 ≤ gAt lv v ∧ gAt lv v ≤ d
structure KJ (N : Nat) (l : List Edge) (lf lv qs : List Int) (d : Nat) (u : Nat) (t : List Int) : Prop where
 lfl : lf.length = N
 lvl : lv.length = N
 uq : qs[d]? = some (u : Int)
 uN : u < N
 nd : qs.Nodup
 rg : ∀ x ∈ qs, ∃ v : Nat, x = v ∧ v < N
 tr : ∀ x ∈ t, ∃ v : Nat, x = v ∧ v < N ∧ ∃ e ∈ l, e.fr = x ∧ e.to = (u : Int)
 left : ∀ v, v < N → gAt lf v = rest l (qs.take d ++ [(u : Int)]) v + t.count (v : Int)
 zero : ∀ v : Nat, v < N → ((v : Int) ∈ qs ↔ gAt lf v = 0)
 ge : ∀ e ∈ l, e.to ∈ qs.take d → gAt lv e.to + 1 ≤ gAt lv e.fr
 gu : ∀ e ∈ l, e.to = (u : Int) → e.fr ∈ t ∨ gAt lv e.to + 1 ≤ gAt lv e.fr
 wit : ∀ v, v < N → gAt lv v = 0 ∨ ∃ e ∈ l, e.fr = (v : Int) ∧ (e.to ∈ qs.take d ∨ e.to = (u : Int)) ∧ gAt lv v = gAt lv e.to + 1
 bd : ∀ v, v < N → 0 ≤ gAt lv v ∧ gAt lv v ≤ d + 1
 bu : gAt lv u ≤ d
theorem nodup_take_get {qs : List Int} {d : Nat} {x : Int} (h : qs.Nodup) (hd : qs[d]? = some x) : x ∉ qs.take d := by
 intro hm
 obtain ⟨i, hi, e⟩ := List.getElem_of_mem hm
 have hdl := (List.getElem?_eq_some_iff.1 hd).1
 have hil : i < d := by simp at hi; omega
 have e1 : qs[i]? = some x := by
  rw [List.getElem_take] at e
  rw [List.getElem?_eq_getElem (by omega), e]
 have e2 := List.pairwise_iff_getElem.1 h i d (by omega) hdl hil
 rw [List.getElem?_eq_getElem (by omega)] at e1
 rw [List.getElem?_eq_getElem hdl] at hd
 rw [Option.some.inj e1, Option.some.inj hd] at e2
 exact e2 rfl
theorem KI.start {N : Nat} {n : Int} {l : List Edge} (gr : Gr n l) (hN : n = N) : KI N l (cnts N l) (List.replicate N 0) (zeros (cnts N l) N) 0 := by
 have hc : ∀ v, v < N → gAt (cnts N l) v = cntF l v := fun v hv => by
  have h1 := gAt_get (xs := cnts N l) (v := v) (by simp [cnts]; exact hv)
  rw [cnts_get hv] at h1
  exact (Option.some.inj h1).symm
 have hz : ∀ v : Nat, gAt (List.replicate N 0) v = 0 := fun v => by
  unfold gAt
  rw [Int.toNat_natCast, List.getD]
  by_cases h : v < N
  ·rw [List.getElem?_replicate_of_lt h]; rfl
  ·rw [List.getElem?_eq_none (by simp; omega)]; rfl
 refine ⟨by simp [cnts], by simp, Nat.zero_le _, ?_, fun x hx => ?_, fun v hv => ?_, fun v hv => ?_, fun e he h => by simp at h, fun v hv => .inl (hz v), fun v hv => by rw [hz v]; simp⟩
 ·unfold zeros
  refine List.Pairwise.map _ (fun a b h => ?_) (List.Pairwise.filter _ List.nodup_range)
  omega
 ·simp only [zeros, List.mem_map, List.mem_filter, List.mem_range] at hx
  obtain ⟨v, ⟨h1, _⟩, rfl⟩ := hx
  exact ⟨v, rfl, h1⟩
 ·rw [hc v hv, List.take_zero, rest_nil]
 ·rw [hc v hv]
  constructor
  ·intro h
   simp only [zeros, List.mem_map, List.mem_filter, List.mem_range, decide_eq_true_eq] at h
   obtain ⟨w, ⟨h1, h2⟩, h3⟩ := h
   have : w = v := by omega
   subst this
   rw [cnts_get h1] at h2
   exact Option.some.inj h2
  ·intro h
   refine List.mem_map.2 ⟨v, List.mem_filter.2 ⟨List.mem_range.2 hv, ?_⟩, rfl⟩
   rw [decide_eq_true_eq, cnts_get hv, h]
theorem KI.enter {N : Nat} {n : Int} {l : List Edge} (gr : Gr n l) (hN : n = N) {lf lv qs : List Int} {d : Nat} (H : KI N l lf lv qs d) {u : Nat} (hu : qs[d]? = some (u : Int)) : KJ N l lf lv qs d u (buck Edge.to frV l 0 u) := by
 have hm := List.mem_of_getElem? hu
 obtain ⟨v, hv, hvN⟩ := H.rg _ hm
 have : v = u := by omega
 subst this
 refine ⟨H.lfl, H.lvl, hu, hvN, H.nd, H.rg, fun x hx => ?_, fun w hw => ?_, H.zero, H.ge, fun e he h => .inl (by rw [← h]; exact inL_mem he), fun w hw => ?_, fun w hw => ?_, (H.bd v hvN).2⟩
 ·obtain ⟨e, he, h1, h2⟩ := mem_inL hx
  obtain ⟨a, b, q1, q2, q3, q4⟩ := gr.e e he
  exact ⟨a, by omega, by omega, e, he, h1, h2⟩
 ·rw [H.left w hw, buck_count (nodup_take_get H.nd hu) (i := 0)]
  push_cast
  rfl
 ·rcases H.wit w hw with h | ⟨e, h1, h2, h3, h4⟩
  ·exact .inl h
  ·exact .inr ⟨e, h1, h2, .inl h3, h4⟩
 ·have := H.bd w hw
  omega
theorem KJ.leave {N : Nat} {l : List Edge} {lf lv qs : List Int} {d u : Nat} (H : KJ N l lf lv qs d u []) : KI N l lf lv qs (d + 1) := by
 have ht : qs.take (d + 1) = qs.take d ++ [(u : Int)] := by rw [List.take_add_one, H.uq]; rfl
 have hd := (List.getElem?_eq_some_iff.1 H.uq).1
 refine ⟨H.lfl, H.lvl, hd, H.nd, H.rg, fun v hv => ?_, H.zero, fun e he h => ?_, fun v hv => ?_, fun v hv => by have := H.bd v hv; push_cast; omega⟩
 ·rw [ht, H.left v hv]
  simp
 ·rw [ht] at h
  rcases List.mem_append.1 h with h | h
  ·exact H.ge e he h
  ·rcases H.gu e he (by simpa using h) with h' | h'
   ·simp at h'
   ·exact h'
 ·rcases H.wit v hv with h | ⟨e, h1, h2, h3, h4⟩
  ·exact .inl h
  ·refine .inr ⟨e, h1, h2, ?_, h4⟩
   rw [ht, List.mem_append]
   rcases h3 with h3 | h3
   ·exact .inl h3
   ·exact .inr (by simp [h3])
theorem KJ.step {N : Nat} {l : List Edge} {lf lv qs : List Int} {d u x : Nat} {t : List Int} (H : KJ N l lf lv qs d u ((x : Int) :: t)) :
  x < N ∧ 1 ≤ gAt lf x ∧ ((x : Int) ∉ qs) ∧
  KJ N l (lf.set x (gAt lf x - 1)) (lv.set x (max (gAt lv x) (gAt lv u + 1))) (if gAt lf x - 1 = 0 then qs ++ [(x : Int)] else qs) d u t := by
 obtain ⟨w, hw, hxN, e0, he0, hf0, ht0⟩ := H.tr x (by simp)
 have : w = x := by omega
 subst this
 have hl := H.left w hxN
 rw [List.count_cons_self] at hl
 have h1 : 1 ≤ gAt lf w := by omega
 have hnq : (w : Int) ∉ qs := fun h => by have := (H.zero w hxN).1 h; omega
 have huq := List.mem_of_getElem? H.uq
 have huw : u ≠ w := fun h => hnq (by rw [← h]; exact huq)
 have hdl := (List.getElem?_eq_some_iff.1 H.uq).1
 have lfw : ∀ v : Nat, gAt (lf.set w (gAt lf w - 1)) v = if v = w then gAt lf w - 1 else gAt lf v := fun v => gAt_set (by rw [H.lfl]; exact hxN)
 have lvw : ∀ v : Nat, gAt (lv.set w (max (gAt lv w) (gAt lv u + 1))) v = if v = w then max (gAt lv w) (gAt lv u + 1) else gAt lv v := fun v => gAt_set (by rw [H.lvl]; exact hxN)
 have lvq : ∀ y ∈ qs, gAt (lv.set w (max (gAt lv w) (gAt lv u + 1))) y = gAt lv y := fun y hy => by
  obtain ⟨v, rfl, _⟩ := H.rg y hy
  rw [lvw, if_neg (fun h => hnq (by rw [← h]; exact hy))]
 have lvge : ∀ y : Nat, gAt lv y ≤ gAt (lv.set w (max (gAt lv w) (gAt lv u + 1))) y := fun y => by
  rw [lvw]
  split
  ·rename_i h; rw [h]; omega
  ·omega
 have htk : (if gAt lf w - 1 = 0 then qs ++ [(w : Int)] else qs).take d = qs.take d := by
  split
  ·rw [List.take_append_of_le_length (by omega)]
  ·rfl
 have hsub : ∀ y ∈ qs.take d, y ∈ qs := fun y hy => List.mem_of_mem_take hy
 refine ⟨hxN, h1, hnq, ⟨by simp [H.lfl], by simp [H.lvl], ?_, H.uN, ?_, ?_, fun y hy => H.tr y (by simp [hy]), fun v hv => ?_, fun v hv => ?_, fun e he h => ?_, fun e he h => ?_, fun v hv => ?_, fun v hv => ?_, ?_⟩⟩
 ·split
  ·rw [List.getElem?_append_left hdl]; exact H.uq
  ·exact H.uq
 ·split
  ·rw [List.nodup_append]
   exact ⟨H.nd, by simp, fun a ha b hb e => hnq (by simp at hb; rw [← hb, ← e]; exact ha)⟩
  ·exact H.nd
 ·intro y hy
  split at hy
  ·rcases List.mem_append.1 hy with hy | hy
   ·exact H.rg y hy
   ·exact ⟨w, by simpa using hy, hxN⟩
  ·exact H.rg y hy
 ·rw [htk, lfw]
  have hl2 := H.left v hv
  by_cases hvw : v = w
  ·subst hvw
   rw [if_pos rfl]
   omega
  ·rw [if_neg hvw]
   rw [List.count_cons_of_ne (by omega)] at hl2
   exact hl2
 ·rw [lfw]
  by_cases hvw : v = w
  ·subst hvw
   rw [if_pos rfl]
   constructor
   ·intro h
    split at h
    ·assumption
    ·exact absurd h hnq
   ·intro h
    rw [if_pos h]
    simp
  ·rw [if_neg hvw, ← H.zero v hv]
   split
   ·constructor
    ·intro h
     rcases List.mem_append.1 h with h | h
     ·exact h
     ·simp at h; omega
    ·intro h; exact List.mem_append_left _ h
   ·exact Iff.rfl
 ·rw [htk] at h
  have h2 := H.ge e he h
  rw [lvq _ (hsub _ h)]
  by_cases hfr : ∃ y : Nat, e.fr = y
  ·obtain ⟨y, hy⟩ := hfr
   rw [hy] at h2 ⊢
   have := lvge y
   omega
  ·have : gAt (lv.set w (max (gAt lv w) (gAt lv u + 1))) e.fr = gAt (lv.set w (max (gAt lv w) (gAt lv u + 1))) (e.fr.toNat : Nat) := rfl
   have e1 : gAt lv e.fr = gAt lv (e.fr.toNat : Nat) := rfl
   have := lvge e.fr.toNat
   omega
 ·have hfr : gAt (lv.set w (max (gAt lv w) (gAt lv u + 1))) e.fr = gAt (lv.set w (max (gAt lv w) (gAt lv u + 1))) (e.fr.toNat : Nat) := rfl
  have e1 : gAt lv e.fr = gAt lv (e.fr.toNat : Nat) := rfl
  have h2 := lvge e.fr.toNat
  have hto := lvq _ huq
  rw [h, hto]
  rcases H.gu e he h with h3 | h3
  ·rcases List.mem_cons.1 h3 with h3 | h3
   ·right
    rw [h3, lvw, if_pos rfl]
    omega
   ·exact .inl h3
  ·rw [h] at h3
   right
   omega
 ·rw [htk]
  have wq : ∀ e : Edge, (e.to ∈ qs.take d ∨ e.to = (u : Int)) → e.to ∈ qs := fun e h => by
   rcases h with h | h
   ·exact hsub _ h
   ·rw [h]; exact huq
  rw [lvw]
  by_cases hvw : v = w
  ·subst hvw
   rw [if_pos rfl]
   by_cases hm : gAt lv u + 1 ≤ gAt lv v
   ·rcases H.wit v hv with h | ⟨e, q1, q2, q3, q4⟩
    ·exact .inl (by omega)
    ·exact .inr ⟨e, q1, q2, q3, by have := lvq _ (wq e q3); omega⟩
   ·refine .inr ⟨e0, he0, hf0, .inr ht0, ?_⟩
    rw [ht0, lvq _ huq]
    omega
  ·rw [if_neg hvw]
   rcases H.wit v hv with h | ⟨e, q1, q2, q3, q4⟩
   ·exact .inl h
   ·exact .inr ⟨e, q1, q2, q3, by rw [lvq _ (wq e q3)]; exact q4⟩
 ·rw [lvw]
  have b1 := H.bd v hv
  have b2 := H.bu
  split
  ·rename_i h
   subst h
   omega
  ·exact b1
 ·rw [lvq _ huq]
  exact H.bu
theorem KI.len {N : Nat} {l : List Edge} {lf lv qs : List Int} {d : Nat} (H : KI N l lf lv qs d) : qs.length ≤ N := by
 have := nodup_le (xs := qs) (ys := (List.range N).map fun (i : Nat) => (i : Int)) H.nd (fun x hx => by
  obtain ⟨v, rfl, hv⟩ := H.rg x hx
  exact List.mem_map.2 ⟨v, List.mem_range.2 hv, rfl⟩)
 simpa using this
theorem KJ.len {N : Nat} {l : List Edge} {lf lv qs : List Int} {d u : Nat} {t : List Int} (H : KJ N l lf lv qs d u t) : qs.length ≤ N := by
 have := nodup_le (xs := qs) (ys := (List.range N).map fun (i : Nat) => (i : Int)) H.nd (fun x hx => by
  obtain ⟨v, rfl, hv⟩ := H.rg x hx
  exact List.mem_map.2 ⟨v, List.mem_range.2 hv, rfl⟩)
 simpa using this
theorem KI.full {N : Nat} {n : Int} {l : List Edge} (gr : Gr n l) (hN : n = N) {lf lv qs : List Int} {d : Nat} (H : KI N l lf lv qs d) (hd : qs.length ≤ d) (hdN : N ≤ d) : LevEq N l lv := by
 have all : ∀ v : Nat, v < N → (v : Int) ∈ qs := fun v hv => by
  refine Classical.byContradiction fun hn => ?_
  have := nodup_le (xs := (v : Int) :: qs) (ys := (List.range N).map fun (i : Nat) => (i : Int)) (List.nodup_cons.2 ⟨hn, H.nd⟩) (fun x hx => by
   rcases List.mem_cons.1 hx with rfl | hx
   ·exact List.mem_map.2 ⟨v, List.mem_range.2 hv, rfl⟩
   ·obtain ⟨w, rfl, hw⟩ := H.rg x hx
    exact List.mem_map.2 ⟨w, List.mem_range.2 hw, rfl⟩)
  have h2 := H.dq
  simp at this
  omega
 have ht : qs.take d = qs := List.take_of_length_le hd
 refine ⟨H.lvl, fun v hv => (H.bd v hv).1, fun e he => ?_, fun v hv => ?_⟩
 ·obtain ⟨a, b, h1, h2, h3, h4⟩ := gr.e e he
  refine H.ge e he ?_
  rw [ht, h2]
  exact all b (by omega)
 ·rcases H.wit v hv with h | ⟨e, q1, q2, q3, q4⟩
  ·exact .inl h
  ·exact .inr ⟨e, q1, q2, q4⟩
theorem KI.stuck {N : Nat} {n : Int} {l : List Edge} (gr : Gr n l) (hN : n = N) {lf lv qs : List Int} {d : Nat} (H : KI N l lf lv qs d) (hd : qs.length ≤ d) (hdN : d < N) : ¬ ∃ f, LevEq N l f := by
 rintro ⟨f, hf⟩
 have ht : qs.take d = qs := List.take_of_length_le hd
 have ex : ∃ v : Nat, v < N ∧ (v : Int) ∉ qs := by
  refine Classical.byContradiction fun hn => ?_
  have hall : ∀ v : Nat, v < N → (v : Int) ∈ qs := fun v hv => Classical.byContradiction fun h => hn ⟨v, hv, h⟩
  have := nodup_le (xs := (List.range N).map fun (i : Nat) => (i : Int)) (ys := qs) (List.Pairwise.map _ (fun a b h => by omega) List.nodup_range) (fun x hx => by
   obtain ⟨v, hv, rfl⟩ := List.mem_map.1 hx
   exact hall v (List.mem_range.1 hv))
  simp at this
  omega
 have grow : ∀ (k : Nat) (v : Nat), v < N → (v : Int) ∉ qs → (k : Int) ≤ gAt f v := by
  intro k
  induction k with
  | zero => intro v hv _; exact hf.nn v hv
  | succ k ih =>
   intro v hv hq
   have h1 : gAt lf v ≠ 0 := fun h => hq ((H.zero v hv).2 h)
   rw [H.left v hv, ht] at h1
   have h2 : 0 < rest l qs v := by omega
   obtain ⟨e, he, h3⟩ := List.countP_pos_iff.1 h2
   simp only [Bool.and_eq_true, decide_eq_true_eq, Bool.not_eq_true', decide_eq_false_iff_not] at h3
   obtain ⟨a, b, q1, q2, q3, q4⟩ := gr.e e he
   have h4 := hf.ge e he
   have h5 := ih b (by omega) (by rw [← q2]; exact h3.2)
   rw [h3.1, q2] at h4
   push_cast
   omega
 obtain ⟨v, hv, hq⟩ := ex
 have := grow ((gAt f v).toNat + 1) v hv hq
 have := hf.nn v hv
 omega
open Classical in
noncomputable def levE (n : Int) (l : List Edge) : List Int × Int :=
 if chkG n l ≠ 0 then ([], chkG n l) else if h : ∃ f, LevEq n.toNat l f then (Classical.choose h, 0) else ([], 10)
theorem levE_bad {n : Int} {l : List Edge} (h : chkG n l ≠ 0) : levE n l = ([], chkG n l) := by unfold levE; rw [if_pos h]
theorem levE_ok {n : Int} {N : Nat} {l : List Edge} (h : chkG n l = 0) (hN : n = N) {f : List Int} (hf : LevEq N l f) : levE n l = (f, 0) := by
 have hN' : n.toNat = N := by omega
 subst hN'
 have ex : ∃ f, LevEq n.toNat l f := ⟨f, hf⟩
 have hc := Classical.choose_spec ex
 unfold levE
 rw [if_neg (by simpa using h), dif_pos ex, LevEq.uniq (gr_of h) hN hf hc]
theorem levE_no {n : Int} {N : Nat} {l : List Edge} (h : chkG n l = 0) (hN : n = N) (hf : ¬ ∃ f, LevEq N l f) : levE n l = ([], 10) := by
 have hN' : n.toNat = N := by omega
 unfold levE
 rw [if_neg (by simpa using h), dif_neg (by rw [hN']; exact hf)]
end Go.Am
namespace Go.Am
open Go
set_option linter.unusedSimpArgs false
set_option linter.unusedVariables false
set_option maxRecDepth 100000
theorem Qs.row {lo b : Nat} {m : Mem} {v : V} {xs : List Int} (H : Qs lo m b v xs) (h : xs ≠ []) : ∃ k, v = .row 1 k 0 xs.length ∧ lo ≤ k ∧ b ≤ k ∧ k < m.next ∧ m.blk k = some (.row 1 (xs.map vi)) := by
 rcases H.rw with ⟨_, h2⟩ | ⟨k, h1, h2, h3, h4⟩
 ·simp at h2; exact absurd h2 h
 ·refine ⟨k, by rw [h1]; simp, h2, ?_, h3, h4⟩
  exact H.nb k (by rw [h1]; rfl)
theorem w41_3 {F : Nat → Option Fn} {lo : Nat} {n : Int} (N : Nat) (hN : N ≤ 4096) (l : List Edge) (hl : l.length < 100000) (h7 h8 h11 b k83 : Nat) (hb7 : h7 < b) (hb11 : h11 < b) (hbk : k83 < b) (hk7 : k83 ≠ h7) (hk11 : k83 ≠ h11) (h711 : h7 ≠ h11) (L : List Int) (hL : L.length < 100000) (d u : Nat) (hd4 : d < N) :
  ∀ (t : List Int) (i : Nat) (lf lv qs : List Int) (v : V) (m : Mem) (Q : Ex → St → Prop), L.drop i = t → lo ≤ m.next → IR lo m h7 lf → IR lo m h11 lv → Qs lo m b v qs → m.blk k83 = some (.row 1 (L.map vi)) → KJ N l lf lv qs d u t →
  (∀ lf lv qs v m' e, m.next ≤ m'.next → IR lo m' h7 lf → IR lo m' h11 lv → Qs lo m' b v qs → KJ N l lf lv qs d u [] → (∀ k, k < b → k ≠ h7 → k ≠ h11 → m'.blk k = m.blk k) →
   Q (.exit 6) ⟨(0, vi n) :: (7, .row 1 h7 0 N) :: (8, .row 1 h8 0 N) :: (11, .row 1 h11 0 N) :: (12, v) :: (15, vi d) :: e, [], [], m'⟩) →
  W F lo L41_3 ⟨[(0, vi n), (7, .row 1 h7 0 N), (8, .row 1 h8 0 N), (11, .row 1 h11 0 N), (12, v), (15, vi d), (83, .row 1 k83 0 L.length), (84, vi L.length), (85, vi i)], [], [], m⟩ Q := by
 intro t
 induction t with
 | nil =>
  intro i lf lv qs v m Q hd hm r7 r11 hq hk hJ hQ
  have hlt := drop_nil hd
  rw [W_L (c := L41_3) rfl]
  have : ¬ ((i : Nat) : Int) < (L.length : Int) := by omega
  simp only [↓sxc, sx, se, ↓reduceIte, Nat.reduceEqDiff, Nat.reduceAdd, Nat.reduceLT, Nat.reduceLeDiff, Nat.reduceSub, Nat.reduceMul, Int.reduceToNat, Int.reduceLT, Int.reduceLE, Int.reduceEq, ml_i0, ↓smc, sm, this]
  exact hQ lf lv qs v m _ (Nat.le_refl _) r7 r11 hq hJ (fun _ _ _ _ => rfl)
 | cons x t ih =>
  intro i lf lv qs v m Q hd hm r7 r11 hq hk hJ hQ
  obtain ⟨hg, hd', hlt⟩ := drop_cons hd
  obtain ⟨w, rfl, hwN, _⟩ := hJ.tr x (by simp)
  obtain ⟨_, g1, g2, hJ'⟩ := hJ.step
  rw [W_L (c := L41_3) rfl]
  have : ((i : Nat) : Int) < (L.length : Int) := by omega
  have wr : wrapF .i64 ((i : Int) + 1) = ((i + 1 : Nat) : Int) := by rw [wr_i64 (by omega) (by omega)]; rfl
  have hdq := (List.getElem?_eq_some_iff.1 hJ.uq).1
  have hne : qs ≠ [] := by intro h; rw [h] at hdq; simp at hdq
  obtain ⟨kq, rfl, q1, q2, q3, q4⟩ := hq.row hne
  have uN := hJ.uN
  have c1 : ((w : Nat) : Int) < N := by omega
  have c2 : ((d : Nat) : Int) < (qs.length : Int) := by omega
  have c3 : ((u : Nat) : Int) < N := by omega
  have c4 : (0 : Int) ≤ w := by omega
  have c5 : (0 : Int) ≤ d := by omega
  have c6 : (0 : Int) ≤ u := by omega
  have d1 : ((w : Nat) : Int).toNat = w := rfl
  have d2 : ((d : Nat) : Int).toNat = d := rfl
  have d3 : ((u : Nat) : Int).toNat = u := rfl
  have e1 := gAt_get (xs := lv) (v := w) (by rw [hJ.lvl]; exact hwN)
  have e2 := gAt_get (xs := lv) (v := u) (by rw [hJ.lvl]; exact uN)
  have e3 := gAt_get (xs := lf) (v := w) (by rw [hJ.lfl]; exact hwN)
  have b1 := hJ.bd w hwN
  have b2 := hJ.bu
  have b3 := (hJ.bd u uN).1
  have b4 := hJ'.left w hwN
  have uq := hJ.uq
  have fl : gAt lf w ≤ 100000 + L.length := by
   have h1 := hJ.left w hwN
   have h2 := List.countP_le_length (p := fun e : Edge => decide (e.fr = (w : Int)) && !decide (e.to ∈ qs.take d ++ [(u : Int)])) (l := l)
   have h3 := List.count_le_length (a := (w : Int)) (l := (w : Int) :: t)
   have h4 : ((w : Int) :: t).length ≤ L.length := by rw [← hd]; simp
   unfold rest at h1
   omega
  have w1 : wrapF .i64 (gAt lv u + 1) = gAt lv u + 1 := wr_i64 (by omega) (by omega)
  have w2 : wrapF .i64 (gAt lf w - 1) = gAt lf w - 1 := wr_i64 (by omega) (by omega)
  have B7 := r7.b
  have B11 := r11.b
  have L7 := r7.lh
  have L11 := r11.lh
  let m1 : Mem := (m.bump 17).set h11 (some (.row 1 ((lv.set w (max (gAt lv w) (gAt lv u + 1))).map vi)))
  have em1 : (m.bump 17).set h11 (some (.row 1 ((lv.map vi).set w (vi (max (gAt lv w) (gAt lv u + 1)))))) = m1 := by
   show _ = (m.bump 17).set h11 (some (.row 1 ((lv.set w (max (gAt lv w) (gAt lv u + 1))).map vi)))
   rw [List.map_set]
  have bn : (m.bump 17).next = m.next + 17 := rfl
  have r11b : IR lo (m.bump 17) h11 lv := r11.mono (by omega) rfl
  have r11' : IR lo m1 h11 (lv.set w (max (gAt lv w) (gAt lv u + 1))) := r11b.set _
  have r7' : IR lo m1 h7 lf := r7.mono (Nat.le_add_right _ _) (set_ne h711)
  have hq' : Qs lo m1 b (.row 1 kq 0 qs.length) qs := hq.mono (Nat.le_add_right _ _) (fun k hk _ => set_ne (by omega))
  have hk' : m1.blk k83 = some (.row 1 (L.map vi)) := by rw [← hk]; exact set_ne hk11
  have fr1 : ∀ k, k < b → k ≠ h7 → k ≠ h11 → m1.blk k = m.blk k := fun k _ _ h => set_ne h
  have n1 : m1.next = m.next + 17 := rfl
  clear_value m1
  let m2 : Mem := m1.set h7 (some (.row 1 ((lf.set w (gAt lf w - 1)).map vi)))
  have em2 : m1.set h7 (some (.row 1 ((lf.map vi).set w (vi (gAt lf w - 1))))) = m2 := by
   show _ = m1.set h7 (some (.row 1 ((lf.set w (gAt lf w - 1)).map vi)))
   rw [List.map_set]
  have r7'' : IR lo m2 h7 (lf.set w (gAt lf w - 1)) := r7'.set _
  have r11'' : IR lo m2 h11 (lv.set w (max (gAt lv w) (gAt lv u + 1))) := r11'.mono (Nat.le_refl _) (set_ne (Ne.symm h711))
  have hq'' : Qs lo m2 b (.row 1 kq 0 qs.length) qs := hq'.mono (Nat.le_refl _) (fun k hk _ => set_ne (by omega))
  have hk'' : m2.blk k83 = some (.row 1 (L.map vi)) := by rw [← hk']; exact set_ne hk7
  have fr2 : ∀ k, k < b → k ≠ h7 → k ≠ h11 → m2.blk k = m.blk k := fun k h1 h2 h3 => by rw [← fr1 k h1 h2 h3]; exact set_ne h2
  have n2 : m2.next = m.next + 17 := n1
  have B7' := r7'.b
  have B7'' := r7''.b
  clear_value m2
  have e5 : (lf.set w (gAt lf w - 1))[w]? = some (gAt lf w - 1) := List.getElem?_set_self (by rw [hJ.lfl]; exact hwN)
  by_cases hz : gAt lf w - 1 = 0
  ·rw [if_pos hz] at hJ'
   obtain ⟨v', m3, a1, a2, a3, a4⟩ := hq''.push (by omega) (by have := hJ.len; omega) (w : Int)
   have e5z : (lf.set w (gAt lf w - 1))[w]? = some 0 := by rw [e5, hz]
   simp only [↓sxc, sx, se, ↓reduceIte, Nat.reduceEqDiff, Nat.reduceAdd, Nat.reduceLT, Nat.reduceLeDiff, Nat.reduceSub, Nat.reduceMul, Int.reduceToNat, Int.reduceLT, Int.reduceLE, Int.reduceEq, ml_i0, ↓smc, sm, this, hk, hg, c1, c2, c3, c4, c5, c6, d1, d2, d3, B11, L11, e1, q4, uq, e2, w1, em1, B7', L7, e3, w2, em2, B7'', e5z, a1, wr]
   refine ih (i + 1) _ _ _ v' (m3.bump 1) Q hd' ?_ (r7''.mono ?_ (a4 h7 hb7)) (r11''.mono ?_ (a4 h11 hb11)) a2 ?_ hJ' (fun lf lv qs v m' e p1 p2 p3 p4 p5 p6 => hQ lf lv qs v m' e ?_ p2 p3 p4 p5 (fun k k1 k2 k3 => by rw [p6 k k1 k2 k3, ← fr2 k k1 k2 k3]; exact a4 k k1))
   ·show lo ≤ m3.next + 1; omega
   ·show m2.next ≤ m3.next + 1; omega
   ·show m2.next ≤ m3.next + 1; omega
   ·rw [← hk'']; exact a4 k83 hbk
   ·have p1' : m3.next + 1 ≤ m'.next := p1
    omega
  ·rw [if_neg hz] at hJ'
   simp only [↓sxc, sx, se, ↓reduceIte, Nat.reduceEqDiff, Nat.reduceAdd, Nat.reduceLT, Nat.reduceLeDiff, Nat.reduceSub, Nat.reduceMul, Int.reduceToNat, Int.reduceLT, Int.reduceLE, Int.reduceEq, ml_i0, ↓smc, sm, this, hk, hg, c1, c2, c3, c4, c5, c6, d1, d2, d3, B11, L11, e1, q4, uq, e2, w1, em1, B7', L7, e3, w2, em2, B7'', e5, hz, wr]
   refine ih (i + 1) _ _ _ _ _ Q hd' (by omega) r7'' r11'' hq'' hk'' hJ' (fun lf lv qs v m' e p1 p2 p3 p4 p5 p6 => hQ lf lv qs v m' e (by omega) p2 p3 p4 p5 (fun k k1 k2 k3 => by rw [p6 k k1 k2 k3]; exact fr2 k k1 k2 k3))
theorem w41_4 {F : Nat → Option Fn} {lo : Nat} {n : Int} (N : Nat) (hN : N ≤ 4096) (hnN : n = N) (l : List Edge) (gr : Gr n l) (hl : l.length < 100000) (h7 h8 h11 b : Nat) (hb7 : h7 < b) (hb8 : h8 < b) (hb11 : h11 < b) (h711 : h7 ≠ h11) (h87 : h8 ≠ h7) (h811 : h8 ≠ h11) (es : List V) (hes : es.length = N) (sh : Nat → Nat)
  (he : ∀ (u : Nat) (w : V), es[u]? = some w → (w = .nil ∧ buck Edge.to frV l 0 u = []) ∨ (w = .row 1 (sh u) 0 (buck Edge.to frV l 0 u).length ∧ sh u < b ∧ sh u ≠ h7 ∧ sh u ≠ h11)) :
  ∀ (r d : Nat) (lf lv qs : List Int) (v : V) (m : Mem) (Q : Ex → St → Prop), N ≤ d + r → lo ≤ m.next → IR lo m h7 lf → IR lo m h11 lv → Qs lo m b v qs → m.blk h8 = some (.row 1 es) →
  (∀ (u : Nat), es[u]? ≠ some .nil → u < N → m.blk (sh u) = some (.row 1 ((buck Edge.to frV l 0 u).map vi))) → KI N l lf lv qs d →
  (∀ lf lv qs d v m' e, m.next ≤ m'.next → IR lo m' h11 lv → KI N l lf lv qs d → qs.length ≤ d → Q (.exit 4) ⟨(0, vi n) :: (7, .row 1 h7 0 N) :: (8, .row 1 h8 0 N) :: (11, .row 1 h11 0 N) :: (12, v) :: (15, vi d) :: e, [], [], m'⟩) →
  W F lo L41_4 ⟨[(0, vi n), (7, .row 1 h7 0 N), (8, .row 1 h8 0 N), (11, .row 1 h11 0 N), (12, v), (15, vi d)], [], [], m⟩ Q := by
 intro r
 induction r with
 | zero =>
  intro d lf lv qs v m Q hr hm r7 r11 hq h8b hsh hK hQ
  have hlen : retV (.len false) [v] = some (vi qs.length) := by rw [hq.rw.len, List.length_map]
  have hql := hK.len
  rw [W_L (c := L41_4) rfl]
  have : ¬ ((d : Nat) : Int) < (qs.length : Int) := by omega
  simp only [↓sxc, sx, se, ↓reduceIte, Nat.reduceEqDiff, Nat.reduceAdd, Nat.reduceLT, Nat.reduceLeDiff, Nat.reduceSub, Nat.reduceMul, Int.reduceToNat, Int.reduceLT, Int.reduceLE, Int.reduceEq, ml_i0, ↓smc, sm, hlen, this]
  exact hQ lf lv qs d v m _ (Nat.le_refl _) r11 hK (by omega)
 | succ r ih =>
  intro d lf lv qs v m Q hr hm r7 r11 hq h8b hsh hK hQ
  have hql := hK.len
  rw [W_L (c := L41_4) rfl]
  by_cases hd : d < qs.length
  ·have hlt : ((d : Nat) : Int) < (qs.length : Int) := by omega
   obtain ⟨kq, rfl, q1, q2, q3, q4⟩ := hq.row (by intro h; rw [h] at hd; simp at hd)
   have hg : qs[d]? = some (qs[d]'hd) := List.getElem?_eq_getElem _
   obtain ⟨u, hu, huN⟩ := hK.rg _ (List.getElem_mem hd)
   rw [hu] at hg
   have hJ := hK.enter gr hnN hg
   have wr : wrapF .i64 ((d : Int) + 1) = ((d + 1 : Nat) : Int) := by rw [wr_i64 (by omega) (by omega)]; rfl
   have c1 : ((u : Nat) : Int) < N := by omega
   have c2 : (0 : Int) ≤ u := by omega
   have c3 : (0 : Int) ≤ d := by omega
   have d1 : ((u : Nat) : Int).toNat = u := rfl
   have d2 : ((d : Nat) : Int).toNat = d := rfl
   have hw : es[u]? = some (es[u]'(by omega)) := List.getElem?_eq_getElem _
   generalize es[u]'(by omega) = w at hw
   rcases he u w hw with ⟨rfl, hb0⟩ | ⟨rfl, s1, s2, s3⟩
   ·rw [hb0] at hJ
    have hc : (V.nil).cells[0]? = some .nil := rfl
    simp only [↓sxc, sx, se, ↓reduceIte, Nat.reduceEqDiff, Nat.reduceAdd, Nat.reduceLT, Nat.reduceLeDiff, Nat.reduceSub, Nat.reduceMul, Int.reduceToNat, Int.reduceLT, Int.reduceLE, Int.reduceEq, ml_i0, ↓smc, sm, hlt, q4, hg, c1, c2, c3, d1, d2, h8b, hw, hc]
    have nolp : ∀ Q', (∀ e, Q' (.exit 6) ⟨(0, vi n) :: (7, .row 1 h7 0 N) :: (8, .row 1 h8 0 N) :: (11, .row 1 h11 0 N) :: (12, .row 1 kq 0 qs.length) :: (15, vi d) :: e, [], [], m⟩) → W F lo L41_3 ⟨[(0, vi n), (7, .row 1 h7 0 N), (8, .row 1 h8 0 N), (11, .row 1 h11 0 N), (12, .row 1 kq 0 qs.length), (15, vi d), (83, .nil), (84, vi 0), (85, vi 0)], [], [], m⟩ Q' := by
     intro Q' hQ'
     rw [W_L (c := L41_3) rfl]
     simp only [↓sxc, sx, se, ↓reduceIte, Nat.reduceEqDiff, Nat.reduceAdd, Nat.reduceLT, Nat.reduceLeDiff, Nat.reduceSub, Nat.reduceMul, Int.reduceToNat, Int.reduceLT, Int.reduceLE, Int.reduceEq, ml_i0, ↓smc, sm]
     exact hQ' _
    refine nolp _ (fun e => ?_)
    simp only [↓sxc, sx, se, ↓reduceIte, Nat.reduceEqDiff, Nat.reduceAdd, Nat.reduceLT, Nat.reduceLeDiff, Nat.reduceSub, Nat.reduceMul, Int.reduceToNat, Int.reduceLT, Int.reduceLE, Int.reduceEq, ml_i0, ↓smc, sm, wr]
    exact ih (d + 1) lf lv qs _ m Q (by omega) hm r7 r11 hq h8b hsh hJ.leave hQ
   ·have hc : (V.row 1 (sh u) 0 (buck Edge.to frV l 0 u).length).cells[0]? = some (V.row 1 (sh u) 0 (buck Edge.to frV l 0 u).length) := rfl
    have hk := hsh u (by rw [hw]; intro h; cases h) huN
    have hLl := buck_len (key := Edge.to) (val := frV) (w := (u : Int)) (p := l) (i := 0)
    simp only [↓sxc, sx, se, ↓reduceIte, Nat.reduceEqDiff, Nat.reduceAdd, Nat.reduceLT, Nat.reduceLeDiff, Nat.reduceSub, Nat.reduceMul, Int.reduceToNat, Int.reduceLT, Int.reduceLE, Int.reduceEq, ml_i0, ↓smc, sm, hlt, q4, hg, c1, c2, c3, d1, d2, h8b, hw, hc]
    refine w41_3 N hN l hl h7 h8 h11 b (sh u) hb7 hb11 s1 s2 s3 h711 (buck Edge.to frV l 0 u) (by omega) d u (by omega) _ 0 lf lv qs _ m _ rfl hm r7 r11 hq hk (by rw [List.drop_zero]; exact hJ) (fun lf lv qs v m' e p1 p2 p3 p4 p5 p6 => ?_)
    simp only [↓sxc, sx, se, ↓reduceIte, Nat.reduceEqDiff, Nat.reduceAdd, Nat.reduceLT, Nat.reduceLeDiff, Nat.reduceSub, Nat.reduceMul, Int.reduceToNat, Int.reduceLT, Int.reduceLE, Int.reduceEq, ml_i0, ↓smc, sm, wr]
    refine ih (d + 1) lf lv qs v m' Q (by omega) (by omega) p2 p3 p4 (by rw [p6 h8 hb8 h87 h811]; exact h8b) (fun u' hn hu' => ?_) p5.leave (fun lf lv qs d v m2 e z1 z2 z3 z4 => hQ lf lv qs d v m2 e (by omega) z2 z3 z4)
    have hw' : es[u']? = some (es[u']'(by omega)) := List.getElem?_eq_getElem _
    rcases he u' _ hw' with ⟨h1, _⟩ | ⟨h1, t1, t2, t3⟩
    ·rw [hw', h1] at hn; exact absurd rfl hn
    ·rw [p6 (sh u') t1 t2 t3]
     exact hsh u' hn hu'
  ·have hlen : retV (.len false) [v] = some (vi qs.length) := by rw [hq.rw.len, List.length_map]
   have : ¬ ((d : Nat) : Int) < (qs.length : Int) := by omega
   simp only [↓sxc, sx, se, ↓reduceIte, Nat.reduceEqDiff, Nat.reduceAdd, Nat.reduceLT, Nat.reduceLeDiff, Nat.reduceSub, Nat.reduceMul, Int.reduceToNat, Int.reduceLT, Int.reduceLE, Int.reduceEq, ml_i0, ↓smc, sm, hlen, this]
   exact hQ lf lv qs d v m _ (Nat.le_refl _) r11 hK (by omega)
end Go.Am
namespace Go.Am
open Go
set_option linter.unusedSimpArgs false
set_option linter.unusedVariables false
set_option maxRecDepth 100000
theorem bucks_nil {key : Edge → Int} {val : Nat → Edge → Int} {N : Nat} : bucks key val N [] = List.replicate N [] := by
 refine List.ext_getElem? fun j => ?_
 by_cases h : j < N
 ·rw [bucks_get h, List.getElem?_replicate_of_lt h]; rfl
 ·rw [List.getElem?_eq_none (by simp [bucks_len]; omega), List.getElem?_eq_none (by simp; omega)]
theorem cnts_nil {N : Nat} : cnts N [] = List.replicate N 0 := by
 refine List.ext_getElem? fun j => ?_
 by_cases h : j < N
 ·rw [cnts_get h, List.getElem?_replicate_of_lt h]; rfl
 ·rw [List.getElem?_eq_none (by simp [cnts]; omega), List.getElem?_eq_none (by simp; omega)]
theorem NestB.start {lo h q : Nat} {m : Mem} {key : Edge → Int} {val : Nat → Edge → Int} {N : Nat} (h1 : lo ≤ h) (h2 : h < m.next) (h3 : m.blk h = some (.row 1 (List.replicate N .nil))) : NestB lo m h q (bucks key val N []) (List.replicate N .nil) := by
 have nil_of : ∀ (i : Nat) (v : V), (List.replicate N V.nil)[i]? = some v → v = .nil := fun i v h => by
  have := List.mem_of_getElem? h
  exact List.eq_of_mem_replicate this
 refine ⟨h1, h2, h3, by simp [bucks_len], fun i v L hv hL => ?_, fun i j v w k hv hw e1 e2 => ?_, fun i v k hv hk => ?_⟩
 ·rw [nil_of i v hv]
  rw [bucks_nil] at hL
  have := List.eq_of_mem_replicate (List.mem_of_getElem? hL)
  rw [this]
  exact .nil
 ·rw [nil_of i v hv] at e1; cases e1
 ·rw [nil_of i v hv] at hk; cases hk
def shOf (es : List V) (u : Nat) : Nat := ((es[u]?).bind hOf).getD 0
theorem NestB.view {lo h q : Nat} {m : Mem} {E : List (List Int)} {es : List V} (H : NestB lo m h q E es) {u : Nat} {w : V} {L : List Int} (hw : es[u]? = some w) (hL : E[u]? = some L) :
  (w = .nil ∧ L = []) ∨ (w = .row 1 (shOf es u) 0 L.length ∧ shOf es u < m.next ∧ shOf es u ≠ h ∧ shOf es u ≠ q ∧ m.blk (shOf es u) = some (.row 1 (L.map vi))) := by
 rcases H.rw u w L hw hL with ⟨h1, h2⟩ | ⟨k, h1, h2, h3, h4⟩
 ·exact .inl ⟨h1, by simpa using h2⟩
 ·have hs : shOf es u = k := by simp [shOf, hw, h1, hOf]
  have hn := H.ne u w k hw (by rw [h1]; rfl)
  rw [hs]
  exact .inr ⟨by rw [h1]; simp, h3, hn.1, hn.2, h4⟩
theorem fz_ir {lo n h : Nat} {m : Mem} {u : List Int} (hb : m.blk h = some (.row 1 (u.map vi))) (hl : lo ≤ h) : freeze lo m (n + 2) (.row 1 h 0 u.length) = some (ints u) := by
 rw [fz_row hb hl (by simp)]
 have : ((u.map vi).drop 0).take u.length = u.map vi := by rw [List.drop_zero, List.take_of_length_le (by simp)]
 rw [this, mapO_id (fun x hx => by
  obtain ⟨y, _, rfl⟩ := List.mem_map.1 hx
  rfl)]
 rfl
theorem sp41 {F : Nat → Option Fn} (hG : HasG F) {lo : Nat} {m : Mem} (n : Int) (l : List Edge) (hl : l.length < 100000) : callw F 41 [vi n, vEdges l] lo m = some (.tup [ints (levE n l).1, vi (levE n l).2], m) := by
 have c102 : ∀ {lo m}, callw F 102 [vi n, vEdges l] lo m = some (vi (chkG n l), m) := fun {lo m} => sp102 hG n l (by omega)
 refine call_p hG.h41 rfl ?_
 by_cases h0 : chkG n l = 0
 ·have gr := gr_of h0
  obtain ⟨N, hN⟩ : ∃ N : Nat, n = N := ⟨n.toNat, by have := gr.n0; omega⟩
  have n4 := gr.n4
  have hN4 : N ≤ 4096 := by omega
  have b1 : 0 ≤ (n : Int) ∧ (n : Int) < big := by simp [big]; omega
  have tn : n.toNat = N := by omega
  simp only [↓sxc, sx, se, ↓reduceIte, Nat.reduceEqDiff, Nat.reduceAdd, Nat.reduceLT, Nat.reduceLeDiff, Nat.reduceSub, Nat.reduceMul, Int.reduceToNat, Int.reduceLT, Int.reduceLE, Int.reduceEq, ml_i0, ↓W_dreg, ↓sk, sk, ↓smc, sm, c102, h0, b1, tn]
  refine ⟨by simp [pairsOk, nth_eq, keysApart, Key.apart], ?_⟩
  have hh : m.next + 3 ≠ m.next + 1 := by omega
  refine w41_1 l gr hl N hN (m.next + 1) (m.next + 3) hh l 0 (List.replicate N .nil) _ _ rfl (by show m.next ≤ m.next + 6; omega) ⟨by omega, by show m.next + 1 < m.next + 6; omega, ?_⟩ (NestB.start (by omega) (by show m.next + 3 < m.next + 6; omega) (by simp [Mem.set])) (fun es m1 e p1 p2 p3 => ?_)
  ·rw [set_ne (by omega), List.take_zero, cnts_nil]
   simp [Mem.set]
  have p1' : m.next + 6 ≤ m1.next := p1
  let h11 := m1.next
  let m2 : Mem := (m1.set m1.next (some (.row 1 (List.replicate N (V.int .i64 0))))).bump 1
  have n2 : m2.next = m1.next + 1 := rfl
  have f2 : ∀ k, k < m1.next → m2.blk k = m1.blk k := fun k hk => set_ne (by omega)
  have r7 : IR m.next m2 (m.next + 1) (cnts N l) := p2.mono (by omega) (f2 _ p2.hm)
  have r11 : IR m.next m2 m1.next (List.replicate N 0) := ⟨by omega, by omega, by show (m1.set m1.next _).blk m1.next = _; simp [Mem.set]⟩
  have q0 : Qs m.next m2 (m1.next + 1) .nil (zeros (cnts N l) 0) := ⟨.nil, fun k hk => (by cases hk), by omega⟩
  have em2 : (m1.set m1.next (some (.row 1 (List.replicate N (V.int .i64 0))))).bump 1 = m2 := rfl
  clear_value m2
  simp only [↓sxc, sx, se, ↓reduceIte, Nat.reduceEqDiff, Nat.reduceAdd, Nat.reduceLT, Nat.reduceLeDiff, Nat.reduceSub, Nat.reduceMul, Int.reduceToNat, Int.reduceLT, Int.reduceLE, Int.reduceEq, ml_i0, ↓smc, sm, b1, tn, em2]
  refine w41_2 N hN4 (m.next + 1) (m1.next + 1) (by omega) _ _ (cnts N l) (by simp [cnts]) N 0 .nil m2 _ (by omega) (by omega) r7 q0 (fun v m3 e t1 t2 t3 => ?_)
  have f3 : ∀ k, k < m1.next → m3.blk k = m1.blk k := fun k hk => by rw [t3 k (by omega)]; exact f2 k hk
  have hlen : es.length = N := by rw [p3.ln, bucks_len]
  simp only [↓sxc, sx, se, ↓reduceIte, Nat.reduceEqDiff, Nat.reduceAdd, Nat.reduceLT, Nat.reduceLeDiff, Nat.reduceSub, Nat.reduceMul, Int.reduceToNat, Int.reduceLT, Int.reduceLE, Int.reduceEq, ml_i0, ↓smc, sm]
  refine w41_4 N hN4 hN l gr hl (m.next + 1) (m.next + 3) m1.next (m1.next + 1) (by omega) (by omega) (by omega) (by omega) hh (by omega) es hlen (shOf es) (fun u w hw => ?_) N 0 (cnts N l) (List.replicate N 0) (zeros (cnts N l) N) v m3 _ (by omega) (by omega) (r7.mono t1 (t3 _ (by omega))) (r11.mono t1 (t3 _ (by omega))) t2 (by rw [f3 _ p3.hm]; exact p3.bh) (fun u hn hu => ?_) (KI.start gr hN) (fun lf lv qs d v m4 e z1 z2 z3 z4 => ?_)
  ·have hu : u < N := by rw [← hlen]; exact (List.getElem?_eq_some_iff.1 hw).1
   rcases p3.view hw (bucks_get hu) with h | ⟨a1, a2, a3, a4, a5⟩
   ·exact .inl h
   ·exact .inr ⟨a1, by omega, a4, by omega⟩
  ·have hw : es[u]? = some (es[u]'(by omega)) := List.getElem?_eq_getElem _
   rcases p3.view hw (bucks_get hu) with ⟨h, _⟩ | ⟨a1, a2, a3, a4, a5⟩
   ·rw [hw, h] at hn; exact absurd rfl hn
   ·rw [f3 _ a2]; exact a5
  ·by_cases hd : d < N
   ·have c1 : ((d : Nat) : Int) < n := by omega
    rw [levE_no h0 hN (z3.stuck gr hN z4 hd)]
    simp only [↓sxc, sx, se, ↓reduceIte, Nat.reduceEqDiff, Nat.reduceAdd, Nat.reduceLT, Nat.reduceLeDiff, Nat.reduceSub, Nat.reduceMul, Int.reduceToNat, Int.reduceLT, Int.reduceLE, Int.reduceEq, ml_i0, ↓smc, sm, c1]
    rfl
   ·have c1 : ¬ ((d : Nat) : Int) < n := by omega
    rw [levE_ok h0 hN (z3.full gr hN z4 (by omega))]
    have hlv : lv.length = N := z3.lvl
    have fz := fz_ir (n := 5) z2.b z2.lh
    rw [hlv] at fz
    simp only [↓sxc, sx, se, ↓reduceIte, Nat.reduceEqDiff, Nat.reduceAdd, Nat.reduceLT, Nat.reduceLeDiff, Nat.reduceSub, Nat.reduceMul, Int.reduceToNat, Int.reduceLT, Int.reduceLE, Int.reduceEq, ml_i0, ↓smc, sm, c1]
    simp only [mapO, fz, fz_int]
    rfl
 ·rw [levE_bad h0]
  simp only [↓sxc, sx, se, ↓reduceIte, Nat.reduceEqDiff, Nat.reduceAdd, Nat.reduceLT, Nat.reduceLeDiff, Nat.reduceSub, Nat.reduceMul, Int.reduceToNat, Int.reduceLT, Int.reduceLE, Int.reduceEq, ml_i0, ↓smc, sm, c102, h0]
  rfl
end Go.Am
namespace Go.Am
open Go
set_option linter.unusedSimpArgs false
set_option linter.unusedVariables false
set_option maxRecDepth 100000
structure RI (N : Nat) (l : List Edge) (r : Nat) (p : List Edge) (o : List Int) (more : Bool) : Prop where
 ln : o.length = N
 nn : ∀ v, v < N → 0 ≤ gAt o v
 wit : ∀ v, v < N → gAt o v = 0 ∨ ∃ e ∈ l, e.fr = (v : Int) ∧ gAt o v ≤ gAt o e.to + 1
 le : ∀ f, LevEq N l f → ∀ v, v < N → gAt o v ≤ gAt f v
 eq : ∀ f, LevEq N l f → ∀ v, v < N → gAt f v ≤ r → gAt o v = gAt f v
 pr : ∀ f, LevEq N l f → ∀ e ∈ p, gAt f e.to ≤ r → gAt f e.to + 1 ≤ gAt o e.fr
 no : more = false → ∀ e ∈ p, gAt o e.to + 1 ≤ gAt o e.fr
 fin : ∀ f, LevEq N l f → (∀ v, v < N → gAt f v ≤ r) → more = false
 bd : ∀ v, v < N → gAt o v ≤ r * 100000 + p.length
theorem RI.start {N : Nat} {l : List Edge} : RI N l 0 [] (List.replicate N 0) false := by
 have hz : ∀ v : Nat, gAt (List.replicate N 0) v = 0 := fun v => by
  unfold gAt
  rw [Int.toNat_natCast, List.getD]
  by_cases h : v < N
  ·rw [List.getElem?_replicate_of_lt h]; rfl
  ·rw [List.getElem?_eq_none (by simp; omega)]; rfl
 refine ⟨by simp, fun v _ => by rw [hz]; omega, fun v _ => .inl (hz v), fun f hf v hv => by rw [hz]; exact hf.nn v hv, fun f hf v hv h => by rw [hz]; have := hf.nn v hv; omega, fun f hf e he => by simp at he, fun _ e he => by simp at he, fun _ _ _ => rfl, fun v hv => by rw [hz]; simp⟩
theorem RI.keep {N r : Nat} {l p : List Edge} {o : List Int} {more : Bool} (H : RI N l r p o more) {e : Edge} (h : gAt o e.to + 1 ≤ gAt o e.fr) {n : Int} (gr : Gr n l) (hN : n = N) (he : e ∈ l) : RI N l r (p ++ [e]) o more := by
 refine ⟨H.ln, H.nn, H.wit, H.le, H.eq, fun f hf d hd hr => ?_, fun hm d hd => ?_, H.fin, fun v hv => by have := H.bd v hv; simp; omega⟩
 ·rcases List.mem_append.1 hd with hd | hd
  ·exact H.pr f hf d hd hr
  ·simp at hd
   subst hd
   obtain ⟨a, b, h1, h2, h3, h4⟩ := gr.e d he
   rw [h2] at hr h ⊢
   rw [← H.eq f hf b (by omega) hr]
   exact h
 ·rcases List.mem_append.1 hd with hd | hd
  ·exact H.no hm d hd
  ·simp at hd
   subst hd
   exact h
theorem RI.done {N r : Nat} {l : List Edge} {o : List Int} (H : RI N l r l o false) : LevEq N l o := by
 refine ⟨H.ln, H.nn, H.no rfl, fun v hv => ?_⟩
 rcases H.wit v hv with h | ⟨e, h1, h2, h3⟩
 ·exact .inl h
 ·have := H.no rfl e h1
  rw [h2] at this
  exact .inr ⟨e, h1, h2, by omega⟩
theorem RI.next {N r : Nat} {l : List Edge} {o : List Int} (H : RI N l r l o true) (hl : l.length ≤ 100000) : RI N l (r + 1) [] o false := by
 refine ⟨H.ln, H.nn, H.wit, H.le, fun f hf v hv hr => ?_, fun f hf e he => by simp at he, fun _ e he => by simp at he, fun _ _ _ => rfl, fun v hv => by have := H.bd v hv; push_cast; simp; omega⟩
 by_cases h : gAt f v ≤ r
 ·exact H.eq f hf v hv h
 ·rcases hf.wit v hv with h1 | ⟨e, h1, h2, h3⟩
  ·omega
  ·have h4 := H.pr f hf e h1 (by push_cast at hr; omega)
   rw [h2] at h4
   have := H.le f hf v hv
   omega
theorem LevEq.small {n : Int} {N : Nat} {l : List Edge} (gr : Gr n l) (hN : n = N) {f : List Int} (hf : LevEq N l f) : ∀ v, v < N → gAt f v ≤ N := by
 intro v hv
 have down : ∀ (k : Nat) (w : Nat), w < N → (k : Int) ≤ gAt f w → ∃ w', w' < N ∧ gAt f w' = k := by
  intro k w hw hk
  obtain ⟨j, hj⟩ : ∃ j : Nat, gAt f w = k + j := ⟨(gAt f w - k).toNat, by omega⟩
  induction j generalizing w with
  | zero => exact ⟨w, hw, by omega⟩
  | succ j ih =>
   rcases hf.wit w hw with h1 | ⟨e, h1, h2, h3⟩
   ·omega
   ·obtain ⟨a, b, q1, q2, q3, q4⟩ := gr.e e h1
    rw [q2] at h3
    exact ih b (by omega) (by omega) (by omega)
 refine Classical.byContradiction fun hgt => ?_
 have hall : ∀ k : Nat, k < N + 1 → ∃ w, w < N ∧ gAt f w = k := fun k hk => down k v hv (by omega)
 have hch : ∃ g : Nat → Nat, ∀ k, k < N + 1 → g k < N ∧ gAt f (g k) = k := by
  refine ⟨fun k => if h : k < N + 1 then Classical.choose (hall k h) else 0, fun k hk => ?_⟩
  simp only [dif_pos hk]
  exact Classical.choose_spec (hall k hk)
 obtain ⟨g, hg⟩ := hch
 have := nodup_le (xs := (List.range (N + 1)).map g) (ys := List.range N) (by
  refine List.pairwise_map.2 (List.Pairwise.imp_of_mem (fun {a b} ha hb hab he => ?_) List.nodup_range)
  have h1 := (hg a (List.mem_range.1 ha)).2
  have h2 := (hg b (List.mem_range.1 hb)).2
  rw [he] at h1
  exact hab (by omega)) (fun x hx => by
  obtain ⟨k, hk, rfl⟩ := List.mem_map.1 hx
  exact List.mem_range.2 (hg k (List.mem_range.1 hk)).1)
 simp at this
 omega
end Go.Am
namespace Go.Am
open Go
set_option linter.unusedSimpArgs false
set_option linter.unusedVariables false
def IsD (P : Nat → Int → Prop) (v z : Int) : Prop := (0 ≤ z ∧ P z.toNat v ∧ ∀ k : Nat, P k v → z ≤ k) ∨ (z = -1 ∧ ∀ k, ¬ P k v)
theorem least {p : Nat → Prop} (h : ∃ k, p k) : ∃ k, p k ∧ ∀ j, p j → k ≤ j := by
 obtain ⟨k, hk⟩ := h
 induction k using Nat.strongRecOn with
 | ind k ih =>
  by_cases hj : ∃ j, j < k ∧ p j
  ·obtain ⟨j, h1, h2⟩ := hj
   exact ih j h1 h2
  ·exact ⟨k, hk, fun j hp => Nat.le_of_not_lt fun h => hj ⟨j, h, hp⟩⟩
theorem IsD.ex {P : Nat → Int → Prop} {v : Int} : ∃ z, IsD P v z := by
 by_cases h : ∃ k, P k v
 ·obtain ⟨k, h1, h2⟩ := least h
  exact ⟨k, .inl ⟨by omega, by simpa using h1, fun j hj => by have := h2 j hj; omega⟩⟩
 ·exact ⟨-1, .inr ⟨rfl, fun k hk => h ⟨k, hk⟩⟩⟩
theorem IsD.uniq {P : Nat → Int → Prop} {v z w : Int} (h1 : IsD P v z) (h2 : IsD P v w) : z = w := by
 rcases h1 with ⟨a1, a2, a3⟩ | ⟨a1, a2⟩ <;> rcases h2 with ⟨b1, b2, b3⟩ | ⟨b1, b2⟩
 ·have := a3 _ b2; have := b3 _ a2; omega
 ·exact absurd a2 (b2 _)
 ·exact absurd b2 (a2 _)
 ·omega
open Classical in
noncomputable def dist (P : Nat → Int → Prop) (v : Int) : Int := Classical.choose (IsD.ex (P := P) (v := v))
theorem dist_spec {P : Nat → Int → Prop} {v : Int} : IsD P v (dist P v) := Classical.choose_spec (IsD.ex (P := P) (v := v))
theorem dist_eq {P : Nat → Int → Prop} {v z : Int} (h : IsD P v z) : dist P v = z := dist_spec.uniq h
structure Steps (N : Nat) (nb : Int → List Int) (P : Nat → Int → Prop) (root : Nat) : Prop where
 rt : root < N
 p0 : ∀ v, P 0 v ↔ v = (root : Int)
 ps : ∀ k v, P (k + 1) v ↔ ∃ x, P k x ∧ v ∈ nb x
 rg : ∀ x y, y ∈ nb x → ∃ v : Nat, y = v ∧ v < N
structure BI (N : Nat) (nb : Int → List Int) (P : Nat → Int → Prop) (root : Nat) (ds qs : List Int) (d : Nat) : Prop where
 dl : ds.length = N
 rg : ∀ x ∈ qs, ∃ v : Nat, x = v ∧ v < N
 nd : qs.Nodup
 dq : d ≤ qs.length
 q0 : (root : Int) ∈ qs ∧ gAt ds root = 0
 inq : ∀ v : Nat, v < N → ((v : Int) ∈ qs ↔ 0 ≤ gAt ds v)
 out : ∀ v : Nat, v < N → gAt ds v < 0 → gAt ds v = -1
 snd : ∀ v : Nat, v < N → 0 ≤ gAt ds v → P (gAt ds v).toNat v
 srt : qs.Pairwise fun a b => gAt ds a ≤ gAt ds b
 bnd : ∀ x, qs[d]? = some x → ∀ y ∈ qs, gAt ds y ≤ gAt ds x + 1
 cl : ∀ x ∈ qs.take d, ∀ y ∈ nb x, 0 ≤ gAt ds y ∧ gAt ds y ≤ gAt ds x + 1
 bd : ∀ v : Nat, v < N → gAt ds v ≤ d
structure BJ (N : Nat) (nb : Int → List Int) (P : Nat → Int → Prop) (root : Nat) (ds qs : List Int) (d u : Nat) (t : List Int) : Prop where
 dl : ds.length = N
 rg : ∀ x ∈ qs, ∃ v : Nat, x = v ∧ v < N
 nd : qs.Nodup
 uq : qs[d]? = some (u : Int)
 uN : u < N
 q0 : (root : Int) ∈ qs ∧ gAt ds root = 0
 inq : ∀ v : Nat, v < N → ((v : Int) ∈ qs ↔ 0 ≤ gAt ds v)
 out : ∀ v : Nat, v < N → gAt ds v < 0 → gAt ds v = -1
 snd : ∀ v : Nat, v < N → 0 ≤ gAt ds v → P (gAt ds v).toNat v
 srt : qs.Pairwise fun a b => gAt ds a ≤ gAt ds b
 bnd : ∀ y ∈ qs, gAt ds y ≤ gAt ds u + 1
 cl : ∀ x ∈ qs.take d, ∀ y ∈ nb x, 0 ≤ gAt ds y ∧ gAt ds y ≤ gAt ds x + 1
 cu : ∀ y ∈ nb u, y ∈ t ∨ (0 ≤ gAt ds y ∧ gAt ds y ≤ gAt ds u + 1)
 tr : ∀ y ∈ t, y ∈ nb u
 bd : ∀ v : Nat, v < N → gAt ds v ≤ d + 1
 bu : 0 ≤ gAt ds u ∧ gAt ds u ≤ d
theorem BI.start {N root : Nat} {nb : Int → List Int} {P : Nat → Int → Prop} (S : Steps N nb P root) : BI N nb P root ((List.replicate N (-1)).set root 0) [(root : Int)] 0 := by
 have hr := S.rt
 have hz : ∀ v : Nat, v < N → gAt (List.replicate N (-1)) v = -1 := fun v h => by
  unfold gAt
  rw [Int.toNat_natCast, List.getD, List.getElem?_replicate_of_lt h]; rfl
 have gs : ∀ v : Nat, v < N → gAt ((List.replicate N (-1)).set root 0) v = if v = root then 0 else -1 := fun v h => by
  rw [gAt_set (by simp; exact hr), hz v h]
 refine ⟨by simp, fun x hx => ⟨root, by simpa using hx, hr⟩, by simp, Nat.zero_le _, ⟨by simp, by rw [gs root hr, if_pos rfl]⟩, fun v hv => ?_, fun v hv h => ?_, fun v hv h => ?_, by simp, fun x hx y hy => ?_, fun x hx => by simp at hx, fun v hv => ?_⟩
 ·rw [gs v hv]
  by_cases h : v = root
  ·simp [h]
  ·rw [if_neg h]; simp; omega
 ·rw [gs v hv] at h ⊢
  split at h
  ·omega
  ·rename_i h1; rw [if_neg h1]
 ·rw [gs v hv] at h ⊢
  split at h
  ·rename_i h1
   rw [if_pos h1]
   exact (S.p0 _).2 (by rw [h1])
  ·omega
 ·simp at hx hy
  subst hx
  subst hy
  omega
 ·rw [gs v hv]
  split <;> omega
theorem BI.enter {N root : Nat} {nb : Int → List Int} {P : Nat → Int → Prop} {ds qs : List Int} {d u : Nat} (H : BI N nb P root ds qs d) (hu : qs[d]? = some (u : Int)) : BJ N nb P root ds qs d u (nb u) := by
 have hm := List.mem_of_getElem? hu
 obtain ⟨v, hv, hvN⟩ := H.rg _ hm
 have : v = u := by omega
 subst this
 exact ⟨H.dl, H.rg, H.nd, hu, hvN, H.q0, H.inq, H.out, H.snd, H.srt, H.bnd _ hu, H.cl, fun y hy => .inl hy, fun y hy => hy, fun w hw => by have := H.bd w hw; omega, (H.inq v hvN).1 hm, H.bd v hvN⟩
theorem BJ.leave {N root : Nat} {nb : Int → List Int} {P : Nat → Int → Prop} {ds qs : List Int} {d u : Nat} (H : BJ N nb P root ds qs d u []) : BI N nb P root ds qs (d + 1) := by
 have ht : qs.take (d + 1) = qs.take d ++ [(u : Int)] := by rw [List.take_add_one, H.uq]; rfl
 have hd := (List.getElem?_eq_some_iff.1 H.uq).1
 refine ⟨H.dl, H.rg, H.nd, hd, H.q0, H.inq, H.out, H.snd, H.srt, fun x hx y hy => ?_, fun x hx y hy => ?_, fun v hv => by have := H.bd v hv; push_cast; omega⟩
 ·have h1 := H.bnd y hy
  have hdl := (List.getElem?_eq_some_iff.1 hx).1
  have h2 := List.pairwise_iff_getElem.1 H.srt d (d + 1) hd hdl (by omega)
  have e1 := H.uq
  rw [List.getElem?_eq_getElem hd] at e1
  rw [List.getElem?_eq_getElem hdl] at hx
  rw [Option.some.inj e1, Option.some.inj hx] at h2
  omega
 ·rw [ht] at hx
  rcases List.mem_append.1 hx with hx | hx
  ·exact H.cl x hx y hy
  ·simp at hx
   subst hx
   rcases H.cu y hy with h | h
   ·simp at h
   ·exact h
theorem BJ.old {N root : Nat} {nb : Int → List Int} {P : Nat → Int → Prop} {ds qs : List Int} {d u : Nat} {y : Int} {t : List Int} (H : BJ N nb P root ds qs d u (y :: t)) (h : 0 ≤ gAt ds y) (hN : ∃ v : Nat, y = v ∧ v < N) : BJ N nb P root ds qs d u t := by
 refine { H with cu := fun z hz => ?_, tr := fun z hz => H.tr z (by simp [hz]) }
 rcases H.cu z hz with h1 | h1
 ·rcases List.mem_cons.1 h1 with rfl | h1
  ·obtain ⟨v, rfl, hv⟩ := hN
   exact .inr ⟨h, H.bnd _ ((H.inq v hv).2 h)⟩
  ·exact .inl h1
 ·exact .inr h1
theorem BJ.new {N root : Nat} {nb : Int → List Int} {P : Nat → Int → Prop} (S : Steps N nb P root) {ds qs : List Int} {d u w : Nat} {t : List Int} (H : BJ N nb P root ds qs d u ((w : Int) :: t)) (hw : w < N) (h : gAt ds w < 0) : BJ N nb P root (ds.set w (gAt ds u + 1)) (qs ++ [(w : Int)]) d u t := by
 have hnq : (w : Int) ∉ qs := fun hh => by have := (H.inq w hw).1 hh; omega
 have gs : ∀ v : Nat, gAt (ds.set w (gAt ds u + 1)) v = if v = w then gAt ds u + 1 else gAt ds v := fun v => gAt_set (by rw [H.dl]; exact hw)
 have gq : ∀ y ∈ qs, gAt (ds.set w (gAt ds u + 1)) y = gAt ds y := fun y hy => by
  obtain ⟨v, rfl, _⟩ := H.rg y hy
  rw [gs, if_neg (fun hh => hnq (by rw [← hh]; exact hy))]
 have huq := List.mem_of_getElem? H.uq
 have hdl := (List.getElem?_eq_some_iff.1 H.uq).1
 have htk : (qs ++ [(w : Int)]).take d = qs.take d := List.take_append_of_le_length (by omega)
 have hge : ∀ y : Int, (∃ v : Nat, y = v ∧ v < N) → 0 ≤ gAt ds y → gAt (ds.set w (gAt ds u + 1)) y = gAt ds y := fun y hy h0 => by
  obtain ⟨v, rfl, hv⟩ := hy
  exact gq _ ((H.inq v hv).2 h0)
 have b0 := H.bu
 refine ⟨by simp [H.dl], fun x hx => ?_, ?_, by rw [List.getElem?_append_left hdl]; exact H.uq, H.uN, ⟨List.mem_append_left _ H.q0.1, by rw [gq _ H.q0.1]; exact H.q0.2⟩, fun v hv => ?_, fun v hv hlt => ?_, fun v hv hge => ?_, ?_, fun y hy => ?_, fun x hx y hy => ?_, fun y hy => ?_, fun y hy => H.tr y (by simp [hy]), fun v hv => ?_, ?_⟩
 ·rcases List.mem_append.1 hx with hx | hx
  ·exact H.rg x hx
  ·exact ⟨w, by simpa using hx, hw⟩
 ·rw [List.nodup_append]
  exact ⟨H.nd, by simp, fun a ha b hb e => hnq (by simp at hb; rw [← hb, ← e]; exact ha)⟩
 ·rw [gs, List.mem_append]
  by_cases hvw : v = w
  ·rw [if_pos hvw]
   constructor
   ·intro _; omega
   ·intro _; exact .inr (by simp [hvw])
  ·rw [if_neg hvw, ← H.inq v hv]
   constructor
   ·rintro (h1 | h1)
    ·exact h1
    ·simp at h1; omega
   ·exact .inl
 ·rw [gs] at hlt ⊢
  split at hlt
  ·omega
  ·rename_i h1
   rw [if_neg h1]
   exact H.out v hv hlt
 ·rw [gs] at hge ⊢
  split at hge
  ·rename_i h1
   rw [if_pos h1, h1]
   have h2 := H.snd u H.uN b0.1
   have : (gAt ds u + 1).toNat = (gAt ds u).toNat + 1 := by omega
   rw [this]
   exact (S.ps _ _).2 ⟨u, h2, H.tr _ (by simp)⟩
  ·rename_i h1
   rw [if_neg h1]
   exact H.snd v hv hge
 ·rw [List.pairwise_append]
  refine ⟨H.srt.imp_of_mem (fun {a b} ha hb hab => by rw [gq a ha, gq b hb]; exact hab), by simp, fun a ha b hb => ?_⟩
  simp at hb
  subst hb
  rw [gq a ha, gs, if_pos rfl]
  exact H.bnd a ha
 ·rw [gq _ huq]
  rcases List.mem_append.1 hy with hy | hy
  ·rw [gq y hy]; exact H.bnd y hy
  ·simp at hy
   subst hy
   rw [gs, if_pos rfl]
   omega
 ·rw [htk] at hx
  have h1 := H.cl x hx y hy
  rw [gq x (List.mem_of_mem_take hx), hge y (S.rg _ _ hy) h1.1]
  exact h1
 ·rcases H.cu y hy with h1 | h1
  ·rcases List.mem_cons.1 h1 with rfl | h1
   ·rw [gq _ huq, gs, if_pos rfl]
    exact .inr ⟨by omega, by omega⟩
   ·exact .inl h1
  ·rw [gq _ huq, hge y (S.rg _ _ hy) h1.1]
   exact .inr h1
 ·rw [gs]
  have := H.bd v hv
  split <;> omega
 ·rw [gq _ huq]
  exact b0
theorem BJ.len {N root : Nat} {nb : Int → List Int} {P : Nat → Int → Prop} {ds qs : List Int} {d u : Nat} {t : List Int} (H : BJ N nb P root ds qs d u t) : qs.length ≤ N := by
 have := nodup_le (xs := qs) (ys := (List.range N).map fun (i : Nat) => (i : Int)) H.nd (fun x hx => by
  obtain ⟨v, rfl, hv⟩ := H.rg x hx
  exact List.mem_map.2 ⟨v, List.mem_range.2 hv, rfl⟩)
 simpa using this
theorem BI.len {N root : Nat} {nb : Int → List Int} {P : Nat → Int → Prop} {ds qs : List Int} {d : Nat} (H : BI N nb P root ds qs d) : qs.length ≤ N := by
 have := nodup_le (xs := qs) (ys := (List.range N).map fun (i : Nat) => (i : Int)) H.nd (fun x hx => by
  obtain ⟨v, rfl, hv⟩ := H.rg x hx
  exact List.mem_map.2 ⟨v, List.mem_range.2 hv, rfl⟩)
 simpa using this
theorem BI.done {N root : Nat} {nb : Int → List Int} {P : Nat → Int → Prop} (S : Steps N nb P root) {ds qs : List Int} {d : Nat} (H : BI N nb P root ds qs d) (hd : qs.length ≤ d) : ∀ v : Nat, v < N → gAt ds v = dist P v := by
 have ht : qs.take d = qs := List.take_of_length_le hd
 have up : ∀ (k : Nat) (y : Int), P k y → y ∈ qs ∧ gAt ds y ≤ k := by
  intro k
  induction k with
  | zero =>
   intro y hy
   have := (S.p0 y).1 hy
   subst this
   exact ⟨H.q0.1, by rw [H.q0.2]; simp⟩
  | succ k ih =>
   intro y hy
   obtain ⟨x, h1, h2⟩ := (S.ps k y).1 hy
   obtain ⟨h3, h4⟩ := ih x h1
   obtain ⟨h5, h6⟩ := H.cl x (by rw [ht]; exact h3) y h2
   obtain ⟨v, rfl, hv⟩ := S.rg _ _ h2
   exact ⟨(H.inq v hv).2 h5, by push_cast; omega⟩
 intro v hv
 refine (dist_eq ?_).symm
 by_cases h : 0 ≤ gAt ds v
 ·exact .inl ⟨h, H.snd v hv h, fun k hk => (up k v hk).2⟩
 ·refine .inr ⟨H.out v hv (by omega), fun k hk => ?_⟩
  have := (H.inq v hv).1 (up k v hk).1
  omega
def Wk (l : List Edge) : Nat → Int → Int → Prop
 | 0, x, y => x = y
 | k + 1, x, y => ∃ e ∈ l, e.fr = x ∧ Wk l k e.to y
noncomputable def dst (l : List Edge) (x y : Int) : Int := dist (fun k v => Wk l k x v) y
end Go.Am
namespace Go.Am
open Go
set_option linter.unusedSimpArgs false
set_option linter.unusedVariables false
set_option maxRecDepth 100000
def reachL (N : Nat) (f : Int → Int) : List Int := (List.range N).map fun (v : Nat) => f (v : Int)
theorem reachL_get {N : Nat} {f : Int → Int} {v : Nat} (h : v < N) : (reachL N f)[v]? = some (f v) := by simp [reachL, h]
theorem reachL_len {N : Nat} {f : Int → Int} : (reachL N f).length = N := by simp [reachL]
end Go.Am
namespace Go.Am
open Go
set_option linter.unusedSimpArgs false
set_option linter.unusedVariables false
set_option maxRecDepth 100000
def fill (N j : Nat) : List Int := List.replicate j (-1) ++ List.replicate (N - j) 0
end Go.Am
namespace Go.Am
open Go
set_option linter.unusedSimpArgs false
set_option linter.unusedVariables false
set_option maxRecDepth 100000
structure Qo (lo : Nat) (m : Mem) (b : Nat) (v : V) (xs : List Int) : Prop where
 ex : ∃ k o es, v = .row 1 k o xs.length ∧ lo ≤ k ∧ b ≤ k ∧ k < m.next ∧ m.blk k = some (.row 1 es) ∧ es.drop o = xs.map vi ∧ o + xs.length = es.length
theorem Qo.push {lo b : Nat} {m : Mem} {v : V} {xs : List Int} (H : Qo lo m b v xs) (hlo : lo ≤ m.next) (hb : xs.length < 1000000) (x : Int) :
  ∃ v' m', apV lo m.next m 1 v (.lst false 1 [vi x]) = some (v', m') ∧ Qo lo (m'.bump 1) b v' (xs ++ [x]) ∧ m'.next = m.next ∧ ∀ k, k < b → m'.blk k = m.blk k := by
 obtain ⟨k, o, es, rfl, h1, h2, h3, h4, h5, h6⟩ := H.ex
 have ha := ap_row (m := m) (lo := lo) (h := m.next) (h' := k) (o := o) (l := xs.length) (sz := 1) (s := 1) (y := .lst false 1 [vi x]) (xs := [vi x]) (es := es) vw_lst h1 (.inl rfl) (by simp [big]; omega) h4 (by omega)
 have e1 : (es.drop o).take xs.length ++ [vi x] = (xs ++ [x]).map vi := by
  rw [h5, List.take_of_length_le (by simp), List.map_append]
  rfl
 have e2 : xs.length + [vi x].length = (xs ++ [x]).length := by simp
 rw [e1, e2] at ha
 refine ⟨_, _, ha, ⟨m.next, 0, _, rfl, hlo, by omega, Nat.lt_succ_self _, by simp [Mem.bump, Mem.set], rfl, by simp⟩, rfl, fun j hj => ?_⟩
 rw [set_ne (by omega), set_ne (by omega)]
theorem Qo.mono {lo b : Nat} {m m' : Mem} {v : V} {xs : List Int} (H : Qo lo m b v xs) (hn : m.next ≤ m'.next) (hb : ∀ k, b ≤ k → k < m.next → m'.blk k = m.blk k) : Qo lo m' b v xs := by
 obtain ⟨k, o, es, rfl, h1, h2, h3, h4, h5, h6⟩ := H.ex
 exact ⟨k, o, es, rfl, h1, h2, by omega, by rw [hb k h2 h3]; exact h4, h5, h6⟩
theorem Qo.len {lo b : Nat} {m : Mem} {v : V} {xs : List Int} (H : Qo lo m b v xs) : retV (.len false) [v] = some (vi xs.length) := by
 obtain ⟨k, o, es, rfl, _⟩ := H.ex
 rfl
def frAt (l : List Edge) (i : Int) : Int := match l[i.toNat]? with
 | some e => e.fr
 | none => 0
end Go.Am
namespace Go.Am
open Go
set_option linter.unusedSimpArgs false
set_option linter.unusedVariables false
set_option maxRecDepth 100000
theorem idxP_some {α : Type} {p : α → Bool} : ∀ {l : List α} {k : Nat}, 0 ≤ idxP p l k → ∃ j x, idxP p l k = ((k + j : Nat) : Int) ∧ l[j]? = some x ∧ p x = true
 | [], k, h => by simp [idxP] at h
 | x :: t, k, h => by
  cases hx : p x with
  | true => exact ⟨0, x, by simp [idxP, hx], rfl, hx⟩
  | false =>
   have e : idxP p (x :: t) k = idxP p t (k + 1) := by simp [idxP, hx]
   rw [e] at h ⊢
   obtain ⟨j, y, h1, h2, h3⟩ := idxP_some h
   exact ⟨j + 1, y, by rw [h1]; congr 1; omega, h2, h3⟩
theorem dst_zero {l : List Edge} {x y : Int} : dst l x y = 0 ↔ x = y := by
 constructor
 ·intro h
  rcases dist_spec (P := fun k v => Wk l k x v) (v := y) with ⟨h1, h2, h3⟩ | ⟨h1, h2⟩
  ·have : (dist (fun k v => Wk l k x v) y) = 0 := h
   rw [this] at h2
   exact h2
  ·have : (dist (fun k v => Wk l k x v) y) = 0 := h
   omega
 ·intro h
  exact dist_eq (.inl ⟨by omega, h, fun k _ => by omega⟩)
theorem dst_wk {l : List Edge} {x y : Int} (h : 0 ≤ dst l x y) : Wk l (dst l x y).toNat x y ∧ ∀ k : Nat, Wk l k x y → dst l x y ≤ k := by
 rcases dist_spec (P := fun k v => Wk l k x v) (v := y) with ⟨h1, h2, h3⟩ | ⟨h1, h2⟩
 ·exact ⟨h2, h3⟩
 ·have : dst l x y = -1 := h1
  omega
theorem dst_of {l : List Edge} {x y : Int} {k : Nat} (h : Wk l k x y) : 0 ≤ dst l x y ∧ dst l x y ≤ k := by
 rcases dist_spec (P := fun k v => Wk l k x v) (v := y) with ⟨h1, h2, h3⟩ | ⟨h1, h2⟩
 ·exact ⟨h1, h3 k h⟩
 ·exact absurd h (h2 k)
theorem dst_succ {l : List Edge} {x y : Int} {k : Nat} (h : dst l x y = (k : Int) + 1) : ∃ e ∈ l, e.fr = x ∧ dst l e.to y = k := by
 obtain ⟨h1, h2⟩ := dst_wk (l := l) (x := x) (y := y) (by omega)
 have e1 : (dst l x y).toNat = k + 1 := by omega
 rw [e1] at h1
 obtain ⟨e, he, h3, h4⟩ := h1
 refine ⟨e, he, h3, ?_⟩
 obtain ⟨h5, h6⟩ := dst_of h4
 have h7 := (dst_wk h5).1
 have h8 := h2 ((dst l e.to y).toNat + 1) ⟨e, he, h3, h7⟩
 omega
def toAt (l : List Edge) (i : Int) : Int := match l[i.toNat]? with
 | some e => e.to
 | none => 0
noncomputable def selE (l : List Edge) (at_ tgt k : Int) (e : Edge) : Bool := decide (e.fr = at_) && decide (dst l e.to tgt = k)
noncomputable def nxtE (l : List Edge) (at_ tgt k : Int) : Int := idxP (selE l at_ tgt k) l 0
noncomputable def walkE (l : List Edge) (tgt : Int) : Nat → Int → List Int
 | 0, _ => []
 | k + 1, at_ => nxtE l at_ tgt k :: walkE l tgt k (toAt l (nxtE l at_ tgt k))
noncomputable def lenE (l : List Edge) (e : Edge) : Int := if dst l e.to e.fr < 0 then -1 else dst l e.to e.fr + 1
noncomputable def bestS (l : List Edge) : List Edge → Nat → Int × Int → Int × Int
 | [], _, b => b
 | e :: t, i, b => bestS l t (i + 1) (if 0 < lenE l e ∧ (b.2 < 0 ∨ lenE l e < b.2) then ((i : Int), lenE l e) else b)
noncomputable def bestE (l : List Edge) : Int × Int := bestS l l 0 (-1, -1)
noncomputable def cycE (n : Int) (l : List Edge) : List Int × Int :=
 if chkG n l ≠ 0 then ([], chkG n l) else if (bestE l).1 < 0 then ([], 0) else ((bestE l).1 :: walkE l (frAt l (bestE l).1) ((bestE l).2 - 1).toNat (toAt l (bestE l).1), 0)
def Bst (l : List Edge) (b : Int × Int) : Prop := (b.1 = -1 ∧ b.2 = -1) ∨ ∃ j e, b.1 = ((j : Nat) : Int) ∧ l[j]? = some e ∧ lenE l e = b.2 ∧ 0 < b.2
theorem Bst.step {l : List Edge} {b : Int × Int} (H : Bst l b) {i : Nat} {e : Edge} (hi : l[i]? = some e) : Bst l (if 0 < lenE l e ∧ (b.2 < 0 ∨ lenE l e < b.2) then ((i : Int), lenE l e) else b) := by
 split
 ·rename_i h
  exact .inr ⟨i, e, rfl, hi, rfl, h.1⟩
 ·exact H
theorem bestS_bst {l : List Edge} : ∀ {t : List Edge} {i : Nat} {b : Int × Int}, l.drop i = t → Bst l b → Bst l (bestS l t i b)
 | [], _, _, _, H => H
 | e :: t, i, b, hd, H => by
  obtain ⟨hg, hd', _⟩ := drop_cons hd
  exact bestS_bst (t := t) (i := i + 1) hd' (H.step hg)
theorem bestE_bst {l : List Edge} : Bst l (bestE l) := bestS_bst rfl (.inl ⟨rfl, rfl⟩)
theorem nxtE_some {l : List Edge} {x y : Int} {k : Nat} (h : dst l x y = (k : Int) + 1) : ∃ j e, nxtE l x y k = ((j : Nat) : Int) ∧ l[j]? = some e ∧ e.fr = x ∧ dst l e.to y = k ∧ toAt l (nxtE l x y k) = e.to := by
 obtain ⟨e, he, h1, h2⟩ := dst_succ h
 have ha : 0 ≤ nxtE l x y k := by
  unfold nxtE
  have : l.any (selE l x y k) = true := List.any_eq_true.2 ⟨e, he, by simp [selE, h1, h2]⟩
  rw [idxP_ge]
  exact this
 obtain ⟨j, f, h3, h4, h5⟩ := idxP_some ha
 have h6 : nxtE l x y k = ((j : Nat) : Int) := by
  show idxP _ l 0 = _
  rw [h3, Nat.zero_add]
 simp only [selE, Bool.and_eq_true, decide_eq_true_eq] at h5
 exact ⟨j, f, h6, h4, h5.1, h5.2, by rw [h6]; simp only [toAt, Int.toNat_natCast, h4]⟩
end Go.Am
namespace Go.Am
open Go
set_option linter.unusedSimpArgs false
set_option linter.unusedVariables false
theorem Wk.trans {l : List Edge} {y z : Int} : ∀ {j k : Nat} {x : Int}, Wk l j x y → Wk l k y z → Wk l (j + k) x z
 | 0, k, x, h1, h2 => by
  have : x = y := h1
  subst this
  simpa using h2
 | j + 1, k, x, ⟨e, he, h3, h4⟩, h2 => by
  rw [show j + 1 + k = (j + k) + 1 by omega]
  exact ⟨e, he, h3, Wk.trans h4 h2⟩
def Acyc (l : List Edge) : Prop := ∀ (k : Nat) (x : Int), ¬ Wk l (k + 1) x x
theorem acyc_dst {l : List Edge} : Acyc l ↔ ∀ e ∈ l, dst l e.to e.fr < 0 := by
 constructor
 ·intro h e he
  refine Int.not_le.1 fun hc => ?_
  have h1 := (dst_wk hc).1
  exact h _ e.fr ⟨e, he, rfl, h1⟩
 ·rintro h k x ⟨e, he, h1, h2⟩
  have := (dst_of h2).1
  rw [← h1] at this
  have := h e he
  omega
theorem wk_fall {l : List Edge} {f : Int → Int} (hf : ∀ e ∈ l, f e.to + 1 ≤ f e.fr) : ∀ {k : Nat} {x y : Int}, Wk l k x y → f y + k ≤ f x
 | 0, x, y, h => by
  have : x = y := h
  subst this
  simp
 | k + 1, x, y, ⟨e, he, h1, h2⟩ => by
  have h3 := wk_fall hf h2
  have h4 := hf e he
  rw [h1] at h4
  push_cast
  omega
theorem acyc_of {l : List Edge} {f : Int → Int} (hf : ∀ e ∈ l, f e.to + 1 ≤ f e.fr) : Acyc l := fun k x h => by
 have := wk_fall hf h
 omega
theorem LevEq.acyc {N : Nat} {l : List Edge} {f : List Int} (h : LevEq N l f) : Acyc l := acyc_of (f := gAt f) h.ge
theorem acyc_chain {n : Int} {N : Nat} {l : List Edge} (gr : Gr n l) (hN : n = N) (hA : Acyc l) : ∀ {k : Nat} {x y : Int}, Wk l k x y → (∃ v : Nat, x = v ∧ v < N) → ∃ xs : List Int, xs.length = k + 1 ∧ xs.Nodup ∧ (∀ z ∈ xs, ∃ v : Nat, z = v ∧ v < N) ∧ ∀ z ∈ xs, ∃ j, Wk l j x z
 | 0, x, y, h, hx => ⟨[x], rfl, by simp, by simpa using hx, fun z hz => ⟨0, by simp at hz; exact hz.symm⟩⟩
 | k + 1, x, y, ⟨e, he, h1, h2⟩, hx => by
  obtain ⟨a, b, h3, h4, h5, h6⟩ := gr.e e he
  obtain ⟨xs, q1, q2, q3, q4⟩ := acyc_chain gr hN hA h2 ⟨b, h4, by omega⟩
  refine ⟨x :: xs, by simp [q1], List.nodup_cons.2 ⟨fun hc => ?_, q2⟩, fun z hz => ?_, fun z hz => ?_⟩
  ·obtain ⟨j, hj⟩ := q4 x hc
   exact hA j x ⟨e, he, h1, hj⟩
  ·rcases List.mem_cons.1 hz with rfl | hz
   ·exact hx
   ·exact q3 z hz
  ·rcases List.mem_cons.1 hz with rfl | hz
   ·exact ⟨0, rfl⟩
   ·obtain ⟨j, hj⟩ := q4 z hz
    exact ⟨j + 1, e, he, h1, hj⟩
theorem acyc_short {n : Int} {N : Nat} {l : List Edge} (gr : Gr n l) (hN : n = N) (hA : Acyc l) {k : Nat} {x y : Int} (h : Wk l k x y) (hx : ∃ v : Nat, x = v ∧ v < N) : k < N := by
 obtain ⟨xs, q1, q2, q3, _⟩ := acyc_chain gr hN hA h hx
 have := nodup_le (ys := (List.range N).map fun (v : Nat) => (v : Int)) q2 (fun z hz => by
  obtain ⟨v, rfl, hv⟩ := q3 z hz
  exact List.mem_map.2 ⟨v, by simpa using hv, rfl⟩)
 simp at this
 omega
def lw (l : List Edge) : Nat → Int → Int
 | 0, _ => 0
 | k + 1, v => l.foldl (fun a e => if e.fr = v then max a (lw l k e.to + 1) else a) 0
theorem foldl_mx {p : Edge → Bool} {g : Edge → Int} : ∀ {l : List Edge} {a : Int}, a ≤ l.foldl (fun a e => if p e = true then max a (g e) else a) a ∧ (∀ e ∈ l, p e = true → g e ≤ l.foldl (fun a e => if p e = true then max a (g e) else a) a) ∧
  (l.foldl (fun a e => if p e = true then max a (g e) else a) a = a ∨ ∃ e ∈ l, p e = true ∧ l.foldl (fun a e => if p e = true then max a (g e) else a) a = g e)
 | [], a => ⟨Int.le_refl _, by simp, .inl rfl⟩
 | x :: l, a => by
  obtain ⟨h1, h2, h3⟩ := foldl_mx (p := p) (g := g) (l := l) (a := if p x = true then max a (g x) else a)
  simp only [List.foldl_cons]
  generalize hr : List.foldl (fun a e => if p e = true then max a (g e) else a) (if p x = true then max a (g x) else a) l = r at h1 h2 h3
  by_cases hp : p x = true
  ·rw [if_pos hp] at h1 h3
   refine ⟨by omega, fun e he hpe => ?_, ?_⟩
   ·rcases List.mem_cons.1 he with rfl | he
    ·omega
    ·exact h2 e he hpe
   ·rcases h3 with h3 | ⟨e, he, h4, h5⟩
    ·rcases Int.le_total a (g x) with h | h
     ·exact .inr ⟨x, by simp, hp, by omega⟩
     ·exact .inl (by omega)
    ·exact .inr ⟨e, by simp [he], h4, h5⟩
  ·rw [if_neg hp] at h1 h3
   refine ⟨h1, fun e he hpe => ?_, ?_⟩
   ·rcases List.mem_cons.1 he with rfl | he
    ·exact absurd hpe hp
    ·exact h2 e he hpe
   ·rcases h3 with h3 | ⟨e, he, h4, h5⟩
    ·exact .inl h3
    ·exact .inr ⟨e, by simp [he], h4, h5⟩
theorem lw_succ {l : List Edge} {k : Nat} {v : Int} : lw l (k + 1) v = l.foldl (fun a e => if (fun e : Edge => decide (e.fr = v)) e = true then max a ((fun e : Edge => lw l k e.to + 1) e) else a) 0 := by
 simp only [lw, decide_eq_true_eq]
theorem lw_ge {l : List Edge} {k : Nat} {e : Edge} (he : e ∈ l) : lw l k e.to + 1 ≤ lw l (k + 1) e.fr := by
 rw [lw_succ]
 exact foldl_mx.2.1 e he (by simp)
theorem lw_nn {l : List Edge} {k : Nat} {v : Int} : 0 ≤ lw l k v := by
 cases k with
 | zero => exact Int.le_refl _
 | succ k => rw [lw_succ]; exact foldl_mx.1
theorem lw_wit {l : List Edge} {k : Nat} {v : Int} : lw l (k + 1) v = 0 ∨ ∃ e ∈ l, e.fr = v ∧ lw l (k + 1) v = lw l k e.to + 1 := by
 rw [lw_succ]
 rcases (foldl_mx (p := fun e : Edge => decide (e.fr = v)) (g := fun e : Edge => lw l k e.to + 1) (l := l) (a := 0)).2.2 with h | ⟨e, he, h1, h2⟩
 ·exact .inl h
 ·exact .inr ⟨e, he, by simpa using h1, h2⟩
theorem foldl_congr {f g : Int → Edge → Int} : ∀ {l : List Edge} {a : Int}, (∀ e ∈ l, ∀ a, f a e = g a e) → l.foldl f a = l.foldl g a
 | [], _, _ => rfl
 | x :: l, a, h => by
  simp only [List.foldl_cons]
  rw [h x (by simp)]
  exact foldl_congr fun e he => h e (by simp [he])
theorem lw_stop {l : List Edge} : ∀ {k : Nat} {v : Int}, (∀ y, ¬ Wk l (k + 1) v y) → lw l (k + 1) v = lw l k v
 | 0, v, h => by
  rcases lw_wit (l := l) (k := 0) (v := v) with h1 | ⟨e, he, h1, _⟩
  ·exact h1
  ·exact absurd ⟨e, he, h1, rfl⟩ (h e.to)
 | k + 1, v, h => by
  show l.foldl _ 0 = l.foldl _ 0
  refine foldl_congr fun e he a => ?_
  by_cases hf : e.fr = v
  ·rw [if_pos hf, if_pos hf, lw_stop fun y hy => h y ⟨e, he, hf, hy⟩]
  ·rw [if_neg hf, if_neg hf]
theorem acyc_lev {n : Int} {N : Nat} {l : List Edge} (gr : Gr n l) (hN : n = N) (hA : Acyc l) : ∃ f, LevEq N l f := by
 have stop : ∀ v : Nat, v < N → lw l (N + 1) v = lw l N v := fun v hv => lw_stop fun y hy => by
  have := acyc_short gr hN hA hy ⟨v, rfl, hv⟩
  omega
 have g : ∀ v : Nat, v < N → gAt (reachL N (lw l N)) v = lw l N v := fun v hv => by
  have := gAt_get (xs := reachL N (lw l N)) (v := v) (by rw [reachL_len]; exact hv)
  rw [reachL_get hv] at this
  exact (Option.some.inj this).symm
 refine ⟨reachL N (lw l N), reachL_len, fun v hv => by rw [g v hv]; exact lw_nn, fun e he => ?_, fun v hv => ?_⟩
 ·obtain ⟨a, b, h1, h2, h3, h4⟩ := gr.e e he
  have h5 := lw_ge (k := N) he
  rw [h1, h2] at h5 ⊢
  rw [g a (by omega), g b (by omega), ← stop a (by omega)]
  exact h5
 ·rcases lw_wit (l := l) (k := N) (v := v) with h | ⟨e, he, h1, h2⟩
  ·exact .inl (by rw [g v hv, ← stop v hv]; exact h)
  ·obtain ⟨a, b, q1, q2, q3, q4⟩ := gr.e e he
   rw [q2] at h2
   exact .inr ⟨e, he, h1, by rw [g v hv, ← stop v hv, h2, q2, g b (by omega)]⟩
theorem lev_iff {n : Int} {N : Nat} {l : List Edge} (gr : Gr n l) (hN : n = N) : (∃ f, LevEq N l f) ↔ Acyc l := ⟨fun ⟨_, h⟩ => h.acyc, acyc_lev gr hN⟩
theorem bestS_none {l : List Edge} : ∀ {t : List Edge} {i : Nat} {b : Int × Int}, (bestS l t i b).1 < 0 ↔ b.1 < 0 ∧ ((∀ e ∈ t, ¬ 0 < lenE l e) ∨ (0 ≤ b.2 ∧ False) ∨ (∀ e ∈ t, ¬ (0 < lenE l e ∧ (b.2 < 0 ∨ lenE l e < b.2))))
 | [], i, b => by simp [bestS]
 | x :: t, i, b => by
  show (bestS l t (i + 1) _).1 < 0 ↔ _
  rw [bestS_none]
  by_cases h : 0 < lenE l x ∧ (b.2 < 0 ∨ lenE l x < b.2)
  ·rw [if_pos h]
   constructor
   ·rintro ⟨h1, _⟩
    have : ((i : Nat) : Int) < 0 := h1
    omega
   ·rintro ⟨_, h1 | ⟨_, h1⟩ | h1⟩
    ·exact absurd h.1 (h1 x (by simp))
    ·exact h1.elim
    ·exact absurd h (h1 x (by simp))
  ·rw [if_neg h]
   constructor
   ·rintro ⟨h1, h2 | ⟨_, h2⟩ | h2⟩
    ·refine ⟨h1, .inr (.inr fun e he => ?_)⟩
     rcases List.mem_cons.1 he with rfl | he
     ·exact h
     ·exact fun hc => h2 e he hc.1
    ·exact h2.elim
    ·refine ⟨h1, .inr (.inr fun e he => ?_)⟩
     rcases List.mem_cons.1 he with rfl | he
     ·exact h
     ·exact h2 e he
   ·rintro ⟨h1, h2 | ⟨_, h2⟩ | h2⟩
    ·exact ⟨h1, .inl fun e he => h2 e (by simp [he])⟩
    ·exact h2.elim
    ·exact ⟨h1, .inr (.inr fun e he => h2 e (by simp [he]))⟩
theorem lenE_pos {l : List Edge} {e : Edge} : 0 < lenE l e ↔ 0 ≤ dst l e.to e.fr := by
 unfold lenE
 split <;> omega
theorem bestE_none {l : List Edge} : (bestE l).1 < 0 ↔ Acyc l := by
 unfold bestE
 rw [bestS_none, acyc_dst]
 constructor
 ·rintro ⟨_, h | ⟨_, h⟩ | h⟩ e he
  ·have := h e he
   rw [lenE_pos] at this
   omega
  ·exact h.elim
  ·have h1 : ¬ 0 < lenE l e := fun hc => h e he ⟨hc, .inl (by decide)⟩
   rw [lenE_pos] at h1
   omega
 ·intro h
  refine ⟨by decide, .inl fun e he => ?_⟩
  rw [lenE_pos]
  have := h e he
  omega
def edAt (l : List Edge) (i : Int) : Edge := (l[i.toNat]?).getD ⟨0, 0, 0, 0⟩
def EC : Int → List Edge → Int → Prop
 | x, [], y => x = y
 | x, e :: t, y => e.fr = x ∧ EC e.to t y
theorem EC.next {y : Int} : ∀ {es : List Edge} {x : Int} {i : Nat} {e : Edge}, EC x es y → es[i]? = some e → (∃ e', es[i + 1]? = some e' ∧ e'.fr = e.to) ∨ (i + 1 = es.length ∧ e.to = y)
 | [], _, _, _, _, h => by simp at h
 | a :: es, x, 0, e, ⟨h1, h2⟩, h => by
  simp at h
  subst h
  cases es with
  | nil => exact .inr ⟨rfl, h2⟩
  | cons b es => exact .inl ⟨b, rfl, h2.1⟩
 | a :: es, x, i + 1, e, ⟨h1, h2⟩, h => by
  rcases EC.next (i := i) h2 (by simpa using h) with h3 | ⟨h3, h4⟩
  ·exact .inl (by simpa using h3)
  ·exact .inr ⟨by simp [h3], h4⟩
theorem walk_ec {l : List Edge} {y : Int} : ∀ {k : Nat} {x : Int}, dst l x y = k → (∀ i ∈ walkE l y k x, ∃ (j : Nat) (e : Edge), i = (j : Int) ∧ l[j]? = some e) ∧ EC x ((walkE l y k x).map (edAt l)) y
 | 0, x, h => ⟨by simp [walkE], dst_zero.1 h⟩
 | k + 1, x, h => by
  obtain ⟨j, e, h1, h2, h3, h4, h5⟩ := nxtE_some (l := l) (x := x) (y := y) (k := k) (by rw [h]; push_cast; rfl)
  obtain ⟨q1, q2⟩ := walk_ec h4
  have ew : walkE l y (k + 1) x = (j : Int) :: walkE l y k e.to := by
   show nxtE l x y k :: walkE l y k (toAt l (nxtE l x y k)) = _
   rw [h5, h1]
  rw [ew]
  refine ⟨fun i hi => ?_, ?_, ?_⟩
  ·rcases List.mem_cons.1 hi with rfl | hi
   ·exact ⟨j, e, rfl, h2⟩
   ·exact q1 i hi
  ·simp only [edAt, Int.toNat_natCast, h2, Option.getD_some]
   exact h3
  ·simp only [edAt, Int.toNat_natCast, h2, Option.getD_some]
   exact q2
theorem cyc_ec {n : Int} {l : List Edge} (h0 : chkG n l = 0) : (cycE n l).2 = 0 ∧ (∀ i ∈ (cycE n l).1, ∃ (j : Nat) (e : Edge), i = (j : Int) ∧ l[j]? = some e) ∧ ((cycE n l).1 = [] ∧ (bestE l).1 < 0 ∨ (cycE n l).1 ≠ [] ∧ 0 ≤ (bestE l).1 ∧ ∃ x, EC x ((cycE n l).1.map (edAt l)) x) := by
 rcases bestE_bst (l := l) with ⟨h1, h2⟩ | ⟨j, e, h1, h2, h3, h4⟩
 ·have ec : cycE n l = ([], 0) := by unfold cycE; rw [if_neg (by simpa using h0), if_pos (by omega)]
  rw [ec]
  exact ⟨rfl, by simp, .inl ⟨rfl, by omega⟩⟩
 ·have h5 : ¬ dst l e.to e.fr < 0 := by
   intro hc
   unfold lenE at h3
   rw [if_pos hc] at h3
   omega
  obtain ⟨k, hk⟩ : ∃ k : Nat, dst l e.to e.fr = k := ⟨(dst l e.to e.fr).toNat, by omega⟩
  have h6 : (bestE l).2 = dst l e.to e.fr + 1 := by
   rw [← h3]
   unfold lenE
   rw [if_neg h5]
  have ec : cycE n l = ((j : Int) :: walkE l e.fr k e.to, 0) := by
   unfold cycE
   rw [if_neg (by simpa using h0), if_neg (by omega), h1, show ((bestE l).2 - 1).toNat = k by omega]
   simp only [frAt, toAt, Int.toNat_natCast, h2]
  obtain ⟨q1, q2⟩ := walk_ec hk
  rw [ec]
  refine ⟨rfl, fun i hi => ?_, .inr ⟨by simp, by omega, e.fr, ?_⟩⟩
  ·rcases List.mem_cons.1 hi with rfl | hi
   ·exact ⟨j, e, rfl, h2⟩
   ·exact q1 i hi
  ·show EC e.fr (edAt l (j : Int) :: (walkE l e.fr k e.to).map (edAt l)) e.fr
   have : edAt l (j : Int) = e := by simp only [edAt, Int.toNat_natCast, h2, Option.getD_some]
   rw [this]
   exact ⟨rfl, q2⟩
end Go.Am
namespace Go.Am
open Go
set_option linter.unusedSimpArgs false
set_option linter.unusedVariables false
set_option maxRecDepth 100000
theorem sys_chkG {s : Sys} (h0 : chkE s = 0) : chkG (resE s) (edgesE s) = 0 := by
 have hv := valid_of h0
 have p6 := hv.p6
 have l4 := hv.l4
 have c6 := hv.c6
 have er : resE s = s.pools.length + s.locks.length + s.cls.length := by unfold resE; rw [if_neg (by simpa using h0)]
 unfold chkG
 rw [if_neg (by omega), if_neg]
 intro hc
 obtain ⟨e, he, hb⟩ := List.any_eq_true.1 hc
 obtain ⟨⟨a, ha, ha2⟩, b, hb1, hb2⟩ := edge_rng h0 (edgesE_sub he)
 simp only [badN, Bool.or_eq_true, decide_eq_true_eq] at hb
 omega
theorem res_nat {s : Sys} : ∃ N : Nat, resE s = N ∧ (chkE s = 0 → N = s.pools.length + s.locks.length + s.cls.length) := by
 unfold resE
 split
 ·rename_i h
  exact ⟨0, rfl, fun h' => absurd h' h⟩
 ·exact ⟨s.pools.length + s.locks.length + s.cls.length, by omega, fun _ => rfl⟩
noncomputable def makE (s : Sys) : List Int × Int :=
 if chkE s ≠ 0 then ([], chkE s) else if (impA s).2.2 = true then ([], 9) else if (levE (resE s) (edgesE s)).2 ≠ 0 then ([], 20) else ((levE (resE s) (edgesE s)).1, 0)
theorem sp50 {F : Nat → Option Fn} (hA : HasA F) (hB : HasB F) (hC : HasC F) (hG : HasG F) {lo : Nat} {m : Mem} (s : Sys) : callw F 50 [vSys s] lo m = some (.tup [vCert (makE s).1, vi (makE s).2], m) := by
 have c35 : ∀ {lo m}, callw F 35 [vSys s] lo m = some (.tup [vEdges (edgesE s), vi (chkE s)], m) := fun {lo m} => sp35 hA hB s
 have c81 : ∀ {lo m}, callw F 81 [vSys s] lo m = some (.tup [vi (impA s).1, vi (impA s).2.1, .bool (impA s).2.2], m) := fun {lo m} => sp81 hA hC s
 have c29 : ∀ {lo m}, callw F 29 [vSys s] lo m = some (vi (resE s), m) := fun {lo m} => sp29 hA hB s
 refine call_p hC.h50 rfl ?_
 unfold vCert
 by_cases h0 : chkE s = 0
 ·have hl := edgesE_len' h0
  have c41 : ∀ {lo m}, callw F 41 [vi (resE s), vEdges (edgesE s)] lo m = some (.tup [ints (levE (resE s) (edgesE s)).1, vi (levE (resE s) (edgesE s)).2], m) := fun {lo m} => sp41 hG _ _ (by omega)
  cases h1 : (impA s).2.2 with
  | true =>
   have e : makE s = ([], 9) := by unfold makE; rw [if_neg (by simpa using h0), if_pos h1]
   rw [e]
   simp only [↓sxc, sx, se, ↓reduceIte, Nat.reduceEqDiff, Nat.reduceAdd, Nat.reduceLT, Nat.reduceLeDiff, Nat.reduceSub, Nat.reduceMul, Int.reduceToNat, Int.reduceLT, Int.reduceLE, Int.reduceEq, ml_i0, ↓smc, sm, c35, h0, c81, h1]
   rfl
  | false =>
   by_cases h2 : (levE (resE s) (edgesE s)).2 = 0
   ·have e : makE s = ((levE (resE s) (edgesE s)).1, 0) := by unfold makE; rw [if_neg (by simpa using h0), if_neg (by simp [h1]), if_neg (by simpa using h2)]
    rw [e]
    simp only [↓sxc, sx, se, ↓reduceIte, Nat.reduceEqDiff, Nat.reduceAdd, Nat.reduceLT, Nat.reduceLeDiff, Nat.reduceSub, Nat.reduceMul, Int.reduceToNat, Int.reduceLT, Int.reduceLE, Int.reduceEq, ml_i0, ↓smc, sm, c35, h0, c81, h1, c29, c41, h2]
    rfl
   ·have e : makE s = ([], 20) := by unfold makE; rw [if_neg (by simpa using h0), if_neg (by simp [h1]), if_pos h2]
    rw [e]
    simp only [↓sxc, sx, se, ↓reduceIte, Nat.reduceEqDiff, Nat.reduceAdd, Nat.reduceLT, Nat.reduceLeDiff, Nat.reduceSub, Nat.reduceMul, Int.reduceToNat, Int.reduceLT, Int.reduceLE, Int.reduceEq, ml_i0, ↓smc, sm, c35, h0, c81, h1, c29, c41, h2]
    rfl
 ·have e : makE s = ([], chkE s) := by unfold makE; rw [if_pos h0]
  rw [e]
  simp only [↓sxc, sx, se, ↓reduceIte, Nat.reduceEqDiff, Nat.reduceAdd, Nat.reduceLT, Nat.reduceLeDiff, Nat.reduceSub, Nat.reduceMul, Int.reduceToNat, Int.reduceLT, Int.reduceLE, Int.reduceEq, ml_i0, ↓smc, sm, c35, h0]
  rfl
noncomputable def expE (s : Sys) : List Edge := if chkE s ≠ 0 then [] else (cycE (resE s) (edgesE s)).1.map (edAt (edgesE s))
end Go.Am
namespace Go.Am
open Go
set_option linter.unusedSimpArgs false
set_option linter.unusedVariables false
theorem lev_cases {n : Int} {N : Nat} {l : List Edge} (h : chkG n l = 0) (hN : n = N) : (∃ f, LevEq N l f ∧ levE n l = (f, 0)) ∨ (¬ Acyc l ∧ levE n l = ([], 10)) := by
 by_cases ha : Acyc l
 ·obtain ⟨f, hf⟩ := acyc_lev (gr_of h) hN ha
  exact .inl ⟨f, hf, levE_ok h hN hf⟩
 ·exact .inr ⟨ha, levE_no h hN fun h' => ha ((lev_iff (gr_of h) hN).1 h')⟩
theorem ver_fall {s : Sys} {l : List Int} (h0 : chkE s = 0) (h : verE s l = 0) : (∀ e ∈ edgesE s, gAt l e.to + 1 ≤ gAt l e.fr) ∧ (impA s).2.2 = false := by
 unfold verE at h
 rw [if_neg (by simpa using h0)] at h
 split at h
 ·omega
 ·split at h
  ·omega
  ·split at h
   ·omega
   ·rename_i h2
    split at h
    ·omega
    ·rename_i h3
     have h4 : (edgesE s).any (badEdge l) = false := by
      rw [any_edges h0]
      simpa using h3
     refine ⟨fun e he => ?_, by simpa using h2⟩
     have := List.any_eq_false.1 h4 e he
     simp only [badEdge, decide_eq_true_eq] at this
     have e1 : ∀ r, gAt l r = lvAt l r := fun r => rfl
     rw [e1, e1]
     omega
theorem ver_acyc {s : Sys} {l : List Int} (h0 : chkE s = 0) (h : verE s l = 0) : Acyc (edgesE s) := acyc_of (f := gAt l) (ver_fall h0 h).1
theorem ver_ok {s : Sys} {l : List Int} (h0 : chkE s = 0) (hl : (l.length : Int) = resE s) (hr : ∀ n ∈ l, 0 ≤ n ∧ n ≤ 4096) (hi : (impA s).2.2 = false) (hf : ∀ e ∈ edgesE s, gAt l e.to + 1 ≤ gAt l e.fr) : verE s l = 0 := by
 have er : resE s = s.pools.length + s.locks.length + s.cls.length := by unfold resE; rw [if_neg (by simpa using h0)]
 have h1 : l.any outB = false := List.any_eq_false.2 fun n hn => by
  have := hr n hn
  simp [outB]
  omega
 have h2 : (alE s s.cls 0).any (badEdge l) = false := by
  rw [← any_edges h0]
  refine List.any_eq_false.2 fun e he => ?_
  have := hf e he
  have e1 : ∀ r, gAt l r = lvAt l r := fun r => rfl
  rw [e1, e1] at this
  simp [badEdge]
  omega
 unfold verE
 rw [if_neg (by simpa using h0), if_neg (by omega), if_neg (by simp [h1]), if_neg (by simp [hi]), if_neg (by simp [h2])]
theorem gAt_mem {l : List Int} {x : Int} (h : x ∈ l) : ∃ v : Nat, v < l.length ∧ x = gAt l v := by
 obtain ⟨v, hv, rfl⟩ := List.getElem_of_mem h
 refine ⟨v, hv, ?_⟩
 have := gAt_get hv
 rw [List.getElem?_eq_getElem hv] at this
 exact Option.some.inj this
theorem mak_cases {s : Sys} (h0 : chkE s = 0) : ((impA s).2.2 = true ∧ (makE s).2 = 9) ∨ ((impA s).2.2 = false ∧ (makE s).2 = 0 ∧ expE s = [] ∧ verE s (makE s).1 = 0) ∨ ((impA s).2.2 = false ∧ (makE s).2 = 20 ∧ expE s ≠ [] ∧ ∀ l, ¬ verE s l = 0) := by
 have hg := sys_chkG h0
 have gr := gr_of hg
 obtain ⟨N, hN, hN2⟩ := res_nat (s := s)
 have n4 := gr.n4
 have ex : expE s = (cycE (resE s) (edgesE s)).1.map (edAt (edgesE s)) := by unfold expE; rw [if_neg (by simpa using h0)]
 obtain ⟨_, _, y3⟩ := cyc_ec hg
 cases h1 : (impA s).2.2 with
 | true => exact .inl ⟨rfl, by unfold makE; rw [if_neg (by simpa using h0), if_pos h1]⟩
 | false =>
  rcases lev_cases hg hN with ⟨f, hf, he⟩ | ⟨hn, he⟩
  ·have em : makE s = (f, 0) := by unfold makE; rw [if_neg (by simpa using h0), if_neg (by simp [h1]), he]; rfl
   refine .inr (.inl ⟨rfl, by rw [em], ?_, ?_⟩)
   ·rw [ex]
    rcases y3 with ⟨h, _⟩ | ⟨_, h, _⟩
    ·rw [h]; rfl
    ·have := bestE_none.2 hf.acyc
     omega
   ·rw [em]
    show verE s f = 0
    refine ver_ok h0 (by rw [hf.ln, hN]) (fun n hn => ?_) h1 hf.ge
    obtain ⟨v, hv, rfl⟩ := gAt_mem hn
    rw [hf.ln] at hv
    have := hf.nn v hv
    have := hf.small gr hN v hv
    omega
  ·have em : makE s = ([], 20) := by unfold makE; rw [if_neg (by simpa using h0), if_neg (by simp [h1]), he]; rfl
   refine .inr (.inr ⟨rfl, by rw [em], ?_, fun l hl => hn (ver_acyc h0 hl)⟩)
   rw [ex]
   rcases y3 with ⟨_, h⟩ | ⟨h, _⟩
   ·exact absurd (bestE_none.1 h) hn
   ·simpa using h
end Go.Am
namespace Go.Am
open Go
theorem Has.int_inv {k : IntKind} {n : Nat} {cs : List V} (h : Has (.int k) n cs) : n = 1 ∧ ∃ z, cs = [.int k z] ∧ (Lit.int k z).wf = true := by
 cases h with
 | int k z hz => exact ⟨rfl, z, rfl, hz⟩
theorem Has.bool_inv {n : Nat} {cs : List V} (h : Has .bool n cs) : n = 1 ∧ ∃ b, cs = [.bool b] := by
 cases h with
 | bool b => exact ⟨rfl, b, rfl⟩
theorem Has.str_inv {n : Nat} {cs : List V} (h : Has .str n cs) : n = 1 ∧ ∃ s, cs = [.str s] ∧ s.length ≤ maxLen := by
 cases h with
 | str s hs => exact ⟨rfl, s, rfl, hs⟩
theorem Has.nil_inv {n : Nat} {cs : List V} (h : Has (.st []) n cs) : n = 0 ∧ cs = [] := by
 cases h with
 | st0 => exact ⟨rfl, rfl⟩
theorem Has.cons_inv {f : Ty} {fs : List Ty} {n : Nat} {cs : List V} (h : Has (.st (f :: fs)) n cs) : ∃ a b n1 n2, n = n1 + n2 ∧ cs = a ++ b ∧ Has f n1 a ∧ Has (.st fs) n2 b := by
 cases h with
 | st1 f fs n m a b ha hb => exact ⟨a, b, n, m, rfl, rfl, ha, hb⟩
def Dec {α : Type} (e : Ty) (k : Nat) (enc : α → V) (P : α → Prop) : Prop := ∀ n cs, Has e n cs → n = k ∧ ∃ a, wrap e cs = enc a ∧ P a
theorem all_dec {α : Type} {enc : α → V} {P : α → Prop} : ∀ {xs : List V}, (∀ x ∈ xs, ∃ a, x = enc a ∧ P a) → ∃ l : List α, xs = l.map enc ∧ ∀ a ∈ l, P a
 | [], _ => ⟨[], rfl, by simp⟩
 | x :: xs, h => by
  obtain ⟨a, rfl, ha⟩ := h x (by simp)
  obtain ⟨l, rfl, hl⟩ := all_dec (xs := xs) (fun y hy => h y (by simp [hy]))
  exact ⟨a :: l, rfl, fun b hb => by
   rcases List.mem_cons.1 hb with rfl | hb
   ·exact ha
   ·exact hl b hb⟩
theorem Has.sl_inv {α : Type} {e : Ty} {k : Nat} {enc : α → V} {P : α → Prop} (hd : Dec e k enc P) {n : Nat} {cs : List V} (h : Has (.sl e) n cs) : n = 1 ∧ ∃ l : List α, cs = [.ro true k (l.map enc)] ∧ l.length ≤ maxLen ∧ ∀ a ∈ l, P a := by
 cases h with
 | sl e sz xs hl css hw hh =>
  have hx : ∀ x ∈ xs, ∃ a, x = enc a ∧ P a := by
   intro x hx
   obtain ⟨i, hi, rfl⟩ := List.getElem_of_mem hx
   have hg := List.getElem?_eq_getElem hi
   obtain ⟨_, a, ha, hp⟩ := hd _ _ (hh i _ hg)
   exact ⟨a, (hw i _ hg).trans ha, hp⟩
  obtain ⟨l, rfl, hp⟩ := all_dec hx
  refine ⟨rfl, l, ?_, by simpa using hl, hp⟩
  cases l with
  | nil => rfl
  | cons a l =>
   have := (hd _ _ (hh 0 (enc a) rfl)).1
   rw [this]
def tPool : Ty := .st [.str, .int .i64, .int .i64]
def tStp : Ty := .st [.int .i64, .int .i64, .int .i64, .bool]
def tCls : Ty := .st [.str, .int .i64, .bool, .sl tStp]
def tSys : Ty := .st [.sl tPool, .sl .str, .sl tCls]
theorem dec_str : Dec .str 1 V.str (fun _ => True) := fun n cs h => by
 obtain ⟨rfl, s, rfl, _⟩ := h.str_inv
 exact ⟨rfl, s, rfl, trivial⟩
theorem dec_pool : Dec tPool 3 vPool (fun _ => True) := fun n cs h => by
 obtain ⟨a, b, n1, n2, rfl, rfl, h1, h⟩ := h.cons_inv
 obtain ⟨c, d, n3, n4, rfl, rfl, h2, h⟩ := h.cons_inv
 obtain ⟨e, f, n5, n6, rfl, rfl, h3, h⟩ := h.cons_inv
 obtain ⟨rfl, rfl⟩ := h.nil_inv
 obtain ⟨rfl, x, rfl, _⟩ := h1.str_inv
 obtain ⟨rfl, y, rfl, _⟩ := h2.int_inv
 obtain ⟨rfl, z, rfl, _⟩ := h3.int_inv
 exact ⟨rfl, ⟨x, y, z⟩, rfl, trivial⟩
theorem dec_stp : Dec tStp 4 vStp (fun _ => True) := fun n cs h => by
 obtain ⟨a, b, n1, n2, rfl, rfl, h1, h⟩ := h.cons_inv
 obtain ⟨c, d, n3, n4, rfl, rfl, h2, h⟩ := h.cons_inv
 obtain ⟨e, f, n5, n6, rfl, rfl, h3, h⟩ := h.cons_inv
 obtain ⟨e, f, n5, n6, rfl, rfl, h4, h⟩ := h.cons_inv
 obtain ⟨rfl, rfl⟩ := h.nil_inv
 obtain ⟨rfl, x, rfl, _⟩ := h1.int_inv
 obtain ⟨rfl, y, rfl, _⟩ := h2.int_inv
 obtain ⟨rfl, z, rfl, _⟩ := h3.int_inv
 obtain ⟨rfl, b, rfl⟩ := h4.bool_inv
 exact ⟨rfl, ⟨x, y, z, b⟩, rfl, trivial⟩
theorem dec_cls : Dec tCls 4 vCls (fun _ => True) := fun n cs h => by
 obtain ⟨a, b, n1, n2, rfl, rfl, h1, h⟩ := h.cons_inv
 obtain ⟨c, d, n3, n4, rfl, rfl, h2, h⟩ := h.cons_inv
 obtain ⟨e, f, n5, n6, rfl, rfl, h3, h⟩ := h.cons_inv
 obtain ⟨e, f, n5, n6, rfl, rfl, h4, h⟩ := h.cons_inv
 obtain ⟨rfl, rfl⟩ := h.nil_inv
 obtain ⟨rfl, x, rfl, _⟩ := h1.str_inv
 obtain ⟨rfl, y, rfl, _⟩ := h2.int_inv
 obtain ⟨rfl, z, rfl⟩ := h3.bool_inv
 obtain ⟨rfl, l, rfl, _⟩ := h4.sl_inv dec_stp
 exact ⟨rfl, ⟨x, y, z, l⟩, rfl, trivial⟩
theorem open_sys {v : V} (h : HasV tSys v) : ∃ s, v = vSys s := by
 obtain ⟨n, cs, rfl, h⟩ := h
 obtain ⟨a, b, n1, n2, rfl, rfl, h1, h⟩ := h.cons_inv
 obtain ⟨c, d, n3, n4, rfl, rfl, h2, h⟩ := h.cons_inv
 obtain ⟨e, f, n5, n6, rfl, rfl, h3, h⟩ := h.cons_inv
 obtain ⟨rfl, rfl⟩ := h.nil_inv
 obtain ⟨rfl, x, rfl, _⟩ := h1.sl_inv dec_pool
 obtain ⟨rfl, y, rfl, _⟩ := h2.sl_inv dec_str
 obtain ⟨rfl, z, rfl, _⟩ := h3.sl_inv dec_cls
 exact ⟨⟨x, y, z⟩, rfl⟩
theorem open_int' {k : IntKind} {v : V} (h : HasV (.int k) v) : ∃ n, v = .int k n ∧ (Lit.int k n).wf = true := by
 obtain ⟨n, cs, rfl, h⟩ := h
 obtain ⟨rfl, x, rfl, hx⟩ := h.int_inv
 exact ⟨x, rfl, hx⟩
theorem all_cons {T : Ty} {Ts : List Ty} {us : List V} (h : HasAll (T :: Ts) us) : ∃ u vs, us = u :: vs ∧ HasV T u ∧ HasAll Ts vs := by
 cases h with
 | cons _ _ v vs h1 h2 => exact ⟨v, vs, rfl, h1, h2⟩
theorem all_nil {us : List V} (h : HasAll [] us) : us = [] := by
 cases h
 rfl
end Go.Am
namespace Go.Am
open Go
set_option linter.unusedSimpArgs false
set_option linter.unusedVariables false
set_option maxRecDepth 100000
theorem u8_rng {n : Int} (h : (Lit.int .u8 n).wf = true) : 0 ≤ n ∧ n ≤ 255 := by
 simp only [Lit.wf, Bool.and_eq_true, decide_eq_true_eq] at h
 exact h
theorem open_u8 {v : V} (h : HasV (.int .u8) v) : ∃ n, v = .int .u8 n ∧ 0 ≤ n ∧ n ≤ 255 := by
 obtain ⟨n, rfl, hn⟩ := open_int' h
 have := u8_rng hn
 exact ⟨n, rfl, this⟩
theorem cv_u8 {n : Int} (h1 : 0 ≤ n) (h2 : n ≤ 255) : retV (.cvt .i64) [.int .u8 n] = some (.int .i64 n) := by
 rw [r_cvt, IntWalk.i64_in n ⟨by omega, by omega⟩]
theorem rm_i64 {x y : Int} (h1 : 0 ≤ x) (h2 : 1 ≤ y) : retV (.bin .rem) [.int .i64 x, .int .i64 y] = some (.int .i64 (x % y)) := by
 rw [r_rem, if_neg (by omega), Int.tmod_eq_emod_of_nonneg h1]
end Go.Am
namespace Go.Am
open Go
set_option linter.unusedSimpArgs false
set_option linter.unusedVariables false
set_option maxRecDepth 100000
section
variable {F : Nat → Option Fn} {lo : Nat} {md : Option (Nat × Nat)} {ops : List Op} {e b a : Env} {m : Mem} {Q : St → Prop} {d : Nat}
noncomputable def frz (lo : Nat) (m : Mem) (sz : Nat) : V → Option V
 | .agg cs => if cs.length = sz then freeze lo m 8 (.agg cs) else none
 | _ => none
theorem S_frz {t sz : Nat} : S F lo md (⟨.e d, .frz sz, [.b t], none⟩ :: ops) ⟨e, b, a, m⟩ Q ↔ OC (b.get t) fun u => OC (frz lo m sz u) fun v => S F lo (nx md) ops ⟨(d, v) :: e, (t, v) :: b, a, m.kill lo⟩ Q := by
 rw [S_exec]
 simp only [gs_cons, gs_nil, K.allocs, bmp_false, g_b]
 cases hb : b.get t with
 | none => simp [OC_none]
 | some u =>
  simp only [OC_some, plan, plan_frz, act, hb]
  cases u <;> simp only [frz, OC_none]
  case agg cs =>
   by_cases h : cs.length = sz
   ·simp only [if_pos h]
    cases freeze lo m 8 (.agg cs) with
    | none => simp [OC_none]
    | some v => simp [OC_some, put]
   ·simp only [if_neg h, OC_none]
end
theorem Rw.weak {lo lo' sz : Nat} {m : Mem} {v : V} {xs : List V} (h : Rw lo m sz v xs) (hl : lo' ≤ lo) : Rw lo' m sz v xs := by
 rcases h with h | ⟨k, h1, h2, h3, h4⟩
 ·exact .inl h
 ·exact .inr ⟨k, h1, by omega, h3, h4⟩
noncomputable def cpC (c : Cls) (hk : Nat) : V := .agg [.str c.name, vi c.wk, .bool c.srv, .row 4 hk 0 c.steps.length]
structure Cp (lo : Nat) (m : Mem) (C : V) (cs : List Cls) : Prop where
 ex : ∃ es, Rw lo m 4 C es ∧ es.length = cs.length ∧ ∀ (i : Nat) (v : V) (c : Cls), es[i]? = some v → cs[i]? = some c → ∃ hk, v = cpC c hk ∧ lo ≤ hk ∧ hk < m.next ∧ m.blk hk = some (.row 4 (c.steps.map vStp)) ∧ hOf C ≠ some hk
theorem Cp.weak {lo lo' : Nat} {m : Mem} {C : V} {cs : List Cls} (H : Cp lo m C cs) (hl : lo' ≤ lo) : Cp lo' m C cs := by
 obtain ⟨es, h1, h2, h3⟩ := H.ex
 refine ⟨es, h1.weak hl, h2, fun i v c hv hc => ?_⟩
 obtain ⟨hk, e1, e2, e3⟩ := h3 i v c hv hc
 exact ⟨hk, e1, by omega, e3⟩
theorem fz_cpC {lo n hk : Nat} {m : Mem} {c : Cls} (h1 : lo ≤ hk) (h2 : m.blk hk = some (.row 4 (c.steps.map vStp))) : freeze lo m (n + 4) (cpC c hk) = some (vCls c) := by
 have h3 : freeze lo m (n + 3) (.row 4 hk 0 c.steps.length) = some (vStps c.steps) := by
  rw [fz_row h2 h1 (by simp), List.drop_zero, List.take_of_length_le (by simp), mapO_id (fun x hx => by
   obtain ⟨y, _, rfl⟩ := List.mem_map.1 hx
   rfl)]
  rfl
 unfold cpC
 rw [fz_agg]
 simp only [mapO, fz_str, fz_int, fz_bool, h3]
 rfl
theorem Cp.fz {lo n : Nat} {m : Mem} {C : V} {cs : List Cls} (H : Cp lo m C cs) : freeze lo m (n + 5) C = some (vClss cs) := by
 obtain ⟨es, h1, h2, h3⟩ := H.ex
 rw [h1.freeze]
 have key : ∀ (es : List V) (cs : List Cls), es.length = cs.length → (∀ (i : Nat) (v : V) (c : Cls), es[i]? = some v → cs[i]? = some c → freeze lo m (n + 4) v = some (vCls c)) → mapO (freeze lo m (n + 4)) es = some (cs.map vCls) := by
  intro es
  induction es with
  | nil =>
   intro cs hl _
   cases cs with
   | nil => rfl
   | cons => simp at hl
  | cons v es ih =>
   intro cs hl hr
   cases cs with
   | nil => simp at hl
   | cons c cs =>
    have q1 := hr 0 v c rfl rfl
    have q2 := ih cs (by simpa using hl) (fun i v c hv hc => hr (i + 1) v c hv hc)
    simp only [mapO, q1, q2, List.map_cons]
 rw [key es cs h2 (fun i v c hv hc => by
  obtain ⟨hk, rfl, q1, _, q2, _⟩ := h3 i v c hv hc
  exact fz_cpC q1 q2)]
 rfl
structure CpS (lo : Nat) (m : Mem) (v : V) (s : Sys) : Prop where
 ex : ∃ hp hl C b, v = .agg [.row 3 hp 0 s.pools.length, .row 1 hl 0 s.locks.length, C] ∧ (lo ≤ hp ∧ hp < b ∧ m.blk hp = some (.row 3 (s.pools.map vPool))) ∧ (lo ≤ hl ∧ hl < b ∧ m.blk hl = some (.row 1 (s.locks.map .str))) ∧ hp ≠ hl ∧ lo ≤ b ∧ Cp b m C s.cls
theorem CpS.fz {lo : Nat} {m : Mem} {v : V} {s : Sys} (H : CpS lo m v s) : freeze lo m 8 v = some (vSys s) := by
 obtain ⟨hp, hl, C, b, rfl, ⟨h1, _, h2⟩, ⟨h3, _, h4⟩, _, h5, h6⟩ := H.ex
 have q1 : freeze lo m 7 (.row 3 hp 0 s.pools.length) = some (vPools s.pools) := by
  rw [fz_row h2 h1 (by simp), List.drop_zero, List.take_of_length_le (by simp), mapO_id (fun x hx => by
   obtain ⟨y, _, rfl⟩ := List.mem_map.1 hx
   rfl)]
  rfl
 have q2 : freeze lo m 7 (.row 1 hl 0 s.locks.length) = some (strs s.locks) := by
  rw [fz_row h4 h3 (by simp), List.drop_zero, List.take_of_length_le (by simp), mapO_id (fun x hx => by
   obtain ⟨y, _, rfl⟩ := List.mem_map.1 hx
   rfl)]
  rfl
 rw [fz_agg]
 simp only [mapO, q1, q2, (h6.weak h5).fz]
 rfl
theorem CpS.frv {lo : Nat} {m : Mem} {v : V} {s : Sys} (H : CpS lo m v s) : frz lo m 3 v = some (vSys s) := by
 have h := H.fz
 obtain ⟨hp, hl, C, b, rfl, _⟩ := H.ex
 exact h
theorem apV_lo {lo lo' h sz : Nat} {m : Mem} {x y : V} {r : V × Mem} (hl : lo ≤ lo') (hh : apV lo' h m sz x y = some r) : apV lo h m sz x y = some r := by
 unfold apV at hh ⊢
 cases hv : view m y with
 | none => rw [hv] at hh; cases hh
 | some q =>
  obtain ⟨s, xs⟩ := q
  rw [hv] at hh
  cases x with
  | row s0 h' o l =>
   simp only at hh ⊢
   by_cases h1 : s0 = sz
   ·rw [if_pos h1] at hh ⊢
    by_cases h2 : lo' ≤ h' ∧ (s = sz ∨ xs.length = 0) ∧ l + xs.length < big
    ·rw [if_pos h2] at hh
     rw [if_pos ⟨by omega, h2.2⟩]
     exact hh
    ·rw [if_neg h2] at hh
     cases hh
   ·rw [if_neg h1] at hh
    cases hh
  | _ => exact hh
theorem w89_1 {F : Nat → Option Fn} {lo b : Nat} (s : Sys) (hs : s.cls.length < 100) (hst : ∀ c ∈ s.cls, c.steps.length < 100) (P L : V) (hpo : P.one = true) (hlo : L.one = true) (u2 : V) : ∀ (t : List Cls) (i : Nat) (C : V) (m : Mem) (Q : Ex → St → Prop), s.cls.drop i = t → lo ≤ b → b ≤ m.next → Cp b m C (s.cls.take i) → (C = .nil ∨ ∃ h l, C = .row 4 h 0 l) →
  (∀ C m' e, m.next ≤ m'.next → Cp b m' C s.cls → (∀ k, k < b → m'.blk k = m.blk k) → Q (.exit 0) ⟨e, [(2, u2), (3, .agg [P, L, C])], [], m'⟩) →
  W F lo L89_1 ⟨[(16, vClss s.cls), (17, vi s.cls.length), (18, vi i)], [(2, u2), (3, .agg [P, L, C])], [], m⟩ Q := by
 intro t
 induction t with
 | nil =>
  intro i C m Q hd hlb hm H hC hQ
  have hlt := drop_nil hd
  rw [W_L (c := L89_1) rfl]
  have : ¬ ((i : Nat) : Int) < (s.cls.length : Int) := by omega
  simp only [↓sxc, sx, se, ↓reduceIte, Nat.reduceEqDiff, Nat.reduceAdd, Nat.reduceLT, Nat.reduceLeDiff, Nat.reduceSub, Nat.reduceMul, Int.reduceToNat, Int.reduceLT, Int.reduceLE, Int.reduceEq, ml_i0, ↓smc, sm, this]
  rw [List.take_of_length_le hlt] at H
  exact hQ C m _ (Nat.le_refl _) H (fun _ _ => rfl)
 | cons c t ih =>
  intro i C m Q hd hlb hm H hC hQ
  obtain ⟨hg, hd', hlt⟩ := drop_cons hd
  have c0 : ((i : Nat) : Int) < (s.cls.length : Int) := by omega
  have wr : wrapF .i64 ((i : Int) + 1) = ((i + 1 : Nat) : Int) := by rw [wr_i64 (by omega) (by omega)]; rfl
  have hs12 := hst c (List.mem_of_getElem? hg)
  have hil : (s.cls.take i).length = i := by simp; omega
  obtain ⟨es, r1, r2, r3⟩ := H.ex
  let m1 : Mem := (m.set m.next (some (.row 4 []))).bump 1
  have em1 : (m.set m.next (some (.row 4 []))).bump 1 = m1 := rfl
  have n1 : m1.next = m.next + 1 := rfl
  have f1 : ∀ k, k ≠ m.next → m1.blk k = m.blk k := fun k h => set_ne h
  have b1 : m1.blk m.next = some (.row 4 []) := by show (m.set m.next _).blk m.next = _; simp [Mem.set]
  clear_value m1
  have ap1 := ap_row (m := m1) (lo := lo) (h := m1.next) (h' := m.next) (o := 0) (l := 0) (sz := 4) (s := nz 4 (c.steps.map vStp)) (y := vStps c.steps) (xs := c.steps.map vStp) (es := []) vw_vStps (by omega) app_vStps (by have := hs12; simp [big]; omega) b1 (by simp)
  simp only [List.drop_nil, List.take_nil, List.nil_append, Nat.zero_add, List.length_map, n1] at ap1
  let m3 : Mem := ((m1.set m.next none).set (m.next + 1) (some (.row 4 (c.steps.map vStp)))).bump 1
  have em3 : ((m1.set m.next none).set (m.next + 1) (some (.row 4 (c.steps.map vStp)))).bump 1 = m3 := rfl
  have n3 : m3.next = m.next + 2 := by show m1.next + 1 = _; omega
  have f3 : ∀ k, k < m.next → m3.blk k = m.blk k := fun k h => by
   show ((m1.set m.next none).set (m.next + 1) _).blk k = _
   rw [set_ne (by omega), set_ne (by omega), f1 k (by omega)]
  have b3 : m3.blk (m.next + 1) = some (.row 4 (c.steps.map vStp)) := by show ((m1.set m.next none).set (m.next + 1) _).blk _ = _; simp [Mem.set]
  clear_value m3
  have r1' : Rw b m3 4 C es := r1.mono (by omega) (fun k l hk => by
   obtain ⟨_, _, h4, _⟩ := r1.hand (k := k) (by rw [hk]; rfl)
   exact f3 k h4)
  obtain ⟨C', m4, q1, q2, q3, _, q5, q6⟩ := r1'.app2 (y := .lst false 4 [cpC c (m.next + 1)]) (by omega) vw_lst (.inl rfl) (by simp [big]; omega)
  have hC' : C' = .row 4 m3.next 0 (es.length + 1) := by
   rcases q2 with ⟨_, h⟩ | ⟨k, h, _⟩
   ·simp at h
   ·rcases q6 with h6 | ⟨l, h6⟩
    ·rw [h6] at h; cases h
    ·rw [h6] at h
     cases h
     rw [h6]
     simp
  subst hC'
  have q1' : apV lo m3.next m3 4 C (.lst false 4 [cpC c (m.next + 1)]) = some (.row 4 m3.next 0 (es.length + 1), m4) := apV_lo hlb q1
  unfold cpC at q1'
  have sc3 : setC 3 1 (.row 4 (m.next + 1) 0 c.steps.length) (vCls c) = some (.agg [.str c.name, vi c.wk, .bool c.srv, .row 4 (m.next + 1) 0 c.steps.length]) := rfl
  rw [W_L (c := L89_1) rfl]
  simp only [↓sxc, sx, se, ↓reduceIte, Nat.reduceEqDiff, Nat.reduceAdd, Nat.reduceLT, Nat.reduceLeDiff, Nat.reduceSub, Nat.reduceMul, Int.reduceToNat, Int.reduceLT, Int.reduceLE, Int.reduceEq, ml_i0, ↓smc, sm, c0, hg, em1, n1, ap1, em3, sc3, q1', wr, hpo, hlo]
  refine ih (i + 1) (.row 4 m3.next 0 (es.length + 1)) (m4.bump 1) Q hd' hlb ?_ ⟨es ++ [cpC c (m.next + 1)], q2, ?_, fun j v c' hj hc' => ?_⟩ (.inr ⟨_, _, rfl⟩) (fun C m' e z1 z2 z3 => hQ C m' e ?_ z2 (fun k hk => ?_))
  ·show b ≤ m4.next + 1; omega
  ·rw [take_succ_drop hd]; simp [r2]
  ·rw [take_succ_drop hd] at hc'
   by_cases hji : j < es.length
   ·rw [List.getElem?_append_left hji] at hj
    rw [List.getElem?_append_left (by omega)] at hc'
    obtain ⟨hk, e1, e2, e3, e4, e5⟩ := r3 j v c' hj hc'
    refine ⟨hk, e1, e2, by show hk < m4.next + 1; omega, ?_, fun h => ?_⟩
    ·show m4.blk hk = _
     rw [q5 hk (fun l hl => e5 (by rw [hl]; rfl)) (by omega), f3 hk e3]
     exact e4
    ·cases h
     omega
   ·rw [List.getElem?_append_right (by omega)] at hj
    rw [List.getElem?_append_right (by omega)] at hc'
    have hj0 : j - es.length = 0 := by
     rcases Nat.eq_zero_or_pos (j - es.length) with h | h
     ·exact h
     ·rw [List.getElem?_eq_none (by simp; omega)] at hj
      cases hj
    rw [hj0] at hj
    rw [r2.symm, hj0] at hc'
    cases hj
    cases hc'
    refine ⟨m.next + 1, rfl, by omega, by show m.next + 1 < m4.next + 1; omega, ?_, fun h => ?_⟩
    ·show m4.blk (m.next + 1) = _
     rw [q5 _ (fun l hl => ?_) (by omega)]
     ·exact b3
     ·obtain ⟨_, _, h4, _⟩ := r1.hand (k := m.next + 1) (by rw [hl]; rfl)
      omega
    ·have h' : some m3.next = some (m.next + 1) := h
     have := Option.some.inj h'
     omega
  ·have z1' : m4.next + 1 ≤ m'.next := z1
   omega
  ·rw [z3 k hk]
   show m4.blk k = _
   rw [q5 k (fun l hl => ?_) (by omega), f3 k (by omega)]
   obtain ⟨_, h5, _⟩ := r1.hand (k := k) (by rw [hl]; rfl)
   omega
theorem sp89 {F : Nat → Option Fn} (hF : F 89 = some c89) {lo : Nat} {m : Mem} (s : Sys) (hlo : lo ≤ m.next) (hp : s.pools.length < 100) (hk : s.locks.length < 100) (hs : s.cls.length < 100) (hst : ∀ c ∈ s.cls, c.steps.length < 100) :
  ∃ v m', callw F 89 [vSys s] lo m = some (v, m') ∧ (CpS m.next m' v s ∧ m.next ≤ m'.next ∧ ∀ k, k < m.next → m'.blk k = m.blk k) := by
 refine call_x hF rfl ?_
 let m1 : Mem := (m.bump 11).set m.next (some (.row 3 []))
 have em1 : (m.bump 11).set m.next (some (.row 3 [])) = m1 := rfl
 have n1 : m1.next = m.next + 11 := rfl
 have f1 : ∀ k, k ≠ m.next → m1.blk k = m.blk k := fun k h => set_ne h
 have b1 : m1.blk m.next = some (.row 3 []) := by show (Mem.set _ m.next _).blk m.next = _; simp [Mem.set]
 clear_value m1
 have ap1 := ap_row (m := m1) (lo := lo) (h := m.next + 3) (h' := m.next) (o := 0) (l := 0) (sz := 3) (s := nz 3 (s.pools.map vPool)) (y := vPools s.pools) (xs := s.pools.map vPool) (es := []) vw_vPools hlo app_vPools (by simp [big]; omega) b1 (by simp)
 simp only [List.drop_nil, List.take_nil, List.nil_append, Nat.zero_add, List.length_map] at ap1
 let m2 : Mem := (m1.set m.next none).set (m.next + 3) (some (.row 3 (s.pools.map vPool)))
 have em2 : (m1.set m.next none).set (m.next + 3) (some (.row 3 (s.pools.map vPool))) = m2 := rfl
 have n2 : m2.next = m.next + 11 := n1
 have f2 : ∀ k, k < m.next → m2.blk k = m.blk k := fun k h => by
  show ((m1.set m.next none).set (m.next + 3) _).blk k = _
  rw [set_ne (by omega), set_ne (by omega), f1 k (by omega)]
 have b2 : m2.blk (m.next + 3) = some (.row 3 (s.pools.map vPool)) := by show ((m1.set m.next none).set (m.next + 3) _).blk _ = _; simp [Mem.set]
 clear_value m2
 let m3 : Mem := m2.set (m.next + 4) (some (.row 1 []))
 have em3 : m2.set (m.next + 4) (some (.row 1 [])) = m3 := rfl
 have n3 : m3.next = m.next + 11 := n2
 have f3 : ∀ k, k ≠ m.next + 4 → m3.blk k = m2.blk k := fun k h => set_ne h
 have b3 : m3.blk (m.next + 4) = some (.row 1 []) := by show (m2.set _ _).blk _ = _; simp [Mem.set]
 clear_value m3
 have ap2 := ap_row (m := m3) (lo := lo) (h := m.next + 7) (h' := m.next + 4) (o := 0) (l := 0) (sz := 1) (s := nz 1 (s.locks.map V.str)) (y := strs s.locks) (xs := s.locks.map V.str) (es := []) vw_strs (by omega) app_strs (by simp [big]; omega) b3 (by simp)
 simp only [List.drop_nil, List.take_nil, List.nil_append, Nat.zero_add, List.length_map] at ap2
 let m4 : Mem := (m3.set (m.next + 4) none).set (m.next + 7) (some (.row 1 (s.locks.map V.str)))
 have em4 : (m3.set (m.next + 4) none).set (m.next + 7) (some (.row 1 (s.locks.map V.str))) = m4 := rfl
 have n4 : m4.next = m.next + 11 := n3
 have f4 : ∀ k, k ≠ m.next + 4 → k ≠ m.next + 7 → m4.blk k = m3.blk k := fun k h h' => by
  show ((m3.set (m.next + 4) none).set (m.next + 7) _).blk k = _
  rw [set_ne h', set_ne h]
 have b4 : m4.blk (m.next + 7) = some (.row 1 (s.locks.map V.str)) := by show ((m3.set (m.next + 4) none).set (m.next + 7) _).blk _ = _; simp [Mem.set]
 clear_value m4
 simp only [↓sxc, sx, se, ↓reduceIte, Nat.reduceEqDiff, Nat.reduceAdd, Nat.reduceLT, Nat.reduceLeDiff, Nat.reduceSub, Nat.reduceMul, Int.reduceToNat, Int.reduceLT, Int.reduceLE, Int.reduceEq, ml_i0, ↓W_dreg, ↓sk, sk, em1, ap1, em2, em3, ap2, em4]
 have kp : V.key (vPools s.pools) = [] := rfl
 have kl : V.key (strs s.locks) = [] := rfl
 refine ⟨by simp [pairsOk, nth_eq, keysApart, Key.apart, kp, kl, k_row], ?_⟩
 refine w89_1 (b := m4.next) s hs hst (.row 3 (m.next + 3) 0 s.pools.length) (.row 1 (m.next + 7) 0 s.locks.length) rfl rfl _ s.cls 0 .nil m4 _ rfl (by omega) (Nat.le_refl _) ⟨[], .nil, by simp, fun i v c h => by simp at h⟩ (.inl rfl) (fun C m' e q1 q2 q3 => ?_)
 have hC1 : C.one = true ∧ (C = .nil ∨ ∃ h l, C = .row 4 h 0 l ∧ m4.next ≤ h) := by
  obtain ⟨es, r1, _⟩ := q2.ex
  rcases r1 with ⟨rfl, _⟩ | ⟨h, rfl, h1, _⟩
  ·exact ⟨rfl, .inl rfl⟩
  ·exact ⟨rfl, .inr ⟨h, _, rfl, h1⟩⟩
 obtain ⟨hC1, hC2⟩ := hC1
 have hC3 : ∀ k, k < m4.next → hOf C ≠ some k := by
  intro k hk h
  rcases hC2 with rfl | ⟨h', l, rfl, h1⟩
  ·cases h
  ·have : some h' = some k := h
   have := Option.some.inj this
   omega
 simp only [↓sxc, sx, se, ↓reduceIte, Nat.reduceEqDiff, Nat.reduceAdd, Nat.reduceLT, Nat.reduceLeDiff, Nat.reduceSub, Nat.reduceMul, Int.reduceToNat, Int.reduceLT, Int.reduceLE, Int.reduceEq, ml_i0, ↓smc, sm, hC1, PX_ret, PX_nrm]
 refine ⟨⟨m.next + 3, m.next + 7, C, m4.next, rfl, ⟨by omega, by omega, ?_⟩, ⟨by omega, by omega, ?_⟩, by omega, by omega, q2⟩, by omega, fun k hk => ?_⟩
 ·rw [q3 _ (by omega), f4 _ (by omega) (by omega), f3 _ (by omega)]
  exact b2
 ·rw [q3 _ (by omega)]
  exact b4
 ·rw [q3 _ (by omega), f4 _ (by omega) (by omega), f3 _ (by omega)]
  exact f2 k hk
theorem Cp.row {b : Nat} {m : Mem} {C : V} {cs : List Cls} (H : Cp b m C cs) (hn : cs ≠ []) : ∃ hC es, C = .row 4 hC 0 cs.length ∧ b ≤ hC ∧ m.blk hC = some (.row 4 es) ∧ es.length = cs.length ∧ ∀ (i : Nat) (c : Cls), cs[i]? = some c → ∃ hk, es[i]? = some (cpC c hk) ∧ b ≤ hk ∧ hk < m.next ∧ m.blk hk = some (.row 4 (c.steps.map vStp)) ∧ hC ≠ hk := by
 obtain ⟨es, h1, h2, h3⟩ := H.ex
 rcases h1 with ⟨_, h⟩ | ⟨hC, rfl, q1, q2, q3⟩
 ·rw [h] at h2
  exact absurd (List.eq_nil_of_length_eq_zero h2.symm) hn
 ·refine ⟨hC, es, by rw [h2], q1, q3, h2, fun i c hc => ?_⟩
  have hi := (List.getElem?_eq_some_iff.1 hc).1
  have hv : es[i]? = some (es[i]'(by omega)) := List.getElem?_eq_getElem _
  obtain ⟨hk, e1, e2, e3, e4, e5⟩ := h3 i _ c hv hc
  rw [e1] at hv
  exact ⟨hk, hv, e2, e3, e4, fun h => e5 (by rw [h]; rfl)⟩
theorem Cp.len {b : Nat} {m : Mem} {C : V} {cs : List Cls} (H : Cp b m C cs) : retV (.len false) [C] = some (vi cs.length) := by
 obtain ⟨es, h1, h2, _⟩ := H.ex
 rw [h1.len, h2]
theorem Cp.other {b hp : Nat} {m : Mem} {C : V} {cs : List Cls} (H : Cp b m C cs) (hb : hp < b) (B : Option Blk) : Cp b (m.set hp B) C cs := by
 obtain ⟨es, h1, h2, h3⟩ := H.ex
 refine ⟨es, h1.mono (Nat.le_refl _) (fun k l hk => ?_), h2, fun i v c hv hc => ?_⟩
 ·obtain ⟨_, h4, _⟩ := h1.hand (k := k) (by rw [hk]; rfl)
  exact set_ne (by omega)
 ·obtain ⟨hk, e1, e2, e3, e4, e5⟩ := h3 i v c hv hc
  exact ⟨hk, e1, e2, e3, by rw [set_ne (by omega)]; exact e4, e5⟩
theorem Cp.setw {b hC i hk : Nat} {m : Mem} {cs : List Cls} {es : List V} {c c' : Cls} (H : Cp b m (.row 4 hC 0 cs.length) cs) (hE : m.blk hC = some (.row 4 es)) (hc : cs[i]? = some c) (he : es[i]? = some (cpC c hk)) (hs : c'.steps = c.steps) : Cp b (m.set hC (some (.row 4 (es.set i (cpC c' hk))))) (.row 4 hC 0 cs.length) (cs.set i c') := by
 obtain ⟨es', h1, h2, h3⟩ := H.ex
 have hil := (List.getElem?_eq_some_iff.1 hc).1
 rcases h1 with ⟨h, _⟩ | ⟨h', h, q1, q2, q3⟩
 ·cases h
 ·rw [V.row.injEq] at h
  obtain ⟨_, rfl, _, _⟩ := h
  rw [hE] at q3
  cases q3
  refine ⟨es.set i (cpC c' hk), .inr ⟨hC, by simp [h2], q1, q2, by simp [Mem.set]⟩, by simp [h2], fun j v d hv hd => ?_⟩
  by_cases hji : j = i
  ·subst hji
   rw [List.getElem?_set_self (by omega)] at hv hd
   cases hv
   cases hd
   obtain ⟨hk', e1, e2, e3, e4, e5⟩ := h3 j _ c he hc
   have ek : hk = hk' := by
    unfold cpC at e1
    cases e1
    rfl
   subst ek
   refine ⟨hk, rfl, e2, e3, ?_, e5⟩
   rw [set_ne (fun h => e5 (by rw [h]; rfl)), hs]
   exact e4
  ·rw [List.getElem?_set_ne (Ne.symm hji)] at hv hd
   obtain ⟨hk', e1, e2, e3, e4, e5⟩ := h3 j v d hv hd
   exact ⟨hk', e1, e2, e3, by rw [set_ne (fun h => e5 (by rw [h]; rfl))]; exact e4, e5⟩
end Go.Am
namespace Go.Am
open Go
set_option linter.unusedSimpArgs false
set_option linter.unusedVariables false
theorem firstE_of {f : Cls → Int} : ∀ {l : List Cls}, (∀ c ∈ l, f c = 0) → firstE f l = 0
 | [], _ => rfl
 | c :: t, h => by
  simp only [firstE]
  rw [if_neg (by simpa using h c (by simp))]
  exact firstE_of fun c' hc => h c' (by simp [hc])
structure Ext (s s' : Sys) : Prop where
 lp : s'.pools.length = s.pools.length
 ll : s'.locks.length = s.locks.length
 lc : s'.cls.length = s.cls.length
 nm : namesOf s' = namesOf s
 bad : s'.pools.any poolBad = false
 sz : ∀ on, sizeAt s on ≤ sizeAt s' on
 cc : ∀ (i : Nat) (c' : Cls), s'.cls[i]? = some c' → ∃ c, s.cls[i]? = some c ∧ c'.steps = c.steps ∧ c'.srv = c.srv ∧ 0 ≤ c'.wk ∧ c'.wk ≤ 4
theorem Ext.srv {s s' : Sys} (H : Ext s s') (on : Int) : srvAt s' on = srvAt s on := by
 unfold srvAt
 cases h : s'.cls[on.toNat]? with
 | none =>
  have : s.cls[on.toNat]? = none := by
   rw [List.getElem?_eq_none_iff] at h ⊢
   rw [← H.lc]; exact h
  rw [this]
 | some c' =>
  obtain ⟨c, h1, _, h2, _⟩ := H.cc _ _ h
  rw [h1]
  exact h2
theorem Ext.nOf {s s' : Sys} (H : Ext s s') (x : Stp) : nOf s' x = nOf s x := by
 unfold Go.Am.nOf
 rw [H.lp, H.ll, H.lc]
theorem Ext.step {s s' : Sys} (H : Ext s s') {x : Stp} {b0 b1 : Int} (h : stepE s x b0 b1 = 0) : stepE s' x b0 b1 = 0 := by
 obtain ⟨h1, h2⟩ := stepE_zero h
 have hz := H.sz x.on
 have h3 : preE s' x = 0 := by
  unfold preE at h1 ⊢
  rw [H.nOf]
  split at h1
  ·omega
  ·rename_i q1
   rw [if_neg q1]
   split at h1
   ·omega
   ·rename_i q2
    rw [if_neg q2]
    split at h1
    ·omega
    ·rename_i q3
     rw [if_neg]
     rintro ⟨q4, q5⟩
     exact q3 ⟨q4, by omega⟩
 have h4 : badE s' x b0 b1 = false := by
  unfold badE at h2 ⊢
  rw [H.srv]
  split at h2
  ·rename_i q1
   rw [if_pos q1]
   simp only [decide_eq_false_iff_not] at h2 ⊢
   omega
  ·rename_i q1
   rw [if_neg q1]
   exact h2
 unfold stepE
 rw [if_neg (by simpa using h3), h4]
 rfl
theorem Ext.steps {s s' : Sys} (H : Ext s s') : ∀ {t pre : List Stp}, stepsE s pre t = 0 → stepsE s' pre t = 0
 | [], _, _ => rfl
 | x :: t, pre, h => by
  simp only [stepsE] at h ⊢
  split at h
  ·rename_i h1
   exact absurd h h1
  ·rename_i h1
   have h1' : stepE s x (bal x.on 0 pre) (bal x.on 1 pre) = 0 := by omega
   rw [if_neg (by rw [H.step h1']; simp)]
   exact H.steps h
theorem Ext.chk {s s' : Sys} (H : Ext s s') (h0 : chkE s = 0) : chkE s' = 0 := by
 have hv := valid_of h0
 unfold chkE
 have := hv.p6
 have := hv.l4
 have := hv.c6
 rw [H.nm, if_neg (by rw [H.lp, H.ll, H.lc]; omega), if_neg (by simpa using hv.nm), if_neg (by simp [H.bad])]
 refine firstE_of fun c' hc' => ?_
 obtain ⟨i, hi, rfl⟩ := List.getElem_of_mem hc'
 obtain ⟨c, h1, h2, h3, h4, h5⟩ := H.cc i _ (List.getElem?_eq_getElem hi)
 have k := clsOk_of (hv.cls c (List.mem_of_getElem? h1))
 unfold clsE
 have k1 := k.l1
 have k12 := k.l12
 rw [h2, H.lp, H.ll, if_neg (by omega), if_neg (by omega), if_neg (by rw [H.steps k.steps]; simp), if_neg (by simp [k.o0]), if_neg (by simp [k.o1])]
theorem impS_iff {s : Sys} {l : List Stp} : 0 ≤ impS s l 0 ↔ ∃ x ∈ l, impE s x = true := by
 rw [← idxP_impS, idxP_ge, List.any_eq_true]
theorem impC_iff {s : Sys} : ∀ {l : List Cls} {i : Nat}, (impC s l i).2.2 = true ↔ ∃ c ∈ l, ∃ x ∈ c.steps, impE s x = true
 | [], i => by simp [impC]
 | c :: t, i => by
  simp only [impC]
  by_cases h : 0 ≤ impS s c.steps 0
  ·rw [if_pos h]
   have := impS_iff.1 h
   constructor
   ·intro _
    exact ⟨c, by simp, this⟩
   ·intro _; rfl
  ·rw [if_neg h, impC_iff]
   constructor
   ·rintro ⟨c', h1, h2⟩
    exact ⟨c', by simp [h1], h2⟩
   ·rintro ⟨c', h1, h2⟩
    rcases List.mem_cons.1 h1 with rfl | h1
    ·exact absurd (impS_iff.2 h2) h
    ·exact ⟨c', h1, h2⟩
structure Lw (s s' : Sys) : Prop extends Ext s s' where
 sr : ∀ on, sizeAt s on - resAt s on ≤ sizeAt s' on - resAt s' on
 rs : ∀ on, resAt s on ≤ resAt s' on
 d1 : ∀ on, (dem on s'.cls).1 ≤ (dem on s.cls).1
 d2 : ∀ on, (dem on s'.cls).2 ≤ (dem on s.cls).2
 wz : ∀ on, wkAt s' on = 0 → wkAt s on = 0
theorem Lw.waits {s s' : Sys} (H : Lw s s') {x : Stp} (h : waitsE s' x = true) : waitsE s x = true := by
 unfold waitsE at h ⊢
 split at h
 ·rename_i h1
  rw [if_pos h1]
 ·rename_i h1
  rw [if_neg h1]
  split at h
  ·rename_i h2
   rw [if_pos h2]
   have := H.sr x.on
   have := H.rs x.on
   have := H.d1 x.on
   have := H.d2 x.on
   simp only [Bool.and_eq_true, decide_eq_true_eq, Bool.not_eq_true', Bool.and_eq_false_iff, decide_eq_false_iff_not] at h ⊢
   refine ⟨by omega, ?_⟩
   rcases h.2 with h3 | h3
   ·exact .inl h3
   ·exact .inr (by omega)
  ·cases h
theorem Lw.imp {s s' : Sys} (H : Lw s s') {x : Stp} (h : impE s' x = true) : impE s x = true := by
 unfold impE at h ⊢
 split at h
 ·rename_i h1
  rw [if_pos h1]
  have := H.sr x.on
  simp only [Bool.and_eq_true, decide_eq_true_eq] at h ⊢
  exact ⟨h.1, by omega⟩
 ·rename_i h1
  rw [if_neg h1]
  split at h
  ·rename_i h2
   rw [if_pos h2]
   simp only [decide_eq_true_eq] at h ⊢
   exact H.wz _ h
  ·cases h
theorem Lw.hold {s s' : Sys} (H : Lw s s') {i : Nat} {c c' : Cls} (hs : c'.srv = c.srv) (L : List Stp) : hold s' i c' L = hold s i c L := by
 unfold Go.Am.hold
 rw [H.lp, H.ll, hs]
theorem Lw.edges {s s' : Sys} (H : Lw s s') (h0 : chkE s = 0) {e : Edge} (he : e ∈ edgesE s') : ∃ y ∈ edgesE s, y.fr = e.fr ∧ y.to = e.to := by
 obtain ⟨i, k, c', x, h1, h2, h3, h4, h5, _, _⟩ := edge_from (edgesE_sub he)
 obtain ⟨c, g1, g2, g3, _⟩ := H.cc i c' h1
 rw [g2] at h2
 rw [g2, H.hold g3] at h4
 have ht : target s' x = target s x := by unfold target; rw [H.lp, H.ll]
 obtain ⟨y, hy, y1, y2⟩ := edgesE_all h0 (edge_to g1 h2 (H.waits h3) h4)
 exact ⟨y, hy, y1, by rw [y2, h5, ht]⟩
theorem Lw.mak {s s' : Sys} (H : Lw s s') (hm : (makE s).2 = 0) : (makE s').2 = 0 := by
 have h0 : chkE s = 0 := Classical.byContradiction fun hc => by
  have : (makE s).2 = chkE s := by unfold makE; rw [if_pos hc]
  omega
 have h0' := H.chk h0
 have hi : (impA s).2.2 = false ∧ Acyc (edgesE s) := by
  rcases mak_cases h0 with ⟨_, h⟩ | ⟨h, _, _, hv⟩ | ⟨_, h, _⟩
  ·omega
  ·exact ⟨h, ver_acyc h0 hv⟩
  ·omega
 have hi' : (impA s').2.2 = false := by
  refine Bool.eq_false_iff.2 fun hc => ?_
  unfold impA at hc
  rw [if_neg (by simpa using h0'), impC_iff] at hc
  obtain ⟨c', h1, x, h2, h3⟩ := hc
  obtain ⟨i, hi2, rfl⟩ := List.getElem_of_mem h1
  obtain ⟨c, g1, g2, _⟩ := H.cc i _ (List.getElem?_eq_getElem hi2)
  have : (impA s).2.2 = true := by
   unfold impA
   rw [if_neg (by simpa using h0), impC_iff]
   exact ⟨c, List.mem_of_getElem? g1, x, by rw [← g2]; exact h2, H.imp h3⟩
  rw [hi.1] at this
  cases this
 have ha' : Acyc (edgesE s') := by
  obtain ⟨N, hN, _⟩ := res_nat (s := s)
  obtain ⟨f, hf⟩ := acyc_lev (gr_of (sys_chkG h0)) hN hi.2
  refine acyc_of (f := gAt f) fun e he => ?_
  obtain ⟨y, hy, y1, y2⟩ := H.edges h0 he
  have := hf.ge y hy
  rw [y1, y2] at this
  exact this
 rcases mak_cases h0' with ⟨h, _⟩ | ⟨_, h, _⟩ | ⟨_, _, h, _⟩
 ·rw [hi'] at h; cases h
 ·exact h
 ·exfalso
  apply h
  obtain ⟨_, _, y3⟩ := cyc_ec (sys_chkG h0')
  unfold expE
  rw [if_neg (by simpa using h0')]
  rcases y3 with ⟨h, _⟩ | ⟨_, h, _⟩
  ·rw [h]; rfl
  ·have := bestE_none.2 ha'
   omega
def setP (s : Sys) (i : Nat) (p : Pool) : Sys := ⟨s.pools.set i p, s.locks, s.cls⟩
def setW (s : Sys) (i : Nat) (c : Cls) : Sys := ⟨s.pools, s.locks, s.cls.set i c⟩
theorem setP_ext {s : Sys} (h0 : chkE s = 0) {i : Nat} {p p' : Pool} (hp : s.pools[i]? = some p) (hn : p'.name = p.name) (hz : p.size ≤ p'.size) (hb : poolBad p' = false) : Ext s (setP s i p') := by
 have hv := valid_of h0
 have hil := (List.getElem?_eq_some_iff.1 hp).1
 refine ⟨by simp [setP], rfl, rfl, ?_, ?_, fun on => ?_, fun j c' hc => ⟨c', hc, rfl, rfl, ?_⟩⟩
 ·simp only [namesOf, setP, List.map_set, hn]
  congr 2
  refine List.ext_getElem? fun j => ?_
  by_cases hj : j = i
  ·subst hj
   rw [List.getElem?_set_self (by simpa using hil), List.getElem?_map, hp]
   rfl
  ·rw [List.getElem?_set_ne (Ne.symm hj)]
 ·refine List.any_eq_false.2 fun q hq => ?_
  rcases List.mem_or_eq_of_mem_set hq with h | rfl
  ·have := hv.pool q h
   simp [poolBad]
   omega
  ·simpa using hb
 ·unfold sizeAt setP
  by_cases hj : on.toNat = i
  ·rw [hj, hp, List.getElem?_set_self hil]
   exact hz
  ·rw [List.getElem?_set_ne (Ne.symm hj)]
   exact Int.le_refl _
 ·have := hv.okC c' (List.mem_of_getElem? hc)
  exact ⟨this.w0, this.w4⟩
theorem setP_at {s : Sys} {i : Nat} {p p' : Pool} (hp : s.pools[i]? = some p) : sizeAt (setP s i p') i = p'.size ∧ resAt (setP s i p') i = p'.res ∧ ∀ on : Int, on.toNat ≠ i → sizeAt (setP s i p') on = sizeAt s on ∧ resAt (setP s i p') on = resAt s on := by
 have hil := (List.getElem?_eq_some_iff.1 hp).1
 refine ⟨?_, ?_, fun on hj => ⟨?_, ?_⟩⟩
 ·unfold sizeAt setP
  rw [Int.toNat_natCast, List.getElem?_set_self hil]
 ·unfold resAt setP
  rw [Int.toNat_natCast, List.getElem?_set_self hil]
 ·unfold sizeAt setP
  rw [List.getElem?_set_ne (Ne.symm hj)]
 ·unfold resAt setP
  rw [List.getElem?_set_ne (Ne.symm hj)]
theorem setP_lw {s : Sys} (h0 : chkE s = 0) {i : Nat} {p : Pool} (hp : s.pools[i]? = some p) (h8 : p.size < 8) : Lw s (setP s i ⟨p.name, p.size + 1, p.res⟩) := by
 have hv := valid_of h0
 have hq := hv.pool p (List.mem_of_getElem? hp)
 have hat := setP_at (p' := ⟨p.name, p.size + 1, p.res⟩) hp
 have hat0 : ∀ on : Int, on.toNat = i → sizeAt s on = p.size ∧ resAt s on = p.res ∧ sizeAt (setP s i ⟨p.name, p.size + 1, p.res⟩) on = p.size + 1 ∧ resAt (setP s i ⟨p.name, p.size + 1, p.res⟩) on = p.res := fun on h => by
  have hil := (List.getElem?_eq_some_iff.1 hp).1
  refine ⟨?_, ?_, ?_, ?_⟩
  ·unfold sizeAt; rw [h, hp]
  ·unfold resAt; rw [h, hp]
  ·unfold sizeAt setP; rw [h, List.getElem?_set_self hil]
  ·unfold resAt setP; rw [h, List.getElem?_set_self hil]
 refine ⟨setP_ext h0 hp rfl (by show p.size ≤ p.size + 1; omega) (by simp [poolBad]; omega), fun on => ?_, fun on => ?_, fun on => Int.le_refl _, fun on => Int.le_refl _, fun on h => h⟩
 ·by_cases h : on.toNat = i
  ·obtain ⟨a, b, c, d⟩ := hat0 on h
   omega
  ·obtain ⟨a, b⟩ := hat.2.2 on h
   omega
 ·by_cases h : on.toNat = i
  ·obtain ⟨a, b, c, d⟩ := hat0 on h
   omega
  ·obtain ⟨a, b⟩ := hat.2.2 on h
   omega
theorem dem_set {pool : Int} : ∀ {l : List Cls} {i : Nat} {c : Cls}, (∀ c ∈ l, OkC c) → l[i]? = some c → (dem pool (l.set i ⟨c.name, c.wk - 1, c.srv, c.steps⟩)).1 ≤ (dem pool l).1 ∧ (dem pool (l.set i ⟨c.name, c.wk - 1, c.srv, c.steps⟩)).2 ≤ (dem pool l).2
 | [], i, c, _, h => by simp at h
 | a :: l, 0, c, hk, h => by
  simp at h
  subst h
  have h3 := pk_bd (pool := pool) (hk a (by simp))
  simp only [List.set_cons_zero, dem]
  have e1 : (a.wk - 1) * (pk pool a.steps).1 = a.wk * (pk pool a.steps).1 - (pk pool a.steps).1 := by rw [Int.sub_mul, Int.one_mul]
  have e2 : (a.wk - 1) * (pk pool a.steps).2 = a.wk * (pk pool a.steps).2 - (pk pool a.steps).2 := by rw [Int.sub_mul, Int.one_mul]
  omega
 | a :: l, i + 1, c, hk, h => by
  have := dem_set (pool := pool) (l := l) (i := i) (fun c hc => hk c (by simp [hc])) (by simpa using h)
  simp only [List.set_cons_succ, dem]
  omega
theorem setW_lw {s : Sys} (h0 : chkE s = 0) {i : Nat} {c : Cls} (hc : s.cls[i]? = some c) (h1 : 1 < c.wk) : Lw s (setW s i ⟨c.name, c.wk - 1, c.srv, c.steps⟩) := by
 have hv := valid_of h0
 have hil := (List.getElem?_eq_some_iff.1 hc).1
 have hk := hv.okC c (List.mem_of_getElem? hc)
 refine ⟨⟨rfl, rfl, by simp [setW], ?_, ?_, fun on => Int.le_refl _, fun j c' hj => ?_⟩, fun on => Int.le_refl _, fun on => Int.le_refl _, fun on => (dem_set hv.okC hc).1, fun on => (dem_set hv.okC hc).2, fun on h => ?_⟩
 ·simp only [namesOf, setW, List.map_set]
  congr 1
  refine List.ext_getElem? fun j => ?_
  by_cases hj : j = i
  ·subst hj
   rw [List.getElem?_set_self (by simpa using hil), List.getElem?_map, hc]
   rfl
  ·rw [List.getElem?_set_ne (Ne.symm hj)]
 ·refine List.any_eq_false.2 fun q hq => ?_
  have := hv.pool q hq
  simp [poolBad]
  omega
 ·simp only [setW] at hj
  by_cases hji : j = i
  ·subst hji
   rw [List.getElem?_set_self hil] at hj
   cases hj
   exact ⟨c, hc, rfl, rfl, by show 0 ≤ c.wk - 1; omega, by show c.wk - 1 ≤ 4; have := hk.w4; omega⟩
  ·rw [List.getElem?_set_ne (Ne.symm hji)] at hj
   have := hv.okC c' (List.mem_of_getElem? hj)
   exact ⟨c', hj, rfl, rfl, this.w0, this.w4⟩
 ·unfold wkAt setW at h
  unfold wkAt
  by_cases hj : on.toNat = i
  ·rw [hj, List.getElem?_set_self hil] at h
   have : c.wk - 1 = 0 := h
   omega
  ·rw [List.getElem?_set_ne (Ne.symm hj)] at h
   exact h
end Go.Am
namespace Go.Am
open Go
theorem W_cut {F : Nat → Option Fn} {lo : Nat} {a b : AC} {st st' : St} {Q : Ex → St → Prop} (h : ∀ Q : Ex → St → Prop, Q .nrm st' → W F lo a st Q) (hb : W F lo b st' Q) : W F lo (.seq a b) st Q := W_seq.2 (h _ (KS_nrm.2 hb))
theorem W_cutP {F : Nat → Option Fn} {lo : Nat} {a b : AC} {st : St} {Q : Ex → St → Prop} (P : St → Prop) (h : ∀ Q : Ex → St → Prop, (∀ s, P s → Q .nrm s) → W F lo a st Q) (hb : ∀ s, P s → W F lo b s Q) : W F lo (.seq a b) st Q := W_seq.2 (h _ fun s hs => KS_nrm.2 (hb s hs))
end Go.Am
