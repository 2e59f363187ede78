/- A part of the proof: The law ExploreChecks holds: any state of any system has the specified error, and a step of an invalid one returns it; no conditions. -/
import Derived.Test.YtflfnkdhmcfjlaaN11g
namespace Go.Am
open Go
set_option linter.unusedSimpArgs false
set_option linter.unusedVariables false
set_option maxRecDepth 100000
def rowF (n : Nat) (A : Nat → Int) : List Int := (List.range n).map A
theorem rowF_len {n : Nat} {A : Nat → Int} : (rowF n A).length = n := by simp [rowF]
theorem rowF_get {n k : Nat} {A : Nat → Int} (h : k < n) : (rowF n A)[k]? = some (A k) := by simp [rowF, h]
theorem rowF_congr {n : Nat} {A B : Nat → Int} (h : ∀ j, j < n → A j = B j) : rowF n A = rowF n B := by
 refine List.ext_getElem? fun j => ?_
 by_cases hj : j < n
 ·rw [rowF_get hj, rowF_get hj, h j hj]
 ·rw [List.getElem?_eq_none (by rw [rowF_len]; omega), List.getElem?_eq_none (by rw [rowF_len]; omega)]
theorem rowF_set {n k : Nat} {A B : Nat → Int} {v : Int} (h : k < n) (hk : B k = v) (hj : ∀ j, j ≠ k → B j = A j) : (rowF n A).set k v = rowF n B := by
 refine List.ext_getElem? fun j => ?_
 by_cases hjn : j < n
 ·rw [rowF_get hjn]
  by_cases e : j = k
  ·subst e
   rw [List.getElem?_set_self (by rw [rowF_len]; exact hjn), hk]
  ·rw [List.getElem?_set_ne (Ne.symm e), rowF_get hjn, hj j e]
 ·rw [List.getElem?_eq_none (by simp [rowF_len]; omega), List.getElem?_eq_none (by rw [rowF_len]; omega)]
structure FR (lo : Nat) (m : Mem) (h n : Nat) (A : Nat → Int) : Prop where
 lh : lo ≤ h
 hm : h < m.next
 b : m.blk h = some (.row 1 ((rowF n A).map vi))
theorem FR.mono {lo h n : Nat} {m m' : Mem} {A : Nat → Int} (H : FR lo m h n A) (hn : m.next ≤ m'.next) (hb : m'.blk h = m.blk h) : FR lo m' h n A := ⟨H.lh, Nat.lt_of_lt_of_le H.hm hn, by rw [hb]; exact H.b⟩
theorem FR.congr {lo h n : Nat} {m : Mem} {A B : Nat → Int} (H : FR lo m h n A) (hj : ∀ j, j < n → A j = B j) : FR lo m h n B := ⟨H.lh, H.hm, by rw [← rowF_congr hj]; exact H.b⟩
theorem FR.upd {lo h n k : Nat} {m m1 : Mem} {A B : Nat → Int} {v : Int} (H : FR lo m h n A) (hn : m.next ≤ m1.next) (hk : k < n) (hv : B k = v) (hj : ∀ j, j ≠ k → B j = A j) : FR lo (m1.set h (some (.row 1 (((rowF n A).map vi).set k (vi v))))) h n B :=
 ⟨H.lh, Nat.lt_of_lt_of_le H.hm hn, by rw [← rowF_set hk hv hj, List.map_set]; simp [Mem.set]⟩
structure T3 (lo : Nat) (m : Mem) (hu hl he np nl nc : Nat) (A B E : Nat → Int) : Prop where
 u : FR lo m hu np A
 l : FR lo m hl nl B
 e : FR lo m he nc E
 d : hu ≠ hl ∧ hu ≠ he ∧ hl ≠ he
theorem T3.mono {lo hu hl he np nl nc : Nat} {m m1 : Mem} {A B E : Nat → Int} (H : T3 lo m hu hl he np nl nc A B E) (hn : m.next ≤ m1.next) (hb : m1.blk = m.blk) : T3 lo m1 hu hl he np nl nc A B E :=
 ⟨H.u.mono hn (by rw [hb]), H.l.mono hn (by rw [hb]), H.e.mono hn (by rw [hb]), H.d⟩
theorem T3.congr {lo hu hl he np nl nc : Nat} {m : Mem} {A B E A' B' E' : Nat → Int} (H : T3 lo m hu hl he np nl nc A B E) (hA : ∀ j, A' j = A j) (hB : ∀ j, B' j = B j) (hE : ∀ j, E' j = E j) : T3 lo m hu hl he np nl nc A' B' E' := by
 have e1 : A' = A := funext hA
 have e2 : B' = B := funext hB
 have e3 : E' = E := funext hE
 rw [e1, e2, e3]
 exact H
theorem T3.setU {lo hu hl he np nl nc k : Nat} {m m1 : Mem} {A B E A' : Nat → Int} {v : Int} (H : T3 lo m hu hl he np nl nc A B E) (hn : m.next ≤ m1.next) (hb : m1.blk = m.blk) (hk : k < np) (hv : A' k = v) (hA : ∀ j, j ≠ k → A' j = A j) : T3 lo (m1.set hu (some (.row 1 (((rowF np A).map vi).set k (vi v))))) hu hl he np nl nc A' B E :=
 ⟨H.u.upd hn hk hv hA, H.l.mono hn (by rw [set_ne (Ne.symm H.d.1), hb]), H.e.mono hn (by rw [set_ne (Ne.symm H.d.2.1), hb]), H.d⟩
theorem T3.setL {lo hu hl he np nl nc k : Nat} {m m1 : Mem} {A B E B' : Nat → Int} {v : Int} (H : T3 lo m hu hl he np nl nc A B E) (hn : m.next ≤ m1.next) (hb : m1.blk = m.blk) (hk : k < nl) (hv : B' k = v) (hB : ∀ j, j ≠ k → B' j = B j) : T3 lo (m1.set hl (some (.row 1 (((rowF nl B).map vi).set k (vi v))))) hu hl he np nl nc A B' E :=
 ⟨H.u.mono hn (by rw [set_ne H.d.1, hb]), H.l.upd hn hk hv hB, H.e.mono hn (by rw [set_ne (Ne.symm H.d.2.2), hb]), H.d⟩
theorem T3.setE {lo hu hl he np nl nc k : Nat} {m m1 : Mem} {A B E E' : Nat → Int} {v : Int} (H : T3 lo m hu hl he np nl nc A B E) (hn : m.next ≤ m1.next) (hb : m1.blk = m.blk) (hk : k < nc) (hv : E' k = v) (hE : ∀ j, j ≠ k → E' j = E j) : T3 lo (m1.set he (some (.row 1 (((rowF nc E).map vi).set k (vi v))))) hu hl he np nl nc A B E' :=
 ⟨H.u.mono hn (by rw [set_ne H.d.2.1, hb]), H.l.mono hn (by rw [set_ne H.d.2.2, hb]), H.e.upd hn hk hv hE, H.d⟩
def frU (s : Sys) (kind j : Int) (f : Frm) : Int := match s.cls[f.cls.toNat]? with
 | some c => bal j kind (c.steps.take f.at_.toNat)
 | none => 0
def frE (s : Sys) (j : Int) (f : Frm) : Int := if f.cls = j ∧ srvAt s j = true then 1 else 0
def sumI {α : Type} (g : α → Int) : List α → Int
 | [] => 0
 | x :: t => g x + sumI g t
theorem sumI_append {α : Type} {g : α → Int} : ∀ {a b : List α}, sumI g (a ++ b) = sumI g a + sumI g b
 | [], b => by simp [sumI]
 | x :: a, b => by simp only [List.cons_append, sumI, sumI_append]; omega
def FrOk (s : Sys) (f : Frm) : Prop := 0 ≤ f.cls ∧ 0 ≤ f.at_ ∧ ∃ c, s.cls[f.cls.toNat]? = some c ∧ f.at_ ≤ c.steps.length
theorem frU_bd {s : Sys} (hv : Valid s) {kind j : Int} {f : Frm} : -12000 ≤ frU s kind j f ∧ frU s kind j f ≤ 12000 := by
 unfold frU
 split
 ·rename_i c hc
  have hk := hv.okC c (List.mem_of_getElem? hc)
  have h1 := bal_bd (on := j) (kind := kind) (l := c.steps.take f.at_.toNat) (fun x hx => hk.cnt x (List.mem_of_mem_take hx))
  have h2 : (c.steps.take f.at_.toNat).length ≤ 12 := by have := hk.l12; simp; omega
  omega
 ·omega
theorem sumI_bd {α : Type} {g : α → Int} {b : Int} (hb : 0 ≤ b) : ∀ {l : List α}, (∀ x ∈ l, -b ≤ g x ∧ g x ≤ b) → -(b * l.length) ≤ sumI g l ∧ sumI g l ≤ b * l.length
 | [], _ => by simp [sumI]
 | x :: l, h => by
  have h1 := sumI_bd hb (l := l) fun y hy => h y (by simp [hy])
  have h2 := h x (by simp)
  simp only [sumI, List.length_cons]
  push_cast
  rw [Int.mul_add, Int.mul_one]
  omega
theorem frE_bd {s : Sys} {j : Int} {f : Frm} : 0 ≤ frE s j f ∧ frE s j f ≤ 1 := by
 unfold frE
 split <;> omega
theorem w124_1 {F : Nat → Option Fn} {lo : Nat} (s : Sys) (hv : Valid s) (hu hl he : Nat) (c : Cls) (hc : c ∈ s.cls) (L : List Stp) (hL : L = c.steps.take L.length) (A B E : Nat → Int) (hA : ∀ j, -1300000000 ≤ A j ∧ A j ≤ 1300000000) (hB : ∀ j, -1300000000 ≤ B j ∧ B j ≤ 1300000000) (u26 u27 u28 u32 u33 u34 u4 : V) :
  ∀ (t : List Stp) (j : Nat) (m : Mem) (Q : Ex → St → Prop), L.drop j = t → lo ≤ m.next → T3 lo m hu hl he s.pools.length s.locks.length s.cls.length (fun x => A x + bal x 0 (L.take j)) (fun x => B x + bal x 1 (L.take j)) E →
   (∀ m' e, m.next ≤ m'.next → T3 lo m' hu hl he s.pools.length s.locks.length s.cls.length (fun x => A x + bal x 0 L) (fun x => B x + bal x 1 L) E → Q (.exit 4) ⟨(26, u26) :: (27, u27) :: (28, u28) :: (32, u32) :: (33, u33) :: (34, u34) :: e, [(2, vSys s), (4, u4), (5, .agg [.row 1 hu 0 s.pools.length, .row 1 hl 0 s.locks.length, .row 1 he 0 s.cls.length])], [], m'⟩) →
   W F lo L124_1 ⟨[(26, u26), (27, u27), (28, u28), (32, u32), (33, u33), (34, u34), (62, vStps L), (63, vi L.length), (64, vi j)], [(2, vSys s), (4, u4), (5, .agg [.row 1 hu 0 s.pools.length, .row 1 hl 0 s.locks.length, .row 1 he 0 s.cls.length])], [], m⟩ Q := by
 have hk := hv.okC c hc
 have hLl : L.length ≤ 12 := by
  have := hk.l12
  rw [hL]; simp; omega
 have hcnt : ∀ x ∈ L, -1000 ≤ x.cnt ∧ x.cnt ≤ 1000 := fun x hx => by
  rw [hL] at hx
  exact hk.cnt x (List.mem_of_mem_take hx)
 intro t
 induction t with
 | nil =>
  intro j m Q hd hm H hQ
  have hlt := drop_nil hd
  rw [W_L (c := L124_1) rfl]
  have : ¬ ((j : Nat) : Int) < (L.length : Int) := by omega
  simp only [↓sxc, sx, se, ↓reduceIte, Nat.reduceEqDiff, Nat.reduceAdd, Nat.reduceLT, Nat.reduceLeDiff, Nat.reduceSub, Nat.reduceMul, Int.reduceToNat, Int.reduceLT, Int.reduceLE, Int.reduceEq, ml_i0, ↓smc, sm, this]
  rw [List.take_of_length_le hlt] at H
  exact hQ m _ (Nat.le_refl _) H
 | cons x t ih =>
  intro j m Q hd hm H hQ
  obtain ⟨hg, hd', hlt⟩ := drop_cons hd
  have hxL := List.mem_of_getElem? hg
  have hpre : preE s x = 0 := hv.pre hc (by rw [hL] at hxL; exact List.mem_of_mem_take hxL)
  obtain ⟨o1, o2, k1, k5⟩ := preE_on hpre
  obtain ⟨k, hko⟩ : ∃ k : Nat, x.on = k := ⟨x.on.toNat, by omega⟩
  have hcx := hcnt x hxL
  have b0 := bal_bd (on := (k : Int)) (kind := 0) (l := L.take j) (fun y hy => hcnt y (List.mem_of_mem_take hy))
  have b1 := bal_bd (on := (k : Int)) (kind := 1) (l := L.take j) (fun y hy => hcnt y (List.mem_of_mem_take hy))
  have hlj : (L.take j).length ≤ 12 := by simp; omega
  have hAk := hA k
  have hBk := hB k
  have c0 : ((j : Nat) : Int) < (L.length : Int) := by omega
  have wr : wrapF .i64 ((j : Int) + 1) = ((j + 1 : Nat) : Int) := by rw [wr_i64 (by omega) (by omega)]; rfl
  have z0 : (0 : Int) ≤ k := by omega
  have zn : ((k : Nat) : Int).toNat = k := rfl
  have bs : ∀ y kind, bal y kind (L.take (j + 1)) = bal y kind (L.take j) + delta y kind x := fun y kind => by rw [take_succ_drop hd, bal_one]
  have Bu := H.u.b
  have Bl := H.l.b
  have Lu := H.u.lh
  have Ll := H.l.lh
  obtain ⟨d1, d2, d3⟩ := H.d
  rw [W_L (c := L124_1) rfl]
  by_cases e1 : x.kind = 1
  ·have hn : nOf s x = s.pools.length := by simp [nOf, e1]
   have kn : k < s.pools.length := by omega
   have ki : (k : Int) < (s.pools.length : Int) := by omega
   have g := rowF_get (n := s.pools.length) (A := fun x => A x + bal x 0 (L.take j)) kn
   have w1 : wrapF .i64 (A k + bal k 0 (L.take j) + x.cnt) = A k + bal k 0 (L.take j) + x.cnt := wr_i64 (by omega) (by omega)
   simp only [↓sxc, sx, se, ↓reduceIte, Nat.reduceEqDiff, Nat.reduceAdd, Nat.reduceLT, Nat.reduceLeDiff, Nat.reduceSub, Nat.reduceMul, Int.reduceToNat, Int.reduceLT, Int.reduceLE, Int.reduceEq, ml_i0, ↓smc, sm, c0, hg, e1, Bu, Lu, hko, z0, zn, ki, g, w1, wr]
   have H' := (H.setU (m1 := m.bump 11) (A' := fun x => A x + bal x 0 (L.take (j + 1))) (v := A k + bal k 0 (L.take j) + x.cnt) (Nat.le_add_right _ _) rfl kn (by show A k + bal k 0 _ = _; rw [bs]; simp only [delta, hko, e1]; simp; omega) (fun y hy => by
    have : ¬ x.on = (y : Int) := by omega
    show A y + bal y 0 (L.take (j + 1)) = A y + bal y 0 (L.take j)
    rw [bs]; simp [delta, this])).congr (B' := fun x => B x + bal x 1 (L.take (j + 1))) (fun _ => rfl) (fun y => by show B y + bal y 1 _ = B y + bal y 1 _; rw [bs]; simp [delta, e1]) (fun _ => rfl)
   exact ih (j + 1) _ Q hd' (Nat.le_trans hm (Nat.le_add_right _ _)) H' (fun m' e q1 q2 => hQ m' e (Nat.le_trans (Nat.le_add_right _ _) q1) q2)
  ·by_cases e2 : x.kind = 2
   ·have hn : nOf s x = s.pools.length := by simp [nOf, e2]
    have kn : k < s.pools.length := by omega
    have ki : (k : Int) < (s.pools.length : Int) := by omega
    have g := rowF_get (n := s.pools.length) (A := fun x => A x + bal x 0 (L.take j)) kn
    have w1 : wrapF .i64 (A k + bal k 0 (L.take j) - x.cnt) = A k + bal k 0 (L.take j) - x.cnt := wr_i64 (by omega) (by omega)
    simp only [↓sxc, sx, se, ↓reduceIte, Nat.reduceEqDiff, Nat.reduceAdd, Nat.reduceLT, Nat.reduceLeDiff, Nat.reduceSub, Nat.reduceMul, Int.reduceToNat, Int.reduceLT, Int.reduceLE, Int.reduceEq, ml_i0, ↓smc, sm, c0, hg, e1, e2, Bu, Lu, hko, z0, zn, ki, g, w1, wr]
    have H' := (H.setU (m1 := m.bump 11) (A' := fun x => A x + bal x 0 (L.take (j + 1))) (v := A k + bal k 0 (L.take j) - x.cnt) (Nat.le_add_right _ _) rfl kn (by show A k + bal k 0 _ = _; rw [bs]; simp only [delta, hko, e2]; simp; omega) (fun y hy => by
     have : ¬ x.on = (y : Int) := by omega
     show A y + bal y 0 (L.take (j + 1)) = A y + bal y 0 (L.take j)
     rw [bs]; simp [delta, this])).congr (B' := fun x => B x + bal x 1 (L.take (j + 1))) (fun _ => rfl) (fun y => by show B y + bal y 1 _ = B y + bal y 1 _; rw [bs]; simp [delta, e2]) (fun _ => rfl)
    exact ih (j + 1) _ Q hd' (Nat.le_trans hm (Nat.le_add_right _ _)) H' (fun m' e q1 q2 => hQ m' e (Nat.le_trans (Nat.le_add_right _ _) q1) q2)
   ·by_cases e3 : x.kind = 3
    ·have hn : nOf s x = s.locks.length := by simp [nOf, e3]
     have kn : k < s.locks.length := by omega
     have ki : (k : Int) < (s.locks.length : Int) := by omega
     have g := rowF_get (n := s.locks.length) (A := fun x => B x + bal x 1 (L.take j)) kn
     have w1 : wrapF .i64 (B k + bal k 1 (L.take j) + 1) = B k + bal k 1 (L.take j) + 1 := wr_i64 (by omega) (by omega)
     simp only [↓sxc, sx, se, ↓reduceIte, Nat.reduceEqDiff, Nat.reduceAdd, Nat.reduceLT, Nat.reduceLeDiff, Nat.reduceSub, Nat.reduceMul, Int.reduceToNat, Int.reduceLT, Int.reduceLE, Int.reduceEq, ml_i0, ↓smc, sm, c0, hg, e1, e2, e3, Bl, Ll, hko, z0, zn, ki, g, w1, wr]
     have H' := (H.setL (m1 := m) (B' := fun x => B x + bal x 1 (L.take (j + 1))) (v := B k + bal k 1 (L.take j) + 1) (Nat.le_refl _) rfl kn (by show B k + bal k 1 _ = _; rw [bs]; simp only [delta, hko, e3]; simp; omega) (fun y hy => by
      have : ¬ x.on = (y : Int) := by omega
      show B y + bal y 1 (L.take (j + 1)) = B y + bal y 1 (L.take j)
      rw [bs]; simp [delta, this])).congr (A' := fun x => A x + bal x 0 (L.take (j + 1))) (fun y => by show A y + bal y 0 _ = A y + bal y 0 _; rw [bs]; simp [delta, e3]) (fun _ => rfl) (fun _ => rfl)
     exact ih (j + 1) _ Q hd' hm H' hQ
    ·by_cases e4 : x.kind = 4
     ·have hn : nOf s x = s.locks.length := by simp [nOf, e4]
      have kn : k < s.locks.length := by omega
      have ki : (k : Int) < (s.locks.length : Int) := by omega
      have g := rowF_get (n := s.locks.length) (A := fun x => B x + bal x 1 (L.take j)) kn
      have w1 : wrapF .i64 (B k + bal k 1 (L.take j) - 1) = B k + bal k 1 (L.take j) - 1 := wr_i64 (by omega) (by omega)
      simp only [↓sxc, sx, se, ↓reduceIte, Nat.reduceEqDiff, Nat.reduceAdd, Nat.reduceLT, Nat.reduceLeDiff, Nat.reduceSub, Nat.reduceMul, Int.reduceToNat, Int.reduceLT, Int.reduceLE, Int.reduceEq, ml_i0, ↓smc, sm, c0, hg, e1, e2, e3, e4, Bl, Ll, hko, z0, zn, ki, g, w1, wr]
      have H' := (H.setL (m1 := m) (B' := fun x => B x + bal x 1 (L.take (j + 1))) (v := B k + bal k 1 (L.take j) - 1) (Nat.le_refl _) rfl kn (by show B k + bal k 1 _ = _; rw [bs]; simp only [delta, hko, e4]; simp; omega) (fun y hy => by
       have : ¬ x.on = (y : Int) := by omega
       show B y + bal y 1 (L.take (j + 1)) = B y + bal y 1 (L.take j)
       rw [bs]; simp [delta, this])).congr (A' := fun x => A x + bal x 0 (L.take (j + 1))) (fun y => by show A y + bal y 0 _ = A y + bal y 0 _; rw [bs]; simp [delta, e4]) (fun _ => rfl) (fun _ => rfl)
      exact ih (j + 1) _ Q hd' hm H' hQ
     ·have H' := H.congr (A' := fun x => A x + bal x 0 (L.take (j + 1))) (B' := fun x => B x + bal x 1 (L.take (j + 1))) (fun y => by show A y + bal y 0 _ = A y + bal y 0 _; rw [bs]; simp [delta, e1, e2, e3, e4]) (fun y => by show B y + bal y 1 _ = B y + bal y 1 _; rw [bs]; simp [delta, e1, e2, e3, e4]) (fun _ => rfl)
      simp only [↓sxc, sx, se, ↓reduceIte, Nat.reduceEqDiff, Nat.reduceAdd, Nat.reduceLT, Nat.reduceLeDiff, Nat.reduceSub, Nat.reduceMul, Int.reduceToNat, Int.reduceLT, Int.reduceLE, Int.reduceEq, ml_i0, ↓smc, sm, c0, hg, e1, e2, e3, e4, wr]
      exact ih (j + 1) _ Q hd' hm H' hQ
def accU (s : Sys) (kind : Int) (ps : List Frm) (j : Nat) : Int := sumI (frU s kind j) ps
def accE (s : Sys) (ps : List Frm) (j : Nat) : Int := sumI (frE s j) ps
theorem accU_bd {s : Sys} (hv : Valid s) {kind : Int} {ps : List Frm} (h : ps.length ≤ 100000) (j : Nat) : -1300000000 ≤ accU s kind ps j ∧ accU s kind ps j ≤ 1300000000 := by
 have := sumI_bd (g := frU s kind j) (b := 12000) (by omega) (l := ps) fun x _ => frU_bd hv
 unfold accU
 omega
theorem accE_bd {s : Sys} {ps : List Frm} (h : ps.length ≤ 100000) (j : Nat) : -100000 ≤ accE s ps j ∧ accE s ps j ≤ 100000 := by
 have := sumI_bd (g := frE s j) (b := 1) (by omega) (l := ps) fun x _ => by have := frE_bd (s := s) (j := j) (f := x); omega
 unfold accE
 omega
theorem w124_2 {F : Nat → Option Fn} {lo : Nat} (s : Sys) (hv : Valid s) (hu hl he : Nat) (stk : List Frm) (hok : ∀ f ∈ stk, FrOk s f) (pre : List Frm) (hpl : pre.length + stk.length ≤ 100000) (u26 u27 u28 u4 : V) :
  ∀ (t : List Frm) (k : Nat) (m : Mem) (Q : Ex → St → Prop), stk.drop k = t → lo ≤ m.next → T3 lo m hu hl he s.pools.length s.locks.length s.cls.length (accU s 0 (pre ++ stk.take k)) (accU s 1 (pre ++ stk.take k)) (accE s (pre ++ stk.take k)) →
   (∀ m' e, m.next ≤ m'.next → T3 lo m' hu hl he s.pools.length s.locks.length s.cls.length (accU s 0 (pre ++ stk)) (accU s 1 (pre ++ stk)) (accE s (pre ++ stk)) → Q (.exit 2) ⟨(26, u26) :: (27, u27) :: (28, u28) :: e, [(2, vSys s), (4, u4), (5, .agg [.row 1 hu 0 s.pools.length, .row 1 hl 0 s.locks.length, .row 1 he 0 s.cls.length])], [], m'⟩) →
   W F lo L124_2 ⟨[(26, u26), (27, u27), (28, u28), (32, vStk stk), (33, vi stk.length), (34, vi k)], [(2, vSys s), (4, u4), (5, .agg [.row 1 hu 0 s.pools.length, .row 1 hl 0 s.locks.length, .row 1 he 0 s.cls.length])], [], m⟩ Q := by
 intro t
 induction t with
 | nil =>
  intro k m Q hd hm H hQ
  have hlt := drop_nil hd
  rw [W_L (c := L124_2) rfl]
  have : ¬ ((k : Nat) : Int) < (stk.length : Int) := by omega
  simp only [↓sxc, sx, se, ↓reduceIte, Nat.reduceEqDiff, Nat.reduceAdd, Nat.reduceLT, Nat.reduceLeDiff, Nat.reduceSub, Nat.reduceMul, Int.reduceToNat, Int.reduceLT, Int.reduceLE, Int.reduceEq, ml_i0, ↓smc, sm, ss, this]
  rw [List.take_of_length_le hlt] at H
  exact hQ m _ (Nat.le_refl _) H
 | cons f t ih =>
  intro k m Q hd hm H hQ
  obtain ⟨hg, hd', hlt⟩ := drop_cons hd
  obtain ⟨f0, a0, c, hc, hal⟩ := hok f (List.mem_of_getElem? hg)
  have hcm := List.mem_of_getElem? hc
  have hcl := (List.getElem?_eq_some_iff.1 hc).1
  obtain ⟨q, hq⟩ : ∃ q : Nat, f.cls = q := ⟨f.cls.toNat, by omega⟩
  obtain ⟨a, ha⟩ : ∃ a : Nat, f.at_ = a := ⟨f.at_.toNat, by omega⟩
  have qn : ((q : Nat) : Int).toNat = q := rfl
  have an : ((a : Nat) : Int).toNat = a := rfl
  rw [hq, qn] at hc hcl
  have c0 : ((k : Nat) : Int) < (stk.length : Int) := by omega
  have wr : wrapF .i64 ((k : Int) + 1) = ((k + 1 : Nat) : Int) := by rw [wr_i64 (by omega) (by omega)]; rfl
  have k0 : (0 : Int) ≤ k := by omega
  have kn : ((k : Nat) : Int).toNat = k := rfl
  have q0 : (0 : Int) ≤ q := by omega
  have az : (0 : Int) ≤ a := by omega
  have hal' : a ≤ c.steps.length := by omega
  have qi : (q : Int) < (s.cls.length : Int) := by omega
  have hkl : (stk.take k).length = k := by simp; omega
  have hps : (pre ++ stk.take k).length ≤ 100000 := by simp; omega
  have hLt : (c.steps.take a) = c.steps.take (c.steps.take a).length := by
   rw [List.length_take, Nat.min_eq_left hal']
  have eL : ((c.steps.drop 0).take (a - 0)) = c.steps.take a := by simp
  have acU : ∀ kind j, accU s kind (pre ++ stk.take (k + 1)) j = accU s kind (pre ++ stk.take k) j + bal j kind (c.steps.take a) := fun kind j => by
   unfold accU
   rw [take_succ_drop hd, ← List.append_assoc, sumI_append]
   simp only [sumI, frU, hq, qn, hc, ha, an]
   omega
  have bE := accE_bd (s := s) (ps := pre ++ stk.take k) hps q
  rw [W_L (c := L124_2) rfl]
  cases hs : c.srv with
  | true =>
   have acE : ∀ j, accE s (pre ++ stk.take (k + 1)) j = accE s (pre ++ stk.take k) j + if j = q then 1 else 0 := fun j => by
    unfold accE
    rw [take_succ_drop hd, ← List.append_assoc, sumI_append]
    have hsr : srvAt s (q : Int) = true := by unfold srvAt; rw [qn, hc]; exact hs
    simp only [sumI, frE, hq]
    by_cases hj : j = q
    ·subst hj
     rw [if_pos ⟨rfl, hsr⟩, if_pos rfl]
     omega
    ·rw [if_neg (fun h => hj (by omega)), if_neg hj]
     omega
   have Be := H.e.b
   have Le := H.e.lh
   have g := rowF_get (n := s.cls.length) (A := accE s (pre ++ stk.take k)) hcl
   have w1 : wrapF .i64 (accE s (pre ++ stk.take k) q + 1) = accE s (pre ++ stk.take k) q + 1 := wr_i64 (by omega) (by omega)
   have H' := H.setE (m1 := m) (E' := accE s (pre ++ stk.take (k + 1))) (v := accE s (pre ++ stk.take k) q + 1) (Nat.le_refl _) rfl hcl (by rw [acE, if_pos rfl]) (fun j hj => by rw [acE, if_neg hj]; omega)
   have H2 := H'.mono (m1 := (m.set he (some (.row 1 (((rowF s.cls.length (accE s (pre ++ stk.take k))).map vi).set q (vi (accE s (pre ++ stk.take k) q + 1)))))).bump 12) (Nat.le_add_right _ _) rfl
   simp only [↓sxc, sx, se, ↓reduceIte, Nat.reduceEqDiff, Nat.reduceAdd, Nat.reduceLT, Nat.reduceLeDiff, Nat.reduceSub, Nat.reduceMul, Int.reduceToNat, Int.reduceLT, Int.reduceLE, Int.reduceEq, ml_i0, ↓smc, sm, ss, c0, k0, kn, hg, hq, ha, q0, qn, hc, hs, Be, Le, qi, g, w1, az, an, hal', eL, List.drop_zero, Nat.sub_zero]
   refine w124_1 s hv hu hl he c hcm (c.steps.take a) hLt (accU s 0 (pre ++ stk.take k)) (accU s 1 (pre ++ stk.take k)) _ (accU_bd hv hps) (accU_bd hv hps) _ _ _ _ _ _ _ (c.steps.take a) 0 _ _ rfl ?_ (H2.congr (fun j => by simp [bal]) (fun j => by simp [bal]) (fun _ => rfl)) (fun m' e q1 q2 => ?_)
   ·show lo ≤ m.next + _; omega
   ·simp only [↓sxc, sx, se, ↓reduceIte, Nat.reduceEqDiff, Nat.reduceAdd, Nat.reduceLT, Nat.reduceLeDiff, Nat.reduceSub, Nat.reduceMul, Int.reduceToNat, Int.reduceLT, Int.reduceLE, Int.reduceEq, ml_i0, ↓smc, sm, ss, wr]
    refine ih (k + 1) m' Q hd' ?_ (q2.congr (fun j => acU 0 j) (fun j => acU 1 j) (fun _ => rfl)) (fun m2 e z1 z2 => hQ m2 e ?_ z2)
    ·have q1' : m.next + 12 ≤ m'.next := q1
     omega
    ·have q1' : m.next + 12 ≤ m'.next := q1
     omega
  | false =>
   have acE : ∀ j, accE s (pre ++ stk.take (k + 1)) j = accE s (pre ++ stk.take k) j := fun j => by
    unfold accE
    rw [take_succ_drop hd, ← List.append_assoc, sumI_append]
    have hsr : srvAt s (q : Int) = false := by unfold srvAt; rw [qn, hc]; exact hs
    simp only [sumI, frE, hq]
    rw [if_neg]
    ·omega
    ·rintro ⟨h1, h2⟩
     rw [← h1, hsr] at h2
     cases h2
   have H2 := H.mono (m1 := m.bump 12) (Nat.le_add_right _ _) rfl
   simp only [↓sxc, sx, se, ↓reduceIte, Nat.reduceEqDiff, Nat.reduceAdd, Nat.reduceLT, Nat.reduceLeDiff, Nat.reduceSub, Nat.reduceMul, Int.reduceToNat, Int.reduceLT, Int.reduceLE, Int.reduceEq, ml_i0, ↓smc, sm, ss, c0, k0, kn, hg, hq, ha, q0, qn, hc, hs, qi, az, an, hal', eL, List.drop_zero, Nat.sub_zero]
   refine w124_1 s hv hu hl he c hcm (c.steps.take a) hLt (accU s 0 (pre ++ stk.take k)) (accU s 1 (pre ++ stk.take k)) _ (accU_bd hv hps) (accU_bd hv hps) _ _ _ _ _ _ _ (c.steps.take a) 0 _ _ rfl ?_ (H2.congr (fun j => by simp [bal]) (fun j => by simp [bal]) (fun _ => rfl)) (fun m' e q1 q2 => ?_)
   ·show lo ≤ m.next + _; omega
   ·simp only [↓sxc, sx, se, ↓reduceIte, Nat.reduceEqDiff, Nat.reduceAdd, Nat.reduceLT, Nat.reduceLeDiff, Nat.reduceSub, Nat.reduceMul, Int.reduceToNat, Int.reduceLT, Int.reduceLE, Int.reduceEq, ml_i0, ↓smc, sm, ss, wr]
    refine ih (k + 1) m' Q hd' ?_ (q2.congr (fun j => acU 0 j) (fun j => acU 1 j) (fun j => acE j)) (fun m2 e z1 z2 => hQ m2 e ?_ z2)
    ·have q1' : m.next + 12 ≤ m'.next := q1
     omega
    ·have q1' : m.next + 12 ≤ m'.next := q1
     omega
structure StOk (s : Sys) (st : List (List Frm)) : Prop where
 ok : ∀ l ∈ st, ∀ f ∈ l, FrOk s f
 ln : st.flatten.length ≤ 100000
 l1 : st.length ≤ 100000
theorem w124_3 {F : Nat → Option Fn} {lo : Nat} (s : Sys) (hv : Valid s) (hu hl he : Nat) (st : List (List Frm)) (hok : StOk s st) (u4 : V) :
  ∀ (t : List (List Frm)) (i : Nat) (m : Mem) (Q : Ex → St → Prop), st.drop i = t → lo ≤ m.next → T3 lo m hu hl he s.pools.length s.locks.length s.cls.length (accU s 0 (st.take i).flatten) (accU s 1 (st.take i).flatten) (accE s (st.take i).flatten) →
   (∀ m' e, m.next ≤ m'.next → T3 lo m' hu hl he s.pools.length s.locks.length s.cls.length (accU s 0 st.flatten) (accU s 1 st.flatten) (accE s st.flatten) → Q (.exit 0) ⟨e, [(2, vSys s), (4, u4), (5, .agg [.row 1 hu 0 s.pools.length, .row 1 hl 0 s.locks.length, .row 1 he 0 s.cls.length])], [], m'⟩) →
   W F lo L124_3 ⟨[(26, vStks st), (27, vi st.length), (28, vi i)], [(2, vSys s), (4, u4), (5, .agg [.row 1 hu 0 s.pools.length, .row 1 hl 0 s.locks.length, .row 1 he 0 s.cls.length])], [], m⟩ Q := by
 have hl1 := hok.l1
 have hln := hok.ln
 intro t
 induction t with
 | nil =>
  intro i m Q hd hm H hQ
  have hlt := drop_nil hd
  rw [W_L (c := L124_3) rfl]
  have : ¬ ((i : Nat) : Int) < (st.length : Int) := by omega
  simp only [↓sxc, sx, se, ↓reduceIte, Nat.reduceEqDiff, Nat.reduceAdd, Nat.reduceLT, Nat.reduceLeDiff, Nat.reduceSub, Nat.reduceMul, Int.reduceToNat, Int.reduceLT, Int.reduceLE, Int.reduceEq, ml_i0, ↓smc, sm, ss, this]
  rw [List.take_of_length_le hlt] at H
  exact hQ m _ (Nat.le_refl _) H
 | cons l t ih =>
  intro i m Q hd hm H hQ
  obtain ⟨hg, hd', hlt⟩ := drop_cons hd
  rw [W_L (c := L124_3) rfl]
  have c0 : ((i : Nat) : Int) < (st.length : Int) := by omega
  have wr : wrapF .i64 ((i : Int) + 1) = ((i + 1 : Nat) : Int) := by rw [wr_i64 (by omega) (by omega)]; rfl
  have i0 : (0 : Int) ≤ i := by omega
  have in_ : ((i : Nat) : Int).toNat = i := rfl
  have ef : (st.take (i + 1)).flatten = (st.take i).flatten ++ l := by rw [take_succ_drop hd, List.flatten_append]; simp
  have hlen : (st.take i).flatten.length + l.length ≤ 100000 := by
   have h1 : ((st.take (i + 1)).flatten).length ≤ st.flatten.length := by
    have : st.flatten = (st.take (i + 1)).flatten ++ (st.drop (i + 1)).flatten := by rw [← List.flatten_append, List.take_append_drop]
    rw [this, List.length_append]
    omega
   rw [ef, List.length_append] at h1
   omega
  simp only [↓sxc, sx, se, ↓reduceIte, Nat.reduceEqDiff, Nat.reduceAdd, Nat.reduceLT, Nat.reduceLeDiff, Nat.reduceSub, Nat.reduceMul, Int.reduceToNat, Int.reduceLT, Int.reduceLE, Int.reduceEq, ml_i0, ↓smc, sm, ss, c0, i0, in_, hg]
  refine w124_2 s hv hu hl he l (hok.ok l (List.mem_of_getElem? hg)) (st.take i).flatten hlen _ _ _ _ l 0 m _ rfl hm (by simpa using H) (fun m' e q1 q2 => ?_)
  simp only [↓sxc, sx, se, ↓reduceIte, Nat.reduceEqDiff, Nat.reduceAdd, Nat.reduceLT, Nat.reduceLeDiff, Nat.reduceSub, Nat.reduceMul, Int.reduceToNat, Int.reduceLT, Int.reduceLE, Int.reduceEq, ml_i0, ↓smc, sm, ss, wr]
  rw [← ef] at q2
  exact ih (i + 1) m' Q hd' (by omega) q2 (fun m2 e z1 z2 => hQ m2 e (by omega) z2)
noncomputable def vUse (s : Sys) (st : List (List Frm)) : V := .agg [ints (rowF s.pools.length (accU s 0 st.flatten)), ints (rowF s.locks.length (accU s 1 st.flatten)), ints (rowF s.cls.length (accE s st.flatten))]
theorem fz_fr {lo h n k : Nat} {m : Mem} {A : Nat → Int} (H : FR lo m h n A) : freeze lo m (k + 2) (.row 1 h 0 n) = some (ints (rowF n A)) := by
 have := fz_introw (n := k) H.b H.lh
 rw [rowF_len] at this
 exact this
theorem sp124 {F : Nat → Option Fn} (hE : HasE F) {lo : Nat} {m : Mem} (s : Sys) (hv : Valid s) (st : List (List Frm)) (hok : StOk s st) : callw F 124 [vSys s, vSt st] lo m = some (vUse s st, m) := by
 have p6 := hv.p6
 have l4 := hv.l4
 have c6 := hv.c6
 have b1 : 0 ≤ (s.pools.length : Int) ∧ (s.pools.length : Int) < big := by simp [big]; omega
 have b2 : 0 ≤ (s.locks.length : Int) ∧ (s.locks.length : Int) < big := by simp [big]; omega
 have b3 : 0 ≤ (s.cls.length : Int) ∧ (s.cls.length : Int) < big := by simp [big]; omega
 refine call_p hE.h124 rfl ?_
 simp only [↓sxc, sx, se, ↓reduceIte, Nat.reduceEqDiff, Nat.reduceAdd, Nat.reduceLT, Nat.reduceLeDiff, Nat.reduceSub, Nat.reduceMul, Int.reduceToNat, Int.reduceLT, Int.reduceLE, Int.reduceEq, ml_i0, ↓W_dreg, ↓sk, sk, ↓smc, sm, ss, b1, b2, b3, Int.toNat_natCast]
 refine ⟨by simp [pairsOk, nth_eq, keysApart, Key.apart], ?_⟩
 have rz : ∀ n, List.replicate n (vi 0) = (rowF n fun _ => 0).map vi := fun n => by
  unfold rowF
  refine List.ext_getElem? fun j => ?_
  by_cases hj : j < n
  ·simp [hj]
  ·rw [List.getElem?_eq_none (by simp; omega), List.getElem?_eq_none (by simp; omega)]
 refine w124_3 s hv (m.next + 3) (m.next + 7) (m.next + 11) st hok _ st 0 _ _ rfl ?_ ⟨⟨by omega, ?_, ?_⟩, ⟨by omega, ?_, ?_⟩, ⟨by omega, ?_, ?_⟩, by omega, by omega, by omega⟩ (fun m' e q1 q2 => ?_)
 ·show m.next ≤ m.next + 15; omega
 ·show m.next + 3 < m.next + 15; omega
 ·rw [set_ne (by omega), set_ne (by omega)]
  simp only [Mem.set, if_true, rz]
  rfl
 ·show m.next + 7 < m.next + 15; omega
 ·rw [set_ne (by omega)]
  simp only [Mem.set, if_true, rz]
  rfl
 ·show m.next + 11 < m.next + 15; omega
 ·simp only [Mem.set, if_true, rz]
  rfl
 ·have z1 := fz_fr (k := 5) q2.u
  have z2 := fz_fr (k := 5) q2.l
  have z3 := fz_fr (k := 5) q2.e
  simp only [↓sxc, sx, se, ↓reduceIte, Nat.reduceEqDiff, Nat.reduceAdd, Nat.reduceLT, Nat.reduceLeDiff, Nat.reduceSub, Nat.reduceMul, Int.reduceToNat, Int.reduceLT, Int.reduceLE, Int.reduceEq, ml_i0, ↓smc, sm]
  simp only [mapO, z1, z2, z3]
  rfl
end Go.Am
namespace Go.Am
open Go
set_option linter.unusedSimpArgs false
set_option linter.unusedVariables false
set_option maxRecDepth 100000
def frB (s : Sys) (f : Frm) : Bool := decide (0 ≤ f.cls) && decide (0 ≤ f.at_) && match s.cls[f.cls.toNat]? with
 | some c => decide (f.at_ < c.steps.length)
 | none => false
def callB (s : Sys) (p f : Frm) : Bool := match stepAt s p.cls p.at_ with
 | some x => decide (x.kind = 5) && decide (x.on = f.cls)
 | none => false
def chainB (s : Sys) : Option Frm → List Frm → Bool
 | _, [] => true
 | o, f :: t => frB s f && (match o with | none => true | some p => callB s p f) && chainB s (some f) t
def formB (s : Sys) (l : List Frm) (c : Int) : Bool := match l with
 | [] => false
 | f :: _ => decide (f.cls = c) && chainB s none l
theorem frB_get {s : Sys} {f : Frm} (h : frB s f = true) : ∃ (q a : Nat) (c : Cls) (x : Stp), f.cls = q ∧ f.at_ = a ∧ s.cls[q]? = some c ∧ c.steps[a]? = some x ∧ a < c.steps.length ∧ q < s.cls.length := by
 unfold frB at h
 simp only [Bool.and_eq_true, decide_eq_true_eq] at h
 obtain ⟨⟨h1, h2⟩, h3⟩ := h
 cases hc : s.cls[f.cls.toNat]? with
 | none => rw [hc] at h3; cases h3
 | some c =>
  rw [hc] at h3
  simp only [decide_eq_true_eq] at h3
  exact ⟨f.cls.toNat, f.at_.toNat, c, c.steps[f.at_.toNat]'(by omega), by omega, by omega, hc, List.getElem?_eq_getElem _, by omega, (List.getElem?_eq_some_iff.1 hc).1⟩
theorem frB_no {s : Sys} {f : Frm} (h : frB s f = false) : f.cls < 0 ∨ (s.cls.length : Int) ≤ f.cls ∨ f.at_ < 0 ∨ ∃ c, s.cls[f.cls.toNat]? = some c ∧ (c.steps.length : Int) ≤ f.at_ := by
 by_cases h1 : f.cls < 0
 ·exact .inl h1
 ·by_cases h2 : (s.cls.length : Int) ≤ f.cls
  ·exact .inr (.inl h2)
  ·by_cases h3 : f.at_ < 0
   ·exact .inr (.inr (.inl h3))
   ·have hc : s.cls[f.cls.toNat]? = some (s.cls[f.cls.toNat]'(by omega)) := List.getElem?_eq_getElem _
    refine .inr (.inr (.inr ⟨_, hc, ?_⟩))
    unfold frB at h
    rw [hc] at h
    simp only [Bool.and_eq_false_iff, decide_eq_false_iff_not] at h
    omega
theorem w130_1 {F : Nat → Option Fn} {lo : Nat} (s : Sys) (hl : s.cls.length < 100) (hst : ∀ c ∈ s.cls, c.steps.length < 100) (l : List Frm) (hll : l.length < 100000) :
  ∀ (t : List Frm) (i n : Nat) (o : Option Frm) (b : Mem) (Q : Ex → St → Prop), l.drop i = t → ((i = 0 ∧ o = none) ∨ ∃ p, 0 < i ∧ l[i - 1]? = some p ∧ o = some p ∧ frB s p = true) →
   (chainB s o t = false → ∀ n, Q .ret ⟨[(6, .bool false)], [], [], b.bump n⟩) → (chainB s o t = true → ∀ n e x, Q (.exit 0) ⟨e, x, [], b.bump n⟩) →
   W F lo L130_1 ⟨[(1, vStk l), (21, vStk l), (22, vi l.length), (23, vi i)], [(3, vSys s)], [], b.bump n⟩ Q := by
 intro t
 induction t with
 | nil =>
  intro i n o b Q hd ho q1 q2
  have hlt := drop_nil hd
  rw [W_L (c := L130_1) rfl]
  have : ¬ ((i : Nat) : Int) < (l.length : Int) := by omega
  simp only [↓sxc, sx, se, ↓reduceIte, Nat.reduceEqDiff, Nat.reduceAdd, Nat.reduceLT, Nat.reduceLeDiff, Nat.reduceSub, Nat.reduceMul, Int.reduceToNat, Int.reduceLT, Int.reduceLE, Int.reduceEq, ml_i0, ↓smc, sm, ss, this]
  exact q2 rfl _ _ _
 | cons f t ih =>
  intro i n o b Q hd ho q1 q2
  obtain ⟨hg, hd', hlt⟩ := drop_cons hd
  rw [W_L (c := L130_1) rfl]
  have c0 : ((i : Nat) : Int) < (l.length : Int) := by omega
  have wr : wrapF .i64 ((i : Int) + 1) = ((i + 1 : Nat) : Int) := by rw [wr_i64 (by omega) (by omega)]; rfl
  have i0 : (0 : Int) ≤ i := by omega
  have in_ : ((i : Nat) : Int).toNat = i := rfl
  cases hf : frB s f with
  | false =>
   have q1' := q1 (by simp [chainB, hf])
   rcases frB_no hf with h1 | h1 | h1 | ⟨c, h0, h1⟩
   ·simp only [↓sxc, sx, se, ↓reduceIte, Nat.reduceEqDiff, Nat.reduceAdd, Nat.reduceLT, Nat.reduceLeDiff, Nat.reduceSub, Nat.reduceMul, Int.reduceToNat, Int.reduceLT, Int.reduceLE, Int.reduceEq, ml_i0, ↓smc, sm, ss, c0, i0, in_, hg, h1]
    exact q1' _
   ·by_cases h2 : f.cls < 0
    ·simp only [↓sxc, sx, se, ↓reduceIte, Nat.reduceEqDiff, Nat.reduceAdd, Nat.reduceLT, Nat.reduceLeDiff, Nat.reduceSub, Nat.reduceMul, Int.reduceToNat, Int.reduceLT, Int.reduceLE, Int.reduceEq, ml_i0, ↓smc, sm, ss, c0, i0, in_, hg, h2]
     exact q1' _
    ·simp only [↓sxc, sx, se, ↓reduceIte, Nat.reduceEqDiff, Nat.reduceAdd, Nat.reduceLT, Nat.reduceLeDiff, Nat.reduceSub, Nat.reduceMul, Int.reduceToNat, Int.reduceLT, Int.reduceLE, Int.reduceEq, ml_i0, ↓smc, sm, ss, c0, i0, in_, hg, h1, h2]
     exact q1' _
   ·by_cases h2 : f.cls < 0
    ·simp only [↓sxc, sx, se, ↓reduceIte, Nat.reduceEqDiff, Nat.reduceAdd, Nat.reduceLT, Nat.reduceLeDiff, Nat.reduceSub, Nat.reduceMul, Int.reduceToNat, Int.reduceLT, Int.reduceLE, Int.reduceEq, ml_i0, ↓smc, sm, ss, c0, i0, in_, hg, h2]
     exact q1' _
    ·by_cases h3 : (s.cls.length : Int) ≤ f.cls
     ·simp only [↓sxc, sx, se, ↓reduceIte, Nat.reduceEqDiff, Nat.reduceAdd, Nat.reduceLT, Nat.reduceLeDiff, Nat.reduceSub, Nat.reduceMul, Int.reduceToNat, Int.reduceLT, Int.reduceLE, Int.reduceEq, ml_i0, ↓smc, sm, ss, c0, i0, in_, hg, h2, h3]
      exact q1' _
     ·simp only [↓sxc, sx, se, ↓reduceIte, Nat.reduceEqDiff, Nat.reduceAdd, Nat.reduceLT, Nat.reduceLeDiff, Nat.reduceSub, Nat.reduceMul, Int.reduceToNat, Int.reduceLT, Int.reduceLE, Int.reduceEq, ml_i0, ↓smc, sm, ss, c0, i0, in_, hg, h1, h2, h3]
      exact q1' _
   ·by_cases h2 : f.cls < 0
    ·simp only [↓sxc, sx, se, ↓reduceIte, Nat.reduceEqDiff, Nat.reduceAdd, Nat.reduceLT, Nat.reduceLeDiff, Nat.reduceSub, Nat.reduceMul, Int.reduceToNat, Int.reduceLT, Int.reduceLE, Int.reduceEq, ml_i0, ↓smc, sm, ss, c0, i0, in_, hg, h2]
     exact q1' _
    ·by_cases h3 : (s.cls.length : Int) ≤ f.cls
     ·simp only [↓sxc, sx, se, ↓reduceIte, Nat.reduceEqDiff, Nat.reduceAdd, Nat.reduceLT, Nat.reduceLeDiff, Nat.reduceSub, Nat.reduceMul, Int.reduceToNat, Int.reduceLT, Int.reduceLE, Int.reduceEq, ml_i0, ↓smc, sm, ss, c0, i0, in_, hg, h2, h3]
      exact q1' _
     ·by_cases h4 : f.at_ < 0
      ·simp only [↓sxc, sx, se, ↓reduceIte, Nat.reduceEqDiff, Nat.reduceAdd, Nat.reduceLT, Nat.reduceLeDiff, Nat.reduceSub, Nat.reduceMul, Int.reduceToNat, Int.reduceLT, Int.reduceLE, Int.reduceEq, ml_i0, ↓smc, sm, ss, c0, i0, in_, hg, h2, h3, h4]
       exact q1' _
      ·have h5 : 0 ≤ f.cls := by omega
       simp only [↓sxc, sx, se, ↓reduceIte, Nat.reduceEqDiff, Nat.reduceAdd, Nat.reduceLT, Nat.reduceLeDiff, Nat.reduceSub, Nat.reduceMul, Int.reduceToNat, Int.reduceLT, Int.reduceLE, Int.reduceEq, ml_i0, ↓smc, sm, ss, c0, i0, in_, hg, h2, h3, h4, h5, h0, h1]
       exact q1' _
  | true =>
   obtain ⟨q, a, c, x, e1, e2, e3, e4, e5, e6⟩ := frB_get hf
   have qn : ((q : Nat) : Int).toNat = q := rfl
   have an : ((a : Nat) : Int).toNat = a := rfl
   have q0 : (0 : Int) ≤ q := by omega
   have a0 : (0 : Int) ≤ a := by omega
   have h1 : ¬ (q : Int) < 0 := by omega
   have h2 : ¬ (s.cls.length : Int) ≤ (q : Int) := by omega
   have h3 : ¬ (a : Int) < 0 := by omega
   have h4 : ¬ (c.steps.length : Int) ≤ (a : Int) := by omega
   rcases ho with ⟨rfl, rfl⟩ | ⟨p, hi, hp, rfl, hfp⟩
   ·have ech : chainB s none (f :: t) = chainB s (some f) t := by simp [chainB, hf]
    rw [ech] at q1 q2
    have c00 : (0 : Int) < (l.length : Int) := by omega
    have wr0 : wrapF .i64 (0 + 1) = ((1 : Nat) : Int) := rfl
    have z00 : (0 : Int) ≤ 0 := by omega
    simp only [↓sxc, sx, se, ↓reduceIte, Nat.reduceEqDiff, Nat.reduceAdd, Nat.reduceLT, Nat.reduceLeDiff, Nat.reduceSub, Nat.reduceMul, Int.reduceToNat, Int.reduceLT, Int.reduceLE, Int.reduceEq, ml_i0, ↓smc, sm, ss, c00, z00, hg, e1, e2, h1, h2, h3, q0, a0, qn, an, e3, h4, wr0]
    exact ih 1 _ (some f) b Q hd' (.inr ⟨f, by omega, hg, rfl, hf⟩) q1 q2
   ·obtain ⟨q', a', c', x', g1, g2, g3, g4, g5, g6⟩ := frB_get hfp
    have qn' : ((q' : Nat) : Int).toNat = q' := rfl
    have an' : ((a' : Nat) : Int).toNat = a' := rfl
    have q0' : (0 : Int) ≤ q' := by omega
    have a0' : (0 : Int) ≤ a' := by omega
    have iz : ¬ (i : Int) = 0 := by omega
    have w1 : wrapF .i64 ((i : Int) - 1) = ((i - 1 : Nat) : Int) := by rw [wr_i64 (by omega) (by omega)]; omega
    have im0 : (0 : Int) ≤ ((i - 1 : Nat) : Int) := by omega
    have imn : ((i - 1 : Nat) : Int).toNat = i - 1 := rfl
    have hcb : callB s p f = (decide (x'.kind = 5) && decide (x'.on = f.cls)) := by
     unfold callB stepAt
     rw [g1, g2, qn', g3]
     simp only [Option.bind_some, an', g4]
    have kk1 : vkeys (vStps c'.steps) = [] := rfl
    have kk2 : vkeys (vStp x') = [] := rfl
    have ech : chainB s (some p) (f :: t) = (callB s p f && chainB s (some f) t) := by simp [chainB, hf]
    rw [ech, hcb, e1] at q1 q2
    simp only [↓sxc, sx, se, ↓reduceIte, Nat.reduceEqDiff, Nat.reduceAdd, Nat.reduceLT, Nat.reduceLeDiff, Nat.reduceSub, Nat.reduceMul, Int.reduceToNat, Int.reduceLT, Int.reduceLE, Int.reduceEq, ml_i0, ↓smc, sm, ss, c0, i0, in_, hg, e1, e2, h1, h2, h3, q0, a0, qn, an, e3, h4, iz]
    by_cases k5 : x'.kind = 5
    ·by_cases ko : x'.on = (q : Int)
     ·simp only [k5, ko, decide_true, Bool.true_and] at q1 q2
      simp only [↓sxc, sx, se, ↓reduceIte, Nat.reduceEqDiff, Nat.reduceAdd, Nat.reduceLT, Nat.reduceLeDiff, Nat.reduceSub, Nat.reduceMul, Int.reduceToNat, Int.reduceLT, Int.reduceLE, Int.reduceEq, ml_i0, ↓W_dreg, ↓sk, sk, ↓smc, sm, ss, w1, im0, imn, hp, g1, g2, q0', a0', qn', an', g3, g4, k5, ko, wr]
      refine ⟨by simp [pairsOk, nth_eq, keysApart, Key.apart, kk1, kk2], ?_⟩
      exact ih (i + 1) _ (some f) b Q hd' (.inr ⟨f, by omega, by simpa using hg, rfl, hf⟩) q1 q2
     ·have q1' := q1 (by simp [ko])
      simp only [↓sxc, sx, se, ↓reduceIte, Nat.reduceEqDiff, Nat.reduceAdd, Nat.reduceLT, Nat.reduceLeDiff, Nat.reduceSub, Nat.reduceMul, Int.reduceToNat, Int.reduceLT, Int.reduceLE, Int.reduceEq, ml_i0, ↓W_dreg, ↓sk, sk, ↓smc, sm, ss, w1, im0, imn, hp, g1, g2, q0', a0', qn', an', g3, g4, k5, ko, wr]
      exact ⟨by simp [pairsOk, nth_eq, keysApart, Key.apart, kk1, kk2], q1' _⟩
    ·have q1' := q1 (by simp [k5])
     simp only [↓sxc, sx, se, ↓reduceIte, Nat.reduceEqDiff, Nat.reduceAdd, Nat.reduceLT, Nat.reduceLeDiff, Nat.reduceSub, Nat.reduceMul, Int.reduceToNat, Int.reduceLT, Int.reduceLE, Int.reduceEq, ml_i0, ↓W_dreg, ↓sk, sk, ↓smc, sm, ss, w1, im0, imn, hp, g1, g2, q0', a0', qn', an', g3, g4, k5, wr]
     exact ⟨by simp [pairsOk, nth_eq, keysApart, Key.apart, kk1, kk2], q1' _⟩
theorem sp130 {F : Nat → Option Fn} (hE : HasE F) {lo : Nat} {m : Mem} (s : Sys) (hl : s.cls.length < 100) (hst : ∀ c ∈ s.cls, c.steps.length < 100) (l : List Frm) (hll : l.length < 100000) (c : Int) : callw F 130 [vSys s, vStk l, vi c] lo m = some (.bool (formB s l c), m) := by
 refine call_p hE.h130 rfl ?_
 cases l with
 | nil =>
  have : (([] : List Frm).length : Int) = 0 := rfl
  simp only [↓sxc, sx, se, ↓reduceIte, Nat.reduceEqDiff, Nat.reduceAdd, Nat.reduceLT, Nat.reduceLeDiff, Nat.reduceSub, Nat.reduceMul, Int.reduceToNat, Int.reduceLT, Int.reduceLE, Int.reduceEq, ml_i0, ↓smc, sm, ss, this, List.length_nil]
  rfl
 | cons f t =>
  obtain ⟨l', hl'⟩ : ∃ l', l' = f :: t := ⟨_, rfl⟩
  have n0 : ¬ (l'.length : Int) = 0 := by rw [hl']; simp; omega
  have g0 : l'[0]? = some f := by rw [hl']; rfl
  have ef : formB s l' c = (decide (f.cls = c) && chainB s none l') := by rw [hl']; rfl
  rw [← hl'] at hll ⊢
  clear hl'
  rw [ef]
  by_cases hc : f.cls = c
  ·simp only [hc, decide_true, Bool.true_and]
   simp only [↓sxc, sx, se, ↓reduceIte, Nat.reduceEqDiff, Nat.reduceAdd, Nat.reduceLT, Nat.reduceLeDiff, Nat.reduceSub, Nat.reduceMul, Int.reduceToNat, Int.reduceLT, Int.reduceLE, Int.reduceEq, ml_i0, ↓smc, sm, ss, n0, g0, hc]
   refine w130_1 s hl hst l' hll l' 0 0 none m _ rfl (.inl ⟨rfl, rfl⟩) (fun h n => ?_) (fun h n e x => ?_)
   ·simp only [↓sxc, sx, se, ↓reduceIte, Nat.reduceEqDiff, Nat.reduceAdd, Nat.reduceLT, Nat.reduceLeDiff, Nat.reduceSub, Nat.reduceMul, Int.reduceToNat, Int.reduceLT, Int.reduceLE, Int.reduceEq, ml_i0, ↓smc, sm, h]
   ·simp only [↓sxc, sx, se, ↓reduceIte, Nat.reduceEqDiff, Nat.reduceAdd, Nat.reduceLT, Nat.reduceLeDiff, Nat.reduceSub, Nat.reduceMul, Int.reduceToNat, Int.reduceLT, Int.reduceLE, Int.reduceEq, ml_i0, ↓smc, sm, h]
  ·simp only [hc, decide_false, Bool.false_and]
   simp only [↓sxc, sx, se, ↓reduceIte, Nat.reduceEqDiff, Nat.reduceAdd, Nat.reduceLT, Nat.reduceLeDiff, Nat.reduceSub, Nat.reduceMul, Int.reduceToNat, Int.reduceLT, Int.reduceLE, Int.reduceEq, ml_i0, ↓smc, sm, ss, n0, g0, hc]
end Go.Am
namespace Go.Am
open Go
set_option linter.unusedSimpArgs false
set_option linter.unusedVariables false
set_option maxRecDepth 100000
def formsB (s : Sys) : List Int → List (List Frm) → Bool
 | c :: cs, l :: ls => formB s l c && formsB s cs ls
 | _, _ => true
def wkOf (s : Sys) (on : Int) : Int := match s.cls[on.toNat]? with
 | some c => c.wk
 | none => 0
def overU (s : Sys) (st : List (List Frm)) : Bool := (List.range s.pools.length).any fun j => decide (sizeAt s j < accU s 0 st.flatten j)
def overE (s : Sys) (st : List (List Frm)) : Bool := (List.range s.cls.length).any fun j => srvAt s j && decide (wkOf s j < accE s st.flatten j)
def overL (s : Sys) (st : List (List Frm)) : Bool := (List.range s.locks.length).any fun j => decide (1 < accU s 1 st.flatten j)
def chkX (s : Sys) (st : List (List Frm)) : Int :=
 if chkE s ≠ 0 then chkE s else if (wksE s).length ≠ st.length then 3 else if formsB s (wksE s) st = false then 3
 else if overU s st = true then 11 else if overE s st = true then 11 else if overL s st = true then 11 else 0
structure Sml (st : List (List Frm)) : Prop where
 ln : st.flatten.length < 100000
 l1 : st.length < 100000
theorem flat_le {α : Type} : ∀ {st : List (List α)} {l : List α}, l ∈ st → l.length ≤ st.flatten.length
 | [], _, h => by simp at h
 | a :: st, l, h => by
  rw [List.flatten_cons, List.length_append]
  rcases List.mem_cons.1 h with rfl | h
  ·omega
  ·have := flat_le h
   omega
theorem Sml.stk {st : List (List Frm)} (h : Sml st) {l : List Frm} (hl : l ∈ st) : l.length < 100000 := Nat.lt_of_le_of_lt (flat_le hl) h.ln
theorem chain_ok {s : Sys} : ∀ {l : List Frm} {o : Option Frm}, chainB s o l = true → ∀ f ∈ l, frB s f = true
 | [], _, _, f, hf => by simp at hf
 | g :: t, o, h, f, hf => by
  simp only [chainB, Bool.and_eq_true] at h
  rcases List.mem_cons.1 hf with rfl | hf
  ·exact h.1.1
  ·exact chain_ok h.2 f hf
theorem form_ok {s : Sys} {l : List Frm} {c : Int} (h : formB s l c = true) : ∀ f ∈ l, frB s f = true := by
 cases l with
 | nil => cases h
 | cons a t =>
  simp only [formB, Bool.and_eq_true] at h
  exact chain_ok h.2
theorem forms_ok {s : Sys} : ∀ {cs : List Int} {ls : List (List Frm)}, cs.length = ls.length → formsB s cs ls = true → ∀ l ∈ ls, ∀ f ∈ l, frB s f = true
 | [], [], _, _, l, hl => by simp at hl
 | [], a :: b, h, _, _, _ => by simp at h
 | c :: cs, [], h, _, _, _ => by simp at h
 | c :: cs, a :: ls, hn, h, l, hl => by
  simp only [formsB, Bool.and_eq_true] at h
  rcases List.mem_cons.1 hl with rfl | hl
  ·exact form_ok h.1
  ·exact forms_ok (by simpa using hn) h.2 l hl
theorem frB_ok {s : Sys} {f : Frm} (h : frB s f = true) : FrOk s f := by
 obtain ⟨q, a, c, x, e1, e2, e3, e4, e5, e6⟩ := frB_get h
 exact ⟨by omega, by omega, c, by rw [e1]; exact e3, by omega⟩
theorem stok_of {s : Sys} {st : List (List Frm)} (hs : Sml st) (h1 : (wksE s).length = st.length) (h2 : formsB s (wksE s) st = true) : StOk s st := ⟨fun l hl f hf => frB_ok (forms_ok h1 h2 l hl f hf), Nat.le_of_lt hs.ln, Nat.le_of_lt hs.l1⟩
theorem sp131 {F : Nat → Option Fn} (hE : HasE F) {lo : Nat} {m : Mem} (x : Int) : callw F 131 [vi x] lo m = some (.bool (decide (1 < x)), m) := by
 refine call_p hE.h131 rfl ?_
 simp only [↓sxc, sx, se, ↓reduceIte, Nat.reduceEqDiff, Nat.reduceAdd, Nat.reduceLT, Nat.reduceLeDiff, Nat.reduceSub, Nat.reduceMul, Int.reduceToNat, Int.reduceLT, Int.reduceLE, Int.reduceEq, ml_i0, ↓smc, sm]
theorem sp59 {F : Nat → Option Fn} (hA : HasA F) (hE : HasE F) {lo : Nat} {m : Mem} (s : Sys) (st : List (List Frm)) (hs : Sml st) : callw F 59 [vSys s, vSt st] lo m = some (vi (chkX s st), m) := by
 have c49 : ∀ {lo m}, callw F 49 [vSys s] lo m = some (vi (chkE s), m) := fun {lo m} => sp49 hA s
 refine call_p hE.h59 rfl ?_
 by_cases h0 : chkE s = 0
 ·have hv := valid_of h0
  have p6 := hv.p6
  have l4 := hv.l4
  have c6 := hv.c6
  have hcl : ∀ c ∈ s.cls, c.steps.length < 100 := fun c hc => by have := (hv.okC c hc).l12; omega
  have c129 : ∀ {lo m}, callw F 129 [vSys s] lo m = some (ints (wksE s), m) := fun {lo m} => sp129 hE s (by omega) (fun c hc => by have := (hv.okC c hc).w4; omega)
  by_cases h1 : (wksE s).length = st.length
  ·have h1' : ((wksE s).length : Int) = (st.length : Int) := by omega
   have loop1 : ∀ (cs : List Int) (ls : List (List Frm)) (i n : Nat) (Q : Ex → St → Prop), (wksE s).drop i = cs → st.drop i = ls → (formsB s cs ls = false → ∀ n, Q .ret ⟨[(4, vi 3)], [], [], m.bump n⟩) → (formsB s cs ls = true → ∀ n e, Q (.exit 0) ⟨e, [(2, vSys s), (3, vSt st)], [], m.bump n⟩) →
     W F m.next L59_1 ⟨[(27, ints (wksE s)), (28, vi st.length), (29, vi i)], [(2, vSys s), (3, vSt st)], [], m.bump n⟩ Q := by
    intro cs
    induction cs with
    | nil =>
     intro ls i n Q hd hd2 q1 q2
     have hlt := drop_nil hd
     rw [W_L (c := L59_1) rfl]
     have : ¬ ((i : Nat) : Int) < (st.length : Int) := by omega
     simp only [↓sxc, sx, se, ↓reduceIte, Nat.reduceEqDiff, Nat.reduceAdd, Nat.reduceLT, Nat.reduceLeDiff, Nat.reduceSub, Nat.reduceMul, Int.reduceToNat, Int.reduceLT, Int.reduceLE, Int.reduceEq, ml_i0, ↓smc, sm, ss, this]
     exact q2 (by cases ls <;> rfl) _ _
    | cons c cs ih =>
     intro ls i n Q hd hd2 q1 q2
     obtain ⟨hg, hd', hlt⟩ := drop_cons hd
     cases ls with
     | nil => have := drop_nil hd2; omega
     | cons l ls =>
      obtain ⟨hg2, hd2', hlt2⟩ := drop_cons hd2
      have hsl := hs.stk (List.mem_of_getElem? hg2)
      have hl1 := hs.l1
      rw [W_L (c := L59_1) rfl]
      have c0 : ((i : Nat) : Int) < (st.length : Int) := by omega
      have wr : wrapF .i64 ((i : Int) + 1) = ((i + 1 : Nat) : Int) := by rw [wr_i64 (by omega) (by omega)]; rfl
      have i0 : (0 : Int) ≤ i := by omega
      have in_ : ((i : Nat) : Int).toNat = i := rfl
      have c130 : ∀ {lo m}, callw F 130 [vSys s, vStk l, vi c] lo m = some (.bool (formB s l c), m) := fun {lo m} => sp130 hE s (by omega) hcl l hsl c
      cases hf : formB s l c with
      | false =>
       rw [hf] at c130
       simp only [↓sxc, sx, se, ↓reduceIte, Nat.reduceEqDiff, Nat.reduceAdd, Nat.reduceLT, Nat.reduceLeDiff, Nat.reduceSub, Nat.reduceMul, Int.reduceToNat, Int.reduceLT, Int.reduceLE, Int.reduceEq, ml_i0, ↓smc, sm, ss, c0, hg, i0, in_, hg2, c130]
       exact q1 (by simp [formsB, hf]) _
      | true =>
       rw [hf] at c130
       have e : formsB s (c :: cs) (l :: ls) = formsB s cs ls := by simp [formsB, hf]
       rw [e] at q1 q2
       simp only [↓sxc, sx, se, ↓reduceIte, Nat.reduceEqDiff, Nat.reduceAdd, Nat.reduceLT, Nat.reduceLeDiff, Nat.reduceSub, Nat.reduceMul, Int.reduceToNat, Int.reduceLT, Int.reduceLE, Int.reduceEq, ml_i0, ↓smc, sm, ss, c0, hg, i0, in_, hg2, c130, wr]
       exact ih ls (i + 1) _ Q hd' hd2' q1 q2
   simp only [↓sxc, sx, se, ↓reduceIte, Nat.reduceEqDiff, Nat.reduceAdd, Nat.reduceLT, Nat.reduceLeDiff, Nat.reduceSub, Nat.reduceMul, Int.reduceToNat, Int.reduceLT, Int.reduceLE, Int.reduceEq, ml_i0, ↓smc, sm, ss, c49, h0, c129, h1']
   refine loop1 (wksE s) st 0 0 _ rfl rfl (fun h n => ?_) (fun h n e => ?_)
   ·have e : chkX s st = 3 := by unfold chkX; rw [if_neg (by simpa using h0), if_neg (by simpa using h1), if_pos h]
    simp only [↓sxc, sx, se, ↓reduceIte, Nat.reduceEqDiff, Nat.reduceAdd, Nat.reduceLT, Nat.reduceLeDiff, Nat.reduceSub, Nat.reduceMul, Int.reduceToNat, Int.reduceLT, Int.reduceLE, Int.reduceEq, ml_i0, ↓smc, sm, ss, e]
   ·have hso := stok_of hs h1 h
    have c124 : ∀ {lo m}, callw F 124 [vSys s, vSt st] lo m = some (.agg [ints (rowF s.pools.length (accU s 0 st.flatten)), ints (rowF s.locks.length (accU s 1 st.flatten)), ints (rowF s.cls.length (accE s st.flatten))], m) := fun {lo m} => sp124 hE s hv st hso
    have ex : chkX s st = if overU s st = true then 11 else if overE s st = true then 11 else if overL s st = true then 11 else 0 := by unfold chkX; rw [if_neg (by simpa using h0), if_neg (by simpa using h1), if_neg (by simp [h])]
    have loop2 : ∀ (r j : Nat) (Q : Ex → St → Prop), j + r = s.pools.length → ((List.range' j r).any (fun j => decide (sizeAt s j < accU s 0 st.flatten j)) = true → Q .ret ⟨[(4, vi 11)], [], [], m.bump n⟩) →
      ((List.range' j r).any (fun j => decide (sizeAt s j < accU s 0 st.flatten j)) = false → ∀ e, Q (.exit 2) ⟨e, [(2, vSys s), (9, .agg [ints (rowF s.pools.length (accU s 0 st.flatten)), ints (rowF s.locks.length (accU s 1 st.flatten)), ints (rowF s.cls.length (accE s st.flatten))])], [], m.bump n⟩) →
      W F m.next L59_2 ⟨[(48, ints (rowF s.pools.length (accU s 0 st.flatten))), (49, vi s.pools.length), (50, vi j)], [(2, vSys s), (9, .agg [ints (rowF s.pools.length (accU s 0 st.flatten)), ints (rowF s.locks.length (accU s 1 st.flatten)), ints (rowF s.cls.length (accE s st.flatten))])], [], m.bump n⟩ Q := by
     intro r
     induction r with
     | zero =>
      intro j Q hj q1 q2
      rw [W_L (c := L59_2) rfl]
      have : ¬ ((j : Nat) : Int) < (s.pools.length : Int) := by omega
      simp only [↓sxc, sx, se, ↓reduceIte, Nat.reduceEqDiff, Nat.reduceAdd, Nat.reduceLT, Nat.reduceLeDiff, Nat.reduceSub, Nat.reduceMul, Int.reduceToNat, Int.reduceLT, Int.reduceLE, Int.reduceEq, ml_i0, ↓smc, sm, this]
      exact q2 rfl _
     | succ r ih =>
      intro j Q hj q1 q2
      rw [W_L (c := L59_2) rfl]
      have hjl : j < s.pools.length := by omega
      have c0 : ((j : Nat) : Int) < (s.pools.length : Int) := by omega
      have wr : wrapF .i64 ((j : Int) + 1) = ((j + 1 : Nat) : Int) := by rw [wr_i64 (by omega) (by omega)]; rfl
      have j0 : (0 : Int) ≤ j := by omega
      have jn : ((j : Nat) : Int).toNat = j := rfl
      have g := rowF_get (n := s.pools.length) (A := accU s 0 st.flatten) hjl
      have hp : s.pools[j]? = some s.pools[j] := List.getElem?_eq_getElem hjl
      have hz : sizeAt s j = s.pools[j].size := by unfold sizeAt; rw [jn, hp]
      generalize s.pools[j] = p at hp hz
      rw [List.range'_succ, List.any_cons, hz] at q1 q2
      by_cases hx : p.size < accU s 0 st.flatten j
      ·simp only [↓sxc, sx, se, ↓reduceIte, Nat.reduceEqDiff, Nat.reduceAdd, Nat.reduceLT, Nat.reduceLeDiff, Nat.reduceSub, Nat.reduceMul, Int.reduceToNat, Int.reduceLT, Int.reduceLE, Int.reduceEq, ml_i0, ↓smc, sm, c0, j0, jn, g, hp, hx]
       exact q1 (by simp [hx])
      ·simp only [hx, decide_false, Bool.false_or] at q1 q2
       simp only [↓sxc, sx, se, ↓reduceIte, Nat.reduceEqDiff, Nat.reduceAdd, Nat.reduceLT, Nat.reduceLeDiff, Nat.reduceSub, Nat.reduceMul, Int.reduceToNat, Int.reduceLT, Int.reduceLE, Int.reduceEq, ml_i0, ↓smc, sm, c0, j0, jn, g, hp, hx, wr]
       exact ih (j + 1) Q (by omega) q1 q2
    have loop3 : ∀ (r j : Nat) (Q : Ex → St → Prop), j + r = s.cls.length → ((List.range' j r).any (fun j => srvAt s j && decide (wkOf s j < accE s st.flatten j)) = true → Q .ret ⟨[(4, vi 11)], [], [], m.bump n⟩) →
      ((List.range' j r).any (fun j => srvAt s j && decide (wkOf s j < accE s st.flatten j)) = false → ∀ e, Q (.exit 4) ⟨e, [(2, vSys s), (9, .agg [ints (rowF s.pools.length (accU s 0 st.flatten)), ints (rowF s.locks.length (accU s 1 st.flatten)), ints (rowF s.cls.length (accE s st.flatten))])], [], m.bump n⟩) →
      W F m.next L59_3 ⟨[(65, ints (rowF s.cls.length (accE s st.flatten))), (66, vi s.cls.length), (67, vi j)], [(2, vSys s), (9, .agg [ints (rowF s.pools.length (accU s 0 st.flatten)), ints (rowF s.locks.length (accU s 1 st.flatten)), ints (rowF s.cls.length (accE s st.flatten))])], [], m.bump n⟩ Q := by
     intro r
     induction r with
     | zero =>
      intro j Q hj q1 q2
      rw [W_L (c := L59_3) rfl]
      have : ¬ ((j : Nat) : Int) < (s.cls.length : Int) := by omega
      simp only [↓sxc, sx, se, ↓reduceIte, Nat.reduceEqDiff, Nat.reduceAdd, Nat.reduceLT, Nat.reduceLeDiff, Nat.reduceSub, Nat.reduceMul, Int.reduceToNat, Int.reduceLT, Int.reduceLE, Int.reduceEq, ml_i0, ↓smc, sm, this]
      exact q2 rfl _
     | succ r ih =>
      intro j Q hj q1 q2
      rw [W_L (c := L59_3) rfl]
      have hjl : j < s.cls.length := by omega
      have c0 : ((j : Nat) : Int) < (s.cls.length : Int) := by omega
      have wr : wrapF .i64 ((j : Int) + 1) = ((j + 1 : Nat) : Int) := by rw [wr_i64 (by omega) (by omega)]; rfl
      have j0 : (0 : Int) ≤ j := by omega
      have jn : ((j : Nat) : Int).toNat = j := rfl
      have g := rowF_get (n := s.cls.length) (A := accE s st.flatten) hjl
      have hp : s.cls[j]? = some s.cls[j] := List.getElem?_eq_getElem hjl
      have hz : srvAt s j = s.cls[j].srv := by unfold srvAt; rw [jn, hp]
      have hz2 : wkOf s j = s.cls[j].wk := by unfold wkOf; rw [jn, hp]
      generalize s.cls[j] = c at hp hz hz2
      rw [List.range'_succ, List.any_cons, hz, hz2] at q1 q2
      cases hsr : c.srv with
      | false =>
       simp only [hsr, Bool.false_and, Bool.false_or] at q1 q2
       simp only [↓sxc, sx, se, ↓reduceIte, Nat.reduceEqDiff, Nat.reduceAdd, Nat.reduceLT, Nat.reduceLeDiff, Nat.reduceSub, Nat.reduceMul, Int.reduceToNat, Int.reduceLT, Int.reduceLE, Int.reduceEq, ml_i0, ↓smc, sm, c0, j0, jn, g, hp, hsr, wr]
       exact ih (j + 1) Q (by omega) q1 q2
      | true =>
       by_cases hx : c.wk < accE s st.flatten j
       ·simp only [↓sxc, sx, se, ↓reduceIte, Nat.reduceEqDiff, Nat.reduceAdd, Nat.reduceLT, Nat.reduceLeDiff, Nat.reduceSub, Nat.reduceMul, Int.reduceToNat, Int.reduceLT, Int.reduceLE, Int.reduceEq, ml_i0, ↓smc, sm, c0, j0, jn, g, hp, hsr, hx]
        exact q1 (by simp [hx, hsr])
       ·simp only [hx, hsr, decide_false, Bool.and_false, Bool.false_or] at q1 q2
        simp only [↓sxc, sx, se, ↓reduceIte, Nat.reduceEqDiff, Nat.reduceAdd, Nat.reduceLT, Nat.reduceLeDiff, Nat.reduceSub, Nat.reduceMul, Int.reduceToNat, Int.reduceLT, Int.reduceLE, Int.reduceEq, ml_i0, ↓smc, sm, c0, j0, jn, g, hp, hsr, hx, wr]
        exact ih (j + 1) Q (by omega) q1 q2
    have eU : overU s st = (List.range' 0 s.pools.length).any (fun j => decide (sizeAt s j < accU s 0 st.flatten j)) := by unfold overU; rw [List.range_eq_range']
    have eE : overE s st = (List.range' 0 s.cls.length).any (fun j => srvAt s j && decide (wkOf s j < accE s st.flatten j)) := by unfold overE; rw [List.range_eq_range']
    have lU : ((rowF s.pools.length (accU s 0 st.flatten)).length : Int) = s.pools.length := by rw [rowF_len]
    have lE : ((rowF s.cls.length (accE s st.flatten)).length : Int) = s.cls.length := by rw [rowF_len]
    simp only [↓sxc, sx, se, ↓reduceIte, Nat.reduceEqDiff, Nat.reduceAdd, Nat.reduceLT, Nat.reduceLeDiff, Nat.reduceSub, Nat.reduceMul, Int.reduceToNat, Int.reduceLT, Int.reduceLE, Int.reduceEq, ml_i0, ↓smc, sm, ss, c124, lU]
    refine loop2 s.pools.length 0 _ (by omega) (fun h => ?_) (fun h e => ?_)
    ·rw [ex, eU, h]
     simp only [↓sxc, sx, se, ↓reduceIte, Nat.reduceEqDiff, Nat.reduceAdd, Nat.reduceLT, Nat.reduceLeDiff, Nat.reduceSub, Nat.reduceMul, Int.reduceToNat, Int.reduceLT, Int.reduceLE, Int.reduceEq, ml_i0, ↓smc, sm]
    ·simp only [↓sxc, sx, se, ↓reduceIte, Nat.reduceEqDiff, Nat.reduceAdd, Nat.reduceLT, Nat.reduceLeDiff, Nat.reduceSub, Nat.reduceMul, Int.reduceToNat, Int.reduceLT, Int.reduceLE, Int.reduceEq, ml_i0, ↓smc, sm, lE]
     refine loop3 s.cls.length 0 _ (by omega) (fun h2 => ?_) (fun h2 e => ?_)
     ·rw [ex, eU, h, eE, h2]
      simp only [↓sxc, sx, se, ↓reduceIte, Nat.reduceEqDiff, Nat.reduceAdd, Nat.reduceLT, Nat.reduceLeDiff, Nat.reduceSub, Nat.reduceMul, Int.reduceToNat, Int.reduceLT, Int.reduceLE, Int.reduceEq, ml_i0, ↓smc, sm]
     ·have eL : overL s st = (rowF s.locks.length (accU s 1 st.flatten)).any fun x => decide (1 < x) := by
       unfold overL rowF
       rw [List.any_map]
       rfl
      have c120 : ∀ {lo m}, callw F 120 [ints (rowF s.locks.length (accU s 1 st.flatten)), .fn 131 []] lo m = some (.bool (overL s st), m) := fun {lo m} => by
       rw [eL]
       exact sx120 hA _ (f := 131) (cs := []) (p := fun x => decide (1 < x)) Sl.ints ⟨by decide, fun x _ lo m => sp131 hE x⟩ (by rw [rowF_len]; omega)
      rw [ex, eU, h, eE, h2]
      cases h3 : overL s st with
      | true =>
       rw [h3] at c120
       simp only [↓sxc, sx, se, ↓reduceIte, Nat.reduceEqDiff, Nat.reduceAdd, Nat.reduceLT, Nat.reduceLeDiff, Nat.reduceSub, Nat.reduceMul, Int.reduceToNat, Int.reduceLT, Int.reduceLE, Int.reduceEq, ml_i0, ↓smc, sm, c120]
      | false =>
       rw [h3] at c120
       simp only [↓sxc, sx, se, ↓reduceIte, Nat.reduceEqDiff, Nat.reduceAdd, Nat.reduceLT, Nat.reduceLeDiff, Nat.reduceSub, Nat.reduceMul, Int.reduceToNat, Int.reduceLT, Int.reduceLE, Int.reduceEq, ml_i0, ↓smc, sm, c120]
  ·have e : chkX s st = 3 := by unfold chkX; rw [if_neg (by simpa using h0), if_pos h1]
   have h1' : ¬ ((wksE s).length : Int) = (st.length : Int) := by omega
   simp only [↓sxc, sx, se, ↓reduceIte, Nat.reduceEqDiff, Nat.reduceAdd, Nat.reduceLT, Nat.reduceLeDiff, Nat.reduceSub, Nat.reduceMul, Int.reduceToNat, Int.reduceLT, Int.reduceLE, Int.reduceEq, ml_i0, ↓smc, sm, ss, c49, h0, c129, h1', e]
 ·have e : chkX s st = chkE s := by unfold chkX; rw [if_pos h0]
  simp only [↓sxc, sx, se, ↓reduceIte, Nat.reduceEqDiff, Nat.reduceAdd, Nat.reduceLT, Nat.reduceLeDiff, Nat.reduceSub, Nat.reduceMul, Int.reduceToNat, Int.reduceLT, Int.reduceLE, Int.reduceEq, ml_i0, ↓smc, sm, ss, c49, h0, e]
end Go.Am
namespace Go.Am
open Go
set_option linter.unusedSimpArgs false
set_option linter.unusedVariables false
set_option maxRecDepth 100000
def lastF (l : List Frm) : Frm := (l[l.length - 1]?).getD ⟨0, 0⟩
def topS (s : Sys) (l : List Frm) : Stp := (stepAt s (lastF l).cls (lastF l).at_).getD ⟨0, 0, 0, false⟩
structure TopOk (s : Sys) (l : List Frm) (f : Frm) (q a : Nat) (c : Cls) (x : Stp) : Prop where
 ln : 0 < l.length
 hf : l[l.length - 1]? = some f
 hq : f.cls = q
 ha : f.at_ = a
 hc : s.cls[q]? = some c
 hx : c.steps[a]? = some x
 ht : topS s l = x
theorem top_ok {s : Sys} {l : List Frm} (hl : l ≠ []) (hf : ∀ f ∈ l, frB s f = true) : ∃ f q a c x, TopOk s l f q a c x := by
 have h0 : 0 < l.length := List.length_pos_iff.2 hl
 have h1 : l[l.length - 1]? = some (l[l.length - 1]'(by omega)) := List.getElem?_eq_getElem _
 obtain ⟨q, a, c, x, e1, e2, e3, e4, e5, e6⟩ := frB_get (hf _ (List.mem_of_getElem? h1))
 refine ⟨_, q, a, c, x, h0, h1, e1, e2, e3, e4, ?_⟩
 unfold topS lastF
 rw [h1, Option.getD_some, e1, e2]
 simp only [stepAt, Int.toNat_natCast, e3, Option.bind_some, e4, Option.getD_some]
theorem form_ne {s : Sys} {l : List Frm} {c : Int} (h : formB s l c = true) : l ≠ [] := by
 intro hl
 rw [hl] at h
 cases h
theorem forms_ne {s : Sys} : ∀ {cs : List Int} {ls : List (List Frm)}, cs.length = ls.length → formsB s cs ls = true → ∀ l ∈ ls, l ≠ []
 | [], [], _, _, l, hl => by simp at hl
 | [], a :: b, h, _, _, _ => by simp at h
 | c :: cs, [], h, _, _, _ => by simp at h
 | c :: cs, a :: ls, hn, h, l, hl => by
  simp only [formsB, Bool.and_eq_true] at h
  rcases List.mem_cons.1 hl with rfl | hl
  ·exact form_ne h.1
  ·exact forms_ne (by simpa using hn) h.2 l hl
structure VSt (s : Sys) (st : List (List Frm)) : Prop where
 v : chkE s = 0
 sm : Sml st
 ln : (wksE s).length = st.length
 fm : formsB s (wksE s) st = true
 u : overU s st = false
 e : overE s st = false
 l : overL s st = false
theorem vst_of {s : Sys} {st : List (List Frm)} (hs : Sml st) (h : chkX s st = 0) : VSt s st := by
 unfold chkX at h
 split at h
 ·rename_i h1; exact absurd h h1
 ·rename_i h1
  split at h
  ·omega
  ·rename_i h2
   split at h
   ·omega
   ·rename_i h3
    split at h
    ·omega
    ·rename_i h4
     split at h
     ·omega
     ·rename_i h5
      split at h
      ·omega
      ·rename_i h6
       exact ⟨by omega, hs, by omega, by simpa using h3, by simpa using h4, by simpa using h5, by simpa using h6⟩
theorem VSt.chk {s : Sys} {st : List (List Frm)} (h : VSt s st) : chkX s st = 0 := by
 unfold chkX
 rw [if_neg (by simpa using h.v), if_neg (by simpa using h.ln), if_neg (by simp [h.fm]), if_neg (by simp [h.u]), if_neg (by simp [h.e]), if_neg (by simp [h.l])]
theorem VSt.ok {s : Sys} {st : List (List Frm)} (h : VSt s st) : StOk s st := stok_of h.sm h.ln h.fm
theorem VSt.top {s : Sys} {st : List (List Frm)} (h : VSt s st) {l : List Frm} (hl : l ∈ st) : ∃ f q a c x, TopOk s l f q a c x := top_ok (forms_ne h.ln h.fm l hl) (forms_ok h.ln h.fm l hl)
def possB (s : Sys) (st : List (List Frm)) (x : Stp) : Bool :=
 if x.kind = 1 then (x.deep && decide (0 ≤ sizeAt s x.on - accU s 0 st.flatten x.on.toNat - x.cnt)) || decide (resAt s x.on ≤ sizeAt s x.on - accU s 0 st.flatten x.on.toNat - x.cnt)
 else if x.kind = 3 then decide (accU s 1 st.flatten x.on.toNat = 0)
 else if x.kind = 5 then decide (accE s st.flatten x.on.toNat < wkOf s x.on) else true
theorem sp125 {F : Nat → Option Fn} (hE : HasE F) {lo : Nat} {m : Mem} (s : Sys) (st : List (List Frm)) {w : Nat} {l : List Frm} (hw : st[w]? = some l) (hll : l.length < 100000) {f : Frm} {q a : Nat} {c : Cls} {x : Stp} (T : TopOk s l f q a c x) : callw F 125 [vSys s, vSt st, vi w] lo m = some (vStp x, m) := by
 have w0 : (0 : Int) ≤ w := by omega
 have wn : ((w : Nat) : Int).toNat = w := rfl
 have h0 := T.ln
 have wr : wrapF .i64 ((l.length : Int) - 1) = ((l.length - 1 : Nat) : Int) := by rw [wr_i64 (by omega) (by omega)]; omega
 have l0 : (0 : Int) ≤ ((l.length - 1 : Nat) : Int) := by omega
 have ln : ((l.length - 1 : Nat) : Int).toNat = l.length - 1 := rfl
 have q0 : (0 : Int) ≤ q := by omega
 have qn : ((q : Nat) : Int).toNat = q := rfl
 have a0 : (0 : Int) ≤ a := by omega
 have an : ((a : Nat) : Int).toNat = a := rfl
 have hf := T.hf
 have hq := T.hq
 have ha := T.ha
 have hc := T.hc
 have hx := T.hx
 refine call_p hE.h125 rfl ?_
 simp only [↓sxc, sx, se, ↓reduceIte, Nat.reduceEqDiff, Nat.reduceAdd, Nat.reduceLT, Nat.reduceLeDiff, Nat.reduceSub, Nat.reduceMul, Int.reduceToNat, Int.reduceLT, Int.reduceLE, Int.reduceEq, ml_i0, ↓smc, sm, ss, w0, wn, hw, wr, l0, ln, hf, hq, ha, q0, qn, hc, a0, an, hx]
theorem sp123 {F : Nat → Option Fn} (hE : HasE F) {lo : Nat} {m : Mem} (s : Sys) (hv : Valid s) (st : List (List Frm)) (hok : StOk s st) (x : Stp) (hp : preE s x = 0) (hc : -1000 ≤ x.cnt ∧ x.cnt ≤ 1000) : callw F 123 [vSys s, .agg [ints (rowF s.pools.length (accU s 0 st.flatten)), ints (rowF s.locks.length (accU s 1 st.flatten)), ints (rowF s.cls.length (accE s st.flatten))], vStp x] lo m = some (.bool (possB s st x), m) := by
 obtain ⟨o1, o2, k1, k5⟩ := preE_on hp
 obtain ⟨k, hko⟩ : ∃ k : Nat, x.on = k := ⟨x.on.toNat, by omega⟩
 have z0 : (0 : Int) ≤ k := by omega
 have zn : ((k : Nat) : Int).toNat = k := rfl
 refine call_p hE.h123 rfl ?_
 by_cases e1 : x.kind = 1
 ·have hn : nOf s x = s.pools.length := by simp [nOf, e1]
  have kn : k < s.pools.length := by omega
  have g := rowF_get (n := s.pools.length) (A := accU s 0 st.flatten) kn
  have hpl : s.pools[k]? = some s.pools[k] := List.getElem?_eq_getElem kn
  have hz : sizeAt s k = s.pools[k].size := by unfold sizeAt; rw [zn, hpl]
  have hr : resAt s k = s.pools[k].res := by unfold resAt; rw [zn, hpl]
  have hq := hv.pool _ (List.mem_of_getElem? hpl)
  generalize s.pools[k] = p at hpl hz hr hq
  have bu := accU_bd hv (kind := 0) hok.ln k
  have w1 : wrapF .i64 (p.size - accU s 0 st.flatten k) = p.size - accU s 0 st.flatten k := wr_i64 (by omega) (by omega)
  have w2 : wrapF .i64 (p.size - accU s 0 st.flatten k - x.cnt) = p.size - accU s 0 st.flatten k - x.cnt := wr_i64 (by omega) (by omega)
  have ep : possB s st x = ((x.deep && decide (0 ≤ p.size - accU s 0 st.flatten k - x.cnt)) || decide (p.res ≤ p.size - accU s 0 st.flatten k - x.cnt)) := by
   unfold possB
   rw [if_pos e1, hko, hz, hr, zn]
  rw [ep]
  cases hd : x.deep with
  | false =>
   by_cases h2 : p.res ≤ p.size - accU s 0 st.flatten k - x.cnt
   ·simp only [↓sxc, sx, se, ↓reduceIte, Nat.reduceEqDiff, Nat.reduceAdd, Nat.reduceLT, Nat.reduceLeDiff, Nat.reduceSub, Nat.reduceMul, Int.reduceToNat, Int.reduceLT, Int.reduceLE, Int.reduceEq, ml_i0, ↓smc, sm, e1, hko, z0, zn, hpl, g, w1, w2, hd, h2, Bool.false_and, Bool.false_or]
   ·simp only [↓sxc, sx, se, ↓reduceIte, Nat.reduceEqDiff, Nat.reduceAdd, Nat.reduceLT, Nat.reduceLeDiff, Nat.reduceSub, Nat.reduceMul, Int.reduceToNat, Int.reduceLT, Int.reduceLE, Int.reduceEq, ml_i0, ↓smc, sm, e1, hko, z0, zn, hpl, g, w1, w2, hd, h2, Bool.false_and, Bool.false_or]
  | true =>
   by_cases h1 : 0 ≤ p.size - accU s 0 st.flatten k - x.cnt
   ·simp only [↓sxc, sx, se, ↓reduceIte, Nat.reduceEqDiff, Nat.reduceAdd, Nat.reduceLT, Nat.reduceLeDiff, Nat.reduceSub, Nat.reduceMul, Int.reduceToNat, Int.reduceLT, Int.reduceLE, Int.reduceEq, ml_i0, ↓smc, sm, e1, hko, z0, zn, hpl, g, w1, w2, hd, h1, Bool.true_and, Bool.true_or]
   ·by_cases h2 : p.res ≤ p.size - accU s 0 st.flatten k - x.cnt
    ·simp only [↓sxc, sx, se, ↓reduceIte, Nat.reduceEqDiff, Nat.reduceAdd, Nat.reduceLT, Nat.reduceLeDiff, Nat.reduceSub, Nat.reduceMul, Int.reduceToNat, Int.reduceLT, Int.reduceLE, Int.reduceEq, ml_i0, ↓smc, sm, e1, hko, z0, zn, hpl, g, w1, w2, hd, h1, h2, Bool.true_and, Bool.false_or]
    ·simp only [↓sxc, sx, se, ↓reduceIte, Nat.reduceEqDiff, Nat.reduceAdd, Nat.reduceLT, Nat.reduceLeDiff, Nat.reduceSub, Nat.reduceMul, Int.reduceToNat, Int.reduceLT, Int.reduceLE, Int.reduceEq, ml_i0, ↓smc, sm, e1, hko, z0, zn, hpl, g, w1, w2, hd, h1, h2, Bool.true_and, Bool.false_or]
 ·by_cases e3 : x.kind = 3
  ·have hn : nOf s x = s.locks.length := by simp [nOf, e3]
   have kn : k < s.locks.length := by omega
   have g := rowF_get (n := s.locks.length) (A := accU s 1 st.flatten) kn
   have n1 : ¬ (3 : Int) = 1 := by omega
   have ep : possB s st x = decide (accU s 1 st.flatten k = 0) := by
    unfold possB
    rw [if_neg e1, if_pos e3, hko, zn]
   rw [ep]
   simp only [↓sxc, sx, se, ↓reduceIte, Nat.reduceEqDiff, Nat.reduceAdd, Nat.reduceLT, Nat.reduceLeDiff, Nat.reduceSub, Nat.reduceMul, Int.reduceToNat, Int.reduceLT, Int.reduceLE, Int.reduceEq, ml_i0, ↓smc, sm, e3, n1, hko, z0, zn, g]
  ·by_cases e5 : x.kind = 5
   ·have hn : nOf s x = s.cls.length := by simp [nOf, e5]
    have kn : k < s.cls.length := by omega
    have g := rowF_get (n := s.cls.length) (A := accE s st.flatten) kn
    have hcl : s.cls[k]? = some s.cls[k] := List.getElem?_eq_getElem kn
    have hz : wkOf s k = s.cls[k].wk := by unfold wkOf; rw [zn, hcl]
    generalize s.cls[k] = c at hcl hz
    have n1 : ¬ (5 : Int) = 1 := by omega
    have n3 : ¬ (5 : Int) = 3 := by omega
    have ep : possB s st x = decide (accE s st.flatten k < c.wk) := by
     unfold possB
     rw [if_neg e1, if_neg e3, if_pos e5, hko, zn, hz]
    rw [ep]
    simp only [↓sxc, sx, se, ↓reduceIte, Nat.reduceEqDiff, Nat.reduceAdd, Nat.reduceLT, Nat.reduceLeDiff, Nat.reduceSub, Nat.reduceMul, Int.reduceToNat, Int.reduceLT, Int.reduceLE, Int.reduceEq, ml_i0, ↓smc, sm, e5, n1, n3, hko, z0, zn, g, hcl]
   ·have ep : possB s st x = true := by
     unfold possB
     rw [if_neg e1, if_neg e3, if_neg e5]
    rw [ep]
    simp only [↓sxc, sx, se, ↓reduceIte, Nat.reduceEqDiff, Nat.reduceAdd, Nat.reduceLT, Nat.reduceLeDiff, Nat.reduceSub, Nat.reduceMul, Int.reduceToNat, Int.reduceLT, Int.reduceLE, Int.reduceEq, ml_i0, ↓smc, sm, e1, e3, e5]
theorem TopOk.pre {s : Sys} (hv : Valid s) {l : List Frm} {f : Frm} {q a : Nat} {c : Cls} {x : Stp} (T : TopOk s l f q a c x) : preE s x = 0 ∧ -1000 ≤ x.cnt ∧ x.cnt ≤ 1000 :=
 ⟨hv.pre (List.mem_of_getElem? T.hc) (List.mem_of_getElem? T.hx), (hv.okC c (List.mem_of_getElem? T.hc)).cnt x (List.mem_of_getElem? T.hx)⟩
def enabS (s : Sys) (st : List (List Frm)) : List (List Frm) → Nat → List Int
 | [], _ => []
 | l :: t, i => (if possB s st (topS s l) = true then [(i : Int)] else []) ++ enabS s st t (i + 1)
def enabE (s : Sys) (st : List (List Frm)) : List Int := enabS s st st 0
theorem enabS_snoc {s : Sys} {st : List (List Frm)} {l : List Frm} : ∀ {t : List (List Frm)} {i : Nat}, enabS s st (t ++ [l]) i = enabS s st t i ++ if possB s st (topS s l) = true then [((i + t.length : Nat) : Int)] else []
 | [], i => by simp [enabS]
 | a :: t, i => by
  rw [List.cons_append, enabS, enabS, enabS_snoc (t := t), List.append_assoc, List.length_cons, show i + 1 + t.length = i + (t.length + 1) by omega]
theorem enabS_len {s : Sys} {st : List (List Frm)} : ∀ {t : List (List Frm)} {i : Nat}, (enabS s st t i).length ≤ t.length
 | [], i => by simp [enabS]
 | a :: t, i => by
  have := enabS_len (s := s) (st := st) (t := t) (i := i + 1)
  simp only [enabS, List.length_append, List.length_cons]
  split
  ·simp only [List.length_cons, List.length_nil]; omega
  ·simp only [List.length_nil]; omega
theorem sp137 {F : Nat → Option Fn} (hE : HasE F) {lo : Nat} {m : Mem} (s : Sys) (st : List (List Frm)) (V : VSt s st) : callw F 137 [vSys s, vSt st] lo m = some (ints (enabE s st), m) := by
 have hv := valid_of V.v
 have hs1 := V.sm.l1
 have c124 : ∀ {lo m}, callw F 124 [vSys s, vSt st] lo m = some (.agg [ints (rowF s.pools.length (accU s 0 st.flatten)), ints (rowF s.locks.length (accU s 1 st.flatten)), ints (rowF s.cls.length (accE s st.flatten))], m) := fun {lo m} => sp124 hE s hv st V.ok
 have loop : ∀ (t : List (List Frm)) (i : Nat) (v : Go.Am.V) (m' : Mem) (Q : Ex → St → Prop), st.drop i = t → m.next ≤ m'.next → Rw m.next m' 1 v ((enabS s st (st.take i) 0).map vi) →
   (∀ v m' e b, m.next ≤ m'.next → Rw m.next m' 1 v ((enabE s st).map vi) → Q (.exit 0) ⟨(6, v) :: e, b, [], m'⟩) →
   W F m.next L137_1 ⟨[(6, v), (13, vi st.length), (14, vi i)], [(2, vSys s), (3, vSt st), (5, .agg [ints (rowF s.pools.length (accU s 0 st.flatten)), ints (rowF s.locks.length (accU s 1 st.flatten)), ints (rowF s.cls.length (accE s st.flatten))])], [], m'⟩ Q := by
  intro t
  induction t with
  | nil =>
   intro i v m' Q hd hm hr hQ
   have hlt := drop_nil hd
   rw [W_L (c := L137_1) rfl]
   have : ¬ ((i : Nat) : Int) < (st.length : Int) := by omega
   simp only [↓sxc, sx, se, ↓reduceIte, Nat.reduceEqDiff, Nat.reduceAdd, Nat.reduceLT, Nat.reduceLeDiff, Nat.reduceSub, Nat.reduceMul, Int.reduceToNat, Int.reduceLT, Int.reduceLE, Int.reduceEq, ml_i0, ↓smc, sm, ss, this]
   rw [List.take_of_length_le hlt] at hr
   exact hQ v m' _ _ hm hr
  | cons l t ih =>
   intro i v m' Q hd hm hr hQ
   obtain ⟨hg, hd', hlt⟩ := drop_cons hd
   have hlm := List.mem_of_getElem? hg
   obtain ⟨f, q, a, c, x, T⟩ := V.top hlm
   obtain ⟨hp, hcn⟩ := T.pre hv
   have hst := V.sm.stk hlm
   have c125 : ∀ {lo m}, callw F 125 [vSys s, vSt st, vi i] lo m = some (vStp x, m) := fun {lo m} => sp125 hE s st hg hst T
   have c123 : ∀ {lo m}, callw F 123 [vSys s, .agg [ints (rowF s.pools.length (accU s 0 st.flatten)), ints (rowF s.locks.length (accU s 1 st.flatten)), ints (rowF s.cls.length (accE s st.flatten))], vStp x] lo m = some (.bool (possB s st x), m) := fun {lo m} => sp123 hE s hv st V.ok x hp hcn
   have hil : (st.take i).length = i := by simp; omega
   have hsn : enabS s st (st.take (i + 1)) 0 = enabS s st (st.take i) 0 ++ if possB s st x = true then [(i : Int)] else [] := by
    rw [take_succ_drop hd, enabS_snoc, hil, Nat.zero_add, T.ht]
   have hel := enabS_len (s := s) (st := st) (t := st.take i) (i := 0)
   have c0 : ((i : Nat) : Int) < (st.length : Int) := by omega
   have wr : wrapF .i64 ((i : Int) + 1) = ((i + 1 : Nat) : Int) := by rw [wr_i64 (by omega) (by omega)]; rfl
   rw [W_L (c := L137_1) rfl]
   cases hb : possB s st x with
   | false =>
    rw [hb] at c123 hsn
    simp only [Bool.false_eq_true, if_false, List.append_nil] at hsn
    have hr7 : Rw m.next (m'.bump 7) 1 v ((enabS s st (st.take (i + 1)) 0).map vi) := by
     rw [hsn]
     exact hr.mono (Nat.le_add_right _ _) (fun _ _ _ => rfl)
    simp only [↓sxc, sx, se, ↓reduceIte, Nat.reduceEqDiff, Nat.reduceAdd, Nat.reduceLT, Nat.reduceLeDiff, Nat.reduceSub, Nat.reduceMul, Int.reduceToNat, Int.reduceLT, Int.reduceLE, Int.reduceEq, ml_i0, ↓smc, sm, ss, c0, c125, c123, wr]
    exact ih (i + 1) v _ Q hd' (Nat.le_trans hm (Nat.le_add_right _ _)) hr7 hQ
   | true =>
    rw [hb] at c123 hsn
    simp only [if_true] at hsn
    have hr7 : Rw m.next (m'.bump 7) 1 v ((enabS s st (st.take i) 0).map vi) := hr.mono (Nat.le_add_right _ _) (fun _ _ _ => rfl)
    obtain ⟨v', m'', hap, hr', hn, _⟩ := hr7.app (y := .lst false 1 [vi i]) (Nat.le_trans hm (Nat.le_add_right _ _)) vw_lst (.inl rfl) (by simp [big]; omega)
    have hap' : apV m.next (m'.next + 7) (m'.bump 7) 1 v (.lst false 1 [vi i]) = some (v', m'') := hap
    have hn' : m''.next = m'.next + 7 := hn
    simp only [↓sxc, sx, se, ↓reduceIte, Nat.reduceEqDiff, Nat.reduceAdd, Nat.reduceLT, Nat.reduceLeDiff, Nat.reduceSub, Nat.reduceMul, Int.reduceToNat, Int.reduceLT, Int.reduceLE, Int.reduceEq, ml_i0, ↓smc, sm, ss, c0, c125, c123, hap', wr]
    refine ih (i + 1) v' (m''.bump 1) Q hd' ?_ ?_ hQ
    ·show m.next ≤ m''.next + 1; omega
    ·rw [hsn, List.map_append]
     exact hr'
 refine call_p hE.h137 rfl ?_
 simp only [↓sxc, sx, se, ↓reduceIte, Nat.reduceEqDiff, Nat.reduceAdd, Nat.reduceLT, Nat.reduceLeDiff, Nat.reduceSub, Nat.reduceMul, Int.reduceToNat, Int.reduceLT, Int.reduceLE, Int.reduceEq, ml_i0, ↓smc, sm, ss, c124]
 refine loop st 0 .nil m _ rfl (Nat.le_refl _) .nil (fun v m' e b q1 q2 => ?_)
 have fz : freeze m.next m' 8 v = some (ints (enabE s st)) := by
  rw [q2.freeze, mapO_id (fun x hx => by
   obtain ⟨y, _, rfl⟩ := List.mem_map.1 hx
   rfl)]
  rfl
 simp only [↓sxc, sx, se, ↓reduceIte, Nat.reduceEqDiff, Nat.reduceAdd, Nat.reduceLT, Nat.reduceLeDiff, Nat.reduceSub, Nat.reduceMul, Int.reduceToNat, Int.reduceLT, Int.reduceLE, Int.reduceEq, ml_i0, ↓smc, sm, fz]
def enabX (s : Sys) (st : List (List Frm)) : List Int := if chkX s st = 0 then enabE s st else []
theorem sp62 {F : Nat → Option Fn} (hA : HasA F) (hE : HasE F) {lo : Nat} {m : Mem} (s : Sys) (st : List (List Frm)) (hs : Sml st) : callw F 62 [vSys s, vSt st] lo m = some (ints (enabX s st), m) := by
 have c59 : ∀ {lo m}, callw F 59 [vSys s, vSt st] lo m = some (vi (chkX s st), m) := fun {lo m} => sp59 hA hE s st hs
 refine call_p hE.h62 rfl ?_
 by_cases h : chkX s st = 0
 ·have c137 : ∀ {lo m}, callw F 137 [vSys s, vSt st] lo m = some (ints (enabE s st), m) := fun {lo m} => sp137 hE s st (vst_of hs h)
  have e : enabX s st = enabE s st := by unfold enabX; rw [if_pos h]
  rw [e]
  simp only [↓sxc, sx, se, ↓reduceIte, Nat.reduceEqDiff, Nat.reduceAdd, Nat.reduceLT, Nat.reduceLeDiff, Nat.reduceSub, Nat.reduceMul, Int.reduceToNat, Int.reduceLT, Int.reduceLE, Int.reduceEq, ml_i0, ↓smc, sm, ss, c59, h, c137]
 ·have e : enabX s st = [] := by unfold enabX; rw [if_neg h]
  rw [e]
  simp only [↓sxc, sx, se, ↓reduceIte, Nat.reduceEqDiff, Nat.reduceAdd, Nat.reduceLT, Nat.reduceLeDiff, Nat.reduceSub, Nat.reduceMul, Int.reduceToNat, Int.reduceLT, Int.reduceLE, Int.reduceEq, ml_i0, ↓smc, sm, ss, c59, h]
  rfl
end Go.Am
namespace Go.Am
open Go
set_option linter.unusedSimpArgs false
set_option linter.unusedVariables false
set_option maxRecDepth 100000
theorem nq_stks {ne : Bool} {st : List (List Frm)} (h : st ≠ []) : retV (.nq ne) [vStks st, .nil] = some (.bool ne) := by
 cases st with
 | nil => exact absurd rfl h
 | cons => rfl
theorem nq_stk {ne : Bool} {l : List Frm} (h : l ≠ []) : retV (.nq ne) [vStk l, .nil] = some (.bool ne) := by
 cases l with
 | nil => exact absurd rfl h
 | cons => rfl
structure ClOut (m : Mem) (B : Blk) (n : Nat) (sz : Nat) (v : V) (m' : Mem) : Prop where
 v : v = .row sz (m.next + 1) 0 n
 n : m'.next = m.next + 2
 b : m'.blk (m.next + 1) = some B
 f : ∀ k, k < m.next → m'.blk k = m.blk k
theorem sp158 {F : Nat → Option Fn} (hE : HasE F) {lo : Nat} {m : Mem} (hlo : lo ≤ m.next) {st : List (List Frm)} (hne : st ≠ []) (hl : st.length < 100000) : ∃ v m', callw F 158 [vStks st] lo m = some (v, m') ∧ ClOut m (.row 1 (st.map vStk)) st.length 1 v m' := by
 have hq := nq_stks (ne := false) hne
 let m1 : Mem := (m.set m.next (some (.row 1 []))).bump 1
 have em1 : (m.set m.next (some (.row 1 []))).bump 1 = m1 := rfl
 have n1 : m1.next = m.next + 1 := rfl
 have f1 : ∀ k, k ≠ m.next → m1.blk k = m.blk k := fun k h => set_ne h
 have b1 : m1.blk m.next = some (.row 1 []) := by show (m.set m.next _).blk m.next = _; simp [Mem.set]
 clear_value m1
 have ap := ap_row (m := m1) (lo := lo) (h := m1.next) (h' := m.next) (o := 0) (l := 0) (sz := 1) (s := nz 1 (st.map vStk)) (y := vStks st) (xs := st.map vStk) (es := []) vw_vStks hlo app_vStks (by simp [big]; omega) b1 (by simp)
 simp only [List.drop_nil, List.take_nil, List.nil_append, Nat.zero_add, List.length_map, n1] at ap
 refine call_x hE.h158 rfl ?_
 simp only [↓sxc, sx, se, ↓reduceIte, Nat.reduceEqDiff, Nat.reduceAdd, Nat.reduceLT, Nat.reduceLeDiff, Nat.reduceSub, Nat.reduceMul, Int.reduceToNat, Int.reduceLT, Int.reduceLE, Int.reduceEq, ml_i0, ↓smc, sm, ss, hq, em1, n1, ap, PX_ret, PX_nrm]
 refine ⟨rfl, ?_, ?_, fun k hk => ?_⟩
 ·show m1.next + 1 = _; omega
 ·show ((m1.set m.next none).set (m.next + 1) _).blk _ = _; simp [Mem.set]
 ·show ((m1.set m.next none).set (m.next + 1) _).blk _ = _
  rw [set_ne (by omega), set_ne (by omega), f1 k (by omega)]
theorem sp159 {F : Nat → Option Fn} (hE : HasE F) {lo : Nat} {m : Mem} (hlo : lo ≤ m.next) {l : List Frm} (hne : l ≠ []) (hl : l.length < 100000) : ∃ v m', callw F 159 [vStk l] lo m = some (v, m') ∧ ClOut m (.row 2 (l.map vFrm)) l.length 2 v m' := by
 have hq := nq_stk (ne := false) hne
 let m1 : Mem := (m.set m.next (some (.row 2 []))).bump 1
 have em1 : (m.set m.next (some (.row 2 []))).bump 1 = m1 := rfl
 have n1 : m1.next = m.next + 1 := rfl
 have f1 : ∀ k, k ≠ m.next → m1.blk k = m.blk k := fun k h => set_ne h
 have b1 : m1.blk m.next = some (.row 2 []) := by show (m.set m.next _).blk m.next = _; simp [Mem.set]
 clear_value m1
 have ap := ap_row (m := m1) (lo := lo) (h := m1.next) (h' := m.next) (o := 0) (l := 0) (sz := 2) (s := nz 2 (l.map vFrm)) (y := vStk l) (xs := l.map vFrm) (es := []) vw_vStk hlo app_vStk (by simp [big]; omega) b1 (by simp)
 simp only [List.drop_nil, List.take_nil, List.nil_append, Nat.zero_add, List.length_map, n1] at ap
 refine call_x hE.h159 rfl ?_
 simp only [↓sxc, sx, se, ↓reduceIte, Nat.reduceEqDiff, Nat.reduceAdd, Nat.reduceLT, Nat.reduceLeDiff, Nat.reduceSub, Nat.reduceMul, Int.reduceToNat, Int.reduceLT, Int.reduceLE, Int.reduceEq, ml_i0, ↓smc, sm, ss, hq, em1, n1, ap, PX_ret, PX_nrm]
 refine ⟨rfl, ?_, ?_, fun k hk => ?_⟩
 ·show m1.next + 1 = _; omega
 ·show ((m1.set m.next none).set (m.next + 1) _).blk _ = _; simp [Mem.set]
 ·show ((m1.set m.next none).set (m.next + 1) _).blk _ = _
  rw [set_ne (by omega), set_ne (by omega), f1 k (by omega)]
structure Cl (lo : Nat) (m : Mem) (h : Nat) (st : List (List Frm)) (es : List V) (i : Nat) : Prop where
 lh : lo ≤ h
 hm : h < m.next
 bh : m.blk h = some (.row 1 es)
 ln : es.length = st.length
 old : ∀ j l, i ≤ j → st[j]? = some l → es[j]? = some (vStk l)
 new : ∀ j l, j < i → st[j]? = some l → ∃ k, es[j]? = some (.row 2 k 0 l.length) ∧ h < k ∧ k < m.next ∧ m.blk k = some (.row 2 (l.map vFrm))
 inj : ∀ (j j' k l l' : Nat), es[j]? = some (.row 2 k 0 l) → es[j']? = some (.row 2 k 0 l') → j = j'
theorem stk_row {l : List Frm} {s h o n : Nat} : vStk l ≠ .row s h o n := by
 unfold vStk V.ro
 simp
theorem w126_1 {F : Nat → Option Fn} (hE : HasE F) {lo : Nat} (s : Sys) (st : List (List Frm)) (hs : Sml st) (hne : ∀ l ∈ st, l ≠ []) (h : Nat) (u2 u6 : V) : ∀ (t : List (List Frm)) (i : Nat) (es : List V) (m : Mem) (Q : Ex → St → Prop), st.drop i = t → lo ≤ m.next → Cl lo m h st es i →
  (∀ es m' e, m.next ≤ m'.next → Cl lo m' h st es st.length → Q (.exit 0) ⟨(2, u2) :: (7, .row 1 h 0 st.length) :: e, [(3, vSys s), (4, vSt st), (6, u6)], [], m'⟩) →
  W F lo L126_1 ⟨[(2, u2), (7, .row 1 h 0 st.length), (16, vi st.length), (17, vi i)], [(3, vSys s), (4, vSt st), (6, u6)], [], m⟩ Q := by
 have hl1 := hs.l1
 intro t
 induction t with
 | nil =>
  intro i es m Q hd hm H hQ
  have hlt := drop_nil hd
  rw [W_L (c := L126_1) rfl]
  have : ¬ ((i : Nat) : Int) < (st.length : Int) := by omega
  simp only [↓sxc, sx, se, ↓reduceIte, Nat.reduceEqDiff, Nat.reduceAdd, Nat.reduceLT, Nat.reduceLeDiff, Nat.reduceSub, Nat.reduceMul, Int.reduceToNat, Int.reduceLT, Int.reduceLE, Int.reduceEq, ml_i0, ↓smc, sm, ss, this]
  refine hQ es m _ (Nat.le_refl _) ⟨H.lh, H.hm, H.bh, H.ln, fun j l hj hl => ?_, fun j l hj hl => H.new j l (by omega) hl, H.inj⟩
  have := (List.getElem?_eq_some_iff.1 hl).1
  omega
 | cons l t ih =>
  intro i es m Q hd hm H hQ
  obtain ⟨hg, hd', hlt⟩ := drop_cons hd
  have hlm := List.mem_of_getElem? hg
  obtain ⟨v, m1, c159, rfl, k2, k3, k4⟩ := sp159 hE hm (hne l hlm) (hs.stk hlm)
  have c0 : ((i : Nat) : Int) < (st.length : Int) := by omega
  have wr : wrapF .i64 ((i : Int) + 1) = ((i + 1 : Nat) : Int) := by rw [wr_i64 (by omega) (by omega)]; rfl
  have i0 : (0 : Int) ≤ i := by omega
  have in_ : ((i : Nat) : Int).toNat = i := rfl
  have hes := H.old i l (Nat.le_refl _) hg
  have bh := H.bh
  have hh := H.hm
  have lh := H.lh
  have bh1 : m1.blk h = some (.row 1 es) := by rw [k4 h hh]; exact bh
  have sc : setC 0 1 (.row 2 (m.next + 1) 0 l.length) (vStk l) = some (.row 2 (m.next + 1) 0 l.length) := rfl
  have hil : i < es.length := by rw [H.ln]; exact hlt
  rw [W_L (c := L126_1) rfl]
  simp only [↓sxc, sx, se, ↓reduceIte, Nat.reduceEqDiff, Nat.reduceAdd, Nat.reduceLT, Nat.reduceLeDiff, Nat.reduceSub, Nat.reduceMul, Int.reduceToNat, Int.reduceLT, Int.reduceLE, Int.reduceEq, ml_i0, ↓smc, sm, ss, c0, i0, in_, bh, hes, c159, bh1, lh, sc, wr]
  refine ih (i + 1) (es.set i (.row 2 (m.next + 1) 0 l.length)) _ Q hd' ?_ ⟨lh, ?_, by simp [Mem.set], by simp [H.ln], fun j l' hj hl' => ?_, fun j l' hj hl' => ?_, fun j j' k n n' e1 e2 => ?_⟩ (fun es m' e q1 q2 => hQ es m' e ?_ q2)
  ·show lo ≤ m1.next; omega
  ·show h < m1.next; omega
  ·rw [List.getElem?_set_ne (by omega)]
   exact H.old j l' (by omega) hl'
  ·by_cases hji : j = i
   ·subst hji
    rw [hg] at hl'
    cases hl'
    refine ⟨m.next + 1, by rw [List.getElem?_set_self hil], by omega, by show m.next + 1 < m1.next; omega, ?_⟩
    rw [set_ne (by omega)]
    exact k3
   ·obtain ⟨k, a1, a2, a3, a4⟩ := H.new j l' (by omega) hl'
    refine ⟨k, by rw [List.getElem?_set_ne (Ne.symm hji)]; exact a1, a2, by show k < m1.next; omega, ?_⟩
    rw [set_ne (by omega), k4 k a3]
    exact a4
  ·have lt : ∀ (j k n : Nat), j ≠ i → es[j]? = some (.row 2 k 0 n) → k < m.next := by
    intro j k n hji hj
    have hjl := (List.getElem?_eq_some_iff.1 hj).1
    have hst : st[j]? = some (st[j]'(by rw [← H.ln]; exact hjl)) := List.getElem?_eq_getElem _
    by_cases hji2 : j < i
    ·obtain ⟨k', a1, a2, a3, a4⟩ := H.new j _ hji2 hst
     rw [a1] at hj
     cases hj
     exact a3
    ·rw [H.old j _ (by omega) hst] at hj
     exact absurd (Option.some.inj hj) stk_row
   by_cases h1 : j = i
   ·by_cases h2 : j' = i
    ·rw [h1, h2]
    ·subst h1
     rw [List.getElem?_set_self hil] at e1
     rw [List.getElem?_set_ne (Ne.symm h2)] at e2
     cases e1
     have := lt j' _ _ h2 e2
     omega
   ·by_cases h2 : j' = i
    ·subst h2
     rw [List.getElem?_set_self hil] at e2
     rw [List.getElem?_set_ne (Ne.symm h1)] at e1
     cases e2
     have := lt j _ _ h1 e1
     omega
    ·rw [List.getElem?_set_ne (Ne.symm h1)] at e1
     rw [List.getElem?_set_ne (Ne.symm h2)] at e2
     exact H.inj j j' k n n' e1 e2
  ·have q1' : m1.next ≤ m'.next := q1
   omega
def lenS (s : Sys) (q : Int) : Int := match s.cls[q.toNat]? with
 | some c => c.steps.length
 | none => 0
def advN (s : Sys) (B : List Frm) : Nat → List Frm
 | 0 => []
 | n + 1 => match B[n]? with
  | none => []
  | some f => if f.at_ + 1 < lenS s f.cls then B.take n ++ [⟨f.cls, f.at_ + 1⟩] else if n = 0 then [⟨f.cls, 0⟩] else advN s B n
def advE (s : Sys) (l : List Frm) : List Frm := advN s l l.length
theorem advN_set {s : Sys} {B : List Frm} {f : Frm} {k : Nat} : ∀ {n : Nat}, n ≤ k → advN s (B.set k f) n = advN s B n
 | 0, _ => rfl
 | n + 1, h => by
  unfold advN
  rw [List.getElem?_set_ne (by omega), advN_set (n := n) (by omega), List.take_set_of_le (by omega)]
theorem w126_a {F : Nat → Option Fn} {lo : Nat} (s : Sys) (hv : Valid s) (k : Nat) (hlk : lo ≤ k) (u2 u7 u6 : V)
  (n : Nat) (B : List Frm) (m : Mem) (Q : Ex → St → Prop) (hn : n + 1 ≤ B.length) (hBl : B.length < 100000) (hf : ∀ f ∈ B.take (n + 1), frB s f = true) (hb : m.blk k = some (.row 2 (B.map vFrm)))
   (hQ : ∀ (B' : List Frm) (n' : Nat) m' e b, m.next ≤ m'.next → m'.blk k = some (.row 2 (B'.map vFrm)) → B'.length = B.length → n' ≤ B'.length → B'.take n' = advN s B (n + 1) → (∀ j, j ≠ k → m'.blk j = m.blk j) → Q (.exit 2) ⟨(2, u2) :: (7, u7) :: (10, .row 2 k 0 n') :: e, (6, u6) :: b, [], m'⟩ ∧ Q (.exit 2) ⟨(2, u2) :: (7, u7) :: (10, .row 2 k 0 n') :: e, (3, vSys s) :: (6, u6) :: b, [], m'⟩)
   (hR : n ≠ 0 → ∀ (f : Frm) m', m.next ≤ m'.next → m'.blk k = some (.row 2 ((B.set n f).map vFrm)) → (∀ j, j ≠ k → m'.blk j = m.blk j) → advN s B (n + 1) = advN s B n → W F lo L126_2 ⟨[(2, u2), (7, u7), (10, .row 2 k 0 n)], [(3, vSys s), (6, u6)], [], m'⟩ Q) :
   W F lo L126_2 ⟨[(2, u2), (7, u7), (10, .row 2 k 0 (n + 1))], [(3, vSys s), (6, u6)], [], m⟩ Q := by
 obtain ⟨f, hg⟩ : ∃ f, B[n]? = some f := ⟨_, List.getElem?_eq_getElem (by omega)⟩
 obtain ⟨q, a, c, x, e1, e2, e3, e4, e5, e6⟩ := frB_get (hf f (List.mem_of_getElem? (i := n) (by rw [List.getElem?_take_of_lt (by omega)]; exact hg)))
 obtain ⟨fc, fa⟩ := f
 simp only at e1 e2
 subst e1 e2
 have hme : (B.map vFrm)[n]? = some (vFrm ⟨q, a⟩) := by rw [List.getElem?_map, hg]; rfl
 have wr : wrapF .i64 (((n + 1 : Nat) : Int) - 1) = (n : Int) := by rw [wr_i64 (by omega) (by omega)]; omega
 have al : (c.steps.length : Nat) ≤ 12 := (hv.okC c (List.mem_of_getElem? e3)).l12
 have wa : wrapF .i64 ((a : Int) + 1) = (a : Int) + 1 := wr_i64 (by omega) (by omega)
 have sc : setC 1 1 (.int .i64 ((a : Int) + 1)) (vFrm ⟨q, a⟩) = some (vFrm ⟨q, (a : Int) + 1⟩) := rfl
 have sc0 : setC 1 1 (.int .i64 0) (vFrm ⟨q, (a : Int) + 1⟩) = some (vFrm ⟨q, 0⟩) := rfl
 have gs : ((B.map vFrm).set n (vFrm ⟨q, (a : Int) + 1⟩))[n]? = some (vFrm ⟨q, (a : Int) + 1⟩) := by rw [List.getElem?_set_self (by simp; omega)]
 have c0 : (vFrm ⟨q, (a : Int) + 1⟩).cells[0]? = some (.int .i64 q) := rfl
 have c1 : (vFrm ⟨q, (a : Int) + 1⟩).cells[1]? = some (.int .i64 ((a : Int) + 1)) := rfl
 have n0 : (0 : Int) ≤ n := by omega
 have nn : ((n : Nat) : Int).toNat = n := rfl
 have nl : ((n : Nat) : Int) < ((n + 1 : Nat) : Int) := by omega
 have q0 : (0 : Int) ≤ q := by omega
 have qn : ((q : Nat) : Int).toNat = q := rfl
 have hls : lenS s q = c.steps.length := by unfold lenS; rw [qn, e3]
 rw [W_L (c := L126_2) rfl]
 by_cases hc : (a : Int) + 1 < (c.steps.length : Int)
 ·simp only [↓sxc, sx, se, ↓reduceIte, Nat.reduceEqDiff, Nat.reduceAdd, Nat.reduceLT, Nat.reduceLeDiff, Nat.reduceSub, Nat.reduceMul, Int.reduceToNat, Int.reduceLT, Int.reduceLE, Int.reduceEq, ml_i0, ↓smc, sm, ss, wr, n0, nn, nl, hb, hme, hlk, wa, sc, gs, c0, c1, q0, qn, e3, hc]
  refine (hQ (B.set n ⟨q, (a : Int) + 1⟩) (n + 1) _ _ [] ?_ ?_ (by simp) (by simp; omega) ?_ ?_).2
  ·show m.next ≤ m.next + 15; omega
  ·show (m.set k _).blk k = _
   simp [Mem.set, List.map_set]
  ·unfold advN
   simp only [hg, hls, if_pos hc]
   rw [List.take_set, List.take_add_one, hg, List.set_append_right _ _ (by simp; omega)]
   simp [Nat.min_eq_left (show n ≤ B.length by omega)]
  ·intro j hj
   exact set_ne hj
 ·by_cases hz : n = 0
  ·have hz1 : decide (((n + 1 : Nat) : Int) = 1) = true := by simp; omega
   simp only [↓sxc, sx, se, ↓reduceIte, Nat.reduceEqDiff, Nat.reduceAdd, Nat.reduceLT, Nat.reduceLeDiff, Nat.reduceSub, Nat.reduceMul, Int.reduceToNat, Int.reduceLT, Int.reduceLE, Int.reduceEq, ml_i0, ↓smc, sm, ss, wr, n0, nn, nl, hb, hme, hlk, wa, sc, gs, c0, c1, q0, qn, e3, hc, hz1, sc0]
   refine (hQ ((B.set n ⟨q, (a : Int) + 1⟩).set n ⟨q, 0⟩) (n + 1) _ [] [] ?_ ?_ (by simp) (by simp; omega) ?_ ?_).1
   ·show m.next ≤ m.next + 15; omega
   ·show ((m.set k _).set k _).blk k = _
    simp [Mem.set, List.map_set]
   ·unfold advN
    simp only [hg, hls, if_neg hc, if_pos hz]
    subst hz
    cases B with
    | nil => simp at hn
    | cons b B => simp
   ·intro j hj
    show ((m.set k _).set k _).blk j = _
    rw [set_ne hj, set_ne hj]
  ·have hz1 : decide (((n + 1 : Nat) : Int) = 1) = false := by simp; omega
   have l1 : (lenOf (V.row 2 k 0 (n + 1))).isSome = true := rfl
   simp only [↓sxc, sx, se, ↓reduceIte, Nat.reduceEqDiff, Nat.reduceAdd, Nat.reduceLT, Nat.reduceLeDiff, Nat.reduceSub, Nat.reduceMul, Int.reduceToNat, Int.reduceLT, Int.reduceLE, Int.reduceEq, ml_i0, ↓smc, sm, ss, wr, n0, nn, nl, hb, hme, hlk, wa, sc, gs, c0, c1, q0, qn, e3, hc, hz1]
   refine ⟨l1, by omega, hR hz ⟨q, (a : Int) + 1⟩ _ ?_ ?_ ?_ ?_⟩
   ·show m.next ≤ m.next + 15; omega
   ·show (m.set k _).blk k = _
    simp [Mem.set, List.map_set]
   ·intro j hj
    exact set_ne hj
   ·rw [advN]
    simp only [hg, hls, if_neg hc, if_neg hz]
theorem w126_2 {F : Nat → Option Fn} {lo : Nat} (s : Sys) (hv : Valid s) (k : Nat) (hlk : lo ≤ k) (u2 u7 u6 : V) :
  ∀ (n : Nat) (B : List Frm) (m : Mem) (Q : Ex → St → Prop), n + 1 ≤ B.length → B.length < 100000 → (∀ f ∈ B.take (n + 1), frB s f = true) → m.blk k = some (.row 2 (B.map vFrm)) →
   (∀ (B' : List Frm) (n' : Nat) m' e b, m.next ≤ m'.next → m'.blk k = some (.row 2 (B'.map vFrm)) → B'.length = B.length → n' ≤ B'.length → B'.take n' = advN s B (n + 1) → (∀ j, j ≠ k → m'.blk j = m.blk j) → Q (.exit 2) ⟨(2, u2) :: (7, u7) :: (10, .row 2 k 0 n') :: e, (6, u6) :: b, [], m'⟩ ∧ Q (.exit 2) ⟨(2, u2) :: (7, u7) :: (10, .row 2 k 0 n') :: e, (3, vSys s) :: (6, u6) :: b, [], m'⟩) →
   W F lo L126_2 ⟨[(2, u2), (7, u7), (10, .row 2 k 0 (n + 1))], [(3, vSys s), (6, u6)], [], m⟩ Q := by
 intro n
 induction n with
 | zero =>
  intro B m Q hn hBl hf hb hQ
  exact w126_a s hv k hlk u2 u7 u6 0 B m Q hn hBl hf hb hQ (fun h => absurd rfl h)
 | succ n ih =>
  intro B m Q hn hBl hf hb hQ
  refine w126_a s hv k hlk u2 u7 u6 (n + 1) B m Q hn hBl hf hb hQ (fun h f m' g1 g2 g3 g4 => ?_)
  refine ih (B.set (n + 1) f) m' Q (by simp; omega) (by simpa using hBl) (fun g hg => hf g ?_) g2 (fun B' n' m'' e b x1 x2 x3 x4 x5 x6 => hQ B' n' m'' e b (by omega) x2 (by simpa using x3) x4 ?_ (fun j hj => by rw [x6 j hj, g3 j hj]))
  ·rw [List.take_set_of_le (by omega)] at hg
   rw [List.take_add_one]
   exact List.mem_append_left _ hg
  ·rw [x5, advN_set (by omega), g4]
def takeE (s : Sys) (st : List (List Frm)) (w : Nat) : List (List Frm) :=
 match st[w]? with
 | none => st
 | some l => st.set w (if (topS s l).kind = 5 then l ++ [⟨(topS s l).on, 0⟩] else advE s l)
theorem W_Lc {F : Nat → Option Fn} {lo : Nat} {c b : AC} {lv lb : List Nat} {st st' : St} {Q : Ex → St → Prop} (h : c = .loop lv lb b) (hc : st.cut lv lb = st'.cut lv lb) : W F lo c st Q ↔ W F lo c st' Q := by
 rw [W_L h, W_L h, hc]
theorem mapO_pt {f : V → Option V} : ∀ {es ys : List V}, es.length = ys.length → (∀ (j : Nat) (x y : V), es[j]? = some x → ys[j]? = some y → f x = some y) → mapO f es = some ys
 | [], [], _, _ => rfl
 | [], _ :: _, h, _ => by simp at h
 | _ :: _, [], h, _ => by simp at h
 | x :: es, y :: ys, h, hf => by
  simp only [mapO, hf 0 x y rfl rfl, mapO_pt (es := es) (ys := ys) (by simpa using h) (fun j a b ha hb => hf (j + 1) a b ha hb)]
theorem fz_stk {lo k n : Nat} {m : Mem} {B : List Frm} {n' : Nat} (hk : lo ≤ k) (hb : m.blk k = some (.row 2 (B.map vFrm))) (hn : n' ≤ B.length) : freeze lo m (n + 4) (.row 2 k 0 n') = some (vStk (B.take n')) := by
 rw [fz_row hb hk (by simpa using hn), List.drop_zero, ← List.map_take, mapO_id (fun x hx => by
  obtain ⟨f, _, rfl⟩ := List.mem_map.1 hx
  rfl)]
 rfl
theorem fz_take {lo n h w : Nat} {m2 m3 : Mem} {st : List (List Frm)} {es : List V} {l' : List Frm} {v : V} (H : Cl lo m2 h st es st.length) (hb : m3.blk h = some (.row 1 (es.set w v))) (hw : w < st.length) (hv : freeze lo m3 (n + 4) v = some (vStk l')) (ho : ∀ j k l, j ≠ w → es[j]? = some (.row 2 k 0 l) → m3.blk k = m2.blk k) : freeze lo m3 (n + 5) (.row 1 h 0 st.length) = some (vStks (st.set w l')) := by
 have ln := H.ln
 rw [fz_row hb H.lh (by simp [ln]), List.drop_zero, List.take_of_length_le (by simp [ln])]
 rw [mapO_pt (ys := (st.set w l').map vStk) (by simp [ln]) (fun j x y hx hy => by
  rw [List.getElem?_map] at hy
  by_cases hj : j = w
  ·subst hj
   rw [List.getElem?_set_self (by omega)] at hx
   rw [List.getElem?_set_self (by omega)] at hy
   cases hx
   cases hy
   exact hv
  ·rw [List.getElem?_set_ne (Ne.symm hj)] at hx
   rw [List.getElem?_set_ne (Ne.symm hj)] at hy
   cases hs : st[j]? with
   | none => rw [hs] at hy; cases hy
   | some l =>
    rw [hs] at hy
    cases hy
    obtain ⟨k, a1, a2, a3, a4⟩ := H.new j l (List.getElem?_eq_some_iff.1 hs).1 hs
    have b := ho j k l.length hj a1
    rw [a1] at hx
    cases hx
    have lk := H.lh
    rw [fz_stk (B := l) (by omega) (by rw [b, a4]) (Nat.le_refl _), List.take_length])]
 rfl
theorem sp126 {F : Nat → Option Fn} (hE : HasE F) {lo : Nat} {m : Mem} (s : Sys) (st : List (List Frm)) (V : VSt s st) {w : Nat} {l : List Frm} (hw : st[w]? = some l) : callw F 126 [vSys s, vSt st, vi w] lo m = some (vSt (takeE s st w), m) := by
 have hv := valid_of V.v
 have hlm := List.mem_of_getElem? hw
 obtain ⟨f, q, a, c, x, T⟩ := V.top hlm
 have hne := forms_ne V.ln V.fm
 have c125 : ∀ {lo m}, callw F 125 [vSys s, vSt st, vi w] lo m = some (vStp x, m) := fun {lo m} => sp125 hE s st hw (V.sm.stk hlm) T
 have hst : st ≠ [] := fun h => by rw [h] at hw; cases hw
 refine call_p hE.h126 rfl ?_
 obtain ⟨v, m1, c158, rfl, k2, k3, k4⟩ := sp158 hE (lo := m.next) (m := m) (Nat.le_refl _) hst V.sm.l1
 simp only [↓sxc, sx, se, ↓reduceIte, Nat.reduceEqDiff, Nat.reduceAdd, Nat.reduceLT, Nat.reduceLeDiff, Nat.reduceSub, Nat.reduceMul, Int.reduceToNat, Int.reduceLT, Int.reduceLE, Int.reduceEq, ml_i0, ↓smc, sm, ss, c158]
 refine w126_1 hE s st V.sm hne _ _ _ st 0 (st.map vStk) _ _ rfl ?_ ⟨?_, ?_, k3, by simp, fun j l' _ hl' => by rw [List.getElem?_map, hl']; rfl, fun j l' hj => absurd hj (by omega), fun j j' k n n' e1 e2 => ?_⟩ (fun es m2 e q1 q2 => ?_)
 ·omega
 ·omega
 ·omega
 ·rw [List.getElem?_map] at e1
  cases h : st[j]? with
  | none => rw [h] at e1; cases e1
  | some l => rw [h] at e1; exact absurd (Option.some.inj e1) stk_row
 ·obtain ⟨lh, hm, bh, ln, _, hnew, hinj⟩ := q2
  have hwl := (List.getElem?_eq_some_iff.1 hw).1
  obtain ⟨k, g1, g2, g3, g4⟩ := hnew w l hwl hw
  have w0 : (0 : Int) ≤ w := by omega
  have wn : ((w : Nat) : Int).toNat = w := rfl
  simp only [↓sxc, sx, se, ↓reduceIte, Nat.reduceEqDiff, Nat.reduceAdd, Nat.reduceLT, Nat.reduceLeDiff, Nat.reduceSub, Nat.reduceMul, Int.reduceToNat, Int.reduceLT, Int.reduceLE, Int.reduceEq, ml_i0, ↓smc, sm, ss]
  simp only [↓sxc, sx, se, ↓reduceIte, Nat.reduceEqDiff, Nat.reduceAdd, Nat.reduceLT, Nat.reduceLeDiff, Nat.reduceSub, Nat.reduceMul, Int.reduceToNat, Int.reduceLT, Int.reduceLE, Int.reduceEq, ml_i0, ↓W_dreg, ↓sk, sk, ss, c125, w0, wn, bh, g1, lh]
  refine ⟨by omega, by simp [pairsOk, nth_eq, keysApart, Key.apart], ?_⟩
  have et := T.ht
  have hlo2 : m.next ≤ m2.next := by omega
  by_cases h5 : x.kind = 5
  ·rw [if_pos (by simpa using h5)]
   have ap := ap_row (m := m2.bump 11) (lo := m.next) (h := m2.next + 11) (h' := k) (o := 0) (l := l.length) (sz := 2) (s := 2) (y := .lst false 2 [.agg [vi x.on, vi 0]]) (xs := [.agg [vi x.on, vi 0]]) (es := l.map vFrm) vw_lst (by omega) (.inl rfl) (by have := V.sm.stk hlm; simp [big]; omega) g4 (by simp)
   have ec : ∀ (v : Go.Am.V), (v = .row 2 (m2.next + 11) 0 (l.length + 1)) → setC 0 1 v (.row 2 k 0 l.length) = some v := fun v h => by rw [h]; rfl
   have bh3 : ∀ B, (((m2.bump 11).set k none).set (m2.next + 11) B).blk (m.next + 1) = some (.row 1 es) := fun B => by
    rw [set_ne (by omega), set_ne (by omega)]
    exact bh
   have rE : rowE (.row 1 es) w = some (.row 2 k 0 l.length) := g1
   have sE : setC 0 1 (.row 2 (m2.next + 11) 0 (l.length + 1)) (.row 2 k 0 l.length) = some (.row 2 (m2.next + 11) 0 (l.length + 1)) := rfl
   simp only [↓sxc, sx, se, ↓reduceIte, Nat.reduceEqDiff, Nat.reduceAdd, Nat.reduceLT, Nat.reduceLeDiff, Nat.reduceSub, Nat.reduceMul, Int.reduceToNat, Int.reduceLT, Int.reduceLE, Int.reduceEq, ml_i0, ↓smc, sm, ss, ap, bh3, rE, sE]
   refine ⟨by omega, ?_⟩
   have tk : takeE s st w = st.set w (l ++ [⟨x.on, 0⟩]) := by
    unfold takeE
    simp only [hw, et, if_pos h5]
   rw [tk]
   simp only [mapO]
   have hf := fz_stk (lo := m.next) (k := m2.next + 11) (n := 2) (m := ((((m2.bump 11).set k none).set (m2.next + 11) (some (.row 2 (List.take l.length (List.map vFrm l) ++ [Go.Am.V.agg [vi x.on, vi 0]])))).bump 1).set (m.next + 1) (some (rowS (.row 1 es) w (.row 2 (m2.next + 11) 0 (l.length + 1))))) (B := l ++ [⟨x.on, 0⟩]) (n' := l.length + 1) (by omega) (by
     rw [set_ne (by omega), List.map_append]
     simp [Mem.set, Mem.bump, vFrm, List.take_of_length_le]) (by simp)
   rw [List.take_of_length_le (l := l ++ [(⟨x.on, 0⟩ : Frm)]) (by simp)] at hf
   rw [fz_take (n := 2) (w := w) (v := .row 2 (m2.next + 11) 0 (l.length + 1)) (l' := l ++ [⟨x.on, 0⟩]) (m2 := m2) ⟨lh, hm, bh, ln, by assumption, hnew, hinj⟩ (by simp [Mem.set, rowS]) hwl hf ?_]
   ·rfl
   ·intro j k' l'' hj hk'
    have : k' ≠ k := fun h => hj (hinj j w k' _ _ hk' (by rw [h]; exact g1))
    have hj2 := (List.getElem?_eq_some_iff.1 hk').1
    have h0 := hnew j (st[j]'(by omega)) (by omega) (List.getElem?_eq_getElem _)
    obtain ⟨k3, b1, b2, b3, _⟩ := h0
    rw [hk'] at b1
    cases b1
    rw [set_ne (by omega)]
    show ((((m2.bump 11).set k none).set (m2.next + 11) _)).blk k' = _
    rw [set_ne (by omega), set_ne this]
    rfl
  ·rw [if_neg (by simpa using h5)]
   refine (W_Lc (c := L126_2) (st' := ⟨[(2, vi w), (7, .row 1 (m.next + 1) 0 st.length), (10, .row 2 k 0 l.length)], [(3, vSys s), (6, .agg [.nil])], [], m2.bump 11⟩) rfl ?_).2 ?_
   ·rfl
   obtain ⟨n, hn⟩ : ∃ n, l.length = n + 1 := ⟨l.length - 1, by have := List.length_pos_iff.2 (hne l hlm); omega⟩
   rw [hn]
   refine w126_2 s hv k (by omega) _ _ _ n l _ _ (by omega) (V.sm.stk hlm) (fun f hf => forms_ok V.ln V.fm l hlm f (List.mem_of_mem_take hf)) g4 (fun B' n' m3 e b x1 x2 x3 x4 x5 x6 => ?_)
   have bh3 : m3.blk (m.next + 1) = some (.row 1 es) := by rw [x6 _ (by omega)]; exact bh
   have hr : setC 0 1 (.row 2 k 0 n') (.row 2 k 0 l.length) = some (.row 2 k 0 n') := rfl
   have tk : takeE s st w = st.set w (advE s l) := by
    unfold takeE
    simp only [hw, et, if_neg h5]
   have fin : ∀ e, freeze m.next (m3.set (m.next + 1) (some (.row 1 (es.set w (.row 2 k 0 n'))))) 7 (.row 1 (m.next + 1) 0 st.length) = some (vStks (st.set w e)) ∨ e ≠ advE s l := by
    intro e
    by_cases he : e = advE s l
    ·left
     subst he
     have hf := fz_stk (lo := m.next) (k := k) (n := 2) (m := m3.set (m.next + 1) (some (.row 1 (es.set w (.row 2 k 0 n'))))) (B := B') (n' := n') (by omega) (by rw [set_ne (by omega)]; exact x2) x4
     rw [x5, ← hn] at hf
     refine fz_take (n := 2) (w := w) (v := .row 2 k 0 n') (m2 := m2) ⟨lh, hm, bh, ln, by assumption, hnew, hinj⟩ (by simp [Mem.set]) hwl hf ?_
     intro j k' l'' hj hk'
     have hkk : k' ≠ k := fun h => hj (hinj j w k' _ _ hk' (by rw [h]; exact g1))
     have hj2 := (List.getElem?_eq_some_iff.1 hk').1
     obtain ⟨k3, b1, b2, b3, _⟩ := hnew j (st[j]'(by omega)) (by omega) (List.getElem?_eq_getElem _)
     rw [hk'] at b1
     cases b1
     rw [set_ne (by omega), x6 _ hkk]
     rfl
    ·exact .inr he
   have fin1 := (fin (advE s l)).resolve_right (fun h => h rfl)
   rw [tk]
   constructor
   ·simp only [↓sxc, sx, se, ↓reduceIte, Nat.reduceEqDiff, Nat.reduceAdd, Nat.reduceLT, Nat.reduceLeDiff, Nat.reduceSub, Nat.reduceMul, Int.reduceToNat, Int.reduceLT, Int.reduceLE, Int.reduceEq, ml_i0, ↓smc, sm, ss, w0, wn, bh3, g1, lh, hr]
    refine ⟨by omega, ?_⟩
    simp only [mapO]
    rw [fin1]
    rfl
   ·simp only [↓sxc, sx, se, ↓reduceIte, Nat.reduceEqDiff, Nat.reduceAdd, Nat.reduceLT, Nat.reduceLeDiff, Nat.reduceSub, Nat.reduceMul, Int.reduceToNat, Int.reduceLT, Int.reduceLE, Int.reduceEq, ml_i0, ↓smc, sm, ss, w0, wn, bh3, g1, lh, hr]
    refine ⟨by omega, ?_⟩
    simp only [mapO]
    rw [fin1]
    rfl
end Go.Am
namespace Go.Am
open Go
set_option linter.unusedSimpArgs false
set_option linter.unusedVariables false
set_option maxRecDepth 100000
structure Bg (s : Sys) (pre : List Stp) : Prop where
 u : ∀ j : Nat, 0 ≤ bal j 0 pre
 k : ∀ j : Nat, 0 ≤ bal j 1 pre ∧ bal j 1 pre ≤ 1
theorem pre_cnt {s : Sys} {x : Stp} (hp : preE s x = 0) : (x.kind = 1 ∨ x.kind = 2 → 1 ≤ x.cnt ∧ x.cnt ≤ sizeAt s x.on) ∧ (x.kind ≠ 1 → x.deep = false) := by
 unfold preE at hp
 split at hp
 ·omega
 ·rename_i h1
  split at hp
  ·omega
  ·split at hp
   ·omega
   ·rename_i h3
    refine ⟨fun h => ?_, fun h => ?_⟩
    ·omega
    ·cases hd : x.deep
     ·rfl
     ·exact absurd (.inr (.inr (.inr ⟨h, hd⟩))) h1
theorem Bg.step {s : Sys} {pre : List Stp} (h : Bg s pre) {x : Stp} (he : stepE s x (bal x.on 0 pre) (bal x.on 1 pre) = 0) : Bg s (pre ++ [x]) := by
 obtain ⟨hp, hb⟩ := stepE_zero he
 obtain ⟨hc, _⟩ := pre_cnt hp
 refine ⟨fun j => ?_, fun j => ?_⟩
 ·rw [bal_one]
  have hu := h.u j
  unfold delta
  unfold badE at hb
  by_cases hj : x.on = j
  ·rw [hj] at hb
   by_cases e1 : x.kind = 1
   ·have := hc (.inl e1)
    simp only [hj, e1, if_true]
    omega
   ·by_cases e2 : x.kind = 2
    ·simp only [e1, e2, hj, if_true, if_false] at hb ⊢
     simp at hb ⊢
     omega
    ·simp [hj, e1, e2, hu]
  ·simp [hj, hu]
 ·rw [bal_one]
  have hu := h.k j
  unfold delta
  unfold badE at hb
  by_cases hj : x.on = j
  ·rw [hj] at hb
   by_cases e3 : x.kind = 3
   ·simp [e3, hj] at hb ⊢
    omega
   ·by_cases e4 : x.kind = 4
    ·simp [e4, hj] at hb ⊢
     omega
    ·simp [hj, e3, e4, hu]
  ·simp [hj, hu]
theorem stepsE_bg {s : Sys} : ∀ {t pre : List Stp}, stepsE s pre t = 0 → Bg s pre → ∀ n, Bg s (pre ++ t.take n)
 | [], pre, _, h, n => by simpa using h
 | y :: t, pre, he, h, n => by
  unfold stepsE at he
  split at he
  ·rename_i h1; exact absurd he h1
  ·rename_i h1
   cases n with
   | zero => simpa using h
   | succ n =>
    have := stepsE_bg he (h.step (by simpa using h1)) n
    simpa using this
theorem Valid.bg {s : Sys} (hv : Valid s) {q : Nat} {c : Cls} (hc : s.cls[q]? = some c) (n : Nat) : Bg s (c.steps.take n) := by
 have := stepsE_bg (clsOk_of (hv.cls c (List.mem_of_getElem? hc))).steps ⟨fun j => by simp [bal], fun j => by simp [bal]⟩ n
 simpa using this
theorem stepsE_srv {s : Sys} : ∀ {t pre : List Stp}, stepsE s pre t = 0 → ∀ x ∈ t, x.kind = 5 → srvAt s x.on = true
 | [], pre, _, x, hx, _ => by simp at hx
 | y :: t, pre, he, x, hx, h5 => by
  unfold stepsE at he
  split at he
  ·rename_i h1; exact absurd he h1
  ·rename_i h1
   rcases List.mem_cons.1 hx with rfl | hx
   ·obtain ⟨hp, hb⟩ := stepE_zero (show stepE s x (bal x.on 0 pre) (bal x.on 1 pre) = 0 by simpa using h1)
    unfold badE at hb
    simp [h5] at hb
    exact hb
   ·exact stepsE_srv he x hx h5
theorem Valid.srv {s : Sys} (hv : Valid s) {q : Nat} {c : Cls} (hc : s.cls[q]? = some c) {x : Stp} (hx : x ∈ c.steps) (h5 : x.kind = 5) : srvAt s x.on = true :=
 stepsE_srv (clsOk_of (hv.cls c (List.mem_of_getElem? hc))).steps x hx h5
theorem Valid.bal0 {s : Sys} (hv : Valid s) {q : Nat} {c : Cls} (hc : s.cls[q]? = some c) (j : Nat) : (j < s.pools.length → bal j 0 c.steps = 0) ∧ (j < s.locks.length → bal j 1 c.steps = 0) := by
 have ok := clsOk_of (hv.cls c (List.mem_of_getElem? hc))
 have b := hv.bg hc c.steps.length
 rw [List.take_length] at b
 refine ⟨fun hj => ?_, fun hj => ?_⟩
 ·have h := ok.o0
  unfold over at h
  have := List.any_eq_false.1 h j (List.mem_range.2 hj)
  have := b.u j
  simp at *
  omega
 ·have h := ok.o1
  unfold over at h
  have := List.any_eq_false.1 h j (List.mem_range.2 hj)
  have := b.k j
  simp at *
  omega
theorem chain_app {s : Sys} {g : Frm} : ∀ {a : List Frm} {o : Option Frm}, chainB s o (a ++ [g]) = (chainB s o a && frB s g && (match a.getLast?.or o with | none => true | some p => callB s p g))
 | [], o => by
  cases o <;> simp [chainB]
 | f :: t, o => by
  have h1 : (f :: t).getLast?.or o = t.getLast?.or (some f) := by
   cases t with
   | nil => rfl
   | cons a b =>
    rw [List.getLast?_cons_cons]
    cases h : (a :: b).getLast? with
    | none => simp at h
    | some x => rfl
  simp only [List.cons_append, chainB]
  rw [chain_app (a := t) (o := some f), h1]
  simp only [Bool.and_assoc]
theorem chain_srv {s : Sys} (hv : Valid s) : ∀ {t : List Frm} {p : Frm}, frB s p = true → chainB s (some p) t = true → ∀ f ∈ t, srvAt s f.cls = true
 | [], p, _, _, f, hf => by simp at hf
 | g :: t, p, hp, h, f, hf => by
  simp only [chainB, Bool.and_eq_true] at h
  obtain ⟨⟨h1, h2⟩, h3⟩ := h
  rcases List.mem_cons.1 hf with rfl | hf
  ·obtain ⟨q, a, c, x, e1, e2, e3, e4, e5, e6⟩ := frB_get hp
   unfold callB stepAt at h2
   rw [e1, e2] at h2
   simp only [Int.toNat_natCast, e3, Option.bind_some, e4, Bool.and_eq_true, decide_eq_true_eq] at h2
   rw [← h2.2]
   exact hv.srv e3 (List.mem_of_getElem? e4) h2.1
  ·exact chain_srv hv h1 h3 f hf
theorem sumI_flat {α : Type} {g : α → Int} : ∀ {st : List (List α)}, sumI g st.flatten = sumI (fun l => sumI g l) st
 | [] => rfl
 | l :: st => by rw [List.flatten_cons, sumI_append, sumI_flat (st := st)]; rfl
theorem sumI_set {α : Type} {g : α → Int} : ∀ {l : List α} {w : Nat} {a b : α}, l[w]? = some a → sumI g (l.set w b) = sumI g l + (g b - g a)
 | [], w, a, b, h => by simp at h
 | x :: l, 0, a, b, h => by
  simp at h
  subst h
  simp only [List.set_cons_zero, sumI]
  omega
 | x :: l, w + 1, a, b, h => by
  have := sumI_set (g := g) (l := l) (w := w) (a := a) (b := b) (by simpa using h)
  simp only [List.set_cons_succ, sumI, this]
  omega
theorem sumI_le {α : Type} {g h : α → Int} : ∀ {l : List α}, (∀ x ∈ l, g x ≤ h x) → sumI g l ≤ sumI h l
 | [], _ => by simp [sumI]
 | x :: l, hh => by
  have h1 := hh x (by simp)
  have h2 := sumI_le (g := g) (h := h) (l := l) fun y hy => hh y (by simp [hy])
  simp only [sumI]
  omega
theorem sumI_nn {α : Type} {g : α → Int} : ∀ {l : List α}, (∀ x ∈ l, 0 ≤ g x) → 0 ≤ sumI g l
 | [], _ => by simp [sumI]
 | x :: l, hh => by
  have h1 := hh x (by simp)
  have h2 := sumI_nn (g := g) (l := l) fun y hy => hh y (by simp [hy])
  simp only [sumI]
  omega
def stkU (s : Sys) (kind : Int) (j : Nat) (l : List Frm) : Int := sumI (frU s kind j) l
def stkE (s : Sys) (j : Nat) (l : List Frm) : Int := sumI (frE s j) l
theorem accU_set {s : Sys} {kind : Int} {st : List (List Frm)} {w : Nat} {l l' : List Frm} {j : Nat} (h : st[w]? = some l) : accU s kind (st.set w l').flatten j = accU s kind st.flatten j + (stkU s kind j l' - stkU s kind j l) := by
 unfold accU
 rw [sumI_flat, sumI_flat, sumI_set h]
 rfl
theorem accE_set {s : Sys} {st : List (List Frm)} {w : Nat} {l l' : List Frm} {j : Nat} (h : st[w]? = some l) : accE s (st.set w l').flatten j = accE s st.flatten j + (stkE s j l' - stkE s j l) := by
 unfold accE
 rw [sumI_flat, sumI_flat, sumI_set h]
 rfl
theorem delta_call {on kind : Int} {x : Stp} (h : x.kind = 5) : delta on kind x = 0 := by
 unfold delta
 simp [h]
theorem frU_step {s : Sys} {kind : Int} {j : Nat} {q a : Nat} {c : Cls} {x : Stp} (hc : s.cls[q]? = some c) (hx : c.steps[a]? = some x) : frU s kind j ⟨q, a + 1⟩ = frU s kind j ⟨q, a⟩ + delta j kind x := by
 unfold frU
 have e1 : ((q : Nat) : Int).toNat = q := rfl
 have e2 : ((a : Nat) : Int).toNat = a := rfl
 have e3 : ((a : Int) + 1).toNat = a + 1 := rfl
 simp only [e1, e2, e3, hc]
 rw [List.take_add_one, hx]
 exact bal_one
theorem frU_zero {s : Sys} {kind : Int} {j : Nat} {q : Int} : frU s kind j ⟨q, 0⟩ = 0 := by
 unfold frU
 split
 ·simp [bal]
 ·rfl
theorem chain_fr {s : Sys} : ∀ {B : List Frm} {o : Option Frm} {n : Nat} {f : Frm}, chainB s o B = true → B[n]? = some f → frB s f = true
 | [], _, _, _, _, h => by simp at h
 | b :: B, o, n, f, hc, h => by
  simp only [chainB, Bool.and_eq_true] at hc
  cases n with
  | zero => simp at h; subst h; exact hc.1.1
  | succ n => exact chain_fr hc.2 (by simpa using h)
theorem chain_call {s : Sys} : ∀ {B : List Frm} {o : Option Frm} {n : Nat} {p f : Frm}, chainB s o B = true → B[n]? = some p → B[n + 1]? = some f → callB s p f = true
 | [], _, _, _, _, _, h, _ => by simp at h
 | b :: B, o, n, p, f, hc, h, h2 => by
  simp only [chainB, Bool.and_eq_true] at hc
  cases n with
  | zero =>
   simp at h
   subst h
   cases B with
   | nil => simp at h2
   | cons d B =>
    simp at h2
    subst h2
    have := hc.2
    simp only [chainB, Bool.and_eq_true] at this
    exact this.1.2
  | succ n => exact chain_call hc.2 (by simpa using h) (by simpa using h2)
theorem advN_spec {s : Sys} (hv : Valid s) {B : List Frm} (hch : chainB s none B = true) : ∀ {n : Nat} {f : Frm} {x : Stp}, B[n]? = some f → stepAt s f.cls f.at_ = some x →
  ∃ (k : Nat) (g : Frm), k ≤ n ∧ advN s B (n + 1) = B.take k ++ [g] ∧ frB s g = true ∧ (∃ b, B[k]? = some b ∧ b.cls = g.cls) ∧
   (∀ kind (j : Nat), (kind = 0 ∧ j < s.pools.length) ∨ (kind = 1 ∧ j < s.locks.length) → stkU s kind j (B.take k ++ [g]) = stkU s kind j (B.take (n + 1)) + delta j kind x) := by
 intro n
 induction n with
 | zero =>
  intro f x hf hx
  obtain ⟨q, a, c, x', e1, e2, e3, e4, e5, e6⟩ := frB_get (chain_fr hch hf)
  obtain ⟨fc, fa⟩ := f
  simp only at e1 e2
  subst e1 e2
  have ex : x' = x := by
   simp only [stepAt, Int.toNat_natCast, e3, Option.bind_some, e4] at hx
   exact Option.some.inj hx
  subst ex
  have hls : lenS s q = c.steps.length := by unfold lenS; rw [Int.toNat_natCast, e3]
  have tk : B.take 1 = [⟨q, a⟩] := by rw [show (1 : Nat) = 0 + 1 from rfl, List.take_add_one, hf]; rfl
  unfold advN
  simp only [hf, hls]
  by_cases hc : (a : Int) + 1 < (c.steps.length : Int)
  ·refine ⟨0, ⟨q, (a : Int) + 1⟩, Nat.le_refl _, by rw [if_pos hc], ?_, ⟨_, hf, rfl⟩, fun kind j hj => ?_⟩
   ·unfold frB
    simp [e3]
    omega
   ·rw [tk]
    simp only [List.take_zero, List.nil_append, stkU, sumI, frU_step e3 e4]
    omega
  ·refine ⟨0, ⟨q, 0⟩, Nat.le_refl _, by rw [if_neg hc]; simp, ?_, ⟨_, hf, rfl⟩, fun kind j hj => ?_⟩
   ·unfold frB
    simp [e3]
    omega
   ·rw [tk]
    simp only [List.take_zero, List.nil_append, stkU, sumI, frU_zero]
    have h1 := frU_step (kind := kind) (j := j) e3 e4
    have h2 := hv.bal0 e3 j
    have h3 : frU s kind j ⟨q, (a : Int) + 1⟩ = 0 := by
     unfold frU
     simp only [Int.toNat_natCast, e3]
     rw [show ((a : Int) + 1).toNat = a + 1 from rfl, List.take_of_length_le (by omega)]
     rcases hj with ⟨rfl, hj⟩ | ⟨rfl, hj⟩
     ·exact h2.1 hj
     ·exact h2.2 hj
    omega
 | succ n ih =>
  intro f x hf hx
  have hnl := (List.getElem?_eq_some_iff.1 hf).1
  obtain ⟨q, a, c, x', e1, e2, e3, e4, e5, e6⟩ := frB_get (chain_fr hch hf)
  obtain ⟨fc, fa⟩ := f
  simp only at e1 e2
  subst e1 e2
  have ex : x' = x := by
   simp only [stepAt, Int.toNat_natCast, e3, Option.bind_some, e4] at hx
   exact Option.some.inj hx
  subst ex
  have hls : lenS s q = c.steps.length := by unfold lenS; rw [Int.toNat_natCast, e3]
  have tk : B.take (n + 1 + 1) = B.take (n + 1) ++ [⟨q, a⟩] := by rw [List.take_add_one, hf]; rfl
  rw [advN]
  simp only [hf, hls]
  by_cases hc : (a : Int) + 1 < (c.steps.length : Int)
  ·refine ⟨n + 1, ⟨q, (a : Int) + 1⟩, Nat.le_refl _, by rw [if_pos hc], ?_, ⟨_, hf, rfl⟩, fun kind j hj => ?_⟩
   ·unfold frB
    simp [e3]
    omega
   ·rw [tk]
    simp only [stkU, sumI_append, sumI, frU_step e3 e4]
    omega
  ·have hp : B[n]? = some (B[n]'(by omega)) := List.getElem?_eq_getElem _
   have cb := chain_call hch hp hf
   generalize B[n]'(by omega) = p at hp cb
   unfold callB at cb
   cases hs : stepAt s p.cls p.at_ with
   | none => rw [hs] at cb; cases cb
   | some y =>
    rw [hs] at cb
    simp only [Bool.and_eq_true, decide_eq_true_eq] at cb
    obtain ⟨k, g, g1, g2, g3, g4, g5⟩ := ih hp hs
    refine ⟨k, g, by omega, by rw [if_neg hc, if_neg (by omega)]; exact g2, g3, g4, fun kind j hj => ?_⟩
    have g5' := g5 kind j hj
    rw [delta_call cb.1] at g5'
    rw [g5', tk]
    simp only [stkU, sumI_append, sumI]
    have h1 := frU_step (kind := kind) (j := j) e3 e4
    have h2 := hv.bal0 e3 j
    have h3 : frU s kind j ⟨q, (a : Int) + 1⟩ = 0 := by
     unfold frU
     simp only [Int.toNat_natCast, e3]
     rw [show ((a : Int) + 1).toNat = a + 1 from rfl, List.take_of_length_le (by omega)]
     rcases hj with ⟨rfl, hj⟩ | ⟨rfl, hj⟩
     ·exact h2.1 hj
     ·exact h2.2 hj
    omega
theorem chain_take {s : Sys} : ∀ {B : List Frm} {o : Option Frm} {n : Nat}, chainB s o B = true → chainB s o (B.take n) = true
 | [], _, n, _ => by simp [chainB]
 | b :: B, o, 0, _ => by simp [chainB]
 | b :: B, o, n + 1, h => by
  simp only [List.take_succ_cons, chainB, Bool.and_eq_true] at h ⊢
  exact ⟨h.1, chain_take h.2⟩
theorem chain_new {s : Sys} {B : List Frm} {k : Nat} {g b : Frm} (hc : chainB s none B = true) (hb : B[k]? = some b) (he : b.cls = g.cls) (hg : frB s g = true) : chainB s none (B.take k ++ [g]) = true := by
 rw [chain_app, chain_take hc, hg]
 cases k with
 | zero => simp
 | succ k =>
  have hk := (List.getElem?_eq_some_iff.1 hb).1
  have hp : B[k]? = some (B[k]'(by omega)) := List.getElem?_eq_getElem _
  have cb := chain_call hc hp hb
  have : (B.take (k + 1)).getLast? = some (B[k]'(by omega)) := by
   rw [List.getLast?_eq_getElem?, List.length_take, Nat.min_eq_left (by omega), Nat.add_sub_cancel, List.getElem?_take_of_lt (by omega)]
   exact hp
  rw [this]
  simp only [Option.some_or, Bool.true_and]
  unfold callB at cb ⊢
  rw [← he]
  exact cb
theorem form_chain {s : Sys} {l : List Frm} {c : Int} (h : formB s l c = true) : chainB s none l = true ∧ ∃ f, l[0]? = some f ∧ f.cls = c := by
 unfold formB at h
 cases l with
 | nil => cases h
 | cons f t =>
  simp only [Bool.and_eq_true, decide_eq_true_eq] at h
  exact ⟨h.2, f, rfl, h.1⟩
theorem form_of {s : Sys} {l : List Frm} {c : Int} (h : chainB s none l = true) {f : Frm} (h0 : l[0]? = some f) (hf : f.cls = c) : formB s l c = true := by
 cases l with
 | nil => cases h0
 | cons f' t =>
  cases h0
  unfold formB
  simp only [Bool.and_eq_true, decide_eq_true_eq]
  exact ⟨hf, h⟩
theorem forms_get {s : Sys} : ∀ {cs : List Int} {ls : List (List Frm)}, cs.length = ls.length → formsB s cs ls = true → ∀ {w : Nat} {l : List Frm}, ls[w]? = some l → ∃ c, cs[w]? = some c ∧ formB s l c = true
 | [], [], _, _, w, l, h => by simp at h
 | [], a :: b, h, _, _, _, _ => by simp at h
 | c :: cs, [], h, _, _, _, _ => by simp at h
 | c :: cs, a :: ls, hn, h, w, l, hl => by
  simp only [formsB, Bool.and_eq_true] at h
  cases w with
  | zero => simp at hl; subst hl; exact ⟨c, rfl, h.1⟩
  | succ w => exact forms_get (cs := cs) (ls := ls) (by simpa using hn) h.2 (by simpa using hl)
theorem forms_set {s : Sys} : ∀ {cs : List Int} {ls : List (List Frm)} {w : Nat} {l' : List Frm} {c : Int}, formsB s cs ls = true → cs[w]? = some c → formB s l' c = true → formsB s cs (ls.set w l') = true
 | [], ls, w, l', c, _, h, _ => by simp at h
 | c' :: cs, [], w, l', c, h, _, _ => by simpa using h
 | c' :: cs, a :: ls, 0, l', c, h, hc, hf => by
  simp only [List.set_cons_zero, formsB, Bool.and_eq_true] at h ⊢
  simp at hc
  subst hc
  exact ⟨hf, h.2⟩
 | c' :: cs, a :: ls, w + 1, l', c, h, hc, hf => by
  simp only [List.set_cons_succ, formsB, Bool.and_eq_true] at h ⊢
  exact ⟨h.1, forms_set h.2 (by simpa using hc) hf⟩
structure TkOk (s : Sys) (l : List Frm) (x : Stp) (c : Int) (l' : List Frm) : Prop where
 f : formB s l' c = true
 u : ∀ kind (j : Nat), (kind = 0 ∧ j < s.pools.length) ∨ (kind = 1 ∧ j < s.locks.length) → stkU s kind j l' = stkU s kind j l + delta j kind x
 e : ∀ j : Nat, stkE s j l' ≤ stkE s j l + if x.kind = 5 ∧ x.on = j then 1 else 0
 n : l'.length ≤ l.length + 1
theorem take_ok {s : Sys} (hv : Valid s) {l : List Frm} {c : Int} (hf : formB s l c = true) {f : Frm} {q a : Nat} {cl : Cls} {x : Stp} (T : TopOk s l f q a cl x) :
  TkOk s l x c (if x.kind = 5 then l ++ [⟨x.on, 0⟩] else advE s l) := by
 obtain ⟨hch, f0, h0, h0c⟩ := form_chain hf
 have hln := T.ln
 have hpre := T.pre hv
 by_cases h5 : x.kind = 5
 ·rw [if_pos h5]
  have hsrv := hv.srv T.hc (List.mem_of_getElem? T.hx) h5
  obtain ⟨o1, o2, _, _⟩ := preE_on hpre.1
  have hn : nOf s x = s.cls.length := by simp [nOf, h5]
  obtain ⟨k, hk⟩ : ∃ k : Nat, x.on = k := ⟨x.on.toNat, by omega⟩
  have hc2 : s.cls[k]? = some (s.cls[k]'(by omega)) := List.getElem?_eq_getElem _
  have l1 := (hv.okC _ (List.mem_of_getElem? hc2)).l1
  have hg : frB s ⟨x.on, 0⟩ = true := by
   unfold frB
   rw [hk]
   simp only [Int.toNat_natCast, hc2]
   simp
   omega
  refine ⟨form_of (f := f0) ?_ (by rw [List.getElem?_append_left hln]; exact h0) h0c, fun kind j hj => ?_, fun j => ?_, by simp⟩
  ·rw [chain_app, hch, hg]
   have : l.getLast? = some f := by
    rw [List.getLast?_eq_getElem?]
    exact T.hf
   rw [this]
   simp only [Option.some_or, Bool.true_and]
   unfold callB stepAt
   rw [T.hq, T.ha]
   simp [T.hc, T.hx, h5]
  ·simp only [stkU, sumI_append, sumI, frU_zero, delta_call h5]
   omega
  ·simp only [stkE, sumI_append, sumI]
   unfold frE
   by_cases hj : x.on = j
   ·simp [hj, hsrv, h5]
    split <;> omega
   ·simp [hj]
 ·rw [if_neg h5]
  obtain ⟨n, hn⟩ : ∃ n, l.length = n + 1 := ⟨l.length - 1, by omega⟩
  have hfn : l[n]? = some f := by
   have := T.hf
   rwa [hn, Nat.add_sub_cancel] at this
  have hst : stepAt s f.cls f.at_ = some x := by
   unfold stepAt
   rw [T.hq, T.ha]
   simp [T.hc, T.hx]
  obtain ⟨k, g, g1, g2, g3, ⟨b, g4, g5⟩, g6⟩ := advN_spec hv hch hfn hst
  unfold advE
  rw [hn, g2]
  have hl0 : ∃ f', (l.take k ++ [g])[0]? = some f' ∧ f'.cls = c := by
   cases k with
   | zero =>
    refine ⟨g, by simp, ?_⟩
    rw [h0] at g4
    cases g4
    rw [← g5]
    exact h0c
   | succ k =>
    refine ⟨f0, ?_, h0c⟩
    rw [List.getElem?_append_left (by simp; omega), List.getElem?_take_of_lt (by omega)]
    exact h0
  obtain ⟨f', q1, q2⟩ := hl0
  refine ⟨form_of (chain_new hch g4 g5 g3) q1 q2, fun kind j hj => ?_, fun j => ?_, by simp; omega⟩
  ·have := g6 kind j hj
   rw [← hn, List.take_length] at this
   exact this
  ·have e1 : l = l.take k ++ l.drop k := (List.take_append_drop k l).symm
   have e2 : l.drop k = b :: l.drop (k + 1) := by
    have hk := (List.getElem?_eq_some_iff.1 g4)
    rw [← hk.2]
    exact (List.getElem_cons_drop hk.1).symm
   have e3 : stkE s j l = stkE s j (l.take k) + (frE s j b + stkE s j (l.drop (k + 1))) := by
    conv => lhs; rw [e1, e2]
    simp only [stkE, sumI_append, sumI]
   have e4 : 0 ≤ stkE s j (l.drop (k + 1)) := sumI_nn fun x _ => frE_bd.1
   have e5 : frE s j b = frE s j g := by unfold frE; rw [g5]
   simp only [stkE, sumI_append, sumI] at *
   simp only [h5, false_and, if_false]
   omega
theorem overU_iff {s : Sys} {st : List (List Frm)} : overU s st = false ↔ ∀ j, j < s.pools.length → accU s 0 st.flatten j ≤ sizeAt s j := by
 unfold overU
 rw [List.any_eq_false]
 simp only [List.mem_range, decide_eq_true_eq]
 exact ⟨fun h j hj => by have := h j hj; omega, fun h j hj => by have := h j hj; omega⟩
theorem overL_iff {s : Sys} {st : List (List Frm)} : overL s st = false ↔ ∀ j, j < s.locks.length → accU s 1 st.flatten j ≤ 1 := by
 unfold overL
 rw [List.any_eq_false]
 simp only [List.mem_range, decide_eq_true_eq]
 exact ⟨fun h j hj => by have := h j hj; omega, fun h j hj => by have := h j hj; omega⟩
theorem overE_iff {s : Sys} {st : List (List Frm)} : overE s st = false ↔ ∀ j, j < s.cls.length → srvAt s j = true → accE s st.flatten j ≤ wkOf s j := by
 unfold overE
 rw [List.any_eq_false]
 simp only [List.mem_range, Bool.and_eq_true, decide_eq_true_eq]
 exact ⟨fun h j hj hs => by have := h j hj; simp [hs] at this; omega, fun h j hj => by
  intro ⟨hs, h2⟩
  have := h j hj hs
  omega⟩
theorem wks_small {s : Sys} (hv : Valid s) : (wksE s).length ≤ 24 := by
 have : ∀ (l : List Cls) (i : Nat), (∀ c ∈ l, c.wk ≤ 4) → (wksC l i).length ≤ 4 * l.length := by
  intro l
  induction l with
  | nil => intro i _; simp [wksC]
  | cons a l ih =>
   intro i h
   have h1 := ih (i + 1) fun c hc => h c (by simp [hc])
   have h2 := h a (by simp)
   simp only [wksC, List.length_append, List.length_cons]
   split
   ·simp only [List.length_nil]; omega
   ·simp only [List.length_replicate]; omega
 have := this s.cls 0 fun c hc => (hv.okC c hc).w4
 have := hv.c6
 unfold wksE
 omega
theorem vst_small {s : Sys} {st : List (List Frm)} (hv : Valid s) (hln : (wksE s).length = st.length) (hfm : formsB s (wksE s) st = true) (he : overE s st = false) : st.length ≤ 24 ∧ st.flatten.length ≤ 48 := by
 have h1 : st.length ≤ 24 := by have := wks_small hv; omega
 refine ⟨h1, ?_⟩
 have key : ∀ l ∈ st, (l.length : Int) ≤ 1 + sumI (fun f => if srvAt s f.cls = true then 1 else 0) l := by
  intro l hl
  obtain ⟨w, hw⟩ := List.getElem?_of_mem hl
  obtain ⟨c, _, hf⟩ := forms_get hln hfm hw
  obtain ⟨hch, _⟩ := form_chain hf
  cases l with
  | nil => simp [sumI]
  | cons f t =>
   simp only [chainB, Bool.and_eq_true] at hch
   have hs := chain_srv hv hch.1.1 hch.2
   have : ∀ t : List Frm, (∀ f ∈ t, srvAt s f.cls = true) → (t.length : Int) = sumI (fun f => if srvAt s f.cls = true then 1 else 0) t := by
    intro t
    induction t with
    | nil => intro _; simp [sumI]
    | cons g t ih =>
     intro h
     have h1 := ih fun f hf => h f (by simp [hf])
     simp only [sumI, h g (by simp), if_true, List.length_cons]
     omega
   have h2 := this t hs
   simp only [sumI, List.length_cons]
   split <;> omega
 have fl : (st.flatten.length : Int) ≤ st.length + sumI (fun f => if srvAt s f.cls = true then 1 else 0) st.flatten := by
  clear h1 he hln hfm
  induction st with
  | nil => simp [sumI]
  | cons l st ih =>
   have h1 := ih fun l hl => key l (by simp [hl])
   have h2 := key l (by simp)
   simp only [List.flatten_cons, sumI_append, List.length_append, List.length_cons]
   omega
 have hfr : ∀ f ∈ st.flatten, 0 ≤ f.cls ∧ f.cls < s.cls.length := by
  intro f hf
  obtain ⟨l, hl, hfl⟩ := List.mem_flatten.1 hf
  obtain ⟨q, a, c, x, e1, e2, e3, e4, e5, e6⟩ := frB_get (forms_ok hln hfm l hl f hfl)
  omega
 have sw : ∀ (n : Nat) (ps : List Frm), (∀ f ∈ ps, 0 ≤ f.cls ∧ f.cls < (n : Int)) → sumI (fun f => if srvAt s f.cls = true then 1 else 0) ps ≤ sumI (fun j => accE s ps j) (List.range n) := by
  intro n ps
  induction ps with
  | nil => intro _; exact sumI_nn fun x _ => by simp [accE, sumI]
  | cons f ps ih =>
   intro h
   have h1 := ih fun g hg => h g (by simp [hg])
   have h2 := h f (by simp)
   have h3 : ∀ (r : List Nat), sumI (fun j : Nat => accE s (f :: ps) j) r = sumI (fun j : Nat => frE s j f) r + sumI (fun j : Nat => accE s ps j) r := by
    intro r
    induction r with
    | nil => simp [sumI]
    | cons j r ih => simp only [sumI, accE] at *; omega
   rw [h3]
   have h4 : (if srvAt s f.cls = true then (1 : Int) else 0) ≤ sumI (fun j : Nat => frE s j f) (List.range n) := by
    have hm : f.cls.toNat ∈ List.range n := List.mem_range.2 (by omega)
    have : ∀ r : List Nat, f.cls.toNat ∈ r → frE s f.cls f ≤ sumI (fun j : Nat => frE s j f) r := by
     intro r
     induction r with
     | nil => intro h; simp at h
     | cons j r ih =>
      intro h
      have hnn : 0 ≤ sumI (fun j : Nat => frE s j f) r := sumI_nn fun x _ => frE_bd.1
      have h0 := (frE_bd (s := s) (j := (j : Int)) (f := f)).1
      simp only [sumI]
      rcases List.mem_cons.1 h with rfl | h
      ·rw [show ((f.cls.toNat : Nat) : Int) = f.cls by omega]
       omega
      ·have := ih h
       omega
    have h5 := this _ hm
    have h6 : frE s f.cls f = if srvAt s f.cls = true then 1 else 0 := by unfold frE; simp
    rw [← h6]
    exact h5
   simp only [sumI]
   omega
 have h3 := sw s.cls.length st.flatten hfr
 have h4 : sumI (fun j => accE s st.flatten j) (List.range s.cls.length) ≤ sumI (fun _ => 4) (List.range s.cls.length) := by
  refine sumI_le fun j hj => ?_
  have hj' := List.mem_range.1 hj
  have hc : s.cls[j]? = some (s.cls[j]'hj') := List.getElem?_eq_getElem _
  have w4 := (hv.okC _ (List.mem_of_getElem? hc)).w4
  cases hs : srvAt s j with
  | true =>
   have := overE_iff.1 he j hj' hs
   have hw : wkOf s j = (s.cls[j]'hj').wk := by unfold wkOf; rw [Int.toNat_natCast, hc]
   omega
  | false =>
   have : ∀ ps : List Frm, accE s ps j = 0 := by
    intro ps
    induction ps with
    | nil => rfl
    | cons f ps ih =>
     have h1 : frE s j f = 0 := by
      unfold frE
      rw [if_neg (by simp [hs])]
     simp only [accE, sumI] at ih ⊢
     omega
   rw [this]
   omega
 have h5 : ∀ n : Nat, sumI (fun _ => (4 : Int)) (List.range n) = 4 * n := by
  intro n
  induction n with
  | zero => rfl
  | succ n ih => rw [List.range_succ, sumI_append, ih]; simp [sumI]; omega
 rw [h5] at h4
 have := hv.c6
 omega
theorem VSt.small {s : Sys} {st : List (List Frm)} (V : VSt s st) : st.length ≤ 24 ∧ st.flatten.length ≤ 48 := vst_small (valid_of V.v) V.ln V.fm V.e
theorem VSt.take {s : Sys} {st : List (List Frm)} (V : VSt s st) {w : Nat} {l : List Frm} (hw : st[w]? = some l) (hp : possB s st (topS s l) = true) : VSt s (takeE s st w) := by
 have hv := valid_of V.v
 obtain ⟨f, q, a, c, x, T⟩ := V.top (List.mem_of_getElem? hw)
 obtain ⟨ci, hci, hf⟩ := forms_get V.ln V.fm hw
 have K := take_ok hv hf T
 obtain ⟨hpre, _⟩ := T.pre hv
 obtain ⟨o1, o2, k1, k5⟩ := preE_on hpre
 obtain ⟨pc, pd⟩ := pre_cnt hpre
 have ht := T.ht
 rw [ht] at hp
 have et : takeE s st w = st.set w (if x.kind = 5 then l ++ [⟨x.on, 0⟩] else advE s l) := by
  unfold takeE
  simp only [hw, ht]
 rw [et]
 generalize (if x.kind = 5 then l ++ [⟨x.on, 0⟩] else advE s l) = l' at K
 have hln : (wksE s).length = (st.set w l').length := by simpa using V.ln
 have hfm := forms_set V.fm hci K.f
 obtain ⟨k, hk⟩ : ∃ k : Nat, x.on = k := ⟨x.on.toNat, by omega⟩
 have hE : overE s (st.set w l') = false := by
  rw [overE_iff]
  intro j hj hs
  rw [accE_set hw]
  have h1 := K.e j
  have h2 := overE_iff.1 V.e j hj hs
  by_cases h5 : x.kind = 5 ∧ x.on = j
  ·have : possB s st x = decide (accE s st.flatten x.on.toNat < wkOf s x.on) := by
    unfold possB
    rw [if_neg (by omega), if_neg (by omega), if_pos h5.1]
   rw [this, h5.2, Int.toNat_natCast, decide_eq_true_eq] at hp
   rw [if_pos h5] at h1
   omega
  ·rw [if_neg h5] at h1
   omega
 obtain ⟨s1, s2⟩ := vst_small hv hln hfm hE
 refine ⟨V.v, ⟨by omega, by omega⟩, hln, hfm, ?_, hE, ?_⟩
 ·rw [overU_iff]
  intro j hj
  rw [accU_set hw, K.u 0 j (.inl ⟨rfl, hj⟩)]
  have h2 := overU_iff.1 V.u j hj
  have hr : 0 ≤ resAt s j := by
   have hc : s.pools[j]? = some (s.pools[j]'hj) := List.getElem?_eq_getElem _
   have := hv.pool _ (List.mem_of_getElem? hc)
   unfold resAt
   rw [Int.toNat_natCast, hc]
   simp only
   omega
  unfold delta
  by_cases hj2 : x.on = j
  ·rw [if_pos hj2]
   by_cases h1 : x.kind = 1
   ·have pe : possB s st x = ((x.deep && decide (0 ≤ sizeAt s x.on - accU s 0 st.flatten x.on.toNat - x.cnt)) || decide (resAt s x.on ≤ sizeAt s x.on - accU s 0 st.flatten x.on.toNat - x.cnt)) := by
     unfold possB
     rw [if_pos h1]
    rw [pe, hj2, Int.toNat_natCast] at hp
    simp only [Bool.or_eq_true, Bool.and_eq_true, decide_eq_true_eq] at hp
    simp only [h1, if_true]
    omega
   ·by_cases h22 : x.kind = 2
    ·have := pc (.inr h22)
     simp [h22]
     omega
    ·simp [h1, h22]
     omega
  ·rw [if_neg hj2]
   omega
 ·rw [overL_iff]
  intro j hj
  rw [accU_set hw, K.u 1 j (.inr ⟨rfl, hj⟩)]
  have h2 := overL_iff.1 V.l j hj
  unfold delta
  by_cases hj2 : x.on = j
  ·rw [if_pos hj2]
   by_cases h3 : x.kind = 3
   ·have pe : possB s st x = decide (accU s 1 st.flatten x.on.toNat = 0) := by
     unfold possB
     rw [if_neg (by omega), if_pos h3]
    rw [pe, hj2, Int.toNat_natCast, decide_eq_true_eq] at hp
    simp [h3]
    omega
   ·by_cases h4 : x.kind = 4
    ·simp [h4]
     omega
    ·simp [h3, h4]
     omega
  ·rw [if_neg hj2]
   omega
end Go.Am
namespace Go.Am
open Go
set_option linter.unusedSimpArgs false
set_option linter.unusedVariables false
set_option maxRecDepth 100000
def stepX (s : Sys) (st : List (List Frm)) (w : Int) : List (List Frm) × Int :=
 if chkX s st ≠ 0 then ([], chkX s st) else if w < 0 ∨ (st.length : Int) ≤ w then ([], 6)
 else if possB s st (topS s ((st[w.toNat]?).getD [])) = true then (takeE s st w.toNat, 0) else ([], 11)
theorem sco_vSt {a b : List (List Frm)} : setC 0 1 (vSt a) (vSt b) = some (vSt a) := rfl
theorem sp57 {F : Nat → Option Fn} (hA : HasA F) (hE : HasE F) {lo : Nat} {m : Mem} (s : Sys) (st : List (List Frm)) (hs : Sml st) (w : Int) : callw F 57 [vSys s, vSt st, vi w] lo m = some (.tup [vSt (stepX s st w).1, vi (stepX s st w).2], m) := by
 have c59 : ∀ {lo m}, callw F 59 [vSys s, vSt st] lo m = some (vi (chkX s st), m) := fun {lo m} => sp59 hA hE s st hs
 refine call_p hE.h57 rfl ?_
 by_cases h : chkX s st = 0
 ·have V := vst_of hs h
  have hv := valid_of V.v
  by_cases h1 : w < 0
  ·have e : stepX s st w = ([], 6) := by unfold stepX; rw [if_neg (by simpa using h), if_pos (.inl h1)]
   rw [e]
   simp only [↓sxc, sx, se, ↓reduceIte, Nat.reduceEqDiff, Nat.reduceAdd, Nat.reduceLT, Nat.reduceLeDiff, Nat.reduceSub, Nat.reduceMul, Int.reduceToNat, Int.reduceLT, Int.reduceLE, Int.reduceEq, ml_i0, ↓smc, sm, ss, c59, h, h1]
   rfl
  ·by_cases h2 : (st.length : Int) ≤ w
   ·have e : stepX s st w = ([], 6) := by unfold stepX; rw [if_neg (by simpa using h), if_pos (.inr h2)]
    rw [e]
    simp only [↓sxc, sx, se, ↓reduceIte, Nat.reduceEqDiff, Nat.reduceAdd, Nat.reduceLT, Nat.reduceLeDiff, Nat.reduceSub, Nat.reduceMul, Int.reduceToNat, Int.reduceLT, Int.reduceLE, Int.reduceEq, ml_i0, ↓smc, sm, ss, c59, h, h1, h2]
    rfl
   ·obtain ⟨k, hk⟩ : ∃ k : Nat, w = k := ⟨w.toNat, by omega⟩
    subst hk
    have hg : st[k]? = some (st[k]'(by omega)) := List.getElem?_eq_getElem _
    generalize st[k]'(by omega) = l at hg
    have hlm := List.mem_of_getElem? hg
    obtain ⟨f, q, a, c, x, T⟩ := V.top hlm
    obtain ⟨hp, hcn⟩ := T.pre hv
    have hst := V.sm.stk hlm
    have c124 : ∀ {lo m}, callw F 124 [vSys s, vSt st] lo m = some (.agg [ints (rowF s.pools.length (accU s 0 st.flatten)), ints (rowF s.locks.length (accU s 1 st.flatten)), ints (rowF s.cls.length (accE s st.flatten))], m) := fun {lo m} => sp124 hE s hv st V.ok
    have c125 : ∀ {lo m}, callw F 125 [vSys s, vSt st, vi k] lo m = some (vStp x, m) := fun {lo m} => sp125 hE s st hg hst T
    have c123 : ∀ {lo m}, callw F 123 [vSys s, .agg [ints (rowF s.pools.length (accU s 0 st.flatten)), ints (rowF s.locks.length (accU s 1 st.flatten)), ints (rowF s.cls.length (accE s st.flatten))], vStp x] lo m = some (.bool (possB s st x), m) := fun {lo m} => sp123 hE s hv st V.ok x hp hcn
    have c126 : ∀ {lo m}, callw F 126 [vSys s, vSt st, vi k] lo m = some (vSt (takeE s st k), m) := fun {lo m} => sp126 hE s st V hg
    have e : stepX s st k = if possB s st x = true then (takeE s st k, 0) else ([], 11) := by
     unfold stepX
     rw [if_neg (by simpa using h), if_neg (by omega), Int.toNat_natCast, hg, Option.getD_some, T.ht]
    rw [e]
    cases hb : possB s st x with
    | false =>
     rw [hb] at c123
     simp only [↓sxc, sx, se, ↓reduceIte, Nat.reduceEqDiff, Nat.reduceAdd, Nat.reduceLT, Nat.reduceLeDiff, Nat.reduceSub, Nat.reduceMul, Int.reduceToNat, Int.reduceLT, Int.reduceLE, Int.reduceEq, ml_i0, ↓smc, sm, ss, c59, h, h1, h2, c124, c125, c123]
     rfl
    | true =>
     rw [hb] at c123
     simp only [↓sxc, sx, se, ↓reduceIte, Nat.reduceEqDiff, Nat.reduceAdd, Nat.reduceLT, Nat.reduceLeDiff, Nat.reduceSub, Nat.reduceMul, Int.reduceToNat, Int.reduceLT, Int.reduceLE, Int.reduceEq, ml_i0, ↓smc, sm, ss, c59, h, h1, h2, c124, c125, c123, c126]
     rfl
 ·have e : stepX s st w = ([], chkX s st) := by unfold stepX; rw [if_pos h]
  rw [e]
  simp only [↓sxc, sx, se, ↓reduceIte, Nat.reduceEqDiff, Nat.reduceAdd, Nat.reduceLT, Nat.reduceLeDiff, Nat.reduceSub, Nat.reduceMul, Int.reduceToNat, Int.reduceLT, Int.reduceLE, Int.reduceEq, ml_i0, ↓smc, sm, ss, c59, h]
  rfl
def startL (s : Sys) : List (List Frm) := (wksE s).map fun c => [⟨c, 0⟩]
structure On (lo : Nat) (m : Mem) (v : V) (cs : List Int) (es : List V) : Prop where
 r : Rw lo m 1 v es
 ln : es.length = cs.length
 e : ∀ (j : Nat) (c : Int), cs[j]? = some c → ∃ k, es[j]? = some (V.row 2 k 0 1) ∧ lo ≤ k ∧ k < m.next ∧ m.blk k = some (.row 2 [vFrm ⟨c, 0⟩]) ∧ ∀ l, v ≠ V.row 1 k 0 l
theorem step_v {s : Sys} {st : List (List Frm)} (V : VSt s st) {w : Int} (h : (stepX s st w).2 = 0) : VSt s (stepX s st w).1 ∧ ∃ (k : Nat) (l : List Frm), w = k ∧ st[k]? = some l ∧ possB s st (topS s l) = true ∧ (stepX s st w).1 = takeE s st k := by
 unfold stepX at h ⊢
 rw [if_neg (by simpa using V.chk)] at h ⊢
 by_cases h1 : w < 0 ∨ (st.length : Int) ≤ w
 ·rw [if_pos h1] at h; simp at h
 ·rw [if_neg h1] at h ⊢
  obtain ⟨k, hk⟩ : ∃ k : Nat, w = k := ⟨w.toNat, by omega⟩
  subst hk
  have hg : st[k]? = some (st[k]'(by omega)) := List.getElem?_eq_getElem _
  rw [Int.toNat_natCast, hg, Option.getD_some] at h ⊢
  by_cases hp : possB s st (topS s (st[k]'(by omega))) = true
  ·rw [if_pos hp] at h ⊢
   exact ⟨V.take hg hp, k, _, rfl, hg, hp, rfl⟩
  ·rw [if_neg hp] at h; simp at h
end Go.Am
namespace Go.Am
open Go
set_option linter.unusedSimpArgs false
set_option linter.unusedVariables false
set_option maxRecDepth 100000
theorem sp132 {F : Nat → Option Fn} (hE : HasE F) {lo : Nat} {m : Mem} (s : Sys) (hl : s.cls.length < 100) (hw : ∀ c ∈ s.cls, 0 ≤ c.wk ∧ c.wk ≤ 1000) : callw F 132 [vSys s] lo m = some (ints (wksE s), m) := by
 have hwl : ∀ k, (wksC (s.cls.take k) 0).length ≤ 100000 := fun k => by
  have h1 := wksC_len (l := s.cls.take k) (i := 0) fun c hc => (hw c (List.mem_of_mem_take hc)).2
  have h2 : (s.cls.take k).length ≤ 100 := by simp; omega
  omega
 have loop1 : ∀ (c : Cls) (hc : 0 ≤ c.wk ∧ c.wk ≤ 1000) (i : Nat) (hg : s.cls[i]? = some c) (pre : List Int) (hp : pre.length ≤ 100000) (r : Nat) (j : Nat) (v : V) (m' : Mem) (Q : Ex → St → Prop), r = (c.wk - j).toNat → (j : Int) ≤ c.wk → (c.srv = true → j = 0) → m.next ≤ m'.next → Rw m.next m' 1 v ((pre ++ List.replicate j (i : Int)).map vi) →
   (∀ v m' e, m.next ≤ m'.next → Rw m.next m' 1 v ((pre ++ if c.srv = true then [] else List.replicate c.wk.toNat (i : Int)).map vi) → Q (.exit 2) ⟨(3, v) :: (4, vi i) :: e, [(1, vSys s)], [], m'⟩) →
   W F m.next L132_1 ⟨[(3, v), (4, vi i), (5, vi j)], [(1, vSys s)], [], m'⟩ Q := by
  intro c hc i hg pre hp r
  have i0 : (0 : Int) ≤ i := by omega
  have in_ : ((i : Nat) : Int).toNat = i := rfl
  induction r with
  | zero =>
   intro j v m' Q hr hjw hjs hm hrw hQ
   rw [W_L (c := L132_1) rfl]
   have : ¬ ((j : Nat) : Int) < c.wk := by omega
   simp only [↓sxc, sx, se, ↓reduceIte, Nat.reduceEqDiff, Nat.reduceAdd, Nat.reduceLT, Nat.reduceLeDiff, Nat.reduceSub, Nat.reduceMul, Int.reduceToNat, Int.reduceLT, Int.reduceLE, Int.reduceEq, ml_i0, ↓smc, sm, this, i0, in_, hg]
   refine hQ v m' _ hm ?_
   have : j = c.wk.toNat := by omega
   cases hs : c.srv with
   | true =>
    have h0 := hjs hs
    subst h0
    simpa using hrw
   | false =>
    rw [← this]
    exact hrw
  | succ r ih =>
   intro j v m' Q hr hjw hjs hm hrw hQ
   rw [W_L (c := L132_1) rfl]
   have c0 : ((j : Nat) : Int) < c.wk := by omega
   have wr : wrapF .i64 ((j : Int) + 1) = ((j + 1 : Nat) : Int) := by rw [wr_i64 (by omega) (by omega)]; rfl
   cases hs : c.srv with
   | true =>
    simp only [↓sxc, sx, se, ↓reduceIte, Nat.reduceEqDiff, Nat.reduceAdd, Nat.reduceLT, Nat.reduceLeDiff, Nat.reduceSub, Nat.reduceMul, Int.reduceToNat, Int.reduceLT, Int.reduceLE, Int.reduceEq, ml_i0, ↓smc, sm, c0, hs, wr, i0, in_, hg]
    refine hQ v m' _ hm ?_
    have h0 := hjs hs
    subst h0
    rw [if_pos hs]
    simpa using hrw
   | false =>
    obtain ⟨v', m'', hap, hr', hn, _⟩ := hrw.app (y := .lst false 1 [vi i]) hm vw_lst (.inl rfl) (by simp [big]; omega)
    simp only [↓sxc, sx, se, ↓reduceIte, Nat.reduceEqDiff, Nat.reduceAdd, Nat.reduceLT, Nat.reduceLeDiff, Nat.reduceSub, Nat.reduceMul, Int.reduceToNat, Int.reduceLT, Int.reduceLE, Int.reduceEq, ml_i0, ↓smc, sm, c0, hs, hap, wr, i0, in_, hg]
    refine ih (j + 1) v' (m''.bump 1) Q (by omega) (by omega) (fun h => by rw [hs] at h; cases h) ?_ ?_ hQ
    ·show m.next ≤ m''.next + 1; omega
    ·rw [List.replicate_succ', ← List.append_assoc, List.map_append]
     exact hr'
 have loop2 : ∀ (t : List Cls) (i : Nat) (v : V) (m' : Mem) (Q : Ex → St → Prop), s.cls.drop i = t → m.next ≤ m'.next → Rw m.next m' 1 v ((wksC (s.cls.take i) 0).map vi) →
   (∀ v m' e b, m.next ≤ m'.next → Rw m.next m' 1 v ((wksE s).map vi) → Q (.exit 0) ⟨(3, v) :: e, b, [], m'⟩) →
   W F m.next L132_2 ⟨[(3, v), (4, vi i)], [(1, vSys s)], [], m'⟩ Q := by
  intro t
  induction t with
  | nil =>
   intro i v m' Q hd hm hr hQ
   have hlt := drop_nil hd
   rw [W_L (c := L132_2) rfl]
   have : ¬ ((i : Nat) : Int) < (s.cls.length : Int) := by omega
   simp only [↓sxc, sx, se, ↓reduceIte, Nat.reduceEqDiff, Nat.reduceAdd, Nat.reduceLT, Nat.reduceLeDiff, Nat.reduceSub, Nat.reduceMul, Int.reduceToNat, Int.reduceLT, Int.reduceLE, Int.reduceEq, ml_i0, ↓smc, sm, this]
   rw [List.take_of_length_le hlt] at hr
   exact hQ v m' _ _ hm hr
  | cons c t ih =>
   intro i v m' Q hd hm hr hQ
   obtain ⟨hg, hd', hlt⟩ := drop_cons hd
   rw [W_L (c := L132_2) rfl]
   have c0 : ((i : Nat) : Int) < (s.cls.length : Int) := by omega
   have wr : wrapF .i64 ((i : Int) + 1) = ((i + 1 : Nat) : Int) := by rw [wr_i64 (by omega) (by omega)]; rfl
   have hwc := hw c (List.mem_of_getElem? hg)
   simp only [↓sxc, sx, se, ↓reduceIte, Nat.reduceEqDiff, Nat.reduceAdd, Nat.reduceLT, Nat.reduceLeDiff, Nat.reduceSub, Nat.reduceMul, Int.reduceToNat, Int.reduceLT, Int.reduceLE, Int.reduceEq, ml_i0, ↓smc, sm, c0, hg]
   refine loop1 c hwc i hg (wksC (s.cls.take i) 0) (hwl i) _ 0 v m' _ rfl (by omega) (fun _ => rfl) hm (by simpa using hr) (fun v m' e q1 q2 => ?_)
   simp only [↓sxc, sx, se, ↓reduceIte, Nat.reduceEqDiff, Nat.reduceAdd, Nat.reduceLT, Nat.reduceLeDiff, Nat.reduceSub, Nat.reduceMul, Int.reduceToNat, Int.reduceLT, Int.reduceLE, Int.reduceEq, ml_i0, ↓smc, sm, wr]
   refine ih (i + 1) v m' Q hd' q1 ?_ hQ
   rw [take_succ_drop hd, wksC_snoc]
   have : (s.cls.take i).length = i := by simp; omega
   rw [this, Nat.zero_add]
   exact q2
 refine call_p hE.h132 rfl ?_
 simp only [↓sxc, sx, se, ↓reduceIte, Nat.reduceEqDiff, Nat.reduceAdd, Nat.reduceLT, Nat.reduceLeDiff, Nat.reduceSub, Nat.reduceMul, Int.reduceToNat, Int.reduceLT, Int.reduceLE, Int.reduceEq, ml_i0, ↓smc, sm]
 refine loop2 s.cls 0 .nil m _ rfl (Nat.le_refl _) .nil (fun v m' e b q1 q2 => ?_)
 have fz : freeze m.next m' 8 v = some (ints (wksE s)) := by
  rw [q2.freeze, mapO_id (fun x hx => by
   obtain ⟨y, _, rfl⟩ := List.mem_map.1 hx
   rfl)]
  rfl
 simp only [↓sxc, sx, se, ↓reduceIte, Nat.reduceEqDiff, Nat.reduceAdd, Nat.reduceLT, Nat.reduceLeDiff, Nat.reduceSub, Nat.reduceMul, Int.reduceToNat, Int.reduceLT, Int.reduceLE, Int.reduceEq, ml_i0, ↓smc, sm, fz]
theorem Rw.appH {lo sz s h : Nat} {m : Mem} {v y : V} {xs ys : List V} (hr : Rw lo m sz v xs) (h1 : lo ≤ h) (h2 : h < m.next) (hv : view m y = some (s, ys)) (hs : s = sz ∨ ys.length = 0) (hb : xs.length + ys.length < big) :
  ∃ v' m', apV lo h m sz v y = some (v', m') ∧ Rw lo m' sz v' (xs ++ ys) ∧ m'.next = m.next ∧ (∀ k, (∀ l, v ≠ .row sz k 0 l) → k ≠ h → m'.blk k = m.blk k) ∧ (v' = .nil ∨ ∃ l, v' = .row sz h 0 l) := by
 rcases hr with ⟨rfl, rfl⟩ | ⟨h', rfl, q1, q2, q3⟩
 ·cases ys with
  | nil => exact ⟨.nil, m, by simp only [apV, hv], .inl ⟨rfl, rfl⟩, rfl, fun _ _ _ => rfl, .inl rfl⟩
  | cons y ys =>
   have hs' : s = sz := by
    rcases hs with h | h
    ·exact h
    ·simp at h
   exact ⟨_, _, ap_nil hv hs' (by simpa using hb), .inr ⟨h, by simp, h1, h2, by simp [Mem.set]⟩, rfl, fun k _ hk => by simp [Mem.set, hk], .inr ⟨_, rfl⟩⟩
 ·refine ⟨_, _, ap_row hv q1 hs hb q3 (by simp), .inr ⟨h, by simp, h1, h2, by simp [Mem.set]⟩, rfl, fun k hk hk2 => ?_, .inr ⟨_, rfl⟩⟩
  have : k ≠ h' := fun e => hk xs.length (by rw [e])
  simp [Mem.set, hk2, this]
theorem On.app {lo h0 h : Nat} {m m1 : Mem} {v : V} {cs : List Int} {es : List V} {c : Int} (H : On lo m v cs es) (hlo : lo ≤ m.next) (hl : cs.length < 1000000) (g1 : m.next ≤ h0) (g2 : h0 < m1.next) (g3 : m.next ≤ h) (g4 : h < m1.next) (g5 : h ≠ h0) (hb : ∀ k, k < m.next → m1.blk k = m.blk k) (b1 : m1.blk h0 = some (.row 2 [vFrm ⟨c, 0⟩])) (hn : m.next ≤ m1.next) :
  ∃ v' m2, apV lo h m1 1 v (.lst false 1 [.row 2 h0 0 1]) = some (v', m2) ∧ m2.next = m1.next ∧ (v'.ones = true ∧ v'.cells.length = 1) ∧ v'.cells ++ [] = [v'] ∧ ∀ m3 : Mem, m3.blk = m2.blk → m2.next ≤ m3.next → On lo m3 v' (cs ++ [c]) (es ++ [.row 2 h0 0 1]) := by
 have lt : ∀ k l, v = .row 1 k 0 l → k < m.next := by
  intro k l hk
  rcases H.r with ⟨h1, _⟩ | ⟨h, h1, h2, h3, h4⟩
  ·rw [h1] at hk; cases hk
  ·rw [h1] at hk
   cases hk
   exact h3
 have hr1 : Rw lo m1 1 v es := H.r.mono hn (fun k l hk => hb k (lt k l hk))
 have hel := H.ln
 obtain ⟨v', m2, hap, hr', hnx, hb2, hv'⟩ := hr1.appH (h := h) (y := .lst false 1 [.row 2 h0 0 1]) (by omega) g4 vw_lst (.inl rfl) (by simp [big]; omega)
 refine ⟨v', m2, hap, hnx, ?_, ?_, fun m3 e3 n3 => ⟨hr'.mono n3 (fun k l _ => by rw [e3]), by simp [hel], fun j cj hj => ?_⟩⟩
 ·rcases hv' with rfl | ⟨l, rfl⟩ <;> exact ⟨rfl, rfl⟩
 ·rcases hv' with rfl | ⟨l, rfl⟩ <;> rfl
 ·have hvk : ∀ k, k ≠ h → ∀ l, v' ≠ .row 1 k 0 l := by
   intro k hk l hh
   rcases hv' with rfl | ⟨l', rfl⟩
   ·cases hh
   ·cases hh; exact hk rfl
  by_cases hji : j < cs.length
  ·rw [List.getElem?_append_left hji] at hj
   obtain ⟨k, a1, a2, a3, a4, a5⟩ := H.e j cj hj
   refine ⟨k, by rw [List.getElem?_append_left (by omega)]; exact a1, a2, by omega, ?_, hvk k (by omega)⟩
   rw [e3, hb2 k a5 (by omega), hb k a3]
   exact a4
  ·have hj2 := (List.getElem?_eq_some_iff.1 hj).1
   rw [List.length_append, List.length_singleton] at hj2
   have : j = cs.length := by omega
   subst this
   rw [List.getElem?_append_right (by omega), Nat.sub_self] at hj
   simp only [List.getElem?_cons_zero, Option.some.injEq] at hj
   subst hj
   refine ⟨h0, by rw [List.getElem?_append_right (by omega), hel, Nat.sub_self]; rfl, by omega, by omega, ?_, hvk _ (Ne.symm g5)⟩
   rw [e3, hb2 _ (fun l hk => by have := lt _ _ hk; omega) (Ne.symm g5), b1]
theorem On.fz {lo n : Nat} {s : Sys} {m : Mem} {v : V} {es : List V} (H : On lo m v (wksE s) es) : v.one = true ∧ freeze lo m (n + 4) v = some (vStks (startL s)) := by
 refine ⟨?_, ?_⟩
 ·rcases H.r with ⟨rfl, _⟩ | ⟨h, rfl, _⟩ <;> rfl
 ·rw [H.r.freeze]
  rw [mapO_pt (ys := (startL s).map vStk) (by simp [startL, H.ln]) (fun j x y hx hy => by
   unfold startL at hy
   rw [List.map_map, List.getElem?_map] at hy
   cases hc : (wksE s)[j]? with
   | none => rw [hc] at hy; cases hy
   | some c =>
    rw [hc] at hy
    cases hy
    obtain ⟨k, a1, a2, a3, a4, _⟩ := H.e j c hc
    rw [a1] at hx
    cases hx
    rw [fz_row a4 a2 (by simp)]
    rfl)]
  rfl
end Go.Am
namespace Go.Am
open Go
set_option linter.unusedSimpArgs false
set_option linter.unusedVariables false
set_option maxRecDepth 100000
theorem ud_bal {pool : Int} : ∀ {l : List Stp} {q : Int × Int}, (ud pool l q).1 = q.1 + bal pool 0 l
 | [], q => by simp [ud, bal]
 | x :: t, q => by
  rw [ud, ud_bal (l := t), bal]
  have : (udStep pool x q).1 = q.1 + delta pool 0 x := by
   unfold udStep delta
   by_cases h : x.on = pool
   ·by_cases h1 : x.kind = 1
    ·simp [h, h1]
    ·by_cases h2 : x.kind = 2
     ·simp [h, h2]; omega
     ·simp [h, h1, h2]
   ·simp [h]
  omega
def held0 (l : List Stp) (n : Nat) : List Int := ((List.range n).filter fun (j : Nat) => decide (0 < bal (j : Int) 0 l)).map fun (j : Nat) => (j : Int)
def held1 (p : Nat) (l : List Stp) (n : Nat) : List Int := ((List.range n).filter fun (j : Nat) => decide (0 < bal (j : Int) 1 l)).map fun (j : Nat) => (p : Int) + (j : Int)
def hold (s : Sys) (i : Nat) (c : Cls) (l : List Stp) : List Int :=
 held0 l s.pools.length ++ held1 s.pools.length l s.locks.length ++ if c.srv = true then [(s.pools.length : Int) + s.locks.length + i] else []
end Go.Am
namespace Go.Am
open Go
set_option linter.unusedSimpArgs false
set_option linter.unusedVariables false
set_option maxRecDepth 100000
def lkE (lock : Int) : List Stp → Bool → Bool
 | [], b => b
 | x :: t, b => lkE lock t (if x.on = lock ∧ x.kind = 4 then false else if x.on = lock ∧ x.kind = 3 then true else b)
theorem sp161 {F : Nat → Option Fn} (hE : HasE F) {lo : Nat} {m : Mem} (c : Cls) (lock : Int) (n : Nat) (hn : n ≤ c.steps.length) (hl : c.steps.length ≤ 12) : callw F 161 [vCls c, vi lock, vi n] lo m = some (.bool (lkE lock (c.steps.take n) false), m) := by
 have loop : ∀ (t : List Stp) (i : Nat) (b : Bool) (Q : Ex → St → Prop), (c.steps.take n).drop i = t →
   (∀ e, Q (.exit 0) ⟨(1, vi lock) :: (2, vi n) :: (7, .bool (lkE lock t b)) :: e, [(3, vCls c)], [], m⟩) →
   W F m.next L161_1 ⟨[(1, vi lock), (2, vi n), (7, .bool b), (8, vi i)], [(3, vCls c)], [], m⟩ Q := by
  intro t
  induction t with
  | nil =>
   intro i b Q hd hQ
   have hlt := drop_nil hd
   rw [List.length_take, Nat.min_eq_left hn] at hlt
   rw [W_L (c := L161_1) rfl]
   have : ¬ ((i : Nat) : Int) < (n : Int) := by omega
   simp only [↓sxc, sx, se, ↓reduceIte, Nat.reduceEqDiff, Nat.reduceAdd, Nat.reduceLT, Nat.reduceLeDiff, Nat.reduceSub, Nat.reduceMul, Int.reduceToNat, Int.reduceLT, Int.reduceLE, Int.reduceEq, ml_i0, ↓smc, sm, this]
   exact hQ _
  | cons x t ih =>
   intro i b Q hd hQ
   obtain ⟨hg, hd', hlt⟩ := drop_cons hd
   rw [List.length_take, Nat.min_eq_left hn] at hlt
   rw [List.getElem?_take_of_lt hlt] at hg
   rw [W_L (c := L161_1) rfl]
   have c0 : ((i : Nat) : Int) < (n : Int) := by omega
   have wr : wrapF .i64 ((i : Int) + 1) = ((i + 1 : Nat) : Int) := by rw [wr_i64 (by omega) (by omega)]; rfl
   have i0 : (0 : Int) ≤ i := by omega
   have in_ : ((i : Nat) : Int).toNat = i := rfl
   by_cases h1 : x.on = lock
   ·by_cases h3 : x.kind = 3
    ·have h4 : ¬ (3 : Int) = 4 := by omega
     simp only [↓sxc, sx, se, ↓reduceIte, Nat.reduceEqDiff, Nat.reduceAdd, Nat.reduceLT, Nat.reduceLeDiff, Nat.reduceSub, Nat.reduceMul, Int.reduceToNat, Int.reduceLT, Int.reduceLE, Int.reduceEq, ml_i0, ↓smc, sm, c0, wr, i0, in_, hg, h1, h3, h4]
     refine ih (i + 1) true Q hd' (fun e => ?_)
     have := hQ e
     rw [lkE, if_neg (by omega), if_pos ⟨h1, h3⟩] at this
     exact this
    ·by_cases h4 : x.kind = 4
     ·have h43 : ¬ (4 : Int) = 3 := by omega
      simp only [↓sxc, sx, se, ↓reduceIte, Nat.reduceEqDiff, Nat.reduceAdd, Nat.reduceLT, Nat.reduceLeDiff, Nat.reduceSub, Nat.reduceMul, Int.reduceToNat, Int.reduceLT, Int.reduceLE, Int.reduceEq, ml_i0, ↓smc, sm, c0, wr, i0, in_, hg, h1, h4, h43]
      refine ih (i + 1) false Q hd' (fun e => ?_)
      have := hQ e
      rw [lkE, if_pos ⟨h1, h4⟩] at this
      exact this
     ·simp only [↓sxc, sx, se, ↓reduceIte, Nat.reduceEqDiff, Nat.reduceAdd, Nat.reduceLT, Nat.reduceLeDiff, Nat.reduceSub, Nat.reduceMul, Int.reduceToNat, Int.reduceLT, Int.reduceLE, Int.reduceEq, ml_i0, ↓smc, sm, c0, wr, i0, in_, hg, h1, h3, h4]
      refine ih (i + 1) b Q hd' (fun e => ?_)
      have := hQ e
      rw [lkE, if_neg (by omega), if_neg (by omega)] at this
      exact this
   ·simp only [↓sxc, sx, se, ↓reduceIte, Nat.reduceEqDiff, Nat.reduceAdd, Nat.reduceLT, Nat.reduceLeDiff, Nat.reduceSub, Nat.reduceMul, Int.reduceToNat, Int.reduceLT, Int.reduceLE, Int.reduceEq, ml_i0, ↓smc, sm, c0, wr, i0, in_, hg, h1]
    refine ih (i + 1) b Q hd' (fun e => ?_)
    have := hQ e
    rw [lkE, if_neg (fun h => h1 h.1), if_neg (fun h => h1 h.1)] at this
    exact this
 refine call_p hE.h161 rfl ?_
 simp only [↓sxc, sx, se, ↓reduceIte, Nat.reduceEqDiff, Nat.reduceAdd, Nat.reduceLT, Nat.reduceLeDiff, Nat.reduceSub, Nat.reduceMul, Int.reduceToNat, Int.reduceLT, Int.reduceLE, Int.reduceEq, ml_i0, ↓smc, sm]
 refine loop _ 0 false _ rfl (fun e => ?_)
 simp only [↓sxc, sx, se, ↓reduceIte, Nat.reduceEqDiff, Nat.reduceAdd, Nat.reduceLT, Nat.reduceLeDiff, Nat.reduceSub, Nat.reduceMul, Int.reduceToNat, Int.reduceLT, Int.reduceLE, Int.reduceEq, ml_i0, ↓smc, sm]
theorem lk_bal {s : Sys} {j : Nat} : ∀ {t pre : List Stp}, stepsE s pre t = 0 → Bg s pre → ∀ n, lkE j (t.take n) (decide (bal j 1 pre = 1)) = decide (bal j 1 (pre ++ t.take n) = 1)
 | [], pre, _, h, n => by simp [lkE]
 | y :: t, pre, he, h, n => by
  unfold stepsE at he
  split at he
  ·rename_i h1; exact absurd he h1
  ·rename_i h1
   cases n with
   | zero => simp [lkE]
   | succ n =>
    have h1' : stepE s y (bal y.on 0 pre) (bal y.on 1 pre) = 0 := by simpa using h1
    have hb := h.step h1'
    have := lk_bal (j := j) he hb n
    rw [List.take_succ_cons, lkE]
    have e : (if y.on = j ∧ y.kind = 4 then false else if y.on = j ∧ y.kind = 3 then true else decide (bal j 1 pre = 1)) = decide (bal j 1 (pre ++ [y]) = 1) := by
     have hk := hb.k j
     have hk0 := h.k j
     rw [bal_one] at hk ⊢
     unfold delta at hk ⊢
     by_cases h2 : y.on = j
     ·by_cases h4 : y.kind = 4
      ·simp [h2, h4] at hk ⊢
       omega
      ·by_cases h3 : y.kind = 3
       ·simp [h2, h3] at hk ⊢
        omega
       ·simp [h2, h3, h4]
     ·simp [h2]
    rw [e, this, List.append_assoc, List.singleton_append]
theorem lk_frU {s : Sys} (hv : Valid s) {q : Nat} {c : Cls} (hc : s.cls[q]? = some c) (j n : Nat) : frU s 1 j ⟨q, n⟩ = if lkE j (c.steps.take n) false = true then 1 else 0 := by
 have h := lk_bal (j := j) (clsOk_of (hv.cls c (List.mem_of_getElem? hc))).steps ⟨fun j => by simp [bal], fun j => by simp [bal]⟩ n
 have hb := (hv.bg hc n).k j
 simp only [List.nil_append] at h
 have e0 : decide (bal j 1 [] = 1) = false := by simp [bal]
 rw [e0] at h
 rw [h]
 unfold frU
 simp only [Int.toNat_natCast, hc]
 simp only [decide_eq_true_eq]
 split <;> omega
theorem sp134 {F : Nat → Option Fn} (hB : HasB F) (hE : HasE F) {lo : Nat} {m : Mem} (s : Sys) (hv : Valid s) (st : List (List Frm)) (hl1 : st.length < 100000) (hl2 : st.flatten.length < 100000) (hfr : ∀ l ∈ st, ∀ f ∈ l, frB s f = true) (k : Nat)  : callw F 134 [vSys s, vSt st, vi k] lo m = some (vi (sumI (frU s 0 k) st.flatten), m) := by
 have k0 : (0 : Int) ≤ k := by omega
 have kn : ((k : Nat) : Int).toNat = k := rfl
 have gb : ∀ f, -12000 ≤ frU s 0 k f ∧ frU s 0 k f ≤ 12000 := fun f => by
  exact frU_bd hv
 have loop1 : ∀ (l : List Frm) (hl : l ∈ st) (i : Nat) (hi : st[i]? = some l) (t : List Frm) (j : Nat) (a : Int) (n : Nat) (Q : Ex → St → Prop), l.drop j = t → -(2000000000 - 12000 * t.length) ≤ a → a ≤ 2000000000 - 12000 * t.length →
   (∀ n e, Q (.exit 2) ⟨(2, vi k) :: (7, vi (a + sumI (frU s 0 k) t)) :: (8, vi i) :: e, [(3, vSys s), (4, vSt st)], [], m.bump n⟩) →
   W F m.next L134_1 ⟨[(2, vi k), (7, vi a), (8, vi i), (9, vi j)], [(3, vSys s), (4, vSt st)], [], m.bump n⟩ Q := by
  intro l hl i hi t
  have i0 : (0 : Int) ≤ i := by omega
  have in_ : ((i : Nat) : Int).toNat = i := rfl
  have hll : l.length < 100000 := by have := flat_le hl; omega
  induction t with
  | nil =>
   intro j a n Q hd h1 h2 hQ
   have hlt := drop_nil hd
   rw [W_L (c := L134_1) rfl]
   have : ¬ ((j : Nat) : Int) < (l.length : Int) := by omega
   simp only [↓sxc, sx, se, ↓reduceIte, Nat.reduceEqDiff, Nat.reduceAdd, Nat.reduceLT, Nat.reduceLeDiff, Nat.reduceSub, Nat.reduceMul, Int.reduceToNat, Int.reduceLT, Int.reduceLE, Int.reduceEq, ml_i0, ↓smc, sm, ss, i0, in_, hi, this]
   have := hQ n [(9, vi j), (25, .bool false)]
   simp only [sumI, Int.add_zero] at this
   exact this
  | cons f t ih =>
   intro j a n Q hd h1 h2 hQ
   obtain ⟨hg, hd', hlt⟩ := drop_cons hd
   obtain ⟨q, b, c, x, e1, e2, e3, e4, e5, e6⟩ := frB_get (hfr l hl f (List.mem_of_getElem? hg))
   obtain ⟨fc, fa⟩ := f
   simp only at e1 e2
   subst e1 e2
   rw [W_L (c := L134_1) rfl]
   have c0 : ((j : Nat) : Int) < (l.length : Int) := by omega
   have wr : wrapF .i64 ((j : Int) + 1) = ((j + 1 : Nat) : Int) := by rw [wr_i64 (by omega) (by omega)]; rfl
   have j0 : (0 : Int) ≤ j := by omega
   have jn : ((j : Nat) : Int).toNat = j := rfl
   have q0 : (0 : Int) ≤ q := by omega
   have qn : ((q : Nat) : Int).toNat = q := rfl
   have okc := hv.okC c (List.mem_of_getElem? e3)
   have hgf := gb ⟨q, b⟩
   rw [List.length_cons] at h1 h2
   push_cast at h1 h2
   have c93 : ∀ {lo m}, callw F 93 [vCls c, vi k, vi b, .bool false] lo m = some (vi (frU s 0 k ⟨q, b⟩), m) := fun {lo m} => by
    rw [sp93 hB c k b false okc (by omega)]
    unfold unitsE frU
    simp only [Int.toNat_natCast, e3]
    rw [if_neg (by simp), ud_bal]
    simp
   have wa : wrapF .i64 (a + frU s 0 k ⟨q, b⟩) = a + frU s 0 k ⟨q, b⟩ := wr_i64 (by omega) (by omega)
   simp only [↓sxc, sx, se, ↓reduceIte, Nat.reduceEqDiff, Nat.reduceAdd, Nat.reduceLT, Nat.reduceLeDiff, Nat.reduceSub, Nat.reduceMul, Int.reduceToNat, Int.reduceLT, Int.reduceLE, Int.reduceEq, ml_i0, ↓smc, sm, ss, i0, in_, hi, c0, wr, j0, jn, hg, q0, qn, e3, c93, wa]
   refine ih (j + 1) (a + frU s 0 k ⟨q, b⟩) _ Q hd' (by omega) (by omega) (fun n e => ?_)
   have := hQ n e
   rw [sumI, ← Int.add_assoc] at this
   exact this
 have loop2 : ∀ (t : List (List Frm)) (i : Nat) (a : Int) (n : Nat) (Q : Ex → St → Prop), st.drop i = t → -(2000000000 - 12000 * t.flatten.length) ≤ a → a ≤ 2000000000 - 12000 * t.flatten.length →
   (∀ n e b, Q (.exit 0) ⟨(2, vi k) :: (7, vi (a + sumI (frU s 0 k) t.flatten)) :: e, b, [], m.bump n⟩) →
   W F m.next L134_2 ⟨[(2, vi k), (7, vi a), (8, vi i)], [(3, vSys s), (4, vSt st)], [], m.bump n⟩ Q := by
  intro t
  induction t with
  | nil =>
   intro i a n Q hd h1 h2 hQ
   have hlt := drop_nil hd
   rw [W_L (c := L134_2) rfl]
   have : ¬ ((i : Nat) : Int) < (st.length : Int) := by omega
   simp only [↓sxc, sx, se, ↓reduceIte, Nat.reduceEqDiff, Nat.reduceAdd, Nat.reduceLT, Nat.reduceLeDiff, Nat.reduceSub, Nat.reduceMul, Int.reduceToNat, Int.reduceLT, Int.reduceLE, Int.reduceEq, ml_i0, ↓smc, sm, ss, this]
   have := hQ n [(8, vi i), (15, .bool false)] [(3, vSys s), (4, vSt st)]
   simp only [List.flatten_nil, sumI, Int.add_zero] at this
   exact this
  | cons l t ih =>
   intro i a n Q hd h1 h2 hQ
   obtain ⟨hg, hd', hlt⟩ := drop_cons hd
   rw [W_L (c := L134_2) rfl]
   have c0 : ((i : Nat) : Int) < (st.length : Int) := by omega
   have wr : wrapF .i64 ((i : Int) + 1) = ((i + 1 : Nat) : Int) := by rw [wr_i64 (by omega) (by omega)]; rfl
   have hlm := List.mem_of_getElem? hg
   rw [List.flatten_cons, List.length_append] at h1 h2
   push_cast at h1 h2
   have sb := sumI_bd (g := frU s 0 k) (b := 12000) (by omega) (l := l) (fun f _ => gb f)
   simp only [↓sxc, sx, se, ↓reduceIte, Nat.reduceEqDiff, Nat.reduceAdd, Nat.reduceLT, Nat.reduceLeDiff, Nat.reduceSub, Nat.reduceMul, Int.reduceToNat, Int.reduceLT, Int.reduceLE, Int.reduceEq, ml_i0, ↓smc, sm, ss, c0]
   refine loop1 l hlm i hg l 0 a n _ (by simp) (by omega) (by omega) (fun n e => ?_)
   simp only [↓sxc, sx, se, ↓reduceIte, Nat.reduceEqDiff, Nat.reduceAdd, Nat.reduceLT, Nat.reduceLeDiff, Nat.reduceSub, Nat.reduceMul, Int.reduceToNat, Int.reduceLT, Int.reduceLE, Int.reduceEq, ml_i0, ↓smc, sm, ss, wr]
   refine ih (i + 1) (a + sumI (frU s 0 k) l) n Q hd' (by omega) (by omega) (fun n e b => ?_)
   have := hQ n e b
   rw [List.flatten_cons, sumI_append, ← Int.add_assoc] at this
   exact this
 refine call_p hE.h134 rfl ?_
 simp only [↓sxc, sx, se, ↓reduceIte, Nat.reduceEqDiff, Nat.reduceAdd, Nat.reduceLT, Nat.reduceLeDiff, Nat.reduceSub, Nat.reduceMul, Int.reduceToNat, Int.reduceLT, Int.reduceLE, Int.reduceEq, ml_i0, ↓smc, sm, ss]
 refine loop2 st 0 0 0 _ rfl (by omega) (by omega) (fun n e b => ?_)
 simp only [↓sxc, sx, se, ↓reduceIte, Nat.reduceEqDiff, Nat.reduceAdd, Nat.reduceLT, Nat.reduceLeDiff, Nat.reduceSub, Nat.reduceMul, Int.reduceToNat, Int.reduceLT, Int.reduceLE, Int.reduceEq, ml_i0, ↓smc, sm, ss, Int.zero_add]
theorem sp135 {F : Nat → Option Fn} (hB : HasB F) (hE : HasE F) {lo : Nat} {m : Mem} (s : Sys) (hv : Valid s) (st : List (List Frm)) (hl1 : st.length < 100000) (hl2 : st.flatten.length < 100000) (hfr : ∀ l ∈ st, ∀ f ∈ l, frB s f = true) (k : Nat)  : callw F 135 [vSys s, vSt st, vi k] lo m = some (vi (sumI (frU s 1 k) st.flatten), m) := by
 have k0 : (0 : Int) ≤ k := by omega
 have kn : ((k : Nat) : Int).toNat = k := rfl
 have gb : ∀ f, -12000 ≤ frU s 1 k f ∧ frU s 1 k f ≤ 12000 := fun f => by
  exact frU_bd hv
 have loop1 : ∀ (l : List Frm) (hl : l ∈ st) (i : Nat) (hi : st[i]? = some l) (t : List Frm) (j : Nat) (a : Int) (n : Nat) (Q : Ex → St → Prop), l.drop j = t → -(2000000000 - 12000 * t.length) ≤ a → a ≤ 2000000000 - 12000 * t.length →
   (∀ n e, Q (.exit 2) ⟨(2, vi k) :: (7, vi (a + sumI (frU s 1 k) t)) :: (8, vi i) :: e, [(3, vSys s), (4, vSt st)], [], m.bump n⟩) →
   W F m.next L135_1 ⟨[(2, vi k), (7, vi a), (8, vi i), (9, vi j)], [(3, vSys s), (4, vSt st)], [], m.bump n⟩ Q := by
  intro l hl i hi t
  have i0 : (0 : Int) ≤ i := by omega
  have in_ : ((i : Nat) : Int).toNat = i := rfl
  have hll : l.length < 100000 := by have := flat_le hl; omega
  induction t with
  | nil =>
   intro j a n Q hd h1 h2 hQ
   have hlt := drop_nil hd
   rw [W_L (c := L135_1) rfl]
   have : ¬ ((j : Nat) : Int) < (l.length : Int) := by omega
   simp only [↓sxc, sx, se, ↓reduceIte, Nat.reduceEqDiff, Nat.reduceAdd, Nat.reduceLT, Nat.reduceLeDiff, Nat.reduceSub, Nat.reduceMul, Int.reduceToNat, Int.reduceLT, Int.reduceLE, Int.reduceEq, ml_i0, ↓smc, sm, ss, i0, in_, hi, this]
   have := hQ n [(9, vi j), (25, .bool false)]
   simp only [sumI, Int.add_zero] at this
   exact this
  | cons f t ih =>
   intro j a n Q hd h1 h2 hQ
   obtain ⟨hg, hd', hlt⟩ := drop_cons hd
   obtain ⟨q, b, c, x, e1, e2, e3, e4, e5, e6⟩ := frB_get (hfr l hl f (List.mem_of_getElem? hg))
   obtain ⟨fc, fa⟩ := f
   simp only at e1 e2
   subst e1 e2
   rw [W_L (c := L135_1) rfl]
   have c0 : ((j : Nat) : Int) < (l.length : Int) := by omega
   have wr : wrapF .i64 ((j : Int) + 1) = ((j + 1 : Nat) : Int) := by rw [wr_i64 (by omega) (by omega)]; rfl
   have j0 : (0 : Int) ≤ j := by omega
   have jn : ((j : Nat) : Int).toNat = j := rfl
   have q0 : (0 : Int) ≤ q := by omega
   have qn : ((q : Nat) : Int).toNat = q := rfl
   have okc := hv.okC c (List.mem_of_getElem? e3)
   have hgf := gb ⟨q, b⟩
   rw [List.length_cons] at h1 h2
   push_cast at h1 h2
   have c161 : ∀ {lo m}, callw F 161 [vCls c, vi k, vi b] lo m = some (.bool (lkE k (c.steps.take b) false), m) := fun {lo m} => sp161 hE c k b (by omega) okc.l12
   have lf := lk_frU hv e3 k b
   have wa : wrapF .i64 (a + 1) = a + 1 := wr_i64 (by omega) (by omega)
   cases hlk : lkE k (c.steps.take b) false with
   | false =>
    rw [hlk] at c161 lf
    simp only [Bool.false_eq_true, if_false] at lf
    simp only [↓sxc, sx, se, ↓reduceIte, Nat.reduceEqDiff, Nat.reduceAdd, Nat.reduceLT, Nat.reduceLeDiff, Nat.reduceSub, Nat.reduceMul, Int.reduceToNat, Int.reduceLT, Int.reduceLE, Int.reduceEq, ml_i0, ↓smc, sm, ss, i0, in_, hi, c0, wr, j0, jn, hg, q0, qn, e3, c161]
    refine ih (j + 1) a _ Q hd' (by omega) (by omega) (fun n e => ?_)
    have := hQ n e
    rw [sumI, lf, Int.zero_add] at this
    exact this
   | true =>
    rw [hlk] at c161 lf
    simp only [if_true] at lf
    simp only [↓sxc, sx, se, ↓reduceIte, Nat.reduceEqDiff, Nat.reduceAdd, Nat.reduceLT, Nat.reduceLeDiff, Nat.reduceSub, Nat.reduceMul, Int.reduceToNat, Int.reduceLT, Int.reduceLE, Int.reduceEq, ml_i0, ↓smc, sm, ss, i0, in_, hi, c0, wr, j0, jn, hg, q0, qn, e3, c161, wa]
    refine ih (j + 1) (a + 1) _ Q hd' (by omega) (by omega) (fun n e => ?_)
    have := hQ n e
    rw [sumI, lf, ← Int.add_assoc] at this
    exact this
 have loop2 : ∀ (t : List (List Frm)) (i : Nat) (a : Int) (n : Nat) (Q : Ex → St → Prop), st.drop i = t → -(2000000000 - 12000 * t.flatten.length) ≤ a → a ≤ 2000000000 - 12000 * t.flatten.length →
   (∀ n e b, Q (.exit 0) ⟨(2, vi k) :: (7, vi (a + sumI (frU s 1 k) t.flatten)) :: e, b, [], m.bump n⟩) →
   W F m.next L135_2 ⟨[(2, vi k), (7, vi a), (8, vi i)], [(3, vSys s), (4, vSt st)], [], m.bump n⟩ Q := by
  intro t
  induction t with
  | nil =>
   intro i a n Q hd h1 h2 hQ
   have hlt := drop_nil hd
   rw [W_L (c := L135_2) rfl]
   have : ¬ ((i : Nat) : Int) < (st.length : Int) := by omega
   simp only [↓sxc, sx, se, ↓reduceIte, Nat.reduceEqDiff, Nat.reduceAdd, Nat.reduceLT, Nat.reduceLeDiff, Nat.reduceSub, Nat.reduceMul, Int.reduceToNat, Int.reduceLT, Int.reduceLE, Int.reduceEq, ml_i0, ↓smc, sm, ss, this]
   have := hQ n [(8, vi i), (15, .bool false)] [(3, vSys s), (4, vSt st)]
   simp only [List.flatten_nil, sumI, Int.add_zero] at this
   exact this
  | cons l t ih =>
   intro i a n Q hd h1 h2 hQ
   obtain ⟨hg, hd', hlt⟩ := drop_cons hd
   rw [W_L (c := L135_2) rfl]
   have c0 : ((i : Nat) : Int) < (st.length : Int) := by omega
   have wr : wrapF .i64 ((i : Int) + 1) = ((i + 1 : Nat) : Int) := by rw [wr_i64 (by omega) (by omega)]; rfl
   have hlm := List.mem_of_getElem? hg
   rw [List.flatten_cons, List.length_append] at h1 h2
   push_cast at h1 h2
   have sb := sumI_bd (g := frU s 1 k) (b := 12000) (by omega) (l := l) (fun f _ => gb f)
   simp only [↓sxc, sx, se, ↓reduceIte, Nat.reduceEqDiff, Nat.reduceAdd, Nat.reduceLT, Nat.reduceLeDiff, Nat.reduceSub, Nat.reduceMul, Int.reduceToNat, Int.reduceLT, Int.reduceLE, Int.reduceEq, ml_i0, ↓smc, sm, ss, c0]
   refine loop1 l hlm i hg l 0 a n _ (by simp) (by omega) (by omega) (fun n e => ?_)
   simp only [↓sxc, sx, se, ↓reduceIte, Nat.reduceEqDiff, Nat.reduceAdd, Nat.reduceLT, Nat.reduceLeDiff, Nat.reduceSub, Nat.reduceMul, Int.reduceToNat, Int.reduceLT, Int.reduceLE, Int.reduceEq, ml_i0, ↓smc, sm, ss, wr]
   refine ih (i + 1) (a + sumI (frU s 1 k) l) n Q hd' (by omega) (by omega) (fun n e b => ?_)
   have := hQ n e b
   rw [List.flatten_cons, sumI_append, ← Int.add_assoc] at this
   exact this
 refine call_p hE.h135 rfl ?_
 simp only [↓sxc, sx, se, ↓reduceIte, Nat.reduceEqDiff, Nat.reduceAdd, Nat.reduceLT, Nat.reduceLeDiff, Nat.reduceSub, Nat.reduceMul, Int.reduceToNat, Int.reduceLT, Int.reduceLE, Int.reduceEq, ml_i0, ↓smc, sm, ss]
 refine loop2 st 0 0 0 _ rfl (by omega) (by omega) (fun n e b => ?_)
 simp only [↓sxc, sx, se, ↓reduceIte, Nat.reduceEqDiff, Nat.reduceAdd, Nat.reduceLT, Nat.reduceLeDiff, Nat.reduceSub, Nat.reduceMul, Int.reduceToNat, Int.reduceLT, Int.reduceLE, Int.reduceEq, ml_i0, ↓smc, sm, ss, Int.zero_add]
theorem sp136 {F : Nat → Option Fn} (hB : HasB F) (hE : HasE F) {lo : Nat} {m : Mem} (s : Sys) (hv : Valid s) (st : List (List Frm)) (hl1 : st.length < 100000) (hl2 : st.flatten.length < 100000) (hfr : ∀ l ∈ st, ∀ f ∈ l, frB s f = true) (k : Nat)  : callw F 136 [vSys s, vSt st, vi k] lo m = some (vi (sumI (frE s k) st.flatten), m) := by
 have k0 : (0 : Int) ≤ k := by omega
 have kn : ((k : Nat) : Int).toNat = k := rfl
 have gb : ∀ f, -12000 ≤ frE s k f ∧ frE s k f ≤ 12000 := fun f => by
  have := frE_bd (s := s) (j := (k : Int)) (f := f); omega
 have loop1 : ∀ (l : List Frm) (hl : l ∈ st) (i : Nat) (hi : st[i]? = some l) (t : List Frm) (j : Nat) (a : Int) (n : Nat) (Q : Ex → St → Prop), l.drop j = t → -(2000000000 - 12000 * t.length) ≤ a → a ≤ 2000000000 - 12000 * t.length →
   (∀ n e, Q (.exit 2) ⟨(2, vi k) :: (7, vi (a + sumI (frE s k) t)) :: (8, vi i) :: e, [(3, vSys s), (4, vSt st)], [], m.bump n⟩) →
   W F m.next L136_1 ⟨[(2, vi k), (7, vi a), (8, vi i), (9, vi j)], [(3, vSys s), (4, vSt st)], [], m.bump n⟩ Q := by
  intro l hl i hi t
  have i0 : (0 : Int) ≤ i := by omega
  have in_ : ((i : Nat) : Int).toNat = i := rfl
  have hll : l.length < 100000 := by have := flat_le hl; omega
  induction t with
  | nil =>
   intro j a n Q hd h1 h2 hQ
   have hlt := drop_nil hd
   rw [W_L (c := L136_1) rfl]
   have : ¬ ((j : Nat) : Int) < (l.length : Int) := by omega
   simp only [↓sxc, sx, se, ↓reduceIte, Nat.reduceEqDiff, Nat.reduceAdd, Nat.reduceLT, Nat.reduceLeDiff, Nat.reduceSub, Nat.reduceMul, Int.reduceToNat, Int.reduceLT, Int.reduceLE, Int.reduceEq, ml_i0, ↓smc, sm, ss, i0, in_, hi, this]
   have := hQ n [(9, vi j), (24, .bool false)]
   simp only [sumI, Int.add_zero] at this
   exact this
  | cons f t ih =>
   intro j a n Q hd h1 h2 hQ
   obtain ⟨hg, hd', hlt⟩ := drop_cons hd
   obtain ⟨q, b, c, x, e1, e2, e3, e4, e5, e6⟩ := frB_get (hfr l hl f (List.mem_of_getElem? hg))
   obtain ⟨fc, fa⟩ := f
   simp only at e1 e2
   subst e1 e2
   rw [W_L (c := L136_1) rfl]
   have c0 : ((j : Nat) : Int) < (l.length : Int) := by omega
   have wr : wrapF .i64 ((j : Int) + 1) = ((j + 1 : Nat) : Int) := by rw [wr_i64 (by omega) (by omega)]; rfl
   have j0 : (0 : Int) ≤ j := by omega
   have jn : ((j : Nat) : Int).toNat = j := rfl
   have q0 : (0 : Int) ≤ q := by omega
   have qn : ((q : Nat) : Int).toNat = q := rfl
   have okc := hv.okC c (List.mem_of_getElem? e3)
   have hgf := gb ⟨q, b⟩
   rw [List.length_cons] at h1 h2
   push_cast at h1 h2
   have wa : wrapF .i64 (a + 1) = a + 1 := wr_i64 (by omega) (by omega)
   by_cases hqk : (q : Int) = k
   ·have hqk' : q = k := by omega
    subst hqk'
    cases hs : c.srv with
    | false =>
     have lf : frE s q ⟨q, b⟩ = 0 := by unfold frE srvAt; simp [e3, hs]
     simp only [↓sxc, sx, se, ↓reduceIte, Nat.reduceEqDiff, Nat.reduceAdd, Nat.reduceLT, Nat.reduceLeDiff, Nat.reduceSub, Nat.reduceMul, Int.reduceToNat, Int.reduceLT, Int.reduceLE, Int.reduceEq, ml_i0, ↓smc, sm, ss, i0, in_, hi, c0, wr, j0, jn, hg, q0, qn, e3, hs]
     refine ih (j + 1) a _ Q hd' (by omega) (by omega) (fun n e => ?_)
     have := hQ n e
     rw [sumI, lf, Int.zero_add] at this
     exact this
    | true =>
     have lf : frE s q ⟨q, b⟩ = 1 := by unfold frE srvAt; simp [e3, hs]
     simp only [↓sxc, sx, se, ↓reduceIte, Nat.reduceEqDiff, Nat.reduceAdd, Nat.reduceLT, Nat.reduceLeDiff, Nat.reduceSub, Nat.reduceMul, Int.reduceToNat, Int.reduceLT, Int.reduceLE, Int.reduceEq, ml_i0, ↓smc, sm, ss, i0, in_, hi, c0, wr, j0, jn, hg, q0, qn, e3, hs, wa]
     refine ih (j + 1) (a + 1) _ Q hd' (by omega) (by omega) (fun n e => ?_)
     have := hQ n e
     rw [sumI, lf, ← Int.add_assoc] at this
     exact this
   ·have lf : frE s k ⟨q, b⟩ = 0 := by unfold frE; simp only [hqk, false_and, if_false]
    simp only [↓sxc, sx, se, ↓reduceIte, Nat.reduceEqDiff, Nat.reduceAdd, Nat.reduceLT, Nat.reduceLeDiff, Nat.reduceSub, Nat.reduceMul, Int.reduceToNat, Int.reduceLT, Int.reduceLE, Int.reduceEq, ml_i0, ↓smc, sm, ss, i0, in_, hi, c0, wr, j0, jn, hg, q0, qn, e3, hqk]
    refine ih (j + 1) a _ Q hd' (by omega) (by omega) (fun n e => ?_)
    have := hQ n e
    rw [sumI, lf, Int.zero_add] at this
    exact this
 have loop2 : ∀ (t : List (List Frm)) (i : Nat) (a : Int) (n : Nat) (Q : Ex → St → Prop), st.drop i = t → -(2000000000 - 12000 * t.flatten.length) ≤ a → a ≤ 2000000000 - 12000 * t.flatten.length →
   (∀ n e b, Q (.exit 0) ⟨(2, vi k) :: (7, vi (a + sumI (frE s k) t.flatten)) :: e, b, [], m.bump n⟩) →
   W F m.next L136_2 ⟨[(2, vi k), (7, vi a), (8, vi i)], [(3, vSys s), (4, vSt st)], [], m.bump n⟩ Q := by
  intro t
  induction t with
  | nil =>
   intro i a n Q hd h1 h2 hQ
   have hlt := drop_nil hd
   rw [W_L (c := L136_2) rfl]
   have : ¬ ((i : Nat) : Int) < (st.length : Int) := by omega
   simp only [↓sxc, sx, se, ↓reduceIte, Nat.reduceEqDiff, Nat.reduceAdd, Nat.reduceLT, Nat.reduceLeDiff, Nat.reduceSub, Nat.reduceMul, Int.reduceToNat, Int.reduceLT, Int.reduceLE, Int.reduceEq, ml_i0, ↓smc, sm, ss, this]
   have := hQ n [(8, vi i), (14, .bool false)] [(3, vSys s), (4, vSt st)]
   simp only [List.flatten_nil, sumI, Int.add_zero] at this
   exact this
  | cons l t ih =>
   intro i a n Q hd h1 h2 hQ
   obtain ⟨hg, hd', hlt⟩ := drop_cons hd
   rw [W_L (c := L136_2) rfl]
   have c0 : ((i : Nat) : Int) < (st.length : Int) := by omega
   have wr : wrapF .i64 ((i : Int) + 1) = ((i + 1 : Nat) : Int) := by rw [wr_i64 (by omega) (by omega)]; rfl
   have hlm := List.mem_of_getElem? hg
   rw [List.flatten_cons, List.length_append] at h1 h2
   push_cast at h1 h2
   have sb := sumI_bd (g := frE s k) (b := 12000) (by omega) (l := l) (fun f _ => gb f)
   simp only [↓sxc, sx, se, ↓reduceIte, Nat.reduceEqDiff, Nat.reduceAdd, Nat.reduceLT, Nat.reduceLeDiff, Nat.reduceSub, Nat.reduceMul, Int.reduceToNat, Int.reduceLT, Int.reduceLE, Int.reduceEq, ml_i0, ↓smc, sm, ss, c0]
   refine loop1 l hlm i hg l 0 a n _ (by simp) (by omega) (by omega) (fun n e => ?_)
   simp only [↓sxc, sx, se, ↓reduceIte, Nat.reduceEqDiff, Nat.reduceAdd, Nat.reduceLT, Nat.reduceLeDiff, Nat.reduceSub, Nat.reduceMul, Int.reduceToNat, Int.reduceLT, Int.reduceLE, Int.reduceEq, ml_i0, ↓smc, sm, ss, wr]
   refine ih (i + 1) (a + sumI (frE s k) l) n Q hd' (by omega) (by omega) (fun n e b => ?_)
   have := hQ n e b
   rw [List.flatten_cons, sumI_append, ← Int.add_assoc] at this
   exact this
 refine call_p hE.h136 rfl ?_
 simp only [↓sxc, sx, se, ↓reduceIte, Nat.reduceEqDiff, Nat.reduceAdd, Nat.reduceLT, Nat.reduceLeDiff, Nat.reduceSub, Nat.reduceMul, Int.reduceToNat, Int.reduceLT, Int.reduceLE, Int.reduceEq, ml_i0, ↓smc, sm, ss]
 refine loop2 st 0 0 0 _ rfl (by omega) (by omega) (fun n e b => ?_)
 simp only [↓sxc, sx, se, ↓reduceIte, Nat.reduceEqDiff, Nat.reduceAdd, Nat.reduceLT, Nat.reduceLeDiff, Nat.reduceSub, Nat.reduceMul, Int.reduceToNat, Int.reduceLT, Int.reduceLE, Int.reduceEq, ml_i0, ↓smc, sm, ss, Int.zero_add]
end Go.Am
namespace Go.Am
open Go
set_option linter.unusedSimpArgs false
set_option linter.unusedVariables false
set_option maxRecDepth 100000
theorem W_cutN {F : Nat → Option Fn} {lo n' : Nat} {a : AC} {st : St} {e x : Env} {m : Mem} {Q : Ex → St → Prop} (h : ∀ Q : Ex → St → Prop, Q .nrm ⟨e, x, [], m.bump n'⟩ → W F lo a st Q) (hb : ∀ n', Q .nrm ⟨e, x, [], m.bump n'⟩) : W F lo a st Q := h _ (hb n')
theorem w133_1 {F : Nat → Option Fn} {lo : Nat} (s : Sys) (hl : s.cls.length < 100) (hst : ∀ c ∈ s.cls, c.steps.length < 100) (l : List Frm) (hll : l.length < 100000) :
  ∀ (t : List Frm) (i n : Nat) (o : Option Frm) (b : Mem) (Q : Ex → St → Prop), l.drop i = t → ((i = 0 ∧ o = none) ∨ ∃ p, 0 < i ∧ l[i - 1]? = some p ∧ o = some p ∧ frB s p = true) →
   (chainB s o t = false → ∀ n, Q .ret ⟨[(6, .bool false)], [], [], b.bump n⟩) → (chainB s o t = true → ∀ n e x, Q (.exit 0) ⟨e, x, [], b.bump n⟩) →
   W F lo L133_1 ⟨[(1, vStk l), (7, vi i)], [(3, vSys s)], [], b.bump n⟩ Q := by
 intro t
 induction t with
 | nil =>
  intro i n o b Q hd ho q1 q2
  have hlt := drop_nil hd
  rw [W_L (c := L133_1) rfl]
  have : ¬ ((i : Nat) : Int) < (l.length : Int) := by omega
  simp only [↓sxc, sx, se, ↓reduceIte, Nat.reduceEqDiff, Nat.reduceAdd, Nat.reduceLT, Nat.reduceLeDiff, Nat.reduceSub, Nat.reduceMul, Int.reduceToNat, Int.reduceLT, Int.reduceLE, Int.reduceEq, ml_i0, ↓smc, sm, ss, this]
  exact q2 rfl _ _ _
 | cons f t ih =>
  intro i n o b Q hd ho q1 q2
  obtain ⟨hg, hd', hlt⟩ := drop_cons hd
  rw [W_L (c := L133_1) rfl]
  have c0 : ((i : Nat) : Int) < (l.length : Int) := by omega
  have wr : wrapF .i64 ((i : Int) + 1) = ((i + 1 : Nat) : Int) := by rw [wr_i64 (by omega) (by omega)]; rfl
  have i0 : (0 : Int) ≤ i := by omega
  have in_ : ((i : Nat) : Int).toNat = i := rfl
  cases hf : frB s f with
  | false =>
   have q1' := q1 (by simp [chainB, hf])
   rcases frB_no hf with h1 | h1 | h1 | ⟨c, h0, h1⟩
   ·simp only [↓sxc, sx, se, ↓reduceIte, Nat.reduceEqDiff, Nat.reduceAdd, Nat.reduceLT, Nat.reduceLeDiff, Nat.reduceSub, Nat.reduceMul, Int.reduceToNat, Int.reduceLT, Int.reduceLE, Int.reduceEq, ml_i0, ↓smc, sm, ss, c0, i0, in_, hg, h1]
    exact q1' _
   ·by_cases h2 : f.cls < 0
    ·simp only [↓sxc, sx, se, ↓reduceIte, Nat.reduceEqDiff, Nat.reduceAdd, Nat.reduceLT, Nat.reduceLeDiff, Nat.reduceSub, Nat.reduceMul, Int.reduceToNat, Int.reduceLT, Int.reduceLE, Int.reduceEq, ml_i0, ↓smc, sm, ss, c0, i0, in_, hg, h2]
     exact q1' _
    ·simp only [↓sxc, sx, se, ↓reduceIte, Nat.reduceEqDiff, Nat.reduceAdd, Nat.reduceLT, Nat.reduceLeDiff, Nat.reduceSub, Nat.reduceMul, Int.reduceToNat, Int.reduceLT, Int.reduceLE, Int.reduceEq, ml_i0, ↓smc, sm, ss, c0, i0, in_, hg, h1, h2]
     exact q1' _
   ·by_cases h2 : f.cls < 0
    ·simp only [↓sxc, sx, se, ↓reduceIte, Nat.reduceEqDiff, Nat.reduceAdd, Nat.reduceLT, Nat.reduceLeDiff, Nat.reduceSub, Nat.reduceMul, Int.reduceToNat, Int.reduceLT, Int.reduceLE, Int.reduceEq, ml_i0, ↓smc, sm, ss, c0, i0, in_, hg, h2]
     exact q1' _
    ·by_cases h3 : (s.cls.length : Int) ≤ f.cls
     ·simp only [↓sxc, sx, se, ↓reduceIte, Nat.reduceEqDiff, Nat.reduceAdd, Nat.reduceLT, Nat.reduceLeDiff, Nat.reduceSub, Nat.reduceMul, Int.reduceToNat, Int.reduceLT, Int.reduceLE, Int.reduceEq, ml_i0, ↓smc, sm, ss, c0, i0, in_, hg, h2, h3]
      exact q1' _
     ·simp only [↓sxc, sx, se, ↓reduceIte, Nat.reduceEqDiff, Nat.reduceAdd, Nat.reduceLT, Nat.reduceLeDiff, Nat.reduceSub, Nat.reduceMul, Int.reduceToNat, Int.reduceLT, Int.reduceLE, Int.reduceEq, ml_i0, ↓smc, sm, ss, c0, i0, in_, hg, h1, h2, h3]
      exact q1' _
   ·by_cases h2 : f.cls < 0
    ·simp only [↓sxc, sx, se, ↓reduceIte, Nat.reduceEqDiff, Nat.reduceAdd, Nat.reduceLT, Nat.reduceLeDiff, Nat.reduceSub, Nat.reduceMul, Int.reduceToNat, Int.reduceLT, Int.reduceLE, Int.reduceEq, ml_i0, ↓smc, sm, ss, c0, i0, in_, hg, h2]
     exact q1' _
    ·by_cases h3 : (s.cls.length : Int) ≤ f.cls
     ·simp only [↓sxc, sx, se, ↓reduceIte, Nat.reduceEqDiff, Nat.reduceAdd, Nat.reduceLT, Nat.reduceLeDiff, Nat.reduceSub, Nat.reduceMul, Int.reduceToNat, Int.reduceLT, Int.reduceLE, Int.reduceEq, ml_i0, ↓smc, sm, ss, c0, i0, in_, hg, h2, h3]
      exact q1' _
     ·by_cases h4 : f.at_ < 0
      ·simp only [↓sxc, sx, se, ↓reduceIte, Nat.reduceEqDiff, Nat.reduceAdd, Nat.reduceLT, Nat.reduceLeDiff, Nat.reduceSub, Nat.reduceMul, Int.reduceToNat, Int.reduceLT, Int.reduceLE, Int.reduceEq, ml_i0, ↓smc, sm, ss, c0, i0, in_, hg, h2, h3, h4]
       exact q1' _
      ·have h5 : 0 ≤ f.cls := by omega
       simp only [↓sxc, sx, se, ↓reduceIte, Nat.reduceEqDiff, Nat.reduceAdd, Nat.reduceLT, Nat.reduceLeDiff, Nat.reduceSub, Nat.reduceMul, Int.reduceToNat, Int.reduceLT, Int.reduceLE, Int.reduceEq, ml_i0, ↓smc, sm, ss, c0, i0, in_, hg, h2, h3, h4, h5, h0, h1]
       exact q1' _
  | true =>
   obtain ⟨q, a, c, x, e1, e2, e3, e4, e5, e6⟩ := frB_get hf
   have qn : ((q : Nat) : Int).toNat = q := rfl
   have an : ((a : Nat) : Int).toNat = a := rfl
   have q0 : (0 : Int) ≤ q := by omega
   have a0 : (0 : Int) ≤ a := by omega
   have h1 : ¬ (q : Int) < 0 := by omega
   have h2 : ¬ (s.cls.length : Int) ≤ (q : Int) := by omega
   have h3 : ¬ (a : Int) < 0 := by omega
   have h4 : ¬ (c.steps.length : Int) ≤ (a : Int) := by omega
   rcases ho with ⟨rfl, rfl⟩ | ⟨p, hi, hp, rfl, hfp⟩
   ·have ech : chainB s none (f :: t) = chainB s (some f) t := by simp [chainB, hf]
    rw [ech] at q1 q2
    have c00 : (0 : Int) < (l.length : Int) := by omega
    have wr0 : wrapF .i64 (0 + 1) = ((1 : Nat) : Int) := rfl
    have z00 : (0 : Int) ≤ 0 := by omega
    have z01 : ¬ (0 : Int) < 0 := by omega
    simp only [↓sxc, sx, se, ↓reduceIte, Nat.reduceEqDiff, Nat.reduceAdd, Nat.reduceLT, Nat.reduceLeDiff, Nat.reduceSub, Nat.reduceMul, Int.reduceToNat, Int.reduceLT, Int.reduceLE, Int.reduceEq, ml_i0, ↓smc, sm, ss, c00, z00, hg, e1, e2, h1, h2, h3, q0, a0, qn, an, e3, h4, wr0, z01]
    exact ih 1 _ (some f) b Q hd' (.inr ⟨f, by omega, hg, rfl, hf⟩) q1 q2
   ·obtain ⟨q', a', c', x', g1, g2, g3, g4, g5, g6⟩ := frB_get hfp
    have qn' : ((q' : Nat) : Int).toNat = q' := rfl
    have an' : ((a' : Nat) : Int).toNat = a' := rfl
    have q0' : (0 : Int) ≤ q' := by omega
    have a0' : (0 : Int) ≤ a' := by omega
    have iz : (0 : Int) < (i : Int) := by omega
    have w1 : wrapF .i64 ((i : Int) - 1) = ((i - 1 : Nat) : Int) := by rw [wr_i64 (by omega) (by omega)]; omega
    have im0 : (0 : Int) ≤ ((i - 1 : Nat) : Int) := by omega
    have imn : ((i - 1 : Nat) : Int).toNat = i - 1 := rfl
    have hcb : callB s p f = (decide (x'.kind = 5) && decide (x'.on = f.cls)) := by
     unfold callB stepAt
     rw [g1, g2, qn', g3]
     simp only [Option.bind_some, an', g4]
    have kk1 : vkeys (vStps c'.steps) = [] := rfl
    have kk2 : vkeys (vStp x') = [] := rfl
    have ech : chainB s (some p) (f :: t) = (callB s p f && chainB s (some f) t) := by simp [chainB, hf]
    rw [ech, hcb, e1] at q1 q2
    simp only [↓sxc, sx, se, ↓reduceIte, Nat.reduceEqDiff, Nat.reduceAdd, Nat.reduceLT, Nat.reduceLeDiff, Nat.reduceSub, Nat.reduceMul, Int.reduceToNat, Int.reduceLT, Int.reduceLE, Int.reduceEq, ml_i0, ↓smc, sm, ss, c0, i0, in_, hg, e1, e2, h1, h2, h3, q0, a0, qn, an, e3, h4, iz]
    refine W_cutN (n' := n + 44 + 21) (e := [(1, vStk l), (7, vi i)]) (x := [(3, vSys s), (8, vStp x')]) (m := b) (fun Q hq => ?_) (fun n => ?_)
    ·simp only [↓sxc, sx, se, ↓reduceIte, Nat.reduceEqDiff, Nat.reduceAdd, Nat.reduceLT, Nat.reduceLeDiff, Nat.reduceSub, Nat.reduceMul, Int.reduceToNat, Int.reduceLT, Int.reduceLE, Int.reduceEq, ml_i0, ↓W_dreg, ↓sk, sk, ss, w1, im0, imn, hp, g1, g2, q0', a0', qn', an', g3, g4]
     exact ⟨by simp [pairsOk, nth_eq, keysApart, Key.apart, kk1, kk2], hq⟩
    ·by_cases k5 : x'.kind = 5
     ·by_cases ko : x'.on = (q : Int)
      ·simp only [k5, ko, decide_true, Bool.true_and] at q1 q2
       simp only [↓sxc, sx, se, ↓reduceIte, Nat.reduceEqDiff, Nat.reduceAdd, Nat.reduceLT, Nat.reduceLeDiff, Nat.reduceSub, Nat.reduceMul, Int.reduceToNat, Int.reduceLT, Int.reduceLE, Int.reduceEq, ml_i0, ↓smc, sm, ss, i0, in_, hg, e1, k5, ko, wr]
       exact ih (i + 1) _ (some f) b Q hd' (.inr ⟨f, by omega, by simpa using hg, rfl, hf⟩) q1 q2
      ·have q1' := q1 (by simp [ko])
       simp only [↓sxc, sx, se, ↓reduceIte, Nat.reduceEqDiff, Nat.reduceAdd, Nat.reduceLT, Nat.reduceLeDiff, Nat.reduceSub, Nat.reduceMul, Int.reduceToNat, Int.reduceLT, Int.reduceLE, Int.reduceEq, ml_i0, ↓smc, sm, ss, i0, in_, hg, e1, k5, ko, wr]
       exact q1' _
     ·have q1' := q1 (by simp [k5])
      simp only [↓sxc, sx, se, ↓reduceIte, Nat.reduceEqDiff, Nat.reduceAdd, Nat.reduceLT, Nat.reduceLeDiff, Nat.reduceSub, Nat.reduceMul, Int.reduceToNat, Int.reduceLT, Int.reduceLE, Int.reduceEq, ml_i0, ↓smc, sm, ss, i0, in_, hg, e1, k5, wr]
      exact q1' _
theorem sp133 {F : Nat → Option Fn} (hE : HasE F) {lo : Nat} {m : Mem} (s : Sys) (hl : s.cls.length < 100) (hst : ∀ c ∈ s.cls, c.steps.length < 100) (l : List Frm) (hll : l.length < 100000) (c : Int) : callw F 133 [vSys s, vStk l, vi c] lo m = some (.bool (formB s l c), m) := by
 refine call_p hE.h133 rfl ?_
 cases l with
 | nil =>
  have : (([] : List Frm).length : Int) = 0 := rfl
  simp only [↓sxc, sx, se, ↓reduceIte, Nat.reduceEqDiff, Nat.reduceAdd, Nat.reduceLT, Nat.reduceLeDiff, Nat.reduceSub, Nat.reduceMul, Int.reduceToNat, Int.reduceLT, Int.reduceLE, Int.reduceEq, ml_i0, ↓smc, sm, ss, this, List.length_nil]
  rfl
 | cons f t =>
  obtain ⟨l', hl'⟩ : ∃ l', l' = f :: t := ⟨_, rfl⟩
  have n0 : ¬ (l'.length : Int) = 0 := by rw [hl']; simp; omega
  have g0 : l'[0]? = some f := by rw [hl']; rfl
  have ef : formB s l' c = (decide (f.cls = c) && chainB s none l') := by rw [hl']; rfl
  rw [← hl'] at hll ⊢
  clear hl'
  rw [ef]
  by_cases hc : f.cls = c
  ·simp only [hc, decide_true, Bool.true_and]
   simp only [↓sxc, sx, se, ↓reduceIte, Nat.reduceEqDiff, Nat.reduceAdd, Nat.reduceLT, Nat.reduceLeDiff, Nat.reduceSub, Nat.reduceMul, Int.reduceToNat, Int.reduceLT, Int.reduceLE, Int.reduceEq, ml_i0, ↓smc, sm, ss, n0, g0, hc]
   refine w133_1 s hl hst l' hll l' 0 0 none m _ rfl (.inl ⟨rfl, rfl⟩) (fun h n => ?_) (fun h n e x => ?_)
   ·simp only [↓sxc, sx, se, ↓reduceIte, Nat.reduceEqDiff, Nat.reduceAdd, Nat.reduceLT, Nat.reduceLeDiff, Nat.reduceSub, Nat.reduceMul, Int.reduceToNat, Int.reduceLT, Int.reduceLE, Int.reduceEq, ml_i0, ↓smc, sm, h]
   ·simp only [↓sxc, sx, se, ↓reduceIte, Nat.reduceEqDiff, Nat.reduceAdd, Nat.reduceLT, Nat.reduceLeDiff, Nat.reduceSub, Nat.reduceMul, Int.reduceToNat, Int.reduceLT, Int.reduceLE, Int.reduceEq, ml_i0, ↓smc, sm, h]
  ·simp only [hc, decide_false, Bool.false_and]
   simp only [↓sxc, sx, se, ↓reduceIte, Nat.reduceEqDiff, Nat.reduceAdd, Nat.reduceLT, Nat.reduceLeDiff, Nat.reduceSub, Nat.reduceMul, Int.reduceToNat, Int.reduceLT, Int.reduceLE, Int.reduceEq, ml_i0, ↓smc, sm, ss, n0, g0, hc]
end Go.Am
namespace Go.Am
open Go
set_option linter.unusedSimpArgs false
set_option linter.unusedVariables false
set_option maxRecDepth 100000
theorem accE_nosrv {s : Sys} {j : Nat} (h : srvAt s j = false) (ps : List Frm) : accE s ps j = 0 := by
 induction ps with
 | nil => rfl
 | cons f ps ih =>
  have h1 : frE s j f = 0 := by
   unfold frE
   rw [if_neg (by simp [h])]
  simp only [accE, sumI] at ih ⊢
  omega
theorem w60_2 {F : Nat → Option Fn} (hB : HasB F) (hE : HasE F) {lo : Nat} (s : Sys) (hv : Valid s) (st : List (List Frm)) (hs : Sml st) (hfr : ∀ l ∈ st, ∀ f ∈ l, frB s f = true) (b : Mem) :
  ∀ (r j n : Nat) (Q : Ex → St → Prop), j + r = s.pools.length → ((List.range' j r).any (fun j => decide (sizeAt s j < accU s 0 st.flatten j)) = true → ∀ n, Q .ret ⟨[(4, vi 11)], [], [], b.bump n⟩) →
   ((List.range' j r).any (fun j => decide (sizeAt s j < accU s 0 st.flatten j)) = false → ∀ n e, Q (.exit 2) ⟨e, [(2, vSys s), (3, vSt st)], [], b.bump n⟩) →
   W F lo L60_2 ⟨[(8, vi j)], [(2, vSys s), (3, vSt st)], [], b.bump n⟩ Q := by
 have p6 := hv.p6
 have l4 := hv.l4
 have c6 := hv.c6
 have hs1 := hs.l1
 have hs2 := hs.ln
 intro r
 induction r with
 | zero =>
  intro j n Q hj q1 q2
  rw [W_L (c := L60_2) rfl]
  have : ¬ ((j : Nat) : Int) < (s.pools.length : Int) := by omega
  simp only [↓sxc, sx, se, ↓reduceIte, Nat.reduceEqDiff, Nat.reduceAdd, Nat.reduceLT, Nat.reduceLeDiff, Nat.reduceSub, Nat.reduceMul, Int.reduceToNat, Int.reduceLT, Int.reduceLE, Int.reduceEq, ml_i0, ↓smc, sm, ss, this]
  exact q2 rfl _ _
 | succ r ih =>
  intro j n Q hj q1 q2
  rw [W_L (c := L60_2) rfl]
  have hjl : j < s.pools.length := by omega
  have c0 : ((j : Nat) : Int) < (s.pools.length : Int) := by omega
  have wr : wrapF .i64 ((j : Int) + 1) = ((j + 1 : Nat) : Int) := by rw [wr_i64 (by omega) (by omega)]; rfl
  have j0 : (0 : Int) ≤ j := by omega
  have jn : ((j : Nat) : Int).toNat = j := rfl
  rw [List.range'_succ, List.any_cons] at q1 q2
  have c134 : ∀ {lo m}, callw F 134 [vSys s, vSt st, vi j] lo m = some (vi (accU s 0 st.flatten j), m) := fun {lo m} => sp134 hB hE s hv st hs.l1 hs.ln hfr j
  have hp : s.pools[j]? = some s.pools[j] := List.getElem?_eq_getElem hjl
  have hz : sizeAt s j = s.pools[j].size := by unfold sizeAt; rw [jn, hp]
  generalize s.pools[j] = p at hp hz
  rw [hz] at q1 q2
  by_cases hx : p.size < accU s 0 st.flatten j
  ·simp only [↓sxc, sx, se, ↓reduceIte, Nat.reduceEqDiff, Nat.reduceAdd, Nat.reduceLT, Nat.reduceLeDiff, Nat.reduceSub, Nat.reduceMul, Int.reduceToNat, Int.reduceLT, Int.reduceLE, Int.reduceEq, ml_i0, ↓smc, sm, ss, c0, j0, jn, hp, c134, hx]
   exact q1 (by simp [hx]) _
  ·simp only [hx, decide_false, Bool.false_or] at q1 q2
   simp only [↓sxc, sx, se, ↓reduceIte, Nat.reduceEqDiff, Nat.reduceAdd, Nat.reduceLT, Nat.reduceLeDiff, Nat.reduceSub, Nat.reduceMul, Int.reduceToNat, Int.reduceLT, Int.reduceLE, Int.reduceEq, ml_i0, ↓smc, sm, ss, c0, j0, jn, hp, c134, hx, wr]
   exact ih (j + 1) _ Q (by omega) q1 q2
theorem w60_3 {F : Nat → Option Fn} (hB : HasB F) (hE : HasE F) {lo : Nat} (s : Sys) (hv : Valid s) (st : List (List Frm)) (hs : Sml st) (hfr : ∀ l ∈ st, ∀ f ∈ l, frB s f = true) (b : Mem) :
  ∀ (r j n : Nat) (Q : Ex → St → Prop), j + r = s.locks.length → ((List.range' j r).any (fun j => decide (1 < accU s 1 st.flatten j)) = true → ∀ n, Q .ret ⟨[(4, vi 11)], [], [], b.bump n⟩) →
   ((List.range' j r).any (fun j => decide (1 < accU s 1 st.flatten j)) = false → ∀ n e, Q (.exit 4) ⟨e, [(2, vSys s), (3, vSt st)], [], b.bump n⟩) →
   W F lo L60_3 ⟨[(9, vi j)], [(2, vSys s), (3, vSt st)], [], b.bump n⟩ Q := by
 have p6 := hv.p6
 have l4 := hv.l4
 have c6 := hv.c6
 have hs1 := hs.l1
 have hs2 := hs.ln
 intro r
 induction r with
 | zero =>
  intro j n Q hj q1 q2
  rw [W_L (c := L60_3) rfl]
  have : ¬ ((j : Nat) : Int) < (s.locks.length : Int) := by omega
  simp only [↓sxc, sx, se, ↓reduceIte, Nat.reduceEqDiff, Nat.reduceAdd, Nat.reduceLT, Nat.reduceLeDiff, Nat.reduceSub, Nat.reduceMul, Int.reduceToNat, Int.reduceLT, Int.reduceLE, Int.reduceEq, ml_i0, ↓smc, sm, ss, this]
  exact q2 rfl _ _
 | succ r ih =>
  intro j n Q hj q1 q2
  rw [W_L (c := L60_3) rfl]
  have hjl : j < s.locks.length := by omega
  have c0 : ((j : Nat) : Int) < (s.locks.length : Int) := by omega
  have wr : wrapF .i64 ((j : Int) + 1) = ((j + 1 : Nat) : Int) := by rw [wr_i64 (by omega) (by omega)]; rfl
  have j0 : (0 : Int) ≤ j := by omega
  have jn : ((j : Nat) : Int).toNat = j := rfl
  rw [List.range'_succ, List.any_cons] at q1 q2
  have c135 : ∀ {lo m}, callw F 135 [vSys s, vSt st, vi j] lo m = some (vi (accU s 1 st.flatten j), m) := fun {lo m} => sp135 hB hE s hv st hs.l1 hs.ln hfr j
  by_cases hx : 1 < accU s 1 st.flatten j
  ·simp only [↓sxc, sx, se, ↓reduceIte, Nat.reduceEqDiff, Nat.reduceAdd, Nat.reduceLT, Nat.reduceLeDiff, Nat.reduceSub, Nat.reduceMul, Int.reduceToNat, Int.reduceLT, Int.reduceLE, Int.reduceEq, ml_i0, ↓smc, sm, ss, c0, j0, jn, c135, hx]
   exact q1 (by simp [hx]) _
  ·simp only [hx, decide_false, Bool.false_or] at q1 q2
   simp only [↓sxc, sx, se, ↓reduceIte, Nat.reduceEqDiff, Nat.reduceAdd, Nat.reduceLT, Nat.reduceLeDiff, Nat.reduceSub, Nat.reduceMul, Int.reduceToNat, Int.reduceLT, Int.reduceLE, Int.reduceEq, ml_i0, ↓smc, sm, ss, c0, j0, jn, c135, hx, wr]
   exact ih (j + 1) _ Q (by omega) q1 q2
theorem w60_4 {F : Nat → Option Fn} (hB : HasB F) (hE : HasE F) {lo : Nat} (s : Sys) (hv : Valid s) (st : List (List Frm)) (hs : Sml st) (hfr : ∀ l ∈ st, ∀ f ∈ l, frB s f = true) (b : Mem) :
  ∀ (r j n : Nat) (Q : Ex → St → Prop), j + r = s.cls.length → ((List.range' j r).any (fun j => srvAt s j && decide (wkOf s j < accE s st.flatten j)) = true → ∀ n, Q .ret ⟨[(4, vi 11)], [], [], b.bump n⟩) →
   ((List.range' j r).any (fun j => srvAt s j && decide (wkOf s j < accE s st.flatten j)) = false → ∀ n e, Q (.exit 6) ⟨e, [(2, vSys s), (3, vSt st)], [], b.bump n⟩) →
   W F lo L60_4 ⟨[(10, vi j)], [(2, vSys s), (3, vSt st)], [], b.bump n⟩ Q := by
 have p6 := hv.p6
 have l4 := hv.l4
 have c6 := hv.c6
 have hs1 := hs.l1
 have hs2 := hs.ln
 intro r
 induction r with
 | zero =>
  intro j n Q hj q1 q2
  rw [W_L (c := L60_4) rfl]
  have : ¬ ((j : Nat) : Int) < (s.cls.length : Int) := by omega
  simp only [↓sxc, sx, se, ↓reduceIte, Nat.reduceEqDiff, Nat.reduceAdd, Nat.reduceLT, Nat.reduceLeDiff, Nat.reduceSub, Nat.reduceMul, Int.reduceToNat, Int.reduceLT, Int.reduceLE, Int.reduceEq, ml_i0, ↓smc, sm, ss, this]
  exact q2 rfl _ _
 | succ r ih =>
  intro j n Q hj q1 q2
  rw [W_L (c := L60_4) rfl]
  have hjl : j < s.cls.length := by omega
  have c0 : ((j : Nat) : Int) < (s.cls.length : Int) := by omega
  have wr : wrapF .i64 ((j : Int) + 1) = ((j + 1 : Nat) : Int) := by rw [wr_i64 (by omega) (by omega)]; rfl
  have j0 : (0 : Int) ≤ j := by omega
  have jn : ((j : Nat) : Int).toNat = j := rfl
  rw [List.range'_succ, List.any_cons] at q1 q2
  have c136 : ∀ {lo m}, callw F 136 [vSys s, vSt st, vi j] lo m = some (vi (accE s st.flatten j), m) := fun {lo m} => sp136 hB hE s hv st hs.l1 hs.ln hfr j
  have hp : s.cls[j]? = some s.cls[j] := List.getElem?_eq_getElem hjl
  have hz : wkOf s j = s.cls[j].wk := by unfold wkOf; rw [jn, hp]
  have w0 := (hv.okC _ (List.mem_of_getElem? hp)).w0
  generalize s.cls[j] = c at hp hz w0
  rw [hz] at q1 q2
  by_cases hx : c.wk < accE s st.flatten j
  ·have hsr : srvAt s j = true := by
    cases h : srvAt s j with
    | true => rfl
    | false => rw [accE_nosrv h] at hx; omega
   simp only [↓sxc, sx, se, ↓reduceIte, Nat.reduceEqDiff, Nat.reduceAdd, Nat.reduceLT, Nat.reduceLeDiff, Nat.reduceSub, Nat.reduceMul, Int.reduceToNat, Int.reduceLT, Int.reduceLE, Int.reduceEq, ml_i0, ↓smc, sm, ss, c0, j0, jn, hp, c136, hx]
   exact q1 (by simp [hx, hsr]) _
  ·simp only [hx, decide_false, Bool.and_false, Bool.false_or] at q1 q2
   simp only [↓sxc, sx, se, ↓reduceIte, Nat.reduceEqDiff, Nat.reduceAdd, Nat.reduceLT, Nat.reduceLeDiff, Nat.reduceSub, Nat.reduceMul, Int.reduceToNat, Int.reduceLT, Int.reduceLE, Int.reduceEq, ml_i0, ↓smc, sm, ss, c0, j0, jn, hp, c136, hx, wr]
   exact ih (j + 1) _ Q (by omega) q1 q2
theorem w60_1 {F : Nat → Option Fn} (hE : HasE F) {lo : Nat} (s : Sys) (hv : Valid s) (st : List (List Frm)) (hs : Sml st) (h1 : (wksE s).length = st.length) (b : Mem) :
  ∀ (cs : List Int) (ls : List (List Frm)) (i n : Nat) (Q : Ex → St → Prop), (wksE s).drop i = cs → st.drop i = ls → (formsB s cs ls = false → ∀ n, Q .ret ⟨[(4, vi 3)], [], [], b.bump n⟩) → (formsB s cs ls = true → ∀ n e, Q (.exit 0) ⟨e, [(2, vSys s), (3, vSt st)], [], b.bump n⟩) →
     W F lo L60_1 ⟨[(6, ints (wksE s)), (7, vi i)], [(2, vSys s), (3, vSt st)], [], b.bump n⟩ Q := by
 have c6 := hv.c6
 have hcl : ∀ c ∈ s.cls, c.steps.length < 100 := fun c hc => by have := (hv.okC c hc).l12; omega
 intro cs
 induction cs with
 | nil =>
  intro ls i n Q hd hd2 q1 q2
  have hlt := drop_nil hd
  rw [W_L (c := L60_1) rfl]
  have : ¬ ((i : Nat) : Int) < ((wksE s).length : Int) := by omega
  simp only [↓sxc, sx, se, ↓reduceIte, Nat.reduceEqDiff, Nat.reduceAdd, Nat.reduceLT, Nat.reduceLeDiff, Nat.reduceSub, Nat.reduceMul, Int.reduceToNat, Int.reduceLT, Int.reduceLE, Int.reduceEq, ml_i0, ↓smc, sm, ss, this]
  exact q2 (by cases ls <;> rfl) _ _
 | cons c cs ih =>
  intro ls i n Q hd hd2 q1 q2
  obtain ⟨hg, hd', hlt⟩ := drop_cons hd
  cases ls with
  | nil => have := drop_nil hd2; omega
  | cons l ls =>
   obtain ⟨hg2, hd2', hlt2⟩ := drop_cons hd2
   have hsl := hs.stk (List.mem_of_getElem? hg2)
   have hl1 := hs.l1
   rw [W_L (c := L60_1) rfl]
   have c0 : ((i : Nat) : Int) < ((wksE s).length : Int) := by omega
   have wr : wrapF .i64 ((i : Int) + 1) = ((i + 1 : Nat) : Int) := by rw [wr_i64 (by omega) (by omega)]; rfl
   have i0 : (0 : Int) ≤ i := by omega
   have in_ : ((i : Nat) : Int).toNat = i := rfl
   have c133 : ∀ {lo m}, callw F 133 [vSys s, vStk l, vi c] lo m = some (.bool (formB s l c), m) := fun {lo m} => sp133 hE s (by omega) hcl l hsl c
   cases hf : formB s l c with
   | false =>
    rw [hf] at c133
    simp only [↓sxc, sx, se, ↓reduceIte, Nat.reduceEqDiff, Nat.reduceAdd, Nat.reduceLT, Nat.reduceLeDiff, Nat.reduceSub, Nat.reduceMul, Int.reduceToNat, Int.reduceLT, Int.reduceLE, Int.reduceEq, ml_i0, ↓smc, sm, ss, c0, hg, i0, in_, hg2, c133]
    exact q1 (by simp [formsB, hf]) _
   | true =>
    rw [hf] at c133
    have e : formsB s (c :: cs) (l :: ls) = formsB s cs ls := by simp [formsB, hf]
    rw [e] at q1 q2
    simp only [↓sxc, sx, se, ↓reduceIte, Nat.reduceEqDiff, Nat.reduceAdd, Nat.reduceLT, Nat.reduceLeDiff, Nat.reduceSub, Nat.reduceMul, Int.reduceToNat, Int.reduceLT, Int.reduceLE, Int.reduceEq, ml_i0, ↓smc, sm, ss, c0, hg, i0, in_, hg2, c133, wr]
    exact ih ls (i + 1) _ Q hd' hd2' q1 q2
theorem sp60 {F : Nat → Option Fn} (hA : HasA F) (hB : HasB F) (hE : HasE F) {lo : Nat} {m : Mem} (s : Sys) (st : List (List Frm)) (hs : Sml st) : callw F 60 [vSys s, vSt st] lo m = some (vi (chkX s st), m) := by
 have c91 : ∀ {lo m}, callw F 91 [vSys s] lo m = some (vi (chkE s), m) := fun {lo m} => sp91 hA s
 refine call_p hE.h60 rfl ?_
 by_cases h0 : chkE s = 0
 ·have hv := valid_of h0
  have c132 : ∀ {lo m}, callw F 132 [vSys s] lo m = some (ints (wksE s), m) := fun {lo m} => sp132 hE s (by have := hv.c6; omega) (fun c hc => by have := hv.okC c hc; have := this.w4; have := (hv.okC c hc).w0; omega)
  by_cases h1 : (wksE s).length = st.length
  ·have h1' : (st.length : Int) = ((wksE s).length : Int) := by omega
   simp only [↓sxc, sx, se, ↓reduceIte, Nat.reduceEqDiff, Nat.reduceAdd, Nat.reduceLT, Nat.reduceLeDiff, Nat.reduceSub, Nat.reduceMul, Int.reduceToNat, Int.reduceLT, Int.reduceLE, Int.reduceEq, ml_i0, ↓smc, sm, ss, c91, h0, c132, h1']
   refine w60_1 hE s hv st hs h1 m (wksE s) st 0 0 _ rfl rfl (fun h n => ?_) (fun h n e => ?_)
   ·have e : chkX s st = 3 := by unfold chkX; rw [if_neg (by simpa using h0), if_neg (by simpa using h1), if_pos h]
    simp only [↓sxc, sx, se, ↓reduceIte, Nat.reduceEqDiff, Nat.reduceAdd, Nat.reduceLT, Nat.reduceLeDiff, Nat.reduceSub, Nat.reduceMul, Int.reduceToNat, Int.reduceLT, Int.reduceLE, Int.reduceEq, ml_i0, ↓smc, sm, ss, e]
   ·have ex : chkX s st = if overU s st = true then 11 else if overE s st = true then 11 else if overL s st = true then 11 else 0 := by unfold chkX; rw [if_neg (by simpa using h0), if_neg (by simpa using h1), if_neg (by simp [h])]
    have eU : overU s st = (List.range' 0 s.pools.length).any (fun j => decide (sizeAt s j < accU s 0 st.flatten j)) := by unfold overU; rw [List.range_eq_range']
    have eE : overE s st = (List.range' 0 s.cls.length).any (fun j => srvAt s j && decide (wkOf s j < accE s st.flatten j)) := by unfold overE; rw [List.range_eq_range']
    have eL : overL s st = (List.range' 0 s.locks.length).any (fun j => decide (1 < accU s 1 st.flatten j)) := by unfold overL; rw [List.range_eq_range']
    have hfr := forms_ok h1 h
    simp only [↓sxc, sx, se, ↓reduceIte, Nat.reduceEqDiff, Nat.reduceAdd, Nat.reduceLT, Nat.reduceLeDiff, Nat.reduceSub, Nat.reduceMul, Int.reduceToNat, Int.reduceLT, Int.reduceLE, Int.reduceEq, ml_i0, ↓smc, sm, ss]
    refine w60_2 hB hE s hv st hs hfr m s.pools.length 0 _ _ (by omega) (fun h => ?_) (fun h n e => ?_)
    ·intro n
     have e : chkX s st = 11 := by rw [ex, eU, if_pos h]
     simp only [↓sxc, sx, se, ↓reduceIte, Nat.reduceEqDiff, Nat.reduceAdd, Nat.reduceLT, Nat.reduceLeDiff, Nat.reduceSub, Nat.reduceMul, Int.reduceToNat, Int.reduceLT, Int.reduceLE, Int.reduceEq, ml_i0, ↓smc, sm, e]
    ·simp only [↓sxc, sx, se, ↓reduceIte, Nat.reduceEqDiff, Nat.reduceAdd, Nat.reduceLT, Nat.reduceLeDiff, Nat.reduceSub, Nat.reduceMul, Int.reduceToNat, Int.reduceLT, Int.reduceLE, Int.reduceEq, ml_i0, ↓smc, sm, ss]
     refine w60_3 hB hE s hv st hs hfr m s.locks.length 0 _ _ (by omega) (fun h2 => ?_) (fun h2 n e => ?_)
     ·intro n
      have e : chkX s st = 11 := by rw [ex, eL, h2]; simp
      simp only [↓sxc, sx, se, ↓reduceIte, Nat.reduceEqDiff, Nat.reduceAdd, Nat.reduceLT, Nat.reduceLeDiff, Nat.reduceSub, Nat.reduceMul, Int.reduceToNat, Int.reduceLT, Int.reduceLE, Int.reduceEq, ml_i0, ↓smc, sm, e]
     ·simp only [↓sxc, sx, se, ↓reduceIte, Nat.reduceEqDiff, Nat.reduceAdd, Nat.reduceLT, Nat.reduceLeDiff, Nat.reduceSub, Nat.reduceMul, Int.reduceToNat, Int.reduceLT, Int.reduceLE, Int.reduceEq, ml_i0, ↓smc, sm, ss]
      refine w60_4 hB hE s hv st hs hfr m s.cls.length 0 _ _ (by omega) (fun h3 => ?_) (fun h3 n e => ?_)
      ·intro n
       have e : chkX s st = 11 := by rw [ex, eE, h3]; simp
       simp only [↓sxc, sx, se, ↓reduceIte, Nat.reduceEqDiff, Nat.reduceAdd, Nat.reduceLT, Nat.reduceLeDiff, Nat.reduceSub, Nat.reduceMul, Int.reduceToNat, Int.reduceLT, Int.reduceLE, Int.reduceEq, ml_i0, ↓smc, sm, e]
      ·have e : chkX s st = 0 := by rw [ex, eU, h, eE, h3, eL, h2]; rfl
       simp only [↓sxc, sx, se, ↓reduceIte, Nat.reduceEqDiff, Nat.reduceAdd, Nat.reduceLT, Nat.reduceLeDiff, Nat.reduceSub, Nat.reduceMul, Int.reduceToNat, Int.reduceLT, Int.reduceLE, Int.reduceEq, ml_i0, ↓smc, sm, e]
  ·have e : chkX s st = 3 := by unfold chkX; rw [if_neg (by simpa using h0), if_pos h1]
   have h1' : ¬ (st.length : Int) = ((wksE s).length : Int) := by omega
   simp only [↓sxc, sx, se, ↓reduceIte, Nat.reduceEqDiff, Nat.reduceAdd, Nat.reduceLT, Nat.reduceLeDiff, Nat.reduceSub, Nat.reduceMul, Int.reduceToNat, Int.reduceLT, Int.reduceLE, Int.reduceEq, ml_i0, ↓smc, sm, ss, c91, h0, c132, h1', e]
 ·have e : chkX s st = chkE s := by unfold chkX; rw [if_pos h0]
  simp only [↓sxc, sx, se, ↓reduceIte, Nat.reduceEqDiff, Nat.reduceAdd, Nat.reduceLT, Nat.reduceLeDiff, Nat.reduceSub, Nat.reduceMul, Int.reduceToNat, Int.reduceLT, Int.reduceLE, Int.reduceEq, ml_i0, ↓smc, sm, ss, c91, h0, e]
theorem sp127 {F : Nat → Option Fn} (hB : HasB F) (hE : HasE F) {lo : Nat} {m : Mem} (s : Sys) (st : List (List Frm)) (V : VSt s st) {w : Nat} {l : List Frm} (hw : st[w]? = some l) : callw F 127 [vSys s, vSt st, vi w] lo m = some (.bool (possB s st (topS s l)), m) := by
 have hv := valid_of V.v
 have hs := V.sm
 have hfr := forms_ok V.ln V.fm
 have hlm := List.mem_of_getElem? hw
 have hst := hs.stk hlm
 obtain ⟨f, q, a, c, x, T⟩ := V.top hlm
 obtain ⟨hp, hcn⟩ := T.pre hv
 rw [T.ht]
 obtain ⟨o1, o2, k1, k5⟩ := preE_on hp
 obtain ⟨k, hko⟩ : ∃ k : Nat, x.on = k := ⟨x.on.toNat, by omega⟩
 have z0 : (0 : Int) ≤ k := by omega
 have zn : ((k : Nat) : Int).toNat = k := rfl
 have w0 : (0 : Int) ≤ w := by omega
 have wn : ((w : Nat) : Int).toNat = w := rfl
 have h0 := T.ln
 have wr : wrapF .i64 ((l.length : Int) - 1) = ((l.length - 1 : Nat) : Int) := by rw [wr_i64 (by omega) (by omega)]; omega
 have l0 : (0 : Int) ≤ ((l.length - 1 : Nat) : Int) := by omega
 have ln : ((l.length - 1 : Nat) : Int).toNat = l.length - 1 := rfl
 have q0 : (0 : Int) ≤ q := by omega
 have qn : ((q : Nat) : Int).toNat = q := rfl
 have a0 : (0 : Int) ≤ a := by omega
 have an : ((a : Nat) : Int).toNat = a := rfl
 have hf := T.hf
 have hq := T.hq
 have ha := T.ha
 have hc := T.hc
 have hx := T.hx
 have kk1 : vkeys (vStps c.steps) = [] := rfl
 have kk2 : vkeys (vStp x) = [] := rfl
 refine call_p hE.h127 rfl ?_
 simp only [↓sxc, sx, se, ↓reduceIte, Nat.reduceEqDiff, Nat.reduceAdd, Nat.reduceLT, Nat.reduceLeDiff, Nat.reduceSub, Nat.reduceMul, Int.reduceToNat, Int.reduceLT, Int.reduceLE, Int.reduceEq, ml_i0, ↓smc, sm, ss, w0, wn, hw, wr, l0, ln, hf]
 refine W_cutN (n' := 13) (e := []) (x := [(3, vSys s), (4, vSt st), (9, vStp x)]) (m := m) (fun Q hQ => ?_) (fun n => ?_)
 ·simp only [↓sxc, sx, se, ↓reduceIte, Nat.reduceEqDiff, Nat.reduceAdd, Nat.reduceLT, Nat.reduceLeDiff, Nat.reduceSub, Nat.reduceMul, Int.reduceToNat, Int.reduceLT, Int.reduceLE, Int.reduceEq, ml_i0, ↓W_dreg, ↓sk, sk, ss, hq, ha, q0, qn, hc, a0, an, hx]
  exact ⟨by simp [pairsOk, nth_eq, keysApart, Key.apart, kk1, kk2], hQ⟩
 ·by_cases e1 : x.kind = 1
  ·have hn : nOf s x = s.pools.length := by simp [nOf, e1]
   have kn : k < s.pools.length := by omega
   have hpl : s.pools[k]? = some s.pools[k] := List.getElem?_eq_getElem kn
   have hz : sizeAt s k = s.pools[k].size := by unfold sizeAt; rw [zn, hpl]
   have hr : resAt s k = s.pools[k].res := by unfold resAt; rw [zn, hpl]
   have hq := hv.pool _ (List.mem_of_getElem? hpl)
   generalize s.pools[k] = p at hpl hz hr hq
   have bu := accU_bd hv (kind := 0) V.ok.ln k
   have c134 : ∀ {lo m}, callw F 134 [vSys s, vSt st, vi k] lo m = some (vi (accU s 0 st.flatten k), m) := fun {lo m} => sp134 hB hE s hv st hs.l1 hs.ln hfr k
   have w1 : wrapF .i64 (p.size - accU s 0 st.flatten k) = p.size - accU s 0 st.flatten k := wr_i64 (by omega) (by omega)
   have w2 : wrapF .i64 (x.cnt + p.res) = x.cnt + p.res := wr_i64 (by omega) (by omega)
   have ep : possB s st x = ((x.deep && decide (0 ≤ p.size - accU s 0 st.flatten k - x.cnt)) || decide (p.res ≤ p.size - accU s 0 st.flatten k - x.cnt)) := by
    unfold possB
    rw [if_pos e1, hko, hz, hr, zn]
   rw [ep]
   cases hd : x.deep with
   | false =>
    have e : (false && decide (0 ≤ p.size - accU s 0 st.flatten k - x.cnt) || decide (p.res ≤ p.size - accU s 0 st.flatten k - x.cnt)) = decide (x.cnt + p.res ≤ p.size - accU s 0 st.flatten k) := by
     rw [Bool.false_and, Bool.false_or]
     exact decide_eq_decide.2 (by omega)
    rw [e]
    simp only [↓sxc, sx, se, ↓reduceIte, Nat.reduceEqDiff, Nat.reduceAdd, Nat.reduceLT, Nat.reduceLeDiff, Nat.reduceSub, Nat.reduceMul, Int.reduceToNat, Int.reduceLT, Int.reduceLE, Int.reduceEq, ml_i0, ↓smc, sm, ss, e1, hko, z0, zn, hpl, c134, w1, w2, hd]
   | true =>
    have e : (true && decide (0 ≤ p.size - accU s 0 st.flatten k - x.cnt) || decide (p.res ≤ p.size - accU s 0 st.flatten k - x.cnt)) = decide (x.cnt ≤ p.size - accU s 0 st.flatten k) := by
     rw [Bool.true_and, ← Bool.decide_or]
     exact decide_eq_decide.2 (by omega)
    rw [e]
    simp only [↓sxc, sx, se, ↓reduceIte, Nat.reduceEqDiff, Nat.reduceAdd, Nat.reduceLT, Nat.reduceLeDiff, Nat.reduceSub, Nat.reduceMul, Int.reduceToNat, Int.reduceLT, Int.reduceLE, Int.reduceEq, ml_i0, ↓smc, sm, ss, e1, hko, z0, zn, hpl, c134, w1, w2, hd]
  ·by_cases e3 : x.kind = 3
   ·have n1 : ¬ (3 : Int) = 1 := by omega
    have ep : possB s st x = decide (accU s 1 st.flatten k = 0) := by
     unfold possB
     rw [if_neg e1, if_pos e3, hko, zn]
    rw [ep]
    have c135 : ∀ {lo m}, callw F 135 [vSys s, vSt st, vi k] lo m = some (vi (accU s 1 st.flatten k), m) := fun {lo m} => sp135 hB hE s hv st hs.l1 hs.ln hfr k
    simp only [↓sxc, sx, se, ↓reduceIte, Nat.reduceEqDiff, Nat.reduceAdd, Nat.reduceLT, Nat.reduceLeDiff, Nat.reduceSub, Nat.reduceMul, Int.reduceToNat, Int.reduceLT, Int.reduceLE, Int.reduceEq, ml_i0, ↓smc, sm, ss, e3, n1, hko, c135]
   ·by_cases e5 : x.kind = 5
    ·have hn : nOf s x = s.cls.length := by simp [nOf, e5]
     have kn : k < s.cls.length := by omega
     have hcl : s.cls[k]? = some s.cls[k] := List.getElem?_eq_getElem kn
     have hz : wkOf s k = s.cls[k].wk := by unfold wkOf; rw [zn, hcl]
     generalize s.cls[k] = c at hcl hz
     have n1 : ¬ (5 : Int) = 1 := by omega
     have n3 : ¬ (5 : Int) = 3 := by omega
     have ep : possB s st x = decide (accE s st.flatten k < c.wk) := by
      unfold possB
      rw [if_neg e1, if_neg e3, if_pos e5, hko, zn, hz]
     rw [ep]
     have c136 : ∀ {lo m}, callw F 136 [vSys s, vSt st, vi k] lo m = some (vi (accE s st.flatten k), m) := fun {lo m} => sp136 hB hE s hv st hs.l1 hs.ln hfr k
     simp only [↓sxc, sx, se, ↓reduceIte, Nat.reduceEqDiff, Nat.reduceAdd, Nat.reduceLT, Nat.reduceLeDiff, Nat.reduceSub, Nat.reduceMul, Int.reduceToNat, Int.reduceLT, Int.reduceLE, Int.reduceEq, ml_i0, ↓smc, sm, ss, e5, n1, n3, hko, z0, zn, c136, hcl]
    ·have ep : possB s st x = true := by
      unfold possB
      rw [if_neg e1, if_neg e3, if_neg e5]
     rw [ep]
     simp only [↓sxc, sx, se, ↓reduceIte, Nat.reduceEqDiff, Nat.reduceAdd, Nat.reduceLT, Nat.reduceLeDiff, Nat.reduceSub, Nat.reduceMul, Int.reduceToNat, Int.reduceLT, Int.reduceLE, Int.reduceEq, ml_i0, ↓smc, sm, ss, e1, e3, e5]
theorem sp63 {F : Nat → Option Fn} (hA : HasA F) (hB : HasB F) (hE : HasE F) {lo : Nat} {m : Mem} (s : Sys) (st : List (List Frm)) (hs : Sml st) : callw F 63 [vSys s, vSt st] lo m = some (ints (enabX s st), m) := by
 have c60 : ∀ {lo m}, callw F 60 [vSys s, vSt st] lo m = some (vi (chkX s st), m) := fun {lo m} => sp60 hA hB hE s st hs
 have hs1 := hs.l1
 refine call_p hE.h63 rfl ?_
 by_cases h : chkX s st = 0
 ·have V := vst_of hs h
  have e : enabX s st = enabE s st := by unfold enabX; rw [if_pos h]
  rw [e]
  have loop : ∀ (t : List (List Frm)) (i : Nat) (v : Go.Am.V) (m' : Mem) (Q : Ex → St → Prop), st.drop i = t → m.next ≤ m'.next → Rw m.next m' 1 v ((enabS s st (st.take i) 0).map vi) →
    (∀ v m' e b, m.next ≤ m'.next → Rw m.next m' 1 v ((enabE s st).map vi) → Q (.exit 0) ⟨(5, v) :: e, b, [], m'⟩) →
    W F m.next L63_1 ⟨[(5, v), (6, vi i)], [(2, vSys s), (3, vSt st)], [], m'⟩ Q := by
   intro t
   induction t with
   | nil =>
    intro i v m' Q hd hm hr hQ
    have hlt := drop_nil hd
    rw [W_L (c := L63_1) rfl]
    have : ¬ ((i : Nat) : Int) < (st.length : Int) := by omega
    simp only [↓sxc, sx, se, ↓reduceIte, Nat.reduceEqDiff, Nat.reduceAdd, Nat.reduceLT, Nat.reduceLeDiff, Nat.reduceSub, Nat.reduceMul, Int.reduceToNat, Int.reduceLT, Int.reduceLE, Int.reduceEq, ml_i0, ↓smc, sm, ss, this]
    rw [List.take_of_length_le hlt] at hr
    exact hQ v m' _ _ hm hr
   | cons l t ih =>
    intro i v m' Q hd hm hr hQ
    obtain ⟨hg, hd', hlt⟩ := drop_cons hd
    have c127 : ∀ {lo m}, callw F 127 [vSys s, vSt st, vi i] lo m = some (.bool (possB s st (topS s l)), m) := fun {lo m} => sp127 hB hE s st V hg
    have hil : (st.take i).length = i := by simp; omega
    have hsn : enabS s st (st.take (i + 1)) 0 = enabS s st (st.take i) 0 ++ if possB s st (topS s l) = true then [(i : Int)] else [] := by
     rw [take_succ_drop hd, enabS_snoc, hil, Nat.zero_add]
    have hel := enabS_len (s := s) (st := st) (t := st.take i) (i := 0)
    have c0 : ((i : Nat) : Int) < (st.length : Int) := by omega
    have wr : wrapF .i64 ((i : Int) + 1) = ((i + 1 : Nat) : Int) := by rw [wr_i64 (by omega) (by omega)]; rfl
    rw [W_L (c := L63_1) rfl]
    cases hb : possB s st (topS s l) with
    | false =>
     rw [hb] at c127 hsn
     simp only [Bool.false_eq_true, if_false, List.append_nil] at hsn
     rw [← hsn] at hr
     simp only [↓sxc, sx, se, ↓reduceIte, Nat.reduceEqDiff, Nat.reduceAdd, Nat.reduceLT, Nat.reduceLeDiff, Nat.reduceSub, Nat.reduceMul, Int.reduceToNat, Int.reduceLT, Int.reduceLE, Int.reduceEq, ml_i0, ↓smc, sm, ss, c0, c127, wr]
     exact ih (i + 1) v _ Q hd' hm hr hQ
    | true =>
     rw [hb] at c127 hsn
     simp only [if_true] at hsn
     obtain ⟨v', m'', hap, hr', hn, _⟩ := hr.app (y := .lst false 1 [vi i]) hm vw_lst (.inl rfl) (by simp [big]; omega)
     simp only [↓sxc, sx, se, ↓reduceIte, Nat.reduceEqDiff, Nat.reduceAdd, Nat.reduceLT, Nat.reduceLeDiff, Nat.reduceSub, Nat.reduceMul, Int.reduceToNat, Int.reduceLT, Int.reduceLE, Int.reduceEq, ml_i0, ↓smc, sm, ss, c0, c127, hap, wr]
     refine ih (i + 1) v' (m''.bump 1) Q hd' ?_ ?_ hQ
     ·show m.next ≤ m''.next + 1; omega
     ·rw [hsn, List.map_append]
      exact hr'
  simp only [↓sxc, sx, se, ↓reduceIte, Nat.reduceEqDiff, Nat.reduceAdd, Nat.reduceLT, Nat.reduceLeDiff, Nat.reduceSub, Nat.reduceMul, Int.reduceToNat, Int.reduceLT, Int.reduceLE, Int.reduceEq, ml_i0, ↓smc, sm, ss, c60, h]
  refine loop st 0 .nil m _ rfl (Nat.le_refl _) .nil (fun v m' e b q1 q2 => ?_)
  have fz : freeze m.next m' 8 v = some (ints (enabE s st)) := by
   rw [q2.freeze, mapO_id (fun x hx => by
    obtain ⟨y, _, rfl⟩ := List.mem_map.1 hx
    rfl)]
   rfl
  simp only [↓sxc, sx, se, ↓reduceIte, Nat.reduceEqDiff, Nat.reduceAdd, Nat.reduceLT, Nat.reduceLeDiff, Nat.reduceSub, Nat.reduceMul, Int.reduceToNat, Int.reduceLT, Int.reduceLE, Int.reduceEq, ml_i0, ↓smc, sm, fz]
 ·have e : enabX s st = [] := by unfold enabX; rw [if_neg h]
  rw [e]
  simp only [↓sxc, sx, se, ↓reduceIte, Nat.reduceEqDiff, Nat.reduceAdd, Nat.reduceLT, Nat.reduceLeDiff, Nat.reduceSub, Nat.reduceMul, Int.reduceToNat, Int.reduceLT, Int.reduceLE, Int.reduceEq, ml_i0, ↓smc, sm, ss, c60, h]
  rfl
end Go.Am
namespace Go.Am
open Go
set_option linter.unusedSimpArgs false
set_option linter.unusedVariables false
set_option maxRecDepth 100000
def ends (e : Edge) : Int × Int := (e.fr, e.to)
def addE (l : List Edge) (x : Edge) : List Edge := if ends x ∈ l.map ends then l else l ++ [x]
theorem upd_pair {lo : Nat} {m : Mem} {h : Nat} {l : List (Int × Int)} {a b : Int} (hb : m.blk h = some (.map (seenV l))) (hl : lo ≤ h) (hn : (a, b) ∉ l) : ∃ m1, updV lo m true (.map h) (.agg [vi a, vi b]) (.bool true) = some m1 ∧ m1.next = m.next ∧ m1.blk h = some (.map (seenV (l ++ [(a, b)]))) ∧ ∀ k, k ≠ h → m1.blk k = m.blk k := by
 refine ⟨m.set h (some (.map (seenV (l ++ [(a, b)])))), ?_, rfl, by simp [Mem.set], fun k hk => set_ne hk⟩
 have := set_seen (p := (a, b)) (l := l) hn
 have k1 : (keyIs true (V.agg [vi a, vi b]) && (V.bool true).one) = true := rfl
 simp only [updV, k1, if_true, hl, hb]
 rw [show V.agg [vi a, vi b] = pairV (a, b) from rfl, this]
 rfl
structure Ed (lo : Nat) (m : Mem) (v : V) (h : Nat) (l : List Edge) : Prop where
 rw : Rw lo m 4 v (l.map vEdge)
 lh : lo ≤ h
 hm : h < m.next
 bh : m.blk h = some (.map (seenV (l.map ends)))
 ne : ∀ s o k, v ≠ .row s h o k
theorem Ed.skip {lo h : Nat} {m : Mem} {v : V} {l : List Edge} {x : Edge} (H : Ed lo m v h l) (hx : ends x ∈ l.map ends) : Ed lo m v h (addE l x) := by
 unfold addE
 rw [if_pos hx]
 exact H
theorem Ed.add {lo h : Nat} {m : Mem} {v : V} {l : List Edge} {x : Edge} (H : Ed lo m v h l) (hx : ends x ∉ l.map ends) (hlo : lo ≤ m.next) (hl : l.length < 100000) :
  ∃ m1 v' m2, updV lo m true (.map h) (.agg [vi x.fr, vi x.to]) (.bool true) = some m1 ∧ apV lo m1.next m1 4 v (.lst false 4 [.agg [vi x.fr, vi x.to, vi x.cls, vi x.step]]) = some (v', m2) ∧ m.next ≤ m2.next ∧ Ed lo (m2.bump 1) v' h (addE l x) := by
 obtain ⟨m1, h1, h2, h3, h4⟩ := upd_pair H.bh H.lh hx
 have hr : Rw lo m1 4 v (l.map vEdge) := H.rw.mono (by omega) (fun k l hk => h4 k (by
  intro e
  subst e
  exact H.ne _ _ _ hk))
 obtain ⟨v', m2, a1, a2, a3, a4, a5, a6⟩ := hr.app2 (y := .lst false 4 [.agg [vi x.fr, vi x.to, vi x.cls, vi x.step]]) (by omega) vw_lst (.inl rfl) (by simp [big]; omega)
 refine ⟨m1, v', m2, h1, a1, by omega, ?_⟩
 have hm := H.hm
 have e : addE l x = l ++ [x] := by unfold addE; rw [if_neg hx]
 rw [e]
 refine ⟨by rw [List.map_append]; exact a2, H.lh, by show h < m2.next + 1; omega, ?_, fun s o k => ?_⟩
 ·show m2.blk h = _
  rw [a5 h (fun l => H.ne _ _ _) (by omega), h3, List.map_append]
  rfl
 ·rcases a6 with rfl | ⟨l, rfl⟩
  ·exact fun h => by cases h
  ·intro e
   cases e
   omega
end Go.Am
namespace Go.Am
open Go
set_option linter.unusedSimpArgs false
set_option linter.unusedVariables false
set_option maxRecDepth 100000
theorem sp45 {F : Nat → Option Fn} (hB : HasB F) {lo : Nat} {m : Mem} (a b : List Int) (ha : a.length < 1000000) : callw F 45 [ints a, ints b] lo m = some (.bool (decide (a = b)), m) := by
 have loop : a.length = b.length → ∀ (t u : List Int) (i : Nat) (n : Nat) (Q : Ex → St → Prop), a.drop i = t → b.drop i = u →
   (t ≠ u → ∀ n, Q .ret ⟨[(4, .bool false)], [], [], m.bump n⟩) → (t = u → ∀ n e, Q (.exit 0) ⟨e, [], [], m.bump n⟩) →
   W F m.next L45_1 ⟨[(0, ints a), (1, ints b), (5, vi i)], [], [], m.bump n⟩ Q := by
  intro hl t
  induction t with
  | nil =>
   intro u i n Q hd hd2 q1 q2
   have hlt := drop_nil hd
   rw [W_L (c := L45_1) rfl]
   have : ¬ ((i : Nat) : Int) < (a.length : Int) := by omega
   simp only [↓sxc, sx, se, ↓reduceIte, Nat.reduceEqDiff, Nat.reduceAdd, Nat.reduceLT, Nat.reduceLeDiff, Nat.reduceSub, Nat.reduceMul, Int.reduceToNat, Int.reduceLT, Int.reduceLE, Int.reduceEq, ml_i0, ↓smc, sm, this]
   refine q2 ?_ n _
   rw [← hd2, List.drop_eq_nil_of_le (by omega)]
  | cons x t ih =>
   intro u i n Q hd hd2 q1 q2
   obtain ⟨hg, hd', hlt⟩ := drop_cons hd
   cases u with
   | nil => have := drop_nil hd2; omega
   | cons y u =>
    obtain ⟨hg2, hd2', hlt2⟩ := drop_cons hd2
    rw [W_L (c := L45_1) rfl]
    have : ((i : Nat) : Int) < (a.length : Int) := by omega
    have wr : wrapF .i64 ((i : Int) + 1) = ((i + 1 : Nat) : Int) := by rw [wr_i64 (by omega) (by omega)]; rfl
    by_cases hxy : x = y
    ·subst hxy
     simp only [↓sxc, sx, se, ↓reduceIte, Nat.reduceEqDiff, Nat.reduceAdd, Nat.reduceLT, Nat.reduceLeDiff, Nat.reduceSub, Nat.reduceMul, Int.reduceToNat, Int.reduceLT, Int.reduceLE, Int.reduceEq, ml_i0, ↓smc, sm, this, hg, hg2, wr, ne_eq, decide_true, Bool.not_true]
     refine ih u (i + 1) _ Q hd' hd2' (fun h => q1 (fun h' => h (by cases h'; rfl))) (fun h => q2 (by rw [h]))
    ·simp only [↓sxc, sx, se, ↓reduceIte, Nat.reduceEqDiff, Nat.reduceAdd, Nat.reduceLT, Nat.reduceLeDiff, Nat.reduceSub, Nat.reduceMul, Int.reduceToNat, Int.reduceLT, Int.reduceLE, Int.reduceEq, ml_i0, ↓smc, sm, this, hg, hg2, wr, ne_eq, hxy, decide_false, Bool.not_false]
     exact q1 (fun h' => hxy (by cases h'; rfl)) _
 refine call_p hB.h45 rfl ?_
 by_cases hl : (a.length : Int) = (b.length : Int)
 ·simp only [↓sxc, sx, se, ↓reduceIte, Nat.reduceEqDiff, Nat.reduceAdd, Nat.reduceLT, Nat.reduceLeDiff, Nat.reduceSub, Nat.reduceMul, Int.reduceToNat, Int.reduceLT, Int.reduceLE, Int.reduceEq, ml_i0, ↓smc, sm, hl]
  refine loop (by omega) a b 0 0 _ rfl rfl (fun h n => ?_) (fun h n e => ?_)
  ·have : decide (a = b) = false := by simp [h]
   simp only [↓sxc, sx, se, ↓reduceIte, Nat.reduceEqDiff, Nat.reduceAdd, Nat.reduceLT, Nat.reduceLeDiff, Nat.reduceSub, Nat.reduceMul, Int.reduceToNat, Int.reduceLT, Int.reduceLE, Int.reduceEq, ml_i0, ↓smc, sm, this]
  ·have : decide (a = b) = true := by simp [h]
   simp only [↓sxc, sx, se, ↓reduceIte, Nat.reduceEqDiff, Nat.reduceAdd, Nat.reduceLT, Nat.reduceLeDiff, Nat.reduceSub, Nat.reduceMul, Int.reduceToNat, Int.reduceLT, Int.reduceLE, Int.reduceEq, ml_i0, ↓smc, sm, this]
 ·have : decide (a = b) = false := by
   have : a ≠ b := fun h => hl (by rw [h])
   simp [this]
  simp only [↓sxc, sx, se, ↓reduceIte, Nat.reduceEqDiff, Nat.reduceAdd, Nat.reduceLT, Nat.reduceLeDiff, Nat.reduceSub, Nat.reduceMul, Int.reduceToNat, Int.reduceLT, Int.reduceLE, Int.reduceEq, ml_i0, ↓smc, sm, hl, this]
theorem Rw.sl {lo sz : Nat} {m : Mem} {v : V} {xs : List V} (h : Rw lo m sz v xs) : v = .nil ∧ xs = [] ∨ Sl m sz v xs := by
 rcases h with h | ⟨h, rfl, _, _, h3⟩
 ·exact .inl h
 ·exact .inr (Sl.row h3)
end Go.Am
