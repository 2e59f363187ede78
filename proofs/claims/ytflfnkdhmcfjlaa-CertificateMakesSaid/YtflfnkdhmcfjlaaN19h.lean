/- A part of the proof: The law CertificateMakes holds: Make, Impossible, Explain and Enough return what is specified for any system; no conditions. -/
import Derived.Test.YtflfnkdhmcfjlaaN19g
namespace Go.Am
open Go
set_option linter.unusedSimpArgs false
set_option linter.unusedVariables false
set_option maxRecDepth 100000
def sel (deep : Bool) (q : Int × Int) : Int := if deep = true then q.2 else q.1
theorem pks_snoc {pool : Int} {x : Stp} : ∀ {l : List Stp} {q b : Int × Int}, pks pool (l ++ [x]) q b = (max (pks pool l q b).1 (ud pool (l ++ [x]) q).1, max (pks pool l q b).2 (ud pool (l ++ [x]) q).2)
 | [], q, b => rfl
 | y :: l, q, b => pks_snoc (l := l)
theorem pk_snoc {pool : Int} {x : Stp} {l : List Stp} {deep : Bool} : sel deep (pk pool (l ++ [x])) = max (sel deep (pk pool l)) (unitsE pool (l ++ [x]) deep) := by
 unfold pk sel unitsE
 rw [pks_snoc]
 cases deep <;> rfl
theorem OkC.take {c : Cls} (h : OkC c) (n : Nat) : ∀ x ∈ c.steps.take n, -1000 ≤ x.cnt ∧ x.cnt ≤ 1000 := fun x hx => h.cnt x (List.mem_of_mem_take hx)
theorem sp32 {F : Nat → Option Fn} (hA : HasA F) (hB : HasB F) {lo : Nat} {m : Mem} (s : Sys) (pool : Int) (deep : Bool) : callw F 32 [vSys s, vi pool, .bool deep] lo m = some (vi (demE s pool deep), m) := by
 have loop1 : ∀ (c : Cls) (hc : OkC c) (n : V) (ci : V) (r k : Nat) (most : Int) (Q : Ex → St → Prop), k + r = c.steps.length + 1 → (k = 0 → most = 0) → (∀ j, k = j + 1 → most = sel deep (pk pool (c.steps.take j))) →
   (∀ e, Q (.exit 2) ⟨(1, vi pool) :: (2, .bool deep) :: (7, n) :: (8, ci) :: (10, vi (sel deep (pk pool c.steps))) :: e, [(3, vSys s), (9, vCls c)], [], m⟩) →
   W F m.next L32_1 ⟨[(1, vi pool), (2, .bool deep), (7, n), (8, ci), (10, vi most), (11, vi k)], [(3, vSys s), (9, vCls c)], [], m⟩ Q := by
  intro c hc n ci r
  have hl := hc.l12
  induction r with
  | zero =>
   intro k most Q hk h0 h1 hq
   rw [W_L (c := L32_1) rfl]
   have : ¬ ((k : Nat) : Int) ≤ (c.steps.length : Int) := by omega
   simp only [↓sxc, sx, se, ↓reduceIte, Nat.reduceEqDiff, Nat.reduceAdd, Nat.reduceLT, Nat.reduceLeDiff, Nat.reduceSub, Nat.reduceMul, Int.reduceToNat, Int.reduceLT, Int.reduceLE, Int.reduceEq, ml_i0, this]
   have := h1 c.steps.length (by omega)
   rw [List.take_length] at this
   rw [this]
   exact hq _
  | succ r ih =>
   intro k most Q hk h0 h1 hq
   rw [W_L (c := L32_1) rfl]
   have : ((k : Nat) : Int) ≤ (c.steps.length : Int) := by omega
   have wr : wrapF .i64 ((k : Int) + 1) = ((k + 1 : Nat) : Int) := by rw [wr_i64 (by omega) (by omega)]; rfl
   have cc : ∀ {lo m}, callw F 93 [vCls c, vi pool, vi k, .bool deep] lo m = some (vi (unitsE pool (c.steps.take k) deep), m) := fun {lo m} => sp93 hB c pool k deep hc (by omega)
   simp only [↓sxc, sx, se, ↓reduceIte, Nat.reduceEqDiff, Nat.reduceAdd, Nat.reduceLT, Nat.reduceLeDiff, Nat.reduceSub, Nat.reduceMul, Int.reduceToNat, Int.reduceLT, Int.reduceLE, Int.reduceEq, ml_i0, this, cc, wr]
   refine ih (k + 1) _ Q (by omega) (by omega) (fun j hj => ?_) hq
   have : j = k := by omega
   subst this
   cases j with
   | zero =>
    rw [h0 rfl]
    cases deep <;> simp [sel, pk, pks, unitsE, ud]
   | succ j =>
    have hjl : j < c.steps.length := by omega
    have ht : c.steps.take (j + 1) = c.steps.take j ++ [c.steps[j]] := by
     rw [List.take_add_one, List.getElem?_eq_getElem hjl]
     rfl
    rw [h1 j rfl, ht, pk_snoc]
 have loop2 : s.cls.length < 100 → (∀ c ∈ s.cls, OkC c) → ∀ (t : List Cls) (i : Nat) (a : Int) (Q : Ex → St → Prop), s.cls.drop i = t → (0 ≤ a ∧ a ≤ 48000 * i) →
   (∀ e, Q (.exit 0) ⟨(1, vi pool) :: (2, .bool deep) :: (7, vi (a + sel deep (dem pool t))) :: e, [(3, vSys s)], [], m⟩) →
   W F m.next L32_2 ⟨[(1, vi pool), (2, .bool deep), (7, vi a), (8, vi i)], [(3, vSys s)], [], m⟩ Q := by
  intro hl hc t
  induction t with
  | nil =>
   intro i a Q hd _ hq
   have hlt := drop_nil hd
   rw [W_L (c := L32_2) rfl]
   have : ¬ ((i : Nat) : Int) < (s.cls.length : Int) := by omega
   simp only [↓sxc, sx, se, ↓reduceIte, Nat.reduceEqDiff, Nat.reduceAdd, Nat.reduceLT, Nat.reduceLeDiff, Nat.reduceSub, Nat.reduceMul, Int.reduceToNat, Int.reduceLT, Int.reduceLE, Int.reduceEq, ml_i0, this]
   have := hq [(8, vi i), (30, .bool false)]
   have e : sel deep (dem pool []) = 0 := by cases deep <;> rfl
   rw [e, Int.add_zero] at this
   exact this
  | cons z t ih =>
   intro i a Q hd ha hq
   obtain ⟨hg, hd', hlt⟩ := drop_cons hd
   have hz := hc z (List.mem_of_getElem? hg)
   have hb := pk_bd (pool := pool) hz
   have w0 := hz.w0
   have w4 := hz.w4
   have hs : 0 ≤ sel deep (pk pool z.steps) ∧ sel deep (pk pool z.steps) ≤ 12000 := by
    unfold sel
    split
    ·exact hb.2
    ·exact hb.1
   rw [W_L (c := L32_2) rfl]
   have : ((i : Nat) : Int) < (s.cls.length : Int) := by omega
   have wr : wrapF .i64 ((i : Int) + 1) = ((i + 1 : Nat) : Int) := by rw [wr_i64 (by omega) (by omega)]; rfl
   have p1 : 0 ≤ z.wk * sel deep (pk pool z.steps) ∧ z.wk * sel deep (pk pool z.steps) ≤ 48000 := by
    refine ⟨Int.mul_nonneg w0 hs.1, ?_⟩
    have := Int.mul_le_mul w4 hs.2 hs.1 (by omega)
    omega
   have m1 : wrapF .i64 (z.wk * sel deep (pk pool z.steps)) = z.wk * sel deep (pk pool z.steps) := wr_i64 (by omega) (by omega)
   have a1 : wrapF .i64 (a + z.wk * sel deep (pk pool z.steps)) = a + z.wk * sel deep (pk pool z.steps) := wr_i64 (by omega) (by omega)
   simp only [↓sxc, sx, se, ↓reduceIte, Nat.reduceEqDiff, Nat.reduceAdd, Nat.reduceLT, Nat.reduceLeDiff, Nat.reduceSub, Nat.reduceMul, Int.reduceToNat, Int.reduceLT, Int.reduceLE, Int.reduceEq, ml_i0, this, hg]
   refine loop1 z hz _ _ (z.steps.length + 1) 0 0 _ (Nat.zero_add _) (fun _ => rfl) (fun j hj => by omega) (fun e => ?_)
   simp only [↓sxc, sx, se, ↓reduceIte, Nat.reduceEqDiff, Nat.reduceAdd, Nat.reduceLT, Nat.reduceLeDiff, Nat.reduceSub, Nat.reduceMul, Int.reduceToNat, Int.reduceLT, Int.reduceLE, Int.reduceEq, ml_i0, m1, a1, wr]
   refine ih (i + 1) _ Q hd' (by push_cast; omega) (fun e => ?_)
   have := hq e
   have e2 : sel deep (dem pool (z :: t)) = z.wk * sel deep (pk pool z.steps) + sel deep (dem pool t) := by cases deep <;> rfl
   rw [e2, ← Int.add_assoc] at this
   exact this
 have c0 : ∀ {lo m}, callw F 91 [vSys s] lo m = some (vi (chkE s), m) := fun {lo m} => sp91 hA s
 refine call_p hB.h32 rfl ?_
 by_cases h0 : chkE s = 0
 ·have hv := valid_of h0
  have hlc : s.cls.length < 100 := by have := hv.c6; omega
  by_cases p1 : pool < 0
  ·have e : demE s pool deep = -1 := by simp [demE, p1]
   simp only [↓sxc, sx, se, ↓reduceIte, Nat.reduceEqDiff, Nat.reduceAdd, Nat.reduceLT, Nat.reduceLeDiff, Nat.reduceSub, Nat.reduceMul, Int.reduceToNat, Int.reduceLT, Int.reduceLE, Int.reduceEq, ml_i0, c0, h0, p1, e]
  ·by_cases p2 : (s.pools.length : Int) ≤ pool
   ·have e : demE s pool deep = -1 := by simp [demE, p2]
    simp only [↓sxc, sx, se, ↓reduceIte, Nat.reduceEqDiff, Nat.reduceAdd, Nat.reduceLT, Nat.reduceLeDiff, Nat.reduceSub, Nat.reduceMul, Int.reduceToNat, Int.reduceLT, Int.reduceLE, Int.reduceEq, ml_i0, c0, h0, p1, p2, e]
   ·have e : demE s pool deep = sel deep (dem pool s.cls) := by simp [demE, h0, p1, p2, sel]
    simp only [↓sxc, sx, se, ↓reduceIte, Nat.reduceEqDiff, Nat.reduceAdd, Nat.reduceLT, Nat.reduceLeDiff, Nat.reduceSub, Nat.reduceMul, Int.reduceToNat, Int.reduceLT, Int.reduceLE, Int.reduceEq, ml_i0, c0, h0, p1, p2]
    refine loop2 hlc hv.okC s.cls 0 0 _ rfl (by simp) (fun e1 => ?_)
    simp only [↓sxc, sx, se, ↓reduceIte, Nat.reduceEqDiff, Nat.reduceAdd, Nat.reduceLT, Nat.reduceLeDiff, Nat.reduceSub, Nat.reduceMul, Int.reduceToNat, Int.reduceLT, Int.reduceLE, Int.reduceEq, ml_i0, e, Int.zero_add]
 ·have e : demE s pool deep = -1 := by simp [demE, h0]
  simp only [↓sxc, sx, se, ↓reduceIte, Nat.reduceEqDiff, Nat.reduceAdd, Nat.reduceLT, Nat.reduceLeDiff, Nat.reduceSub, Nat.reduceMul, Int.reduceToNat, Int.reduceLT, Int.reduceLE, Int.reduceEq, ml_i0, c0, h0, e]
theorem stepsE_pre {s : Sys} : ∀ {t pre : List Stp}, stepsE s pre t = 0 → ∀ x ∈ t, preE s x = 0
 | [], pre, _, x, hx => by simp at hx
 | y :: t, pre, h, x, hx => by
  unfold stepsE at h
  split at h
  ·rename_i h1; exact absurd h h1
  ·rename_i h1
   rcases List.mem_cons.1 hx with rfl | hx
   ·exact (stepE_zero (by simpa using h1)).1
   ·exact stepsE_pre h x hx
theorem Valid.pre {s : Sys} (h : Valid s) {c : Cls} (hc : c ∈ s.cls) {x : Stp} (hx : x ∈ c.steps) : preE s x = 0 := stepsE_pre (clsOk_of (h.cls c hc)).steps x hx
def waitsE (s : Sys) (x : Stp) : Bool :=
 if x.kind = 3 ∨ x.kind = 5 then true
 else if x.kind = 1 then decide (sizeAt s x.on - resAt s x.on < (dem x.on s.cls).1) && !(x.deep && decide ((dem x.on s.cls).2 ≤ resAt s x.on))
 else false
def stepAt (s : Sys) (i k : Int) : Option Stp := (s.cls[i.toNat]?).bind fun c => c.steps[k.toNat]?
def mayWait (s : Sys) (i k : Int) : Bool :=
 if chkE s ≠ 0 ∨ i < 0 ∨ k < 0 then false else match stepAt s i k with
  | some x => waitsE s x
  | none => false
theorem on_pools {s : Sys} {x : Stp} (h : preE s x = 0) (hk : x.kind = 1) : 0 ≤ x.on ∧ ∃ p, s.pools[x.on.toNat]? = some p := by
 obtain ⟨o1, o2, _⟩ := preE_on h
 have : nOf s x = s.pools.length := by simp [nOf, hk]
 exact ⟨o1, _, List.getElem?_eq_getElem (by omega)⟩
theorem sp94 {F : Nat → Option Fn} (hB : HasB F) {lo : Nat} {m : Mem} (s : Sys) (x : Stp) (hv : Valid s) (hp : preE s x = 0) : callw F 94 [vSys s, vStp x] lo m = some (.bool (waitsE s x), m) := by
 refine call_p hB.h94 rfl ?_
 by_cases k3 : x.kind = 3
 ·have e : waitsE s x = true := by simp [waitsE, k3]
  simp only [↓sxc, sx, se, ↓reduceIte, Nat.reduceEqDiff, Nat.reduceAdd, Nat.reduceLT, Nat.reduceLeDiff, Nat.reduceSub, Nat.reduceMul, Int.reduceToNat, Int.reduceLT, Int.reduceLE, Int.reduceEq, ml_i0, k3, e]
 ·by_cases k5 : x.kind = 5
  ·have e : waitsE s x = true := by simp [waitsE, k5]
   simp only [↓sxc, sx, se, ↓reduceIte, Nat.reduceEqDiff, Nat.reduceAdd, Nat.reduceLT, Nat.reduceLeDiff, Nat.reduceSub, Nat.reduceMul, Int.reduceToNat, Int.reduceLT, Int.reduceLE, Int.reduceEq, ml_i0, k3, k5, e]
  ·by_cases k1 : x.kind = 1
   ·obtain ⟨o1, p, hpp⟩ := on_pools hp k1
    have hs : sizeAt s x.on = p.size := by simp [sizeAt, hpp]
    have hr : resAt s x.on = p.res := by simp [resAt, hpp]
    have hb := hv.pool p (List.mem_of_getElem? hpp)
    have w1 : wrapF .i64 (p.size - p.res) = p.size - p.res := wr_i64 (by omega) (by omega)
    have c1 : ∀ {lo m}, callw F 92 [vSys s, vi x.on] lo m = some (.tup [vi (dem x.on s.cls).1, vi (dem x.on s.cls).2], m) := fun {lo m} => sp92 hB s x.on (by have := hv.c6; omega) hv.okC
    by_cases q1 : p.size - p.res < (dem x.on s.cls).1
    ·cases hd : x.deep
     ·have e : waitsE s x = true := by simp [waitsE, k1, hs, hr, q1, hd]
      simp only [↓sxc, sx, se, ↓reduceIte, Nat.reduceEqDiff, Nat.reduceAdd, Nat.reduceLT, Nat.reduceLeDiff, Nat.reduceSub, Nat.reduceMul, Int.reduceToNat, Int.reduceLT, Int.reduceLE, Int.reduceEq, ml_i0, k3, k5, k1, c1, o1, hpp, w1, q1, hd, e]
     ·by_cases q2 : (dem x.on s.cls).2 ≤ p.res
      ·have e : waitsE s x = false := by simp [waitsE, k1, hs, hr, q1, hd, q2]
       simp only [↓sxc, sx, se, ↓reduceIte, Nat.reduceEqDiff, Nat.reduceAdd, Nat.reduceLT, Nat.reduceLeDiff, Nat.reduceSub, Nat.reduceMul, Int.reduceToNat, Int.reduceLT, Int.reduceLE, Int.reduceEq, ml_i0, k3, k5, k1, c1, o1, hpp, w1, q1, hd, q2, e]
      ·have e : waitsE s x = true := by simp [waitsE, k1, hs, hr, q1, hd, q2]
       simp only [↓sxc, sx, se, ↓reduceIte, Nat.reduceEqDiff, Nat.reduceAdd, Nat.reduceLT, Nat.reduceLeDiff, Nat.reduceSub, Nat.reduceMul, Int.reduceToNat, Int.reduceLT, Int.reduceLE, Int.reduceEq, ml_i0, k3, k5, k1, c1, o1, hpp, w1, q1, hd, q2, e]
    ·have e : waitsE s x = false := by simp [waitsE, k1, hs, hr, q1]
     simp only [↓sxc, sx, se, ↓reduceIte, Nat.reduceEqDiff, Nat.reduceAdd, Nat.reduceLT, Nat.reduceLeDiff, Nat.reduceSub, Nat.reduceMul, Int.reduceToNat, Int.reduceLT, Int.reduceLE, Int.reduceEq, ml_i0, k3, k5, k1, c1, o1, hpp, w1, q1, e]
   ·have e : waitsE s x = false := by simp [waitsE, k3, k5, k1]
    simp only [↓sxc, sx, se, ↓reduceIte, Nat.reduceEqDiff, Nat.reduceAdd, Nat.reduceLT, Nat.reduceLeDiff, Nat.reduceSub, Nat.reduceMul, Int.reduceToNat, Int.reduceLT, Int.reduceLE, Int.reduceEq, ml_i0, k3, k5, k1, e]
theorem sp95 {F : Nat → Option Fn} (hA : HasA F) (hB : HasB F) {lo : Nat} {m : Mem} (s : Sys) (on : Int) (hv : chkE s = 0) (p : Pool) (h0 : 0 ≤ on) (hp : s.pools[on.toNat]? = some p) : callw F 95 [vSys s, vi on] lo m = some (.bool (decide ((dem on s.cls).1 ≤ sizeAt s on - resAt s on)), m) := by
 have hlt : on.toNat < s.pools.length := by
  rcases Nat.lt_or_ge on.toNat s.pools.length with h | h
  ·exact h
  ·rw [List.getElem?_eq_none h] at hp; cases hp
 have hb := (valid_of hv).pool p (List.mem_of_getElem? hp)
 have hs : sizeAt s on = p.size := by simp [sizeAt, hp]
 have hr : resAt s on = p.res := by simp [resAt, hp]
 have w1 : wrapF .i64 (p.size - p.res) = p.size - p.res := wr_i64 (by omega) (by omega)
 have e : demE s on false = (dem on s.cls).1 := by
  have a1 : ¬ on < 0 := by omega
  have a2 : ¬ (s.pools.length : Int) ≤ on := by omega
  simp [demE, hv, a1, a2]
 have c1 : ∀ {lo m}, callw F 32 [vSys s, vi on, .bool false] lo m = some (vi (dem on s.cls).1, m) := fun {lo m} => by rw [← e]; exact sp32 hA hB s on false
 refine call_p hB.h95 rfl ?_
 simp only [↓sxc, sx, se, ↓reduceIte, Nat.reduceEqDiff, Nat.reduceAdd, Nat.reduceLT, Nat.reduceLeDiff, Nat.reduceSub, Nat.reduceMul, Int.reduceToNat, Int.reduceLT, Int.reduceLE, Int.reduceEq, ml_i0, c1, h0, hp, w1, hs, hr]
theorem sp96 {F : Nat → Option Fn} (hA : HasA F) (hB : HasB F) {lo : Nat} {m : Mem} (s : Sys) (on : Int) (hv : chkE s = 0) (p : Pool) (h0 : 0 ≤ on) (hp : s.pools[on.toNat]? = some p) : callw F 96 [vSys s, vi on] lo m = some (.bool (decide ((dem on s.cls).2 ≤ resAt s on)), m) := by
 have hlt : on.toNat < s.pools.length := by
  rcases Nat.lt_or_ge on.toNat s.pools.length with h | h
  ·exact h
  ·rw [List.getElem?_eq_none h] at hp; cases hp
 have hr : resAt s on = p.res := by simp [resAt, hp]
 have e : demE s on true = (dem on s.cls).2 := by
  have a1 : ¬ on < 0 := by omega
  have a2 : ¬ (s.pools.length : Int) ≤ on := by omega
  simp [demE, hv, a1, a2]
 have c1 : ∀ {lo m}, callw F 32 [vSys s, vi on, .bool true] lo m = some (vi (dem on s.cls).2, m) := fun {lo m} => by rw [← e]; exact sp32 hA hB s on true
 refine call_p hB.h96 rfl ?_
 simp only [↓sxc, sx, se, ↓reduceIte, Nat.reduceEqDiff, Nat.reduceAdd, Nat.reduceLT, Nat.reduceLeDiff, Nat.reduceSub, Nat.reduceMul, Int.reduceToNat, Int.reduceLT, Int.reduceLE, Int.reduceEq, ml_i0, c1, h0, hp, hr]
theorem sp34 {F : Nat → Option Fn} (hA : HasA F) (hB : HasB F) {lo : Nat} {m : Mem} (s : Sys) (i k : Int) : callw F 34 [vSys s, vi i, vi k] lo m = some (.bool (mayWait s i k), m) := by
 have c0 : ∀ {lo m}, callw F 91 [vSys s] lo m = some (vi (chkE s), m) := fun {lo m} => sp91 hA s
 refine call_p hB.h34 rfl ?_
 by_cases h0 : chkE s = 0
 ·have hv := valid_of h0
  by_cases i1 : i < 0
  ·have e : mayWait s i k = false := by simp [mayWait, i1]
   simp only [↓sxc, sx, se, ↓reduceIte, Nat.reduceEqDiff, Nat.reduceAdd, Nat.reduceLT, Nat.reduceLeDiff, Nat.reduceSub, Nat.reduceMul, Int.reduceToNat, Int.reduceLT, Int.reduceLE, Int.reduceEq, ml_i0, c0, h0, i1, e]
  ·by_cases i2 : (s.cls.length : Int) ≤ i
   ·have e : mayWait s i k = false := by
     have : s.cls[i.toNat]? = none := List.getElem?_eq_none (by omega)
     simp [mayWait, stepAt, this]
    simp only [↓sxc, sx, se, ↓reduceIte, Nat.reduceEqDiff, Nat.reduceAdd, Nat.reduceLT, Nat.reduceLeDiff, Nat.reduceSub, Nat.reduceMul, Int.reduceToNat, Int.reduceLT, Int.reduceLE, Int.reduceEq, ml_i0, c0, h0, i1, i2, e]
   ·have hc : s.cls[i.toNat]? = some (s.cls[i.toNat]'(by omega)) := List.getElem?_eq_getElem _
    generalize s.cls[i.toNat]'(by omega) = c at hc
    have i3 : 0 ≤ i := by omega
    by_cases k1 : k < 0
    ·have e : mayWait s i k = false := by simp [mayWait, k1]
     simp only [↓sxc, sx, se, ↓reduceIte, Nat.reduceEqDiff, Nat.reduceAdd, Nat.reduceLT, Nat.reduceLeDiff, Nat.reduceSub, Nat.reduceMul, Int.reduceToNat, Int.reduceLT, Int.reduceLE, Int.reduceEq, ml_i0, c0, h0, i1, i2, i3, hc, k1, e]
    ·by_cases k2 : (c.steps.length : Int) ≤ k
     ·have e : mayWait s i k = false := by
       have : c.steps[k.toNat]? = none := List.getElem?_eq_none (by omega)
       simp [mayWait, stepAt, hc, this]
      simp only [↓sxc, sx, se, ↓reduceIte, Nat.reduceEqDiff, Nat.reduceAdd, Nat.reduceLT, Nat.reduceLeDiff, Nat.reduceSub, Nat.reduceMul, Int.reduceToNat, Int.reduceLT, Int.reduceLE, Int.reduceEq, ml_i0, c0, h0, i1, i2, i3, hc, k1, k2, e]
     ·have hx : c.steps[k.toNat]? = some (c.steps[k.toNat]'(by omega)) := List.getElem?_eq_getElem _
      generalize c.steps[k.toNat]'(by omega) = x at hx
      have k3 : 0 ≤ k := by omega
      have e : mayWait s i k = waitsE s x := by simp [mayWait, h0, i1, k1, stepAt, hc, hx]
      have hpre := hv.pre (List.mem_of_getElem? hc) (List.mem_of_getElem? hx)
      by_cases x3 : x.kind = 3
      ·have e2 : waitsE s x = true := by simp [waitsE, x3]
       rw [e2] at e
       simp only [↓sxc, sx, se, ↓reduceIte, Nat.reduceEqDiff, Nat.reduceAdd, Nat.reduceLT, Nat.reduceLeDiff, Nat.reduceSub, Nat.reduceMul, Int.reduceToNat, Int.reduceLT, Int.reduceLE, Int.reduceEq, ml_i0, c0, h0, i1, i2, i3, hc, k1, k2, k3, hx, x3, e]
      ·by_cases x5 : x.kind = 5
       ·have e2 : waitsE s x = true := by simp [waitsE, x5]
        rw [e2] at e
        simp only [↓sxc, sx, se, ↓reduceIte, Nat.reduceEqDiff, Nat.reduceAdd, Nat.reduceLT, Nat.reduceLeDiff, Nat.reduceSub, Nat.reduceMul, Int.reduceToNat, Int.reduceLT, Int.reduceLE, Int.reduceEq, ml_i0, c0, h0, i1, i2, i3, hc, k1, k2, k3, hx, x3, x5, e]
       ·by_cases x1 : x.kind = 1
        ·obtain ⟨o1, p, hpp⟩ := on_pools hpre x1
         have c1 : ∀ {lo m}, callw F 95 [vSys s, vi x.on] lo m = some (.bool (decide ((dem x.on s.cls).1 ≤ sizeAt s x.on - resAt s x.on)), m) := fun {lo m} => sp95 hA hB s x.on h0 p o1 hpp
         have c2 : ∀ {lo m}, callw F 96 [vSys s, vi x.on] lo m = some (.bool (decide ((dem x.on s.cls).2 ≤ resAt s x.on)), m) := fun {lo m} => sp96 hA hB s x.on h0 p o1 hpp
         by_cases q1 : (dem x.on s.cls).1 ≤ sizeAt s x.on - resAt s x.on
         ·have e2 : waitsE s x = false := by
           have : ¬ sizeAt s x.on - resAt s x.on < (dem x.on s.cls).1 := by omega
           simp [waitsE, x1, this]
          rw [e2] at e
          simp only [↓sxc, sx, se, ↓reduceIte, Nat.reduceEqDiff, Nat.reduceAdd, Nat.reduceLT, Nat.reduceLeDiff, Nat.reduceSub, Nat.reduceMul, Int.reduceToNat, Int.reduceLT, Int.reduceLE, Int.reduceEq, ml_i0, c0, h0, i1, i2, i3, hc, k1, k2, k3, hx, x3, x5, x1, c1, q1, e]
         ·have q1' : sizeAt s x.on - resAt s x.on < (dem x.on s.cls).1 := by omega
          cases hd : x.deep
          ·have e2 : waitsE s x = true := by simp [waitsE, x1, q1', hd]
           rw [e2] at e
           simp only [↓sxc, sx, se, ↓reduceIte, Nat.reduceEqDiff, Nat.reduceAdd, Nat.reduceLT, Nat.reduceLeDiff, Nat.reduceSub, Nat.reduceMul, Int.reduceToNat, Int.reduceLT, Int.reduceLE, Int.reduceEq, ml_i0, c0, h0, i1, i2, i3, hc, k1, k2, k3, hx, x3, x5, x1, c1, q1, hd, e]
          ·by_cases q2 : (dem x.on s.cls).2 ≤ resAt s x.on
           ·have e2 : waitsE s x = false := by simp [waitsE, x1, q1', hd, q2]
            rw [e2] at e
            simp only [↓sxc, sx, se, ↓reduceIte, Nat.reduceEqDiff, Nat.reduceAdd, Nat.reduceLT, Nat.reduceLeDiff, Nat.reduceSub, Nat.reduceMul, Int.reduceToNat, Int.reduceLT, Int.reduceLE, Int.reduceEq, ml_i0, c0, h0, i1, i2, i3, hc, k1, k2, k3, hx, x3, x5, x1, c1, q1, hd, c2, q2, e]
           ·have e2 : waitsE s x = true := by simp [waitsE, x1, q1', hd, q2]
            rw [e2] at e
            simp only [↓sxc, sx, se, ↓reduceIte, Nat.reduceEqDiff, Nat.reduceAdd, Nat.reduceLT, Nat.reduceLeDiff, Nat.reduceSub, Nat.reduceMul, Int.reduceToNat, Int.reduceLT, Int.reduceLE, Int.reduceEq, ml_i0, c0, h0, i1, i2, i3, hc, k1, k2, k3, hx, x3, x5, x1, c1, q1, hd, c2, q2, e]
        ·have e2 : waitsE s x = false := by simp [waitsE, x3, x5, x1]
         rw [e2] at e
         simp only [↓sxc, sx, se, ↓reduceIte, Nat.reduceEqDiff, Nat.reduceAdd, Nat.reduceLT, Nat.reduceLeDiff, Nat.reduceSub, Nat.reduceMul, Int.reduceToNat, Int.reduceLT, Int.reduceLE, Int.reduceEq, ml_i0, c0, h0, i1, i2, i3, hc, k1, k2, k3, hx, x3, x5, x1, e]
 ·have e : mayWait s i k = false := by simp [mayWait, h0]
  simp only [↓sxc, sx, se, ↓reduceIte, Nat.reduceEqDiff, Nat.reduceAdd, Nat.reduceLT, Nat.reduceLeDiff, Nat.reduceSub, Nat.reduceMul, Int.reduceToNat, Int.reduceLT, Int.reduceLE, Int.reduceEq, ml_i0, c0, h0, e]
end Go.Am
namespace Go.Am
open Go
set_option linter.unusedSimpArgs false
set_option linter.unusedVariables false
set_option maxRecDepth 100000
section
variable {F : Nat → Option Fn} {lo : Nat} {md : Option (Nat × Nat)} {ops : List Op} {e b a : Env} {m : Mem} {Q : St → Prop} {d : Nat}
noncomputable def lookV (m : Mem) (arr ok : Bool) (z u k : V) : Option V :=
 match u with
 | .map h => if keyIs arr k then match m.blk h with
  | some (.map es) => (lookKey k es).map fun r => match r, ok with
   | some v, true => .tup [v, .bool true]
   | none, true => .tup [z, .bool false]
   | some v, false => v
   | none, false => z
  | _ => none
  else none
 | _ => none
noncomputable def updV (lo : Nat) (m : Mem) (arr : Bool) (u k v : V) : Option Mem :=
 match u with
 | .map h => if keyIs arr k && v.one then if lo ≤ h then match m.blk h with
  | some (.map es) => (setKey k v es).map fun es' => m.set h (some (.map es'))
  | _ => none
  else none else none
 | _ => none
theorem S_look {arr ok : Bool} {z : V} {x y : O} : S F lo md (⟨.e d, .look arr ok z, [x, y], none⟩ :: ops) ⟨e, b, a, m⟩ Q ↔ OC (getO ⟨e, b, a, m⟩ x) fun u => OC (getO ⟨e, b, a, m⟩ y) fun k => OC (lookV m arr ok z u k) fun v => S F lo (nx md) ops ⟨(d, v) :: e, b, a, m⟩ Q := by
 rw [S_exec]
 simp only [gs_cons, gs_nil, K.allocs, bmp_false]
 cases getO ⟨e, b, a, m⟩ x with
 | none => simp [OC_none]
 | some u =>
  cases getO ⟨e, b, a, m⟩ y with
  | none => simp [OC_none, OC_some]
  | some k =>
   simp only [OC_some, plan]
   cases u <;> simp only [plan_look, lookV, OC_none]
   rename_i h
   cases hk : keyIs arr k with
   | false => simp [OC_none]
   | true =>
    simp only [if_true, OC_some, act]
    cases m.blk h with
    | none => simp [OC_none]
    | some B =>
     cases B with
     | row _ _ => simp [OC_none]
     | map es =>
      simp only
      cases lookKey k es with
      | none => simp [OC_none]
      | some r => cases r <;> cases ok <;> simp [OC_some, put]
theorem S_upd {arr : Bool} {x y w : O} : S F lo md (⟨.n, .upd arr, [x, y, w], none⟩ :: ops) ⟨e, b, a, m⟩ Q ↔ OC (getO ⟨e, b, a, m⟩ x) fun u => OC (getO ⟨e, b, a, m⟩ y) fun k => OC (getO ⟨e, b, a, m⟩ w) fun v => OC (updV lo m arr u k v) fun m' => S F lo (nx md) ops ⟨e, b, a, m'⟩ Q := by
 rw [S_exec]
 simp only [gs_cons, gs_nil, K.allocs, bmp_false]
 cases getO ⟨e, b, a, m⟩ x with
 | none => simp [OC_none]
 | some u =>
  cases getO ⟨e, b, a, m⟩ y with
  | none => simp [OC_none, OC_some]
  | some k =>
   cases getO ⟨e, b, a, m⟩ w with
   | none => simp [OC_none, OC_some]
   | some v =>
    simp only [OC_some, plan]
    cases u <;> simp only [plan_upd, updV, OC_none]
    rename_i h
    cases hk : (keyIs arr k && v.one) with
    | false => simp [OC_none]
    | true =>
     simp only [if_true, OC_some, act]
     by_cases hl : lo ≤ h
     ·simp only [if_pos hl]
      cases m.blk h with
      | none => simp [OC_none]
      | some B =>
       cases B with
       | row _ _ => simp [OC_none]
       | map es =>
        simp only
        cases setKey k v es with
        | none => simp [OC_none]
        | some r => simp [OC_some, put]
     ·simp only [if_neg hl, OC_none]
end
def Apart (w v : V) : Prop := ∀ s1 s2 h l1 l2, w = .row s1 h 0 l1 → v = .row s2 h 0 l2 → False
theorem Apart.nil_r {w : V} : Apart w .nil := fun _ _ _ _ _ _ h => by cases h
theorem Apart.symm {w v : V} (h : Apart w v) : Apart v w := fun s1 s2 k l1 l2 h1 h2 => h s2 s1 k l2 l1 h2 h1
theorem Rw.app2 {lo sz s : Nat} {m : Mem} {v y : V} {xs ys : List V} (h : Rw lo m sz v xs) (hl : lo ≤ m.next) (hv : view m y = some (s, ys)) (hs : s = sz ∨ ys.length = 0) (hb : xs.length + ys.length < big) :
  ∃ v' m', apV lo m.next m sz v y = some (v', m') ∧ Rw lo (m'.bump 1) sz v' (xs ++ ys) ∧ m'.next = m.next ∧ (∀ s w ws, Rw lo m s w ws → Apart w v → Rw lo (m'.bump 1) s w ws ∧ Apart w v') ∧ (∀ k, (∀ l, v ≠ .row sz k 0 l) → k ≠ m.next → m'.blk k = m.blk k) ∧ (v' = .nil ∨ ∃ l, v' = .row sz m.next 0 l) := by
 obtain ⟨v', m', h1, h2, h3, h4⟩ := h.app hl hv hs hb
 have hv' : v' = .nil ∨ ∃ l, v' = .row sz m.next 0 l := by
  rcases h with ⟨rfl, rfl⟩ | ⟨h, rfl, q1, q2, q3⟩
  ·cases ys with
   | nil =>
    simp only [apV, hv] at h1
    cases h1
    exact .inl rfl
   | cons y ys =>
    simp only [apV, hv] at h1
    split at h1
    ·cases h1
     exact .inr ⟨_, rfl⟩
    ·cases h1
  ·simp only [apV, hv, q3, if_true] at h1
   split at h1
   ·split at h1
    ·cases h1
     exact .inr ⟨_, rfl⟩
    ·cases h1
   ·cases h1
 refine ⟨v', m', h1, h2, h3, fun s w ws hw ha => ⟨hw.mono (by show m.next ≤ m'.next + 1; omega) (fun k l hk => ?_), fun s1 s2 k l1 l2 e1 e2 => ?_⟩, h4, hv'⟩
 ·refine h4 k (fun l2 hl2 => ha _ _ _ _ _ hk hl2) ?_
  rcases hw with ⟨rfl, _⟩ | ⟨k2, rfl, _, q2, _⟩
  ·cases hk
  ·cases hk; omega
 ·rcases hw with ⟨rfl, _⟩ | ⟨k2, rfl, _, q2, _⟩
  ·cases e1
  ·cases e1
   rcases hv' with rfl | ⟨l3, rfl⟩
   ·cases e2
   ·cases e2; omega
structure Edge where
 fr : Int
 to : Int
 cls : Int
 step : Int
 deriving DecidableEq
noncomputable def vEdge (e : Edge) : V := .agg [vi e.fr, vi e.to, vi e.cls, vi e.step]
noncomputable def vEdges (l : List Edge) : V := .ro true 4 (l.map vEdge)
theorem ia_vEdges {l : List Edge} {k : IntKind} {x : Int} : retV (.ia 4) [vEdges l, .int k x] = if 0 ≤ x then (l[x.toNat]?).map fun e => .imm (vEdge e) 0 else none := by
 unfold vEdges
 rw [r_iaro, ml_get]
 cases l[x.toNat]? <;> rfl
theorem len_vEdges {l : List Edge} : retV (.len false) [vEdges l] = some (.int .i64 (l.length : Int)) := by
 unfold vEdges
 rw [r_lenro, ml_len]
theorem lof_vEdges {l : List Edge} : lenOf (vEdges l) = some l.length := by
 unfold vEdges
 rw [lenro, ml_len]
theorem ce_vEdges {l : List Edge} : V.cells (vEdges l) = [vEdges l] := rfl
theorem on_vEdges {l : List Edge} : V.ones (vEdges l) = true := rfl
theorem o1_vEdges {l : List Edge} : V.one (vEdges l) = true := rfl
theorem fz_vEdges {lo n : Nat} {m : Mem} {l : List Edge} : freeze lo m (n + 1) (vEdges l) = some (vEdges l) := rfl
theorem vw_vEdges {m : Mem} {l : List Edge} : view m (vEdges l) = some (nz 4 (l.map vEdge), l.map vEdge) := rfl
theorem sl_vEdges {l : List Edge} {a b : Nat} : slOf 4 (vEdges l) a b = if a ≤ b ∧ b ≤ l.length then some (vEdges ((l.drop a).take (b - a))) else none := by
 unfold vEdges
 rw [sl_ro, ml_len]
 by_cases h : a ≤ b ∧ b ≤ l.length
 ·rw [if_pos h, if_pos h, List.map_take, List.map_drop]
 ·rw [if_neg h, if_neg h]
theorem scn_vEdges {l : List Edge} : setC 0 1 (vEdges l) .nil = some (vEdges l) := rfl
theorem sco_vEdges {l k : List Edge} : setC 0 1 (vEdges l) (vEdges k) = some (vEdges l) := rfl
theorem ces_vEdge {s : Edge} : V.cells (vEdge s) = [.int .i64 s.fr, .int .i64 s.to, .int .i64 s.cls, .int .i64 s.step] := rfl
theorem ons_vEdge {s : Edge} : V.ones (vEdge s) = true := rfl
theorem fzs_vEdge {lo n : Nat} {m : Mem} {s : Edge} : freeze lo m (n + 2) (vEdge s) = some (vEdge s) := rfl
set_option linter.defProp false
def sm := And.intro @ia_vEdges (And.intro @len_vEdges (And.intro @lof_vEdges (And.intro @ce_vEdges (And.intro @on_vEdges (And.intro @o1_vEdges (And.intro @fz_vEdges (And.intro @vw_vEdges (And.intro @sl_vEdges (And.intro @scn_vEdges (And.intro @sco_vEdges (And.intro @ces_vEdge (And.intro @ons_vEdge (@fzs_vEdge)))))))))))))
def smc := And.intro @S_look (@S_upd)
noncomputable def pairV (p : Int × Int) : V := .agg [vi p.1, vi p.2]
noncomputable def seenV (l : List (Int × Int)) : List (V × V) := l.map fun p => (pairV p, .bool true)
theorem look_seen {p : Int × Int} : ∀ {l : List (Int × Int)}, lookKey (pairV p) (seenV l) = some (if p ∈ l then some (.bool true) else none)
 | [] => rfl
 | q :: l => by
  show (match keyEq (pairV p) (pairV q) with
   | some true => some (some (V.bool true))
   | some false => lookKey (pairV p) (seenV l)
   | none => none) = _
  obtain ⟨a, b⟩ := p
  obtain ⟨c, d⟩ := q
  show (match some (a == c && b == d) with
   | some true => some (some (V.bool true))
   | some false => lookKey (pairV (a, b)) (seenV l)
   | none => none) = _
  rw [look_seen (l := l)]
  cases hq : (a == c && b == d) with
  | true =>
   simp at hq
   simp [hq.1, hq.2]
  | false =>
   have : ¬ ((a, b) = (c, d)) := by
    intro h
    cases h
    simp at hq
   simp [this]
theorem set_seen {p : Int × Int} : ∀ {l : List (Int × Int)}, p ∉ l → setKey (pairV p) (.bool true) (seenV l) = some (seenV (l ++ [p]))
 | [], _ => rfl
 | q :: l, h => by
  have ih := set_seen (p := p) (l := l) (fun hh => h (by simp [hh]))
  obtain ⟨a, b⟩ := p
  obtain ⟨c, d⟩ := q
  show (match some (a == c && b == d) with
   | some true => some ((pairV (a, b), V.bool true) :: seenV l)
   | some false => (setKey (pairV (a, b)) (V.bool true) (seenV l)).map ((pairV (c, d), V.bool true) :: ·)
   | none => none) = _
  have hne : (a == c && b == d) = false := by
   cases hc : (a == c && b == d) with
   | false => rfl
   | true =>
    simp at hc
    exact absurd (by simp [hc.1, hc.2]) h
  rw [hne, ih]
  rfl
end Go.Am
namespace Go.Am
open Go
set_option linter.unusedSimpArgs false
set_option linter.unusedVariables false
set_option maxRecDepth 100000
def uL (s : Sys) (l : List Stp) : List Int := (List.range s.pools.length).map fun (j : Nat) => bal (j : Int) 0 l
def kL (s : Sys) (l : List Stp) : List Bool := (List.range s.locks.length).map fun (j : Nat) => decide (0 < bal (j : Int) 1 l)
theorem Rl.eqs {s : Sys} {pre : List Stp} {u : List Int} {k : List Bool} (h : Rl s pre u k) : u = uL s pre ∧ k = kL s pre := by
 constructor
 ·refine List.ext_getElem? fun j => ?_
  by_cases hj : j < s.pools.length
  ·rw [h.u j hj]
   simp [uL, hj]
  ·rw [List.getElem?_eq_none (by rw [h.ul]; omega), List.getElem?_eq_none (by simp [uL]; omega)]
 ·refine List.ext_getElem? fun j => ?_
  by_cases hj : j < s.locks.length
  ·obtain ⟨b, h1, h2⟩ := h.k j hj
   rw [h1]
   simp only [kL, List.getElem?_map, List.getElem?_range hj, Option.map_some, h2]
   cases b <;> simp
  ·rw [List.getElem?_eq_none (by rw [h.kl]; omega), List.getElem?_eq_none (by simp [kL]; omega)]
theorem stepsE_left {s : Sys} : ∀ {a b pre : List Stp}, stepsE s pre (a ++ b) = 0 → stepsE s pre a = 0
 | [], b, pre, _ => rfl
 | x :: a, b, pre, h => by
  rw [List.cons_append] at h
  unfold stepsE at h ⊢
  split at h
  ·rename_i h1; exact absurd h h1
  ·rename_i h1
   rw [if_neg h1]
   exact stepsE_left h
theorem Valid.left {s : Sys} (h : Valid s) {c : Cls} (hc : c ∈ s.cls) (k : Nat) : stepsE s [] (c.steps.take k) = 0 := by
 have h1 := (clsOk_of (h.cls c hc)).steps
 rw [← List.take_append_drop k c.steps] at h1
 exact stepsE_left h1
theorem fz_introw {lo n h : Nat} {m : Mem} {u : List Int} (hb : m.blk h = some (.row 1 (u.map vi))) (hl : lo ≤ h) : freeze lo m (n + 2) (.row 1 h 0 u.length) = some (ints u) := by
 rw [fz_row hb hl (by simp)]
 have : ((u.map vi).drop 0).take u.length = u.map vi := by rw [List.drop_zero, List.take_of_length_le (by simp)]
 rw [this, mapO_id (fun x hx => by
  obtain ⟨y, _, rfl⟩ := List.mem_map.1 hx
  rfl)]
 rfl
theorem fz_boolrow {lo n h : Nat} {m : Mem} {u : List Bool} (hb : m.blk h = some (.row 1 (u.map .bool))) (hl : lo ≤ h) : freeze lo m (n + 2) (.row 1 h 0 u.length) = some (bools u) := by
 rw [fz_row hb hl (by simp)]
 have : ((u.map V.bool).drop 0).take u.length = u.map .bool := by rw [List.drop_zero, List.take_of_length_le (by simp)]
 rw [this, mapO_id (fun x hx => by
  obtain ⟨y, _, rfl⟩ := List.mem_map.1 hx
  rfl)]
 rfl
theorem sp54 {F : Nat → Option Fn} (hA : HasA F) {lo : Nat} {m : Mem} (s : Sys) (h0 : chkE s = 0) (i k : Nat) (c : Cls) (hc : s.cls[i]? = some c) (hk : k ≤ c.steps.length) : callw F 54 [vSys s, vi i, vi k] lo m = some (.tup [ints (uL s (c.steps.take k)), bools (kL s (c.steps.take k)), vi 0], m) := by
 have hv := valid_of h0
 have hcm := List.mem_of_getElem? hc
 have hoc := hv.okC c hcm
 have hst := hv.left hcm k
 have hp := hv.size
 have h1 : s.pools.length < 100 := by have := hv.p6; omega
 have h2 : s.locks.length < 100 := by have := hv.l4; omega
 have hl12 := hoc.l12
 generalize hL : c.steps.take k = L at hst ⊢
 have hlen : L.length < 100 := by rw [← hL, List.length_take]; omega
 have loop : ∀ (p a b : Nat) (t : List Stp) (i : Nat) (u : List Int) (k : List Bool) (m' : Mem) (Q : Ex → St → Prop), L.drop i = t → Rl s (L.take i) u k → Hd m.next m' p a b u k → (∀ x ∈ L.take i, -1000 ≤ x.cnt ∧ x.cnt ≤ 1000) → stepsE s (L.take i) t = 0 →
   (∀ u k m' e, Rl s L u k → Hd m.next m' p a b u k → Q (.exit 0) ⟨(10, .ptr p 0 0) :: e, [(3, vSys s)], [], m'⟩) →
   W F m.next L54_1 ⟨[(10, .ptr p 0 0), (51, vStps L), (52, vi L.length), (53, vi i)], [(3, vSys s)], [], m'⟩ Q := by
  intro p a b t
  induction t with
  | nil =>
   intro i u k m' Q hd hr hh hb _ q2
   have hlt := drop_nil hd
   rw [W_L (c := L54_1) rfl]
   have : ¬ ((i : Nat) : Int) < (L.length : Int) := by omega
   simp only [↓sxc, sx, se, ↓reduceIte, Nat.reduceEqDiff, Nat.reduceAdd, Nat.reduceLT, Nat.reduceLeDiff, Nat.reduceSub, Nat.reduceMul, Int.reduceToNat, Int.reduceLT, Int.reduceLE, Int.reduceEq, ml_i0, this]
   rw [List.take_of_length_le hlt] at hr
   exact q2 u k m' _ hr hh
  | cons x t ih =>
   intro i u k m' Q hd hr hh hb he0 q2
   obtain ⟨hg, hd', hlt⟩ := drop_cons hd
   rw [W_L (c := L54_1) rfl]
   have : ((i : Nat) : Int) < (L.length : Int) := by omega
   have wr : wrapF .i64 ((i : Int) + 1) = ((i + 1 : Nat) : Int) := by rw [wr_i64 (by omega) (by omega)]; rfl
   have hub : ∀ n ∈ u, -1000000 ≤ n ∧ n ≤ 1000000 := by
    intro n hn
    obtain ⟨j, hj, rfl⟩ := List.getElem_of_mem hn
    have h3 := hr.u j (by rw [← hr.ul]; exact hj)
    rw [List.getElem?_eq_getElem hj] at h3
    rw [Option.some.inj h3]
    have := bal_bd (on := j) (kind := 0) hb
    rw [List.length_take] at this
    have : min i L.length ≤ 100 := by omega
    omega
   obtain ⟨v, m'', hc, ho⟩ := sp122 hA (lo := m.next) s x hh hr.ul hr.kl hp hub
   have hv := ho.res
   rw [hr.holdE] at hv
   subst hv
   have he : stepE s x (bal x.on 0 (L.take i)) (bal x.on 1 (L.take i)) = 0 := by
    unfold stepsE at he0
    split at he0
    ·rename_i h1; exact absurd he0 h1
    ·rename_i h1; simpa using h1
   have he1 : stepsE s (L.take i ++ [x]) t = 0 := by
    unfold stepsE at he0
    rw [if_neg (by simpa using he)] at he0
    exact he0
   simp only [↓sxc, sx, se, ↓reduceIte, Nat.reduceEqDiff, Nat.reduceAdd, Nat.reduceLT, Nat.reduceLeDiff, Nat.reduceSub, Nat.reduceMul, Int.reduceToNat, Int.reduceLT, Int.reduceLE, Int.reduceEq, ml_i0, this, hg, hc, he, wr]
   have hpr := (stepE_zero he).1
   have hr' := hr.step he
   rw [← take_succ_drop hd] at he1 hr'
   refine ih (i + 1) (uStep u x) (kStep k x) m'' Q hd' hr' ?_ (fun y hy => ?_) he1 q2
   ·have hba := ho.ba
    have hbb := ho.bb
    rw [if_pos hpr] at hba hbb
    have hn := ho.nx
    exact ⟨hh.pa, hh.pb, hh.ab, hh.lp, hh.la, hh.lb, Nat.lt_of_lt_of_le hh.hp hn, Nat.lt_of_lt_of_le hh.ha hn, Nat.lt_of_lt_of_le hh.hb hn, by rw [ho.oth p hh.pa hh.pb, uStep_len, kStep_len]; exact hh.bp, hba, hbb⟩
   ·rw [take_succ_drop hd] at hy
    rcases List.mem_append.1 hy with hy | hy
    ·exact hb y hy
    ·simp at hy
     subst hy
     exact stepE_cnt he hp
 have hil := (List.getElem?_eq_some_iff.1 hc).1
 have g1 : ¬ ((s.cls.length : Int) ≤ (i : Int)) := by omega
 have g2 : ¬ ((i : Int) < 0) := by omega
 have g3 : ¬ ((k : Int) < 0) := by omega
 have g4 : ¬ ((c.steps.length : Int) < (k : Int)) := by omega
 have c1 : ∀ {lo m}, callw F 49 [vSys s] lo m = some (vi (chkE s), m) := fun {lo m} => sp49 hA s
 obtain ⟨v, m1, hc1, a, b, rfl, hab, la, lb, ha, hb, hba, hbb, hold⟩ := sp121 hA (lo := m.next) (m := m) s h1 h2
 have hml : m.next ≤ m1.next := by omega
 have na : a ≠ m1.next := by omega
 have nb : b ≠ m1.next := by omega
 have n0 : ((k : Nat) : Int).toNat = k := rfl
 have i0 : ((i : Nat) : Int).toNat = i := rfl
 have p0 : (0 : Int) ≤ (i : Int) := by omega
 have p1 : (0 : Int) ≤ (k : Int) := by omega
 refine call_p hA.h54 rfl ?_
 simp only [↓sxc, sx, se, ↓reduceIte, Nat.reduceEqDiff, Nat.reduceAdd, Nat.reduceLT, Nat.reduceLeDiff, Nat.reduceSub, Nat.reduceMul, Int.reduceToNat, Int.reduceLT, Int.reduceLE, Int.reduceEq, ml_i0, c1, h0, g1, g2, g3, g4, hc, hc1, hml, i0, n0, p0, p1, hk, List.drop_zero, Nat.sub_zero, hL, Nat.zero_le]
 refine loop m1.next a b L 0 (List.replicate s.pools.length 0) (List.replicate s.locks.length false) _ _ rfl Rl.start ⟨na.symm, nb.symm, hab, by omega, la, lb, Nat.lt_succ_self _, Nat.lt_succ_of_lt ha, Nat.lt_succ_of_lt hb, by simp [Mem.set], by simp [Mem.set, Mem.bump, na, hba], by simp [Mem.set, Mem.bump, nb, hbb]⟩ (by simp) hst (fun u k m' e1 hr hh => ?_)
 obtain ⟨e1, e2⟩ := hr.eqs
 simp only [↓sxc, sx, se, ↓reduceIte, Nat.reduceEqDiff, Nat.reduceAdd, Nat.reduceLT, Nat.reduceLeDiff, Nat.reduceSub, Nat.reduceMul, Int.reduceToNat, Int.reduceLT, Int.reduceLE, Int.reduceEq, ml_i0, hh.bp]
 have f1 : freeze m.next (m'.bump 7) 7 (V.row 1 a 0 u.length) = some (ints u) := fz_introw hh.ba hh.la
 have f2 : freeze m.next (m'.bump 7) 7 (V.row 1 b 0 k.length) = some (bools k) := fz_boolrow hh.bb hh.lb
 simp only [mapO, f1, f2, fz_int, Option.map_some]
 rw [e1, e2]
theorem sp149 {F : Nat → Option Fn} (hA : HasA F) {lo : Nat} {m : Mem} (s : Sys) (h0 : chkE s = 0) (i k : Nat) (c : Cls) (hc : s.cls[i]? = some c) (hk : k ≤ c.steps.length) : callw F 149 [vSys s, vi i, vi k] lo m = some (.tup [ints (uL s (c.steps.take k)), bools (kL s (c.steps.take k)), vi 0], m) := by
 have hv := valid_of h0
 have hcm := List.mem_of_getElem? hc
 have hoc := hv.okC c hcm
 have hl12 := hoc.l12
 have cb : ∀ {lo m} (on kind : Int), callw F 164 [vStps c.steps, vi k, vi on, vi kind] lo m = some (vi (bal on kind (c.steps.take k)), m) := fun {lo m} on kind => sp164 hA c.steps k on kind hk (by omega) (fun x hx => hoc.cnt x (List.mem_of_mem_take hx))
 have h1 : s.pools.length < 100 := by have := hv.p6; omega
 have h2 : s.locks.length < 100 := by have := hv.l4; omega
 have loop1 : ∀ (r i : Nat) (v : V) (xs : List Int) (m' : Mem) (Q : Ex → St → Prop), i + r = s.pools.length → xs = (List.range i).map (fun (j : Nat) => bal (j : Int) 0 (c.steps.take k)) → m.next ≤ m'.next → Rw m.next m' 1 v (xs.map vi) →
   (∀ v m' e, m.next ≤ m'.next → Rw m.next m' 1 v ((uL s (c.steps.take k)).map vi) → Q (.exit 0) ⟨(2, vi k) :: (10, vStps c.steps) :: (11, v) :: (12, .nil) :: e, [(3, vSys s)], [], m'⟩) →
   W F m.next L149_1 ⟨[(2, vi k), (10, vStps c.steps), (11, v), (12, .nil), (13, vi i)], [(3, vSys s)], [], m'⟩ Q := by
  intro r
  induction r with
  | zero =>
   intro i v xs m' Q hi hx hm hr hq
   rw [W_L (c := L149_1) rfl]
   have : ¬ ((i : Nat) : Int) < (s.pools.length : Int) := by omega
   simp only [↓sxc, sx, se, ↓reduceIte, Nat.reduceEqDiff, Nat.reduceAdd, Nat.reduceLT, Nat.reduceLeDiff, Nat.reduceSub, Nat.reduceMul, Int.reduceToNat, Int.reduceLT, Int.reduceLE, Int.reduceEq, ml_i0, this]
   have e : uL s (c.steps.take k) = xs := by rw [hx, show i = s.pools.length by omega]; rfl
   exact hq v m' _ hm (by rw [e]; exact hr)
  | succ r ih =>
   intro i v xs m' Q hi hx hm hr hq
   rw [W_L (c := L149_1) rfl]
   have : ((i : Nat) : Int) < (s.pools.length : Int) := by omega
   have wr : wrapF .i64 ((i : Int) + 1) = ((i + 1 : Nat) : Int) := by rw [wr_i64 (by omega) (by omega)]; rfl
   have hxl : xs.length = i := by rw [hx]; simp
   obtain ⟨v', m'', hap, hr', hn, _⟩ := Rw.app (y := .lst false 1 [vi (bal (i : Int) 0 (c.steps.take k))]) hr hm vw_lst (.inl rfl) (by simp [big, hxl]; omega)
   simp only [↓sxc, sx, se, ↓reduceIte, Nat.reduceEqDiff, Nat.reduceAdd, Nat.reduceLT, Nat.reduceLeDiff, Nat.reduceSub, Nat.reduceMul, Int.reduceToNat, Int.reduceLT, Int.reduceLE, Int.reduceEq, ml_i0, this, cb, hap, wr]
   refine ih (i + 1) v' (xs ++ [bal (i : Int) 0 (c.steps.take k)]) (m''.bump 1) Q (by omega) (by rw [hx, List.range_succ, List.map_append]; rfl) ?_ (by simpa using hr') hq
   show m.next ≤ m''.next + 1
   omega
 have loop2 : ∀ (r i : Nat) (v w : V) (xs : List Bool) (m' : Mem) (Q : Ex → St → Prop), i + r = s.locks.length → xs = (List.range i).map (fun (j : Nat) => decide (0 < bal (j : Int) 1 (c.steps.take k))) → m.next ≤ m'.next → Rw m.next m' 1 w ((uL s (c.steps.take k)).map vi) → Rw m.next m' 1 v (xs.map .bool) → Apart w v →
   (∀ v m' e, m.next ≤ m'.next → Rw m.next m' 1 w ((uL s (c.steps.take k)).map vi) → Rw m.next m' 1 v ((kL s (c.steps.take k)).map .bool) → Q (.exit 2) ⟨(2, vi k) :: (10, vStps c.steps) :: (11, w) :: (12, v) :: e, [(3, vSys s)], [], m'⟩) →
   W F m.next L149_2 ⟨[(2, vi k), (10, vStps c.steps), (11, w), (12, v), (14, vi i)], [(3, vSys s)], [], m'⟩ Q := by
  intro r
  induction r with
  | zero =>
   intro i v w xs m' Q hi hx hm hw hr ha hq
   rw [W_L (c := L149_2) rfl]
   have : ¬ ((i : Nat) : Int) < (s.locks.length : Int) := by omega
   simp only [↓sxc, sx, se, ↓reduceIte, Nat.reduceEqDiff, Nat.reduceAdd, Nat.reduceLT, Nat.reduceLeDiff, Nat.reduceSub, Nat.reduceMul, Int.reduceToNat, Int.reduceLT, Int.reduceLE, Int.reduceEq, ml_i0, this]
   have e : kL s (c.steps.take k) = xs := by rw [hx, show i = s.locks.length by omega]; rfl
   exact hq v m' _ hm hw (by rw [e]; exact hr)
  | succ r ih =>
   intro i v w xs m' Q hi hx hm hw hr ha hq
   rw [W_L (c := L149_2) rfl]
   have : ((i : Nat) : Int) < (s.locks.length : Int) := by omega
   have wr : wrapF .i64 ((i : Int) + 1) = ((i + 1 : Nat) : Int) := by rw [wr_i64 (by omega) (by omega)]; rfl
   have hxl : xs.length = i := by rw [hx]; simp
   obtain ⟨v', m'', hap, hr', hn, ho, _⟩ := Rw.app2 (y := .lst false 1 [.bool (decide (0 < bal (i : Int) 1 (c.steps.take k)))]) hr hm vw_lst (.inl rfl) (by simp [big, hxl]; omega)
   obtain ⟨o1, o2⟩ := ho _ _ _ hw ha
   simp only [↓sxc, sx, se, ↓reduceIte, Nat.reduceEqDiff, Nat.reduceAdd, Nat.reduceLT, Nat.reduceLeDiff, Nat.reduceSub, Nat.reduceMul, Int.reduceToNat, Int.reduceLT, Int.reduceLE, Int.reduceEq, ml_i0, this, cb, hap, wr]
   refine ih (i + 1) v' w (xs ++ [decide (0 < bal (i : Int) 1 (c.steps.take k))]) (m''.bump 1) Q (by omega) (by rw [hx, List.range_succ, List.map_append]; rfl) ?_ o1 (by simpa using hr') o2 hq
   show m.next ≤ m''.next + 1
   omega
 have hil := (List.getElem?_eq_some_iff.1 hc).1
 have g1 : ¬ ((s.cls.length : Int) ≤ (i : Int)) := by omega
 have g2 : ¬ ((i : Int) < 0) := by omega
 have g3 : ¬ ((k : Int) < 0) := by omega
 have g4 : ¬ ((c.steps.length : Int) < (k : Int)) := by omega
 have c1 : ∀ {lo m}, callw F 91 [vSys s] lo m = some (vi (chkE s), m) := fun {lo m} => sp91 hA s
 have i0 : ((i : Nat) : Int).toNat = i := rfl
 have p0 : (0 : Int) ≤ (i : Int) := by omega
 refine call_p hA.h149 rfl ?_
 simp only [↓sxc, sx, se, ↓reduceIte, Nat.reduceEqDiff, Nat.reduceAdd, Nat.reduceLT, Nat.reduceLeDiff, Nat.reduceSub, Nat.reduceMul, Int.reduceToNat, Int.reduceLT, Int.reduceLE, Int.reduceEq, ml_i0, c1, h0, g1, g2, g3, g4, hc, i0, p0]
 refine loop1 s.pools.length 0 .nil [] m _ (by omega) rfl (Nat.le_refl _) .nil (fun v m' e hm hr => ?_)
 simp only [↓sxc, sx, se, ↓reduceIte, Nat.reduceEqDiff, Nat.reduceAdd, Nat.reduceLT, Nat.reduceLeDiff, Nat.reduceSub, Nat.reduceMul, Int.reduceToNat, Int.reduceLT, Int.reduceLE, Int.reduceEq, ml_i0]
 refine loop2 s.locks.length 0 .nil v [] m' _ (by omega) rfl hm hr .nil .nil_r (fun v2 m2 e hm hr1 hr2 => ?_)
 simp only [↓sxc, sx, se, ↓reduceIte, Nat.reduceEqDiff, Nat.reduceAdd, Nat.reduceLT, Nat.reduceLeDiff, Nat.reduceSub, Nat.reduceMul, Int.reduceToNat, Int.reduceLT, Int.reduceLE, Int.reduceEq, ml_i0]
 simp only [mapO]
 rw [hr1.freeze, hr2.freeze, mapO_id (fun x hx => by
  obtain ⟨y, _, rfl⟩ := List.mem_map.1 hx
  rfl), mapO_id (fun x hx => by
  obtain ⟨y, _, rfl⟩ := List.mem_map.1 hx
  rfl)]
 rfl
end Go.Am
namespace Go.Am
open Go
set_option linter.unusedSimpArgs false
set_option linter.unusedVariables false
set_option maxRecDepth 100000
def target (s : Sys) (x : Stp) : Int := if x.kind = 3 then s.pools.length + x.on else if x.kind = 5 then s.pools.length + s.locks.length + x.on else x.on
theorem sp97 {F : Nat → Option Fn} (hB : HasB F) {lo : Nat} {m : Mem} (s : Sys) (x : Stp) (hv : Valid s) (hp : preE s x = 0) : callw F 97 [vSys s, vStp x] lo m = some (vi (target s x), m) := by
  have p6 := hv.p6
  have l4 := hv.l4
  have c6 := hv.c6
  obtain ⟨o1, o2, _⟩ := preE_on hp
  have hn : nOf s x ≤ 10 := by unfold nOf; repeat' split
                               all_goals omega
  have w1 : wrapF .i64 ((s.pools.length : Int) + x.on) = s.pools.length + x.on := wr_i64 (by omega) (by omega)
  have w2 : wrapF .i64 ((s.pools.length : Int) + s.locks.length) = s.pools.length + s.locks.length := wr_i64 (by omega) (by omega)
  have w3 : wrapF .i64 ((s.pools.length : Int) + s.locks.length + x.on) = s.pools.length + s.locks.length + x.on := wr_i64 (by omega) (by omega)
  refine call_p hB.h97 rfl ?_
  by_cases k3 : x.kind = 3
  · have e : target s x = s.pools.length + x.on := by simp [target, k3]
    simp only [↓sxc, sx, se, ↓reduceIte, Nat.reduceEqDiff, Nat.reduceAdd, Nat.reduceLT, Nat.reduceLeDiff, Nat.reduceSub, Nat.reduceMul, Int.reduceToNat, Int.reduceLT, Int.reduceLE, Int.reduceEq, ml_i0, k3, w1, e]
  · by_cases k5 : x.kind = 5
    · have e : target s x = s.pools.length + s.locks.length + x.on := by simp [target, k5]
      simp only [↓sxc, sx, se, ↓reduceIte, Nat.reduceEqDiff, Nat.reduceAdd, Nat.reduceLT, Nat.reduceLeDiff, Nat.reduceSub, Nat.reduceMul, Int.reduceToNat, Int.reduceLT, Int.reduceLE, Int.reduceEq, ml_i0, k5, w2, w3, e]
    · have e : target s x = x.on := by simp [target, k3, k5]
      simp only [↓sxc, sx, se, ↓reduceIte, Nat.reduceEqDiff, Nat.reduceAdd, Nat.reduceLT, Nat.reduceLeDiff, Nat.reduceSub, Nat.reduceMul, Int.reduceToNat, Int.reduceLT, Int.reduceLE, Int.reduceEq, ml_i0, k3, k5, e]
theorem sp100 {F : Nat → Option Fn} (hB : HasB F) {lo : Nat} {m : Mem} (s : Sys) (x : Stp) (hv : Valid s) (hp : preE s x = 0) : callw F 100 [vSys s, vStp x] lo m = some (vi (target s x), m) := by
  have p6 := hv.p6
  have l4 := hv.l4
  have c6 := hv.c6
  obtain ⟨o1, o2, _⟩ := preE_on hp
  have hn : nOf s x ≤ 10 := by unfold nOf; repeat' split
                               all_goals omega
  have w1 : wrapF .i64 ((s.pools.length : Int) + x.on) = s.pools.length + x.on := wr_i64 (by omega) (by omega)
  have w2 : wrapF .i64 ((s.pools.length : Int) + s.locks.length) = s.pools.length + s.locks.length := wr_i64 (by omega) (by omega)
  have w3 : wrapF .i64 ((s.pools.length : Int) + s.locks.length + x.on) = s.pools.length + s.locks.length + x.on := wr_i64 (by omega) (by omega)
  refine call_p hB.h100 rfl ?_
  by_cases k3 : x.kind = 3
  · have e : target s x = s.pools.length + x.on := by simp [target, k3]
    simp only [↓sxc, sx, se, ↓reduceIte, Nat.reduceEqDiff, Nat.reduceAdd, Nat.reduceLT, Nat.reduceLeDiff, Nat.reduceSub, Nat.reduceMul, Int.reduceToNat, Int.reduceLT, Int.reduceLE, Int.reduceEq, ml_i0, k3, w1, e]
  · by_cases k5 : x.kind = 5
    · have e : target s x = s.pools.length + s.locks.length + x.on := by simp [target, k5]
      simp only [↓sxc, sx, se, ↓reduceIte, Nat.reduceEqDiff, Nat.reduceAdd, Nat.reduceLT, Nat.reduceLeDiff, Nat.reduceSub, Nat.reduceMul, Int.reduceToNat, Int.reduceLT, Int.reduceLE, Int.reduceEq, ml_i0, k5, w2, w3, e]
    · have e : target s x = x.on := by simp [target, k3, k5]
      simp only [↓sxc, sx, se, ↓reduceIte, Nat.reduceEqDiff, Nat.reduceAdd, Nat.reduceLT, Nat.reduceLeDiff, Nat.reduceSub, Nat.reduceMul, Int.reduceToNat, Int.reduceLT, Int.reduceLE, Int.reduceEq, ml_i0, k3, k5, e]
theorem ud_bal {pool : Int} : ∀ {l : List Stp} {q : Int × Int}, (ud pool l q).1 = q.1 + bal pool 0 l
 | [], q => by simp [ud, bal]
 | x :: t, q => by
  rw [ud, ud_bal (l := t), bal]
  have : (udStep pool x q).1 = q.1 + delta pool 0 x := by
   unfold udStep delta
   by_cases h : x.on = pool
   ·by_cases h1 : x.kind = 1
    ·simp [h, h1]
    ·by_cases h2 : x.kind = 2
     ·simp [h, h2]; omega
     ·simp [h, h1, h2]
   ·simp [h]
  omega
def held0 (l : List Stp) (n : Nat) : List Int := ((List.range n).filter fun (j : Nat) => decide (0 < bal (j : Int) 0 l)).map fun (j : Nat) => (j : Int)
def held1 (p : Nat) (l : List Stp) (n : Nat) : List Int := ((List.range n).filter fun (j : Nat) => decide (0 < bal (j : Int) 1 l)).map fun (j : Nat) => (p : Int) + (j : Int)
def hold (s : Sys) (i : Nat) (c : Cls) (l : List Stp) : List Int :=
 held0 l s.pools.length ++ held1 s.pools.length l s.locks.length ++ if c.srv = true then [(s.pools.length : Int) + s.locks.length + i] else []
theorem held0_succ {l : List Stp} {n : Nat} : held0 l (n + 1) = held0 l n ++ if 0 < bal (n : Int) 0 l then [(n : Int)] else [] := by
 unfold held0
 rw [List.range_succ, List.filter_append, List.map_append]
 by_cases h : 0 < bal (n : Int) 0 l <;> simp [h]
theorem held1_succ {p : Nat} {l : List Stp} {n : Nat} : held1 p l (n + 1) = held1 p l n ++ if 0 < bal (n : Int) 1 l then [(p : Int) + n] else [] := by
 unfold held1
 rw [List.range_succ, List.filter_append, List.map_append]
 by_cases h : 0 < bal (n : Int) 1 l <;> simp [h]
theorem held0_len {l : List Stp} {n : Nat} : (held0 l n).length ≤ n := by
 unfold held0
 rw [List.length_map]
 exact Nat.le_trans (List.length_filter_le ..) (by simp)
theorem held1_len {p : Nat} {l : List Stp} {n : Nat} : (held1 p l n).length ≤ n := by
 unfold held1
 rw [List.length_map]
 exact Nat.le_trans (List.length_filter_le ..) (by simp)
theorem sp98 {F : Nat → Option Fn} (hA : HasA F) (hB : HasB F) {lo : Nat} {m : Mem} (s : Sys) (h0 : chkE s = 0) (i k : Nat) (c : Cls) (hc : s.cls[i]? = some c) (hk : k ≤ c.steps.length) : callw F 98 [vSys s, vi i, vi k] lo m = some (ints (hold s i c (c.steps.take k)), m) := by
 have hv := valid_of h0
 have p6 := hv.p6
 have l4 := hv.l4
 have c6 := hv.c6
 have hil := (List.getElem?_eq_some_iff.1 hc).1
 have c1 : ∀ {lo m}, callw F 54 [vSys s, vi i, vi k] lo m = some (.tup [ints (uL s (c.steps.take k)), bools (kL s (c.steps.take k)), vi 0], m) := fun {lo m} => sp54 hA s h0 i k c hc hk
 generalize c.steps.take k = L at *
 have ul : (uL s L).length = s.pools.length := by simp [uL]
 have kl : (kL s L).length = s.locks.length := by simp [kL]
 have loop1 : ∀ (r j : Nat) (v : V) (m' : Mem) (Q : Ex → St → Prop), j + r = s.pools.length → m.next ≤ m'.next → Rw m.next m' 1 v ((held0 L j).map vi) →
   (∀ v m' e, m.next ≤ m'.next → Rw m.next m' 1 v ((held0 L s.pools.length).map vi) → Q (.exit 0) ⟨(1, vi i) :: (8, bools (kL s L)) :: (10, v) :: e, [(3, vSys s)], [], m'⟩) →
   W F m.next L98_1 ⟨[(1, vi i), (8, bools (kL s L)), (10, v), (23, ints (uL s L)), (24, vi s.pools.length), (25, vi j)], [(3, vSys s)], [], m'⟩ Q := by
  intro r
  induction r with
  | zero =>
   intro j v m' Q hi hm hr hq
   rw [W_L (c := L98_1) rfl]
   have : ¬ ((j : Nat) : Int) < (s.pools.length : Int) := by omega
   simp only [↓sxc, sx, se, ↓reduceIte, Nat.reduceEqDiff, Nat.reduceAdd, Nat.reduceLT, Nat.reduceLeDiff, Nat.reduceSub, Nat.reduceMul, Int.reduceToNat, Int.reduceLT, Int.reduceLE, Int.reduceEq, ml_i0, this]
   exact hq v m' _ hm (by rw [← show j = s.pools.length by omega]; exact hr)
  | succ r ih =>
   intro j v m' Q hi hm hr hq
   rw [W_L (c := L98_1) rfl]
   have : ((j : Nat) : Int) < (s.pools.length : Int) := by omega
   have wr : wrapF .i64 ((j : Int) + 1) = ((j + 1 : Nat) : Int) := by rw [wr_i64 (by omega) (by omega)]; rfl
   have hg : (uL s L)[j]? = some (bal (j : Int) 0 L) := by simp [uL, show j < s.pools.length by omega]
   have hlen := held0_len (l := L) (n := j)
   by_cases hb : 0 < bal (j : Int) 0 L
   ·obtain ⟨v', m'', hap, hr', hn, _⟩ := Rw.app (y := .lst false 1 [vi (j : Int)]) hr hm vw_lst (.inl rfl) (by simp [big]; omega)
    simp only [↓sxc, sx, se, ↓reduceIte, Nat.reduceEqDiff, Nat.reduceAdd, Nat.reduceLT, Nat.reduceLeDiff, Nat.reduceSub, Nat.reduceMul, Int.reduceToNat, Int.reduceLT, Int.reduceLE, Int.reduceEq, ml_i0, this, hg, hb, hap, wr]
    refine ih (j + 1) v' (m''.bump 1) Q (by omega) ?_ (by rw [held0_succ, if_pos hb]; simpa using hr') hq
    show m.next ≤ m''.next + 1
    omega
   ·simp only [↓sxc, sx, se, ↓reduceIte, Nat.reduceEqDiff, Nat.reduceAdd, Nat.reduceLT, Nat.reduceLeDiff, Nat.reduceSub, Nat.reduceMul, Int.reduceToNat, Int.reduceLT, Int.reduceLE, Int.reduceEq, ml_i0, this, hg, hb, wr]
    exact ih (j + 1) v m' Q (by omega) hm (by rw [held0_succ, if_neg hb, List.append_nil]; exact hr) hq
 have loop2 : ∀ (r j : Nat) (v : V) (m' : Mem) (Q : Ex → St → Prop), j + r = s.locks.length → m.next ≤ m'.next → Rw m.next m' 1 v ((held0 L s.pools.length ++ held1 s.pools.length L j).map vi) →
   (∀ v m' e, m.next ≤ m'.next → Rw m.next m' 1 v ((held0 L s.pools.length ++ held1 s.pools.length L s.locks.length).map vi) → Q (.exit 2) ⟨(1, vi i) :: (10, v) :: e, [(3, vSys s)], [], m'⟩) →
   W F m.next L98_2 ⟨[(1, vi i), (10, v), (37, bools (kL s L)), (38, vi s.locks.length), (39, vi j)], [(3, vSys s)], [], m'⟩ Q := by
  intro r
  induction r with
  | zero =>
   intro j v m' Q hi hm hr hq
   rw [W_L (c := L98_2) rfl]
   have : ¬ ((j : Nat) : Int) < (s.locks.length : Int) := by omega
   simp only [↓sxc, sx, se, ↓reduceIte, Nat.reduceEqDiff, Nat.reduceAdd, Nat.reduceLT, Nat.reduceLeDiff, Nat.reduceSub, Nat.reduceMul, Int.reduceToNat, Int.reduceLT, Int.reduceLE, Int.reduceEq, ml_i0, this]
   exact hq v m' _ hm (by rw [← show j = s.locks.length by omega]; exact hr)
  | succ r ih =>
   intro j v m' Q hi hm hr hq
   rw [W_L (c := L98_2) rfl]
   have : ((j : Nat) : Int) < (s.locks.length : Int) := by omega
   have wr : wrapF .i64 ((j : Int) + 1) = ((j + 1 : Nat) : Int) := by rw [wr_i64 (by omega) (by omega)]; rfl
   have w2 : wrapF .i64 ((s.pools.length : Int) + (j : Int)) = (s.pools.length : Int) + (j : Int) := wr_i64 (by omega) (by omega)
   have hg : (kL s L)[j]? = some (decide (0 < bal (j : Int) 1 L)) := by simp [kL, show j < s.locks.length by omega]
   have hlen := held0_len (l := L) (n := s.pools.length)
   have hlen2 := held1_len (p := s.pools.length) (l := L) (n := j)
   by_cases hb : 0 < bal (j : Int) 1 L
   ·obtain ⟨v', m'', hap, hr', hn, _⟩ := Rw.app (y := .lst false 1 [vi ((s.pools.length : Int) + (j : Int))]) hr hm vw_lst (.inl rfl) (by simp [big]; omega)
    have hd : decide (0 < bal (j : Int) 1 L) = true := by simp [hb]
    rw [hd] at hg
    simp only [↓sxc, sx, se, ↓reduceIte, Nat.reduceEqDiff, Nat.reduceAdd, Nat.reduceLT, Nat.reduceLeDiff, Nat.reduceSub, Nat.reduceMul, Int.reduceToNat, Int.reduceLT, Int.reduceLE, Int.reduceEq, ml_i0, this, hg, hap, wr, w2]
    refine ih (j + 1) v' (m''.bump 1) Q (by omega) ?_ (by rw [held1_succ, if_pos hb]; simpa using hr') hq
    show m.next ≤ m''.next + 1
    omega
   ·have hd : decide (0 < bal (j : Int) 1 L) = false := by simp [hb]
    rw [hd] at hg
    simp only [↓sxc, sx, se, ↓reduceIte, Nat.reduceEqDiff, Nat.reduceAdd, Nat.reduceLT, Nat.reduceLeDiff, Nat.reduceSub, Nat.reduceMul, Int.reduceToNat, Int.reduceLT, Int.reduceLE, Int.reduceEq, ml_i0, this, hg, wr]
    exact ih (j + 1) v m' Q (by omega) hm (by rw [held1_succ, if_neg hb, List.append_nil]; exact hr) hq
 have i0 : ((i : Nat) : Int).toNat = i := rfl
 have p0 : (0 : Int) ≤ (i : Int) := by omega
 have w1 : wrapF .i64 ((s.pools.length : Int) + (s.locks.length : Int)) = (s.pools.length : Int) + (s.locks.length : Int) := wr_i64 (by omega) (by omega)
 have w2 : wrapF .i64 ((s.pools.length : Int) + (s.locks.length : Int) + (i : Int)) = (s.pools.length : Int) + (s.locks.length : Int) + (i : Int) := wr_i64 (by omega) (by omega)
 have hlen := held0_len (l := L) (n := s.pools.length)
 have hlen2 := held1_len (p := s.pools.length) (l := L) (n := s.locks.length)
 refine call_p hB.h98 rfl ?_
 simp only [↓sxc, sx, se, ↓reduceIte, Nat.reduceEqDiff, Nat.reduceAdd, Nat.reduceLT, Nat.reduceLeDiff, Nat.reduceSub, Nat.reduceMul, Int.reduceToNat, Int.reduceLT, Int.reduceLE, Int.reduceEq, ml_i0, c1, ul]
 refine loop1 s.pools.length 0 .nil m _ (by omega) (Nat.le_refl _) .nil (fun v m' e hm hr => ?_)
 simp only [↓sxc, sx, se, ↓reduceIte, Nat.reduceEqDiff, Nat.reduceAdd, Nat.reduceLT, Nat.reduceLeDiff, Nat.reduceSub, Nat.reduceMul, Int.reduceToNat, Int.reduceLT, Int.reduceLE, Int.reduceEq, ml_i0, kl]
 refine loop2 s.locks.length 0 v m' _ (by omega) hm (by simpa [held1] using hr) (fun v m' e hm hr => ?_)
 cases hs : c.srv with
 | true =>
  obtain ⟨v', m'', hap, hr', hn, _⟩ := Rw.app (y := .lst false 1 [vi ((s.pools.length : Int) + (s.locks.length : Int) + (i : Int))]) hr hm vw_lst (.inl rfl) (by simp [big]; omega)
  simp only [↓sxc, sx, se, ↓reduceIte, Nat.reduceEqDiff, Nat.reduceAdd, Nat.reduceLT, Nat.reduceLeDiff, Nat.reduceSub, Nat.reduceMul, Int.reduceToNat, Int.reduceLT, Int.reduceLE, Int.reduceEq, ml_i0, hc, i0, p0, hs, w1, w2, hap]
  rw [hr'.freeze, mapO_id (fun x hx => by
   simp only [List.mem_append, List.mem_map, List.mem_singleton] at hx
   rcases hx with ⟨y, _, rfl⟩ | rfl <;> rfl)]
  simp [hold, hs, ints]
 | false =>
  simp only [↓sxc, sx, se, ↓reduceIte, Nat.reduceEqDiff, Nat.reduceAdd, Nat.reduceLT, Nat.reduceLeDiff, Nat.reduceSub, Nat.reduceMul, Int.reduceToNat, Int.reduceLT, Int.reduceLE, Int.reduceEq, ml_i0, hc, i0, p0, hs]
  rw [hr.freeze, mapO_id (fun x hx => by
   obtain ⟨y, _, rfl⟩ := List.mem_map.1 hx
   rfl)]
  simp [hold, hs, ints]
end Go.Am
namespace Go.Am
open Go
set_option linter.unusedSimpArgs false
set_option linter.unusedVariables false
set_option maxRecDepth 100000
theorem sp99 {F : Nat → Option Fn} (hA : HasA F) (hB : HasB F) {lo : Nat} {m : Mem} (s : Sys) (h0 : chkE s = 0) (i k : Nat) (c : Cls) (hc : s.cls[i]? = some c) (hk : k ≤ c.steps.length) : callw F 99 [vSys s, vi i, vi k] lo m = some (ints (hold s i c (c.steps.take k)), m) := by
 have hv := valid_of h0
 have p6 := hv.p6
 have l4 := hv.l4
 have c6 := hv.c6
 have hil := (List.getElem?_eq_some_iff.1 hc).1
 have hoc := hv.okC c (List.mem_of_getElem? hc)
 have c1 : ∀ {lo m}, callw F 149 [vSys s, vi i, vi k] lo m = some (.tup [ints (uL s (c.steps.take k)), bools (kL s (c.steps.take k)), vi 0], m) := fun {lo m} => sp149 hA s h0 i k c hc hk
 have c2 : ∀ {lo m} (pool : Int), callw F 93 [vCls c, vi pool, vi k, .bool false] lo m = some (vi (bal pool 0 (c.steps.take k)), m) := fun {lo m} pool => by
  have := sp93 hB (lo := lo) (m := m) c pool k false hoc hk
  rw [this]
  simp [unitsE, ud_bal]
 generalize c.steps.take k = L at *
 have ul : (uL s L).length = s.pools.length := by simp [uL]
 have kl : (kL s L).length = s.locks.length := by simp [kL]
 have loop1 : ∀ (r j : Nat) (v : V) (m' : Mem) (Q : Ex → St → Prop), j + r = s.pools.length → m.next ≤ m'.next → Rw m.next m' 1 v ((held0 L j).map vi) →
   (∀ v m' e, m.next ≤ m'.next → Rw m.next m' 1 v ((held0 L s.pools.length).map vi) → Q (.exit 0) ⟨(1, vi i) :: (2, vi k) :: (7, v) :: e, [(3, vSys s), (8, vCls c)], [], m'⟩) →
   W F m.next L99_1 ⟨[(1, vi i), (2, vi k), (7, v), (9, vi j)], [(3, vSys s), (8, vCls c)], [], m'⟩ Q := by
  intro r
  induction r with
  | zero =>
   intro j v m' Q hi hm hr hq
   rw [W_L (c := L99_1) rfl]
   have : ¬ ((j : Nat) : Int) < (s.pools.length : Int) := by omega
   simp only [↓sxc, sx, se, ↓reduceIte, Nat.reduceEqDiff, Nat.reduceAdd, Nat.reduceLT, Nat.reduceLeDiff, Nat.reduceSub, Nat.reduceMul, Int.reduceToNat, Int.reduceLT, Int.reduceLE, Int.reduceEq, ml_i0, this]
   exact hq v m' _ hm (by rw [← show j = s.pools.length by omega]; exact hr)
  | succ r ih =>
   intro j v m' Q hi hm hr hq
   rw [W_L (c := L99_1) rfl]
   have : ((j : Nat) : Int) < (s.pools.length : Int) := by omega
   have wr : wrapF .i64 ((j : Int) + 1) = ((j + 1 : Nat) : Int) := by rw [wr_i64 (by omega) (by omega)]; rfl
   have hlen := held0_len (l := L) (n := j)
   by_cases hb : 0 < bal (j : Int) 0 L
   ·obtain ⟨v', m'', hap, hr', hn, _⟩ := Rw.app (y := .lst false 1 [vi (j : Int)]) hr hm vw_lst (.inl rfl) (by simp [big]; omega)
    simp only [↓sxc, sx, se, ↓reduceIte, Nat.reduceEqDiff, Nat.reduceAdd, Nat.reduceLT, Nat.reduceLeDiff, Nat.reduceSub, Nat.reduceMul, Int.reduceToNat, Int.reduceLT, Int.reduceLE, Int.reduceEq, ml_i0, this, c2, hb, hap, wr]
    refine ih (j + 1) v' (m''.bump 1) Q (by omega) ?_ (by rw [held0_succ, if_pos hb]; simpa using hr') hq
    show m.next ≤ m''.next + 1
    omega
   ·simp only [↓sxc, sx, se, ↓reduceIte, Nat.reduceEqDiff, Nat.reduceAdd, Nat.reduceLT, Nat.reduceLeDiff, Nat.reduceSub, Nat.reduceMul, Int.reduceToNat, Int.reduceLT, Int.reduceLE, Int.reduceEq, ml_i0, this, c2, hb, wr]
    exact ih (j + 1) v m' Q (by omega) hm (by rw [held0_succ, if_neg hb, List.append_nil]; exact hr) hq
 have loop2 : ∀ (r j : Nat) (v : V) (m' : Mem) (Q : Ex → St → Prop), j + r = s.locks.length → m.next ≤ m'.next → Rw m.next m' 1 v ((held0 L s.pools.length ++ held1 s.pools.length L j).map vi) →
   (∀ v m' e, m.next ≤ m'.next → Rw m.next m' 1 v ((held0 L s.pools.length ++ held1 s.pools.length L s.locks.length).map vi) → Q (.exit 2) ⟨(1, vi i) :: (7, v) :: e, [(3, vSys s), (8, vCls c)], [], m'⟩) →
   W F m.next L99_2 ⟨[(1, vi i), (7, v), (11, bools (kL s L)), (13, vi j)], [(3, vSys s), (8, vCls c)], [], m'⟩ Q := by
  intro r
  induction r with
  | zero =>
   intro j v m' Q hi hm hr hq
   rw [W_L (c := L99_2) rfl]
   have : ¬ ((j : Nat) : Int) < (s.locks.length : Int) := by omega
   simp only [↓sxc, sx, se, ↓reduceIte, Nat.reduceEqDiff, Nat.reduceAdd, Nat.reduceLT, Nat.reduceLeDiff, Nat.reduceSub, Nat.reduceMul, Int.reduceToNat, Int.reduceLT, Int.reduceLE, Int.reduceEq, ml_i0, this, kl]
   exact hq v m' _ hm (by rw [← show j = s.locks.length by omega]; exact hr)
  | succ r ih =>
   intro j v m' Q hi hm hr hq
   rw [W_L (c := L99_2) rfl]
   have : ((j : Nat) : Int) < (s.locks.length : Int) := by omega
   have wr : wrapF .i64 ((j : Int) + 1) = ((j + 1 : Nat) : Int) := by rw [wr_i64 (by omega) (by omega)]; rfl
   have w2 : wrapF .i64 ((s.pools.length : Int) + (j : Int)) = (s.pools.length : Int) + (j : Int) := wr_i64 (by omega) (by omega)
   have hg : (kL s L)[j]? = some (decide (0 < bal (j : Int) 1 L)) := by simp [kL, show j < s.locks.length by omega]
   have hlen := held0_len (l := L) (n := s.pools.length)
   have hlen2 := held1_len (p := s.pools.length) (l := L) (n := j)
   by_cases hb : 0 < bal (j : Int) 1 L
   ·obtain ⟨v', m'', hap, hr', hn, _⟩ := Rw.app (y := .lst false 1 [vi ((s.pools.length : Int) + (j : Int))]) hr hm vw_lst (.inl rfl) (by simp [big]; omega)
    have hd : decide (0 < bal (j : Int) 1 L) = true := by simp [hb]
    rw [hd] at hg
    simp only [↓sxc, sx, se, ↓reduceIte, Nat.reduceEqDiff, Nat.reduceAdd, Nat.reduceLT, Nat.reduceLeDiff, Nat.reduceSub, Nat.reduceMul, Int.reduceToNat, Int.reduceLT, Int.reduceLE, Int.reduceEq, ml_i0, this, kl, hg, hap, wr, w2]
    refine ih (j + 1) v' (m''.bump 1) Q (by omega) ?_ (by rw [held1_succ, if_pos hb]; simpa using hr') hq
    show m.next ≤ m''.next + 1
    omega
   ·have hd : decide (0 < bal (j : Int) 1 L) = false := by simp [hb]
    rw [hd] at hg
    simp only [↓sxc, sx, se, ↓reduceIte, Nat.reduceEqDiff, Nat.reduceAdd, Nat.reduceLT, Nat.reduceLeDiff, Nat.reduceSub, Nat.reduceMul, Int.reduceToNat, Int.reduceLT, Int.reduceLE, Int.reduceEq, ml_i0, this, kl, hg, wr]
    exact ih (j + 1) v m' Q (by omega) hm (by rw [held1_succ, if_neg hb, List.append_nil]; exact hr) hq
 have i0 : ((i : Nat) : Int).toNat = i := rfl
 have p0 : (0 : Int) ≤ (i : Int) := by omega
 have w1 : wrapF .i64 ((s.pools.length : Int) + (s.locks.length : Int)) = (s.pools.length : Int) + (s.locks.length : Int) := wr_i64 (by omega) (by omega)
 have w2 : wrapF .i64 ((s.pools.length : Int) + (s.locks.length : Int) + (i : Int)) = (s.pools.length : Int) + (s.locks.length : Int) + (i : Int) := wr_i64 (by omega) (by omega)
 have hlen := held0_len (l := L) (n := s.pools.length)
 have hlen2 := held1_len (p := s.pools.length) (l := L) (n := s.locks.length)
 refine call_p hB.h99 rfl ?_
 simp only [↓sxc, sx, se, ↓reduceIte, Nat.reduceEqDiff, Nat.reduceAdd, Nat.reduceLT, Nat.reduceLeDiff, Nat.reduceSub, Nat.reduceMul, Int.reduceToNat, Int.reduceLT, Int.reduceLE, Int.reduceEq, ml_i0, hc, i0, p0]
 refine loop1 s.pools.length 0 .nil m _ (by omega) (Nat.le_refl _) .nil (fun v m' e hm hr => ?_)
 simp only [↓sxc, sx, se, ↓reduceIte, Nat.reduceEqDiff, Nat.reduceAdd, Nat.reduceLT, Nat.reduceLeDiff, Nat.reduceSub, Nat.reduceMul, Int.reduceToNat, Int.reduceLT, Int.reduceLE, Int.reduceEq, ml_i0, c1]
 refine loop2 s.locks.length 0 v m' _ (by omega) hm (by simpa [held1] using hr) (fun v m' e hm hr => ?_)
 cases hs : c.srv with
 | true =>
  obtain ⟨v', m'', hap, hr', hn, _⟩ := Rw.app (y := .lst false 1 [vi ((s.pools.length : Int) + (s.locks.length : Int) + (i : Int))]) hr hm vw_lst (.inl rfl) (by simp [big]; omega)
  simp only [↓sxc, sx, se, ↓reduceIte, Nat.reduceEqDiff, Nat.reduceAdd, Nat.reduceLT, Nat.reduceLeDiff, Nat.reduceSub, Nat.reduceMul, Int.reduceToNat, Int.reduceLT, Int.reduceLE, Int.reduceEq, ml_i0, hs, w1, w2, hap]
  rw [hr'.freeze, mapO_id (fun x hx => by
   simp only [List.mem_append, List.mem_map, List.mem_singleton] at hx
   rcases hx with ⟨y, _, rfl⟩ | rfl <;> rfl)]
  simp [hold, hs, ints]
 | false =>
  simp only [↓sxc, sx, se, ↓reduceIte, Nat.reduceEqDiff, Nat.reduceAdd, Nat.reduceLT, Nat.reduceLeDiff, Nat.reduceSub, Nat.reduceMul, Int.reduceToNat, Int.reduceLT, Int.reduceLE, Int.reduceEq, ml_i0, hs]
  rw [hr.freeze, mapO_id (fun x hx => by
   obtain ⟨y, _, rfl⟩ := List.mem_map.1 hx
   rfl)]
  simp [hold, hs, ints]
end Go.Am
namespace Go.Am
open Go
set_option linter.unusedSimpArgs false
set_option linter.unusedVariables false
set_option maxRecDepth 100000
def ends (e : Edge) : Int × Int := (e.fr, e.to)
def addE (l : List Edge) (x : Edge) : List Edge := if ends x ∈ l.map ends then l else l ++ [x]
def stE (s : Sys) (i : Nat) (c : Cls) (k : Nat) (x : Stp) : List Edge :=
 if waitsE s x = true then (hold s i c (c.steps.take k)).map fun f => ⟨f, target s x, i, k⟩ else []
def clE (s : Sys) (i : Nat) (c : Cls) : List Stp → Nat → List Edge
 | [], _ => []
 | x :: t, k => stE s i c k x ++ clE s i c t (k + 1)
def alE (s : Sys) : List Cls → Nat → List Edge
 | [], _ => []
 | c :: t, i => clE s i c c.steps 0 ++ alE s t (i + 1)
def edgesE (s : Sys) : List Edge := if chkE s ≠ 0 then [] else (alE s s.cls 0).foldl addE []
theorem hold_len {s : Sys} {i : Nat} {c : Cls} {l : List Stp} : (hold s i c l).length ≤ s.pools.length + s.locks.length + 1 := by
 have h1 := held0_len (l := l) (n := s.pools.length)
 have h2 := held1_len (p := s.pools.length) (l := l) (n := s.locks.length)
 unfold hold
 rw [List.length_append, List.length_append]
 cases c.srv <;> simp <;> omega
theorem look_pair {m : Mem} {h : Nat} {l : List (Int × Int)} {a b : Int} (hb : m.blk h = some (.map (seenV l))) : lookV m true false (.bool false) (.map h) (.agg [vi a, vi b]) = some (.bool (decide ((a, b) ∈ l))) := by
 have := look_seen (p := (a, b)) (l := l)
 simp only [lookV, keyIs, if_true, hb]
 rw [show V.agg [vi a, vi b] = pairV (a, b) from rfl, this]
 by_cases h : (a, b) ∈ l <;> simp [h]
theorem upd_pair {lo : Nat} {m : Mem} {h : Nat} {l : List (Int × Int)} {a b : Int} (hb : m.blk h = some (.map (seenV l))) (hl : lo ≤ h) (hn : (a, b) ∉ l) : ∃ m1, updV lo m true (.map h) (.agg [vi a, vi b]) (.bool true) = some m1 ∧ m1.next = m.next ∧ m1.blk h = some (.map (seenV (l ++ [(a, b)]))) ∧ ∀ k, k ≠ h → m1.blk k = m.blk k := by
 refine ⟨m.set h (some (.map (seenV (l ++ [(a, b)])))), ?_, rfl, by simp [Mem.set], fun k hk => set_ne hk⟩
 have := set_seen (p := (a, b)) (l := l) hn
 have k1 : (keyIs true (V.agg [vi a, vi b]) && (V.bool true).one) = true := rfl
 simp only [updV, k1, if_true, hl, hb]
 rw [show V.agg [vi a, vi b] = pairV (a, b) from rfl, this]
 rfl
structure Ed (lo : Nat) (m : Mem) (v : V) (h : Nat) (l : List Edge) : Prop where
 rw : Rw lo m 4 v (l.map vEdge)
 lh : lo ≤ h
 hm : h < m.next
 bh : m.blk h = some (.map (seenV (l.map ends)))
 ne : ∀ s o k, v ≠ .row s h o k
theorem Ed.skip {lo h : Nat} {m : Mem} {v : V} {l : List Edge} {x : Edge} (H : Ed lo m v h l) (hx : ends x ∈ l.map ends) : Ed lo m v h (addE l x) := by
 unfold addE
 rw [if_pos hx]
 exact H
theorem Ed.add {lo h : Nat} {m : Mem} {v : V} {l : List Edge} {x : Edge} (H : Ed lo m v h l) (hx : ends x ∉ l.map ends) (hlo : lo ≤ m.next) (hl : l.length < 100000) :
  ∃ m1 v' m2, updV lo m true (.map h) (.agg [vi x.fr, vi x.to]) (.bool true) = some m1 ∧ apV lo m1.next m1 4 v (.lst false 4 [.agg [vi x.fr, vi x.to, vi x.cls, vi x.step]]) = some (v', m2) ∧ m.next ≤ m2.next ∧ Ed lo (m2.bump 1) v' h (addE l x) := by
 obtain ⟨m1, h1, h2, h3, h4⟩ := upd_pair H.bh H.lh hx
 have hr : Rw lo m1 4 v (l.map vEdge) := H.rw.mono (by omega) (fun k l hk => h4 k (by
  intro e
  subst e
  exact H.ne _ _ _ hk))
 obtain ⟨v', m2, a1, a2, a3, a4, a5, a6⟩ := hr.app2 (y := .lst false 4 [.agg [vi x.fr, vi x.to, vi x.cls, vi x.step]]) (by omega) vw_lst (.inl rfl) (by simp [big]; omega)
 refine ⟨m1, v', m2, h1, a1, by omega, ?_⟩
 have hm := H.hm
 have e : addE l x = l ++ [x] := by unfold addE; rw [if_neg hx]
 rw [e]
 refine ⟨by rw [List.map_append]; exact a2, H.lh, by show h < m2.next + 1; omega, ?_, fun s o k => ?_⟩
 ·show m2.blk h = _
  rw [a5 h (fun l => H.ne _ _ _) (by omega), h3, List.map_append]
  rfl
 ·rcases a6 with rfl | ⟨l, rfl⟩
  ·exact fun h => by cases h
  ·intro e
   cases e
   omega
theorem addE_len {l : List Edge} {x : Edge} : (addE l x).length ≤ l.length + 1 := by
 unfold addE
 split <;> simp
theorem foldl_addE_len : ∀ {xs l : List Edge}, (xs.foldl addE l).length ≤ l.length + xs.length
 | [], l => by simp
 | x :: xs, l => by
  have h1 := foldl_addE_len (xs := xs) (l := addE l x)
  have h2 := addE_len (l := l) (x := x)
  simp only [List.foldl_cons, List.length_cons]
  omega
theorem stE_len {s : Sys} (hv : Valid s) {i : Nat} {c : Cls} {k : Nat} {x : Stp} : (stE s i c k x).length ≤ 12 := by
 have h1 := hold_len (s := s) (i := i) (c := c) (l := c.steps.take k)
 have p6 := hv.p6
 have l4 := hv.l4
 unfold stE
 split <;> simp <;> omega
theorem clE_len {s : Sys} (hv : Valid s) {i : Nat} {c : Cls} : ∀ {t : List Stp} {k : Nat}, (clE s i c t k).length ≤ 12 * t.length
 | [], k => by simp [clE]
 | x :: t, k => by
  have h1 := clE_len hv (i := i) (c := c) (t := t) (k := k + 1)
  have h2 := stE_len hv (i := i) (c := c) (k := k) (x := x)
  simp only [clE, List.length_append, List.length_cons]
  omega
theorem sp35 {F : Nat → Option Fn} (hA : HasA F) (hB : HasB F) {lo : Nat} {m : Mem} (s : Sys) : callw F 35 [vSys s] lo m = some (.tup [vEdges (edgesE s), vi (chkE s)], m) := by
 have c0 : ∀ {lo m}, callw F 49 [vSys s] lo m = some (vi (chkE s), m) := fun {lo m} => sp49 hA s
 refine call_p hB.h35 rfl ?_
 by_cases h0 : chkE s = 0
 ·have hv := valid_of h0
  have p6 := hv.p6
  have l4 := hv.l4
  have c6 := hv.c6
  have loop1 : ∀ (i k : Nat) (to : Int) (u1 u2 u3 u4 u5 : V) (hs : List Int), hs.length < 100 → ∀ (t : List Int) (j : Nat) (h : Nat) (v : V) (l : List Edge) (m' : Mem) (Q : Ex → St → Prop), hs.drop j = t → m.next ≤ m'.next → Ed m.next m' v h l → l.length + t.length < 10000 →
    (∀ v m' e, m.next ≤ m'.next → Ed m.next m' v h ((t.map fun f => (⟨f, to, i, k⟩ : Edge)).foldl addE l) → Q (.exit 4) ⟨(5, v) :: (6, .map h) :: (7, vi i) :: (8, vi k) :: (10, vi to) :: (22, u1) :: (23, u2) :: (31, u3) :: (32, u4) :: (33, u5) :: e, [(1, vSys s)], [], m'⟩) →
    W F m.next L35_1 ⟨[(5, v), (6, .map h), (7, vi i), (8, vi k), (10, vi to), (22, u1), (23, u2), (31, u3), (32, u4), (33, u5), (48, ints hs), (49, vi hs.length), (50, vi j)], [(1, vSys s)], [], m'⟩ Q := by
   intro i k to u1 u2 u3 u4 u5 hs hsl t
   induction t with
   | nil =>
    intro j h v l m' Q hd hm hE hl hq
    have hlt := drop_nil hd
    rw [W_L (c := L35_1) rfl]
    have : ¬ ((j : Nat) : Int) < (hs.length : Int) := by omega
    simp only [↓sxc, sx, se, ↓reduceIte, Nat.reduceEqDiff, Nat.reduceAdd, Nat.reduceLT, Nat.reduceLeDiff, Nat.reduceSub, Nat.reduceMul, Int.reduceToNat, Int.reduceLT, Int.reduceLE, Int.reduceEq, ml_i0, ↓smc, sm, this]
    exact hq v m' _ hm hE
   | cons f t ih =>
    intro j h v l m' Q hd hm hE hl hq
    obtain ⟨hg, hd', hlt⟩ := drop_cons hd
    rw [W_L (c := L35_1) rfl]
    have : ((j : Nat) : Int) < (hs.length : Int) := by omega
    have wr : wrapF .i64 ((j : Int) + 1) = ((j + 1 : Nat) : Int) := by rw [wr_i64 (by omega) (by omega)]; rfl
    have hlk := look_pair (a := f) (b := to) hE.bh
    by_cases hx : (f, to) ∈ l.map ends
    ·have hx' : decide ((f, to) ∈ l.map ends) = true := by simp only [hx, decide_true]
     rw [hx'] at hlk
     simp only [↓sxc, sx, se, ↓reduceIte, Nat.reduceEqDiff, Nat.reduceAdd, Nat.reduceLT, Nat.reduceLeDiff, Nat.reduceSub, Nat.reduceMul, Int.reduceToNat, Int.reduceLT, Int.reduceLE, Int.reduceEq, ml_i0, ↓smc, sm, this, hg, hlk, wr]
     exact ih (j + 1) h v (addE l ⟨f, to, i, k⟩) m' Q hd' hm (hE.skip (x := ⟨f, to, i, k⟩) hx) (by have := addE_len (l := l) (x := ⟨f, to, i, k⟩); simp at hl; omega) hq
    ·have hx' : decide ((f, to) ∈ l.map ends) = false := by simp only [hx, decide_false]
     rw [hx'] at hlk
     obtain ⟨m1, v', m2, hu, ha, hn, hE'⟩ := hE.add (x := ⟨f, to, i, k⟩) hx hm (by simp at hl; omega)
     simp only [↓sxc, sx, se, ↓reduceIte, Nat.reduceEqDiff, Nat.reduceAdd, Nat.reduceLT, Nat.reduceLeDiff, Nat.reduceSub, Nat.reduceMul, Int.reduceToNat, Int.reduceLT, Int.reduceLE, Int.reduceEq, ml_i0, ↓smc, sm, this, hg, hlk, wr, hu, ha]
     refine ih (j + 1) h v' (addE l ⟨f, to, i, k⟩) (m2.bump 1) Q hd' ?_ hE' (by have := addE_len (l := l) (x := ⟨f, to, i, k⟩); simp at hl; omega) hq
     show m.next ≤ m2.next + 1
     omega
  have loop2 : ∀ (i : Nat) (c : Cls) (hc : s.cls[i]? = some c) (t : List Stp) (k : Nat) (h : Nat) (v : V) (l : List Edge) (m' : Mem) (Q : Ex → St → Prop), c.steps.drop k = t → m.next ≤ m'.next → Ed m.next m' v h l → l.length + 12 * t.length < 5000 →
    (∀ v m' e, m.next ≤ m'.next → Ed m.next m' v h ((clE s i c t k).foldl addE l) → Q (.exit 2) ⟨(5, v) :: (6, .map h) :: (7, vi i) :: (22, vi s.cls.length) :: (23, vi i) :: e, [(1, vSys s)], [], m'⟩) →
    W F m.next L35_2 ⟨[(5, v), (6, .map h), (7, vi i), (22, vi s.cls.length), (23, vi i), (31, vStps c.steps), (32, vi c.steps.length), (33, vi k)], [(1, vSys s)], [], m'⟩ Q := by
   intro i c hc t
   have hcm := List.mem_of_getElem? hc
   have hl12 := (hv.okC c hcm).l12
   induction t with
   | nil =>
    intro k h v l m' Q hd hm hE hl hq
    have hlt := drop_nil hd
    rw [W_L (c := L35_2) rfl]
    have : ¬ ((k : Nat) : Int) < (c.steps.length : Int) := by omega
    simp only [↓sxc, sx, se, ↓reduceIte, Nat.reduceEqDiff, Nat.reduceAdd, Nat.reduceLT, Nat.reduceLeDiff, Nat.reduceSub, Nat.reduceMul, Int.reduceToNat, Int.reduceLT, Int.reduceLE, Int.reduceEq, ml_i0, ↓smc, sm, this]
    exact hq v m' _ hm hE
   | cons x t ih =>
    intro k h v l m' Q hd hm hE hl hq
    obtain ⟨hg, hd', hlt⟩ := drop_cons hd
    rw [W_L (c := L35_2) rfl]
    have : ((k : Nat) : Int) < (c.steps.length : Int) := by omega
    have wr : wrapF .i64 ((k : Int) + 1) = ((k + 1 : Nat) : Int) := by rw [wr_i64 (by omega) (by omega)]; rfl
    have hp := hv.pre hcm (List.mem_of_getElem? hg)
    have c1 : ∀ {lo m}, callw F 94 [vSys s, vStp x] lo m = some (.bool (waitsE s x), m) := fun {lo m} => sp94 hB s x hv hp
    cases hw : waitsE s x with
    | false =>
     rw [hw] at c1
     simp only [↓sxc, sx, se, ↓reduceIte, Nat.reduceEqDiff, Nat.reduceAdd, Nat.reduceLT, Nat.reduceLeDiff, Nat.reduceSub, Nat.reduceMul, Int.reduceToNat, Int.reduceLT, Int.reduceLE, Int.reduceEq, ml_i0, ↓smc, sm, this, hg, c1, wr]
     refine ih (k + 1) h v l m' Q hd' hm hE (by simp at hl; omega) (fun v m' e h1 h2 => hq v m' e h1 ?_)
     have : clE s i c (x :: t) k = clE s i c t (k + 1) := by simp [clE, stE, hw]
     rw [this]
     exact h2
    | true =>
     rw [hw] at c1
     have c2 : ∀ {lo m}, callw F 97 [vSys s, vStp x] lo m = some (vi (target s x), m) := fun {lo m} => sp97 hB s x hv hp
     have c3 : ∀ {lo m}, callw F 98 [vSys s, vi i, vi k] lo m = some (ints (hold s i c (c.steps.take k)), m) := fun {lo m} => sp98 hA hB s h0 i k c hc (by omega)
     have hhl := hold_len (s := s) (i := i) (c := c) (l := c.steps.take k)
     simp only [↓sxc, sx, se, ↓reduceIte, Nat.reduceEqDiff, Nat.reduceAdd, Nat.reduceLT, Nat.reduceLeDiff, Nat.reduceSub, Nat.reduceMul, Int.reduceToNat, Int.reduceLT, Int.reduceLE, Int.reduceEq, ml_i0, ↓smc, sm, this, hg, c1, c2, c3]
     refine loop1 i k (target s x) _ _ _ _ _ (hold s i c (c.steps.take k)) (by omega) _ 0 h v l m' _ rfl hm hE (by simp at hl; simp only [List.length_drop]; omega) (fun v m' e h1 h2 => ?_)
     have e1 : ((hold s i c (c.steps.take k)).map fun f => (⟨f, target s x, i, k⟩ : Edge)) = stE s i c k x := by unfold stE; rw [if_pos hw]
     rw [List.drop_zero, e1] at h2
     have hsl := stE_len hv (i := i) (c := c) (k := k) (x := x)
     have hfl := foldl_addE_len (xs := stE s i c k x) (l := l)
     simp only [↓sxc, sx, se, ↓reduceIte, Nat.reduceEqDiff, Nat.reduceAdd, Nat.reduceLT, Nat.reduceLeDiff, Nat.reduceSub, Nat.reduceMul, Int.reduceToNat, Int.reduceLT, Int.reduceLE, Int.reduceEq, ml_i0, ↓smc, sm, wr]
     refine ih (k + 1) h v _ m' Q hd' h1 h2 (by simp at hl; omega) (fun v m' e h1 h2 => hq v m' e h1 ?_)
     have : clE s i c (x :: t) k = stE s i c k x ++ clE s i c t (k + 1) := rfl
     rw [this, List.foldl_append]
     exact h2
  have loop3 : ∀ (t : List Cls) (i : Nat) (h : Nat) (v : V) (l : List Edge) (m' : Mem) (Q : Ex → St → Prop), s.cls.drop i = t → m.next ≤ m'.next → Ed m.next m' v h l → l.length + 144 * t.length < 4000 →
    (∀ v m' e, m.next ≤ m'.next → Ed m.next m' v h ((alE s t i).foldl addE l) → Q (.exit 0) ⟨(5, v) :: e, [(1, vSys s)], [], m'⟩) →
    W F m.next L35_3 ⟨[(5, v), (6, .map h), (22, vi s.cls.length), (23, vi i)], [(1, vSys s)], [], m'⟩ Q := by
   intro t
   induction t with
   | nil =>
    intro i h v l m' Q hd hm hE hl hq
    have hlt := drop_nil hd
    rw [W_L (c := L35_3) rfl]
    have : ¬ ((i : Nat) : Int) < (s.cls.length : Int) := by omega
    simp only [↓sxc, sx, se, ↓reduceIte, Nat.reduceEqDiff, Nat.reduceAdd, Nat.reduceLT, Nat.reduceLeDiff, Nat.reduceSub, Nat.reduceMul, Int.reduceToNat, Int.reduceLT, Int.reduceLE, Int.reduceEq, ml_i0, ↓smc, sm, this]
    exact hq v m' _ hm hE
   | cons c t ih =>
    intro i h v l m' Q hd hm hE hl hq
    obtain ⟨hg, hd', hlt⟩ := drop_cons hd
    rw [W_L (c := L35_3) rfl]
    have : ((i : Nat) : Int) < (s.cls.length : Int) := by omega
    have wr : wrapF .i64 ((i : Int) + 1) = ((i + 1 : Nat) : Int) := by rw [wr_i64 (by omega) (by omega)]; rfl
    have hl12 := (hv.okC c (List.mem_of_getElem? hg)).l12
    simp only [↓sxc, sx, se, ↓reduceIte, Nat.reduceEqDiff, Nat.reduceAdd, Nat.reduceLT, Nat.reduceLeDiff, Nat.reduceSub, Nat.reduceMul, Int.reduceToNat, Int.reduceLT, Int.reduceLE, Int.reduceEq, ml_i0, ↓smc, sm, this, hg]
    refine loop2 i c hg c.steps 0 h v l m' _ rfl hm hE (by simp at hl; omega) (fun v m' e h1 h2 => ?_)
    have hcl := clE_len hv (i := i) (c := c) (t := c.steps) (k := 0)
    have hfl := foldl_addE_len (xs := clE s i c c.steps 0) (l := l)
    simp only [↓sxc, sx, se, ↓reduceIte, Nat.reduceEqDiff, Nat.reduceAdd, Nat.reduceLT, Nat.reduceLeDiff, Nat.reduceSub, Nat.reduceMul, Int.reduceToNat, Int.reduceLT, Int.reduceLE, Int.reduceEq, ml_i0, ↓smc, sm, wr]
    refine ih (i + 1) h v _ m' Q hd' h1 h2 (by simp at hl; omega) (fun v m' e h1 h2 => hq v m' e h1 ?_)
    have : alE s (c :: t) i = clE s i c c.steps 0 ++ alE s t (i + 1) := rfl
    rw [this, List.foldl_append]
    exact h2
  simp only [↓sxc, sx, se, ↓reduceIte, Nat.reduceEqDiff, Nat.reduceAdd, Nat.reduceLT, Nat.reduceLeDiff, Nat.reduceSub, Nat.reduceMul, Int.reduceToNat, Int.reduceLT, Int.reduceLE, Int.reduceEq, ml_i0, ↓smc, sm, c0, h0]
  refine loop3 s.cls 0 m.next .nil [] _ _ rfl (by simp [Mem.bump, Mem.set]) ⟨.nil, Nat.le_refl _, by simp [Mem.bump, Mem.set], by simp [Mem.bump, Mem.set, seenV], fun _ _ _ h => by cases h⟩ (by simp; omega) (fun v m' e h1 h2 => ?_)
  have e : edgesE s = (alE s s.cls 0).foldl addE [] := by simp [edgesE, h0]
  simp only [↓sxc, sx, se, ↓reduceIte, Nat.reduceEqDiff, Nat.reduceAdd, Nat.reduceLT, Nat.reduceLeDiff, Nat.reduceSub, Nat.reduceMul, Int.reduceToNat, Int.reduceLT, Int.reduceLE, Int.reduceEq, ml_i0, ↓smc, sm]
  simp only [mapO]
  rw [h2.rw.freeze, mapO_id (fun x hx => by
   obtain ⟨y, _, rfl⟩ := List.mem_map.1 hx
   rfl), e]
  rfl
 ·have e : edgesE s = [] := by simp [edgesE, h0]
  simp only [↓sxc, sx, se, ↓reduceIte, Nat.reduceEqDiff, Nat.reduceAdd, Nat.reduceLT, Nat.reduceLeDiff, Nat.reduceSub, Nat.reduceMul, Int.reduceToNat, Int.reduceLT, Int.reduceLE, Int.reduceEq, ml_i0, ↓smc, sm, c0, h0, e]
  rfl
end Go.Am
namespace Go.Am
open Go
set_option linter.unusedSimpArgs false
set_option linter.unusedVariables false
set_option maxRecDepth 100000
theorem eq_edge {x y : Edge} : (if x.fr = y.fr then if x.to = y.to then if x.cls = y.cls then if x.step = y.step then some true else some false else some false else some false else some false) = some (decide (x = y)) := by
 obtain ⟨a1, a2, a3, a4⟩ := x
 obtain ⟨b1, b2, b3, b4⟩ := y
 simp only [Edge.mk.injEq]
 by_cases h1 : a1 = b1 <;> by_cases h2 : a2 = b2 <;> by_cases h3 : a3 = b3 <;> by_cases h4 : a4 = b4 <;> simp [h1, h2, h3, h4]
theorem sp37 {F : Nat → Option Fn} (hB : HasB F) {lo : Nat} {m : Mem} (a b : List Edge) (ha : a.length < 1000000) : callw F 37 [vEdges a, vEdges b] lo m = some (.bool (decide (a = b)), m) := by
 have loop : a.length = b.length → ∀ (t u : List Edge) (i : Nat) (n : Nat) (Q : Ex → St → Prop), a.drop i = t → b.drop i = u →
   (t ≠ u → ∀ n, Q .ret ⟨[(4, .bool false)], [], [], m.bump n⟩) → (t = u → ∀ n e, Q (.exit 0) ⟨e, [], [], m.bump n⟩) →
   W F m.next L37_1 ⟨[(0, vEdges a), (1, vEdges b), (5, vi i)], [], [], m.bump n⟩ Q := by
  intro hl t
  induction t with
  | nil =>
   intro u i n Q hd hd2 q1 q2
   have hlt := drop_nil hd
   rw [W_L (c := L37_1) rfl]
   have : ¬ ((i : Nat) : Int) < (a.length : Int) := by omega
   simp only [↓sxc, sx, se, ↓reduceIte, Nat.reduceEqDiff, Nat.reduceAdd, Nat.reduceLT, Nat.reduceLeDiff, Nat.reduceSub, Nat.reduceMul, Int.reduceToNat, Int.reduceLT, Int.reduceLE, Int.reduceEq, ml_i0, ↓smc, sm, this]
   refine q2 ?_ n _
   rw [← hd2, List.drop_eq_nil_of_le (by omega)]
  | cons x t ih =>
   intro u i n Q hd hd2 q1 q2
   obtain ⟨hg, hd', hlt⟩ := drop_cons hd
   cases u with
   | nil => have := drop_nil hd2; omega
   | cons y u =>
    obtain ⟨hg2, hd2', hlt2⟩ := drop_cons hd2
    rw [W_L (c := L37_1) rfl]
    have : ((i : Nat) : Int) < (a.length : Int) := by omega
    have wr : wrapF .i64 ((i : Int) + 1) = ((i + 1 : Nat) : Int) := by rw [wr_i64 (by omega) (by omega)]; rfl
    by_cases hxy : x = y
    ·subst hxy
     simp only [↓sxc, sx, se, ↓reduceIte, Nat.reduceEqDiff, Nat.reduceAdd, Nat.reduceLT, Nat.reduceLeDiff, Nat.reduceSub, Nat.reduceMul, Int.reduceToNat, Int.reduceLT, Int.reduceLE, Int.reduceEq, ml_i0, ↓smc, sm, this, hg, hg2, wr, eq_edge, decide_true, Bool.not_true]
     refine ih u (i + 1) _ Q hd' hd2' (fun h => q1 (fun h' => h (by cases h'; rfl))) (fun h => q2 (by rw [h]))
    ·simp only [↓sxc, sx, se, ↓reduceIte, Nat.reduceEqDiff, Nat.reduceAdd, Nat.reduceLT, Nat.reduceLeDiff, Nat.reduceSub, Nat.reduceMul, Int.reduceToNat, Int.reduceLT, Int.reduceLE, Int.reduceEq, ml_i0, ↓smc, sm, this, hg, hg2, wr, eq_edge, hxy, decide_false, Bool.not_false]
     exact q1 (fun h' => hxy (by cases h'; rfl)) _
 refine call_p hB.h37 rfl ?_
 by_cases hl : (a.length : Int) = (b.length : Int)
 ·simp only [↓sxc, sx, se, ↓reduceIte, Nat.reduceEqDiff, Nat.reduceAdd, Nat.reduceLT, Nat.reduceLeDiff, Nat.reduceSub, Nat.reduceMul, Int.reduceToNat, Int.reduceLT, Int.reduceLE, Int.reduceEq, ml_i0, ↓smc, sm, hl]
  refine loop (by omega) a b 0 0 _ rfl rfl (fun h n => ?_) (fun h n e => ?_)
  ·have : decide (a = b) = false := by simp [h]
   simp only [↓sxc, sx, se, ↓reduceIte, Nat.reduceEqDiff, Nat.reduceAdd, Nat.reduceLT, Nat.reduceLeDiff, Nat.reduceSub, Nat.reduceMul, Int.reduceToNat, Int.reduceLT, Int.reduceLE, Int.reduceEq, ml_i0, ↓smc, sm, this]
  ·have : decide (a = b) = true := by simp [h]
   simp only [↓sxc, sx, se, ↓reduceIte, Nat.reduceEqDiff, Nat.reduceAdd, Nat.reduceLT, Nat.reduceLeDiff, Nat.reduceSub, Nat.reduceMul, Int.reduceToNat, Int.reduceLT, Int.reduceLE, Int.reduceEq, ml_i0, ↓smc, sm, this]
 ·have : decide (a = b) = false := by
   have : a ≠ b := fun h => hl (by rw [h])
   simp [this]
  simp only [↓sxc, sx, se, ↓reduceIte, Nat.reduceEqDiff, Nat.reduceAdd, Nat.reduceLT, Nat.reduceLeDiff, Nat.reduceSub, Nat.reduceMul, Int.reduceToNat, Int.reduceLT, Int.reduceLE, Int.reduceEq, ml_i0, ↓smc, sm, hl, this]
theorem sp45 {F : Nat → Option Fn} (hB : HasB F) {lo : Nat} {m : Mem} (a b : List Int) (ha : a.length < 1000000) : callw F 45 [ints a, ints b] lo m = some (.bool (decide (a = b)), m) := by
 have loop : a.length = b.length → ∀ (t u : List Int) (i : Nat) (n : Nat) (Q : Ex → St → Prop), a.drop i = t → b.drop i = u →
   (t ≠ u → ∀ n, Q .ret ⟨[(4, .bool false)], [], [], m.bump n⟩) → (t = u → ∀ n e, Q (.exit 0) ⟨e, [], [], m.bump n⟩) →
   W F m.next L45_1 ⟨[(0, ints a), (1, ints b), (5, vi i)], [], [], m.bump n⟩ Q := by
  intro hl t
  induction t with
  | nil =>
   intro u i n Q hd hd2 q1 q2
   have hlt := drop_nil hd
   rw [W_L (c := L45_1) rfl]
   have : ¬ ((i : Nat) : Int) < (a.length : Int) := by omega
   simp only [↓sxc, sx, se, ↓reduceIte, Nat.reduceEqDiff, Nat.reduceAdd, Nat.reduceLT, Nat.reduceLeDiff, Nat.reduceSub, Nat.reduceMul, Int.reduceToNat, Int.reduceLT, Int.reduceLE, Int.reduceEq, ml_i0, ↓smc, sm, this]
   refine q2 ?_ n _
   rw [← hd2, List.drop_eq_nil_of_le (by omega)]
  | cons x t ih =>
   intro u i n Q hd hd2 q1 q2
   obtain ⟨hg, hd', hlt⟩ := drop_cons hd
   cases u with
   | nil => have := drop_nil hd2; omega
   | cons y u =>
    obtain ⟨hg2, hd2', hlt2⟩ := drop_cons hd2
    rw [W_L (c := L45_1) rfl]
    have : ((i : Nat) : Int) < (a.length : Int) := by omega
    have wr : wrapF .i64 ((i : Int) + 1) = ((i + 1 : Nat) : Int) := by rw [wr_i64 (by omega) (by omega)]; rfl
    by_cases hxy : x = y
    ·subst hxy
     simp only [↓sxc, sx, se, ↓reduceIte, Nat.reduceEqDiff, Nat.reduceAdd, Nat.reduceLT, Nat.reduceLeDiff, Nat.reduceSub, Nat.reduceMul, Int.reduceToNat, Int.reduceLT, Int.reduceLE, Int.reduceEq, ml_i0, ↓smc, sm, this, hg, hg2, wr, ne_eq, decide_true, Bool.not_true]
     refine ih u (i + 1) _ Q hd' hd2' (fun h => q1 (fun h' => h (by cases h'; rfl))) (fun h => q2 (by rw [h]))
    ·simp only [↓sxc, sx, se, ↓reduceIte, Nat.reduceEqDiff, Nat.reduceAdd, Nat.reduceLT, Nat.reduceLeDiff, Nat.reduceSub, Nat.reduceMul, Int.reduceToNat, Int.reduceLT, Int.reduceLE, Int.reduceEq, ml_i0, ↓smc, sm, this, hg, hg2, wr, ne_eq, hxy, decide_false, Bool.not_false]
     exact q1 (fun h' => hxy (by cases h'; rfl)) _
 refine call_p hB.h45 rfl ?_
 by_cases hl : (a.length : Int) = (b.length : Int)
 ·simp only [↓sxc, sx, se, ↓reduceIte, Nat.reduceEqDiff, Nat.reduceAdd, Nat.reduceLT, Nat.reduceLeDiff, Nat.reduceSub, Nat.reduceMul, Int.reduceToNat, Int.reduceLT, Int.reduceLE, Int.reduceEq, ml_i0, ↓smc, sm, hl]
  refine loop (by omega) a b 0 0 _ rfl rfl (fun h n => ?_) (fun h n e => ?_)
  ·have : decide (a = b) = false := by simp [h]
   simp only [↓sxc, sx, se, ↓reduceIte, Nat.reduceEqDiff, Nat.reduceAdd, Nat.reduceLT, Nat.reduceLeDiff, Nat.reduceSub, Nat.reduceMul, Int.reduceToNat, Int.reduceLT, Int.reduceLE, Int.reduceEq, ml_i0, ↓smc, sm, this]
  ·have : decide (a = b) = true := by simp [h]
   simp only [↓sxc, sx, se, ↓reduceIte, Nat.reduceEqDiff, Nat.reduceAdd, Nat.reduceLT, Nat.reduceLeDiff, Nat.reduceSub, Nat.reduceMul, Int.reduceToNat, Int.reduceLT, Int.reduceLE, Int.reduceEq, ml_i0, ↓smc, sm, this]
 ·have : decide (a = b) = false := by
   have : a ≠ b := fun h => hl (by rw [h])
   simp [this]
  simp only [↓sxc, sx, se, ↓reduceIte, Nat.reduceEqDiff, Nat.reduceAdd, Nat.reduceLT, Nat.reduceLeDiff, Nat.reduceSub, Nat.reduceMul, Int.reduceToNat, Int.reduceLT, Int.reduceLE, Int.reduceEq, ml_i0, ↓smc, sm, hl, this]
structure AddOut (lo : Nat) (m : Mem) (l : List Edge) (x : Edge) (v : V) (m' : Mem) : Prop where
 nx : m.next ≤ m'.next
 rw : Rw lo m' 4 v ((addE l x).map vEdge)
theorem Rw.sl {lo sz : Nat} {m : Mem} {v : V} {xs : List V} (h : Rw lo m sz v xs) : v = .nil ∧ xs = [] ∨ Sl m sz v xs := by
 rcases h with h | ⟨h, rfl, _, _, h3⟩
 ·exact .inl h
 ·exact .inr (Sl.row h3)
theorem sp101 {F : Nat → Option Fn} (hB : HasB F) {lo : Nat} {m : Mem} (l : List Edge) (v : V) (f t c k : Int) (hr : Rw lo m 4 v (l.map vEdge)) (hlo : lo ≤ m.next) (hl : l.length < 100000) : ∃ v' m', callw F 101 [v, .agg [vi f, vi t, vi c, vi k]] lo m = some (v', m') ∧ AddOut lo m l ⟨f, t, c, k⟩ v' m' := by
 refine call_x hB.h101 rfl ?_
 have loop : ∀ (u : List Edge) (i : Nat) (n : Nat) (Q : Ex → St → Prop), l.drop i = u →
   ((f, t) ∈ u.map ends → ∀ n, Q .ret ⟨[(4, v)], [], [], m.bump n⟩) → ((f, t) ∉ u.map ends → ∀ n e, Q (.exit 0) ⟨(0, v) :: e, [(3, .agg [vi f, vi t, vi c, vi k])], [], m.bump n⟩) →
   W F lo L101_1 ⟨[(0, v), (5, vi i)], [(3, .agg [vi f, vi t, vi c, vi k])], [], m.bump n⟩ Q := by
  have hlen : retV (.len false) [v] = some (vi l.length) := by rw [hr.len, List.length_map]
  intro u
  induction u with
  | nil =>
   intro i n Q hd q1 q2
   have hlt := drop_nil hd
   rw [W_L (c := L101_1) rfl]
   have : ¬ ((i : Nat) : Int) < (l.length : Int) := by omega
   simp only [↓sxc, sx, se, ↓reduceIte, Nat.reduceEqDiff, Nat.reduceAdd, Nat.reduceLT, Nat.reduceLeDiff, Nat.reduceSub, Nat.reduceMul, Int.reduceToNat, Int.reduceLT, Int.reduceLE, Int.reduceEq, ml_i0, ↓smc, sm, this, hlen]
   exact q2 (by simp) n _
  | cons x u ih =>
   intro i n Q hd q1 q2
   obtain ⟨hg, hd', hlt⟩ := drop_cons hd
   rw [W_L (c := L101_1) rfl]
   have : ((i : Nat) : Int) < (l.length : Int) := by omega
   have wr : wrapF .i64 ((i : Int) + 1) = ((i + 1 : Nat) : Int) := by rw [wr_i64 (by omega) (by omega)]; rfl
   rcases hr with ⟨_, h2⟩ | ⟨h, rfl, q1', q2', q3'⟩
   ·cases l with
    | nil => simp at hlt
    | cons _ _ => simp at h2
   ·simp only [List.length_map] at q1 q2 ih hlen ⊢
    by_cases e1 : x.fr = f
    ·by_cases e2 : x.to = t
     ·simp only [↓sxc, sx, se, ↓reduceIte, Nat.reduceEqDiff, Nat.reduceAdd, Nat.reduceLT, Nat.reduceLeDiff, Nat.reduceSub, Nat.reduceMul, Int.reduceToNat, Int.reduceLT, Int.reduceLE, Int.reduceEq, ml_i0, ↓smc, sm, this, hlen, q3', hg, wr, e1, e2]
      exact q1 (by simp [ends, e1, e2]) _
     ·simp only [↓sxc, sx, se, ↓reduceIte, Nat.reduceEqDiff, Nat.reduceAdd, Nat.reduceLT, Nat.reduceLeDiff, Nat.reduceSub, Nat.reduceMul, Int.reduceToNat, Int.reduceLT, Int.reduceLE, Int.reduceEq, ml_i0, ↓smc, sm, this, hlen, q3', hg, wr, e1, e2]
      refine ih (i + 1) _ Q hd' (fun h => q1 (by simp at h ⊢; exact .inr h)) (fun h => q2 (by simp [ends] at h ⊢; exact ⟨fun _ h' => e2 h'.symm, h⟩))
    ·simp only [↓sxc, sx, se, ↓reduceIte, Nat.reduceEqDiff, Nat.reduceAdd, Nat.reduceLT, Nat.reduceLeDiff, Nat.reduceSub, Nat.reduceMul, Int.reduceToNat, Int.reduceLT, Int.reduceLE, Int.reduceEq, ml_i0, ↓smc, sm, this, hlen, q3', hg, wr, e1]
     refine ih (i + 1) _ Q hd' (fun h => q1 (by simp at h ⊢; exact .inr h)) (fun h => q2 (by simp [ends] at h ⊢; exact ⟨fun h' => absurd h'.symm e1, h⟩))
 simp only [↓sxc, sx, se, ↓reduceIte, Nat.reduceEqDiff, Nat.reduceAdd, Nat.reduceLT, Nat.reduceLeDiff, Nat.reduceSub, Nat.reduceMul, Int.reduceToNat, Int.reduceLT, Int.reduceLE, Int.reduceEq, ml_i0, ↓smc, sm]
 refine loop l 0 0 _ rfl (fun h n => ?_) (fun h n e => ?_)
 ·simp only [↓sxc, sx, se, ↓reduceIte, Nat.reduceEqDiff, Nat.reduceAdd, Nat.reduceLT, Nat.reduceLeDiff, Nat.reduceSub, Nat.reduceMul, Int.reduceToNat, Int.reduceLT, Int.reduceLE, Int.reduceEq, ml_i0, ↓smc, sm, PX_ret, PX_nrm]
  have e : addE l ⟨f, t, c, k⟩ = l := by unfold addE; exact if_pos h
  exact ⟨Nat.le_add_right _ _, by rw [e]; exact hr.mono (Nat.le_add_right _ _) (fun _ _ _ => rfl)⟩
 ·have hr' : Rw lo (m.bump n) 4 v (l.map vEdge) := hr.mono (Nat.le_add_right _ _) (fun _ _ _ => rfl)
  obtain ⟨v', m'', hap, h2, hn, _⟩ := hr'.app (y := .lst false 4 [.agg [vi f, vi t, vi c, vi k]]) (Nat.le_trans hlo (Nat.le_add_right _ _)) vw_lst (.inl rfl) (by simp [big]; omega)
  have hap' : apV lo (m.next + n) (m.bump n) 4 v (.lst false 4 [.agg [vi f, vi t, vi c, vi k]]) = some (v', m'') := hap
  have e : addE l ⟨f, t, c, k⟩ = l ++ [⟨f, t, c, k⟩] := by unfold addE; exact if_neg h
  simp only [↓sxc, sx, se, ↓reduceIte, Nat.reduceEqDiff, Nat.reduceAdd, Nat.reduceLT, Nat.reduceLeDiff, Nat.reduceSub, Nat.reduceMul, Int.reduceToNat, Int.reduceLT, Int.reduceLE, Int.reduceEq, ml_i0, ↓smc, sm, hap', PX_ret, PX_nrm]
  refine ⟨?_, by rw [e, List.map_append]; exact h2⟩
  show m.next ≤ m''.next + 1
  have : (m.bump n).next = m.next + n := rfl
  omega
theorem sp36 {F : Nat → Option Fn} (hA : HasA F) (hB : HasB F) {lo : Nat} {m : Mem} (s : Sys) : callw F 36 [vSys s] lo m = some (.tup [vEdges (edgesE s), vi (chkE s)], m) := by
 have c0 : ∀ {lo m}, callw F 91 [vSys s] lo m = some (vi (chkE s), m) := fun {lo m} => sp91 hA s
 refine call_p hB.h36 rfl ?_
 by_cases h0 : chkE s = 0
 ·have hv := valid_of h0
  have p6 := hv.p6
  have l4 := hv.l4
  have c6 := hv.c6
  have loop1 : ∀ (i k : Nat) (to : Int) (hs : List Int), hs.length < 100 → ∀ (t : List Int) (j : Nat) (v : V) (l : List Edge) (m' : Mem) (Q : Ex → St → Prop), hs.drop j = t → m.next ≤ m'.next → Rw m.next m' 4 v (l.map vEdge) → l.length + t.length < 10000 →
    (∀ v m' e, m.next ≤ m'.next → Rw m.next m' 4 v (((t.map fun f => (⟨f, to, i, k⟩ : Edge)).foldl addE l).map vEdge) → Q (.exit 4) ⟨(5, v) :: (6, vi i) :: (7, vi k) :: e, [(1, vSys s)], [], m'⟩) →
    W F m.next L36_1 ⟨[(5, v), (6, vi i), (7, vi k), (8, ints hs), (9, vi to), (10, vi j)], [(1, vSys s)], [], m'⟩ Q := by
   intro i k to hs hsl t
   induction t with
   | nil =>
    intro j v l m' Q hd hm hE hl hq
    have hlt := drop_nil hd
    rw [W_L (c := L36_1) rfl]
    have : ¬ ((j : Nat) : Int) < (hs.length : Int) := by omega
    simp only [↓sxc, sx, se, ↓reduceIte, Nat.reduceEqDiff, Nat.reduceAdd, Nat.reduceLT, Nat.reduceLeDiff, Nat.reduceSub, Nat.reduceMul, Int.reduceToNat, Int.reduceLT, Int.reduceLE, Int.reduceEq, ml_i0, ↓smc, sm, this]
    exact hq v m' _ hm hE
   | cons f t ih =>
    intro j v l m' Q hd hm hE hl hq
    obtain ⟨hg, hd', hlt⟩ := drop_cons hd
    rw [W_L (c := L36_1) rfl]
    have : ((j : Nat) : Int) < (hs.length : Int) := by omega
    have wr : wrapF .i64 ((j : Int) + 1) = ((j + 1 : Nat) : Int) := by rw [wr_i64 (by omega) (by omega)]; rfl
    obtain ⟨v', m2, hc, ho⟩ := sp101 hB l v f to i k hE hm (by simp at hl; omega)
    simp only [↓sxc, sx, se, ↓reduceIte, Nat.reduceEqDiff, Nat.reduceAdd, Nat.reduceLT, Nat.reduceLeDiff, Nat.reduceSub, Nat.reduceMul, Int.reduceToNat, Int.reduceLT, Int.reduceLE, Int.reduceEq, ml_i0, ↓smc, sm, this, hg, hc, wr]
    exact ih (j + 1) v' (addE l ⟨f, to, i, k⟩) m2 Q hd' (Nat.le_trans hm ho.nx) ho.rw (by have := addE_len (l := l) (x := ⟨f, to, i, k⟩); simp at hl; omega) hq
  have loop2 : ∀ (i : Nat) (c : Cls) (hc : s.cls[i]? = some c) (t : List Stp) (k : Nat) (v : V) (l : List Edge) (m' : Mem) (Q : Ex → St → Prop), c.steps.drop k = t → m.next ≤ m'.next → Rw m.next m' 4 v (l.map vEdge) → l.length + 12 * t.length < 5000 →
    (∀ v m' e, m.next ≤ m'.next → Rw m.next m' 4 v (((clE s i c t k).foldl addE l).map vEdge) → Q (.exit 2) ⟨(5, v) :: (6, vi i) :: e, [(1, vSys s)], [], m'⟩) →
    W F m.next L36_2 ⟨[(5, v), (6, vi i), (7, vi k)], [(1, vSys s)], [], m'⟩ Q := by
   intro i c hc t
   have hcm := List.mem_of_getElem? hc
   have hl12 := (hv.okC c hcm).l12
   have i0 : ((i : Nat) : Int).toNat = i := rfl
   have p0 : (0 : Int) ≤ (i : Int) := by omega
   induction t with
   | nil =>
    intro k v l m' Q hd hm hE hl hq
    have hlt := drop_nil hd
    rw [W_L (c := L36_2) rfl]
    have : ¬ ((k : Nat) : Int) < (c.steps.length : Int) := by omega
    simp only [↓sxc, sx, se, ↓reduceIte, Nat.reduceEqDiff, Nat.reduceAdd, Nat.reduceLT, Nat.reduceLeDiff, Nat.reduceSub, Nat.reduceMul, Int.reduceToNat, Int.reduceLT, Int.reduceLE, Int.reduceEq, ml_i0, ↓smc, sm, hc, i0, p0, this]
    exact hq v m' _ hm hE
   | cons x t ih =>
    intro k v l m' Q hd hm hE hl hq
    obtain ⟨hg, hd', hlt⟩ := drop_cons hd
    rw [W_L (c := L36_2) rfl]
    have : ((k : Nat) : Int) < (c.steps.length : Int) := by omega
    have wr : wrapF .i64 ((k : Int) + 1) = ((k + 1 : Nat) : Int) := by rw [wr_i64 (by omega) (by omega)]; rfl
    have hp := hv.pre hcm (List.mem_of_getElem? hg)
    have hmw : mayWait s i k = waitsE s x := by
     have a1 : ¬ ((i : Int) < 0) := by omega
     have a2 : ¬ ((k : Int) < 0) := by omega
     have e1 : s.cls[((i : Nat) : Int).toNat]? = some c := hc
     have e2 : c.steps[((k : Nat) : Int).toNat]? = some x := hg
     simp [mayWait, h0, a1, a2, stepAt, hc, hg]
    have c1 : ∀ {lo m}, callw F 34 [vSys s, vi i, vi k] lo m = some (.bool (waitsE s x), m) := fun {lo m} => by rw [← hmw]; exact sp34 hA hB s i k
    have k0 : ((k : Nat) : Int).toNat = k := rfl
    have p1 : (0 : Int) ≤ (k : Int) := by omega
    cases hw : waitsE s x with
    | false =>
     rw [hw] at c1
     simp only [↓sxc, sx, se, ↓reduceIte, Nat.reduceEqDiff, Nat.reduceAdd, Nat.reduceLT, Nat.reduceLeDiff, Nat.reduceSub, Nat.reduceMul, Int.reduceToNat, Int.reduceLT, Int.reduceLE, Int.reduceEq, ml_i0, ↓smc, sm, hc, i0, p0, this, c1, wr]
     refine ih (k + 1) v l m' Q hd' hm hE (by simp at hl; omega) (fun v m' e h1 h2 => hq v m' e h1 ?_)
     have : clE s i c (x :: t) k = clE s i c t (k + 1) := by simp [clE, stE, hw]
     rw [this]
     exact h2
    | true =>
     rw [hw] at c1
     have c2 : ∀ {lo m}, callw F 100 [vSys s, vStp x] lo m = some (vi (target s x), m) := fun {lo m} => sp100 hB s x hv hp
     have c3 : ∀ {lo m}, callw F 99 [vSys s, vi i, vi k] lo m = some (ints (hold s i c (c.steps.take k)), m) := fun {lo m} => sp99 hA hB s h0 i k c hc (by omega)
     have hhl := hold_len (s := s) (i := i) (c := c) (l := c.steps.take k)
     simp only [↓sxc, sx, se, ↓reduceIte, Nat.reduceEqDiff, Nat.reduceAdd, Nat.reduceLT, Nat.reduceLeDiff, Nat.reduceSub, Nat.reduceMul, Int.reduceToNat, Int.reduceLT, Int.reduceLE, Int.reduceEq, ml_i0, ↓smc, sm, hc, i0, p0, this, c1, c2, c3, hg, k0, p1]
     refine loop1 i k (target s x) (hold s i c (c.steps.take k)) (by omega) _ 0 v l _ _ rfl ?_ (hE.mono (Nat.le_add_right _ _) (fun _ _ _ => rfl)) (by simp at hl; simp only [List.length_drop]; omega) (fun v m' e h1 h2 => ?_)
     ·exact Nat.le_trans hm (Nat.le_add_right _ _)
     have e1 : ((hold s i c (c.steps.take k)).map fun f => (⟨f, target s x, i, k⟩ : Edge)) = stE s i c k x := by unfold stE; rw [if_pos hw]
     rw [List.drop_zero, e1] at h2
     have hsl := stE_len hv (i := i) (c := c) (k := k) (x := x)
     have hfl := foldl_addE_len (xs := stE s i c k x) (l := l)
     simp only [↓sxc, sx, se, ↓reduceIte, Nat.reduceEqDiff, Nat.reduceAdd, Nat.reduceLT, Nat.reduceLeDiff, Nat.reduceSub, Nat.reduceMul, Int.reduceToNat, Int.reduceLT, Int.reduceLE, Int.reduceEq, ml_i0, ↓smc, sm, wr]
     refine ih (k + 1) v _ m' Q hd' h1 h2 (by simp at hl; omega) (fun v m' e h1 h2 => hq v m' e h1 ?_)
     have : clE s i c (x :: t) k = stE s i c k x ++ clE s i c t (k + 1) := rfl
     rw [this, List.foldl_append]
     exact h2
  have loop3 : ∀ (t : List Cls) (i : Nat) (v : V) (l : List Edge) (m' : Mem) (Q : Ex → St → Prop), s.cls.drop i = t → m.next ≤ m'.next → Rw m.next m' 4 v (l.map vEdge) → l.length + 144 * t.length < 4000 →
    (∀ v m' e, m.next ≤ m'.next → Rw m.next m' 4 v (((alE s t i).foldl addE l).map vEdge) → Q (.exit 0) ⟨(5, v) :: e, [(1, vSys s)], [], m'⟩) →
    W F m.next L36_3 ⟨[(5, v), (6, vi i)], [(1, vSys s)], [], m'⟩ Q := by
   intro t
   induction t with
   | nil =>
    intro i v l m' Q hd hm hE hl hq
    have hlt := drop_nil hd
    rw [W_L (c := L36_3) rfl]
    have : ¬ ((i : Nat) : Int) < (s.cls.length : Int) := by omega
    simp only [↓sxc, sx, se, ↓reduceIte, Nat.reduceEqDiff, Nat.reduceAdd, Nat.reduceLT, Nat.reduceLeDiff, Nat.reduceSub, Nat.reduceMul, Int.reduceToNat, Int.reduceLT, Int.reduceLE, Int.reduceEq, ml_i0, ↓smc, sm, this]
    exact hq v m' _ hm hE
   | cons c t ih =>
    intro i v l m' Q hd hm hE hl hq
    obtain ⟨hg, hd', hlt⟩ := drop_cons hd
    rw [W_L (c := L36_3) rfl]
    have : ((i : Nat) : Int) < (s.cls.length : Int) := by omega
    have wr : wrapF .i64 ((i : Int) + 1) = ((i + 1 : Nat) : Int) := by rw [wr_i64 (by omega) (by omega)]; rfl
    have hl12 := (hv.okC c (List.mem_of_getElem? hg)).l12
    simp only [↓sxc, sx, se, ↓reduceIte, Nat.reduceEqDiff, Nat.reduceAdd, Nat.reduceLT, Nat.reduceLeDiff, Nat.reduceSub, Nat.reduceMul, Int.reduceToNat, Int.reduceLT, Int.reduceLE, Int.reduceEq, ml_i0, ↓smc, sm, this]
    refine loop2 i c hg c.steps 0 v l m' _ rfl hm hE (by simp at hl; omega) (fun v m' e h1 h2 => ?_)
    have hcl := clE_len hv (i := i) (c := c) (t := c.steps) (k := 0)
    have hfl := foldl_addE_len (xs := clE s i c c.steps 0) (l := l)
    simp only [↓sxc, sx, se, ↓reduceIte, Nat.reduceEqDiff, Nat.reduceAdd, Nat.reduceLT, Nat.reduceLeDiff, Nat.reduceSub, Nat.reduceMul, Int.reduceToNat, Int.reduceLT, Int.reduceLE, Int.reduceEq, ml_i0, ↓smc, sm, wr]
    refine ih (i + 1) v _ m' Q hd' h1 h2 (by simp at hl; omega) (fun v m' e h1 h2 => hq v m' e h1 ?_)
    have : alE s (c :: t) i = clE s i c c.steps 0 ++ alE s t (i + 1) := rfl
    rw [this, List.foldl_append]
    exact h2
  simp only [↓sxc, sx, se, ↓reduceIte, Nat.reduceEqDiff, Nat.reduceAdd, Nat.reduceLT, Nat.reduceLeDiff, Nat.reduceSub, Nat.reduceMul, Int.reduceToNat, Int.reduceLT, Int.reduceLE, Int.reduceEq, ml_i0, ↓smc, sm, c0, h0]
  refine loop3 s.cls 0 .nil [] m _ rfl (Nat.le_refl _) .nil (by simp; omega) (fun v m' e h1 h2 => ?_)
  have e : edgesE s = (alE s s.cls 0).foldl addE [] := by simp [edgesE, h0]
  simp only [↓sxc, sx, se, ↓reduceIte, Nat.reduceEqDiff, Nat.reduceAdd, Nat.reduceLT, Nat.reduceLeDiff, Nat.reduceSub, Nat.reduceMul, Int.reduceToNat, Int.reduceLT, Int.reduceLE, Int.reduceEq, ml_i0, ↓smc, sm]
  simp only [mapO]
  rw [h2.freeze, mapO_id (fun x hx => by
   obtain ⟨y, _, rfl⟩ := List.mem_map.1 hx
   rfl), e]
  rfl
 ·have e : edgesE s = [] := by simp [edgesE, h0]
  simp only [↓sxc, sx, se, ↓reduceIte, Nat.reduceEqDiff, Nat.reduceAdd, Nat.reduceLT, Nat.reduceLeDiff, Nat.reduceSub, Nat.reduceMul, Int.reduceToNat, Int.reduceLT, Int.reduceLE, Int.reduceEq, ml_i0, ↓smc, sm, c0, h0, e]
  rfl
theorem alE_len {s : Sys} (hv : Valid s) : ∀ {t : List Cls} {i : Nat}, (∀ c ∈ t, c ∈ s.cls) → (alE s t i).length ≤ 144 * t.length
 | [], i, _ => by simp [alE]
 | c :: t, i, h => by
  have h1 := alE_len hv (t := t) (i := i + 1) (fun c hc => h c (by simp [hc]))
  have h2 := clE_len hv (i := i) (c := c) (t := c.steps) (k := 0)
  have h3 := (hv.okC c (h c (by simp))).l12
  simp only [alE, List.length_append, List.length_cons]
  omega
end Go.Am
namespace Go.Am
open Go
set_option linter.unusedSimpArgs false
set_option linter.unusedVariables false
set_option maxRecDepth 100000
def wkAt (s : Sys) (on : Int) : Int := match s.cls[on.toNat]? with
 | some c => c.wk
 | none => 0
def impE (s : Sys) (x : Stp) : Bool :=
 if x.kind = 1 then !x.deep && decide (sizeAt s x.on - resAt s x.on < x.cnt) else if x.kind = 5 then decide (wkAt s x.on = 0) else false
def impS (s : Sys) : List Stp → Nat → Int
 | [], _ => -1
 | x :: t, k => if impE s x = true then (k : Int) else impS s t (k + 1)
def impC (s : Sys) : List Cls → Nat → Int × Int × Bool
 | [], _ => (0, 0, false)
 | c :: t, i => if 0 ≤ impS s c.steps 0 then ((i : Int), impS s c.steps 0, true) else impC s t (i + 1)
def impA (s : Sys) : Int × Int × Bool := if chkE s ≠ 0 then (0, 0, false) else impC s s.cls 0
theorem on_cls {s : Sys} {x : Stp} (h : preE s x = 0) (hk : x.kind = 5) : 0 ≤ x.on ∧ ∃ c, s.cls[x.on.toNat]? = some c := by
 obtain ⟨o1, o2, _⟩ := preE_on h
 have : nOf s x = s.cls.length := by simp [nOf, hk]
 exact ⟨o1, _, List.getElem?_eq_getElem (by omega)⟩
theorem sp143 {F : Nat → Option Fn} (hC : HasC F) {lo : Nat} {m : Mem} (s : Sys) (x : Stp) (hv : Valid s) (hp : preE s x = 0) : callw F 143 [vSys s, vStp x] lo m = some (.bool (impE s x), m) := by
 refine call_p hC.h143 rfl ?_
 by_cases k1 : x.kind = 1
 ·obtain ⟨o1, p, ho⟩ := on_pools hp k1
  have hb := hv.pool p (List.mem_of_getElem? ho)
  have hs : sizeAt s x.on = p.size := by simp [sizeAt, ho]
  have hr : resAt s x.on = p.res := by simp [resAt, ho]
  have w1 : wrapF .i64 (p.size - p.res) = p.size - p.res := wr_i64 (by omega) (by omega)
  cases hd : x.deep with
  | true =>
   have e : impE s x = false := by simp [impE, k1, hd]
   simp only [↓sxc, sx, se, ↓reduceIte, Nat.reduceEqDiff, Nat.reduceAdd, Nat.reduceLT, Nat.reduceLeDiff, Nat.reduceSub, Nat.reduceMul, Int.reduceToNat, Int.reduceLT, Int.reduceLE, Int.reduceEq, ml_i0, ↓smc, sm, k1, hd, e]
  | false =>
   have e : impE s x = decide (p.size - p.res < x.cnt) := by simp [impE, k1, hd, hs, hr]
   simp only [↓sxc, sx, se, ↓reduceIte, Nat.reduceEqDiff, Nat.reduceAdd, Nat.reduceLT, Nat.reduceLeDiff, Nat.reduceSub, Nat.reduceMul, Int.reduceToNat, Int.reduceLT, Int.reduceLE, Int.reduceEq, ml_i0, ↓smc, sm, k1, hd, o1, ho, w1, e]
 ·by_cases k5 : x.kind = 5
  ·obtain ⟨o1, c, ho⟩ := on_cls hp k5
   have e : impE s x = decide (c.wk = 0) := by simp [impE, k5, wkAt, ho]
   simp only [↓sxc, sx, se, ↓reduceIte, Nat.reduceEqDiff, Nat.reduceAdd, Nat.reduceLT, Nat.reduceLeDiff, Nat.reduceSub, Nat.reduceMul, Int.reduceToNat, Int.reduceLT, Int.reduceLE, Int.reduceEq, ml_i0, ↓smc, sm, k5, o1, ho, e]
  ·have e : impE s x = false := by simp [impE, k1, k5]
   simp only [↓sxc, sx, se, ↓reduceIte, Nat.reduceEqDiff, Nat.reduceAdd, Nat.reduceLT, Nat.reduceLeDiff, Nat.reduceSub, Nat.reduceMul, Int.reduceToNat, Int.reduceLT, Int.reduceLE, Int.reduceEq, ml_i0, ↓smc, sm, k1, k5, e]
theorem sp142 {F : Nat → Option Fn} (hC : HasC F) {lo h : Nat} {m : Mem} (s : Sys) (x : Stp) (hv : Valid s) (hp : preE s x = 0) (hb : m.blk h = some (.row 3 [vSys s])) : callw F 142 [vStp x, .ptr h 0 0] lo m = some (.bool (impE s x), m) := by
 have c1 : ∀ {lo m}, callw F 143 [vSys s, vStp x] lo m = some (.bool (impE s x), m) := fun {lo m} => sp143 hC s x hv hp
 refine call_p hC.h142 rfl ?_
 simp only [↓sxc, sx, se, ↓reduceIte, Nat.reduceEqDiff, Nat.reduceAdd, Nat.reduceLT, Nat.reduceLeDiff, Nat.reduceSub, Nat.reduceMul, Int.reduceToNat, Int.reduceLT, Int.reduceLE, Int.reduceEq, ml_i0, ↓smc, sm, hb, c1]
theorem sp141 {F : Nat → Option Fn} (hC : HasC F) {lo : Nat} {m : Mem} (l : List Stp) {f : Nat} {cs : List V} {p : Stp → Bool} (hf : f < 1000) (hp : ∀ x ∈ l, ∀ lo, callw F f (vStp x :: cs) lo m = some (.bool (p x), m)) (hs : l.length < 1000000) : callw F 141 [vStps l, .fn f cs] lo m = some (vi (idxP p l 0), m) := by
 have loop : ∀ (t : List Stp) (i : Nat) (Q : Ex → St → Prop), l.drop i = t → (∀ j, idxP p t i = j → j ≠ -1 → Q .ret ⟨[(4, vi j)], [], [], m⟩) →
   (idxP p t i = -1 → ∀ e, Q (.exit 0) ⟨e, [], [], m⟩) →
   W F m.next L141_1 ⟨[(0, vStps l), (1, .fn f cs), (7, vi l.length), (8, vi i)], [], [], m⟩ Q := by
  intro t
  induction t with
  | nil =>
   intro i Q hd h1 h2
   have hlt := drop_nil hd
   rw [W_L (c := L141_1) rfl]
   have : ¬ ((i : Nat) : Int) < (l.length : Int) := by omega
   simp only [↓sxc, sx, se, ↓reduceIte, Nat.reduceEqDiff, Nat.reduceAdd, Nat.reduceLT, Nat.reduceLeDiff, Nat.reduceSub, Nat.reduceMul, Int.reduceToNat, Int.reduceLT, Int.reduceLE, Int.reduceEq, ml_i0, ↓smc, sm, this]
   exact h2 rfl _
  | cons x t ih =>
   intro i Q hd h1 h2
   obtain ⟨hg, hd', hlt⟩ := drop_cons hd
   rw [W_L (c := L141_1) rfl]
   have : ((i : Nat) : Int) < (l.length : Int) := by omega
   have wr : wrapF .i64 ((i : Int) + 1) = ((i + 1 : Nat) : Int) := by rw [wr_i64 (by omega) (by omega)]; rfl
   have hc := hp x (List.mem_of_getElem? hg)
   cases hx : p x with
   | true =>
    have e : idxP p (x :: t) i = (i : Int) := by simp [idxP, hx]
    rw [hx] at hc
    simp only [↓sxc, sx, se, ↓reduceIte, Nat.reduceEqDiff, Nat.reduceAdd, Nat.reduceLT, Nat.reduceLeDiff, Nat.reduceSub, Nat.reduceMul, Int.reduceToNat, Int.reduceLT, Int.reduceLE, Int.reduceEq, ml_i0, ↓smc, sm, this, hg, hf, hc, List.append_eq, List.nil_append, List.cons_append]
    exact h1 i e (by omega)
   | false =>
    have e : idxP p (x :: t) i = idxP p t (i + 1) := by simp [idxP, hx]
    rw [e] at h1 h2
    rw [hx] at hc
    simp only [↓sxc, sx, se, ↓reduceIte, Nat.reduceEqDiff, Nat.reduceAdd, Nat.reduceLT, Nat.reduceLeDiff, Nat.reduceSub, Nat.reduceMul, Int.reduceToNat, Int.reduceLT, Int.reduceLE, Int.reduceEq, ml_i0, ↓smc, sm, this, hg, hf, hc, wr, List.append_eq, List.nil_append, List.cons_append]
    exact ih (i + 1) Q hd' h1 h2
 refine call_p hC.h141 rfl ?_
 simp only [↓sxc, sx, se, ↓reduceIte, Nat.reduceEqDiff, Nat.reduceAdd, Nat.reduceLT, Nat.reduceLeDiff, Nat.reduceSub, Nat.reduceMul, Int.reduceToNat, Int.reduceLT, Int.reduceLE, Int.reduceEq, ml_i0, ↓smc, sm]
 refine loop l 0 _ rfl (fun j hj hne => ?_) (fun hn e => ?_)
 ·simp only [↓sxc, sx, se, ↓reduceIte, Nat.reduceEqDiff, Nat.reduceAdd, Nat.reduceLT, Nat.reduceLeDiff, Nat.reduceSub, Nat.reduceMul, Int.reduceToNat, Int.reduceLT, Int.reduceLE, Int.reduceEq, ml_i0, ↓smc, sm, hj]
 ·simp only [↓sxc, sx, se, ↓reduceIte, Nat.reduceEqDiff, Nat.reduceAdd, Nat.reduceLT, Nat.reduceLeDiff, Nat.reduceSub, Nat.reduceMul, Int.reduceToNat, Int.reduceLT, Int.reduceLE, Int.reduceEq, ml_i0, ↓smc, sm, hn]
theorem idxP_impS {s : Sys} : ∀ {l : List Stp} {k : Nat}, idxP (impE s) l k = impS s l k
 | [], k => rfl
 | x :: t, k => by
  simp only [idxP, impS, idxP_impS (l := t)]
theorem sp81 {F : Nat → Option Fn} (hA : HasA F) (hC : HasC F) {lo : Nat} {m : Mem} (s : Sys) : callw F 81 [vSys s] lo m = some (.tup [vi (impA s).1, vi (impA s).2.1, .bool (impA s).2.2], m) := by
 have c0 : ∀ {lo m}, callw F 49 [vSys s] lo m = some (vi (chkE s), m) := fun {lo m} => sp49 hA s
 refine call_p hC.h81 rfl ?_
 by_cases h0 : chkE s = 0
 ·have hv := valid_of h0
  have c6 := hv.c6
  have loop : ∀ (t : List Cls) (i : Nat) (m' : Mem) (h : Nat) (Q : Ex → St → Prop), s.cls.drop i = t → m'.blk h = some (.row 3 [vSys s]) →
    ((impC s t i).2.2 = true → ∀ m', Q .ret ⟨[(2, vi (impC s t i).1), (3, vi (impC s t i).2.1), (4, .bool true)], [], [], m'⟩) → (impC s t i = (0, 0, false) → ∀ m' e, Q (.exit 0) ⟨e, [], [], m'⟩) →
    W F m.next L81_1 ⟨[(1, .ptr h 0 0), (12, vi s.cls.length), (13, vi i)], [], [], m'⟩ Q := by
   intro t
   induction t with
   | nil =>
    intro i m' h Q hd hb h1 h2
    have hlt := drop_nil hd
    rw [W_L (c := L81_1) rfl]
    have : ¬ ((i : Nat) : Int) < (s.cls.length : Int) := by omega
    simp only [↓sxc, sx, se, ↓reduceIte, Nat.reduceEqDiff, Nat.reduceAdd, Nat.reduceLT, Nat.reduceLeDiff, Nat.reduceSub, Nat.reduceMul, Int.reduceToNat, Int.reduceLT, Int.reduceLE, Int.reduceEq, ml_i0, ↓smc, sm, this]
    exact h2 rfl _ _
   | cons c t ih =>
    intro i m' h Q hd hb h1 h2
    obtain ⟨hg, hd', hlt⟩ := drop_cons hd
    rw [W_L (c := L81_1) rfl]
    have : ((i : Nat) : Int) < (s.cls.length : Int) := by omega
    have wr : wrapF .i64 ((i : Int) + 1) = ((i + 1 : Nat) : Int) := by rw [wr_i64 (by omega) (by omega)]; rfl
    have hcm := List.mem_of_getElem? hg
    have hl12 := (hv.okC c hcm).l12
    have cc : ∀ {lo}, callw F 141 [vStps c.steps, .fn 142 [.ptr h 0 0]] lo m' = some (vi (impS s c.steps 0), m') := fun {lo} => by
     rw [← idxP_impS]
     exact sp141 hC c.steps (by decide) (fun x hx lo => sp142 hC s x hv (hv.pre hcm hx) hb) (by omega)
    by_cases hi : 0 ≤ impS s c.steps 0
    ·have e : impC s (c :: t) i = ((i : Int), impS s c.steps 0, true) := by simp [impC, hi]
     rw [e] at h1
     simp only [↓sxc, sx, se, ↓reduceIte, Nat.reduceEqDiff, Nat.reduceAdd, Nat.reduceLT, Nat.reduceLeDiff, Nat.reduceSub, Nat.reduceMul, Int.reduceToNat, Int.reduceLT, Int.reduceLE, Int.reduceEq, ml_i0, ↓smc, sm, this, hb, hg, cc, hi]
     exact h1 rfl _
    ·have e : impC s (c :: t) i = impC s t (i + 1) := by simp [impC, hi]
     rw [e] at h1 h2
     simp only [↓sxc, sx, se, ↓reduceIte, Nat.reduceEqDiff, Nat.reduceAdd, Nat.reduceLT, Nat.reduceLeDiff, Nat.reduceSub, Nat.reduceMul, Int.reduceToNat, Int.reduceLT, Int.reduceLE, Int.reduceEq, ml_i0, ↓smc, sm, this, hb, hg, cc, hi, wr]
     exact ih (i + 1) m' h Q hd' hb h1 h2
  have hb : ((m.set m.next (some (Blk.row 3 [vSys s]))).bump 1).blk m.next = some (.row 3 [vSys s]) := by simp [Mem.set, Mem.bump]
  have hb' : (m.set m.next (some (Blk.row 3 [vSys s]))).blk m.next = some (.row 3 [vSys s]) := by simp [Mem.set]
  have e : impA s = impC s s.cls 0 := by simp [impA, h0]
  simp only [↓sxc, sx, se, ↓reduceIte, Nat.reduceEqDiff, Nat.reduceAdd, Nat.reduceLT, Nat.reduceLeDiff, Nat.reduceSub, Nat.reduceMul, Int.reduceToNat, Int.reduceLT, Int.reduceLE, Int.reduceEq, ml_i0, ↓smc, sm, c0, h0, hb, hb']
  refine loop s.cls 0 _ m.next _ rfl hb (fun h m' => ?_) (fun h m' e1 => ?_)
  ·simp only [↓sxc, sx, se, ↓reduceIte, Nat.reduceEqDiff, Nat.reduceAdd, Nat.reduceLT, Nat.reduceLeDiff, Nat.reduceSub, Nat.reduceMul, Int.reduceToNat, Int.reduceLT, Int.reduceLE, Int.reduceEq, ml_i0, ↓smc, sm]
   simp only [mapO, fz_int, fz_bool]
   rw [e, h]
   rfl
  ·simp only [↓sxc, sx, se, ↓reduceIte, Nat.reduceEqDiff, Nat.reduceAdd, Nat.reduceLT, Nat.reduceLeDiff, Nat.reduceSub, Nat.reduceMul, Int.reduceToNat, Int.reduceLT, Int.reduceLE, Int.reduceEq, ml_i0, ↓smc, sm]
   simp only [mapO, fz_int, fz_bool]
   rw [e, h]
   rfl
 ·have e : impA s = (0, 0, false) := by simp [impA, h0]
  have hb' : (m.set m.next (some (Blk.row 3 [vSys s]))).blk m.next = some (.row 3 [vSys s]) := by simp [Mem.set]
  simp only [↓sxc, sx, se, ↓reduceIte, Nat.reduceEqDiff, Nat.reduceAdd, Nat.reduceLT, Nat.reduceLeDiff, Nat.reduceSub, Nat.reduceMul, Int.reduceToNat, Int.reduceLT, Int.reduceLE, Int.reduceEq, ml_i0, ↓smc, sm, c0, h0, hb', e]
  rfl
theorem sp82 {F : Nat → Option Fn} (hA : HasA F) (hC : HasC F) {lo : Nat} {m : Mem} (s : Sys) : callw F 82 [vSys s] lo m = some (.tup [vi (impA s).1, vi (impA s).2.1, .bool (impA s).2.2], m) := by
 have c0 : ∀ {lo m}, callw F 91 [vSys s] lo m = some (vi (chkE s), m) := fun {lo m} => sp91 hA s
 refine call_p hC.h82 rfl ?_
 by_cases h0 : chkE s = 0
 ·have hv := valid_of h0
  have c6 := hv.c6
  have loop1 : ∀ (i : Nat) (c : Cls) (hc : s.cls[i]? = some c) (t : List Stp) (k : Nat) (n : Nat) (Q : Ex → St → Prop), c.steps.drop k = t →
    (0 ≤ impS s t k → ∀ n, Q .ret ⟨[(2, vi i), (3, vi (impS s t k)), (4, .bool true)], [], [], m.bump n⟩) → (impS s t k = -1 → ∀ n e, Q (.exit 2) ⟨(5, vi i) :: e, [(1, vSys s)], [], m.bump n⟩) →
    W F m.next L82_1 ⟨[(5, vi i), (6, vi k)], [(1, vSys s)], [], m.bump n⟩ Q := by
   intro i c hc t
   have hcm := List.mem_of_getElem? hc
   have hl12 := (hv.okC c hcm).l12
   have i0 : ((i : Nat) : Int).toNat = i := rfl
   have p0 : (0 : Int) ≤ (i : Int) := by omega
   induction t with
   | nil =>
    intro k n Q hd h1 h2
    have hlt := drop_nil hd
    rw [W_L (c := L82_1) rfl]
    have : ¬ ((k : Nat) : Int) < (c.steps.length : Int) := by omega
    simp only [↓sxc, sx, se, ↓reduceIte, Nat.reduceEqDiff, Nat.reduceAdd, Nat.reduceLT, Nat.reduceLeDiff, Nat.reduceSub, Nat.reduceMul, Int.reduceToNat, Int.reduceLT, Int.reduceLE, Int.reduceEq, ml_i0, ↓smc, sm, hc, i0, p0, this]
    exact h2 rfl _ _
   | cons x t ih =>
    intro k n Q hd h1 h2
    obtain ⟨hg, hd', hlt⟩ := drop_cons hd
    rw [W_L (c := L82_1) rfl]
    have : ((k : Nat) : Int) < (c.steps.length : Int) := by omega
    have k0 : ((k : Nat) : Int).toNat = k := rfl
    have p1 : (0 : Int) ≤ (k : Int) := by omega
    have wr : wrapF .i64 ((k : Int) + 1) = ((k + 1 : Nat) : Int) := by rw [wr_i64 (by omega) (by omega)]; rfl
    have hp := hv.pre hcm (List.mem_of_getElem? hg)
    have yes : impE s x = true → ∀ n, Q .ret ⟨[(2, vi i), (3, vi k), (4, .bool true)], [], [], m.bump n⟩ := fun h n => by
     have e : impS s (x :: t) k = (k : Int) := by simp [impS, h]
     rw [e] at h1
     exact h1 (by omega) n
    have no : impE s x = false → ∀ n, W F m.next L82_1 ⟨[(5, vi i), (6, vi (k + 1 : Nat))], [(1, vSys s)], [], m.bump n⟩ Q := fun h n => by
     have e : impS s (x :: t) k = impS s t (k + 1) := by simp [impS, h]
     rw [e] at h1 h2
     exact ih (k + 1) n Q hd' h1 h2
    by_cases k1 : x.kind = 1
    ·obtain ⟨o1, p, ho⟩ := on_pools hp k1
     have hb := hv.pool p (List.mem_of_getElem? ho)
     have hs : sizeAt s x.on = p.size := by simp [sizeAt, ho]
     have hr : resAt s x.on = p.res := by simp [resAt, ho]
     have w1 : wrapF .i64 (p.size - p.res) = p.size - p.res := wr_i64 (by omega) (by omega)
     cases hd : x.deep with
     | true =>
      simp only [↓sxc, sx, se, ↓reduceIte, Nat.reduceEqDiff, Nat.reduceAdd, Nat.reduceLT, Nat.reduceLeDiff, Nat.reduceSub, Nat.reduceMul, Int.reduceToNat, Int.reduceLT, Int.reduceLE, Int.reduceEq, ml_i0, ↓smc, sm, hc, i0, p0, this, k0, p1, hg, k1, hd, wr]
      exact no (by simp [impE, k1, hd]) _
     | false =>
      by_cases hgt : p.size - p.res < x.cnt
      ·simp only [↓sxc, sx, se, ↓reduceIte, Nat.reduceEqDiff, Nat.reduceAdd, Nat.reduceLT, Nat.reduceLeDiff, Nat.reduceSub, Nat.reduceMul, Int.reduceToNat, Int.reduceLT, Int.reduceLE, Int.reduceEq, ml_i0, ↓smc, sm, hc, i0, p0, this, k0, p1, hg, k1, hd, o1, ho, w1, hgt, wr]
       exact yes (by simp [impE, k1, hd, hs, hr, hgt]) _
      ·simp only [↓sxc, sx, se, ↓reduceIte, Nat.reduceEqDiff, Nat.reduceAdd, Nat.reduceLT, Nat.reduceLeDiff, Nat.reduceSub, Nat.reduceMul, Int.reduceToNat, Int.reduceLT, Int.reduceLE, Int.reduceEq, ml_i0, ↓smc, sm, hc, i0, p0, this, k0, p1, hg, k1, hd, o1, ho, w1, hgt, wr]
       exact no (by simp [impE, k1, hd, hs, hr]; omega) _
    ·by_cases k5 : x.kind = 5
     ·obtain ⟨o1, d, ho⟩ := on_cls hp k5
      by_cases hw : d.wk = 0
      ·simp only [↓sxc, sx, se, ↓reduceIte, Nat.reduceEqDiff, Nat.reduceAdd, Nat.reduceLT, Nat.reduceLeDiff, Nat.reduceSub, Nat.reduceMul, Int.reduceToNat, Int.reduceLT, Int.reduceLE, Int.reduceEq, ml_i0, ↓smc, sm, hc, i0, p0, this, k0, p1, hg, k1, k5, o1, ho, hw, wr]
       exact yes (by simp [impE, k5, wkAt, ho, hw]) _
      ·simp only [↓sxc, sx, se, ↓reduceIte, Nat.reduceEqDiff, Nat.reduceAdd, Nat.reduceLT, Nat.reduceLeDiff, Nat.reduceSub, Nat.reduceMul, Int.reduceToNat, Int.reduceLT, Int.reduceLE, Int.reduceEq, ml_i0, ↓smc, sm, hc, i0, p0, this, k0, p1, hg, k1, k5, o1, ho, hw, wr]
       exact no (by simp [impE, k5, wkAt, ho, hw]) _
     ·simp only [↓sxc, sx, se, ↓reduceIte, Nat.reduceEqDiff, Nat.reduceAdd, Nat.reduceLT, Nat.reduceLeDiff, Nat.reduceSub, Nat.reduceMul, Int.reduceToNat, Int.reduceLT, Int.reduceLE, Int.reduceEq, ml_i0, ↓smc, sm, hc, i0, p0, this, k0, p1, hg, k1, k5, wr]
      exact no (by simp [impE, k1, k5]) _
  have loop2 : ∀ (t : List Cls) (i : Nat) (n : Nat) (Q : Ex → St → Prop), s.cls.drop i = t →
    ((impC s t i).2.2 = true → ∀ n, Q .ret ⟨[(2, vi (impC s t i).1), (3, vi (impC s t i).2.1), (4, .bool true)], [], [], m.bump n⟩) → (impC s t i = (0, 0, false) → ∀ n e, Q (.exit 0) ⟨e, [(1, vSys s)], [], m.bump n⟩) →
    W F m.next L82_2 ⟨[(5, vi i)], [(1, vSys s)], [], m.bump n⟩ Q := by
   intro t
   induction t with
   | nil =>
    intro i n Q hd h1 h2
    have hlt := drop_nil hd
    rw [W_L (c := L82_2) rfl]
    have : ¬ ((i : Nat) : Int) < (s.cls.length : Int) := by omega
    simp only [↓sxc, sx, se, ↓reduceIte, Nat.reduceEqDiff, Nat.reduceAdd, Nat.reduceLT, Nat.reduceLeDiff, Nat.reduceSub, Nat.reduceMul, Int.reduceToNat, Int.reduceLT, Int.reduceLE, Int.reduceEq, ml_i0, ↓smc, sm, this]
    exact h2 rfl _ _
   | cons c t ih =>
    intro i n Q hd h1 h2
    obtain ⟨hg, hd', hlt⟩ := drop_cons hd
    rw [W_L (c := L82_2) rfl]
    have : ((i : Nat) : Int) < (s.cls.length : Int) := by omega
    have wr : wrapF .i64 ((i : Int) + 1) = ((i + 1 : Nat) : Int) := by rw [wr_i64 (by omega) (by omega)]; rfl
    simp only [↓sxc, sx, se, ↓reduceIte, Nat.reduceEqDiff, Nat.reduceAdd, Nat.reduceLT, Nat.reduceLeDiff, Nat.reduceSub, Nat.reduceMul, Int.reduceToNat, Int.reduceLT, Int.reduceLE, Int.reduceEq, ml_i0, ↓smc, sm, this]
    refine loop1 i c hg c.steps 0 _ _ rfl (fun h n => ?_) (fun h n e => ?_)
    ·have e : impC s (c :: t) i = ((i : Int), impS s c.steps 0, true) := by simp [impC, h]
     rw [e] at h1
     simp only [↓sxc, sx, se, ↓reduceIte, Nat.reduceEqDiff, Nat.reduceAdd, Nat.reduceLT, Nat.reduceLeDiff, Nat.reduceSub, Nat.reduceMul, Int.reduceToNat, Int.reduceLT, Int.reduceLE, Int.reduceEq, ml_i0, ↓smc, sm]
     exact h1 rfl n
    ·have e : impC s (c :: t) i = impC s t (i + 1) := by simp [impC, h]
     rw [e] at h1 h2
     simp only [↓sxc, sx, se, ↓reduceIte, Nat.reduceEqDiff, Nat.reduceAdd, Nat.reduceLT, Nat.reduceLeDiff, Nat.reduceSub, Nat.reduceMul, Int.reduceToNat, Int.reduceLT, Int.reduceLE, Int.reduceEq, ml_i0, ↓smc, sm, wr]
     exact ih (i + 1) n Q hd' h1 h2
  have e : impA s = impC s s.cls 0 := by simp [impA, h0]
  simp only [↓sxc, sx, se, ↓reduceIte, Nat.reduceEqDiff, Nat.reduceAdd, Nat.reduceLT, Nat.reduceLeDiff, Nat.reduceSub, Nat.reduceMul, Int.reduceToNat, Int.reduceLT, Int.reduceLE, Int.reduceEq, ml_i0, ↓smc, sm, c0, h0]
  refine loop2 s.cls 0 0 _ rfl (fun h n => ?_) (fun h n e1 => ?_)
  ·simp only [↓sxc, sx, se, ↓reduceIte, Nat.reduceEqDiff, Nat.reduceAdd, Nat.reduceLT, Nat.reduceLeDiff, Nat.reduceSub, Nat.reduceMul, Int.reduceToNat, Int.reduceLT, Int.reduceLE, Int.reduceEq, ml_i0, ↓smc, sm]
   simp only [mapO, fz_int, fz_bool]
   rw [e, h]
   rfl
  ·simp only [↓sxc, sx, se, ↓reduceIte, Nat.reduceEqDiff, Nat.reduceAdd, Nat.reduceLT, Nat.reduceLeDiff, Nat.reduceSub, Nat.reduceMul, Int.reduceToNat, Int.reduceLT, Int.reduceLE, Int.reduceEq, ml_i0, ↓smc, sm]
   simp only [mapO, fz_int, fz_bool]
   rw [e, h]
   rfl
 ·have e : impA s = (0, 0, false) := by simp [impA, h0]
  simp only [↓sxc, sx, se, ↓reduceIte, Nat.reduceEqDiff, Nat.reduceAdd, Nat.reduceLT, Nat.reduceLeDiff, Nat.reduceSub, Nat.reduceMul, Int.reduceToNat, Int.reduceLT, Int.reduceLE, Int.reduceEq, ml_i0, ↓smc, sm, c0, h0, e]
  rfl
end Go.Am
namespace Go.Am
open Go
set_option linter.unusedSimpArgs false
set_option linter.unusedVariables false
set_option maxRecDepth 100000
theorem mem_foldl_addE {y : Edge} : ∀ {xs l : List Edge}, y ∈ xs.foldl addE l → y ∈ l ∨ y ∈ xs
 | [], l, h => .inl h
 | x :: xs, l, h => by
  rcases mem_foldl_addE (xs := xs) (l := addE l x) h with h | h
  ·unfold addE at h
   split at h
   ·exact .inl h
   ·rcases List.mem_append.1 h with h | h
    ·exact .inl h
    ·exact .inr (by simp at h; simp [h])
  ·exact .inr (by simp [h])
theorem edgesE_sub {s : Sys} {y : Edge} (h : y ∈ edgesE s) : y ∈ alE s s.cls 0 := by
 unfold edgesE at h
 split at h
 ·simp at h
 ·rcases mem_foldl_addE h with h | h
  ·simp at h
  ·exact h
theorem edgesE_len' {s : Sys} (h0 : chkE s = 0) : (edgesE s).length ≤ 864 := by
 unfold edgesE
 rw [if_neg (by simpa using h0)]
 have hv := valid_of h0
 have h1 := alE_len hv (t := s.cls) (i := 0) (fun c hc => hc)
 have h2 := foldl_addE_len (xs := alE s s.cls 0) (l := [])
 have := hv.c6
 simp at h2
 omega
theorem mem_clE {s : Sys} {i : Nat} {c : Cls} {e : Edge} : ∀ {t : List Stp} {k : Nat}, e ∈ clE s i c t k → ∃ (j : Nat) (x : Stp), t[j]? = some x ∧ e ∈ stE s i c (k + j) x
 | [], k, h => by simp [clE] at h
 | x :: t, k, h => by
  unfold clE at h
  rcases List.mem_append.1 h with h | h
  ·exact ⟨0, x, rfl, h⟩
  ·obtain ⟨j, y, h1, h2⟩ := mem_clE h
   exact ⟨j + 1, y, h1, by rw [show k + (j + 1) = k + 1 + j by omega]; exact h2⟩
theorem mem_alE {s : Sys} {e : Edge} : ∀ {t : List Cls} {i : Nat}, e ∈ alE s t i → ∃ (j : Nat) (c : Cls), t[j]? = some c ∧ e ∈ clE s (i + j) c c.steps 0
 | [], i, h => by simp [alE] at h
 | c :: t, i, h => by
  unfold alE at h
  rcases List.mem_append.1 h with h | h
  ·exact ⟨0, c, rfl, h⟩
  ·obtain ⟨j, d, h1, h2⟩ := mem_alE h
   exact ⟨j + 1, d, h1, by rw [show i + (j + 1) = i + 1 + j by omega]; exact h2⟩
theorem edge_from {s : Sys} {e : Edge} (h : e ∈ alE s s.cls 0) : ∃ (i k : Nat) (c : Cls) (x : Stp), s.cls[i]? = some c ∧ c.steps[k]? = some x ∧ waitsE s x = true ∧ e.fr ∈ hold s i c (c.steps.take k) ∧ e.to = target s x ∧ e.cls = i ∧ e.step = k := by
 obtain ⟨i, c, h1, h2⟩ := mem_alE h
 obtain ⟨k, x, h3, h4⟩ := mem_clE h2
 rw [Nat.zero_add] at h2 h4
 rw [Nat.zero_add] at h4
 unfold stE at h4
 split at h4
 ·rename_i hw
  obtain ⟨f, h5, rfl⟩ := List.mem_map.1 h4
  exact ⟨i, k, c, x, h1, h3, hw, h5, rfl, rfl, rfl⟩
 ·simp at h4
theorem hold_nat {s : Sys} {i : Nat} {c : Cls} {L : List Stp} {f : Int} (h : f ∈ hold s i c L) (hi : i < s.cls.length) : ∃ r : Nat, f = r ∧ r < s.pools.length + s.locks.length + s.cls.length := by
 unfold hold at h
 rw [List.mem_append, List.mem_append] at h
 rcases h with (h | h) | h
 ·simp only [held0, List.mem_map, List.mem_filter, List.mem_range] at h
  obtain ⟨j, ⟨h1, _⟩, rfl⟩ := h
  exact ⟨j, rfl, by omega⟩
 ·simp only [held1, List.mem_map, List.mem_filter, List.mem_range] at h
  obtain ⟨j, ⟨h1, _⟩, rfl⟩ := h
  exact ⟨s.pools.length + j, by omega, by omega⟩
 ·split at h
  ·simp at h
   exact ⟨s.pools.length + s.locks.length + i, by omega, by omega⟩
  ·simp at h
theorem target_rng {s : Sys} {x : Stp} (hp : preE s x = 0) (hw : waitsE s x = true) : 0 ≤ target s x ∧ target s x < s.pools.length + s.locks.length + s.cls.length := by
 obtain ⟨o1, o2, _⟩ := preE_on hp
 unfold nOf at o2
 unfold target
 unfold waitsE at hw
 by_cases k3 : x.kind = 3
 ·rw [if_pos (.inl k3)] at o2
  rw [if_pos k3]
  omega
 ·by_cases k5 : x.kind = 5
  ·rw [if_neg (by omega), if_pos k5] at o2
   rw [if_neg k3, if_pos k5]
   omega
  ·by_cases k1 : x.kind = 1
   ·rw [if_neg (by omega), if_neg k5] at o2
    rw [if_neg k3, if_neg k5]
    omega
   ·rw [if_neg (by omega), if_neg k1] at hw
    cases hw
theorem edge_rng {s : Sys} (h0 : chkE s = 0) {e : Edge} (h : e ∈ alE s s.cls 0) : (∃ r : Nat, e.fr = r ∧ r < s.pools.length + s.locks.length + s.cls.length) ∧ ∃ r : Nat, e.to = r ∧ r < s.pools.length + s.locks.length + s.cls.length := by
 have hv := valid_of h0
 obtain ⟨i, k, c, x, h1, h2, hw, hf, ht, _, _⟩ := edge_from h
 refine ⟨hold_nat hf (List.getElem?_eq_some_iff.1 h1).1, ?_⟩
 have := target_rng (hv.pre (List.mem_of_getElem? h1) (List.mem_of_getElem? h2)) hw
 exact ⟨e.to.toNat, by omega, by omega⟩
end Go.Am
namespace Go.Am
open Go
set_option linter.unusedSimpArgs false
set_option linter.unusedVariables false
set_option maxRecDepth 100000
noncomputable def vCert (l : List Int) : V := .agg [ints l]
end Go.Am
namespace Go.Am
open Go
set_option linter.unusedSimpArgs false
set_option linter.unusedVariables false
set_option maxRecDepth 100000
def badN (n : Int) (e : Edge) : Bool := decide (e.fr < 0) || decide (n ≤ e.fr) || decide (e.to < 0) || decide (n ≤ e.to)
def chkG (n : Int) (l : List Edge) : Int := if n < 0 ∨ 4096 < n then 2 else if l.any (badN n) = true then 1 else 0
theorem sp102 {F : Nat → Option Fn} (hG : HasG F) {lo : Nat} {m : Mem} (n : Int) (l : List Edge) (hl : l.length < 1000000) : callw F 102 [vi n, vEdges l] lo m = some (vi (chkG n l), m) := by
 have loop : ∀ (t : List Edge) (i : Nat) (Q : Ex → St → Prop), l.drop i = t → (t.any (badN n) = true → Q .ret ⟨[(4, vi 1)], [], [], m⟩) → (t.any (badN n) = false → ∀ e, Q (.exit 0) ⟨e, [], [], m⟩) →
   W F m.next L102_1 ⟨[(0, vi n), (13, vEdges l), (14, vi l.length), (15, vi i)], [], [], m⟩ Q := by
  intro t
  induction t with
  | nil =>
   intro i Q hd q1 q2
   have hlt := drop_nil hd
   rw [W_L (c := L102_1) rfl]
   have : ¬ ((i : Nat) : Int) < (l.length : Int) := by omega
   simp only [↓sxc, sx, se, ↓reduceIte, Nat.reduceEqDiff, Nat.reduceAdd, Nat.reduceLT, Nat.reduceLeDiff, Nat.reduceSub, Nat.reduceMul, Int.reduceToNat, Int.reduceLT, Int.reduceLE, Int.reduceEq, ml_i0, ↓smc, sm, this]
   exact q2 rfl _
  | cons x t ih =>
   intro i Q hd q1 q2
   obtain ⟨hg, hd', hlt⟩ := drop_cons hd
   rw [W_L (c := L102_1) rfl]
   have : ((i : Nat) : Int) < (l.length : Int) := by omega
   have wr : wrapF .i64 ((i : Int) + 1) = ((i + 1 : Nat) : Int) := by rw [wr_i64 (by omega) (by omega)]; rfl
   by_cases e1 : x.fr < 0
   ·simp only [↓sxc, sx, se, ↓reduceIte, Nat.reduceEqDiff, Nat.reduceAdd, Nat.reduceLT, Nat.reduceLeDiff, Nat.reduceSub, Nat.reduceMul, Int.reduceToNat, Int.reduceLT, Int.reduceLE, Int.reduceEq, ml_i0, ↓smc, sm, this, hg, e1]
    exact q1 (by simp [badN, e1])
   ·by_cases e2 : n ≤ x.fr
    ·simp only [↓sxc, sx, se, ↓reduceIte, Nat.reduceEqDiff, Nat.reduceAdd, Nat.reduceLT, Nat.reduceLeDiff, Nat.reduceSub, Nat.reduceMul, Int.reduceToNat, Int.reduceLT, Int.reduceLE, Int.reduceEq, ml_i0, ↓smc, sm, this, hg, e1, e2]
     exact q1 (by simp [badN, e2])
    ·by_cases e3 : x.to < 0
     ·simp only [↓sxc, sx, se, ↓reduceIte, Nat.reduceEqDiff, Nat.reduceAdd, Nat.reduceLT, Nat.reduceLeDiff, Nat.reduceSub, Nat.reduceMul, Int.reduceToNat, Int.reduceLT, Int.reduceLE, Int.reduceEq, ml_i0, ↓smc, sm, this, hg, e1, e2, e3]
      exact q1 (by simp [badN, e3])
     ·by_cases e4 : n ≤ x.to
      ·simp only [↓sxc, sx, se, ↓reduceIte, Nat.reduceEqDiff, Nat.reduceAdd, Nat.reduceLT, Nat.reduceLeDiff, Nat.reduceSub, Nat.reduceMul, Int.reduceToNat, Int.reduceLT, Int.reduceLE, Int.reduceEq, ml_i0, ↓smc, sm, this, hg, e1, e2, e3, e4]
       exact q1 (by simp [badN, e4])
      ·have e : (x :: t).any (badN n) = t.any (badN n) := by simp [badN, e1, e2, e3, e4]
       rw [e] at q1 q2
       simp only [↓sxc, sx, se, ↓reduceIte, Nat.reduceEqDiff, Nat.reduceAdd, Nat.reduceLT, Nat.reduceLeDiff, Nat.reduceSub, Nat.reduceMul, Int.reduceToNat, Int.reduceLT, Int.reduceLE, Int.reduceEq, ml_i0, ↓smc, sm, this, hg, e1, e2, e3, e4, wr]
       exact ih (i + 1) Q hd' q1 q2
 refine call_p hG.h102 rfl ?_
 by_cases h1 : n < 0
 ·have e : chkG n l = 2 := by simp [chkG, h1]
  simp only [↓sxc, sx, se, ↓reduceIte, Nat.reduceEqDiff, Nat.reduceAdd, Nat.reduceLT, Nat.reduceLeDiff, Nat.reduceSub, Nat.reduceMul, Int.reduceToNat, Int.reduceLT, Int.reduceLE, Int.reduceEq, ml_i0, ↓smc, sm, h1, e]
 ·by_cases h2 : 4096 < n
  ·have e : chkG n l = 2 := by simp [chkG, h2]
   simp only [↓sxc, sx, se, ↓reduceIte, Nat.reduceEqDiff, Nat.reduceAdd, Nat.reduceLT, Nat.reduceLeDiff, Nat.reduceSub, Nat.reduceMul, Int.reduceToNat, Int.reduceLT, Int.reduceLE, Int.reduceEq, ml_i0, ↓smc, sm, h1, h2, e]
  ·simp only [↓sxc, sx, se, ↓reduceIte, Nat.reduceEqDiff, Nat.reduceAdd, Nat.reduceLT, Nat.reduceLeDiff, Nat.reduceSub, Nat.reduceMul, Int.reduceToNat, Int.reduceLT, Int.reduceLE, Int.reduceEq, ml_i0, ↓smc, sm, h1, h2]
   refine loop l 0 _ rfl (fun h => ?_) (fun h e => ?_)
   ·have e : chkG n l = 1 := by simp [chkG, h1, h2, h]
    simp only [↓sxc, sx, se, ↓reduceIte, Nat.reduceEqDiff, Nat.reduceAdd, Nat.reduceLT, Nat.reduceLeDiff, Nat.reduceSub, Nat.reduceMul, Int.reduceToNat, Int.reduceLT, Int.reduceLE, Int.reduceEq, ml_i0, ↓smc, sm, e]
   ·have e : chkG n l = 0 := by simp only [chkG, h]; simp; omega
    simp only [↓sxc, sx, se, ↓reduceIte, Nat.reduceEqDiff, Nat.reduceAdd, Nat.reduceLT, Nat.reduceLeDiff, Nat.reduceSub, Nat.reduceMul, Int.reduceToNat, Int.reduceLT, Int.reduceLE, Int.reduceEq, ml_i0, ↓smc, sm, e]
theorem sp108 {F : Nat → Option Fn} (hG : HasG F) {lo : Nat} {m : Mem} (n : Int) (l : List Edge) (hl : l.length < 1000000) : callw F 108 [vi n, vEdges l] lo m = some (vi (chkG n l), m) := by
 have loop : ∀ (t : List Edge) (i : Nat) (Q : Ex → St → Prop), l.drop i = t → (t.any (badN n) = true → Q .ret ⟨[(4, vi 1)], [], [], m⟩) → (t.any (badN n) = false → ∀ e, Q (.exit 0) ⟨e, [], [], m⟩) →
   W F m.next L108_1 ⟨[(0, vi n), (1, vEdges l), (5, vi i)], [], [], m⟩ Q := by
  intro t
  induction t with
  | nil =>
   intro i Q hd q1 q2
   have hlt := drop_nil hd
   rw [W_L (c := L108_1) rfl]
   have : ¬ ((i : Nat) : Int) < (l.length : Int) := by omega
   simp only [↓sxc, sx, se, ↓reduceIte, Nat.reduceEqDiff, Nat.reduceAdd, Nat.reduceLT, Nat.reduceLeDiff, Nat.reduceSub, Nat.reduceMul, Int.reduceToNat, Int.reduceLT, Int.reduceLE, Int.reduceEq, ml_i0, ↓smc, sm, this]
   exact q2 rfl _
  | cons x t ih =>
   intro i Q hd q1 q2
   obtain ⟨hg, hd', hlt⟩ := drop_cons hd
   rw [W_L (c := L108_1) rfl]
   have : ((i : Nat) : Int) < (l.length : Int) := by omega
   have wr : wrapF .i64 ((i : Int) + 1) = ((i + 1 : Nat) : Int) := by rw [wr_i64 (by omega) (by omega)]; rfl
   by_cases e1 : x.fr < 0
   ·simp only [↓sxc, sx, se, ↓reduceIte, Nat.reduceEqDiff, Nat.reduceAdd, Nat.reduceLT, Nat.reduceLeDiff, Nat.reduceSub, Nat.reduceMul, Int.reduceToNat, Int.reduceLT, Int.reduceLE, Int.reduceEq, ml_i0, ↓smc, sm, this, hg, e1]
    exact q1 (by simp [badN, e1])
   ·by_cases e2 : n ≤ x.fr
    ·simp only [↓sxc, sx, se, ↓reduceIte, Nat.reduceEqDiff, Nat.reduceAdd, Nat.reduceLT, Nat.reduceLeDiff, Nat.reduceSub, Nat.reduceMul, Int.reduceToNat, Int.reduceLT, Int.reduceLE, Int.reduceEq, ml_i0, ↓smc, sm, this, hg, e1, e2]
     exact q1 (by simp [badN, e2])
    ·by_cases e3 : x.to < 0
     ·simp only [↓sxc, sx, se, ↓reduceIte, Nat.reduceEqDiff, Nat.reduceAdd, Nat.reduceLT, Nat.reduceLeDiff, Nat.reduceSub, Nat.reduceMul, Int.reduceToNat, Int.reduceLT, Int.reduceLE, Int.reduceEq, ml_i0, ↓smc, sm, this, hg, e1, e2, e3]
      exact q1 (by simp [badN, e3])
     ·by_cases e4 : n ≤ x.to
      ·simp only [↓sxc, sx, se, ↓reduceIte, Nat.reduceEqDiff, Nat.reduceAdd, Nat.reduceLT, Nat.reduceLeDiff, Nat.reduceSub, Nat.reduceMul, Int.reduceToNat, Int.reduceLT, Int.reduceLE, Int.reduceEq, ml_i0, ↓smc, sm, this, hg, e1, e2, e3, e4]
       exact q1 (by simp [badN, e4])
      ·have e : (x :: t).any (badN n) = t.any (badN n) := by simp [badN, e1, e2, e3, e4]
       rw [e] at q1 q2
       simp only [↓sxc, sx, se, ↓reduceIte, Nat.reduceEqDiff, Nat.reduceAdd, Nat.reduceLT, Nat.reduceLeDiff, Nat.reduceSub, Nat.reduceMul, Int.reduceToNat, Int.reduceLT, Int.reduceLE, Int.reduceEq, ml_i0, ↓smc, sm, this, hg, e1, e2, e3, e4, wr]
       exact ih (i + 1) Q hd' q1 q2
 refine call_p hG.h108 rfl ?_
 by_cases h1 : n < 0
 ·have e : chkG n l = 2 := by simp [chkG, h1]
  simp only [↓sxc, sx, se, ↓reduceIte, Nat.reduceEqDiff, Nat.reduceAdd, Nat.reduceLT, Nat.reduceLeDiff, Nat.reduceSub, Nat.reduceMul, Int.reduceToNat, Int.reduceLT, Int.reduceLE, Int.reduceEq, ml_i0, ↓smc, sm, h1, e]
 ·by_cases h2 : 4096 < n
  ·have e : chkG n l = 2 := by simp [chkG, h2]
   simp only [↓sxc, sx, se, ↓reduceIte, Nat.reduceEqDiff, Nat.reduceAdd, Nat.reduceLT, Nat.reduceLeDiff, Nat.reduceSub, Nat.reduceMul, Int.reduceToNat, Int.reduceLT, Int.reduceLE, Int.reduceEq, ml_i0, ↓smc, sm, h1, h2, e]
  ·simp only [↓sxc, sx, se, ↓reduceIte, Nat.reduceEqDiff, Nat.reduceAdd, Nat.reduceLT, Nat.reduceLeDiff, Nat.reduceSub, Nat.reduceMul, Int.reduceToNat, Int.reduceLT, Int.reduceLE, Int.reduceEq, ml_i0, ↓smc, sm, h1, h2]
   refine loop l 0 _ rfl (fun h => ?_) (fun h e => ?_)
   ·have e : chkG n l = 1 := by simp [chkG, h1, h2, h]
    simp only [↓sxc, sx, se, ↓reduceIte, Nat.reduceEqDiff, Nat.reduceAdd, Nat.reduceLT, Nat.reduceLeDiff, Nat.reduceSub, Nat.reduceMul, Int.reduceToNat, Int.reduceLT, Int.reduceLE, Int.reduceEq, ml_i0, ↓smc, sm, e]
   ·have e : chkG n l = 0 := by simp only [chkG, h]; simp; omega
    simp only [↓sxc, sx, se, ↓reduceIte, Nat.reduceEqDiff, Nat.reduceAdd, Nat.reduceLT, Nat.reduceLeDiff, Nat.reduceSub, Nat.reduceMul, Int.reduceToNat, Int.reduceLT, Int.reduceLE, Int.reduceEq, ml_i0, ↓smc, sm, e]
structure Gr (n : Int) (l : List Edge) : Prop where
 n0 : 0 ≤ n
 n4 : n ≤ 4096
 e : ∀ e ∈ l, ∃ a b : Nat, e.fr = a ∧ e.to = b ∧ (a : Int) < n ∧ (b : Int) < n
theorem gr_of {n : Int} {l : List Edge} (h : chkG n l = 0) : Gr n l := by
 unfold chkG at h
 split at h
 ·omega
 ·rename_i h1
  split at h
  ·omega
  ·rename_i h2
   refine ⟨by omega, by omega, fun e he => ?_⟩
   have h3 : l.any (badN n) = false := by simpa using h2
   have := List.any_eq_false.1 h3 e he
   simp [badN] at this
   exact ⟨e.fr.toNat, e.to.toNat, by omega, by omega, by omega, by omega⟩
def hOf : V → Option Nat
 | .row _ h _ _ => some h
 | _ => none
structure NestB (lo : Nat) (m : Mem) (h q : Nat) (E : List (List Int)) (es : List V) : Prop where
 lh : lo ≤ h
 hm : h < m.next
 bh : m.blk h = some (.row 1 es)
 ln : es.length = E.length
 rw : ∀ (i : Nat) (v : V) (L : List Int), es[i]? = some v → E[i]? = some L → Rw lo m 1 v (L.map vi)
 ap : ∀ (i j : Nat) (v w : V) (k : Nat), es[i]? = some v → es[j]? = some w → hOf v = some k → hOf w = some k → i = j
 ne : ∀ (i : Nat) (v : V) (k : Nat), es[i]? = some v → hOf v = some k → k ≠ h ∧ k ≠ q
theorem NestB.mono {lo h q : Nat} {m m' : Mem} {E : List (List Int)} {es : List V} (H : NestB lo m h q E es) (hn : m.next ≤ m'.next) (hb : ∀ k, k ≠ q → k < m.next → m'.blk k = m.blk k) (hq : h ≠ q) : NestB lo m' h q E es := by
 refine ⟨H.lh, Nat.lt_of_lt_of_le H.hm hn, by rw [hb h hq H.hm]; exact H.bh, H.ln, fun i v L h1 h2 => (H.rw i v L h1 h2).mono hn (fun k l hk => ?_), H.ap, H.ne⟩
 subst hk
 have h3 := (H.ne i _ k h1 rfl).2
 rcases H.rw i _ L h1 h2 with ⟨h4, _⟩ | ⟨k2, h4, _, h5, _⟩
 ·cases h4
 ·cases h4
  exact hb k h3 h5
theorem Rw.hand {lo sz : Nat} {m : Mem} {v : V} {xs : List V} (h : Rw lo m sz v xs) {k : Nat} (hk : hOf v = some k) : v = .row sz k 0 xs.length ∧ lo ≤ k ∧ k < m.next ∧ m.blk k = some (.row sz xs) := by
 rcases h with ⟨rfl, _⟩ | ⟨k2, rfl, h1, h2, h3⟩
 ·cases hk
 ·cases hk
  exact ⟨rfl, h1, h2, h3⟩
theorem Rw.hOf_none {lo sz : Nat} {m : Mem} {v : V} {xs : List V} (h : Rw lo m sz v xs) (hk : hOf v = none) : v = .nil ∧ xs = [] := by
 rcases h with h | ⟨k2, rfl, _⟩
 ·exact h
 ·cases hk
theorem NestB.push {lo h q : Nat} {m : Mem} {E : List (List Int)} {es : List V} (H : NestB lo m h q E es) (c hN : Nat) (h1 : m.next ≤ hN) (h2 : hN < m.next + c) (hlo : lo ≤ m.next) (hq : q < m.next) {i : Nat} {L : List Int} (hE : E[i]? = some L) (hL : L.length < 1000000) (x : Int) :
  ∃ v v' m2, es[i]? = some v ∧ v.cells[0]? = some v ∧ apV lo hN (m.bump c) 1 v (.lst false 1 [vi x]) = some (v', m2) ∧ setC 0 1 v' v = some v' ∧ m2.blk h = some (.row 1 es) ∧ m2.next = m.next + c ∧ (∀ k, hOf v ≠ some k → k ≠ hN → m2.blk k = m.blk k) ∧ m2.blk q = m.blk q ∧ NestB lo (m2.set h (some (.row 1 (es.set i v')))) h q (E.set i (L ++ [x])) (es.set i v') := by
 have hi : i < E.length := (List.getElem?_eq_some_iff.1 hE).1
 have hv : es[i]? = some (es[i]'(by rw [H.ln]; exact hi)) := List.getElem?_eq_getElem _
 generalize es[i]'(by rw [H.ln]; exact hi) = v at hv
 have hr := H.rw i v L hv hE
 have hm := H.hm
 have fin : ∀ m2 : Mem, m2.next = m.next + c → m2.blk hN = some (.row 1 ((L ++ [x]).map vi)) → (∀ k, hOf v ≠ some k → k ≠ hN → m2.blk k = m.blk k) →
   NestB lo (m2.set h (some (.row 1 (es.set i (.row 1 hN 0 (L ++ [x]).length))))) h q (E.set i (L ++ [x])) (es.set i (.row 1 hN 0 (L ++ [x]).length)) := by
  intro m2 n2 b1 b2
  refine ⟨H.lh, by show h < m2.next; omega, by simp [Mem.set], by simp [H.ln], fun j w M hj hM => ?_, fun j k w z hk hj hk' e1 e2 => ?_, fun j w k hj hk => ?_⟩
  ·by_cases hij : j = i
   ·subst hij
    rw [List.getElem?_set_self (by rw [H.ln]; exact hi)] at hj
    rw [List.getElem?_set_self hi] at hM
    cases hj
    cases hM
    refine .inr ⟨hN, by simp, by omega, by show hN < m2.next; omega, ?_⟩
    rw [set_ne (by omega)]
    exact b1
   ·rw [List.getElem?_set_ne (Ne.symm hij)] at hj hM
    refine (H.rw j w M hj hM).mono (by show m.next ≤ m2.next; omega) (fun k l hk => ?_)
    subst hk
    have h3 := (H.ne j _ k hj rfl).1
    rw [set_ne h3]
    obtain ⟨_, _, h4, _⟩ := (H.rw j _ M hj hM).hand (k := k) rfl
    exact b2 k (fun hc => hij (H.ap j i _ _ k hj hv rfl hc)) (by omega)
  ·have lt : ∀ (j : Nat) (w : V) (k : Nat), j ≠ i → es[j]? = some w → hOf w = some k → k < m.next := by
    intro j w k _ hj hk
    have hjl := (List.getElem?_eq_some_iff.1 hj).1
    exact ((H.rw j w _ hj (List.getElem?_eq_getElem (by rw [← H.ln]; exact hjl))).hand hk).2.2.1
   by_cases hji : j = i
   ·by_cases hki : k = i
    ·rw [hji, hki]
    ·subst hji
     rw [List.getElem?_set_self (by rw [H.ln]; exact hi)] at hj
     rw [List.getElem?_set_ne (Ne.symm hki)] at hk'
     cases hj
     cases e1
     have := lt k z hN hki hk' e2
     omega
   ·by_cases hki : k = i
    ·subst hki
     rw [List.getElem?_set_self (by rw [H.ln]; exact hi)] at hk'
     rw [List.getElem?_set_ne (Ne.symm hji)] at hj
     cases hk'
     cases e2
     have := lt j w hN hji hj e1
     omega
    ·rw [List.getElem?_set_ne (Ne.symm hji)] at hj
     rw [List.getElem?_set_ne (Ne.symm hki)] at hk'
     exact H.ap j k w z hk hj hk' e1 e2
  ·by_cases hji : j = i
   ·subst hji
    rw [List.getElem?_set_self (by rw [H.ln]; exact hi)] at hj
    cases hj
    cases hk
    exact ⟨by omega, by omega⟩
   ·rw [List.getElem?_set_ne (Ne.symm hji)] at hj
    exact H.ne j w k hj hk
 cases hh : hOf v with
 | none =>
  obtain ⟨rfl, h3⟩ := hr.hOf_none hh
  have hL0 : L = [] := by simpa using h3
  subst hL0
  have hb : ([vi x] : List V).length < big := by simp [big]
  refine ⟨.nil, .row 1 hN 0 1, (m.bump c).set hN (some (.row 1 [vi x])), hv, rfl, ap_nil vw_lst rfl hb, rfl, ?_, rfl, fun k _ hk => set_ne hk, ?_, ?_⟩
  ·rw [set_ne (by omega)]
   exact H.bh
  ·rw [set_ne (by omega)]
   rfl
  ·exact fin ((m.bump c).set hN (some (.row 1 [vi x]))) rfl (by simp [Mem.set]) (fun k _ hk => set_ne hk)
 | some k =>
  obtain ⟨rfl, h3, h4, h5⟩ := hr.hand hh
  have hne := H.ne i _ k hv rfl
  have h6 : (m.bump c).blk k = some (.row 1 (L.map vi)) := h5
  have ha := ap_row (m := m.bump c) (lo := lo) (h := hN) (h' := k) (o := 0) (l := (L.map vi).length) (sz := 1) (s := 1) (y := .lst false 1 [vi x]) (xs := [vi x]) (es := L.map vi) vw_lst h3 (.inl rfl) (by simp [big]; omega) h6 (by simp)
  have e1 : (List.take (L.map vi).length (List.drop 0 (L.map vi)) ++ [vi x]) = (L ++ [x]).map vi := by rw [List.drop_zero, List.take_of_length_le (Nat.le_refl _), List.map_append]; rfl
  have e2 : (L.map vi).length + [vi x].length = (L ++ [x]).length := by simp
  rw [e1, e2] at ha
  have hbl : ∀ j, hOf (V.row 1 k 0 (L.map vi).length) ≠ some j → j ≠ hN → (((m.bump c).set k none).set hN (some (.row 1 ((L ++ [x]).map vi)))).blk j = m.blk j := fun j hj1 hj2 => by
   rw [set_ne hj2, set_ne (fun hc => hj1 (by rw [hc]; rfl))]
   rfl
  refine ⟨_, .row 1 hN 0 (L ++ [x]).length, ((m.bump c).set k none).set hN (some (.row 1 ((L ++ [x]).map vi))), hv, rfl, ha, rfl, ?_, rfl, hbl, ?_, ?_⟩
  ·rw [hbl h (fun hc => hne.1 (Option.some.inj hc)) (by omega)]
   exact H.bh
  ·exact hbl q (fun hc => hne.2 (Option.some.inj hc)) (by omega)
  ·exact fin _ rfl (by simp [Mem.set]) hbl
theorem pk_nest {t a : Nat} {v y : V} : keysApart [Key.bx t] (Key.h a :: (v.key ++ y.key)) = true := by
 simp only [keysApart, List.all_cons, List.all_nil, List.all_append, Bool.and_true]
 cases v <;> cases y <;> rfl
end Go.Am
namespace Go.Am
open Go
set_option linter.unusedSimpArgs false
set_option linter.unusedVariables false
set_option maxRecDepth 100000
def buck (key : Edge → Int) (val : Nat → Edge → Int) : List Edge → Nat → Int → List Int
 | [], _, _ => []
 | e :: t, i, w => (if key e = w then [val i e] else []) ++ buck key val t (i + 1) w
theorem buck_snoc {key : Edge → Int} {val : Nat → Edge → Int} {e : Edge} {w : Int} : ∀ {p : List Edge} {i : Nat}, buck key val (p ++ [e]) i w = buck key val p i w ++ if key e = w then [val (i + p.length) e] else []
 | [], i => by simp [buck]
 | x :: p, i => by
  rw [List.cons_append, buck, buck, buck_snoc (p := p), List.append_assoc, List.length_cons, show i + 1 + p.length = i + (p.length + 1) by omega]
theorem buck_len {key : Edge → Int} {val : Nat → Edge → Int} {w : Int} : ∀ {p : List Edge} {i : Nat}, (buck key val p i w).length ≤ p.length
 | [], i => by simp [buck]
 | x :: p, i => by
  have := buck_len (key := key) (val := val) (w := w) (p := p) (i := i + 1)
  rw [buck, List.length_append, List.length_cons]
  split <;> simp <;> omega
def bucks (key : Edge → Int) (val : Nat → Edge → Int) (N : Nat) (l : List Edge) : List (List Int) := (List.range N).map fun (w : Nat) => buck key val l 0 (w : Int)
theorem bucks_get {key : Edge → Int} {val : Nat → Edge → Int} {N : Nat} {l : List Edge} {b : Nat} (h : b < N) : (bucks key val N l)[b]? = some (buck key val l 0 b) := by simp [bucks, h]
theorem bucks_len {key : Edge → Int} {val : Nat → Edge → Int} {N : Nat} {l : List Edge} : (bucks key val N l).length = N := by simp [bucks]
theorem bucks_push {key : Edge → Int} {val : Nat → Edge → Int} {N : Nat} {p : List Edge} {e : Edge} {b : Nat} (hk : key e = b) (hb : b < N) : (bucks key val N p).set b (buck key val p 0 b ++ [val p.length e]) = bucks key val N (p ++ [e]) := by
 refine List.ext_getElem? fun j => ?_
 by_cases hj : j < N
 ·rw [bucks_get hj, buck_snoc, Nat.zero_add]
  by_cases hjb : j = b
  ·subst hjb
   rw [List.getElem?_set_self (by rw [bucks_len]; exact hj), if_pos hk]
  ·rw [List.getElem?_set_ne (Ne.symm hjb), bucks_get hj, if_neg (by rw [hk]; omega), List.append_nil]
 ·rw [List.getElem?_eq_none (by simp [bucks_len]; omega), List.getElem?_eq_none (by simp [bucks_len]; omega)]
def cntF (l : List Edge) (v : Nat) : Int := (l.countP fun e => decide (e.fr = (v : Int)) : Nat)
def cnts (N : Nat) (l : List Edge) : List Int := (List.range N).map (cntF l)
theorem cnts_get {N : Nat} {l : List Edge} {v : Nat} (h : v < N) : (cnts N l)[v]? = some (cntF l v) := by simp [cnts, h]
theorem cnts_push {N : Nat} {p : List Edge} {e : Edge} {a : Nat} (ha : e.fr = a) (hb : a < N) : (cnts N p).set a (cntF p a + 1) = cnts N (p ++ [e]) := by
 refine List.ext_getElem? fun j => ?_
 by_cases hj : j < N
 ·rw [cnts_get hj]
  by_cases hja : j = a
  ·subst hja
   rw [List.getElem?_set_self (by simp [cnts]; exact hj)]
   simp [cntF, ha]
  ·rw [List.getElem?_set_ne (Ne.symm hja), cnts_get hj]
   have : ¬ e.fr = (j : Int) := by omega
   simp [cntF, this]
 ·rw [List.getElem?_eq_none (by simp [cnts]; omega), List.getElem?_eq_none (by simp [cnts]; omega)]
theorem cntF_bd {l : List Edge} {v : Nat} : 0 ≤ cntF l v ∧ cntF l v ≤ l.length := by
 unfold cntF
 have := List.countP_le_length (p := fun e : Edge => decide (e.fr = (v : Int))) (l := l)
 omega
structure IR (lo : Nat) (m : Mem) (h : Nat) (xs : List Int) : Prop where
 lh : lo ≤ h
 hm : h < m.next
 b : m.blk h = some (.row 1 (xs.map vi))
theorem IR.mono {lo h : Nat} {m m' : Mem} {xs : List Int} (H : IR lo m h xs) (hn : m.next ≤ m'.next) (hb : m'.blk h = m.blk h) : IR lo m' h xs := ⟨H.lh, Nat.lt_of_lt_of_le H.hm hn, by rw [hb]; exact H.b⟩
theorem IR.set {lo h : Nat} {m : Mem} {xs : List Int} (H : IR lo m h xs) (ys : List Int) : IR lo (m.set h (some (.row 1 (ys.map vi)))) h ys := ⟨H.lh, H.hm, by simp [Mem.set]⟩
def frV (_ : Nat) (e : Edge) : Int := e.fr
def ixV (i : Nat) (_ : Edge) : Int := i
abbrev inL (l : List Edge) (w : Int) : List Int := buck Edge.to frV l 0 w
theorem w41_1 {F : Nat → Option Fn} {lo : Nat} {n : Int} (l : List Edge) (gr : Gr n l) (hl : l.length < 100000) (N : Nat) (hN : n = N) (h7 h8 : Nat) (hhq : h8 ≠ h7) : ∀ (t : List Edge) (j : Nat) (es : List V) (m : Mem) (Q : Ex → St → Prop), l.drop j = t → lo ≤ m.next → IR lo m h7 (cnts N (l.take j)) → NestB lo m h8 h7 (bucks Edge.to frV N (l.take j)) es →
  (∀ es m' e, m.next ≤ m'.next → IR lo m' h7 (cnts N l) → NestB lo m' h8 h7 (bucks Edge.to frV N l) es → Q (.exit 0) ⟨(0, vi n) :: (7, .row 1 h7 0 N) :: (8, .row 1 h8 0 N) :: e, [], [], m'⟩) →
  W F lo L41_1 ⟨[(0, vi n), (7, .row 1 h7 0 N), (8, .row 1 h8 0 N), (28, vEdges l), (29, vi l.length), (30, vi j)], [], [], m⟩ Q := by
 intro t
 induction t with
 | nil =>
  intro j es m Q hd hm h1 h2 hq
  have hlt := drop_nil hd
  rw [W_L (c := L41_1) rfl]
  have : ¬ ((j : Nat) : Int) < (l.length : Int) := by omega
  simp only [↓sxc, sx, se, ↓reduceIte, Nat.reduceEqDiff, Nat.reduceAdd, Nat.reduceLT, Nat.reduceLeDiff, Nat.reduceSub, Nat.reduceMul, Int.reduceToNat, Int.reduceLT, Int.reduceLE, Int.reduceEq, ml_i0, ↓smc, sm, this]
  rw [List.take_of_length_le hlt] at h1 h2
  exact hq es m _ (Nat.le_refl _) h1 h2
 | cons x t ih =>
  intro j es m Q hd hm h1 h2 hq
  obtain ⟨hg, hd', hlt⟩ := drop_cons hd
  rw [W_L (c := L41_1) rfl]
  have : ((j : Nat) : Int) < (l.length : Int) := by omega
  have wr : wrapF .i64 ((j : Int) + 1) = ((j + 1 : Nat) : Int) := by rw [wr_i64 (by omega) (by omega)]; rfl
  obtain ⟨a, b, ha, hb, ha2, hb2⟩ := gr.e x (List.mem_of_getElem? hg)
  subst hN
  have aN : a < N := by omega
  have bN : b < N := by omega
  have ai : (a : Int) < (N : Int) := ha2
  have bi : (b : Int) < (N : Int) := hb2
  have a0 : (0 : Int) ≤ a := by omega
  have b0 : (0 : Int) ≤ b := by omega
  have an : ((a : Nat) : Int).toNat = a := rfl
  have bn : ((b : Nat) : Int).toNat = b := rfl
  have ga := cnts_get (l := l.take j) aN
  have cb := cntF_bd (l := l.take j) (v := a)
  have hlj : ((l.take j).length : Int) ≤ l.length := by simp; omega
  have w1 : wrapF .i64 (cntF (l.take j) a + 1) = cntF (l.take j) a + 1 := wr_i64 (by omega) (by omega)
  have hb7 := h1.b
  have hl7 := h1.lh
  have hl8 := h2.lh
  let m1 : Mem := m.set h7 (some (.row 1 ((cnts N (l.take (j + 1))).map vi)))
  have ep : (cnts N (l.take j)).set a (cntF (l.take j) a + 1) = cnts N (l.take (j + 1)) := by rw [cnts_push ha aN, take_succ_drop hd]
  have em : m.set h7 (some (.row 1 (((cnts N (l.take j)).map vi).set a (vi (cntF (l.take j) a + 1))))) = m1 := by
   show _ = m.set h7 (some (.row 1 ((cnts N (l.take (j + 1))).map vi)))
   rw [← ep, List.map_set]
  have h1' : IR lo m1 h7 (cnts N (l.take (j + 1))) := h1.set _
  have h2' : NestB lo m1 h8 h7 (bucks Edge.to frV N (l.take j)) es := h2.mono (Nat.le_refl _) (fun k hk _ => set_ne hk) hhq
  have n1 : m1.next = m.next := rfl
  have hbl := buck_len (key := Edge.to) (val := frV) (w := (b : Int)) (p := l.take j) (i := 0)
  obtain ⟨v, v', m2, q1, qc, q2, q3, q4, q5, q6, q7, q8⟩ := h2'.push 14 (m1.next + 11) (by omega) (by omega) (by omega) (by rw [n1]; exact h1.hm) (bucks_get bN) (by omega) (a : Int)
  have hb8 := h2'.bh
  rw [n1] at q2
  clear_value m1
  simp only [↓sxc, sx, se, ↓reduceIte, Nat.reduceEqDiff, Nat.reduceAdd, Nat.reduceLT, Nat.reduceLeDiff, Nat.reduceSub, Nat.reduceMul, Int.reduceToNat, Int.reduceLT, Int.reduceLE, Int.reduceEq, ml_i0, ↓W_dreg, ↓sk, sk, ↓smc, sm, this, hg, ha, hb, ai, bi, a0, b0, an, bn, hb7, hl7, ga, w1, em, hb8, hl8, q1, q2, q3, q4, qc, wr, n1]
  have e8 : (bucks Edge.to frV N (l.take j)).set b (buck Edge.to frV (l.take j) 0 b ++ [(a : Int)]) = bucks Edge.to frV N (l.take (j + 1)) := by
   rw [take_succ_drop hd, ← bucks_push hb bN]
   simp only [frV, ha]
  rw [e8] at q8
  refine ⟨by simp [pairsOk, nth_eq, pk_nest], ?_⟩
  refine ih (j + 1) _ _ Q hd' ?_ (h1'.mono ?_ ?_) q8 (fun es m' e p1 p2 p3 => hq es m' e ?_ p2 p3)
  ·show lo ≤ m2.next; omega
  ·show m1.next ≤ m2.next; omega
  ·rw [set_ne (Ne.symm hhq)]; exact q7
  ·have p1' : m2.next ≤ m'.next := p1
   omega
def zeros (xs : List Int) (j : Nat) : List Int := ((List.range j).filter fun (i : Nat) => decide (xs[i]? = some 0)).map fun (i : Nat) => (i : Int)
theorem zeros_succ {xs : List Int} {j : Nat} {x : Int} (h : xs[j]? = some x) : zeros xs (j + 1) = zeros xs j ++ if x = 0 then [(j : Int)] else [] := by
 unfold zeros
 rw [List.range_succ, List.filter_append, List.map_append]
 by_cases hx : x = 0
 ·subst hx; simp [h]
 ·have : ¬ xs[j]? = some 0 := by rw [h]; simpa using hx
  simp [this, hx]
theorem zeros_len {xs : List Int} {j : Nat} : (zeros xs j).length ≤ j := by
 unfold zeros
 rw [List.length_map]
 exact Nat.le_trans (List.length_filter_le ..) (by simp)
structure Qs (lo : Nat) (m : Mem) (b : Nat) (v : V) (xs : List Int) : Prop where
 rw : Rw lo m 1 v (xs.map vi)
 nb : ∀ k, hOf v = some k → b ≤ k
 bn : b ≤ m.next
theorem Qs.push {lo b : Nat} {m : Mem} {v : V} {xs : List Int} (H : Qs lo m b v xs) (hlo : lo ≤ m.next) (hb : xs.length < 1000000) (x : Int) :
  ∃ v' m', apV lo m.next m 1 v (.lst false 1 [vi x]) = some (v', m') ∧ Qs lo (m'.bump 1) b v' (xs ++ [x]) ∧ m'.next = m.next ∧ ∀ k, k < b → m'.blk k = m.blk k := by
 obtain ⟨v', m', h1, h2, h3, _, h4, h5⟩ := H.rw.app2 (y := .lst false 1 [vi x]) hlo vw_lst (.inl rfl) (by simp [big]; omega)
 refine ⟨v', m', h1, ⟨by rw [List.map_append]; exact h2, fun k hk => ?_, by show b ≤ m'.next + 1; have := H.bn; omega⟩, h3, fun k hk => h4 k (fun l hv => ?_) (by have := H.bn; omega)⟩
 ·rcases h5 with rfl | ⟨l, rfl⟩
  ·cases hk
  ·cases hk; exact H.bn
 ·have := H.nb k (by rw [hv]; rfl)
  omega
theorem Qs.mono {lo b : Nat} {m m' : Mem} {v : V} {xs : List Int} (H : Qs lo m b v xs) (hn : m.next ≤ m'.next) (hb : ∀ k, b ≤ k → k < m.next → m'.blk k = m.blk k) : Qs lo m' b v xs :=
 ⟨H.rw.mono hn (fun k l hk => by
  subst hk
  obtain ⟨_, _, h4, _⟩ := H.rw.hand (k := k) rfl
  exact hb k (H.nb k rfl) h4), H.nb, Nat.le_trans H.bn hn⟩
theorem IR.len {lo h : Nat} {m : Mem} {xs : List Int} (H : IR lo m h xs) : True := trivial
theorem w41_2 {F : Nat → Option Fn} {lo : Nat} {n : Int} (N : Nat) (hN : N ≤ 4096) (h7 b : Nat) (h7b : h7 < b) (u8 u11 : V) (xs : List Int) (hx : xs.length = N) : ∀ (r j : Nat) (v : V) (m : Mem) (Q : Ex → St → Prop), j + r = N → lo ≤ m.next → IR lo m h7 xs → Qs lo m b v (zeros xs j) →
  (∀ v m' e, m.next ≤ m'.next → Qs lo m' b v (zeros xs N) → (∀ k, k < b → m'.blk k = m.blk k) → Q (.exit 2) ⟨(0, vi n) :: (7, .row 1 h7 0 N) :: (8, u8) :: (11, u11) :: (12, v) :: e, [], [], m'⟩) →
  W F lo L41_2 ⟨[(0, vi n), (7, .row 1 h7 0 N), (8, u8), (11, u11), (12, v), (57, .row 1 h7 0 N), (58, vi N), (59, vi j)], [], [], m⟩ Q := by
 intro r
 induction r with
 | zero =>
  intro j v m Q hj hm h1 h2 hq
  rw [W_L (c := L41_2) rfl]
  have : ¬ ((j : Nat) : Int) < (N : Int) := by omega
  simp only [↓sxc, sx, se, ↓reduceIte, Nat.reduceEqDiff, Nat.reduceAdd, Nat.reduceLT, Nat.reduceLeDiff, Nat.reduceSub, Nat.reduceMul, Int.reduceToNat, Int.reduceLT, Int.reduceLE, Int.reduceEq, ml_i0, ↓smc, sm, this]
  exact hq v m _ (Nat.le_refl _) (by rw [← show j = N by omega]; exact h2) (fun _ _ => rfl)
 | succ r ih =>
  intro j v m Q hj hm h1 h2 hq
  rw [W_L (c := L41_2) rfl]
  have : ((j : Nat) : Int) < (N : Int) := by omega
  have wr : wrapF .i64 ((j : Int) + 1) = ((j + 1 : Nat) : Int) := by rw [wr_i64 (by omega) (by omega)]; rfl
  have hg : xs[j]? = some (xs[j]'(by omega)) := List.getElem?_eq_getElem _
  generalize xs[j]'(by omega) = x at hg
  have hb7 := h1.b
  have hzl := zeros_len (xs := xs) (j := j)
  by_cases hx0 : x = 0
  ·obtain ⟨v', m', q1, q2, q3, q4⟩ := h2.push hm (by omega) (j : Int)
   simp only [↓sxc, sx, se, ↓reduceIte, Nat.reduceEqDiff, Nat.reduceAdd, Nat.reduceLT, Nat.reduceLeDiff, Nat.reduceSub, Nat.reduceMul, Int.reduceToNat, Int.reduceLT, Int.reduceLE, Int.reduceEq, ml_i0, ↓smc, sm, this, hb7, hg, hx0, q1, wr]
   refine ih (j + 1) v' _ Q (by omega) (by show lo ≤ m'.next + 1; omega) (h1.mono (by show m.next ≤ m'.next + 1; omega) (q4 h7 h7b)) (by rw [zeros_succ hg, if_pos hx0]; exact q2) (fun v m2 e p1 p2 p3 => hq v m2 e ?_ p2 (fun k hk => by rw [p3 k hk]; exact q4 k hk))
   have : m'.next + 1 ≤ m2.next := p1
   omega
  ·simp only [↓sxc, sx, se, ↓reduceIte, Nat.reduceEqDiff, Nat.reduceAdd, Nat.reduceLT, Nat.reduceLeDiff, Nat.reduceSub, Nat.reduceMul, Int.reduceToNat, Int.reduceLT, Int.reduceLE, Int.reduceEq, ml_i0, ↓smc, sm, this, hb7, hg, hx0, wr]
   exact ih (j + 1) v m Q (by omega) hm h1 (by rw [zeros_succ hg, if_neg hx0, List.append_nil]; exact h2) hq
end Go.Am
namespace Go.Am
open Go
set_option linter.unusedSimpArgs false
set_option linter.unusedVariables false
theorem nodup_le {α : Type} [DecidableEq α] : ∀ {xs ys : List α}, xs.Nodup → (∀ x ∈ xs, x ∈ ys) → xs.length ≤ ys.length
 | [], ys, _, _ => Nat.zero_le _
 | x :: xs, ys, h, hs => by
  rw [List.nodup_cons] at h
  have hx := hs x (by simp)
  have := nodup_le (xs := xs) (ys := ys.erase x) h.2 (fun y hy => (List.mem_erase_of_ne (fun e => h.1 (by rw [← e]; exact hy))).2 (hs y (by simp [hy])))
  rw [List.length_erase_of_mem hx] at this
  have : 0 < ys.length := List.length_pos_of_mem hx
  simp only [List.length_cons]
  omega
def gAt (xs : List Int) (r : Int) : Int := xs.getD r.toNat 0
theorem gAt_get {xs : List Int} {v : Nat} (h : v < xs.length) : xs[v]? = some (gAt xs v) := by
 rw [List.getElem?_eq_getElem h]
 simp [gAt, List.getD, List.getElem?_eq_getElem h]
theorem gAt_set {xs : List Int} {v w : Nat} {x : Int} (h : v < xs.length) : gAt (xs.set v x) w = if w = v then x else gAt xs w := by
 unfold gAt
 simp only [Int.toNat_natCast, List.getD]
 by_cases e : w = v
 ·subst e
  rw [List.getElem?_set_self h, if_pos rfl]; rfl
 ·rw [List.getElem?_set_ne (Ne.symm e), if_neg e]
structure LevEq (N : Nat) (l : List Edge) (f : List Int) : Prop where
 ln : f.length = N
 nn : ∀ v, v < N → 0 ≤ gAt f v
 ge : ∀ e ∈ l, gAt f e.to + 1 ≤ gAt f e.fr
 wit : ∀ v, v < N → gAt f v = 0 ∨ ∃ e ∈ l, e.fr = (v : Int) ∧ gAt f v = gAt f e.to + 1
theorem LevEq.uniq {n : Int} {N : Nat} {l : List Edge} (gr : Gr n l) (hN : n = N) {f g : List Int} (hf : LevEq N l f) (hg : LevEq N l g) : f = g := by
 have key : ∀ (k : Nat) (v : Nat), v < N → gAt f v < k → gAt f v = gAt g v := by
  intro k
  induction k with
  | zero => intro v hv h; have := hf.nn v hv; omega
  | succ k ih =>
   intro v hv h
   have le : ∀ e ∈ l, e.fr = (v : Int) → gAt f e.to = gAt g e.to := fun e he hfr => by
    obtain ⟨a, b, h1, h2, h3, h4⟩ := gr.e e he
    have h5 := hf.ge e he
    rw [hfr] at h5
    rw [h2] at h5 ⊢
    exact ih b (by omega) (by omega)
   rcases hf.wit v hv with h0 | ⟨e, he, hfr, hw⟩
   ·rcases hg.wit v hv with h1 | ⟨e, he, hfr, hw⟩
    ·omega
    ·have h2 := hf.ge e he
     obtain ⟨a, b, q1, q2, q3, q4⟩ := gr.e e he
     have h3 := hf.nn b (by omega)
     rw [hfr, q2] at h2
     omega
   ·have h1 := hg.ge e he
    rw [hfr, ← le e he hfr] at h1
    rcases hg.wit v hv with h2 | ⟨e', he', hfr', hw'⟩
    ·obtain ⟨a, b, q1, q2, q3, q4⟩ := gr.e e he
     have h3 := hf.nn b (by omega)
     rw [q2] at hw h1
     omega
    ·have h2 := hf.ge e' he'
     rw [hfr', le e' he' hfr'] at h2
     omega
 refine List.ext_getElem? fun v => ?_
 by_cases hv : v < N
 ·rw [gAt_get (by rw [hf.ln]; exact hv), gAt_get (by rw [hg.ln]; exact hv), key ((gAt f v).toNat + 1) v hv (by omega)]
 ·rw [List.getElem?_eq_none (by rw [hf.ln]; omega), List.getElem?_eq_none (by rw [hg.ln]; omega)]
def rest (l : List Edge) (P : List Int) (v : Nat) : Nat := l.countP fun e => decide (e.fr = (v : Int)) && !decide (e.to ∈ P)
theorem rest_nil {l : List Edge} {v : Nat} : (rest l [] v : Int) = cntF l v := by
 unfold rest cntF
 congr 1
 exact List.countP_congr (fun e _ => by simp)
theorem buck_count {P : List Int} {u : Int} {v : Nat} (hu : u ∉ P) : ∀ {l : List Edge} {i : Nat}, rest l P v = rest l (P ++ [u]) v + (buck Edge.to frV l i u).count (v : Int)
 | [], i => by simp [rest, buck]
 | e :: l, i => by
  have ih := buck_count (P := P) (u := u) (v := v) hu (l := l) (i := i + 1)
  unfold rest at ih ⊢
  rw [List.countP_cons, List.countP_cons, ih, buck, List.count_append]
  by_cases h1 : e.to = u
  ·rw [if_pos h1]
   by_cases h2 : e.fr = (v : Int)
   ·have h3 : ¬ e.to ∈ P := by rw [h1]; exact hu
    simp [h1, h2, frV, hu]
    omega
   ·simp [h2, frV, List.count_cons]
  ·rw [if_neg h1]
   by_cases h2 : e.to ∈ P
   ·simp [h2]
   ·simp [h1, h2]
    split <;> omega
theorem mem_inL {l : List Edge} {u x : Int} : ∀ {i : Nat}, x ∈ buck Edge.to frV l i u → ∃ e ∈ l, e.fr = x ∧ e.to = u := by
 induction l with
 | nil => intro i h; simp [buck] at h
 | cons e l ih =>
  intro i h
  rw [buck, List.mem_append] at h
  rcases h with h | h
  ·split at h
   ·rename_i h1
    simp [frV] at h
    exact ⟨e, by simp, h.symm, h1⟩
   ·simp at h
  ·obtain ⟨e', h1, h2⟩ := ih h
   exact ⟨e', by simp [h1], h2⟩
theorem inL_mem {l : List Edge} {e : Edge} : ∀ {i : Nat}, e ∈ l → e.fr ∈ buck Edge.to frV l i e.to := by
 induction l with
 | nil => intro i h; simp at h
 | cons d l ih =>
  intro i h
  rw [buck, List.mem_append]
  rcases List.mem_cons.1 h with rfl | h
  ·exact .inl (by simp [frV])
  ·exact .inr (ih h)
structure KI (N : Nat) (l : List Edge) (lf lv qs : List Int) (d : Nat) : Prop where
 lfl : lf.length = N
 lvl : lv.length = N
 dq : d ≤ qs.length
 nd : qs.Nodup
 rg : ∀ x ∈ qs, ∃ v : Nat, x = v ∧ v < N
 left : ∀ v, v < N → gAt lf v = rest l (qs.take d) v
 zero : ∀ v : Nat, v < N → ((v : Int) ∈ qs ↔ gAt lf v = 0)
 ge : ∀ e ∈ l, e.to ∈ qs.take d → gAt lv e.to + 1 ≤ gAt lv e.fr
 wit : ∀ v, v < N → gAt lv v = 0 ∨ ∃ e ∈ l, e.fr = (v : Int) ∧ e.to ∈ qs.take d ∧ gAt lv v = gAt lv e.to + 1
 bd : ∀ v, v < N → 0 ≤ gAt lv v ∧ gAt lv v ≤ d
structure KJ (N : Nat) (l : List Edge) (lf lv qs : List Int) (d : Nat) (u : Nat) (t : List Int) : Prop where
 lfl : lf.length = N
 lvl : lv.length = N
 uq : qs[d]? = some (u : Int)
 uN : u < N
 nd : qs.Nodup
 rg : ∀ x ∈ qs, ∃ v : Nat, x = v ∧ v < N
 tr : ∀ x ∈ t, ∃ v : Nat, x = v ∧ v < N ∧ ∃ e ∈ l, e.fr = x ∧ e.to = (u : Int)
 left : ∀ v, v < N → gAt lf v = rest l (qs.take d ++ [(u : Int)]) v + t.count (v : Int)
 zero : ∀ v : Nat, v < N → ((v : Int) ∈ qs ↔ gAt lf v = 0)
 ge : ∀ e ∈ l, e.to ∈ qs.take d → gAt lv e.to + 1 ≤ gAt lv e.fr
 gu : ∀ e ∈ l, e.to = (u : Int) → e.fr ∈ t ∨ gAt lv e.to + 1 ≤ gAt lv e.fr
 wit : ∀ v, v < N → gAt lv v = 0 ∨ ∃ e ∈ l, e.fr = (v : Int) ∧ (e.to ∈ qs.take d ∨ e.to = (u : Int)) ∧ gAt lv v = gAt lv e.to + 1
 bd : ∀ v, v < N → 0 ≤ gAt lv v ∧ gAt lv v ≤ d + 1
 bu : gAt lv u ≤ d
theorem nodup_take_get {qs : List Int} {d : Nat} {x : Int} (h : qs.Nodup) (hd : qs[d]? = some x) : x ∉ qs.take d := by
 intro hm
 obtain ⟨i, hi, e⟩ := List.getElem_of_mem hm
 have hdl := (List.getElem?_eq_some_iff.1 hd).1
 have hil : i < d := by simp at hi; omega
 have e1 : qs[i]? = some x := by
  rw [List.getElem_take] at e
  rw [List.getElem?_eq_getElem (by omega), e]
 have e2 := List.pairwise_iff_getElem.1 h i d (by omega) hdl hil
 rw [List.getElem?_eq_getElem (by omega)] at e1
 rw [List.getElem?_eq_getElem hdl] at hd
 rw [Option.some.inj e1, Option.some.inj hd] at e2
 exact e2 rfl
theorem KI.start {N : Nat} {n : Int} {l : List Edge} (gr : Gr n l) (hN : n = N) : KI N l (cnts N l) (List.replicate N 0) (zeros (cnts N l) N) 0 := by
 have hc : ∀ v, v < N → gAt (cnts N l) v = cntF l v := fun v hv => by
  have h1 := gAt_get (xs := cnts N l) (v := v) (by simp [cnts]; exact hv)
  rw [cnts_get hv] at h1
  exact (Option.some.inj h1).symm
 have hz : ∀ v : Nat, gAt (List.replicate N 0) v = 0 := fun v => by
  unfold gAt
  rw [Int.toNat_natCast, List.getD]
  by_cases h : v < N
  ·rw [List.getElem?_replicate_of_lt h]; rfl
  ·rw [List.getElem?_eq_none (by simp; omega)]; rfl
 refine ⟨by simp [cnts], by simp, Nat.zero_le _, ?_, fun x hx => ?_, fun v hv => ?_, fun v hv => ?_, fun e he h => by simp at h, fun v hv => .inl (hz v), fun v hv => by rw [hz v]; simp⟩
 ·unfold zeros
  refine List.Pairwise.map _ (fun a b h => ?_) (List.Pairwise.filter _ List.nodup_range)
  omega
 ·simp only [zeros, List.mem_map, List.mem_filter, List.mem_range] at hx
  obtain ⟨v, ⟨h1, _⟩, rfl⟩ := hx
  exact ⟨v, rfl, h1⟩
 ·rw [hc v hv, List.take_zero, rest_nil]
 ·rw [hc v hv]
  constructor
  ·intro h
   simp only [zeros, List.mem_map, List.mem_filter, List.mem_range, decide_eq_true_eq] at h
   obtain ⟨w, ⟨h1, h2⟩, h3⟩ := h
   have : w = v := by omega
   subst this
   rw [cnts_get h1] at h2
   exact Option.some.inj h2
  ·intro h
   refine List.mem_map.2 ⟨v, List.mem_filter.2 ⟨List.mem_range.2 hv, ?_⟩, rfl⟩
   rw [decide_eq_true_eq, cnts_get hv, h]
theorem KI.enter {N : Nat} {n : Int} {l : List Edge} (gr : Gr n l) (hN : n = N) {lf lv qs : List Int} {d : Nat} (H : KI N l lf lv qs d) {u : Nat} (hu : qs[d]? = some (u : Int)) : KJ N l lf lv qs d u (buck Edge.to frV l 0 u) := by
 have hm := List.mem_of_getElem? hu
 obtain ⟨v, hv, hvN⟩ := H.rg _ hm
 have : v = u := by omega
 subst this
 refine ⟨H.lfl, H.lvl, hu, hvN, H.nd, H.rg, fun x hx => ?_, fun w hw => ?_, H.zero, H.ge, fun e he h => .inl (by rw [← h]; exact inL_mem he), fun w hw => ?_, fun w hw => ?_, (H.bd v hvN).2⟩
 ·obtain ⟨e, he, h1, h2⟩ := mem_inL hx
  obtain ⟨a, b, q1, q2, q3, q4⟩ := gr.e e he
  exact ⟨a, by omega, by omega, e, he, h1, h2⟩
 ·rw [H.left w hw, buck_count (nodup_take_get H.nd hu) (i := 0)]
  push_cast
  rfl
 ·rcases H.wit w hw with h | ⟨e, h1, h2, h3, h4⟩
  ·exact .inl h
  ·exact .inr ⟨e, h1, h2, .inl h3, h4⟩
 ·have := H.bd w hw
  omega
theorem KJ.leave {N : Nat} {l : List Edge} {lf lv qs : List Int} {d u : Nat} (H : KJ N l lf lv qs d u []) : KI N l lf lv qs (d + 1) := by
 have ht : qs.take (d + 1) = qs.take d ++ [(u : Int)] := by rw [List.take_add_one, H.uq]; rfl
 have hd := (List.getElem?_eq_some_iff.1 H.uq).1
 refine ⟨H.lfl, H.lvl, hd, H.nd, H.rg, fun v hv => ?_, H.zero, fun e he h => ?_, fun v hv => ?_, fun v hv => by have := H.bd v hv; push_cast; omega⟩
 ·rw [ht, H.left v hv]
  simp
 ·rw [ht] at h
  rcases List.mem_append.1 h with h | h
  ·exact H.ge e he h
  ·rcases H.gu e he (by simpa using h) with h' | h'
   ·simp at h'
   ·exact h'
 ·rcases H.wit v hv with h | ⟨e, h1, h2, h3, h4⟩
  ·exact .inl h
  ·refine .inr ⟨e, h1, h2, ?_, h4⟩
   rw [ht, List.mem_append]
   rcases h3 with h3 | h3
   ·exact .inl h3
   ·exact .inr (by simp [h3])
theorem KJ.step {N : Nat} {l : List Edge} {lf lv qs : List Int} {d u x : Nat} {t : List Int} (H : KJ N l lf lv qs d u ((x : Int) :: t)) :
  x < N ∧ 1 ≤ gAt lf x ∧ ((x : Int) ∉ qs) ∧
  KJ N l (lf.set x (gAt lf x - 1)) (lv.set x (max (gAt lv x) (gAt lv u + 1))) (if gAt lf x - 1 = 0 then qs ++ [(x : Int)] else qs) d u t := by
 obtain ⟨w, hw, hxN, e0, he0, hf0, ht0⟩ := H.tr x (by simp)
 have : w = x := by omega
 subst this
 have hl := H.left w hxN
 rw [List.count_cons_self] at hl
 have h1 : 1 ≤ gAt lf w := by omega
 have hnq : (w : Int) ∉ qs := fun h => by have := (H.zero w hxN).1 h; omega
 have huq := List.mem_of_getElem? H.uq
 have huw : u ≠ w := fun h => hnq (by rw [← h]; exact huq)
 have hdl := (List.getElem?_eq_some_iff.1 H.uq).1
 have lfw : ∀ v : Nat, gAt (lf.set w (gAt lf w - 1)) v = if v = w then gAt lf w - 1 else gAt lf v := fun v => gAt_set (by rw [H.lfl]; exact hxN)
 have lvw : ∀ v : Nat, gAt (lv.set w (max (gAt lv w) (gAt lv u + 1))) v = if v = w then max (gAt lv w) (gAt lv u + 1) else gAt lv v := fun v => gAt_set (by rw [H.lvl]; exact hxN)
 have lvq : ∀ y ∈ qs, gAt (lv.set w (max (gAt lv w) (gAt lv u + 1))) y = gAt lv y := fun y hy => by
  obtain ⟨v, rfl, _⟩ := H.rg y hy
  rw [lvw, if_neg (fun h => hnq (by rw [← h]; exact hy))]
 have lvge : ∀ y : Nat, gAt lv y ≤ gAt (lv.set w (max (gAt lv w) (gAt lv u + 1))) y := fun y => by
  rw [lvw]
  split
  ·rename_i h; rw [h]; omega
  ·omega
 have htk : (if gAt lf w - 1 = 0 then qs ++ [(w : Int)] else qs).take d = qs.take d := by
  split
  ·rw [List.take_append_of_le_length (by omega)]
  ·rfl
 have hsub : ∀ y ∈ qs.take d, y ∈ qs := fun y hy => List.mem_of_mem_take hy
 refine ⟨hxN, h1, hnq, ⟨by simp [H.lfl], by simp [H.lvl], ?_, H.uN, ?_, ?_, fun y hy => H.tr y (by simp [hy]), fun v hv => ?_, fun v hv => ?_, fun e he h => ?_, fun e he h => ?_, fun v hv => ?_, fun v hv => ?_, ?_⟩⟩
 ·split
  ·rw [List.getElem?_append_left hdl]; exact H.uq
  ·exact H.uq
 ·split
  ·rw [List.nodup_append]
   exact ⟨H.nd, by simp, fun a ha b hb e => hnq (by simp at hb; rw [← hb, ← e]; exact ha)⟩
  ·exact H.nd
 ·intro y hy
  split at hy
  ·rcases List.mem_append.1 hy with hy | hy
   ·exact H.rg y hy
   ·exact ⟨w, by simpa using hy, hxN⟩
  ·exact H.rg y hy
 ·rw [htk, lfw]
  have hl2 := H.left v hv
  by_cases hvw : v = w
  ·subst hvw
   rw [if_pos rfl]
   omega
  ·rw [if_neg hvw]
   rw [List.count_cons_of_ne (by omega)] at hl2
   exact hl2
 ·rw [lfw]
  by_cases hvw : v = w
  ·subst hvw
   rw [if_pos rfl]
   constructor
   ·intro h
    split at h
    ·assumption
    ·exact absurd h hnq
   ·intro h
    rw [if_pos h]
    simp
  ·rw [if_neg hvw, ← H.zero v hv]
   split
   ·constructor
    ·intro h
     rcases List.mem_append.1 h with h | h
     ·exact h
     ·simp at h; omega
    ·intro h; exact List.mem_append_left _ h
   ·exact Iff.rfl
 ·rw [htk] at h
  have h2 := H.ge e he h
  rw [lvq _ (hsub _ h)]
  by_cases hfr : ∃ y : Nat, e.fr = y
  ·obtain ⟨y, hy⟩ := hfr
   rw [hy] at h2 ⊢
   have := lvge y
   omega
  ·have : gAt (lv.set w (max (gAt lv w) (gAt lv u + 1))) e.fr = gAt (lv.set w (max (gAt lv w) (gAt lv u + 1))) (e.fr.toNat : Nat) := rfl
   have e1 : gAt lv e.fr = gAt lv (e.fr.toNat : Nat) := rfl
   have := lvge e.fr.toNat
   omega
 ·have hfr : gAt (lv.set w (max (gAt lv w) (gAt lv u + 1))) e.fr = gAt (lv.set w (max (gAt lv w) (gAt lv u + 1))) (e.fr.toNat : Nat) := rfl
  have e1 : gAt lv e.fr = gAt lv (e.fr.toNat : Nat) := rfl
  have h2 := lvge e.fr.toNat
  have hto := lvq _ huq
  rw [h, hto]
  rcases H.gu e he h with h3 | h3
  ·rcases List.mem_cons.1 h3 with h3 | h3
   ·right
    rw [h3, lvw, if_pos rfl]
    omega
   ·exact .inl h3
  ·rw [h] at h3
   right
   omega
 ·rw [htk]
  have wq : ∀ e : Edge, (e.to ∈ qs.take d ∨ e.to = (u : Int)) → e.to ∈ qs := fun e h => by
   rcases h with h | h
   ·exact hsub _ h
   ·rw [h]; exact huq
  rw [lvw]
  by_cases hvw : v = w
  ·subst hvw
   rw [if_pos rfl]
   by_cases hm : gAt lv u + 1 ≤ gAt lv v
   ·rcases H.wit v hv with h | ⟨e, q1, q2, q3, q4⟩
    ·exact .inl (by omega)
    ·exact .inr ⟨e, q1, q2, q3, by have := lvq _ (wq e q3); omega⟩
   ·refine .inr ⟨e0, he0, hf0, .inr ht0, ?_⟩
    rw [ht0, lvq _ huq]
    omega
  ·rw [if_neg hvw]
   rcases H.wit v hv with h | ⟨e, q1, q2, q3, q4⟩
   ·exact .inl h
   ·exact .inr ⟨e, q1, q2, q3, by rw [lvq _ (wq e q3)]; exact q4⟩
 ·rw [lvw]
  have b1 := H.bd v hv
  have b2 := H.bu
  split
  ·rename_i h
   subst h
   omega
  ·exact b1
 ·rw [lvq _ huq]
  exact H.bu
theorem KI.len {N : Nat} {l : List Edge} {lf lv qs : List Int} {d : Nat} (H : KI N l lf lv qs d) : qs.length ≤ N := by
 have := nodup_le (xs := qs) (ys := (List.range N).map fun (i : Nat) => (i : Int)) H.nd (fun x hx => by
  obtain ⟨v, rfl, hv⟩ := H.rg x hx
  exact List.mem_map.2 ⟨v, List.mem_range.2 hv, rfl⟩)
 simpa using this
theorem KJ.len {N : Nat} {l : List Edge} {lf lv qs : List Int} {d u : Nat} {t : List Int} (H : KJ N l lf lv qs d u t) : qs.length ≤ N := by
 have := nodup_le (xs := qs) (ys := (List.range N).map fun (i : Nat) => (i : Int)) H.nd (fun x hx => by
  obtain ⟨v, rfl, hv⟩ := H.rg x hx
  exact List.mem_map.2 ⟨v, List.mem_range.2 hv, rfl⟩)
 simpa using this
theorem KI.full {N : Nat} {n : Int} {l : List Edge} (gr : Gr n l) (hN : n = N) {lf lv qs : List Int} {d : Nat} (H : KI N l lf lv qs d) (hd : qs.length ≤ d) (hdN : N ≤ d) : LevEq N l lv := by
 have all : ∀ v : Nat, v < N → (v : Int) ∈ qs := fun v hv => by
  refine Classical.byContradiction fun hn => ?_
  have := nodup_le (xs := (v : Int) :: qs) (ys := (List.range N).map fun (i : Nat) => (i : Int)) (List.nodup_cons.2 ⟨hn, H.nd⟩) (fun x hx => by
   rcases List.mem_cons.1 hx with rfl | hx
   ·exact List.mem_map.2 ⟨v, List.mem_range.2 hv, rfl⟩
   ·obtain ⟨w, rfl, hw⟩ := H.rg x hx
    exact List.mem_map.2 ⟨w, List.mem_range.2 hw, rfl⟩)
  have h2 := H.dq
  simp at this
  omega
 have ht : qs.take d = qs := List.take_of_length_le hd
 refine ⟨H.lvl, fun v hv => (H.bd v hv).1, fun e he => ?_, fun v hv => ?_⟩
 ·obtain ⟨a, b, h1, h2, h3, h4⟩ := gr.e e he
  refine H.ge e he ?_
  rw [ht, h2]
  exact all b (by omega)
 ·rcases H.wit v hv with h | ⟨e, q1, q2, q3, q4⟩
  ·exact .inl h
  ·exact .inr ⟨e, q1, q2, q4⟩
theorem KI.stuck {N : Nat} {n : Int} {l : List Edge} (gr : Gr n l) (hN : n = N) {lf lv qs : List Int} {d : Nat} (H : KI N l lf lv qs d) (hd : qs.length ≤ d) (hdN : d < N) : ¬ ∃ f, LevEq N l f := by
 rintro ⟨f, hf⟩
 have ht : qs.take d = qs := List.take_of_length_le hd
 have ex : ∃ v : Nat, v < N ∧ (v : Int) ∉ qs := by
  refine Classical.byContradiction fun hn => ?_
  have hall : ∀ v : Nat, v < N → (v : Int) ∈ qs := fun v hv => Classical.byContradiction fun h => hn ⟨v, hv, h⟩
  have := nodup_le (xs := (List.range N).map fun (i : Nat) => (i : Int)) (ys := qs) (List.Pairwise.map _ (fun a b h => by omega) List.nodup_range) (fun x hx => by
   obtain ⟨v, hv, rfl⟩ := List.mem_map.1 hx
   exact hall v (List.mem_range.1 hv))
  simp at this
  omega
 have grow : ∀ (k : Nat) (v : Nat), v < N → (v : Int) ∉ qs → (k : Int) ≤ gAt f v := by
  intro k
  induction k with
  | zero => intro v hv _; exact hf.nn v hv
  | succ k ih =>
   intro v hv hq
   have h1 : gAt lf v ≠ 0 := fun h => hq ((H.zero v hv).2 h)
   rw [H.left v hv, ht] at h1
   have h2 : 0 < rest l qs v := by omega
   obtain ⟨e, he, h3⟩ := List.countP_pos_iff.1 h2
   simp only [Bool.and_eq_true, decide_eq_true_eq, Bool.not_eq_true', decide_eq_false_iff_not] at h3
   obtain ⟨a, b, q1, q2, q3, q4⟩ := gr.e e he
   have h4 := hf.ge e he
   have h5 := ih b (by omega) (by rw [← q2]; exact h3.2)
   rw [h3.1, q2] at h4
   push_cast
   omega
 obtain ⟨v, hv, hq⟩ := ex
 have := grow ((gAt f v).toNat + 1) v hv hq
 have := hf.nn v hv
 omega
open Classical in
noncomputable def levE (n : Int) (l : List Edge) : List Int × Int :=
 if chkG n l ≠ 0 then ([], chkG n l) else if h : ∃ f, LevEq n.toNat l f then (Classical.choose h, 0) else ([], 10)
theorem levE_bad {n : Int} {l : List Edge} (h : chkG n l ≠ 0) : levE n l = ([], chkG n l) := by unfold levE; rw [if_pos h]
theorem levE_ok {n : Int} {N : Nat} {l : List Edge} (h : chkG n l = 0) (hN : n = N) {f : List Int} (hf : LevEq N l f) : levE n l = (f, 0) := by
 have hN' : n.toNat = N := by omega
 subst hN'
 have ex : ∃ f, LevEq n.toNat l f := ⟨f, hf⟩
 have hc := Classical.choose_spec ex
 unfold levE
 rw [if_neg (by simpa using h), dif_pos ex, LevEq.uniq (gr_of h) hN hf hc]
theorem levE_no {n : Int} {N : Nat} {l : List Edge} (h : chkG n l = 0) (hN : n = N) (hf : ¬ ∃ f, LevEq N l f) : levE n l = ([], 10) := by
 have hN' : n.toNat = N := by omega
 unfold levE
 rw [if_neg (by simpa using h), dif_neg (by rw [hN']; exact hf)]
end Go.Am
namespace Go.Am
open Go
set_option linter.unusedSimpArgs false
set_option linter.unusedVariables false
set_option maxRecDepth 100000
theorem Qs.row {lo b : Nat} {m : Mem} {v : V} {xs : List Int} (H : Qs lo m b v xs) (h : xs ≠ []) : ∃ k, v = .row 1 k 0 xs.length ∧ lo ≤ k ∧ b ≤ k ∧ k < m.next ∧ m.blk k = some (.row 1 (xs.map vi)) := by
 rcases H.rw with ⟨_, h2⟩ | ⟨k, h1, h2, h3, h4⟩
 ·simp at h2; exact absurd h2 h
 ·refine ⟨k, by rw [h1]; simp, h2, ?_, h3, h4⟩
  exact H.nb k (by rw [h1]; rfl)
theorem w41_3 {F : Nat → Option Fn} {lo : Nat} {n : Int} (N : Nat) (hN : N ≤ 4096) (l : List Edge) (hl : l.length < 100000) (h7 h8 h11 b k83 : Nat) (hb7 : h7 < b) (hb11 : h11 < b) (hbk : k83 < b) (hk7 : k83 ≠ h7) (hk11 : k83 ≠ h11) (h711 : h7 ≠ h11) (L : List Int) (hL : L.length < 100000) (d u : Nat) (hd4 : d < N) :
  ∀ (t : List Int) (i : Nat) (lf lv qs : List Int) (v : V) (m : Mem) (Q : Ex → St → Prop), L.drop i = t → lo ≤ m.next → IR lo m h7 lf → IR lo m h11 lv → Qs lo m b v qs → m.blk k83 = some (.row 1 (L.map vi)) → KJ N l lf lv qs d u t →
  (∀ lf lv qs v m' e, m.next ≤ m'.next → IR lo m' h7 lf → IR lo m' h11 lv → Qs lo m' b v qs → KJ N l lf lv qs d u [] → (∀ k, k < b → k ≠ h7 → k ≠ h11 → m'.blk k = m.blk k) →
   Q (.exit 6) ⟨(0, vi n) :: (7, .row 1 h7 0 N) :: (8, .row 1 h8 0 N) :: (11, .row 1 h11 0 N) :: (12, v) :: (15, vi d) :: e, [], [], m'⟩) →
  W F lo L41_3 ⟨[(0, vi n), (7, .row 1 h7 0 N), (8, .row 1 h8 0 N), (11, .row 1 h11 0 N), (12, v), (15, vi d), (83, .row 1 k83 0 L.length), (84, vi L.length), (85, vi i)], [], [], m⟩ Q := by
 intro t
 induction t with
 | nil =>
  intro i lf lv qs v m Q hd hm r7 r11 hq hk hJ hQ
  have hlt := drop_nil hd
  rw [W_L (c := L41_3) rfl]
  have : ¬ ((i : Nat) : Int) < (L.length : Int) := by omega
  simp only [↓sxc, sx, se, ↓reduceIte, Nat.reduceEqDiff, Nat.reduceAdd, Nat.reduceLT, Nat.reduceLeDiff, Nat.reduceSub, Nat.reduceMul, Int.reduceToNat, Int.reduceLT, Int.reduceLE, Int.reduceEq, ml_i0, ↓smc, sm, this]
  exact hQ lf lv qs v m _ (Nat.le_refl _) r7 r11 hq hJ (fun _ _ _ _ => rfl)
 | cons x t ih =>
  intro i lf lv qs v m Q hd hm r7 r11 hq hk hJ hQ
  obtain ⟨hg, hd', hlt⟩ := drop_cons hd
  obtain ⟨w, rfl, hwN, _⟩ := hJ.tr x (by simp)
  obtain ⟨_, g1, g2, hJ'⟩ := hJ.step
  rw [W_L (c := L41_3) rfl]
  have : ((i : Nat) : Int) < (L.length : Int) := by omega
  have wr : wrapF .i64 ((i : Int) + 1) = ((i + 1 : Nat) : Int) := by rw [wr_i64 (by omega) (by omega)]; rfl
  have hdq := (List.getElem?_eq_some_iff.1 hJ.uq).1
  have hne : qs ≠ [] := by intro h; rw [h] at hdq; simp at hdq
  obtain ⟨kq, rfl, q1, q2, q3, q4⟩ := hq.row hne
  have uN := hJ.uN
  have c1 : ((w : Nat) : Int) < N := by omega
  have c2 : ((d : Nat) : Int) < (qs.length : Int) := by omega
  have c3 : ((u : Nat) : Int) < N := by omega
  have c4 : (0 : Int) ≤ w := by omega
  have c5 : (0 : Int) ≤ d := by omega
  have c6 : (0 : Int) ≤ u := by omega
  have d1 : ((w : Nat) : Int).toNat = w := rfl
  have d2 : ((d : Nat) : Int).toNat = d := rfl
  have d3 : ((u : Nat) : Int).toNat = u := rfl
  have e1 := gAt_get (xs := lv) (v := w) (by rw [hJ.lvl]; exact hwN)
  have e2 := gAt_get (xs := lv) (v := u) (by rw [hJ.lvl]; exact uN)
  have e3 := gAt_get (xs := lf) (v := w) (by rw [hJ.lfl]; exact hwN)
  have b1 := hJ.bd w hwN
  have b2 := hJ.bu
  have b3 := (hJ.bd u uN).1
  have b4 := hJ'.left w hwN
  have uq := hJ.uq
  have fl : gAt lf w ≤ 100000 + L.length := by
   have h1 := hJ.left w hwN
   have h2 := List.countP_le_length (p := fun e : Edge => decide (e.fr = (w : Int)) && !decide (e.to ∈ qs.take d ++ [(u : Int)])) (l := l)
   have h3 := List.count_le_length (a := (w : Int)) (l := (w : Int) :: t)
   have h4 : ((w : Int) :: t).length ≤ L.length := by rw [← hd]; simp
   unfold rest at h1
   omega
  have w1 : wrapF .i64 (gAt lv u + 1) = gAt lv u + 1 := wr_i64 (by omega) (by omega)
  have w2 : wrapF .i64 (gAt lf w - 1) = gAt lf w - 1 := wr_i64 (by omega) (by omega)
  have B7 := r7.b
  have B11 := r11.b
  have L7 := r7.lh
  have L11 := r11.lh
  let m1 : Mem := (m.bump 17).set h11 (some (.row 1 ((lv.set w (max (gAt lv w) (gAt lv u + 1))).map vi)))
  have em1 : (m.bump 17).set h11 (some (.row 1 ((lv.map vi).set w (vi (max (gAt lv w) (gAt lv u + 1)))))) = m1 := by
   show _ = (m.bump 17).set h11 (some (.row 1 ((lv.set w (max (gAt lv w) (gAt lv u + 1))).map vi)))
   rw [List.map_set]
  have bn : (m.bump 17).next = m.next + 17 := rfl
  have r11b : IR lo (m.bump 17) h11 lv := r11.mono (by omega) rfl
  have r11' : IR lo m1 h11 (lv.set w (max (gAt lv w) (gAt lv u + 1))) := r11b.set _
  have r7' : IR lo m1 h7 lf := r7.mono (Nat.le_add_right _ _) (set_ne h711)
  have hq' : Qs lo m1 b (.row 1 kq 0 qs.length) qs := hq.mono (Nat.le_add_right _ _) (fun k hk _ => set_ne (by omega))
  have hk' : m1.blk k83 = some (.row 1 (L.map vi)) := by rw [← hk]; exact set_ne hk11
  have fr1 : ∀ k, k < b → k ≠ h7 → k ≠ h11 → m1.blk k = m.blk k := fun k _ _ h => set_ne h
  have n1 : m1.next = m.next + 17 := rfl
  clear_value m1
  let m2 : Mem := m1.set h7 (some (.row 1 ((lf.set w (gAt lf w - 1)).map vi)))
  have em2 : m1.set h7 (some (.row 1 ((lf.map vi).set w (vi (gAt lf w - 1))))) = m2 := by
   show _ = m1.set h7 (some (.row 1 ((lf.set w (gAt lf w - 1)).map vi)))
   rw [List.map_set]
  have r7'' : IR lo m2 h7 (lf.set w (gAt lf w - 1)) := r7'.set _
  have r11'' : IR lo m2 h11 (lv.set w (max (gAt lv w) (gAt lv u + 1))) := r11'.mono (Nat.le_refl _) (set_ne (Ne.symm h711))
  have hq'' : Qs lo m2 b (.row 1 kq 0 qs.length) qs := hq'.mono (Nat.le_refl _) (fun k hk _ => set_ne (by omega))
  have hk'' : m2.blk k83 = some (.row 1 (L.map vi)) := by rw [← hk']; exact set_ne hk7
  have fr2 : ∀ k, k < b → k ≠ h7 → k ≠ h11 → m2.blk k = m.blk k := fun k h1 h2 h3 => by rw [← fr1 k h1 h2 h3]; exact set_ne h2
  have n2 : m2.next = m.next + 17 := n1
  have B7' := r7'.b
  have B7'' := r7''.b
  clear_value m2
  have e5 : (lf.set w (gAt lf w - 1))[w]? = some (gAt lf w - 1) := List.getElem?_set_self (by rw [hJ.lfl]; exact hwN)
  by_cases hz : gAt lf w - 1 = 0
  ·rw [if_pos hz] at hJ'
   obtain ⟨v', m3, a1, a2, a3, a4⟩ := hq''.push (by omega) (by have := hJ.len; omega) (w : Int)
   have e5z : (lf.set w (gAt lf w - 1))[w]? = some 0 := by rw [e5, hz]
   simp only [↓sxc, sx, se, ↓reduceIte, Nat.reduceEqDiff, Nat.reduceAdd, Nat.reduceLT, Nat.reduceLeDiff, Nat.reduceSub, Nat.reduceMul, Int.reduceToNat, Int.reduceLT, Int.reduceLE, Int.reduceEq, ml_i0, ↓smc, sm, this, hk, hg, c1, c2, c3, c4, c5, c6, d1, d2, d3, B11, L11, e1, q4, uq, e2, w1, em1, B7', L7, e3, w2, em2, B7'', e5z, a1, wr]
   refine ih (i + 1) _ _ _ v' (m3.bump 1) Q hd' ?_ (r7''.mono ?_ (a4 h7 hb7)) (r11''.mono ?_ (a4 h11 hb11)) a2 ?_ hJ' (fun lf lv qs v m' e p1 p2 p3 p4 p5 p6 => hQ lf lv qs v m' e ?_ p2 p3 p4 p5 (fun k k1 k2 k3 => by rw [p6 k k1 k2 k3, ← fr2 k k1 k2 k3]; exact a4 k k1))
   ·show lo ≤ m3.next + 1; omega
   ·show m2.next ≤ m3.next + 1; omega
   ·show m2.next ≤ m3.next + 1; omega
   ·rw [← hk'']; exact a4 k83 hbk
   ·have p1' : m3.next + 1 ≤ m'.next := p1
    omega
  ·rw [if_neg hz] at hJ'
   simp only [↓sxc, sx, se, ↓reduceIte, Nat.reduceEqDiff, Nat.reduceAdd, Nat.reduceLT, Nat.reduceLeDiff, Nat.reduceSub, Nat.reduceMul, Int.reduceToNat, Int.reduceLT, Int.reduceLE, Int.reduceEq, ml_i0, ↓smc, sm, this, hk, hg, c1, c2, c3, c4, c5, c6, d1, d2, d3, B11, L11, e1, q4, uq, e2, w1, em1, B7', L7, e3, w2, em2, B7'', e5, hz, wr]
   refine ih (i + 1) _ _ _ _ _ Q hd' (by omega) r7'' r11'' hq'' hk'' hJ' (fun lf lv qs v m' e p1 p2 p3 p4 p5 p6 => hQ lf lv qs v m' e (by omega) p2 p3 p4 p5 (fun k k1 k2 k3 => by rw [p6 k k1 k2 k3]; exact fr2 k k1 k2 k3))
theorem w41_4 {F : Nat → Option Fn} {lo : Nat} {n : Int} (N : Nat) (hN : N ≤ 4096) (hnN : n = N) (l : List Edge) (gr : Gr n l) (hl : l.length < 100000) (h7 h8 h11 b : Nat) (hb7 : h7 < b) (hb8 : h8 < b) (hb11 : h11 < b) (h711 : h7 ≠ h11) (h87 : h8 ≠ h7) (h811 : h8 ≠ h11) (es : List V) (hes : es.length = N) (sh : Nat → Nat)
  (he : ∀ (u : Nat) (w : V), es[u]? = some w → (w = .nil ∧ buck Edge.to frV l 0 u = []) ∨ (w = .row 1 (sh u) 0 (buck Edge.to frV l 0 u).length ∧ sh u < b ∧ sh u ≠ h7 ∧ sh u ≠ h11)) :
  ∀ (r d : Nat) (lf lv qs : List Int) (v : V) (m : Mem) (Q : Ex → St → Prop), N ≤ d + r → lo ≤ m.next → IR lo m h7 lf → IR lo m h11 lv → Qs lo m b v qs → m.blk h8 = some (.row 1 es) →
  (∀ (u : Nat), es[u]? ≠ some .nil → u < N → m.blk (sh u) = some (.row 1 ((buck Edge.to frV l 0 u).map vi))) → KI N l lf lv qs d →
  (∀ lf lv qs d v m' e, m.next ≤ m'.next → IR lo m' h11 lv → KI N l lf lv qs d → qs.length ≤ d → Q (.exit 4) ⟨(0, vi n) :: (7, .row 1 h7 0 N) :: (8, .row 1 h8 0 N) :: (11, .row 1 h11 0 N) :: (12, v) :: (15, vi d) :: e, [], [], m'⟩) →
  W F lo L41_4 ⟨[(0, vi n), (7, .row 1 h7 0 N), (8, .row 1 h8 0 N), (11, .row 1 h11 0 N), (12, v), (15, vi d)], [], [], m⟩ Q := by
 intro r
 induction r with
 | zero =>
  intro d lf lv qs v m Q hr hm r7 r11 hq h8b hsh hK hQ
  have hlen : retV (.len false) [v] = some (vi qs.length) := by rw [hq.rw.len, List.length_map]
  have hql := hK.len
  rw [W_L (c := L41_4) rfl]
  have : ¬ ((d : Nat) : Int) < (qs.length : Int) := by omega
  simp only [↓sxc, sx, se, ↓reduceIte, Nat.reduceEqDiff, Nat.reduceAdd, Nat.reduceLT, Nat.reduceLeDiff, Nat.reduceSub, Nat.reduceMul, Int.reduceToNat, Int.reduceLT, Int.reduceLE, Int.reduceEq, ml_i0, ↓smc, sm, hlen, this]
  exact hQ lf lv qs d v m _ (Nat.le_refl _) r11 hK (by omega)
 | succ r ih =>
  intro d lf lv qs v m Q hr hm r7 r11 hq h8b hsh hK hQ
  have hql := hK.len
  rw [W_L (c := L41_4) rfl]
  by_cases hd : d < qs.length
  ·have hlt : ((d : Nat) : Int) < (qs.length : Int) := by omega
   obtain ⟨kq, rfl, q1, q2, q3, q4⟩ := hq.row (by intro h; rw [h] at hd; simp at hd)
   have hg : qs[d]? = some (qs[d]'hd) := List.getElem?_eq_getElem _
   obtain ⟨u, hu, huN⟩ := hK.rg _ (List.getElem_mem hd)
   rw [hu] at hg
   have hJ := hK.enter gr hnN hg
   have wr : wrapF .i64 ((d : Int) + 1) = ((d + 1 : Nat) : Int) := by rw [wr_i64 (by omega) (by omega)]; rfl
   have c1 : ((u : Nat) : Int) < N := by omega
   have c2 : (0 : Int) ≤ u := by omega
   have c3 : (0 : Int) ≤ d := by omega
   have d1 : ((u : Nat) : Int).toNat = u := rfl
   have d2 : ((d : Nat) : Int).toNat = d := rfl
   have hw : es[u]? = some (es[u]'(by omega)) := List.getElem?_eq_getElem _
   generalize es[u]'(by omega) = w at hw
   rcases he u w hw with ⟨rfl, hb0⟩ | ⟨rfl, s1, s2, s3⟩
   ·rw [hb0] at hJ
    have hc : (V.nil).cells[0]? = some .nil := rfl
    simp only [↓sxc, sx, se, ↓reduceIte, Nat.reduceEqDiff, Nat.reduceAdd, Nat.reduceLT, Nat.reduceLeDiff, Nat.reduceSub, Nat.reduceMul, Int.reduceToNat, Int.reduceLT, Int.reduceLE, Int.reduceEq, ml_i0, ↓smc, sm, hlt, q4, hg, c1, c2, c3, d1, d2, h8b, hw, hc]
    have nolp : ∀ Q', (∀ e, Q' (.exit 6) ⟨(0, vi n) :: (7, .row 1 h7 0 N) :: (8, .row 1 h8 0 N) :: (11, .row 1 h11 0 N) :: (12, .row 1 kq 0 qs.length) :: (15, vi d) :: e, [], [], m⟩) → W F lo L41_3 ⟨[(0, vi n), (7, .row 1 h7 0 N), (8, .row 1 h8 0 N), (11, .row 1 h11 0 N), (12, .row 1 kq 0 qs.length), (15, vi d), (83, .nil), (84, vi 0), (85, vi 0)], [], [], m⟩ Q' := by
     intro Q' hQ'
     rw [W_L (c := L41_3) rfl]
     simp only [↓sxc, sx, se, ↓reduceIte, Nat.reduceEqDiff, Nat.reduceAdd, Nat.reduceLT, Nat.reduceLeDiff, Nat.reduceSub, Nat.reduceMul, Int.reduceToNat, Int.reduceLT, Int.reduceLE, Int.reduceEq, ml_i0, ↓smc, sm]
     exact hQ' _
    refine nolp _ (fun e => ?_)
    simp only [↓sxc, sx, se, ↓reduceIte, Nat.reduceEqDiff, Nat.reduceAdd, Nat.reduceLT, Nat.reduceLeDiff, Nat.reduceSub, Nat.reduceMul, Int.reduceToNat, Int.reduceLT, Int.reduceLE, Int.reduceEq, ml_i0, ↓smc, sm, wr]
    exact ih (d + 1) lf lv qs _ m Q (by omega) hm r7 r11 hq h8b hsh hJ.leave hQ
   ·have hc : (V.row 1 (sh u) 0 (buck Edge.to frV l 0 u).length).cells[0]? = some (V.row 1 (sh u) 0 (buck Edge.to frV l 0 u).length) := rfl
    have hk := hsh u (by rw [hw]; intro h; cases h) huN
    have hLl := buck_len (key := Edge.to) (val := frV) (w := (u : Int)) (p := l) (i := 0)
    simp only [↓sxc, sx, se, ↓reduceIte, Nat.reduceEqDiff, Nat.reduceAdd, Nat.reduceLT, Nat.reduceLeDiff, Nat.reduceSub, Nat.reduceMul, Int.reduceToNat, Int.reduceLT, Int.reduceLE, Int.reduceEq, ml_i0, ↓smc, sm, hlt, q4, hg, c1, c2, c3, d1, d2, h8b, hw, hc]
    refine w41_3 N hN l hl h7 h8 h11 b (sh u) hb7 hb11 s1 s2 s3 h711 (buck Edge.to frV l 0 u) (by omega) d u (by omega) _ 0 lf lv qs _ m _ rfl hm r7 r11 hq hk (by rw [List.drop_zero]; exact hJ) (fun lf lv qs v m' e p1 p2 p3 p4 p5 p6 => ?_)
    simp only [↓sxc, sx, se, ↓reduceIte, Nat.reduceEqDiff, Nat.reduceAdd, Nat.reduceLT, Nat.reduceLeDiff, Nat.reduceSub, Nat.reduceMul, Int.reduceToNat, Int.reduceLT, Int.reduceLE, Int.reduceEq, ml_i0, ↓smc, sm, wr]
    refine ih (d + 1) lf lv qs v m' Q (by omega) (by omega) p2 p3 p4 (by rw [p6 h8 hb8 h87 h811]; exact h8b) (fun u' hn hu' => ?_) p5.leave (fun lf lv qs d v m2 e z1 z2 z3 z4 => hQ lf lv qs d v m2 e (by omega) z2 z3 z4)
    have hw' : es[u']? = some (es[u']'(by omega)) := List.getElem?_eq_getElem _
    rcases he u' _ hw' with ⟨h1, _⟩ | ⟨h1, t1, t2, t3⟩
    ·rw [hw', h1] at hn; exact absurd rfl hn
    ·rw [p6 (sh u') t1 t2 t3]
     exact hsh u' hn hu'
  ·have hlen : retV (.len false) [v] = some (vi qs.length) := by rw [hq.rw.len, List.length_map]
   have : ¬ ((d : Nat) : Int) < (qs.length : Int) := by omega
   simp only [↓sxc, sx, se, ↓reduceIte, Nat.reduceEqDiff, Nat.reduceAdd, Nat.reduceLT, Nat.reduceLeDiff, Nat.reduceSub, Nat.reduceMul, Int.reduceToNat, Int.reduceLT, Int.reduceLE, Int.reduceEq, ml_i0, ↓smc, sm, hlen, this]
   exact hQ lf lv qs d v m _ (Nat.le_refl _) r11 hK (by omega)
end Go.Am
namespace Go.Am
open Go
set_option linter.unusedSimpArgs false
set_option linter.unusedVariables false
set_option maxRecDepth 100000
theorem bucks_nil {key : Edge → Int} {val : Nat → Edge → Int} {N : Nat} : bucks key val N [] = List.replicate N [] := by
 refine List.ext_getElem? fun j => ?_
 by_cases h : j < N
 ·rw [bucks_get h, List.getElem?_replicate_of_lt h]; rfl
 ·rw [List.getElem?_eq_none (by simp [bucks_len]; omega), List.getElem?_eq_none (by simp; omega)]
theorem cnts_nil {N : Nat} : cnts N [] = List.replicate N 0 := by
 refine List.ext_getElem? fun j => ?_
 by_cases h : j < N
 ·rw [cnts_get h, List.getElem?_replicate_of_lt h]; rfl
 ·rw [List.getElem?_eq_none (by simp [cnts]; omega), List.getElem?_eq_none (by simp; omega)]
theorem NestB.start {lo h q : Nat} {m : Mem} {key : Edge → Int} {val : Nat → Edge → Int} {N : Nat} (h1 : lo ≤ h) (h2 : h < m.next) (h3 : m.blk h = some (.row 1 (List.replicate N .nil))) : NestB lo m h q (bucks key val N []) (List.replicate N .nil) := by
 have nil_of : ∀ (i : Nat) (v : V), (List.replicate N V.nil)[i]? = some v → v = .nil := fun i v h => by
  have := List.mem_of_getElem? h
  exact List.eq_of_mem_replicate this
 refine ⟨h1, h2, h3, by simp [bucks_len], fun i v L hv hL => ?_, fun i j v w k hv hw e1 e2 => ?_, fun i v k hv hk => ?_⟩
 ·rw [nil_of i v hv]
  rw [bucks_nil] at hL
  have := List.eq_of_mem_replicate (List.mem_of_getElem? hL)
  rw [this]
  exact .nil
 ·rw [nil_of i v hv] at e1; cases e1
 ·rw [nil_of i v hv] at hk; cases hk
def shOf (es : List V) (u : Nat) : Nat := ((es[u]?).bind hOf).getD 0
theorem NestB.view {lo h q : Nat} {m : Mem} {E : List (List Int)} {es : List V} (H : NestB lo m h q E es) {u : Nat} {w : V} {L : List Int} (hw : es[u]? = some w) (hL : E[u]? = some L) :
  (w = .nil ∧ L = []) ∨ (w = .row 1 (shOf es u) 0 L.length ∧ shOf es u < m.next ∧ shOf es u ≠ h ∧ shOf es u ≠ q ∧ m.blk (shOf es u) = some (.row 1 (L.map vi))) := by
 rcases H.rw u w L hw hL with ⟨h1, h2⟩ | ⟨k, h1, h2, h3, h4⟩
 ·exact .inl ⟨h1, by simpa using h2⟩
 ·have hs : shOf es u = k := by simp [shOf, hw, h1, hOf]
  have hn := H.ne u w k hw (by rw [h1]; rfl)
  rw [hs]
  exact .inr ⟨by rw [h1]; simp, h3, hn.1, hn.2, h4⟩
theorem fz_ir {lo n h : Nat} {m : Mem} {u : List Int} (hb : m.blk h = some (.row 1 (u.map vi))) (hl : lo ≤ h) : freeze lo m (n + 2) (.row 1 h 0 u.length) = some (ints u) := by
 rw [fz_row hb hl (by simp)]
 have : ((u.map vi).drop 0).take u.length = u.map vi := by rw [List.drop_zero, List.take_of_length_le (by simp)]
 rw [this, mapO_id (fun x hx => by
  obtain ⟨y, _, rfl⟩ := List.mem_map.1 hx
  rfl)]
 rfl
theorem sp41 {F : Nat → Option Fn} (hG : HasG F) {lo : Nat} {m : Mem} (n : Int) (l : List Edge) (hl : l.length < 100000) : callw F 41 [vi n, vEdges l] lo m = some (.tup [ints (levE n l).1, vi (levE n l).2], m) := by
 have c102 : ∀ {lo m}, callw F 102 [vi n, vEdges l] lo m = some (vi (chkG n l), m) := fun {lo m} => sp102 hG n l (by omega)
 refine call_p hG.h41 rfl ?_
 by_cases h0 : chkG n l = 0
 ·have gr := gr_of h0
  obtain ⟨N, hN⟩ : ∃ N : Nat, n = N := ⟨n.toNat, by have := gr.n0; omega⟩
  have n4 := gr.n4
  have hN4 : N ≤ 4096 := by omega
  have b1 : 0 ≤ (n : Int) ∧ (n : Int) < big := by simp [big]; omega
  have tn : n.toNat = N := by omega
  simp only [↓sxc, sx, se, ↓reduceIte, Nat.reduceEqDiff, Nat.reduceAdd, Nat.reduceLT, Nat.reduceLeDiff, Nat.reduceSub, Nat.reduceMul, Int.reduceToNat, Int.reduceLT, Int.reduceLE, Int.reduceEq, ml_i0, ↓W_dreg, ↓sk, sk, ↓smc, sm, c102, h0, b1, tn]
  refine ⟨by simp [pairsOk, nth_eq, keysApart, Key.apart], ?_⟩
  have hh : m.next + 3 ≠ m.next + 1 := by omega
  refine w41_1 l gr hl N hN (m.next + 1) (m.next + 3) hh l 0 (List.replicate N .nil) _ _ rfl (by show m.next ≤ m.next + 6; omega) ⟨by omega, by show m.next + 1 < m.next + 6; omega, ?_⟩ (NestB.start (by omega) (by show m.next + 3 < m.next + 6; omega) (by simp [Mem.set])) (fun es m1 e p1 p2 p3 => ?_)
  ·rw [set_ne (by omega), List.take_zero, cnts_nil]
   simp [Mem.set]
  have p1' : m.next + 6 ≤ m1.next := p1
  let h11 := m1.next
  let m2 : Mem := (m1.set m1.next (some (.row 1 (List.replicate N (V.int .i64 0))))).bump 1
  have n2 : m2.next = m1.next + 1 := rfl
  have f2 : ∀ k, k < m1.next → m2.blk k = m1.blk k := fun k hk => set_ne (by omega)
  have r7 : IR m.next m2 (m.next + 1) (cnts N l) := p2.mono (by omega) (f2 _ p2.hm)
  have r11 : IR m.next m2 m1.next (List.replicate N 0) := ⟨by omega, by omega, by show (m1.set m1.next _).blk m1.next = _; simp [Mem.set]⟩
  have q0 : Qs m.next m2 (m1.next + 1) .nil (zeros (cnts N l) 0) := ⟨.nil, fun k hk => (by cases hk), by omega⟩
  have em2 : (m1.set m1.next (some (.row 1 (List.replicate N (V.int .i64 0))))).bump 1 = m2 := rfl
  clear_value m2
  simp only [↓sxc, sx, se, ↓reduceIte, Nat.reduceEqDiff, Nat.reduceAdd, Nat.reduceLT, Nat.reduceLeDiff, Nat.reduceSub, Nat.reduceMul, Int.reduceToNat, Int.reduceLT, Int.reduceLE, Int.reduceEq, ml_i0, ↓smc, sm, b1, tn, em2]
  refine w41_2 N hN4 (m.next + 1) (m1.next + 1) (by omega) _ _ (cnts N l) (by simp [cnts]) N 0 .nil m2 _ (by omega) (by omega) r7 q0 (fun v m3 e t1 t2 t3 => ?_)
  have f3 : ∀ k, k < m1.next → m3.blk k = m1.blk k := fun k hk => by rw [t3 k (by omega)]; exact f2 k hk
  have hlen : es.length = N := by rw [p3.ln, bucks_len]
  simp only [↓sxc, sx, se, ↓reduceIte, Nat.reduceEqDiff, Nat.reduceAdd, Nat.reduceLT, Nat.reduceLeDiff, Nat.reduceSub, Nat.reduceMul, Int.reduceToNat, Int.reduceLT, Int.reduceLE, Int.reduceEq, ml_i0, ↓smc, sm]
  refine w41_4 N hN4 hN l gr hl (m.next + 1) (m.next + 3) m1.next (m1.next + 1) (by omega) (by omega) (by omega) (by omega) hh (by omega) es hlen (shOf es) (fun u w hw => ?_) N 0 (cnts N l) (List.replicate N 0) (zeros (cnts N l) N) v m3 _ (by omega) (by omega) (r7.mono t1 (t3 _ (by omega))) (r11.mono t1 (t3 _ (by omega))) t2 (by rw [f3 _ p3.hm]; exact p3.bh) (fun u hn hu => ?_) (KI.start gr hN) (fun lf lv qs d v m4 e z1 z2 z3 z4 => ?_)
  ·have hu : u < N := by rw [← hlen]; exact (List.getElem?_eq_some_iff.1 hw).1
   rcases p3.view hw (bucks_get hu) with h | ⟨a1, a2, a3, a4, a5⟩
   ·exact .inl h
   ·exact .inr ⟨a1, by omega, a4, by omega⟩
  ·have hw : es[u]? = some (es[u]'(by omega)) := List.getElem?_eq_getElem _
   rcases p3.view hw (bucks_get hu) with ⟨h, _⟩ | ⟨a1, a2, a3, a4, a5⟩
   ·rw [hw, h] at hn; exact absurd rfl hn
   ·rw [f3 _ a2]; exact a5
  ·by_cases hd : d < N
   ·have c1 : ((d : Nat) : Int) < n := by omega
    rw [levE_no h0 hN (z3.stuck gr hN z4 hd)]
    simp only [↓sxc, sx, se, ↓reduceIte, Nat.reduceEqDiff, Nat.reduceAdd, Nat.reduceLT, Nat.reduceLeDiff, Nat.reduceSub, Nat.reduceMul, Int.reduceToNat, Int.reduceLT, Int.reduceLE, Int.reduceEq, ml_i0, ↓smc, sm, c1]
    rfl
   ·have c1 : ¬ ((d : Nat) : Int) < n := by omega
    rw [levE_ok h0 hN (z3.full gr hN z4 (by omega))]
    have hlv : lv.length = N := z3.lvl
    have fz := fz_ir (n := 5) z2.b z2.lh
    rw [hlv] at fz
    simp only [↓sxc, sx, se, ↓reduceIte, Nat.reduceEqDiff, Nat.reduceAdd, Nat.reduceLT, Nat.reduceLeDiff, Nat.reduceSub, Nat.reduceMul, Int.reduceToNat, Int.reduceLT, Int.reduceLE, Int.reduceEq, ml_i0, ↓smc, sm, c1]
    simp only [mapO, fz, fz_int]
    rfl
 ·rw [levE_bad h0]
  simp only [↓sxc, sx, se, ↓reduceIte, Nat.reduceEqDiff, Nat.reduceAdd, Nat.reduceLT, Nat.reduceLeDiff, Nat.reduceSub, Nat.reduceMul, Int.reduceToNat, Int.reduceLT, Int.reduceLE, Int.reduceEq, ml_i0, ↓smc, sm, c102, h0]
  rfl
end Go.Am
namespace Go.Am
open Go
set_option linter.unusedSimpArgs false
set_option linter.unusedVariables false
set_option maxRecDepth 100000
structure RI (N : Nat) (l : List Edge) (r : Nat) (p : List Edge) (o : List Int) (more : Bool) : Prop where
 ln : o.length = N
 nn : ∀ v, v < N → 0 ≤ gAt o v
 wit : ∀ v, v < N → gAt o v = 0 ∨ ∃ e ∈ l, e.fr = (v : Int) ∧ gAt o v ≤ gAt o e.to + 1
 le : ∀ f, LevEq N l f → ∀ v, v < N → gAt o v ≤ gAt f v
 eq : ∀ f, LevEq N l f → ∀ v, v < N → gAt f v ≤ r → gAt o v = gAt f v
 pr : ∀ f, LevEq N l f → ∀ e ∈ p, gAt f e.to ≤ r → gAt f e.to + 1 ≤ gAt o e.fr
 no : more = false → ∀ e ∈ p, gAt o e.to + 1 ≤ gAt o e.fr
 fin : ∀ f, LevEq N l f → (∀ v, v < N → gAt f v ≤ r) → more = false
 bd : ∀ v, v < N → gAt o v ≤ r * 100000 + p.length
theorem RI.start {N : Nat} {l : List Edge} : RI N l 0 [] (List.replicate N 0) false := by
 have hz : ∀ v : Nat, gAt (List.replicate N 0) v = 0 := fun v => by
  unfold gAt
  rw [Int.toNat_natCast, List.getD]
  by_cases h : v < N
  ·rw [List.getElem?_replicate_of_lt h]; rfl
  ·rw [List.getElem?_eq_none (by simp; omega)]; rfl
 refine ⟨by simp, fun v _ => by rw [hz]; omega, fun v _ => .inl (hz v), fun f hf v hv => by rw [hz]; exact hf.nn v hv, fun f hf v hv h => by rw [hz]; have := hf.nn v hv; omega, fun f hf e he => by simp at he, fun _ e he => by simp at he, fun _ _ _ => rfl, fun v hv => by rw [hz]; simp⟩
theorem RI.keep {N r : Nat} {l p : List Edge} {o : List Int} {more : Bool} (H : RI N l r p o more) {e : Edge} (h : gAt o e.to + 1 ≤ gAt o e.fr) {n : Int} (gr : Gr n l) (hN : n = N) (he : e ∈ l) : RI N l r (p ++ [e]) o more := by
 refine ⟨H.ln, H.nn, H.wit, H.le, H.eq, fun f hf d hd hr => ?_, fun hm d hd => ?_, H.fin, fun v hv => by have := H.bd v hv; simp; omega⟩
 ·rcases List.mem_append.1 hd with hd | hd
  ·exact H.pr f hf d hd hr
  ·simp at hd
   subst hd
   obtain ⟨a, b, h1, h2, h3, h4⟩ := gr.e d he
   rw [h2] at hr h ⊢
   rw [← H.eq f hf b (by omega) hr]
   exact h
 ·rcases List.mem_append.1 hd with hd | hd
  ·exact H.no hm d hd
  ·simp at hd
   subst hd
   exact h
theorem RI.raise {N r a b : Nat} {l p : List Edge} {o : List Int} {more : Bool} (H : RI N l r p o more) {e : Edge} {n : Int} (gr : Gr n l) (hN : n = N) (he : e ∈ l) (ha : e.fr = a) (hb : e.to = b) (hav : a < N) (hbv : b < N) (h : gAt o a < gAt o b + 1) : RI N l r (p ++ [e]) (o.set a (gAt o b + 1)) true := by
 have gs : ∀ v : Nat, gAt (o.set a (gAt o b + 1)) v = if v = a then gAt o b + 1 else gAt o v := fun v => gAt_set (by rw [H.ln]; exact hav)
 have ge : ∀ v : Nat, gAt o v ≤ gAt (o.set a (gAt o b + 1)) v := fun v => by
  rw [gs]
  split
  ·rename_i hv; rw [hv]; omega
  ·omega
 have gei : ∀ y : Int, gAt o y ≤ gAt (o.set a (gAt o b + 1)) y := fun y => ge y.toNat
 refine ⟨by simp [H.ln], fun v hv => by have := ge v; have := H.nn v hv; omega, fun v hv => ?_, fun f hf v hv => ?_, fun f hf v hv hr => ?_, fun f hf d hd hr => ?_, fun hm => (by cases hm), fun f hf hr => ?_, fun v hv => ?_⟩
 ·rw [gs]
  by_cases hva : v = a
  ·rw [if_pos hva]
   refine .inr ⟨e, he, by rw [hva]; exact ha, ?_⟩
   have := ge b
   rw [hb]
   omega
  ·rw [if_neg hva]
   rcases H.wit v hv with h1 | ⟨d, h1, h2, h3⟩
   ·exact .inl h1
   ·exact .inr ⟨d, h1, h2, by have := gei d.to; omega⟩
 ·rw [gs]
  split
  ·rename_i hva
   subst hva
   have h1 := hf.ge e he
   rw [ha, hb] at h1
   have := H.le f hf b hbv
   omega
  ·exact H.le f hf v hv
 ·rw [gs]
  split
  ·rename_i hva
   subst hva
   have h1 := hf.ge e he
   rw [ha, hb] at h1
   have h2 := H.eq f hf v hv hr
   have h3 := H.le f hf b hbv
   omega
  ·exact H.eq f hf v hv hr
 ·rcases List.mem_append.1 hd with hd | hd
  ·have := H.pr f hf d hd hr
   have := gei d.fr
   omega
  ·simp at hd
   subst hd
   rw [hb] at hr ⊢
   rw [ha, gs, if_pos rfl, H.eq f hf b hbv hr]
   omega
 ·have h1 := hf.ge e he
  rw [ha, hb] at h1
  have h2 := H.eq f hf a hav (hr a hav)
  have h3 := H.eq f hf b hbv (hr b hbv)
  omega
 ·rw [gs]
  have b1 := H.bd v hv
  have b2 := H.bd b hbv
  simp only [List.length_append, List.length_singleton]
  split <;> omega
theorem RI.done {N r : Nat} {l : List Edge} {o : List Int} (H : RI N l r l o false) : LevEq N l o := by
 refine ⟨H.ln, H.nn, H.no rfl, fun v hv => ?_⟩
 rcases H.wit v hv with h | ⟨e, h1, h2, h3⟩
 ·exact .inl h
 ·have := H.no rfl e h1
  rw [h2] at this
  exact .inr ⟨e, h1, h2, by omega⟩
theorem RI.next {N r : Nat} {l : List Edge} {o : List Int} (H : RI N l r l o true) (hl : l.length ≤ 100000) : RI N l (r + 1) [] o false := by
 refine ⟨H.ln, H.nn, H.wit, H.le, fun f hf v hv hr => ?_, fun f hf e he => by simp at he, fun _ e he => by simp at he, fun _ _ _ => rfl, fun v hv => by have := H.bd v hv; push_cast; simp; omega⟩
 by_cases h : gAt f v ≤ r
 ·exact H.eq f hf v hv h
 ·rcases hf.wit v hv with h1 | ⟨e, h1, h2, h3⟩
  ·omega
  ·have h4 := H.pr f hf e h1 (by push_cast at hr; omega)
   rw [h2] at h4
   have := H.le f hf v hv
   omega
theorem LevEq.small {n : Int} {N : Nat} {l : List Edge} (gr : Gr n l) (hN : n = N) {f : List Int} (hf : LevEq N l f) : ∀ v, v < N → gAt f v ≤ N := by
 intro v hv
 have down : ∀ (k : Nat) (w : Nat), w < N → (k : Int) ≤ gAt f w → ∃ w', w' < N ∧ gAt f w' = k := by
  intro k w hw hk
  obtain ⟨j, hj⟩ : ∃ j : Nat, gAt f w = k + j := ⟨(gAt f w - k).toNat, by omega⟩
  induction j generalizing w with
  | zero => exact ⟨w, hw, by omega⟩
  | succ j ih =>
   rcases hf.wit w hw with h1 | ⟨e, h1, h2, h3⟩
   ·omega
   ·obtain ⟨a, b, q1, q2, q3, q4⟩ := gr.e e h1
    rw [q2] at h3
    exact ih b (by omega) (by omega) (by omega)
 refine Classical.byContradiction fun hgt => ?_
 have hall : ∀ k : Nat, k < N + 1 → ∃ w, w < N ∧ gAt f w = k := fun k hk => down k v hv (by omega)
 have hch : ∃ g : Nat → Nat, ∀ k, k < N + 1 → g k < N ∧ gAt f (g k) = k := by
  refine ⟨fun k => if h : k < N + 1 then Classical.choose (hall k h) else 0, fun k hk => ?_⟩
  simp only [dif_pos hk]
  exact Classical.choose_spec (hall k hk)
 obtain ⟨g, hg⟩ := hch
 have := nodup_le (xs := (List.range (N + 1)).map g) (ys := List.range N) (by
  refine List.pairwise_map.2 (List.Pairwise.imp_of_mem (fun {a b} ha hb hab he => ?_) List.nodup_range)
  have h1 := (hg a (List.mem_range.1 ha)).2
  have h2 := (hg b (List.mem_range.1 hb)).2
  rw [he] at h1
  exact hab (by omega)) (fun x hx => by
  obtain ⟨k, hk, rfl⟩ := List.mem_map.1 hx
  exact List.mem_range.2 (hg k (List.mem_range.1 hk)).1)
 simp at this
 omega
theorem RI.never {N : Nat} {n : Int} {l : List Edge} {o : List Int} (gr : Gr n l) (hN : n = N) (H : RI N l N l o true) : ¬ ∃ f, LevEq N l f := by
 rintro ⟨f, hf⟩
 have := H.fin f hf (hf.small gr hN)
 cases this
theorem sp44 {F : Nat → Option Fn} (hG : HasG F) {lo : Nat} {m : Mem} (n : Int) (l : List Edge) (hl : l.length < 100000) : callw F 44 [vi n, vEdges l] lo m = some (.tup [ints (levE n l).1, vi (levE n l).2], m) := by
 have c108 : ∀ {lo m}, callw F 108 [vi n, vEdges l] lo m = some (vi (chkG n l), m) := fun {lo m} => sp108 hG n l (by omega)
 refine call_p hG.h44 rfl ?_
 by_cases h0 : chkG n l = 0
 ·have gr := gr_of h0
  obtain ⟨N, hN⟩ : ∃ N : Nat, n = N := ⟨n.toNat, by have := gr.n0; omega⟩
  have n4 := gr.n4
  have hN4 : N ≤ 4096 := by omega
  have loop1 : ∀ (r i : Nat) (v : V) (m' : Mem) (Q : Ex → St → Prop), i + r = N → m.next ≤ m'.next → Rw m.next m' 1 v ((List.replicate i (0 : Int)).map vi) →
    (∀ v m' e, m.next ≤ m'.next → Rw m.next m' 1 v ((List.replicate N (0 : Int)).map vi) → Q (.exit 0) ⟨(0, vi n) :: (1, vEdges l) :: (7, v) :: e, [], [], m'⟩) →
    W F m.next L44_1 ⟨[(0, vi n), (1, vEdges l), (7, v), (8, vi i)], [], [], m'⟩ Q := by
   intro r
   induction r with
   | zero =>
    intro i v m' Q hi hm hr hq
    rw [W_L (c := L44_1) rfl]
    have : ¬ ((i : Nat) : Int) < n := by omega
    simp only [↓sxc, sx, se, ↓reduceIte, Nat.reduceEqDiff, Nat.reduceAdd, Nat.reduceLT, Nat.reduceLeDiff, Nat.reduceSub, Nat.reduceMul, Int.reduceToNat, Int.reduceLT, Int.reduceLE, Int.reduceEq, ml_i0, ↓smc, sm, this]
    exact hq v m' _ hm (by rw [← show i = N by omega]; exact hr)
   | succ r ih =>
    intro i v m' Q hi hm hr hq
    rw [W_L (c := L44_1) rfl]
    have : ((i : Nat) : Int) < n := by omega
    have wr : wrapF .i64 ((i : Int) + 1) = ((i + 1 : Nat) : Int) := by rw [wr_i64 (by omega) (by omega)]; rfl
    obtain ⟨v', m'', hap, hr', hn, _⟩ := Rw.app (y := .lst false 1 [vi 0]) hr hm vw_lst (.inl rfl) (by simp [big]; omega)
    simp only [↓sxc, sx, se, ↓reduceIte, Nat.reduceEqDiff, Nat.reduceAdd, Nat.reduceLT, Nat.reduceLeDiff, Nat.reduceSub, Nat.reduceMul, Int.reduceToNat, Int.reduceLT, Int.reduceLE, Int.reduceEq, ml_i0, ↓smc, sm, this, hap, wr]
    refine ih (i + 1) v' (m''.bump 1) Q (by omega) ?_ (by rw [List.replicate_succ', List.map_append]; exact hr') hq
    show m.next ≤ m''.next + 1
    omega
  have loop2 : ∀ (r : Nat), r ≤ N → ∀ (t : List Edge) (j : Nat) (v : V) (o : List Int) (more : Bool) (m' : Mem) (Q : Ex → St → Prop), l.drop j = t → m.next ≤ m'.next → Rw m.next m' 1 v (o.map vi) → RI N l r (l.take j) o more →
    (∀ v o more m' e, m.next ≤ m'.next → Rw m.next m' 1 v (o.map vi) → RI N l r l o more → Q (.exit 4) ⟨(0, vi n) :: (1, vEdges l) :: (7, v) :: (9, vi r) :: (10, .bool more) :: e, [], [], m'⟩) →
    W F m.next L44_2 ⟨[(0, vi n), (1, vEdges l), (7, v), (9, vi r), (10, .bool more), (11, vi j)], [], [], m'⟩ Q := by
   intro r hrN t
   induction t with
   | nil =>
    intro j v o more m' Q hd hm hr hI hq
    have hlt := drop_nil hd
    rw [W_L (c := L44_2) rfl]
    have : ¬ ((j : Nat) : Int) < (l.length : Int) := by omega
    simp only [↓sxc, sx, se, ↓reduceIte, Nat.reduceEqDiff, Nat.reduceAdd, Nat.reduceLT, Nat.reduceLeDiff, Nat.reduceSub, Nat.reduceMul, Int.reduceToNat, Int.reduceLT, Int.reduceLE, Int.reduceEq, ml_i0, ↓smc, sm, this]
    rw [List.take_of_length_le hlt] at hI
    exact hq v o more m' _ hm hr hI
   | cons x t ih =>
    intro j v o more m' Q hd hm hr hI hq
    obtain ⟨hg, hd', hlt⟩ := drop_cons hd
    have hx := List.mem_of_getElem? hg
    obtain ⟨a, b, ha, hb, ha2, hb2⟩ := gr.e x hx
    rw [W_L (c := L44_2) rfl]
    have : ((j : Nat) : Int) < (l.length : Int) := by omega
    have wr : wrapF .i64 ((j : Int) + 1) = ((j + 1 : Nat) : Int) := by rw [wr_i64 (by omega) (by omega)]; rfl
    have aN : a < N := by omega
    have bN : b < N := by omega
    have ga := gAt_get (xs := o) (v := a) (by rw [hI.ln]; exact aN)
    have gb := gAt_get (xs := o) (v := b) (by rw [hI.ln]; exact bN)
    have nb := hI.nn b bN
    have bb := hI.bd b bN
    have w1 : wrapF .i64 (gAt o b + 1) = gAt o b + 1 := wr_i64 (by omega) (by
     have : (l.take j).length ≤ l.length := by simp; omega
     omega)
    rcases hr with ⟨_, h2⟩ | ⟨k, rfl, k1, k2, k3⟩
    ·have := hI.ln
     simp at h2
     rw [h2] at this
     simp at this
     omega
    ·simp only [List.length_map]
     have a1 : (a : Int) < (o.length : Int) := by rw [hI.ln]; omega
     have b1 : (b : Int) < (o.length : Int) := by rw [hI.ln]; omega
     have a0 : (0 : Int) ≤ a := by omega
     have b0 : (0 : Int) ≤ b := by omega
     have an : ((a : Nat) : Int).toNat = a := rfl
     have bn : ((b : Nat) : Int).toNat = b := rfl
     have tk := take_succ_drop hd
     by_cases hlt2 : gAt o a < gAt o b + 1
     ·have hI' := hI.raise gr hN hx ha hb aN bN hlt2
      rw [← tk] at hI'
      simp only [↓sxc, sx, se, ↓reduceIte, Nat.reduceEqDiff, Nat.reduceAdd, Nat.reduceLT, Nat.reduceLeDiff, Nat.reduceSub, Nat.reduceMul, Int.reduceToNat, Int.reduceLT, Int.reduceLE, Int.reduceEq, ml_i0, ↓smc, sm, this, hg, ha, hb, a1, b1, a0, b0, an, bn, k3, ga, gb, w1, hlt2, k1, wr, bump_blk]
      have hln : (o.set a (gAt o b + 1)).length = o.length := by simp
      rw [← hln]
      refine ih (j + 1) _ (o.set a (gAt o b + 1)) true _ Q hd' ?_ ?_ hI' hq
      ·show m.next ≤ m'.next + 18 + 17; omega
      ·refine .inr ⟨k, by simp, k1, by show k < m'.next + 18 + 17; omega, ?_⟩
       simp [Mem.set, Mem.bump, List.map_set]
     ·have hI' := hI.keep (e := x) (by rw [ha, hb]; omega) gr hN hx
      rw [← tk] at hI'
      simp only [↓sxc, sx, se, ↓reduceIte, Nat.reduceEqDiff, Nat.reduceAdd, Nat.reduceLT, Nat.reduceLeDiff, Nat.reduceSub, Nat.reduceMul, Int.reduceToNat, Int.reduceLT, Int.reduceLE, Int.reduceEq, ml_i0, ↓smc, sm, this, hg, ha, hb, a1, b1, a0, b0, an, bn, k3, ga, gb, w1, hlt2, k1, wr, bump_blk]
      refine ih (j + 1) _ o more _ Q hd' ?_ ?_ hI' hq
      ·show m.next ≤ m'.next + 18; omega
      ·exact .inr ⟨k, by simp, k1, by show k < m'.next + 18; omega, k3⟩
  have loop3 : ∀ (q r : Nat) (v : V) (o : List Int) (m' : Mem) (Q : Ex → St → Prop), r + q = N + 1 → m.next ≤ m'.next → Rw m.next m' 1 v (o.map vi) → RI N l r [] o false →
    (∀ v o m', m.next ≤ m'.next → Rw m.next m' 1 v (o.map vi) → LevEq N l o → Q .ret ⟨[(4, v), (5, vi 0)], [], [], m'⟩) → ((¬ ∃ f, LevEq N l f) → ∀ m' e, Q (.exit 2) ⟨e, [], [], m'⟩) →
    (r = 0 ∨ ∃ o', RI N l (r - 1) l o' true) →
    W F m.next L44_3 ⟨[(0, vi n), (1, vEdges l), (7, v), (9, vi r)], [], [], m'⟩ Q := by
   intro q
   induction q with
   | zero =>
    intro r v o m' Q hr hm hR hI q1 q2 hp
    rw [W_L (c := L44_3) rfl]
    have : ¬ ((r : Nat) : Int) ≤ n := by omega
    simp only [↓sxc, sx, se, ↓reduceIte, Nat.reduceEqDiff, Nat.reduceAdd, Nat.reduceLT, Nat.reduceLeDiff, Nat.reduceSub, Nat.reduceMul, Int.reduceToNat, Int.reduceLT, Int.reduceLE, Int.reduceEq, ml_i0, ↓smc, sm, this]
    rcases hp with h | ⟨o', h⟩
    ·omega
    ·rw [show r - 1 = N by omega] at h
     exact q2 (h.never gr hN) _ _
   | succ q ih =>
    intro r v o m' Q hr hm hR hI q1 q2 hp
    rw [W_L (c := L44_3) rfl]
    have : ((r : Nat) : Int) ≤ n := by omega
    have wr : wrapF .i64 ((r : Int) + 1) = ((r + 1 : Nat) : Int) := by rw [wr_i64 (by omega) (by omega)]; rfl
    simp only [↓sxc, sx, se, ↓reduceIte, Nat.reduceEqDiff, Nat.reduceAdd, Nat.reduceLT, Nat.reduceLeDiff, Nat.reduceSub, Nat.reduceMul, Int.reduceToNat, Int.reduceLT, Int.reduceLE, Int.reduceEq, ml_i0, ↓smc, sm, this]
    refine loop2 r (by omega) l 0 v o false m' _ rfl hm hR (by rw [List.take_zero]; exact hI) (fun v o more m' e h1 h2 h3 => ?_)
    cases more with
    | false =>
     simp only [↓sxc, sx, se, ↓reduceIte, Nat.reduceEqDiff, Nat.reduceAdd, Nat.reduceLT, Nat.reduceLeDiff, Nat.reduceSub, Nat.reduceMul, Int.reduceToNat, Int.reduceLT, Int.reduceLE, Int.reduceEq, ml_i0, ↓smc, sm]
     exact q1 v o m' h1 h2 h3.done
    | true =>
     simp only [↓sxc, sx, se, ↓reduceIte, Nat.reduceEqDiff, Nat.reduceAdd, Nat.reduceLT, Nat.reduceLeDiff, Nat.reduceSub, Nat.reduceMul, Int.reduceToNat, Int.reduceLT, Int.reduceLE, Int.reduceEq, ml_i0, ↓smc, sm, wr]
     exact ih (r + 1) v o m' Q (by omega) h1 h2 (h3.next (by omega)) q1 q2 (.inr ⟨o, h3⟩)
  simp only [↓sxc, sx, se, ↓reduceIte, Nat.reduceEqDiff, Nat.reduceAdd, Nat.reduceLT, Nat.reduceLeDiff, Nat.reduceSub, Nat.reduceMul, Int.reduceToNat, Int.reduceLT, Int.reduceLE, Int.reduceEq, ml_i0, ↓smc, sm, c108, h0]
  refine loop1 N 0 .nil m _ (by omega) (Nat.le_refl _) .nil (fun v m' e h1 h2 => ?_)
  simp only [↓sxc, sx, se, ↓reduceIte, Nat.reduceEqDiff, Nat.reduceAdd, Nat.reduceLT, Nat.reduceLeDiff, Nat.reduceSub, Nat.reduceMul, Int.reduceToNat, Int.reduceLT, Int.reduceLE, Int.reduceEq, ml_i0, ↓smc, sm]
  refine loop3 (N + 1) 0 v (List.replicate N 0) m' _ (by omega) h1 h2 .start (fun v o m' h1 h2 h3 => ?_) (fun h m' e => ?_) (.inl rfl)
  ·rw [levE_ok h0 hN h3]
   simp only [↓sxc, sx, se, ↓reduceIte, Nat.reduceEqDiff, Nat.reduceAdd, Nat.reduceLT, Nat.reduceLeDiff, Nat.reduceSub, Nat.reduceMul, Int.reduceToNat, Int.reduceLT, Int.reduceLE, Int.reduceEq, ml_i0, ↓smc, sm]
   simp only [mapO, fz_int]
   rw [h2.freeze, mapO_id (fun x hx => by
    obtain ⟨y, _, rfl⟩ := List.mem_map.1 hx
    rfl)]
   rfl
  ·rw [levE_no h0 hN h]
   simp only [↓sxc, sx, se, ↓reduceIte, Nat.reduceEqDiff, Nat.reduceAdd, Nat.reduceLT, Nat.reduceLeDiff, Nat.reduceSub, Nat.reduceMul, Int.reduceToNat, Int.reduceLT, Int.reduceLE, Int.reduceEq, ml_i0, ↓smc, sm]
   rfl
 ·rw [levE_bad h0]
  simp only [↓sxc, sx, se, ↓reduceIte, Nat.reduceEqDiff, Nat.reduceAdd, Nat.reduceLT, Nat.reduceLeDiff, Nat.reduceSub, Nat.reduceMul, Int.reduceToNat, Int.reduceLT, Int.reduceLE, Int.reduceEq, ml_i0, ↓smc, sm, c108, h0]
  rfl
end Go.Am
