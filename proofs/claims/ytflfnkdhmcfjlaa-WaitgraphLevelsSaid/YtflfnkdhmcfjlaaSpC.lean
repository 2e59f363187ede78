/- The reference's step and class. -/
import Derived.Test.YtflfnkdhmcfjlaaSpB
namespace Go.Am
open Go
set_option linter.unusedSimpArgs false
set_option linter.unusedVariables false
set_option maxRecDepth 100000

def nOf (s : Sys) (x : Stp) : Int := if x.kind = 3 ∨ x.kind = 4 then (s.locks.length : Int) else if x.kind = 5 then (s.cls.length : Int) else (s.pools.length : Int)
def sizeAt (s : Sys) (on : Int) : Int := match s.pools[on.toNat]? with
  | some p => p.size
  | none => 0
def resAt (s : Sys) (on : Int) : Int := match s.pools[on.toNat]? with
  | some p => p.res
  | none => 0
def srvAt (s : Sys) (on : Int) : Bool := match s.cls[on.toNat]? with
  | some c => c.srv
  | none => false
def preE (s : Sys) (x : Stp) : Int :=
  if x.kind < 1 ∨ 5 < x.kind ∨ (¬ (x.kind = 1 ∨ x.kind = 2) ∧ x.cnt ≠ 0) ∨ (x.kind ≠ 1 ∧ x.deep = true) then 1
  else if x.on < 0 ∨ nOf s x ≤ x.on then 6
  else if (x.kind = 1 ∨ x.kind = 2) ∧ (x.cnt < 1 ∨ sizeAt s x.on < x.cnt) then 2 else 0
def badE (s : Sys) (x : Stp) (b0 b1 : Int) : Bool :=
  if x.kind = 1 then decide (sizeAt s x.on < b0 + x.cnt) else if x.kind = 2 then decide (b0 < x.cnt) else if x.kind = 3 then decide (0 < b1) else if x.kind = 4 then decide (b1 = 0) else !srvAt s x.on
def stepE (s : Sys) (x : Stp) (b0 b1 : Int) : Int := if preE s x ≠ 0 then preE s x else if badE s x b0 b1 then 11 else 0

theorem delta_bd {on kind : Int} {x : Stp} (h : -1000 ≤ x.cnt ∧ x.cnt ≤ 1000) : -1000 ≤ delta on kind x ∧ delta on kind x ≤ 1000 := by
  unfold delta
  repeat' split
  all_goals omega
theorem bal_bd {on kind : Int} : ∀ {l : List Stp}, (∀ x ∈ l, -1000 ≤ x.cnt ∧ x.cnt ≤ 1000) → -1000 * l.length ≤ bal on kind l ∧ bal on kind l ≤ 1000 * l.length
  | [], _ => by simp [bal]
  | x :: l, h => by
    have h1 := delta_bd (on := on) (kind := kind) (h x (by simp))
    have h2 := bal_bd (on := on) (kind := kind) (l := l) (fun y hy => h y (by simp [hy]))
    simp only [bal, List.length_cons]
    push_cast
    omega

set_option maxHeartbeats 4000000 in
theorem sp163 {F : Nat → Option Fn} (hA : HasA F) {lo : Nat} {m : Mem} (s : Sys) (l : List Stp) (i : Nat) (x : Stp) (hx : l[i]? = some x) (hi : i < 1000) (hb : ∀ x ∈ l.take i, -1000 ≤ x.cnt ∧ x.cnt ≤ 1000) (hp : ∀ p ∈ s.pools, p.size ≤ 1000) :
    callw F 163 [vSys s, vStps l, vi i] lo m = some (vi (stepE s x (bal x.on 0 (l.take i)) (bal x.on 1 (l.take i))), m) := by
  have hil : i ≤ l.length := by
    rcases Nat.lt_or_ge i l.length with h | h
    · omega
    · rw [List.getElem?_eq_none h] at hx; cases hx
  have c0 : ∀ {lo m}, callw F 164 [vStps l, vi i, vi x.on, vi 0] lo m = some (vi (bal x.on 0 (l.take i)), m) := fun {lo m} => sp164 hA l i x.on 0 hil hi hb
  have c1 : ∀ {lo m}, callw F 164 [vStps l, vi i, vi x.on, vi 1] lo m = some (vi (bal x.on 1 (l.take i)), m) := fun {lo m} => sp164 hA l i x.on 1 hil hi hb
  have b0 := bal_bd (on := x.on) (kind := 0) hb
  rw [List.length_take, Nat.min_eq_left hil] at b0
  generalize bal x.on 0 (l.take i) = B0 at *
  generalize bal x.on 1 (l.take i) = B1 at *
  refine call_p hA.h163 rfl ?_
  -- the result
  generalize hr : stepE s x B0 B1 = r
  unfold stepE at hr
  by_cases e1 : x.kind < 1
  · have : preE s x = 1 := by simp [preE, e1]
    rw [this] at hr
    simp at hr
    subst hr
    by_cases k1 : x.kind = 1
    · omega
    · by_cases k2 : x.kind = 2
      · omega
      · simp only [↓sxc, sx, se, ↓reduceIte, Nat.reduceEqDiff, Nat.reduceAdd, Nat.reduceLT, Nat.reduceLeDiff, Nat.reduceSub, Nat.reduceMul, Int.reduceToNat, Int.reduceLT, Int.reduceLE, Int.reduceEq, ml_i0, hx, e1, k1, k2]
  · by_cases e5 : 5 < x.kind
    · have : preE s x = 1 := by simp [preE, e5]
      rw [this] at hr
      simp at hr
      subst hr
      by_cases k1 : x.kind = 1
      · omega
      · by_cases k2 : x.kind = 2
        · omega
        · simp only [↓sxc, sx, se, ↓reduceIte, Nat.reduceEqDiff, Nat.reduceAdd, Nat.reduceLT, Nat.reduceLeDiff, Nat.reduceSub, Nat.reduceMul, Int.reduceToNat, Int.reduceLT, Int.reduceLE, Int.reduceEq, ml_i0, hx, e1, e5, k1, k2]
    · by_cases hk : x.kind = 1
      · have hpre : preE s x = if x.on < 0 ∨ (s.pools.length : Int) ≤ x.on then 6 else if x.cnt < 1 ∨ sizeAt s x.on < x.cnt then 2 else 0 := by simp [preE, nOf, hk]
        by_cases o1 : x.on < 0
        · have hv : preE s x = 6 := by simp [hpre, o1]
          rw [hv] at hr
          simp at hr
          subst hr
          cases hd : x.deep <;> simp only [↓sxc, sx, se, ↓reduceIte, Nat.reduceEqDiff, Nat.reduceAdd, Nat.reduceLT, Nat.reduceLeDiff, Nat.reduceSub, Nat.reduceMul, Int.reduceToNat, Int.reduceLT, Int.reduceLE, Int.reduceEq, ml_i0, hx, hk, hd, o1]
        · by_cases o2 : (s.pools.length : Int) ≤ x.on
          · have hv : preE s x = 6 := by simp [hpre, o1, o2]
            rw [hv] at hr
            simp at hr
            subst hr
            cases hd : x.deep <;> simp only [↓sxc, sx, se, ↓reduceIte, Nat.reduceEqDiff, Nat.reduceAdd, Nat.reduceLT, Nat.reduceLeDiff, Nat.reduceSub, Nat.reduceMul, Int.reduceToNat, Int.reduceLT, Int.reduceLE, Int.reduceEq, ml_i0, hx, hk, hd, o1, o2]
          · have h0 : 0 ≤ x.on := by omega
            have hp' : s.pools[x.on.toNat]? = some (s.pools[x.on.toNat]'(by omega)) := List.getElem?_eq_getElem _
            rw [if_neg (by omega)] at hpre
            have hq := hp _ (List.mem_of_getElem? hp')
            generalize s.pools[x.on.toNat]'(by omega) = p at *
            have hs : sizeAt s x.on = p.size := by simp [sizeAt, hp']
            rw [hs] at hpre
            by_cases q1 : x.cnt < 1
            · have hv : preE s x = 2 := by simp [hpre, q1]
              rw [hv] at hr
              simp at hr
              subst hr
              cases hd : x.deep <;> simp only [↓sxc, sx, se, ↓reduceIte, Nat.reduceEqDiff, Nat.reduceAdd, Nat.reduceLT, Nat.reduceLeDiff, Nat.reduceSub, Nat.reduceMul, Int.reduceToNat, Int.reduceLT, Int.reduceLE, Int.reduceEq, ml_i0, hx, hk, hd, o1, o2, q1, h0, hp']
            · by_cases q2 : p.size < x.cnt
              · have hv : preE s x = 2 := by simp [hpre, q1, q2]
                rw [hv] at hr
                simp at hr
                subst hr
                cases hd : x.deep <;> simp only [↓sxc, sx, se, ↓reduceIte, Nat.reduceEqDiff, Nat.reduceAdd, Nat.reduceLT, Nat.reduceLeDiff, Nat.reduceSub, Nat.reduceMul, Int.reduceToNat, Int.reduceLT, Int.reduceLE, Int.reduceEq, ml_i0, hx, hk, hd, o1, o2, q1, q2, h0, hp']
              · have hv : preE s x = 0 := by simp [hpre, q1, q2]
                have w1 : wrapF .i64 (B0 + x.cnt) = B0 + x.cnt := wr_i64 (by omega) (by omega)
                by_cases f : p.size < B0 + x.cnt
                · simp [hv, badE, hk, hs, f] at hr
                  subst hr
                  cases hd : x.deep <;> simp only [↓sxc, sx, se, ↓reduceIte, Nat.reduceEqDiff, Nat.reduceAdd, Nat.reduceLT, Nat.reduceLeDiff, Nat.reduceSub, Nat.reduceMul, Int.reduceToNat, Int.reduceLT, Int.reduceLE, Int.reduceEq, ml_i0, hx, hk, hd, o1, o2, q1, q2, h0, hp', c0, w1, f]
                · simp [hv, badE, hk, hs, f] at hr
                  subst hr
                  cases hd : x.deep <;> simp only [↓sxc, sx, se, ↓reduceIte, Nat.reduceEqDiff, Nat.reduceAdd, Nat.reduceLT, Nat.reduceLeDiff, Nat.reduceSub, Nat.reduceMul, Int.reduceToNat, Int.reduceLT, Int.reduceLE, Int.reduceEq, ml_i0, hx, hk, hd, o1, o2, q1, q2, h0, hp', c0, w1, f]
      · by_cases hk : x.kind = 2
        · cases hdd : x.deep with
          | true =>
            have : preE s x = 1 := by simp [preE, hk, hdd]
            rw [this] at hr
            simp at hr
            subst hr
            simp only [↓sxc, sx, se, ↓reduceIte, Nat.reduceEqDiff, Nat.reduceAdd, Nat.reduceLT, Nat.reduceLeDiff, Nat.reduceSub, Nat.reduceMul, Int.reduceToNat, Int.reduceLT, Int.reduceLE, Int.reduceEq, ml_i0, hx, hk, hdd]
          | false =>
            have hpre : preE s x = if x.on < 0 ∨ (s.pools.length : Int) ≤ x.on then 6 else if x.cnt < 1 ∨ sizeAt s x.on < x.cnt then 2 else 0 := by simp [preE, nOf, hk, hdd]
            by_cases o1 : x.on < 0
            · have hv : preE s x = 6 := by simp [hpre, o1]
              rw [hv] at hr
              simp at hr
              subst hr
              simp only [↓sxc, sx, se, ↓reduceIte, Nat.reduceEqDiff, Nat.reduceAdd, Nat.reduceLT, Nat.reduceLeDiff, Nat.reduceSub, Nat.reduceMul, Int.reduceToNat, Int.reduceLT, Int.reduceLE, Int.reduceEq, ml_i0, hx, hk, hdd, o1]
            · by_cases o2 : (s.pools.length : Int) ≤ x.on
              · have hv : preE s x = 6 := by simp [hpre, o1, o2]
                rw [hv] at hr
                simp at hr
                subst hr
                simp only [↓sxc, sx, se, ↓reduceIte, Nat.reduceEqDiff, Nat.reduceAdd, Nat.reduceLT, Nat.reduceLeDiff, Nat.reduceSub, Nat.reduceMul, Int.reduceToNat, Int.reduceLT, Int.reduceLE, Int.reduceEq, ml_i0, hx, hk, hdd, o1, o2]
              · have h0 : 0 ≤ x.on := by omega
                have hp' : s.pools[x.on.toNat]? = some (s.pools[x.on.toNat]'(by omega)) := List.getElem?_eq_getElem _
                rw [if_neg (by omega)] at hpre
                have hq := hp _ (List.mem_of_getElem? hp')
                generalize s.pools[x.on.toNat]'(by omega) = p at *
                have hs : sizeAt s x.on = p.size := by simp [sizeAt, hp']
                rw [hs] at hpre
                by_cases q1 : x.cnt < 1
                · have hv : preE s x = 2 := by simp [hpre, q1]
                  rw [hv] at hr
                  simp at hr
                  subst hr
                  simp only [↓sxc, sx, se, ↓reduceIte, Nat.reduceEqDiff, Nat.reduceAdd, Nat.reduceLT, Nat.reduceLeDiff, Nat.reduceSub, Nat.reduceMul, Int.reduceToNat, Int.reduceLT, Int.reduceLE, Int.reduceEq, ml_i0, hx, hk, hdd, o1, o2, q1, h0, hp']
                · by_cases q2 : p.size < x.cnt
                  · have hv : preE s x = 2 := by simp [hpre, q1, q2]
                    rw [hv] at hr
                    simp at hr
                    subst hr
                    simp only [↓sxc, sx, se, ↓reduceIte, Nat.reduceEqDiff, Nat.reduceAdd, Nat.reduceLT, Nat.reduceLeDiff, Nat.reduceSub, Nat.reduceMul, Int.reduceToNat, Int.reduceLT, Int.reduceLE, Int.reduceEq, ml_i0, hx, hk, hdd, o1, o2, q1, q2, h0, hp']
                  · have hv : preE s x = 0 := by simp [hpre, q1, q2]
                    by_cases f : B0 < x.cnt
                    · simp [hv, badE, hk, f] at hr
                      subst hr
                      simp only [↓sxc, sx, se, ↓reduceIte, Nat.reduceEqDiff, Nat.reduceAdd, Nat.reduceLT, Nat.reduceLeDiff, Nat.reduceSub, Nat.reduceMul, Int.reduceToNat, Int.reduceLT, Int.reduceLE, Int.reduceEq, ml_i0, hx, hk, hdd, o1, o2, q1, q2, h0, hp', c0, f]
                    · simp [hv, badE, hk, f] at hr
                      subst hr
                      simp only [↓sxc, sx, se, ↓reduceIte, Nat.reduceEqDiff, Nat.reduceAdd, Nat.reduceLT, Nat.reduceLeDiff, Nat.reduceSub, Nat.reduceMul, Int.reduceToNat, Int.reduceLT, Int.reduceLE, Int.reduceEq, ml_i0, hx, hk, hdd, o1, o2, q1, q2, h0, hp', c0, f]
        · by_cases hk : x.kind = 3
          · by_cases hz : x.cnt = 0
            · cases hdd : x.deep with
              | true =>
                have : preE s x = 1 := by simp [preE, hk, hdd]
                rw [this] at hr
                simp at hr
                subst hr
                simp only [↓sxc, sx, se, ↓reduceIte, Nat.reduceEqDiff, Nat.reduceAdd, Nat.reduceLT, Nat.reduceLeDiff, Nat.reduceSub, Nat.reduceMul, Int.reduceToNat, Int.reduceLT, Int.reduceLE, Int.reduceEq, ml_i0, hx, hk, hz, hdd]
              | false =>
                have hpre : preE s x = if x.on < 0 ∨ (s.locks.length : Int) ≤ x.on then 6 else 0 := by simp [preE, nOf, hk, hz, hdd]
                by_cases o1 : x.on < 0
                · have hv : preE s x = 6 := by simp [hpre, o1]
                  rw [hv] at hr
                  simp at hr
                  subst hr
                  simp only [↓sxc, sx, se, ↓reduceIte, Nat.reduceEqDiff, Nat.reduceAdd, Nat.reduceLT, Nat.reduceLeDiff, Nat.reduceSub, Nat.reduceMul, Int.reduceToNat, Int.reduceLT, Int.reduceLE, Int.reduceEq, ml_i0, hx, hk, hz, hdd, o1]
                · by_cases o2 : (s.locks.length : Int) ≤ x.on
                  · have hv : preE s x = 6 := by simp [hpre, o1, o2]
                    rw [hv] at hr
                    simp at hr
                    subst hr
                    simp only [↓sxc, sx, se, ↓reduceIte, Nat.reduceEqDiff, Nat.reduceAdd, Nat.reduceLT, Nat.reduceLeDiff, Nat.reduceSub, Nat.reduceMul, Int.reduceToNat, Int.reduceLT, Int.reduceLE, Int.reduceEq, ml_i0, hx, hk, hz, hdd, o1, o2]
                  · have h0 : 0 ≤ x.on := by omega
                    have hp' : s.locks[x.on.toNat]? = some (s.locks[x.on.toNat]'(by omega)) := List.getElem?_eq_getElem _
                    rw [if_neg (by omega)] at hpre
                    have hv : preE s x = 0 := hpre
                    by_cases f : 0 < B1
                    · simp [hv, badE, hk, f] at hr
                      subst hr
                      simp only [↓sxc, sx, se, ↓reduceIte, Nat.reduceEqDiff, Nat.reduceAdd, Nat.reduceLT, Nat.reduceLeDiff, Nat.reduceSub, Nat.reduceMul, Int.reduceToNat, Int.reduceLT, Int.reduceLE, Int.reduceEq, ml_i0, hx, hk, hz, hdd, o1, o2, h0, c1, f]
                    · simp [hv, badE, hk, f] at hr
                      subst hr
                      simp only [↓sxc, sx, se, ↓reduceIte, Nat.reduceEqDiff, Nat.reduceAdd, Nat.reduceLT, Nat.reduceLeDiff, Nat.reduceSub, Nat.reduceMul, Int.reduceToNat, Int.reduceLT, Int.reduceLE, Int.reduceEq, ml_i0, hx, hk, hz, hdd, o1, o2, h0, c1, f]
            · have : preE s x = 1 := by simp [preE, hk, hz]
              rw [this] at hr
              simp at hr
              subst hr
              simp only [↓sxc, sx, se, ↓reduceIte, Nat.reduceEqDiff, Nat.reduceAdd, Nat.reduceLT, Nat.reduceLeDiff, Nat.reduceSub, Nat.reduceMul, Int.reduceToNat, Int.reduceLT, Int.reduceLE, Int.reduceEq, ml_i0, hx, hk, hz]
          · by_cases hk : x.kind = 4
            · by_cases hz : x.cnt = 0
              · cases hdd : x.deep with
                | true =>
                  have : preE s x = 1 := by simp [preE, hk, hdd]
                  rw [this] at hr
                  simp at hr
                  subst hr
                  simp only [↓sxc, sx, se, ↓reduceIte, Nat.reduceEqDiff, Nat.reduceAdd, Nat.reduceLT, Nat.reduceLeDiff, Nat.reduceSub, Nat.reduceMul, Int.reduceToNat, Int.reduceLT, Int.reduceLE, Int.reduceEq, ml_i0, hx, hk, hz, hdd]
                | false =>
                  have hpre : preE s x = if x.on < 0 ∨ (s.locks.length : Int) ≤ x.on then 6 else 0 := by simp [preE, nOf, hk, hz, hdd]
                  by_cases o1 : x.on < 0
                  · have hv : preE s x = 6 := by simp [hpre, o1]
                    rw [hv] at hr
                    simp at hr
                    subst hr
                    simp only [↓sxc, sx, se, ↓reduceIte, Nat.reduceEqDiff, Nat.reduceAdd, Nat.reduceLT, Nat.reduceLeDiff, Nat.reduceSub, Nat.reduceMul, Int.reduceToNat, Int.reduceLT, Int.reduceLE, Int.reduceEq, ml_i0, hx, hk, hz, hdd, o1]
                  · by_cases o2 : (s.locks.length : Int) ≤ x.on
                    · have hv : preE s x = 6 := by simp [hpre, o1, o2]
                      rw [hv] at hr
                      simp at hr
                      subst hr
                      simp only [↓sxc, sx, se, ↓reduceIte, Nat.reduceEqDiff, Nat.reduceAdd, Nat.reduceLT, Nat.reduceLeDiff, Nat.reduceSub, Nat.reduceMul, Int.reduceToNat, Int.reduceLT, Int.reduceLE, Int.reduceEq, ml_i0, hx, hk, hz, hdd, o1, o2]
                    · have h0 : 0 ≤ x.on := by omega
                      have hp' : s.locks[x.on.toNat]? = some (s.locks[x.on.toNat]'(by omega)) := List.getElem?_eq_getElem _
                      rw [if_neg (by omega)] at hpre
                      have hv : preE s x = 0 := hpre
                      by_cases f : B1 = 0
                      · simp [hv, badE, hk, f] at hr
                        subst hr
                        simp only [↓sxc, sx, se, ↓reduceIte, Nat.reduceEqDiff, Nat.reduceAdd, Nat.reduceLT, Nat.reduceLeDiff, Nat.reduceSub, Nat.reduceMul, Int.reduceToNat, Int.reduceLT, Int.reduceLE, Int.reduceEq, ml_i0, hx, hk, hz, hdd, o1, o2, h0, c1, f]
                      · simp [hv, badE, hk, f] at hr
                        subst hr
                        simp only [↓sxc, sx, se, ↓reduceIte, Nat.reduceEqDiff, Nat.reduceAdd, Nat.reduceLT, Nat.reduceLeDiff, Nat.reduceSub, Nat.reduceMul, Int.reduceToNat, Int.reduceLT, Int.reduceLE, Int.reduceEq, ml_i0, hx, hk, hz, hdd, o1, o2, h0, c1, f]
              · have : preE s x = 1 := by simp [preE, hk, hz]
                rw [this] at hr
                simp at hr
                subst hr
                simp only [↓sxc, sx, se, ↓reduceIte, Nat.reduceEqDiff, Nat.reduceAdd, Nat.reduceLT, Nat.reduceLeDiff, Nat.reduceSub, Nat.reduceMul, Int.reduceToNat, Int.reduceLT, Int.reduceLE, Int.reduceEq, ml_i0, hx, hk, hz]
            · by_cases hk : x.kind = 5
              · by_cases hz : x.cnt = 0
                · cases hdd : x.deep with
                  | true =>
                    have : preE s x = 1 := by simp [preE, hk, hdd]
                    rw [this] at hr
                    simp at hr
                    subst hr
                    simp only [↓sxc, sx, se, ↓reduceIte, Nat.reduceEqDiff, Nat.reduceAdd, Nat.reduceLT, Nat.reduceLeDiff, Nat.reduceSub, Nat.reduceMul, Int.reduceToNat, Int.reduceLT, Int.reduceLE, Int.reduceEq, ml_i0, hx, hk, hz, hdd]
                  | false =>
                    have hpre : preE s x = if x.on < 0 ∨ (s.cls.length : Int) ≤ x.on then 6 else 0 := by simp [preE, nOf, hk, hz, hdd]
                    by_cases o1 : x.on < 0
                    · have hv : preE s x = 6 := by simp [hpre, o1]
                      rw [hv] at hr
                      simp at hr
                      subst hr
                      simp only [↓sxc, sx, se, ↓reduceIte, Nat.reduceEqDiff, Nat.reduceAdd, Nat.reduceLT, Nat.reduceLeDiff, Nat.reduceSub, Nat.reduceMul, Int.reduceToNat, Int.reduceLT, Int.reduceLE, Int.reduceEq, ml_i0, hx, hk, hz, hdd, o1]
                    · by_cases o2 : (s.cls.length : Int) ≤ x.on
                      · have hv : preE s x = 6 := by simp [hpre, o1, o2]
                        rw [hv] at hr
                        simp at hr
                        subst hr
                        simp only [↓sxc, sx, se, ↓reduceIte, Nat.reduceEqDiff, Nat.reduceAdd, Nat.reduceLT, Nat.reduceLeDiff, Nat.reduceSub, Nat.reduceMul, Int.reduceToNat, Int.reduceLT, Int.reduceLE, Int.reduceEq, ml_i0, hx, hk, hz, hdd, o1, o2]
                      · have h0 : 0 ≤ x.on := by omega
                        have hp' : s.cls[x.on.toNat]? = some (s.cls[x.on.toNat]'(by omega)) := List.getElem?_eq_getElem _
                        rw [if_neg (by omega)] at hpre
                        generalize s.cls[x.on.toNat]'(by omega) = c at *
                        have hs : srvAt s x.on = c.srv := by simp [srvAt, hp']
                        have hv : preE s x = 0 := hpre
                        simp [hv, badE, hk, hs] at hr
                        cases f : c.srv
                        · simp [f] at hr
                          subst hr
                          simp only [↓sxc, sx, se, ↓reduceIte, Nat.reduceEqDiff, Nat.reduceAdd, Nat.reduceLT, Nat.reduceLeDiff, Nat.reduceSub, Nat.reduceMul, Int.reduceToNat, Int.reduceLT, Int.reduceLE, Int.reduceEq, ml_i0, hx, hk, hz, hdd, o1, o2, h0, hp', f]
                        · simp [f] at hr
                          subst hr
                          simp only [↓sxc, sx, se, ↓reduceIte, Nat.reduceEqDiff, Nat.reduceAdd, Nat.reduceLT, Nat.reduceLeDiff, Nat.reduceSub, Nat.reduceMul, Int.reduceToNat, Int.reduceLT, Int.reduceLE, Int.reduceEq, ml_i0, hx, hk, hz, hdd, o1, o2, h0, hp', f]
                · have : preE s x = 1 := by simp [preE, hk, hz]
                  rw [this] at hr
                  simp at hr
                  subst hr
                  simp only [↓sxc, sx, se, ↓reduceIte, Nat.reduceEqDiff, Nat.reduceAdd, Nat.reduceLT, Nat.reduceLeDiff, Nat.reduceSub, Nat.reduceMul, Int.reduceToNat, Int.reduceLT, Int.reduceLE, Int.reduceEq, ml_i0, hx, hk, hz]
              · omega
end Go.Am
