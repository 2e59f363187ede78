/- paths.hold.step. -/
import Derived.Test.YtflfnkdhmcfjlaaSpF
namespace Go.Am
open Go
set_option linter.unusedSimpArgs false
set_option linter.unusedVariables false
set_option maxRecDepth 100000

theorem getset {l : List Int} {i : Nat} {x : V} (h : i < l.length) : ((l.map vi).set i x)[i]? = some x := by simp [h]

/-- What a step leaves. -/
structure HOut (s : Sys) (u : List Int) (k : List Bool) (x : Stp) (a b : Nat) (m : Mem) (v : V) (m' : Mem) : Prop where
  res : v = vi (holdE s u k x)
  nx : m.next ≤ m'.next
  oth : ∀ j, j ≠ a → j ≠ b → m'.blk j = m.blk j
  ba : m'.blk a = some (.row 1 ((if preE s x = 0 then uStep u x else u).map vi))
  bb : m'.blk b = some (.row 1 ((if preE s x = 0 then kStep k x else k).map .bool))

set_option maxHeartbeats 4000000 in
theorem sp122 {F : Nat → Option Fn} (hA : HasA F) {lo : Nat} {m : Mem} (s : Sys) (x : Stp) {p a b : Nat} {u : List Int} {k : List Bool} (H : Hd lo m p a b u k) (hu : u.length = s.pools.length) (hk0 : k.length = s.locks.length) (hp : ∀ p ∈ s.pools, p.size ≤ 1000) (hb0 : ∀ n ∈ u, -1000000 ≤ n ∧ n ≤ 1000000) :
    ∃ v m', callw F 122 [.ptr p 0 0, vSys s, vStp x] lo m = some (v, m') ∧ HOut s u k x a b m v m' := by
  refine call_x hA.h122 rfl ?_
  have n1 : ∀ {m : Mem} {q : Option Blk}, (m.set a q).blk p = m.blk p := fun {m q} => set_ne H.pa
  have fin0 : ∀ {e : Int} {m' : Mem}, e = holdE s u k x → preE s x ≠ 0 → m.next ≤ m'.next → (∀ j, m'.blk j = m.blk j) → HOut s u k x a b m (vi e) m' := by
    intro e m' h1 h2 h3 h4
    subst h1
    exact ⟨rfl, h3, fun j _ _ => h4 j, by rw [h4, if_neg h2]; exact H.ba, by rw [h4, if_neg h2]; exact H.bb⟩
  by_cases e1 : x.kind < 1
  · have hv : preE s x = 1 := by simp [preE, e1]
    have k1 : ¬ x.kind = 1 := by omega
    have k2 : ¬ x.kind = 2 := by omega
    simp only [↓sxc, sx, se, ↓reduceIte, Nat.reduceEqDiff, Nat.reduceAdd, Nat.reduceLT, Nat.reduceLeDiff, Nat.reduceSub, Nat.reduceMul, Int.reduceToNat, Int.reduceLT, Int.reduceLE, Int.reduceEq, ml_i0, PX_ret, PX_nrm, e1, k1, k2]
    refine fin0 ?_ ?_ ?_ (fun _ => rfl) <;> simp [holdE, stepE, hv, bump_next]
  · by_cases e5 : 5 < x.kind
    · have hv : preE s x = 1 := by simp [preE, e5]
      have k1 : ¬ x.kind = 1 := by omega
      have k2 : ¬ x.kind = 2 := by omega
      simp only [↓sxc, sx, se, ↓reduceIte, Nat.reduceEqDiff, Nat.reduceAdd, Nat.reduceLT, Nat.reduceLeDiff, Nat.reduceSub, Nat.reduceMul, Int.reduceToNat, Int.reduceLT, Int.reduceLE, Int.reduceEq, ml_i0, PX_ret, PX_nrm, e1, e5, k1, k2]
      refine fin0 ?_ ?_ ?_ (fun _ => rfl) <;> simp [holdE, stepE, hv, bump_next]
    · by_cases hk : x.kind = 1
      · have hpre : preE s x = if x.on < 0 ∨ (s.pools.length : Int) ≤ x.on then 6 else if x.cnt < 1 ∨ sizeAt s x.on < x.cnt then 2 else 0 := by simp [preE, nOf, hk]
        by_cases o1 : x.on < 0
        · have hv : preE s x = 6 := by simp [hpre, o1]
          cases hd : x.deep <;> (simp only [↓sxc, sx, se, ↓reduceIte, Nat.reduceEqDiff, Nat.reduceAdd, Nat.reduceLT, Nat.reduceLeDiff, Nat.reduceSub, Nat.reduceMul, Int.reduceToNat, Int.reduceLT, Int.reduceLE, Int.reduceEq, ml_i0, PX_ret, PX_nrm, hk, hd, o1]; refine fin0 ?_ ?_ ?_ (fun _ => rfl) <;> simp [holdE, stepE, hv, bump_next])
        · by_cases o2 : (s.pools.length : Int) ≤ x.on
          · have hv : preE s x = 6 := by simp [hpre, o1, o2]
            cases hd : x.deep <;> (simp only [↓sxc, sx, se, ↓reduceIte, Nat.reduceEqDiff, Nat.reduceAdd, Nat.reduceLT, Nat.reduceLeDiff, Nat.reduceSub, Nat.reduceMul, Int.reduceToNat, Int.reduceLT, Int.reduceLE, Int.reduceEq, ml_i0, PX_ret, PX_nrm, hk, hd, o1, o2]; refine fin0 ?_ ?_ ?_ (fun _ => rfl) <;> simp [holdE, stepE, hv, bump_next])
          · have h0 : 0 ≤ x.on := by omega
            have hp' : s.pools[x.on.toNat]? = some (s.pools[x.on.toNat]'(by omega)) := List.getElem?_eq_getElem _
            rw [if_neg (by omega)] at hpre
            have hq := hp _ (List.mem_of_getElem? hp')
            generalize s.pools[x.on.toNat]'(by omega) = p at *
            have hs : sizeAt s x.on = p.size := by simp [sizeAt, hp']
            rw [hs] at hpre
            have hul : x.on < (u.length : Int) := by omega
            have hut : x.on.toNat < u.length := by omega
            have hu' : u[x.on.toNat]? = some (uAt u x.on) := by rw [List.getElem?_eq_getElem hut]; simp [uAt, List.getD, List.getElem?_eq_getElem hut]
            have hub := hb0 (uAt u x.on) (List.mem_of_getElem? hu')
            by_cases q1 : x.cnt < 1
            · have hv : preE s x = 2 := by simp [hpre, q1]
              cases hd : x.deep <;> (simp only [↓sxc, sx, se, ↓reduceIte, Nat.reduceEqDiff, Nat.reduceAdd, Nat.reduceLT, Nat.reduceLeDiff, Nat.reduceSub, Nat.reduceMul, Int.reduceToNat, Int.reduceLT, Int.reduceLE, Int.reduceEq, ml_i0, PX_ret, PX_nrm, hk, hd, o1, o2, q1, h0, hp']; refine fin0 ?_ ?_ ?_ (fun _ => rfl) <;> simp [holdE, stepE, hv, bump_next])
            · by_cases q2 : p.size < x.cnt
              · have hv : preE s x = 2 := by simp [hpre, q1, q2]
                cases hd : x.deep <;> (simp only [↓sxc, sx, se, ↓reduceIte, Nat.reduceEqDiff, Nat.reduceAdd, Nat.reduceLT, Nat.reduceLeDiff, Nat.reduceSub, Nat.reduceMul, Int.reduceToNat, Int.reduceLT, Int.reduceLE, Int.reduceEq, ml_i0, PX_ret, PX_nrm, hk, hd, o1, o2, q1, q2, h0, hp']; refine fin0 ?_ ?_ ?_ (fun _ => rfl) <;> simp [holdE, stepE, hv, bump_next])
              · have hv : preE s x = 0 := by simp [hpre, q1, q2]
                have w1 : wrapF .i64 (uAt u x.on + x.cnt) = uAt u x.on + x.cnt := wr_i64 (by omega) (by omega)
                have hus : uStep u x = u.set x.on.toNat (uAt u x.on + x.cnt) := by simp [uStep, hk]
                have hks : kStep k x = k := by simp [kStep, hk]
                by_cases f : uAt u x.on + x.cnt ≤ p.size
                · have hg : ¬ p.size < uAt u x.on + x.cnt := by omega
                  cases hd : x.deep <;> (simp only [↓sxc, sx, se, ↓reduceIte, Nat.reduceEqDiff, Nat.reduceAdd, Nat.reduceLT, Nat.reduceLeDiff, Nat.reduceSub, Nat.reduceMul, Int.reduceToNat, Int.reduceLT, Int.reduceLE, Int.reduceEq, ml_i0, PX_ret, PX_nrm, hk, hd, o1, o2, q1, q2, h0, hp', H.bp, H.ba, H.la, hul, hu', w1, n1, getset hut, f]; refine ⟨by simp [holdE, stepE, hv, badE, hk, hs, hg], by simp only [bump_next, set_next]; omega, fun j h1 h2 => by simp [set_ne h1, bump_blk], by simp [hv, hus, Mem.set, Mem.bump, List.map_set], by simp [hv, hks, Mem.set, Mem.bump, (H.ab).symm, H.bb]⟩)
                · have hg : p.size < uAt u x.on + x.cnt := by omega
                  cases hd : x.deep <;> (simp only [↓sxc, sx, se, ↓reduceIte, Nat.reduceEqDiff, Nat.reduceAdd, Nat.reduceLT, Nat.reduceLeDiff, Nat.reduceSub, Nat.reduceMul, Int.reduceToNat, Int.reduceLT, Int.reduceLE, Int.reduceEq, ml_i0, PX_ret, PX_nrm, hk, hd, o1, o2, q1, q2, h0, hp', H.bp, H.ba, H.la, hul, hu', w1, n1, getset hut, f]; refine ⟨by simp [holdE, stepE, hv, badE, hk, hs, hg], by simp only [bump_next, set_next]; omega, fun j h1 h2 => by simp [set_ne h1, bump_blk], by simp [hv, hus, Mem.set, Mem.bump, List.map_set], by simp [hv, hks, Mem.set, Mem.bump, (H.ab).symm, H.bb]⟩)
      · by_cases hk : x.kind = 2
        · cases hdd : x.deep with
          | true =>
            have hv : preE s x = 1 := by simp [preE, hk, hdd]
            simp only [↓sxc, sx, se, ↓reduceIte, Nat.reduceEqDiff, Nat.reduceAdd, Nat.reduceLT, Nat.reduceLeDiff, Nat.reduceSub, Nat.reduceMul, Int.reduceToNat, Int.reduceLT, Int.reduceLE, Int.reduceEq, ml_i0, PX_ret, PX_nrm, hk, hdd]
            refine fin0 ?_ ?_ ?_ (fun _ => rfl) <;> simp [holdE, stepE, hv, bump_next]
          | false =>
            have hpre : preE s x = if x.on < 0 ∨ (s.pools.length : Int) ≤ x.on then 6 else if x.cnt < 1 ∨ sizeAt s x.on < x.cnt then 2 else 0 := by simp [preE, nOf, hk, hdd]
            by_cases o1 : x.on < 0
            · have hv : preE s x = 6 := by simp [hpre, o1]
              simp only [↓sxc, sx, se, ↓reduceIte, Nat.reduceEqDiff, Nat.reduceAdd, Nat.reduceLT, Nat.reduceLeDiff, Nat.reduceSub, Nat.reduceMul, Int.reduceToNat, Int.reduceLT, Int.reduceLE, Int.reduceEq, ml_i0, PX_ret, PX_nrm, hk, hdd, o1]
              refine fin0 ?_ ?_ ?_ (fun _ => rfl) <;> simp [holdE, stepE, hv, bump_next]
            · by_cases o2 : (s.pools.length : Int) ≤ x.on
              · have hv : preE s x = 6 := by simp [hpre, o1, o2]
                simp only [↓sxc, sx, se, ↓reduceIte, Nat.reduceEqDiff, Nat.reduceAdd, Nat.reduceLT, Nat.reduceLeDiff, Nat.reduceSub, Nat.reduceMul, Int.reduceToNat, Int.reduceLT, Int.reduceLE, Int.reduceEq, ml_i0, PX_ret, PX_nrm, hk, hdd, o1, o2]
                refine fin0 ?_ ?_ ?_ (fun _ => rfl) <;> simp [holdE, stepE, hv, bump_next]
              · have h0 : 0 ≤ x.on := by omega
                have hp' : s.pools[x.on.toNat]? = some (s.pools[x.on.toNat]'(by omega)) := List.getElem?_eq_getElem _
                rw [if_neg (by omega)] at hpre
                have hq := hp _ (List.mem_of_getElem? hp')
                generalize s.pools[x.on.toNat]'(by omega) = p at *
                have hs : sizeAt s x.on = p.size := by simp [sizeAt, hp']
                rw [hs] at hpre
                have hul : x.on < (u.length : Int) := by omega
                have hut : x.on.toNat < u.length := by omega
                have hu' : u[x.on.toNat]? = some (uAt u x.on) := by rw [List.getElem?_eq_getElem hut]; simp [uAt, List.getD, List.getElem?_eq_getElem hut]
                have hub := hb0 (uAt u x.on) (List.mem_of_getElem? hu')
                by_cases q1 : x.cnt < 1
                · have hv : preE s x = 2 := by simp [hpre, q1]
                  simp only [↓sxc, sx, se, ↓reduceIte, Nat.reduceEqDiff, Nat.reduceAdd, Nat.reduceLT, Nat.reduceLeDiff, Nat.reduceSub, Nat.reduceMul, Int.reduceToNat, Int.reduceLT, Int.reduceLE, Int.reduceEq, ml_i0, PX_ret, PX_nrm, hk, hdd, o1, o2, q1, h0, hp']
                  refine fin0 ?_ ?_ ?_ (fun _ => rfl) <;> simp [holdE, stepE, hv, bump_next]
                · by_cases q2 : p.size < x.cnt
                  · have hv : preE s x = 2 := by simp [hpre, q1, q2]
                    simp only [↓sxc, sx, se, ↓reduceIte, Nat.reduceEqDiff, Nat.reduceAdd, Nat.reduceLT, Nat.reduceLeDiff, Nat.reduceSub, Nat.reduceMul, Int.reduceToNat, Int.reduceLT, Int.reduceLE, Int.reduceEq, ml_i0, PX_ret, PX_nrm, hk, hdd, o1, o2, q1, q2, h0, hp']
                    refine fin0 ?_ ?_ ?_ (fun _ => rfl) <;> simp [holdE, stepE, hv, bump_next]
                  · have hv : preE s x = 0 := by simp [hpre, q1, q2]
                    have w1 : wrapF .i64 (uAt u x.on - x.cnt) = uAt u x.on - x.cnt := wr_i64 (by omega) (by omega)
                    have hus : uStep u x = u.set x.on.toNat (uAt u x.on - x.cnt) := by simp [uStep, hk]
                    have hks : kStep k x = k := by simp [kStep, hk]
                    by_cases f : 0 ≤ uAt u x.on - x.cnt
                    · have hg : ¬ uAt u x.on < x.cnt := by omega
                      simp only [↓sxc, sx, se, ↓reduceIte, Nat.reduceEqDiff, Nat.reduceAdd, Nat.reduceLT, Nat.reduceLeDiff, Nat.reduceSub, Nat.reduceMul, Int.reduceToNat, Int.reduceLT, Int.reduceLE, Int.reduceEq, ml_i0, PX_ret, PX_nrm, hk, hdd, o1, o2, q1, q2, h0, hp', H.bp, H.ba, H.la, hul, hu', w1, n1, getset hut, f]
                      refine ⟨by simp [holdE, stepE, hv, badE, hk, hs, hg], by simp only [bump_next, set_next]; omega, fun j h1 h2 => by simp [set_ne h1, bump_blk], by simp [hv, hus, Mem.set, Mem.bump, List.map_set], by simp [hv, hks, Mem.set, Mem.bump, (H.ab).symm, H.bb]⟩
                    · have hg : uAt u x.on < x.cnt := by omega
                      simp only [↓sxc, sx, se, ↓reduceIte, Nat.reduceEqDiff, Nat.reduceAdd, Nat.reduceLT, Nat.reduceLeDiff, Nat.reduceSub, Nat.reduceMul, Int.reduceToNat, Int.reduceLT, Int.reduceLE, Int.reduceEq, ml_i0, PX_ret, PX_nrm, hk, hdd, o1, o2, q1, q2, h0, hp', H.bp, H.ba, H.la, hul, hu', w1, n1, getset hut, f]
                      refine ⟨by simp [holdE, stepE, hv, badE, hk, hs, hg], by simp only [bump_next, set_next]; omega, fun j h1 h2 => by simp [set_ne h1, bump_blk], by simp [hv, hus, Mem.set, Mem.bump, List.map_set], by simp [hv, hks, Mem.set, Mem.bump, (H.ab).symm, H.bb]⟩
        · by_cases hk : x.kind = 3
          · by_cases hz : x.cnt = 0
            · cases hdd : x.deep with
              | true =>
                have hv : preE s x = 1 := by simp [preE, hk, hdd]
                simp only [↓sxc, sx, se, ↓reduceIte, Nat.reduceEqDiff, Nat.reduceAdd, Nat.reduceLT, Nat.reduceLeDiff, Nat.reduceSub, Nat.reduceMul, Int.reduceToNat, Int.reduceLT, Int.reduceLE, Int.reduceEq, ml_i0, PX_ret, PX_nrm, hk, hz, hdd]
                refine fin0 ?_ ?_ ?_ (fun _ => rfl) <;> simp [holdE, stepE, hv, bump_next]
              | false =>
                have hpre : preE s x = if x.on < 0 ∨ (s.locks.length : Int) ≤ x.on then 6 else 0 := by simp [preE, nOf, hk, hz, hdd]
                by_cases o1 : x.on < 0
                · have hv : preE s x = 6 := by simp [hpre, o1]
                  simp only [↓sxc, sx, se, ↓reduceIte, Nat.reduceEqDiff, Nat.reduceAdd, Nat.reduceLT, Nat.reduceLeDiff, Nat.reduceSub, Nat.reduceMul, Int.reduceToNat, Int.reduceLT, Int.reduceLE, Int.reduceEq, ml_i0, PX_ret, PX_nrm, hk, hz, hdd, o1]
                  refine fin0 ?_ ?_ ?_ (fun _ => rfl) <;> simp [holdE, stepE, hv, bump_next]
                · by_cases o2 : (s.locks.length : Int) ≤ x.on
                  · have hv : preE s x = 6 := by simp [hpre, o1, o2]
                    simp only [↓sxc, sx, se, ↓reduceIte, Nat.reduceEqDiff, Nat.reduceAdd, Nat.reduceLT, Nat.reduceLeDiff, Nat.reduceSub, Nat.reduceMul, Int.reduceToNat, Int.reduceLT, Int.reduceLE, Int.reduceEq, ml_i0, PX_ret, PX_nrm, hk, hz, hdd, o1, o2]
                    refine fin0 ?_ ?_ ?_ (fun _ => rfl) <;> simp [holdE, stepE, hv, bump_next]
                  · have h0 : 0 ≤ x.on := by omega
                    have hp' : s.locks[x.on.toNat]? = some (s.locks[x.on.toNat]'(by omega)) := List.getElem?_eq_getElem _
                    rw [if_neg (by omega)] at hpre
                    have hkl : x.on < (k.length : Int) := by omega
                    have hkt : x.on.toNat < k.length := by omega
                    have hk' : k[x.on.toNat]? = some (kAt k x.on) := by rw [List.getElem?_eq_getElem hkt]; simp [kAt, List.getD, List.getElem?_eq_getElem hkt]
                    have hv : preE s x = 0 := hpre
                    have hus : uStep u x = u := by simp [uStep, hk]
                    have hks : kStep k x = k.set x.on.toNat true := by simp [kStep, hk]
                    cases f : kAt k x.on
                    · rw [f] at hk'
                      simp only [↓sxc, sx, se, ↓reduceIte, Nat.reduceEqDiff, Nat.reduceAdd, Nat.reduceLT, Nat.reduceLeDiff, Nat.reduceSub, Nat.reduceMul, Int.reduceToNat, Int.reduceLT, Int.reduceLE, Int.reduceEq, ml_i0, PX_ret, PX_nrm, hk, hz, hdd, o1, o2, h0, H.bp, H.bb, H.lb, hkl, hk', n1, f]
                      refine ⟨by simp [holdE, stepE, hv, badE, hk, f], by simp only [bump_next, set_next]; omega, fun j h1 h2 => by simp [set_ne h2, bump_blk], by simp [hv, hus, Mem.set, Mem.bump, H.ab, H.ba], by simp [hv, hks, Mem.set, Mem.bump, List.map_set]⟩
                    · rw [f] at hk'
                      simp only [↓sxc, sx, se, ↓reduceIte, Nat.reduceEqDiff, Nat.reduceAdd, Nat.reduceLT, Nat.reduceLeDiff, Nat.reduceSub, Nat.reduceMul, Int.reduceToNat, Int.reduceLT, Int.reduceLE, Int.reduceEq, ml_i0, PX_ret, PX_nrm, hk, hz, hdd, o1, o2, h0, H.bp, H.bb, H.lb, hkl, hk', n1, f]
                      refine ⟨by simp [holdE, stepE, hv, badE, hk, f], by simp only [bump_next, set_next]; omega, fun j h1 h2 => by simp [set_ne h2, bump_blk], by simp [hv, hus, Mem.set, Mem.bump, H.ab, H.ba], by simp [hv, hks, Mem.set, Mem.bump, List.map_set]⟩
            · have hv : preE s x = 1 := by simp [preE, hk, hz]
              simp only [↓sxc, sx, se, ↓reduceIte, Nat.reduceEqDiff, Nat.reduceAdd, Nat.reduceLT, Nat.reduceLeDiff, Nat.reduceSub, Nat.reduceMul, Int.reduceToNat, Int.reduceLT, Int.reduceLE, Int.reduceEq, ml_i0, PX_ret, PX_nrm, hk, hz]
              refine fin0 ?_ ?_ ?_ (fun _ => rfl) <;> simp [holdE, stepE, hv, bump_next]
          · by_cases hk : x.kind = 4
            · by_cases hz : x.cnt = 0
              · cases hdd : x.deep with
                | true =>
                  have hv : preE s x = 1 := by simp [preE, hk, hdd]
                  simp only [↓sxc, sx, se, ↓reduceIte, Nat.reduceEqDiff, Nat.reduceAdd, Nat.reduceLT, Nat.reduceLeDiff, Nat.reduceSub, Nat.reduceMul, Int.reduceToNat, Int.reduceLT, Int.reduceLE, Int.reduceEq, ml_i0, PX_ret, PX_nrm, hk, hz, hdd]
                  refine fin0 ?_ ?_ ?_ (fun _ => rfl) <;> simp [holdE, stepE, hv, bump_next]
                | false =>
                  have hpre : preE s x = if x.on < 0 ∨ (s.locks.length : Int) ≤ x.on then 6 else 0 := by simp [preE, nOf, hk, hz, hdd]
                  by_cases o1 : x.on < 0
                  · have hv : preE s x = 6 := by simp [hpre, o1]
                    simp only [↓sxc, sx, se, ↓reduceIte, Nat.reduceEqDiff, Nat.reduceAdd, Nat.reduceLT, Nat.reduceLeDiff, Nat.reduceSub, Nat.reduceMul, Int.reduceToNat, Int.reduceLT, Int.reduceLE, Int.reduceEq, ml_i0, PX_ret, PX_nrm, hk, hz, hdd, o1]
                    refine fin0 ?_ ?_ ?_ (fun _ => rfl) <;> simp [holdE, stepE, hv, bump_next]
                  · by_cases o2 : (s.locks.length : Int) ≤ x.on
                    · have hv : preE s x = 6 := by simp [hpre, o1, o2]
                      simp only [↓sxc, sx, se, ↓reduceIte, Nat.reduceEqDiff, Nat.reduceAdd, Nat.reduceLT, Nat.reduceLeDiff, Nat.reduceSub, Nat.reduceMul, Int.reduceToNat, Int.reduceLT, Int.reduceLE, Int.reduceEq, ml_i0, PX_ret, PX_nrm, hk, hz, hdd, o1, o2]
                      refine fin0 ?_ ?_ ?_ (fun _ => rfl) <;> simp [holdE, stepE, hv, bump_next]
                    · have h0 : 0 ≤ x.on := by omega
                      have hp' : s.locks[x.on.toNat]? = some (s.locks[x.on.toNat]'(by omega)) := List.getElem?_eq_getElem _
                      rw [if_neg (by omega)] at hpre
                      have hkl : x.on < (k.length : Int) := by omega
                      have hkt : x.on.toNat < k.length := by omega
                      have hk' : k[x.on.toNat]? = some (kAt k x.on) := by rw [List.getElem?_eq_getElem hkt]; simp [kAt, List.getD, List.getElem?_eq_getElem hkt]
                      have hv : preE s x = 0 := hpre
                      have hus : uStep u x = u := by simp [uStep, hk]
                      have hks : kStep k x = k.set x.on.toNat false := by simp [kStep, hk]
                      cases f : kAt k x.on
                      · rw [f] at hk'
                        simp only [↓sxc, sx, se, ↓reduceIte, Nat.reduceEqDiff, Nat.reduceAdd, Nat.reduceLT, Nat.reduceLeDiff, Nat.reduceSub, Nat.reduceMul, Int.reduceToNat, Int.reduceLT, Int.reduceLE, Int.reduceEq, ml_i0, PX_ret, PX_nrm, hk, hz, hdd, o1, o2, h0, H.bp, H.bb, H.lb, hkl, hk', n1, f]
                        refine ⟨by simp [holdE, stepE, hv, badE, hk, f], by simp only [bump_next, set_next]; omega, fun j h1 h2 => by simp [set_ne h2, bump_blk], by simp [hv, hus, Mem.set, Mem.bump, H.ab, H.ba], by simp [hv, hks, Mem.set, Mem.bump, List.map_set]⟩
                      · rw [f] at hk'
                        simp only [↓sxc, sx, se, ↓reduceIte, Nat.reduceEqDiff, Nat.reduceAdd, Nat.reduceLT, Nat.reduceLeDiff, Nat.reduceSub, Nat.reduceMul, Int.reduceToNat, Int.reduceLT, Int.reduceLE, Int.reduceEq, ml_i0, PX_ret, PX_nrm, hk, hz, hdd, o1, o2, h0, H.bp, H.bb, H.lb, hkl, hk', n1, f]
                        refine ⟨by simp [holdE, stepE, hv, badE, hk, f], by simp only [bump_next, set_next]; omega, fun j h1 h2 => by simp [set_ne h2, bump_blk], by simp [hv, hus, Mem.set, Mem.bump, H.ab, H.ba], by simp [hv, hks, Mem.set, Mem.bump, List.map_set]⟩
              · have hv : preE s x = 1 := by simp [preE, hk, hz]
                simp only [↓sxc, sx, se, ↓reduceIte, Nat.reduceEqDiff, Nat.reduceAdd, Nat.reduceLT, Nat.reduceLeDiff, Nat.reduceSub, Nat.reduceMul, Int.reduceToNat, Int.reduceLT, Int.reduceLE, Int.reduceEq, ml_i0, PX_ret, PX_nrm, hk, hz]
                refine fin0 ?_ ?_ ?_ (fun _ => rfl) <;> simp [holdE, stepE, hv, bump_next]
            · by_cases hk : x.kind = 5
              · by_cases hz : x.cnt = 0
                · cases hdd : x.deep with
                  | true =>
                    have hv : preE s x = 1 := by simp [preE, hk, hdd]
                    simp only [↓sxc, sx, se, ↓reduceIte, Nat.reduceEqDiff, Nat.reduceAdd, Nat.reduceLT, Nat.reduceLeDiff, Nat.reduceSub, Nat.reduceMul, Int.reduceToNat, Int.reduceLT, Int.reduceLE, Int.reduceEq, ml_i0, PX_ret, PX_nrm, hk, hz, hdd]
                    refine fin0 ?_ ?_ ?_ (fun _ => rfl) <;> simp [holdE, stepE, hv, bump_next]
                  | false =>
                    have hpre : preE s x = if x.on < 0 ∨ (s.cls.length : Int) ≤ x.on then 6 else 0 := by simp [preE, nOf, hk, hz, hdd]
                    by_cases o1 : x.on < 0
                    · have hv : preE s x = 6 := by simp [hpre, o1]
                      simp only [↓sxc, sx, se, ↓reduceIte, Nat.reduceEqDiff, Nat.reduceAdd, Nat.reduceLT, Nat.reduceLeDiff, Nat.reduceSub, Nat.reduceMul, Int.reduceToNat, Int.reduceLT, Int.reduceLE, Int.reduceEq, ml_i0, PX_ret, PX_nrm, hk, hz, hdd, o1]
                      refine fin0 ?_ ?_ ?_ (fun _ => rfl) <;> simp [holdE, stepE, hv, bump_next]
                    · by_cases o2 : (s.cls.length : Int) ≤ x.on
                      · have hv : preE s x = 6 := by simp [hpre, o1, o2]
                        simp only [↓sxc, sx, se, ↓reduceIte, Nat.reduceEqDiff, Nat.reduceAdd, Nat.reduceLT, Nat.reduceLeDiff, Nat.reduceSub, Nat.reduceMul, Int.reduceToNat, Int.reduceLT, Int.reduceLE, Int.reduceEq, ml_i0, PX_ret, PX_nrm, hk, hz, hdd, o1, o2]
                        refine fin0 ?_ ?_ ?_ (fun _ => rfl) <;> simp [holdE, stepE, hv, bump_next]
                      · have h0 : 0 ≤ x.on := by omega
                        have hp' : s.cls[x.on.toNat]? = some (s.cls[x.on.toNat]'(by omega)) := List.getElem?_eq_getElem _
                        rw [if_neg (by omega)] at hpre
                        generalize s.cls[x.on.toNat]'(by omega) = c at *
                        have hs : srvAt s x.on = c.srv := by simp [srvAt, hp']
                        have hv : preE s x = 0 := hpre
                        have hus : uStep u x = u := by simp [uStep, hk]
                        have hks : kStep k x = k := by simp [kStep, hk]
                        cases f : c.srv
                        · simp only [↓sxc, sx, se, ↓reduceIte, Nat.reduceEqDiff, Nat.reduceAdd, Nat.reduceLT, Nat.reduceLeDiff, Nat.reduceSub, Nat.reduceMul, Int.reduceToNat, Int.reduceLT, Int.reduceLE, Int.reduceEq, ml_i0, PX_ret, PX_nrm, hk, hz, hdd, o1, o2, h0, hp', f]
                          exact ⟨by simp [holdE, stepE, hv, badE, hk, hs, f], by simp [bump_next], fun j h1 h2 => rfl, by simp [hv, hus, Mem.bump, H.ba], by simp [hv, hks, Mem.bump, H.bb]⟩
                        · simp only [↓sxc, sx, se, ↓reduceIte, Nat.reduceEqDiff, Nat.reduceAdd, Nat.reduceLT, Nat.reduceLeDiff, Nat.reduceSub, Nat.reduceMul, Int.reduceToNat, Int.reduceLT, Int.reduceLE, Int.reduceEq, ml_i0, PX_ret, PX_nrm, hk, hz, hdd, o1, o2, h0, hp', f]
                          exact ⟨by simp [holdE, stepE, hv, badE, hk, hs, f], by simp [bump_next], fun j h1 h2 => rfl, by simp [hv, hus, Mem.bump, H.ba], by simp [hv, hks, Mem.bump, H.bb]⟩
                · have hv : preE s x = 1 := by simp [preE, hk, hz]
                  simp only [↓sxc, sx, se, ↓reduceIte, Nat.reduceEqDiff, Nat.reduceAdd, Nat.reduceLT, Nat.reduceLeDiff, Nat.reduceSub, Nat.reduceMul, Int.reduceToNat, Int.reduceLT, Int.reduceLE, Int.reduceEq, ml_i0, PX_ret, PX_nrm, hk, hz]
                  refine fin0 ?_ ?_ ?_ (fun _ => rfl) <;> simp [holdE, stepE, hv, bump_next]
              · omega

end Go.Am
