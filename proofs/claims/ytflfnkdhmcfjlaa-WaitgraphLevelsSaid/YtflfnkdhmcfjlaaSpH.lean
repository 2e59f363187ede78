/- paths.checkClass is the reference's class. -/
import Derived.Test.YtflfnkdhmcfjlaaSpG
namespace Go.Am
open Go
set_option linter.unusedSimpArgs false
set_option linter.unusedVariables false
set_option maxRecDepth 100000

/-- What is held is what the steps so far say. -/
structure Rl (s : Sys) (pre : List Stp) (u : List Int) (k : List Bool) : Prop where
  ul : u.length = s.pools.length
  kl : k.length = s.locks.length
  u : ∀ j, j < s.pools.length → u[j]? = some (bal j 0 pre)
  k : ∀ j, j < s.locks.length → ∃ b, k[j]? = some b ∧ bal j 1 pre = if b = true then 1 else 0

theorem stepE_congr {s : Sys} {x : Stp} {b0 b1 c0 c1 : Int} (h0 : preE s x = 0 → (x.kind = 1 ∨ x.kind = 2) → b0 = c0) (h1 : preE s x = 0 → (x.kind = 3 ∨ x.kind = 4) → b1 = c1) : stepE s x b0 b1 = stepE s x c0 c1 := by
  unfold stepE
  by_cases hp : preE s x = 0
  · simp only [hp, ne_eq, not_true, if_false]
    have : badE s x b0 b1 = badE s x c0 c1 := by
      unfold badE
      by_cases k1 : x.kind = 1
      · simp only [k1, if_true, h0 hp (.inl k1)]
      · by_cases k2 : x.kind = 2
        · simp only [k1, k2, if_false, if_true, h0 hp (.inr k2)]
        · by_cases k3 : x.kind = 3
          · simp only [k1, k2, k3, if_false, if_true, h1 hp (.inl k3), Int.reduceEq]
          · by_cases k4 : x.kind = 4
            · simp only [k1, k2, k3, k4, if_false, if_true, h1 hp (.inr k4), Int.reduceEq]
            · simp only [k1, k2, k3, k4, if_false]
    rw [this]
  · simp only [hp, ne_eq, not_false_iff, if_true]

theorem preE_on {s : Sys} {x : Stp} (h : preE s x = 0) : 0 ≤ x.on ∧ x.on < nOf s x ∧ 1 ≤ x.kind ∧ x.kind ≤ 5 := by
  unfold preE at h
  split at h
  · omega
  · rename_i h1
    have k1 : ¬ x.kind < 1 := fun h => h1 (.inl h)
    have k2 : ¬ 5 < x.kind := fun h => h1 (.inr (.inl h))
    split at h
    · omega
    · omega

theorem Rl.uAt {s : Sys} {pre : List Stp} {u : List Int} {k : List Bool} (h : Rl s pre u k) {x : Stp} (hp : preE s x = 0) (hk : x.kind = 1 ∨ x.kind = 2) : Go.Am.uAt u x.on = bal x.on 0 pre ∧ x.on.toNat < u.length ∧ ((x.on.toNat : Nat) : Int) = x.on := by
  obtain ⟨o1, o2, _⟩ := preE_on hp
  have : nOf s x = s.pools.length := by
    unfold nOf
    rcases hk with hk | hk <;> simp [hk]
  have hlt : x.on.toNat < s.pools.length := by omega
  have := h.u _ hlt
  refine ⟨?_, by rw [h.ul]; exact hlt, by omega⟩
  unfold Go.Am.uAt
  rw [List.getD_eq_getElem?_getD, this, Option.getD_some]
  rw [show ((x.on.toNat : Nat) : Int) = x.on by omega]

theorem Rl.kAt {s : Sys} {pre : List Stp} {u : List Int} {k : List Bool} (h : Rl s pre u k) {x : Stp} (hp : preE s x = 0) (hk : x.kind = 3 ∨ x.kind = 4) : (if Go.Am.kAt k x.on = true then (1 : Int) else 0) = bal x.on 1 pre ∧ x.on.toNat < k.length ∧ ((x.on.toNat : Nat) : Int) = x.on := by
  obtain ⟨o1, o2, _⟩ := preE_on hp
  have : nOf s x = s.locks.length := by
    unfold nOf
    rcases hk with hk | hk <;> simp [hk]
  have hlt : x.on.toNat < s.locks.length := by omega
  obtain ⟨b, hb, hb2⟩ := h.k _ hlt
  refine ⟨?_, by rw [h.kl]; exact hlt, by omega⟩
  unfold Go.Am.kAt
  rw [List.getD_eq_getElem?_getD, hb, Option.getD_some]
  rw [show ((x.on.toNat : Nat) : Int) = x.on by omega] at hb2
  rw [hb2]

theorem Rl.holdE {s : Sys} {pre : List Stp} {u : List Int} {k : List Bool} (h : Rl s pre u k) (x : Stp) : Go.Am.holdE s u k x = stepE s x (bal x.on 0 pre) (bal x.on 1 pre) := by
  unfold Go.Am.holdE
  exact stepE_congr (fun hp hk => (h.uAt hp hk).1) (fun hp hk => (h.kAt hp hk).1)

theorem stepE_zero {s : Sys} {x : Stp} {b0 b1 : Int} (h : stepE s x b0 b1 = 0) : preE s x = 0 ∧ badE s x b0 b1 = false := by
  unfold stepE at h
  split at h
  · rename_i h1; exact absurd h h1
  · rename_i h1
    split at h
    · omega
    · rename_i h2; exact ⟨by simpa using h1, by simpa using h2⟩

theorem bal_one {on kind : Int} {pre : List Stp} {x : Stp} : bal on kind (pre ++ [x]) = bal on kind pre + delta on kind x := by
  rw [bal_append]
  simp [bal]

theorem Rl.step {s : Sys} {pre : List Stp} {u : List Int} {k : List Bool} (h : Rl s pre u k) {x : Stp} (he : stepE s x (bal x.on 0 pre) (bal x.on 1 pre) = 0) : Rl s (pre ++ [x]) (uStep u x) (kStep k x) := by
  obtain ⟨hp, hb⟩ := stepE_zero he
  refine ⟨by rw [uStep_len]; exact h.ul, by rw [kStep_len]; exact h.kl, fun j hj => ?_, fun j hj => ?_⟩
  · rw [bal_one]
    have hu := h.u j hj
    unfold uStep
    by_cases k1 : x.kind = 1
    · obtain ⟨a1, a2, a3⟩ := h.uAt hp (.inl k1)
      rw [if_pos k1, List.getElem?_set]
      by_cases e : x.on.toNat = j
      · rw [if_pos e, if_pos a2, a1]
        have e2 : x.on = (j : Int) := by omega
        simp [delta, k1, e2]
      · rw [if_neg e, hu]
        have : ¬ x.on = (j : Int) := by omega
        simp [delta, this]
    · by_cases k2 : x.kind = 2
      · obtain ⟨a1, a2, a3⟩ := h.uAt hp (.inr k2)
        rw [if_neg k1, if_pos k2, List.getElem?_set]
        by_cases e : x.on.toNat = j
        · rw [if_pos e, if_pos a2, a1]
          have e2 : x.on = (j : Int) := by omega
          simp [delta, k2, e2]
          omega
        · rw [if_neg e, hu]
          have : ¬ x.on = (j : Int) := by omega
          simp [delta, this]
      · rw [if_neg k1, if_neg k2, hu]
        simp [delta, k1, k2]
  · rw [bal_one]
    obtain ⟨b, hk, hk2⟩ := h.k j hj
    unfold kStep
    by_cases k3 : x.kind = 3
    · obtain ⟨a1, a2, a3⟩ := h.kAt hp (.inl k3)
      rw [if_pos k3, List.getElem?_set]
      by_cases e : x.on.toNat = j
      · have e2 : x.on = (j : Int) := by omega
        refine ⟨true, by rw [if_pos e, if_pos a2], ?_⟩
        simp [badE, k3] at hb
        rw [← a1] at hb
        rw [← e2, ← a1]
        have : ¬ Go.Am.kAt k x.on = true := by
          intro h1
          rw [if_pos h1] at hb
          omega
        rw [if_neg this]
        simp [delta, k3]
      · refine ⟨b, by rw [if_neg e, hk], ?_⟩
        have : ¬ x.on = (j : Int) := by omega
        rw [hk2]
        simp [delta, this]
    · by_cases k4 : x.kind = 4
      · obtain ⟨a1, a2, a3⟩ := h.kAt hp (.inr k4)
        rw [if_neg k3, if_pos k4, List.getElem?_set]
        by_cases e : x.on.toNat = j
        · have e2 : x.on = (j : Int) := by omega
          refine ⟨false, by rw [if_pos e, if_pos a2], ?_⟩
          simp [badE, k4] at hb
          rw [← a1] at hb
          rw [← e2, ← a1]
          have : Go.Am.kAt k x.on = true := by
            apply Classical.byContradiction
            intro h1
            rw [if_neg h1] at hb
            omega
          rw [if_pos this]
          simp [delta, k4]
        · refine ⟨b, by rw [if_neg e, hk], ?_⟩
          have : ¬ x.on = (j : Int) := by omega
          rw [hk2]
          simp [delta, this]
      · refine ⟨b, by rw [if_neg k3, if_neg k4, hk], ?_⟩
        rw [hk2]
        simp [delta, k3, k4]

theorem Rl.start {s : Sys} : Rl s [] (List.replicate s.pools.length 0) (List.replicate s.locks.length false) :=
  ⟨by simp, by simp, fun j hj => by simp [hj, bal], fun j hj => ⟨false, by simp [hj], by simp [bal]⟩⟩

theorem Rl.over0 {s : Sys} {pre : List Stp} {u : List Int} {k : List Bool} (h : Rl s pre u k) : u.any (fun n => decide (0 < n)) = over pre 0 s.pools.length := by
  unfold over
  rw [Bool.eq_iff_iff, List.any_eq_true, List.any_eq_true]
  constructor
  · rintro ⟨n, hn, h0⟩
    obtain ⟨j, hj, rfl⟩ := List.getElem_of_mem hn
    have := h.u j (by rw [← h.ul]; exact hj)
    rw [List.getElem?_eq_getElem hj] at this
    refine ⟨j, List.mem_range.2 (by rw [← h.ul]; exact hj), ?_⟩
    rw [← Option.some.inj this]
    exact h0
  · rintro ⟨j, hj, h0⟩
    exact ⟨_, List.mem_of_getElem? (h.u j (List.mem_range.1 hj)), h0⟩

theorem Rl.over1 {s : Sys} {pre : List Stp} {u : List Int} {k : List Bool} (h : Rl s pre u k) : k.any (fun b => decide (true = b)) = over pre 1 s.locks.length := by
  unfold over
  rw [Bool.eq_iff_iff, List.any_eq_true, List.any_eq_true]
  constructor
  · rintro ⟨n, hn, h0⟩
    obtain ⟨j, hj, rfl⟩ := List.getElem_of_mem hn
    obtain ⟨b, h1, h2⟩ := h.k j (by rw [← h.kl]; exact hj)
    rw [List.getElem?_eq_getElem hj] at h1
    refine ⟨j, List.mem_range.2 (by rw [← h.kl]; exact hj), ?_⟩
    simp at h0
    rw [h2, ← Option.some.inj h1, if_pos h0]
    rfl
  · rintro ⟨j, hj, h0⟩
    obtain ⟨b, h1, h2⟩ := h.k j (List.mem_range.1 hj)
    refine ⟨_, List.mem_of_getElem? h1, ?_⟩
    cases b with
    | true => rfl
    | false => rw [h2] at h0; simp at h0

theorem sp114 {F : Nat → Option Fn} (hA : HasA F) {lo : Nat} {m : Mem} (s : Sys) (c : Cls) (hp : ∀ p ∈ s.pools, p.size ≤ 1000) (h1 : s.pools.length < 100) (h2 : s.locks.length < 100) : callw F 114 [vSys s, vCls c] lo m = some (vi (clsE s c), m) := by
  have loop : c.steps.length < 100 → ∀ (p a b : Nat) (t : List Stp) (i : Nat) (u : List Int) (k : List Bool) (m' : Mem) (Q : Ex → St → Prop), c.steps.drop i = t → Rl s (c.steps.take i) u k → Hd m.next m' p a b u k → (∀ x ∈ c.steps.take i, -1000 ≤ x.cnt ∧ x.cnt ≤ 1000) →
      (stepsE s (c.steps.take i) t ≠ 0 → ∀ m', Q .ret ⟨[(4, vi (stepsE s (c.steps.take i) t))], [], [], m'⟩) →
      (stepsE s (c.steps.take i) t = 0 → ∀ u k m' e, Rl s c.steps u k → Hd m.next m' p a b u k → Q (.exit 0) ⟨(5, .ptr p 0 0) :: e, [(2, vSys s)], [], m'⟩) →
      W F m.next L114_1 ⟨[(5, .ptr p 0 0), (30, vStps c.steps), (31, vi c.steps.length), (32, vi i)], [(2, vSys s)], [], m'⟩ Q := by
    intro hlen p a b t
    induction t with
    | nil =>
      intro i u k m' Q hd hr hh hb q1 q2
      have hlt := drop_nil hd
      rw [W_L (c := L114_1) rfl]
      have : ¬ ((i : Nat) : Int) < (c.steps.length : Int) := by omega
      simp only [↓sxc, sx, se, ↓reduceIte, Nat.reduceEqDiff, Nat.reduceAdd, Nat.reduceLT, Nat.reduceLeDiff, Nat.reduceSub, Nat.reduceMul, Int.reduceToNat, Int.reduceLT, Int.reduceLE, Int.reduceEq, ml_i0, this]
      rw [List.take_of_length_le hlt] at hr
      exact q2 rfl u k m' _ hr hh
    | cons x t ih =>
      intro i u k m' Q hd hr hh hb q1 q2
      obtain ⟨hg, hd', hlt⟩ := drop_cons hd
      rw [W_L (c := L114_1) rfl]
      have : ((i : Nat) : Int) < (c.steps.length : Int) := by omega
      have wr : wrapF .i64 ((i : Int) + 1) = ((i + 1 : Nat) : Int) := by rw [wr_i64 (by omega) (by omega)]; rfl
      have hub : ∀ n ∈ u, -1000000 ≤ n ∧ n ≤ 1000000 := by
        intro n hn
        obtain ⟨j, hj, rfl⟩ := List.getElem_of_mem hn
        have h3 := hr.u j (by rw [← hr.ul]; exact hj)
        rw [List.getElem?_eq_getElem hj] at h3
        rw [Option.some.inj h3]
        have := bal_bd (on := j) (kind := 0) hb
        rw [List.length_take] at this
        have : min i c.steps.length ≤ 100 := by omega
        omega
      obtain ⟨v, m'', hc, ho⟩ := sp122 hA (lo := m.next) s x hh hr.ul hr.kl hp hub
      have hv := ho.res
      rw [hr.holdE] at hv
      subst hv
      unfold stepsE at q1 q2
      by_cases he : stepE s x (bal x.on 0 (c.steps.take i)) (bal x.on 1 (c.steps.take i)) = 0
      · rw [if_neg (by simpa using he)] at q1 q2
        simp only [↓sxc, sx, se, ↓reduceIte, Nat.reduceEqDiff, Nat.reduceAdd, Nat.reduceLT, Nat.reduceLeDiff, Nat.reduceSub, Nat.reduceMul, Int.reduceToNat, Int.reduceLT, Int.reduceLE, Int.reduceEq, ml_i0, this, hg, hc, he, wr]
        have hpr := (stepE_zero he).1
        have hr' := hr.step he
        rw [← take_succ_drop hd] at q1 q2 hr'
        refine ih (i + 1) (uStep u x) (kStep k x) m'' Q hd' hr' ?_ (fun y hy => ?_) q1 q2
        · have hba := ho.ba
          have hbb := ho.bb
          rw [if_pos hpr] at hba hbb
          have hn := ho.nx
          exact ⟨hh.pa, hh.pb, hh.ab, hh.lp, hh.la, hh.lb, Nat.lt_of_lt_of_le hh.hp hn, Nat.lt_of_lt_of_le hh.ha hn, Nat.lt_of_lt_of_le hh.hb hn, by rw [ho.oth p hh.pa hh.pb, uStep_len, kStep_len]; exact hh.bp, hba, hbb⟩
        · rw [take_succ_drop hd] at hy
          rcases List.mem_append.1 hy with hy | hy
          · exact hb y hy
          · simp at hy
            subst hy
            exact stepE_cnt he hp
      · rw [if_pos he] at q1
        simp only [↓sxc, sx, se, ↓reduceIte, Nat.reduceEqDiff, Nat.reduceAdd, Nat.reduceLT, Nat.reduceLeDiff, Nat.reduceSub, Nat.reduceMul, Int.reduceToNat, Int.reduceLT, Int.reduceLE, Int.reduceEq, ml_i0, this, hg, hc, he]
        exact q1 he _
  refine call_p hA.h114 rfl ?_
  by_cases w1 : c.wk < 0
  · have e : clsE s c = 2 := by simp [clsE, w1]
    simp only [↓sxc, sx, se, ↓reduceIte, Nat.reduceEqDiff, Nat.reduceAdd, Nat.reduceLT, Nat.reduceLeDiff, Nat.reduceSub, Nat.reduceMul, Int.reduceToNat, Int.reduceLT, Int.reduceLE, Int.reduceEq, ml_i0, w1, e]
  · by_cases w2 : 4 < c.wk
    · have e : clsE s c = 2 := by simp [clsE, w2]
      simp only [↓sxc, sx, se, ↓reduceIte, Nat.reduceEqDiff, Nat.reduceAdd, Nat.reduceLT, Nat.reduceLeDiff, Nat.reduceSub, Nat.reduceMul, Int.reduceToNat, Int.reduceLT, Int.reduceLE, Int.reduceEq, ml_i0, w1, w2, e]
    · by_cases l1 : (c.steps.length : Int) < 1
      · have e : clsE s c = 9 := by
          have : c.steps.length < 1 := by omega
          simp only [clsE, w1, w2, or_self, if_false, this, true_or, if_true]
        simp only [↓sxc, sx, se, ↓reduceIte, Nat.reduceEqDiff, Nat.reduceAdd, Nat.reduceLT, Nat.reduceLeDiff, Nat.reduceSub, Nat.reduceMul, Int.reduceToNat, Int.reduceLT, Int.reduceLE, Int.reduceEq, ml_i0, w1, w2, l1, e]
      · by_cases l2 : 12 < (c.steps.length : Int)
        · have e : clsE s c = 9 := by
            have : 12 < c.steps.length := by omega
            simp only [clsE, w1, w2, or_self, if_false, this, or_true, if_true]
          simp only [↓sxc, sx, se, ↓reduceIte, Nat.reduceEqDiff, Nat.reduceAdd, Nat.reduceLT, Nat.reduceLeDiff, Nat.reduceSub, Nat.reduceMul, Int.reduceToNat, Int.reduceLT, Int.reduceLE, Int.reduceEq, ml_i0, w1, w2, l1, l2, e]
        · have hlen : c.steps.length < 100 := by omega
          have e : clsE s c = if stepsE s [] c.steps ≠ 0 then stepsE s [] c.steps else if over c.steps 0 s.pools.length = true then 11 else if over c.steps 1 s.locks.length = true then 11 else 0 := by
            have a1 : ¬ c.steps.length < 1 := by omega
            have a2 : ¬ 12 < c.steps.length := by omega
            simp only [clsE, w1, w2, or_self, if_false, a1, a2]
          obtain ⟨v, m1, hc, a, b, rfl, hab, la, lb, ha, hb, hba, hbb, hold⟩ := sp121 hA (lo := m.next) (m := m) s h1 h2
          have hml : m.next ≤ m1.next := by omega
          simp only [↓sxc, sx, se, ↓reduceIte, Nat.reduceEqDiff, Nat.reduceAdd, Nat.reduceLT, Nat.reduceLeDiff, Nat.reduceSub, Nat.reduceMul, Int.reduceToNat, Int.reduceLT, Int.reduceLE, Int.reduceEq, ml_i0, w1, w2, l1, l2, hc, hml]
          have na : a ≠ m1.next := by omega
          have nb : b ≠ m1.next := by omega
          refine loop hlen m1.next a b c.steps 0 (List.replicate s.pools.length 0) (List.replicate s.locks.length false) _ _ rfl Rl.start ⟨na.symm, nb.symm, hab, by omega, la, lb, Nat.lt_succ_self _, Nat.lt_succ_of_lt ha, Nat.lt_succ_of_lt hb, by simp [Mem.set], by simp [Mem.set, Mem.bump, na, hba], by simp [Mem.set, Mem.bump, nb, hbb]⟩ (by simp) (fun h m' => ?_) (fun h u k m' e1 hr hh => ?_)
          · rw [if_pos (by simpa using h)] at e
            simp only [↓sxc, sx, se, ↓reduceIte, Nat.reduceEqDiff, Nat.reduceAdd, Nat.reduceLT, Nat.reduceLeDiff, Nat.reduceSub, Nat.reduceMul, Int.reduceToNat, Int.reduceLT, Int.reduceLE, Int.reduceEq, ml_i0, e]
          · rw [if_neg (by simpa using h)] at e
            have hS1 : Sl m' 1 (.row 1 b 0 k.length) (k.map .bool) := by
              have := Sl.row hh.bb
              rw [List.length_map] at this
              exact this
            have hS0 : Sl m' 1 (.row 1 a 0 u.length) (u.map vi) := by
              have := Sl.row hh.ba
              rw [List.length_map] at this
              exact this
            have c1 := sx154 hA (lo := m.next) k true hS1 (by rw [hr.kl]; omega)
            have c0 := sx120 hA (lo := m.next) u (f := 155) (cs := []) (p := fun n => decide (0 < n)) hS0 ⟨by decide, fun x _ lo m => sp155 hA x⟩ (by rw [hr.ul]; omega)
            rw [hr.over1] at c1
            rw [hr.over0] at c0
            cases o1 : over c.steps 1 s.locks.length with
            | true =>
              have e' : clsE s c = 11 := by
                rw [e, o1]
                by_cases o0 : over c.steps 0 s.pools.length = true <;> simp [o0]
              rw [o1] at c1
              simp only [↓sxc, sx, se, ↓reduceIte, Nat.reduceEqDiff, Nat.reduceAdd, Nat.reduceLT, Nat.reduceLeDiff, Nat.reduceSub, Nat.reduceMul, Int.reduceToNat, Int.reduceLT, Int.reduceLE, Int.reduceEq, ml_i0, hh.bp, c1, e']
            | false =>
              rw [o1] at c1
              cases o0 : over c.steps 0 s.pools.length with
              | true =>
                have e' : clsE s c = 11 := by rw [e, o0]; simp
                rw [o0] at c0
                simp only [↓sxc, sx, se, ↓reduceIte, Nat.reduceEqDiff, Nat.reduceAdd, Nat.reduceLT, Nat.reduceLeDiff, Nat.reduceSub, Nat.reduceMul, Int.reduceToNat, Int.reduceLT, Int.reduceLE, Int.reduceEq, ml_i0, hh.bp, c1, c0, e']
              | false =>
                have e' : clsE s c = 0 := by rw [e, o0, o1]; simp
                rw [o0] at c0
                simp only [↓sxc, sx, se, ↓reduceIte, Nat.reduceEqDiff, Nat.reduceAdd, Nat.reduceLT, Nat.reduceLeDiff, Nat.reduceSub, Nat.reduceMul, Int.reduceToNat, Int.reduceLT, Int.reduceLE, Int.reduceEq, ml_i0, hh.bp, c1, c0, e']

end Go.Am
