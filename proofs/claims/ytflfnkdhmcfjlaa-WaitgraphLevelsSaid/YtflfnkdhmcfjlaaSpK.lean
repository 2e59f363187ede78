/- The reference's demands; which steps may wait. -/
import Derived.Test.YtflfnkdhmcfjlaaSpJ
namespace Go.Am
open Go
set_option linter.unusedSimpArgs false
set_option linter.unusedVariables false
set_option maxRecDepth 100000

def sel (deep : Bool) (q : Int × Int) : Int := if deep = true then q.2 else q.1

theorem ud_snoc {pool : Int} {x : Stp} : ∀ {l : List Stp} {q : Int × Int}, ud pool (l ++ [x]) q = udStep pool x (ud pool l q)
  | [], q => rfl
  | y :: l, q => ud_snoc (l := l)
theorem pks_snoc {pool : Int} {x : Stp} : ∀ {l : List Stp} {q b : Int × Int}, pks pool (l ++ [x]) q b = (max (pks pool l q b).1 (ud pool (l ++ [x]) q).1, max (pks pool l q b).2 (ud pool (l ++ [x]) q).2)
  | [], q, b => rfl
  | y :: l, q, b => pks_snoc (l := l)

theorem pk_snoc {pool : Int} {x : Stp} {l : List Stp} {deep : Bool} : sel deep (pk pool (l ++ [x])) = max (sel deep (pk pool l)) (unitsE pool (l ++ [x]) deep) := by
  unfold pk sel unitsE
  rw [pks_snoc]
  cases deep <;> rfl

theorem OkC.take {c : Cls} (h : OkC c) (n : Nat) : ∀ x ∈ c.steps.take n, -1000 ≤ x.cnt ∧ x.cnt ≤ 1000 := fun x hx => h.cnt x (List.mem_of_mem_take hx)

theorem sp32 {F : Nat → Option Fn} (hA : HasA F) (hB : HasB F) {lo : Nat} {m : Mem} (s : Sys) (pool : Int) (deep : Bool) : callw F 32 [vSys s, vi pool, .bool deep] lo m = some (vi (demE s pool deep), m) := by
  have loop1 : ∀ (c : Cls) (hc : OkC c) (n : V) (ci : V) (r k : Nat) (most : Int) (Q : Ex → St → Prop), k + r = c.steps.length + 1 → (k = 0 → most = 0) → (∀ j, k = j + 1 → most = sel deep (pk pool (c.steps.take j))) →
      (∀ e, Q (.exit 2) ⟨(1, vi pool) :: (2, .bool deep) :: (7, n) :: (8, ci) :: (10, vi (sel deep (pk pool c.steps))) :: e, [(3, vSys s), (9, vCls c)], [], m⟩) →
      W F m.next L32_1 ⟨[(1, vi pool), (2, .bool deep), (7, n), (8, ci), (10, vi most), (11, vi k)], [(3, vSys s), (9, vCls c)], [], m⟩ Q := by
    intro c hc n ci r
    have hl := hc.l12
    induction r with
    | zero =>
      intro k most Q hk h0 h1 hq
      rw [W_L (c := L32_1) rfl]
      have : ¬ ((k : Nat) : Int) ≤ (c.steps.length : Int) := by omega
      simp only [↓sxc, sx, se, ↓reduceIte, Nat.reduceEqDiff, Nat.reduceAdd, Nat.reduceLT, Nat.reduceLeDiff, Nat.reduceSub, Nat.reduceMul, Int.reduceToNat, Int.reduceLT, Int.reduceLE, Int.reduceEq, ml_i0, this]
      have := h1 c.steps.length (by omega)
      rw [List.take_length] at this
      rw [this]
      exact hq _
    | succ r ih =>
      intro k most Q hk h0 h1 hq
      rw [W_L (c := L32_1) rfl]
      have : ((k : Nat) : Int) ≤ (c.steps.length : Int) := by omega
      have wr : wrapF .i64 ((k : Int) + 1) = ((k + 1 : Nat) : Int) := by rw [wr_i64 (by omega) (by omega)]; rfl
      have cc : ∀ {lo m}, callw F 93 [vCls c, vi pool, vi k, .bool deep] lo m = some (vi (unitsE pool (c.steps.take k) deep), m) := fun {lo m} => sp93 hB c pool k deep hc (by omega)
      simp only [↓sxc, sx, se, ↓reduceIte, Nat.reduceEqDiff, Nat.reduceAdd, Nat.reduceLT, Nat.reduceLeDiff, Nat.reduceSub, Nat.reduceMul, Int.reduceToNat, Int.reduceLT, Int.reduceLE, Int.reduceEq, ml_i0, this, cc, wr]
      refine ih (k + 1) _ Q (by omega) (by omega) (fun j hj => ?_) hq
      have : j = k := by omega
      subst this
      cases j with
      | zero =>
        rw [h0 rfl]
        cases deep <;> simp [sel, pk, pks, unitsE, ud]
      | succ j =>
        have hjl : j < c.steps.length := by omega
        have ht : c.steps.take (j + 1) = c.steps.take j ++ [c.steps[j]] := by
          rw [List.take_add_one, List.getElem?_eq_getElem hjl]
          rfl
        rw [h1 j rfl, ht, pk_snoc]
  have loop2 : s.cls.length < 100 → (∀ c ∈ s.cls, OkC c) → ∀ (t : List Cls) (i : Nat) (a : Int) (Q : Ex → St → Prop), s.cls.drop i = t → (0 ≤ a ∧ a ≤ 48000 * i) →
      (∀ e, Q (.exit 0) ⟨(1, vi pool) :: (2, .bool deep) :: (7, vi (a + sel deep (dem pool t))) :: e, [(3, vSys s)], [], m⟩) →
      W F m.next L32_2 ⟨[(1, vi pool), (2, .bool deep), (7, vi a), (8, vi i)], [(3, vSys s)], [], m⟩ Q := by
    intro hl hc t
    induction t with
    | nil =>
      intro i a Q hd _ hq
      have hlt := drop_nil hd
      rw [W_L (c := L32_2) rfl]
      have : ¬ ((i : Nat) : Int) < (s.cls.length : Int) := by omega
      simp only [↓sxc, sx, se, ↓reduceIte, Nat.reduceEqDiff, Nat.reduceAdd, Nat.reduceLT, Nat.reduceLeDiff, Nat.reduceSub, Nat.reduceMul, Int.reduceToNat, Int.reduceLT, Int.reduceLE, Int.reduceEq, ml_i0, this]
      have := hq [(8, vi i), (30, .bool false)]
      have e : sel deep (dem pool []) = 0 := by cases deep <;> rfl
      rw [e, Int.add_zero] at this
      exact this
    | cons z t ih =>
      intro i a Q hd ha hq
      obtain ⟨hg, hd', hlt⟩ := drop_cons hd
      have hz := hc z (List.mem_of_getElem? hg)
      have hb := pk_bd (pool := pool) hz
      have w0 := hz.w0
      have w4 := hz.w4
      have hs : 0 ≤ sel deep (pk pool z.steps) ∧ sel deep (pk pool z.steps) ≤ 12000 := by
        unfold sel
        split
        · exact hb.2
        · exact hb.1
      rw [W_L (c := L32_2) rfl]
      have : ((i : Nat) : Int) < (s.cls.length : Int) := by omega
      have wr : wrapF .i64 ((i : Int) + 1) = ((i + 1 : Nat) : Int) := by rw [wr_i64 (by omega) (by omega)]; rfl
      have p1 : 0 ≤ z.wk * sel deep (pk pool z.steps) ∧ z.wk * sel deep (pk pool z.steps) ≤ 48000 := by
        refine ⟨Int.mul_nonneg w0 hs.1, ?_⟩
        have := Int.mul_le_mul w4 hs.2 hs.1 (by omega)
        omega
      have m1 : wrapF .i64 (z.wk * sel deep (pk pool z.steps)) = z.wk * sel deep (pk pool z.steps) := wr_i64 (by omega) (by omega)
      have a1 : wrapF .i64 (a + z.wk * sel deep (pk pool z.steps)) = a + z.wk * sel deep (pk pool z.steps) := wr_i64 (by omega) (by omega)
      simp only [↓sxc, sx, se, ↓reduceIte, Nat.reduceEqDiff, Nat.reduceAdd, Nat.reduceLT, Nat.reduceLeDiff, Nat.reduceSub, Nat.reduceMul, Int.reduceToNat, Int.reduceLT, Int.reduceLE, Int.reduceEq, ml_i0, this, hg]
      refine loop1 z hz _ _ (z.steps.length + 1) 0 0 _ (Nat.zero_add _) (fun _ => rfl) (fun j hj => by omega) (fun e => ?_)
      simp only [↓sxc, sx, se, ↓reduceIte, Nat.reduceEqDiff, Nat.reduceAdd, Nat.reduceLT, Nat.reduceLeDiff, Nat.reduceSub, Nat.reduceMul, Int.reduceToNat, Int.reduceLT, Int.reduceLE, Int.reduceEq, ml_i0, m1, a1, wr]
      refine ih (i + 1) _ Q hd' (by push_cast; omega) (fun e => ?_)
      have := hq e
      have e2 : sel deep (dem pool (z :: t)) = z.wk * sel deep (pk pool z.steps) + sel deep (dem pool t) := by cases deep <;> rfl
      rw [e2, ← Int.add_assoc] at this
      exact this
  have c0 : ∀ {lo m}, callw F 91 [vSys s] lo m = some (vi (chkE s), m) := fun {lo m} => sp91 hA s
  refine call_p hB.h32 rfl ?_
  by_cases h0 : chkE s = 0
  · have hv := valid_of h0
    have hlc : s.cls.length < 100 := by have := hv.c6; omega
    by_cases p1 : pool < 0
    · have e : demE s pool deep = -1 := by simp [demE, p1]
      simp only [↓sxc, sx, se, ↓reduceIte, Nat.reduceEqDiff, Nat.reduceAdd, Nat.reduceLT, Nat.reduceLeDiff, Nat.reduceSub, Nat.reduceMul, Int.reduceToNat, Int.reduceLT, Int.reduceLE, Int.reduceEq, ml_i0, c0, h0, p1, e]
    · by_cases p2 : (s.pools.length : Int) ≤ pool
      · have e : demE s pool deep = -1 := by simp [demE, p2]
        simp only [↓sxc, sx, se, ↓reduceIte, Nat.reduceEqDiff, Nat.reduceAdd, Nat.reduceLT, Nat.reduceLeDiff, Nat.reduceSub, Nat.reduceMul, Int.reduceToNat, Int.reduceLT, Int.reduceLE, Int.reduceEq, ml_i0, c0, h0, p1, p2, e]
      · have e : demE s pool deep = sel deep (dem pool s.cls) := by simp [demE, h0, p1, p2, sel]
        simp only [↓sxc, sx, se, ↓reduceIte, Nat.reduceEqDiff, Nat.reduceAdd, Nat.reduceLT, Nat.reduceLeDiff, Nat.reduceSub, Nat.reduceMul, Int.reduceToNat, Int.reduceLT, Int.reduceLE, Int.reduceEq, ml_i0, c0, h0, p1, p2]
        refine loop2 hlc hv.okC s.cls 0 0 _ rfl (by simp) (fun e1 => ?_)
        simp only [↓sxc, sx, se, ↓reduceIte, Nat.reduceEqDiff, Nat.reduceAdd, Nat.reduceLT, Nat.reduceLeDiff, Nat.reduceSub, Nat.reduceMul, Int.reduceToNat, Int.reduceLT, Int.reduceLE, Int.reduceEq, ml_i0, e, Int.zero_add]
  · have e : demE s pool deep = -1 := by simp [demE, h0]
    simp only [↓sxc, sx, se, ↓reduceIte, Nat.reduceEqDiff, Nat.reduceAdd, Nat.reduceLT, Nat.reduceLeDiff, Nat.reduceSub, Nat.reduceMul, Int.reduceToNat, Int.reduceLT, Int.reduceLE, Int.reduceEq, ml_i0, c0, h0, e]

/-! ### Steps that may wait -/
theorem stepsE_pre {s : Sys} : ∀ {t pre : List Stp}, stepsE s pre t = 0 → ∀ x ∈ t, preE s x = 0
  | [], pre, _, x, hx => by simp at hx
  | y :: t, pre, h, x, hx => by
    unfold stepsE at h
    split at h
    · rename_i h1; exact absurd h h1
    · rename_i h1
      rcases List.mem_cons.1 hx with rfl | hx
      · exact (stepE_zero (by simpa using h1)).1
      · exact stepsE_pre h x hx

theorem Valid.pre {s : Sys} (h : Valid s) {c : Cls} (hc : c ∈ s.cls) {x : Stp} (hx : x ∈ c.steps) : preE s x = 0 := stepsE_pre (clsOk_of (h.cls c hc)).steps x hx

def waitsE (s : Sys) (x : Stp) : Bool :=
  if x.kind = 3 ∨ x.kind = 5 then true
  else if x.kind = 1 then decide (sizeAt s x.on - resAt s x.on < (dem x.on s.cls).1) && !(x.deep && decide ((dem x.on s.cls).2 ≤ resAt s x.on))
  else false
def stepAt (s : Sys) (i k : Int) : Option Stp := (s.cls[i.toNat]?).bind fun c => c.steps[k.toNat]?
def mayWait (s : Sys) (i k : Int) : Bool :=
  if chkE s ≠ 0 ∨ i < 0 ∨ k < 0 then false else match stepAt s i k with
    | some x => waitsE s x
    | none => false

theorem on_pools {s : Sys} {x : Stp} (h : preE s x = 0) (hk : x.kind = 1) : 0 ≤ x.on ∧ ∃ p, s.pools[x.on.toNat]? = some p := by
  obtain ⟨o1, o2, _⟩ := preE_on h
  have : nOf s x = s.pools.length := by simp [nOf, hk]
  exact ⟨o1, _, List.getElem?_eq_getElem (by omega)⟩

theorem sp94 {F : Nat → Option Fn} (hB : HasB F) {lo : Nat} {m : Mem} (s : Sys) (x : Stp) (hv : Valid s) (hp : preE s x = 0) : callw F 94 [vSys s, vStp x] lo m = some (.bool (waitsE s x), m) := by
  refine call_p hB.h94 rfl ?_
  by_cases k3 : x.kind = 3
  · have e : waitsE s x = true := by simp [waitsE, k3]
    simp only [↓sxc, sx, se, ↓reduceIte, Nat.reduceEqDiff, Nat.reduceAdd, Nat.reduceLT, Nat.reduceLeDiff, Nat.reduceSub, Nat.reduceMul, Int.reduceToNat, Int.reduceLT, Int.reduceLE, Int.reduceEq, ml_i0, k3, e]
  · by_cases k5 : x.kind = 5
    · have e : waitsE s x = true := by simp [waitsE, k5]
      simp only [↓sxc, sx, se, ↓reduceIte, Nat.reduceEqDiff, Nat.reduceAdd, Nat.reduceLT, Nat.reduceLeDiff, Nat.reduceSub, Nat.reduceMul, Int.reduceToNat, Int.reduceLT, Int.reduceLE, Int.reduceEq, ml_i0, k3, k5, e]
    · by_cases k1 : x.kind = 1
      · obtain ⟨o1, p, hpp⟩ := on_pools hp k1
        have hs : sizeAt s x.on = p.size := by simp [sizeAt, hpp]
        have hr : resAt s x.on = p.res := by simp [resAt, hpp]
        have hb := hv.pool p (List.mem_of_getElem? hpp)
        have w1 : wrapF .i64 (p.size - p.res) = p.size - p.res := wr_i64 (by omega) (by omega)
        have c1 : ∀ {lo m}, callw F 92 [vSys s, vi x.on] lo m = some (.tup [vi (dem x.on s.cls).1, vi (dem x.on s.cls).2], m) := fun {lo m} => sp92 hB s x.on (by have := hv.c6; omega) hv.okC
        by_cases q1 : p.size - p.res < (dem x.on s.cls).1
        · cases hd : x.deep
          · have e : waitsE s x = true := by simp [waitsE, k1, hs, hr, q1, hd]
            simp only [↓sxc, sx, se, ↓reduceIte, Nat.reduceEqDiff, Nat.reduceAdd, Nat.reduceLT, Nat.reduceLeDiff, Nat.reduceSub, Nat.reduceMul, Int.reduceToNat, Int.reduceLT, Int.reduceLE, Int.reduceEq, ml_i0, k3, k5, k1, c1, o1, hpp, w1, q1, hd, e]
          · by_cases q2 : (dem x.on s.cls).2 ≤ p.res
            · have e : waitsE s x = false := by simp [waitsE, k1, hs, hr, q1, hd, q2]
              simp only [↓sxc, sx, se, ↓reduceIte, Nat.reduceEqDiff, Nat.reduceAdd, Nat.reduceLT, Nat.reduceLeDiff, Nat.reduceSub, Nat.reduceMul, Int.reduceToNat, Int.reduceLT, Int.reduceLE, Int.reduceEq, ml_i0, k3, k5, k1, c1, o1, hpp, w1, q1, hd, q2, e]
            · have e : waitsE s x = true := by simp [waitsE, k1, hs, hr, q1, hd, q2]
              simp only [↓sxc, sx, se, ↓reduceIte, Nat.reduceEqDiff, Nat.reduceAdd, Nat.reduceLT, Nat.reduceLeDiff, Nat.reduceSub, Nat.reduceMul, Int.reduceToNat, Int.reduceLT, Int.reduceLE, Int.reduceEq, ml_i0, k3, k5, k1, c1, o1, hpp, w1, q1, hd, q2, e]
        · have e : waitsE s x = false := by simp [waitsE, k1, hs, hr, q1]
          simp only [↓sxc, sx, se, ↓reduceIte, Nat.reduceEqDiff, Nat.reduceAdd, Nat.reduceLT, Nat.reduceLeDiff, Nat.reduceSub, Nat.reduceMul, Int.reduceToNat, Int.reduceLT, Int.reduceLE, Int.reduceEq, ml_i0, k3, k5, k1, c1, o1, hpp, w1, q1, e]
      · have e : waitsE s x = false := by simp [waitsE, k3, k5, k1]
        simp only [↓sxc, sx, se, ↓reduceIte, Nat.reduceEqDiff, Nat.reduceAdd, Nat.reduceLT, Nat.reduceLeDiff, Nat.reduceSub, Nat.reduceMul, Int.reduceToNat, Int.reduceLT, Int.reduceLE, Int.reduceEq, ml_i0, k3, k5, k1, e]

theorem stepAt_some {s : Sys} {i k : Int} (h : stepAt s i k ≠ none) : ∃ c x, s.cls[i.toNat]? = some c ∧ c.steps[k.toNat]? = some x ∧ stepAt s i k = some x := by
  unfold stepAt at h ⊢
  cases hc : s.cls[i.toNat]? with
  | none => rw [hc] at h; simp at h
  | some c =>
    rw [hc] at h
    simp only [Option.bind_some] at h ⊢
    cases hx : c.steps[k.toNat]? with
    | none => rw [hx] at h; simp at h
    | some x => exact ⟨c, x, rfl, hx, rfl⟩

theorem sp33 {F : Nat → Option Fn} (hA : HasA F) (hB : HasB F) {lo : Nat} {m : Mem} (s : Sys) (i k : Int) : callw F 33 [vSys s, vi i, vi k] lo m = some (.bool (mayWait s i k), m) := by
  have c0 : ∀ {lo m}, callw F 49 [vSys s] lo m = some (vi (chkE s), m) := fun {lo m} => sp49 hA s
  refine call_p hB.h33 rfl ?_
  by_cases h0 : chkE s = 0
  · have hv := valid_of h0
    by_cases i1 : i < 0
    · have e : mayWait s i k = false := by simp [mayWait, i1]
      simp only [↓sxc, sx, se, ↓reduceIte, Nat.reduceEqDiff, Nat.reduceAdd, Nat.reduceLT, Nat.reduceLeDiff, Nat.reduceSub, Nat.reduceMul, Int.reduceToNat, Int.reduceLT, Int.reduceLE, Int.reduceEq, ml_i0, c0, h0, i1, e]
    · by_cases i2 : (s.cls.length : Int) ≤ i
      · have e : mayWait s i k = false := by
          have : s.cls[i.toNat]? = none := List.getElem?_eq_none (by omega)
          simp [mayWait, stepAt, this]
        simp only [↓sxc, sx, se, ↓reduceIte, Nat.reduceEqDiff, Nat.reduceAdd, Nat.reduceLT, Nat.reduceLeDiff, Nat.reduceSub, Nat.reduceMul, Int.reduceToNat, Int.reduceLT, Int.reduceLE, Int.reduceEq, ml_i0, c0, h0, i1, i2, e]
      · have hc : s.cls[i.toNat]? = some (s.cls[i.toNat]'(by omega)) := List.getElem?_eq_getElem _
        generalize s.cls[i.toNat]'(by omega) = c at hc
        have i3 : 0 ≤ i := by omega
        by_cases k1 : k < 0
        · have e : mayWait s i k = false := by simp [mayWait, k1]
          simp only [↓sxc, sx, se, ↓reduceIte, Nat.reduceEqDiff, Nat.reduceAdd, Nat.reduceLT, Nat.reduceLeDiff, Nat.reduceSub, Nat.reduceMul, Int.reduceToNat, Int.reduceLT, Int.reduceLE, Int.reduceEq, ml_i0, c0, h0, i1, i2, i3, hc, k1, e]
        · by_cases k2 : (c.steps.length : Int) ≤ k
          · have e : mayWait s i k = false := by
              have : c.steps[k.toNat]? = none := List.getElem?_eq_none (by omega)
              simp [mayWait, stepAt, hc, this]
            simp only [↓sxc, sx, se, ↓reduceIte, Nat.reduceEqDiff, Nat.reduceAdd, Nat.reduceLT, Nat.reduceLeDiff, Nat.reduceSub, Nat.reduceMul, Int.reduceToNat, Int.reduceLT, Int.reduceLE, Int.reduceEq, ml_i0, c0, h0, i1, i2, i3, hc, k1, k2, e]
          · have hx : c.steps[k.toNat]? = some (c.steps[k.toNat]'(by omega)) := List.getElem?_eq_getElem _
            generalize c.steps[k.toNat]'(by omega) = x at hx
            have k3 : 0 ≤ k := by omega
            have e : mayWait s i k = waitsE s x := by simp [mayWait, h0, i1, k1, stepAt, hc, hx]
            have c1 : ∀ {lo m}, callw F 94 [vSys s, vStp x] lo m = some (.bool (waitsE s x), m) := fun {lo m} => sp94 hB s x hv (hv.pre (List.mem_of_getElem? hc) (List.mem_of_getElem? hx))
            simp only [↓sxc, sx, se, ↓reduceIte, Nat.reduceEqDiff, Nat.reduceAdd, Nat.reduceLT, Nat.reduceLeDiff, Nat.reduceSub, Nat.reduceMul, Int.reduceToNat, Int.reduceLT, Int.reduceLE, Int.reduceEq, ml_i0, c0, h0, i1, i2, i3, hc, k1, k2, k3, hx, c1, e]
  · have e : mayWait s i k = false := by simp [mayWait, h0]
    simp only [↓sxc, sx, se, ↓reduceIte, Nat.reduceEqDiff, Nat.reduceAdd, Nat.reduceLT, Nat.reduceLeDiff, Nat.reduceSub, Nat.reduceMul, Int.reduceToNat, Int.reduceLT, Int.reduceLE, Int.reduceEq, ml_i0, c0, h0, e]

theorem sp95 {F : Nat → Option Fn} (hA : HasA F) (hB : HasB F) {lo : Nat} {m : Mem} (s : Sys) (on : Int) (hv : chkE s = 0) (p : Pool) (h0 : 0 ≤ on) (hp : s.pools[on.toNat]? = some p) : callw F 95 [vSys s, vi on] lo m = some (.bool (decide ((dem on s.cls).1 ≤ sizeAt s on - resAt s on)), m) := by
  have hlt : on.toNat < s.pools.length := by
    rcases Nat.lt_or_ge on.toNat s.pools.length with h | h
    · exact h
    · rw [List.getElem?_eq_none h] at hp; cases hp
  have hb := (valid_of hv).pool p (List.mem_of_getElem? hp)
  have hs : sizeAt s on = p.size := by simp [sizeAt, hp]
  have hr : resAt s on = p.res := by simp [resAt, hp]
  have w1 : wrapF .i64 (p.size - p.res) = p.size - p.res := wr_i64 (by omega) (by omega)
  have e : demE s on false = (dem on s.cls).1 := by
    have a1 : ¬ on < 0 := by omega
    have a2 : ¬ (s.pools.length : Int) ≤ on := by omega
    simp [demE, hv, a1, a2]
  have c1 : ∀ {lo m}, callw F 32 [vSys s, vi on, .bool false] lo m = some (vi (dem on s.cls).1, m) := fun {lo m} => by rw [← e]; exact sp32 hA hB s on false
  refine call_p hB.h95 rfl ?_
  simp only [↓sxc, sx, se, ↓reduceIte, Nat.reduceEqDiff, Nat.reduceAdd, Nat.reduceLT, Nat.reduceLeDiff, Nat.reduceSub, Nat.reduceMul, Int.reduceToNat, Int.reduceLT, Int.reduceLE, Int.reduceEq, ml_i0, c1, h0, hp, w1, hs, hr]

theorem sp96 {F : Nat → Option Fn} (hA : HasA F) (hB : HasB F) {lo : Nat} {m : Mem} (s : Sys) (on : Int) (hv : chkE s = 0) (p : Pool) (h0 : 0 ≤ on) (hp : s.pools[on.toNat]? = some p) : callw F 96 [vSys s, vi on] lo m = some (.bool (decide ((dem on s.cls).2 ≤ resAt s on)), m) := by
  have hlt : on.toNat < s.pools.length := by
    rcases Nat.lt_or_ge on.toNat s.pools.length with h | h
    · exact h
    · rw [List.getElem?_eq_none h] at hp; cases hp
  have hr : resAt s on = p.res := by simp [resAt, hp]
  have e : demE s on true = (dem on s.cls).2 := by
    have a1 : ¬ on < 0 := by omega
    have a2 : ¬ (s.pools.length : Int) ≤ on := by omega
    simp [demE, hv, a1, a2]
  have c1 : ∀ {lo m}, callw F 32 [vSys s, vi on, .bool true] lo m = some (vi (dem on s.cls).2, m) := fun {lo m} => by rw [← e]; exact sp32 hA hB s on true
  refine call_p hB.h96 rfl ?_
  simp only [↓sxc, sx, se, ↓reduceIte, Nat.reduceEqDiff, Nat.reduceAdd, Nat.reduceLT, Nat.reduceLeDiff, Nat.reduceSub, Nat.reduceMul, Int.reduceToNat, Int.reduceLT, Int.reduceLE, Int.reduceEq, ml_i0, c1, h0, hp, hr]

theorem sp34 {F : Nat → Option Fn} (hA : HasA F) (hB : HasB F) {lo : Nat} {m : Mem} (s : Sys) (i k : Int) : callw F 34 [vSys s, vi i, vi k] lo m = some (.bool (mayWait s i k), m) := by
  have c0 : ∀ {lo m}, callw F 91 [vSys s] lo m = some (vi (chkE s), m) := fun {lo m} => sp91 hA s
  refine call_p hB.h34 rfl ?_
  by_cases h0 : chkE s = 0
  · have hv := valid_of h0
    by_cases i1 : i < 0
    · have e : mayWait s i k = false := by simp [mayWait, i1]
      simp only [↓sxc, sx, se, ↓reduceIte, Nat.reduceEqDiff, Nat.reduceAdd, Nat.reduceLT, Nat.reduceLeDiff, Nat.reduceSub, Nat.reduceMul, Int.reduceToNat, Int.reduceLT, Int.reduceLE, Int.reduceEq, ml_i0, c0, h0, i1, e]
    · by_cases i2 : (s.cls.length : Int) ≤ i
      · have e : mayWait s i k = false := by
          have : s.cls[i.toNat]? = none := List.getElem?_eq_none (by omega)
          simp [mayWait, stepAt, this]
        simp only [↓sxc, sx, se, ↓reduceIte, Nat.reduceEqDiff, Nat.reduceAdd, Nat.reduceLT, Nat.reduceLeDiff, Nat.reduceSub, Nat.reduceMul, Int.reduceToNat, Int.reduceLT, Int.reduceLE, Int.reduceEq, ml_i0, c0, h0, i1, i2, e]
      · have hc : s.cls[i.toNat]? = some (s.cls[i.toNat]'(by omega)) := List.getElem?_eq_getElem _
        generalize s.cls[i.toNat]'(by omega) = c at hc
        have i3 : 0 ≤ i := by omega
        by_cases k1 : k < 0
        · have e : mayWait s i k = false := by simp [mayWait, k1]
          simp only [↓sxc, sx, se, ↓reduceIte, Nat.reduceEqDiff, Nat.reduceAdd, Nat.reduceLT, Nat.reduceLeDiff, Nat.reduceSub, Nat.reduceMul, Int.reduceToNat, Int.reduceLT, Int.reduceLE, Int.reduceEq, ml_i0, c0, h0, i1, i2, i3, hc, k1, e]
        · by_cases k2 : (c.steps.length : Int) ≤ k
          · have e : mayWait s i k = false := by
              have : c.steps[k.toNat]? = none := List.getElem?_eq_none (by omega)
              simp [mayWait, stepAt, hc, this]
            simp only [↓sxc, sx, se, ↓reduceIte, Nat.reduceEqDiff, Nat.reduceAdd, Nat.reduceLT, Nat.reduceLeDiff, Nat.reduceSub, Nat.reduceMul, Int.reduceToNat, Int.reduceLT, Int.reduceLE, Int.reduceEq, ml_i0, c0, h0, i1, i2, i3, hc, k1, k2, e]
          · have hx : c.steps[k.toNat]? = some (c.steps[k.toNat]'(by omega)) := List.getElem?_eq_getElem _
            generalize c.steps[k.toNat]'(by omega) = x at hx
            have k3 : 0 ≤ k := by omega
            have e : mayWait s i k = waitsE s x := by simp [mayWait, h0, i1, k1, stepAt, hc, hx]
            have hpre := hv.pre (List.mem_of_getElem? hc) (List.mem_of_getElem? hx)
            by_cases x3 : x.kind = 3
            · have e2 : waitsE s x = true := by simp [waitsE, x3]
              rw [e2] at e
              simp only [↓sxc, sx, se, ↓reduceIte, Nat.reduceEqDiff, Nat.reduceAdd, Nat.reduceLT, Nat.reduceLeDiff, Nat.reduceSub, Nat.reduceMul, Int.reduceToNat, Int.reduceLT, Int.reduceLE, Int.reduceEq, ml_i0, c0, h0, i1, i2, i3, hc, k1, k2, k3, hx, x3, e]
            · by_cases x5 : x.kind = 5
              · have e2 : waitsE s x = true := by simp [waitsE, x5]
                rw [e2] at e
                simp only [↓sxc, sx, se, ↓reduceIte, Nat.reduceEqDiff, Nat.reduceAdd, Nat.reduceLT, Nat.reduceLeDiff, Nat.reduceSub, Nat.reduceMul, Int.reduceToNat, Int.reduceLT, Int.reduceLE, Int.reduceEq, ml_i0, c0, h0, i1, i2, i3, hc, k1, k2, k3, hx, x3, x5, e]
              · by_cases x1 : x.kind = 1
                · obtain ⟨o1, p, hpp⟩ := on_pools hpre x1
                  have c1 : ∀ {lo m}, callw F 95 [vSys s, vi x.on] lo m = some (.bool (decide ((dem x.on s.cls).1 ≤ sizeAt s x.on - resAt s x.on)), m) := fun {lo m} => sp95 hA hB s x.on h0 p o1 hpp
                  have c2 : ∀ {lo m}, callw F 96 [vSys s, vi x.on] lo m = some (.bool (decide ((dem x.on s.cls).2 ≤ resAt s x.on)), m) := fun {lo m} => sp96 hA hB s x.on h0 p o1 hpp
                  by_cases q1 : (dem x.on s.cls).1 ≤ sizeAt s x.on - resAt s x.on
                  · have e2 : waitsE s x = false := by
                      have : ¬ sizeAt s x.on - resAt s x.on < (dem x.on s.cls).1 := by omega
                      simp [waitsE, x1, this]
                    rw [e2] at e
                    simp only [↓sxc, sx, se, ↓reduceIte, Nat.reduceEqDiff, Nat.reduceAdd, Nat.reduceLT, Nat.reduceLeDiff, Nat.reduceSub, Nat.reduceMul, Int.reduceToNat, Int.reduceLT, Int.reduceLE, Int.reduceEq, ml_i0, c0, h0, i1, i2, i3, hc, k1, k2, k3, hx, x3, x5, x1, c1, q1, e]
                  · have q1' : sizeAt s x.on - resAt s x.on < (dem x.on s.cls).1 := by omega
                    cases hd : x.deep
                    · have e2 : waitsE s x = true := by simp [waitsE, x1, q1', hd]
                      rw [e2] at e
                      simp only [↓sxc, sx, se, ↓reduceIte, Nat.reduceEqDiff, Nat.reduceAdd, Nat.reduceLT, Nat.reduceLeDiff, Nat.reduceSub, Nat.reduceMul, Int.reduceToNat, Int.reduceLT, Int.reduceLE, Int.reduceEq, ml_i0, c0, h0, i1, i2, i3, hc, k1, k2, k3, hx, x3, x5, x1, c1, q1, hd, e]
                    · by_cases q2 : (dem x.on s.cls).2 ≤ resAt s x.on
                      · have e2 : waitsE s x = false := by simp [waitsE, x1, q1', hd, q2]
                        rw [e2] at e
                        simp only [↓sxc, sx, se, ↓reduceIte, Nat.reduceEqDiff, Nat.reduceAdd, Nat.reduceLT, Nat.reduceLeDiff, Nat.reduceSub, Nat.reduceMul, Int.reduceToNat, Int.reduceLT, Int.reduceLE, Int.reduceEq, ml_i0, c0, h0, i1, i2, i3, hc, k1, k2, k3, hx, x3, x5, x1, c1, q1, hd, c2, q2, e]
                      · have e2 : waitsE s x = true := by simp [waitsE, x1, q1', hd, q2]
                        rw [e2] at e
                        simp only [↓sxc, sx, se, ↓reduceIte, Nat.reduceEqDiff, Nat.reduceAdd, Nat.reduceLT, Nat.reduceLeDiff, Nat.reduceSub, Nat.reduceMul, Int.reduceToNat, Int.reduceLT, Int.reduceLE, Int.reduceEq, ml_i0, c0, h0, i1, i2, i3, hc, k1, k2, k3, hx, x3, x5, x1, c1, q1, hd, c2, q2, e]
                · have e2 : waitsE s x = false := by simp [waitsE, x3, x5, x1]
                  rw [e2] at e
                  simp only [↓sxc, sx, se, ↓reduceIte, Nat.reduceEqDiff, Nat.reduceAdd, Nat.reduceLT, Nat.reduceLeDiff, Nat.reduceSub, Nat.reduceMul, Int.reduceToNat, Int.reduceLT, Int.reduceLE, Int.reduceEq, ml_i0, c0, h0, i1, i2, i3, hc, k1, k2, k3, hx, x3, x5, x1, e]
  · have e : mayWait s i k = false := by simp [mayWait, h0]
    simp only [↓sxc, sx, se, ↓reduceIte, Nat.reduceEqDiff, Nat.reduceAdd, Nat.reduceLT, Nat.reduceLeDiff, Nat.reduceSub, Nat.reduceMul, Int.reduceToNat, Int.reduceLT, Int.reduceLE, Int.reduceEq, ml_i0, c0, h0, e]

end Go.Am
