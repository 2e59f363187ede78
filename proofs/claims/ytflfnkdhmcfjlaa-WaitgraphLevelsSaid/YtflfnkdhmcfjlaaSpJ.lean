/- Demands. -/
import Derived.Test.YtflfnkdhmcfjlaaSpI
import Derived.Test.YtflfnkdhmcfjlaaCB
namespace Go.Am
open Go
set_option linter.unusedSimpArgs false
set_option linter.unusedVariables false
set_option maxRecDepth 100000

/-! ### Valid systems -/
structure OkC (c : Cls) : Prop where
  w0 : 0 ≤ c.wk
  w4 : c.wk ≤ 4
  l1 : 1 ≤ c.steps.length
  l12 : c.steps.length ≤ 12
  cnt : ∀ x ∈ c.steps, -1000 ≤ x.cnt ∧ x.cnt ≤ 1000

theorem firstE_zero {f : Cls → Int} : ∀ {l : List Cls}, firstE f l = 0 → ∀ c ∈ l, f c = 0
  | [], _, c, hc => by simp at hc
  | d :: l, h, c, hc => by
    unfold firstE at h
    split at h
    · rename_i h1; exact absurd h h1
    · rename_i h1
      rcases List.mem_cons.1 hc with rfl | hc
      · simpa using h1
      · exact firstE_zero h c hc

structure Valid (s : Sys) : Prop where
  p6 : s.pools.length ≤ 6
  l4 : s.locks.length ≤ 4
  c6 : s.cls.length ≤ 6
  nm : nmE [] (namesOf s) = 0
  pool : ∀ p ∈ s.pools, 1 ≤ p.size ∧ p.size ≤ 8 ∧ 0 ≤ p.res ∧ p.res ≤ p.size
  cls : ∀ c ∈ s.cls, clsE s c = 0

theorem valid_of {s : Sys} (h : chkE s = 0) : Valid s := by
  unfold chkE at h
  split at h
  · omega
  · rename_i h1
    split at h
    · rename_i h2; exact absurd h h2
    · rename_i h2
      split at h
      · omega
      · rename_i h3
        refine ⟨by omega, by omega, by omega, by simpa using h2, fun p hp => ?_, firstE_zero h⟩
        have h4 : s.pools.any poolBad = false := by simpa using h3
        have := List.any_eq_false.1 h4 p hp
        simp [poolBad] at this
        omega

theorem Valid.size {s : Sys} (h : Valid s) : ∀ p ∈ s.pools, p.size ≤ 1000 := fun p hp => by have := h.pool p hp; omega

structure ClsOk (s : Sys) (c : Cls) : Prop where
  w0 : 0 ≤ c.wk
  w4 : c.wk ≤ 4
  l1 : 1 ≤ c.steps.length
  l12 : c.steps.length ≤ 12
  steps : stepsE s [] c.steps = 0
  o0 : over c.steps 0 s.pools.length = false
  o1 : over c.steps 1 s.locks.length = false

theorem clsOk_of {s : Sys} {c : Cls} (h : clsE s c = 0) : ClsOk s c := by
  unfold clsE at h
  split at h
  · omega
  · split at h
    · omega
    · split at h
      · rename_i h1; exact absurd h h1
      · rename_i h1
        split at h
        · omega
        · rename_i h2
          split at h
          · omega
          · rename_i h3
            exact ⟨by omega, by omega, by omega, by omega, by simpa using h1, by simpa using h2, by simpa using h3⟩

theorem Valid.okC {s : Sys} (h : Valid s) : ∀ c ∈ s.cls, OkC c := fun c hc => by
  have k := clsOk_of (h.cls c hc)
  exact ⟨k.w0, k.w4, k.l1, k.l12, stepsE_cnt h.size k.steps⟩

/-! ### Units and peaks -/
def udStep (pool : Int) (x : Stp) (q : Int × Int) : Int × Int :=
  if x.on = pool then if x.kind = 1 then (q.1 + x.cnt, if x.deep = true then q.2 + x.cnt else q.2) else if x.kind = 2 then (q.1 - x.cnt, q.2 - min q.2 x.cnt) else q else q
def ud (pool : Int) : List Stp → Int × Int → Int × Int
  | [], q => q
  | x :: t, q => ud pool t (udStep pool x q)
def pks (pool : Int) : List Stp → Int × Int → Int × Int → Int × Int
  | [], _, b => b
  | x :: t, q, b => pks pool t (udStep pool x q) (max b.1 (udStep pool x q).1, max b.2 (udStep pool x q).2)
def pk (pool : Int) (l : List Stp) : Int × Int := pks pool l (0, 0) (0, 0)
def dem (pool : Int) : List Cls → Int × Int
  | [] => (0, 0)
  | c :: l => (c.wk * (pk pool c.steps).1 + (dem pool l).1, c.wk * (pk pool c.steps).2 + (dem pool l).2)

theorem udStep_bd {pool : Int} {x : Stp} {q : Int × Int} {n : Int} (hx : -1000 ≤ x.cnt ∧ x.cnt ≤ 1000) (h1 : -n ≤ q.1 ∧ q.1 ≤ n) (h2 : -n ≤ q.2 ∧ q.2 ≤ n) :
    (-(n + 1000) ≤ (udStep pool x q).1 ∧ (udStep pool x q).1 ≤ n + 1000) ∧ (-(n + 1000) ≤ (udStep pool x q).2 ∧ (udStep pool x q).2 ≤ n + 1000) := by
  unfold udStep
  repeat' split
  all_goals first
    | omega
    | (simp only; omega)

theorem pks_bd {pool : Int} : ∀ {t : List Stp} {q b : Int × Int} {n : Int}, (∀ x ∈ t, -1000 ≤ x.cnt ∧ x.cnt ≤ 1000) → (-n ≤ q.1 ∧ q.1 ≤ n) → (-n ≤ q.2 ∧ q.2 ≤ n) → (0 ≤ b.1 ∧ b.1 ≤ n) → (0 ≤ b.2 ∧ b.2 ≤ n) →
    (0 ≤ (pks pool t q b).1 ∧ (pks pool t q b).1 ≤ n + 1000 * t.length) ∧ (0 ≤ (pks pool t q b).2 ∧ (pks pool t q b).2 ≤ n + 1000 * t.length)
  | [], q, b, n, _, _, _, h3, h4 => by simp [pks, h3, h4]
  | x :: t, q, b, n, hx, h1, h2, h3, h4 => by
    obtain ⟨k1, k2⟩ := udStep_bd (pool := pool) (hx x (by simp)) h1 h2
    have := pks_bd (pool := pool) (t := t) (q := udStep pool x q) (b := (max b.1 (udStep pool x q).1, max b.2 (udStep pool x q).2)) (n := n + 1000) (fun y hy => hx y (by simp [hy])) k1 k2 (by simp only; omega) (by simp only; omega)
    simp only [pks, List.length_cons]
    push_cast
    omega

theorem pk_bd {pool : Int} {c : Cls} (h : OkC c) : (0 ≤ (pk pool c.steps).1 ∧ (pk pool c.steps).1 ≤ 12000) ∧ (0 ≤ (pk pool c.steps).2 ∧ (pk pool c.steps).2 ≤ 12000) := by
  have := pks_bd (pool := pool) (t := c.steps) (q := (0, 0)) (b := (0, 0)) (n := 0) h.cnt (by simp) (by simp) (by simp) (by simp)
  have hl := h.l12
  unfold pk
  omega

theorem sp148 {F : Nat → Option Fn} (hB : HasB F) {lo : Nat} {m : Mem} (c : Cls) (pool : Int) (hc : OkC c) : callw F 148 [vCls c, vi pool] lo m = some (.tup [vi (pk pool c.steps).1, vi (pk pool c.steps).2], m) := by
  have hl := hc.l12
  have loop : ∀ (t : List Stp) (i : Nat) (a d x y : Int) (Q : Ex → St → Prop), c.steps.drop i = t → (-(1000 * (i : Int)) ≤ a ∧ a ≤ 1000 * i) → (-(1000 * (i : Int)) ≤ d ∧ d ≤ 1000 * i) → a ≤ x → d ≤ y →
      (∀ e a' d', Q (.exit 0) ⟨(1, vi pool) :: (6, a') :: (7, d') :: (8, vi (pks pool t (a, d) (x, y)).1) :: (9, vi (pks pool t (a, d) (x, y)).2) :: e, [], [], m⟩) →
      W F m.next L148_1 ⟨[(1, vi pool), (6, vi a), (7, vi d), (8, vi x), (9, vi y), (13, vStps c.steps), (14, vi c.steps.length), (15, vi i)], [], [], m⟩ Q := by
    intro t
    induction t with
    | nil =>
      intro i a d x y Q hd _ _ _ _ hq
      have hlt := drop_nil hd
      rw [W_L (c := L148_1) rfl]
      have : ¬ ((i : Nat) : Int) < (c.steps.length : Int) := by omega
      simp only [↓sxc, sx, se, ↓reduceIte, Nat.reduceEqDiff, Nat.reduceAdd, Nat.reduceLT, Nat.reduceLeDiff, Nat.reduceSub, Nat.reduceMul, Int.reduceToNat, Int.reduceLT, Int.reduceLE, Int.reduceEq, ml_i0, this]
      exact hq _ _ _
    | cons z t ih =>
      intro i a d x y Q hd ha hdd hax hdy hq
      obtain ⟨hg, hd', hlt⟩ := drop_cons hd
      have hz := hc.cnt z (List.mem_of_getElem? hg)
      rw [W_L (c := L148_1) rfl]
      have : ((i : Nat) : Int) < (c.steps.length : Int) := by omega
      have wr : wrapF .i64 ((i : Int) + 1) = ((i + 1 : Nat) : Int) := by rw [wr_i64 (by omega) (by omega)]; rfl
      have wa : wrapF .i64 (a + z.cnt) = a + z.cnt := wr_i64 (by omega) (by omega)
      have ws : wrapF .i64 (a - z.cnt) = a - z.cnt := wr_i64 (by omega) (by omega)
      have wd : wrapF .i64 (d + z.cnt) = d + z.cnt := wr_i64 (by omega) (by omega)
      have we : wrapF .i64 (d - min d z.cnt) = d - min d z.cnt := wr_i64 (by omega) (by omega)
      have go : ∀ a1 d1 x1 y1, udStep pool z (a, d) = (a1, d1) → max x a1 = x1 → max y d1 = y1 → W F m.next L148_1 ⟨[(1, vi pool), (6, vi a1), (7, vi d1), (8, vi x1), (9, vi y1), (13, vStps c.steps), (14, vi c.steps.length), (15, vi (i + 1 : Nat))], [], [], m⟩ Q := by
        intro a1 d1 x1 y1 hu h1 h2
        have hb := udStep_bd (pool := pool) (q := (a, d)) hz ha hdd
        rw [hu] at hb
        refine ih (i + 1) a1 d1 x1 y1 Q hd' (by push_cast; omega) (by push_cast; omega) (by omega) (by omega) ?_
        simp only [pks, hu, h1, h2] at hq
        exact hq
      by_cases ho : z.on = pool
      · by_cases k1 : z.kind = 1
        · cases hdp : z.deep
          · simp only [↓sxc, sx, se, ↓reduceIte, Nat.reduceEqDiff, Nat.reduceAdd, Nat.reduceLT, Nat.reduceLeDiff, Nat.reduceSub, Nat.reduceMul, Int.reduceToNat, Int.reduceLT, Int.reduceLE, Int.reduceEq, ml_i0, this, hg, ho, k1, hdp, wa, wr]
            exact go _ _ _ _ (by simp [udStep, ho, k1, hdp]) rfl rfl
          · simp only [↓sxc, sx, se, ↓reduceIte, Nat.reduceEqDiff, Nat.reduceAdd, Nat.reduceLT, Nat.reduceLeDiff, Nat.reduceSub, Nat.reduceMul, Int.reduceToNat, Int.reduceLT, Int.reduceLE, Int.reduceEq, ml_i0, this, hg, ho, k1, hdp, wa, wd, wr]
            exact go _ _ _ _ (by simp [udStep, ho, k1, hdp]) rfl rfl
        · by_cases k2 : z.kind = 2
          · simp only [↓sxc, sx, se, ↓reduceIte, Nat.reduceEqDiff, Nat.reduceAdd, Nat.reduceLT, Nat.reduceLeDiff, Nat.reduceSub, Nat.reduceMul, Int.reduceToNat, Int.reduceLT, Int.reduceLE, Int.reduceEq, ml_i0, this, hg, ho, k1, k2, ws, we, wr]
            exact go _ _ _ _ (by simp [udStep, ho, k2]) rfl rfl
          · simp only [↓sxc, sx, se, ↓reduceIte, Nat.reduceEqDiff, Nat.reduceAdd, Nat.reduceLT, Nat.reduceLeDiff, Nat.reduceSub, Nat.reduceMul, Int.reduceToNat, Int.reduceLT, Int.reduceLE, Int.reduceEq, ml_i0, this, hg, ho, k1, k2, wr]
            exact go _ _ _ _ (by simp [udStep, ho, k1, k2]) rfl rfl
      · simp only [↓sxc, sx, se, ↓reduceIte, Nat.reduceEqDiff, Nat.reduceAdd, Nat.reduceLT, Nat.reduceLeDiff, Nat.reduceSub, Nat.reduceMul, Int.reduceToNat, Int.reduceLT, Int.reduceLE, Int.reduceEq, ml_i0, this, hg, ho, wr]
        exact go _ _ _ _ (by simp [udStep, ho]) (by omega) (by omega)
  refine call_p hB.h148 rfl ?_
  simp only [↓sxc, sx, se, ↓reduceIte, Nat.reduceEqDiff, Nat.reduceAdd, Nat.reduceLT, Nat.reduceLeDiff, Nat.reduceSub, Nat.reduceMul, Int.reduceToNat, Int.reduceLT, Int.reduceLE, Int.reduceEq, ml_i0]
  refine loop c.steps 0 0 0 0 0 _ rfl (by simp) (by simp) (Int.le_refl _) (Int.le_refl _) (fun e a' d' => ?_)
  simp only [↓sxc, sx, se, ↓reduceIte, Nat.reduceEqDiff, Nat.reduceAdd, Nat.reduceLT, Nat.reduceLeDiff, Nat.reduceSub, Nat.reduceMul, Int.reduceToNat, Int.reduceLT, Int.reduceLE, Int.reduceEq, ml_i0]
  rfl

theorem sp92 {F : Nat → Option Fn} (hB : HasB F) {lo : Nat} {m : Mem} (s : Sys) (pool : Int) (hl : s.cls.length < 100) (hc : ∀ c ∈ s.cls, OkC c) : callw F 92 [vSys s, vi pool] lo m = some (.tup [vi (dem pool s.cls).1, vi (dem pool s.cls).2], m) := by
  have loop : ∀ (t : List Cls) (i : Nat) (a d : Int) (Q : Ex → St → Prop), s.cls.drop i = t → (0 ≤ a ∧ a ≤ 48000 * i) → (0 ≤ d ∧ d ≤ 48000 * i) →
      (∀ e, Q (.exit 0) ⟨(1, vi pool) :: (6, vi (a + (dem pool t).1)) :: (7, vi (d + (dem pool t).2)) :: e, [], [], m⟩) →
      W F m.next L92_1 ⟨[(1, vi pool), (6, vi a), (7, vi d), (13, vClss s.cls), (14, vi s.cls.length), (15, vi i)], [], [], m⟩ Q := by
    intro t
    induction t with
    | nil =>
      intro i a d Q hd _ _ hq
      have hlt := drop_nil hd
      rw [W_L (c := L92_1) rfl]
      have : ¬ ((i : Nat) : Int) < (s.cls.length : Int) := by omega
      simp only [↓sxc, sx, se, ↓reduceIte, Nat.reduceEqDiff, Nat.reduceAdd, Nat.reduceLT, Nat.reduceLeDiff, Nat.reduceSub, Nat.reduceMul, Int.reduceToNat, Int.reduceLT, Int.reduceLE, Int.reduceEq, ml_i0, this]
      simp only [dem, Int.add_zero] at hq
      exact hq _
    | cons z t ih =>
      intro i a d Q hd ha hdd hq
      obtain ⟨hg, hd', hlt⟩ := drop_cons hd
      have hz := hc z (List.mem_of_getElem? hg)
      have hb := pk_bd (pool := pool) hz
      have w0 := hz.w0
      have w4 := hz.w4
      rw [W_L (c := L92_1) rfl]
      have : ((i : Nat) : Int) < (s.cls.length : Int) := by omega
      have wr : wrapF .i64 ((i : Int) + 1) = ((i + 1 : Nat) : Int) := by rw [wr_i64 (by omega) (by omega)]; rfl
      have p1 : 0 ≤ z.wk * (pk pool z.steps).1 ∧ z.wk * (pk pool z.steps).1 ≤ 48000 := by
        refine ⟨Int.mul_nonneg w0 hb.1.1, ?_⟩
        have := Int.mul_le_mul w4 hb.1.2 hb.1.1 (by omega)
        omega
      have p2 : 0 ≤ z.wk * (pk pool z.steps).2 ∧ z.wk * (pk pool z.steps).2 ≤ 48000 := by
        refine ⟨Int.mul_nonneg w0 hb.2.1, ?_⟩
        have := Int.mul_le_mul w4 hb.2.2 hb.2.1 (by omega)
        omega
      have m1 : wrapF .i64 (z.wk * (pk pool z.steps).1) = z.wk * (pk pool z.steps).1 := wr_i64 (by omega) (by omega)
      have m2 : wrapF .i64 (z.wk * (pk pool z.steps).2) = z.wk * (pk pool z.steps).2 := wr_i64 (by omega) (by omega)
      have a1 : wrapF .i64 (a + z.wk * (pk pool z.steps).1) = a + z.wk * (pk pool z.steps).1 := wr_i64 (by omega) (by omega)
      have a2 : wrapF .i64 (d + z.wk * (pk pool z.steps).2) = d + z.wk * (pk pool z.steps).2 := wr_i64 (by omega) (by omega)
      have cc : ∀ {lo m}, callw F 148 [vCls z, vi pool] lo m = some (.tup [vi (pk pool z.steps).1, vi (pk pool z.steps).2], m) := fun {lo m} => sp148 hB z pool hz
      simp only [↓sxc, sx, se, ↓reduceIte, Nat.reduceEqDiff, Nat.reduceAdd, Nat.reduceLT, Nat.reduceLeDiff, Nat.reduceSub, Nat.reduceMul, Int.reduceToNat, Int.reduceLT, Int.reduceLE, Int.reduceEq, ml_i0, this, hg, cc, m1, m2, a1, a2, wr]
      refine ih (i + 1) _ _ Q hd' (by push_cast; omega) (by push_cast; omega) (fun e => ?_)
      simp only [dem] at hq
      have := hq e
      rw [← Int.add_assoc, ← Int.add_assoc] at this
      exact this
  refine call_p hB.h92 rfl ?_
  simp only [↓sxc, sx, se, ↓reduceIte, Nat.reduceEqDiff, Nat.reduceAdd, Nat.reduceLT, Nat.reduceLeDiff, Nat.reduceSub, Nat.reduceMul, Int.reduceToNat, Int.reduceLT, Int.reduceLE, Int.reduceEq, ml_i0]
  refine loop s.cls 0 0 0 _ rfl (by simp) (by simp) (fun e => ?_)
  simp only [↓sxc, sx, se, ↓reduceIte, Nat.reduceEqDiff, Nat.reduceAdd, Nat.reduceLT, Nat.reduceLeDiff, Nat.reduceSub, Nat.reduceMul, Int.reduceToNat, Int.reduceLT, Int.reduceLE, Int.reduceEq, ml_i0, Int.zero_add]
  rfl

def demE (s : Sys) (pool : Int) (deep : Bool) : Int := if chkE s ≠ 0 ∨ pool < 0 ∨ (s.pools.length : Int) ≤ pool then -1 else if deep = true then (dem pool s.cls).2 else (dem pool s.cls).1

theorem sp31 {F : Nat → Option Fn} (hA : HasA F) (hB : HasB F) {lo : Nat} {m : Mem} (s : Sys) (pool : Int) (deep : Bool) : callw F 31 [vSys s, vi pool, .bool deep] lo m = some (vi (demE s pool deep), m) := by
  have c0 : ∀ {lo m}, callw F 49 [vSys s] lo m = some (vi (chkE s), m) := fun {lo m} => sp49 hA s
  refine call_p hB.h31 rfl ?_
  by_cases h0 : chkE s = 0
  · have hv := valid_of h0
    have hlc : s.cls.length < 100 := by have := hv.c6; omega
    have c1 : ∀ {lo m}, callw F 92 [vSys s, vi pool] lo m = some (.tup [vi (dem pool s.cls).1, vi (dem pool s.cls).2], m) := fun {lo m} => sp92 hB s pool hlc hv.okC
    by_cases p1 : pool < 0
    · have e : demE s pool deep = -1 := by simp [demE, p1]
      simp only [↓sxc, sx, se, ↓reduceIte, Nat.reduceEqDiff, Nat.reduceAdd, Nat.reduceLT, Nat.reduceLeDiff, Nat.reduceSub, Nat.reduceMul, Int.reduceToNat, Int.reduceLT, Int.reduceLE, Int.reduceEq, ml_i0, c0, h0, p1, e]
    · by_cases p2 : (s.pools.length : Int) ≤ pool
      · have e : demE s pool deep = -1 := by simp [demE, p2]
        simp only [↓sxc, sx, se, ↓reduceIte, Nat.reduceEqDiff, Nat.reduceAdd, Nat.reduceLT, Nat.reduceLeDiff, Nat.reduceSub, Nat.reduceMul, Int.reduceToNat, Int.reduceLT, Int.reduceLE, Int.reduceEq, ml_i0, c0, h0, p1, p2, e]
      · cases deep with
        | true =>
          have e : demE s pool true = (dem pool s.cls).2 := by simp [demE, h0, p1, p2]
          simp only [↓sxc, sx, se, ↓reduceIte, Nat.reduceEqDiff, Nat.reduceAdd, Nat.reduceLT, Nat.reduceLeDiff, Nat.reduceSub, Nat.reduceMul, Int.reduceToNat, Int.reduceLT, Int.reduceLE, Int.reduceEq, ml_i0, c0, h0, p1, p2, c1, e]
        | false =>
          have e : demE s pool false = (dem pool s.cls).1 := by simp [demE, h0, p1, p2]
          simp only [↓sxc, sx, se, ↓reduceIte, Nat.reduceEqDiff, Nat.reduceAdd, Nat.reduceLT, Nat.reduceLeDiff, Nat.reduceSub, Nat.reduceMul, Int.reduceToNat, Int.reduceLT, Int.reduceLE, Int.reduceEq, ml_i0, c0, h0, p1, p2, c1, e]
  · have e : demE s pool deep = -1 := by simp [demE, h0]
    simp only [↓sxc, sx, se, ↓reduceIte, Nat.reduceEqDiff, Nat.reduceAdd, Nat.reduceLT, Nat.reduceLeDiff, Nat.reduceSub, Nat.reduceMul, Int.reduceToNat, Int.reduceLT, Int.reduceLE, Int.reduceEq, ml_i0, c0, h0, e]

def resE (s : Sys) : Int := if chkE s ≠ 0 then 0 else s.pools.length + s.locks.length + s.cls.length

theorem sp29 {F : Nat → Option Fn} (hA : HasA F) (hB : HasB F) {lo : Nat} {m : Mem} (s : Sys) : callw F 29 [vSys s] lo m = some (vi (resE s), m) := by
  have c0 : ∀ {lo m}, callw F 49 [vSys s] lo m = some (vi (chkE s), m) := fun {lo m} => sp49 hA s
  refine call_p hB.h29 rfl ?_
  by_cases h0 : chkE s = 0
  · have hv := valid_of h0
    have a1 := hv.p6
    have a2 := hv.l4
    have a3 := hv.c6
    have e : resE s = s.pools.length + s.locks.length + s.cls.length := by simp [resE, h0]
    have w1 : wrapF .i64 ((s.pools.length : Int) + s.locks.length) = s.pools.length + s.locks.length := wr_i64 (by omega) (by omega)
    have w2 : wrapF .i64 ((s.pools.length : Int) + s.locks.length + s.cls.length) = s.pools.length + s.locks.length + s.cls.length := wr_i64 (by omega) (by omega)
    simp only [↓sxc, sx, se, ↓reduceIte, Nat.reduceEqDiff, Nat.reduceAdd, Nat.reduceLT, Nat.reduceLeDiff, Nat.reduceSub, Nat.reduceMul, Int.reduceToNat, Int.reduceLT, Int.reduceLE, Int.reduceEq, ml_i0, c0, h0, w1, w2, e]
  · have e : resE s = 0 := by simp [resE, h0]
    simp only [↓sxc, sx, se, ↓reduceIte, Nat.reduceEqDiff, Nat.reduceAdd, Nat.reduceLT, Nat.reduceLeDiff, Nat.reduceSub, Nat.reduceMul, Int.reduceToNat, Int.reduceLT, Int.reduceLE, Int.reduceEq, ml_i0, c0, h0, e]

theorem sp30 {F : Nat → Option Fn} (hA : HasA F) (hB : HasB F) {lo : Nat} {m : Mem} (s : Sys) : callw F 30 [vSys s] lo m = some (vi (resE s), m) := by
  have c0 : ∀ {lo m}, callw F 91 [vSys s] lo m = some (vi (chkE s), m) := fun {lo m} => sp91 hA s
  refine call_p hB.h30 rfl ?_
  by_cases h0 : chkE s = 0
  · have hv := valid_of h0
    have a1 := hv.p6
    have a2 := hv.l4
    have a3 := hv.c6
    have e : resE s = s.pools.length + s.locks.length + s.cls.length := by simp [resE, h0]
    have w1 : wrapF .i64 ((s.pools.length : Int) + s.locks.length) = s.pools.length + s.locks.length := wr_i64 (by omega) (by omega)
    have w2 : wrapF .i64 ((s.pools.length : Int) + s.locks.length + s.cls.length) = s.pools.length + s.locks.length + s.cls.length := wr_i64 (by omega) (by omega)
    simp only [↓sxc, sx, se, ↓reduceIte, Nat.reduceEqDiff, Nat.reduceAdd, Nat.reduceLT, Nat.reduceLeDiff, Nat.reduceSub, Nat.reduceMul, Int.reduceToNat, Int.reduceLT, Int.reduceLE, Int.reduceEq, ml_i0, c0, h0, w1, w2, e]
  · have e : resE s = 0 := by simp [resE, h0]
    simp only [↓sxc, sx, se, ↓reduceIte, Nat.reduceEqDiff, Nat.reduceAdd, Nat.reduceLT, Nat.reduceLeDiff, Nat.reduceSub, Nat.reduceMul, Int.reduceToNat, Int.reduceLT, Int.reduceLE, Int.reduceEq, ml_i0, c0, h0, e]


/-! ### The reference's units and demands -/
def unitsE (pool : Int) (l : List Stp) (deep : Bool) : Int := if deep = true then (ud pool l (0, 0)).2 else (ud pool l (0, 0)).1

theorem ud_bd {pool : Int} : ∀ {t : List Stp} {q : Int × Int} {n : Int}, (∀ x ∈ t, -1000 ≤ x.cnt ∧ x.cnt ≤ 1000) → (-n ≤ q.1 ∧ q.1 ≤ n) → (-n ≤ q.2 ∧ q.2 ≤ n) →
    (-(n + 1000 * t.length) ≤ (ud pool t q).1 ∧ (ud pool t q).1 ≤ n + 1000 * t.length) ∧ (-(n + 1000 * t.length) ≤ (ud pool t q).2 ∧ (ud pool t q).2 ≤ n + 1000 * t.length)
  | [], q, n, _, h1, h2 => by simp [ud]; omega
  | x :: t, q, n, hx, h1, h2 => by
    obtain ⟨k1, k2⟩ := udStep_bd (pool := pool) (hx x (by simp)) h1 h2
    have := ud_bd (pool := pool) (t := t) (n := n + 1000) (fun y hy => hx y (by simp [hy])) k1 k2
    simp only [ud, List.length_cons]
    push_cast
    omega

theorem sp93 {F : Nat → Option Fn} (hB : HasB F) {lo : Nat} {m : Mem} (c : Cls) (pool : Int) (n : Nat) (deep : Bool) (hc : OkC c) (hn : n ≤ c.steps.length) : callw F 93 [vCls c, vi pool, vi n, .bool deep] lo m = some (vi (unitsE pool (c.steps.take n) deep), m) := by
  have hl := hc.l12
  have loop : ∀ (t : List Stp) (i : Nat) (a d : Int) (Q : Ex → St → Prop), (c.steps.take n).drop i = t → (-(1000 * (i : Int)) ≤ a ∧ a ≤ 1000 * i) → (-(1000 * (i : Int)) ≤ d ∧ d ≤ 1000 * i) →
      (∀ e, Q (.exit 0) ⟨(1, vi pool) :: (2, vi n) :: (3, .bool deep) :: (9, vi (ud pool t (a, d)).1) :: (10, vi (ud pool t (a, d)).2) :: e, [(4, vCls c)], [], m⟩) →
      W F m.next L93_1 ⟨[(1, vi pool), (2, vi n), (3, .bool deep), (9, vi a), (10, vi d), (11, vi i)], [(4, vCls c)], [], m⟩ Q := by
    intro t
    induction t with
    | nil =>
      intro i a d Q hd _ _ hq
      have hlt := drop_nil hd
      rw [List.length_take, Nat.min_eq_left hn] at hlt
      rw [W_L (c := L93_1) rfl]
      have : ¬ ((i : Nat) : Int) < (n : Int) := by omega
      simp only [↓sxc, sx, se, ↓reduceIte, Nat.reduceEqDiff, Nat.reduceAdd, Nat.reduceLT, Nat.reduceLeDiff, Nat.reduceSub, Nat.reduceMul, Int.reduceToNat, Int.reduceLT, Int.reduceLE, Int.reduceEq, ml_i0, this]
      exact hq _
    | cons z t ih =>
      intro i a d Q hd ha hdd hq
      obtain ⟨hg0, hd', hlt⟩ := drop_cons hd
      rw [List.length_take, Nat.min_eq_left hn] at hlt
      have hg : c.steps[i]? = some z := by
        rw [List.getElem?_take, if_pos hlt] at hg0
        exact hg0
      have hz := hc.cnt z (List.mem_of_getElem? hg)
      rw [W_L (c := L93_1) rfl]
      have : ((i : Nat) : Int) < (n : Int) := by omega
      have wr : wrapF .i64 ((i : Int) + 1) = ((i + 1 : Nat) : Int) := by rw [wr_i64 (by omega) (by omega)]; rfl
      have wa : wrapF .i64 (a + z.cnt) = a + z.cnt := wr_i64 (by omega) (by omega)
      have ws : wrapF .i64 (a - z.cnt) = a - z.cnt := wr_i64 (by omega) (by omega)
      have wd : wrapF .i64 (d + z.cnt) = d + z.cnt := wr_i64 (by omega) (by omega)
      have we : wrapF .i64 (d - z.cnt) = d - z.cnt := wr_i64 (by omega) (by omega)
      have mx : max (d - z.cnt) 0 = d - min d z.cnt := by omega
      have go : ∀ a1 d1, udStep pool z (a, d) = (a1, d1) → W F m.next L93_1 ⟨[(1, vi pool), (2, vi n), (3, .bool deep), (9, vi a1), (10, vi d1), (11, vi (i + 1 : Nat))], [(4, vCls c)], [], m⟩ Q := by
        intro a1 d1 hu
        have hb := udStep_bd (pool := pool) (q := (a, d)) hz ha hdd
        rw [hu] at hb
        refine ih (i + 1) a1 d1 Q hd' (by push_cast; omega) (by push_cast; omega) ?_
        simp only [ud, hu] at hq
        exact hq
      by_cases ho : z.on = pool
      · by_cases k1 : z.kind = 1
        · cases hdp : z.deep
          · simp only [↓sxc, sx, se, ↓reduceIte, Nat.reduceEqDiff, Nat.reduceAdd, Nat.reduceLT, Nat.reduceLeDiff, Nat.reduceSub, Nat.reduceMul, Int.reduceToNat, Int.reduceLT, Int.reduceLE, Int.reduceEq, ml_i0, this, hg, ho, k1, hdp, wa, wr]
            exact go _ _ (by simp [udStep, ho, k1, hdp])
          · simp only [↓sxc, sx, se, ↓reduceIte, Nat.reduceEqDiff, Nat.reduceAdd, Nat.reduceLT, Nat.reduceLeDiff, Nat.reduceSub, Nat.reduceMul, Int.reduceToNat, Int.reduceLT, Int.reduceLE, Int.reduceEq, ml_i0, this, hg, ho, k1, hdp, wa, wd, wr]
            exact go _ _ (by simp [udStep, ho, k1, hdp])
        · by_cases k2 : z.kind = 2
          · simp only [↓sxc, sx, se, ↓reduceIte, Nat.reduceEqDiff, Nat.reduceAdd, Nat.reduceLT, Nat.reduceLeDiff, Nat.reduceSub, Nat.reduceMul, Int.reduceToNat, Int.reduceLT, Int.reduceLE, Int.reduceEq, ml_i0, this, hg, ho, k1, k2, ws, we, mx, wr]
            exact go _ _ (by simp [udStep, ho, k2])
          · simp only [↓sxc, sx, se, ↓reduceIte, Nat.reduceEqDiff, Nat.reduceAdd, Nat.reduceLT, Nat.reduceLeDiff, Nat.reduceSub, Nat.reduceMul, Int.reduceToNat, Int.reduceLT, Int.reduceLE, Int.reduceEq, ml_i0, this, hg, ho, k1, k2, wr]
            exact go _ _ (by simp [udStep, ho, k1, k2])
      · simp only [↓sxc, sx, se, ↓reduceIte, Nat.reduceEqDiff, Nat.reduceAdd, Nat.reduceLT, Nat.reduceLeDiff, Nat.reduceSub, Nat.reduceMul, Int.reduceToNat, Int.reduceLT, Int.reduceLE, Int.reduceEq, ml_i0, this, hg, ho, wr]
        exact go _ _ (by simp [udStep, ho])
  refine call_p hB.h93 rfl ?_
  simp only [↓sxc, sx, se, ↓reduceIte, Nat.reduceEqDiff, Nat.reduceAdd, Nat.reduceLT, Nat.reduceLeDiff, Nat.reduceSub, Nat.reduceMul, Int.reduceToNat, Int.reduceLT, Int.reduceLE, Int.reduceEq, ml_i0]
  refine loop (c.steps.take n) 0 0 0 _ rfl (by simp) (by simp) (fun e => ?_)
  cases deep
  · simp only [↓sxc, sx, se, ↓reduceIte, Nat.reduceEqDiff, Nat.reduceAdd, Nat.reduceLT, Nat.reduceLeDiff, Nat.reduceSub, Nat.reduceMul, Int.reduceToNat, Int.reduceLT, Int.reduceLE, Int.reduceEq, ml_i0]
    rfl
  · simp only [↓sxc, sx, se, ↓reduceIte, Nat.reduceEqDiff, Nat.reduceAdd, Nat.reduceLT, Nat.reduceLeDiff, Nat.reduceSub, Nat.reduceMul, Int.reduceToNat, Int.reduceLT, Int.reduceLE, Int.reduceEq, ml_i0]
    rfl

end Go.Am
