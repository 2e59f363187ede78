/- Impossible steps. -/
import Derived.Test.YtflfnkdhmcfjlaaSpP
import Derived.Test.YtflfnkdhmcfjlaaCC
namespace Go.Am
open Go
set_option linter.unusedSimpArgs false
set_option linter.unusedVariables false
set_option maxRecDepth 100000

def wkAt (s : Sys) (on : Int) : Int := match s.cls[on.toNat]? with
  | some c => c.wk
  | none => 0
def impE (s : Sys) (x : Stp) : Bool :=
  if x.kind = 1 then !x.deep && decide (sizeAt s x.on - resAt s x.on < x.cnt) else if x.kind = 5 then decide (wkAt s x.on = 0) else false
def impS (s : Sys) : List Stp → Nat → Int
  | [], _ => -1
  | x :: t, k => if impE s x = true then (k : Int) else impS s t (k + 1)
def impC (s : Sys) : List Cls → Nat → Int × Int × Bool
  | [], _ => (0, 0, false)
  | c :: t, i => if 0 ≤ impS s c.steps 0 then ((i : Int), impS s c.steps 0, true) else impC s t (i + 1)
def impA (s : Sys) : Int × Int × Bool := if chkE s ≠ 0 then (0, 0, false) else impC s s.cls 0

theorem on_cls {s : Sys} {x : Stp} (h : preE s x = 0) (hk : x.kind = 5) : 0 ≤ x.on ∧ ∃ c, s.cls[x.on.toNat]? = some c := by
  obtain ⟨o1, o2, _⟩ := preE_on h
  have : nOf s x = s.cls.length := by simp [nOf, hk]
  exact ⟨o1, _, List.getElem?_eq_getElem (by omega)⟩

theorem sp143 {F : Nat → Option Fn} (hC : HasC F) {lo : Nat} {m : Mem} (s : Sys) (x : Stp) (hv : Valid s) (hp : preE s x = 0) : callw F 143 [vSys s, vStp x] lo m = some (.bool (impE s x), m) := by
  refine call_p hC.h143 rfl ?_
  by_cases k1 : x.kind = 1
  · obtain ⟨o1, p, ho⟩ := on_pools hp k1
    have hb := hv.pool p (List.mem_of_getElem? ho)
    have hs : sizeAt s x.on = p.size := by simp [sizeAt, ho]
    have hr : resAt s x.on = p.res := by simp [resAt, ho]
    have w1 : wrapF .i64 (p.size - p.res) = p.size - p.res := wr_i64 (by omega) (by omega)
    cases hd : x.deep with
    | true =>
      have e : impE s x = false := by simp [impE, k1, hd]
      simp only [↓sxc, sx, se, ↓reduceIte, Nat.reduceEqDiff, Nat.reduceAdd, Nat.reduceLT, Nat.reduceLeDiff, Nat.reduceSub, Nat.reduceMul, Int.reduceToNat, Int.reduceLT, Int.reduceLE, Int.reduceEq, ml_i0, ↓smc, sm, k1, hd, e]
    | false =>
      have e : impE s x = decide (p.size - p.res < x.cnt) := by simp [impE, k1, hd, hs, hr]
      simp only [↓sxc, sx, se, ↓reduceIte, Nat.reduceEqDiff, Nat.reduceAdd, Nat.reduceLT, Nat.reduceLeDiff, Nat.reduceSub, Nat.reduceMul, Int.reduceToNat, Int.reduceLT, Int.reduceLE, Int.reduceEq, ml_i0, ↓smc, sm, k1, hd, o1, ho, w1, e]
  · by_cases k5 : x.kind = 5
    · obtain ⟨o1, c, ho⟩ := on_cls hp k5
      have e : impE s x = decide (c.wk = 0) := by simp [impE, k5, wkAt, ho]
      simp only [↓sxc, sx, se, ↓reduceIte, Nat.reduceEqDiff, Nat.reduceAdd, Nat.reduceLT, Nat.reduceLeDiff, Nat.reduceSub, Nat.reduceMul, Int.reduceToNat, Int.reduceLT, Int.reduceLE, Int.reduceEq, ml_i0, ↓smc, sm, k5, o1, ho, e]
    · have e : impE s x = false := by simp [impE, k1, k5]
      simp only [↓sxc, sx, se, ↓reduceIte, Nat.reduceEqDiff, Nat.reduceAdd, Nat.reduceLT, Nat.reduceLeDiff, Nat.reduceSub, Nat.reduceMul, Int.reduceToNat, Int.reduceLT, Int.reduceLE, Int.reduceEq, ml_i0, ↓smc, sm, k1, k5, e]

theorem sp142 {F : Nat → Option Fn} (hC : HasC F) {lo h : Nat} {m : Mem} (s : Sys) (x : Stp) (hv : Valid s) (hp : preE s x = 0) (hb : m.blk h = some (.row 3 [vSys s])) : callw F 142 [vStp x, .ptr h 0 0] lo m = some (.bool (impE s x), m) := by
  have c1 : ∀ {lo m}, callw F 143 [vSys s, vStp x] lo m = some (.bool (impE s x), m) := fun {lo m} => sp143 hC s x hv hp
  refine call_p hC.h142 rfl ?_
  simp only [↓sxc, sx, se, ↓reduceIte, Nat.reduceEqDiff, Nat.reduceAdd, Nat.reduceLT, Nat.reduceLeDiff, Nat.reduceSub, Nat.reduceMul, Int.reduceToNat, Int.reduceLT, Int.reduceLE, Int.reduceEq, ml_i0, ↓smc, sm, hb, c1]

theorem sp141 {F : Nat → Option Fn} (hC : HasC F) {lo : Nat} {m : Mem} (l : List Stp) {f : Nat} {cs : List V} {p : Stp → Bool} (hf : f < 1000) (hp : ∀ x ∈ l, ∀ lo, callw F f (vStp x :: cs) lo m = some (.bool (p x), m)) (hs : l.length < 1000000) : callw F 141 [vStps l, .fn f cs] lo m = some (vi (idxP p l 0), m) := by
  have loop : ∀ (t : List Stp) (i : Nat) (Q : Ex → St → Prop), l.drop i = t → (∀ j, idxP p t i = j → j ≠ -1 → Q .ret ⟨[(4, vi j)], [], [], m⟩) →
      (idxP p t i = -1 → ∀ e, Q (.exit 0) ⟨e, [], [], m⟩) →
      W F m.next L141_1 ⟨[(0, vStps l), (1, .fn f cs), (7, vi l.length), (8, vi i)], [], [], m⟩ Q := by
    intro t
    induction t with
    | nil =>
      intro i Q hd h1 h2
      have hlt := drop_nil hd
      rw [W_L (c := L141_1) rfl]
      have : ¬ ((i : Nat) : Int) < (l.length : Int) := by omega
      simp only [↓sxc, sx, se, ↓reduceIte, Nat.reduceEqDiff, Nat.reduceAdd, Nat.reduceLT, Nat.reduceLeDiff, Nat.reduceSub, Nat.reduceMul, Int.reduceToNat, Int.reduceLT, Int.reduceLE, Int.reduceEq, ml_i0, ↓smc, sm, this]
      exact h2 rfl _
    | cons x t ih =>
      intro i Q hd h1 h2
      obtain ⟨hg, hd', hlt⟩ := drop_cons hd
      rw [W_L (c := L141_1) rfl]
      have : ((i : Nat) : Int) < (l.length : Int) := by omega
      have wr : wrapF .i64 ((i : Int) + 1) = ((i + 1 : Nat) : Int) := by rw [wr_i64 (by omega) (by omega)]; rfl
      have hc := hp x (List.mem_of_getElem? hg)
      cases hx : p x with
      | true =>
        have e : idxP p (x :: t) i = (i : Int) := by simp [idxP, hx]
        rw [hx] at hc
        simp only [↓sxc, sx, se, ↓reduceIte, Nat.reduceEqDiff, Nat.reduceAdd, Nat.reduceLT, Nat.reduceLeDiff, Nat.reduceSub, Nat.reduceMul, Int.reduceToNat, Int.reduceLT, Int.reduceLE, Int.reduceEq, ml_i0, ↓smc, sm, this, hg, hf, hc, List.append_eq, List.nil_append, List.cons_append]
        exact h1 i e (by omega)
      | false =>
        have e : idxP p (x :: t) i = idxP p t (i + 1) := by simp [idxP, hx]
        rw [e] at h1 h2
        rw [hx] at hc
        simp only [↓sxc, sx, se, ↓reduceIte, Nat.reduceEqDiff, Nat.reduceAdd, Nat.reduceLT, Nat.reduceLeDiff, Nat.reduceSub, Nat.reduceMul, Int.reduceToNat, Int.reduceLT, Int.reduceLE, Int.reduceEq, ml_i0, ↓smc, sm, this, hg, hf, hc, wr, List.append_eq, List.nil_append, List.cons_append]
        exact ih (i + 1) Q hd' h1 h2
  refine call_p hC.h141 rfl ?_
  simp only [↓sxc, sx, se, ↓reduceIte, Nat.reduceEqDiff, Nat.reduceAdd, Nat.reduceLT, Nat.reduceLeDiff, Nat.reduceSub, Nat.reduceMul, Int.reduceToNat, Int.reduceLT, Int.reduceLE, Int.reduceEq, ml_i0, ↓smc, sm]
  refine loop l 0 _ rfl (fun j hj hne => ?_) (fun hn e => ?_)
  · simp only [↓sxc, sx, se, ↓reduceIte, Nat.reduceEqDiff, Nat.reduceAdd, Nat.reduceLT, Nat.reduceLeDiff, Nat.reduceSub, Nat.reduceMul, Int.reduceToNat, Int.reduceLT, Int.reduceLE, Int.reduceEq, ml_i0, ↓smc, sm, hj]
  · simp only [↓sxc, sx, se, ↓reduceIte, Nat.reduceEqDiff, Nat.reduceAdd, Nat.reduceLT, Nat.reduceLeDiff, Nat.reduceSub, Nat.reduceMul, Int.reduceToNat, Int.reduceLT, Int.reduceLE, Int.reduceEq, ml_i0, ↓smc, sm, hn]

theorem idxP_impS {s : Sys} : ∀ {l : List Stp} {k : Nat}, idxP (impE s) l k = impS s l k
  | [], k => rfl
  | x :: t, k => by
    simp only [idxP, impS, idxP_impS (l := t)]

theorem sp81 {F : Nat → Option Fn} (hA : HasA F) (hC : HasC F) {lo : Nat} {m : Mem} (s : Sys) : callw F 81 [vSys s] lo m = some (.tup [vi (impA s).1, vi (impA s).2.1, .bool (impA s).2.2], m) := by
  have c0 : ∀ {lo m}, callw F 49 [vSys s] lo m = some (vi (chkE s), m) := fun {lo m} => sp49 hA s
  refine call_p hC.h81 rfl ?_
  by_cases h0 : chkE s = 0
  · have hv := valid_of h0
    have c6 := hv.c6
    have loop : ∀ (t : List Cls) (i : Nat) (m' : Mem) (h : Nat) (Q : Ex → St → Prop), s.cls.drop i = t → m'.blk h = some (.row 3 [vSys s]) →
        ((impC s t i).2.2 = true → ∀ m', Q .ret ⟨[(2, vi (impC s t i).1), (3, vi (impC s t i).2.1), (4, .bool true)], [], [], m'⟩) → (impC s t i = (0, 0, false) → ∀ m' e, Q (.exit 0) ⟨e, [], [], m'⟩) →
        W F m.next L81_1 ⟨[(1, .ptr h 0 0), (12, vi s.cls.length), (13, vi i)], [], [], m'⟩ Q := by
      intro t
      induction t with
      | nil =>
        intro i m' h Q hd hb h1 h2
        have hlt := drop_nil hd
        rw [W_L (c := L81_1) rfl]
        have : ¬ ((i : Nat) : Int) < (s.cls.length : Int) := by omega
        simp only [↓sxc, sx, se, ↓reduceIte, Nat.reduceEqDiff, Nat.reduceAdd, Nat.reduceLT, Nat.reduceLeDiff, Nat.reduceSub, Nat.reduceMul, Int.reduceToNat, Int.reduceLT, Int.reduceLE, Int.reduceEq, ml_i0, ↓smc, sm, this]
        exact h2 rfl _ _
      | cons c t ih =>
        intro i m' h Q hd hb h1 h2
        obtain ⟨hg, hd', hlt⟩ := drop_cons hd
        rw [W_L (c := L81_1) rfl]
        have : ((i : Nat) : Int) < (s.cls.length : Int) := by omega
        have wr : wrapF .i64 ((i : Int) + 1) = ((i + 1 : Nat) : Int) := by rw [wr_i64 (by omega) (by omega)]; rfl
        have hcm := List.mem_of_getElem? hg
        have hl12 := (hv.okC c hcm).l12
        have cc : ∀ {lo}, callw F 141 [vStps c.steps, .fn 142 [.ptr h 0 0]] lo m' = some (vi (impS s c.steps 0), m') := fun {lo} => by
          rw [← idxP_impS]
          exact sp141 hC c.steps (by decide) (fun x hx lo => sp142 hC s x hv (hv.pre hcm hx) hb) (by omega)
        by_cases hi : 0 ≤ impS s c.steps 0
        · have e : impC s (c :: t) i = ((i : Int), impS s c.steps 0, true) := by simp [impC, hi]
          rw [e] at h1
          simp only [↓sxc, sx, se, ↓reduceIte, Nat.reduceEqDiff, Nat.reduceAdd, Nat.reduceLT, Nat.reduceLeDiff, Nat.reduceSub, Nat.reduceMul, Int.reduceToNat, Int.reduceLT, Int.reduceLE, Int.reduceEq, ml_i0, ↓smc, sm, this, hb, hg, cc, hi]
          exact h1 rfl _
        · have e : impC s (c :: t) i = impC s t (i + 1) := by simp [impC, hi]
          rw [e] at h1 h2
          simp only [↓sxc, sx, se, ↓reduceIte, Nat.reduceEqDiff, Nat.reduceAdd, Nat.reduceLT, Nat.reduceLeDiff, Nat.reduceSub, Nat.reduceMul, Int.reduceToNat, Int.reduceLT, Int.reduceLE, Int.reduceEq, ml_i0, ↓smc, sm, this, hb, hg, cc, hi, wr]
          exact ih (i + 1) m' h Q hd' hb h1 h2
    have hb : ((m.set m.next (some (Blk.row 3 [vSys s]))).bump 1).blk m.next = some (.row 3 [vSys s]) := by simp [Mem.set, Mem.bump]
    have hb' : (m.set m.next (some (Blk.row 3 [vSys s]))).blk m.next = some (.row 3 [vSys s]) := by simp [Mem.set]
    have e : impA s = impC s s.cls 0 := by simp [impA, h0]
    simp only [↓sxc, sx, se, ↓reduceIte, Nat.reduceEqDiff, Nat.reduceAdd, Nat.reduceLT, Nat.reduceLeDiff, Nat.reduceSub, Nat.reduceMul, Int.reduceToNat, Int.reduceLT, Int.reduceLE, Int.reduceEq, ml_i0, ↓smc, sm, c0, h0, hb, hb']
    refine loop s.cls 0 _ m.next _ rfl hb (fun h m' => ?_) (fun h m' e1 => ?_)
    · simp only [↓sxc, sx, se, ↓reduceIte, Nat.reduceEqDiff, Nat.reduceAdd, Nat.reduceLT, Nat.reduceLeDiff, Nat.reduceSub, Nat.reduceMul, Int.reduceToNat, Int.reduceLT, Int.reduceLE, Int.reduceEq, ml_i0, ↓smc, sm]
      simp only [mapO, fz_int, fz_bool]
      rw [e, h]
      rfl
    · simp only [↓sxc, sx, se, ↓reduceIte, Nat.reduceEqDiff, Nat.reduceAdd, Nat.reduceLT, Nat.reduceLeDiff, Nat.reduceSub, Nat.reduceMul, Int.reduceToNat, Int.reduceLT, Int.reduceLE, Int.reduceEq, ml_i0, ↓smc, sm]
      simp only [mapO, fz_int, fz_bool]
      rw [e, h]
      rfl
  · have e : impA s = (0, 0, false) := by simp [impA, h0]
    have hb' : (m.set m.next (some (Blk.row 3 [vSys s]))).blk m.next = some (.row 3 [vSys s]) := by simp [Mem.set]
    simp only [↓sxc, sx, se, ↓reduceIte, Nat.reduceEqDiff, Nat.reduceAdd, Nat.reduceLT, Nat.reduceLeDiff, Nat.reduceSub, Nat.reduceMul, Int.reduceToNat, Int.reduceLT, Int.reduceLE, Int.reduceEq, ml_i0, ↓smc, sm, c0, h0, hb', e]
    rfl

theorem sp82 {F : Nat → Option Fn} (hA : HasA F) (hC : HasC F) {lo : Nat} {m : Mem} (s : Sys) : callw F 82 [vSys s] lo m = some (.tup [vi (impA s).1, vi (impA s).2.1, .bool (impA s).2.2], m) := by
  have c0 : ∀ {lo m}, callw F 91 [vSys s] lo m = some (vi (chkE s), m) := fun {lo m} => sp91 hA s
  refine call_p hC.h82 rfl ?_
  by_cases h0 : chkE s = 0
  · have hv := valid_of h0
    have c6 := hv.c6
    have loop1 : ∀ (i : Nat) (c : Cls) (hc : s.cls[i]? = some c) (t : List Stp) (k : Nat) (n : Nat) (Q : Ex → St → Prop), c.steps.drop k = t →
        (0 ≤ impS s t k → ∀ n, Q .ret ⟨[(2, vi i), (3, vi (impS s t k)), (4, .bool true)], [], [], m.bump n⟩) → (impS s t k = -1 → ∀ n e, Q (.exit 2) ⟨(5, vi i) :: e, [(1, vSys s)], [], m.bump n⟩) →
        W F m.next L82_1 ⟨[(5, vi i), (6, vi k)], [(1, vSys s)], [], m.bump n⟩ Q := by
      intro i c hc t
      have hcm := List.mem_of_getElem? hc
      have hl12 := (hv.okC c hcm).l12
      have i0 : ((i : Nat) : Int).toNat = i := rfl
      have p0 : (0 : Int) ≤ (i : Int) := by omega
      induction t with
      | nil =>
        intro k n Q hd h1 h2
        have hlt := drop_nil hd
        rw [W_L (c := L82_1) rfl]
        have : ¬ ((k : Nat) : Int) < (c.steps.length : Int) := by omega
        simp only [↓sxc, sx, se, ↓reduceIte, Nat.reduceEqDiff, Nat.reduceAdd, Nat.reduceLT, Nat.reduceLeDiff, Nat.reduceSub, Nat.reduceMul, Int.reduceToNat, Int.reduceLT, Int.reduceLE, Int.reduceEq, ml_i0, ↓smc, sm, hc, i0, p0, this]
        exact h2 rfl _ _
      | cons x t ih =>
        intro k n Q hd h1 h2
        obtain ⟨hg, hd', hlt⟩ := drop_cons hd
        rw [W_L (c := L82_1) rfl]
        have : ((k : Nat) : Int) < (c.steps.length : Int) := by omega
        have k0 : ((k : Nat) : Int).toNat = k := rfl
        have p1 : (0 : Int) ≤ (k : Int) := by omega
        have wr : wrapF .i64 ((k : Int) + 1) = ((k + 1 : Nat) : Int) := by rw [wr_i64 (by omega) (by omega)]; rfl
        have hp := hv.pre hcm (List.mem_of_getElem? hg)
        have yes : impE s x = true → ∀ n, Q .ret ⟨[(2, vi i), (3, vi k), (4, .bool true)], [], [], m.bump n⟩ := fun h n => by
          have e : impS s (x :: t) k = (k : Int) := by simp [impS, h]
          rw [e] at h1
          exact h1 (by omega) n
        have no : impE s x = false → ∀ n, W F m.next L82_1 ⟨[(5, vi i), (6, vi (k + 1 : Nat))], [(1, vSys s)], [], m.bump n⟩ Q := fun h n => by
          have e : impS s (x :: t) k = impS s t (k + 1) := by simp [impS, h]
          rw [e] at h1 h2
          exact ih (k + 1) n Q hd' h1 h2
        by_cases k1 : x.kind = 1
        · obtain ⟨o1, p, ho⟩ := on_pools hp k1
          have hb := hv.pool p (List.mem_of_getElem? ho)
          have hs : sizeAt s x.on = p.size := by simp [sizeAt, ho]
          have hr : resAt s x.on = p.res := by simp [resAt, ho]
          have w1 : wrapF .i64 (p.size - p.res) = p.size - p.res := wr_i64 (by omega) (by omega)
          cases hd : x.deep with
          | true =>
            simp only [↓sxc, sx, se, ↓reduceIte, Nat.reduceEqDiff, Nat.reduceAdd, Nat.reduceLT, Nat.reduceLeDiff, Nat.reduceSub, Nat.reduceMul, Int.reduceToNat, Int.reduceLT, Int.reduceLE, Int.reduceEq, ml_i0, ↓smc, sm, hc, i0, p0, this, k0, p1, hg, k1, hd, wr]
            exact no (by simp [impE, k1, hd]) _
          | false =>
            by_cases hgt : p.size - p.res < x.cnt
            · simp only [↓sxc, sx, se, ↓reduceIte, Nat.reduceEqDiff, Nat.reduceAdd, Nat.reduceLT, Nat.reduceLeDiff, Nat.reduceSub, Nat.reduceMul, Int.reduceToNat, Int.reduceLT, Int.reduceLE, Int.reduceEq, ml_i0, ↓smc, sm, hc, i0, p0, this, k0, p1, hg, k1, hd, o1, ho, w1, hgt, wr]
              exact yes (by simp [impE, k1, hd, hs, hr, hgt]) _
            · simp only [↓sxc, sx, se, ↓reduceIte, Nat.reduceEqDiff, Nat.reduceAdd, Nat.reduceLT, Nat.reduceLeDiff, Nat.reduceSub, Nat.reduceMul, Int.reduceToNat, Int.reduceLT, Int.reduceLE, Int.reduceEq, ml_i0, ↓smc, sm, hc, i0, p0, this, k0, p1, hg, k1, hd, o1, ho, w1, hgt, wr]
              exact no (by simp [impE, k1, hd, hs, hr]; omega) _
        · by_cases k5 : x.kind = 5
          · obtain ⟨o1, d, ho⟩ := on_cls hp k5
            by_cases hw : d.wk = 0
            · simp only [↓sxc, sx, se, ↓reduceIte, Nat.reduceEqDiff, Nat.reduceAdd, Nat.reduceLT, Nat.reduceLeDiff, Nat.reduceSub, Nat.reduceMul, Int.reduceToNat, Int.reduceLT, Int.reduceLE, Int.reduceEq, ml_i0, ↓smc, sm, hc, i0, p0, this, k0, p1, hg, k1, k5, o1, ho, hw, wr]
              exact yes (by simp [impE, k5, wkAt, ho, hw]) _
            · simp only [↓sxc, sx, se, ↓reduceIte, Nat.reduceEqDiff, Nat.reduceAdd, Nat.reduceLT, Nat.reduceLeDiff, Nat.reduceSub, Nat.reduceMul, Int.reduceToNat, Int.reduceLT, Int.reduceLE, Int.reduceEq, ml_i0, ↓smc, sm, hc, i0, p0, this, k0, p1, hg, k1, k5, o1, ho, hw, wr]
              exact no (by simp [impE, k5, wkAt, ho, hw]) _
          · simp only [↓sxc, sx, se, ↓reduceIte, Nat.reduceEqDiff, Nat.reduceAdd, Nat.reduceLT, Nat.reduceLeDiff, Nat.reduceSub, Nat.reduceMul, Int.reduceToNat, Int.reduceLT, Int.reduceLE, Int.reduceEq, ml_i0, ↓smc, sm, hc, i0, p0, this, k0, p1, hg, k1, k5, wr]
            exact no (by simp [impE, k1, k5]) _
    have loop2 : ∀ (t : List Cls) (i : Nat) (n : Nat) (Q : Ex → St → Prop), s.cls.drop i = t →
        ((impC s t i).2.2 = true → ∀ n, Q .ret ⟨[(2, vi (impC s t i).1), (3, vi (impC s t i).2.1), (4, .bool true)], [], [], m.bump n⟩) → (impC s t i = (0, 0, false) → ∀ n e, Q (.exit 0) ⟨e, [(1, vSys s)], [], m.bump n⟩) →
        W F m.next L82_2 ⟨[(5, vi i)], [(1, vSys s)], [], m.bump n⟩ Q := by
      intro t
      induction t with
      | nil =>
        intro i n Q hd h1 h2
        have hlt := drop_nil hd
        rw [W_L (c := L82_2) rfl]
        have : ¬ ((i : Nat) : Int) < (s.cls.length : Int) := by omega
        simp only [↓sxc, sx, se, ↓reduceIte, Nat.reduceEqDiff, Nat.reduceAdd, Nat.reduceLT, Nat.reduceLeDiff, Nat.reduceSub, Nat.reduceMul, Int.reduceToNat, Int.reduceLT, Int.reduceLE, Int.reduceEq, ml_i0, ↓smc, sm, this]
        exact h2 rfl _ _
      | cons c t ih =>
        intro i n Q hd h1 h2
        obtain ⟨hg, hd', hlt⟩ := drop_cons hd
        rw [W_L (c := L82_2) rfl]
        have : ((i : Nat) : Int) < (s.cls.length : Int) := by omega
        have wr : wrapF .i64 ((i : Int) + 1) = ((i + 1 : Nat) : Int) := by rw [wr_i64 (by omega) (by omega)]; rfl
        simp only [↓sxc, sx, se, ↓reduceIte, Nat.reduceEqDiff, Nat.reduceAdd, Nat.reduceLT, Nat.reduceLeDiff, Nat.reduceSub, Nat.reduceMul, Int.reduceToNat, Int.reduceLT, Int.reduceLE, Int.reduceEq, ml_i0, ↓smc, sm, this]
        refine loop1 i c hg c.steps 0 _ _ rfl (fun h n => ?_) (fun h n e => ?_)
        · have e : impC s (c :: t) i = ((i : Int), impS s c.steps 0, true) := by simp [impC, h]
          rw [e] at h1
          simp only [↓sxc, sx, se, ↓reduceIte, Nat.reduceEqDiff, Nat.reduceAdd, Nat.reduceLT, Nat.reduceLeDiff, Nat.reduceSub, Nat.reduceMul, Int.reduceToNat, Int.reduceLT, Int.reduceLE, Int.reduceEq, ml_i0, ↓smc, sm]
          exact h1 rfl n
        · have e : impC s (c :: t) i = impC s t (i + 1) := by simp [impC, h]
          rw [e] at h1 h2
          simp only [↓sxc, sx, se, ↓reduceIte, Nat.reduceEqDiff, Nat.reduceAdd, Nat.reduceLT, Nat.reduceLeDiff, Nat.reduceSub, Nat.reduceMul, Int.reduceToNat, Int.reduceLT, Int.reduceLE, Int.reduceEq, ml_i0, ↓smc, sm, wr]
          exact ih (i + 1) n Q hd' h1 h2
    have e : impA s = impC s s.cls 0 := by simp [impA, h0]
    simp only [↓sxc, sx, se, ↓reduceIte, Nat.reduceEqDiff, Nat.reduceAdd, Nat.reduceLT, Nat.reduceLeDiff, Nat.reduceSub, Nat.reduceMul, Int.reduceToNat, Int.reduceLT, Int.reduceLE, Int.reduceEq, ml_i0, ↓smc, sm, c0, h0]
    refine loop2 s.cls 0 0 _ rfl (fun h n => ?_) (fun h n e1 => ?_)
    · simp only [↓sxc, sx, se, ↓reduceIte, Nat.reduceEqDiff, Nat.reduceAdd, Nat.reduceLT, Nat.reduceLeDiff, Nat.reduceSub, Nat.reduceMul, Int.reduceToNat, Int.reduceLT, Int.reduceLE, Int.reduceEq, ml_i0, ↓smc, sm]
      simp only [mapO, fz_int, fz_bool]
      rw [e, h]
      rfl
    · simp only [↓sxc, sx, se, ↓reduceIte, Nat.reduceEqDiff, Nat.reduceAdd, Nat.reduceLT, Nat.reduceLeDiff, Nat.reduceSub, Nat.reduceMul, Int.reduceToNat, Int.reduceLT, Int.reduceLE, Int.reduceEq, ml_i0, ↓smc, sm]
      simp only [mapO, fz_int, fz_bool]
      rw [e, h]
      rfl
  · have e : impA s = (0, 0, false) := by simp [impA, h0]
    simp only [↓sxc, sx, se, ↓reduceIte, Nat.reduceEqDiff, Nat.reduceAdd, Nat.reduceLT, Nat.reduceLeDiff, Nat.reduceSub, Nat.reduceMul, Int.reduceToNat, Int.reduceLT, Int.reduceLE, Int.reduceEq, ml_i0, ↓smc, sm, c0, h0, e]
    rfl

end Go.Am
