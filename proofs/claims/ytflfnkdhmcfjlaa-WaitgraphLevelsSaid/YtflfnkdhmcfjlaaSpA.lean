/- What the small functions of paths and of its reference compute: searches in lists, names. -/
import Derived.Test.YtflfnkdhmcfjlaaEnc
import Derived.Test.YtflfnkdhmcfjlaaWps
import Derived.Test.YtflfnkdhmcfjlaaCA
import Derived.Test.YtflfnkdhmcfjlaaCG
namespace Go.Am
open Go
set_option linter.unusedSimpArgs false
set_option linter.unusedVariables false

/-! ### Slices as arguments: lists, or rows of the caller's -/
/-- The slice v shows, at memory m, the elements xs. -/
def Sl (m : Mem) (sz : Nat) (v : V) (xs : List V) : Prop := (∃ p, v = .ro p sz xs) ∨ ∃ h o es, v = .row sz h o xs.length ∧ m.blk h = some (.row sz es) ∧ o + xs.length ≤ es.length ∧ (es.drop o).take xs.length = xs
theorem Sl.len {m : Mem} {sz : Nat} {v : V} {xs : List V} (h : Sl m sz v xs) : retV (.len false) [v] = some (.int .i64 (xs.length : Int)) := by
  rcases h with ⟨p, rfl⟩ | ⟨h, o, es, rfl, _⟩
  · rfl
  · rfl
theorem Sl.at {m : Mem} {sz : Nat} {v x : V} {xs : List V} (h : Sl m sz v xs) {i : Nat} (hi : xs[i]? = some x) : ∃ ad, retV (.ia sz) [v, .int .i64 (i : Int)] = some ad ∧ ∀ bx agg n, ldV bx m agg n ad = getC agg 0 n x := by
  have hlt : i < xs.length := by
    rcases Nat.lt_or_ge i xs.length with h | h
    · exact h
    · rw [List.getElem?_eq_none h] at hi; cases hi
  rcases h with ⟨p, rfl⟩ | ⟨h, o, es, rfl, hb, ho, he⟩
  · refine ⟨.imm x 0, ?_, fun bx agg n => rfl⟩
    rw [r_iaro]
    simp [hi]
  · refine ⟨.ptr h (o + i) 0, ?_, fun bx agg n => ?_⟩
    · rw [r_iar]
      simp only [Int.natCast_nonneg, true_and, and_true, Int.toNat_natCast]
      rw [if_pos (by omega)]
    · rw [ld_ptr hb]
      have : es[o + i]? = some x := by
        rw [← he, List.getElem?_take, if_pos hlt, List.getElem?_drop] at hi
        exact hi
      rw [this]
theorem Sl.ints {m : Mem} {l : List Int} : Sl m 1 (Go.Am.ints l) (l.map vi) := .inl ⟨true, rfl⟩
theorem Sl.bools {m : Mem} {l : List Bool} : Sl m 1 (Go.Am.bools l) (l.map .bool) := .inl ⟨true, rfl⟩
theorem Sl.strs {m : Mem} {l : List (List UInt8)} : Sl m 1 (Go.Am.strs l) (l.map .str) := .inl ⟨true, rfl⟩
theorem Sl.row {m : Mem} {sz h : Nat} {xs : List V} (hb : m.blk h = some (.row sz xs)) : Sl m sz (.row sz h 0 xs.length) xs := .inr ⟨h, 0, xs, rfl, hb, by simp, by simp⟩
theorem Sl.bump {m : Mem} {sz n : Nat} {v : V} {xs : List V} (h : Sl m sz v xs) : Sl (m.bump n) sz v xs := h

/-! ### slices.Index and slices.Contains, at three types -/
theorem sx153 {F : Nat → Option Fn} (hA : HasA F) {lo : Nat} {m : Mem} {v : V} (l : List (List UInt8)) (s : (List UInt8)) (hv : Sl m 1 v (l.map V.str)) (hs : l.length < 1000000) : callw F 153 [v, V.str s] lo m = some (vi (idxP (fun x => decide (s = x)) l 0), m) := by
  have hlen := hv.len
  rw [List.length_map] at hlen
  have loop : ∀ (t : List (List UInt8)) (i : Nat) (Q : Ex → St → Prop), l.drop i = t → (∀ j, idxP (fun x => decide (s = x)) t i = j → j ≠ -1 → Q .ret ⟨[(4, vi j)], [], [], m⟩) →
      (idxP (fun x => decide (s = x)) t i = -1 → ∀ i e, Q (.exit 0) ⟨[(0, v), (1, V.str s), (7, vi l.length), (8, vi i), (9, e)], [], [], m⟩) →
      W F m.next L153_1 ⟨[(0, v), (1, V.str s), (7, vi l.length), (8, vi i)], [], [], m⟩ Q := by
    intro t
    induction t with
    | nil =>
      intro i Q hd h1 h2
      have hlt := drop_nil hd
      rw [W_L (c := L153_1) rfl]
      have : ¬ ((i : Nat) : Int) < (l.length : Int) := by omega
      simp only [↓sxc, sx, se, ↓reduceIte, Nat.reduceEqDiff, Nat.reduceAdd, Nat.reduceLT, Nat.reduceLeDiff, Nat.reduceSub, Nat.reduceMul, Int.reduceToNat, Int.reduceLT, Int.reduceLE, Int.reduceEq, ml_i0, this]
      exact h2 rfl i _
    | cons x t ih =>
      intro i Q hd h1 h2
      obtain ⟨hg, hd', hlt⟩ := drop_cons hd
      rw [W_L (c := L153_1) rfl]
      have : ((i : Nat) : Int) < (l.length : Int) := by omega
      obtain ⟨ad, a1, a2⟩ := hv.at (i := i) (x := V.str x) (by rw [List.getElem?_map, hg]; rfl)
      by_cases hx : s = x
      · have e : idxP (fun x => decide (s = x)) (x :: t) i = (i : Int) := by simp [idxP, hx]
        simp only [↓sxc, sx, se, ↓reduceIte, Nat.reduceEqDiff, Nat.reduceAdd, Nat.reduceLT, Nat.reduceLeDiff, Nat.reduceSub, Nat.reduceMul, Int.reduceToNat, Int.reduceLT, Int.reduceLE, Int.reduceEq, ml_i0, this, a1, a2, hx]
        exact h1 i e (by omega)
      · have e : idxP (fun x => decide (s = x)) (x :: t) i = idxP (fun x => decide (s = x)) t (i + 1) := by simp [idxP, hx]
        rw [e] at h1 h2
        simp only [↓sxc, sx, se, ↓reduceIte, Nat.reduceEqDiff, Nat.reduceAdd, Nat.reduceLT, Nat.reduceLeDiff, Nat.reduceSub, Nat.reduceMul, Int.reduceToNat, Int.reduceLT, Int.reduceLE, Int.reduceEq, ml_i0, this, a1, a2, hx]
        rw [wr_i64 (by omega) (by omega)]
        exact ih (i + 1) Q hd' h1 h2
  refine call_p hA.h153 rfl ?_
  simp only [↓sxc, sx, se, ↓reduceIte, Nat.reduceEqDiff, Nat.reduceAdd, Nat.reduceLT, Nat.reduceLeDiff, Nat.reduceSub, Nat.reduceMul, Int.reduceToNat, Int.reduceLT, Int.reduceLE, Int.reduceEq, ml_i0, hlen]
  refine loop l 0 _ rfl (fun j hj hne => ?_) (fun hn i e => ?_)
  · simp only [↓sxc, sx, se, ↓reduceIte, Nat.reduceEqDiff, Nat.reduceAdd, Nat.reduceLT, Nat.reduceLeDiff, Nat.reduceSub, Nat.reduceMul, Int.reduceToNat, Int.reduceLT, Int.reduceLE, Int.reduceEq, ml_i0, hj]
  · simp only [↓sxc, sx, se, ↓reduceIte, Nat.reduceEqDiff, Nat.reduceAdd, Nat.reduceLT, Nat.reduceLeDiff, Nat.reduceSub, Nat.reduceMul, Int.reduceToNat, Int.reduceLT, Int.reduceLE, Int.reduceEq, ml_i0, hn]

theorem sx150 {F : Nat → Option Fn} (hA : HasG F) {lo : Nat} {m : Mem} {v : V} (l : List Int) (s : Int) (hv : Sl m 1 v (l.map vi)) (hs : l.length < 1000000) : callw F 150 [v, vi s] lo m = some (vi (idxP (fun x => decide (s = x)) l 0), m) := by
  have hlen := hv.len
  rw [List.length_map] at hlen
  have loop : ∀ (t : List Int) (i : Nat) (Q : Ex → St → Prop), l.drop i = t → (∀ j, idxP (fun x => decide (s = x)) t i = j → j ≠ -1 → Q .ret ⟨[(4, vi j)], [], [], m⟩) →
      (idxP (fun x => decide (s = x)) t i = -1 → ∀ i e, Q (.exit 0) ⟨[(0, v), (1, vi s), (7, vi l.length), (8, vi i), (9, e)], [], [], m⟩) →
      W F m.next L150_1 ⟨[(0, v), (1, vi s), (7, vi l.length), (8, vi i)], [], [], m⟩ Q := by
    intro t
    induction t with
    | nil =>
      intro i Q hd h1 h2
      have hlt := drop_nil hd
      rw [W_L (c := L150_1) rfl]
      have : ¬ ((i : Nat) : Int) < (l.length : Int) := by omega
      simp only [↓sxc, sx, se, ↓reduceIte, Nat.reduceEqDiff, Nat.reduceAdd, Nat.reduceLT, Nat.reduceLeDiff, Nat.reduceSub, Nat.reduceMul, Int.reduceToNat, Int.reduceLT, Int.reduceLE, Int.reduceEq, ml_i0, this]
      exact h2 rfl i _
    | cons x t ih =>
      intro i Q hd h1 h2
      obtain ⟨hg, hd', hlt⟩ := drop_cons hd
      rw [W_L (c := L150_1) rfl]
      have : ((i : Nat) : Int) < (l.length : Int) := by omega
      obtain ⟨ad, a1, a2⟩ := hv.at (i := i) (x := vi x) (by rw [List.getElem?_map, hg]; rfl)
      by_cases hx : s = x
      · have e : idxP (fun x => decide (s = x)) (x :: t) i = (i : Int) := by simp [idxP, hx]
        simp only [↓sxc, sx, se, ↓reduceIte, Nat.reduceEqDiff, Nat.reduceAdd, Nat.reduceLT, Nat.reduceLeDiff, Nat.reduceSub, Nat.reduceMul, Int.reduceToNat, Int.reduceLT, Int.reduceLE, Int.reduceEq, ml_i0, this, a1, a2, hx]
        exact h1 i e (by omega)
      · have e : idxP (fun x => decide (s = x)) (x :: t) i = idxP (fun x => decide (s = x)) t (i + 1) := by simp [idxP, hx]
        rw [e] at h1 h2
        simp only [↓sxc, sx, se, ↓reduceIte, Nat.reduceEqDiff, Nat.reduceAdd, Nat.reduceLT, Nat.reduceLeDiff, Nat.reduceSub, Nat.reduceMul, Int.reduceToNat, Int.reduceLT, Int.reduceLE, Int.reduceEq, ml_i0, this, a1, a2, hx]
        rw [wr_i64 (by omega) (by omega)]
        exact ih (i + 1) Q hd' h1 h2
  refine call_p hA.h150 rfl ?_
  simp only [↓sxc, sx, se, ↓reduceIte, Nat.reduceEqDiff, Nat.reduceAdd, Nat.reduceLT, Nat.reduceLeDiff, Nat.reduceSub, Nat.reduceMul, Int.reduceToNat, Int.reduceLT, Int.reduceLE, Int.reduceEq, ml_i0, hlen]
  refine loop l 0 _ rfl (fun j hj hne => ?_) (fun hn i e => ?_)
  · simp only [↓sxc, sx, se, ↓reduceIte, Nat.reduceEqDiff, Nat.reduceAdd, Nat.reduceLT, Nat.reduceLeDiff, Nat.reduceSub, Nat.reduceMul, Int.reduceToNat, Int.reduceLT, Int.reduceLE, Int.reduceEq, ml_i0, hj]
  · simp only [↓sxc, sx, se, ↓reduceIte, Nat.reduceEqDiff, Nat.reduceAdd, Nat.reduceLT, Nat.reduceLeDiff, Nat.reduceSub, Nat.reduceMul, Int.reduceToNat, Int.reduceLT, Int.reduceLE, Int.reduceEq, ml_i0, hn]

theorem sx116 {F : Nat → Option Fn} (hA : HasA F) {lo : Nat} {m : Mem} {v : V} (l : List Bool) (s : Bool) (hv : Sl m 1 v (l.map V.bool)) (hs : l.length < 1000000) : callw F 116 [v, V.bool s] lo m = some (vi (idxP (fun x => decide (s = x)) l 0), m) := by
  have hlen := hv.len
  rw [List.length_map] at hlen
  have loop : ∀ (t : List Bool) (i : Nat) (Q : Ex → St → Prop), l.drop i = t → (∀ j, idxP (fun x => decide (s = x)) t i = j → j ≠ -1 → Q .ret ⟨[(4, vi j)], [], [], m⟩) →
      (idxP (fun x => decide (s = x)) t i = -1 → ∀ i e, Q (.exit 0) ⟨[(0, v), (1, V.bool s), (7, vi l.length), (8, vi i), (9, e)], [], [], m⟩) →
      W F m.next L116_1 ⟨[(0, v), (1, V.bool s), (7, vi l.length), (8, vi i)], [], [], m⟩ Q := by
    intro t
    induction t with
    | nil =>
      intro i Q hd h1 h2
      have hlt := drop_nil hd
      rw [W_L (c := L116_1) rfl]
      have : ¬ ((i : Nat) : Int) < (l.length : Int) := by omega
      simp only [↓sxc, sx, se, ↓reduceIte, Nat.reduceEqDiff, Nat.reduceAdd, Nat.reduceLT, Nat.reduceLeDiff, Nat.reduceSub, Nat.reduceMul, Int.reduceToNat, Int.reduceLT, Int.reduceLE, Int.reduceEq, ml_i0, this]
      exact h2 rfl i _
    | cons x t ih =>
      intro i Q hd h1 h2
      obtain ⟨hg, hd', hlt⟩ := drop_cons hd
      rw [W_L (c := L116_1) rfl]
      have : ((i : Nat) : Int) < (l.length : Int) := by omega
      obtain ⟨ad, a1, a2⟩ := hv.at (i := i) (x := V.bool x) (by rw [List.getElem?_map, hg]; rfl)
      by_cases hx : s = x
      · have e : idxP (fun x => decide (s = x)) (x :: t) i = (i : Int) := by simp [idxP, hx]
        simp only [↓sxc, sx, se, ↓reduceIte, Nat.reduceEqDiff, Nat.reduceAdd, Nat.reduceLT, Nat.reduceLeDiff, Nat.reduceSub, Nat.reduceMul, Int.reduceToNat, Int.reduceLT, Int.reduceLE, Int.reduceEq, ml_i0, this, a1, a2, hx]
        exact h1 i e (by omega)
      · have e : idxP (fun x => decide (s = x)) (x :: t) i = idxP (fun x => decide (s = x)) t (i + 1) := by simp [idxP, hx]
        rw [e] at h1 h2
        simp only [↓sxc, sx, se, ↓reduceIte, Nat.reduceEqDiff, Nat.reduceAdd, Nat.reduceLT, Nat.reduceLeDiff, Nat.reduceSub, Nat.reduceMul, Int.reduceToNat, Int.reduceLT, Int.reduceLE, Int.reduceEq, ml_i0, this, a1, a2, hx]
        rw [wr_i64 (by omega) (by omega)]
        exact ih (i + 1) Q hd' h1 h2
  refine call_p hA.h116 rfl ?_
  simp only [↓sxc, sx, se, ↓reduceIte, Nat.reduceEqDiff, Nat.reduceAdd, Nat.reduceLT, Nat.reduceLeDiff, Nat.reduceSub, Nat.reduceMul, Int.reduceToNat, Int.reduceLT, Int.reduceLE, Int.reduceEq, ml_i0, hlen]
  refine loop l 0 _ rfl (fun j hj hne => ?_) (fun hn i e => ?_)
  · simp only [↓sxc, sx, se, ↓reduceIte, Nat.reduceEqDiff, Nat.reduceAdd, Nat.reduceLT, Nat.reduceLeDiff, Nat.reduceSub, Nat.reduceMul, Int.reduceToNat, Int.reduceLT, Int.reduceLE, Int.reduceEq, ml_i0, hj]
  · simp only [↓sxc, sx, se, ↓reduceIte, Nat.reduceEqDiff, Nat.reduceAdd, Nat.reduceLT, Nat.reduceLeDiff, Nat.reduceSub, Nat.reduceMul, Int.reduceToNat, Int.reduceLT, Int.reduceLE, Int.reduceEq, ml_i0, hn]

theorem sx113 {F : Nat → Option Fn} (hA : HasA F) {lo : Nat} {m : Mem} {v : V} (l : List (List UInt8)) (s : (List UInt8)) (hv : Sl m 1 v (l.map V.str)) (hs : l.length < 1000000) : callw F 113 [v, V.str s] lo m = some (.bool (l.any fun x => decide (s = x)), m) := by
  refine call_p hA.h113 rfl ?_
  have e : decide (0 ≤ idxP (fun x => decide (s = x)) l 0) = l.any fun x => decide (s = x) := by
    rw [Bool.eq_iff_iff, decide_eq_true_iff, idxP_ge]
  simp only [↓sxc, sx, se, ↓reduceIte, Nat.reduceEqDiff, Nat.reduceAdd, Nat.reduceLT, Nat.reduceLeDiff, Nat.reduceSub, Nat.reduceMul, Int.reduceToNat, Int.reduceLT, Int.reduceLE, Int.reduceEq, ml_i0, sx153 hA l s hv hs, e]

theorem sx154 {F : Nat → Option Fn} (hA : HasA F) {lo : Nat} {m : Mem} {v : V} (l : List Bool) (s : Bool) (hv : Sl m 1 v (l.map V.bool)) (hs : l.length < 1000000) : callw F 154 [v, V.bool s] lo m = some (.bool (l.any fun x => decide (s = x)), m) := by
  refine call_p hA.h154 rfl ?_
  have e : decide (0 ≤ idxP (fun x => decide (s = x)) l 0) = l.any fun x => decide (s = x) := by
    rw [Bool.eq_iff_iff, decide_eq_true_iff, idxP_ge]
  simp only [↓sxc, sx, se, ↓reduceIte, Nat.reduceEqDiff, Nat.reduceAdd, Nat.reduceLT, Nat.reduceLeDiff, Nat.reduceSub, Nat.reduceMul, Int.reduceToNat, Int.reduceLT, Int.reduceLE, Int.reduceEq, ml_i0, sx116 hA l s hv hs, e]


/-! ### slices.IndexFunc and slices.ContainsFunc over numbers -/
def IsPred (F : Nat → Option Fn) (f : Nat) (cs : List V) (p : Int → Bool) (l : List Int) : Prop := f < 1000 ∧ ∀ x ∈ l, ∀ lo m, callw F f (vi x :: cs) lo m = some (.bool (p x), m)

theorem sx106 {F : Nat → Option Fn} (hA : HasA F) {lo : Nat} {m : Mem} {v : V} (l : List Int) {f : Nat} {cs : List V} {p : Int → Bool} (hv : Sl m 1 v (l.map vi)) (hp : IsPred F f cs p l) (hs : l.length < 1000000) : callw F 106 [v, .fn f cs] lo m = some (vi (idxP p l 0), m) := by
  have hlen := hv.len
  rw [List.length_map] at hlen
  have loop : ∀ (t : List Int) (i : Nat) (Q : Ex → St → Prop), l.drop i = t → (∀ j, idxP p t i = j → j ≠ -1 → Q .ret ⟨[(4, vi j)], [], [], m⟩) →
      (idxP p t i = -1 → ∀ i e, Q (.exit 0) ⟨[(0, v), (1, .fn f cs), (7, vi l.length), (8, vi i), (9, e)], [], [], m⟩) →
      W F m.next L106_1 ⟨[(0, v), (1, .fn f cs), (7, vi l.length), (8, vi i)], [], [], m⟩ Q := by
    intro t
    induction t with
    | nil =>
      intro i Q hd h1 h2
      have hlt := drop_nil hd
      rw [W_L (c := L106_1) rfl]
      have : ¬ ((i : Nat) : Int) < (l.length : Int) := by omega
      simp only [↓sxc, sx, se, ↓reduceIte, Nat.reduceEqDiff, Nat.reduceAdd, Nat.reduceLT, Nat.reduceLeDiff, Nat.reduceSub, Nat.reduceMul, Int.reduceToNat, Int.reduceLT, Int.reduceLE, Int.reduceEq, ml_i0, this]
      exact h2 rfl i _
    | cons x t ih =>
      intro i Q hd h1 h2
      obtain ⟨hg, hd', hlt⟩ := drop_cons hd
      rw [W_L (c := L106_1) rfl]
      have : ((i : Nat) : Int) < (l.length : Int) := by omega
      obtain ⟨ad, a1, a2⟩ := hv.at (i := i) (x := vi x) (by rw [List.getElem?_map, hg]; rfl)
      have hc := hp.2 x (List.mem_of_getElem? hg) m.next m
      simp only [↓sxc, sx, se, ↓reduceIte, Nat.reduceEqDiff, Nat.reduceAdd, Nat.reduceLT, Nat.reduceLeDiff, Nat.reduceSub, Nat.reduceMul, Int.reduceToNat, Int.reduceLT, Int.reduceLE, Int.reduceEq, ml_i0, this, a1, a2, hp.1, List.cons_append, List.nil_append, hc]
      cases hx : p x with
      | true =>
        have e : idxP p (x :: t) i = (i : Int) := by simp [idxP, hx]
        simp only [↓sxc, sx, se, ↓reduceIte, Nat.reduceEqDiff, Nat.reduceAdd, Nat.reduceLT, Nat.reduceLeDiff, Nat.reduceSub, Nat.reduceMul, Int.reduceToNat, Int.reduceLT, Int.reduceLE, Int.reduceEq, ml_i0]
        exact h1 i e (by omega)
      | false =>
        have e : idxP p (x :: t) i = idxP p t (i + 1) := by simp [idxP, hx]
        rw [e] at h1 h2
        simp only [↓sxc, sx, se, ↓reduceIte, Nat.reduceEqDiff, Nat.reduceAdd, Nat.reduceLT, Nat.reduceLeDiff, Nat.reduceSub, Nat.reduceMul, Int.reduceToNat, Int.reduceLT, Int.reduceLE, Int.reduceEq, ml_i0]
        rw [wr_i64 (by omega) (by omega)]
        exact ih (i + 1) Q hd' h1 h2
  refine call_p hA.h106 rfl ?_
  simp only [↓sxc, sx, se, ↓reduceIte, Nat.reduceEqDiff, Nat.reduceAdd, Nat.reduceLT, Nat.reduceLeDiff, Nat.reduceSub, Nat.reduceMul, Int.reduceToNat, Int.reduceLT, Int.reduceLE, Int.reduceEq, ml_i0, hlen]
  refine loop l 0 _ rfl (fun j hj hne => ?_) (fun hn i e => ?_)
  · simp only [↓sxc, sx, se, ↓reduceIte, Nat.reduceEqDiff, Nat.reduceAdd, Nat.reduceLT, Nat.reduceLeDiff, Nat.reduceSub, Nat.reduceMul, Int.reduceToNat, Int.reduceLT, Int.reduceLE, Int.reduceEq, ml_i0, hj]
  · simp only [↓sxc, sx, se, ↓reduceIte, Nat.reduceEqDiff, Nat.reduceAdd, Nat.reduceLT, Nat.reduceLeDiff, Nat.reduceSub, Nat.reduceMul, Int.reduceToNat, Int.reduceLT, Int.reduceLE, Int.reduceEq, ml_i0, hn]

theorem sx120 {F : Nat → Option Fn} (hA : HasA F) {lo : Nat} {m : Mem} {v : V} (l : List Int) {f : Nat} {cs : List V} {p : Int → Bool} (hv : Sl m 1 v (l.map vi)) (hp : IsPred F f cs p l) (hs : l.length < 1000000) : callw F 120 [v, .fn f cs] lo m = some (.bool (l.any p), m) := by
  refine call_p hA.h120 rfl ?_
  have e : decide (0 ≤ idxP p l 0) = l.any p := by
    rw [Bool.eq_iff_iff, decide_eq_true_iff, idxP_ge]
  simp only [↓sxc, sx, se, ↓reduceIte, Nat.reduceEqDiff, Nat.reduceAdd, Nat.reduceLT, Nat.reduceLeDiff, Nat.reduceSub, Nat.reduceMul, Int.reduceToNat, Int.reduceLT, Int.reduceLE, Int.reduceEq, ml_i0, sx106 hA l hv hp hs, e]

theorem sp155 {F : Nat → Option Fn} (hA : HasA F) {lo : Nat} {m : Mem} (x : Int) : callw F 155 [vi x] lo m = some (.bool (decide (0 < x)), m) := by
  refine call_p hA.h155 rfl ?_
  simp only [↓sxc, sx, se, ↓reduceIte, Nat.reduceEqDiff, Nat.reduceAdd, Nat.reduceLT, Nat.reduceLeDiff, Nat.reduceSub, Nat.reduceMul, Int.reduceToNat, Int.reduceLT, Int.reduceLE, Int.reduceEq, ml_i0]

/-! ### Names -/
def lowC (c : UInt8) : Bool := decide (97 ≤ c.toNat) && decide (c.toNat ≤ 122)
def digC (c : UInt8) : Bool := decide (48 ≤ c.toNat) && decide (c.toNat ≤ 57)
def isNm (s : List UInt8) : Bool := decide (1 ≤ s.length) && decide (s.length ≤ 8) && (match s with | [] => false | c :: _ => lowC c) && s.all fun c => lowC c || digC c

theorem lowC_eq {c : UInt8} : lowC c = (!(decide ((c.toNat : Int) < 97)) && !(decide (122 < (c.toNat : Int)))) := by
  unfold lowC
  rw [Bool.eq_iff_iff]
  simp only [Bool.and_eq_true, decide_eq_true_eq, Bool.not_eq_true', decide_eq_false_iff_not]
  omega
theorem digC_eq {c : UInt8} : digC c = (!(decide ((c.toNat : Int) < 48)) && !(decide (57 < (c.toNat : Int)))) := by
  unfold digC
  rw [Bool.eq_iff_iff]
  simp only [Bool.and_eq_true, decide_eq_true_eq, Bool.not_eq_true', decide_eq_false_iff_not]
  omega

theorem sp112 {F : Nat → Option Fn} (hA : HasA F) {lo : Nat} {m : Mem} (s : List UInt8) : callw F 112 [.str s] lo m = some (.bool (isNm s), m) := by
  have loop : s.length < 100 → ∀ (t : List UInt8) (i : Nat) (Q : Ex → St → Prop), s.drop i = t → (t.all (fun c => lowC c || digC c) = false → Q .ret ⟨[(2, .bool false)], [], [], m⟩) →
      (t.all (fun c => lowC c || digC c) = true → ∀ i v, Q (.exit 0) ⟨[(0, .str s), (23, vi s.length), (24, vi i), (25, v)], [], [], m⟩) →
      W F m.next L112_1 ⟨[(0, .str s), (23, vi s.length), (24, vi i)], [], [], m⟩ Q := by
    intro hs t
    induction t with
    | nil =>
      intro i Q hd h1 h2
      have hlt := drop_nil hd
      rw [W_L (c := L112_1) rfl]
      have : ¬ ((i : Nat) : Int) < (s.length : Int) := by omega
      simp only [↓sxc, sx, se, ↓reduceIte, Nat.reduceEqDiff, Nat.reduceAdd, Nat.reduceLT, Nat.reduceLeDiff, Nat.reduceSub, Nat.reduceMul, Int.reduceToNat, Int.reduceLT, Int.reduceLE, Int.reduceEq, ml_i0, this]
      exact h2 rfl i _
    | cons x t ih =>
      intro i Q hd h1 h2
      obtain ⟨hg, hd', hlt⟩ := drop_cons hd
      rw [W_L (c := L112_1) rfl]
      have : ((i : Nat) : Int) < (s.length : Int) := by omega
      rw [List.all_cons, lowC_eq, digC_eq] at h1 h2
      have ih' := ih (i + 1) Q hd'
      have wr : wrapF .i64 ((i : Int) + 1) = ((i + 1 : Nat) : Int) := by rw [wr_i64 (by omega) (by omega)]; rfl
      by_cases c1 : (x.toNat : Int) < 97 <;> by_cases c2 : 122 < (x.toNat : Int) <;> by_cases c3 : (x.toNat : Int) < 48 <;> by_cases c4 : 57 < (x.toNat : Int) <;>
        simp only [c1, c2, c3, c4, decide_true, decide_false, Bool.not_true, Bool.not_false, Bool.and_true, Bool.and_false, Bool.or_true, Bool.or_false, Bool.true_and, Bool.false_and, Bool.false_eq_true, false_implies, true_implies] at h1 h2 <;>
        simp only [↓sxc, sx, se, ↓reduceIte, Nat.reduceEqDiff, Nat.reduceAdd, Nat.reduceLT, Nat.reduceLeDiff, Nat.reduceSub, Nat.reduceMul, Int.reduceToNat, Int.reduceLT, Int.reduceLE, Int.reduceEq, ml_i0, this, hg, c1, c2, c3, c4, wr] <;> first
          | exact h1
          | exact ih' h1 h2
  refine call_p hA.h112 rfl ?_
  rcases s with _ | ⟨c, t⟩
  · simp only [↓sxc, sx, se, ↓reduceIte, Nat.reduceEqDiff, Nat.reduceAdd, Nat.reduceLT, Nat.reduceLeDiff, Nat.reduceSub, Nat.reduceMul, Int.reduceToNat, Int.reduceLT, Int.reduceLE, Int.reduceEq, ml_i0]
    rfl
  · have h1 : ¬ ((t.length + 1 : Nat) : Int) < 1 := by omega
    by_cases h8 : 8 < ((t.length + 1 : Nat) : Int)
    · have e : isNm (c :: t) = false := by
        have : ¬ t.length + 1 ≤ 8 := by omega
        simp [isNm, this]
      simp only [↓sxc, sx, se, ↓reduceIte, Nat.reduceEqDiff, Nat.reduceAdd, Nat.reduceLT, Nat.reduceLeDiff, Nat.reduceSub, Nat.reduceMul, Int.reduceToNat, Int.reduceLT, Int.reduceLE, Int.reduceEq, ml_i0, h1, h8, e]
    · have e : isNm (c :: t) = (lowC c && (c :: t).all fun c => lowC c || digC c) := by
        have : t.length + 1 ≤ 8 := by omega
        simp [isNm, this]
      rw [e, lowC_eq]
      by_cases c1 : (c.toNat : Int) < 97
      · simp only [↓sxc, sx, se, ↓reduceIte, Nat.reduceEqDiff, Nat.reduceAdd, Nat.reduceLT, Nat.reduceLeDiff, Nat.reduceSub, Nat.reduceMul, Int.reduceToNat, Int.reduceLT, Int.reduceLE, Int.reduceEq, ml_i0, h1, h8, c1]
      · by_cases c2 : 122 < (c.toNat : Int)
        · simp only [↓sxc, sx, se, ↓reduceIte, Nat.reduceEqDiff, Nat.reduceAdd, Nat.reduceLT, Nat.reduceLeDiff, Nat.reduceSub, Nat.reduceMul, Int.reduceToNat, Int.reduceLT, Int.reduceLE, Int.reduceEq, ml_i0, h1, h8, c1, c2]
        · simp only [↓sxc, sx, se, ↓reduceIte, Nat.reduceEqDiff, Nat.reduceAdd, Nat.reduceLT, Nat.reduceLeDiff, Nat.reduceSub, Nat.reduceMul, Int.reduceToNat, Int.reduceLT, Int.reduceLE, Int.reduceEq, ml_i0, h1, h8, c1, c2]
          refine loop (by simp; omega) (c :: t) 0 _ rfl (fun h => ?_) (fun h i v => ?_)
          · simp only [↓sxc, sx, se, ↓reduceIte, Nat.reduceEqDiff, Nat.reduceAdd, Nat.reduceLT, Nat.reduceLeDiff, Nat.reduceSub, Nat.reduceMul, Int.reduceToNat, Int.reduceLT, Int.reduceLE, Int.reduceEq, ml_i0, h]
          · simp only [↓sxc, sx, se, ↓reduceIte, Nat.reduceEqDiff, Nat.reduceAdd, Nat.reduceLT, Nat.reduceLeDiff, Nat.reduceSub, Nat.reduceMul, Int.reduceToNat, Int.reduceLT, Int.reduceLE, Int.reduceEq, ml_i0, h]

def headOk : List UInt8 → Bool
  | [] => true
  | c :: t => lowC c && t.all fun c => lowC c || digC c

theorem sp145 {F : Nat → Option Fn} (hA : HasA F) {lo : Nat} {m : Mem} (s : List UInt8) : callw F 145 [.str s] lo m = some (.bool (isNm s), m) := by
  have loop : s.length < 100 → ∀ (t : List UInt8) (i : Nat) (Q : Ex → St → Prop), s.drop i = t → ((if i = 0 then headOk t else t.all (fun c => lowC c || digC c)) = false → Q .ret ⟨[(2, .bool false)], [], [], m⟩) →
      ((if i = 0 then headOk t else t.all (fun c => lowC c || digC c)) = true → ∀ i v, Q (.exit 0) ⟨[(0, .str s), (3, vi i), (16, v)], [], [], m⟩) →
      W F m.next L145_1 ⟨[(0, .str s), (3, vi i)], [], [], m⟩ Q := by
    intro hs t
    induction t with
    | nil =>
      intro i Q hd h1 h2
      have hlt := drop_nil hd
      rw [W_L (c := L145_1) rfl]
      have : ¬ ((i : Nat) : Int) < (s.length : Int) := by omega
      simp only [↓sxc, sx, se, ↓reduceIte, Nat.reduceEqDiff, Nat.reduceAdd, Nat.reduceLT, Nat.reduceLeDiff, Nat.reduceSub, Nat.reduceMul, Int.reduceToNat, Int.reduceLT, Int.reduceLE, Int.reduceEq, ml_i0, this]
      exact h2 (by split <;> rfl) i _
    | cons x t ih =>
      intro i Q hd h1 h2
      obtain ⟨hg, hd', hlt⟩ := drop_cons hd
      rw [W_L (c := L145_1) rfl]
      have : ((i : Nat) : Int) < (s.length : Int) := by omega
      have ih' := ih (i + 1) Q hd'
      rw [if_neg (by omega)] at ih'
      have wr : wrapF .i64 ((i : Int) + 1) = ((i + 1 : Nat) : Int) := by rw [wr_i64 (by omega) (by omega)]; rfl
      have g1 : ∀ c : UInt8, (97 ≤ (c.toNat : Int)) = ¬ ((c.toNat : Int) < 97) := fun c => by simp
      have g2 : ∀ c : UInt8, ((c.toNat : Int) ≤ 122) = ¬ (122 < (c.toNat : Int)) := fun c => by simp
      by_cases hi : i = 0
      · have hz : (((i : Nat) : Int) = 0) = True := by simp [hi]
        simp only [if_pos hi, headOk, lowC_eq, digC_eq] at h1 h2
        by_cases c1 : (x.toNat : Int) < 97 <;> by_cases c2 : 122 < (x.toNat : Int) <;>
          simp only [c1, c2, decide_true, decide_false, Bool.not_true, Bool.not_false, Bool.and_true, Bool.and_false, Bool.or_true, Bool.or_false, Bool.true_and, Bool.false_and, Bool.false_eq_true, false_implies, true_implies] at h1 h2 <;>
          simp only [↓sxc, sx, se, ↓reduceIte, Nat.reduceEqDiff, Nat.reduceAdd, Nat.reduceLT, Nat.reduceLeDiff, Nat.reduceSub, Nat.reduceMul, Int.reduceToNat, Int.reduceLT, Int.reduceLE, Int.reduceEq, ml_i0, this, hg, g1, g2, c1, c2, wr, hz, not_true, not_false_iff] <;> first
            | exact h1
            | exact ih' (by simp only [lowC_eq, digC_eq]; exact h1) (by simp only [lowC_eq, digC_eq]; exact h2)
      · have hz : (((i : Nat) : Int) = 0) = False := by simp [hi]
        rw [if_neg hi, List.all_cons, lowC_eq, digC_eq] at h1 h2
        by_cases c1 : (x.toNat : Int) < 97 <;> by_cases c2 : 122 < (x.toNat : Int) <;> by_cases c3 : (x.toNat : Int) < 48 <;> by_cases c4 : 57 < (x.toNat : Int) <;>
          simp only [c1, c2, c3, c4, decide_true, decide_false, Bool.not_true, Bool.not_false, Bool.and_true, Bool.and_false, Bool.or_true, Bool.or_false, Bool.true_and, Bool.false_and, Bool.false_eq_true, false_implies, true_implies] at h1 h2 <;>
          simp only [↓sxc, sx, se, ↓reduceIte, Nat.reduceEqDiff, Nat.reduceAdd, Nat.reduceLT, Nat.reduceLeDiff, Nat.reduceSub, Nat.reduceMul, Int.reduceToNat, Int.reduceLT, Int.reduceLE, Int.reduceEq, ml_i0, this, hg, g1, g2, c1, c2, c3, c4, wr, hz, not_true, not_false_iff] <;> first
            | exact h1
            | exact ih' h1 h2
  refine call_p hA.h145 rfl ?_
  by_cases c1 : (s.length : Int) < 1
  · have e : isNm s = false := by
      have : ¬ 1 ≤ s.length := by omega
      simp [isNm, this]
    simp only [↓sxc, sx, se, ↓reduceIte, Nat.reduceEqDiff, Nat.reduceAdd, Nat.reduceLT, Nat.reduceLeDiff, Nat.reduceSub, Nat.reduceMul, Int.reduceToNat, Int.reduceLT, Int.reduceLE, Int.reduceEq, ml_i0, c1, e]
  · by_cases c2 : 8 < (s.length : Int)
    · have e : isNm s = false := by
        have : ¬ s.length ≤ 8 := by omega
        simp [isNm, this]
      simp only [↓sxc, sx, se, ↓reduceIte, Nat.reduceEqDiff, Nat.reduceAdd, Nat.reduceLT, Nat.reduceLeDiff, Nat.reduceSub, Nat.reduceMul, Int.reduceToNat, Int.reduceLT, Int.reduceLE, Int.reduceEq, ml_i0, c1, c2, e]
    · have e : isNm s = headOk s := by
        have h1 : 1 ≤ s.length := by omega
        have h2 : s.length ≤ 8 := by omega
        cases s with
        | nil => simp at h1
        | cons c t =>
          simp only [isNm, headOk, h1, h2, decide_true, Bool.true_and, List.all_cons]
          cases lowC c <;> rfl
      simp only [↓sxc, sx, se, ↓reduceIte, Nat.reduceEqDiff, Nat.reduceAdd, Nat.reduceLT, Nat.reduceLeDiff, Nat.reduceSub, Nat.reduceMul, Int.reduceToNat, Int.reduceLT, Int.reduceLE, Int.reduceEq, ml_i0, c1, c2]
      refine loop (by omega) s 0 _ rfl (fun h => ?_) (fun h i v => ?_)
      · rw [if_pos rfl, ← e] at h
        simp only [↓sxc, sx, se, ↓reduceIte, Nat.reduceEqDiff, Nat.reduceAdd, Nat.reduceLT, Nat.reduceLeDiff, Nat.reduceSub, Nat.reduceMul, Int.reduceToNat, Int.reduceLT, Int.reduceLE, Int.reduceEq, ml_i0, h]
      · rw [if_pos rfl, ← e] at h
        simp only [↓sxc, sx, se, ↓reduceIte, Nat.reduceEqDiff, Nat.reduceAdd, Nat.reduceLT, Nat.reduceLeDiff, Nat.reduceSub, Nat.reduceMul, Int.reduceToNat, Int.reduceLT, Int.reduceLE, Int.reduceEq, ml_i0, h]

/-! ### The names of a system -/
def namesOf (s : Sys) : List (List UInt8) := s.pools.map Pool.name ++ s.locks ++ s.cls.map Cls.name

theorem sp146 {F : Nat → Option Fn} (hA : HasA F) {lo : Nat} {m : Mem} (l : List (List UInt8)) (k : Nat) (x : List UInt8) (hx : l[k]? = some x) (hs : l.length < 1000000) : callw F 146 [strs l, vi k] lo m = some (.bool ((l.take k).any fun y => decide (y = x)), m) := by
  have hk : k < l.length := by
    rcases Nat.lt_or_ge k l.length with h | h
    · exact h
    · rw [List.getElem?_eq_none h] at hx; cases hx
  have loop : ∀ (t : List (List UInt8)) (i n : Nat) (Q : Ex → St → Prop), (l.take k).drop i = t → (t.any (fun y => decide (y = x)) = true → ∀ n, Q .ret ⟨[(4, .bool true)], [], [], m.bump n⟩) →
      (t.any (fun y => decide (y = x)) = false → ∀ n i v, Q (.exit 0) ⟨[(0, strs l), (1, vi k), (5, vi i), (8, v)], [], [], m.bump n⟩) →
      W F m.next L146_1 ⟨[(0, strs l), (1, vi k), (5, vi i)], [], [], m.bump n⟩ Q := by
    intro t
    induction t with
    | nil =>
      intro i n Q hd h1 h2
      have hlt := drop_nil hd
      rw [List.length_take, Nat.min_eq_left (Nat.le_of_lt hk)] at hlt
      rw [W_L (c := L146_1) rfl]
      have : ¬ ((i : Nat) : Int) < (k : Int) := by omega
      simp only [↓sxc, sx, se, ↓reduceIte, Nat.reduceEqDiff, Nat.reduceAdd, Nat.reduceLT, Nat.reduceLeDiff, Nat.reduceSub, Nat.reduceMul, Int.reduceToNat, Int.reduceLT, Int.reduceLE, Int.reduceEq, ml_i0, this]
      exact h2 rfl n i _
    | cons y t ih =>
      intro i n Q hd h1 h2
      obtain ⟨hg, hd', hlt⟩ := drop_cons hd
      rw [List.length_take, Nat.min_eq_left (Nat.le_of_lt hk)] at hlt
      have hg : l[i]? = some y := by
        rw [List.getElem?_take, if_pos hlt] at hg
        exact hg
      rw [W_L (c := L146_1) rfl]
      have : ((i : Nat) : Int) < (k : Int) := by omega
      have wr : wrapF .i64 ((i : Int) + 1) = ((i + 1 : Nat) : Int) := by rw [wr_i64 (by omega) (by omega)]; rfl
      rw [List.any_cons] at h1 h2
      by_cases hy : y = x
      · simp only [↓sxc, sx, se, ↓reduceIte, Nat.reduceEqDiff, Nat.reduceAdd, Nat.reduceLT, Nat.reduceLeDiff, Nat.reduceSub, Nat.reduceMul, Int.reduceToNat, Int.reduceLT, Int.reduceLE, Int.reduceEq, ml_i0, this, hg, hx, hy]
        exact h1 (by simp [hy]) _
      · simp only [↓sxc, sx, se, ↓reduceIte, Nat.reduceEqDiff, Nat.reduceAdd, Nat.reduceLT, Nat.reduceLeDiff, Nat.reduceSub, Nat.reduceMul, Int.reduceToNat, Int.reduceLT, Int.reduceLE, Int.reduceEq, ml_i0, this, hg, hx, hy, wr]
        exact ih (i + 1) _ Q hd' (fun h => h1 (by simp [h])) (fun h => h2 (by simp [hy, h]))
  refine call_p hA.h146 rfl ?_
  simp only [↓sxc, sx, se, ↓reduceIte, Nat.reduceEqDiff, Nat.reduceAdd, Nat.reduceLT, Nat.reduceLeDiff, Nat.reduceSub, Nat.reduceMul, Int.reduceToNat, Int.reduceLT, Int.reduceLE, Int.reduceEq, ml_i0]
  have e : m = m.bump 0 := rfl
  rw [e]
  refine loop (l.take k) 0 0 _ rfl (fun h n => ?_) (fun h n i v => ?_)
  · simp only [↓sxc, sx, se, ↓reduceIte, Nat.reduceEqDiff, Nat.reduceAdd, Nat.reduceLT, Nat.reduceLeDiff, Nat.reduceSub, Nat.reduceMul, Int.reduceToNat, Int.reduceLT, Int.reduceLE, Int.reduceEq, ml_i0, h]
  · simp only [↓sxc, sx, se, ↓reduceIte, Nat.reduceEqDiff, Nat.reduceAdd, Nat.reduceLT, Nat.reduceLeDiff, Nat.reduceSub, Nat.reduceMul, Int.reduceToNat, Int.reduceLT, Int.reduceLE, Int.reduceEq, ml_i0, h]

end Go.Am
