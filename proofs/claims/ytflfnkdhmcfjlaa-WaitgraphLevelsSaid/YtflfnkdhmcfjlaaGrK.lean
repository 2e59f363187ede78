/- Shortest cycles: what is specified; the reference. -/
import Derived.Test.YtflfnkdhmcfjlaaGrJ
namespace Go.Am
open Go
set_option linter.unusedSimpArgs false
set_option linter.unusedVariables false
set_option maxRecDepth 100000

theorem idxP_some {α : Type} {p : α → Bool} : ∀ {l : List α} {k : Nat}, 0 ≤ idxP p l k → ∃ j x, idxP p l k = ((k + j : Nat) : Int) ∧ l[j]? = some x ∧ p x = true
  | [], k, h => by simp [idxP] at h
  | x :: t, k, h => by
    cases hx : p x with
    | true => exact ⟨0, x, by simp [idxP, hx], rfl, hx⟩
    | false =>
      have e : idxP p (x :: t) k = idxP p t (k + 1) := by simp [idxP, hx]
      rw [e] at h ⊢
      obtain ⟨j, y, h1, h2, h3⟩ := idxP_some h
      exact ⟨j + 1, y, by rw [h1]; congr 1; omega, h2, h3⟩
theorem idxP_neg {α : Type} {p : α → Bool} {l : List α} {k : Nat} (h : ¬ 0 ≤ idxP p l k) : idxP p l k = -1 := by
  induction l generalizing k with
  | nil => rfl
  | cons x t ih =>
    cases hx : p x with
    | true => exfalso; apply h; simp [idxP, hx]
    | false =>
      have e : idxP p (x :: t) k = idxP p t (k + 1) := by simp [idxP, hx]
      rw [e] at h ⊢
      exact ih h

theorem dst_zero {l : List Edge} {x y : Int} : dst l x y = 0 ↔ x = y := by
  constructor
  · intro h
    rcases dist_spec (P := fun k v => Wk l k x v) (v := y) with ⟨h1, h2, h3⟩ | ⟨h1, h2⟩
    · have : (dist (fun k v => Wk l k x v) y) = 0 := h
      rw [this] at h2
      exact h2
    · have : (dist (fun k v => Wk l k x v) y) = 0 := h
      omega
  · intro h
    exact dist_eq (.inl ⟨by omega, h, fun k _ => by omega⟩)
theorem dst_wk {l : List Edge} {x y : Int} (h : 0 ≤ dst l x y) : Wk l (dst l x y).toNat x y ∧ ∀ k : Nat, Wk l k x y → dst l x y ≤ k := by
  rcases dist_spec (P := fun k v => Wk l k x v) (v := y) with ⟨h1, h2, h3⟩ | ⟨h1, h2⟩
  · exact ⟨h2, h3⟩
  · have : dst l x y = -1 := h1
    omega
theorem dst_of {l : List Edge} {x y : Int} {k : Nat} (h : Wk l k x y) : 0 ≤ dst l x y ∧ dst l x y ≤ k := by
  rcases dist_spec (P := fun k v => Wk l k x v) (v := y) with ⟨h1, h2, h3⟩ | ⟨h1, h2⟩
  · exact ⟨h1, h3 k h⟩
  · exact absurd h (h2 k)
theorem dst_neg {l : List Edge} {x y : Int} (h : dst l x y < 0) : dst l x y = -1 := by
  have : -1 ≤ dst l x y := dist_ge
  omega
/-- A shortest walk goes on along some edge. -/
theorem dst_succ {l : List Edge} {x y : Int} {k : Nat} (h : dst l x y = (k : Int) + 1) : ∃ e ∈ l, e.fr = x ∧ dst l e.to y = k := by
  obtain ⟨h1, h2⟩ := dst_wk (l := l) (x := x) (y := y) (by omega)
  have e1 : (dst l x y).toNat = k + 1 := by omega
  rw [e1] at h1
  obtain ⟨e, he, h3, h4⟩ := h1
  refine ⟨e, he, h3, ?_⟩
  obtain ⟨h5, h6⟩ := dst_of h4
  have h7 := (dst_wk h5).1
  have h8 := h2 ((dst l e.to y).toNat + 1) ⟨e, he, h3, h7⟩
  omega
theorem dst_chain {n : Int} {N : Nat} {l : List Edge} (gr : Gr n l) (hN : n = N) {y : Int} : ∀ {k : Nat} {x : Int}, dst l x y = k → (∃ v : Nat, x = v ∧ v < N) → ∃ xs : List Int, xs.length = k + 1 ∧ xs.Nodup ∧ (∀ z ∈ xs, ∃ v : Nat, z = v ∧ v < N) ∧ ∀ z ∈ xs, dst l z y ≤ k
  | 0, x, h, hx => ⟨[x], rfl, by simp, by simpa using hx, by simp [h]⟩
  | k + 1, x, h, hx => by
    obtain ⟨e, he, h1, h2⟩ := dst_succ (k := k) (by rw [h]; push_cast; rfl)
    obtain ⟨a, b, h3, h4, h5, h6⟩ := gr.e e he
    obtain ⟨xs, q1, q2, q3, q4⟩ := dst_chain gr hN h2 ⟨b, h4, by omega⟩
    refine ⟨x :: xs, by simp [q1], List.nodup_cons.2 ⟨fun hc => ?_, q2⟩, fun z hz => ?_, fun z hz => ?_⟩
    · have := q4 x hc
      omega
    · rcases List.mem_cons.1 hz with rfl | hz
      · exact hx
      · exact q3 z hz
    · rcases List.mem_cons.1 hz with rfl | hz
      · omega
      · have := q4 z hz
        omega
theorem dst_lt {n : Int} {N : Nat} {l : List Edge} (gr : Gr n l) (hN : n = N) {x : Nat} {y : Int} (hx : x < N) : dst l x y < N := by
  by_cases h : dst l x y < 0
  · omega
  · obtain ⟨k, hk⟩ : ∃ k : Nat, dst l x y = k := ⟨(dst l x y).toNat, by omega⟩
    obtain ⟨xs, q1, q2, q3, _⟩ := dst_chain gr hN hk ⟨x, rfl, hx⟩
    have := nodup_le (ys := (List.range N).map fun (v : Nat) => (v : Int)) q2 (fun z hz => by
      obtain ⟨v, rfl, hv⟩ := q3 z hz
      exact List.mem_map.2 ⟨v, by simpa using hv, rfl⟩)
    simp at this
    omega

def toAt (l : List Edge) (i : Int) : Int := match l[i.toNat]? with
  | some e => e.to
  | none => 0
noncomputable def selE (l : List Edge) (at_ tgt k : Int) (e : Edge) : Bool := decide (e.fr = at_) && decide (dst l e.to tgt = k)
noncomputable def nxtE (l : List Edge) (at_ tgt k : Int) : Int := idxP (selE l at_ tgt k) l 0
noncomputable def walkE (l : List Edge) (tgt : Int) : Nat → Int → List Int
  | 0, _ => []
  | k + 1, at_ => nxtE l at_ tgt k :: walkE l tgt k (toAt l (nxtE l at_ tgt k))
theorem walkE_len {l : List Edge} {tgt : Int} : ∀ {k : Nat} {at_ : Int}, (walkE l tgt k at_).length = k
  | 0, _ => rfl
  | k + 1, _ => by simp [walkE, walkE_len]
noncomputable def lenE (l : List Edge) (e : Edge) : Int := if dst l e.to e.fr < 0 then -1 else dst l e.to e.fr + 1
noncomputable def bestS (l : List Edge) : List Edge → Nat → Int × Int → Int × Int
  | [], _, b => b
  | e :: t, i, b => bestS l t (i + 1) (if 0 < lenE l e ∧ (b.2 < 0 ∨ lenE l e < b.2) then ((i : Int), lenE l e) else b)
noncomputable def bestE (l : List Edge) : Int × Int := bestS l l 0 (-1, -1)
/-- A shortest cycle, or its error. -/
noncomputable def cycE (n : Int) (l : List Edge) : List Int × Int :=
  if chkG n l ≠ 0 then ([], chkG n l) else if (bestE l).1 < 0 then ([], 0) else ((bestE l).1 :: walkE l (frAt l (bestE l).1) ((bestE l).2 - 1).toNat (toAt l (bestE l).1), 0)

/-- A choice of a cycle: none, or an edge with its length. -/
def Bst (l : List Edge) (b : Int × Int) : Prop := (b.1 = -1 ∧ b.2 = -1) ∨ ∃ j e, b.1 = ((j : Nat) : Int) ∧ l[j]? = some e ∧ lenE l e = b.2 ∧ 0 < b.2
theorem Bst.step {l : List Edge} {b : Int × Int} (H : Bst l b) {i : Nat} {e : Edge} (hi : l[i]? = some e) : Bst l (if 0 < lenE l e ∧ (b.2 < 0 ∨ lenE l e < b.2) then ((i : Int), lenE l e) else b) := by
  split
  · rename_i h
    exact .inr ⟨i, e, rfl, hi, rfl, h.1⟩
  · exact H
theorem bestS_bst {l : List Edge} : ∀ {t : List Edge} {i : Nat} {b : Int × Int}, l.drop i = t → Bst l b → Bst l (bestS l t i b)
  | [], _, _, _, H => H
  | e :: t, i, b, hd, H => by
    obtain ⟨hg, hd', _⟩ := drop_cons hd
    exact bestS_bst (t := t) (i := i + 1) hd' (H.step hg)
theorem bestE_bst {l : List Edge} : Bst l (bestE l) := bestS_bst rfl (.inl ⟨rfl, rfl⟩)

/-- The next edge of a shortest walk. -/
theorem nxtE_some {l : List Edge} {x y : Int} {k : Nat} (h : dst l x y = (k : Int) + 1) : ∃ j e, nxtE l x y k = ((j : Nat) : Int) ∧ l[j]? = some e ∧ e.fr = x ∧ dst l e.to y = k ∧ toAt l (nxtE l x y k) = e.to := by
  obtain ⟨e, he, h1, h2⟩ := dst_succ h
  have ha : 0 ≤ nxtE l x y k := by
    unfold nxtE
    have : l.any (selE l x y k) = true := List.any_eq_true.2 ⟨e, he, by simp [selE, h1, h2]⟩
    rw [idxP_ge]
    exact this
  obtain ⟨j, f, h3, h4, h5⟩ := idxP_some ha
  have h6 : nxtE l x y k = ((j : Nat) : Int) := by
    show idxP _ l 0 = _
    rw [h3, Nat.zero_add]
  simp only [selE, Bool.and_eq_true, decide_eq_true_eq] at h5
  exact ⟨j, f, h6, h4, h5.1, h5.2, by rw [h6]; simp only [toAt, Int.toNat_natCast, h4]⟩

theorem sp110 {F : Nat → Option Fn} (hG : HasG F) {lo : Nat} {m : Mem} {n : Int} {N : Nat} {l : List Edge} (gr : Gr n l) (hN : n = N) (hl : l.length < 100000) {i : Nat} {e : Edge} (hi : l[i]? = some e) : callw F 110 [vi n, vEdges l, vi i] lo m = some (vi (lenE l e), m) := by
  obtain ⟨a, b, ha, hb, ha2, hb2⟩ := gr.e e (List.mem_of_getElem? hi)
  have aN : a < N := by omega
  have bN : b < N := by omega
  have n4 := gr.n4
  have c109 : ∀ {lo m}, callw F 109 [vi n, vEdges l, vi b] lo m = some (ints (reachL N (dst l b)), m) := fun {lo m} => sp109 hG gr hN hl bN
  have hg : (reachL N (dst l b))[a]? = some (dst l b a) := reachL_get aN
  have i0 : (0 : Int) ≤ i := by omega
  have a0 : (0 : Int) ≤ a := by omega
  have in_ : ((i : Nat) : Int).toNat = i := rfl
  have an : ((a : Nat) : Int).toNat = a := rfl
  have hlt : dst l b a < N := dst_lt gr hN bN
  have ha' := ha
  have hb' := hb
  refine call_p hG.h110 rfl ?_
  unfold lenE
  rw [ha', hb']
  by_cases h : dst l b a < 0
  · simp only [↓sxc, sx, se, ↓reduceIte, Nat.reduceEqDiff, Nat.reduceAdd, Nat.reduceLT, Nat.reduceLeDiff, Nat.reduceSub, Nat.reduceMul, Int.reduceToNat, Int.reduceLT, Int.reduceLE, Int.reduceEq, ml_i0, ↓smc, sm, i0, in_, hi, ha, hb, c109, a0, an, hg, h]
  · have w1 : wrapF .i64 (dst l b a + 1) = dst l b a + 1 := wr_i64 (by omega) (by omega)
    simp only [↓sxc, sx, se, ↓reduceIte, Nat.reduceEqDiff, Nat.reduceAdd, Nat.reduceLT, Nat.reduceLeDiff, Nat.reduceSub, Nat.reduceMul, Int.reduceToNat, Int.reduceLT, Int.reduceLE, Int.reduceEq, ml_i0, ↓smc, sm, i0, in_, hi, ha, hb, c109, a0, an, hg, h, w1]

theorem w43_1 {F : Nat → Option Fn} (hG : HasG F) {lo : Nat} {n : Int} {N : Nat} {l : List Edge} (gr : Gr n l) (hN : n = N) (hl : l.length < 100000) :
    ∀ (t : List Edge) (i : Nat) (b : Int × Int) (m : Mem) (Q : Ex → St → Prop), l.drop i = t → Bst l b →
      (∀ e, Q (.exit 0) ⟨(0, vi n) :: (1, vEdges l) :: (7, vi (bestS l t i b).1) :: (8, vi (bestS l t i b).2) :: e, [], [], m⟩) →
      W F lo L43_1 ⟨[(0, vi n), (1, vEdges l), (7, vi b.1), (8, vi b.2), (9, vi i)], [], [], m⟩ Q := by
  intro t
  induction t with
  | nil =>
    intro i b m Q hd hb hQ
    have hlt := drop_nil hd
    rw [W_L (c := L43_1) rfl]
    have : ¬ ((i : Nat) : Int) < (l.length : Int) := by omega
    simp only [↓sxc, sx, se, ↓reduceIte, Nat.reduceEqDiff, Nat.reduceAdd, Nat.reduceLT, Nat.reduceLeDiff, Nat.reduceSub, Nat.reduceMul, Int.reduceToNat, Int.reduceLT, Int.reduceLE, Int.reduceEq, ml_i0, ↓smc, sm, this]
    exact hQ _
  | cons x t ih =>
    intro i b m Q hd hb hQ
    obtain ⟨hg, hd', hlt⟩ := drop_cons hd
    have c110 : ∀ {lo m}, callw F 110 [vi n, vEdges l, vi i] lo m = some (vi (lenE l x), m) := fun {lo m} => sp110 hG gr hN hl hg
    rw [W_L (c := L43_1) rfl]
    have : ((i : Nat) : Int) < (l.length : Int) := by omega
    have wr : wrapF .i64 ((i : Int) + 1) = ((i + 1 : Nat) : Int) := by rw [wr_i64 (by omega) (by omega)]; rfl
    have hs := hb.step hg
    have es : bestS l (x :: t) i b = bestS l t (i + 1) (if 0 < lenE l x ∧ (b.2 < 0 ∨ lenE l x < b.2) then ((i : Int), lenE l x) else b) := rfl
    rw [es] at hQ
    by_cases h1 : 0 < lenE l x
    · by_cases h2 : b.2 < 0
      · rw [if_pos ⟨h1, .inl h2⟩] at hs hQ
        simp only [↓sxc, sx, se, ↓reduceIte, Nat.reduceEqDiff, Nat.reduceAdd, Nat.reduceLT, Nat.reduceLeDiff, Nat.reduceSub, Nat.reduceMul, Int.reduceToNat, Int.reduceLT, Int.reduceLE, Int.reduceEq, ml_i0, ↓smc, sm, this, c110, h1, h2, wr]
        exact ih (i + 1) ((i : Int), lenE l x) m Q hd' hs hQ
      · by_cases h3 : lenE l x < b.2
        · rw [if_pos ⟨h1, .inr h3⟩] at hs hQ
          simp only [↓sxc, sx, se, ↓reduceIte, Nat.reduceEqDiff, Nat.reduceAdd, Nat.reduceLT, Nat.reduceLeDiff, Nat.reduceSub, Nat.reduceMul, Int.reduceToNat, Int.reduceLT, Int.reduceLE, Int.reduceEq, ml_i0, ↓smc, sm, this, c110, h1, h2, h3, wr]
          exact ih (i + 1) ((i : Int), lenE l x) m Q hd' hs hQ
        · rw [if_neg (fun h => h.2.elim h2 h3)] at hs hQ
          simp only [↓sxc, sx, se, ↓reduceIte, Nat.reduceEqDiff, Nat.reduceAdd, Nat.reduceLT, Nat.reduceLeDiff, Nat.reduceSub, Nat.reduceMul, Int.reduceToNat, Int.reduceLT, Int.reduceLE, Int.reduceEq, ml_i0, ↓smc, sm, this, c110, h1, h2, h3, wr]
          exact ih (i + 1) b m Q hd' hs hQ
    · rw [if_neg (fun h => h1 h.1)] at hs hQ
      simp only [↓sxc, sx, se, ↓reduceIte, Nat.reduceEqDiff, Nat.reduceAdd, Nat.reduceLT, Nat.reduceLeDiff, Nat.reduceSub, Nat.reduceMul, Int.reduceToNat, Int.reduceLT, Int.reduceLE, Int.reduceEq, ml_i0, ↓smc, sm, this, c110, h1, wr]
      exact ih (i + 1) b m Q hd' hs hQ

theorem w43_2 {F : Nat → Option Fn} (hG : HasG F) {lo : Nat} {n : Int} {N : Nat} {l : List Edge} (gr : Gr n l) (hN : n = N) (hl : l.length < 100000) (f a0 : Nat) (fe : Edge) (hf : l[f]? = some fe) (hfa : fe.fr = (a0 : Int)) (ha0 : a0 < N) (u11 : V) (at_ : Int) (k : Nat) (hk : k ≤ N) :
    ∀ (t : List Edge) (i : Nat) (m : Mem) (Q : Ex → St → Prop), l.drop i = t →
      (∀ m' e, m'.blk = m.blk → m.next ≤ m'.next → Q (.exit 4) ⟨(0, vi n) :: (1, vEdges l) :: (7, vi f) :: (11, u11) :: (12, vi at_) :: (13, vi ((k : Int) + 1)) :: (14, vi (idxP (selE l at_ a0 k) t i)) :: e, [], [], m'⟩) →
      W F lo L43_2 ⟨[(0, vi n), (1, vEdges l), (7, vi f), (11, u11), (12, vi at_), (13, vi ((k : Int) + 1)), (14, vi (-1)), (15, vi i)], [], [], m⟩ Q := by
  have n4 := gr.n4
  intro t
  induction t with
  | nil =>
    intro i m Q hd hQ
    have hlt := drop_nil hd
    rw [W_L (c := L43_2) rfl]
    have : ¬ ((i : Nat) : Int) < (l.length : Int) := by omega
    simp only [↓sxc, sx, se, ↓reduceIte, Nat.reduceEqDiff, Nat.reduceAdd, Nat.reduceLT, Nat.reduceLeDiff, Nat.reduceSub, Nat.reduceMul, Int.reduceToNat, Int.reduceLT, Int.reduceLE, Int.reduceEq, ml_i0, ↓smc, sm, this]
    exact hQ m _ rfl (Nat.le_refl _)
  | cons x t ih =>
    intro i m Q hd hQ
    obtain ⟨hg, hd', hlt⟩ := drop_cons hd
    obtain ⟨a, b, ha, hb, ha2, hb2⟩ := gr.e x (List.mem_of_getElem? hg)
    have bN : b < N := by omega
    have c109 : ∀ {lo m}, callw F 109 [vi n, vEdges l, vi b] lo m = some (ints (reachL N (dst l b)), m) := fun {lo m} => sp109 hG gr hN hl bN
    have hgr : (reachL N (dst l b))[a0]? = some (dst l b a0) := reachL_get ha0
    rw [W_L (c := L43_2) rfl]
    have c0 : ((i : Nat) : Int) < (l.length : Int) := by omega
    have c1 : (-1 : Int) < 0 := by omega
    have wr : wrapF .i64 ((i : Int) + 1) = ((i + 1 : Nat) : Int) := by rw [wr_i64 (by omega) (by omega)]; rfl
    have i0 : (0 : Int) ≤ i := by omega
    have f0 : (0 : Int) ≤ f := by omega
    have a00 : (0 : Int) ≤ a0 := by omega
    have in_ : ((i : Nat) : Int).toNat = i := rfl
    have fn_ : ((f : Nat) : Int).toNat = f := rfl
    have an : ((a0 : Nat) : Int).toNat = a0 := rfl
    have w1 : wrapF .i64 ((k : Int) + 1 - 1) = (k : Int) := by rw [wr_i64 (by omega) (by omega)]; omega
    by_cases e1 : (a : Int) = at_
    · by_cases e2 : dst l b a0 = (k : Int)
      · have es : selE l at_ a0 k x = true := by simp [selE, ha, hb, e1, e2]
        have ei : idxP (selE l at_ a0 k) (x :: t) i = (i : Int) := by simp [idxP, es]
        rw [ei] at hQ
        have c2 : ¬ (i : Int) < 0 := by omega
        simp only [↓sxc, sx, se, ↓reduceIte, Nat.reduceEqDiff, Nat.reduceAdd, Nat.reduceLT, Nat.reduceLeDiff, Nat.reduceSub, Nat.reduceMul, Int.reduceToNat, Int.reduceLT, Int.reduceLE, Int.reduceEq, ml_i0, ↓smc, sm, c0, c1, i0, in_, hg, ha, hb, e1, c109, f0, fn_, hf, hfa, a00, an, hgr, w1, e2, wr]
        rw [W_L (c := L43_2) rfl]
        by_cases c3 : ((i + 1 : Nat) : Int) < (l.length : Int)
        · simp only [↓sxc, sx, se, ↓reduceIte, Nat.reduceEqDiff, Nat.reduceAdd, Nat.reduceLT, Nat.reduceLeDiff, Nat.reduceSub, Nat.reduceMul, Int.reduceToNat, Int.reduceLT, Int.reduceLE, Int.reduceEq, ml_i0, ↓smc, sm, c3, c2]
          exact hQ _ _ rfl (by show m.next ≤ m.next + _; omega)
        · simp only [↓sxc, sx, se, ↓reduceIte, Nat.reduceEqDiff, Nat.reduceAdd, Nat.reduceLT, Nat.reduceLeDiff, Nat.reduceSub, Nat.reduceMul, Int.reduceToNat, Int.reduceLT, Int.reduceLE, Int.reduceEq, ml_i0, ↓smc, sm, c3]
          exact hQ _ _ rfl (by show m.next ≤ m.next + _; omega)
      · have es : selE l at_ a0 k x = false := by simp [selE, ha, hb, e1, e2]
        have ei : idxP (selE l at_ a0 k) (x :: t) i = idxP (selE l at_ a0 k) t (i + 1) := by simp [idxP, es]
        rw [ei] at hQ
        simp only [↓sxc, sx, se, ↓reduceIte, Nat.reduceEqDiff, Nat.reduceAdd, Nat.reduceLT, Nat.reduceLeDiff, Nat.reduceSub, Nat.reduceMul, Int.reduceToNat, Int.reduceLT, Int.reduceLE, Int.reduceEq, ml_i0, ↓smc, sm, c0, c1, i0, in_, hg, ha, hb, e1, c109, f0, fn_, hf, hfa, a00, an, hgr, w1, e2, wr]
        exact ih (i + 1) _ Q hd' (fun m' e h1 h2 => hQ m' e h1 (by have h2' : m.next + 27 ≤ m'.next := h2; omega))
    · have es : selE l at_ a0 k x = false := by simp [selE, ha, hb, e1]
      have ei : idxP (selE l at_ a0 k) (x :: t) i = idxP (selE l at_ a0 k) t (i + 1) := by simp [idxP, es]
      rw [ei] at hQ
      simp only [↓sxc, sx, se, ↓reduceIte, Nat.reduceEqDiff, Nat.reduceAdd, Nat.reduceLT, Nat.reduceLeDiff, Nat.reduceSub, Nat.reduceMul, Int.reduceToNat, Int.reduceLT, Int.reduceLE, Int.reduceEq, ml_i0, ↓smc, sm, c0, c1, i0, in_, hg, ha, hb, e1, wr]
      exact ih (i + 1) _ Q hd' (fun m' e h1 h2 => hQ m' e h1 (by have h2' : m.next + 27 ≤ m'.next := h2; omega))

theorem w43_3 {F : Nat → Option Fn} (hG : HasG F) {lo : Nat} {n : Int} {N : Nat} {l : List Edge} (gr : Gr n l) (hN : n = N) (hl : l.length < 100000) (f a0 : Nat) (fe : Edge) (hf : l[f]? = some fe) (hfa : fe.fr = (a0 : Int)) (ha0 : a0 < N) :
    ∀ (k : Nat) (at_ : Int) (out : List Int) (v : V) (m : Mem) (Q : Ex → St → Prop), k ≤ N → out.length + k < 100000 → dst l at_ a0 = k → lo ≤ m.next → Rw lo m 1 v (out.map vi) →
      (∀ v m' e, m.next ≤ m'.next → Rw lo m' 1 v ((out ++ walkE l a0 k at_).map vi) → Q (.exit 2) ⟨(0, vi n) :: (1, vEdges l) :: (7, vi f) :: (11, v) :: e, [], [], m'⟩) →
      W F lo L43_3 ⟨[(0, vi n), (1, vEdges l), (7, vi f), (11, v), (12, vi at_), (13, vi k)], [], [], m⟩ Q := by
  have n4 := gr.n4
  intro k
  induction k with
  | zero =>
    intro at_ out v m Q hk ho hd hm hr hQ
    rw [W_L (c := L43_3) rfl]
    have c0 : ¬ (0 : Int) < 0 := by omega
    simp only [↓sxc, sx, se, ↓reduceIte, Nat.reduceEqDiff, Nat.reduceAdd, Nat.reduceLT, Nat.reduceLeDiff, Nat.reduceSub, Nat.reduceMul, Int.reduceToNat, Int.reduceLT, Int.reduceLE, Int.reduceEq, ml_i0, ↓smc, sm, c0]
    exact hQ v m _ (Nat.le_refl _) (by simpa [walkE] using hr)
  | succ k ih =>
    intro at_ out v m Q hk ho hd hm hr hQ
    obtain ⟨j, e, h1, h2, h3, h4, h5⟩ := nxtE_some (l := l) (x := at_) (y := a0) (k := k) (by rw [hd]; push_cast; rfl)
    rw [W_L (c := L43_3) rfl]
    have ek : ((k + 1 : Nat) : Int) = (k : Int) + 1 := by push_cast; rfl
    rw [ek]
    have c0 : (0 : Int) < (k : Int) + 1 := by omega
    simp only [↓sxc, sx, se, ↓reduceIte, Nat.reduceEqDiff, Nat.reduceAdd, Nat.reduceLT, Nat.reduceLeDiff, Nat.reduceSub, Nat.reduceMul, Int.reduceToNat, Int.reduceLT, Int.reduceLE, Int.reduceEq, ml_i0, ↓smc, sm, c0]
    refine w43_2 hG gr hN hl f a0 fe hf hfa ha0 v at_ k (by omega) l 0 m _ rfl (fun m' e' q1 q2 => ?_)
    have e1 : idxP (selE l at_ a0 k) l 0 = (j : Int) := h1
    rw [e1]
    have hr' : Rw lo m' 1 v (out.map vi) := hr.mono q2 (fun k l hk => by rw [q1])
    obtain ⟨v', m'', hap, hr2, hn, _⟩ := hr'.app (y := .lst false 1 [vi j]) (by omega) vw_lst (.inl rfl) (by simp [big]; omega)
    have c2 : ¬ (j : Int) < 0 := by omega
    have j0 : (0 : Int) ≤ j := by omega
    have jn : ((j : Nat) : Int).toNat = j := rfl
    have w1 : wrapF .i64 ((k : Int) + 1 - 1) = (k : Int) := by rw [wr_i64 (by omega) (by omega)]; omega
    simp only [↓sxc, sx, se, ↓reduceIte, Nat.reduceEqDiff, Nat.reduceAdd, Nat.reduceLT, Nat.reduceLeDiff, Nat.reduceSub, Nat.reduceMul, Int.reduceToNat, Int.reduceLT, Int.reduceLE, Int.reduceEq, ml_i0, ↓smc, sm, c2, hap, j0, jn, h2, w1]
    refine ih e.to (out ++ [(j : Int)]) v' (m''.bump 1) Q (by omega) (by simp; omega) h4 ?_ (by rw [List.map_append]; exact hr2) (fun v m3 e3 q3 q4 => hQ v m3 e3 ?_ ?_)
    · show lo ≤ m''.next + 1; omega
    · have q3' : m''.next + 1 ≤ m3.next := q3
      omega
    · rw [List.append_assoc] at q4
      have : out ++ walkE l a0 (k + 1) at_ = out ++ ([(j : Int)] ++ walkE l a0 k e.to) := by
        show out ++ (nxtE l at_ a0 k :: walkE l a0 k (toAt l (nxtE l at_ a0 k))) = _
        rw [h5, h1]
        rfl
      rw [this]
      exact q4

theorem fz_rw {lo n : Nat} {m : Mem} {v : V} {xs : List Int} (h : Rw lo m 1 v (xs.map vi)) : freeze lo m (n + 2) v = some (ints xs) := by
  rw [h.freeze, mapO_id (fun x hx => by
    obtain ⟨y, _, rfl⟩ := List.mem_map.1 hx
    rfl)]
  rfl

theorem sp43 {F : Nat → Option Fn} (hG : HasG F) {lo : Nat} {m : Mem} (n : Int) (l : List Edge) (hl : l.length < 90000) : callw F 43 [vi n, vEdges l] lo m = some (.tup [ints (cycE n l).1, vi (cycE n l).2], m) := by
  have c108 : ∀ {lo m}, callw F 108 [vi n, vEdges l] lo m = some (vi (chkG n l), m) := fun {lo m} => sp108 hG n l (by omega)
  refine call_p hG.h43 rfl ?_
  by_cases h0 : chkG n l = 0
  · have gr := gr_of h0
    obtain ⟨N, hN⟩ : ∃ N : Nat, n = N := ⟨n.toNat, by have := gr.n0; omega⟩
    have n4 := gr.n4
    simp only [↓sxc, sx, se, ↓reduceIte, Nat.reduceEqDiff, Nat.reduceAdd, Nat.reduceLT, Nat.reduceLeDiff, Nat.reduceSub, Nat.reduceMul, Int.reduceToNat, Int.reduceLT, Int.reduceLE, Int.reduceEq, ml_i0, ↓smc, sm, c108, h0]
    refine w43_1 hG gr hN (by omega) l 0 (-1, -1) m _ rfl (.inl ⟨rfl, rfl⟩) (fun e => ?_)
    have eb : bestS l l 0 (-1, -1) = bestE l := rfl
    rw [eb]
    rcases bestE_bst (l := l) with ⟨h1, h2⟩ | ⟨j, fe, h1, h2, h3, h4⟩
    · have c0 : (-1 : Int) < 0 := by omega
      have ec : cycE n l = ([], 0) := by unfold cycE; rw [if_neg (by omega), if_pos (by omega)]
      rw [ec]
      simp only [↓sxc, sx, se, ↓reduceIte, Nat.reduceEqDiff, Nat.reduceAdd, Nat.reduceLT, Nat.reduceLeDiff, Nat.reduceSub, Nat.reduceMul, Int.reduceToNat, Int.reduceLT, Int.reduceLE, Int.reduceEq, ml_i0, ↓smc, sm, h1, c0]
      rfl
    · have c0 : ¬ (j : Int) < 0 := by omega
      obtain ⟨a, b, ha, hb, ha2, hb2⟩ := gr.e fe (List.mem_of_getElem? h2)
      have aN : a < N := by omega
      have bN : b < N := by omega
      have hlt : dst l b a < N := dst_lt gr hN bN
      have h5 : ¬ dst l fe.to fe.fr < 0 := by
        intro hc
        unfold lenE at h3
        rw [if_pos hc] at h3
        omega
      have h6 : (bestE l).2 = dst l b a + 1 := by
        rw [← h3]
        unfold lenE
        rw [if_neg h5, ha, hb]
      rw [ha, hb] at h5
      obtain ⟨k, hk⟩ : ∃ k : Nat, dst l b a = k := ⟨(dst l b a).toNat, by omega⟩
      have j0 : (0 : Int) ≤ j := by omega
      have jn : ((j : Nat) : Int).toNat = j := rfl
      have w1 : wrapF .i64 ((bestE l).2 - 1) = (k : Int) := by rw [wr_i64 (by omega) (by omega)]; omega
      have ec : cycE n l = ((j : Int) :: walkE l a k b, 0) := by
        unfold cycE
        rw [if_neg (by omega), if_neg (by omega), h1, show ((bestE l).2 - 1).toNat = k by omega]
        simp only [frAt, toAt, Int.toNat_natCast, h2, ha, hb]
      rw [ec]
      simp only [↓sxc, sx, se, ↓reduceIte, Nat.reduceEqDiff, Nat.reduceAdd, Nat.reduceLT, Nat.reduceLeDiff, Nat.reduceSub, Nat.reduceMul, Int.reduceToNat, Int.reduceLT, Int.reduceLE, Int.reduceEq, ml_i0, ↓smc, sm, h1, c0, j0, jn, h2, hb, w1]
      refine w43_3 hG gr hN (by omega) j a fe h2 ha aN k b [(j : Int)] _ _ _ (by omega) (by simp; omega) hk (by show m.next ≤ m.next + 1; omega) (.inr ⟨m.next, rfl, Nat.le_refl _, Nat.lt_succ_self _, by simp [Mem.bump, Mem.set]⟩) (fun v m' e q1 q2 => ?_)
      have fz := fz_rw (n := 5) q2
      simp only [↓sxc, sx, se, ↓reduceIte, Nat.reduceEqDiff, Nat.reduceAdd, Nat.reduceLT, Nat.reduceLeDiff, Nat.reduceSub, Nat.reduceMul, Int.reduceToNat, Int.reduceLT, Int.reduceLE, Int.reduceEq, ml_i0, ↓smc, sm]
      simp only [mapO, fz, fz_int]
      rfl
  · have ec : cycE n l = ([], chkG n l) := by unfold cycE; rw [if_pos h0]
    rw [ec]
    simp only [↓sxc, sx, se, ↓reduceIte, Nat.reduceEqDiff, Nat.reduceAdd, Nat.reduceLT, Nat.reduceLeDiff, Nat.reduceSub, Nat.reduceMul, Int.reduceToNat, Int.reduceLT, Int.reduceLE, Int.reduceEq, ml_i0, ↓smc, sm, c108, h0]
    rfl
end Go.Am
