/- Shortest cycles: the program. -/
import Derived.Test.YtflfnkdhmcfjlaaGrK
namespace Go.Am
open Go
set_option linter.unusedSimpArgs false
set_option linter.unusedVariables false
set_option maxRecDepth 100000

noncomputable def intss (E : List (List Int)) : V := .ro true 1 (E.map ints)
theorem ia_intss {l : List (List Int)} {k : IntKind} {x : Int} : retV (.ia 1) [intss l, .int k x] = if 0 ≤ x then (l[x.toNat]?).map fun e => .imm (ints e) 0 else none := by
  unfold intss
  rw [r_iaro, ml_get]
  cases l[x.toNat]? <;> rfl
theorem fz_nest {lo n h q : Nat} {m : Mem} {E : List (List Int)} {es : List V} (H : NestB lo m h q E es) : freeze lo m (n + 3) (.row 1 h 0 es.length) = some (intss E) := by
  rw [fz_row H.bh H.lh (by simp), List.drop_zero, List.take_of_length_le (Nat.le_refl _)]
  have : mapO (freeze lo m (n + 2)) es = some (E.map ints) := by
    have key : ∀ (es : List V) (E : List (List Int)), es.length = E.length → (∀ (i : Nat) (v : V) (L : List Int), es[i]? = some v → E[i]? = some L → Rw lo m 1 v (L.map vi)) → mapO (freeze lo m (n + 2)) es = some (E.map ints) := by
      intro es
      induction es with
      | nil =>
        intro E hl _
        cases E with
        | nil => rfl
        | cons => simp at hl
      | cons v es ih =>
        intro E hl hr
        cases E with
        | nil => simp at hl
        | cons L E =>
          have h1 := fz_rw (n := n) (hr 0 v L rfl rfl)
          have h2 := ih E (by simpa using hl) (fun i v L hv hL => hr (i + 1) v L hv hL)
          simp only [mapO, h1, h2, List.map_cons]
    exact key es E H.ln H.rw
  rw [this]
  rfl

theorem w103_1 {F : Nat → Option Fn} {lo : Nat} {n : Int} (l : List Edge) (gr : Gr n l) (hl : l.length < 100000) (N : Nat) (hN : n = N) (h5 : Nat) : ∀ (t : List Edge) (j : Nat) (es : List V) (m : Mem) (Q : Ex → St → Prop), l.drop j = t → lo ≤ m.next → NestB lo m h5 h5 (bucks Edge.fr ixV N (l.take j)) es →
    (∀ es m' e, m.next ≤ m'.next → NestB lo m' h5 h5 (bucks Edge.fr ixV N l) es → Q (.exit 0) ⟨(5, .row 1 h5 0 N) :: e, [], [], m'⟩) →
    W F lo L103_1 ⟨[(5, .row 1 h5 0 N), (10, vEdges l), (11, vi l.length), (12, vi j)], [], [], m⟩ Q := by
  intro t
  induction t with
  | nil =>
    intro j es m Q hd hm h2 hq
    have hlt := drop_nil hd
    rw [W_L (c := L103_1) rfl]
    have : ¬ ((j : Nat) : Int) < (l.length : Int) := by omega
    simp only [↓sxc, sx, se, ↓reduceIte, Nat.reduceEqDiff, Nat.reduceAdd, Nat.reduceLT, Nat.reduceLeDiff, Nat.reduceSub, Nat.reduceMul, Int.reduceToNat, Int.reduceLT, Int.reduceLE, Int.reduceEq, ml_i0, ↓smc, sm, this]
    rw [List.take_of_length_le hlt] at h2
    exact hq es m _ (Nat.le_refl _) h2
  | cons x t ih =>
    intro j es m Q hd hm h2 hq
    obtain ⟨hg, hd', hlt⟩ := drop_cons hd
    rw [W_L (c := L103_1) rfl]
    have : ((j : Nat) : Int) < (l.length : Int) := by omega
    have wr : wrapF .i64 ((j : Int) + 1) = ((j + 1 : Nat) : Int) := by rw [wr_i64 (by omega) (by omega)]; rfl
    obtain ⟨a, b, ha, hb, ha2, hb2⟩ := gr.e x (List.mem_of_getElem? hg)
    subst hN
    have aN : a < N := by omega
    have ai : (a : Int) < (N : Int) := ha2
    have a0 : (0 : Int) ≤ a := by omega
    have an : ((a : Nat) : Int).toNat = a := rfl
    have hl8 := h2.lh
    have hbl := buck_len (key := Edge.fr) (val := ixV) (w := (a : Int)) (p := l.take j) (i := 0)
    have hlj : (l.take j).length = j := by simp; omega
    obtain ⟨v, v', m2, q1, qc, q2, q3, q4, q5, q6, q7, q8⟩ := h2.push 13 (m.next + 10) (by omega) (by omega) (by omega) h2.hm (bucks_get aN) (by omega) (j : Int)
    have hb8 := h2.bh
    simp only [↓sxc, sx, se, ↓reduceIte, Nat.reduceEqDiff, Nat.reduceAdd, Nat.reduceLT, Nat.reduceLeDiff, Nat.reduceSub, Nat.reduceMul, Int.reduceToNat, Int.reduceLT, Int.reduceLE, Int.reduceEq, ml_i0, ↓W_dreg, ↓sk, sk, ↓smc, sm, this, hg, ha, hb, ai, a0, an, hb8, hl8, q1, q2, q3, q4, qc, wr]
    have e8 : (bucks Edge.fr ixV N (l.take j)).set a (buck Edge.fr ixV (l.take j) 0 a ++ [(j : Int)]) = bucks Edge.fr ixV N (l.take (j + 1)) := by
      rw [take_succ_drop hd, ← bucks_push ha aN]
      simp only [ixV, hlj]
    rw [e8] at q8
    refine ⟨by simp [pairsOk, nth_eq, pk_nest], ?_⟩
    refine ih (j + 1) _ _ Q hd' ?_ q8 (fun es m' e p1 p3 => hq es m' e ?_ p3)
    · show lo ≤ m2.next; omega
    · have p1' : m2.next ≤ m'.next := p1
      omega

theorem sp103 {F : Nat → Option Fn} (hG : HasG F) {lo : Nat} {m : Mem} {n : Int} {N : Nat} {l : List Edge} (gr : Gr n l) (hN : n = N) (hl : l.length < 100000) : callw F 103 [vi n, vEdges l] lo m = some (intss (bucks Edge.fr ixV N l), m) := by
  have n4 := gr.n4
  have b1 : 0 ≤ (n : Int) ∧ (n : Int) < big := by simp [big]; omega
  have tn : n.toNat = N := by omega
  refine call_p hG.h103 rfl ?_
  simp only [↓sxc, sx, se, ↓reduceIte, Nat.reduceEqDiff, Nat.reduceAdd, Nat.reduceLT, Nat.reduceLeDiff, Nat.reduceSub, Nat.reduceMul, Int.reduceToNat, Int.reduceLT, Int.reduceLE, Int.reduceEq, ml_i0, ↓smc, sm, b1, tn]
  refine w103_1 l gr hl N hN m.next l 0 (List.replicate N .nil) _ _ rfl (by show m.next ≤ m.next + 1; omega) (NestB.start (Nat.le_refl _) (Nat.lt_succ_self _) (by simp [Mem.set, Mem.bump])) (fun es m1 e p1 p2 => ?_)
  have fz := fz_nest (n := 5) p2
  rw [p2.ln, bucks_len] at fz
  simp only [↓sxc, sx, se, ↓reduceIte, Nat.reduceEqDiff, Nat.reduceAdd, Nat.reduceLT, Nat.reduceLeDiff, Nat.reduceSub, Nat.reduceMul, Int.reduceToNat, Int.reduceLT, Int.reduceLE, Int.reduceEq, ml_i0, ↓smc, sm, fz]

/-- IndexFunc over numbers, where the function looks at the memory. -/
theorem sx106m {F : Nat → Option Fn} (hA : HasA F) {lo : Nat} {m : Mem} (l : List Int) {f : Nat} {cs : List V} {p : Int → Bool} (hf : f < 1000) (hp : ∀ x ∈ l, ∀ lo, callw F f (vi x :: cs) lo m = some (.bool (p x), m)) (hs : l.length < 1000000) : callw F 106 [ints l, .fn f cs] lo m = some (vi (idxP p l 0), m) := by
  have loop : ∀ (t : List Int) (i : Nat) (Q : Ex → St → Prop), l.drop i = t → (∀ j, idxP p t i = j → j ≠ -1 → Q .ret ⟨[(4, vi j)], [], [], m⟩) →
      (idxP p t i = -1 → ∀ e, Q (.exit 0) ⟨e, [], [], m⟩) →
      W F m.next L106_1 ⟨[(0, ints l), (1, .fn f cs), (7, vi l.length), (8, vi i)], [], [], m⟩ Q := by
    intro t
    induction t with
    | nil =>
      intro i Q hd h1 h2
      have hlt := drop_nil hd
      rw [W_L (c := L106_1) rfl]
      have : ¬ ((i : Nat) : Int) < (l.length : Int) := by omega
      simp only [↓sxc, sx, se, ↓reduceIte, Nat.reduceEqDiff, Nat.reduceAdd, Nat.reduceLT, Nat.reduceLeDiff, Nat.reduceSub, Nat.reduceMul, Int.reduceToNat, Int.reduceLT, Int.reduceLE, Int.reduceEq, ml_i0, ↓smc, sm, this]
      exact h2 rfl _
    | cons x t ih =>
      intro i Q hd h1 h2
      obtain ⟨hg, hd', hlt⟩ := drop_cons hd
      rw [W_L (c := L106_1) rfl]
      have : ((i : Nat) : Int) < (l.length : Int) := by omega
      have wr : wrapF .i64 ((i : Int) + 1) = ((i + 1 : Nat) : Int) := by rw [wr_i64 (by omega) (by omega)]; rfl
      have hc := hp x (List.mem_of_getElem? hg)
      cases hx : p x with
      | true =>
        have e : idxP p (x :: t) i = (i : Int) := by simp [idxP, hx]
        rw [hx] at hc
        simp only [↓sxc, sx, se, ↓reduceIte, Nat.reduceEqDiff, Nat.reduceAdd, Nat.reduceLT, Nat.reduceLeDiff, Nat.reduceSub, Nat.reduceMul, Int.reduceToNat, Int.reduceLT, Int.reduceLE, Int.reduceEq, ml_i0, ↓smc, sm, this, hg, hf, hc, List.append_eq, List.nil_append, List.cons_append]
        exact h1 i e (by omega)
      | false =>
        have e : idxP p (x :: t) i = idxP p t (i + 1) := by simp [idxP, hx]
        rw [e] at h1 h2
        rw [hx] at hc
        simp only [↓sxc, sx, se, ↓reduceIte, Nat.reduceEqDiff, Nat.reduceAdd, Nat.reduceLT, Nat.reduceLeDiff, Nat.reduceSub, Nat.reduceMul, Int.reduceToNat, Int.reduceLT, Int.reduceLE, Int.reduceEq, ml_i0, ↓smc, sm, this, hg, hf, hc, wr, List.append_eq, List.nil_append, List.cons_append]
        exact ih (i + 1) Q hd' h1 h2
  refine call_p hA.h106 rfl ?_
  simp only [↓sxc, sx, se, ↓reduceIte, Nat.reduceEqDiff, Nat.reduceAdd, Nat.reduceLT, Nat.reduceLeDiff, Nat.reduceSub, Nat.reduceMul, Int.reduceToNat, Int.reduceLT, Int.reduceLE, Int.reduceEq, ml_i0, ↓smc, sm]
  refine loop l 0 _ rfl (fun j hj hne => ?_) (fun hn e => ?_)
  · simp only [↓sxc, sx, se, ↓reduceIte, Nat.reduceEqDiff, Nat.reduceAdd, Nat.reduceLT, Nat.reduceLeDiff, Nat.reduceSub, Nat.reduceMul, Int.reduceToNat, Int.reduceLT, Int.reduceLE, Int.reduceEq, ml_i0, ↓smc, sm, hj]
  · simp only [↓sxc, sx, se, ↓reduceIte, Nat.reduceEqDiff, Nat.reduceAdd, Nat.reduceLT, Nat.reduceLeDiff, Nat.reduceSub, Nat.reduceMul, Int.reduceToNat, Int.reduceLT, Int.reduceLE, Int.reduceEq, ml_i0, ↓smc, sm, hn]

theorem buck_pick {l : List Edge} {w : Int} {q : Edge → Bool} {q' : Int → Bool} : ∀ {p : List Edge} {k s : Nat}, (∀ j : Nat, p[j]? = l[k + j]?) → (∀ (j : Nat) e, l[j]? = some e → q' j = q e) → 0 ≤ idxP (fun e => decide (e.fr = w) && q e) p k →
    ∃ pos : Nat, idxP q' (buck Edge.fr ixV p k w) s = ((s + pos : Nat) : Int) ∧ (buck Edge.fr ixV p k w)[pos]? = some (idxP (fun e => decide (e.fr = w) && q e) p k)
  | [], k, s, _, _, h => by simp [idxP] at h
  | e :: p, k, s, h, hq, hx => by
    have h0 : l[k]? = some e := by
      have := h 0
      simpa using this.symm
    have hn : ∀ j : Nat, p[j]? = l[k + 1 + j]? := fun j => by
      have := h (j + 1)
      rw [show k + 1 + j = k + (j + 1) by omega, ← this]
      rfl
    have hqe := hq k e h0
    by_cases hf : e.fr = w
    · cases hb : q e with
      | true =>
        rw [hb] at hqe
        exact ⟨0, by simp [buck, hf, ixV, idxP, hqe], by simp [buck, hf, ixV, idxP, hb]⟩
      | false =>
        rw [hb] at hqe
        have e1 : idxP (fun e => decide (e.fr = w) && q e) (e :: p) k = idxP (fun e => decide (e.fr = w) && q e) p (k + 1) := by simp [idxP, hb]
        rw [e1] at hx ⊢
        obtain ⟨pos, h1, h2⟩ := buck_pick (s := s + 1) hn hq hx
        refine ⟨pos + 1, ?_, ?_⟩
        · simp only [buck, hf, if_true, List.cons_append, List.nil_append, ixV, idxP, hqe]
          simp only [Bool.false_eq_true, if_false]
          rw [h1]
          congr 1
          omega
        · simp only [buck, hf, if_true, List.cons_append, List.nil_append]
          exact h2
    · have e1 : idxP (fun e => decide (e.fr = w) && q e) (e :: p) k = idxP (fun e => decide (e.fr = w) && q e) p (k + 1) := by simp [idxP, hf]
      rw [e1] at hx ⊢
      have e2 : buck Edge.fr ixV (e :: p) k w = buck Edge.fr ixV p (k + 1) w := by simp [buck, hf]
      rw [e2]
      exact buck_pick hn hq hx

theorem sp107 {F : Nat → Option Fn} (hG : HasG F) {lo : Nat} {m : Mem} {n : Int} {N : Nat} {l : List Edge} (gr : Gr n l) (hN : n = N) (D : Int → Int) {h14 h3 h15 j c : Nat} {e : Edge} (hj : l[j]? = some e) (hc : c < N) (hD : D c ≤ N ∧ -1 ≤ D c) (b14 : m.blk h14 = some (.row 1 [ints (reachL N D)])) (b3 : m.blk h3 = some (.row 1 [vEdges l])) (b15 : m.blk h15 = some (.row 1 [vi c])) :
    callw F 107 [vi j, .ptr h14 0 0, .ptr h3 0 0, .ptr h15 0 0] lo m = some (.bool (decide (D (toAt l j) = D c - 1)), m) := by
  obtain ⟨a, b, ha, hb, ha2, hb2⟩ := gr.e e (List.mem_of_getElem? hj)
  have bN : b < N := by omega
  have n4 := gr.n4
  have j0 : (0 : Int) ≤ j := by omega
  have jn : ((j : Nat) : Int).toNat = j := rfl
  have b0 : (0 : Int) ≤ b := by omega
  have bn : ((b : Nat) : Int).toNat = b := rfl
  have c0 : (0 : Int) ≤ c := by omega
  have cn : ((c : Nat) : Int).toNat = c := rfl
  have g1 : (reachL N D)[b]? = some (D b) := reachL_get bN
  have g2 : (reachL N D)[c]? = some (D c) := reachL_get hc
  have w1 : wrapF .i64 (D c - 1) = D c - 1 := wr_i64 (by omega) (by omega)
  have et : toAt l (j : Int) = b := by simp only [toAt, Int.toNat_natCast, hj, hb]
  rw [et]
  refine call_p hG.h107 rfl ?_
  simp only [↓sxc, sx, se, ↓reduceIte, Nat.reduceEqDiff, Nat.reduceAdd, Nat.reduceLT, Nat.reduceLeDiff, Nat.reduceSub, Nat.reduceMul, Int.reduceToNat, Int.reduceLT, Int.reduceLE, Int.reduceEq, ml_i0, ↓smc, sm, b14, b3, b15, j0, jn, b0, bn, c0, cn, hj, hb, g1, g2, w1]

theorem w40_1 {F : Nat → Option Fn} {lo : Nat} {n : Int} (l : List Edge) (gr : Gr n l) (hl : l.length < 100000) (N : Nat) (hN : n = N) (h3 h8 : Nat) (hne : h3 ≠ h8) (u0 u7 : V) : ∀ (t : List Edge) (j : Nat) (es : List V) (m : Mem) (Q : Ex → St → Prop), l.drop j = t → lo ≤ m.next → h3 < m.next → NestB lo m h8 h3 (bucks Edge.to ixV N (l.take j)) es →
    (∀ es m' e, m.next ≤ m'.next → NestB lo m' h8 h3 (bucks Edge.to ixV N l) es → m'.blk h3 = m.blk h3 → Q (.exit 0) ⟨(0, u0) :: (3, .ptr h3 0 0) :: (7, u7) :: (8, .row 1 h8 0 N) :: e, [], [], m'⟩) →
    W F lo L40_1 ⟨[(0, u0), (3, .ptr h3 0 0), (7, u7), (8, .row 1 h8 0 N), (28, vEdges l), (29, vi l.length), (30, vi j)], [], [], m⟩ Q := by
  intro t
  induction t with
  | nil =>
    intro j es m Q hd hm h3m h2 hq
    have hlt := drop_nil hd
    rw [W_L (c := L40_1) rfl]
    have : ¬ ((j : Nat) : Int) < (l.length : Int) := by omega
    simp only [↓sxc, sx, se, ↓reduceIte, Nat.reduceEqDiff, Nat.reduceAdd, Nat.reduceLT, Nat.reduceLeDiff, Nat.reduceSub, Nat.reduceMul, Int.reduceToNat, Int.reduceLT, Int.reduceLE, Int.reduceEq, ml_i0, ↓smc, sm, this]
    rw [List.take_of_length_le hlt] at h2
    exact hq es m _ (Nat.le_refl _) h2 rfl
  | cons x t ih =>
    intro j es m Q hd hm h3m h2 hq
    obtain ⟨hg, hd', hlt⟩ := drop_cons hd
    rw [W_L (c := L40_1) rfl]
    have : ((j : Nat) : Int) < (l.length : Int) := by omega
    have wr : wrapF .i64 ((j : Int) + 1) = ((j + 1 : Nat) : Int) := by rw [wr_i64 (by omega) (by omega)]; rfl
    obtain ⟨a, b, ha, hb, ha2, hb2⟩ := gr.e x (List.mem_of_getElem? hg)
    subst hN
    have bN : b < N := by omega
    have bi : (b : Int) < (N : Int) := hb2
    have b0 : (0 : Int) ≤ b := by omega
    have bn : ((b : Nat) : Int).toNat = b := rfl
    have hl8 := h2.lh
    have hbl := buck_len (key := Edge.to) (val := ixV) (w := (b : Int)) (p := l.take j) (i := 0)
    have hlj : (l.take j).length = j := by simp; omega
    obtain ⟨v, v', m2, q1, qc, q2, q3, q4, q5, q6, q7, q8⟩ := h2.push 13 (m.next + 10) (by omega) (by omega) (by omega) h3m (bucks_get bN) (by omega) (j : Int)
    have hb8 := h2.bh
    simp only [↓sxc, sx, se, ↓reduceIte, Nat.reduceEqDiff, Nat.reduceAdd, Nat.reduceLT, Nat.reduceLeDiff, Nat.reduceSub, Nat.reduceMul, Int.reduceToNat, Int.reduceLT, Int.reduceLE, Int.reduceEq, ml_i0, ↓W_dreg, ↓sk, sk, ↓smc, sm, this, hg, ha, hb, bi, b0, bn, hb8, hl8, q1, q2, q3, q4, qc, wr]
    have e8 : (bucks Edge.to ixV N (l.take j)).set b (buck Edge.to ixV (l.take j) 0 b ++ [(j : Int)]) = bucks Edge.to ixV N (l.take (j + 1)) := by
      rw [take_succ_drop hd, ← bucks_push hb bN]
      simp only [ixV, hlj]
    rw [e8] at q8
    refine ⟨by simp [pairsOk, nth_eq, pk_nest], ?_⟩
    refine ih (j + 1) _ _ Q hd' ?_ ?_ q8 (fun es m' e p1 p3 p4 => hq es m' e ?_ p3 ?_)
    · show lo ≤ m2.next; omega
    · show h3 < m2.next; omega
    · have p1' : m2.next ≤ m'.next := p1
      omega
    · rw [p4, set_ne hne]
      exact q7

/-- The memory while a cycle is walked: its list, the two boxes, and what was there before. -/
structure Wm (lo b : Nat) (m0 m : Mem) (kv h14 h15 : Nat) (xs : List Int) (D : V) (c : Nat) : Prop where
  lb : lo ≤ b
  hm : b ≤ m.next
  k1 : b ≤ h14
  k2 : h14 < kv
  k3 : h14 < h15
  k4 : kv ≠ h15
  k5 : kv < m.next
  k6 : h15 < m.next
  bv : m.blk kv = some (.row 1 (xs.map vi))
  b14 : m.blk h14 = some (.row 1 [D])
  b15 : m.blk h15 = some (.row 1 [vi c])
  fr : ∀ k, k < b → m.blk k = m0.blk k

theorem w40_2 {F : Nat → Option Fn} (hA : HasA F) (hG : HasG F) {lo b : Nat} {n : Int} {N : Nat} {l : List Edge} (gr : Gr n l) (hN : n = N) (hl : l.length < 100000) (h3 h8 h14 a0 i : Nat) (h3b : h3 < b) (m0 : Mem) (b3 : m0.blk h3 = some (.row 1 [vEdges l])) (x : Edge) (hxa : x.fr = (a0 : Int)) (ha0 : a0 < N) :
    ∀ (k c : Nat) (xs : List Int) (kv h15 : Nat) (m : Mem) (Q : Ex → St → Prop), c < N → xs.length + k < 100000 → dst l c a0 = k → Wm lo b m0 m kv h14 h15 xs (ints (reachL N (fun v => dst l v a0))) c →
      (∀ kv' h15' c' m' e, Wm lo b m0 m' kv' h14 h15' (xs ++ walkE l a0 k c) (ints (reachL N (fun v => dst l v a0))) c' → m.next ≤ m'.next → Q (.exit 4) ⟨(0, vi n) :: (3, .ptr h3 0 0) :: (7, intss (bucks Edge.fr ixV N l)) :: (8, .row 1 h8 0 N) :: (11, .row 1 kv' 0 (xs ++ walkE l a0 k c).length) :: (14, .ptr h14 0 0) :: (15, .ptr h15' 0 0) :: (48, vEdges l) :: (49, vi l.length) :: (50, vi i) :: e, [(13, vEdge x)], [], m'⟩) →
      W F lo L40_2 ⟨[(0, vi n), (3, .ptr h3 0 0), (7, intss (bucks Edge.fr ixV N l)), (8, .row 1 h8 0 N), (11, .row 1 kv 0 xs.length), (14, .ptr h14 0 0), (15, .ptr h15 0 0), (48, vEdges l), (49, vi l.length), (50, vi i)], [(13, vEdge x)], [], m⟩ Q := by
  have n4 := gr.n4
  have a00 : (0 : Int) ≤ a0 := by omega
  intro k
  induction k with
  | zero =>
    intro c xs kv h15 m Q hc ho hd H hQ
    have ec : (c : Int) = a0 := dst_zero.1 hd
    have b15 := H.b15
    rw [W_L (c := L40_2) rfl]
    simp only [↓sxc, sx, se, ↓reduceIte, Nat.reduceEqDiff, Nat.reduceAdd, Nat.reduceLT, Nat.reduceLeDiff, Nat.reduceSub, Nat.reduceMul, Int.reduceToNat, Int.reduceLT, Int.reduceLE, Int.reduceEq, ml_i0, ↓smc, sm, b15, hxa, ec]
    have := hQ kv h15 c m
    simp only [walkE, List.append_nil] at this
    exact this _ H (Nat.le_refl _)
  | succ k ih =>
    intro c xs kv h15 m Q hc ho hd H hQ
    obtain ⟨j, e, h1, h2, h3', h4, h5⟩ := nxtE_some (l := l) (x := (c : Int)) (y := a0) (k := k) (by rw [hd]; push_cast; rfl)
    have ec : ¬ (c : Int) = a0 := by
      intro h
      have := (dst_zero (l := l)).2 h
      omega
    obtain ⟨a, b2, ha, hb, ha2, hb2⟩ := gr.e e (List.mem_of_getElem? h2)
    have bN : b2 < N := by omega
    have b15 := H.b15
    have b14 := H.b14
    have b3' : m.blk h3 = some (.row 1 [vEdges l]) := by rw [H.fr h3 h3b]; exact b3
    have hD : dst l c a0 ≤ N ∧ -1 ≤ dst l c a0 := ⟨Int.le_of_lt (dst_lt gr hN hc), dist_ge⟩
    let L := buck Edge.fr ixV l 0 c
    have hLl : L.length ≤ l.length := buck_len
    have c106 : ∀ {lo m'}, m'.blk = m.blk → callw F 106 [ints L, .fn 107 [.ptr h14 0 0, .ptr h3 0 0, .ptr h15 0 0]] lo m' = some (vi (idxP (fun i => decide (dst l (toAt l i) a0 = dst l c a0 - 1)) L 0), m') := fun {lo m'} hm' => by
      refine sx106m hA L (by decide) (fun y hy lo => ?_) (by omega)
      obtain ⟨j2, e2, rfl, hj2, _⟩ := buck_ix_mem (p := l) (k := 0) (fun j => by rw [Nat.zero_add]) hy
      exact sp107 hG gr hN (fun v => dst l v a0) hj2 hc hD (by rw [hm']; exact b14) (by rw [hm']; exact b3') (by rw [hm']; exact b15)
    obtain ⟨pos, p1, p2⟩ := buck_pick (l := l) (w := (c : Int)) (q := fun e => decide (dst l e.to a0 = (k : Int))) (q' := fun i => decide (dst l (toAt l i) a0 = dst l c a0 - 1)) (p := l) (k := 0) (s := 0) (fun j => by rw [Nat.zero_add]) (fun j e hj => by
      have : toAt l ((j : Nat) : Int) = e.to := by simp only [toAt, Int.toNat_natCast, hj]
      rw [this, hd]
      congr 1
      apply propext
      push_cast
      omega) (by
        have : 0 ≤ nxtE l c a0 k := by rw [h1]; omega
        exact this)
    have ei : idxP (fun e => decide (e.fr = (c : Int)) && decide (dst l e.to a0 = (k : Int))) l 0 = (j : Int) := h1
    rw [ei] at p2
    rw [Nat.zero_add] at p1
    have c106' : ∀ {lo m'}, m'.blk = m.blk → callw F 106 [ints (buck Edge.fr ixV l 0 c), .fn 107 [.ptr h14 0 0, .ptr h3 0 0, .ptr h15 0 0]] lo m' = some (vi pos, m') := fun {lo m'} hm' => by
      rw [← p1]
      exact c106 hm'
    have c106b : callw F 106 [ints (buck Edge.fr ixV l 0 c), .fn 107 [.ptr h14 0 0, .ptr h3 0 0, .ptr h15 0 0]] lo (m.bump 13) = some (vi pos, m.bump 13) := c106' rfl
    have gb : (bucks Edge.fr ixV N l)[c]? = some (buck Edge.fr ixV l 0 c) := bucks_get hc
    have c0 : (0 : Int) ≤ c := by omega
    have cn : ((c : Nat) : Int).toNat = c := rfl
    have q0 : (0 : Int) ≤ pos := by omega
    have qn : ((pos : Nat) : Int).toNat = pos := rfl
    have j0 : (0 : Int) ≤ j := by omega
    have jn : ((j : Nat) : Int).toNat = j := rfl
    have hlo : lo ≤ kv := by have := H.lb; have := H.k1; have := H.k2; omega
    have hlo15 : lo ≤ h15 := by have := H.lb; have := H.k1; have := H.k3; omega
    have k2 := H.k2
    have k3 := H.k3
    have k4 := H.k4
    have k5 := H.k5
    have k6 := H.k6
    have k1 := H.k1
    have ap := ap_row (m := m.bump 13) (lo := lo) (h := m.next + 13) (h' := kv) (o := 0) (l := xs.length) (sz := 1) (s := 1) (y := .lst false 1 [vi j]) (xs := [vi j]) (es := xs.map vi) vw_lst hlo (.inl rfl) (by simp [big]; omega) H.bv (by simp)
    have e1 : (List.take xs.length (List.drop 0 (xs.map vi)) ++ [vi j]) = (xs ++ [(j : Int)]).map vi := by rw [List.drop_zero, List.take_of_length_le (by simp), List.map_append]; rfl
    have e2 : xs.length + [vi j].length = (xs ++ [(j : Int)]).length := by simp
    rw [e1, e2] at ap
    let m1 : Mem := (((m.bump 13).set kv none).set (m.next + 13) (some (.row 1 ((xs ++ [(j : Int)]).map vi)))).bump 1
    have em1 : (((m.bump 13).set kv none).set (m.next + 13) (some (.row 1 ((xs ++ [(j : Int)]).map vi)))).bump 1 = m1 := rfl
    have n1 : m1.next = m.next + 14 := rfl
    have bv1 : m1.blk (m.next + 13) = some (.row 1 ((xs ++ [(j : Int)]).map vi)) := by show (((m.bump 13).set kv none).set (m.next + 13) _).blk _ = _; simp [Mem.set]
    have f1 : ∀ k, k ≠ kv → k < m.next → m1.blk k = m.blk k := fun k h1 h2 => by
      show (((m.bump 13).set kv none).set (m.next + 13) _).blk _ = _
      rw [set_ne (by omega), set_ne h1]
      rfl
    clear_value m1
    have b15' : m1.blk h15 = some (.row 1 [vi c]) := by rw [f1 h15 (Ne.symm k4) k6]; exact b15
    have b14' : m1.blk h14 = some (.row 1 [ints (reachL N (fun v => dst l v a0))]) := by rw [f1 h14 (by omega) (by omega)]; exact b14
    have b3m : m1.blk h3 = some (.row 1 [vEdges l]) := by rw [f1 h3 (by omega) (by omega)]; exact b3'
    let m2 : Mem := m1.set h15 (some (.row 1 [vi b2]))
    have em2 : m1.set h15 (some (.row 1 [vi b2])) = m2 := rfl
    have n2 : m2.next = m1.next := rfl
    have f2 : ∀ k, k ≠ h15 → m2.blk k = m1.blk k := fun k h => set_ne h
    have b152 : m2.blk h15 = some (.row 1 [vi b2]) := by show (m1.set h15 _).blk h15 = _; simp [Mem.set]
    clear_value m2
    let m3 : Mem := (m2.set m2.next (some (.row 1 [vi 0]))).bump 1
    have em3 : (m2.set m2.next (some (.row 1 [vi 0]))).bump 1 = m3 := rfl
    have n3 : m3.next = m2.next + 1 := rfl
    have f3 : ∀ k, k ≠ m2.next → m3.blk k = m2.blk k := fun k h => set_ne h
    have b153 : m3.blk m2.next = some (.row 1 [vi 0]) := by show (m2.set _ _).blk _ = _; simp [Mem.set]
    clear_value m3
    let m4 : Mem := m3.set m2.next (some (.row 1 [vi b2]))
    have em4 : m3.set m2.next (some (.row 1 [vi b2])) = m4 := rfl
    have n5 : m4.next = m3.next := rfl
    have f4 : ∀ k, k ≠ m2.next → m4.blk k = m3.blk k := fun k h => set_ne h
    have b154 : m4.blk m2.next = some (.row 1 [vi b2]) := by show (m3.set _ _).blk _ = _; simp [Mem.set]
    clear_value m4
    have hlo2 : lo ≤ m2.next := by omega
    rw [W_L (c := L40_2) rfl]
    simp only [↓sxc, sx, se, ↓reduceIte, Nat.reduceEqDiff, Nat.reduceAdd, Nat.reduceLT, Nat.reduceLeDiff, Nat.reduceSub, Nat.reduceMul, Int.reduceToNat, Int.reduceLT, Int.reduceLE, Int.reduceEq, ml_i0, ↓smc, sm, b15, hxa, ec, ia_intss, gb, c0, cn, c106b, q0, qn, p2, ap, em1, b3m, b15', j0, jn, h2, hb, hlo15, em2, b152, em3, b153, hlo2, em4]
    refine ih b2 (xs ++ [(j : Int)]) (m.next + 13) m2.next m4 Q bN (by simp; omega) (by rw [← hb]; exact h4) ⟨H.lb, by have := H.hm; omega, k1, by omega, by omega, by omega, by omega, by omega, ?_, ?_, b154, fun k hk => ?_⟩ (fun kv2 h152 c2 m' e2' q1 q2 => ?_)
    · rw [f4 _ (by omega), f3 _ (by omega), f2 _ (by omega)]
      exact bv1
    · rw [f4 _ (by omega), f3 _ (by omega), f2 _ (by omega)]
      exact b14'
    · rw [f4 _ (by have := H.hm; omega), f3 _ (by have := H.hm; omega), f2 _ (by omega), f1 k (by omega) (by have := H.hm; omega)]
      exact H.fr k hk
    · have ew : xs ++ walkE l a0 (k + 1) c = xs ++ [(j : Int)] ++ walkE l a0 k b2 := by
        show xs ++ (nxtE l c a0 k :: walkE l a0 k (toAt l (nxtE l c a0 k))) = _
        rw [h5, h1, hb, List.append_assoc]
        rfl
      have := hQ kv2 h152 c2 m' e2' (by rw [ew]; exact q1) (by omega)
      rw [ew] at this
      exact this

theorem bestS_cons {l t : List Edge} {x : Edge} {i : Nat} {b : Int × Int} : bestS l (x :: t) i b = bestS l t (i + 1) (if 0 < lenE l x ∧ (b.2 < 0 ∨ lenE l x < b.2) then ((i : Int), lenE l x) else b) := rfl
/-- The cycle of a choice. -/
noncomputable def cycB (l : List Edge) (b : Int × Int) : List Int := if b.1 < 0 then [] else b.1 :: walkE l (frAt l b.1) (b.2 - 1).toNat (toAt l b.1)
theorem cycB_len {l : List Edge} {b : Int × Int} (H : Bst l b) : (b.2 < 0 ∧ cycB l b = []) ∨ (0 < b.2 ∧ ((cycB l b).length : Int) = b.2 ∧ cycB l b ≠ []) := by
  rcases H with ⟨h1, h2⟩ | ⟨j, e, h1, h2, h3, h4⟩
  · exact .inl ⟨by omega, by unfold cycB; rw [if_pos (by omega)]⟩
  · refine .inr ⟨h4, ?_, ?_⟩
    · unfold cycB
      rw [if_neg (by omega), List.length_cons, walkE_len]
      omega
    · unfold cycB
      rw [if_neg (by omega)]
      simp

theorem w40_3 {F : Nat → Option Fn} (hA : HasA F) (hG : HasG F) {lo b h3 h8 : Nat} {n : Int} {N : Nat} {l : List Edge} (gr : Gr n l) (hN : n = N) (hl : l.length < 90000) (m0 : Mem) (hm0 : m0.next = b) (hlo : lo ≤ b) (h3b : h3 < b) (b3 : m0.blk h3 = some (.row 1 [vEdges l])) {es : List V} (H8 : NestB lo m0 h8 h3 (bucks Edge.to ixV N l) es) (h38 : h3 ≠ h8) :
    ∀ (t : List Edge) (i : Nat) (bs : Int × Int) (v : V) (m : Mem) (Q : Ex → St → Prop), l.drop i = t → Bst l bs → b ≤ m.next → (∀ k, k < b → m.blk k = m0.blk k) → Qs lo m b v (cycB l bs) → (cycB l bs = [] → v = .nil) →
      (∀ v m' e, m.next ≤ m'.next → Qs lo m' b v (cycB l (bestS l t i bs)) → Q (.exit 2) ⟨(0, vi n) :: (3, .ptr h3 0 0) :: (7, intss (bucks Edge.fr ixV N l)) :: (8, .row 1 h8 0 N) :: (11, v) :: e, [], [], m'⟩) →
      W F lo L40_3 ⟨[(0, vi n), (3, .ptr h3 0 0), (7, intss (bucks Edge.fr ixV N l)), (8, .row 1 h8 0 N), (11, v), (48, vEdges l), (49, vi l.length), (50, vi i)], [], [], m⟩ Q := by
  have n4 := gr.n4
  intro t
  induction t with
  | nil =>
    intro i bs v m Q hd hb hm hf hq hv hQ
    have hlt := drop_nil hd
    rw [W_L (c := L40_3) rfl]
    have : ¬ ((i : Nat) : Int) < (l.length : Int) := by omega
    simp only [↓sxc, sx, se, ↓reduceIte, Nat.reduceEqDiff, Nat.reduceAdd, Nat.reduceLT, Nat.reduceLeDiff, Nat.reduceSub, Nat.reduceMul, Int.reduceToNat, Int.reduceLT, Int.reduceLE, Int.reduceEq, ml_i0, ↓smc, sm, this]
    exact hQ v m _ (Nat.le_refl _) hq
  | cons x t ih =>
    intro i bs v m Q hd hb hm hf hq hv hQ
    obtain ⟨hg, hd', hlt⟩ := drop_cons hd
    obtain ⟨a, c, ha, hc, ha2, hc2⟩ := gr.e x (List.mem_of_getElem? hg)
    have aN : a < N := by omega
    have cN : c < N := by omega
    have hs := hb.step hg
    rw [bestS_cons] at hQ
    have c0 : ((i : Nat) : Int) < (l.length : Int) := by omega
    have wr : wrapF .i64 ((i : Int) + 1) = ((i + 1 : Nat) : Int) := by rw [wr_i64 (by omega) (by omega)]; rfl
    have b3' : m.blk h3 = some (.row 1 [vEdges l]) := by rw [hf h3 h3b]; exact b3
    have Hm : NestB lo m h8 h3 (bucks Edge.to ixV N l) es := H8.mono (by omega) (fun k _ hk => hf k (by omega)) (Ne.symm h38)
    have c105 : ∀ {lo}, callw F 105 [vi n, vEdges l, .row 1 h8 0 N, vi a] lo m = some (ints (reachL N (fun v => dst l v a)), m) := fun {lo} => sp105 hG gr hN (by omega) aN Hm
    let D := ints (reachL N (fun v => dst l v a))
    let m1 : Mem := (m.set m.next (some (.row 1 [.nil]))).bump 1
    have em1 : (m.set m.next (some (.row 1 [.nil]))).bump 1 = m1 := rfl
    have n1 : m1.next = m.next + 1 := rfl
    have f1 : ∀ k, k ≠ m.next → m1.blk k = m.blk k := fun k h => set_ne h
    have b1 : m1.blk m.next = some (.row 1 [.nil]) := by show (m.set m.next _).blk m.next = _; simp [Mem.set]
    clear_value m1
    let m2 : Mem := m1.set m.next (some (.row 1 [ints (reachL N (fun v => dst l v a))]))
    have em2 : m1.set m.next (some (.row 1 [ints (reachL N (fun v => dst l v a))])) = m2 := rfl
    have n2 : m2.next = m1.next := rfl
    have f2 : ∀ k, k ≠ m.next → m2.blk k = m1.blk k := fun k h => set_ne h
    have b14 : m2.blk m.next = some (.row 1 [ints (reachL N (fun v => dst l v a))]) := by show (m1.set m.next _).blk m.next = _; simp [Mem.set]
    clear_value m2
    have hlo14 : lo ≤ m.next := by omega
    have gD : (reachL N (fun v => dst l v a))[c]? = some (dst l c a) := reachL_get cN
    have c00 : (0 : Int) ≤ c := by omega
    have cn : ((c : Nat) : Int).toNat = c := rfl
    have hDb : dst l c a < N := dst_lt gr hN cN
    have hDb2 : -1 ≤ dst l c a := dist_ge
    have w1 : wrapF .i64 (dst l c a + 1) = dst l c a + 1 := wr_i64 (by omega) (by omega)
    have fm2 : ∀ k, k < b → m2.blk k = m0.blk k := fun k hk => by rw [f2 k (by omega), f1 k (by omega)]; exact hf k hk
    have hq2 : Qs lo m2 b v (cycB l bs) := hq.mono (by omega) (fun k _ hk => by rw [f2 k (by omega), f1 k (by omega)])
    have hle : lenE l x = if dst l c a < 0 then -1 else dst l c a + 1 := by unfold lenE; rw [ha, hc]
    by_cases h1 : dst l c a < 0
    · have hn : ¬ (0 < lenE l x ∧ (bs.2 < 0 ∨ lenE l x < bs.2)) := by rw [hle, if_pos h1]; omega
      rw [if_neg hn] at hs hQ
      rw [W_L (c := L40_3) rfl]
      simp only [↓sxc, sx, se, ↓reduceIte, Nat.reduceEqDiff, Nat.reduceAdd, Nat.reduceLT, Nat.reduceLeDiff, Nat.reduceSub, Nat.reduceMul, Int.reduceToNat, Int.reduceLT, Int.reduceLE, Int.reduceEq, ml_i0, ↓W_dreg, ↓sk, sk, ↓smc, sm, c0, hg, b3', ha, hc, c105, em1, hlo14, b1, em2, b14, c00, cn, gD, h1, wr]
      exact ih (i + 1) bs v m2 Q hd' hs (by omega) fm2 hq2 hv (fun v m' e q1 q2 => hQ v m' e (by omega) q2)
    · have hlx : lenE l x = dst l c a + 1 := by rw [hle, if_neg h1]
      obtain ⟨k, hk⟩ : ∃ k : Nat, dst l c a = k := ⟨(dst l c a).toNat, by omega⟩
      have ecb : cycB l ((i : Int), lenE l x) = (i : Int) :: walkE l a k c := by
        unfold cycB
        rw [if_neg (by show ¬ (i : Int) < 0; omega), show ((lenE l x) - 1).toNat = k by omega]
        simp only [frAt, toAt, Int.toNat_natCast, hg, ha, hc]
      let m3 : Mem := (m2.set m2.next (some (.row 1 [vi i]))).bump 1
      have em3 : (m2.set m2.next (some (.row 1 [vi i]))).bump 1 = m3 := rfl
      have n3 : m3.next = m2.next + 1 := rfl
      have f3 : ∀ k, k ≠ m2.next → m3.blk k = m2.blk k := fun k h => set_ne h
      have b33 : m3.blk m2.next = some (.row 1 [vi i]) := by show (m2.set m2.next _).blk m2.next = _; simp [Mem.set]
      clear_value m3
      let m4 : Mem := (m3.set m3.next (some (.row 1 [vi 0]))).bump 1
      have em4 : (m3.set m3.next (some (.row 1 [vi 0]))).bump 1 = m4 := rfl
      have n5 : m4.next = m3.next + 1 := rfl
      have f4 : ∀ k, k ≠ m3.next → m4.blk k = m3.blk k := fun k h => set_ne h
      have b44 : m4.blk m3.next = some (.row 1 [vi 0]) := by show (m3.set m3.next _).blk m3.next = _; simp [Mem.set]
      clear_value m4
      let m5 : Mem := m4.set m3.next (some (.row 1 [vi c]))
      have em5 : m4.set m3.next (some (.row 1 [vi c])) = m5 := rfl
      have n6 : m5.next = m4.next := rfl
      have f5 : ∀ k, k ≠ m3.next → m5.blk k = m4.blk k := fun k h => set_ne h
      have b55 : m5.blk m3.next = some (.row 1 [vi c]) := by show (m4.set m3.next _).blk m3.next = _; simp [Mem.set]
      clear_value m5
      have hlo3 : lo ≤ m3.next := by omega
      have fin : ∀ (Q1 : Ex → St → Prop), (∀ v m' e, m.next ≤ m'.next → Qs lo m' b v (cycB l ((i : Int), lenE l x)) → (∀ k, k < b → m'.blk k = m0.blk k) → ∀ p14 p15, Q1 (.exit 4) ⟨(0, vi n) :: (3, .ptr h3 0 0) :: (7, intss (bucks Edge.fr ixV N l)) :: (8, .row 1 h8 0 N) :: (11, v) :: (14, p14) :: (15, p15) :: (48, vEdges l) :: (49, vi l.length) :: (50, vi i) :: e, [(13, vEdge x)], [], m'⟩) →
          W F lo L40_2 ⟨[(0, vi n), (3, .ptr h3 0 0), (7, intss (bucks Edge.fr ixV N l)), (8, .row 1 h8 0 N), (11, .row 1 m2.next 0 1), (14, .ptr m.next 0 0), (15, .ptr m3.next 0 0), (48, vEdges l), (49, vi l.length), (50, vi i)], [(13, vEdge x)], [], m5⟩ Q1 := by
        intro Q1 hq1
        refine w40_2 hA hG (b := b) gr hN (by omega) h3 h8 m.next a i h3b m0 b3 x ha aN k c [(i : Int)] m2.next m3.next m5 Q1 cN (by simp; omega) hk ⟨hlo, by omega, hm, by omega, by omega, by omega, by omega, by omega, ?_, ?_, b55, fun k hk => ?_⟩ (fun kv' h15' c' m' e q1 q2 => ?_)
        · rw [f5 _ (by omega), f4 _ (by omega)]
          exact b33
        · rw [f5 _ (by omega), f4 _ (by omega), f3 _ (by omega)]
          exact b14
        · rw [f5 _ (by omega), f4 _ (by omega), f3 _ (by omega)]
          exact fm2 k hk
        · have q1' := q1
          rw [List.singleton_append, ← ecb] at q1'
          have := hq1 (.row 1 kv' 0 (cycB l ((i : Int), lenE l x)).length) m' e (by omega) ⟨.inr ⟨kv', by rw [List.length_map], ?_, q1'.k5, q1'.bv⟩, fun j hj => ?_, q1'.hm⟩ q1'.fr (.ptr m.next 0 0) (.ptr h15' 0 0)
          · rw [ecb] at this
            exact this
          · have := q1.k2; omega
          · cases hj
            have := q1.k2; omega
      have fx : V.agg [V.int .i64 (a : Int), V.int .i64 (c : Int), V.int .i64 x.cls, V.int .i64 x.step] = vEdge x := by rw [← ha, ← hc]; rfl
      have ne : cycB l ((i : Int), lenE l x) ≠ [] := by rw [ecb]; simp
      rcases cycB_len hb with ⟨h2, h3'⟩ | ⟨h2, h3', h4⟩
      · have hp : 0 < lenE l x ∧ (bs.2 < 0 ∨ lenE l x < bs.2) := ⟨by omega, .inl h2⟩
        rw [if_pos hp] at hs hQ
        have hv' := hv h3'
        subst hv'
        rw [W_L (c := L40_3) rfl]
        simp only [↓sxc, sx, se, ↓reduceIte, Nat.reduceEqDiff, Nat.reduceAdd, Nat.reduceLT, Nat.reduceLeDiff, Nat.reduceSub, Nat.reduceMul, Int.reduceToNat, Int.reduceLT, Int.reduceLE, Int.reduceEq, ml_i0, ↓W_dreg, ↓sk, sk, ↓smc, sm, c0, hg, b3', ha, hc, c105, em1, hlo14, b1, em2, b14, c00, cn, gD, h1, em3, em4, b44, hlo3, em5, fx]
        refine fin _ (fun v m' e q1 q2 q3 p14 p15 => ?_)
        simp only [↓sxc, sx, se, ↓reduceIte, Nat.reduceEqDiff, Nat.reduceAdd, Nat.reduceLT, Nat.reduceLeDiff, Nat.reduceSub, Nat.reduceMul, Int.reduceToNat, Int.reduceLT, Int.reduceLE, Int.reduceEq, ml_i0, ↓smc, sm, wr]
        exact ih (i + 1) ((i : Int), lenE l x) v m' Q hd' hs (by omega) q3 q2 (fun h => absurd h ne) (fun v m2 e z1 z2 => hQ v m2 e (by omega) z2)
      · obtain ⟨kv, rfl, r1, r2, r3, r4⟩ := hq2.row h4
        by_cases h5 : ((cycB l bs).length : Int) ≤ dst l c a + 1
        · have hn : ¬ (0 < lenE l x ∧ (bs.2 < 0 ∨ lenE l x < bs.2)) := by omega
          rw [if_neg hn] at hs hQ
          rw [W_L (c := L40_3) rfl]
          simp only [↓sxc, sx, se, ↓reduceIte, Nat.reduceEqDiff, Nat.reduceAdd, Nat.reduceLT, Nat.reduceLeDiff, Nat.reduceSub, Nat.reduceMul, Int.reduceToNat, Int.reduceLT, Int.reduceLE, Int.reduceEq, ml_i0, ↓W_dreg, ↓sk, sk, ↓smc, sm, c0, hg, b3', ha, hc, c105, em1, hlo14, b1, em2, b14, c00, cn, gD, h1, w1, h5, wr]
          exact ih (i + 1) bs _ m2 Q hd' hs (by omega) fm2 hq2 hv (fun v m' e q1 q2 => hQ v m' e (by omega) q2)
        · have hp : 0 < lenE l x ∧ (bs.2 < 0 ∨ lenE l x < bs.2) := ⟨by omega, .inr (by omega)⟩
          rw [if_pos hp] at hs hQ
          rw [W_L (c := L40_3) rfl]
          simp only [↓sxc, sx, se, ↓reduceIte, Nat.reduceEqDiff, Nat.reduceAdd, Nat.reduceLT, Nat.reduceLeDiff, Nat.reduceSub, Nat.reduceMul, Int.reduceToNat, Int.reduceLT, Int.reduceLE, Int.reduceEq, ml_i0, ↓W_dreg, ↓sk, sk, ↓smc, sm, c0, hg, b3', ha, hc, c105, em1, hlo14, b1, em2, b14, c00, cn, gD, h1, w1, h5, em3, em4, b44, hlo3, em5, fx]
          refine fin _ (fun v m' e q1 q2 q3 p14 p15 => ?_)
          simp only [↓sxc, sx, se, ↓reduceIte, Nat.reduceEqDiff, Nat.reduceAdd, Nat.reduceLT, Nat.reduceLeDiff, Nat.reduceSub, Nat.reduceMul, Int.reduceToNat, Int.reduceLT, Int.reduceLE, Int.reduceEq, ml_i0, ↓smc, sm, wr]
          exact ih (i + 1) ((i : Int), lenE l x) v m' Q hd' hs (by omega) q3 q2 (fun h => absurd h ne) (fun v m2 e z1 z2 => hQ v m2 e (by omega) z2)

theorem sp40 {F : Nat → Option Fn} (hA : HasA F) (hG : HasG F) {lo : Nat} {m : Mem} (n : Int) (l : List Edge) (hl : l.length < 90000) : callw F 40 [vi n, vEdges l] lo m = some (.tup [ints (cycE n l).1, vi (cycE n l).2], m) := by
  have c102 : ∀ {lo m}, callw F 102 [vi n, vEdges l] lo m = some (vi (chkG n l), m) := fun {lo m} => sp102 hG n l (by omega)
  have b3 : (m.set m.next (some (.row 1 [vEdges l]))).blk m.next = some (.row 1 [vEdges l]) := by simp [Mem.set]
  refine call_p hG.h40 rfl ?_
  by_cases h0 : chkG n l = 0
  · have gr := gr_of h0
    obtain ⟨N, hN⟩ : ∃ N : Nat, n = N := ⟨n.toNat, by have := gr.n0; omega⟩
    have n4 := gr.n4
    have b1 : 0 ≤ (n : Int) ∧ (n : Int) < big := by simp [big]; omega
    have tn : n.toNat = N := by omega
    have c103 : ∀ {lo m}, callw F 103 [vi n, vEdges l] lo m = some (intss (bucks Edge.fr ixV N l), m) := fun {lo m} => sp103 hG gr hN (by omega)
    have b3b : ((m.set m.next (some (.row 1 [vEdges l]))).bump (1 + 7)).blk m.next = some (.row 1 [vEdges l]) := b3
    simp only [↓sxc, sx, se, ↓reduceIte, Nat.reduceEqDiff, Nat.reduceAdd, Nat.reduceLT, Nat.reduceLeDiff, Nat.reduceSub, Nat.reduceMul, Int.reduceToNat, Int.reduceLT, Int.reduceLE, Int.reduceEq, ml_i0, ↓W_dreg, ↓sk, sk, ↓smc, sm, b3, b3b, c102, h0, c103, b1, tn]
    refine ⟨by simp [pairsOk, nth_eq, keysApart, Key.apart]; omega, ?_⟩
    have b3c : (((m.set m.next (some (.row 1 [vEdges l]))).bump 8).set (m.next + 1 + 4) (some (.row 1 (List.replicate N .nil)))).blk m.next = some (.row 1 [vEdges l]) := by rw [set_ne (by omega)]; exact b3
    simp only [↓sxc, sx, se, ↓reduceIte, Nat.reduceEqDiff, Nat.reduceAdd, Nat.reduceLT, Nat.reduceLeDiff, Nat.reduceSub, Nat.reduceMul, Int.reduceToNat, Int.reduceLT, Int.reduceLE, Int.reduceEq, ml_i0, ↓smc, sm, b3c]
    refine w40_1 l gr (by omega) N hN m.next (m.next + 1 + 4) (by omega) _ _ l 0 (List.replicate N .nil) _ _ rfl ?_ ?_ (NestB.start ?_ ?_ ?_) (fun es m1 e p1 p2 p3 => ?_)
    · show m.next ≤ m.next + 8; omega
    · show m.next < m.next + 8; omega
    · omega
    · show m.next + 1 + 4 < m.next + 8; omega
    · simp [Mem.set]
    have b31 : m1.blk m.next = some (.row 1 [vEdges l]) := by
      rw [p3, set_ne (by omega)]
      exact b3
    have p1' : m.next + 8 ≤ m1.next := p1
    simp only [↓sxc, sx, se, ↓reduceIte, Nat.reduceEqDiff, Nat.reduceAdd, Nat.reduceLT, Nat.reduceLeDiff, Nat.reduceSub, Nat.reduceMul, Int.reduceToNat, Int.reduceLT, Int.reduceLE, Int.reduceEq, ml_i0, ↓smc, sm, b31]
    refine w40_3 hA hG gr hN hl m1 rfl (by omega) (by omega) b31 p2 (by omega) l 0 (-1, -1) .nil m1 _ rfl (.inl ⟨rfl, rfl⟩) (Nat.le_refl _) (fun _ _ => rfl) ⟨.nil, fun k hk => (by cases hk), Nat.le_refl _⟩ (fun _ => rfl) (fun v m2 e q1 q2 => ?_)
    have ec : cycE n l = (cycB l (bestE l), 0) := by
      unfold cycE cycB
      rw [if_neg (by simpa using h0)]
      split <;> rfl
    have eb : bestS l l 0 (-1, -1) = bestE l := rfl
    rw [eb] at q2
    rw [ec]
    have fz := fz_rw (lo := m.next) (n := 5) q2.rw
    simp only [↓sxc, sx, se, ↓reduceIte, Nat.reduceEqDiff, Nat.reduceAdd, Nat.reduceLT, Nat.reduceLeDiff, Nat.reduceSub, Nat.reduceMul, Int.reduceToNat, Int.reduceLT, Int.reduceLE, Int.reduceEq, ml_i0, ↓smc, sm]
    simp only [mapO, fz, fz_int]
    rfl
  · have ec : cycE n l = ([], chkG n l) := by unfold cycE; rw [if_pos h0]
    rw [ec]
    simp only [↓sxc, sx, se, ↓reduceIte, Nat.reduceEqDiff, Nat.reduceAdd, Nat.reduceLT, Nat.reduceLeDiff, Nat.reduceSub, Nat.reduceMul, Int.reduceToNat, Int.reduceLT, Int.reduceLE, Int.reduceEq, ml_i0, ↓smc, sm, b3, c102, h0]
    rfl
end Go.Am
