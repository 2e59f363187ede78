/- The reference's edges; equality of lists. -/
import Derived.Test.YtflfnkdhmcfjlaaSpO
namespace Go.Am
open Go
set_option linter.unusedSimpArgs false
set_option linter.unusedVariables false
set_option maxRecDepth 100000

theorem eq_edge {x y : Edge} : (if x.fr = y.fr then if x.to = y.to then if x.cls = y.cls then if x.step = y.step then some true else some false else some false else some false else some false) = some (decide (x = y)) := by
  obtain ⟨a1, a2, a3, a4⟩ := x
  obtain ⟨b1, b2, b3, b4⟩ := y
  simp only [Edge.mk.injEq]
  by_cases h1 : a1 = b1 <;> by_cases h2 : a2 = b2 <;> by_cases h3 : a3 = b3 <;> by_cases h4 : a4 = b4 <;> simp [h1, h2, h3, h4]

theorem sp37 {F : Nat → Option Fn} (hB : HasB F) {lo : Nat} {m : Mem} (a b : List Edge) (ha : a.length < 1000000) : callw F 37 [vEdges a, vEdges b] lo m = some (.bool (decide (a = b)), m) := by
  have loop : a.length = b.length → ∀ (t u : List Edge) (i : Nat) (n : Nat) (Q : Ex → St → Prop), a.drop i = t → b.drop i = u →
      (t ≠ u → ∀ n, Q .ret ⟨[(4, .bool false)], [], [], m.bump n⟩) → (t = u → ∀ n e, Q (.exit 0) ⟨e, [], [], m.bump n⟩) →
      W F m.next L37_1 ⟨[(0, vEdges a), (1, vEdges b), (5, vi i)], [], [], m.bump n⟩ Q := by
    intro hl t
    induction t with
    | nil =>
      intro u i n Q hd hd2 q1 q2
      have hlt := drop_nil hd
      rw [W_L (c := L37_1) rfl]
      have : ¬ ((i : Nat) : Int) < (a.length : Int) := by omega
      simp only [↓sxc, sx, se, ↓reduceIte, Nat.reduceEqDiff, Nat.reduceAdd, Nat.reduceLT, Nat.reduceLeDiff, Nat.reduceSub, Nat.reduceMul, Int.reduceToNat, Int.reduceLT, Int.reduceLE, Int.reduceEq, ml_i0, ↓smc, sm, this]
      refine q2 ?_ n _
      rw [← hd2, List.drop_eq_nil_of_le (by omega)]
    | cons x t ih =>
      intro u i n Q hd hd2 q1 q2
      obtain ⟨hg, hd', hlt⟩ := drop_cons hd
      cases u with
      | nil => have := drop_nil hd2; omega
      | cons y u =>
        obtain ⟨hg2, hd2', hlt2⟩ := drop_cons hd2
        rw [W_L (c := L37_1) rfl]
        have : ((i : Nat) : Int) < (a.length : Int) := by omega
        have wr : wrapF .i64 ((i : Int) + 1) = ((i + 1 : Nat) : Int) := by rw [wr_i64 (by omega) (by omega)]; rfl
        by_cases hxy : x = y
        · subst hxy
          simp only [↓sxc, sx, se, ↓reduceIte, Nat.reduceEqDiff, Nat.reduceAdd, Nat.reduceLT, Nat.reduceLeDiff, Nat.reduceSub, Nat.reduceMul, Int.reduceToNat, Int.reduceLT, Int.reduceLE, Int.reduceEq, ml_i0, ↓smc, sm, this, hg, hg2, wr, eq_edge, decide_true, Bool.not_true]
          refine ih u (i + 1) _ Q hd' hd2' (fun h => q1 (fun h' => h (by cases h'; rfl))) (fun h => q2 (by rw [h]))
        · simp only [↓sxc, sx, se, ↓reduceIte, Nat.reduceEqDiff, Nat.reduceAdd, Nat.reduceLT, Nat.reduceLeDiff, Nat.reduceSub, Nat.reduceMul, Int.reduceToNat, Int.reduceLT, Int.reduceLE, Int.reduceEq, ml_i0, ↓smc, sm, this, hg, hg2, wr, eq_edge, hxy, decide_false, Bool.not_false]
          exact q1 (fun h' => hxy (by cases h'; rfl)) _
  refine call_p hB.h37 rfl ?_
  by_cases hl : (a.length : Int) = (b.length : Int)
  · simp only [↓sxc, sx, se, ↓reduceIte, Nat.reduceEqDiff, Nat.reduceAdd, Nat.reduceLT, Nat.reduceLeDiff, Nat.reduceSub, Nat.reduceMul, Int.reduceToNat, Int.reduceLT, Int.reduceLE, Int.reduceEq, ml_i0, ↓smc, sm, hl]
    refine loop (by omega) a b 0 0 _ rfl rfl (fun h n => ?_) (fun h n e => ?_)
    · have : decide (a = b) = false := by simp [h]
      simp only [↓sxc, sx, se, ↓reduceIte, Nat.reduceEqDiff, Nat.reduceAdd, Nat.reduceLT, Nat.reduceLeDiff, Nat.reduceSub, Nat.reduceMul, Int.reduceToNat, Int.reduceLT, Int.reduceLE, Int.reduceEq, ml_i0, ↓smc, sm, this]
    · have : decide (a = b) = true := by simp [h]
      simp only [↓sxc, sx, se, ↓reduceIte, Nat.reduceEqDiff, Nat.reduceAdd, Nat.reduceLT, Nat.reduceLeDiff, Nat.reduceSub, Nat.reduceMul, Int.reduceToNat, Int.reduceLT, Int.reduceLE, Int.reduceEq, ml_i0, ↓smc, sm, this]
  · have : decide (a = b) = false := by
      have : a ≠ b := fun h => hl (by rw [h])
      simp [this]
    simp only [↓sxc, sx, se, ↓reduceIte, Nat.reduceEqDiff, Nat.reduceAdd, Nat.reduceLT, Nat.reduceLeDiff, Nat.reduceSub, Nat.reduceMul, Int.reduceToNat, Int.reduceLT, Int.reduceLE, Int.reduceEq, ml_i0, ↓smc, sm, hl, this]
theorem sp45 {F : Nat → Option Fn} (hB : HasB F) {lo : Nat} {m : Mem} (a b : List Int) (ha : a.length < 1000000) : callw F 45 [ints a, ints b] lo m = some (.bool (decide (a = b)), m) := by
  have loop : a.length = b.length → ∀ (t u : List Int) (i : Nat) (n : Nat) (Q : Ex → St → Prop), a.drop i = t → b.drop i = u →
      (t ≠ u → ∀ n, Q .ret ⟨[(4, .bool false)], [], [], m.bump n⟩) → (t = u → ∀ n e, Q (.exit 0) ⟨e, [], [], m.bump n⟩) →
      W F m.next L45_1 ⟨[(0, ints a), (1, ints b), (5, vi i)], [], [], m.bump n⟩ Q := by
    intro hl t
    induction t with
    | nil =>
      intro u i n Q hd hd2 q1 q2
      have hlt := drop_nil hd
      rw [W_L (c := L45_1) rfl]
      have : ¬ ((i : Nat) : Int) < (a.length : Int) := by omega
      simp only [↓sxc, sx, se, ↓reduceIte, Nat.reduceEqDiff, Nat.reduceAdd, Nat.reduceLT, Nat.reduceLeDiff, Nat.reduceSub, Nat.reduceMul, Int.reduceToNat, Int.reduceLT, Int.reduceLE, Int.reduceEq, ml_i0, ↓smc, sm, this]
      refine q2 ?_ n _
      rw [← hd2, List.drop_eq_nil_of_le (by omega)]
    | cons x t ih =>
      intro u i n Q hd hd2 q1 q2
      obtain ⟨hg, hd', hlt⟩ := drop_cons hd
      cases u with
      | nil => have := drop_nil hd2; omega
      | cons y u =>
        obtain ⟨hg2, hd2', hlt2⟩ := drop_cons hd2
        rw [W_L (c := L45_1) rfl]
        have : ((i : Nat) : Int) < (a.length : Int) := by omega
        have wr : wrapF .i64 ((i : Int) + 1) = ((i + 1 : Nat) : Int) := by rw [wr_i64 (by omega) (by omega)]; rfl
        by_cases hxy : x = y
        · subst hxy
          simp only [↓sxc, sx, se, ↓reduceIte, Nat.reduceEqDiff, Nat.reduceAdd, Nat.reduceLT, Nat.reduceLeDiff, Nat.reduceSub, Nat.reduceMul, Int.reduceToNat, Int.reduceLT, Int.reduceLE, Int.reduceEq, ml_i0, ↓smc, sm, this, hg, hg2, wr, ne_eq, decide_true, Bool.not_true]
          refine ih u (i + 1) _ Q hd' hd2' (fun h => q1 (fun h' => h (by cases h'; rfl))) (fun h => q2 (by rw [h]))
        · simp only [↓sxc, sx, se, ↓reduceIte, Nat.reduceEqDiff, Nat.reduceAdd, Nat.reduceLT, Nat.reduceLeDiff, Nat.reduceSub, Nat.reduceMul, Int.reduceToNat, Int.reduceLT, Int.reduceLE, Int.reduceEq, ml_i0, ↓smc, sm, this, hg, hg2, wr, ne_eq, hxy, decide_false, Bool.not_false]
          exact q1 (fun h' => hxy (by cases h'; rfl)) _
  refine call_p hB.h45 rfl ?_
  by_cases hl : (a.length : Int) = (b.length : Int)
  · simp only [↓sxc, sx, se, ↓reduceIte, Nat.reduceEqDiff, Nat.reduceAdd, Nat.reduceLT, Nat.reduceLeDiff, Nat.reduceSub, Nat.reduceMul, Int.reduceToNat, Int.reduceLT, Int.reduceLE, Int.reduceEq, ml_i0, ↓smc, sm, hl]
    refine loop (by omega) a b 0 0 _ rfl rfl (fun h n => ?_) (fun h n e => ?_)
    · have : decide (a = b) = false := by simp [h]
      simp only [↓sxc, sx, se, ↓reduceIte, Nat.reduceEqDiff, Nat.reduceAdd, Nat.reduceLT, Nat.reduceLeDiff, Nat.reduceSub, Nat.reduceMul, Int.reduceToNat, Int.reduceLT, Int.reduceLE, Int.reduceEq, ml_i0, ↓smc, sm, this]
    · have : decide (a = b) = true := by simp [h]
      simp only [↓sxc, sx, se, ↓reduceIte, Nat.reduceEqDiff, Nat.reduceAdd, Nat.reduceLT, Nat.reduceLeDiff, Nat.reduceSub, Nat.reduceMul, Int.reduceToNat, Int.reduceLT, Int.reduceLE, Int.reduceEq, ml_i0, ↓smc, sm, this]
  · have : decide (a = b) = false := by
      have : a ≠ b := fun h => hl (by rw [h])
      simp [this]
    simp only [↓sxc, sx, se, ↓reduceIte, Nat.reduceEqDiff, Nat.reduceAdd, Nat.reduceLT, Nat.reduceLeDiff, Nat.reduceSub, Nat.reduceMul, Int.reduceToNat, Int.reduceLT, Int.reduceLE, Int.reduceEq, ml_i0, ↓smc, sm, hl, this]

structure AddOut (lo : Nat) (m : Mem) (l : List Edge) (x : Edge) (v : V) (m' : Mem) : Prop where
  nx : m.next ≤ m'.next
  rw : Rw lo m' 4 v ((addE l x).map vEdge)

theorem Rw.sl {lo sz : Nat} {m : Mem} {v : V} {xs : List V} (h : Rw lo m sz v xs) : v = .nil ∧ xs = [] ∨ Sl m sz v xs := by
  rcases h with h | ⟨h, rfl, _, _, h3⟩
  · exact .inl h
  · exact .inr (Sl.row h3)

theorem sp101 {F : Nat → Option Fn} (hB : HasB F) {lo : Nat} {m : Mem} (l : List Edge) (v : V) (f t c k : Int) (hr : Rw lo m 4 v (l.map vEdge)) (hlo : lo ≤ m.next) (hl : l.length < 100000) : ∃ v' m', callw F 101 [v, .agg [vi f, vi t, vi c, vi k]] lo m = some (v', m') ∧ AddOut lo m l ⟨f, t, c, k⟩ v' m' := by
  refine call_x hB.h101 rfl ?_
  have loop : ∀ (u : List Edge) (i : Nat) (n : Nat) (Q : Ex → St → Prop), l.drop i = u →
      ((f, t) ∈ u.map ends → ∀ n, Q .ret ⟨[(4, v)], [], [], m.bump n⟩) → ((f, t) ∉ u.map ends → ∀ n e, Q (.exit 0) ⟨(0, v) :: e, [(3, .agg [vi f, vi t, vi c, vi k])], [], m.bump n⟩) →
      W F lo L101_1 ⟨[(0, v), (5, vi i)], [(3, .agg [vi f, vi t, vi c, vi k])], [], m.bump n⟩ Q := by
    have hlen : retV (.len false) [v] = some (vi l.length) := by rw [hr.len, List.length_map]
    intro u
    induction u with
    | nil =>
      intro i n Q hd q1 q2
      have hlt := drop_nil hd
      rw [W_L (c := L101_1) rfl]
      have : ¬ ((i : Nat) : Int) < (l.length : Int) := by omega
      simp only [↓sxc, sx, se, ↓reduceIte, Nat.reduceEqDiff, Nat.reduceAdd, Nat.reduceLT, Nat.reduceLeDiff, Nat.reduceSub, Nat.reduceMul, Int.reduceToNat, Int.reduceLT, Int.reduceLE, Int.reduceEq, ml_i0, ↓smc, sm, this, hlen]
      exact q2 (by simp) n _
    | cons x u ih =>
      intro i n Q hd q1 q2
      obtain ⟨hg, hd', hlt⟩ := drop_cons hd
      rw [W_L (c := L101_1) rfl]
      have : ((i : Nat) : Int) < (l.length : Int) := by omega
      have wr : wrapF .i64 ((i : Int) + 1) = ((i + 1 : Nat) : Int) := by rw [wr_i64 (by omega) (by omega)]; rfl
      rcases hr with ⟨_, h2⟩ | ⟨h, rfl, q1', q2', q3'⟩
      · cases l with
        | nil => simp at hlt
        | cons _ _ => simp at h2
      · simp only [List.length_map] at q1 q2 ih hlen ⊢
        by_cases e1 : x.fr = f
        · by_cases e2 : x.to = t
          · simp only [↓sxc, sx, se, ↓reduceIte, Nat.reduceEqDiff, Nat.reduceAdd, Nat.reduceLT, Nat.reduceLeDiff, Nat.reduceSub, Nat.reduceMul, Int.reduceToNat, Int.reduceLT, Int.reduceLE, Int.reduceEq, ml_i0, ↓smc, sm, this, hlen, q3', hg, wr, e1, e2]
            exact q1 (by simp [ends, e1, e2]) _
          · simp only [↓sxc, sx, se, ↓reduceIte, Nat.reduceEqDiff, Nat.reduceAdd, Nat.reduceLT, Nat.reduceLeDiff, Nat.reduceSub, Nat.reduceMul, Int.reduceToNat, Int.reduceLT, Int.reduceLE, Int.reduceEq, ml_i0, ↓smc, sm, this, hlen, q3', hg, wr, e1, e2]
            refine ih (i + 1) _ Q hd' (fun h => q1 (by simp at h ⊢; exact .inr h)) (fun h => q2 (by simp [ends] at h ⊢; exact ⟨fun _ h' => e2 h'.symm, h⟩))
        · simp only [↓sxc, sx, se, ↓reduceIte, Nat.reduceEqDiff, Nat.reduceAdd, Nat.reduceLT, Nat.reduceLeDiff, Nat.reduceSub, Nat.reduceMul, Int.reduceToNat, Int.reduceLT, Int.reduceLE, Int.reduceEq, ml_i0, ↓smc, sm, this, hlen, q3', hg, wr, e1]
          refine ih (i + 1) _ Q hd' (fun h => q1 (by simp at h ⊢; exact .inr h)) (fun h => q2 (by simp [ends] at h ⊢; exact ⟨fun h' => absurd h'.symm e1, h⟩))
  simp only [↓sxc, sx, se, ↓reduceIte, Nat.reduceEqDiff, Nat.reduceAdd, Nat.reduceLT, Nat.reduceLeDiff, Nat.reduceSub, Nat.reduceMul, Int.reduceToNat, Int.reduceLT, Int.reduceLE, Int.reduceEq, ml_i0, ↓smc, sm]
  refine loop l 0 0 _ rfl (fun h n => ?_) (fun h n e => ?_)
  · simp only [↓sxc, sx, se, ↓reduceIte, Nat.reduceEqDiff, Nat.reduceAdd, Nat.reduceLT, Nat.reduceLeDiff, Nat.reduceSub, Nat.reduceMul, Int.reduceToNat, Int.reduceLT, Int.reduceLE, Int.reduceEq, ml_i0, ↓smc, sm, PX_ret, PX_nrm]
    have e : addE l ⟨f, t, c, k⟩ = l := by unfold addE; exact if_pos h
    exact ⟨Nat.le_add_right _ _, by rw [e]; exact hr.mono (Nat.le_add_right _ _) (fun _ _ _ => rfl)⟩
  · have hr' : Rw lo (m.bump n) 4 v (l.map vEdge) := hr.mono (Nat.le_add_right _ _) (fun _ _ _ => rfl)
    obtain ⟨v', m'', hap, h2, hn, _⟩ := hr'.app (y := .lst false 4 [.agg [vi f, vi t, vi c, vi k]]) (Nat.le_trans hlo (Nat.le_add_right _ _)) vw_lst (.inl rfl) (by simp [big]; omega)
    have hap' : apV lo (m.next + n) (m.bump n) 4 v (.lst false 4 [.agg [vi f, vi t, vi c, vi k]]) = some (v', m'') := hap
    have e : addE l ⟨f, t, c, k⟩ = l ++ [⟨f, t, c, k⟩] := by unfold addE; exact if_neg h
    simp only [↓sxc, sx, se, ↓reduceIte, Nat.reduceEqDiff, Nat.reduceAdd, Nat.reduceLT, Nat.reduceLeDiff, Nat.reduceSub, Nat.reduceMul, Int.reduceToNat, Int.reduceLT, Int.reduceLE, Int.reduceEq, ml_i0, ↓smc, sm, hap', PX_ret, PX_nrm]
    refine ⟨?_, by rw [e, List.map_append]; exact h2⟩
    show m.next ≤ m''.next + 1
    have : (m.bump n).next = m.next + n := rfl
    omega

theorem sp36 {F : Nat → Option Fn} (hA : HasA F) (hB : HasB F) {lo : Nat} {m : Mem} (s : Sys) : callw F 36 [vSys s] lo m = some (.tup [vEdges (edgesE s), vi (chkE s)], m) := by
  have c0 : ∀ {lo m}, callw F 91 [vSys s] lo m = some (vi (chkE s), m) := fun {lo m} => sp91 hA s
  refine call_p hB.h36 rfl ?_
  by_cases h0 : chkE s = 0
  · have hv := valid_of h0
    have p6 := hv.p6
    have l4 := hv.l4
    have c6 := hv.c6
    have loop1 : ∀ (i k : Nat) (to : Int) (hs : List Int), hs.length < 100 → ∀ (t : List Int) (j : Nat) (v : V) (l : List Edge) (m' : Mem) (Q : Ex → St → Prop), hs.drop j = t → m.next ≤ m'.next → Rw m.next m' 4 v (l.map vEdge) → l.length + t.length < 10000 →
        (∀ v m' e, m.next ≤ m'.next → Rw m.next m' 4 v (((t.map fun f => (⟨f, to, i, k⟩ : Edge)).foldl addE l).map vEdge) → Q (.exit 4) ⟨(5, v) :: (6, vi i) :: (7, vi k) :: e, [(1, vSys s)], [], m'⟩) →
        W F m.next L36_1 ⟨[(5, v), (6, vi i), (7, vi k), (8, ints hs), (9, vi to), (10, vi j)], [(1, vSys s)], [], m'⟩ Q := by
      intro i k to hs hsl t
      induction t with
      | nil =>
        intro j v l m' Q hd hm hE hl hq
        have hlt := drop_nil hd
        rw [W_L (c := L36_1) rfl]
        have : ¬ ((j : Nat) : Int) < (hs.length : Int) := by omega
        simp only [↓sxc, sx, se, ↓reduceIte, Nat.reduceEqDiff, Nat.reduceAdd, Nat.reduceLT, Nat.reduceLeDiff, Nat.reduceSub, Nat.reduceMul, Int.reduceToNat, Int.reduceLT, Int.reduceLE, Int.reduceEq, ml_i0, ↓smc, sm, this]
        exact hq v m' _ hm hE
      | cons f t ih =>
        intro j v l m' Q hd hm hE hl hq
        obtain ⟨hg, hd', hlt⟩ := drop_cons hd
        rw [W_L (c := L36_1) rfl]
        have : ((j : Nat) : Int) < (hs.length : Int) := by omega
        have wr : wrapF .i64 ((j : Int) + 1) = ((j + 1 : Nat) : Int) := by rw [wr_i64 (by omega) (by omega)]; rfl
        obtain ⟨v', m2, hc, ho⟩ := sp101 hB l v f to i k hE hm (by simp at hl; omega)
        simp only [↓sxc, sx, se, ↓reduceIte, Nat.reduceEqDiff, Nat.reduceAdd, Nat.reduceLT, Nat.reduceLeDiff, Nat.reduceSub, Nat.reduceMul, Int.reduceToNat, Int.reduceLT, Int.reduceLE, Int.reduceEq, ml_i0, ↓smc, sm, this, hg, hc, wr]
        exact ih (j + 1) v' (addE l ⟨f, to, i, k⟩) m2 Q hd' (Nat.le_trans hm ho.nx) ho.rw (by have := addE_len (l := l) (x := ⟨f, to, i, k⟩); simp at hl; omega) hq
    have loop2 : ∀ (i : Nat) (c : Cls) (hc : s.cls[i]? = some c) (t : List Stp) (k : Nat) (v : V) (l : List Edge) (m' : Mem) (Q : Ex → St → Prop), c.steps.drop k = t → m.next ≤ m'.next → Rw m.next m' 4 v (l.map vEdge) → l.length + 12 * t.length < 5000 →
        (∀ v m' e, m.next ≤ m'.next → Rw m.next m' 4 v (((clE s i c t k).foldl addE l).map vEdge) → Q (.exit 2) ⟨(5, v) :: (6, vi i) :: e, [(1, vSys s)], [], m'⟩) →
        W F m.next L36_2 ⟨[(5, v), (6, vi i), (7, vi k)], [(1, vSys s)], [], m'⟩ Q := by
      intro i c hc t
      have hcm := List.mem_of_getElem? hc
      have hl12 := (hv.okC c hcm).l12
      have i0 : ((i : Nat) : Int).toNat = i := rfl
      have p0 : (0 : Int) ≤ (i : Int) := by omega
      induction t with
      | nil =>
        intro k v l m' Q hd hm hE hl hq
        have hlt := drop_nil hd
        rw [W_L (c := L36_2) rfl]
        have : ¬ ((k : Nat) : Int) < (c.steps.length : Int) := by omega
        simp only [↓sxc, sx, se, ↓reduceIte, Nat.reduceEqDiff, Nat.reduceAdd, Nat.reduceLT, Nat.reduceLeDiff, Nat.reduceSub, Nat.reduceMul, Int.reduceToNat, Int.reduceLT, Int.reduceLE, Int.reduceEq, ml_i0, ↓smc, sm, hc, i0, p0, this]
        exact hq v m' _ hm hE
      | cons x t ih =>
        intro k v l m' Q hd hm hE hl hq
        obtain ⟨hg, hd', hlt⟩ := drop_cons hd
        rw [W_L (c := L36_2) rfl]
        have : ((k : Nat) : Int) < (c.steps.length : Int) := by omega
        have wr : wrapF .i64 ((k : Int) + 1) = ((k + 1 : Nat) : Int) := by rw [wr_i64 (by omega) (by omega)]; rfl
        have hp := hv.pre hcm (List.mem_of_getElem? hg)
        have hmw : mayWait s i k = waitsE s x := by
          have a1 : ¬ ((i : Int) < 0) := by omega
          have a2 : ¬ ((k : Int) < 0) := by omega
          have e1 : s.cls[((i : Nat) : Int).toNat]? = some c := hc
          have e2 : c.steps[((k : Nat) : Int).toNat]? = some x := hg
          simp [mayWait, h0, a1, a2, stepAt, hc, hg]
        have c1 : ∀ {lo m}, callw F 34 [vSys s, vi i, vi k] lo m = some (.bool (waitsE s x), m) := fun {lo m} => by rw [← hmw]; exact sp34 hA hB s i k
        have k0 : ((k : Nat) : Int).toNat = k := rfl
        have p1 : (0 : Int) ≤ (k : Int) := by omega
        cases hw : waitsE s x with
        | false =>
          rw [hw] at c1
          simp only [↓sxc, sx, se, ↓reduceIte, Nat.reduceEqDiff, Nat.reduceAdd, Nat.reduceLT, Nat.reduceLeDiff, Nat.reduceSub, Nat.reduceMul, Int.reduceToNat, Int.reduceLT, Int.reduceLE, Int.reduceEq, ml_i0, ↓smc, sm, hc, i0, p0, this, c1, wr]
          refine ih (k + 1) v l m' Q hd' hm hE (by simp at hl; omega) (fun v m' e h1 h2 => hq v m' e h1 ?_)
          have : clE s i c (x :: t) k = clE s i c t (k + 1) := by simp [clE, stE, hw]
          rw [this]
          exact h2
        | true =>
          rw [hw] at c1
          have c2 : ∀ {lo m}, callw F 100 [vSys s, vStp x] lo m = some (vi (target s x), m) := fun {lo m} => sp100 hB s x hv hp
          have c3 : ∀ {lo m}, callw F 99 [vSys s, vi i, vi k] lo m = some (ints (hold s i c (c.steps.take k)), m) := fun {lo m} => sp99 hA hB s h0 i k c hc (by omega)
          have hhl := hold_len (s := s) (i := i) (c := c) (l := c.steps.take k)
          simp only [↓sxc, sx, se, ↓reduceIte, Nat.reduceEqDiff, Nat.reduceAdd, Nat.reduceLT, Nat.reduceLeDiff, Nat.reduceSub, Nat.reduceMul, Int.reduceToNat, Int.reduceLT, Int.reduceLE, Int.reduceEq, ml_i0, ↓smc, sm, hc, i0, p0, this, c1, c2, c3, hg, k0, p1]
          refine loop1 i k (target s x) (hold s i c (c.steps.take k)) (by omega) _ 0 v l _ _ rfl ?_ (hE.mono (Nat.le_add_right _ _) (fun _ _ _ => rfl)) (by simp at hl; simp only [List.length_drop]; omega) (fun v m' e h1 h2 => ?_)
          · exact Nat.le_trans hm (Nat.le_add_right _ _)
          have e1 : ((hold s i c (c.steps.take k)).map fun f => (⟨f, target s x, i, k⟩ : Edge)) = stE s i c k x := by unfold stE; rw [if_pos hw]
          rw [List.drop_zero, e1] at h2
          have hsl := stE_len hv (i := i) (c := c) (k := k) (x := x)
          have hfl := foldl_addE_len (xs := stE s i c k x) (l := l)
          simp only [↓sxc, sx, se, ↓reduceIte, Nat.reduceEqDiff, Nat.reduceAdd, Nat.reduceLT, Nat.reduceLeDiff, Nat.reduceSub, Nat.reduceMul, Int.reduceToNat, Int.reduceLT, Int.reduceLE, Int.reduceEq, ml_i0, ↓smc, sm, wr]
          refine ih (k + 1) v _ m' Q hd' h1 h2 (by simp at hl; omega) (fun v m' e h1 h2 => hq v m' e h1 ?_)
          have : clE s i c (x :: t) k = stE s i c k x ++ clE s i c t (k + 1) := rfl
          rw [this, List.foldl_append]
          exact h2
    have loop3 : ∀ (t : List Cls) (i : Nat) (v : V) (l : List Edge) (m' : Mem) (Q : Ex → St → Prop), s.cls.drop i = t → m.next ≤ m'.next → Rw m.next m' 4 v (l.map vEdge) → l.length + 144 * t.length < 4000 →
        (∀ v m' e, m.next ≤ m'.next → Rw m.next m' 4 v (((alE s t i).foldl addE l).map vEdge) → Q (.exit 0) ⟨(5, v) :: e, [(1, vSys s)], [], m'⟩) →
        W F m.next L36_3 ⟨[(5, v), (6, vi i)], [(1, vSys s)], [], m'⟩ Q := by
      intro t
      induction t with
      | nil =>
        intro i v l m' Q hd hm hE hl hq
        have hlt := drop_nil hd
        rw [W_L (c := L36_3) rfl]
        have : ¬ ((i : Nat) : Int) < (s.cls.length : Int) := by omega
        simp only [↓sxc, sx, se, ↓reduceIte, Nat.reduceEqDiff, Nat.reduceAdd, Nat.reduceLT, Nat.reduceLeDiff, Nat.reduceSub, Nat.reduceMul, Int.reduceToNat, Int.reduceLT, Int.reduceLE, Int.reduceEq, ml_i0, ↓smc, sm, this]
        exact hq v m' _ hm hE
      | cons c t ih =>
        intro i v l m' Q hd hm hE hl hq
        obtain ⟨hg, hd', hlt⟩ := drop_cons hd
        rw [W_L (c := L36_3) rfl]
        have : ((i : Nat) : Int) < (s.cls.length : Int) := by omega
        have wr : wrapF .i64 ((i : Int) + 1) = ((i + 1 : Nat) : Int) := by rw [wr_i64 (by omega) (by omega)]; rfl
        have hl12 := (hv.okC c (List.mem_of_getElem? hg)).l12
        simp only [↓sxc, sx, se, ↓reduceIte, Nat.reduceEqDiff, Nat.reduceAdd, Nat.reduceLT, Nat.reduceLeDiff, Nat.reduceSub, Nat.reduceMul, Int.reduceToNat, Int.reduceLT, Int.reduceLE, Int.reduceEq, ml_i0, ↓smc, sm, this]
        refine loop2 i c hg c.steps 0 v l m' _ rfl hm hE (by simp at hl; omega) (fun v m' e h1 h2 => ?_)
        have hcl := clE_len hv (i := i) (c := c) (t := c.steps) (k := 0)
        have hfl := foldl_addE_len (xs := clE s i c c.steps 0) (l := l)
        simp only [↓sxc, sx, se, ↓reduceIte, Nat.reduceEqDiff, Nat.reduceAdd, Nat.reduceLT, Nat.reduceLeDiff, Nat.reduceSub, Nat.reduceMul, Int.reduceToNat, Int.reduceLT, Int.reduceLE, Int.reduceEq, ml_i0, ↓smc, sm, wr]
        refine ih (i + 1) v _ m' Q hd' h1 h2 (by simp at hl; omega) (fun v m' e h1 h2 => hq v m' e h1 ?_)
        have : alE s (c :: t) i = clE s i c c.steps 0 ++ alE s t (i + 1) := rfl
        rw [this, List.foldl_append]
        exact h2
    simp only [↓sxc, sx, se, ↓reduceIte, Nat.reduceEqDiff, Nat.reduceAdd, Nat.reduceLT, Nat.reduceLeDiff, Nat.reduceSub, Nat.reduceMul, Int.reduceToNat, Int.reduceLT, Int.reduceLE, Int.reduceEq, ml_i0, ↓smc, sm, c0, h0]
    refine loop3 s.cls 0 .nil [] m _ rfl (Nat.le_refl _) .nil (by simp; omega) (fun v m' e h1 h2 => ?_)
    have e : edgesE s = (alE s s.cls 0).foldl addE [] := by simp [edgesE, h0]
    simp only [↓sxc, sx, se, ↓reduceIte, Nat.reduceEqDiff, Nat.reduceAdd, Nat.reduceLT, Nat.reduceLeDiff, Nat.reduceSub, Nat.reduceMul, Int.reduceToNat, Int.reduceLT, Int.reduceLE, Int.reduceEq, ml_i0, ↓smc, sm]
    simp only [mapO]
    rw [h2.freeze, mapO_id (fun x hx => by
      obtain ⟨y, _, rfl⟩ := List.mem_map.1 hx
      rfl), e]
    rfl
  · have e : edgesE s = [] := by simp [edgesE, h0]
    simp only [↓sxc, sx, se, ↓reduceIte, Nat.reduceEqDiff, Nat.reduceAdd, Nat.reduceLT, Nat.reduceLeDiff, Nat.reduceSub, Nat.reduceMul, Int.reduceToNat, Int.reduceLT, Int.reduceLE, Int.reduceEq, ml_i0, ↓smc, sm, c0, h0, e]
    rfl

theorem alE_len {s : Sys} (hv : Valid s) : ∀ {t : List Cls} {i : Nat}, (∀ c ∈ t, c ∈ s.cls) → (alE s t i).length ≤ 144 * t.length
  | [], i, _ => by simp [alE]
  | c :: t, i, h => by
    have h1 := alE_len hv (t := t) (i := i + 1) (fun c hc => h c (by simp [hc]))
    have h2 := clE_len hv (i := i) (c := c) (t := c.steps) (k := 0)
    have h3 := (hv.okC c (h c (by simp))).l12
    simp only [alE, List.length_append, List.length_cons]
    omega
theorem edgesE_len {s : Sys} : (edgesE s).length < 1000000 := by
  unfold edgesE
  split
  · simp
  · rename_i h0
    have hv := valid_of (s := s) (by omega)
    have h1 := alE_len hv (t := s.cls) (i := 0) (fun c hc => hc)
    have h2 := foldl_addE_len (xs := alE s s.cls 0) (l := [])
    have := hv.c6
    simp at h2
    omega

end Go.Am
