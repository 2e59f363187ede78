/- Levels: the walk. -/
import Derived.Test.YtflfnkdhmcfjlaaGrC
namespace Go.Am
open Go
set_option linter.unusedSimpArgs false
set_option linter.unusedVariables false
set_option maxRecDepth 100000

theorem Qs.row {lo b : Nat} {m : Mem} {v : V} {xs : List Int} (H : Qs lo m b v xs) (h : xs ≠ []) : ∃ k, v = .row 1 k 0 xs.length ∧ lo ≤ k ∧ b ≤ k ∧ k < m.next ∧ m.blk k = some (.row 1 (xs.map vi)) := by
  rcases H.rw with ⟨_, h2⟩ | ⟨k, h1, h2, h3, h4⟩
  · simp at h2; exact absurd h2 h
  · refine ⟨k, by rw [h1]; simp, h2, ?_, h3, h4⟩
    exact H.nb k (by rw [h1]; rfl)

theorem w41_3 {F : Nat → Option Fn} {lo : Nat} {n : Int} (N : Nat) (hN : N ≤ 4096) (l : List Edge) (hl : l.length < 100000) (h7 h8 h11 b k83 : Nat) (hb7 : h7 < b) (hb11 : h11 < b) (hbk : k83 < b) (hk7 : k83 ≠ h7) (hk11 : k83 ≠ h11) (h711 : h7 ≠ h11) (L : List Int) (hL : L.length < 100000) (d u : Nat) (hd4 : d < N) :
    ∀ (t : List Int) (i : Nat) (lf lv qs : List Int) (v : V) (m : Mem) (Q : Ex → St → Prop), L.drop i = t → lo ≤ m.next → IR lo m h7 lf → IR lo m h11 lv → Qs lo m b v qs → m.blk k83 = some (.row 1 (L.map vi)) → KJ N l lf lv qs d u t →
    (∀ lf lv qs v m' e, m.next ≤ m'.next → IR lo m' h7 lf → IR lo m' h11 lv → Qs lo m' b v qs → KJ N l lf lv qs d u [] → (∀ k, k < b → k ≠ h7 → k ≠ h11 → m'.blk k = m.blk k) →
      Q (.exit 6) ⟨(0, vi n) :: (7, .row 1 h7 0 N) :: (8, .row 1 h8 0 N) :: (11, .row 1 h11 0 N) :: (12, v) :: (15, vi d) :: e, [], [], m'⟩) →
    W F lo L41_3 ⟨[(0, vi n), (7, .row 1 h7 0 N), (8, .row 1 h8 0 N), (11, .row 1 h11 0 N), (12, v), (15, vi d), (83, .row 1 k83 0 L.length), (84, vi L.length), (85, vi i)], [], [], m⟩ Q := by
  intro t
  induction t with
  | nil =>
    intro i lf lv qs v m Q hd hm r7 r11 hq hk hJ hQ
    have hlt := drop_nil hd
    rw [W_L (c := L41_3) rfl]
    have : ¬ ((i : Nat) : Int) < (L.length : Int) := by omega
    simp only [↓sxc, sx, se, ↓reduceIte, Nat.reduceEqDiff, Nat.reduceAdd, Nat.reduceLT, Nat.reduceLeDiff, Nat.reduceSub, Nat.reduceMul, Int.reduceToNat, Int.reduceLT, Int.reduceLE, Int.reduceEq, ml_i0, ↓smc, sm, this]
    exact hQ lf lv qs v m _ (Nat.le_refl _) r7 r11 hq hJ (fun _ _ _ _ => rfl)
  | cons x t ih =>
    intro i lf lv qs v m Q hd hm r7 r11 hq hk hJ hQ
    obtain ⟨hg, hd', hlt⟩ := drop_cons hd
    obtain ⟨w, rfl, hwN, _⟩ := hJ.tr x (by simp)
    obtain ⟨_, g1, g2, hJ'⟩ := hJ.step
    rw [W_L (c := L41_3) rfl]
    have : ((i : Nat) : Int) < (L.length : Int) := by omega
    have wr : wrapF .i64 ((i : Int) + 1) = ((i + 1 : Nat) : Int) := by rw [wr_i64 (by omega) (by omega)]; rfl
    have hdq := (List.getElem?_eq_some_iff.1 hJ.uq).1
    have hne : qs ≠ [] := by intro h; rw [h] at hdq; simp at hdq
    obtain ⟨kq, rfl, q1, q2, q3, q4⟩ := hq.row hne
    have uN := hJ.uN
    have c1 : ((w : Nat) : Int) < N := by omega
    have c2 : ((d : Nat) : Int) < (qs.length : Int) := by omega
    have c3 : ((u : Nat) : Int) < N := by omega
    have c4 : (0 : Int) ≤ w := by omega
    have c5 : (0 : Int) ≤ d := by omega
    have c6 : (0 : Int) ≤ u := by omega
    have d1 : ((w : Nat) : Int).toNat = w := rfl
    have d2 : ((d : Nat) : Int).toNat = d := rfl
    have d3 : ((u : Nat) : Int).toNat = u := rfl
    have e1 := gAt_get (xs := lv) (v := w) (by rw [hJ.lvl]; exact hwN)
    have e2 := gAt_get (xs := lv) (v := u) (by rw [hJ.lvl]; exact uN)
    have e3 := gAt_get (xs := lf) (v := w) (by rw [hJ.lfl]; exact hwN)
    have b1 := hJ.bd w hwN
    have b2 := hJ.bu
    have b3 := (hJ.bd u uN).1
    have b4 := hJ'.left w hwN
    have uq := hJ.uq
    have fl : gAt lf w ≤ 100000 + L.length := by
      have h1 := hJ.left w hwN
      have h2 := List.countP_le_length (p := fun e : Edge => decide (e.fr = (w : Int)) && !decide (e.to ∈ qs.take d ++ [(u : Int)])) (l := l)
      have h3 := List.count_le_length (a := (w : Int)) (l := (w : Int) :: t)
      have h4 : ((w : Int) :: t).length ≤ L.length := by rw [← hd]; simp
      unfold rest at h1
      omega
    have w1 : wrapF .i64 (gAt lv u + 1) = gAt lv u + 1 := wr_i64 (by omega) (by omega)
    have w2 : wrapF .i64 (gAt lf w - 1) = gAt lf w - 1 := wr_i64 (by omega) (by omega)
    have B7 := r7.b
    have B11 := r11.b
    have L7 := r7.lh
    have L11 := r11.lh
    let m1 : Mem := (m.bump 17).set h11 (some (.row 1 ((lv.set w (max (gAt lv w) (gAt lv u + 1))).map vi)))
    have em1 : (m.bump 17).set h11 (some (.row 1 ((lv.map vi).set w (vi (max (gAt lv w) (gAt lv u + 1)))))) = m1 := by
      show _ = (m.bump 17).set h11 (some (.row 1 ((lv.set w (max (gAt lv w) (gAt lv u + 1))).map vi)))
      rw [List.map_set]
    have bn : (m.bump 17).next = m.next + 17 := rfl
    have r11b : IR lo (m.bump 17) h11 lv := r11.mono (by omega) rfl
    have r11' : IR lo m1 h11 (lv.set w (max (gAt lv w) (gAt lv u + 1))) := r11b.set _
    have r7' : IR lo m1 h7 lf := r7.mono (Nat.le_add_right _ _) (set_ne h711)
    have hq' : Qs lo m1 b (.row 1 kq 0 qs.length) qs := hq.mono (Nat.le_add_right _ _) (fun k hk _ => set_ne (by omega))
    have hk' : m1.blk k83 = some (.row 1 (L.map vi)) := by rw [← hk]; exact set_ne hk11
    have fr1 : ∀ k, k < b → k ≠ h7 → k ≠ h11 → m1.blk k = m.blk k := fun k _ _ h => set_ne h
    have n1 : m1.next = m.next + 17 := rfl
    clear_value m1
    let m2 : Mem := m1.set h7 (some (.row 1 ((lf.set w (gAt lf w - 1)).map vi)))
    have em2 : m1.set h7 (some (.row 1 ((lf.map vi).set w (vi (gAt lf w - 1))))) = m2 := by
      show _ = m1.set h7 (some (.row 1 ((lf.set w (gAt lf w - 1)).map vi)))
      rw [List.map_set]
    have r7'' : IR lo m2 h7 (lf.set w (gAt lf w - 1)) := r7'.set _
    have r11'' : IR lo m2 h11 (lv.set w (max (gAt lv w) (gAt lv u + 1))) := r11'.mono (Nat.le_refl _) (set_ne (Ne.symm h711))
    have hq'' : Qs lo m2 b (.row 1 kq 0 qs.length) qs := hq'.mono (Nat.le_refl _) (fun k hk _ => set_ne (by omega))
    have hk'' : m2.blk k83 = some (.row 1 (L.map vi)) := by rw [← hk']; exact set_ne hk7
    have fr2 : ∀ k, k < b → k ≠ h7 → k ≠ h11 → m2.blk k = m.blk k := fun k h1 h2 h3 => by rw [← fr1 k h1 h2 h3]; exact set_ne h2
    have n2 : m2.next = m.next + 17 := n1
    have B7' := r7'.b
    have B7'' := r7''.b
    clear_value m2
    have e5 : (lf.set w (gAt lf w - 1))[w]? = some (gAt lf w - 1) := List.getElem?_set_self (by rw [hJ.lfl]; exact hwN)
    by_cases hz : gAt lf w - 1 = 0
    · rw [if_pos hz] at hJ'
      obtain ⟨v', m3, a1, a2, a3, a4⟩ := hq''.push (by omega) (by have := hJ.len; omega) (w : Int)
      have e5z : (lf.set w (gAt lf w - 1))[w]? = some 0 := by rw [e5, hz]
      simp only [↓sxc, sx, se, ↓reduceIte, Nat.reduceEqDiff, Nat.reduceAdd, Nat.reduceLT, Nat.reduceLeDiff, Nat.reduceSub, Nat.reduceMul, Int.reduceToNat, Int.reduceLT, Int.reduceLE, Int.reduceEq, ml_i0, ↓smc, sm, this, hk, hg, c1, c2, c3, c4, c5, c6, d1, d2, d3, B11, L11, e1, q4, uq, e2, w1, em1, B7', L7, e3, w2, em2, B7'', e5z, a1, wr]
      refine ih (i + 1) _ _ _ v' (m3.bump 1) Q hd' ?_ (r7''.mono ?_ (a4 h7 hb7)) (r11''.mono ?_ (a4 h11 hb11)) a2 ?_ hJ' (fun lf lv qs v m' e p1 p2 p3 p4 p5 p6 => hQ lf lv qs v m' e ?_ p2 p3 p4 p5 (fun k k1 k2 k3 => by rw [p6 k k1 k2 k3, ← fr2 k k1 k2 k3]; exact a4 k k1))
      · show lo ≤ m3.next + 1; omega
      · show m2.next ≤ m3.next + 1; omega
      · show m2.next ≤ m3.next + 1; omega
      · rw [← hk'']; exact a4 k83 hbk
      · have p1' : m3.next + 1 ≤ m'.next := p1
        omega
    · rw [if_neg hz] at hJ'
      simp only [↓sxc, sx, se, ↓reduceIte, Nat.reduceEqDiff, Nat.reduceAdd, Nat.reduceLT, Nat.reduceLeDiff, Nat.reduceSub, Nat.reduceMul, Int.reduceToNat, Int.reduceLT, Int.reduceLE, Int.reduceEq, ml_i0, ↓smc, sm, this, hk, hg, c1, c2, c3, c4, c5, c6, d1, d2, d3, B11, L11, e1, q4, uq, e2, w1, em1, B7', L7, e3, w2, em2, B7'', e5, hz, wr]
      refine ih (i + 1) _ _ _ _ _ Q hd' (by omega) r7'' r11'' hq'' hk'' hJ' (fun lf lv qs v m' e p1 p2 p3 p4 p5 p6 => hQ lf lv qs v m' e (by omega) p2 p3 p4 p5 (fun k k1 k2 k3 => by rw [p6 k k1 k2 k3]; exact fr2 k k1 k2 k3))

theorem w41_4 {F : Nat → Option Fn} {lo : Nat} {n : Int} (N : Nat) (hN : N ≤ 4096) (hnN : n = N) (l : List Edge) (gr : Gr n l) (hl : l.length < 100000) (h7 h8 h11 b : Nat) (hb7 : h7 < b) (hb8 : h8 < b) (hb11 : h11 < b) (h711 : h7 ≠ h11) (h87 : h8 ≠ h7) (h811 : h8 ≠ h11) (es : List V) (hes : es.length = N) (sh : Nat → Nat)
    (he : ∀ (u : Nat) (w : V), es[u]? = some w → (w = .nil ∧ buck Edge.to frV l 0 u = []) ∨ (w = .row 1 (sh u) 0 (buck Edge.to frV l 0 u).length ∧ sh u < b ∧ sh u ≠ h7 ∧ sh u ≠ h11)) :
    ∀ (r d : Nat) (lf lv qs : List Int) (v : V) (m : Mem) (Q : Ex → St → Prop), N ≤ d + r → lo ≤ m.next → IR lo m h7 lf → IR lo m h11 lv → Qs lo m b v qs → m.blk h8 = some (.row 1 es) →
    (∀ (u : Nat), es[u]? ≠ some .nil → u < N → m.blk (sh u) = some (.row 1 ((buck Edge.to frV l 0 u).map vi))) → KI N l lf lv qs d →
    (∀ lf lv qs d v m' e, m.next ≤ m'.next → IR lo m' h11 lv → KI N l lf lv qs d → qs.length ≤ d → Q (.exit 4) ⟨(0, vi n) :: (7, .row 1 h7 0 N) :: (8, .row 1 h8 0 N) :: (11, .row 1 h11 0 N) :: (12, v) :: (15, vi d) :: e, [], [], m'⟩) →
    W F lo L41_4 ⟨[(0, vi n), (7, .row 1 h7 0 N), (8, .row 1 h8 0 N), (11, .row 1 h11 0 N), (12, v), (15, vi d)], [], [], m⟩ Q := by
  intro r
  induction r with
  | zero =>
    intro d lf lv qs v m Q hr hm r7 r11 hq h8b hsh hK hQ
    have hlen : retV (.len false) [v] = some (vi qs.length) := by rw [hq.rw.len, List.length_map]
    have hql := hK.len
    rw [W_L (c := L41_4) rfl]
    have : ¬ ((d : Nat) : Int) < (qs.length : Int) := by omega
    simp only [↓sxc, sx, se, ↓reduceIte, Nat.reduceEqDiff, Nat.reduceAdd, Nat.reduceLT, Nat.reduceLeDiff, Nat.reduceSub, Nat.reduceMul, Int.reduceToNat, Int.reduceLT, Int.reduceLE, Int.reduceEq, ml_i0, ↓smc, sm, hlen, this]
    exact hQ lf lv qs d v m _ (Nat.le_refl _) r11 hK (by omega)
  | succ r ih =>
    intro d lf lv qs v m Q hr hm r7 r11 hq h8b hsh hK hQ
    have hql := hK.len
    rw [W_L (c := L41_4) rfl]
    by_cases hd : d < qs.length
    · have hlt : ((d : Nat) : Int) < (qs.length : Int) := by omega
      obtain ⟨kq, rfl, q1, q2, q3, q4⟩ := hq.row (by intro h; rw [h] at hd; simp at hd)
      have hg : qs[d]? = some (qs[d]'hd) := List.getElem?_eq_getElem _
      obtain ⟨u, hu, huN⟩ := hK.rg _ (List.getElem_mem hd)
      rw [hu] at hg
      have hJ := hK.enter gr hnN hg
      have wr : wrapF .i64 ((d : Int) + 1) = ((d + 1 : Nat) : Int) := by rw [wr_i64 (by omega) (by omega)]; rfl
      have c1 : ((u : Nat) : Int) < N := by omega
      have c2 : (0 : Int) ≤ u := by omega
      have c3 : (0 : Int) ≤ d := by omega
      have d1 : ((u : Nat) : Int).toNat = u := rfl
      have d2 : ((d : Nat) : Int).toNat = d := rfl
      have hw : es[u]? = some (es[u]'(by omega)) := List.getElem?_eq_getElem _
      generalize es[u]'(by omega) = w at hw
      rcases he u w hw with ⟨rfl, hb0⟩ | ⟨rfl, s1, s2, s3⟩
      · rw [hb0] at hJ
        have hc : (V.nil).cells[0]? = some .nil := rfl
        simp only [↓sxc, sx, se, ↓reduceIte, Nat.reduceEqDiff, Nat.reduceAdd, Nat.reduceLT, Nat.reduceLeDiff, Nat.reduceSub, Nat.reduceMul, Int.reduceToNat, Int.reduceLT, Int.reduceLE, Int.reduceEq, ml_i0, ↓smc, sm, hlt, q4, hg, c1, c2, c3, d1, d2, h8b, hw, hc]
        have nolp : ∀ Q', (∀ e, Q' (.exit 6) ⟨(0, vi n) :: (7, .row 1 h7 0 N) :: (8, .row 1 h8 0 N) :: (11, .row 1 h11 0 N) :: (12, .row 1 kq 0 qs.length) :: (15, vi d) :: e, [], [], m⟩) → W F lo L41_3 ⟨[(0, vi n), (7, .row 1 h7 0 N), (8, .row 1 h8 0 N), (11, .row 1 h11 0 N), (12, .row 1 kq 0 qs.length), (15, vi d), (83, .nil), (84, vi 0), (85, vi 0)], [], [], m⟩ Q' := by
          intro Q' hQ'
          rw [W_L (c := L41_3) rfl]
          simp only [↓sxc, sx, se, ↓reduceIte, Nat.reduceEqDiff, Nat.reduceAdd, Nat.reduceLT, Nat.reduceLeDiff, Nat.reduceSub, Nat.reduceMul, Int.reduceToNat, Int.reduceLT, Int.reduceLE, Int.reduceEq, ml_i0, ↓smc, sm]
          exact hQ' _
        refine nolp _ (fun e => ?_)
        simp only [↓sxc, sx, se, ↓reduceIte, Nat.reduceEqDiff, Nat.reduceAdd, Nat.reduceLT, Nat.reduceLeDiff, Nat.reduceSub, Nat.reduceMul, Int.reduceToNat, Int.reduceLT, Int.reduceLE, Int.reduceEq, ml_i0, ↓smc, sm, wr]
        exact ih (d + 1) lf lv qs _ m Q (by omega) hm r7 r11 hq h8b hsh hJ.leave hQ
      · have hc : (V.row 1 (sh u) 0 (buck Edge.to frV l 0 u).length).cells[0]? = some (V.row 1 (sh u) 0 (buck Edge.to frV l 0 u).length) := rfl
        have hk := hsh u (by rw [hw]; intro h; cases h) huN
        have hLl := buck_len (key := Edge.to) (val := frV) (w := (u : Int)) (p := l) (i := 0)
        simp only [↓sxc, sx, se, ↓reduceIte, Nat.reduceEqDiff, Nat.reduceAdd, Nat.reduceLT, Nat.reduceLeDiff, Nat.reduceSub, Nat.reduceMul, Int.reduceToNat, Int.reduceLT, Int.reduceLE, Int.reduceEq, ml_i0, ↓smc, sm, hlt, q4, hg, c1, c2, c3, d1, d2, h8b, hw, hc]
        refine w41_3 N hN l hl h7 h8 h11 b (sh u) hb7 hb11 s1 s2 s3 h711 (buck Edge.to frV l 0 u) (by omega) d u (by omega) _ 0 lf lv qs _ m _ rfl hm r7 r11 hq hk (by rw [List.drop_zero]; exact hJ) (fun lf lv qs v m' e p1 p2 p3 p4 p5 p6 => ?_)
        simp only [↓sxc, sx, se, ↓reduceIte, Nat.reduceEqDiff, Nat.reduceAdd, Nat.reduceLT, Nat.reduceLeDiff, Nat.reduceSub, Nat.reduceMul, Int.reduceToNat, Int.reduceLT, Int.reduceLE, Int.reduceEq, ml_i0, ↓smc, sm, wr]
        refine ih (d + 1) lf lv qs v m' Q (by omega) (by omega) p2 p3 p4 (by rw [p6 h8 hb8 h87 h811]; exact h8b) (fun u' hn hu' => ?_) p5.leave (fun lf lv qs d v m2 e z1 z2 z3 z4 => hQ lf lv qs d v m2 e (by omega) z2 z3 z4)
        have hw' : es[u']? = some (es[u']'(by omega)) := List.getElem?_eq_getElem _
        rcases he u' _ hw' with ⟨h1, _⟩ | ⟨h1, t1, t2, t3⟩
        · rw [hw', h1] at hn; exact absurd rfl hn
        · rw [p6 (sh u') t1 t2 t3]
          exact hsh u' hn hu'
    · have hlen : retV (.len false) [v] = some (vi qs.length) := by rw [hq.rw.len, List.length_map]
      have : ¬ ((d : Nat) : Int) < (qs.length : Int) := by omega
      simp only [↓sxc, sx, se, ↓reduceIte, Nat.reduceEqDiff, Nat.reduceAdd, Nat.reduceLT, Nat.reduceLeDiff, Nat.reduceSub, Nat.reduceMul, Int.reduceToNat, Int.reduceLT, Int.reduceLE, Int.reduceEq, ml_i0, ↓smc, sm, hlen, this]
      exact hQ lf lv qs d v m _ (Nat.le_refl _) r11 hK (by omega)

end Go.Am
