/- The reference's Reach. -/
import Derived.Test.YtflfnkdhmcfjlaaGrG
namespace Go.Am
open Go
set_option linter.unusedSimpArgs false
set_option linter.unusedVariables false
set_option maxRecDepth 100000

def reachL (N : Nat) (f : Int → Int) : List Int := (List.range N).map fun (v : Nat) => f (v : Int)
theorem reachL_eq {N : Nat} {f : Int → Int} {ds : List Int} (h1 : ds.length = N) (h2 : ∀ v : Nat, v < N → gAt ds v = f v) : ds = reachL N f := by
  refine List.ext_getElem? fun j => ?_
  by_cases h : j < N
  · rw [gAt_get (by omega), h2 j h]
    simp [reachL, h]
  · rw [List.getElem?_eq_none (by omega), List.getElem?_eq_none (by simp [reachL]; omega)]
theorem reachL_get {N : Nat} {f : Int → Int} {v : Nat} (h : v < N) : (reachL N f)[v]? = some (f v) := by simp [reachL, h]
theorem reachL_len {N : Nat} {f : Int → Int} : (reachL N f).length = N := by simp [reachL]

theorem outN_cons {l : List Edge} {e : Edge} {x : Int} : outN (e :: l) x = if e.fr = x then e.to :: outN l x else outN l x := by
  unfold outN
  rw [List.filter_cons]
  by_cases h : e.fr = x
  · simp [h]
  · simp [h]

theorem w109_2 {F : Nat → Option Fn} {lo : Nat} {n : Int} {N : Nat} {l : List Edge} (gr : Gr n l) (hN : n = N) (hN4 : N ≤ 4096) (hl : l.length < 100000) {root : Nat} (hr : root < N) (k7 b d u : Nat) (hk : k7 < b) (hd4 : d < N) :
    ∀ (t : List Edge) (j : Nat) (ds qs : List Int) (v : V) (m : Mem) (Q : Ex → St → Prop), l.drop j = t → lo ≤ m.next → IR lo m k7 ds → Qs lo m b v qs → BJ N (outN l) (fun k v => Wk l k root v) root ds qs d u (outN t u) →
    (∀ ds qs v m' e, m.next ≤ m'.next → IR lo m' k7 ds → Qs lo m' b v qs → BJ N (outN l) (fun k v => Wk l k root v) root ds qs d u [] → Q (.exit 4) ⟨(1, vEdges l) :: (7, .row 1 k7 0 N) :: (9, v) :: (10, vi d) :: e, [], [], m'⟩) →
    W F lo L109_2 ⟨[(1, vEdges l), (7, .row 1 k7 0 N), (9, v), (10, vi d), (11, vi u), (12, vi j)], [], [], m⟩ Q := by
  intro t
  induction t with
  | nil =>
    intro j ds qs v m Q hd hm r7 hq hJ hQ
    have hlt := drop_nil hd
    rw [W_L (c := L109_2) rfl]
    have : ¬ ((j : Nat) : Int) < (l.length : Int) := by omega
    simp only [↓sxc, sx, se, ↓reduceIte, Nat.reduceEqDiff, Nat.reduceAdd, Nat.reduceLT, Nat.reduceLeDiff, Nat.reduceSub, Nat.reduceMul, Int.reduceToNat, Int.reduceLT, Int.reduceLE, Int.reduceEq, ml_i0, ↓smc, sm, this]
    exact hQ ds qs v m _ (Nat.le_refl _) r7 hq hJ
  | cons x t ih =>
    intro j ds qs v m Q hd hm r7 hq hJ hQ
    obtain ⟨hg, hd', hlt⟩ := drop_cons hd
    have hx := List.mem_of_getElem? hg
    obtain ⟨a, w, ha, hw, ha2, hw2⟩ := gr.e x hx
    rw [W_L (c := L109_2) rfl]
    have : ((j : Nat) : Int) < (l.length : Int) := by omega
    have wr : wrapF .i64 ((j : Int) + 1) = ((j + 1 : Nat) : Int) := by rw [wr_i64 (by omega) (by omega)]; rfl
    rw [outN_cons] at hJ
    by_cases e1 : x.fr = (u : Int)
    · rw [if_pos e1, hw] at hJ
      have wN : w < N := by omega
      have uN := hJ.uN
      have gw := gAt_get (xs := ds) (v := w) (by rw [hJ.dl]; exact wN)
      have gu := gAt_get (xs := ds) (v := u) (by rw [hJ.dl]; exact uN)
      have w0 : (0 : Int) ≤ w := by omega
      have u0 : (0 : Int) ≤ u := by omega
      have wi : (w : Int) < (N : Int) := by omega
      have ui : (u : Int) < (N : Int) := by omega
      have wn : ((w : Nat) : Int).toNat = w := rfl
      have un : ((u : Nat) : Int).toNat = u := rfl
      have B7 := r7.b
      have L7 := r7.lh
      by_cases e2 : gAt ds w < 0
      · have hJ' := hJ.new (steps_fwd gr hN hr) wN e2
        have bu := hJ.bu
        have w1 : wrapF .i64 (gAt ds u + 1) = gAt ds u + 1 := wr_i64 (by omega) (by omega)
        let m1 : Mem := (m.bump 13).set k7 (some (.row 1 ((ds.set w (gAt ds u + 1)).map vi)))
        have em1 : (m.bump 13).set k7 (some (.row 1 ((ds.map vi).set w (vi (gAt ds u + 1))))) = m1 := by
          show _ = (m.bump 13).set k7 (some (.row 1 ((ds.set w (gAt ds u + 1)).map vi)))
          rw [List.map_set]
        have r7b : IR lo (m.bump 13) k7 ds := r7.mono (Nat.le_add_right _ _) rfl
        have r7' : IR lo m1 k7 (ds.set w (gAt ds u + 1)) := r7b.set _
        have hq' : Qs lo m1 b v qs := hq.mono (Nat.le_add_right _ _) (fun k hk' _ => set_ne (by omega))
        have n1 : m1.next = m.next + 13 := rfl
        clear_value m1
        obtain ⟨v', m2, q1, q2, q3, q4⟩ := hq'.push (by omega) (by have := hJ.len; omega) (w : Int)
        simp only [↓sxc, sx, se, ↓reduceIte, Nat.reduceEqDiff, Nat.reduceAdd, Nat.reduceLT, Nat.reduceLeDiff, Nat.reduceSub, Nat.reduceMul, Int.reduceToNat, Int.reduceLT, Int.reduceLE, Int.reduceEq, ml_i0, ↓smc, sm, this, hg, e1, hw, w0, u0, wi, ui, wn, un, B7, L7, gw, gu, e2, w1, em1, q1, wr, bump_blk]
        refine ih (j + 1) _ _ v' (m2.bump 1) Q hd' ?_ (r7'.mono ?_ (q4 k7 hk)) q2 hJ' (fun ds qs v m' e p1 p2 p3 p4 => hQ ds qs v m' e ?_ p2 p3 p4)
        · show lo ≤ m2.next + 1; omega
        · show m1.next ≤ m2.next + 1; omega
        · have p1' : m2.next + 1 ≤ m'.next := p1
          omega
      · have hJ' := hJ.old (by omega) ⟨w, rfl, wN⟩
        simp only [↓sxc, sx, se, ↓reduceIte, Nat.reduceEqDiff, Nat.reduceAdd, Nat.reduceLT, Nat.reduceLeDiff, Nat.reduceSub, Nat.reduceMul, Int.reduceToNat, Int.reduceLT, Int.reduceLE, Int.reduceEq, ml_i0, ↓smc, sm, this, hg, e1, hw, w0, u0, wi, ui, wn, un, B7, L7, gw, gu, e2, wr]
        exact ih (j + 1) ds qs v m Q hd' hm r7 hq hJ' hQ
    · rw [if_neg e1] at hJ
      simp only [↓sxc, sx, se, ↓reduceIte, Nat.reduceEqDiff, Nat.reduceAdd, Nat.reduceLT, Nat.reduceLeDiff, Nat.reduceSub, Nat.reduceMul, Int.reduceToNat, Int.reduceLT, Int.reduceLE, Int.reduceEq, ml_i0, ↓smc, sm, this, hg, e1, wr]
      exact ih (j + 1) ds qs v m Q hd' hm r7 hq hJ hQ

theorem w109_3 {F : Nat → Option Fn} {lo : Nat} {n : Int} {N : Nat} {l : List Edge} (gr : Gr n l) (hN : n = N) (hN4 : N ≤ 4096) (hl : l.length < 100000) {root : Nat} (hr : root < N) (k7 b : Nat) (hk : k7 < b) :
    ∀ (r d : Nat) (ds qs : List Int) (v : V) (m : Mem) (Q : Ex → St → Prop), N ≤ d + r → lo ≤ m.next → IR lo m k7 ds → Qs lo m b v qs → BI N (outN l) (fun k v => Wk l k root v) root ds qs d →
    (∀ ds qs d m' e, m.next ≤ m'.next → IR lo m' k7 ds → BI N (outN l) (fun k v => Wk l k root v) root ds qs d → qs.length ≤ d → Q (.exit 2) ⟨(1, vEdges l) :: (7, .row 1 k7 0 N) :: e, [], [], m'⟩) →
    W F lo L109_3 ⟨[(1, vEdges l), (7, .row 1 k7 0 N), (9, v), (10, vi d)], [], [], m⟩ Q := by
  intro r
  induction r with
  | zero =>
    intro d ds qs v m Q hr' hm r7 hq hK hQ
    have hlen : retV (.len false) [v] = some (vi qs.length) := by rw [hq.rw.len, List.length_map]
    have hql := hK.len
    rw [W_L (c := L109_3) rfl]
    have : ¬ ((d : Nat) : Int) < (qs.length : Int) := by omega
    simp only [↓sxc, sx, se, ↓reduceIte, Nat.reduceEqDiff, Nat.reduceAdd, Nat.reduceLT, Nat.reduceLeDiff, Nat.reduceSub, Nat.reduceMul, Int.reduceToNat, Int.reduceLT, Int.reduceLE, Int.reduceEq, ml_i0, ↓smc, sm, hlen, this]
    exact hQ ds qs d m _ (Nat.le_refl _) r7 hK (by omega)
  | succ r ih =>
    intro d ds qs v m Q hr' hm r7 hq hK hQ
    have hql := hK.len
    rw [W_L (c := L109_3) rfl]
    by_cases hd : d < qs.length
    · have hlt : ((d : Nat) : Int) < (qs.length : Int) := by omega
      obtain ⟨kq, rfl, q1, q2, q3, q4⟩ := hq.row (by intro h; rw [h] at hd; simp at hd)
      have hg : qs[d]? = some (qs[d]'hd) := List.getElem?_eq_getElem _
      obtain ⟨u, hu, huN⟩ := hK.rg _ (List.getElem_mem hd)
      rw [hu] at hg
      have hJ := hK.enter hg
      have wr : wrapF .i64 ((d : Int) + 1) = ((d + 1 : Nat) : Int) := by rw [wr_i64 (by omega) (by omega)]; rfl
      have c3 : (0 : Int) ≤ d := by omega
      have d2 : ((d : Nat) : Int).toNat = d := rfl
      simp only [↓sxc, sx, se, ↓reduceIte, Nat.reduceEqDiff, Nat.reduceAdd, Nat.reduceLT, Nat.reduceLeDiff, Nat.reduceSub, Nat.reduceMul, Int.reduceToNat, Int.reduceLT, Int.reduceLE, Int.reduceEq, ml_i0, ↓smc, sm, hlt, q4, hg, c3, d2]
      refine w109_2 gr hN hN4 hl hr k7 b d u hk (by omega) l 0 ds qs _ m _ rfl hm r7 hq hJ (fun ds qs v m' e p1 p2 p3 p4 => ?_)
      simp only [↓sxc, sx, se, ↓reduceIte, Nat.reduceEqDiff, Nat.reduceAdd, Nat.reduceLT, Nat.reduceLeDiff, Nat.reduceSub, Nat.reduceMul, Int.reduceToNat, Int.reduceLT, Int.reduceLE, Int.reduceEq, ml_i0, ↓smc, sm, wr]
      exact ih (d + 1) ds qs v m' Q (by omega) (by omega) p2 p3 p4.leave (fun ds qs d m2 e z1 z2 z3 z4 => hQ ds qs d m2 e (by omega) z2 z3 z4)
    · have hlen : retV (.len false) [v] = some (vi qs.length) := by rw [hq.rw.len, List.length_map]
      have : ¬ ((d : Nat) : Int) < (qs.length : Int) := by omega
      simp only [↓sxc, sx, se, ↓reduceIte, Nat.reduceEqDiff, Nat.reduceAdd, Nat.reduceLT, Nat.reduceLeDiff, Nat.reduceSub, Nat.reduceMul, Int.reduceToNat, Int.reduceLT, Int.reduceLE, Int.reduceEq, ml_i0, ↓smc, sm, hlen, this]
      exact hQ ds qs d m _ (Nat.le_refl _) r7 hK (by omega)

theorem sp109 {F : Nat → Option Fn} (hG : HasG F) {lo : Nat} {m : Mem} {n : Int} {N : Nat} {l : List Edge} (gr : Gr n l) (hN : n = N) (hl : l.length < 100000) {root : Nat} (hr : root < N) : callw F 109 [vi n, vEdges l, vi root] lo m = some (ints (reachL N (dst l root)), m) := by
  have n4 := gr.n4
  have hN4 : N ≤ 4096 := by omega
  have loop1 : ∀ (r i : Nat) (v : V) (m' : Mem) (Q : Ex → St → Prop), i + r = N → m.next ≤ m'.next → Rw m.next m' 1 v ((List.replicate i (-1 : Int)).map vi) →
      (∀ v m' e, m.next ≤ m'.next → Rw m.next m' 1 v ((List.replicate N (-1 : Int)).map vi) → Q (.exit 0) ⟨(0, vi n) :: (1, vEdges l) :: (2, vi root) :: (7, v) :: e, [], [], m'⟩) →
      W F m.next L109_1 ⟨[(0, vi n), (1, vEdges l), (2, vi root), (7, v), (8, vi i)], [], [], m'⟩ Q := by
    intro r
    induction r with
    | zero =>
      intro i v m' Q hi hm hr hq
      rw [W_L (c := L109_1) rfl]
      have : ¬ ((i : Nat) : Int) < n := by omega
      simp only [↓sxc, sx, se, ↓reduceIte, Nat.reduceEqDiff, Nat.reduceAdd, Nat.reduceLT, Nat.reduceLeDiff, Nat.reduceSub, Nat.reduceMul, Int.reduceToNat, Int.reduceLT, Int.reduceLE, Int.reduceEq, ml_i0, ↓smc, sm, this]
      exact hq v m' _ hm (by rw [← show i = N by omega]; exact hr)
    | succ r ih =>
      intro i v m' Q hi hm hr hq
      rw [W_L (c := L109_1) rfl]
      have : ((i : Nat) : Int) < n := by omega
      have wr : wrapF .i64 ((i : Int) + 1) = ((i + 1 : Nat) : Int) := by rw [wr_i64 (by omega) (by omega)]; rfl
      obtain ⟨v', m'', hap, hr', hn, _⟩ := Rw.app (y := .lst false 1 [vi (-1)]) hr hm vw_lst (.inl rfl) (by simp [big]; omega)
      simp only [↓sxc, sx, se, ↓reduceIte, Nat.reduceEqDiff, Nat.reduceAdd, Nat.reduceLT, Nat.reduceLeDiff, Nat.reduceSub, Nat.reduceMul, Int.reduceToNat, Int.reduceLT, Int.reduceLE, Int.reduceEq, ml_i0, ↓smc, sm, this, hap, wr]
      refine ih (i + 1) v' (m''.bump 1) Q (by omega) ?_ (by rw [List.replicate_succ', List.map_append]; exact hr') hq
      show m.next ≤ m''.next + 1
      omega
  refine call_p hG.h109 rfl ?_
  simp only [↓sxc, sx, se, ↓reduceIte, Nat.reduceEqDiff, Nat.reduceAdd, Nat.reduceLT, Nat.reduceLeDiff, Nat.reduceSub, Nat.reduceMul, Int.reduceToNat, Int.reduceLT, Int.reduceLE, Int.reduceEq, ml_i0, ↓smc, sm]
  refine loop1 N 0 .nil m _ (by omega) (Nat.le_refl _) .nil (fun v m' e h1 h2 => ?_)
  rcases h2 with ⟨_, h3⟩ | ⟨k, rfl, k1, k2, k3⟩
  · have : (List.map vi (List.replicate N (-1 : Int))).length = 0 := by rw [h3]; rfl
    simp at this
    omega
  · simp only [List.length_map, List.length_replicate]
    have a0 : (0 : Int) ≤ root := by omega
    have ai : (root : Int) < (N : Int) := by omega
    have an : ((root : Nat) : Int).toNat = root := rfl
    have ga : (List.replicate N (-1 : Int))[root]? = some (-1) := by rw [List.getElem?_replicate_of_lt hr]
    let m1 : Mem := (m'.set m'.next (some (.row 1 [vi root]))).bump 1
    have n1 : m1.next = m'.next + 1 := rfl
    have b1 : m1.blk k = some (.row 1 ((List.replicate N (-1 : Int)).map vi)) := by rw [← k3]; exact set_ne (by omega)
    have qb : m1.blk m'.next = some (.row 1 [vi root]) := by show (m'.set m'.next _).blk m'.next = _; simp [Mem.set]
    have em1 : (m'.set m'.next (some (.row 1 [vi root]))).bump 1 = m1 := rfl
    clear_value m1
    let m2 : Mem := m1.set k (some (.row 1 (((List.replicate N (-1 : Int)).set root 0).map vi)))
    have em2 : m1.set k (some (.row 1 (((List.replicate N (-1 : Int)).map vi).set root (vi 0)))) = m2 := by
      show _ = m1.set k (some (.row 1 (((List.replicate N (-1 : Int)).set root 0).map vi)))
      rw [List.map_set]
    have r7 : IR m.next m2 k ((List.replicate N (-1 : Int)).set root 0) := ⟨k1, by show k < m1.next; omega, by show (m1.set k _).blk k = _; simp [Mem.set]⟩
    have q0 : Qs m.next m2 m'.next (.row 1 m'.next 0 1) [(root : Int)] := ⟨.inr ⟨m'.next, rfl, by omega, by show m'.next < m1.next; omega, (set_ne (by omega)).trans qb⟩, fun j hj => (by cases hj; exact Nat.le_refl _), by show m'.next ≤ m1.next; omega⟩
    have n2 : m2.next = m1.next := rfl
    clear_value m2
    have ga' : (List.map vi (List.replicate N (-1 : Int)))[root]? = some (vi (-1)) := by rw [List.getElem?_map, ga]; rfl
    simp only [↓sxc, sx, se, ↓reduceIte, Nat.reduceEqDiff, Nat.reduceAdd, Nat.reduceLT, Nat.reduceLeDiff, Nat.reduceSub, Nat.reduceMul, Int.reduceToNat, Int.reduceLT, Int.reduceLE, Int.reduceEq, ml_i0, ↓smc, sm, em1, b1, a0, ai, an, ga, ga', k1, em2]
    refine w109_3 gr hN hN4 hl hr k m'.next k2 N 0 _ [(root : Int)] _ m2 _ (by omega) (by omega) r7 q0 (.start (steps_fwd gr hN hr)) (fun ds qs d m3 e z1 z2 z3 z4 => ?_)
    have hd := z3.done (steps_fwd gr hN hr) z4
    have he : ds = reachL N (dst l root) := reachL_eq z3.dl hd
    subst he
    have fz := fz_ir (n := 6) z2.b z2.lh
    rw [reachL_len] at fz
    simp only [↓sxc, sx, se, ↓reduceIte, Nat.reduceEqDiff, Nat.reduceAdd, Nat.reduceLT, Nat.reduceLeDiff, Nat.reduceSub, Nat.reduceMul, Int.reduceToNat, Int.reduceLT, Int.reduceLE, Int.reduceEq, ml_i0, ↓smc, sm, fz]

end Go.Am
