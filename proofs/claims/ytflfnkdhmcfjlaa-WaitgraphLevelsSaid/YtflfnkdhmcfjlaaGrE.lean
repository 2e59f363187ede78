/- Levels returns the levels, or that there are none. -/
import Derived.Test.YtflfnkdhmcfjlaaGrD
namespace Go.Am
open Go
set_option linter.unusedSimpArgs false
set_option linter.unusedVariables false
set_option maxRecDepth 100000

theorem bucks_nil {key : Edge → Int} {val : Nat → Edge → Int} {N : Nat} : bucks key val N [] = List.replicate N [] := by
  refine List.ext_getElem? fun j => ?_
  by_cases h : j < N
  · rw [bucks_get h, List.getElem?_replicate_of_lt h]; rfl
  · rw [List.getElem?_eq_none (by simp [bucks_len]; omega), List.getElem?_eq_none (by simp; omega)]
theorem cnts_nil {N : Nat} : cnts N [] = List.replicate N 0 := by
  refine List.ext_getElem? fun j => ?_
  by_cases h : j < N
  · rw [cnts_get h, List.getElem?_replicate_of_lt h]; rfl
  · rw [List.getElem?_eq_none (by simp [cnts]; omega), List.getElem?_eq_none (by simp; omega)]
theorem NestB.start {lo h q : Nat} {m : Mem} {key : Edge → Int} {val : Nat → Edge → Int} {N : Nat} (h1 : lo ≤ h) (h2 : h < m.next) (h3 : m.blk h = some (.row 1 (List.replicate N .nil))) : NestB lo m h q (bucks key val N []) (List.replicate N .nil) := by
  have nil_of : ∀ (i : Nat) (v : V), (List.replicate N V.nil)[i]? = some v → v = .nil := fun i v h => by
    have := List.mem_of_getElem? h
    exact List.eq_of_mem_replicate this
  refine ⟨h1, h2, h3, by simp [bucks_len], fun i v L hv hL => ?_, fun i j v w k hv hw e1 e2 => ?_, fun i v k hv hk => ?_⟩
  · rw [nil_of i v hv]
    rw [bucks_nil] at hL
    have := List.eq_of_mem_replicate (List.mem_of_getElem? hL)
    rw [this]
    exact .nil
  · rw [nil_of i v hv] at e1; cases e1
  · rw [nil_of i v hv] at hk; cases hk

/-- The handle of the block of a slice of a row. -/
def shOf (es : List V) (u : Nat) : Nat := ((es[u]?).bind hOf).getD 0
theorem NestB.view {lo h q : Nat} {m : Mem} {E : List (List Int)} {es : List V} (H : NestB lo m h q E es) {u : Nat} {w : V} {L : List Int} (hw : es[u]? = some w) (hL : E[u]? = some L) :
    (w = .nil ∧ L = []) ∨ (w = .row 1 (shOf es u) 0 L.length ∧ shOf es u < m.next ∧ shOf es u ≠ h ∧ shOf es u ≠ q ∧ m.blk (shOf es u) = some (.row 1 (L.map vi))) := by
  rcases H.rw u w L hw hL with ⟨h1, h2⟩ | ⟨k, h1, h2, h3, h4⟩
  · exact .inl ⟨h1, by simpa using h2⟩
  · have hs : shOf es u = k := by simp [shOf, hw, h1, hOf]
    have hn := H.ne u w k hw (by rw [h1]; rfl)
    rw [hs]
    exact .inr ⟨by rw [h1]; simp, h3, hn.1, hn.2, h4⟩

theorem fz_ir {lo n h : Nat} {m : Mem} {u : List Int} (hb : m.blk h = some (.row 1 (u.map vi))) (hl : lo ≤ h) : freeze lo m (n + 2) (.row 1 h 0 u.length) = some (ints u) := by
  rw [fz_row hb hl (by simp)]
  have : ((u.map vi).drop 0).take u.length = u.map vi := by rw [List.drop_zero, List.take_of_length_le (by simp)]
  rw [this, mapO_id (fun x hx => by
    obtain ⟨y, _, rfl⟩ := List.mem_map.1 hx
    rfl)]
  rfl

theorem sp41 {F : Nat → Option Fn} (hG : HasG F) {lo : Nat} {m : Mem} (n : Int) (l : List Edge) (hl : l.length < 100000) : callw F 41 [vi n, vEdges l] lo m = some (.tup [ints (levE n l).1, vi (levE n l).2], m) := by
  have c102 : ∀ {lo m}, callw F 102 [vi n, vEdges l] lo m = some (vi (chkG n l), m) := fun {lo m} => sp102 hG n l (by omega)
  refine call_p hG.h41 rfl ?_
  by_cases h0 : chkG n l = 0
  · have gr := gr_of h0
    obtain ⟨N, hN⟩ : ∃ N : Nat, n = N := ⟨n.toNat, by have := gr.n0; omega⟩
    have n4 := gr.n4
    have hN4 : N ≤ 4096 := by omega
    have b1 : 0 ≤ (n : Int) ∧ (n : Int) < big := by simp [big]; omega
    have tn : n.toNat = N := by omega
    simp only [↓sxc, sx, se, ↓reduceIte, Nat.reduceEqDiff, Nat.reduceAdd, Nat.reduceLT, Nat.reduceLeDiff, Nat.reduceSub, Nat.reduceMul, Int.reduceToNat, Int.reduceLT, Int.reduceLE, Int.reduceEq, ml_i0, ↓W_dreg, ↓sk, sk, ↓smc, sm, c102, h0, b1, tn]
    refine ⟨by simp [pairsOk, nth_eq, keysApart, Key.apart], ?_⟩
    have hh : m.next + 3 ≠ m.next + 1 := by omega
    refine w41_1 l gr hl N hN (m.next + 1) (m.next + 3) hh l 0 (List.replicate N .nil) _ _ rfl (by show m.next ≤ m.next + 6; omega) ⟨by omega, by show m.next + 1 < m.next + 6; omega, ?_⟩ (NestB.start (by omega) (by show m.next + 3 < m.next + 6; omega) (by simp [Mem.set])) (fun es m1 e p1 p2 p3 => ?_)
    · rw [set_ne (by omega), List.take_zero, cnts_nil]
      simp [Mem.set]
    have p1' : m.next + 6 ≤ m1.next := p1
    let h11 := m1.next
    let m2 : Mem := (m1.set m1.next (some (.row 1 (List.replicate N (V.int .i64 0))))).bump 1
    have n2 : m2.next = m1.next + 1 := rfl
    have f2 : ∀ k, k < m1.next → m2.blk k = m1.blk k := fun k hk => set_ne (by omega)
    have r7 : IR m.next m2 (m.next + 1) (cnts N l) := p2.mono (by omega) (f2 _ p2.hm)
    have r11 : IR m.next m2 m1.next (List.replicate N 0) := ⟨by omega, by omega, by show (m1.set m1.next _).blk m1.next = _; simp [Mem.set]⟩
    have q0 : Qs m.next m2 (m1.next + 1) .nil (zeros (cnts N l) 0) := ⟨.nil, fun k hk => (by cases hk), by omega⟩
    have em2 : (m1.set m1.next (some (.row 1 (List.replicate N (V.int .i64 0))))).bump 1 = m2 := rfl
    clear_value m2
    simp only [↓sxc, sx, se, ↓reduceIte, Nat.reduceEqDiff, Nat.reduceAdd, Nat.reduceLT, Nat.reduceLeDiff, Nat.reduceSub, Nat.reduceMul, Int.reduceToNat, Int.reduceLT, Int.reduceLE, Int.reduceEq, ml_i0, ↓smc, sm, b1, tn, em2]
    refine w41_2 N hN4 (m.next + 1) (m1.next + 1) (by omega) _ _ (cnts N l) (by simp [cnts]) N 0 .nil m2 _ (by omega) (by omega) r7 q0 (fun v m3 e t1 t2 t3 => ?_)
    have f3 : ∀ k, k < m1.next → m3.blk k = m1.blk k := fun k hk => by rw [t3 k (by omega)]; exact f2 k hk
    have hlen : es.length = N := by rw [p3.ln, bucks_len]
    simp only [↓sxc, sx, se, ↓reduceIte, Nat.reduceEqDiff, Nat.reduceAdd, Nat.reduceLT, Nat.reduceLeDiff, Nat.reduceSub, Nat.reduceMul, Int.reduceToNat, Int.reduceLT, Int.reduceLE, Int.reduceEq, ml_i0, ↓smc, sm]
    refine w41_4 N hN4 hN l gr hl (m.next + 1) (m.next + 3) m1.next (m1.next + 1) (by omega) (by omega) (by omega) (by omega) hh (by omega) es hlen (shOf es) (fun u w hw => ?_) N 0 (cnts N l) (List.replicate N 0) (zeros (cnts N l) N) v m3 _ (by omega) (by omega) (r7.mono t1 (t3 _ (by omega))) (r11.mono t1 (t3 _ (by omega))) t2 (by rw [f3 _ p3.hm]; exact p3.bh) (fun u hn hu => ?_) (KI.start gr hN) (fun lf lv qs d v m4 e z1 z2 z3 z4 => ?_)
    · have hu : u < N := by rw [← hlen]; exact (List.getElem?_eq_some_iff.1 hw).1
      rcases p3.view hw (bucks_get hu) with h | ⟨a1, a2, a3, a4, a5⟩
      · exact .inl h
      · exact .inr ⟨a1, by omega, a4, by omega⟩
    · have hw : es[u]? = some (es[u]'(by omega)) := List.getElem?_eq_getElem _
      rcases p3.view hw (bucks_get hu) with ⟨h, _⟩ | ⟨a1, a2, a3, a4, a5⟩
      · rw [hw, h] at hn; exact absurd rfl hn
      · rw [f3 _ a2]; exact a5
    · by_cases hd : d < N
      · have c1 : ((d : Nat) : Int) < n := by omega
        rw [levE_no h0 hN (z3.stuck gr hN z4 hd)]
        simp only [↓sxc, sx, se, ↓reduceIte, Nat.reduceEqDiff, Nat.reduceAdd, Nat.reduceLT, Nat.reduceLeDiff, Nat.reduceSub, Nat.reduceMul, Int.reduceToNat, Int.reduceLT, Int.reduceLE, Int.reduceEq, ml_i0, ↓smc, sm, c1]
        rfl
      · have c1 : ¬ ((d : Nat) : Int) < n := by omega
        rw [levE_ok h0 hN (z3.full gr hN z4 (by omega))]
        have hlv : lv.length = N := z3.lvl
        have fz := fz_ir (n := 5) z2.b z2.lh
        rw [hlv] at fz
        simp only [↓sxc, sx, se, ↓reduceIte, Nat.reduceEqDiff, Nat.reduceAdd, Nat.reduceLT, Nat.reduceLeDiff, Nat.reduceSub, Nat.reduceMul, Int.reduceToNat, Int.reduceLT, Int.reduceLE, Int.reduceEq, ml_i0, ↓smc, sm, c1]
        simp only [mapO, fz, fz_int]
        rfl
  · rw [levE_bad h0]
    simp only [↓sxc, sx, se, ↓reduceIte, Nat.reduceEqDiff, Nat.reduceAdd, Nat.reduceLT, Nat.reduceLeDiff, Nat.reduceSub, Nat.reduceMul, Int.reduceToNat, Int.reduceLT, Int.reduceLE, Int.reduceEq, ml_i0, ↓smc, sm, c102, h0]
    rfl

end Go.Am
