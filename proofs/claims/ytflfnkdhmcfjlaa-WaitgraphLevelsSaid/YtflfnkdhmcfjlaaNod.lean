/- Graphs from numbers. -/
import Derived.Test.YtflfnkdhmcfjlaaGrA
import Derived.Test.YtflfnkdhmcfjlaaDau
namespace Go.Am
open Go
set_option linter.unusedSimpArgs false
set_option linter.unusedVariables false
set_option maxRecDepth 100000

def tPair : Ty := .st [.int .u8, .int .u8]
noncomputable def vPr (p : Int × Int) : V := .agg [.int .u8 p.1, .int .u8 p.2]
noncomputable def vPrs (l : List (Int × Int)) : V := .ro true 2 (l.map vPr)
theorem u8_rng {n : Int} (h : (Lit.int .u8 n).wf = true) : 0 ≤ n ∧ n ≤ 255 := by
  simp only [Lit.wf, Bool.and_eq_true, decide_eq_true_eq] at h
  exact h
theorem dec_pair : Dec tPair 2 vPr (fun p => 0 ≤ p.1 ∧ p.1 ≤ 255 ∧ 0 ≤ p.2 ∧ p.2 ≤ 255) := fun n cs h => by
  obtain ⟨a, b, n1, n2, rfl, rfl, h1, h⟩ := h.cons_inv
  obtain ⟨c, d, n3, n4, rfl, rfl, h2, h⟩ := h.cons_inv
  obtain ⟨rfl, rfl⟩ := h.nil_inv
  obtain ⟨rfl, x, rfl, hx⟩ := h1.int_inv
  obtain ⟨rfl, y, rfl, hy⟩ := h2.int_inv
  have := u8_rng hx
  have := u8_rng hy
  exact ⟨rfl, ⟨x, y⟩, rfl, by omega⟩
theorem open_pairs {v : V} (h : HasV (.sl tPair) v) : ∃ l : List (Int × Int), v = vPrs l ∧ ∀ p ∈ l, 0 ≤ p.1 ∧ p.1 ≤ 255 ∧ 0 ≤ p.2 ∧ p.2 ≤ 255 := by
  obtain ⟨n, cs, rfl, h⟩ := h
  obtain ⟨rfl, l, rfl, hl, hp⟩ := h.sl_inv dec_pair
  exact ⟨l, rfl, hp⟩
theorem open_u8 {v : V} (h : HasV (.int .u8) v) : ∃ n, v = .int .u8 n ∧ 0 ≤ n ∧ n ≤ 255 := by
  obtain ⟨n, rfl, hn⟩ := open_int' h
  have := u8_rng hn
  exact ⟨n, rfl, this⟩

def ndK (n : Int) : Int := 1 + n % 12
def ndE (k : Int) (p : Int × Int) : Edge := ⟨p.1 % k, p.2 % k, 0, 0⟩
theorem ndK_rng {n : Int} : 1 ≤ ndK n ∧ ndK n ≤ 12 := by unfold ndK; omega
theorem nd_chk {k : Int} (hk : 1 ≤ k ∧ k ≤ 12) {l : List (Int × Int)} : chkG k (l.map (ndE k)) = 0 := by
  unfold chkG
  rw [if_neg (by omega), if_neg]
  intro hc
  obtain ⟨e, he, hb⟩ := List.any_eq_true.1 hc
  obtain ⟨p, _, rfl⟩ := List.mem_map.1 he
  simp only [badN, ndE, Bool.or_eq_true, decide_eq_true_eq] at hb
  have h1 := Int.emod_nonneg p.1 (b := k) (by omega)
  have h2 := Int.emod_lt_of_pos p.1 (b := k) (by omega)
  have h3 := Int.emod_nonneg p.2 (b := k) (by omega)
  have h4 := Int.emod_lt_of_pos p.2 (b := k) (by omega)
  rcases hb with ((hb | hb) | hb) | hb
  · exact absurd (of_decide_eq_true hb) (by omega)
  · exact absurd (of_decide_eq_true hb) (by omega)
  · exact absurd (of_decide_eq_true hb) (by omega)
  · exact absurd (of_decide_eq_true hb) (by omega)

theorem cv_u8 {n : Int} (h1 : 0 ≤ n) (h2 : n ≤ 255) : retV (.cvt .i64) [.int .u8 n] = some (.int .i64 n) := by
  rw [r_cvt, IntWalk.i64_in n ⟨by omega, by omega⟩]
theorem rm_i64 {x y : Int} (h1 : 0 ≤ x) (h2 : 1 ≤ y) : retV (.bin .rem) [.int .i64 x, .int .i64 y] = some (.int .i64 (x % y)) := by
  rw [r_rem, if_neg (by omega), Int.tmod_eq_emod_of_nonneg h1]

theorem Rw.appD {lo sz s c h : Nat} {m : Mem} {v y : V} {xs ys : List V} (hr : Rw lo m sz v xs) (hl : lo ≤ m.next) (h1 : m.next ≤ h) (h2 : h < m.next + c) (hv : view (m.bump c) y = some (s, ys)) (hs : s = sz ∨ ys.length = 0) (hb : xs.length + ys.length < big) :
    ∃ v' m', apV lo h (m.bump c) sz v y = some (v', m') ∧ Rw lo m' sz v' (xs ++ ys) ∧ m'.next = m.next + c ∧ ∀ k, (∀ l, v ≠ .row sz k 0 l) → k ≠ h → m'.blk k = m.blk k := by
  rcases hr with ⟨rfl, rfl⟩ | ⟨h', rfl, q1, q2, q3⟩
  · cases ys with
    | nil => exact ⟨.nil, m.bump c, by simp only [apV, hv], .inl ⟨rfl, rfl⟩, rfl, fun _ _ _ => rfl⟩
    | cons y ys =>
      have hs' : s = sz := by
        rcases hs with h | h
        · exact h
        · simp at h
      refine ⟨_, _, ap_nil hv hs' (by simpa using hb), .inr ⟨h, by simp, by omega, by show h < m.next + c; exact h2, by simp [Mem.set]⟩, rfl, fun k _ hk => by simp [Mem.set, Mem.bump, hk]⟩
  · refine ⟨_, _, ap_row hv q1 hs hb (by exact q3) (by simp), .inr ⟨h, by simp, by omega, by show h < m.next + c; exact h2, by simp [Mem.set]⟩, rfl, fun k hk hk2 => ?_⟩
    have : k ≠ h' := fun e => hk xs.length (by rw [e])
    simp [Mem.set, Mem.bump, hk2, this]

theorem sp46 {F : Nat → Option Fn} (hG : HasG F) {lo : Nat} {m : Mem} (n : Int) (l : List (Int × Int)) (hn : 0 ≤ n ∧ n ≤ 255) (hp : ∀ p ∈ l, 0 ≤ p.1 ∧ p.1 ≤ 255 ∧ 0 ≤ p.2 ∧ p.2 ≤ 255) (hl : l.length < 100000) : callw F 46 [.int .u8 n, vPrs l] lo m = some (.tup [vi (ndK n), vEdges (l.map (ndE (ndK n)))], m) := by
  have hk := ndK_rng (n := n)
  have e1 := cv_u8 hn.1 hn.2
  have e2 := rm_i64 (x := n) (y := 12) hn.1 (by omega)
  have e3 : wrapF .i64 (1 + n % 12) = ndK n := wr_i64 (by omega) (by omega)
  generalize ndK n = k at hk e3 ⊢
  have loop : ∀ (t : List (Int × Int)) (i : Nat) (v : V) (m' : Mem) (Q : Ex → St → Prop), l.drop i = t → m.next ≤ m'.next → Rw m.next m' 4 v (((l.take i).map (ndE k)).map vEdge) →
      (∀ v m' e, m.next ≤ m'.next → Rw m.next m' 4 v ((l.map (ndE k)).map vEdge) → Q (.exit 0) ⟨(6, vi k) :: (7, v) :: e, [], [], m'⟩) →
      W F m.next L46_1 ⟨[(6, vi k), (7, v), (14, vPrs l), (15, vi l.length), (16, vi i)], [], [], m'⟩ Q := by
    intro t
    induction t with
    | nil =>
      intro i v m' Q hd hm' hr hQ
      have hlt := drop_nil hd
      rw [W_L (c := L46_1) rfl]
      have : ¬ ((i : Nat) : Int) < (l.length : Int) := by omega
      simp only [↓sxc, sx, se, ↓reduceIte, Nat.reduceEqDiff, Nat.reduceAdd, Nat.reduceLT, Nat.reduceLeDiff, Nat.reduceSub, Nat.reduceMul, Int.reduceToNat, Int.reduceLT, Int.reduceLE, Int.reduceEq, ml_i0, ↓smc, sm, this]
      rw [List.take_of_length_le hlt] at hr
      exact hQ v m' _ hm' hr
    | cons x t ih =>
      intro i v m' Q hd hm' hr hQ
      obtain ⟨hgi, hd', hlt⟩ := drop_cons hd
      have hx := hp x (List.mem_of_getElem? hgi)
      rw [W_L (c := L46_1) rfl]
      have : ((i : Nat) : Int) < (l.length : Int) := by omega
      have wr : wrapF .i64 ((i : Int) + 1) = ((i + 1 : Nat) : Int) := by rw [wr_i64 (by omega) (by omega)]; rfl
      have i0 : (0 : Int) ≤ i := by omega
      have in_ : ((i : Nat) : Int).toNat = i := rfl
      have ia : retV (.ia 2) [vPrs l, .int .i64 (i : Int)] = some (.imm (vPr x) 0) := by
        unfold vPrs
        rw [r_iaro, if_pos i0, ml_get, in_, hgi]
        rfl
      have cp : V.cells (vPr x) = [.int .u8 x.1, .int .u8 x.2] := rfl
      have q1 := cv_u8 hx.1 hx.2.1
      have q2 := cv_u8 hx.2.2.1 hx.2.2.2
      have q3 := rm_i64 (x := x.1) (y := k) hx.1 hk.1
      have q4 := rm_i64 (x := x.2) (y := k) hx.2.2.1 hk.1
      obtain ⟨v', m2, hap, hr', hn, _⟩ := hr.appD (c := 15) (h := m'.next + 13) (y := .lst false 4 [vEdge (ndE k x)]) hm' (by omega) (by omega) vw_lst (.inl rfl) (by simp [big]; omega)
      have fe : V.agg [V.int .i64 (x.1 % k), V.int .i64 (x.2 % k), V.int .i64 0, V.int .i64 0] = vEdge (ndE k x) := rfl
      have d0 : (0 : Int) < ((2 : Nat) : Int) := by decide
      have d1 : (1 : Int) < ((2 : Nat) : Int) := by decide
      simp only [↓sxc, sx, se, ↓reduceIte, Nat.reduceEqDiff, Nat.reduceAdd, Nat.reduceLT, Nat.reduceLeDiff, Nat.reduceSub, Nat.reduceMul, Int.reduceToNat, Int.reduceLT, Int.reduceLE, Int.reduceEq, ml_i0, ↓smc, sm, this, i0, in_, ia, cp, d0, d1, q1, q2, q3, q4, fe, hap, wr]
      refine ih (i + 1) v' m2 Q hd' (by omega) ?_ hQ
      rw [take_succ_drop hd, List.map_append, List.map_append, List.map_cons, List.map_nil]
      exact hr'
  have ln : retV (.len false) [vPrs l] = some (vi l.length) := by unfold vPrs; rw [r_lenro, ml_len]
  refine call_p hG.h46 rfl ?_
  simp only [↓sxc, sx, se, ↓reduceIte, Nat.reduceEqDiff, Nat.reduceAdd, Nat.reduceLT, Nat.reduceLeDiff, Nat.reduceSub, Nat.reduceMul, Int.reduceToNat, Int.reduceLT, Int.reduceLE, Int.reduceEq, ml_i0, ↓smc, sm, e1, e2, e3, ln]
  refine loop l 0 .nil m _ rfl (Nat.le_refl _) .nil (fun v m' e q1 q2 => ?_)
  have fz : freeze m.next m' 7 v = some (vEdges (l.map (ndE k))) := by
    rw [q2.freeze, mapO_id (fun x hx => by
      obtain ⟨y, _, rfl⟩ := List.mem_map.1 hx
      rfl)]
    rfl
  simp only [↓sxc, sx, se, ↓reduceIte, Nat.reduceEqDiff, Nat.reduceAdd, Nat.reduceLT, Nat.reduceLeDiff, Nat.reduceSub, Nat.reduceMul, Int.reduceToNat, Int.reduceLT, Int.reduceLE, Int.reduceEq, ml_i0, ↓smc, sm]
  simp only [mapO, fz, fz_int]
  rfl
end Go.Am
