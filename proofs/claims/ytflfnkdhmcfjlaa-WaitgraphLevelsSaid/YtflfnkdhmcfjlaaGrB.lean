/- Levels: the first loops. -/
import Derived.Test.YtflfnkdhmcfjlaaGrA
namespace Go.Am
open Go
set_option linter.unusedSimpArgs false
set_option linter.unusedVariables false
set_option maxRecDepth 100000

/-! ### Edges by an end -/
def buck (key : Edge → Int) (val : Nat → Edge → Int) : List Edge → Nat → Int → List Int
  | [], _, _ => []
  | e :: t, i, w => (if key e = w then [val i e] else []) ++ buck key val t (i + 1) w
theorem buck_snoc {key : Edge → Int} {val : Nat → Edge → Int} {e : Edge} {w : Int} : ∀ {p : List Edge} {i : Nat}, buck key val (p ++ [e]) i w = buck key val p i w ++ if key e = w then [val (i + p.length) e] else []
  | [], i => by simp [buck]
  | x :: p, i => by
    rw [List.cons_append, buck, buck, buck_snoc (p := p), List.append_assoc, List.length_cons, show i + 1 + p.length = i + (p.length + 1) by omega]
theorem buck_len {key : Edge → Int} {val : Nat → Edge → Int} {w : Int} : ∀ {p : List Edge} {i : Nat}, (buck key val p i w).length ≤ p.length
  | [], i => by simp [buck]
  | x :: p, i => by
    have := buck_len (key := key) (val := val) (w := w) (p := p) (i := i + 1)
    rw [buck, List.length_append, List.length_cons]
    split <;> simp <;> omega
def bucks (key : Edge → Int) (val : Nat → Edge → Int) (N : Nat) (l : List Edge) : List (List Int) := (List.range N).map fun (w : Nat) => buck key val l 0 (w : Int)
theorem bucks_get {key : Edge → Int} {val : Nat → Edge → Int} {N : Nat} {l : List Edge} {b : Nat} (h : b < N) : (bucks key val N l)[b]? = some (buck key val l 0 b) := by simp [bucks, h]
theorem bucks_len {key : Edge → Int} {val : Nat → Edge → Int} {N : Nat} {l : List Edge} : (bucks key val N l).length = N := by simp [bucks]
theorem bucks_push {key : Edge → Int} {val : Nat → Edge → Int} {N : Nat} {p : List Edge} {e : Edge} {b : Nat} (hk : key e = b) (hb : b < N) : (bucks key val N p).set b (buck key val p 0 b ++ [val p.length e]) = bucks key val N (p ++ [e]) := by
  refine List.ext_getElem? fun j => ?_
  by_cases hj : j < N
  · rw [bucks_get hj, buck_snoc, Nat.zero_add]
    by_cases hjb : j = b
    · subst hjb
      rw [List.getElem?_set_self (by rw [bucks_len]; exact hj), if_pos hk]
    · rw [List.getElem?_set_ne (Ne.symm hjb), bucks_get hj, if_neg (by rw [hk]; omega), List.append_nil]
  · rw [List.getElem?_eq_none (by simp [bucks_len]; omega), List.getElem?_eq_none (by simp [bucks_len]; omega)]

/-- How many edges begin at a node. -/
def cntF (l : List Edge) (v : Nat) : Int := (l.countP fun e => decide (e.fr = (v : Int)) : Nat)
def cnts (N : Nat) (l : List Edge) : List Int := (List.range N).map (cntF l)
theorem cnts_get {N : Nat} {l : List Edge} {v : Nat} (h : v < N) : (cnts N l)[v]? = some (cntF l v) := by simp [cnts, h]
theorem cnts_push {N : Nat} {p : List Edge} {e : Edge} {a : Nat} (ha : e.fr = a) (hb : a < N) : (cnts N p).set a (cntF p a + 1) = cnts N (p ++ [e]) := by
  refine List.ext_getElem? fun j => ?_
  by_cases hj : j < N
  · rw [cnts_get hj]
    by_cases hja : j = a
    · subst hja
      rw [List.getElem?_set_self (by simp [cnts]; exact hj)]
      simp [cntF, ha]
    · rw [List.getElem?_set_ne (Ne.symm hja), cnts_get hj]
      have : ¬ e.fr = (j : Int) := by omega
      simp [cntF, this]
  · rw [List.getElem?_eq_none (by simp [cnts]; omega), List.getElem?_eq_none (by simp [cnts]; omega)]
theorem cntF_bd {l : List Edge} {v : Nat} : 0 ≤ cntF l v ∧ cntF l v ≤ l.length := by
  unfold cntF
  have := List.countP_le_length (p := fun e : Edge => decide (e.fr = (v : Int))) (l := l)
  omega

/-- A row of numbers. -/
structure IR (lo : Nat) (m : Mem) (h : Nat) (xs : List Int) : Prop where
  lh : lo ≤ h
  hm : h < m.next
  b : m.blk h = some (.row 1 (xs.map vi))
theorem IR.mono {lo h : Nat} {m m' : Mem} {xs : List Int} (H : IR lo m h xs) (hn : m.next ≤ m'.next) (hb : m'.blk h = m.blk h) : IR lo m' h xs := ⟨H.lh, Nat.lt_of_lt_of_le H.hm hn, by rw [hb]; exact H.b⟩
theorem IR.set {lo h : Nat} {m : Mem} {xs : List Int} (H : IR lo m h xs) (ys : List Int) : IR lo (m.set h (some (.row 1 (ys.map vi)))) h ys := ⟨H.lh, H.hm, by simp [Mem.set]⟩

def frV (_ : Nat) (e : Edge) : Int := e.fr
def ixV (i : Nat) (_ : Edge) : Int := i
abbrev inL (l : List Edge) (w : Int) : List Int := buck Edge.to frV l 0 w

theorem w41_1 {F : Nat → Option Fn} {lo : Nat} {n : Int} (l : List Edge) (gr : Gr n l) (hl : l.length < 100000) (N : Nat) (hN : n = N) (h7 h8 : Nat) (hhq : h8 ≠ h7) : ∀ (t : List Edge) (j : Nat) (es : List V) (m : Mem) (Q : Ex → St → Prop), l.drop j = t → lo ≤ m.next → IR lo m h7 (cnts N (l.take j)) → NestB lo m h8 h7 (bucks Edge.to frV N (l.take j)) es →
    (∀ es m' e, m.next ≤ m'.next → IR lo m' h7 (cnts N l) → NestB lo m' h8 h7 (bucks Edge.to frV N l) es → Q (.exit 0) ⟨(0, vi n) :: (7, .row 1 h7 0 N) :: (8, .row 1 h8 0 N) :: e, [], [], m'⟩) →
    W F lo L41_1 ⟨[(0, vi n), (7, .row 1 h7 0 N), (8, .row 1 h8 0 N), (28, vEdges l), (29, vi l.length), (30, vi j)], [], [], m⟩ Q := by
  intro t
  induction t with
  | nil =>
    intro j es m Q hd hm h1 h2 hq
    have hlt := drop_nil hd
    rw [W_L (c := L41_1) rfl]
    have : ¬ ((j : Nat) : Int) < (l.length : Int) := by omega
    simp only [↓sxc, sx, se, ↓reduceIte, Nat.reduceEqDiff, Nat.reduceAdd, Nat.reduceLT, Nat.reduceLeDiff, Nat.reduceSub, Nat.reduceMul, Int.reduceToNat, Int.reduceLT, Int.reduceLE, Int.reduceEq, ml_i0, ↓smc, sm, this]
    rw [List.take_of_length_le hlt] at h1 h2
    exact hq es m _ (Nat.le_refl _) h1 h2
  | cons x t ih =>
    intro j es m Q hd hm h1 h2 hq
    obtain ⟨hg, hd', hlt⟩ := drop_cons hd
    rw [W_L (c := L41_1) rfl]
    have : ((j : Nat) : Int) < (l.length : Int) := by omega
    have wr : wrapF .i64 ((j : Int) + 1) = ((j + 1 : Nat) : Int) := by rw [wr_i64 (by omega) (by omega)]; rfl
    obtain ⟨a, b, ha, hb, ha2, hb2⟩ := gr.e x (List.mem_of_getElem? hg)
    subst hN
    have aN : a < N := by omega
    have bN : b < N := by omega
    have ai : (a : Int) < (N : Int) := ha2
    have bi : (b : Int) < (N : Int) := hb2
    have a0 : (0 : Int) ≤ a := by omega
    have b0 : (0 : Int) ≤ b := by omega
    have an : ((a : Nat) : Int).toNat = a := rfl
    have bn : ((b : Nat) : Int).toNat = b := rfl
    have ga := cnts_get (l := l.take j) aN
    have cb := cntF_bd (l := l.take j) (v := a)
    have hlj : ((l.take j).length : Int) ≤ l.length := by simp; omega
    have w1 : wrapF .i64 (cntF (l.take j) a + 1) = cntF (l.take j) a + 1 := wr_i64 (by omega) (by omega)
    have hb7 := h1.b
    have hl7 := h1.lh
    have hl8 := h2.lh
    let m1 : Mem := m.set h7 (some (.row 1 ((cnts N (l.take (j + 1))).map vi)))
    have ep : (cnts N (l.take j)).set a (cntF (l.take j) a + 1) = cnts N (l.take (j + 1)) := by rw [cnts_push ha aN, take_succ_drop hd]
    have em : m.set h7 (some (.row 1 (((cnts N (l.take j)).map vi).set a (vi (cntF (l.take j) a + 1))))) = m1 := by
      show _ = m.set h7 (some (.row 1 ((cnts N (l.take (j + 1))).map vi)))
      rw [← ep, List.map_set]
    have h1' : IR lo m1 h7 (cnts N (l.take (j + 1))) := h1.set _
    have h2' : NestB lo m1 h8 h7 (bucks Edge.to frV N (l.take j)) es := h2.mono (Nat.le_refl _) (fun k hk _ => set_ne hk) hhq
    have n1 : m1.next = m.next := rfl
    have hbl := buck_len (key := Edge.to) (val := frV) (w := (b : Int)) (p := l.take j) (i := 0)
    obtain ⟨v, v', m2, q1, qc, q2, q3, q4, q5, q6, q7, q8⟩ := h2'.push 14 (m1.next + 11) (by omega) (by omega) (by omega) (by rw [n1]; exact h1.hm) (bucks_get bN) (by omega) (a : Int)
    have hb8 := h2'.bh
    rw [n1] at q2
    clear_value m1
    simp only [↓sxc, sx, se, ↓reduceIte, Nat.reduceEqDiff, Nat.reduceAdd, Nat.reduceLT, Nat.reduceLeDiff, Nat.reduceSub, Nat.reduceMul, Int.reduceToNat, Int.reduceLT, Int.reduceLE, Int.reduceEq, ml_i0, ↓W_dreg, ↓sk, sk, ↓smc, sm, this, hg, ha, hb, ai, bi, a0, b0, an, bn, hb7, hl7, ga, w1, em, hb8, hl8, q1, q2, q3, q4, qc, wr, n1]
    have e8 : (bucks Edge.to frV N (l.take j)).set b (buck Edge.to frV (l.take j) 0 b ++ [(a : Int)]) = bucks Edge.to frV N (l.take (j + 1)) := by
      rw [take_succ_drop hd, ← bucks_push hb bN]
      simp only [frV, ha]
    rw [e8] at q8
    refine ⟨by simp [pairsOk, nth_eq, pk_nest], ?_⟩
    refine ih (j + 1) _ _ Q hd' ?_ (h1'.mono ?_ ?_) q8 (fun es m' e p1 p2 p3 => hq es m' e ?_ p2 p3)
    · show lo ≤ m2.next; omega
    · show m1.next ≤ m2.next; omega
    · rw [set_ne (Ne.symm hhq)]; exact q7
    · have p1' : m2.next ≤ m'.next := p1
      omega

def zeros (xs : List Int) (j : Nat) : List Int := ((List.range j).filter fun (i : Nat) => decide (xs[i]? = some 0)).map fun (i : Nat) => (i : Int)
theorem zeros_succ {xs : List Int} {j : Nat} {x : Int} (h : xs[j]? = some x) : zeros xs (j + 1) = zeros xs j ++ if x = 0 then [(j : Int)] else [] := by
  unfold zeros
  rw [List.range_succ, List.filter_append, List.map_append]
  by_cases hx : x = 0
  · subst hx; simp [h]
  · have : ¬ xs[j]? = some 0 := by rw [h]; simpa using hx
    simp [this, hx]
theorem zeros_len {xs : List Int} {j : Nat} : (zeros xs j).length ≤ j := by
  unfold zeros
  rw [List.length_map]
  exact Nat.le_trans (List.length_filter_le ..) (by simp)

/-- A slice built by append whose block is none of the first b. -/
structure Qs (lo : Nat) (m : Mem) (b : Nat) (v : V) (xs : List Int) : Prop where
  rw : Rw lo m 1 v (xs.map vi)
  nb : ∀ k, hOf v = some k → b ≤ k
  bn : b ≤ m.next
theorem Qs.push {lo b : Nat} {m : Mem} {v : V} {xs : List Int} (H : Qs lo m b v xs) (hlo : lo ≤ m.next) (hb : xs.length < 1000000) (x : Int) :
    ∃ v' m', apV lo m.next m 1 v (.lst false 1 [vi x]) = some (v', m') ∧ Qs lo (m'.bump 1) b v' (xs ++ [x]) ∧ m'.next = m.next ∧ ∀ k, k < b → m'.blk k = m.blk k := by
  obtain ⟨v', m', h1, h2, h3, _, h4, h5⟩ := H.rw.app2 (y := .lst false 1 [vi x]) hlo vw_lst (.inl rfl) (by simp [big]; omega)
  refine ⟨v', m', h1, ⟨by rw [List.map_append]; exact h2, fun k hk => ?_, by show b ≤ m'.next + 1; have := H.bn; omega⟩, h3, fun k hk => h4 k (fun l hv => ?_) (by have := H.bn; omega)⟩
  · rcases h5 with rfl | ⟨l, rfl⟩
    · cases hk
    · cases hk; exact H.bn
  · have := H.nb k (by rw [hv]; rfl)
    omega
theorem Qs.mono {lo b : Nat} {m m' : Mem} {v : V} {xs : List Int} (H : Qs lo m b v xs) (hn : m.next ≤ m'.next) (hb : ∀ k, b ≤ k → k < m.next → m'.blk k = m.blk k) : Qs lo m' b v xs :=
  ⟨H.rw.mono hn (fun k l hk => by
    subst hk
    obtain ⟨_, _, h4, _⟩ := H.rw.hand (k := k) rfl
    exact hb k (H.nb k rfl) h4), H.nb, Nat.le_trans H.bn hn⟩
theorem IR.len {lo h : Nat} {m : Mem} {xs : List Int} (H : IR lo m h xs) : True := trivial

theorem w41_2 {F : Nat → Option Fn} {lo : Nat} {n : Int} (N : Nat) (hN : N ≤ 4096) (h7 b : Nat) (h7b : h7 < b) (u8 u11 : V) (xs : List Int) (hx : xs.length = N) : ∀ (r j : Nat) (v : V) (m : Mem) (Q : Ex → St → Prop), j + r = N → lo ≤ m.next → IR lo m h7 xs → Qs lo m b v (zeros xs j) →
    (∀ v m' e, m.next ≤ m'.next → Qs lo m' b v (zeros xs N) → (∀ k, k < b → m'.blk k = m.blk k) → Q (.exit 2) ⟨(0, vi n) :: (7, .row 1 h7 0 N) :: (8, u8) :: (11, u11) :: (12, v) :: e, [], [], m'⟩) →
    W F lo L41_2 ⟨[(0, vi n), (7, .row 1 h7 0 N), (8, u8), (11, u11), (12, v), (57, .row 1 h7 0 N), (58, vi N), (59, vi j)], [], [], m⟩ Q := by
  intro r
  induction r with
  | zero =>
    intro j v m Q hj hm h1 h2 hq
    rw [W_L (c := L41_2) rfl]
    have : ¬ ((j : Nat) : Int) < (N : Int) := by omega
    simp only [↓sxc, sx, se, ↓reduceIte, Nat.reduceEqDiff, Nat.reduceAdd, Nat.reduceLT, Nat.reduceLeDiff, Nat.reduceSub, Nat.reduceMul, Int.reduceToNat, Int.reduceLT, Int.reduceLE, Int.reduceEq, ml_i0, ↓smc, sm, this]
    exact hq v m _ (Nat.le_refl _) (by rw [← show j = N by omega]; exact h2) (fun _ _ => rfl)
  | succ r ih =>
    intro j v m Q hj hm h1 h2 hq
    rw [W_L (c := L41_2) rfl]
    have : ((j : Nat) : Int) < (N : Int) := by omega
    have wr : wrapF .i64 ((j : Int) + 1) = ((j + 1 : Nat) : Int) := by rw [wr_i64 (by omega) (by omega)]; rfl
    have hg : xs[j]? = some (xs[j]'(by omega)) := List.getElem?_eq_getElem _
    generalize xs[j]'(by omega) = x at hg
    have hb7 := h1.b
    have hzl := zeros_len (xs := xs) (j := j)
    by_cases hx0 : x = 0
    · obtain ⟨v', m', q1, q2, q3, q4⟩ := h2.push hm (by omega) (j : Int)
      simp only [↓sxc, sx, se, ↓reduceIte, Nat.reduceEqDiff, Nat.reduceAdd, Nat.reduceLT, Nat.reduceLeDiff, Nat.reduceSub, Nat.reduceMul, Int.reduceToNat, Int.reduceLT, Int.reduceLE, Int.reduceEq, ml_i0, ↓smc, sm, this, hb7, hg, hx0, q1, wr]
      refine ih (j + 1) v' _ Q (by omega) (by show lo ≤ m'.next + 1; omega) (h1.mono (by show m.next ≤ m'.next + 1; omega) (q4 h7 h7b)) (by rw [zeros_succ hg, if_pos hx0]; exact q2) (fun v m2 e p1 p2 p3 => hq v m2 e ?_ p2 (fun k hk => by rw [p3 k hk]; exact q4 k hk))
      have : m'.next + 1 ≤ m2.next := p1
      omega
    · simp only [↓sxc, sx, se, ↓reduceIte, Nat.reduceEqDiff, Nat.reduceAdd, Nat.reduceLT, Nat.reduceLeDiff, Nat.reduceSub, Nat.reduceMul, Int.reduceToNat, Int.reduceLT, Int.reduceLE, Int.reduceEq, ml_i0, ↓smc, sm, this, hb7, hg, hx0, wr]
      exact ih (j + 1) v m Q (by omega) hm h1 (by rw [zeros_succ hg, if_neg hx0, List.append_nil]; exact h2) hq
end Go.Am
