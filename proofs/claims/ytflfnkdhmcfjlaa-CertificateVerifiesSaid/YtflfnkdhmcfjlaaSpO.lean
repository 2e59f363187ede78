/- Edges of the program and lists of edges. -/
import Derived.Test.YtflfnkdhmcfjlaaSpN
namespace Go.Am
open Go
set_option linter.unusedSimpArgs false
set_option linter.unusedVariables false
set_option maxRecDepth 100000

def ends (e : Edge) : Int × Int := (e.fr, e.to)
def addE (l : List Edge) (x : Edge) : List Edge := if ends x ∈ l.map ends then l else l ++ [x]
def stE (s : Sys) (i : Nat) (c : Cls) (k : Nat) (x : Stp) : List Edge :=
  if waitsE s x = true then (hold s i c (c.steps.take k)).map fun f => ⟨f, target s x, i, k⟩ else []
def clE (s : Sys) (i : Nat) (c : Cls) : List Stp → Nat → List Edge
  | [], _ => []
  | x :: t, k => stE s i c k x ++ clE s i c t (k + 1)
def alE (s : Sys) : List Cls → Nat → List Edge
  | [], _ => []
  | c :: t, i => clE s i c c.steps 0 ++ alE s t (i + 1)
/-- The edges of the wait graph. -/
def edgesE (s : Sys) : List Edge := if chkE s ≠ 0 then [] else (alE s s.cls 0).foldl addE []

theorem hold_len {s : Sys} {i : Nat} {c : Cls} {l : List Stp} : (hold s i c l).length ≤ s.pools.length + s.locks.length + 1 := by
  have h1 := held0_len (l := l) (n := s.pools.length)
  have h2 := held1_len (p := s.pools.length) (l := l) (n := s.locks.length)
  unfold hold
  rw [List.length_append, List.length_append]
  cases c.srv <;> simp <;> omega

theorem look_pair {m : Mem} {h : Nat} {l : List (Int × Int)} {a b : Int} (hb : m.blk h = some (.map (seenV l))) : lookV m true false (.bool false) (.map h) (.agg [vi a, vi b]) = some (.bool (decide ((a, b) ∈ l))) := by
  have := look_seen (p := (a, b)) (l := l)
  simp only [lookV, keyIs, if_true, hb]
  rw [show V.agg [vi a, vi b] = pairV (a, b) from rfl, this]
  by_cases h : (a, b) ∈ l <;> simp [h]
theorem upd_pair {lo : Nat} {m : Mem} {h : Nat} {l : List (Int × Int)} {a b : Int} (hb : m.blk h = some (.map (seenV l))) (hl : lo ≤ h) (hn : (a, b) ∉ l) : ∃ m1, updV lo m true (.map h) (.agg [vi a, vi b]) (.bool true) = some m1 ∧ m1.next = m.next ∧ m1.blk h = some (.map (seenV (l ++ [(a, b)]))) ∧ ∀ k, k ≠ h → m1.blk k = m.blk k := by
  refine ⟨m.set h (some (.map (seenV (l ++ [(a, b)])))), ?_, rfl, by simp [Mem.set], fun k hk => set_ne hk⟩
  have := set_seen (p := (a, b)) (l := l) hn
  have k1 : (keyIs true (V.agg [vi a, vi b]) && (V.bool true).one) = true := rfl
  simp only [updV, k1, if_true, hl, hb]
  rw [show V.agg [vi a, vi b] = pairV (a, b) from rfl, this]
  rfl

/-- The slice of edges so far, and the map of their ends. -/
structure Ed (lo : Nat) (m : Mem) (v : V) (h : Nat) (l : List Edge) : Prop where
  rw : Rw lo m 4 v (l.map vEdge)
  lh : lo ≤ h
  hm : h < m.next
  bh : m.blk h = some (.map (seenV (l.map ends)))
  ne : ∀ s o k, v ≠ .row s h o k

theorem Ed.skip {lo h : Nat} {m : Mem} {v : V} {l : List Edge} {x : Edge} (H : Ed lo m v h l) (hx : ends x ∈ l.map ends) : Ed lo m v h (addE l x) := by
  unfold addE
  rw [if_pos hx]
  exact H

theorem Ed.add {lo h : Nat} {m : Mem} {v : V} {l : List Edge} {x : Edge} (H : Ed lo m v h l) (hx : ends x ∉ l.map ends) (hlo : lo ≤ m.next) (hl : l.length < 100000) :
    ∃ m1 v' m2, updV lo m true (.map h) (.agg [vi x.fr, vi x.to]) (.bool true) = some m1 ∧ apV lo m1.next m1 4 v (.lst false 4 [.agg [vi x.fr, vi x.to, vi x.cls, vi x.step]]) = some (v', m2) ∧ m.next ≤ m2.next ∧ Ed lo (m2.bump 1) v' h (addE l x) := by
  obtain ⟨m1, h1, h2, h3, h4⟩ := upd_pair H.bh H.lh hx
  have hr : Rw lo m1 4 v (l.map vEdge) := H.rw.mono (by omega) (fun k l hk => h4 k (by
    intro e
    subst e
    exact H.ne _ _ _ hk))
  obtain ⟨v', m2, a1, a2, a3, a4, a5, a6⟩ := hr.app2 (y := .lst false 4 [.agg [vi x.fr, vi x.to, vi x.cls, vi x.step]]) (by omega) vw_lst (.inl rfl) (by simp [big]; omega)
  refine ⟨m1, v', m2, h1, a1, by omega, ?_⟩
  have hm := H.hm
  have e : addE l x = l ++ [x] := by unfold addE; rw [if_neg hx]
  rw [e]
  refine ⟨by rw [List.map_append]; exact a2, H.lh, by show h < m2.next + 1; omega, ?_, fun s o k => ?_⟩
  · show m2.blk h = _
    rw [a5 h (fun l => H.ne _ _ _) (by omega), h3, List.map_append]
    rfl
  · rcases a6 with rfl | ⟨l, rfl⟩
    · exact fun h => by cases h
    · intro e
      cases e
      omega

theorem addE_len {l : List Edge} {x : Edge} : (addE l x).length ≤ l.length + 1 := by
  unfold addE
  split <;> simp
theorem foldl_addE_len : ∀ {xs l : List Edge}, (xs.foldl addE l).length ≤ l.length + xs.length
  | [], l => by simp
  | x :: xs, l => by
    have h1 := foldl_addE_len (xs := xs) (l := addE l x)
    have h2 := addE_len (l := l) (x := x)
    simp only [List.foldl_cons, List.length_cons]
    omega
theorem stE_len {s : Sys} (hv : Valid s) {i : Nat} {c : Cls} {k : Nat} {x : Stp} : (stE s i c k x).length ≤ 12 := by
  have h1 := hold_len (s := s) (i := i) (c := c) (l := c.steps.take k)
  have p6 := hv.p6
  have l4 := hv.l4
  unfold stE
  split <;> simp <;> omega
theorem clE_len {s : Sys} (hv : Valid s) {i : Nat} {c : Cls} : ∀ {t : List Stp} {k : Nat}, (clE s i c t k).length ≤ 12 * t.length
  | [], k => by simp [clE]
  | x :: t, k => by
    have h1 := clE_len hv (i := i) (c := c) (t := t) (k := k + 1)
    have h2 := stE_len hv (i := i) (c := c) (k := k) (x := x)
    simp only [clE, List.length_append, List.length_cons]
    omega

theorem sp35 {F : Nat → Option Fn} (hA : HasA F) (hB : HasB F) {lo : Nat} {m : Mem} (s : Sys) : callw F 35 [vSys s] lo m = some (.tup [vEdges (edgesE s), vi (chkE s)], m) := by
  have c0 : ∀ {lo m}, callw F 49 [vSys s] lo m = some (vi (chkE s), m) := fun {lo m} => sp49 hA s
  refine call_p hB.h35 rfl ?_
  by_cases h0 : chkE s = 0
  · have hv := valid_of h0
    have p6 := hv.p6
    have l4 := hv.l4
    have c6 := hv.c6
    have loop1 : ∀ (i k : Nat) (to : Int) (u1 u2 u3 u4 u5 : V) (hs : List Int), hs.length < 100 → ∀ (t : List Int) (j : Nat) (h : Nat) (v : V) (l : List Edge) (m' : Mem) (Q : Ex → St → Prop), hs.drop j = t → m.next ≤ m'.next → Ed m.next m' v h l → l.length + t.length < 10000 →
        (∀ v m' e, m.next ≤ m'.next → Ed m.next m' v h ((t.map fun f => (⟨f, to, i, k⟩ : Edge)).foldl addE l) → Q (.exit 4) ⟨(5, v) :: (6, .map h) :: (7, vi i) :: (8, vi k) :: (10, vi to) :: (22, u1) :: (23, u2) :: (31, u3) :: (32, u4) :: (33, u5) :: e, [(1, vSys s)], [], m'⟩) →
        W F m.next L35_1 ⟨[(5, v), (6, .map h), (7, vi i), (8, vi k), (10, vi to), (22, u1), (23, u2), (31, u3), (32, u4), (33, u5), (48, ints hs), (49, vi hs.length), (50, vi j)], [(1, vSys s)], [], m'⟩ Q := by
      intro i k to u1 u2 u3 u4 u5 hs hsl t
      induction t with
      | nil =>
        intro j h v l m' Q hd hm hE hl hq
        have hlt := drop_nil hd
        rw [W_L (c := L35_1) rfl]
        have : ¬ ((j : Nat) : Int) < (hs.length : Int) := by omega
        simp only [↓sxc, sx, se, ↓reduceIte, Nat.reduceEqDiff, Nat.reduceAdd, Nat.reduceLT, Nat.reduceLeDiff, Nat.reduceSub, Nat.reduceMul, Int.reduceToNat, Int.reduceLT, Int.reduceLE, Int.reduceEq, ml_i0, ↓smc, sm, this]
        exact hq v m' _ hm hE
      | cons f t ih =>
        intro j h v l m' Q hd hm hE hl hq
        obtain ⟨hg, hd', hlt⟩ := drop_cons hd
        rw [W_L (c := L35_1) rfl]
        have : ((j : Nat) : Int) < (hs.length : Int) := by omega
        have wr : wrapF .i64 ((j : Int) + 1) = ((j + 1 : Nat) : Int) := by rw [wr_i64 (by omega) (by omega)]; rfl
        have hlk := look_pair (a := f) (b := to) hE.bh
        by_cases hx : (f, to) ∈ l.map ends
        · have hx' : decide ((f, to) ∈ l.map ends) = true := by simp only [hx, decide_true]
          rw [hx'] at hlk
          simp only [↓sxc, sx, se, ↓reduceIte, Nat.reduceEqDiff, Nat.reduceAdd, Nat.reduceLT, Nat.reduceLeDiff, Nat.reduceSub, Nat.reduceMul, Int.reduceToNat, Int.reduceLT, Int.reduceLE, Int.reduceEq, ml_i0, ↓smc, sm, this, hg, hlk, wr]
          exact ih (j + 1) h v (addE l ⟨f, to, i, k⟩) m' Q hd' hm (hE.skip (x := ⟨f, to, i, k⟩) hx) (by have := addE_len (l := l) (x := ⟨f, to, i, k⟩); simp at hl; omega) hq
        · have hx' : decide ((f, to) ∈ l.map ends) = false := by simp only [hx, decide_false]
          rw [hx'] at hlk
          obtain ⟨m1, v', m2, hu, ha, hn, hE'⟩ := hE.add (x := ⟨f, to, i, k⟩) hx hm (by simp at hl; omega)
          simp only [↓sxc, sx, se, ↓reduceIte, Nat.reduceEqDiff, Nat.reduceAdd, Nat.reduceLT, Nat.reduceLeDiff, Nat.reduceSub, Nat.reduceMul, Int.reduceToNat, Int.reduceLT, Int.reduceLE, Int.reduceEq, ml_i0, ↓smc, sm, this, hg, hlk, wr, hu, ha]
          refine ih (j + 1) h v' (addE l ⟨f, to, i, k⟩) (m2.bump 1) Q hd' ?_ hE' (by have := addE_len (l := l) (x := ⟨f, to, i, k⟩); simp at hl; omega) hq
          show m.next ≤ m2.next + 1
          omega
    have loop2 : ∀ (i : Nat) (c : Cls) (hc : s.cls[i]? = some c) (t : List Stp) (k : Nat) (h : Nat) (v : V) (l : List Edge) (m' : Mem) (Q : Ex → St → Prop), c.steps.drop k = t → m.next ≤ m'.next → Ed m.next m' v h l → l.length + 12 * t.length < 5000 →
        (∀ v m' e, m.next ≤ m'.next → Ed m.next m' v h ((clE s i c t k).foldl addE l) → Q (.exit 2) ⟨(5, v) :: (6, .map h) :: (7, vi i) :: (22, vi s.cls.length) :: (23, vi i) :: e, [(1, vSys s)], [], m'⟩) →
        W F m.next L35_2 ⟨[(5, v), (6, .map h), (7, vi i), (22, vi s.cls.length), (23, vi i), (31, vStps c.steps), (32, vi c.steps.length), (33, vi k)], [(1, vSys s)], [], m'⟩ Q := by
      intro i c hc t
      have hcm := List.mem_of_getElem? hc
      have hl12 := (hv.okC c hcm).l12
      induction t with
      | nil =>
        intro k h v l m' Q hd hm hE hl hq
        have hlt := drop_nil hd
        rw [W_L (c := L35_2) rfl]
        have : ¬ ((k : Nat) : Int) < (c.steps.length : Int) := by omega
        simp only [↓sxc, sx, se, ↓reduceIte, Nat.reduceEqDiff, Nat.reduceAdd, Nat.reduceLT, Nat.reduceLeDiff, Nat.reduceSub, Nat.reduceMul, Int.reduceToNat, Int.reduceLT, Int.reduceLE, Int.reduceEq, ml_i0, ↓smc, sm, this]
        exact hq v m' _ hm hE
      | cons x t ih =>
        intro k h v l m' Q hd hm hE hl hq
        obtain ⟨hg, hd', hlt⟩ := drop_cons hd
        rw [W_L (c := L35_2) rfl]
        have : ((k : Nat) : Int) < (c.steps.length : Int) := by omega
        have wr : wrapF .i64 ((k : Int) + 1) = ((k + 1 : Nat) : Int) := by rw [wr_i64 (by omega) (by omega)]; rfl
        have hp := hv.pre hcm (List.mem_of_getElem? hg)
        have c1 : ∀ {lo m}, callw F 94 [vSys s, vStp x] lo m = some (.bool (waitsE s x), m) := fun {lo m} => sp94 hB s x hv hp
        cases hw : waitsE s x with
        | false =>
          rw [hw] at c1
          simp only [↓sxc, sx, se, ↓reduceIte, Nat.reduceEqDiff, Nat.reduceAdd, Nat.reduceLT, Nat.reduceLeDiff, Nat.reduceSub, Nat.reduceMul, Int.reduceToNat, Int.reduceLT, Int.reduceLE, Int.reduceEq, ml_i0, ↓smc, sm, this, hg, c1, wr]
          refine ih (k + 1) h v l m' Q hd' hm hE (by simp at hl; omega) (fun v m' e h1 h2 => hq v m' e h1 ?_)
          have : clE s i c (x :: t) k = clE s i c t (k + 1) := by simp [clE, stE, hw]
          rw [this]
          exact h2
        | true =>
          rw [hw] at c1
          have c2 : ∀ {lo m}, callw F 97 [vSys s, vStp x] lo m = some (vi (target s x), m) := fun {lo m} => sp97 hB s x hv hp
          have c3 : ∀ {lo m}, callw F 98 [vSys s, vi i, vi k] lo m = some (ints (hold s i c (c.steps.take k)), m) := fun {lo m} => sp98 hA hB s h0 i k c hc (by omega)
          have hhl := hold_len (s := s) (i := i) (c := c) (l := c.steps.take k)
          simp only [↓sxc, sx, se, ↓reduceIte, Nat.reduceEqDiff, Nat.reduceAdd, Nat.reduceLT, Nat.reduceLeDiff, Nat.reduceSub, Nat.reduceMul, Int.reduceToNat, Int.reduceLT, Int.reduceLE, Int.reduceEq, ml_i0, ↓smc, sm, this, hg, c1, c2, c3]
          refine loop1 i k (target s x) _ _ _ _ _ (hold s i c (c.steps.take k)) (by omega) _ 0 h v l m' _ rfl hm hE (by simp at hl; simp only [List.length_drop]; omega) (fun v m' e h1 h2 => ?_)
          have e1 : ((hold s i c (c.steps.take k)).map fun f => (⟨f, target s x, i, k⟩ : Edge)) = stE s i c k x := by unfold stE; rw [if_pos hw]
          rw [List.drop_zero, e1] at h2
          have hsl := stE_len hv (i := i) (c := c) (k := k) (x := x)
          have hfl := foldl_addE_len (xs := stE s i c k x) (l := l)
          simp only [↓sxc, sx, se, ↓reduceIte, Nat.reduceEqDiff, Nat.reduceAdd, Nat.reduceLT, Nat.reduceLeDiff, Nat.reduceSub, Nat.reduceMul, Int.reduceToNat, Int.reduceLT, Int.reduceLE, Int.reduceEq, ml_i0, ↓smc, sm, wr]
          refine ih (k + 1) h v _ m' Q hd' h1 h2 (by simp at hl; omega) (fun v m' e h1 h2 => hq v m' e h1 ?_)
          have : clE s i c (x :: t) k = stE s i c k x ++ clE s i c t (k + 1) := rfl
          rw [this, List.foldl_append]
          exact h2
    have loop3 : ∀ (t : List Cls) (i : Nat) (h : Nat) (v : V) (l : List Edge) (m' : Mem) (Q : Ex → St → Prop), s.cls.drop i = t → m.next ≤ m'.next → Ed m.next m' v h l → l.length + 144 * t.length < 4000 →
        (∀ v m' e, m.next ≤ m'.next → Ed m.next m' v h ((alE s t i).foldl addE l) → Q (.exit 0) ⟨(5, v) :: e, [(1, vSys s)], [], m'⟩) →
        W F m.next L35_3 ⟨[(5, v), (6, .map h), (22, vi s.cls.length), (23, vi i)], [(1, vSys s)], [], m'⟩ Q := by
      intro t
      induction t with
      | nil =>
        intro i h v l m' Q hd hm hE hl hq
        have hlt := drop_nil hd
        rw [W_L (c := L35_3) rfl]
        have : ¬ ((i : Nat) : Int) < (s.cls.length : Int) := by omega
        simp only [↓sxc, sx, se, ↓reduceIte, Nat.reduceEqDiff, Nat.reduceAdd, Nat.reduceLT, Nat.reduceLeDiff, Nat.reduceSub, Nat.reduceMul, Int.reduceToNat, Int.reduceLT, Int.reduceLE, Int.reduceEq, ml_i0, ↓smc, sm, this]
        exact hq v m' _ hm hE
      | cons c t ih =>
        intro i h v l m' Q hd hm hE hl hq
        obtain ⟨hg, hd', hlt⟩ := drop_cons hd
        rw [W_L (c := L35_3) rfl]
        have : ((i : Nat) : Int) < (s.cls.length : Int) := by omega
        have wr : wrapF .i64 ((i : Int) + 1) = ((i + 1 : Nat) : Int) := by rw [wr_i64 (by omega) (by omega)]; rfl
        have hl12 := (hv.okC c (List.mem_of_getElem? hg)).l12
        simp only [↓sxc, sx, se, ↓reduceIte, Nat.reduceEqDiff, Nat.reduceAdd, Nat.reduceLT, Nat.reduceLeDiff, Nat.reduceSub, Nat.reduceMul, Int.reduceToNat, Int.reduceLT, Int.reduceLE, Int.reduceEq, ml_i0, ↓smc, sm, this, hg]
        refine loop2 i c hg c.steps 0 h v l m' _ rfl hm hE (by simp at hl; omega) (fun v m' e h1 h2 => ?_)
        have hcl := clE_len hv (i := i) (c := c) (t := c.steps) (k := 0)
        have hfl := foldl_addE_len (xs := clE s i c c.steps 0) (l := l)
        simp only [↓sxc, sx, se, ↓reduceIte, Nat.reduceEqDiff, Nat.reduceAdd, Nat.reduceLT, Nat.reduceLeDiff, Nat.reduceSub, Nat.reduceMul, Int.reduceToNat, Int.reduceLT, Int.reduceLE, Int.reduceEq, ml_i0, ↓smc, sm, wr]
        refine ih (i + 1) h v _ m' Q hd' h1 h2 (by simp at hl; omega) (fun v m' e h1 h2 => hq v m' e h1 ?_)
        have : alE s (c :: t) i = clE s i c c.steps 0 ++ alE s t (i + 1) := rfl
        rw [this, List.foldl_append]
        exact h2
    simp only [↓sxc, sx, se, ↓reduceIte, Nat.reduceEqDiff, Nat.reduceAdd, Nat.reduceLT, Nat.reduceLeDiff, Nat.reduceSub, Nat.reduceMul, Int.reduceToNat, Int.reduceLT, Int.reduceLE, Int.reduceEq, ml_i0, ↓smc, sm, c0, h0]
    refine loop3 s.cls 0 m.next .nil [] _ _ rfl (by simp [Mem.bump, Mem.set]) ⟨.nil, Nat.le_refl _, by simp [Mem.bump, Mem.set], by simp [Mem.bump, Mem.set, seenV], fun _ _ _ h => by cases h⟩ (by simp; omega) (fun v m' e h1 h2 => ?_)
    have e : edgesE s = (alE s s.cls 0).foldl addE [] := by simp [edgesE, h0]
    simp only [↓sxc, sx, se, ↓reduceIte, Nat.reduceEqDiff, Nat.reduceAdd, Nat.reduceLT, Nat.reduceLeDiff, Nat.reduceSub, Nat.reduceMul, Int.reduceToNat, Int.reduceLT, Int.reduceLE, Int.reduceEq, ml_i0, ↓smc, sm]
    simp only [mapO]
    rw [h2.rw.freeze, mapO_id (fun x hx => by
      obtain ⟨y, _, rfl⟩ := List.mem_map.1 hx
      rfl), e]
    rfl
  · have e : edgesE s = [] := by simp [edgesE, h0]
    simp only [↓sxc, sx, se, ↓reduceIte, Nat.reduceEqDiff, Nat.reduceAdd, Nat.reduceLT, Nat.reduceLeDiff, Nat.reduceSub, Nat.reduceMul, Int.reduceToNat, Int.reduceLT, Int.reduceLE, Int.reduceEq, ml_i0, ↓smc, sm, c0, h0, e]
    rfl

end Go.Am
