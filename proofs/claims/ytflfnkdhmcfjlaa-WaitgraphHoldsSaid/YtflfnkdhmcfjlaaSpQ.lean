/- The law on holdings and edges: the facts and the walk. -/
import Derived.Test.YtflfnkdhmcfjlaaSpP
import Derived.Test.YtflfnkdhmcfjlaaCW
namespace Go.Am
open Go
set_option linter.unusedSimpArgs false
set_option linter.unusedVariables false
set_option maxRecDepth 100000

/-! ### Plain facts -/
theorem mem_foldl_addE {y : Edge} : ∀ {xs l : List Edge}, y ∈ xs.foldl addE l → y ∈ l ∨ y ∈ xs
  | [], l, h => .inl h
  | x :: xs, l, h => by
    rcases mem_foldl_addE (xs := xs) (l := addE l x) h with h | h
    · unfold addE at h
      split at h
      · exact .inl h
      · rcases List.mem_append.1 h with h | h
        · exact .inl h
        · exact .inr (by simp at h; simp [h])
    · exact .inr (by simp [h])
theorem addE_ends {l : List Edge} {x : Edge} : ends x ∈ (addE l x).map ends := by
  unfold addE
  split
  · assumption
  · simp
theorem addE_mono {l : List Edge} {x : Edge} {p : Int × Int} (h : p ∈ l.map ends) : p ∈ (addE l x).map ends := by
  unfold addE
  split
  · exact h
  · rw [List.map_append]; exact List.mem_append_left _ h
theorem foldl_addE_ends {p : Int × Int} : ∀ {xs l : List Edge}, p ∈ l.map ends ∨ p ∈ xs.map ends → p ∈ (xs.foldl addE l).map ends
  | [], l, h => by simpa using h
  | x :: xs, l, h => by
    refine foldl_addE_ends (xs := xs) (l := addE l x) ?_
    rcases h with h | h
    · exact .inl (addE_mono h)
    · rw [List.map_cons] at h
      rcases List.mem_cons.1 h with rfl | h
      · exact .inl addE_ends
      · exact .inr h
theorem edgesE_sub {s : Sys} {y : Edge} (h : y ∈ edgesE s) : y ∈ alE s s.cls 0 := by
  unfold edgesE at h
  split at h
  · simp at h
  · rcases mem_foldl_addE h with h | h
    · simp at h
    · exact h
theorem edgesE_all {s : Sys} (h0 : chkE s = 0) {e : Edge} (h : e ∈ alE s s.cls 0) : ∃ y ∈ edgesE s, y.fr = e.fr ∧ y.to = e.to := by
  have h1 : ends e ∈ (edgesE s).map ends := by
    unfold edgesE
    rw [if_neg (by simpa using h0)]
    exact foldl_addE_ends (.inr (List.mem_map_of_mem h))
  obtain ⟨y, hy, h2⟩ := List.mem_map.1 h1
  simp only [ends, Prod.mk.injEq] at h2
  exact ⟨y, hy, h2⟩

theorem edgesE_len' {s : Sys} (h0 : chkE s = 0) : (edgesE s).length ≤ 864 := by
  unfold edgesE
  rw [if_neg (by simpa using h0)]
  have hv := valid_of h0
  have h1 := alE_len hv (t := s.cls) (i := 0) (fun c hc => hc)
  have h2 := foldl_addE_len (xs := alE s s.cls 0) (l := [])
  have := hv.c6
  simp at h2
  omega

theorem mem_clE {s : Sys} {i : Nat} {c : Cls} {e : Edge} : ∀ {t : List Stp} {k : Nat}, e ∈ clE s i c t k → ∃ (j : Nat) (x : Stp), t[j]? = some x ∧ e ∈ stE s i c (k + j) x
  | [], k, h => by simp [clE] at h
  | x :: t, k, h => by
    unfold clE at h
    rcases List.mem_append.1 h with h | h
    · exact ⟨0, x, rfl, h⟩
    · obtain ⟨j, y, h1, h2⟩ := mem_clE h
      exact ⟨j + 1, y, h1, by rw [show k + (j + 1) = k + 1 + j by omega]; exact h2⟩
theorem clE_mem {s : Sys} {i : Nat} {c : Cls} {e : Edge} : ∀ {t : List Stp} {k j : Nat} {x : Stp}, t[j]? = some x → e ∈ stE s i c (k + j) x → e ∈ clE s i c t k
  | [], k, j, x, h, _ => by simp at h
  | y :: t, k, 0, x, h, h2 => by
    simp at h
    subst h
    exact List.mem_append_left _ h2
  | y :: t, k, j + 1, x, h, h2 => by
    refine List.mem_append_right _ (clE_mem (j := j) (x := x) (by simpa using h) ?_)
    rw [show k + 1 + j = k + (j + 1) by omega]
    exact h2
theorem mem_alE {s : Sys} {e : Edge} : ∀ {t : List Cls} {i : Nat}, e ∈ alE s t i → ∃ (j : Nat) (c : Cls), t[j]? = some c ∧ e ∈ clE s (i + j) c c.steps 0
  | [], i, h => by simp [alE] at h
  | c :: t, i, h => by
    unfold alE at h
    rcases List.mem_append.1 h with h | h
    · exact ⟨0, c, rfl, h⟩
    · obtain ⟨j, d, h1, h2⟩ := mem_alE h
      exact ⟨j + 1, d, h1, by rw [show i + (j + 1) = i + 1 + j by omega]; exact h2⟩
theorem alE_mem {s : Sys} {e : Edge} : ∀ {t : List Cls} {i j : Nat} {c : Cls}, t[j]? = some c → e ∈ clE s (i + j) c c.steps 0 → e ∈ alE s t i
  | [], i, j, c, h, _ => by simp at h
  | d :: t, i, 0, c, h, h2 => by
    simp at h
    subst h
    exact List.mem_append_left _ h2
  | d :: t, i, j + 1, c, h, h2 => by
    refine List.mem_append_right _ (alE_mem (j := j) (c := c) (by simpa using h) ?_)
    rw [show i + 1 + j = i + (j + 1) by omega]
    exact h2
/-- An edge that stands in the list comes from a step of a class. -/
theorem edge_from {s : Sys} {e : Edge} (h : e ∈ alE s s.cls 0) : ∃ (i k : Nat) (c : Cls) (x : Stp), s.cls[i]? = some c ∧ c.steps[k]? = some x ∧ waitsE s x = true ∧ e.fr ∈ hold s i c (c.steps.take k) ∧ e.to = target s x ∧ e.cls = i ∧ e.step = k := by
  obtain ⟨i, c, h1, h2⟩ := mem_alE h
  obtain ⟨k, x, h3, h4⟩ := mem_clE h2
  rw [Nat.zero_add] at h2 h4
  rw [Nat.zero_add] at h4
  unfold stE at h4
  split at h4
  · rename_i hw
    obtain ⟨f, h5, rfl⟩ := List.mem_map.1 h4
    exact ⟨i, k, c, x, h1, h3, hw, h5, rfl, rfl, rfl⟩
  · simp at h4
theorem edge_to {s : Sys} {i k : Nat} {c : Cls} {x : Stp} {f : Int} (h1 : s.cls[i]? = some c) (h2 : c.steps[k]? = some x) (hw : waitsE s x = true) (hf : f ∈ hold s i c (c.steps.take k)) : (⟨f, target s x, i, k⟩ : Edge) ∈ alE s s.cls 0 := by
  refine alE_mem h1 (clE_mem h2 ?_)
  rw [Nat.zero_add, Nat.zero_add]
  unfold stE
  rw [if_pos hw]
  exact List.mem_map.2 ⟨f, hf, rfl⟩

theorem mem_hold {s : Sys} {i : Nat} {c : Cls} {L : List Stp} {r : Nat} : (r : Int) ∈ hold s i c L ↔ (r < s.pools.length ∧ 0 < bal (r : Int) 0 L) ∨ (s.pools.length ≤ r ∧ r < s.pools.length + s.locks.length ∧ 0 < bal ((r - s.pools.length : Nat) : Int) 1 L) ∨ (c.srv = true ∧ r = s.pools.length + s.locks.length + i) := by
  unfold hold
  rw [List.mem_append, List.mem_append]
  constructor
  · rintro ((h | h) | h)
    · simp only [held0, List.mem_map, List.mem_filter, List.mem_range, decide_eq_true_eq] at h
      obtain ⟨j, ⟨h1, h2⟩, h3⟩ := h
      have : j = r := by omega
      subst this
      exact .inl ⟨h1, h2⟩
    · simp only [held1, List.mem_map, List.mem_filter, List.mem_range, decide_eq_true_eq] at h
      obtain ⟨j, ⟨h1, h2⟩, h3⟩ := h
      have : j = r - s.pools.length := by omega
      subst this
      exact .inr (.inl ⟨by omega, by omega, h2⟩)
    · split at h
      · rename_i hs
        simp at h
        exact .inr (.inr ⟨hs, by omega⟩)
      · simp at h
  · rintro (⟨h1, h2⟩ | ⟨h1, h2, h3⟩ | ⟨h1, h2⟩)
    · exact .inl (.inl (List.mem_map.2 ⟨r, by simp [h1, h2], rfl⟩))
    · exact .inl (.inr (List.mem_map.2 ⟨r - s.pools.length, by simp [h3]; omega, by omega⟩))
    · exact .inr (by rw [if_pos h1]; simp; omega)
theorem hold_nat {s : Sys} {i : Nat} {c : Cls} {L : List Stp} {f : Int} (h : f ∈ hold s i c L) (hi : i < s.cls.length) : ∃ r : Nat, f = r ∧ r < s.pools.length + s.locks.length + s.cls.length := by
  unfold hold at h
  rw [List.mem_append, List.mem_append] at h
  rcases h with (h | h) | h
  · simp only [held0, List.mem_map, List.mem_filter, List.mem_range] at h
    obtain ⟨j, ⟨h1, _⟩, rfl⟩ := h
    exact ⟨j, rfl, by omega⟩
  · simp only [held1, List.mem_map, List.mem_filter, List.mem_range] at h
    obtain ⟨j, ⟨h1, _⟩, rfl⟩ := h
    exact ⟨s.pools.length + j, by omega, by omega⟩
  · split at h
    · simp at h
      exact ⟨s.pools.length + s.locks.length + i, by omega, by omega⟩
    · simp at h

/-! ### The walk -/
/-- More is marked. -/
def More (us us' : List Bool) : Prop := us'.length = us.length ∧ ∀ j : Nat, us[j]? = some true → us'[j]? = some true
theorem More.refl {us : List Bool} : More us us := ⟨rfl, fun _ h => h⟩
theorem More.trans {us us' us'' : List Bool} (h : More us us') (h' : More us' us'') : More us us'' := ⟨h'.1.trans h.1, fun j hj => h'.2 j (h.2 j hj)⟩
theorem More.set {us : List Bool} {j : Nat} {v b : Bool} (hj : us[j]? = some v) : More us (us.set j (v || b)) := by
  refine ⟨by simp, fun k hk => ?_⟩
  by_cases h : k = j
  · subst h
    rw [hj] at hk
    have := (List.getElem?_eq_some_iff.1 hj).1
    cases hk
    simp [this]
  · rw [List.getElem?_set_ne (Ne.symm h)]
    exact hk

structure Us (lo : Nat) (m : Mem) (h n : Nat) (us : List Bool) : Prop where
  lo : lo ≤ h
  ln : us.length = n
  b : m.blk h = some (.row 1 (us.map .bool))

def hit (r to : Int) (x : Edge) : Bool := decide (x.fr = r) && decide (x.to = to)

theorem w10_1 {F : Nat → Option Fn} {lo h : Nat} (l : List Edge) (hl : l.length < 100000) (r to : Int) (b : Bool) (u6 u7 u8 u13 u14 u57 u58 u59 u65 u66 u67 u121 u122 b1 b9 : V) : ∀ (t : List Edge) (j : Nat) (us : List Bool) (f : Bool) (m : Mem) (Q : Ex → St → Prop), l.drop j = t → Us lo m h l.length us →
    (∀ us' m' e, Us lo m' h l.length us' → More us us' → (b = true → ∀ (k : Nat) y, j ≤ k → l[k]? = some y → hit r to y = true → us'[k]? = some true) →
      Q (.exit 7) ⟨(3, vEdges l) :: (5, .row 1 h 0 l.length) :: (6, u6) :: (7, u7) :: (8, u8) :: (12, vi to) :: (13, u13) :: (14, u14) :: (16, vi r) :: (17, .bool b) :: (18, .bool (f || t.any (hit r to))) :: (57, u57) :: (58, u58) :: (59, u59) :: (65, u65) :: (66, u66) :: (67, u67) :: (121, u121) :: (122, u122) :: e, [(1, b1), (9, b9)], [], m'⟩) →
    W F lo L10_1 ⟨[(3, vEdges l), (5, .row 1 h 0 l.length), (6, u6), (7, u7), (8, u8), (12, vi to), (13, u13), (14, u14), (16, vi r), (17, .bool b), (18, .bool f), (57, u57), (58, u58), (59, u59), (65, u65), (66, u66), (67, u67), (121, u121), (122, u122), (164, vEdges l), (165, vi l.length), (166, vi j)], [(1, b1), (9, b9)], [], m⟩ Q := by
  intro t
  induction t with
  | nil =>
    intro j us f m Q hd hu hq
    have hlt := drop_nil hd
    rw [W_L (c := L10_1) rfl]
    have : ¬ ((j : Nat) : Int) < (l.length : Int) := by omega
    simp only [↓sxc, sx, se, ↓reduceIte, Nat.reduceEqDiff, Nat.reduceAdd, Nat.reduceLT, Nat.reduceLeDiff, Nat.reduceSub, Nat.reduceMul, Int.reduceToNat, Int.reduceLT, Int.reduceLE, Int.reduceEq, ml_i0, ↓smc, sm, this]
    have := hq us m [(164, vEdges l), (165, vi l.length), (166, vi j), (167, .bool false)] hu .refl (fun _ k y hk hy _ => by have := (List.getElem?_eq_some_iff.1 hy).1; omega)
    rw [List.any_nil, Bool.or_false] at this
    exact this
  | cons x t ih =>
    intro j us f m Q hd hu hq
    obtain ⟨hg, hd', hlt⟩ := drop_cons hd
    rw [W_L (c := L10_1) rfl]
    have : ((j : Nat) : Int) < (l.length : Int) := by omega
    have wr : wrapF .i64 ((j : Int) + 1) = ((j + 1 : Nat) : Int) := by rw [wr_i64 (by omega) (by omega)]; rfl
    by_cases e1 : x.fr = r
    · by_cases e2 : x.to = to
      · have hju : us[j]? = some (us[j]'(by rw [hu.ln]; exact hlt)) := List.getElem?_eq_getElem _
        generalize us[j]'(by rw [hu.ln]; exact hlt) = v at hju
        have key : ∀ m', Us lo m' h l.length (us.set j (v || b)) → W F lo L10_1 ⟨[(3, vEdges l), (5, .row 1 h 0 l.length), (6, u6), (7, u7), (8, u8), (12, vi to), (13, u13), (14, u14), (16, vi r), (17, .bool b), (18, .bool true), (57, u57), (58, u58), (59, u59), (65, u65), (66, u66), (67, u67), (121, u121), (122, u122), (164, vEdges l), (165, vi l.length), (166, vi (j + 1 : Nat))], [(1, b1), (9, b9)], [], m'⟩ Q := by
          intro m' hu'
          refine ih (j + 1) (us.set j (v || b)) true m' Q hd' hu' (fun us' m2 e h1 h2 h3 => ?_)
          have hq' := hq us' m2 e h1 ((More.set hju).trans h2) (fun hb k y hk hy hh => by
            by_cases hkj : k = j
            · subst hkj
              refine h2.2 k ?_
              have := (List.getElem?_eq_some_iff.1 hju).1
              simp [this, hb]
            · exact h3 hb k y (by omega) hy hh)
          have e3 : (f || (x :: t).any (hit r to)) = true := by simp [hit, e1, e2]
          rw [e3] at hq'
          rw [Bool.true_or]
          exact hq'
        have hub := hu.b
        have hul := hu.lo
        cases v with
        | true =>
          simp only [↓sxc, sx, se, ↓reduceIte, Nat.reduceEqDiff, Nat.reduceAdd, Nat.reduceLT, Nat.reduceLeDiff, Nat.reduceSub, Nat.reduceMul, Int.reduceToNat, Int.reduceLT, Int.reduceLE, Int.reduceEq, ml_i0, ↓smc, sm, this, hg, e1, e2, hub, hul, hju, wr]
          refine key _ ⟨hu.lo, by simp [hu.ln], ?_⟩
          simp [Mem.set, List.map_set]
        | false =>
          simp only [↓sxc, sx, se, ↓reduceIte, Nat.reduceEqDiff, Nat.reduceAdd, Nat.reduceLT, Nat.reduceLeDiff, Nat.reduceSub, Nat.reduceMul, Int.reduceToNat, Int.reduceLT, Int.reduceLE, Int.reduceEq, ml_i0, ↓smc, sm, this, hg, e1, e2, hub, hul, hju, wr]
          refine key _ ⟨hu.lo, by simp [hu.ln], ?_⟩
          simp [Mem.set, List.map_set]
      · simp only [↓sxc, sx, se, ↓reduceIte, Nat.reduceEqDiff, Nat.reduceAdd, Nat.reduceLT, Nat.reduceLeDiff, Nat.reduceSub, Nat.reduceMul, Int.reduceToNat, Int.reduceLT, Int.reduceLE, Int.reduceEq, ml_i0, ↓smc, sm, this, hg, e1, e2, wr]
        refine ih (j + 1) us f m Q hd' hu (fun us' m2 e h1 h2 h3 => ?_)
        have e3 : (x :: t).any (hit r to) = t.any (hit r to) := by simp [hit, e1, e2]
        have hq' := hq us' m2 e h1 h2 (fun hb k y hk hy hh => by
          by_cases hkj : k = j
          · subst hkj
            rw [hg] at hy
            cases hy
            simp [hit, e2] at hh
          · exact h3 hb k y (by omega) hy hh)
        rw [e3] at hq'
        exact hq'
    · simp only [↓sxc, sx, se, ↓reduceIte, Nat.reduceEqDiff, Nat.reduceAdd, Nat.reduceLT, Nat.reduceLeDiff, Nat.reduceSub, Nat.reduceMul, Int.reduceToNat, Int.reduceLT, Int.reduceLE, Int.reduceEq, ml_i0, ↓smc, sm, this, hg, e1, wr]
      refine ih (j + 1) us f m Q hd' hu (fun us' m2 e h1 h2 h3 => ?_)
      have e3 : (x :: t).any (hit r to) = t.any (hit r to) := by simp [hit, e1]
      have hq' := hq us' m2 e h1 h2 (fun hb k y hk hy hh => by
        by_cases hkj : k = j
        · subst hkj
          rw [hg] at hy
          cases hy
          simp [hit, e1] at hh
        · exact h3 hb k y (by omega) hy hh)
      rw [e3] at hq'
      exact hq'

end Go.Am
