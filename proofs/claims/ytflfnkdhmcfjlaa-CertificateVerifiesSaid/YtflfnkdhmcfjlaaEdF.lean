/- Plain facts on edges and holdings. -/
import Derived.Test.YtflfnkdhmcfjlaaSpP
namespace Go.Am
open Go
set_option linter.unusedSimpArgs false
set_option linter.unusedVariables false
set_option maxRecDepth 100000

/-! ### Plain facts -/
theorem mem_foldl_addE {y : Edge} : ∀ {xs l : List Edge}, y ∈ xs.foldl addE l → y ∈ l ∨ y ∈ xs
  | [], l, h => .inl h
  | x :: xs, l, h => by
    rcases mem_foldl_addE (xs := xs) (l := addE l x) h with h | h
    · unfold addE at h
      split at h
      · exact .inl h
      · rcases List.mem_append.1 h with h | h
        · exact .inl h
        · exact .inr (by simp at h; simp [h])
    · exact .inr (by simp [h])
theorem addE_ends {l : List Edge} {x : Edge} : ends x ∈ (addE l x).map ends := by
  unfold addE
  split
  · assumption
  · simp
theorem addE_mono {l : List Edge} {x : Edge} {p : Int × Int} (h : p ∈ l.map ends) : p ∈ (addE l x).map ends := by
  unfold addE
  split
  · exact h
  · rw [List.map_append]; exact List.mem_append_left _ h
theorem foldl_addE_ends {p : Int × Int} : ∀ {xs l : List Edge}, p ∈ l.map ends ∨ p ∈ xs.map ends → p ∈ (xs.foldl addE l).map ends
  | [], l, h => by simpa using h
  | x :: xs, l, h => by
    refine foldl_addE_ends (xs := xs) (l := addE l x) ?_
    rcases h with h | h
    · exact .inl (addE_mono h)
    · rw [List.map_cons] at h
      rcases List.mem_cons.1 h with rfl | h
      · exact .inl addE_ends
      · exact .inr h
theorem edgesE_sub {s : Sys} {y : Edge} (h : y ∈ edgesE s) : y ∈ alE s s.cls 0 := by
  unfold edgesE at h
  split at h
  · simp at h
  · rcases mem_foldl_addE h with h | h
    · simp at h
    · exact h
theorem edgesE_all {s : Sys} (h0 : chkE s = 0) {e : Edge} (h : e ∈ alE s s.cls 0) : ∃ y ∈ edgesE s, y.fr = e.fr ∧ y.to = e.to := by
  have h1 : ends e ∈ (edgesE s).map ends := by
    unfold edgesE
    rw [if_neg (by simpa using h0)]
    exact foldl_addE_ends (.inr (List.mem_map_of_mem h))
  obtain ⟨y, hy, h2⟩ := List.mem_map.1 h1
  simp only [ends, Prod.mk.injEq] at h2
  exact ⟨y, hy, h2⟩

theorem edgesE_len' {s : Sys} (h0 : chkE s = 0) : (edgesE s).length ≤ 864 := by
  unfold edgesE
  rw [if_neg (by simpa using h0)]
  have hv := valid_of h0
  have h1 := alE_len hv (t := s.cls) (i := 0) (fun c hc => hc)
  have h2 := foldl_addE_len (xs := alE s s.cls 0) (l := [])
  have := hv.c6
  simp at h2
  omega

theorem mem_clE {s : Sys} {i : Nat} {c : Cls} {e : Edge} : ∀ {t : List Stp} {k : Nat}, e ∈ clE s i c t k → ∃ (j : Nat) (x : Stp), t[j]? = some x ∧ e ∈ stE s i c (k + j) x
  | [], k, h => by simp [clE] at h
  | x :: t, k, h => by
    unfold clE at h
    rcases List.mem_append.1 h with h | h
    · exact ⟨0, x, rfl, h⟩
    · obtain ⟨j, y, h1, h2⟩ := mem_clE h
      exact ⟨j + 1, y, h1, by rw [show k + (j + 1) = k + 1 + j by omega]; exact h2⟩
theorem clE_mem {s : Sys} {i : Nat} {c : Cls} {e : Edge} : ∀ {t : List Stp} {k j : Nat} {x : Stp}, t[j]? = some x → e ∈ stE s i c (k + j) x → e ∈ clE s i c t k
  | [], k, j, x, h, _ => by simp at h
  | y :: t, k, 0, x, h, h2 => by
    simp at h
    subst h
    exact List.mem_append_left _ h2
  | y :: t, k, j + 1, x, h, h2 => by
    refine List.mem_append_right _ (clE_mem (j := j) (x := x) (by simpa using h) ?_)
    rw [show k + 1 + j = k + (j + 1) by omega]
    exact h2
theorem mem_alE {s : Sys} {e : Edge} : ∀ {t : List Cls} {i : Nat}, e ∈ alE s t i → ∃ (j : Nat) (c : Cls), t[j]? = some c ∧ e ∈ clE s (i + j) c c.steps 0
  | [], i, h => by simp [alE] at h
  | c :: t, i, h => by
    unfold alE at h
    rcases List.mem_append.1 h with h | h
    · exact ⟨0, c, rfl, h⟩
    · obtain ⟨j, d, h1, h2⟩ := mem_alE h
      exact ⟨j + 1, d, h1, by rw [show i + (j + 1) = i + 1 + j by omega]; exact h2⟩
theorem alE_mem {s : Sys} {e : Edge} : ∀ {t : List Cls} {i j : Nat} {c : Cls}, t[j]? = some c → e ∈ clE s (i + j) c c.steps 0 → e ∈ alE s t i
  | [], i, j, c, h, _ => by simp at h
  | d :: t, i, 0, c, h, h2 => by
    simp at h
    subst h
    exact List.mem_append_left _ h2
  | d :: t, i, j + 1, c, h, h2 => by
    refine List.mem_append_right _ (alE_mem (j := j) (c := c) (by simpa using h) ?_)
    rw [show i + 1 + j = i + (j + 1) by omega]
    exact h2
/-- An edge that stands in the list comes from a step of a class. -/
theorem edge_from {s : Sys} {e : Edge} (h : e ∈ alE s s.cls 0) : ∃ (i k : Nat) (c : Cls) (x : Stp), s.cls[i]? = some c ∧ c.steps[k]? = some x ∧ waitsE s x = true ∧ e.fr ∈ hold s i c (c.steps.take k) ∧ e.to = target s x ∧ e.cls = i ∧ e.step = k := by
  obtain ⟨i, c, h1, h2⟩ := mem_alE h
  obtain ⟨k, x, h3, h4⟩ := mem_clE h2
  rw [Nat.zero_add] at h2 h4
  rw [Nat.zero_add] at h4
  unfold stE at h4
  split at h4
  · rename_i hw
    obtain ⟨f, h5, rfl⟩ := List.mem_map.1 h4
    exact ⟨i, k, c, x, h1, h3, hw, h5, rfl, rfl, rfl⟩
  · simp at h4
theorem edge_to {s : Sys} {i k : Nat} {c : Cls} {x : Stp} {f : Int} (h1 : s.cls[i]? = some c) (h2 : c.steps[k]? = some x) (hw : waitsE s x = true) (hf : f ∈ hold s i c (c.steps.take k)) : (⟨f, target s x, i, k⟩ : Edge) ∈ alE s s.cls 0 := by
  refine alE_mem h1 (clE_mem h2 ?_)
  rw [Nat.zero_add, Nat.zero_add]
  unfold stE
  rw [if_pos hw]
  exact List.mem_map.2 ⟨f, hf, rfl⟩

theorem mem_hold {s : Sys} {i : Nat} {c : Cls} {L : List Stp} {r : Nat} : (r : Int) ∈ hold s i c L ↔ (r < s.pools.length ∧ 0 < bal (r : Int) 0 L) ∨ (s.pools.length ≤ r ∧ r < s.pools.length + s.locks.length ∧ 0 < bal ((r - s.pools.length : Nat) : Int) 1 L) ∨ (c.srv = true ∧ r = s.pools.length + s.locks.length + i) := by
  unfold hold
  rw [List.mem_append, List.mem_append]
  constructor
  · rintro ((h | h) | h)
    · simp only [held0, List.mem_map, List.mem_filter, List.mem_range, decide_eq_true_eq] at h
      obtain ⟨j, ⟨h1, h2⟩, h3⟩ := h
      have : j = r := by omega
      subst this
      exact .inl ⟨h1, h2⟩
    · simp only [held1, List.mem_map, List.mem_filter, List.mem_range, decide_eq_true_eq] at h
      obtain ⟨j, ⟨h1, h2⟩, h3⟩ := h
      have : j = r - s.pools.length := by omega
      subst this
      exact .inr (.inl ⟨by omega, by omega, h2⟩)
    · split at h
      · rename_i hs
        simp at h
        exact .inr (.inr ⟨hs, by omega⟩)
      · simp at h
  · rintro (⟨h1, h2⟩ | ⟨h1, h2, h3⟩ | ⟨h1, h2⟩)
    · exact .inl (.inl (List.mem_map.2 ⟨r, by simp [h1, h2], rfl⟩))
    · exact .inl (.inr (List.mem_map.2 ⟨r - s.pools.length, by simp [h3]; omega, by omega⟩))
    · exact .inr (by rw [if_pos h1]; simp; omega)
theorem hold_nat {s : Sys} {i : Nat} {c : Cls} {L : List Stp} {f : Int} (h : f ∈ hold s i c L) (hi : i < s.cls.length) : ∃ r : Nat, f = r ∧ r < s.pools.length + s.locks.length + s.cls.length := by
  unfold hold at h
  rw [List.mem_append, List.mem_append] at h
  rcases h with (h | h) | h
  · simp only [held0, List.mem_map, List.mem_filter, List.mem_range] at h
    obtain ⟨j, ⟨h1, _⟩, rfl⟩ := h
    exact ⟨j, rfl, by omega⟩
  · simp only [held1, List.mem_map, List.mem_filter, List.mem_range] at h
    obtain ⟨j, ⟨h1, _⟩, rfl⟩ := h
    exact ⟨s.pools.length + j, by omega, by omega⟩
  · split at h
    · simp at h
      exact ⟨s.pools.length + s.locks.length + i, by omega, by omega⟩
    · simp at h

theorem target_rng {s : Sys} {x : Stp} (hp : preE s x = 0) (hw : waitsE s x = true) : 0 ≤ target s x ∧ target s x < s.pools.length + s.locks.length + s.cls.length := by
  obtain ⟨o1, o2, _⟩ := preE_on hp
  unfold nOf at o2
  unfold target
  unfold waitsE at hw
  by_cases k3 : x.kind = 3
  · rw [if_pos (.inl k3)] at o2
    rw [if_pos k3]
    omega
  · by_cases k5 : x.kind = 5
    · rw [if_neg (by omega), if_pos k5] at o2
      rw [if_neg k3, if_pos k5]
      omega
    · by_cases k1 : x.kind = 1
      · rw [if_neg (by omega), if_neg k5] at o2
        rw [if_neg k3, if_neg k5]
        omega
      · rw [if_neg (by omega), if_neg k1] at hw
        cases hw
theorem edge_rng {s : Sys} (h0 : chkE s = 0) {e : Edge} (h : e ∈ alE s s.cls 0) : (∃ r : Nat, e.fr = r ∧ r < s.pools.length + s.locks.length + s.cls.length) ∧ ∃ r : Nat, e.to = r ∧ r < s.pools.length + s.locks.length + s.cls.length := by
  have hv := valid_of h0
  obtain ⟨i, k, c, x, h1, h2, hw, hf, ht, _, _⟩ := edge_from h
  refine ⟨hold_nat hf (List.getElem?_eq_some_iff.1 h1).1, ?_⟩
  have := target_rng (hv.pre (List.mem_of_getElem? h1) (List.mem_of_getElem? h2)) hw
  exact ⟨e.to.toNat, by omega, by omega⟩
end Go.Am
