/- Levels of a graph, plainly: what the queue keeps. -/
import Derived.Test.YtflfnkdhmcfjlaaGrB
namespace Go.Am
open Go
set_option linter.unusedSimpArgs false
set_option linter.unusedVariables false

/-! ### Lists without repeats -/
theorem nodup_le {α : Type} [DecidableEq α] : ∀ {xs ys : List α}, xs.Nodup → (∀ x ∈ xs, x ∈ ys) → xs.length ≤ ys.length
  | [], ys, _, _ => Nat.zero_le _
  | x :: xs, ys, h, hs => by
    rw [List.nodup_cons] at h
    have hx := hs x (by simp)
    have := nodup_le (xs := xs) (ys := ys.erase x) h.2 (fun y hy => (List.mem_erase_of_ne (fun e => h.1 (by rw [← e]; exact hy))).2 (hs y (by simp [hy])))
    rw [List.length_erase_of_mem hx] at this
    have : 0 < ys.length := List.length_pos_of_mem hx
    simp only [List.length_cons]
    omega

def gAt (xs : List Int) (r : Int) : Int := xs.getD r.toNat 0
theorem gAt_get {xs : List Int} {v : Nat} (h : v < xs.length) : xs[v]? = some (gAt xs v) := by
  rw [List.getElem?_eq_getElem h]
  simp [gAt, List.getD, List.getElem?_eq_getElem h]
theorem gAt_set {xs : List Int} {v w : Nat} {x : Int} (h : v < xs.length) : gAt (xs.set v x) w = if w = v then x else gAt xs w := by
  unfold gAt
  simp only [Int.toNat_natCast, List.getD]
  by_cases e : w = v
  · subst e
    rw [List.getElem?_set_self h, if_pos rfl]; rfl
  · rw [List.getElem?_set_ne (Ne.symm e), if_neg e]

/-- These are the levels. -/
structure LevEq (N : Nat) (l : List Edge) (f : List Int) : Prop where
  ln : f.length = N
  nn : ∀ v, v < N → 0 ≤ gAt f v
  ge : ∀ e ∈ l, gAt f e.to + 1 ≤ gAt f e.fr
  wit : ∀ v, v < N → gAt f v = 0 ∨ ∃ e ∈ l, e.fr = (v : Int) ∧ gAt f v = gAt f e.to + 1

theorem LevEq.uniq {n : Int} {N : Nat} {l : List Edge} (gr : Gr n l) (hN : n = N) {f g : List Int} (hf : LevEq N l f) (hg : LevEq N l g) : f = g := by
  have key : ∀ (k : Nat) (v : Nat), v < N → gAt f v < k → gAt f v = gAt g v := by
    intro k
    induction k with
    | zero => intro v hv h; have := hf.nn v hv; omega
    | succ k ih =>
      intro v hv h
      have le : ∀ e ∈ l, e.fr = (v : Int) → gAt f e.to = gAt g e.to := fun e he hfr => by
        obtain ⟨a, b, h1, h2, h3, h4⟩ := gr.e e he
        have h5 := hf.ge e he
        rw [hfr] at h5
        rw [h2] at h5 ⊢
        exact ih b (by omega) (by omega)
      rcases hf.wit v hv with h0 | ⟨e, he, hfr, hw⟩
      · rcases hg.wit v hv with h1 | ⟨e, he, hfr, hw⟩
        · omega
        · have h2 := hf.ge e he
          obtain ⟨a, b, q1, q2, q3, q4⟩ := gr.e e he
          have h3 := hf.nn b (by omega)
          rw [hfr, q2] at h2
          omega
      · have h1 := hg.ge e he
        rw [hfr, ← le e he hfr] at h1
        rcases hg.wit v hv with h2 | ⟨e', he', hfr', hw'⟩
        · obtain ⟨a, b, q1, q2, q3, q4⟩ := gr.e e he
          have h3 := hf.nn b (by omega)
          rw [q2] at hw h1
          omega
        · have h2 := hf.ge e' he'
          rw [hfr', le e' he' hfr'] at h2
          omega
  refine List.ext_getElem? fun v => ?_
  by_cases hv : v < N
  · rw [gAt_get (by rw [hf.ln]; exact hv), gAt_get (by rw [hg.ln]; exact hv), key ((gAt f v).toNat + 1) v hv (by omega)]
  · rw [List.getElem?_eq_none (by rw [hf.ln]; omega), List.getElem?_eq_none (by rw [hg.ln]; omega)]

/-- How many edges lead from a node to nodes that are not in P. -/
def rest (l : List Edge) (P : List Int) (v : Nat) : Nat := l.countP fun e => decide (e.fr = (v : Int)) && !decide (e.to ∈ P)
theorem rest_nil {l : List Edge} {v : Nat} : (rest l [] v : Int) = cntF l v := by
  unfold rest cntF
  congr 1
  exact List.countP_congr (fun e _ => by simp)
theorem buck_count {P : List Int} {u : Int} {v : Nat} (hu : u ∉ P) : ∀ {l : List Edge} {i : Nat}, rest l P v = rest l (P ++ [u]) v + (buck Edge.to frV l i u).count (v : Int)
  | [], i => by simp [rest, buck]
  | e :: l, i => by
    have ih := buck_count (P := P) (u := u) (v := v) hu (l := l) (i := i + 1)
    unfold rest at ih ⊢
    rw [List.countP_cons, List.countP_cons, ih, buck, List.count_append]
    by_cases h1 : e.to = u
    · rw [if_pos h1]
      by_cases h2 : e.fr = (v : Int)
      · have h3 : ¬ e.to ∈ P := by rw [h1]; exact hu
        simp [h1, h2, frV, hu]
        omega
      · simp [h2, frV, List.count_cons]
    · rw [if_neg h1]
      by_cases h2 : e.to ∈ P
      · simp [h2]
      · simp [h1, h2]
        split <;> omega
theorem mem_inL {l : List Edge} {u x : Int} : ∀ {i : Nat}, x ∈ buck Edge.to frV l i u → ∃ e ∈ l, e.fr = x ∧ e.to = u := by
  induction l with
  | nil => intro i h; simp [buck] at h
  | cons e l ih =>
    intro i h
    rw [buck, List.mem_append] at h
    rcases h with h | h
    · split at h
      · rename_i h1
        simp [frV] at h
        exact ⟨e, by simp, h.symm, h1⟩
      · simp at h
    · obtain ⟨e', h1, h2⟩ := ih h
      exact ⟨e', by simp [h1], h2⟩
theorem inL_mem {l : List Edge} {e : Edge} : ∀ {i : Nat}, e ∈ l → e.fr ∈ buck Edge.to frV l i e.to := by
  induction l with
  | nil => intro i h; simp at h
  | cons d l ih =>
    intro i h
    rw [buck, List.mem_append]
    rcases List.mem_cons.1 h with rfl | h
    · exact .inl (by simp [frV])
    · exact .inr (ih h)

/-- Between the nodes: the first d of the queue are done. -/
structure KI (N : Nat) (l : List Edge) (lf lv qs : List Int) (d : Nat) : Prop where
  lfl : lf.length = N
  lvl : lv.length = N
  dq : d ≤ qs.length
  nd : qs.Nodup
  rg : ∀ x ∈ qs, ∃ v : Nat, x = v ∧ v < N
  left : ∀ v, v < N → gAt lf v = rest l (qs.take d) v
  zero : ∀ v : Nat, v < N → ((v : Int) ∈ qs ↔ gAt lf v = 0)
  ge : ∀ e ∈ l, e.to ∈ qs.take d → gAt lv e.to + 1 ≤ gAt lv e.fr
  wit : ∀ v, v < N → gAt lv v = 0 ∨ ∃ e ∈ l, e.fr = (v : Int) ∧ e.to ∈ qs.take d ∧ gAt lv v = gAt lv e.to + 1
  bd : ∀ v, v < N → 0 ≤ gAt lv v ∧ gAt lv v ≤ d

/-- While a node u is being done; t is still to come. -/
structure KJ (N : Nat) (l : List Edge) (lf lv qs : List Int) (d : Nat) (u : Nat) (t : List Int) : Prop where
  lfl : lf.length = N
  lvl : lv.length = N
  uq : qs[d]? = some (u : Int)
  uN : u < N
  nd : qs.Nodup
  rg : ∀ x ∈ qs, ∃ v : Nat, x = v ∧ v < N
  tr : ∀ x ∈ t, ∃ v : Nat, x = v ∧ v < N ∧ ∃ e ∈ l, e.fr = x ∧ e.to = (u : Int)
  left : ∀ v, v < N → gAt lf v = rest l (qs.take d ++ [(u : Int)]) v + t.count (v : Int)
  zero : ∀ v : Nat, v < N → ((v : Int) ∈ qs ↔ gAt lf v = 0)
  ge : ∀ e ∈ l, e.to ∈ qs.take d → gAt lv e.to + 1 ≤ gAt lv e.fr
  gu : ∀ e ∈ l, e.to = (u : Int) → e.fr ∈ t ∨ gAt lv e.to + 1 ≤ gAt lv e.fr
  wit : ∀ v, v < N → gAt lv v = 0 ∨ ∃ e ∈ l, e.fr = (v : Int) ∧ (e.to ∈ qs.take d ∨ e.to = (u : Int)) ∧ gAt lv v = gAt lv e.to + 1
  bd : ∀ v, v < N → 0 ≤ gAt lv v ∧ gAt lv v ≤ d + 1
  bu : gAt lv u ≤ d

theorem nodup_take_get {qs : List Int} {d : Nat} {x : Int} (h : qs.Nodup) (hd : qs[d]? = some x) : x ∉ qs.take d := by
  intro hm
  obtain ⟨i, hi, e⟩ := List.getElem_of_mem hm
  have hdl := (List.getElem?_eq_some_iff.1 hd).1
  have hil : i < d := by simp at hi; omega
  have e1 : qs[i]? = some x := by
    rw [List.getElem_take] at e
    rw [List.getElem?_eq_getElem (by omega), e]
  have e2 := List.pairwise_iff_getElem.1 h i d (by omega) hdl hil
  rw [List.getElem?_eq_getElem (by omega)] at e1
  rw [List.getElem?_eq_getElem hdl] at hd
  rw [Option.some.inj e1, Option.some.inj hd] at e2
  exact e2 rfl

theorem KI.start {N : Nat} {n : Int} {l : List Edge} (gr : Gr n l) (hN : n = N) : KI N l (cnts N l) (List.replicate N 0) (zeros (cnts N l) N) 0 := by
  have hc : ∀ v, v < N → gAt (cnts N l) v = cntF l v := fun v hv => by
    have h1 := gAt_get (xs := cnts N l) (v := v) (by simp [cnts]; exact hv)
    rw [cnts_get hv] at h1
    exact (Option.some.inj h1).symm
  have hz : ∀ v : Nat, gAt (List.replicate N 0) v = 0 := fun v => by
    unfold gAt
    rw [Int.toNat_natCast, List.getD]
    by_cases h : v < N
    · rw [List.getElem?_replicate_of_lt h]; rfl
    · rw [List.getElem?_eq_none (by simp; omega)]; rfl
  refine ⟨by simp [cnts], by simp, Nat.zero_le _, ?_, fun x hx => ?_, fun v hv => ?_, fun v hv => ?_, fun e he h => by simp at h, fun v hv => .inl (hz v), fun v hv => by rw [hz v]; simp⟩
  · unfold zeros
    refine List.Pairwise.map _ (fun a b h => ?_) (List.Pairwise.filter _ List.nodup_range)
    omega
  · simp only [zeros, List.mem_map, List.mem_filter, List.mem_range] at hx
    obtain ⟨v, ⟨h1, _⟩, rfl⟩ := hx
    exact ⟨v, rfl, h1⟩
  · rw [hc v hv, List.take_zero, rest_nil]
  · rw [hc v hv]
    constructor
    · intro h
      simp only [zeros, List.mem_map, List.mem_filter, List.mem_range, decide_eq_true_eq] at h
      obtain ⟨w, ⟨h1, h2⟩, h3⟩ := h
      have : w = v := by omega
      subst this
      rw [cnts_get h1] at h2
      exact Option.some.inj h2
    · intro h
      refine List.mem_map.2 ⟨v, List.mem_filter.2 ⟨List.mem_range.2 hv, ?_⟩, rfl⟩
      rw [decide_eq_true_eq, cnts_get hv, h]

theorem KI.enter {N : Nat} {n : Int} {l : List Edge} (gr : Gr n l) (hN : n = N) {lf lv qs : List Int} {d : Nat} (H : KI N l lf lv qs d) {u : Nat} (hu : qs[d]? = some (u : Int)) : KJ N l lf lv qs d u (buck Edge.to frV l 0 u) := by
  have hm := List.mem_of_getElem? hu
  obtain ⟨v, hv, hvN⟩ := H.rg _ hm
  have : v = u := by omega
  subst this
  refine ⟨H.lfl, H.lvl, hu, hvN, H.nd, H.rg, fun x hx => ?_, fun w hw => ?_, H.zero, H.ge, fun e he h => .inl (by rw [← h]; exact inL_mem he), fun w hw => ?_, fun w hw => ?_, (H.bd v hvN).2⟩
  · obtain ⟨e, he, h1, h2⟩ := mem_inL hx
    obtain ⟨a, b, q1, q2, q3, q4⟩ := gr.e e he
    exact ⟨a, by omega, by omega, e, he, h1, h2⟩
  · rw [H.left w hw, buck_count (nodup_take_get H.nd hu) (i := 0)]
    push_cast
    rfl
  · rcases H.wit w hw with h | ⟨e, h1, h2, h3, h4⟩
    · exact .inl h
    · exact .inr ⟨e, h1, h2, .inl h3, h4⟩
  · have := H.bd w hw
    omega

theorem KJ.leave {N : Nat} {l : List Edge} {lf lv qs : List Int} {d u : Nat} (H : KJ N l lf lv qs d u []) : KI N l lf lv qs (d + 1) := by
  have ht : qs.take (d + 1) = qs.take d ++ [(u : Int)] := by rw [List.take_add_one, H.uq]; rfl
  have hd := (List.getElem?_eq_some_iff.1 H.uq).1
  refine ⟨H.lfl, H.lvl, hd, H.nd, H.rg, fun v hv => ?_, H.zero, fun e he h => ?_, fun v hv => ?_, fun v hv => by have := H.bd v hv; push_cast; omega⟩
  · rw [ht, H.left v hv]
    simp
  · rw [ht] at h
    rcases List.mem_append.1 h with h | h
    · exact H.ge e he h
    · rcases H.gu e he (by simpa using h) with h' | h'
      · simp at h'
      · exact h'
  · rcases H.wit v hv with h | ⟨e, h1, h2, h3, h4⟩
    · exact .inl h
    · refine .inr ⟨e, h1, h2, ?_, h4⟩
      rw [ht, List.mem_append]
      rcases h3 with h3 | h3
      · exact .inl h3
      · exact .inr (by simp [h3])

theorem KJ.step {N : Nat} {l : List Edge} {lf lv qs : List Int} {d u x : Nat} {t : List Int} (H : KJ N l lf lv qs d u ((x : Int) :: t)) :
    x < N ∧ 1 ≤ gAt lf x ∧ ((x : Int) ∉ qs) ∧
    KJ N l (lf.set x (gAt lf x - 1)) (lv.set x (max (gAt lv x) (gAt lv u + 1))) (if gAt lf x - 1 = 0 then qs ++ [(x : Int)] else qs) d u t := by
  obtain ⟨w, hw, hxN, e0, he0, hf0, ht0⟩ := H.tr x (by simp)
  have : w = x := by omega
  subst this
  have hl := H.left w hxN
  rw [List.count_cons_self] at hl
  have h1 : 1 ≤ gAt lf w := by omega
  have hnq : (w : Int) ∉ qs := fun h => by have := (H.zero w hxN).1 h; omega
  have huq := List.mem_of_getElem? H.uq
  have huw : u ≠ w := fun h => hnq (by rw [← h]; exact huq)
  have hdl := (List.getElem?_eq_some_iff.1 H.uq).1
  have lfw : ∀ v : Nat, gAt (lf.set w (gAt lf w - 1)) v = if v = w then gAt lf w - 1 else gAt lf v := fun v => gAt_set (by rw [H.lfl]; exact hxN)
  have lvw : ∀ v : Nat, gAt (lv.set w (max (gAt lv w) (gAt lv u + 1))) v = if v = w then max (gAt lv w) (gAt lv u + 1) else gAt lv v := fun v => gAt_set (by rw [H.lvl]; exact hxN)
  have lvq : ∀ y ∈ qs, gAt (lv.set w (max (gAt lv w) (gAt lv u + 1))) y = gAt lv y := fun y hy => by
    obtain ⟨v, rfl, _⟩ := H.rg y hy
    rw [lvw, if_neg (fun h => hnq (by rw [← h]; exact hy))]
  have lvge : ∀ y : Nat, gAt lv y ≤ gAt (lv.set w (max (gAt lv w) (gAt lv u + 1))) y := fun y => by
    rw [lvw]
    split
    · rename_i h; rw [h]; omega
    · omega
  have htk : (if gAt lf w - 1 = 0 then qs ++ [(w : Int)] else qs).take d = qs.take d := by
    split
    · rw [List.take_append_of_le_length (by omega)]
    · rfl
  have hsub : ∀ y ∈ qs.take d, y ∈ qs := fun y hy => List.mem_of_mem_take hy
  refine ⟨hxN, h1, hnq, ⟨by simp [H.lfl], by simp [H.lvl], ?_, H.uN, ?_, ?_, fun y hy => H.tr y (by simp [hy]), fun v hv => ?_, fun v hv => ?_, fun e he h => ?_, fun e he h => ?_, fun v hv => ?_, fun v hv => ?_, ?_⟩⟩
  · split
    · rw [List.getElem?_append_left hdl]; exact H.uq
    · exact H.uq
  · split
    · rw [List.nodup_append]
      exact ⟨H.nd, by simp, fun a ha b hb e => hnq (by simp at hb; rw [← hb, ← e]; exact ha)⟩
    · exact H.nd
  · intro y hy
    split at hy
    · rcases List.mem_append.1 hy with hy | hy
      · exact H.rg y hy
      · exact ⟨w, by simpa using hy, hxN⟩
    · exact H.rg y hy
  · rw [htk, lfw]
    have hl2 := H.left v hv
    by_cases hvw : v = w
    · subst hvw
      rw [if_pos rfl]
      omega
    · rw [if_neg hvw]
      rw [List.count_cons_of_ne (by omega)] at hl2
      exact hl2
  · rw [lfw]
    by_cases hvw : v = w
    · subst hvw
      rw [if_pos rfl]
      constructor
      · intro h
        split at h
        · assumption
        · exact absurd h hnq
      · intro h
        rw [if_pos h]
        simp
    · rw [if_neg hvw, ← H.zero v hv]
      split
      · constructor
        · intro h
          rcases List.mem_append.1 h with h | h
          · exact h
          · simp at h; omega
        · intro h; exact List.mem_append_left _ h
      · exact Iff.rfl
  · rw [htk] at h
    have h2 := H.ge e he h
    rw [lvq _ (hsub _ h)]
    by_cases hfr : ∃ y : Nat, e.fr = y
    · obtain ⟨y, hy⟩ := hfr
      rw [hy] at h2 ⊢
      have := lvge y
      omega
    · have : gAt (lv.set w (max (gAt lv w) (gAt lv u + 1))) e.fr = gAt (lv.set w (max (gAt lv w) (gAt lv u + 1))) (e.fr.toNat : Nat) := rfl
      have e1 : gAt lv e.fr = gAt lv (e.fr.toNat : Nat) := rfl
      have := lvge e.fr.toNat
      omega
  · have hfr : gAt (lv.set w (max (gAt lv w) (gAt lv u + 1))) e.fr = gAt (lv.set w (max (gAt lv w) (gAt lv u + 1))) (e.fr.toNat : Nat) := rfl
    have e1 : gAt lv e.fr = gAt lv (e.fr.toNat : Nat) := rfl
    have h2 := lvge e.fr.toNat
    have hto := lvq _ huq
    rw [h, hto]
    rcases H.gu e he h with h3 | h3
    · rcases List.mem_cons.1 h3 with h3 | h3
      · right
        rw [h3, lvw, if_pos rfl]
        omega
      · exact .inl h3
    · rw [h] at h3
      right
      omega
  · rw [htk]
    have wq : ∀ e : Edge, (e.to ∈ qs.take d ∨ e.to = (u : Int)) → e.to ∈ qs := fun e h => by
      rcases h with h | h
      · exact hsub _ h
      · rw [h]; exact huq
    rw [lvw]
    by_cases hvw : v = w
    · subst hvw
      rw [if_pos rfl]
      by_cases hm : gAt lv u + 1 ≤ gAt lv v
      · rcases H.wit v hv with h | ⟨e, q1, q2, q3, q4⟩
        · exact .inl (by omega)
        · exact .inr ⟨e, q1, q2, q3, by have := lvq _ (wq e q3); omega⟩
      · refine .inr ⟨e0, he0, hf0, .inr ht0, ?_⟩
        rw [ht0, lvq _ huq]
        omega
    · rw [if_neg hvw]
      rcases H.wit v hv with h | ⟨e, q1, q2, q3, q4⟩
      · exact .inl h
      · exact .inr ⟨e, q1, q2, q3, by rw [lvq _ (wq e q3)]; exact q4⟩
  · rw [lvw]
    have b1 := H.bd v hv
    have b2 := H.bu
    split
    · rename_i h
      subst h
      omega
    · exact b1
  · rw [lvq _ huq]
    exact H.bu

theorem KI.len {N : Nat} {l : List Edge} {lf lv qs : List Int} {d : Nat} (H : KI N l lf lv qs d) : qs.length ≤ N := by
  have := nodup_le (xs := qs) (ys := (List.range N).map fun (i : Nat) => (i : Int)) H.nd (fun x hx => by
    obtain ⟨v, rfl, hv⟩ := H.rg x hx
    exact List.mem_map.2 ⟨v, List.mem_range.2 hv, rfl⟩)
  simpa using this
theorem KJ.len {N : Nat} {l : List Edge} {lf lv qs : List Int} {d u : Nat} {t : List Int} (H : KJ N l lf lv qs d u t) : qs.length ≤ N := by
  have := nodup_le (xs := qs) (ys := (List.range N).map fun (i : Nat) => (i : Int)) H.nd (fun x hx => by
    obtain ⟨v, rfl, hv⟩ := H.rg x hx
    exact List.mem_map.2 ⟨v, List.mem_range.2 hv, rfl⟩)
  simpa using this

theorem KI.full {N : Nat} {n : Int} {l : List Edge} (gr : Gr n l) (hN : n = N) {lf lv qs : List Int} {d : Nat} (H : KI N l lf lv qs d) (hd : qs.length ≤ d) (hdN : N ≤ d) : LevEq N l lv := by
  have all : ∀ v : Nat, v < N → (v : Int) ∈ qs := fun v hv => by
    refine Classical.byContradiction fun hn => ?_
    have := nodup_le (xs := (v : Int) :: qs) (ys := (List.range N).map fun (i : Nat) => (i : Int)) (List.nodup_cons.2 ⟨hn, H.nd⟩) (fun x hx => by
      rcases List.mem_cons.1 hx with rfl | hx
      · exact List.mem_map.2 ⟨v, List.mem_range.2 hv, rfl⟩
      · obtain ⟨w, rfl, hw⟩ := H.rg x hx
        exact List.mem_map.2 ⟨w, List.mem_range.2 hw, rfl⟩)
    have h2 := H.dq
    simp at this
    omega
  have ht : qs.take d = qs := List.take_of_length_le hd
  refine ⟨H.lvl, fun v hv => (H.bd v hv).1, fun e he => ?_, fun v hv => ?_⟩
  · obtain ⟨a, b, h1, h2, h3, h4⟩ := gr.e e he
    refine H.ge e he ?_
    rw [ht, h2]
    exact all b (by omega)
  · rcases H.wit v hv with h | ⟨e, q1, q2, q3, q4⟩
    · exact .inl h
    · exact .inr ⟨e, q1, q2, q4⟩

theorem KI.stuck {N : Nat} {n : Int} {l : List Edge} (gr : Gr n l) (hN : n = N) {lf lv qs : List Int} {d : Nat} (H : KI N l lf lv qs d) (hd : qs.length ≤ d) (hdN : d < N) : ¬ ∃ f, LevEq N l f := by
  rintro ⟨f, hf⟩
  have ht : qs.take d = qs := List.take_of_length_le hd
  have ex : ∃ v : Nat, v < N ∧ (v : Int) ∉ qs := by
    refine Classical.byContradiction fun hn => ?_
    have hall : ∀ v : Nat, v < N → (v : Int) ∈ qs := fun v hv => Classical.byContradiction fun h => hn ⟨v, hv, h⟩
    have := nodup_le (xs := (List.range N).map fun (i : Nat) => (i : Int)) (ys := qs) (List.Pairwise.map _ (fun a b h => by omega) List.nodup_range) (fun x hx => by
      obtain ⟨v, hv, rfl⟩ := List.mem_map.1 hx
      exact hall v (List.mem_range.1 hv))
    simp at this
    omega
  have grow : ∀ (k : Nat) (v : Nat), v < N → (v : Int) ∉ qs → (k : Int) ≤ gAt f v := by
    intro k
    induction k with
    | zero => intro v hv _; exact hf.nn v hv
    | succ k ih =>
      intro v hv hq
      have h1 : gAt lf v ≠ 0 := fun h => hq ((H.zero v hv).2 h)
      rw [H.left v hv, ht] at h1
      have h2 : 0 < rest l qs v := by omega
      obtain ⟨e, he, h3⟩ := List.countP_pos_iff.1 h2
      simp only [Bool.and_eq_true, decide_eq_true_eq, Bool.not_eq_true', decide_eq_false_iff_not] at h3
      obtain ⟨a, b, q1, q2, q3, q4⟩ := gr.e e he
      have h4 := hf.ge e he
      have h5 := ih b (by omega) (by rw [← q2]; exact h3.2)
      rw [h3.1, q2] at h4
      push_cast
      omega
  obtain ⟨v, hv, hq⟩ := ex
  have := grow ((gAt f v).toNat + 1) v hv hq
  have := hf.nn v hv
  omega

open Classical in
/-- What Levels returns. -/
noncomputable def levE (n : Int) (l : List Edge) : List Int × Int :=
  if chkG n l ≠ 0 then ([], chkG n l) else if h : ∃ f, LevEq n.toNat l f then (Classical.choose h, 0) else ([], 10)
theorem levE_bad {n : Int} {l : List Edge} (h : chkG n l ≠ 0) : levE n l = ([], chkG n l) := by unfold levE; rw [if_pos h]
theorem levE_ok {n : Int} {N : Nat} {l : List Edge} (h : chkG n l = 0) (hN : n = N) {f : List Int} (hf : LevEq N l f) : levE n l = (f, 0) := by
  have hN' : n.toNat = N := by omega
  subst hN'
  have ex : ∃ f, LevEq n.toNat l f := ⟨f, hf⟩
  have hc := Classical.choose_spec ex
  unfold levE
  rw [if_neg (by simpa using h), dif_pos ex, LevEq.uniq (gr_of h) hN hf hc]
theorem levE_no {n : Int} {N : Nat} {l : List Edge} (h : chkG n l = 0) (hN : n = N) (hf : ¬ ∃ f, LevEq N l f) : levE n l = ([], 10) := by
  have hN' : n.toNat = N := by omega
  unfold levE
  rw [if_neg (by simpa using h), dif_neg (by rw [hN']; exact hf)]

end Go.Am
