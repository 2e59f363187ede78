/- Cycles and levels, plainly. -/
import Derived.Test.YtflfnkdhmcfjlaaGrK
namespace Go.Am
open Go
set_option linter.unusedSimpArgs false
set_option linter.unusedVariables false

theorem Wk.trans {l : List Edge} {y z : Int} : ∀ {j k : Nat} {x : Int}, Wk l j x y → Wk l k y z → Wk l (j + k) x z
  | 0, k, x, h1, h2 => by
    have : x = y := h1
    subst this
    simpa using h2
  | j + 1, k, x, ⟨e, he, h3, h4⟩, h2 => by
    rw [show j + 1 + k = (j + k) + 1 by omega]
    exact ⟨e, he, h3, Wk.trans h4 h2⟩

/-- No walk of at least one edge closes. -/
def Acyc (l : List Edge) : Prop := ∀ (k : Nat) (x : Int), ¬ Wk l (k + 1) x x

theorem acyc_dst {l : List Edge} : Acyc l ↔ ∀ e ∈ l, dst l e.to e.fr < 0 := by
  constructor
  · intro h e he
    refine Int.not_le.1 fun hc => ?_
    have h1 := (dst_wk hc).1
    exact h _ e.fr ⟨e, he, rfl, h1⟩
  · rintro h k x ⟨e, he, h1, h2⟩
    have := (dst_of h2).1
    rw [← h1] at this
    have := h e he
    omega

/-- Numbers that fall along each edge bar a closed walk. -/
theorem wk_fall {l : List Edge} {f : Int → Int} (hf : ∀ e ∈ l, f e.to + 1 ≤ f e.fr) : ∀ {k : Nat} {x y : Int}, Wk l k x y → f y + k ≤ f x
  | 0, x, y, h => by
    have : x = y := h
    subst this
    simp
  | k + 1, x, y, ⟨e, he, h1, h2⟩ => by
    have h3 := wk_fall hf h2
    have h4 := hf e he
    rw [h1] at h4
    push_cast
    omega
theorem acyc_of {l : List Edge} {f : Int → Int} (hf : ∀ e ∈ l, f e.to + 1 ≤ f e.fr) : Acyc l := fun k x h => by
  have := wk_fall hf h
  omega
theorem LevEq.acyc {N : Nat} {l : List Edge} {f : List Int} (h : LevEq N l f) : Acyc l := acyc_of (f := gAt f) h.ge

theorem acyc_chain {n : Int} {N : Nat} {l : List Edge} (gr : Gr n l) (hN : n = N) (hA : Acyc l) : ∀ {k : Nat} {x y : Int}, Wk l k x y → (∃ v : Nat, x = v ∧ v < N) → ∃ xs : List Int, xs.length = k + 1 ∧ xs.Nodup ∧ (∀ z ∈ xs, ∃ v : Nat, z = v ∧ v < N) ∧ ∀ z ∈ xs, ∃ j, Wk l j x z
  | 0, x, y, h, hx => ⟨[x], rfl, by simp, by simpa using hx, fun z hz => ⟨0, by simp at hz; exact hz.symm⟩⟩
  | k + 1, x, y, ⟨e, he, h1, h2⟩, hx => by
    obtain ⟨a, b, h3, h4, h5, h6⟩ := gr.e e he
    obtain ⟨xs, q1, q2, q3, q4⟩ := acyc_chain gr hN hA h2 ⟨b, h4, by omega⟩
    refine ⟨x :: xs, by simp [q1], List.nodup_cons.2 ⟨fun hc => ?_, q2⟩, fun z hz => ?_, fun z hz => ?_⟩
    · obtain ⟨j, hj⟩ := q4 x hc
      exact hA j x ⟨e, he, h1, hj⟩
    · rcases List.mem_cons.1 hz with rfl | hz
      · exact hx
      · exact q3 z hz
    · rcases List.mem_cons.1 hz with rfl | hz
      · exact ⟨0, rfl⟩
      · obtain ⟨j, hj⟩ := q4 z hz
        exact ⟨j + 1, e, he, h1, hj⟩
theorem acyc_short {n : Int} {N : Nat} {l : List Edge} (gr : Gr n l) (hN : n = N) (hA : Acyc l) {k : Nat} {x y : Int} (h : Wk l k x y) (hx : ∃ v : Nat, x = v ∧ v < N) : k < N := by
  obtain ⟨xs, q1, q2, q3, _⟩ := acyc_chain gr hN hA h hx
  have := nodup_le (ys := (List.range N).map fun (v : Nat) => (v : Int)) q2 (fun z hz => by
    obtain ⟨v, rfl, hv⟩ := q3 z hz
    exact List.mem_map.2 ⟨v, by simpa using hv, rfl⟩)
  simp at this
  omega

/-- The length of a longest walk, of those of at most k edges. -/
def lw (l : List Edge) : Nat → Int → Int
  | 0, _ => 0
  | k + 1, v => l.foldl (fun a e => if e.fr = v then max a (lw l k e.to + 1) else a) 0
theorem foldl_mx {p : Edge → Bool} {g : Edge → Int} : ∀ {l : List Edge} {a : Int}, a ≤ l.foldl (fun a e => if p e = true then max a (g e) else a) a ∧ (∀ e ∈ l, p e = true → g e ≤ l.foldl (fun a e => if p e = true then max a (g e) else a) a) ∧
    (l.foldl (fun a e => if p e = true then max a (g e) else a) a = a ∨ ∃ e ∈ l, p e = true ∧ l.foldl (fun a e => if p e = true then max a (g e) else a) a = g e)
  | [], a => ⟨Int.le_refl _, by simp, .inl rfl⟩
  | x :: l, a => by
    obtain ⟨h1, h2, h3⟩ := foldl_mx (p := p) (g := g) (l := l) (a := if p x = true then max a (g x) else a)
    simp only [List.foldl_cons]
    generalize hr : List.foldl (fun a e => if p e = true then max a (g e) else a) (if p x = true then max a (g x) else a) l = r at h1 h2 h3
    by_cases hp : p x = true
    · rw [if_pos hp] at h1 h3
      refine ⟨by omega, fun e he hpe => ?_, ?_⟩
      · rcases List.mem_cons.1 he with rfl | he
        · omega
        · exact h2 e he hpe
      · rcases h3 with h3 | ⟨e, he, h4, h5⟩
        · rcases Int.le_total a (g x) with h | h
          · exact .inr ⟨x, by simp, hp, by omega⟩
          · exact .inl (by omega)
        · exact .inr ⟨e, by simp [he], h4, h5⟩
    · rw [if_neg hp] at h1 h3
      refine ⟨h1, fun e he hpe => ?_, ?_⟩
      · rcases List.mem_cons.1 he with rfl | he
        · exact absurd hpe hp
        · exact h2 e he hpe
      · rcases h3 with h3 | ⟨e, he, h4, h5⟩
        · exact .inl h3
        · exact .inr ⟨e, by simp [he], h4, h5⟩
theorem lw_succ {l : List Edge} {k : Nat} {v : Int} : lw l (k + 1) v = l.foldl (fun a e => if (fun e : Edge => decide (e.fr = v)) e = true then max a ((fun e : Edge => lw l k e.to + 1) e) else a) 0 := by
  simp only [lw, decide_eq_true_eq]
theorem lw_ge {l : List Edge} {k : Nat} {e : Edge} (he : e ∈ l) : lw l k e.to + 1 ≤ lw l (k + 1) e.fr := by
  rw [lw_succ]
  exact foldl_mx.2.1 e he (by simp)
theorem lw_nn {l : List Edge} {k : Nat} {v : Int} : 0 ≤ lw l k v := by
  cases k with
  | zero => exact Int.le_refl _
  | succ k => rw [lw_succ]; exact foldl_mx.1
theorem lw_wit {l : List Edge} {k : Nat} {v : Int} : lw l (k + 1) v = 0 ∨ ∃ e ∈ l, e.fr = v ∧ lw l (k + 1) v = lw l k e.to + 1 := by
  rw [lw_succ]
  rcases (foldl_mx (p := fun e : Edge => decide (e.fr = v)) (g := fun e : Edge => lw l k e.to + 1) (l := l) (a := 0)).2.2 with h | ⟨e, he, h1, h2⟩
  · exact .inl h
  · exact .inr ⟨e, he, by simpa using h1, h2⟩
theorem foldl_congr {f g : Int → Edge → Int} : ∀ {l : List Edge} {a : Int}, (∀ e ∈ l, ∀ a, f a e = g a e) → l.foldl f a = l.foldl g a
  | [], _, _ => rfl
  | x :: l, a, h => by
    simp only [List.foldl_cons]
    rw [h x (by simp)]
    exact foldl_congr fun e he => h e (by simp [he])
theorem lw_stop {l : List Edge} : ∀ {k : Nat} {v : Int}, (∀ y, ¬ Wk l (k + 1) v y) → lw l (k + 1) v = lw l k v
  | 0, v, h => by
    rcases lw_wit (l := l) (k := 0) (v := v) with h1 | ⟨e, he, h1, _⟩
    · exact h1
    · exact absurd ⟨e, he, h1, rfl⟩ (h e.to)
  | k + 1, v, h => by
    show l.foldl _ 0 = l.foldl _ 0
    refine foldl_congr fun e he a => ?_
    by_cases hf : e.fr = v
    · rw [if_pos hf, if_pos hf, lw_stop fun y hy => h y ⟨e, he, hf, hy⟩]
    · rw [if_neg hf, if_neg hf]

/-- A graph without closed walks has levels. -/
theorem acyc_lev {n : Int} {N : Nat} {l : List Edge} (gr : Gr n l) (hN : n = N) (hA : Acyc l) : ∃ f, LevEq N l f := by
  have stop : ∀ v : Nat, v < N → lw l (N + 1) v = lw l N v := fun v hv => lw_stop fun y hy => by
    have := acyc_short gr hN hA hy ⟨v, rfl, hv⟩
    omega
  have g : ∀ v : Nat, v < N → gAt (reachL N (lw l N)) v = lw l N v := fun v hv => by
    have := gAt_get (xs := reachL N (lw l N)) (v := v) (by rw [reachL_len]; exact hv)
    rw [reachL_get hv] at this
    exact (Option.some.inj this).symm
  refine ⟨reachL N (lw l N), reachL_len, fun v hv => by rw [g v hv]; exact lw_nn, fun e he => ?_, fun v hv => ?_⟩
  · obtain ⟨a, b, h1, h2, h3, h4⟩ := gr.e e he
    have h5 := lw_ge (k := N) he
    rw [h1, h2] at h5 ⊢
    rw [g a (by omega), g b (by omega), ← stop a (by omega)]
    exact h5
  · rcases lw_wit (l := l) (k := N) (v := v) with h | ⟨e, he, h1, h2⟩
    · exact .inl (by rw [g v hv, ← stop v hv]; exact h)
    · obtain ⟨a, b, q1, q2, q3, q4⟩ := gr.e e he
      rw [q2] at h2
      exact .inr ⟨e, he, h1, by rw [g v hv, ← stop v hv, h2, q2, g b (by omega)]⟩

theorem lev_iff {n : Int} {N : Nat} {l : List Edge} (gr : Gr n l) (hN : n = N) : (∃ f, LevEq N l f) ↔ Acyc l := ⟨fun ⟨_, h⟩ => h.acyc, acyc_lev gr hN⟩

/-- The choice of Cycle: none exactly if no edge lies on a closed walk. -/
theorem bestS_none {l : List Edge} : ∀ {t : List Edge} {i : Nat} {b : Int × Int}, (bestS l t i b).1 < 0 ↔ b.1 < 0 ∧ ((∀ e ∈ t, ¬ 0 < lenE l e) ∨ (0 ≤ b.2 ∧ False) ∨ (∀ e ∈ t, ¬ (0 < lenE l e ∧ (b.2 < 0 ∨ lenE l e < b.2))))
  | [], i, b => by simp [bestS]
  | x :: t, i, b => by
    show (bestS l t (i + 1) _).1 < 0 ↔ _
    rw [bestS_none]
    by_cases h : 0 < lenE l x ∧ (b.2 < 0 ∨ lenE l x < b.2)
    · rw [if_pos h]
      constructor
      · rintro ⟨h1, _⟩
        have : ((i : Nat) : Int) < 0 := h1
        omega
      · rintro ⟨_, h1 | ⟨_, h1⟩ | h1⟩
        · exact absurd h.1 (h1 x (by simp))
        · exact h1.elim
        · exact absurd h (h1 x (by simp))
    · rw [if_neg h]
      constructor
      · rintro ⟨h1, h2 | ⟨_, h2⟩ | h2⟩
        · refine ⟨h1, .inr (.inr fun e he => ?_)⟩
          rcases List.mem_cons.1 he with rfl | he
          · exact h
          · exact fun hc => h2 e he hc.1
        · exact h2.elim
        · refine ⟨h1, .inr (.inr fun e he => ?_)⟩
          rcases List.mem_cons.1 he with rfl | he
          · exact h
          · exact h2 e he
      · rintro ⟨h1, h2 | ⟨_, h2⟩ | h2⟩
        · exact ⟨h1, .inl fun e he => h2 e (by simp [he])⟩
        · exact h2.elim
        · exact ⟨h1, .inr (.inr fun e he => h2 e (by simp [he]))⟩
theorem lenE_pos {l : List Edge} {e : Edge} : 0 < lenE l e ↔ 0 ≤ dst l e.to e.fr := by
  unfold lenE
  split <;> omega
theorem bestE_none {l : List Edge} : (bestE l).1 < 0 ↔ Acyc l := by
  unfold bestE
  rw [bestS_none, acyc_dst]
  constructor
  · rintro ⟨_, h | ⟨_, h⟩ | h⟩ e he
    · have := h e he
      rw [lenE_pos] at this
      omega
    · exact h.elim
    · have h1 : ¬ 0 < lenE l e := fun hc => h e he ⟨hc, .inl (by decide)⟩
      rw [lenE_pos] at h1
      omega
  · intro h
    refine ⟨by decide, .inl fun e he => ?_⟩
    rw [lenE_pos]
    have := h e he
    omega

def edAt (l : List Edge) (i : Int) : Edge := (l[i.toNat]?).getD ⟨0, 0, 0, 0⟩
/-- Edges of which each begins where the one before ends. -/
def EC : Int → List Edge → Int → Prop
  | x, [], y => x = y
  | x, e :: t, y => e.fr = x ∧ EC e.to t y
theorem EC.next {y : Int} : ∀ {es : List Edge} {x : Int} {i : Nat} {e : Edge}, EC x es y → es[i]? = some e → (∃ e', es[i + 1]? = some e' ∧ e'.fr = e.to) ∨ (i + 1 = es.length ∧ e.to = y)
  | [], _, _, _, _, h => by simp at h
  | a :: es, x, 0, e, ⟨h1, h2⟩, h => by
    simp at h
    subst h
    cases es with
    | nil => exact .inr ⟨rfl, h2⟩
    | cons b es => exact .inl ⟨b, rfl, h2.1⟩
  | a :: es, x, i + 1, e, ⟨h1, h2⟩, h => by
    rcases EC.next (i := i) h2 (by simpa using h) with h3 | ⟨h3, h4⟩
    · exact .inl (by simpa using h3)
    · exact .inr ⟨by simp [h3], h4⟩

theorem walk_ec {l : List Edge} {y : Int} : ∀ {k : Nat} {x : Int}, dst l x y = k → (∀ i ∈ walkE l y k x, ∃ (j : Nat) (e : Edge), i = (j : Int) ∧ l[j]? = some e) ∧ EC x ((walkE l y k x).map (edAt l)) y
  | 0, x, h => ⟨by simp [walkE], dst_zero.1 h⟩
  | k + 1, x, h => by
    obtain ⟨j, e, h1, h2, h3, h4, h5⟩ := nxtE_some (l := l) (x := x) (y := y) (k := k) (by rw [h]; push_cast; rfl)
    obtain ⟨q1, q2⟩ := walk_ec h4
    have ew : walkE l y (k + 1) x = (j : Int) :: walkE l y k e.to := by
      show nxtE l x y k :: walkE l y k (toAt l (nxtE l x y k)) = _
      rw [h5, h1]
    rw [ew]
    refine ⟨fun i hi => ?_, ?_, ?_⟩
    · rcases List.mem_cons.1 hi with rfl | hi
      · exact ⟨j, e, rfl, h2⟩
      · exact q1 i hi
    · simp only [edAt, Int.toNat_natCast, h2, Option.getD_some]
      exact h3
    · simp only [edAt, Int.toNat_natCast, h2, Option.getD_some]
      exact q2
theorem cyc_ec {n : Int} {l : List Edge} (h0 : chkG n l = 0) : (cycE n l).2 = 0 ∧ (∀ i ∈ (cycE n l).1, ∃ (j : Nat) (e : Edge), i = (j : Int) ∧ l[j]? = some e) ∧ ((cycE n l).1 = [] ∧ (bestE l).1 < 0 ∨ (cycE n l).1 ≠ [] ∧ 0 ≤ (bestE l).1 ∧ ∃ x, EC x ((cycE n l).1.map (edAt l)) x) := by
  rcases bestE_bst (l := l) with ⟨h1, h2⟩ | ⟨j, e, h1, h2, h3, h4⟩
  · have ec : cycE n l = ([], 0) := by unfold cycE; rw [if_neg (by simpa using h0), if_pos (by omega)]
    rw [ec]
    exact ⟨rfl, by simp, .inl ⟨rfl, by omega⟩⟩
  · have h5 : ¬ dst l e.to e.fr < 0 := by
      intro hc
      unfold lenE at h3
      rw [if_pos hc] at h3
      omega
    obtain ⟨k, hk⟩ : ∃ k : Nat, dst l e.to e.fr = k := ⟨(dst l e.to e.fr).toNat, by omega⟩
    have h6 : (bestE l).2 = dst l e.to e.fr + 1 := by
      rw [← h3]
      unfold lenE
      rw [if_neg h5]
    have ec : cycE n l = ((j : Int) :: walkE l e.fr k e.to, 0) := by
      unfold cycE
      rw [if_neg (by simpa using h0), if_neg (by omega), h1, show ((bestE l).2 - 1).toNat = k by omega]
      simp only [frAt, toAt, Int.toNat_natCast, h2]
    obtain ⟨q1, q2⟩ := walk_ec hk
    rw [ec]
    refine ⟨rfl, fun i hi => ?_, .inr ⟨by simp, by omega, e.fr, ?_⟩⟩
    · rcases List.mem_cons.1 hi with rfl | hi
      · exact ⟨j, e, rfl, h2⟩
      · exact q1 i hi
    · show EC e.fr (edAt l (j : Int) :: (walkE l e.fr k e.to).map (edAt l)) e.fr
      have : edAt l (j : Int) = e := by simp only [edAt, Int.toNat_natCast, h2, Option.getD_some]
      rw [this]
      exact ⟨rfl, q2⟩
theorem cyc_len {n : Int} {N : Nat} {l : List Edge} (gr : Gr n l) (hN : n = N) : (cycE n l).1.length ≤ N := by
  unfold cycE
  split
  · simp
  · split
    · simp
    · rename_i h1
      rcases bestE_bst (l := l) with ⟨h2, _⟩ | ⟨j, e, h2, h3, h4, h5⟩
      · omega
      · obtain ⟨a, b, ha, hb, ha2, hb2⟩ := gr.e e (List.mem_of_getElem? h3)
        have h6 := dst_lt (y := e.fr) gr hN (x := b) (by omega)
        unfold lenE at h4
        rw [hb] at h4
        split at h4
        · omega
        · simp only [List.length_cons, walkE_len]
          omega

end Go.Am
