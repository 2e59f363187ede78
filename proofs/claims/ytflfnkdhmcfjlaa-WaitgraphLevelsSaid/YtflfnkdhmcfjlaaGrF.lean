/- The reference's Levels. -/
import Derived.Test.YtflfnkdhmcfjlaaGrE
namespace Go.Am
open Go
set_option linter.unusedSimpArgs false
set_option linter.unusedVariables false
set_option maxRecDepth 100000

/-- In round r, the edges of p being done. -/
structure RI (N : Nat) (l : List Edge) (r : Nat) (p : List Edge) (o : List Int) (more : Bool) : Prop where
  ln : o.length = N
  nn : ∀ v, v < N → 0 ≤ gAt o v
  wit : ∀ v, v < N → gAt o v = 0 ∨ ∃ e ∈ l, e.fr = (v : Int) ∧ gAt o v ≤ gAt o e.to + 1
  le : ∀ f, LevEq N l f → ∀ v, v < N → gAt o v ≤ gAt f v
  eq : ∀ f, LevEq N l f → ∀ v, v < N → gAt f v ≤ r → gAt o v = gAt f v
  pr : ∀ f, LevEq N l f → ∀ e ∈ p, gAt f e.to ≤ r → gAt f e.to + 1 ≤ gAt o e.fr
  no : more = false → ∀ e ∈ p, gAt o e.to + 1 ≤ gAt o e.fr
  fin : ∀ f, LevEq N l f → (∀ v, v < N → gAt f v ≤ r) → more = false
  bd : ∀ v, v < N → gAt o v ≤ r * 100000 + p.length

theorem RI.start {N : Nat} {l : List Edge} : RI N l 0 [] (List.replicate N 0) false := by
  have hz : ∀ v : Nat, gAt (List.replicate N 0) v = 0 := fun v => by
    unfold gAt
    rw [Int.toNat_natCast, List.getD]
    by_cases h : v < N
    · rw [List.getElem?_replicate_of_lt h]; rfl
    · rw [List.getElem?_eq_none (by simp; omega)]; rfl
  refine ⟨by simp, fun v _ => by rw [hz]; omega, fun v _ => .inl (hz v), fun f hf v hv => by rw [hz]; exact hf.nn v hv, fun f hf v hv h => by rw [hz]; have := hf.nn v hv; omega, fun f hf e he => by simp at he, fun _ e he => by simp at he, fun _ _ _ => rfl, fun v hv => by rw [hz]; simp⟩

theorem RI.keep {N r : Nat} {l p : List Edge} {o : List Int} {more : Bool} (H : RI N l r p o more) {e : Edge} (h : gAt o e.to + 1 ≤ gAt o e.fr) {n : Int} (gr : Gr n l) (hN : n = N) (he : e ∈ l) : RI N l r (p ++ [e]) o more := by
  refine ⟨H.ln, H.nn, H.wit, H.le, H.eq, fun f hf d hd hr => ?_, fun hm d hd => ?_, H.fin, fun v hv => by have := H.bd v hv; simp; omega⟩
  · rcases List.mem_append.1 hd with hd | hd
    · exact H.pr f hf d hd hr
    · simp at hd
      subst hd
      obtain ⟨a, b, h1, h2, h3, h4⟩ := gr.e d he
      rw [h2] at hr h ⊢
      rw [← H.eq f hf b (by omega) hr]
      exact h
  · rcases List.mem_append.1 hd with hd | hd
    · exact H.no hm d hd
    · simp at hd
      subst hd
      exact h

theorem RI.raise {N r a b : Nat} {l p : List Edge} {o : List Int} {more : Bool} (H : RI N l r p o more) {e : Edge} {n : Int} (gr : Gr n l) (hN : n = N) (he : e ∈ l) (ha : e.fr = a) (hb : e.to = b) (hav : a < N) (hbv : b < N) (h : gAt o a < gAt o b + 1) : RI N l r (p ++ [e]) (o.set a (gAt o b + 1)) true := by
  have gs : ∀ v : Nat, gAt (o.set a (gAt o b + 1)) v = if v = a then gAt o b + 1 else gAt o v := fun v => gAt_set (by rw [H.ln]; exact hav)
  have ge : ∀ v : Nat, gAt o v ≤ gAt (o.set a (gAt o b + 1)) v := fun v => by
    rw [gs]
    split
    · rename_i hv; rw [hv]; omega
    · omega
  have gei : ∀ y : Int, gAt o y ≤ gAt (o.set a (gAt o b + 1)) y := fun y => ge y.toNat
  refine ⟨by simp [H.ln], fun v hv => by have := ge v; have := H.nn v hv; omega, fun v hv => ?_, fun f hf v hv => ?_, fun f hf v hv hr => ?_, fun f hf d hd hr => ?_, fun hm => (by cases hm), fun f hf hr => ?_, fun v hv => ?_⟩
  · rw [gs]
    by_cases hva : v = a
    · rw [if_pos hva]
      refine .inr ⟨e, he, by rw [hva]; exact ha, ?_⟩
      have := ge b
      rw [hb]
      omega
    · rw [if_neg hva]
      rcases H.wit v hv with h1 | ⟨d, h1, h2, h3⟩
      · exact .inl h1
      · exact .inr ⟨d, h1, h2, by have := gei d.to; omega⟩
  · rw [gs]
    split
    · rename_i hva
      subst hva
      have h1 := hf.ge e he
      rw [ha, hb] at h1
      have := H.le f hf b hbv
      omega
    · exact H.le f hf v hv
  · rw [gs]
    split
    · rename_i hva
      subst hva
      have h1 := hf.ge e he
      rw [ha, hb] at h1
      have h2 := H.eq f hf v hv hr
      have h3 := H.le f hf b hbv
      omega
    · exact H.eq f hf v hv hr
  · rcases List.mem_append.1 hd with hd | hd
    · have := H.pr f hf d hd hr
      have := gei d.fr
      omega
    · simp at hd
      subst hd
      rw [hb] at hr ⊢
      rw [ha, gs, if_pos rfl, H.eq f hf b hbv hr]
      omega
  · have h1 := hf.ge e he
    rw [ha, hb] at h1
    have h2 := H.eq f hf a hav (hr a hav)
    have h3 := H.eq f hf b hbv (hr b hbv)
    omega
  · rw [gs]
    have b1 := H.bd v hv
    have b2 := H.bd b hbv
    simp only [List.length_append, List.length_singleton]
    split <;> omega

theorem RI.done {N r : Nat} {l : List Edge} {o : List Int} (H : RI N l r l o false) : LevEq N l o := by
  refine ⟨H.ln, H.nn, H.no rfl, fun v hv => ?_⟩
  rcases H.wit v hv with h | ⟨e, h1, h2, h3⟩
  · exact .inl h
  · have := H.no rfl e h1
    rw [h2] at this
    exact .inr ⟨e, h1, h2, by omega⟩

theorem RI.next {N r : Nat} {l : List Edge} {o : List Int} (H : RI N l r l o true) (hl : l.length ≤ 100000) : RI N l (r + 1) [] o false := by
  refine ⟨H.ln, H.nn, H.wit, H.le, fun f hf v hv hr => ?_, fun f hf e he => by simp at he, fun _ e he => by simp at he, fun _ _ _ => rfl, fun v hv => by have := H.bd v hv; push_cast; simp; omega⟩
  by_cases h : gAt f v ≤ r
  · exact H.eq f hf v hv h
  · rcases hf.wit v hv with h1 | ⟨e, h1, h2, h3⟩
    · omega
    · have h4 := H.pr f hf e h1 (by push_cast at hr; omega)
      rw [h2] at h4
      have := H.le f hf v hv
      omega

/-- Levels are below the number of nodes. -/
theorem LevEq.small {n : Int} {N : Nat} {l : List Edge} (gr : Gr n l) (hN : n = N) {f : List Int} (hf : LevEq N l f) : ∀ v, v < N → gAt f v ≤ N := by
  intro v hv
  have down : ∀ (k : Nat) (w : Nat), w < N → (k : Int) ≤ gAt f w → ∃ w', w' < N ∧ gAt f w' = k := by
    intro k w hw hk
    obtain ⟨j, hj⟩ : ∃ j : Nat, gAt f w = k + j := ⟨(gAt f w - k).toNat, by omega⟩
    induction j generalizing w with
    | zero => exact ⟨w, hw, by omega⟩
    | succ j ih =>
      rcases hf.wit w hw with h1 | ⟨e, h1, h2, h3⟩
      · omega
      · obtain ⟨a, b, q1, q2, q3, q4⟩ := gr.e e h1
        rw [q2] at h3
        exact ih b (by omega) (by omega) (by omega)
  refine Classical.byContradiction fun hgt => ?_
  have hall : ∀ k : Nat, k < N + 1 → ∃ w, w < N ∧ gAt f w = k := fun k hk => down k v hv (by omega)
  have hch : ∃ g : Nat → Nat, ∀ k, k < N + 1 → g k < N ∧ gAt f (g k) = k := by
    refine ⟨fun k => if h : k < N + 1 then Classical.choose (hall k h) else 0, fun k hk => ?_⟩
    simp only [dif_pos hk]
    exact Classical.choose_spec (hall k hk)
  obtain ⟨g, hg⟩ := hch
  have := nodup_le (xs := (List.range (N + 1)).map g) (ys := List.range N) (by
    refine List.pairwise_map.2 (List.Pairwise.imp_of_mem (fun {a b} ha hb hab he => ?_) List.nodup_range)
    have h1 := (hg a (List.mem_range.1 ha)).2
    have h2 := (hg b (List.mem_range.1 hb)).2
    rw [he] at h1
    exact hab (by omega)) (fun x hx => by
    obtain ⟨k, hk, rfl⟩ := List.mem_map.1 hx
    exact List.mem_range.2 (hg k (List.mem_range.1 hk)).1)
  simp at this
  omega

theorem RI.never {N : Nat} {n : Int} {l : List Edge} {o : List Int} (gr : Gr n l) (hN : n = N) (H : RI N l N l o true) : ¬ ∃ f, LevEq N l f := by
  rintro ⟨f, hf⟩
  have := H.fin f hf (hf.small gr hN)
  cases this

theorem sp44 {F : Nat → Option Fn} (hG : HasG F) {lo : Nat} {m : Mem} (n : Int) (l : List Edge) (hl : l.length < 100000) : callw F 44 [vi n, vEdges l] lo m = some (.tup [ints (levE n l).1, vi (levE n l).2], m) := by
  have c108 : ∀ {lo m}, callw F 108 [vi n, vEdges l] lo m = some (vi (chkG n l), m) := fun {lo m} => sp108 hG n l (by omega)
  refine call_p hG.h44 rfl ?_
  by_cases h0 : chkG n l = 0
  · have gr := gr_of h0
    obtain ⟨N, hN⟩ : ∃ N : Nat, n = N := ⟨n.toNat, by have := gr.n0; omega⟩
    have n4 := gr.n4
    have hN4 : N ≤ 4096 := by omega
    have loop1 : ∀ (r i : Nat) (v : V) (m' : Mem) (Q : Ex → St → Prop), i + r = N → m.next ≤ m'.next → Rw m.next m' 1 v ((List.replicate i (0 : Int)).map vi) →
        (∀ v m' e, m.next ≤ m'.next → Rw m.next m' 1 v ((List.replicate N (0 : Int)).map vi) → Q (.exit 0) ⟨(0, vi n) :: (1, vEdges l) :: (7, v) :: e, [], [], m'⟩) →
        W F m.next L44_1 ⟨[(0, vi n), (1, vEdges l), (7, v), (8, vi i)], [], [], m'⟩ Q := by
      intro r
      induction r with
      | zero =>
        intro i v m' Q hi hm hr hq
        rw [W_L (c := L44_1) rfl]
        have : ¬ ((i : Nat) : Int) < n := by omega
        simp only [↓sxc, sx, se, ↓reduceIte, Nat.reduceEqDiff, Nat.reduceAdd, Nat.reduceLT, Nat.reduceLeDiff, Nat.reduceSub, Nat.reduceMul, Int.reduceToNat, Int.reduceLT, Int.reduceLE, Int.reduceEq, ml_i0, ↓smc, sm, this]
        exact hq v m' _ hm (by rw [← show i = N by omega]; exact hr)
      | succ r ih =>
        intro i v m' Q hi hm hr hq
        rw [W_L (c := L44_1) rfl]
        have : ((i : Nat) : Int) < n := by omega
        have wr : wrapF .i64 ((i : Int) + 1) = ((i + 1 : Nat) : Int) := by rw [wr_i64 (by omega) (by omega)]; rfl
        obtain ⟨v', m'', hap, hr', hn, _⟩ := Rw.app (y := .lst false 1 [vi 0]) hr hm vw_lst (.inl rfl) (by simp [big]; omega)
        simp only [↓sxc, sx, se, ↓reduceIte, Nat.reduceEqDiff, Nat.reduceAdd, Nat.reduceLT, Nat.reduceLeDiff, Nat.reduceSub, Nat.reduceMul, Int.reduceToNat, Int.reduceLT, Int.reduceLE, Int.reduceEq, ml_i0, ↓smc, sm, this, hap, wr]
        refine ih (i + 1) v' (m''.bump 1) Q (by omega) ?_ (by rw [List.replicate_succ', List.map_append]; exact hr') hq
        show m.next ≤ m''.next + 1
        omega
    have loop2 : ∀ (r : Nat), r ≤ N → ∀ (t : List Edge) (j : Nat) (v : V) (o : List Int) (more : Bool) (m' : Mem) (Q : Ex → St → Prop), l.drop j = t → m.next ≤ m'.next → Rw m.next m' 1 v (o.map vi) → RI N l r (l.take j) o more →
        (∀ v o more m' e, m.next ≤ m'.next → Rw m.next m' 1 v (o.map vi) → RI N l r l o more → Q (.exit 4) ⟨(0, vi n) :: (1, vEdges l) :: (7, v) :: (9, vi r) :: (10, .bool more) :: e, [], [], m'⟩) →
        W F m.next L44_2 ⟨[(0, vi n), (1, vEdges l), (7, v), (9, vi r), (10, .bool more), (11, vi j)], [], [], m'⟩ Q := by
      intro r hrN t
      induction t with
      | nil =>
        intro j v o more m' Q hd hm hr hI hq
        have hlt := drop_nil hd
        rw [W_L (c := L44_2) rfl]
        have : ¬ ((j : Nat) : Int) < (l.length : Int) := by omega
        simp only [↓sxc, sx, se, ↓reduceIte, Nat.reduceEqDiff, Nat.reduceAdd, Nat.reduceLT, Nat.reduceLeDiff, Nat.reduceSub, Nat.reduceMul, Int.reduceToNat, Int.reduceLT, Int.reduceLE, Int.reduceEq, ml_i0, ↓smc, sm, this]
        rw [List.take_of_length_le hlt] at hI
        exact hq v o more m' _ hm hr hI
      | cons x t ih =>
        intro j v o more m' Q hd hm hr hI hq
        obtain ⟨hg, hd', hlt⟩ := drop_cons hd
        have hx := List.mem_of_getElem? hg
        obtain ⟨a, b, ha, hb, ha2, hb2⟩ := gr.e x hx
        rw [W_L (c := L44_2) rfl]
        have : ((j : Nat) : Int) < (l.length : Int) := by omega
        have wr : wrapF .i64 ((j : Int) + 1) = ((j + 1 : Nat) : Int) := by rw [wr_i64 (by omega) (by omega)]; rfl
        have aN : a < N := by omega
        have bN : b < N := by omega
        have ga := gAt_get (xs := o) (v := a) (by rw [hI.ln]; exact aN)
        have gb := gAt_get (xs := o) (v := b) (by rw [hI.ln]; exact bN)
        have nb := hI.nn b bN
        have bb := hI.bd b bN
        have w1 : wrapF .i64 (gAt o b + 1) = gAt o b + 1 := wr_i64 (by omega) (by
          have : (l.take j).length ≤ l.length := by simp; omega
          omega)
        rcases hr with ⟨_, h2⟩ | ⟨k, rfl, k1, k2, k3⟩
        · have := hI.ln
          simp at h2
          rw [h2] at this
          simp at this
          omega
        · simp only [List.length_map]
          have a1 : (a : Int) < (o.length : Int) := by rw [hI.ln]; omega
          have b1 : (b : Int) < (o.length : Int) := by rw [hI.ln]; omega
          have a0 : (0 : Int) ≤ a := by omega
          have b0 : (0 : Int) ≤ b := by omega
          have an : ((a : Nat) : Int).toNat = a := rfl
          have bn : ((b : Nat) : Int).toNat = b := rfl
          have tk := take_succ_drop hd
          by_cases hlt2 : gAt o a < gAt o b + 1
          · have hI' := hI.raise gr hN hx ha hb aN bN hlt2
            rw [← tk] at hI'
            simp only [↓sxc, sx, se, ↓reduceIte, Nat.reduceEqDiff, Nat.reduceAdd, Nat.reduceLT, Nat.reduceLeDiff, Nat.reduceSub, Nat.reduceMul, Int.reduceToNat, Int.reduceLT, Int.reduceLE, Int.reduceEq, ml_i0, ↓smc, sm, this, hg, ha, hb, a1, b1, a0, b0, an, bn, k3, ga, gb, w1, hlt2, k1, wr, bump_blk]
            have hln : (o.set a (gAt o b + 1)).length = o.length := by simp
            rw [← hln]
            refine ih (j + 1) _ (o.set a (gAt o b + 1)) true _ Q hd' ?_ ?_ hI' hq
            · show m.next ≤ m'.next + 18 + 17; omega
            · refine .inr ⟨k, by simp, k1, by show k < m'.next + 18 + 17; omega, ?_⟩
              simp [Mem.set, Mem.bump, List.map_set]
          · have hI' := hI.keep (e := x) (by rw [ha, hb]; omega) gr hN hx
            rw [← tk] at hI'
            simp only [↓sxc, sx, se, ↓reduceIte, Nat.reduceEqDiff, Nat.reduceAdd, Nat.reduceLT, Nat.reduceLeDiff, Nat.reduceSub, Nat.reduceMul, Int.reduceToNat, Int.reduceLT, Int.reduceLE, Int.reduceEq, ml_i0, ↓smc, sm, this, hg, ha, hb, a1, b1, a0, b0, an, bn, k3, ga, gb, w1, hlt2, k1, wr, bump_blk]
            refine ih (j + 1) _ o more _ Q hd' ?_ ?_ hI' hq
            · show m.next ≤ m'.next + 18; omega
            · exact .inr ⟨k, by simp, k1, by show k < m'.next + 18; omega, k3⟩
    have loop3 : ∀ (q r : Nat) (v : V) (o : List Int) (m' : Mem) (Q : Ex → St → Prop), r + q = N + 1 → m.next ≤ m'.next → Rw m.next m' 1 v (o.map vi) → RI N l r [] o false →
        (∀ v o m', m.next ≤ m'.next → Rw m.next m' 1 v (o.map vi) → LevEq N l o → Q .ret ⟨[(4, v), (5, vi 0)], [], [], m'⟩) → ((¬ ∃ f, LevEq N l f) → ∀ m' e, Q (.exit 2) ⟨e, [], [], m'⟩) →
        (r = 0 ∨ ∃ o', RI N l (r - 1) l o' true) →
        W F m.next L44_3 ⟨[(0, vi n), (1, vEdges l), (7, v), (9, vi r)], [], [], m'⟩ Q := by
      intro q
      induction q with
      | zero =>
        intro r v o m' Q hr hm hR hI q1 q2 hp
        rw [W_L (c := L44_3) rfl]
        have : ¬ ((r : Nat) : Int) ≤ n := by omega
        simp only [↓sxc, sx, se, ↓reduceIte, Nat.reduceEqDiff, Nat.reduceAdd, Nat.reduceLT, Nat.reduceLeDiff, Nat.reduceSub, Nat.reduceMul, Int.reduceToNat, Int.reduceLT, Int.reduceLE, Int.reduceEq, ml_i0, ↓smc, sm, this]
        rcases hp with h | ⟨o', h⟩
        · omega
        · rw [show r - 1 = N by omega] at h
          exact q2 (h.never gr hN) _ _
      | succ q ih =>
        intro r v o m' Q hr hm hR hI q1 q2 hp
        rw [W_L (c := L44_3) rfl]
        have : ((r : Nat) : Int) ≤ n := by omega
        have wr : wrapF .i64 ((r : Int) + 1) = ((r + 1 : Nat) : Int) := by rw [wr_i64 (by omega) (by omega)]; rfl
        simp only [↓sxc, sx, se, ↓reduceIte, Nat.reduceEqDiff, Nat.reduceAdd, Nat.reduceLT, Nat.reduceLeDiff, Nat.reduceSub, Nat.reduceMul, Int.reduceToNat, Int.reduceLT, Int.reduceLE, Int.reduceEq, ml_i0, ↓smc, sm, this]
        refine loop2 r (by omega) l 0 v o false m' _ rfl hm hR (by rw [List.take_zero]; exact hI) (fun v o more m' e h1 h2 h3 => ?_)
        cases more with
        | false =>
          simp only [↓sxc, sx, se, ↓reduceIte, Nat.reduceEqDiff, Nat.reduceAdd, Nat.reduceLT, Nat.reduceLeDiff, Nat.reduceSub, Nat.reduceMul, Int.reduceToNat, Int.reduceLT, Int.reduceLE, Int.reduceEq, ml_i0, ↓smc, sm]
          exact q1 v o m' h1 h2 h3.done
        | true =>
          simp only [↓sxc, sx, se, ↓reduceIte, Nat.reduceEqDiff, Nat.reduceAdd, Nat.reduceLT, Nat.reduceLeDiff, Nat.reduceSub, Nat.reduceMul, Int.reduceToNat, Int.reduceLT, Int.reduceLE, Int.reduceEq, ml_i0, ↓smc, sm, wr]
          exact ih (r + 1) v o m' Q (by omega) h1 h2 (h3.next (by omega)) q1 q2 (.inr ⟨o, h3⟩)
    simp only [↓sxc, sx, se, ↓reduceIte, Nat.reduceEqDiff, Nat.reduceAdd, Nat.reduceLT, Nat.reduceLeDiff, Nat.reduceSub, Nat.reduceMul, Int.reduceToNat, Int.reduceLT, Int.reduceLE, Int.reduceEq, ml_i0, ↓smc, sm, c108, h0]
    refine loop1 N 0 .nil m _ (by omega) (Nat.le_refl _) .nil (fun v m' e h1 h2 => ?_)
    simp only [↓sxc, sx, se, ↓reduceIte, Nat.reduceEqDiff, Nat.reduceAdd, Nat.reduceLT, Nat.reduceLeDiff, Nat.reduceSub, Nat.reduceMul, Int.reduceToNat, Int.reduceLT, Int.reduceLE, Int.reduceEq, ml_i0, ↓smc, sm]
    refine loop3 (N + 1) 0 v (List.replicate N 0) m' _ (by omega) h1 h2 .start (fun v o m' h1 h2 h3 => ?_) (fun h m' e => ?_) (.inl rfl)
    · rw [levE_ok h0 hN h3]
      simp only [↓sxc, sx, se, ↓reduceIte, Nat.reduceEqDiff, Nat.reduceAdd, Nat.reduceLT, Nat.reduceLeDiff, Nat.reduceSub, Nat.reduceMul, Int.reduceToNat, Int.reduceLT, Int.reduceLE, Int.reduceEq, ml_i0, ↓smc, sm]
      simp only [mapO, fz_int]
      rw [h2.freeze, mapO_id (fun x hx => by
        obtain ⟨y, _, rfl⟩ := List.mem_map.1 hx
        rfl)]
      rfl
    · rw [levE_no h0 hN h]
      simp only [↓sxc, sx, se, ↓reduceIte, Nat.reduceEqDiff, Nat.reduceAdd, Nat.reduceLT, Nat.reduceLeDiff, Nat.reduceSub, Nat.reduceMul, Int.reduceToNat, Int.reduceLT, Int.reduceLE, Int.reduceEq, ml_i0, ↓smc, sm]
      rfl
  · rw [levE_bad h0]
    simp only [↓sxc, sx, se, ↓reduceIte, Nat.reduceEqDiff, Nat.reduceAdd, Nat.reduceLT, Nat.reduceLeDiff, Nat.reduceSub, Nat.reduceMul, Int.reduceToNat, Int.reduceLT, Int.reduceLE, Int.reduceEq, ml_i0, ↓smc, sm, c108, h0]
    rfl

end Go.Am
