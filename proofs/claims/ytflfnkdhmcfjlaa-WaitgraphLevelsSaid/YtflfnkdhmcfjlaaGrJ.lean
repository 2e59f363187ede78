/- The program's distances. -/
import Derived.Test.YtflfnkdhmcfjlaaGrI
namespace Go.Am
open Go
set_option linter.unusedSimpArgs false
set_option linter.unusedVariables false
set_option maxRecDepth 100000

/-- A queue: the end of a block, from a place on; its block is none of the first b. -/
structure Qo (lo : Nat) (m : Mem) (b : Nat) (v : V) (xs : List Int) : Prop where
  ex : ∃ k o es, v = .row 1 k o xs.length ∧ lo ≤ k ∧ b ≤ k ∧ k < m.next ∧ m.blk k = some (.row 1 es) ∧ es.drop o = xs.map vi ∧ o + xs.length = es.length
theorem Qo.push {lo b : Nat} {m : Mem} {v : V} {xs : List Int} (H : Qo lo m b v xs) (hlo : lo ≤ m.next) (hb : xs.length < 1000000) (x : Int) :
    ∃ v' m', apV lo m.next m 1 v (.lst false 1 [vi x]) = some (v', m') ∧ Qo lo (m'.bump 1) b v' (xs ++ [x]) ∧ m'.next = m.next ∧ ∀ k, k < b → m'.blk k = m.blk k := by
  obtain ⟨k, o, es, rfl, h1, h2, h3, h4, h5, h6⟩ := H.ex
  have ha := ap_row (m := m) (lo := lo) (h := m.next) (h' := k) (o := o) (l := xs.length) (sz := 1) (s := 1) (y := .lst false 1 [vi x]) (xs := [vi x]) (es := es) vw_lst h1 (.inl rfl) (by simp [big]; omega) h4 (by omega)
  have e1 : (es.drop o).take xs.length ++ [vi x] = (xs ++ [x]).map vi := by
    rw [h5, List.take_of_length_le (by simp), List.map_append]
    rfl
  have e2 : xs.length + [vi x].length = (xs ++ [x]).length := by simp
  rw [e1, e2] at ha
  refine ⟨_, _, ha, ⟨m.next, 0, _, rfl, hlo, by omega, Nat.lt_succ_self _, by simp [Mem.bump, Mem.set], rfl, by simp⟩, rfl, fun j hj => ?_⟩
  rw [set_ne (by omega), set_ne (by omega)]
theorem Qo.mono {lo b : Nat} {m m' : Mem} {v : V} {xs : List Int} (H : Qo lo m b v xs) (hn : m.next ≤ m'.next) (hb : ∀ k, b ≤ k → k < m.next → m'.blk k = m.blk k) : Qo lo m' b v xs := by
  obtain ⟨k, o, es, rfl, h1, h2, h3, h4, h5, h6⟩ := H.ex
  exact ⟨k, o, es, rfl, h1, h2, by omega, by rw [hb k h2 h3]; exact h4, h5, h6⟩
theorem Qo.tail {lo b : Nat} {m : Mem} {v : V} {x : Int} {xs : List Int} (H : Qo lo m b v (x :: xs)) : ∃ v', retV (.sl 1 true false false) [v, vi 1] = some v' ∧ Qo lo m b v' xs := by
  obtain ⟨k, o, es, rfl, h1, h2, h3, h4, h5, h6⟩ := H.ex
  refine ⟨.row 1 k (o + 1) xs.length, ?_, ⟨k, o + 1, es, rfl, h1, h2, h3, h4, ?_, ?_⟩⟩
  · rw [r_sl_l, len_row]
    simp only
    rw [if_pos (by decide), sl_row, if_pos ⟨by show 1 ≤ xs.length + 1; omega, Nat.le_refl _, rfl⟩]
    rfl
  · rw [← List.drop_drop, h5]
    rfl
  · simp at h6
    omega
theorem Qo.len {lo b : Nat} {m : Mem} {v : V} {xs : List Int} (H : Qo lo m b v xs) : retV (.len false) [v] = some (vi xs.length) := by
  obtain ⟨k, o, es, rfl, _⟩ := H.ex
  rfl
theorem Qo.head {lo b : Nat} {m : Mem} {v : V} {x : Int} {xs : List Int} (H : Qo lo m b v (x :: xs)) : ∃ k o es, v = .row 1 k o (xs.length + 1) ∧ m.blk k = some (.row 1 es) ∧ es[o]? = some (vi x) ∧ b ≤ k := by
  obtain ⟨k, o, es, rfl, h1, h2, h3, h4, h5, h6⟩ := H.ex
  refine ⟨k, o, es, rfl, h4, ?_, h2⟩
  have : (es.drop o)[0]? = some (vi x) := by rw [h5]; rfl
  rw [List.getElem?_drop] at this
  exact this

def frAt (l : List Edge) (i : Int) : Int := match l[i.toNat]? with
  | some e => e.fr
  | none => 0
theorem buck_ix {key : Edge → Int} {l : List Edge} {w : Int} : ∀ {p : List Edge} {k : Nat}, (∀ j, p[j]? = l[k + j]?) → (buck key ixV p k w).map (frAt l) = buck key frV p k w
  | [], _, _ => rfl
  | e :: p, k, h => by
    have h0 : l[k]? = some e := by
      have := h 0
      simpa using this.symm
    have ih := buck_ix (key := key) (l := l) (w := w) (p := p) (k := k + 1) (fun j => by
      have := h (j + 1)
      rw [show k + 1 + j = k + (j + 1) by omega, ← this]
      rfl)
    rw [buck, buck, List.map_append, ih]
    congr 1
    split
    · simp only [List.map_cons, List.map_nil, ixV, frV, frAt, Int.toNat_natCast, h0]
    · rfl
theorem buck_ix_mem {key : Edge → Int} {l : List Edge} {w i : Int} : ∀ {p : List Edge} {k : Nat}, (∀ j, p[j]? = l[k + j]?) → i ∈ buck key ixV p k w → ∃ j e, i = ((j : Nat) : Int) ∧ l[j]? = some e ∧ key e = w
  | [], _, _, h => by simp [buck] at h
  | e :: p, k, h, hi => by
    have h0 : l[k]? = some e := by
      have := h 0
      simpa using this.symm
    rw [buck, List.mem_append] at hi
    rcases hi with hi | hi
    · split at hi
      · rename_i hk
        simp only [List.mem_singleton, ixV] at hi
        exact ⟨k, e, hi, h0, hk⟩
      · simp at hi
    · exact buck_ix_mem (p := p) (k := k + 1) (fun j => by
        have := h (j + 1)
        rw [show k + 1 + j = k + (j + 1) by omega, ← this]
        rfl) hi

theorem steps_bwd {n : Int} {N : Nat} {l : List Edge} (gr : Gr n l) (hN : n = N) {root : Nat} (hr : root < N) : Steps N (inL l) (fun k v => Wk l k v root) root := by
  refine ⟨hr, fun v => Iff.rfl, fun k v => ?_, fun x y hy => ?_⟩
  · constructor
    · rintro ⟨e, he, h1, h2⟩
      exact ⟨e.to, h2, by rw [← h1]; exact inL_mem he⟩
    · rintro ⟨x, h1, h2⟩
      obtain ⟨e, he, h3, h4⟩ := mem_inL h2
      exact ⟨e, he, h3, by rw [h4]; exact h1⟩
  · obtain ⟨e, he, h3, h4⟩ := mem_inL hy
    obtain ⟨a, b, h1, h2, h5, h6⟩ := gr.e e he
    exact ⟨a, by omega, by omega⟩
theorem dst_bwd {l : List Edge} {v w : Int} : dist (fun k v => Wk l k v w) v = dst l v w := dist_eq (dist_spec (P := fun k y => Wk l k v y) (v := w))

theorem w105_1 {F : Nat → Option Fn} {lo : Nat} {n : Int} {N : Nat} {l : List Edge} (gr : Gr n l) (hN : n = N) (hN4 : N ≤ 4096) (hl : l.length < 100000) {root : Nat} (hr : root < N) (k9 b kw d u : Nat) (hk : k9 < b) (hkb : kw < b) (hkk : kw ≠ k9) (hd4 : d < N) (L : List Int) (hL : L = buck Edge.to ixV l 0 u) (u2 w : V) (hw : L ≠ [] → w = .row 1 kw 0 L.length) :
    ∀ (t : List Int) (i : Nat) (ds qs : List Int) (v : V) (m : Mem) (Q : Ex → St → Prop), L.drop i = t → lo ≤ m.next → IR lo m k9 ds → Qo lo m b v (qs.drop d) → (L ≠ [] → m.blk kw = some (.row 1 (L.map vi))) → BJ N (inL l) (fun k v => Wk l k v root) root ds qs d u (t.map (frAt l)) →
    (∀ ds qs v m' e, m.next ≤ m'.next → IR lo m' k9 ds → Qo lo m' b v (qs.drop d) → BJ N (inL l) (fun k v => Wk l k v root) root ds qs d u [] → (∀ k, k < b → k ≠ k9 → m'.blk k = m.blk k) → Q (.exit 2) ⟨(1, vEdges l) :: (2, u2) :: (9, .row 1 k9 0 N) :: (10, v) :: e, [], [], m'⟩) →
    W F lo L105_1 ⟨[(1, vEdges l), (2, u2), (9, .row 1 k9 0 N), (10, v), (32, w), (33, vi L.length), (34, vi i)], [], [], m⟩ Q := by
  intro t
  induction t with
  | nil =>
    intro i ds qs v m Q hd hm r9 hq hb hJ hQ
    have hlt := drop_nil hd
    rw [W_L (c := L105_1) rfl]
    have : ¬ ((i : Nat) : Int) < (L.length : Int) := by omega
    simp only [↓sxc, sx, se, ↓reduceIte, Nat.reduceEqDiff, Nat.reduceAdd, Nat.reduceLT, Nat.reduceLeDiff, Nat.reduceSub, Nat.reduceMul, Int.reduceToNat, Int.reduceLT, Int.reduceLE, Int.reduceEq, ml_i0, ↓smc, sm, this]
    exact hQ ds qs v m _ (Nat.le_refl _) r9 hq hJ (fun _ _ _ => rfl)
  | cons x t ih =>
    intro i ds qs v m Q hd hm r9 hq hb hJ hQ
    obtain ⟨hg, hd', hlt⟩ := drop_cons hd
    have hLl : L.length ≤ l.length := by rw [hL]; exact buck_len
    have hLn : L ≠ [] := by intro h; rw [h] at hlt; simp at hlt
    obtain ⟨j, e, rfl, hje, hto⟩ := buck_ix_mem (p := l) (k := 0) (fun j => by rw [Nat.zero_add]) (by rw [← hL]; exact List.mem_of_getElem? hg)
    obtain ⟨a, w2, ha, hw2, ha2, hb2⟩ := gr.e e (List.mem_of_getElem? hje)
    have efr : frAt l (j : Int) = (a : Int) := by simp only [frAt, Int.toNat_natCast, hje, ha]
    have wv := hw hLn
    subst wv
    have bw := hb hLn
    rw [List.map_cons, efr] at hJ
    rw [W_L (c := L105_1) rfl]
    have c0 : ((i : Nat) : Int) < (L.length : Int) := by omega
    have c1 : ((a : Nat) : Int) < (N : Int) := by omega
    have aN : a < N := by omega
    have uN := hJ.uN
    have c2 : ((u : Nat) : Int) < (N : Int) := by omega
    have i0 : (0 : Int) ≤ i := by omega
    have j0 : (0 : Int) ≤ j := by omega
    have a0 : (0 : Int) ≤ a := by omega
    have u0 : (0 : Int) ≤ u := by omega
    have in_ : ((i : Nat) : Int).toNat = i := rfl
    have jn : ((j : Nat) : Int).toNat = j := rfl
    have an : ((a : Nat) : Int).toNat = a := rfl
    have un : ((u : Nat) : Int).toNat = u := rfl
    have wr : wrapF .i64 ((i : Int) + 1) = ((i + 1 : Nat) : Int) := by rw [wr_i64 (by omega) (by omega)]; rfl
    have ga := gAt_get (xs := ds) (v := a) (by rw [hJ.dl]; exact aN)
    have gu := gAt_get (xs := ds) (v := u) (by rw [hJ.dl]; exact uN)
    have B9 := r9.b
    have L9 := r9.lh
    by_cases e2 : gAt ds a < 0
    · have hJ' := hJ.new (steps_bwd gr hN hr) aN e2
      have bu := hJ.bu
      have hdl := (List.getElem?_eq_some_iff.1 hJ.uq).1
      have hqd : qs.drop d = (u : Int) :: qs.drop (d + 1) := by
        have := hJ.uq
        rw [List.getElem?_eq_getElem hdl] at this
        rw [List.drop_eq_getElem_cons hdl, Option.some.inj this]
      have hq0 := hq
      rw [hqd] at hq0
      obtain ⟨kq, oq, eq, rfl, q1, q2, q3⟩ := hq0.head
      have w1 : wrapF .i64 (gAt ds u + 1) = gAt ds u + 1 := wr_i64 (by omega) (by omega)
      let m1 : Mem := m.set k9 (some (.row 1 ((ds.set a (gAt ds u + 1)).map vi)))
      have em1 : m.set k9 (some (.row 1 ((ds.map vi).set a (vi (gAt ds u + 1))))) = m1 := by
        show _ = m.set k9 (some (.row 1 ((ds.set a (gAt ds u + 1)).map vi)))
        rw [List.map_set]
      have r9' : IR lo m1 k9 (ds.set a (gAt ds u + 1)) := r9.set _
      have hq' : Qo lo m1 b _ (qs.drop d) := hq.mono (Nat.le_refl _) (fun k hk' _ => set_ne (by omega))
      have n1 : m1.next = m.next := rfl
      have f1 : ∀ k, k ≠ k9 → m1.blk k = m.blk k := fun k hk => set_ne hk
      clear_value m1
      obtain ⟨v', m2, p1, p2, p3, p4⟩ := hq'.push (by omega) (by have := hJ.len; simp; omega) (a : Int)
      have c3 : (0 : Int) < ((qs.drop (d + 1)).length + 1 : Nat) := by omega
      have c4 : (0 : Int).toNat = 0 := rfl
      have e5 : qs.drop d ++ [(a : Int)] = (qs ++ [(a : Int)]).drop d := by rw [List.drop_append_of_le_length (by omega)]
      rw [e5] at p2
      rw [n1] at p1
      simp only [↓sxc, sx, se, ↓reduceIte, Nat.reduceEqDiff, Nat.reduceAdd, Nat.reduceLT, Nat.reduceLeDiff, Nat.reduceSub, Nat.reduceMul, Int.reduceToNat, Int.reduceLT, Int.reduceLE, Int.reduceEq, ml_i0, ↓smc, sm, c0, c1, c2, i0, j0, a0, u0, in_, jn, an, un, hg, bw, hje, ha, B9, L9, ga, gu, e2, q1, q2, c3, c4, w1, em1, n1, p1, wr, Nat.add_zero]
      refine ih (i + 1) _ _ v' (m2.bump 1) Q hd' ?_ (r9'.mono ?_ (p4 k9 hk)) p2 (fun h => ?_) hJ' (fun ds qs v m' e z1 z2 z3 z4 z5 => hQ ds qs v m' e ?_ z2 z3 z4 (fun k h1 h2 => ?_))
      · show lo ≤ m2.next + 1; omega
      · show m1.next ≤ m2.next + 1; omega
      · show m2.blk kw = _
        rw [p4 kw hkb, f1 kw hkk]
        exact bw
      · have z1' : m2.next + 1 ≤ m'.next := z1
        omega
      · rw [z5 k h1 h2]
        show m2.blk k = _
        rw [p4 k h1, f1 k h2]
    · have hJ' := hJ.old (by omega) ⟨a, rfl, aN⟩
      simp only [↓sxc, sx, se, ↓reduceIte, Nat.reduceEqDiff, Nat.reduceAdd, Nat.reduceLT, Nat.reduceLeDiff, Nat.reduceSub, Nat.reduceMul, Int.reduceToNat, Int.reduceLT, Int.reduceLE, Int.reduceEq, ml_i0, ↓smc, sm, c0, c1, c2, i0, j0, a0, u0, in_, jn, an, un, hg, bw, hje, ha, B9, L9, ga, gu, e2, wr]
      exact ih (i + 1) ds qs v m Q hd' hm r9 hq hb hJ' hQ

theorem w105_2 {F : Nat → Option Fn} {lo lo0 : Nat} {n : Int} {N : Nat} {l : List Edge} (gr : Gr n l) (hN : n = N) (hN4 : N ≤ 4096) (hl : l.length < 100000) {root : Nat} (hr : root < N) (k9 b h8 q8 : Nat) (hk : k9 < b) (m0 : Mem) (h09 : m0.next ≤ k9) {es : List V} (H : NestB lo0 m0 h8 q8 (bucks Edge.to ixV N l) es) :
    ∀ (r d : Nat) (ds qs : List Int) (v : V) (m : Mem) (Q : Ex → St → Prop), N ≤ d + r → lo ≤ m.next → IR lo m k9 ds → Qo lo m b v (qs.drop d) → BI N (inL l) (fun k v => Wk l k v root) root ds qs d → (∀ k, k < m0.next → m.blk k = m0.blk k) →
    (∀ ds qs d m' e, m.next ≤ m'.next → IR lo m' k9 ds → BI N (inL l) (fun k v => Wk l k v root) root ds qs d → qs.length ≤ d → Q (.exit 0) ⟨(1, vEdges l) :: (2, .row 1 h8 0 N) :: (9, .row 1 k9 0 N) :: e, [], [], m'⟩) →
    W F lo L105_2 ⟨[(1, vEdges l), (2, .row 1 h8 0 N), (9, .row 1 k9 0 N), (10, v)], [], [], m⟩ Q := by
  intro r
  induction r with
  | zero =>
    intro d ds qs v m Q hr' hm r9 hq hK hf hQ
    have hql := hK.len
    have hlen : retV (.len false) [v] = some (vi 0) := by rw [hq.len]; simp; omega
    rw [W_L (c := L105_2) rfl]
    have : ¬ (0 : Int) < 0 := by omega
    simp only [↓sxc, sx, se, ↓reduceIte, Nat.reduceEqDiff, Nat.reduceAdd, Nat.reduceLT, Nat.reduceLeDiff, Nat.reduceSub, Nat.reduceMul, Int.reduceToNat, Int.reduceLT, Int.reduceLE, Int.reduceEq, ml_i0, ↓smc, sm, hlen, this]
    exact hQ ds qs d m _ (Nat.le_refl _) r9 hK (by omega)
  | succ r ih =>
    intro d ds qs v m Q hr' hm r9 hq hK hf hQ
    have hql := hK.len
    rw [W_L (c := L105_2) rfl]
    by_cases hd : d < qs.length
    · have hlen := hq.len
      have hlt : (0 : Int) < ((qs.drop d).length : Int) := by simp; omega
      have hg : qs[d]? = some (qs[d]'hd) := List.getElem?_eq_getElem _
      obtain ⟨u, hu, huN⟩ := hK.rg _ (List.getElem_mem hd)
      rw [hu] at hg
      have hJ := hK.enter hg
      have hqd : qs.drop d = (u : Int) :: qs.drop (d + 1) := by
        rw [List.drop_eq_getElem_cons hd, hu]
      have hq0 := hq
      rw [hqd] at hq0
      obtain ⟨kq, oq, eq, rfl, q1, q2, q3⟩ := hq0.head
      have c1 : ((u : Nat) : Int) < (N : Int) := by omega
      have u0 : (0 : Int) ≤ u := by omega
      have un : ((u : Nat) : Int).toNat = u := rfl
      have c3 : (0 : Int) < ((qs.drop (d + 1)).length + 1 : Nat) := by omega
      have c4 : (0 : Int).toNat = 0 := rfl
      have b8 : m.blk h8 = some (.row 1 es) := by rw [hf h8 H.hm]; exact H.bh
      have hel : u < es.length := by rw [H.ln, bucks_len]; exact huN
      have hes : es[u]? = some es[u] := List.getElem?_eq_getElem hel
      have hvw := H.view hes (bucks_get (key := Edge.to) (val := ixV) (l := l) huN)
      generalize es[u] = w at hes hvw
      have hlw : retV (.len false) [w] = some (vi (buck Edge.to ixV l 0 u).length) := by
        rcases hvw with ⟨rfl, h2⟩ | ⟨rfl, _⟩
        · rw [h2]; rfl
        · rfl
      obtain ⟨kw, hkw1, hkw2⟩ : ∃ kw, kw < m0.next ∧ (buck Edge.to ixV l 0 u ≠ [] → w = .row 1 kw 0 (buck Edge.to ixV l 0 u).length ∧ m0.blk kw = some (.row 1 ((buck Edge.to ixV l 0 u).map vi))) := by
        rcases hvw with ⟨_, h2⟩ | ⟨h1, h2, _, _, h3⟩
        · exact ⟨h8, H.hm, fun h => absurd h2 h⟩
        · exact ⟨_, h2, fun _ => ⟨h1, h3⟩⟩
      have hcw : w.cells[0]? = some w := by
        rcases hvw with ⟨rfl, h2⟩ | ⟨rfl, _⟩ <;> rfl
      have hJ2 : BJ N (inL l) (fun k v => Wk l k v root) root ds qs d u ((buck Edge.to ixV l 0 u).map (frAt l)) := by
        rw [buck_ix (fun j => by rw [Nat.zero_add])]
        exact hJ
      simp only [↓sxc, sx, se, ↓reduceIte, Nat.reduceEqDiff, Nat.reduceAdd, Nat.reduceLT, Nat.reduceLeDiff, Nat.reduceSub, Nat.reduceMul, Int.reduceToNat, Int.reduceLT, Int.reduceLE, Int.reduceEq, ml_i0, ↓smc, sm, hlt, q1, q2, c1, u0, un, c3, c4, b8, hes, hcw, hlw, Nat.add_zero]
      refine w105_1 gr hN hN4 hl hr k9 b kw d u hk (by omega) (by omega) (by omega) _ rfl _ w (fun hn => (hkw2 hn).1) _ 0 ds qs _ m _ rfl hm r9 hq (fun hn => by rw [hf kw hkw1]; exact (hkw2 hn).2) hJ2 (fun ds qs v m' e p1 p2 p3 p4 p5 => ?_)
      · have hd2 := (List.getElem?_eq_some_iff.1 p4.uq).1
        have hqd2 : qs.drop d = (u : Int) :: qs.drop (d + 1) := by
          have := p4.uq
          rw [List.getElem?_eq_getElem hd2] at this
          rw [List.drop_eq_getElem_cons hd2, Option.some.inj this]
        rw [hqd2] at p3
        obtain ⟨v', s1, s2⟩ := p3.tail
        simp only [↓sxc, sx, se, ↓reduceIte, Nat.reduceEqDiff, Nat.reduceAdd, Nat.reduceLT, Nat.reduceLeDiff, Nat.reduceSub, Nat.reduceMul, Int.reduceToNat, Int.reduceLT, Int.reduceLE, Int.reduceEq, ml_i0, ↓smc, sm, s1]
        refine ih (d + 1) ds qs v' m' Q (by omega) (by omega) p2 s2 p4.leave (fun k hk => ?_) (fun ds qs d m2 e z1 z2 z3 z4 => hQ ds qs d m2 e (by omega) z2 z3 z4)
        rw [p5 k (by omega) (by omega)]
        exact hf k hk
    · have hlen : retV (.len false) [v] = some (vi 0) := by rw [hq.len]; simp; omega
      have : ¬ (0 : Int) < 0 := by omega
      simp only [↓sxc, sx, se, ↓reduceIte, Nat.reduceEqDiff, Nat.reduceAdd, Nat.reduceLT, Nat.reduceLeDiff, Nat.reduceSub, Nat.reduceMul, Int.reduceToNat, Int.reduceLT, Int.reduceLE, Int.reduceEq, ml_i0, ↓smc, sm, hlen, this]
      exact hQ ds qs d m _ (Nat.le_refl _) r9 hK (by omega)

theorem sp105 {F : Nat → Option Fn} (hG : HasG F) {lo lo0 : Nat} {m : Mem} {n : Int} {N : Nat} {l : List Edge} (gr : Gr n l) (hN : n = N) (hl : l.length < 100000) {root : Nat} (hr : root < N) {h8 q8 : Nat} {es : List V} (H : NestB lo0 m h8 q8 (bucks Edge.to ixV N l) es) :
    callw F 105 [vi n, vEdges l, .row 1 h8 0 N, vi root] lo m = some (ints (reachL N (fun v => dst l v root)), m) := by
  have n4 := gr.n4
  have hN4 : N ≤ 4096 := by omega
  subst hN
  let m1 : Mem := (m.set m.next (some (.row 1 [vi (-1)]))).bump 1
  have em1 : (m.set m.next (some (.row 1 [vi (-1)]))).bump 1 = m1 := rfl
  have n1 : m1.next = m.next + 1 := rfl
  have f1 : ∀ k, k < m.next → m1.blk k = m.blk k := fun k hk => set_ne (by omega)
  have b1 : m1.blk m.next = some (.row 1 [vi (-1)]) := by show (m.set m.next _).blk m.next = _; simp [Mem.set]
  clear_value m1
  obtain ⟨v, m2, s1, rfl, s2, s3, s4⟩ := sp152 hG (lo := m.next) (m := m1) (N := N) (h := m.next) (by omega) hN4 (by omega) (by omega) b1
  rw [n1] at s1 s2 s3
  let m3 : Mem := m2.set (m.next + 1) (some (.row 1 (((List.replicate N (-1 : Int)).set root 0).map vi)))
  have em3 : m2.set (m.next + 1) (some (.row 1 (((List.replicate N (-1 : Int)).map vi).set root (vi 0)))) = m3 := by
    show _ = m2.set (m.next + 1) (some (.row 1 (((List.replicate N (-1 : Int)).set root 0).map vi)))
    rw [List.map_set]
  have n3 : m3.next = m2.next := rfl
  have f3 : ∀ k, k < m.next → m3.blk k = m.blk k := fun k hk => by
    rw [← f1 k hk, ← s4 k (by omega)]
    exact set_ne (by omega)
  have b3 : m3.blk (m.next + 1) = some (.row 1 (((List.replicate N (-1 : Int)).set root 0).map vi)) := by show (m2.set _ _).blk _ = _; simp [Mem.set]
  clear_value m3
  let m4 : Mem := (m3.set m3.next (some (.row 1 [vi root]))).bump 1
  have em4 : (m3.set m3.next (some (.row 1 [vi root]))).bump 1 = m4 := rfl
  have n5 : m4.next = m3.next + 1 := rfl
  have f4 : ∀ k, k < m3.next → m4.blk k = m3.blk k := fun k hk => set_ne (by omega)
  have b4 : m4.blk m3.next = some (.row 1 [vi root]) := by show (m3.set m3.next _).blk m3.next = _; simp [Mem.set]
  clear_value m4
  have a0 : (0 : Int) ≤ root := by omega
  have ai : (root : Int) < (N : Int) := by omega
  have an : ((root : Nat) : Int).toNat = root := rfl
  have ga : (List.replicate N (-1 : Int))[root]? = some (-1) := by rw [List.getElem?_replicate_of_lt hr]
  have ga' : (List.map vi (List.replicate N (-1 : Int)))[root]? = some (vi (-1)) := by rw [List.getElem?_map, ga]; rfl
  have c1 : m.next ≤ m.next + 1 := by omega
  refine call_p hG.h105 rfl ?_
  simp only [↓sxc, sx, se, ↓reduceIte, Nat.reduceEqDiff, Nat.reduceAdd, Nat.reduceLT, Nat.reduceLeDiff, Nat.reduceSub, Nat.reduceMul, Int.reduceToNat, Int.reduceLT, Int.reduceLE, Int.reduceEq, ml_i0, ↓smc, sm, em1, s1, s3, a0, ai, an, ga, ga', c1, em3, em4]
  have r9 : IR m.next m4 (m.next + 1) ((List.replicate N (-1 : Int)).set root 0) := ⟨by omega, by omega, by rw [f4 _ (by omega)]; exact b3⟩
  refine w105_2 gr rfl hN4 hl hr (m.next + 1) (m.next + 2) h8 q8 (by omega) m (by omega) H N 0 _ [(root : Int)] _ m4 _ (by omega) (by omega) r9 ⟨m3.next, 0, _, rfl, by omega, by omega, by omega, b4, rfl, rfl⟩ (.start (steps_bwd gr rfl hr)) (fun k hk => by rw [f4 k (by omega)]; exact f3 k hk) (fun ds qs d m5 e z1 z2 z3 z4 => ?_)
  have hd := z3.done (steps_bwd gr rfl hr) z4
  have he : ds = reachL N (fun v => dst l v root) := reachL_eq z3.dl (fun v hv => by rw [hd v hv, dst_bwd])
  subst he
  have fz := fz_ir (n := 6) z2.b z2.lh
  rw [reachL_len] at fz
  simp only [↓sxc, sx, se, ↓reduceIte, Nat.reduceEqDiff, Nat.reduceAdd, Nat.reduceLT, Nat.reduceLeDiff, Nat.reduceSub, Nat.reduceMul, Int.reduceToNat, Int.reduceLT, Int.reduceLE, Int.reduceEq, ml_i0, ↓smc, sm, fz]
end Go.Am
