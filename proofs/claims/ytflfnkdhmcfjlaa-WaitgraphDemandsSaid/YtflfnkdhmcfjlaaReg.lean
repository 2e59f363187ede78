/- Regions whose order is open: sound. -/
import Derived.Test.YtflfnkdhmcfjlaaFin
namespace Go.Am
open Go

/-! ### The checker -/
def edgesMask (acc : List Nat) (es : List Edge) : Nat := es.foldl (fun s e => if Region.binds .any e then s ||| 2 ^ e.on ||| acc.getD e.on 0 else s) 0
def masksGo : List Oper → List Nat → List Nat
  | [], acc => acc
  | o :: os, acc => masksGo os (acc ++ [edgesMask acc o.after.toList])

def inPs (ps : List (Nat × Nat)) (i j : Nat) : Bool := ps.any fun p => Nat.beq p.1 i && Nat.beq p.2 j

noncomputable def okPairsB (ps : List (Nat × Nat)) : List (Nat × Op × Nat) → Bool
  | [] => true
  | x :: rest => (rest.all fun y => y.2.2.testBit x.1 || fineB x.2.1 y.2.1 (inPs ps x.1 y.1)) && okPairsB ps rest

def edgesBack : Nat → List Oper → Bool
  | _, [] => true
  | n, o :: os => (o.after.toList.all fun e => !Region.binds .any e || Nat.blt e.on n) && edgesBack (n + 1) os

def zip3 : Nat → List Op → List Nat → List (Nat × Op × Nat)
  | n, o :: os, m :: ms => (n, o, m) :: zip3 (n + 1) os ms
  | _, _, _ => []

noncomputable def okDreg (pf : Nat → Bool) (ops : List Op) (ps : List (Nat × Nat)) (os : List Oper) : Bool :=
  (ops.all fun o => o.k.opens pf) && edgesBack 0 os && okPairsB ps (zip3 0 ops (masksGo os []))

/-! ### What must come before -/
def Closed (os : List Oper) (S : Nat → Bool) : Prop := ∀ (j : Nat) (o : Oper), os[j]? = some o → S j = true → ∀ e ∈ o.after, Region.binds .any e = true → S e.on = true

theorem edgesMask_bit {acc : List Nat} {es : List Edge} {i : Nat} : ∀ {s0 : Nat}, (es.foldl (fun s e => if Region.binds .any e then s ||| 2 ^ e.on ||| acc.getD e.on 0 else s) s0).testBit i = true → s0.testBit i = true ∨ ∃ e ∈ es, Region.binds .any e = true ∧ (e.on = i ∨ (acc.getD e.on 0).testBit i = true) := by
  induction es with
  | nil => intro s0 h; exact .inl h
  | cons e es ih =>
    intro s0 h
    rw [List.foldl_cons] at h
    rcases ih h with h1 | ⟨e', h1, h2, h3⟩
    · by_cases hb : Region.binds .any e = true
      · rw [if_pos hb] at h1
        rw [Nat.testBit_or, Nat.testBit_or] at h1
        simp only [Bool.or_eq_true] at h1
        rcases h1 with (h1 | h1) | h1
        · exact .inl h1
        · refine .inr ⟨e, by simp, hb, .inl ?_⟩
          rw [Nat.testBit_two_pow] at h1
          exact of_decide_eq_true h1
        · exact .inr ⟨e, by simp, hb, .inr h1⟩
      · rw [if_neg hb] at h1
        exact .inl h1
    · exact .inr ⟨e', by simp [h1], h2, h3⟩

theorem masks_spec {all : List Oper} {S : Nat → Bool} (hS : Closed all S) : ∀ (os : List Oper) (acc : List Nat), (∀ k, os[k]? = all[acc.length + k]?) → (∀ j m, acc[j]? = some m → S j = true → ∀ i, m.testBit i = true → S i = true) →
    ∀ j m, (masksGo os acc)[j]? = some m → S j = true → ∀ i, m.testBit i = true → S i = true
  | [], acc, _, h => h
  | o :: os, acc, hk, h => by
    refine masks_spec hS os (acc ++ [edgesMask acc o.after.toList]) (fun k => ?_) (fun j m hj hSj i hi => ?_)
    · have := hk (k + 1)
      rw [List.length_append, List.length_singleton]
      rw [show acc.length + 1 + k = acc.length + (k + 1) by omega, ← this]
      rfl
    · by_cases hlt : j < acc.length
      · rw [List.getElem?_append_left hlt] at hj
        exact h j m hj hSj i hi
      · rw [List.getElem?_append_right (by omega)] at hj
        have hj0 : j = acc.length := by
          rcases Nat.lt_or_ge (j - acc.length) 1 with h1 | h1
          · omega
          · rw [List.getElem?_eq_none (by simpa using h1)] at hj; cases hj
        subst hj0
        simp at hj
        subst hj
        have ho : all[acc.length]? = some o := by have := hk 0; simpa using this.symm
        rcases edgesMask_bit hi with h1 | ⟨e, h1, h2, h3⟩
        · simp at h1
        · have hSe := hS _ o ho hSj e (by simpa using h1) h2
          rcases h3 with rfl | h3
          · exact hSe
          · cases he : acc[e.on]? with
            | none => rw [List.getD_eq_getElem?_getD, he] at h3; simp at h3
            | some m =>
              rw [List.getD_eq_getElem?_getD, he] at h3
              exact h e.on m he hSe i h3

theorem masksGo_length : ∀ (os : List Oper) (acc : List Nat), (masksGo os acc).length = acc.length + os.length
  | [], acc => rfl
  | o :: os, acc => by rw [masksGo, masksGo_length os]; simp; omega

theorem zip3_get : ∀ (n : Nat) (ops : List Op) (ms : List Nat) (k : Nat) (o : Op) (m : Nat), ops[k]? = some o → ms[k]? = some m → (zip3 n ops ms)[k]? = some (n + k, o, m)
  | n, o' :: os, m' :: ms, 0, o, m, h1, h2 => by simp at h1 h2; subst h1 h2; rfl
  | n, o' :: os, m' :: ms, k + 1, o, m, h1, h2 => by
    have := zip3_get (n + 1) os ms k o m (by simpa using h1) (by simpa using h2)
    rw [zip3, List.getElem?_cons_succ, this]
    congr 2
    omega
  | _, [], _, _, _, _, h1, _ => by simp at h1
  | _, _ :: _, [], _, _, _, _, h2 => by simp at h2

theorem okPairsB_spec {ps : List (Nat × Nat)} : ∀ {Z : List (Nat × Op × Nat)}, okPairsB ps Z = true → ∀ (i j : Nat) (x y : Nat × Op × Nat), i < j → Z[i]? = some x → Z[j]? = some y → y.2.2.testBit x.1 = true ∨ fineB x.2.1 y.2.1 (inPs ps x.1 y.1) = true
  | [], _, i, j, x, y, _, h, _ => by simp at h
  | z :: Z, hok, i, j, x, y, hlt, hx, hy => by
    simp only [okPairsB, Bool.and_eq_true] at hok
    obtain ⟨j', rfl⟩ : ∃ j', j = j' + 1 := ⟨j - 1, by omega⟩
    have hy' : Z[j']? = some y := by simpa using hy
    cases i with
    | zero =>
      simp at hx
      subst hx
      have := List.all_eq_true.1 hok.1 y (List.mem_of_getElem? hy')
      simpa using this
    | succ i => exact okPairsB_spec hok.2 i j' x y (by omega) (by simpa using hx) hy'

theorem edgesBack_spec : ∀ {n : Nat} {os : List Oper}, edgesBack n os = true → ∀ k o, os[k]? = some o → ∀ e ∈ o.after, Region.binds .any e = true → e.on < n + k
  | n, [], _, k, o, h, _, _, _ => by simp at h
  | n, o' :: os, hok, k, o, h, e, he, hb => by
    simp only [edgesBack, Bool.and_eq_true] at hok
    cases k with
    | zero =>
      simp at h
      subst h
      have := List.all_eq_true.1 hok.1 e (by simpa using he)
      rw [hb] at this
      simpa using this
    | succ k =>
      have := edgesBack_spec hok.2 k o (by simpa using h) e he hb
      omega

theorem pairsOk_spec {ks : List (List Key)} : ∀ {ps : List (Nat × Nat)}, pairsOk ks ps = true → ∀ i j, inPs ps i j = true → ∀ a b, ks[i]? = some a → ks[j]? = some b → keysApart a b = true
  | [], _, i, j, h, _, _, _, _ => by simp [inPs] at h
  | (p, q) :: ps, hok, i, j, h, a, b, ha, hb => by
    simp only [pairsOk, Bool.and_eq_true] at hok
    simp only [inPs, List.any_cons, Bool.or_eq_true, Bool.and_eq_true] at h
    rcases h with ⟨h1, h2⟩ | h
    · have e1 := Nat.eq_of_beq_eq_true h1
      have e2 := Nat.eq_of_beq_eq_true h2
      subst e1 e2
      have := hok.1
      rw [nth_eq, nth_eq, ha, hb] at this
      exact this
    · exact pairsOk_spec hok.2 i j h a b ha hb

section
variable {P : Program} {ck : Callk} {pf : Nat → Bool} {fr : Fr} {lo base : Nat}

theorem annot (hpc : PureCk ck pf) : ∀ (ops : List Op) (i : Nat) {s s' : St} {ks : List (List Key)}, runOpsD ck lo base i ops s = some (s', ks) → (∀ o ∈ ops, o.k.opens pf = true) →
    ∃ L : List Ann, L.map (·.o) = ops ∧ L.map (·.i) = List.range' i ops.length ∧ Runs ck lo base L s s' ∧ ∀ (n : Nat) (x : Ann), L[n]? = some x → ∃ k, ks[n]? = some k ∧ AnnOk base x k
  | [], i, s, s', ks, h, _ => by
    cases h
    exact ⟨[], rfl, rfl, rfl, by simp⟩
  | o :: ops, i, s, s', ks, h, ho => by
    simp only [runOpsD] at h
    split at h
    · cases h
    · rename_i s1 hs1
      split at h
      · cases h
      · rename_i s2 ks' hs2
        cases h
        obtain ⟨r, hd, rfl⟩ := does_of_step hpc (ho o (by simp)) hs1
        obtain ⟨L, h1, h2, h3, h4⟩ := annot hpc ops (i + 1) hs2 (fun q hq => ho q (by simp [hq]))
        have hq : ∃ q, pre s o = some q := by cases hd <;> exact ⟨_, by assumption⟩
        obtain ⟨q, hq⟩ := hq
        refine ⟨⟨i, o, q, r⟩ :: L, by simp [h1], by simp [h2, List.range'_succ], ⟨hq, hd, h3⟩, fun n x hx => ?_⟩
        cases n with
        | zero =>
          simp at hx
          subst hx
          exact ⟨_, rfl, ann_ok hq hd⟩
        | succ n =>
          obtain ⟨k, hk, hk2⟩ := h4 n x (by simpa using hx)
          exact ⟨k, by simpa using hk, hk2⟩

theorem Sim.eqv {g : Gh} {s t : St} {a : Act} {w : World} (e : Eqv s t) (h : Sim fr g s a w) : Sim fr g t a w where
  mem := by rw [← e.mem]; exact h.mem
  env k v hv := h.env k v (by rw [e.env]; exact hv)
  bx k v hv := by
    obtain ⟨h1, b, h2, h3⟩ := h.bx k v (by rw [e.bx]; exact hv)
    exact ⟨h1, b, h2, by rw [← e.mem]; exact h3⟩
  bxd k k' v v' b hne hv hv' := h.bxd k k' v v' b hne (by rw [e.bx]; exact hv) (by rw [e.bx]; exact hv')
  ad k v hv := h.ad k v (by rw [e.ad]; exact hv)
  size := h.size
  defers := h.defers
  keep := h.keep
  own := by rw [← e.mem]; exact h.own

theorem Inv.eqv {g0 : Gh} {mem0 : Mem} {g : Gh} {s t : St} {a : Act} {w : World} (e : Eqv s t) (h : Inv fr g0 mem0 g s a w) : Inv fr g0 mem0 g t a w :=
  ⟨h.sim.eqv e, by rw [← e.mem]; exact h.fresh, by rw [← e.mem]; exact h.lo, h.le, by rw [← e.mem]; exact h.next, by rw [← e.mem]; exact h.blk, h.φ, h.I⟩
end
end Go.Am
