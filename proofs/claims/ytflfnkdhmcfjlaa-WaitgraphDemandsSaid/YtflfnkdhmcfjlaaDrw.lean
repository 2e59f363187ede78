/- Regions whose order is open: every order gives what the order of the text gives. -/
import Derived.Test.YtflfnkdhmcfjlaaSwp
namespace Go.Am
open Go

theorem pre_eqv {s s' : St} (h : Eqv s s') (o : Op) : pre s o = pre s' o := pre_agree (h.agree o)

theorem Does.eqv {ck : Callk} {lo h : Nat} {s s' : St} {o : Op} {r : V × Wr × Bs} (e : Eqv s s') (d : Does ck lo h s o r) : Does ck lo h s' o r := by
  cases d with
  | skip hp hx => exact .skip (by rw [← pre_eqv e]; exact hp) hx
  | eff p r hp hc hf hl he =>
    refine .eff p r (by rw [← pre_eqv e]; exact hp) hc hf (fun t hb hd => by rw [← e.loc]; exact hl t hb hd) ?_
    rw [← he, e.mem]
    exact eff_cong (fun _ _ => rfl) (fun t _ => (e.bx t).symm)
  | call f args v hp hx hc => exact .call f args v (by rw [← pre_eqv e]; exact hp) hx (by rw [← e.mem]; exact hc)

theorem Eqv.app {s s' : St} (e : Eqv s s') (d : D) (r : V × Wr × Bs) : Eqv (s.app d r) (s'.app d r) := by
  refine ⟨fun t => ?_, fun t => ?_, fun t => ?_, fun t => ?_, by rw [app_mem, app_mem, e.mem]⟩
  · cases d with
    | e k =>
      show Env.get ((k, r.1) :: s.env) t = Env.get ((k, r.1) :: s'.env) t
      rw [Env.get_cons, Env.get_cons, e.env t]
    | _ => exact e.env t
  · rw [app_bx, app_bx, Env.get_append, Env.get_append, e.bx t]
  · cases d with
    | a k =>
      show Env.get ((k, r.1) :: s.ad) t = Env.get ((k, r.1) :: s'.ad) t
      rw [Env.get_cons, Env.get_cons, e.ad t]
    | _ => exact e.ad t
  · cases d with
    | a k =>
      show hasLoc t ((k, r.1) :: s.ad) = hasLoc t ((k, r.1) :: s'.ad)
      rw [hasLoc_cons, hasLoc_cons, e.loc t]
    | _ => exact e.loc t

/-- An operation with its number, what it is about to do, and what it does. -/
structure Ann where
  i : Nat
  o : Op
  q : Option Plan
  r : V × Wr × Bs

def Runs (ck : Callk) (lo base : Nat) : List Ann → St → St → Prop
  | [], s, s' => s' = s
  | x :: l, s, s' => pre s x.o = some x.q ∧ Does ck lo (base + x.i) s x.o x.r ∧ Runs ck lo base l (s.app x.o.d x.r) s'

/-- x, before y in the text, may come behind y. -/
structure CanA (base : Nat) (x y : Ann) : Prop where
  nm : nmApart x.o y.o
  mem : ∀ k b, (k, b) ∈ x.r.2.1 → ∀ b', (k, b') ∉ y.r.2.1
  bx : ∀ t e, (t, e) ∈ x.r.2.2 → ∀ e', (t, e') ∉ y.r.2.2
  kj : ∀ p, y.q = some p → p.isCall = false → (∀ k, Key.h k ∈ p.rkeys (base + y.i) → ∀ b, (k, b) ∉ x.r.2.1) ∧ (∀ t, Key.bx t ∈ p.rkeys (base + y.i) → ∀ e, (t, e) ∉ x.r.2.2)
  ki : ∀ p, x.q = some p → p.isCall = false → (∀ k, Key.h k ∈ p.rkeys (base + x.i) → ∀ b, (k, b) ∉ y.r.2.1) ∧ (∀ t, Key.bx t ∈ p.rkeys (base + x.i) → ∀ e, (t, e) ∉ y.r.2.2)
  loc : ∀ t, x.o.d = .x t → ∀ t', y.o.d = .a t' → ∀ off, y.r.1 ≠ .loc t off
  cj : ∀ f args, y.q = some (.call f args) → x.r.2.1 = []
  ci : ∀ f args, x.q = some (.call f args) → y.r.2.1 = [] ∨ ∃ b, y.r.2.1 = [(base + y.i, some b)]

section
variable {ck : Callk} {pf : Nat → Bool} {lo base : Nat}

theorem Runs.append {l l' : List Ann} : ∀ {s s' : St}, Runs ck lo base (l ++ l') s s' ↔ ∃ t, Runs ck lo base l s t ∧ Runs ck lo base l' t s' := by
  induction l with
  | nil => intro s s'; exact ⟨fun h => ⟨s, rfl, h⟩, fun ⟨t, h, h'⟩ => by cases h; exact h'⟩
  | cons x l ih =>
    intro s s'
    constructor
    · rintro ⟨h1, h2, h3⟩
      obtain ⟨t, h4, h5⟩ := ih.1 h3
      exact ⟨t, ⟨h1, h2, h4⟩, h5⟩
    · rintro ⟨t, ⟨h1, h2, h4⟩, h5⟩
      exact ⟨h1, h2, ih.2 ⟨t, h4, h5⟩⟩

theorem Runs.det {l : List Ann} : ∀ {s s' s'' : St}, Runs ck lo base l s s' → Runs ck lo base l s s'' → s' = s'' := by
  induction l with
  | nil => intro s s' s'' h h'; cases h; cases h'; rfl
  | cons x l ih => rintro s s' s'' ⟨_, _, h⟩ ⟨_, _, h'⟩; exact ih h h'

theorem Runs.eqv {l : List Ann} : ∀ {s s' t : St}, Eqv s t → Runs ck lo base l s s' → ∃ t', Runs ck lo base l t t' ∧ Eqv s' t' := by
  induction l with
  | nil => intro s s' t e h; cases h; exact ⟨t, rfl, e⟩
  | cons x l ih =>
    rintro s s' t e ⟨h1, h2, h3⟩
    obtain ⟨t', h4, h5⟩ := ih (e.app x.o.d x.r) h3
    exact ⟨t', ⟨by rw [← pre_eqv e]; exact h1, h2.eqv e, h4⟩, h5⟩

/-- What an operation writes was there, or is its own. -/
theorem eff_writes_own {h : Nat} {blk : Nat → Option Blk} {bg : Nat → Option V} {d : D} {p : Plan} {r : V × Wr × Bs} (he : eff lo h blk bg d p = some r) : ∀ k b, (k, b) ∈ r.2.1 → k = h ∨ (blk k).isSome = true := by
  intro k b hk
  obtain ⟨v, ws, bs⟩ := r
  replace hk : (k, b) ∈ ws := hk
  have one : ∀ {k' : Nat} {b' : Option Blk}, ws = [(k', b')] → k = k' := fun e => by rw [e] at hk; simp at hk; exact hk.1
  have base : ∀ {o : Option V} , (o.map fun v => (v, ([] : Wr), ([] : Bs))) = some (v, ws, bs) → ws = [] := by
    intro o h
    simp only [Option.map_eq_some_iff] at h
    obtain ⟨_, _, h⟩ := h
    cases h
    rfl
  cases p with
  | ret v =>
    simp only [eff] at he
    split at he
    · cases he
    · cases he; cases hk
  | rd h' f =>
    simp only [eff] at he
    split at he
    · cases he
    · split at he
      · cases he
      · rw [base he] at hk; cases hk
  | rdb h' f =>
    simp only [eff] at he
    split at he
    · cases he
    · split at he
      · cases he
      · rw [base he] at hk; cases hk
  | wr h' f v =>
    simp only [eff] at he
    split at he
    · cases he
    · split at he
      · split at he
        · cases he
        · rename_i b0 hb0
          simp only [Option.map_eq_some_iff] at he
          obtain ⟨_, _, he⟩ := he
          cases he
          have := one rfl
          subst this
          right; rw [hb0]; rfl
      · cases he
  | wrb t f =>
    simp only [eff] at he
    split at he
    · split at he
      · cases he
      · simp only [Option.map_eq_some_iff] at he
        obtain ⟨_, _, he⟩ := he
        cases he; cases hk
    · cases he
  | bx e =>
    cases d with
    | x t => cases he; cases hk
    | _ => cases he
  | alloc b g =>
    simp only [eff] at he
    split at he
    · cases he
    · cases he
      exact .inl (one rfl)
  | app d' sz x =>
    simp only [eff] at he
    split at he
    · cases he
    · split at he
      · cases he
      · split at he
        · cases he; cases hk
        · split at he
          · cases he
            exact .inl (one rfl)
          · cases he
        · split at he
          · split at he
            · rename_i hb0
              split at he
              · cases he
                simp at hk
                rcases hk with ⟨rfl, _⟩ | ⟨rfl, _⟩
                · right; rw [hb0]; rfl
                · exact .inl rfl
              · cases he
            · cases he
          · cases he
  | cpy sz h' o l x =>
    simp only [eff] at he
    split at he
    · cases he
    · split at he
      · cases he
      · split at he
        · split at he
          · rename_i hb0
            split at he
            · cases he
              have := one rfl
              subst this
              right; rw [hb0]; rfl
            · cases he
          · cases he
        · cases he
  | call _ _ => cases he
  | frz _ _ => cases he

theorem does_writes {h : Nat} {s : St} {o : Op} {r : V × Wr × Bs} (d : Does ck lo h s o r) : ∀ k b, (k, b) ∈ r.2.1 → k = h ∨ (s.mem.blk k).isSome = true := by
  intro k b hk
  cases d with
  | skip => cases hk
  | call => cases hk
  | eff p r hp hc hf hl he => exact eff_writes_own he k b hk

theorem free_app {h k : Nat} {s : St} {o : Op} {r : V × Wr × Bs} (d : Does ck lo h s o r) (hk : s.mem.blk k = none) (hne : k ≠ h) : (s.app o.d r).mem.blk k = none := by
  rw [app_mem, Mem.wr_out]
  · exact hk
  · intro b hb
    rcases does_writes d k b hb with e | e
    · exact hne e
    · rw [hk] at e; cases e

theorem next_app {s : St} {d : D} {r : V × Wr × Bs} : (s.app d r).mem.next = s.mem.next := by rw [app_mem, Mem.wr_next]

def Free (base : Nat) (s : St) (i : Nat) : Prop := s.mem.blk (base + i) = none ∧ base + i < s.mem.next

theorem Free.app {s : St} {i k : Nat} {o : Op} {r : V × Wr × Bs} (d : Does ck lo (base + k) s o r) (h : Free base s i) (hne : i ≠ k) : Free base (s.app o.d r) i :=
  ⟨free_app d h.1 (by omega), by rw [next_app]; exact h.2⟩

theorem Runs.free {l : List Ann} : ∀ {s s' : St} {i : Nat}, Runs ck lo base l s s' → Free base s i → (∀ x ∈ l, x.i ≠ i) → Free base s' i := by
  induction l with
  | nil => intro s s' i h hf _; cases h; exact hf
  | cons x l ih => rintro s s' i ⟨_, h2, h3⟩ hf hne; exact ih h3 (hf.app h2 (fun e => hne x (by simp) e.symm)) (fun y hy => hne y (by simp [hy]))

theorem push (hpc : PureCk ck pf) {x : Ann} (hx : x.o.k.opens pf = true) : ∀ (Y : List Ann) {s s' : St}, Runs ck lo base (x :: Y) s s' → (∀ y ∈ Y, CanA base x y) → (∀ y ∈ Y, Free base s y.i) → (Y.map (·.i)).Nodup → (∀ y ∈ Y, y.i ≠ x.i) →
    ∃ t t', Runs ck lo base Y s t ∧ Runs ck lo base [x] t t' ∧ Eqv t' s'
  | [], s, s', h, _, _, _, _ => ⟨s, s', rfl, h, .refl _⟩
  | y :: Y, s, s', ⟨h1, h2, h3, h4, h5⟩, hc, hf, hnd, hne => by
    have c := hc y (by simp)
    have hpy : pre s y.o = some y.q := by rw [← h3]; exact pre_agree (app_agree h2 (fun t ht => (c.nm.1 t ht).1))
    have can : Can s (base + x.i) (base + y.i) x.o y.o x.r y.r := by
      refine ⟨c.nm, c.mem, c.bx, fun p hp hcall => c.kj p ?_ hcall, fun p hp hcall => c.ki p ?_ hcall, c.loc, fun f args hp => c.cj f args ?_, fun f args hp => c.ci f args ?_⟩
      · rw [hpy] at hp; exact Option.some.inj hp
      · rw [h1] at hp; exact Option.some.inj hp
      · rw [hpy] at hp; exact Option.some.inj hp
      · rw [h1] at hp; exact Option.some.inj hp
    obtain ⟨d1, d2, e⟩ := swap hpc hx h2 h4 can (hf y (by simp))
    obtain ⟨u, hu, eu⟩ := Runs.eqv e.symm h5
    have hpx : pre (s.app y.o.d y.r) x.o = some x.q := by rw [← h1]; exact (pre_agree (app_agree d1 (fun t ht => c.nm.2 t ht))).symm
    have hnd' := List.nodup_cons.1 (by simpa using hnd : ((y.i :: Y.map (·.i)) : List Nat).Nodup)
    obtain ⟨t, t', r1, r2, r3⟩ := push hpc hx Y (s := s.app y.o.d y.r) (s' := u) ⟨hpx, d2, hu⟩ (fun z hz => hc z (by simp [hz])) (fun z hz => (hf z (by simp [hz])).app d1 (fun e => hnd'.1 (List.mem_map.2 ⟨z, hz, e⟩))) hnd'.2 (fun z hz => hne z (by simp [hz]))
    exact ⟨t, t', ⟨hpy, d1, r1⟩, r2, r3.trans eu.symm⟩

/-- A part of the operations, closed under what must come before, runs too. -/
theorem runs_filter (hpc : PureCk ck pf) (S : Nat → Bool) : ∀ (L : List Ann) {s s' : St}, Runs ck lo base L s s' → (∀ x ∈ L, x.o.k.opens pf = true) → L.Pairwise (fun x y => S x.i = false → S y.i = true → CanA base x y) → (∀ x ∈ L, Free base s x.i) → (L.map (·.i)).Nodup →
    ∃ t, Runs ck lo base (L.filter fun x => S x.i) s t
  | [], s, s', h, _, _, _, _ => ⟨s, rfl⟩
  | x :: L, s, s', ⟨h1, h2, h3⟩, ho, hp, hf, hnd => by
    have hnd' := List.nodup_cons.1 (by simpa using hnd : ((x.i :: L.map (·.i)) : List Nat).Nodup)
    obtain ⟨hp1, hp2⟩ := List.pairwise_cons.1 hp
    have hne : ∀ y ∈ L, y.i ≠ x.i := fun y hy e => hnd'.1 (List.mem_map.2 ⟨y, hy, e⟩)
    obtain ⟨t, ht⟩ := runs_filter hpc S L h3 (fun y hy => ho y (by simp [hy])) hp2 (fun y hy => (hf y (by simp [hy])).app h2 (hne y hy)) hnd'.2
    by_cases hx : S x.i = true
    · refine ⟨t, ?_⟩
      rw [List.filter_cons, if_pos hx]
      exact ⟨h1, h2, ht⟩
    · rw [List.filter_cons, if_neg hx]
      have hx' : S x.i = false := by simpa using hx
      have hsub : ∀ y ∈ L.filter (fun x => S x.i), y ∈ L ∧ S y.i = true := fun y hy => List.mem_filter.1 hy
      obtain ⟨u, _, r1, _, _⟩ := push hpc (ho x (by simp)) (L.filter fun x => S x.i) (s := s) (s' := t) ⟨h1, h2, ht⟩ (fun y hy => hp1 y (hsub y hy).1 hx' (hsub y hy).2) (fun y hy => hf y (by simp [(hsub y hy).1])) (hnd'.2.sublist (List.Sublist.map _ List.filter_sublist)) (fun y hy => hne y (hsub y hy).1)
      exact ⟨u, r1⟩

/-- One more: behind those of S comes x, and the state is as behind those of S with x in its place. -/
theorem one_more (hpc : PureCk ck pf) {S : Nat → Bool} {X Y : List Ann} {x : Ann} {s t u : St} (ho : ∀ y ∈ X ++ x :: Y, y.o.k.opens pf = true) (hp : (X ++ x :: Y).Pairwise (fun y z => S y.i = false → S z.i = true → CanA base y z)) (hf : ∀ y ∈ X ++ x :: Y, Free base s y.i) (hnd : ((X ++ x :: Y).map (·.i)).Nodup)
    (hx : S x.i = false) (ht : Runs ck lo base ((X ++ x :: Y).filter fun y => S y.i) s t) (hu : Runs ck lo base ((X ++ x :: Y).filter fun y => S y.i || y.i == x.i) s u) :
    ∃ t', pre t x.o = some x.q ∧ Does ck lo (base + x.i) t x.o x.r ∧ t' = t.app x.o.d x.r ∧ Eqv t' u := by
  have hne : ∀ y, y ∈ X ∨ y ∈ Y → y.i ≠ x.i := by
    rw [List.map_append, List.map_cons, List.nodup_append] at hnd
    obtain ⟨_, h2, h3⟩ := hnd
    rintro y (hy | hy) e
    · exact h3 y.i (List.mem_map.2 ⟨y, hy, rfl⟩) x.i (by simp) e
    · exact (List.nodup_cons.1 h2).1 (List.mem_map.2 ⟨y, hy, e⟩)
  have same : ∀ {Z : List Ann}, (∀ y ∈ Z, y ∈ X ∨ y ∈ Y) → Z.filter (fun y => S y.i || y.i == x.i) = Z.filter (fun y => S y.i) := by
    intro Z hZ
    refine List.filter_congr fun y hy => ?_
    have : (y.i == x.i) = false := beq_eq_false_iff_ne.2 (hne y (hZ y hy))
    rw [this, Bool.or_false]
  rw [List.filter_append, List.filter_cons, if_neg (by rw [hx]; simp)] at ht
  rw [List.filter_append, List.filter_cons, if_pos (by simp), same (fun y hy => .inl hy), same (fun y hy => .inr hy)] at hu
  obtain ⟨m, r1, r2⟩ := Runs.append.1 ht
  obtain ⟨m', r3, r4⟩ := Runs.append.1 hu
  have := Runs.det r1 r3
  subst this
  obtain ⟨_, hp2, _⟩ := List.pairwise_append.1 hp
  obtain ⟨hp3, _⟩ := List.pairwise_cons.1 hp2
  have hsub : ∀ y ∈ Y.filter (fun y => S y.i), y ∈ Y ∧ S y.i = true := fun y hy => List.mem_filter.1 hy
  have hndY : (Y.map (·.i)).Nodup := by
    rw [List.map_append, List.map_cons, List.nodup_append] at hnd
    exact (List.nodup_cons.1 hnd.2.1).2
  have hndXY : ∀ y ∈ Y, ∀ z ∈ X.filter (fun y => S y.i), z.i ≠ y.i := by
    intro y hy z hz e
    rw [List.map_append, List.map_cons, List.nodup_append] at hnd
    exact hnd.2.2 z.i (List.mem_map.2 ⟨z, (List.mem_filter.1 hz).1, rfl⟩) y.i (by simp; exact .inr ⟨y, hy, rfl⟩) e
  obtain ⟨v, v', q1, ⟨q2, q3, q4⟩, q5⟩ := push hpc (ho x (by simp)) (Y.filter fun y => S y.i) r4 (fun y hy => hp3 y (hsub y hy).1 hx (hsub y hy).2)
    (fun y hy => r1.free (hf y (by simp [(hsub y hy).1])) (hndXY y (hsub y hy).1)) (hndY.sublist (List.Sublist.map _ List.filter_sublist)) (fun y hy => hne y (.inr (hsub y hy).1))
  have := Runs.det r2 q1
  subst this
  exact ⟨v', q2, q3, q4, q5⟩
end
end Go.Am
