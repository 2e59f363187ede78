/- Regions whose order is open: two operations that may change places. -/
import Derived.Test.YtflfnkdhmcfjlaaStp
namespace Go.Am
open Go

/-! ### What an operation does, apart from where it stands -/
abbrev Wr := List (Nat × Option Blk)
abbrev Bs := List (Nat × V)

def D.isX : D → Bool
  | .x _ => true
  | _ => false

noncomputable def viewF (blk : Nat → Option Blk) : V → Option (Nat × List V)
  | .nil => some (0, [])
  | .lst _ s xs => some (s, xs)
  | .row s h o l => match blk h with
    | some (.row s' es) => if o + l ≤ es.length ∧ s' = s then some (s, (es.drop o).take l) else none
    | _ => none
  | _ => none

noncomputable def eff (lo h : Nat) (blk : Nat → Option Blk) (bg : Nat → Option V) (d : D) : Plan → Option (V × Wr × Bs)
  | .ret v => if d.isX then none else some (v, [], [])
  | .rd h' f => if d.isX then none else match blk h' with
    | none => none
    | some b => (f b).map fun v => (v, [], [])
  | .wr h' f v => if d.isX then none else if lo ≤ h' then match blk h' with
      | none => none
      | some b => (f b).map fun b' => (v, [(h', some b')], [])
    else none
  | .rdb t f => if d.isX then none else match bg t with
    | none => none
    | some e => (f e).map fun v => (v, [], [])
  | .wrb t f => match d with
    | .n => match bg t with
      | none => none
      | some e => (f e).map fun e' => (.und, [], [(t, e')])
    | _ => none
  | .bx e => match d with
    | .x t => some (.und, [], [(t, e)])
    | _ => none
  | .alloc b g => if d.isX then none else some (g h, [(h, some b)], [])
  | .app d' sz x => if d.isX then none else match viewF blk x with
    | none => none
    | some (s, xs) => match d', xs with
      | none, [] => some (.nil, [], [])
      | none, y :: ys => if s = sz ∧ (y :: ys).length < big then some (.row sz h 0 (y :: ys).length, [(h, some (.row sz (y :: ys)))], []) else none
      | some (h', o, l), xs => if lo ≤ h' ∧ (s = sz ∨ xs.length = 0) ∧ l + xs.length < big then
          match blk h' with
          | some (.row s' es) => if s' = sz ∧ o + l ≤ es.length then some (.row sz h 0 (l + xs.length), [(h', none), (h, some (.row sz ((es.drop o).take l ++ xs)))], []) else none
          | _ => none
        else none
  | .cpy sz h' o l x => if d.isX then none else match viewF blk x with
    | none => none
    | some (s, xs) => if lo ≤ h' then
        match blk h' with
        | some (.row s' es) => if (s = sz ∨ xs.length = 0) ∧ s' = sz ∧ o + l ≤ es.length then
            some (.int .i64 (min l xs.length : Nat), [(h', some (.row s' (es.take o ++ xs.take (min l xs.length) ++ es.drop (o + min l xs.length))))], [])
          else none
        | _ => none
      else none
  | .call _ _ => none
  | .frz _ _ => none

noncomputable def Mem.wr (m : Mem) : Wr → Mem
  | [] => m
  | (h, b) :: ws => (m.set h b).wr ws

noncomputable def St.push (st : St) (d : D) (v : V) : St :=
  match d with
  | .e t => { st with env := (t, v) :: st.env }
  | .a t => { st with ad := (t, v) :: st.ad }
  | _ => st

noncomputable def St.app (st : St) (d : D) (r : V × Wr × Bs) : St := St.push { st with mem := st.mem.wr r.2.1, bx := r.2.2 ++ st.bx } d r.1

def Plan.isCall : Plan → Bool
  | .call _ _ => true
  | _ => false
def Plan.isFrz : Plan → Bool
  | .frz _ _ => true
  | _ => false
def Plan.isBx : Plan → Bool
  | .bx _ => true
  | _ => false

theorem put_push {st : St} {d : D} {v : V} : put st d v = if d.isX then none else some (st.push d v) := by
  cases d <;> rfl

theorem act_eff {ck : Callk} {lo h : Nat} {st : St} {d : D} {p : Plan} (hc : p.isCall = false) (hf : p.isFrz = false) :
    act ck lo h st d p = if p.isBx && (match d with | .x t => hasLoc t st.ad | _ => false) then none else (eff lo h st.mem.blk st.bx.get d p).map (st.app d) := by
  have hv : ∀ x, view st.mem x = viewF st.mem.blk x := fun x => by cases x <;> rfl
  cases p with
  | ret v => simp only [act, eff, put_push, Plan.isBx, Bool.false_and]; cases d <;> rfl
  | rd h' f =>
    simp only [act, eff, put_push, Plan.isBx, Bool.false_and]
    cases d <;> (cases st.mem.blk h' with
      | none => rfl
      | some b => simp only; cases f b <;> rfl)
  | wr h' f v =>
    simp only [act, eff, put_push, Plan.isBx, Bool.false_and]
    by_cases hl : lo ≤ h'
    · simp only [hl, if_true]
      cases d <;> (cases st.mem.blk h' with
        | none => rfl
        | some b => simp only; cases f b <;> rfl)
    · simp only [hl, if_false]
      cases d <;> rfl
  | rdb t f =>
    simp only [act, eff, put_push, Plan.isBx, Bool.false_and]
    cases d <;> (cases st.bx.get t with
      | none => rfl
      | some b => simp only; cases f b <;> rfl)
  | wrb t f =>
    simp only [act, eff, Plan.isBx, Bool.false_and]
    cases d <;> (cases st.bx.get t with
      | none => rfl
      | some b => simp only; cases f b <;> rfl)
  | bx e =>
    simp only [act, eff, Plan.isBx, Bool.true_and]
    cases d with
    | x t => simp only; cases hasLoc t st.ad <;> rfl
    | _ => rfl
  | alloc b g => simp only [act, eff, put_push, Plan.isBx, Bool.false_and]; cases d <;> rfl
  | app d' sz x =>
    simp only [act, eff, hv, put_push, Plan.isBx, Bool.false_and]
    cases viewF st.mem.blk x with
    | none => cases d <;> rfl
    | some r =>
      obtain ⟨s, xs⟩ := r
      cases d' with
      | none =>
        cases xs with
        | nil => cases d <;> rfl
        | cons y ys =>
          simp only
          by_cases h1 : s = sz ∧ (y :: ys).length < big
          · simp only [h1, and_self, if_true]; cases d <;> rfl
          · simp only [h1, if_false]; cases d <;> rfl
      | some q =>
        obtain ⟨h', o, l⟩ := q
        simp only
        by_cases h1 : lo ≤ h' ∧ (s = sz ∨ xs.length = 0) ∧ l + xs.length < big
        · rw [if_pos h1, if_pos h1]
          cases hb : st.mem.blk h' with
          | none => cases d <;> rfl
          | some b =>
            cases b with
            | map _ => cases d <;> rfl
            | row s' es =>
              simp only
              by_cases h2 : s' = sz ∧ o + l ≤ es.length
              · rw [if_pos h2, if_pos h2]; cases d <;> rfl
              · rw [if_neg h2, if_neg h2]; cases d <;> rfl
        · rw [if_neg h1, if_neg h1]; cases d <;> rfl
  | cpy sz h' o l x =>
    simp only [act, eff, hv, put_push, Plan.isBx, Bool.false_and]
    cases viewF st.mem.blk x with
    | none => cases d <;> rfl
    | some r =>
      obtain ⟨s, xs⟩ := r
      simp only
      by_cases h1 : lo ≤ h'
      · rw [if_pos h1, if_pos h1]
        cases hb : st.mem.blk h' with
        | none => cases d <;> rfl
        | some b =>
          cases b with
          | map _ => cases d <;> rfl
          | row s' es =>
            simp only
            by_cases h2 : (s = sz ∨ xs.length = 0) ∧ s' = sz ∧ o + l ≤ es.length
            · rw [if_pos h2, if_pos h2]; cases d <;> rfl
            · rw [if_neg h2, if_neg h2]; cases d <;> rfl
      · rw [if_neg h1, if_neg h1]; cases d <;> rfl
  | call _ _ => cases hc
  | frz _ _ => cases hf

/-! ### Where an operation looks, and where it writes -/
noncomputable def Plan.rkeys (h : Nat) : Plan → List Key
  | .ret _ => []
  | p => p.keys h

theorem viewF_cong {blk blk2 : Nat → Option Blk} {x : V} (hk : ∀ h', Key.h h' ∈ x.key → blk h' = blk2 h') : viewF blk x = viewF blk2 x := by
  cases x <;> first
    | rfl
    | (rename_i s h o l
       have := hk h (by simp [V.key])
       simp only [viewF, this])

theorem eff_cong {lo h : Nat} {blk blk2 : Nat → Option Blk} {bg bg2 : Nat → Option V} {d : D} {p : Plan} (hk : ∀ h', Key.h h' ∈ p.rkeys h → blk h' = blk2 h') (hb : ∀ t, Key.bx t ∈ p.rkeys h → bg t = bg2 t) : eff lo h blk bg d p = eff lo h blk2 bg2 d p := by
  cases p with
  | rd h' f => simp only [eff, hk h' (by simp [Plan.rkeys, Plan.keys])]
  | wr h' f v => simp only [eff, hk h' (by simp [Plan.rkeys, Plan.keys])]
  | rdb t f => simp only [eff, hb t (by simp [Plan.rkeys, Plan.keys])]
  | wrb t f => simp only [eff, hb t (by simp [Plan.rkeys, Plan.keys])]
  | app d' sz x =>
    cases d' with
    | none =>
      have hv : viewF blk x = viewF blk2 x := viewF_cong fun h' hh => hk h' (by simp [Plan.rkeys, Plan.keys, hh])
      simp only [eff, hv]
      cases viewF blk2 x with
      | none => rfl
      | some r =>
        obtain ⟨s, xs⟩ := r
        cases xs <;> rfl
    | some q =>
      obtain ⟨h', o, l⟩ := q
      have hv : viewF blk x = viewF blk2 x := viewF_cong fun h' hh => hk h' (by simp [Plan.rkeys, Plan.keys, hh])
      have h1 := hk h' (by simp [Plan.rkeys, Plan.keys])
      simp only [eff, hv, h1]
  | cpy sz h' o l x =>
    have hv : viewF blk x = viewF blk2 x := viewF_cong fun h' hh => hk h' (by simp [Plan.rkeys, Plan.keys, hh])
    have h1 := hk h' (by simp [Plan.rkeys, Plan.keys])
    simp only [eff, hv, h1]
  | _ => rfl

noncomputable def D.keys : D → List Key
  | .x t => [.bx t]
  | _ => []

theorem eff_writes {lo h : Nat} {blk : Nat → Option Blk} {bg : Nat → Option V} {d : D} {p : Plan} {v : V} {ws : Wr} {bs : Bs} (he : eff lo h blk bg d p = some (v, ws, bs)) :
    (∀ k b, (k, b) ∈ ws → Key.h k ∈ p.keys h) ∧ (∀ t e, (t, e) ∈ bs → Key.bx t ∈ d.keys ++ p.keys h ∧ (p.isBx = true ∨ (bg t).isSome = true)) := by
  have base : ∀ {o : Option V} , (o.map fun v => (v, ([] : Wr), ([] : Bs))) = some (v, ws, bs) → ws = [] ∧ bs = [] := by
    intro o h
    simp only [Option.map_eq_some_iff] at h
    obtain ⟨_, _, h⟩ := h
    cases h
    exact ⟨rfl, rfl⟩
  cases p with
  | ret v =>
    simp only [eff] at he
    split at he
    · cases he
    · cases he; exact ⟨by simp, by simp⟩
  | rd h' f =>
    simp only [eff] at he
    split at he
    · cases he
    · split at he
      · cases he
      · obtain ⟨rfl, rfl⟩ := base he; exact ⟨by simp, by simp⟩
  | rdb h' f =>
    simp only [eff] at he
    split at he
    · cases he
    · split at he
      · cases he
      · obtain ⟨rfl, rfl⟩ := base he; exact ⟨by simp, by simp⟩
  | wr h' f v =>
    simp only [eff] at he
    split at he
    · cases he
    · split at he
      · split at he
        · cases he
        · simp only [Option.map_eq_some_iff] at he
          obtain ⟨_, _, he⟩ := he
          cases he
          exact ⟨fun k b hk => by simp at hk; obtain ⟨rfl, _⟩ := hk; simp [Plan.keys], by simp⟩
      · cases he
  | wrb t f =>
    simp only [eff] at he
    split at he
    · split at he
      · cases he
      · rename_i e0 he0
        simp only [Option.map_eq_some_iff] at he
        obtain ⟨_, _, he⟩ := he
        cases he
        exact ⟨by simp, fun k b hk => by simp at hk; obtain ⟨rfl, _⟩ := hk; exact ⟨by simp [Plan.keys], .inr (by rw [he0]; rfl)⟩⟩
    · cases he
  | bx e =>
    simp only [eff] at he
    split at he
    · cases he
      exact ⟨by simp, fun k b hk => by simp at hk; obtain ⟨rfl, _⟩ := hk; exact ⟨by simp [D.keys], .inl rfl⟩⟩
    · cases he
  | alloc b g =>
    simp only [eff] at he
    split at he
    · cases he
    · cases he
      exact ⟨fun k b hk => by simp at hk; obtain ⟨rfl, _⟩ := hk; simp [Plan.keys], by simp⟩
  | app d' sz x =>
    simp only [eff] at he
    split at he
    · cases he
    · split at he
      · cases he
      · split at he
        · cases he; exact ⟨by simp, by simp⟩
        · split at he
          · cases he
            exact ⟨fun k b hk => by simp at hk; obtain ⟨rfl, _⟩ := hk; simp [Plan.keys], by simp⟩
          · cases he
        · split at he
          · split at he
            · split at he
              · cases he
                exact ⟨fun k b hk => by simp at hk; rcases hk with ⟨rfl, _⟩ | ⟨rfl, _⟩ <;> simp [Plan.keys], by simp⟩
              · cases he
            · cases he
          · cases he
  | cpy sz h' o l x =>
    simp only [eff] at he
    split at he
    · cases he
    · split at he
      · cases he
      · split at he
        · split at he
          · split at he
            · cases he
              exact ⟨fun k b hk => by simp at hk; obtain ⟨rfl, _⟩ := hk; simp [Plan.keys], by simp⟩
            · cases he
          · cases he
        · cases he
  | call _ _ => cases he
  | frz _ _ => cases he

/-! ### States that answer alike -/
structure Eqv (s s' : St) : Prop where
  env : ∀ t, s.env.get t = s'.env.get t
  bx : ∀ t, s.bx.get t = s'.bx.get t
  ad : ∀ t, s.ad.get t = s'.ad.get t
  loc : ∀ d, hasLoc d s.ad = hasLoc d s'.ad
  mem : s.mem = s'.mem

theorem Eqv.refl (s : St) : Eqv s s := ⟨fun _ => rfl, fun _ => rfl, fun _ => rfl, fun _ => rfl, rfl⟩
theorem Eqv.symm {s t : St} (h : Eqv s t) : Eqv t s := ⟨fun x => (h.env x).symm, fun x => (h.bx x).symm, fun x => (h.ad x).symm, fun x => (h.loc x).symm, h.mem.symm⟩
theorem Eqv.trans {s t u : St} (h : Eqv s t) (k : Eqv t u) : Eqv s u := ⟨fun x => (h.env x).trans (k.env x), fun x => (h.bx x).trans (k.bx x), fun x => (h.ad x).trans (k.ad x), fun x => (h.loc x).trans (k.loc x), h.mem.trans k.mem⟩

def O.name : O → Option Nat
  | .t i | .b i | .a i => some i
  | .k _ => none
def D.name : D → Option Nat
  | .e i | .a i | .x i => some i
  | .n => none

/-- The temporaries that an operation looks at. -/
def Op.names (o : Op) : List Nat := (o.os.filterMap O.name) ++ (match o.g with | some (t, _) => [t] | none => [])

theorem getO_same {s s' : St} {o : O} (he : ∀ t, o = .t t → s.env.get t = s'.env.get t) (hb : ∀ t, o = .b t → (s.bx.get t).isSome = (s'.bx.get t).isSome) (ha : ∀ t, o = .a t → s.ad.get t = s'.ad.get t) : getO s o = getO s' o := by
  cases o with
  | t i => exact he i rfl
  | k v => rfl
  | b i =>
    have := hb i rfl
    simp only [getO]
    cases h1 : s.bx.get i <;> cases h2 : s'.bx.get i <;> rw [h1, h2] at this <;> first | rfl | cases this
  | a i => exact ha i rfl

theorem getOs_same {s s' : St} : ∀ {os : List O}, (∀ o ∈ os, getO s o = getO s' o) → getOs s os = getOs s' os
  | [], _ => rfl
  | o :: os, h => by
    rw [getOs_cons, getOs_cons, h o (by simp), getOs_same fun o ho => h o (by simp [ho])]

/-- Two states that agree on what an operation looks at. -/
def Agree (o : Op) (s s' : St) : Prop := (∀ t ∈ o.names, s.env.get t = s'.env.get t ∧ (s.bx.get t).isSome = (s'.bx.get t).isSome ∧ s.ad.get t = s'.ad.get t)

theorem Agree.os {o : Op} {s s' : St} (h : Agree o s s') : getOs s o.os = getOs s' o.os := by
  refine getOs_same fun q hq => ?_
  have hn : ∀ t, q.name = some t → t ∈ o.names := fun t ht => List.mem_append.2 (.inl (List.mem_filterMap.2 ⟨q, hq, ht⟩))
  exact getO_same (fun t e => (h t (hn t (by rw [e]; rfl))).1) (fun t e => (h t (hn t (by rw [e]; rfl))).2.1) (fun t e => (h t (hn t (by rw [e]; rfl))).2.2)

theorem Agree.guard {o : Op} {s s' : St} (h : Agree o s s') {t : Nat} {b : Bool} (hg : o.g = some (t, b)) : s.env.get t = s'.env.get t :=
  (h t (List.mem_append.2 (.inr (by rw [hg]; simp)))).1

theorem Eqv.agree {s s' : St} (h : Eqv s s') (o : Op) : Agree o s s' := fun t _ => ⟨h.env t, by rw [h.bx], h.ad t⟩

/-- What an operation is about to do: nothing can be said, nothing, or a plan. -/
noncomputable def pre (st : St) (o : Op) : Option (Option Plan) :=
  let run := match getOs st o.os with
    | none => none
    | some vs => match plan o.k vs with
      | none => none
      | some p => some (some p)
  match o.g with
  | none => run
  | some (t, want) => match st.env.get t with
    | some (.bool b) => if b = want then run else some none
    | some .und => some none
    | _ => none

theorem pre_agree {o : Op} {s s' : St} (h : Agree o s s') : pre s o = pre s' o := by
  unfold pre
  rw [h.os]
  cases hg : o.g with
  | none => rfl
  | some q =>
    obtain ⟨t, b⟩ := q
    simp only [h.guard hg]

theorem step_pre {ck : Callk} {lo h : Nat} {st : St} {o : Op} : step ck lo h st o = (match pre st o with
    | none => none
    | some none => skipOp st o.d
    | some (some p) => act ck lo h st o.d p) := by
  unfold step pre exec
  cases o.g with
  | none =>
    simp only
    cases getOs st o.os with
    | none => rfl
    | some vs => simp only; cases plan o.k vs <;> rfl
  | some q =>
    obtain ⟨t, want⟩ := q
    simp only
    cases st.env.get t with
    | none => rfl
    | some v =>
      cases v <;> first
        | rfl
        | (rename_i b
           simp only
           by_cases e : b = want
           · rw [if_pos e, if_pos e]
             cases getOs st o.os with
             | none => rfl
             | some vs => simp only; cases plan o.k vs <;> rfl
           · rw [if_neg e, if_neg e])

theorem keysOf_agree {o : Op} {s s' : St} {h : Nat} (ha : Agree o s s') : keysOf h s o = keysOf h s' o := by
  unfold keysOf
  rw [ha.os]

/-- What an operation does at a state. -/
inductive Does (ck : Callk) (lo h : Nat) (st : St) (o : Op) : V × Wr × Bs → Prop
  | skip (hp : pre st o = some none) (hx : o.d.isX = false) : Does ck lo h st o (.und, [], [])
  | eff (p : Plan) (r : V × Wr × Bs) (hp : pre st o = some (some p)) (hc : p.isCall = false) (hf : p.isFrz = false) (hl : ∀ t, p.isBx = true → o.d = .x t → hasLoc t st.ad = false) (he : eff lo h st.mem.blk st.bx.get o.d p = some r) : Does ck lo h st o r
  | call (f : Nat) (args : List V) (v : V) (hp : pre st o = some (some (.call f args))) (hx : o.d.isX = false) (hc : ck f args lo st.mem = some (v, st.mem)) : Does ck lo h st o (v, [], [])

theorem Does.step {ck : Callk} {lo h : Nat} {st : St} {o : Op} {r : V × Wr × Bs} (hd : Does ck lo h st o r) : step ck lo h st o = some (st.app o.d r) := by
  rw [step_pre]
  cases hd with
  | skip hp hx =>
    rw [hp]
    simp only [St.app, Mem.wr, List.nil_append]
    cases ho : o.d <;> first | rfl | (rw [ho] at hx; cases hx)
  | eff p r hp hc hf hl he =>
    rw [hp]
    simp only
    rw [act_eff hc hf, he]
    rw [if_neg]
    · rfl
    · intro h2
      simp only [Bool.and_eq_true] at h2
      obtain ⟨h3, h4⟩ := h2
      cases ho : o.d with
      | x t => rw [ho] at h4; simp only at h4; rw [hl t h3 ho] at h4; cases h4
      | _ => rw [ho] at h4; cases h4
  | call f args v hp hx hc =>
    rw [hp]
    simp only [act, hc, put_push, hx]
    rfl

/-- Pure calls: the memory comes back unchanged. -/
def PureCk (ck : Callk) (pf : Nat → Bool) : Prop :=
  ∀ f args lo m v m', ck f args lo m = some (v, m') → pf f = true → m' = m ∧ ∀ h b, m.blk h = none → h < m.next → ck f args lo (m.set h (some b)) = some (v, m.set h (some b))

/-- The kinds that a region whose order is open may hold. -/
noncomputable def K.opens (pf : Nat → Bool) : K → Bool
  | .call f => pf f
  | .callv | .frz _ => false
  | _ => true

theorem plan_call_of {k : K} {vs : List V} {f : Nat} {args : List V} (h : plan k vs = some (.call f args)) : k = .call f ∨ k = .callv := by
  cases k <;> first | (exact .inr rfl) | skip
  case call f' => simp only [plan, plan_call] at h; cases h; exact .inl rfl
  all_goals exfalso
  all_goals simp only [plan, plan_mv, plan_pmv, plan_pick, plan_bin, plan_bq, plan_sq, plan_aq, plan_nq, plan_sadd, plan_not, plan_cvt, plan_cvs, plan_bts, plan_ext, plan_len, plan_mx, plan_mn, plan_bld, plan_lit, plan_hlit, plan_six, plan_fld, plan_sl, plan_fa, plan_ia, plan_iaa, plan_nc, plan_ld, plan_st, plan_box, plan_hbox, plan_mk, plan_app, plan_frz, plan_mkf, plan_mkm, plan_look, plan_upd, plan_cpy, binPlan] at h
  all_goals repeat' split at h
  all_goals first
    | (cases h; done)
    | (simp only [Option.map_eq_some_iff] at h; obtain ⟨_, _, h⟩ := h; cases h; done)

theorem pre_plan {st : St} {o : Op} {p : Plan} (h : pre st o = some (some p)) : ∃ vs, getOs st o.os = some vs ∧ plan o.k vs = some p := by
  unfold pre at h
  have key : ∀ {q : Option (Option Plan)}, q = some (some p) → q = (match getOs st o.os with
    | none => none
    | some vs => match plan o.k vs with
      | none => none
      | some p => some (some p)) → ∃ vs, getOs st o.os = some vs ∧ plan o.k vs = some p := by
    intro q h1 h2
    rw [h1] at h2
    cases hg : getOs st o.os with
    | none => rw [hg] at h2; cases h2
    | some vs =>
      rw [hg] at h2
      simp only at h2
      cases hp : plan o.k vs with
      | none => rw [hp] at h2; cases h2
      | some p' => rw [hp] at h2; simp at h2; exact ⟨vs, rfl, by rw [h2]; exact hp⟩
  simp only at h
  split at h
  · exact key h rfl
  · split at h
    · split at h
      · exact key h rfl
      · cases h
    · cases h
    · cases h

theorem does_of_step {ck : Callk} {pf : Nat → Bool} (hpc : PureCk ck pf) {lo h : Nat} {st st' : St} {o : Op} (ho : o.k.opens pf = true) (hs : step ck lo h st o = some st') : ∃ r, Does ck lo h st o r ∧ st' = st.app o.d r := by
  have hs0 := hs
  rw [step_pre] at hs
  have fin : ∀ {r}, Does ck lo h st o r → ∃ r, Does ck lo h st o r ∧ st' = st.app o.d r := fun hd => ⟨_, hd, by rw [hd.step] at hs0; exact (Option.some.inj hs0).symm⟩
  cases hp : pre st o with
  | none => rw [hp] at hs; cases hs
  | some q =>
    rw [hp] at hs
    cases q with
    | none =>
      refine fin (.skip hp ?_)
      cases hd : o.d <;> first | rfl | (rw [hd] at hs; cases hs)
    | some p =>
      simp only at hs
      obtain ⟨vs, hvs, hpl⟩ := pre_plan hp
      cases hc : p.isCall with
      | true =>
        cases p with
        | call f args =>
          simp only [act] at hs
          split at hs
          · cases hs
          · rename_i v m hck
            have hpf : pf f = true := by
              rcases plan_call_of hpl with e | e
              · rw [e] at ho; exact ho
              · rw [e] at ho; cases ho
            obtain ⟨rfl, _⟩ := hpc f args lo _ v m hck hpf
            refine fin (.call f args v hp ?_ hck)
            rw [put_push] at hs
            cases hx : o.d.isX with
            | false => rfl
            | true => rw [hx] at hs; cases hs
        | _ => cases hc
      | false =>
        have hf : p.isFrz = false := by
          cases p with
          | frz t sz =>
            have := plan_fz hpl
            cases hk : o.k <;> first | (rw [hk] at this; cases this; done) | (rw [hk] at ho; cases ho)
          | _ => rfl
        rw [act_eff hc hf] at hs
        by_cases hl : (p.isBx && (match o.d with | .x t => hasLoc t st.ad | _ => false)) = true
        · rw [if_pos hl] at hs; cases hs
        · rw [if_neg hl] at hs
          simp only [Option.map_eq_some_iff] at hs
          obtain ⟨r, hr, _⟩ := hs
          refine fin (.eff p r hp hc hf (fun t hb hd => ?_) hr)
          rw [hb, hd] at hl
          simpa using hl

/-! ### Two operations that change places -/
theorem Mem.wr_next : ∀ (ws : Wr) (m : Mem), (m.wr ws).next = m.next
  | [], _ => rfl
  | (h, b) :: ws, m => (Mem.wr_next ws (m.set h b)).trans rfl
theorem Mem.wr_out : ∀ {ws : Wr} {m : Mem} {k : Nat}, (∀ b, (k, b) ∉ ws) → (m.wr ws).blk k = m.blk k
  | [], _, _, _ => rfl
  | (h, b) :: ws, m, k, hk => by
    have h1 : k ≠ h := fun e => hk b (by rw [e]; simp)
    rw [Mem.wr, Mem.wr_out (ws := ws) (fun b' hb => hk b' (by simp [hb]))]
    simp [Mem.set, h1]
theorem Mem.wr_in : ∀ {ws : Wr} {m m' : Mem} {k : Nat}, (∃ b, (k, b) ∈ ws) → (m.wr ws).blk k = (m'.wr ws).blk k
  | [], _, _, _, h => by obtain ⟨_, h⟩ := h; cases h
  | (h, b) :: ws, m, m', k, hk => by
    by_cases hin : ∃ b', (k, b') ∈ ws
    · show ((m.set h b).wr ws).blk k = ((m'.set h b).wr ws).blk k
      exact Mem.wr_in hin
    · have hout : ∀ b', (k, b') ∉ ws := fun b' hb => hin ⟨b', hb⟩
      rw [Mem.wr, Mem.wr, Mem.wr_out hout, Mem.wr_out hout]
      obtain ⟨b', hb'⟩ := hk
      rcases List.mem_cons.1 hb' with e | e
      · cases e; simp [Mem.set]
      · exact absurd e (hout b')
theorem Mem.ext' {m m' : Mem} (h : ∀ k, m.blk k = m'.blk k) (hn : m.next = m'.next) : m = m' := by
  cases m; cases m'
  simp at hn
  subst hn
  congr
  exact funext h
theorem Mem.wr_comm {ws ws' : Wr} {m : Mem} (hd : ∀ k b b', (k, b) ∈ ws → (k, b') ∉ ws') : (m.wr ws).wr ws' = (m.wr ws').wr ws := by
  refine Mem.ext' (fun k => ?_) (by simp only [Mem.wr_next])
  by_cases h1 : ∃ b, (k, b) ∈ ws
  · obtain ⟨b, hb⟩ := h1
    rw [Mem.wr_out (ws := ws') (fun b' => hd k b b' hb)]
    exact Mem.wr_in ⟨b, hb⟩
  · have h1' : ∀ b, (k, b) ∉ ws := fun b hb => h1 ⟨b, hb⟩
    rw [Mem.wr_out (ws := ws) (m := m.wr ws') h1']
    by_cases h2 : ∃ b, (k, b) ∈ ws'
    · exact Mem.wr_in h2
    · have h2' : ∀ b, (k, b) ∉ ws' := fun b hb => h2 ⟨b, hb⟩
      rw [Mem.wr_out h2', Mem.wr_out h2', Mem.wr_out h1']

theorem Env.get_append : ∀ (a b : Env) (t : Nat), Env.get (a ++ b) t = match Env.get a t with | some v => some v | none => Env.get b t
  | [], _, _ => rfl
  | (k, v) :: a, b, t => by
    rw [List.cons_append, Env.get_cons, Env.get_cons]
    by_cases h : k = t
    · rw [if_pos h, if_pos h]
    · rw [if_neg h, if_neg h]
      exact Env.get_append a b t
theorem Env.get_none {a : Env} {t : Nat} (h : ∀ v, (t, v) ∉ a) : Env.get a t = none := by
  induction a with
  | nil => rfl
  | cons p a ih =>
    obtain ⟨k, v⟩ := p
    rw [Env.get_cons, if_neg (fun e => h v (by rw [e]; simp))]
    exact ih fun v hv => h v (by simp [hv])

theorem app_env {s : St} {d : D} {r : V × Wr × Bs} {t : Nat} (h : d.name ≠ some t) : (s.app d r).env.get t = s.env.get t := by
  cases d <;> first
    | rfl
    | (rename_i k
       show Env.get ((k, r.1) :: s.env) t = _
       rw [Env.get_cons, if_neg (fun e => h (by rw [e]; rfl))])
theorem app_ad {s : St} {d : D} {r : V × Wr × Bs} {t : Nat} (h : d.name ≠ some t) : (s.app d r).ad.get t = s.ad.get t := by
  cases d <;> first
    | rfl
    | (rename_i k
       show Env.get ((k, r.1) :: s.ad) t = _
       rw [Env.get_cons, if_neg (fun e => h (by rw [e]; rfl))])
theorem app_bx {s : St} {d : D} {r : V × Wr × Bs} : (s.app d r).bx = r.2.2 ++ s.bx := by cases d <;> rfl
theorem app_mem {s : St} {d : D} {r : V × Wr × Bs} : (s.app d r).mem = s.mem.wr r.2.1 := by cases d <;> rfl

/-- One looks at nothing that the other writes. -/
def nmApart (i j : Op) : Prop := (∀ t, i.d.name = some t → t ∉ j.names ∧ j.d.name ≠ some t) ∧ (∀ t, j.d.name = some t → t ∉ i.names)

theorem Does.bs {ck : Callk} {lo h : Nat} {st : St} {o : Op} {r : V × Wr × Bs} (hd : Does ck lo h st o r) : ∀ t e, (t, e) ∈ r.2.2 → o.d.name = some t ∨ (st.bx.get t).isSome = true := by
  intro t e ht
  cases hd with
  | skip => cases ht
  | call => cases ht
  | eff p r hp hc hf hl he =>
    obtain ⟨v, ws, bs⟩ := r
    rcases ((eff_writes he).2 t e ht).2 with h1 | h1
    · cases p with
      | bx e' =>
        cases ho : o.d with
        | x t' =>
          rw [ho] at he
          cases he
          have h3 : (t, e) ∈ [(t', e')] := ht
          left
          rcases List.mem_cons.1 h3 with h4 | h4
          · cases h4; rfl
          · cases h4
        | _ => rw [ho] at he; cases he
      | _ => cases h1
    · exact .inr h1

theorem app_agree {ck : Callk} {lo h : Nat} {st : St} {i j : Op} {r : V × Wr × Bs} (hd : Does ck lo h st i r) (hn : ∀ t, i.d.name = some t → t ∉ j.names) : Agree j st (st.app i.d r) := by
  intro t ht
  have hne : i.d.name ≠ some t := fun e => hn t e ht
  refine ⟨(app_env hne).symm, ?_, (app_ad hne).symm⟩
  rw [app_bx, Env.get_append]
  cases h1 : Env.get r.2.2 t with
  | none => rfl
  | some v =>
    have hmem : ∃ v, (t, v) ∈ r.2.2 := by
      apply Classical.byContradiction
      intro hno
      have := Env.get_none (a := r.2.2) (t := t) (fun v hv => hno ⟨v, hv⟩)
      rw [h1] at this; cases this
    obtain ⟨v', hv'⟩ := hmem
    rcases hd.bs t v' hv' with e | e
    · exact absurd e hne
    · rw [e]; rfl

structure Can (st : St) (hi hj : Nat) (i j : Op) (ri rj : V × Wr × Bs) : Prop where
  nm : nmApart i j
  mem : ∀ k b, (k, b) ∈ ri.2.1 → ∀ b', (k, b') ∉ rj.2.1
  bx : ∀ t e, (t, e) ∈ ri.2.2 → ∀ e', (t, e') ∉ rj.2.2
  kj : ∀ p, pre st j = some (some p) → p.isCall = false → (∀ k, Key.h k ∈ p.rkeys hj → ∀ b, (k, b) ∉ ri.2.1) ∧ (∀ t, Key.bx t ∈ p.rkeys hj → ∀ e, (t, e) ∉ ri.2.2)
  ki : ∀ p, pre st i = some (some p) → p.isCall = false → (∀ k, Key.h k ∈ p.rkeys hi → ∀ b, (k, b) ∉ rj.2.1) ∧ (∀ t, Key.bx t ∈ p.rkeys hi → ∀ e, (t, e) ∉ rj.2.2)
  loc : ∀ t, i.d = .x t → ∀ t', j.d = .a t' → ∀ off, rj.1 ≠ .loc t off
  cj : ∀ f args, pre st j = some (some (.call f args)) → ri.2.1 = []
  ci : ∀ f args, pre st i = some (some (.call f args)) → rj.2.1 = [] ∨ ∃ b, rj.2.1 = [(hj, some b)]

/-- Is a value an address into box t? -/
noncomputable def isLoc (t : Nat) : V → Bool
  | .loc t2 _ => Nat.beq t2 t
  | _ => false
theorem hasLoc_cons (t k : Nat) (v : V) (ad : Env) : hasLoc t ((k, v) :: ad) = (isLoc t v || hasLoc t ad) := by
  cases v with
  | loc t2 o2 =>
    show cond (Nat.beq t2 t) true (hasLoc t ad) = (Nat.beq t2 t || hasLoc t ad)
    cases Nat.beq t2 t <;> rfl
  | _ => rfl
theorem isLoc_false {t : Nat} {v : V} (h : ∀ off, v ≠ .loc t off) : isLoc t v = false := by
  cases v with
  | loc t2 o2 =>
    show Nat.beq t2 t = false
    cases hb : Nat.beq t2 t with
    | false => rfl
    | true =>
      have e := Nat.eq_of_beq_eq_true hb
      subst e
      exact absurd rfl (h o2)
  | _ => rfl

theorem app_hasLoc {s : St} {d : D} {r : V × Wr × Bs} {t : Nat} (h : hasLoc t s.ad = false) (hr : ∀ t', d = .a t' → ∀ off, r.1 ≠ .loc t off) : hasLoc t (s.app d r).ad = false := by
  cases d with
  | a k =>
    show hasLoc t ((k, r.1) :: s.ad) = false
    rw [hasLoc_cons, isLoc_false (hr k rfl), h]
    rfl
  | _ => exact h
theorem app_hasLoc_le {s : St} {d : D} {r : V × Wr × Bs} {t : Nat} (h : hasLoc t (s.app d r).ad = false) : hasLoc t s.ad = false := by
  cases d with
  | a k =>
    change hasLoc t ((k, r.1) :: s.ad) = false at h
    rw [hasLoc_cons] at h
    simp only [Bool.or_eq_false_iff] at h
    exact h.2
  | _ => exact h

theorem swap_eqv {s : St} {i j : Op} {ri rj : V × Wr × Bs} (hn : ∀ t, i.d.name = some t → j.d.name ≠ some t) (hm : ∀ k b, (k, b) ∈ ri.2.1 → ∀ b', (k, b') ∉ rj.2.1) (hb : ∀ t e, (t, e) ∈ ri.2.2 → ∀ e', (t, e') ∉ rj.2.2) :
    Eqv ((s.app j.d rj).app i.d ri) ((s.app i.d ri).app j.d rj) := by
  refine ⟨fun t => ?_, fun t => ?_, fun t => ?_, fun t => ?_, ?_⟩
  · by_cases h1 : i.d.name = some t
    · have h2 := hn t h1
      rw [app_env (d := j.d) h2]
      cases hi : i.d with
      | e k =>
        show Env.get ((k, ri.1) :: (s.app j.d rj).env) t = Env.get ((k, ri.1) :: s.env) t
        rw [hi] at h1
        have e : k = t := by simpa [D.name] using h1
        rw [Env.get_cons, Env.get_cons, if_pos e, if_pos e]
      | a k => exact app_env h2
      | x k => exact app_env h2
      | n => exact app_env h2
    · rw [app_env (d := i.d) h1]
      cases hj : j.d with
      | e k =>
        show Env.get ((k, rj.1) :: s.env) t = Env.get ((k, rj.1) :: (s.app i.d ri).env) t
        rw [Env.get_cons, Env.get_cons, app_env h1]
      | a k =>
        show Env.get s.env t = Env.get (s.app i.d ri).env t
        exact (app_env h1).symm
      | x k =>
        show Env.get s.env t = Env.get (s.app i.d ri).env t
        exact (app_env h1).symm
      | n =>
        show Env.get s.env t = Env.get (s.app i.d ri).env t
        exact (app_env h1).symm
  · simp only [app_bx, Env.get_append]
    cases h1 : Env.get ri.2.2 t with
    | none => rfl
    | some v =>
      have : Env.get rj.2.2 t = none := by
        refine Env.get_none fun e' he' => ?_
        have hin : ∃ v, (t, v) ∈ ri.2.2 := by
          apply Classical.byContradiction
          intro hno
          have := Env.get_none (a := ri.2.2) (t := t) (fun v hv => hno ⟨v, hv⟩)
          rw [h1] at this; cases this
        obtain ⟨v', hv'⟩ := hin
        exact hb t v' hv' e' he'
      rw [this]
  · by_cases h1 : i.d.name = some t
    · have h2 := hn t h1
      rw [app_ad (d := j.d) h2]
      cases hi : i.d with
      | a k =>
        show Env.get ((k, ri.1) :: (s.app j.d rj).ad) t = Env.get ((k, ri.1) :: s.ad) t
        rw [hi] at h1
        have e : k = t := by simpa [D.name] using h1
        rw [Env.get_cons, Env.get_cons, if_pos e, if_pos e]
      | e k => exact app_ad h2
      | x k => exact app_ad h2
      | n => exact app_ad h2
    · rw [app_ad (d := i.d) h1]
      cases hj : j.d with
      | a k =>
        show Env.get ((k, rj.1) :: s.ad) t = Env.get ((k, rj.1) :: (s.app i.d ri).ad) t
        rw [Env.get_cons, Env.get_cons, app_ad h1]
      | e k =>
        show Env.get s.ad t = Env.get (s.app i.d ri).ad t
        exact (app_ad h1).symm
      | x k =>
        show Env.get s.ad t = Env.get (s.app i.d ri).ad t
        exact (app_ad h1).symm
      | n =>
        show Env.get s.ad t = Env.get (s.app i.d ri).ad t
        exact (app_ad h1).symm
  · cases hi : i.d <;> cases hj : j.d <;> first
      | rfl
      | (show hasLoc t ((_, ri.1) :: (_, rj.1) :: s.ad) = hasLoc t ((_, rj.1) :: (_, ri.1) :: s.ad)
         simp only [hasLoc_cons]
         cases isLoc t ri.1 <;> cases isLoc t rj.1 <;> rfl)
  · simp only [app_mem]
    exact (Mem.wr_comm fun k b b' h => hm k b h b').symm

theorem swap {ck : Callk} {pf : Nat → Bool} (hpc : PureCk ck pf) {lo hi hj : Nat} {s : St} {i j : Op} {ri rj : V × Wr × Bs} (hki : i.k.opens pf = true) (d1 : Does ck lo hi s i ri) (d2 : Does ck lo hj (s.app i.d ri) j rj) (c : Can s hi hj i j ri rj) (hf : s.mem.blk hj = none ∧ hj < s.mem.next) :
    Does ck lo hj s j rj ∧ Does ck lo hi (s.app j.d rj) i ri ∧ Eqv ((s.app j.d rj).app i.d ri) ((s.app i.d ri).app j.d rj) := by
  have hpj : pre (s.app i.d ri) j = pre s j := (pre_agree (app_agree d1 (fun t ht => (c.nm.1 t ht).1))).symm
  have d2' : Does ck lo hj s j rj := by
    cases d2 with
    | skip hp hx => exact .skip (by rw [← hpj]; exact hp) hx
    | eff p r hp hc hfz hl he =>
      rw [hpj] at hp
      obtain ⟨k1, k2⟩ := c.kj p hp hc
      refine .eff p rj hp hc hfz (fun t hb hd => app_hasLoc_le (hl t hb hd)) ?_
      rw [← he]
      refine eff_cong (fun k hk => ?_) (fun t ht => ?_)
      · rw [app_mem, Mem.wr_out (k1 k hk)]
      · rw [app_bx, Env.get_append, Env.get_none (k2 t ht)]
    | call f args v hp hx hc =>
      rw [hpj] at hp
      have h0 := c.cj f args hp
      have hm : (s.app i.d ri).mem = s.mem := by rw [app_mem, h0]; rfl
      rw [hm] at hc
      exact .call f args v hp hx hc
  have hpi : pre (s.app j.d rj) i = pre s i := (pre_agree (app_agree d2' (fun t ht => c.nm.2 t ht))).symm
  refine ⟨d2', ?_, swap_eqv (fun t ht => (c.nm.1 t ht).2) c.mem c.bx⟩
  cases d1 with
  | skip hp hx => exact .skip (by rw [hpi]; exact hp) hx
  | eff p r hp hc hfz hl he =>
    obtain ⟨k1, k2⟩ := c.ki p hp hc
    refine .eff p ri (by rw [hpi]; exact hp) hc hfz (fun t hb hd => app_hasLoc (hl t hb hd) (c.loc t hd)) ?_
    rw [← he]
    refine eff_cong (fun k hk => ?_) (fun t ht => ?_)
    · rw [app_mem, Mem.wr_out (k1 k hk)]
    · rw [app_bx, Env.get_append, Env.get_none (k2 t ht)]
  | call f args v hp hx hc =>
    refine .call f args v (by rw [hpi]; exact hp) hx ?_
    rw [app_mem]
    rcases c.ci f args hp with h0 | ⟨b, h0⟩
    · rw [h0]; exact hc
    · rw [h0]
      have hpf : pf f = true := by
        obtain ⟨vs, _, hpl⟩ := pre_plan hp
        rcases plan_call_of hpl with e | e
        · rw [e] at hki; exact hki
        · rw [e] at hki; cases hki
      exact (hpc f args lo s.mem v s.mem hc hpf).2 hj b hf.1 hf.2
end Go.Am
