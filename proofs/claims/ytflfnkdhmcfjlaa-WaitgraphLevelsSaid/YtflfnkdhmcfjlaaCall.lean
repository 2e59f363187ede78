/- Calls of the abstract machine are sound. -/
import Derived.Test.YtflfnkdhmcfjlaaRegs
import Derived.Laws.Sem
import Derived.Test.YtflfnkdhmcfjlaaMach

/- A block more that a call does not see changes nothing. -/
namespace Go.Am
open Go

theorem eff_mono {lo h : Nat} {blk blk2 : Nat → Option Blk} {bg : Nat → Option V} {d : D} {p : Plan} {r : V × Wr × Bs} (hb : ∀ k b, blk k = some b → blk2 k = some b) (he : eff lo h blk bg d p = some r) : eff lo h blk2 bg d p = some r := by
  have hv : ∀ {x : V} {q}, viewF blk x = some q → viewF blk2 x = some q := by
    intro x q hq
    cases x <;> first
      | exact hq
      | (rename_i s h' o l
         simp only [viewF] at hq ⊢
         cases hk : blk h' with
         | none => rw [hk] at hq; cases hq
         | some b => rw [hk] at hq; rw [hb h' b hk]; exact hq)
  cases p with
  | rd h' f =>
    simp only [eff] at he ⊢
    cases hk : blk h' with
    | none => rw [hk] at he; split at he <;> cases he
    | some b => rw [hk] at he; rw [hb h' b hk]; exact he
  | wr h' f v =>
    simp only [eff] at he ⊢
    cases hk : blk h' with
    | none =>
      rw [hk] at he
      split at he
      · cases he
      · split at he <;> cases he
    | some b => rw [hk] at he; rw [hb h' b hk]; exact he
  | app d' sz x =>
    simp only [eff] at he ⊢
    cases hk : viewF blk x with
    | none => rw [hk] at he; split at he <;> cases he
    | some q =>
      rw [hk] at he
      rw [hv hk]
      obtain ⟨s, xs⟩ := q
      cases d' with
      | none => cases xs <;> exact he
      | some q' =>
        obtain ⟨h', o, l⟩ := q'
        simp only at he ⊢
        cases hk2 : blk h' with
        | none =>
          rw [hk2] at he
          split at he
          · cases he
          · split at he <;> cases he
        | some b => rw [hk2] at he; rw [hb h' b hk2]; exact he
  | cpy sz h' o l x =>
    simp only [eff] at he ⊢
    cases hk : viewF blk x with
    | none => rw [hk] at he; split at he <;> cases he
    | some q =>
      rw [hk] at he
      rw [hv hk]
      obtain ⟨s, xs⟩ := q
      simp only at he ⊢
      cases hk2 : blk h' with
      | none =>
        rw [hk2] at he
        split at he
        · cases he
        · split at he <;> cases he
      | some b => rw [hk2] at he; rw [hb h' b hk2]; exact he
  | _ => exact he

theorem mapO_congr {α β : Type} {f f' : α → Option β} (h : ∀ x, f x = f' x) : ∀ l : List α, mapO f l = mapO f' l
  | [] => rfl
  | x :: l => by simp only [mapO, h x, mapO_congr h l]

theorem freeze_congr {lo : Nat} {m m2 : Mem} (h : ∀ k, lo ≤ k → m.blk k = m2.blk k) : ∀ (n : Nat) (v : V), freeze lo m n v = freeze lo m2 n v
  | 0, v => rfl
  | n + 1, v => by
    have ih := freeze_congr h n
    cases v with
    | lst p sz xs => cases p <;> simp only [freeze, mapO_congr ih]
    | agg cs => simp only [freeze, mapO_congr ih]
    | tup cs => simp only [freeze, mapO_congr ih]
    | row s h' o l =>
      by_cases hl : lo ≤ h'
      · simp only [freeze, h h' hl, mapO_congr ih]
      · have key : ∀ m : Mem, freeze lo m (n + 1) (.row s h' o l) = none := by
          intro m
          simp only [freeze]
          split
          · rw [if_neg (fun e => hl e.1)]
          · rfl
        rw [key, key]
    | _ => rfl

/-- With one block more. -/
noncomputable def St.plus (s : St) (h : Nat) (b : Blk) : St := { s with mem := s.mem.set h (some b) }

def ExtCk (ck : Callk) (pf : Nat → Bool) : Prop :=
  ∀ f args lo m v m', ck f args lo m = some (v, m') → (pf f = true → m' = m) ∧ m.next ≤ m'.next ∧ ∀ hj b, m.blk hj = none → hj < m.next → (hj < lo ∨ pf f = true) → ck f args lo (m.set hj (some b)) = some (v, m'.set hj (some b)) ∧ m'.blk hj = none

noncomputable def blockedB (p : Plan) (d : D) (ad : Env) : Bool := p.isBx && (match d with | .x t => hasLoc t ad | _ => false)
theorem act_eff' {ck : Callk} {lo h : Nat} {st : St} {d : D} {p : Plan} (hc : p.isCall = false) (hf : p.isFrz = false) :
    act ck lo h st d p = if blockedB p d st.ad then none else (eff lo h st.mem.blk st.bx.get d p).map (st.app d) := act_eff hc hf

section
variable {ck : Callk} {pf : Nat → Bool} {lo hj : Nat} {b : Blk}

theorem app_plus {s : St} {d : D} {r : V × Wr × Bs} (h : ∀ c, (hj, c) ∉ r.2.1) : (s.plus hj b).app d r = (s.app d r).plus hj b := by
  have hm : (s.mem.set hj (some b)).wr r.2.1 = (s.mem.wr r.2.1).set hj (some b) := by
    have := Mem.wr_comm (ws := [(hj, some b)]) (ws' := r.2.1) (m := s.mem) (fun k c c' hk => by simp at hk; rw [hk.1]; exact h c')
    exact this
  cases d <;> simp only [St.app, St.push, St.plus, hm]

theorem act_plus (hck : ExtCk ck pf) {h : Nat} {s s' : St} {d : D} {p : Plan} (hb : s.mem.blk hj = none) (hlo : hj < lo) (hlt : hj < s.mem.next) (hne : hj ≠ h) (ha : act ck lo h s d p = some s') :
    act ck lo h (s.plus hj b) d p = some (s'.plus hj b) ∧ s'.mem.blk hj = none ∧ s.mem.next ≤ s'.mem.next := by
  cases hc : p.isCall with
  | true =>
    cases p <;> first | (cases hc; done) | skip
    rename_i f args
    simp only [act] at ha ⊢
    split at ha
    · cases ha
    · rename_i v m hk
      obtain ⟨_, h2, h3⟩ := hck f args lo s.mem v m hk
      obtain ⟨h4, h5⟩ := h3 hj b hb hlt (.inl hlo)
      have e : (s.plus hj b).mem = s.mem.set hj (some b) := rfl
      rw [e, h4]
      simp only
      rw [put_push] at ha ⊢
      cases hx : d.isX with
      | true => rw [hx] at ha; cases ha
      | false =>
        rw [hx] at ha
        simp only [Bool.false_eq_true, if_false, Option.some.injEq] at ha ⊢
        subst ha
        refine ⟨?_, ?_, ?_⟩
        · cases d <;> rfl
        · cases d <;> exact h5
        · cases d <;> exact h2
  | false =>
    cases hf : p.isFrz with
    | true =>
      cases p <;> first | (cases hf; done) | skip
      rename_i t sz
      simp only [act] at ha ⊢
      split at ha
      · rename_i cs hcs
        have e0 : (s.plus hj b).bx.get t = some (.agg cs) := hcs
        rw [e0]
        simp only
        split at ha
        · rename_i hsz
          rw [if_pos hsz]
          have e : freeze lo (s.plus hj b).mem 8 (.agg cs) = freeze lo s.mem 8 (.agg cs) := freeze_congr (fun k hk => by
            show (if k = hj then some b else s.mem.blk k) = _
            rw [if_neg (by omega)]) 8 _
          rw [e]
          split at ha
          · cases ha
          · rename_i v hv
            have ek : (s.plus hj b).mem.kill lo = (s.mem.kill lo).set hj (some b) := Mem.ext' (fun k => by
              show (if lo ≤ k then none else if k = hj then some b else s.mem.blk k) = if k = hj then some b else if lo ≤ k then none else s.mem.blk k
              by_cases e1 : k = hj
              · subst e1; rw [if_neg (by omega), if_pos rfl, if_pos rfl]
              · rw [if_neg e1, if_neg e1]) rfl
            have hbk : (s.mem.kill lo).blk hj = none := by show (if lo ≤ hj then none else s.mem.blk hj) = none; rw [if_neg (by omega)]; exact hb
            simp only [ek]
            cases d <;> first
              | (cases ha; exact ⟨rfl, hbk, Nat.le_refl _⟩)
              | cases ha
        · cases ha
      · cases ha
    | false =>
      rw [act_eff' hc hf] at ha ⊢
      have had : (s.plus hj b).ad = s.ad := rfl
      rw [had]
      generalize blockedB p d s.ad = cnd at ha ⊢
      cases cnd with
      | true => cases ha
      | false =>
        simp only [Bool.false_eq_true, if_false] at ha ⊢
        simp only [Option.map_eq_some_iff] at ha
        obtain ⟨r, hr, rfl⟩ := ha
        have hw : ∀ c, (hj, c) ∉ r.2.1 := by
          intro c hcin
          have := eff_writes_own hr hj c hcin
          rcases this with e | e
          · exact hne e
          · rw [hb] at e; cases e
        have hr2 : eff lo h (s.plus hj b).mem.blk (s.plus hj b).bx.get d p = some r := eff_mono (fun k c hk => by
          show (if k = hj then some b else s.mem.blk k) = some c
          rw [if_neg (fun e => by rw [e, hb] at hk; cases hk)]
          exact hk) hr
        rw [hr2]
        refine ⟨by rw [Option.map_some, app_plus hw], by rw [app_mem, Mem.wr_out hw]; exact hb, by rw [next_app]; exact Nat.le_refl _⟩

structure Plus (lo hj : Nat) (s : St) : Prop where
  blk : s.mem.blk hj = none
  lt : hj < lo
  lo : hj < s.mem.next

theorem pre_plus {s : St} {o : Op} : pre (s.plus hj b) o = pre s o := pre_agree (fun _ _ => ⟨rfl, rfl, rfl⟩)

theorem step_plus (hck : ExtCk ck pf) {h : Nat} {s s' : St} {o : Op} (hp : Plus lo hj s) (hh : s.mem.next ≤ h) (hs : step ck lo h s o = some s') :
    step ck lo h (s.plus hj b) o = some (s'.plus hj b) ∧ Plus lo hj s' ∧ s.mem.next ≤ s'.mem.next := by
  have hlt := hp.lt
  have hlo := hp.lo
  rw [step_pre] at hs ⊢
  rw [pre_plus]
  cases hq : pre s o with
  | none => rw [hq] at hs; cases hs
  | some q =>
    rw [hq] at hs
    cases q with
    | none =>
      simp only at hs ⊢
      cases hd : o.d <;> rw [hd] at hs <;> first
        | (cases hs; exact ⟨rfl, ⟨hp.blk, hlt, hlo⟩, Nat.le_refl _⟩)
        | cases hs
    | some p =>
      simp only at hs ⊢
      obtain ⟨h1, h2, h3⟩ := act_plus (b := b) hck hp.blk hlt (by omega) (by omega) hs
      exact ⟨h1, ⟨h2, hlt, Nat.lt_of_lt_of_le hlo h3⟩, h3⟩

theorem ops_plus (hck : ExtCk ck pf) : ∀ (ps : List Op) {s s' : St}, Plus lo hj s → runOps ck lo ps s = some s' → runOps ck lo ps (s.plus hj b) = some (s'.plus hj b) ∧ Plus lo hj s' ∧ s.mem.next ≤ s'.mem.next
  | [], s, s', hp, hr => by cases hr; exact ⟨rfl, hp, Nat.le_refl _⟩
  | o :: ps, s, s', hp, hr => by
    rw [runOps_cons] at hr ⊢
    split at hr
    · cases hr
    · rename_i s1 h1
      obtain ⟨h2, h3, h4⟩ := step_plus (b := b) hck hp (Nat.le_refl _) h1
      have e : (s.plus hj b).mem.next = s.mem.next := rfl
      rw [e, h2]
      simp only
      cases hal : o.k.allocs with
      | false =>
        rw [hal] at hr
        simp only [cond_false] at hr ⊢
        obtain ⟨h5, h6, h7⟩ := ops_plus hck ps h3 hr
        exact ⟨h5, h6, Nat.le_trans h4 h7⟩
      | true =>
        rw [hal] at hr
        simp only [cond_true] at hr ⊢
        obtain ⟨h5, h6, h7⟩ := ops_plus hck ps (s := { s1 with mem := s1.mem.bump 1 }) ⟨h3.blk, h3.lt, Nat.lt_of_lt_of_le h3.lo (Nat.le_add_right _ _)⟩ hr
        have h8 : s1.mem.next + 1 ≤ s'.mem.next := h7
        exact ⟨h5, h6, by omega⟩

theorem keysOf_plus {h : Nat} {s : St} {o : Op} : keysOf h (s.plus hj b) o = keysOf h s o := keysOf_agree (fun _ _ => ⟨rfl, rfl, rfl⟩)

theorem opsD_plus (hck : ExtCk ck pf) {base : Nat} : ∀ (ps : List Op) (i : Nat) {s s' : St} {ks : List (List Key)}, Plus lo hj s → hj < base → runOpsD ck lo base i ps s = some (s', ks) → runOpsD ck lo base i ps (s.plus hj b) = some (s'.plus hj b, ks) ∧ Plus lo hj s' ∧ s.mem.next ≤ s'.mem.next
  | [], i, s, s', ks, hp, _, hr => by cases hr; exact ⟨rfl, hp, Nat.le_refl _⟩
  | o :: ps, i, s, s', ks, hp, hb, hr => by
    simp only [runOpsD] at hr ⊢
    split at hr
    · cases hr
    · rename_i s1 h1
      split at hr
      · cases hr
      · rename_i s2 ks' h2
        cases hr
        have hlt := hp.lt
        have hlo := hp.lo
        have h3 : step ck lo (base + i) (s.plus hj b) o = some (s1.plus hj b) ∧ Plus lo hj s1 ∧ s.mem.next ≤ s1.mem.next := by
          rw [step_pre] at h1 ⊢
          rw [pre_plus]
          cases hq : pre s o with
          | none => rw [hq] at h1; cases h1
          | some q =>
            rw [hq] at h1
            cases q with
            | none =>
              simp only at h1 ⊢
              cases hd : o.d <;> rw [hd] at h1 <;> first
                | (cases h1; exact ⟨rfl, ⟨hp.blk, hlt, hlo⟩, Nat.le_refl _⟩)
                | cases h1
            | some p =>
              simp only at h1 ⊢
              obtain ⟨q1, q2, q3⟩ := act_plus (b := b) hck hp.blk hlt (by omega) (by omega) h1
              exact ⟨q1, ⟨q2, hlt, Nat.lt_of_lt_of_le hlo q3⟩, q3⟩
        obtain ⟨h4, h5, h6⟩ := h3
        obtain ⟨h7, h8, h9⟩ := opsD_plus hck ps (i + 1) h5 hb h2
        rw [h4]
        simp only
        rw [h7]
        simp only [keysOf_plus]
        exact ⟨trivial, h8, Nat.le_trans h6 h9⟩

theorem run_plus (hck : ExtCk ck pf) {N : Nat} : ∀ (c : AC) {s s' : St} {ex : Ex}, Plus lo hj s → run ck N lo c s = some (ex, s') → run ck N lo c (s.plus hj b) = some (ex, s'.plus hj b) ∧ Plus lo hj s' ∧ s.mem.next ≤ s'.mem.next := by
  intro c
  induction c with
  | skip => intro s s' ex hp hr; cases hr; exact ⟨rfl, hp, Nat.le_refl _⟩
  | dead => intro s s' ex hp hr; cases hr
  | exit j => intro s s' ex hp hr; cases hr; exact ⟨rfl, hp, Nat.le_refl _⟩
  | ret => intro s s' ex hp hr; cases hr; exact ⟨rfl, hp, Nat.le_refl _⟩
  | reg ops lv lb =>
    intro s s' ex hp hr
    have hr' : (match runOps ck lo ops s with
      | none => none
      | some st' => some (Ex.nrm, st'.cut lv lb)) = some (ex, s') := hr
    show (match runOps ck lo ops (s.plus hj b) with
      | none => none
      | some st' => some (Ex.nrm, st'.cut lv lb)) = some (ex, s'.plus hj b) ∧ _
    split at hr'
    · cases hr'
    · rename_i s1 h1
      cases hr'
      obtain ⟨h2, h3, h4⟩ := ops_plus (b := b) hck ops hp h1
      rw [h2]
      exact ⟨rfl, ⟨h3.blk, h3.lt, h3.lo⟩, h4⟩
  | dreg ops ps lv lb =>
    intro s s' ex hp hr
    have hr' : (match runOpsD ck lo s.mem.next 0 ops { s with mem := s.mem.bump ops.length } with
      | none => none
      | some (st', ks) => if pairsOk ks ps then some (Ex.nrm, st'.cut lv lb) else none) = some (ex, s') := hr
    show (match runOpsD ck lo s.mem.next 0 ops (St.plus { s with mem := s.mem.bump ops.length } hj b) with
      | none => none
      | some (st', ks) => if pairsOk ks ps then some (Ex.nrm, st'.cut lv lb) else none) = some (ex, s'.plus hj b) ∧ _
    split at hr'
    · cases hr'
    · rename_i s1 ks h1
      have hlt := hp.lt
      have hlo := hp.lo
      obtain ⟨h2, h3, h4⟩ := opsD_plus (b := b) hck ops 0 (s := { s with mem := s.mem.bump ops.length }) ⟨hp.blk, hlt, Nat.lt_of_lt_of_le hlo (Nat.le_add_right _ _)⟩ (by omega) h1
      have h5 : s.mem.next + ops.length ≤ s1.mem.next := h4
      rw [h2]
      simp only
      split at hr'
      · rename_i hps
        cases hr'
        rw [if_pos hps]
        exact ⟨rfl, ⟨h3.blk, h3.lt, h3.lo⟩, by show s.mem.next ≤ s1.mem.next; omega⟩
      · cases hr'
  | seq x y ihx ihy =>
    intro s s' ex hp hr
    have hr' : (match run ck N lo x s with
      | none => none
      | some (.nrm, st') => run ck N lo y st'
      | some (.exit i, st') => some (.exit i, st')
      | some (.ret, st') => some (.ret, st')) = some (ex, s') := hr
    show (match run ck N lo x (s.plus hj b) with
      | none => none
      | some (.nrm, st') => run ck N lo y st'
      | some (.exit i, st') => some (.exit i, st')
      | some (.ret, st') => some (.ret, st')) = some (ex, s'.plus hj b) ∧ _
    split at hr'
    · cases hr'
    · rename_i s1 h1
      obtain ⟨h2, h3, h4⟩ := ihx hp h1
      obtain ⟨h5, h6, h7⟩ := ihy h3 hr'
      rw [h2]
      exact ⟨h5, h6, Nat.le_trans h4 h7⟩
    · rename_i h1
      cases hr'
      obtain ⟨h2, h3, h4⟩ := ihx hp h1
      rw [h2]
      exact ⟨rfl, h3, h4⟩
    · rename_i h1
      cases hr'
      obtain ⟨h2, h3, h4⟩ := ihx hp h1
      rw [h2]
      exact ⟨rfl, h3, h4⟩
  | cond c x y ihx ihy =>
    intro s s' ex hp hr
    have hr' : (match getO s c with
      | some (.bool c) => cond c (run ck N lo x s) (run ck N lo y s)
      | _ => none) = some (ex, s') := hr
    show (match getO (s.plus hj b) c with
      | some (.bool c) => cond c (run ck N lo x (s.plus hj b)) (run ck N lo y (s.plus hj b))
      | _ => none) = some (ex, s'.plus hj b) ∧ _
    have hg : getO (s.plus hj b) c = getO s c := getO_same (fun _ _ => rfl) (fun _ _ => rfl) (fun _ _ => rfl)
    rw [hg]
    split at hr'
    · rename_i b' hb'
      cases b' with
      | true => exact ihx hp hr'
      | false => exact ihy hp hr'
    · cases hr'
  | block id x ih =>
    intro s s' ex hp hr
    have hr' : (match run ck N lo x s with
      | none => none
      | some (.nrm, st') => some (.nrm, st')
      | some (.exit i, st') => if i = id then some (.nrm, st') else some (.exit i, st')
      | some (.ret, st') => some (.ret, st')) = some (ex, s') := hr
    show (match run ck N lo x (s.plus hj b) with
      | none => none
      | some (.nrm, st') => some (.nrm, st')
      | some (.exit i, st') => if i = id then some (.nrm, st') else some (.exit i, st')
      | some (.ret, st') => some (.ret, st')) = some (ex, s'.plus hj b) ∧ _
    split at hr'
    · cases hr'
    · rename_i h1
      cases hr'
      obtain ⟨h2, h3, h4⟩ := ih hp h1
      rw [h2]
      exact ⟨rfl, h3, h4⟩
    · rename_i j s1 h1
      obtain ⟨h2, h3, h4⟩ := ih hp h1
      rw [h2]
      simp only
      split at hr'
      · rename_i e; cases hr'; rw [if_pos e]; exact ⟨rfl, h3, h4⟩
      · rename_i e; cases hr'; rw [if_neg e]; exact ⟨rfl, h3, h4⟩
    · rename_i h1
      cases hr'
      obtain ⟨h2, h3, h4⟩ := ih hp h1
      rw [h2]
      exact ⟨rfl, h3, h4⟩
  | loop lv lb x ih =>
    intro s s' ex hp hr
    have key : ∀ (n : Nat) {s : St}, Plus lo hj s → iter (fun st => run ck N lo x (st.cut lv lb)) n s = some (ex, s') → iter (fun st => run ck N lo x (st.cut lv lb)) n (s.plus hj b) = some (ex, s'.plus hj b) ∧ Plus lo hj s' ∧ s.mem.next ≤ s'.mem.next := by
      intro n
      induction n with
      | zero => intro s _ h; cases h
      | succ n ihn =>
        intro s hp h
        have h' : (match run ck N lo x (s.cut lv lb) with
          | none => none
          | some (.nrm, st') => iter (fun st => run ck N lo x (st.cut lv lb)) n st'
          | some (.exit i, st') => some (.exit i, st')
          | some (.ret, st') => some (.ret, st')) = some (ex, s') := h
        show (match run ck N lo x ((s.cut lv lb).plus hj b) with
          | none => none
          | some (.nrm, st') => iter (fun st => run ck N lo x (st.cut lv lb)) n st'
          | some (.exit i, st') => some (.exit i, st')
          | some (.ret, st') => some (.ret, st')) = some (ex, s'.plus hj b) ∧ _
        have hp' : Plus lo hj (s.cut lv lb) := ⟨hp.blk, hp.lt, hp.lo⟩
        split at h'
        · cases h'
        · rename_i s1 h1
          obtain ⟨h2, h3, h4⟩ := ih hp' h1
          obtain ⟨h5, h6, h7⟩ := ihn h3 h'
          rw [h2]
          exact ⟨h5, h6, Nat.le_trans h4 h7⟩
        · rename_i h1
          cases h'
          obtain ⟨h2, h3, h4⟩ := ih hp' h1
          rw [h2]
          exact ⟨rfl, h3, h4⟩
        · rename_i h1
          cases h'
          obtain ⟨h2, h3, h4⟩ := ih hp' h1
          rw [h2]
          exact ⟨rfl, h3, h4⟩
    exact key N hp hr

noncomputable def pfOf (F : Nat → Option Fn) (f : Nat) : Bool := match F f with
  | some fn => fn.pure
  | none => false

theorem call_succ (F : Nat → Option Fn) (k f : Nat) (args : List V) (lo : Nat) (m : Mem) : call F (k + 1) f args lo m = (match F f with
    | none => none
    | some fn =>
      if args.length = fn.np then
        match run (call F k) k (if fn.pure then m.next else lo) fn.body ⟨initEnv 0 args, [], [], m⟩ with
        | none => none
        | some (.exit _, _) => none
        | some (_, st) => match getRes st fn.res with
          | none => none
          | some vs => if fn.pure then
              match freeze m.next st.mem 8 (resV vs) with
              | none => none
              | some v => some (v, m)
            else some (resV vs, st.mem)
      else none) := rfl

theorem act_next (hck : ExtCk ck pf) {lo h : Nat} {s s' : St} {d : D} {p : Plan} (ha : act ck lo h s d p = some s') : s.mem.next ≤ s'.mem.next := by
  cases hc : p.isCall with
  | true =>
    cases p <;> first | (cases hc; done) | skip
    rename_i f args
    simp only [act] at ha
    split at ha
    · cases ha
    · rename_i v m hk
      obtain ⟨_, h2, _⟩ := hck f args lo s.mem v m hk
      rw [put_push] at ha
      cases hx : d.isX with
      | true => rw [hx] at ha; cases ha
      | false =>
        rw [hx] at ha
        simp only [Bool.false_eq_true, if_false, Option.some.injEq] at ha
        subst ha
        cases d <;> exact h2
  | false =>
    cases hf : p.isFrz with
    | true =>
      cases p <;> first | (cases hf; done) | skip
      simp only [act] at ha
      split at ha
      · split at ha
        · split at ha
          · cases ha
          · cases d <;> first
              | (cases ha; exact Nat.le_refl _)
              | cases ha
        · cases ha
      · cases ha
    | false =>
      rw [act_eff' hc hf] at ha
      generalize blockedB p d s.ad = cnd at ha
      cases cnd with
      | true => cases ha
      | false =>
        simp only [Bool.false_eq_true, if_false, Option.map_eq_some_iff] at ha
        obtain ⟨r, hr, rfl⟩ := ha
        rw [next_app]; exact Nat.le_refl _

theorem step_next (hck : ExtCk ck pf) {lo h : Nat} {s s' : St} {o : Op} (hs : step ck lo h s o = some s') : s.mem.next ≤ s'.mem.next := by
  rw [step_pre] at hs
  cases hq : pre s o with
  | none => rw [hq] at hs; cases hs
  | some q =>
    rw [hq] at hs
    cases q with
    | none =>
      simp only at hs
      cases hd : o.d <;> rw [hd] at hs <;> first
        | (cases hs; exact Nat.le_refl _)
        | cases hs
    | some p => exact act_next hck hs

theorem ops_next (hck : ExtCk ck pf) {lo : Nat} : ∀ (ps : List Op) {s s' : St}, runOps ck lo ps s = some s' → s.mem.next ≤ s'.mem.next
  | [], s, s', hr => by cases hr; exact Nat.le_refl _
  | o :: ps, s, s', hr => by
    rw [runOps_cons] at hr
    split at hr
    · cases hr
    · rename_i s1 h1
      have h2 := step_next hck h1
      have h3 := ops_next hck ps hr
      cases hal : o.k.allocs with
      | false => rw [hal] at h3; exact Nat.le_trans h2 h3
      | true =>
        rw [hal] at h3
        have h4 : s1.mem.next + 1 ≤ s'.mem.next := h3
        omega

theorem opsD_next (hck : ExtCk ck pf) {lo base : Nat} : ∀ (ps : List Op) (i : Nat) {s s' : St} {ks : List (List Key)}, runOpsD ck lo base i ps s = some (s', ks) → s.mem.next ≤ s'.mem.next
  | [], i, s, s', ks, hr => by cases hr; exact Nat.le_refl _
  | o :: ps, i, s, s', ks, hr => by
    simp only [runOpsD] at hr
    split at hr
    · cases hr
    · rename_i s1 h1
      split at hr
      · cases hr
      · rename_i s2 ks' h2
        cases hr
        exact Nat.le_trans (step_next hck h1) (opsD_next hck ps (i + 1) h2)

theorem run_next (hck : ExtCk ck pf) {N lo : Nat} : ∀ (c : AC) {s s' : St} {ex : Ex}, run ck N lo c s = some (ex, s') → s.mem.next ≤ s'.mem.next := by
  intro c
  induction c with
  | skip => intro s s' ex hr; cases hr; exact Nat.le_refl _
  | dead => intro s s' ex hr; cases hr
  | exit j => intro s s' ex hr; cases hr; exact Nat.le_refl _
  | ret => intro s s' ex hr; cases hr; exact Nat.le_refl _
  | reg ops lv lb =>
    intro s s' ex hr
    have hr' : (match runOps ck lo ops s with
      | none => none
      | some st' => some (Ex.nrm, st'.cut lv lb)) = some (ex, s') := hr
    split at hr'
    · cases hr'
    · rename_i s1 h1
      cases hr'
      have h2 := ops_next hck ops h1
      exact h2
  | dreg ops ps lv lb =>
    intro s s' ex hr
    have hr' : (match runOpsD ck lo s.mem.next 0 ops { s with mem := s.mem.bump ops.length } with
      | none => none
      | some (st', ks) => if pairsOk ks ps then some (Ex.nrm, st'.cut lv lb) else none) = some (ex, s') := hr
    split at hr'
    · cases hr'
    · rename_i s1 ks h1
      have h5 : s.mem.next + ops.length ≤ s1.mem.next := opsD_next hck ops 0 h1
      split at hr'
      · cases hr'
        show s.mem.next ≤ s1.mem.next
        omega
      · cases hr'
  | seq x y ihx ihy =>
    intro s s' ex hr
    have hr' : (match run ck N lo x s with
      | none => none
      | some (.nrm, st') => run ck N lo y st'
      | some (.exit i, st') => some (.exit i, st')
      | some (.ret, st') => some (.ret, st')) = some (ex, s') := hr
    split at hr'
    · cases hr'
    · rename_i s1 h1
      exact Nat.le_trans (ihx h1) (ihy hr')
    · rename_i h1
      cases hr'
      exact ihx h1
    · rename_i h1
      cases hr'
      exact ihx h1
  | cond c x y ihx ihy =>
    intro s s' ex hr
    have hr' : (match getO s c with
      | some (.bool c) => cond c (run ck N lo x s) (run ck N lo y s)
      | _ => none) = some (ex, s') := hr
    split at hr'
    · rename_i b' hb'
      cases b' with
      | true => exact ihx hr'
      | false => exact ihy hr'
    · cases hr'
  | block id x ih =>
    intro s s' ex hr
    have hr' : (match run ck N lo x s with
      | none => none
      | some (.nrm, st') => some (.nrm, st')
      | some (.exit i, st') => if i = id then some (.nrm, st') else some (.exit i, st')
      | some (.ret, st') => some (.ret, st')) = some (ex, s') := hr
    split at hr'
    · cases hr'
    · rename_i h1
      cases hr'
      exact ih h1
    · rename_i j s1 h1
      split at hr'
      · cases hr'; exact ih h1
      · cases hr'; exact ih h1
    · rename_i h1
      cases hr'
      exact ih h1
  | loop lv lb x ih =>
    intro s s' ex hr
    have key : ∀ (n : Nat) {s : St}, iter (fun st => run ck N lo x (st.cut lv lb)) n s = some (ex, s') → s.mem.next ≤ s'.mem.next := by
      intro n
      induction n with
      | zero => intro s h; cases h
      | succ n ihn =>
        intro s h
        have h' : (match run ck N lo x (s.cut lv lb) with
          | none => none
          | some (.nrm, st') => iter (fun st => run ck N lo x (st.cut lv lb)) n st'
          | some (.exit i, st') => some (.exit i, st')
          | some (.ret, st') => some (.ret, st')) = some (ex, s') := h
        split at h'
        · cases h'
        · rename_i s1 h1
          have h2 := ih h1
          exact Nat.le_trans h2 (ihn h')
        · rename_i h1
          cases h'
          have h2 := ih h1
          exact h2
        · rename_i h1
          cases h'
          have h2 := ih h1
          exact h2
    exact key N hr
end

theorem pure_of_ext {ck : Callk} {pf : Nat → Bool} (h : ExtCk ck pf) : PureCk ck pf := fun f args lo m v m' hc hp => by
  obtain ⟨h1, h2, h3⟩ := h f args lo m v m' hc
  have e := h1 hp
  subst e
  exact ⟨rfl, fun hj b hb hlt => (h3 hj b hb hlt (.inr hp)).1⟩

theorem getRes_plus {s : St} {hj : Nat} {b : Blk} : ∀ rs : List Res, getRes (s.plus hj b) rs = getRes s rs
  | [] => rfl
  | r :: rs => by simp only [getRes, getRes_plus rs]; rfl

theorem call_ext (F : Nat → Option Fn) : ∀ k, ExtCk (call F k) (pfOf F)
  | 0 => fun f args lo m v m' h => by cases h
  | k + 1 => fun f args lo m v m' h => by
    have ih := call_ext F k
    rw [call_succ] at h
    cases hF : F f with
    | none => rw [hF] at h; cases h
    | some fn =>
      rw [hF] at h
      simp only at h
      split at h
      · rename_i hnp
        have hpf : pfOf F f = fn.pure := by unfold pfOf; rw [hF]
        rw [hpf]
        have fin : ∀ {ex : Ex} {st : St}, (∀ i, ex ≠ .exit i) → run (call F k) k (if fn.pure then m.next else lo) fn.body ⟨initEnv 0 args, [], [], m⟩ = some (ex, st) → (match getRes st fn.res with
            | none => none
            | some vs => if fn.pure then
                match freeze m.next st.mem 8 (resV vs) with
                | none => none
                | some v => some (v, m)
              else some (resV vs, st.mem)) = some (v, m') → (fn.pure = true → m' = m) ∧ m.next ≤ m'.next ∧ ∀ hj b, m.blk hj = none → hj < m.next → (hj < lo ∨ fn.pure = true) → call F (k + 1) f args lo (m.set hj (some b)) = some (v, m'.set hj (some b)) ∧ m'.blk hj = none := by
          intro ex st hex hrun hres
          cases hg : getRes st fn.res with
          | none => rw [hg] at hres; cases hres
          | some vs =>
            rw [hg] at hres
            simp only at hres
            have next_le : m.next ≤ st.mem.next := run_next ih fn.body hrun
            cases hp : fn.pure with
            | true =>
              rw [hp] at hres hrun
              simp only [if_true] at hres hrun
              cases hfz : freeze m.next st.mem 8 (resV vs) with
              | none => rw [hfz] at hres; cases hres
              | some v' =>
                rw [hfz] at hres
                simp only [Option.some.injEq, Prod.mk.injEq] at hres
                obtain ⟨rfl, rfl⟩ := hres
                refine ⟨fun _ => rfl, Nat.le_refl _, fun hj b hb hlt _ => ⟨?_, hb⟩⟩
                obtain ⟨h1, h2, h3⟩ := run_plus (b := b) ih fn.body (s := ⟨initEnv 0 args, [], [], m⟩) ⟨hb, hlt, hlt⟩ hrun
                rw [call_succ, hF]
                simp only
                rw [if_pos hnp, hp]
                simp only [if_true]
                have e : (m.set hj (some b)).next = m.next := rfl
                rw [e]
                have h1' : run (call F k) k m.next fn.body ⟨initEnv 0 args, [], [], m.set hj (some b)⟩ = some (ex, st.plus hj b) := h1
                rw [h1']
                have efz : freeze m.next (st.plus hj b).mem 8 (resV vs) = freeze m.next st.mem 8 (resV vs) := freeze_congr (fun q hq => by
                  show (if q = hj then some b else st.mem.blk q) = _
                  rw [if_neg (by omega)]) 8 _
                cases ex with
                | nrm => simp only [getRes_plus, hg, efz, hfz]
                | ret => simp only [getRes_plus, hg, efz, hfz]
                | exit i => exact absurd rfl (hex i)
            | false =>
              rw [hp] at hres hrun
              simp only [Bool.false_eq_true, if_false, Option.some.injEq, Prod.mk.injEq] at hres hrun
              obtain ⟨rfl, rfl⟩ := hres
              refine ⟨(fun e => by cases e), next_le, fun hj b hb hlt hlo => ?_⟩
              have hlo' : hj < lo := by
                rcases hlo with h | h
                · exact h
                · cases h
              obtain ⟨h1, h2, h3⟩ := run_plus (b := b) ih fn.body (s := ⟨initEnv 0 args, [], [], m⟩) ⟨hb, hlo', hlt⟩ hrun
              refine ⟨?_, h2.blk⟩
              rw [call_succ, hF]
              simp only
              rw [if_pos hnp, hp]
              simp only [Bool.false_eq_true, if_false]
              have h1' : run (call F k) k lo fn.body ⟨initEnv 0 args, [], [], m.set hj (some b)⟩ = some (ex, st.plus hj b) := h1
              rw [h1']
              cases ex with
              | nrm => simp only [getRes_plus, hg]; rfl
              | ret => simp only [getRes_plus, hg]; rfl
              | exit i => exact absurd rfl (hex i)
        split at h
        · cases h
        · cases h
        · rename_i ex st hno hrun
          refine fin (fun i e => ?_) hrun h
          subst e
          exact hno i rfl
      · cases h
end Go.Am

/- The abstract machine's calls are the model's. -/
namespace Go.Am
open Go

def okRes (P : Program) : List Res → List ResultVar → Bool
  | [], [] => true
  | .t i :: rs, .tmp t :: ts => Nat.beq i t && okRes P rs ts
  | .c i agg sz :: rs, .cell a T :: ts => Nat.beq i a && (decide (aggOf P T = some agg) && (!agg || decide (szOf P T = some sz))) && okRes P rs ts
  | _, _ => false

def resOne (tmps : Array Value) : ResultVar → Sem Value
  | .tmp t => pure (tmps.getD t undef)
  | .cell a t => do loadVar t (← asAddr (tmps.getD a undef))

theorem results_list (fn : Func) (tmps : Array Value) : results fn tmps = (do
    let vs ← fn.results.toList.mapM (resOne tmps)
    pure (if h : vs.toArray.size = 1 then vs.toArray[0] else .tuple vs.toArray)) := by
  unfold results
  have e : (fun r : ResultVar => (match r with
      | .tmp t => pure (tmps.getD t undef)
      | .cell a t => do loadVar t (← asAddr (tmps.getD a undef)) : Sem Value)) = resOne tmps := by
    funext r
    cases r <;> rfl
  rw [Array.mapM_eq_mapM_toList, bind_map_left]
  congr 1

section
variable {P : Program} {fr : Fr} {g : Gh} {st : St} {a : Act} {w : World}

theorem getR_sound (s : Sim fr g st a w) {r : Res} {t : ResultVar} {v : V} (hok : okRes P [r] [t] = true) (h : getR st r = some v) : ∃ x, (resOne a.tmps t).run P w = .ok x w ∧ Img g w v x := by
  cases r with
  | t i =>
    cases t with
    | tmp t =>
      simp only [okRes, Bool.and_true] at hok
      have e := Nat.eq_of_beq_eq_true hok
      subst e
      obtain ⟨_, _, x, h1, h2⟩ := s.env i v h
      refine ⟨x, ?_, h2⟩
      simp [resOne, Array.getD_eq_getD_getElem?, h1]
    | cell _ _ => simp [okRes] at hok
  | c i agg sz =>
    cases t with
    | tmp t => simp [okRes] at hok
    | cell c T =>
      simp only [okRes, Bool.and_true, Bool.and_eq_true, decide_eq_true_eq, Bool.or_eq_true, Bool.not_eq_true'] at hok
      obtain ⟨h1, h2, h3⟩ := hok
      have e := Nat.eq_of_beq_eq_true h1
      subst e
      simp only [getR] at h
      split at h
      · rename_i el hel
        obtain ⟨_, b, ht, hbox⟩ := s.bx i el hel
        obtain ⟨cs, T0, hb, _, hc⟩ := hbox.cells
        have hE : ElemAt g w b 0 el := fun j c hj => by
          obtain ⟨y, p1, p2, p3⟩ := hc j c hj
          exact ⟨y, by rw [cell_of_row w b _ cs T0 (0, 0) hb, Nat.zero_add]; exact p1, p2, p3⟩
        have hs : agg = true → szOf P T = some sz := fun e => by
          rcases h3 with h | h
          · rw [e] at h; cases h
          · exact h
        obtain ⟨y, e3, e4⟩ := load_elem (P := P) hE h2 hs h
        rw [Nat.zero_add] at e3
        refine ⟨y, ?_, e4⟩
        simp [resOne, Array.getD_eq_getD_getElem?, ht, asAddr, e3]
      · cases h

theorem getRes_sound (s : Sim fr g st a w) : ∀ {rs : List Res} {ts : List ResultVar} {vs : List V}, okRes P rs ts = true → getRes st rs = some vs →
    ∃ xs : List Value, (ts.mapM (resOne a.tmps)).run P w = .ok xs w ∧ vs.length = xs.length ∧ ∀ (i : Nat) (c : V) (x : Value), vs[i]? = some c → xs[i]? = some x → Img g w c x
  | [], [], vs, _, h => by
    cases h
    exact ⟨[], by simp, rfl, fun i c x h => by simp at h⟩
  | r :: rs, t :: ts, vs, hok, h => by
    have hok1 : okRes P [r] [t] = true ∧ okRes P rs ts = true := by
      cases r <;> cases t <;> simp only [okRes, Bool.and_true, Bool.and_eq_true] at hok ⊢
      · exact hok
      · cases hok
      · cases hok
      · exact hok
    simp only [getRes] at h
    split at h
    · cases h
    · rename_i v hv
      split at h
      · cases h
      · rename_i us hu
        cases h
        obtain ⟨x, h1, h2⟩ := getR_sound s hok1.1 hv
        obtain ⟨xs, h3, h4, h5⟩ := getRes_sound s hok1.2 hu
        refine ⟨x :: xs, by simp [List.mapM_cons, h1, h3], by simp [h4], fun i c y hc hy => ?_⟩
        cases i with
        | zero => simp at hc hy; subst hc hy; exact h2
        | succ i => exact h5 i c y (by simpa using hc) (by simpa using hy)
  | [], _ :: _, _, h, _ => by cases h
  | r :: rs, [], _, h, _ => by cases r <;> cases h

theorem res_sound (s : Sim fr g st a w) {fn : Func} {rs : List Res} {vs : List V} (hok : okRes P rs fn.results.toList = true) (h : getRes st rs = some vs) :
    ∃ x, (results fn a.tmps).run P w = .ok x w ∧ Img g w (resV vs) x := by
  obtain ⟨xs, h1, h2, h3⟩ := getRes_sound s hok h
  match vs, xs, h2 with
  | [], [], _ => exact ⟨.tuple #[], by rw [results_list]; simp [h1], .tup [] [] rfl (fun i c v h => by simp at h)⟩
  | [v], [x], _ => exact ⟨x, by rw [results_list]; simp [h1], h3 0 v x rfl rfl⟩
  | v :: v' :: vs, x :: x' :: xs, h2 =>
    exact ⟨.tuple (x :: x' :: xs).toArray, by rw [results_list]; simp [h1], .tup _ _ h2 h3⟩
end

noncomputable def okFn (P : Program) (pf : Nat → Bool) (fn : Fn) (f : Nat) : Bool :=
  callable P f && (match P.funcs[f]? with
  | none => false
  | some gf => match gf.body with
    | none => false
    | some code => Nat.ble fn.np gf.ntmps && Nat.beq (Nat.land fn.am fn.bm) 0 && Nat.beq (fn.am % 2 ^ fn.np) 0 && Nat.beq (fn.bm % 2 ^ fn.np) 0 && okRes P fn.res gf.results.toList && okCode P fn.am fn.bm gf.ntmps fn.pure pf fn.body code)

theorem initEnv_get : ∀ (vs : List V) (i : Nat) {t : Nat} {v : V}, (initEnv i vs).get t = some v → i ≤ t ∧ vs[t - i]? = some v
  | [], i, t, v, h => by cases h
  | u :: vs, i, t, v, h => by
    have h' : Env.get ((i, u) :: initEnv (i + 1) vs) t = some v := h
    rw [Env.get_cons] at h'
    split at h'
    · rename_i e; subst e; cases h'; exact ⟨Nat.le_refl _, by simp⟩
    · rename_i e
      obtain ⟨h1, h2⟩ := initEnv_get vs (i + 1) h'
      refine ⟨by omega, ?_⟩
      have : t - i = t - (i + 1) + 1 := by omega
      rw [this]
      simpa using h2

theorem low_zero {m np t : Nat} (h : m % 2 ^ np = 0) (ht : t < np) : m.testBit t = false := by
  have := Nat.testBit_mod_two_pow m np t
  rw [h] at this
  simpa [ht] using this.symm

theorem call_callable {P : Program} {F : Nat → Option Fn} (hF : ∀ f fn, F f = some fn → okFn P (pfOf F) fn (src f) = true) : ∀ k, ∀ f args lo m r, call F k f args lo m = some r → callable P (src f) = true
  | 0, f, args, lo, m, r, h => by cases h
  | k + 1, f, args, lo, m, r, h => by
    rw [call_succ] at h
    cases hf : F f with
    | none => rw [hf] at h; cases h
    | some fn =>
      have := hF f fn hf
      unfold okFn at this
      rw [Bool.and_eq_true] at this
      exact this.1

theorem call_sound {P : Program} {F : Nat → Option Fn} (hm : P.follows .mixedOrders = true) (hF : ∀ f fn, F f = some fn → okFn P (pfOf F) fn (src f) = true) : ∀ k, CkOk P src (call F k)
  | 0 => fun f args lo mem v mem' h => by cases h
  | k + 1 => fun f args lo m v m' h g w xs hmem hfresh hlen hargs hlo => by
    have ih := call_sound hm hF k
    have hcd := call_callable hF k
    have hpc := pure_of_ext (call_ext F k)
    rw [call_succ] at h
    cases hf : F f with
    | none => rw [hf] at h; cases h
    | some fn =>
      rw [hf] at h
      simp only at h
      split at h
      · rename_i hnp
        have hok := hF f fn hf
        unfold okFn at hok
        rw [Bool.and_eq_true] at hok
        obtain ⟨_, hok⟩ := hok
        split at hok
        · cases hok
        · rename_i gf hgf
          split at hok
          · cases hok
          · rename_i code hcode
            simp only [Bool.and_eq_true, Nat.ble_eq] at hok
            obtain ⟨⟨⟨⟨⟨k1, k2⟩, k3⟩, k4⟩, k5⟩, k6⟩ := hok
            have k2 := Nat.eq_of_beq_eq_true k2
            have k3 := Nat.eq_of_beq_eq_true k3
            have k4 := Nat.eq_of_beq_eq_true k4
            have hdisj : ∀ t, t ∈ bits fn.am gf.ntmps → t ∉ bits fn.bm gf.ntmps := by
              intro t h1 h2
              rw [mem_bits] at h1 h2
              have := Nat.testBit_and fn.am fn.bm t
              rw [show fn.am &&& fn.bm = 0 from k2, h1.2, h2.2] at this
              simp at this
            let fr : Fr := { n0 := w.heap.size, S0 := fun b => fn.pure = false ∧ ∃ h B l, lo ≤ h ∧ m.blk h = some B ∧ g.φ h = some l ∧ l.b = b, w0 := w, lo := if fn.pure then m.next else lo, AS := bits fn.am gf.ntmps, BS := bits fn.bm gf.ntmps, nt := gf.ntmps, disj := hdisj }
            have hxs : xs.length = fn.np := by omega
            have htm : ∀ (t : Nat) (x : Value), xs[t]? = some x → (xs.toArray ++ Array.replicate (gf.ntmps - xs.toArray.size) undef)[t]? = some x := by
              intro t x hx
              have hlt : t < xs.length := by
                rcases Nat.lt_or_ge t xs.length with h | h
                · exact h
                · rw [List.getElem?_eq_none h] at hx; cases hx
              rw [Array.getElem?_append_left (by simpa using hlt)]
              simpa using hx
            have hsim : Sim fr g ⟨initEnv 0 args, [], [], m⟩ { tmps := xs.toArray ++ Array.replicate (gf.ntmps - xs.toArray.size) undef, defers := [] } w := by
              refine ⟨hmem, fun t u hu => ?_, (fun t e he => by cases he), (fun t t' e e' b _ he => by cases he), (fun t u hu => by cases hu), (by simp [fr]; omega), rfl, ⟨rfl, rfl, rfl, Nat.le_refl _, fun _ _ _ => rfl⟩, fun h' B l hl hB hφ => ?_⟩
              · obtain ⟨_, h1⟩ := initEnv_get args 0 hu
                rw [Nat.sub_zero] at h1
                have hlt : t < args.length := by
                  rcases Nat.lt_or_ge t args.length with h | h
                  · exact h
                  · rw [List.getElem?_eq_none h] at h1; cases h1
                have hx : xs[t]? = some (xs[t]'(by omega)) := List.getElem?_eq_getElem _
                refine ⟨fun hA => ?_, fun hB => ?_, _, htm t _ hx, hargs t u _ h1 hx⟩
                · have := (mem_bits.1 hA).2
                  rw [low_zero k3 (by omega)] at this
                  cases this
                · have := (mem_bits.1 hB).2
                  rw [low_zero k4 (by omega)] at this
                  cases this
              · cases hp : fn.pure with
                | true =>
                  have : m.next ≤ h' := by simpa [fr, hp] using hl
                  rw [(hfresh h' this).1] at hB
                  cases hB
                | false =>
                  have : lo ≤ h' := by simpa [fr, hp] using hl
                  exact .inr ⟨hp, h', B, l, this, hB, hφ, rfl⟩
            have hinv : Inv fr g m g ⟨initEnv 0 args, [], [], m⟩ { tmps := xs.toArray ++ Array.replicate (gf.ntmps - xs.toArray.size) undef, defers := [] } w := by
              refine ⟨hsim, hfresh, ?_, .refl g, Nat.le_refl _, fun _ _ h => h, fun _ _ h => h, fun _ h => .inl h⟩
              show (if fn.pure then m.next else lo) ≤ m.next
              split
              · exact Nat.le_refl _
              · exact hlo
            have hS0 : fn.pure = true → ∀ b, ¬ fr.S0 b := fun hp b hb => by
              have := hb.1
              rw [hp] at this
              cases this
            refine calls_of_wp hgf hcode ?_
            have fin : ∀ {ex : Ex} {st : St}, (∀ i, ex ≠ .exit i) → run (call F k) k (if fn.pure then m.next else lo) fn.body ⟨initEnv 0 args, [], [], m⟩ = some (ex, st) → (match getRes st fn.res with
                | none => none
                | some vs => if fn.pure then
                    match freeze m.next st.mem 8 (resV vs) with
                    | none => none
                    | some v => some (v, m)
                  else some (resV vs, st.mem)) = some (v, m') → code.wp P (bodyPost P gf fun e w' => ∃ x g', e = .returned x ∧ Img g' w' v x ∧ Gh.le g g' ∧ MemOk g' m' w' ∧ FreshFrom g' m' m'.next ∧ m.next ≤ m'.next ∧
                    (∀ h, h < m.next → m.blk h = none → m'.blk h = none) ∧ (∀ h, h < m.next → g.φ h = none → g'.φ h = none) ∧
                    (∀ b, g'.I b → g.I b ∨ w.heap.size ≤ b) ∧
                    Keep w.heap.size (fun b => ∃ h B l, lo ≤ h ∧ m.blk h = some B ∧ g.φ h = some l ∧ l.b = b) w w' ∧
                    (∀ h B l, lo ≤ h → m'.blk h = some B → g'.φ h = some l → w.heap.size ≤ l.b ∨ ∃ h B l', lo ≤ h ∧ m.blk h = some B ∧ g.φ h = some l' ∧ l'.b = l.b))
                  { tmps := xs.toArray ++ Array.replicate (gf.ntmps - xs.toArray.size) undef, defers := [] } w := by
              intro ex st hex hrun hres
              refine run_sound (fr := fr) hm ih hcd hpc rfl rfl rfl hS0 fn.body code k6 hinv hrun (fun g' a' w' i' => ?_)
              suffices hsuff : a'.defers = [] ∧ ∃ v_1, (results gf a'.tmps).run P w' = .ok v_1 w' ∧ (fun e w' => ∃ x g', e = Ending.returned x ∧ Img g' w' v x ∧ Gh.le g g' ∧ MemOk g' m' w' ∧ FreshFrom g' m' m'.next ∧ m.next ≤ m'.next ∧
                    (∀ h, h < m.next → m.blk h = none → m'.blk h = none) ∧ (∀ h, h < m.next → g.φ h = none → g'.φ h = none) ∧
                    (∀ b, g'.I b → g.I b ∨ w.heap.size ≤ b) ∧
                    Keep w.heap.size (fun b => ∃ h B l, lo ≤ h ∧ m.blk h = some B ∧ g.φ h = some l ∧ l.b = b) w w' ∧
                    (∀ h B l, lo ≤ h → m'.blk h = some B → g'.φ h = some l → w.heap.size ≤ l.b ∨ ∃ h B l', lo ≤ h ∧ m.blk h = some B ∧ g.φ h = some l' ∧ l'.b = l.b)) (.returned v_1) w' by
                cases ex with
                | nrm => exact hsuff
                | ret => exact hsuff
                | exit i => exact absurd rfl (hex i)
              cases hg : getRes st fn.res with
              | none => rw [hg] at hres; cases hres
              | some vs =>
                rw [hg] at hres
                simp only at hres
                obtain ⟨x, hx1, hx2⟩ := res_sound i'.sim k5 hg
                refine ⟨i'.sim.defers, x, hx1, ?_⟩
                cases hp : fn.pure with
                | true =>
                  rw [hp] at hres
                  simp only [if_true] at hres
                  cases hfz : freeze m.next st.mem 8 (resV vs) with
                  | none => rw [hfz] at hres; cases hres
                  | some v' =>
                    rw [hfz] at hres
                    simp only [Option.some.injEq, Prod.mk.injEq] at hres
                    obtain ⟨rfl, rfl⟩ := hres
                    have hlo' : fr.lo = m.next := by simp [fr, hp]
                    have hnew : ∀ b, frI m.next g' st.mem b → g.I b ∨ w.heap.size ≤ b := by
                      rintro b (hb | ⟨h', B, l, h1, h2, h3, rfl⟩)
                      · exact i'.I b hb
                      · rcases i'.sim.own h' B l (by rw [hlo']; exact h1) h2 h3 with h4 | h4
                        · exact .inr h4
                        · exact absurd h4 (hS0 hp _)
                    have hle : Gh.le g ⟨g.φ, frI m.next g' st.mem⟩ := ⟨fun _ _ h => h, fun b hb => .inl (i'.le.I b hb)⟩
                    have hkeep : ∀ b, b < w.heap.size → w'.heap[b]? = w.heap[b]? := fun b hb => i'.sim.keep.block b hb (hS0 hp b)
                    have hsame : Same g.I w w' := fun b hb => hkeep b (hmem.lt b hb)
                    refine ⟨x, ⟨g.φ, frI m.next g' st.mem⟩, rfl, .pure (freeze_sound i'.sim.mem 8 _ _ x hfz hx2), hle, ⟨fun h' B hB => ?_, fun h1 h2 b b' l l' hne hb hb' hl hl' => hmem.inj h1 h2 b b' l l' hne hb hb' hl hl', (i'.sim.mem.frozen m.next).1.lt⟩, hfresh, Nat.le_refl _, fun _ _ h => h, fun _ _ h => h, hnew, ⟨i'.sim.keep.os, i'.sim.keep.tape, i'.sim.keep.output, i'.sim.keep.size, fun b hb _ => hkeep b hb⟩, fun h' B l h1 h2 h3 => .inr ⟨h', B, l, h1, h2, h3, rfl⟩⟩
                    obtain ⟨l, h1, h2, h3, h4⟩ := hmem.blk h' B hB
                    refine ⟨l, h1, h2.mono hle hsame (hkeep _ h4), fun hI => ?_, Nat.lt_of_lt_of_le h4 i'.sim.keep.size⟩
                    rcases hnew _ hI with h5 | h5
                    · exact h3 h5
                    · omega
                | false =>
                  rw [hp] at hres
                  simp only [Bool.false_eq_true, if_false, Option.some.injEq, Prod.mk.injEq] at hres
                  obtain ⟨rfl, rfl⟩ := hres
                  have hlo' : fr.lo = lo := by simp [fr, hp]
                  refine ⟨x, g', rfl, hx2, i'.le, i'.sim.mem, i'.fresh, i'.next, i'.blk, i'.φ, i'.I, ⟨i'.sim.keep.os, i'.sim.keep.tape, i'.sim.keep.output, i'.sim.keep.size, fun b hb hn => i'.sim.keep.block b hb (fun h => hn h.2)⟩, fun h' B l h1 h2 h3 => ?_⟩
                  rcases i'.sim.own h' B l (by rw [hlo']; exact h1) h2 h3 with h4 | h4
                  · exact .inl h4
                  · exact .inr h4.2
            split at h
            · cases h
            · cases h
            · rename_i ex st hno hrun
              refine fin (fun i e => ?_) hrun h
              subst e
              exact hno i rfl
      · cases h
end Go.Am

/- A table of functions, as a tree. -/
namespace Go.Am
inductive Tr where
  | nil
  | leaf (k : Nat) (c : Fn)
  | node (n : Nat) (l r : Tr)
noncomputable def Tr.get (t : Tr) (f : Nat) : Option Fn := Tr.rec none (fun k c => cond (Nat.beq f k) (some c) none) (fun n _ _ l r => cond (Nat.blt f n) l r) t
def Tr.All (p : Nat → Fn → Prop) : Tr → Prop
  | .nil => True
  | .leaf k c => p k c
  | .node _ l r => l.All p ∧ r.All p
theorem Tr.get_all {p : Nat → Fn → Prop} : ∀ (t : Tr), t.All p → ∀ f c, t.get f = some c → p f c
  | .nil, _, f, c, h => by cases h
  | .leaf k c', hp, f, c, h => by
    have h' : cond (Nat.beq f k) (some c') none = some c := h
    cases hb : Nat.beq f k with
    | false => rw [hb] at h'; cases h'
    | true =>
      rw [hb] at h'
      cases h'
      rw [Nat.eq_of_beq_eq_true hb]
      exact hp
  | .node n l r, hp, f, c, h => by
    have h' : cond (Nat.blt f n) (l.get f) (r.get f) = some c := h
    cases hb : Nat.blt f n with
    | false => rw [hb] at h'; exact Tr.get_all r hp.2 f c h'
    | true => rw [hb] at h'; exact Tr.get_all l hp.1 f c h'
end Go.Am
