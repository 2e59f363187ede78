/- A part of the proof: The law ExploreChecks holds: any state of any system has the specified error, and a step of an invalid one returns it; no conditions. -/
import Derived.Test.YtflfnkdhmcfjlaaN11c
import Derived.Laws.Sem
namespace Go.Am
open Go
theorem eff_mono {lo h : Nat} {blk blk2 : Nat → Option Blk} {bg : Nat → Option V} {d : D} {p : Plan} {r : V × Wr × Bs} (hb : ∀ k b, blk k = some b → blk2 k = some b) (he : eff lo h blk bg d p = some r) : eff lo h blk2 bg d p = some r := by
  have hv : ∀ {x : V} {q}, viewF blk x = some q → viewF blk2 x = some q := by
    intro x q hq
    cases x <;> first
      | exact hq
      | (rename_i s h' o l
         simp only [viewF] at hq ⊢
         cases hk : blk h' with
         | none => rw [hk] at hq; cases hq
         | some b => rw [hk] at hq; rw [hb h' b hk]; exact hq)
  cases p with
  | rd h' f =>
    simp only [eff] at he ⊢
    cases hk : blk h' with
    | none => rw [hk] at he; split at he <;> cases he
    | some b => rw [hk] at he; rw [hb h' b hk]; exact he
  | wr h' f v =>
    simp only [eff] at he ⊢
    cases hk : blk h' with
    | none =>
      rw [hk] at he
      split at he
      · cases he
      · split at he <;> cases he
    | some b => rw [hk] at he; rw [hb h' b hk]; exact he
  | app d' sz x =>
    simp only [eff] at he ⊢
    cases hk : viewF blk x with
    | none => rw [hk] at he; split at he <;> cases he
    | some q =>
      rw [hk] at he
      rw [hv hk]
      obtain ⟨s, xs⟩ := q
      cases d' with
      | none => cases xs <;> exact he
      | some q' =>
        obtain ⟨h', o, l⟩ := q'
        simp only at he ⊢
        cases hk2 : blk h' with
        | none =>
          rw [hk2] at he
          split at he
          · cases he
          · split at he <;> cases he
        | some b => rw [hk2] at he; rw [hb h' b hk2]; exact he
  | cpy sz h' o l x =>
    simp only [eff] at he ⊢
    cases hk : viewF blk x with
    | none => rw [hk] at he; split at he <;> cases he
    | some q =>
      rw [hk] at he
      rw [hv hk]
      obtain ⟨s, xs⟩ := q
      simp only at he ⊢
      cases hk2 : blk h' with
      | none =>
        rw [hk2] at he
        split at he
        · cases he
        · split at he <;> cases he
      | some b => rw [hk2] at he; rw [hb h' b hk2]; exact he
  | _ => exact he
theorem mapO_congr {α β : Type} {f f' : α → Option β} (h : ∀ x, f x = f' x) : ∀ l : List α, mapO f l = mapO f' l
 | [] => rfl
 | x :: l => by simp only [mapO, h x, mapO_congr h l]
theorem freeze_congr {lo : Nat} {m m2 : Mem} (h : ∀ k, lo ≤ k → m.blk k = m2.blk k) : ∀ (n : Nat) (v : V), freeze lo m n v = freeze lo m2 n v
 | 0, v => rfl
 | n + 1, v => by
  have ih := freeze_congr h n
  cases v with
  | lst p sz xs => cases p <;> simp only [freeze, mapO_congr ih]
  | agg cs => simp only [freeze, mapO_congr ih]
  | tup cs => simp only [freeze, mapO_congr ih]
  | row s h' o l =>
   by_cases hl : lo ≤ h'
   ·simp only [freeze, h h' hl, mapO_congr ih]
   ·have key : ∀ m : Mem, freeze lo m (n + 1) (.row s h' o l) = none := by
     intro m
     simp only [freeze]
     split
     ·rw [if_neg (fun e => hl e.1)]
     ·rfl
    rw [key, key]
  | _ => rfl
noncomputable def St.plus (s : St) (h : Nat) (b : Blk) : St := { s with mem := s.mem.set h (some b) }
def ExtCk (ck : Callk) (pf : Nat → Bool) : Prop :=
 ∀ f args lo m v m', ck f args lo m = some (v, m') → (pf f = true → m' = m) ∧ m.next ≤ m'.next ∧ ∀ hj b, m.blk hj = none → hj < m.next → (hj < lo ∨ pf f = true) → ck f args lo (m.set hj (some b)) = some (v, m'.set hj (some b)) ∧ m'.blk hj = none
noncomputable def blockedB (p : Plan) (d : D) (ad : Env) : Bool := p.isBx && (match d with | .x t => hasLoc t ad | _ => false)
theorem act_eff' {ck : Callk} {lo h : Nat} {st : St} {d : D} {p : Plan} (hc : p.isCall = false) (hf : p.isFrz = false) :
  act ck lo h st d p = if blockedB p d st.ad then none else (eff lo h st.mem.blk st.bx.get d p).map (st.app d) := act_eff hc hf
section
variable {ck : Callk} {pf : Nat → Bool} {lo hj : Nat} {b : Blk}
theorem app_plus {s : St} {d : D} {r : V × Wr × Bs} (h : ∀ c, (hj, c) ∉ r.2.1) : (s.plus hj b).app d r = (s.app d r).plus hj b := by
 have hm : (s.mem.set hj (some b)).wr r.2.1 = (s.mem.wr r.2.1).set hj (some b) := by
  have := Mem.wr_comm (ws := [(hj, some b)]) (ws' := r.2.1) (m := s.mem) (fun k c c' hk => by simp at hk; rw [hk.1]; exact h c')
  exact this
 cases d <;> simp only [St.app, St.push, St.plus, hm]
theorem act_plus (hck : ExtCk ck pf) {h : Nat} {s s' : St} {d : D} {p : Plan} (hb : s.mem.blk hj = none) (hlo : hj < lo) (hlt : hj < s.mem.next) (hne : hj ≠ h) (ha : act ck lo h s d p = some s') :
  act ck lo h (s.plus hj b) d p = some (s'.plus hj b) ∧ s'.mem.blk hj = none ∧ s.mem.next ≤ s'.mem.next := by
 cases hc : p.isCall with
 | true =>
  cases p <;> first | (cases hc; done) | skip
  rename_i f args
  simp only [act] at ha ⊢
  split at ha
  ·cases ha
  ·rename_i v m hk
   obtain ⟨_, h2, h3⟩ := hck f args lo s.mem v m hk
   obtain ⟨h4, h5⟩ := h3 hj b hb hlt (.inl hlo)
   have e : (s.plus hj b).mem = s.mem.set hj (some b) := rfl
   rw [e, h4]
   simp only
   rw [put_push] at ha ⊢
   cases hx : d.isX with
   | true => rw [hx] at ha; cases ha
   | false =>
    rw [hx] at ha
    simp only [Bool.false_eq_true, if_false, Option.some.injEq] at ha ⊢
    subst ha
    refine ⟨?_, ?_, ?_⟩
    ·cases d <;> rfl
    ·cases d <;> exact h5
    ·cases d <;> exact h2
 | false =>
  cases hf : p.isFrz with
  | true =>
   cases p <;> first | (cases hf; done) | skip
   rename_i t sz
   simp only [act] at ha ⊢
   split at ha
   ·rename_i cs hcs
    have e0 : (s.plus hj b).bx.get t = some (.agg cs) := hcs
    rw [e0]
    simp only
    split at ha
    ·rename_i hsz
     rw [if_pos hsz]
     have e : freeze lo (s.plus hj b).mem 8 (.agg cs) = freeze lo s.mem 8 (.agg cs) := freeze_congr (fun k hk => by
      show (if k = hj then some b else s.mem.blk k) = _
      rw [if_neg (by omega)]) 8 _
     rw [e]
     split at ha
     ·cases ha
     ·rename_i v hv
      have ek : (s.plus hj b).mem.kill lo = (s.mem.kill lo).set hj (some b) := Mem.ext' (fun k => by
       show (if lo ≤ k then none else if k = hj then some b else s.mem.blk k) = if k = hj then some b else if lo ≤ k then none else s.mem.blk k
       by_cases e1 : k = hj
       ·subst e1; rw [if_neg (by omega), if_pos rfl, if_pos rfl]
       ·rw [if_neg e1, if_neg e1]) rfl
      have hbk : (s.mem.kill lo).blk hj = none := by show (if lo ≤ hj then none else s.mem.blk hj) = none; rw [if_neg (by omega)]; exact hb
      simp only [ek]
      cases d <;> first
       | (cases ha; exact ⟨rfl, hbk, Nat.le_refl _⟩)
       | cases ha
    ·cases ha
   ·cases ha
  | false =>
   rw [act_eff' hc hf] at ha ⊢
   have had : (s.plus hj b).ad = s.ad := rfl
   rw [had]
   generalize blockedB p d s.ad = cnd at ha ⊢
   cases cnd with
   | true => cases ha
   | false =>
    simp only [Bool.false_eq_true, if_false] at ha ⊢
    simp only [Option.map_eq_some_iff] at ha
    obtain ⟨r, hr, rfl⟩ := ha
    have hw : ∀ c, (hj, c) ∉ r.2.1 := by
     intro c hcin
     have := eff_writes_own hr hj c hcin
     rcases this with e | e
     ·exact hne e
     ·rw [hb] at e; cases e
    have hr2 : eff lo h (s.plus hj b).mem.blk (s.plus hj b).bx.get d p = some r := eff_mono (fun k c hk => by
     show (if k = hj then some b else s.mem.blk k) = some c
     rw [if_neg (fun e => by rw [e, hb] at hk; cases hk)]
     exact hk) hr
    rw [hr2]
    refine ⟨by rw [Option.map_some, app_plus hw], by rw [app_mem, Mem.wr_out hw]; exact hb, by rw [next_app]; exact Nat.le_refl _⟩
structure Plus (lo hj : Nat) (s : St) : Prop where
 blk : s.mem.blk hj = none
 lt : hj < lo
 lo : hj < s.mem.next
theorem pre_plus {s : St} {o : Op} : pre (s.plus hj b) o = pre s o := pre_agree (fun _ _ => ⟨rfl, rfl, rfl⟩)
theorem step_plus (hck : ExtCk ck pf) {h : Nat} {s s' : St} {o : Op} (hp : Plus lo hj s) (hh : s.mem.next ≤ h) (hs : step ck lo h s o = some s') :
  step ck lo h (s.plus hj b) o = some (s'.plus hj b) ∧ Plus lo hj s' ∧ s.mem.next ≤ s'.mem.next := by
 have hlt := hp.lt
 have hlo := hp.lo
 rw [step_pre] at hs ⊢
 rw [pre_plus]
 cases hq : pre s o with
 | none => rw [hq] at hs; cases hs
 | some q =>
  rw [hq] at hs
  cases q with
  | none =>
   simp only at hs ⊢
   cases hd : o.d <;> rw [hd] at hs <;> first
    | (cases hs; exact ⟨rfl, ⟨hp.blk, hlt, hlo⟩, Nat.le_refl _⟩)
    | cases hs
  | some p =>
   simp only at hs ⊢
   obtain ⟨h1, h2, h3⟩ := act_plus (b := b) hck hp.blk hlt (by omega) (by omega) hs
   exact ⟨h1, ⟨h2, hlt, Nat.lt_of_lt_of_le hlo h3⟩, h3⟩
theorem ops_plus (hck : ExtCk ck pf) : ∀ (ps : List Op) {s s' : St}, Plus lo hj s → runOps ck lo ps s = some s' → runOps ck lo ps (s.plus hj b) = some (s'.plus hj b) ∧ Plus lo hj s' ∧ s.mem.next ≤ s'.mem.next
 | [], s, s', hp, hr => by cases hr; exact ⟨rfl, hp, Nat.le_refl _⟩
 | o :: ps, s, s', hp, hr => by
  rw [runOps_cons] at hr ⊢
  split at hr
  ·cases hr
  ·rename_i s1 h1
   obtain ⟨h2, h3, h4⟩ := step_plus (b := b) hck hp (Nat.le_refl _) h1
   have e : (s.plus hj b).mem.next = s.mem.next := rfl
   rw [e, h2]
   simp only
   cases hal : o.k.allocs with
   | false =>
    rw [hal] at hr
    simp only [cond_false] at hr ⊢
    obtain ⟨h5, h6, h7⟩ := ops_plus hck ps h3 hr
    exact ⟨h5, h6, Nat.le_trans h4 h7⟩
   | true =>
    rw [hal] at hr
    simp only [cond_true] at hr ⊢
    obtain ⟨h5, h6, h7⟩ := ops_plus hck ps (s := { s1 with mem := s1.mem.bump 1 }) ⟨h3.blk, h3.lt, Nat.lt_of_lt_of_le h3.lo (Nat.le_add_right _ _)⟩ hr
    have h8 : s1.mem.next + 1 ≤ s'.mem.next := h7
    exact ⟨h5, h6, by omega⟩
theorem keysOf_plus {h : Nat} {s : St} {o : Op} : keysOf h (s.plus hj b) o = keysOf h s o := keysOf_agree (fun _ _ => ⟨rfl, rfl, rfl⟩)
theorem opsD_plus (hck : ExtCk ck pf) {base : Nat} : ∀ (ps : List Op) (i : Nat) {s s' : St} {ks : List (List Key)}, Plus lo hj s → hj < base → runOpsD ck lo base i ps s = some (s', ks) → runOpsD ck lo base i ps (s.plus hj b) = some (s'.plus hj b, ks) ∧ Plus lo hj s' ∧ s.mem.next ≤ s'.mem.next
 | [], i, s, s', ks, hp, _, hr => by cases hr; exact ⟨rfl, hp, Nat.le_refl _⟩
 | o :: ps, i, s, s', ks, hp, hb, hr => by
  simp only [runOpsD] at hr ⊢
  split at hr
  ·cases hr
  ·rename_i s1 h1
   split at hr
   ·cases hr
   ·rename_i s2 ks' h2
    cases hr
    have hlt := hp.lt
    have hlo := hp.lo
    have h3 : step ck lo (base + i) (s.plus hj b) o = some (s1.plus hj b) ∧ Plus lo hj s1 ∧ s.mem.next ≤ s1.mem.next := by
     rw [step_pre] at h1 ⊢
     rw [pre_plus]
     cases hq : pre s o with
     | none => rw [hq] at h1; cases h1
     | some q =>
      rw [hq] at h1
      cases q with
      | none =>
       simp only at h1 ⊢
       cases hd : o.d <;> rw [hd] at h1 <;> first
        | (cases h1; exact ⟨rfl, ⟨hp.blk, hlt, hlo⟩, Nat.le_refl _⟩)
        | cases h1
      | some p =>
       simp only at h1 ⊢
       obtain ⟨q1, q2, q3⟩ := act_plus (b := b) hck hp.blk hlt (by omega) (by omega) h1
       exact ⟨q1, ⟨q2, hlt, Nat.lt_of_lt_of_le hlo q3⟩, q3⟩
    obtain ⟨h4, h5, h6⟩ := h3
    obtain ⟨h7, h8, h9⟩ := opsD_plus hck ps (i + 1) h5 hb h2
    rw [h4]
    simp only
    rw [h7]
    simp only [keysOf_plus]
    exact ⟨trivial, h8, Nat.le_trans h6 h9⟩
theorem run_plus (hck : ExtCk ck pf) {N : Nat} : ∀ (c : AC) {s s' : St} {ex : Ex}, Plus lo hj s → run ck N lo c s = some (ex, s') → run ck N lo c (s.plus hj b) = some (ex, s'.plus hj b) ∧ Plus lo hj s' ∧ s.mem.next ≤ s'.mem.next := by
 intro c
 induction c with
 | skip => intro s s' ex hp hr; cases hr; exact ⟨rfl, hp, Nat.le_refl _⟩
 | dead => intro s s' ex hp hr; cases hr
 | exit j => intro s s' ex hp hr; cases hr; exact ⟨rfl, hp, Nat.le_refl _⟩
 | ret => intro s s' ex hp hr; cases hr; exact ⟨rfl, hp, Nat.le_refl _⟩
 | reg ops lv lb =>
  intro s s' ex hp hr
  have hr' : (match runOps ck lo ops s with
   | none => none
   | some st' => some (Ex.nrm, st'.cut lv lb)) = some (ex, s') := hr
  show (match runOps ck lo ops (s.plus hj b) with
   | none => none
   | some st' => some (Ex.nrm, st'.cut lv lb)) = some (ex, s'.plus hj b) ∧ _
  split at hr'
  ·cases hr'
  ·rename_i s1 h1
   cases hr'
   obtain ⟨h2, h3, h4⟩ := ops_plus (b := b) hck ops hp h1
   rw [h2]
   exact ⟨rfl, ⟨h3.blk, h3.lt, h3.lo⟩, h4⟩
 | dreg ops ps lv lb =>
  intro s s' ex hp hr
  have hr' : (match runOpsD ck lo s.mem.next 0 ops { s with mem := s.mem.bump ops.length } with
   | none => none
   | some (st', ks) => if pairsOk ks ps then some (Ex.nrm, st'.cut lv lb) else none) = some (ex, s') := hr
  show (match runOpsD ck lo s.mem.next 0 ops (St.plus { s with mem := s.mem.bump ops.length } hj b) with
   | none => none
   | some (st', ks) => if pairsOk ks ps then some (Ex.nrm, st'.cut lv lb) else none) = some (ex, s'.plus hj b) ∧ _
  split at hr'
  ·cases hr'
  ·rename_i s1 ks h1
   have hlt := hp.lt
   have hlo := hp.lo
   obtain ⟨h2, h3, h4⟩ := opsD_plus (b := b) hck ops 0 (s := { s with mem := s.mem.bump ops.length }) ⟨hp.blk, hlt, Nat.lt_of_lt_of_le hlo (Nat.le_add_right _ _)⟩ (by omega) h1
   have h5 : s.mem.next + ops.length ≤ s1.mem.next := h4
   rw [h2]
   simp only
   split at hr'
   ·rename_i hps
    cases hr'
    rw [if_pos hps]
    exact ⟨rfl, ⟨h3.blk, h3.lt, h3.lo⟩, by show s.mem.next ≤ s1.mem.next; omega⟩
   ·cases hr'
 | seq x y ihx ihy =>
  intro s s' ex hp hr
  have hr' : (match run ck N lo x s with
   | none => none
   | some (.nrm, st') => run ck N lo y st'
   | some (.exit i, st') => some (.exit i, st')
   | some (.ret, st') => some (.ret, st')) = some (ex, s') := hr
  show (match run ck N lo x (s.plus hj b) with
   | none => none
   | some (.nrm, st') => run ck N lo y st'
   | some (.exit i, st') => some (.exit i, st')
   | some (.ret, st') => some (.ret, st')) = some (ex, s'.plus hj b) ∧ _
  split at hr'
  ·cases hr'
  ·rename_i s1 h1
   obtain ⟨h2, h3, h4⟩ := ihx hp h1
   obtain ⟨h5, h6, h7⟩ := ihy h3 hr'
   rw [h2]
   exact ⟨h5, h6, Nat.le_trans h4 h7⟩
  ·rename_i h1
   cases hr'
   obtain ⟨h2, h3, h4⟩ := ihx hp h1
   rw [h2]
   exact ⟨rfl, h3, h4⟩
  ·rename_i h1
   cases hr'
   obtain ⟨h2, h3, h4⟩ := ihx hp h1
   rw [h2]
   exact ⟨rfl, h3, h4⟩
 | cond c x y ihx ihy =>
  intro s s' ex hp hr
  have hr' : (match getO s c with
   | some (.bool c) => cond c (run ck N lo x s) (run ck N lo y s)
   | _ => none) = some (ex, s') := hr
  show (match getO (s.plus hj b) c with
   | some (.bool c) => cond c (run ck N lo x (s.plus hj b)) (run ck N lo y (s.plus hj b))
   | _ => none) = some (ex, s'.plus hj b) ∧ _
  have hg : getO (s.plus hj b) c = getO s c := getO_same (fun _ _ => rfl) (fun _ _ => rfl) (fun _ _ => rfl)
  rw [hg]
  split at hr'
  ·rename_i b' hb'
   cases b' with
   | true => exact ihx hp hr'
   | false => exact ihy hp hr'
  ·cases hr'
 | block id x ih =>
  intro s s' ex hp hr
  have hr' : (match run ck N lo x s with
   | none => none
   | some (.nrm, st') => some (.nrm, st')
   | some (.exit i, st') => if i = id then some (.nrm, st') else some (.exit i, st')
   | some (.ret, st') => some (.ret, st')) = some (ex, s') := hr
  show (match run ck N lo x (s.plus hj b) with
   | none => none
   | some (.nrm, st') => some (.nrm, st')
   | some (.exit i, st') => if i = id then some (.nrm, st') else some (.exit i, st')
   | some (.ret, st') => some (.ret, st')) = some (ex, s'.plus hj b) ∧ _
  split at hr'
  ·cases hr'
  ·rename_i h1
   cases hr'
   obtain ⟨h2, h3, h4⟩ := ih hp h1
   rw [h2]
   exact ⟨rfl, h3, h4⟩
  ·rename_i j s1 h1
   obtain ⟨h2, h3, h4⟩ := ih hp h1
   rw [h2]
   simp only
   split at hr'
   ·rename_i e; cases hr'; rw [if_pos e]; exact ⟨rfl, h3, h4⟩
   ·rename_i e; cases hr'; rw [if_neg e]; exact ⟨rfl, h3, h4⟩
  ·rename_i h1
   cases hr'
   obtain ⟨h2, h3, h4⟩ := ih hp h1
   rw [h2]
   exact ⟨rfl, h3, h4⟩
 | loop lv lb x ih =>
  intro s s' ex hp hr
  have key : ∀ (n : Nat) {s : St}, Plus lo hj s → iter (fun st => run ck N lo x (st.cut lv lb)) n s = some (ex, s') → iter (fun st => run ck N lo x (st.cut lv lb)) n (s.plus hj b) = some (ex, s'.plus hj b) ∧ Plus lo hj s' ∧ s.mem.next ≤ s'.mem.next := by
   intro n
   induction n with
   | zero => intro s _ h; cases h
   | succ n ihn =>
    intro s hp h
    have h' : (match run ck N lo x (s.cut lv lb) with
     | none => none
     | some (.nrm, st') => iter (fun st => run ck N lo x (st.cut lv lb)) n st'
     | some (.exit i, st') => some (.exit i, st')
     | some (.ret, st') => some (.ret, st')) = some (ex, s') := h
    show (match run ck N lo x ((s.cut lv lb).plus hj b) with
     | none => none
     | some (.nrm, st') => iter (fun st => run ck N lo x (st.cut lv lb)) n st'
     | some (.exit i, st') => some (.exit i, st')
     | some (.ret, st') => some (.ret, st')) = some (ex, s'.plus hj b) ∧ _
    have hp' : Plus lo hj (s.cut lv lb) := ⟨hp.blk, hp.lt, hp.lo⟩
    split at h'
    ·cases h'
    ·rename_i s1 h1
     obtain ⟨h2, h3, h4⟩ := ih hp' h1
     obtain ⟨h5, h6, h7⟩ := ihn h3 h'
     rw [h2]
     exact ⟨h5, h6, Nat.le_trans h4 h7⟩
    ·rename_i h1
     cases h'
     obtain ⟨h2, h3, h4⟩ := ih hp' h1
     rw [h2]
     exact ⟨rfl, h3, h4⟩
    ·rename_i h1
     cases h'
     obtain ⟨h2, h3, h4⟩ := ih hp' h1
     rw [h2]
     exact ⟨rfl, h3, h4⟩
  exact key N hp hr
noncomputable def pfOf (F : Nat → Option Fn) (f : Nat) : Bool := match F f with
 | some fn => fn.pure
 | none => false
theorem call_succ (F : Nat → Option Fn) (k f : Nat) (args : List V) (lo : Nat) (m : Mem) : call F (k + 1) f args lo m = (match F f with
  | none => none
  | some fn =>
   if args.length = fn.np then
    match run (call F k) k (if fn.pure then m.next else lo) fn.body ⟨initEnv 0 args, [], [], m⟩ with
    | none => none
    | some (.exit _, _) => none
    | some (_, st) => match getRes st fn.res with
     | none => none
     | some vs => if fn.pure then
       match freeze m.next st.mem 8 (resV vs) with
       | none => none
       | some v => some (v, m)
      else some (resV vs, st.mem)
   else none) := rfl
theorem act_next (hck : ExtCk ck pf) {lo h : Nat} {s s' : St} {d : D} {p : Plan} (ha : act ck lo h s d p = some s') : s.mem.next ≤ s'.mem.next := by
 cases hc : p.isCall with
 | true =>
  cases p <;> first | (cases hc; done) | skip
  rename_i f args
  simp only [act] at ha
  split at ha
  ·cases ha
  ·rename_i v m hk
   obtain ⟨_, h2, _⟩ := hck f args lo s.mem v m hk
   rw [put_push] at ha
   cases hx : d.isX with
   | true => rw [hx] at ha; cases ha
   | false =>
    rw [hx] at ha
    simp only [Bool.false_eq_true, if_false, Option.some.injEq] at ha
    subst ha
    cases d <;> exact h2
 | false =>
  cases hf : p.isFrz with
  | true =>
   cases p <;> first | (cases hf; done) | skip
   simp only [act] at ha
   split at ha
   ·split at ha
    ·split at ha
     ·cases ha
     ·cases d <;> first
       | (cases ha; exact Nat.le_refl _)
       | cases ha
    ·cases ha
   ·cases ha
  | false =>
   rw [act_eff' hc hf] at ha
   generalize blockedB p d s.ad = cnd at ha
   cases cnd with
   | true => cases ha
   | false =>
    simp only [Bool.false_eq_true, if_false, Option.map_eq_some_iff] at ha
    obtain ⟨r, hr, rfl⟩ := ha
    rw [next_app]; exact Nat.le_refl _
theorem step_next (hck : ExtCk ck pf) {lo h : Nat} {s s' : St} {o : Op} (hs : step ck lo h s o = some s') : s.mem.next ≤ s'.mem.next := by
 rw [step_pre] at hs
 cases hq : pre s o with
 | none => rw [hq] at hs; cases hs
 | some q =>
  rw [hq] at hs
  cases q with
  | none =>
   simp only at hs
   cases hd : o.d <;> rw [hd] at hs <;> first
    | (cases hs; exact Nat.le_refl _)
    | cases hs
  | some p => exact act_next hck hs
theorem ops_next (hck : ExtCk ck pf) {lo : Nat} : ∀ (ps : List Op) {s s' : St}, runOps ck lo ps s = some s' → s.mem.next ≤ s'.mem.next
 | [], s, s', hr => by cases hr; exact Nat.le_refl _
 | o :: ps, s, s', hr => by
  rw [runOps_cons] at hr
  split at hr
  ·cases hr
  ·rename_i s1 h1
   have h2 := step_next hck h1
   have h3 := ops_next hck ps hr
   cases hal : o.k.allocs with
   | false => rw [hal] at h3; exact Nat.le_trans h2 h3
   | true =>
    rw [hal] at h3
    have h4 : s1.mem.next + 1 ≤ s'.mem.next := h3
    omega
theorem opsD_next (hck : ExtCk ck pf) {lo base : Nat} : ∀ (ps : List Op) (i : Nat) {s s' : St} {ks : List (List Key)}, runOpsD ck lo base i ps s = some (s', ks) → s.mem.next ≤ s'.mem.next
 | [], i, s, s', ks, hr => by cases hr; exact Nat.le_refl _
 | o :: ps, i, s, s', ks, hr => by
  simp only [runOpsD] at hr
  split at hr
  ·cases hr
  ·rename_i s1 h1
   split at hr
   ·cases hr
   ·rename_i s2 ks' h2
    cases hr
    exact Nat.le_trans (step_next hck h1) (opsD_next hck ps (i + 1) h2)
theorem run_next (hck : ExtCk ck pf) {N lo : Nat} : ∀ (c : AC) {s s' : St} {ex : Ex}, run ck N lo c s = some (ex, s') → s.mem.next ≤ s'.mem.next := by
 intro c
 induction c with
 | skip => intro s s' ex hr; cases hr; exact Nat.le_refl _
 | dead => intro s s' ex hr; cases hr
 | exit j => intro s s' ex hr; cases hr; exact Nat.le_refl _
 | ret => intro s s' ex hr; cases hr; exact Nat.le_refl _
 | reg ops lv lb =>
  intro s s' ex hr
  have hr' : (match runOps ck lo ops s with
   | none => none
   | some st' => some (Ex.nrm, st'.cut lv lb)) = some (ex, s') := hr
  split at hr'
  ·cases hr'
  ·rename_i s1 h1
   cases hr'
   have h2 := ops_next hck ops h1
   exact h2
 | dreg ops ps lv lb =>
  intro s s' ex hr
  have hr' : (match runOpsD ck lo s.mem.next 0 ops { s with mem := s.mem.bump ops.length } with
   | none => none
   | some (st', ks) => if pairsOk ks ps then some (Ex.nrm, st'.cut lv lb) else none) = some (ex, s') := hr
  split at hr'
  ·cases hr'
  ·rename_i s1 ks h1
   have h5 : s.mem.next + ops.length ≤ s1.mem.next := opsD_next hck ops 0 h1
   split at hr'
   ·cases hr'
    show s.mem.next ≤ s1.mem.next
    omega
   ·cases hr'
 | seq x y ihx ihy =>
  intro s s' ex hr
  have hr' : (match run ck N lo x s with
   | none => none
   | some (.nrm, st') => run ck N lo y st'
   | some (.exit i, st') => some (.exit i, st')
   | some (.ret, st') => some (.ret, st')) = some (ex, s') := hr
  split at hr'
  ·cases hr'
  ·rename_i s1 h1
   exact Nat.le_trans (ihx h1) (ihy hr')
  ·rename_i h1
   cases hr'
   exact ihx h1
  ·rename_i h1
   cases hr'
   exact ihx h1
 | cond c x y ihx ihy =>
  intro s s' ex hr
  have hr' : (match getO s c with
   | some (.bool c) => cond c (run ck N lo x s) (run ck N lo y s)
   | _ => none) = some (ex, s') := hr
  split at hr'
  ·rename_i b' hb'
   cases b' with
   | true => exact ihx hr'
   | false => exact ihy hr'
  ·cases hr'
 | block id x ih =>
  intro s s' ex hr
  have hr' : (match run ck N lo x s with
   | none => none
   | some (.nrm, st') => some (.nrm, st')
   | some (.exit i, st') => if i = id then some (.nrm, st') else some (.exit i, st')
   | some (.ret, st') => some (.ret, st')) = some (ex, s') := hr
  split at hr'
  ·cases hr'
  ·rename_i h1
   cases hr'
   exact ih h1
  ·rename_i j s1 h1
   split at hr'
   ·cases hr'; exact ih h1
   ·cases hr'; exact ih h1
  ·rename_i h1
   cases hr'
   exact ih h1
 | loop lv lb x ih =>
  intro s s' ex hr
  have key : ∀ (n : Nat) {s : St}, iter (fun st => run ck N lo x (st.cut lv lb)) n s = some (ex, s') → s.mem.next ≤ s'.mem.next := by
   intro n
   induction n with
   | zero => intro s h; cases h
   | succ n ihn =>
    intro s h
    have h' : (match run ck N lo x (s.cut lv lb) with
     | none => none
     | some (.nrm, st') => iter (fun st => run ck N lo x (st.cut lv lb)) n st'
     | some (.exit i, st') => some (.exit i, st')
     | some (.ret, st') => some (.ret, st')) = some (ex, s') := h
    split at h'
    ·cases h'
    ·rename_i s1 h1
     have h2 := ih h1
     exact Nat.le_trans h2 (ihn h')
    ·rename_i h1
     cases h'
     have h2 := ih h1
     exact h2
    ·rename_i h1
     cases h'
     have h2 := ih h1
     exact h2
  exact key N hr
end
theorem pure_of_ext {ck : Callk} {pf : Nat → Bool} (h : ExtCk ck pf) : PureCk ck pf := fun f args lo m v m' hc hp => by
 obtain ⟨h1, h2, h3⟩ := h f args lo m v m' hc
 have e := h1 hp
 subst e
 exact ⟨rfl, fun hj b hb hlt => (h3 hj b hb hlt (.inr hp)).1⟩
theorem getRes_plus {s : St} {hj : Nat} {b : Blk} : ∀ rs : List Res, getRes (s.plus hj b) rs = getRes s rs
 | [] => rfl
 | r :: rs => by simp only [getRes, getRes_plus rs]; rfl
theorem call_ext (F : Nat → Option Fn) : ∀ k, ExtCk (call F k) (pfOf F)
 | 0 => fun f args lo m v m' h => by cases h
 | k + 1 => fun f args lo m v m' h => by
  have ih := call_ext F k
  rw [call_succ] at h
  cases hF : F f with
  | none => rw [hF] at h; cases h
  | some fn =>
   rw [hF] at h
   simp only at h
   split at h
   ·rename_i hnp
    have hpf : pfOf F f = fn.pure := by unfold pfOf; rw [hF]
    rw [hpf]
    have fin : ∀ {ex : Ex} {st : St}, (∀ i, ex ≠ .exit i) → run (call F k) k (if fn.pure then m.next else lo) fn.body ⟨initEnv 0 args, [], [], m⟩ = some (ex, st) → (match getRes st fn.res with
      | none => none
      | some vs => if fn.pure then
        match freeze m.next st.mem 8 (resV vs) with
        | none => none
        | some v => some (v, m)
       else some (resV vs, st.mem)) = some (v, m') → (fn.pure = true → m' = m) ∧ m.next ≤ m'.next ∧ ∀ hj b, m.blk hj = none → hj < m.next → (hj < lo ∨ fn.pure = true) → call F (k + 1) f args lo (m.set hj (some b)) = some (v, m'.set hj (some b)) ∧ m'.blk hj = none := by
     intro ex st hex hrun hres
     cases hg : getRes st fn.res with
     | none => rw [hg] at hres; cases hres
     | some vs =>
      rw [hg] at hres
      simp only at hres
      have next_le : m.next ≤ st.mem.next := run_next ih fn.body hrun
      cases hp : fn.pure with
      | true =>
       rw [hp] at hres hrun
       simp only [if_true] at hres hrun
       cases hfz : freeze m.next st.mem 8 (resV vs) with
       | none => rw [hfz] at hres; cases hres
       | some v' =>
        rw [hfz] at hres
        simp only [Option.some.injEq, Prod.mk.injEq] at hres
        obtain ⟨rfl, rfl⟩ := hres
        refine ⟨fun _ => rfl, Nat.le_refl _, fun hj b hb hlt _ => ⟨?_, hb⟩⟩
        obtain ⟨h1, h2, h3⟩ := run_plus (b := b) ih fn.body (s := ⟨initEnv 0 args, [], [], m⟩) ⟨hb, hlt, hlt⟩ hrun
        rw [call_succ, hF]
        simp only
        rw [if_pos hnp, hp]
        simp only [if_true]
        have e : (m.set hj (some b)).next = m.next := rfl
        rw [e]
        have h1' : run (call F k) k m.next fn.body ⟨initEnv 0 args, [], [], m.set hj (some b)⟩ = some (ex, st.plus hj b) := h1
        rw [h1']
        have efz : freeze m.next (st.plus hj b).mem 8 (resV vs) = freeze m.next st.mem 8 (resV vs) := freeze_congr (fun q hq => by
         show (if q = hj then some b else st.mem.blk q) = _
         rw [if_neg (by omega)]) 8 _
        cases ex with
        | nrm => simp only [getRes_plus, hg, efz, hfz]
        | ret => simp only [getRes_plus, hg, efz, hfz]
        | exit i => exact absurd rfl (hex i)
      | false =>
       rw [hp] at hres hrun
       simp only [Bool.false_eq_true, if_false, Option.some.injEq, Prod.mk.injEq] at hres hrun
       obtain ⟨rfl, rfl⟩ := hres
       refine ⟨(fun e => by cases e), next_le, fun hj b hb hlt hlo => ?_⟩
       have hlo' : hj < lo := by
        rcases hlo with h | h
        ·exact h
        ·cases h
       obtain ⟨h1, h2, h3⟩ := run_plus (b := b) ih fn.body (s := ⟨initEnv 0 args, [], [], m⟩) ⟨hb, hlo', hlt⟩ hrun
       refine ⟨?_, h2.blk⟩
       rw [call_succ, hF]
       simp only
       rw [if_pos hnp, hp]
       simp only [Bool.false_eq_true, if_false]
       have h1' : run (call F k) k lo fn.body ⟨initEnv 0 args, [], [], m.set hj (some b)⟩ = some (ex, st.plus hj b) := h1
       rw [h1']
       cases ex with
       | nrm => simp only [getRes_plus, hg]; rfl
       | ret => simp only [getRes_plus, hg]; rfl
       | exit i => exact absurd rfl (hex i)
    split at h
    ·cases h
    ·cases h
    ·rename_i ex st hno hrun
     refine fin (fun i e => ?_) hrun h
     subst e
     exact hno i rfl
   ·cases h
end Go.Am
namespace Go.Am
open Go
def okRes (P : Program) : List Res → List ResultVar → Bool
 | [], [] => true
 | .t i :: rs, .tmp t :: ts => Nat.beq i t && okRes P rs ts
 | .c i agg sz :: rs, .cell a T :: ts => Nat.beq i a && (decide (aggOf P T = some agg) && (!agg || decide (szOf P T = some sz))) && okRes P rs ts
 | _, _ => false
def resOne (tmps : Array Value) : ResultVar → Sem Value
 | .tmp t => pure (tmps.getD t undef)
 | .cell a t => do loadVar t (← asAddr (tmps.getD a undef))
theorem results_list (fn : Func) (tmps : Array Value) : results fn tmps = (do
  let vs ← fn.results.toList.mapM (resOne tmps)
  pure (if h : vs.toArray.size = 1 then vs.toArray[0] else .tuple vs.toArray)) := by
 unfold results
 have e : (fun r : ResultVar => (match r with
   | .tmp t => pure (tmps.getD t undef)
   | .cell a t => do loadVar t (← asAddr (tmps.getD a undef)) : Sem Value)) = resOne tmps := by
  funext r
  cases r <;> rfl
 rw [Array.mapM_eq_mapM_toList, bind_map_left]
 congr 1
section
variable {P : Program} {fr : Fr} {g : Gh} {st : St} {a : Act} {w : World}
theorem getR_sound (s : Sim fr g st a w) {r : Res} {t : ResultVar} {v : V} (hok : okRes P [r] [t] = true) (h : getR st r = some v) : ∃ x, (resOne a.tmps t).run P w = .ok x w ∧ Img g w v x := by
 cases r with
 | t i =>
  cases t with
  | tmp t =>
   simp only [okRes, Bool.and_true] at hok
   have e := Nat.eq_of_beq_eq_true hok
   subst e
   obtain ⟨_, _, x, h1, h2⟩ := s.env i v h
   refine ⟨x, ?_, h2⟩
   simp [resOne, Array.getD_eq_getD_getElem?, h1]
  | cell _ _ => simp [okRes] at hok
 | c i agg sz =>
  cases t with
  | tmp t => simp [okRes] at hok
  | cell c T =>
   simp only [okRes, Bool.and_true, Bool.and_eq_true, decide_eq_true_eq, Bool.or_eq_true, Bool.not_eq_true'] at hok
   obtain ⟨h1, h2, h3⟩ := hok
   have e := Nat.eq_of_beq_eq_true h1
   subst e
   simp only [getR] at h
   split at h
   ·rename_i el hel
    obtain ⟨_, b, ht, hbox⟩ := s.bx i el hel
    obtain ⟨cs, T0, hb, _, hc⟩ := hbox.cells
    have hE : ElemAt g w b 0 el := fun j c hj => by
     obtain ⟨y, p1, p2, p3⟩ := hc j c hj
     exact ⟨y, by rw [cell_of_row w b _ cs T0 (0, 0) hb, Nat.zero_add]; exact p1, p2, p3⟩
    have hs : agg = true → szOf P T = some sz := fun e => by
     rcases h3 with h | h
     ·rw [e] at h; cases h
     ·exact h
    obtain ⟨y, e3, e4⟩ := load_elem (P := P) hE h2 hs h
    rw [Nat.zero_add] at e3
    refine ⟨y, ?_, e4⟩
    simp [resOne, Array.getD_eq_getD_getElem?, ht, asAddr, e3]
   ·cases h
theorem getRes_sound (s : Sim fr g st a w) : ∀ {rs : List Res} {ts : List ResultVar} {vs : List V}, okRes P rs ts = true → getRes st rs = some vs →
  ∃ xs : List Value, (ts.mapM (resOne a.tmps)).run P w = .ok xs w ∧ vs.length = xs.length ∧ ∀ (i : Nat) (c : V) (x : Value), vs[i]? = some c → xs[i]? = some x → Img g w c x
 | [], [], vs, _, h => by
  cases h
  exact ⟨[], by simp, rfl, fun i c x h => by simp at h⟩
 | r :: rs, t :: ts, vs, hok, h => by
  have hok1 : okRes P [r] [t] = true ∧ okRes P rs ts = true := by
   cases r <;> cases t <;> simp only [okRes, Bool.and_true, Bool.and_eq_true] at hok ⊢
   ·exact hok
   ·cases hok
   ·cases hok
   ·exact hok
  simp only [getRes] at h
  split at h
  ·cases h
  ·rename_i v hv
   split at h
   ·cases h
   ·rename_i us hu
    cases h
    obtain ⟨x, h1, h2⟩ := getR_sound s hok1.1 hv
    obtain ⟨xs, h3, h4, h5⟩ := getRes_sound s hok1.2 hu
    refine ⟨x :: xs, by simp [List.mapM_cons, h1, h3], by simp [h4], fun i c y hc hy => ?_⟩
    cases i with
    | zero => simp at hc hy; subst hc hy; exact h2
    | succ i => exact h5 i c y (by simpa using hc) (by simpa using hy)
 | [], _ :: _, _, h, _ => by cases h
 | r :: rs, [], _, h, _ => by cases r <;> cases h
theorem res_sound (s : Sim fr g st a w) {fn : Func} {rs : List Res} {vs : List V} (hok : okRes P rs fn.results.toList = true) (h : getRes st rs = some vs) :
  ∃ x, (results fn a.tmps).run P w = .ok x w ∧ Img g w (resV vs) x := by
 obtain ⟨xs, h1, h2, h3⟩ := getRes_sound s hok h
 match vs, xs, h2 with
 | [], [], _ => exact ⟨.tuple #[], by rw [results_list]; simp [h1], .tup [] [] rfl (fun i c v h => by simp at h)⟩
 | [v], [x], _ => exact ⟨x, by rw [results_list]; simp [h1], h3 0 v x rfl rfl⟩
 | v :: v' :: vs, x :: x' :: xs, h2 =>
  exact ⟨.tuple (x :: x' :: xs).toArray, by rw [results_list]; simp [h1], .tup _ _ h2 h3⟩
end
noncomputable def okFn (P : Program) (pf : Nat → Bool) (fn : Fn) (f : Nat) : Bool :=
 callable P f && (match P.funcs[f]? with
 | none => false
 | some gf => match gf.body with
  | none => false
  | some code => Nat.ble fn.np gf.ntmps && Nat.beq (Nat.land fn.am fn.bm) 0 && Nat.beq (fn.am % 2 ^ fn.np) 0 && Nat.beq (fn.bm % 2 ^ fn.np) 0 && okRes P fn.res gf.results.toList && okCode P fn.am fn.bm gf.ntmps fn.pure pf fn.body code)
theorem initEnv_get : ∀ (vs : List V) (i : Nat) {t : Nat} {v : V}, (initEnv i vs).get t = some v → i ≤ t ∧ vs[t - i]? = some v
 | [], i, t, v, h => by cases h
 | u :: vs, i, t, v, h => by
  have h' : Env.get ((i, u) :: initEnv (i + 1) vs) t = some v := h
  rw [Env.get_cons] at h'
  split at h'
  ·rename_i e; subst e; cases h'; exact ⟨Nat.le_refl _, by simp⟩
  ·rename_i e
   obtain ⟨h1, h2⟩ := initEnv_get vs (i + 1) h'
   refine ⟨by omega, ?_⟩
   have : t - i = t - (i + 1) + 1 := by omega
   rw [this]
   simpa using h2
theorem low_zero {m np t : Nat} (h : m % 2 ^ np = 0) (ht : t < np) : m.testBit t = false := by
 have := Nat.testBit_mod_two_pow m np t
 rw [h] at this
 simpa [ht] using this.symm
theorem call_callable {P : Program} {F : Nat → Option Fn} (hF : ∀ f fn, F f = some fn → okFn P (pfOf F) fn (src f) = true) : ∀ k, ∀ f args lo m r, call F k f args lo m = some r → callable P (src f) = true
 | 0, f, args, lo, m, r, h => by cases h
 | k + 1, f, args, lo, m, r, h => by
  rw [call_succ] at h
  cases hf : F f with
  | none => rw [hf] at h; cases h
  | some fn =>
   have := hF f fn hf
   unfold okFn at this
   rw [Bool.and_eq_true] at this
   exact this.1
theorem call_sound {P : Program} {F : Nat → Option Fn} (hm : P.follows .mixedOrders = true) (hF : ∀ f fn, F f = some fn → okFn P (pfOf F) fn (src f) = true) : ∀ k, CkOk P src (call F k)
 | 0 => fun f args lo mem v mem' h => by cases h
 | k + 1 => fun f args lo m v m' h g w xs hmem hfresh hlen hargs hlo => by
  have ih := call_sound hm hF k
  have hcd := call_callable hF k
  have hpc := pure_of_ext (call_ext F k)
  rw [call_succ] at h
  cases hf : F f with
  | none => rw [hf] at h; cases h
  | some fn =>
   rw [hf] at h
   simp only at h
   split at h
   ·rename_i hnp
    have hok := hF f fn hf
    unfold okFn at hok
    rw [Bool.and_eq_true] at hok
    obtain ⟨_, hok⟩ := hok
    split at hok
    ·cases hok
    ·rename_i gf hgf
     split at hok
     ·cases hok
     ·rename_i code hcode
      simp only [Bool.and_eq_true, Nat.ble_eq] at hok
      obtain ⟨⟨⟨⟨⟨k1, k2⟩, k3⟩, k4⟩, k5⟩, k6⟩ := hok
      have k2 := Nat.eq_of_beq_eq_true k2
      have k3 := Nat.eq_of_beq_eq_true k3
      have k4 := Nat.eq_of_beq_eq_true k4
      have hdisj : ∀ t, t ∈ bits fn.am gf.ntmps → t ∉ bits fn.bm gf.ntmps := by
       intro t h1 h2
       rw [mem_bits] at h1 h2
       have := Nat.testBit_and fn.am fn.bm t
       rw [show fn.am &&& fn.bm = 0 from k2, h1.2, h2.2] at this
       simp at this
      let fr : Fr := { n0 := w.heap.size, S0 := fun b => fn.pure = false ∧ ∃ h B l, lo ≤ h ∧ m.blk h = some B ∧ g.φ h = some l ∧ l.b = b, w0 := w, lo := if fn.pure then m.next else lo, AS := bits fn.am gf.ntmps, BS := bits fn.bm gf.ntmps, nt := gf.ntmps, disj := hdisj }
      have hxs : xs.length = fn.np := by omega
      have htm : ∀ (t : Nat) (x : Value), xs[t]? = some x → (xs.toArray ++ Array.replicate (gf.ntmps - xs.toArray.size) undef)[t]? = some x := by
       intro t x hx
       have hlt : t < xs.length := by
        rcases Nat.lt_or_ge t xs.length with h | h
        ·exact h
        ·rw [List.getElem?_eq_none h] at hx; cases hx
       rw [Array.getElem?_append_left (by simpa using hlt)]
       simpa using hx
      have hsim : Sim fr g ⟨initEnv 0 args, [], [], m⟩ { tmps := xs.toArray ++ Array.replicate (gf.ntmps - xs.toArray.size) undef, defers := [] } w := by
       refine ⟨hmem, fun t u hu => ?_, (fun t e he => by cases he), (fun t t' e e' b _ he => by cases he), (fun t u hu => by cases hu), (by simp [fr]; omega), rfl, ⟨rfl, rfl, rfl, Nat.le_refl _, fun _ _ _ => rfl⟩, fun h' B l hl hB hφ => ?_⟩
       ·obtain ⟨_, h1⟩ := initEnv_get args 0 hu
        rw [Nat.sub_zero] at h1
        have hlt : t < args.length := by
         rcases Nat.lt_or_ge t args.length with h | h
         ·exact h
         ·rw [List.getElem?_eq_none h] at h1; cases h1
        have hx : xs[t]? = some (xs[t]'(by omega)) := List.getElem?_eq_getElem _
        refine ⟨fun hA => ?_, fun hB => ?_, _, htm t _ hx, hargs t u _ h1 hx⟩
        ·have := (mem_bits.1 hA).2
         rw [low_zero k3 (by omega)] at this
         cases this
        ·have := (mem_bits.1 hB).2
         rw [low_zero k4 (by omega)] at this
         cases this
       ·cases hp : fn.pure with
        | true =>
         have : m.next ≤ h' := by simpa [fr, hp] using hl
         rw [(hfresh h' this).1] at hB
         cases hB
        | false =>
         have : lo ≤ h' := by simpa [fr, hp] using hl
         exact .inr ⟨hp, h', B, l, this, hB, hφ, rfl⟩
      have hinv : Inv fr g m g ⟨initEnv 0 args, [], [], m⟩ { tmps := xs.toArray ++ Array.replicate (gf.ntmps - xs.toArray.size) undef, defers := [] } w := by
       refine ⟨hsim, hfresh, ?_, .refl g, Nat.le_refl _, fun _ _ h => h, fun _ _ h => h, fun _ h => .inl h⟩
       show (if fn.pure then m.next else lo) ≤ m.next
       split
       ·exact Nat.le_refl _
       ·exact hlo
      have hS0 : fn.pure = true → ∀ b, ¬ fr.S0 b := fun hp b hb => by
       have := hb.1
       rw [hp] at this
       cases this
      refine calls_of_wp hgf hcode ?_
      have fin : ∀ {ex : Ex} {st : St}, (∀ i, ex ≠ .exit i) → run (call F k) k (if fn.pure then m.next else lo) fn.body ⟨initEnv 0 args, [], [], m⟩ = some (ex, st) → (match getRes st fn.res with
        | none => none
        | some vs => if fn.pure then
          match freeze m.next st.mem 8 (resV vs) with
          | none => none
          | some v => some (v, m)
         else some (resV vs, st.mem)) = some (v, m') → code.wp P (bodyPost P gf fun e w' => ∃ x g', e = .returned x ∧ Img g' w' v x ∧ Gh.le g g' ∧ MemOk g' m' w' ∧ FreshFrom g' m' m'.next ∧ m.next ≤ m'.next ∧
          (∀ h, h < m.next → m.blk h = none → m'.blk h = none) ∧ (∀ h, h < m.next → g.φ h = none → g'.φ h = none) ∧
          (∀ b, g'.I b → g.I b ∨ w.heap.size ≤ b) ∧
          Keep w.heap.size (fun b => ∃ h B l, lo ≤ h ∧ m.blk h = some B ∧ g.φ h = some l ∧ l.b = b) w w' ∧
          (∀ h B l, lo ≤ h → m'.blk h = some B → g'.φ h = some l → w.heap.size ≤ l.b ∨ ∃ h B l', lo ≤ h ∧ m.blk h = some B ∧ g.φ h = some l' ∧ l'.b = l.b))
         { tmps := xs.toArray ++ Array.replicate (gf.ntmps - xs.toArray.size) undef, defers := [] } w := by
       intro ex st hex hrun hres
       refine run_sound (fr := fr) hm ih hcd hpc rfl rfl rfl hS0 fn.body code k6 hinv hrun (fun g' a' w' i' => ?_)
       suffices hsuff : a'.defers = [] ∧ ∃ v_1, (results gf a'.tmps).run P w' = .ok v_1 w' ∧ (fun e w' => ∃ x g', e = Ending.returned x ∧ Img g' w' v x ∧ Gh.le g g' ∧ MemOk g' m' w' ∧ FreshFrom g' m' m'.next ∧ m.next ≤ m'.next ∧
          (∀ h, h < m.next → m.blk h = none → m'.blk h = none) ∧ (∀ h, h < m.next → g.φ h = none → g'.φ h = none) ∧
          (∀ b, g'.I b → g.I b ∨ w.heap.size ≤ b) ∧
          Keep w.heap.size (fun b => ∃ h B l, lo ≤ h ∧ m.blk h = some B ∧ g.φ h = some l ∧ l.b = b) w w' ∧
          (∀ h B l, lo ≤ h → m'.blk h = some B → g'.φ h = some l → w.heap.size ≤ l.b ∨ ∃ h B l', lo ≤ h ∧ m.blk h = some B ∧ g.φ h = some l' ∧ l'.b = l.b)) (.returned v_1) w' by
        cases ex with
        | nrm => exact hsuff
        | ret => exact hsuff
        | exit i => exact absurd rfl (hex i)
       cases hg : getRes st fn.res with
       | none => rw [hg] at hres; cases hres
       | some vs =>
        rw [hg] at hres
        simp only at hres
        obtain ⟨x, hx1, hx2⟩ := res_sound i'.sim k5 hg
        refine ⟨i'.sim.defers, x, hx1, ?_⟩
        cases hp : fn.pure with
        | true =>
         rw [hp] at hres
         simp only [if_true] at hres
         cases hfz : freeze m.next st.mem 8 (resV vs) with
         | none => rw [hfz] at hres; cases hres
         | some v' =>
          rw [hfz] at hres
          simp only [Option.some.injEq, Prod.mk.injEq] at hres
          obtain ⟨rfl, rfl⟩ := hres
          have hlo' : fr.lo = m.next := by simp [fr, hp]
          have hnew : ∀ b, frI m.next g' st.mem b → g.I b ∨ w.heap.size ≤ b := by
           rintro b (hb | ⟨h', B, l, h1, h2, h3, rfl⟩)
           ·exact i'.I b hb
           ·rcases i'.sim.own h' B l (by rw [hlo']; exact h1) h2 h3 with h4 | h4
            ·exact .inr h4
            ·exact absurd h4 (hS0 hp _)
          have hle : Gh.le g ⟨g.φ, frI m.next g' st.mem⟩ := ⟨fun _ _ h => h, fun b hb => .inl (i'.le.I b hb)⟩
          have hkeep : ∀ b, b < w.heap.size → w'.heap[b]? = w.heap[b]? := fun b hb => i'.sim.keep.block b hb (hS0 hp b)
          have hsame : Same g.I w w' := fun b hb => hkeep b (hmem.lt b hb)
          refine ⟨x, ⟨g.φ, frI m.next g' st.mem⟩, rfl, .pure (freeze_sound i'.sim.mem 8 _ _ x hfz hx2), hle, ⟨fun h' B hB => ?_, fun h1 h2 b b' l l' hne hb hb' hl hl' => hmem.inj h1 h2 b b' l l' hne hb hb' hl hl', (i'.sim.mem.frozen m.next).1.lt⟩, hfresh, Nat.le_refl _, fun _ _ h => h, fun _ _ h => h, hnew, ⟨i'.sim.keep.os, i'.sim.keep.tape, i'.sim.keep.output, i'.sim.keep.size, fun b hb _ => hkeep b hb⟩, fun h' B l h1 h2 h3 => .inr ⟨h', B, l, h1, h2, h3, rfl⟩⟩
          obtain ⟨l, h1, h2, h3, h4⟩ := hmem.blk h' B hB
          refine ⟨l, h1, h2.mono hle hsame (hkeep _ h4), fun hI => ?_, Nat.lt_of_lt_of_le h4 i'.sim.keep.size⟩
          rcases hnew _ hI with h5 | h5
          ·exact h3 h5
          ·omega
        | false =>
         rw [hp] at hres
         simp only [Bool.false_eq_true, if_false, Option.some.injEq, Prod.mk.injEq] at hres
         obtain ⟨rfl, rfl⟩ := hres
         have hlo' : fr.lo = lo := by simp [fr, hp]
         refine ⟨x, g', rfl, hx2, i'.le, i'.sim.mem, i'.fresh, i'.next, i'.blk, i'.φ, i'.I, ⟨i'.sim.keep.os, i'.sim.keep.tape, i'.sim.keep.output, i'.sim.keep.size, fun b hb hn => i'.sim.keep.block b hb (fun h => hn h.2)⟩, fun h' B l h1 h2 h3 => ?_⟩
         rcases i'.sim.own h' B l (by rw [hlo']; exact h1) h2 h3 with h4 | h4
         ·exact .inl h4
         ·exact .inr h4.2
      split at h
      ·cases h
      ·cases h
      ·rename_i ex st hno hrun
       refine fin (fun i e => ?_) hrun h
       subst e
       exact hno i rfl
   ·cases h
end Go.Am
namespace Go.Am
inductive Tr where
 | nil
 | leaf (k : Nat) (c : Fn)
 | node (n : Nat) (l r : Tr)
noncomputable def Tr.get (t : Tr) (f : Nat) : Option Fn := Tr.rec none (fun k c => cond (Nat.beq f k) (some c) none) (fun n _ _ l r => cond (Nat.blt f n) l r) t
def Tr.All (p : Nat → Fn → Prop) : Tr → Prop
 | .nil => True
 | .leaf k c => p k c
 | .node _ l r => l.All p ∧ r.All p
theorem Tr.get_all {p : Nat → Fn → Prop} : ∀ (t : Tr), t.All p → ∀ f c, t.get f = some c → p f c
 | .nil, _, f, c, h => by cases h
 | .leaf k c', hp, f, c, h => by
  have h' : cond (Nat.beq f k) (some c') none = some c := h
  cases hb : Nat.beq f k with
  | false => rw [hb] at h'; cases h'
  | true =>
   rw [hb] at h'
   cases h'
   rw [Nat.eq_of_beq_eq_true hb]
   exact hp
 | .node n l r, hp, f, c, h => by
  have h' : cond (Nat.blt f n) (l.get f) (r.get f) = some c := h
  cases hb : Nat.blt f n with
  | false => rw [hb] at h'; exact Tr.get_all r hp.2 f c h'
  | true => rw [hb] at h'; exact Tr.get_all l hp.1 f c h'
end Go.Am
namespace Go.Am
noncomputable def L28_1 : AC := .loop [3] [1] ( .seq (.seq (.reg [ ⟨.e 20, .mv, [.t 3], none⟩, ⟨.a 21, .fa 2, [.b 1], none⟩, ⟨.e 22, .ld false 1, [.a 21], none⟩, ⟨.e 23, .len false, [.t 22], none⟩, ⟨.e 24, .bin .lss, [.t 20, .t 23], none⟩] [3, 24] [1]) ( .cond (.t 24) (.skip) (.exit 0))) ( .seq (.block 1 ( .seq (.reg [ ⟨.a 27, .fa 2, [.b 1], none⟩, ⟨.e 28, .ld false 1, [.a 27], none⟩,
 ⟨.e 29, .mv, [.t 3], none⟩, ⟨.a 30, .ia 4, [.t 28, .t 29], none⟩, ⟨.a 31, .fa 3, [.a 30], none⟩, ⟨.e 32, .ld false 1, [.a 31], none⟩, ⟨.e 33, .len false, [.t 32], none⟩, ⟨.e 34, .bin .gtr, [.t 33, .k (.int .i64 20)], none⟩] [3, 34] [1]) ( .cond (.t 34) (.seq (.reg [ ⟨.e 2, .mv, [.k (.bool false)], none⟩] [2] []) ( .ret)) (.skip)))) ( .reg [ ⟨.e 25, .mv, [.t 3], none⟩,
 ⟨.e 26, .bin .add, [.t 25, .k (.int .i64 1)], none⟩, ⟨.e 3, .mv, [.t 26], none⟩] [3] [1])))
noncomputable def c28 : Fn := ⟨1, 3357573648, 2, true, [.t 2], .seq (.reg [ ⟨.x 1, .box, [.t 0], none⟩, ⟨.e 2, .mv, [.k (.bool false)], none⟩] [] [1]) ( .seq (.seq (.reg [ ⟨.a 4, .fa 0, [.b 1], none⟩, ⟨.e 5, .ld false 1, [.a 4], none⟩, ⟨.e 6, .len false, [.t 5], none⟩, ⟨.e 7, .bin .gtr, [.t 6, .k (.int .i64 10)], none⟩, ⟨.e 8, .mv, [.t 7], none⟩, ⟨.a 9, .fa 1, [.b 1], some (8, false)⟩,
 ⟨.e 10, .ld false 1, [.a 9], some (8, false)⟩, ⟨.e 11, .len false, [.t 10], some (8, false)⟩, ⟨.e 12, .bin .gtr, [.t 11, .k (.int .i64 10)], some (8, false)⟩, ⟨.e 13, .pick, [.t 8, .k (.bool true), .t 12], none⟩, ⟨.e 14, .mv, [.t 13], none⟩, ⟨.a 15, .fa 2, [.b 1], some (14, false)⟩, ⟨.e 16, .ld false 1, [.a 15], some (14, false)⟩, ⟨.e 17, .len false, [.t 16], some (14, false)⟩,
 ⟨.e 18, .bin .gtr, [.t 17, .k (.int .i64 10)], some (14, false)⟩, ⟨.e 19, .pick, [.t 14, .k (.bool true), .t 18], none⟩] [19] [1]) ( .cond (.t 19) (.seq (.reg [ ⟨.e 2, .mv, [.k (.bool false)], none⟩] [2] []) ( .ret)) (.skip))) ( .seq (.seq (.reg [ ⟨.e 3, .mv, [.k (.int .i64 0)], none⟩] [3] [1]) ( .block 0 ( L28_1))) ( .seq (.reg [ ⟨.e 2, .mv, [.k (.bool true)], none⟩] [2] []) ( .ret))))⟩
noncomputable def L49_1 : AC := .loop [3, 29, 30, 31] [1] ( .seq (.reg [ ⟨.e 32, .bin .lss, [.t 31, .t 30], none⟩] [3, 29, 30, 31, 32] [1]) ( .seq (.cond (.t 32) (.skip) (.exit 0)) ( .seq (.block 1 ( .seq (.reg [ ⟨.e 33, .mv, [.t 31], none⟩, ⟨.a 34, .ia 1, [.t 29, .t 31], none⟩, ⟨.e 35, .ld false 1, [.a 34], none⟩, ⟨.e 4, .mv, [.t 33], none⟩, ⟨.e 5, .mv, [.t 35], none⟩] [3, 4, 5, 29, 30, 31] [1]) (
 .seq (.seq (.reg [ ⟨.e 36, .mv, [.t 5], none⟩, ⟨.e 37, .call 112, [.t 36], none⟩, ⟨.e 38, .not, [.t 37], none⟩] [3, 4, 5, 29, 30, 31, 38] [1]) ( .cond (.t 38) (.seq (.reg [ ⟨.e 2, .mv, [.k (.int .i64 3)], none⟩] [2] []) ( .ret)) (.skip))) ( .seq (.reg [ ⟨.e 39, .mv, [.t 3], none⟩, ⟨.e 40, .mv, [.t 4], none⟩, ⟨.e 41, .sl 1 false true false, [.t 39, .t 40], none⟩, ⟨.e 42, .mv, [.t 5], none⟩,
 ⟨.e 43, .call 113, [.t 41, .t 42], none⟩] [3, 29, 30, 31, 43] [1]) ( .cond (.t 43) (.seq (.reg [ ⟨.e 2, .mv, [.k (.int .i64 5)], none⟩] [2] []) ( .ret)) (.skip)))))) ( .reg [ ⟨.e 44, .bin .add, [.t 31, .k (.int .i64 1)], none⟩, ⟨.e 31, .mv, [.t 44], none⟩] [3, 29, 30, 31] [1]))))
noncomputable def L49_2 : AC := .loop [46, 47, 48] [1] ( .seq (.reg [ ⟨.e 49, .bin .lss, [.t 48, .t 47], none⟩] [46, 47, 48, 49] [1]) ( .seq (.cond (.t 49) (.skip) (.exit 2)) ( .seq (.block 3 ( .seq (.reg [ ⟨.a 50, .ia 3, [.t 46, .t 48], none⟩, ⟨.e 51, .ld true 3, [.a 50], none⟩, ⟨.x 7, .box, [.k (.agg [(.str []), (.int .i64 0), (.int .i64 0)])], none⟩,
 ⟨.n, .st 3, [.b 7, .t 51], none⟩] [46, 47, 48] [1, 7]) ( .seq (.reg [ ⟨.a 52, .fa 1, [.b 7], none⟩, ⟨.e 53, .ld false 1, [.a 52], none⟩, ⟨.e 54, .bin .lss, [.t 53, .k (.int .i64 1)], none⟩, ⟨.e 55, .mv, [.t 54], none⟩, ⟨.a 56, .fa 1, [.b 7], some (55, false)⟩, ⟨.e 57, .ld false 1, [.a 56], some (55, false)⟩, ⟨.e 58, .bin .gtr, [.t 57, .k (.int .i64 8)], some (55, false)⟩,
 ⟨.e 59, .pick, [.t 55, .k (.bool true), .t 58], none⟩, ⟨.e 60, .mv, [.t 59], none⟩, ⟨.a 61, .fa 2, [.b 7], some (60, false)⟩, ⟨.e 62, .ld false 1, [.a 61], some (60, false)⟩, ⟨.e 63, .bin .lss, [.t 62, .k (.int .i64 0)], some (60, false)⟩, ⟨.e 64, .pick, [.t 60, .k (.bool true), .t 63], none⟩, ⟨.e 65, .mv, [.t 64], none⟩, ⟨.a 66, .fa 2, [.b 7], some (65, false)⟩,
 ⟨.e 67, .ld false 1, [.a 66], some (65, false)⟩, ⟨.a 68, .fa 1, [.b 7], some (65, false)⟩, ⟨.e 69, .ld false 1, [.a 68], some (65, false)⟩, ⟨.e 70, .bin .gtr, [.t 67, .t 69], some (65, false)⟩, ⟨.e 71, .pick, [.t 65, .k (.bool true), .t 70], none⟩] [46, 47, 48, 71] [1]) ( .cond (.t 71) (.seq (.reg [ ⟨.e 2, .mv, [.k (.int .i64 2)], none⟩] [2] []) ( .ret)) (.skip))))) (
 .reg [ ⟨.e 72, .bin .add, [.t 48, .k (.int .i64 1)], none⟩, ⟨.e 48, .mv, [.t 72], none⟩] [46, 47, 48] [1]))))
noncomputable def L49_3 : AC := .loop [74, 75, 76] [1] ( .seq (.reg [ ⟨.e 77, .bin .lss, [.t 76, .t 75], none⟩] [74, 75, 76, 77] [1]) ( .seq (.cond (.t 77) (.skip) (.exit 4)) ( .seq (.block 5 ( .seq (.reg [ ⟨.a 78, .ia 4, [.t 74, .t 76], none⟩, ⟨.e 79, .ld true 4, [.a 78], none⟩, ⟨.x 9, .box, [.k (.agg [(.str []), (.int .i64 0), (.bool false), .nil])], none⟩,
 ⟨.n, .st 4, [.b 9, .t 79], none⟩] [74, 75, 76] [1, 9]) ( .seq (.reg [ ⟨.e 80, .ld true 3, [.b 1], none⟩, ⟨.e 81, .ld true 4, [.b 9], none⟩, ⟨.e 82, .call 114, [.t 80, .t 81], none⟩, ⟨.e 10, .mv, [.t 82], none⟩] [10, 74, 75, 76] [1]) ( .seq (.reg [ ⟨.e 83, .mv, [.t 10], none⟩, ⟨.e 84, .bin .neq, [.t 83, .k (.int .i64 0)], none⟩] [10, 74, 75, 76, 84] [1]) (
 .cond (.t 84) (.seq (.reg [ ⟨.e 85, .mv, [.t 10], none⟩, ⟨.e 2, .mv, [.t 85], none⟩] [2] []) ( .ret)) (.skip)))))) ( .reg [ ⟨.e 86, .bin .add, [.t 76, .k (.int .i64 1)], none⟩, ⟨.e 76, .mv, [.t 86], none⟩] [74, 75, 76] [1]))))
noncomputable def c49 : Fn := ⟨1, 312047506316175117191168, 642, true, [.t 2], .seq (.reg [ ⟨.x 1, .box, [.t 0], none⟩, ⟨.e 2, .mv, [.k (.int .i64 0)], none⟩] [] [1]) ( .seq (.seq (.reg [ ⟨.a 11, .fa 0, [.b 1], none⟩, ⟨.e 12, .ld false 1, [.a 11], none⟩, ⟨.e 13, .len false, [.t 12], none⟩, ⟨.e 14, .bin .gtr, [.t 13, .k (.int .i64 6)], none⟩, ⟨.e 15, .mv, [.t 14], none⟩,
 ⟨.a 16, .fa 1, [.b 1], some (15, false)⟩, ⟨.e 17, .ld false 1, [.a 16], some (15, false)⟩, ⟨.e 18, .len false, [.t 17], some (15, false)⟩, ⟨.e 19, .bin .gtr, [.t 18, .k (.int .i64 4)], some (15, false)⟩, ⟨.e 20, .pick, [.t 15, .k (.bool true), .t 19], none⟩, ⟨.e 21, .mv, [.t 20], none⟩, ⟨.a 22, .fa 2, [.b 1], some (21, false)⟩, ⟨.e 23, .ld false 1, [.a 22], some (21, false)⟩,
 ⟨.e 24, .len false, [.t 23], some (21, false)⟩, ⟨.e 25, .bin .gtr, [.t 24, .k (.int .i64 6)], some (21, false)⟩, ⟨.e 26, .pick, [.t 21, .k (.bool true), .t 25], none⟩] [26] [1]) ( .cond (.t 26) (.seq (.reg [ ⟨.e 2, .mv, [.k (.int .i64 9)], none⟩] [2] []) ( .ret)) (.skip))) ( .seq (.reg [ ⟨.e 27, .ld true 3, [.b 1], none⟩, ⟨.e 28, .call 111, [.t 27], none⟩, ⟨.e 3, .mv, [.t 28], none⟩] [3] [1]) (
 .seq (.seq (.reg [ ⟨.e 29, .mv, [.t 3], none⟩, ⟨.e 30, .len false, [.t 29], none⟩, ⟨.e 31, .mv, [.k (.int .i64 0)], none⟩] [3, 29, 30, 31] [1]) ( .block 0 ( L49_1))) ( .seq (.seq (.reg [ ⟨.a 45, .fa 0, [.b 1], none⟩, ⟨.e 46, .ld false 1, [.a 45], none⟩, ⟨.e 47, .len false, [.t 46], none⟩, ⟨.e 48, .mv, [.k (.int .i64 0)], none⟩] [46, 47, 48] [1]) ( .block 2 ( L49_2))) (
 .seq (.seq (.reg [ ⟨.a 73, .fa 2, [.b 1], none⟩, ⟨.e 74, .ld false 1, [.a 73], none⟩, ⟨.e 75, .len false, [.t 74], none⟩, ⟨.e 76, .mv, [.k (.int .i64 0)], none⟩] [74, 75, 76] [1]) ( .block 4 ( L49_3))) ( .seq (.reg [ ⟨.e 2, .mv, [.k (.int .i64 0)], none⟩] [2] []) ( .ret)))))))⟩
noncomputable def L91_1 : AC := .loop [3, 4] [1] ( .seq (.seq (.reg [ ⟨.e 27, .mv, [.t 4], none⟩, ⟨.e 28, .mv, [.t 3], none⟩, ⟨.e 29, .len false, [.t 28], none⟩, ⟨.e 30, .bin .lss, [.t 27, .t 29], none⟩] [3, 4, 30] [1]) ( .cond (.t 30) (.skip) (.exit 0))) ( .seq (.block 1 ( .seq (.seq (.reg [ ⟨.e 33, .mv, [.t 3], none⟩, ⟨.e 34, .mv, [.t 4], none⟩, ⟨.a 35, .ia 1, [.t 33, .t 34], none⟩,
 ⟨.e 36, .ld false 1, [.a 35], none⟩, ⟨.e 37, .call 145, [.t 36], none⟩, ⟨.e 38, .not, [.t 37], none⟩] [3, 4, 38] [1]) ( .cond (.t 38) (.seq (.reg [ ⟨.e 2, .mv, [.k (.int .i64 3)], none⟩] [2] []) ( .ret)) (.skip))) ( .seq (.reg [ ⟨.e 39, .mv, [.t 3], none⟩, ⟨.e 40, .mv, [.t 4], none⟩, ⟨.e 41, .call 146, [.t 39, .t 40], none⟩] [3, 4, 41] [1]) (
 .cond (.t 41) (.seq (.reg [ ⟨.e 2, .mv, [.k (.int .i64 5)], none⟩] [2] []) ( .ret)) (.skip))))) ( .reg [ ⟨.e 31, .mv, [.t 4], none⟩, ⟨.e 32, .bin .add, [.t 31, .k (.int .i64 1)], none⟩, ⟨.e 4, .mv, [.t 32], none⟩] [3, 4] [1])))
noncomputable def L91_2 : AC := .loop [5] [1] ( .seq (.seq (.reg [ ⟨.e 42, .mv, [.t 5], none⟩, ⟨.a 43, .fa 0, [.b 1], none⟩, ⟨.e 44, .ld false 1, [.a 43], none⟩, ⟨.e 45, .len false, [.t 44], none⟩, ⟨.e 46, .bin .lss, [.t 42, .t 45], none⟩] [5, 46] [1]) ( .cond (.t 46) (.skip) (.exit 2))) ( .seq (.block 3 ( .seq (.reg [ ⟨.a 49, .fa 0, [.b 1], none⟩, ⟨.e 50, .ld false 1, [.a 49], none⟩,
 ⟨.e 51, .mv, [.t 5], none⟩, ⟨.a 52, .ia 3, [.t 50, .t 51], none⟩, ⟨.e 53, .ld true 3, [.a 52], none⟩, ⟨.x 6, .box, [.k (.agg [(.str []), (.int .i64 0), (.int .i64 0)])], none⟩, ⟨.n, .st 3, [.b 6, .t 53], none⟩] [5] [1, 6]) ( .seq (.reg [ ⟨.a 54, .fa 1, [.b 6], none⟩, ⟨.e 55, .ld false 1, [.a 54], none⟩, ⟨.e 56, .bin .lss, [.t 55, .k (.int .i64 1)], none⟩, ⟨.e 57, .mv, [.t 56], none⟩,
 ⟨.a 58, .fa 1, [.b 6], some (57, false)⟩, ⟨.e 59, .ld false 1, [.a 58], some (57, false)⟩, ⟨.e 60, .bin .gtr, [.t 59, .k (.int .i64 8)], some (57, false)⟩, ⟨.e 61, .pick, [.t 57, .k (.bool true), .t 60], none⟩, ⟨.e 62, .mv, [.t 61], none⟩, ⟨.a 63, .fa 2, [.b 6], some (62, false)⟩, ⟨.e 64, .ld false 1, [.a 63], some (62, false)⟩, ⟨.e 65, .bin .lss, [.t 64, .k (.int .i64 0)], some (62, false)⟩,
 ⟨.e 66, .pick, [.t 62, .k (.bool true), .t 65], none⟩, ⟨.e 67, .mv, [.t 66], none⟩, ⟨.a 68, .fa 2, [.b 6], some (67, false)⟩, ⟨.e 69, .ld false 1, [.a 68], some (67, false)⟩, ⟨.a 70, .fa 1, [.b 6], some (67, false)⟩, ⟨.e 71, .ld false 1, [.a 70], some (67, false)⟩, ⟨.e 72, .bin .gtr, [.t 69, .t 71], some (67, false)⟩, ⟨.e 73, .pick, [.t 67, .k (.bool true), .t 72], none⟩] [5, 73] [1]) (
 .cond (.t 73) (.seq (.reg [ ⟨.e 2, .mv, [.k (.int .i64 2)], none⟩] [2] []) ( .ret)) (.skip))))) ( .reg [ ⟨.e 47, .mv, [.t 5], none⟩, ⟨.e 48, .bin .add, [.t 47, .k (.int .i64 1)], none⟩, ⟨.e 5, .mv, [.t 48], none⟩] [5] [1])))
noncomputable def L91_3 : AC := .loop [7] [1] ( .seq (.seq (.reg [ ⟨.e 74, .mv, [.t 7], none⟩, ⟨.a 75, .fa 2, [.b 1], none⟩, ⟨.e 76, .ld false 1, [.a 75], none⟩, ⟨.e 77, .len false, [.t 76], none⟩, ⟨.e 78, .bin .lss, [.t 74, .t 77], none⟩] [7, 78] [1]) ( .cond (.t 78) (.skip) (.exit 4))) ( .seq (.block 5 ( .seq (.dreg [ ⟨.e 81, .ld true 3, [.b 1], none⟩, ⟨.a 82, .fa 2, [.b 1], none⟩,
 ⟨.e 83, .ld false 1, [.a 82], none⟩, ⟨.e 84, .mv, [.t 7], none⟩, ⟨.a 85, .ia 4, [.t 83, .t 84], none⟩, ⟨.e 86, .ld true 4, [.a 85], none⟩, ⟨.e 87, .call 147, [.t 81, .t 86], none⟩, ⟨.e 8, .mv, [.t 87], none⟩] [] [7, 8] [1]) ( .seq (.reg [ ⟨.e 88, .mv, [.t 8], none⟩, ⟨.e 89, .bin .neq, [.t 88, .k (.int .i64 0)], none⟩] [7, 8, 89] [1]) ( .cond (.t 89) (.seq (.reg [ ⟨.e 90, .mv, [.t 8], none⟩,
 ⟨.e 2, .mv, [.t 90], none⟩] [2] []) ( .ret)) (.skip))))) ( .reg [ ⟨.e 79, .mv, [.t 7], none⟩, ⟨.e 80, .bin .add, [.t 79, .k (.int .i64 1)], none⟩, ⟨.e 7, .mv, [.t 80], none⟩] [7] [1])))
noncomputable def c91 : Fn := ⟨1, 43560593712207695765848576, 66, true, [.t 2], .seq (.reg [ ⟨.x 1, .box, [.t 0], none⟩, ⟨.e 2, .mv, [.k (.int .i64 0)], none⟩] [] [1]) ( .seq (.seq (.reg [ ⟨.a 9, .fa 0, [.b 1], none⟩, ⟨.e 10, .ld false 1, [.a 9], none⟩, ⟨.e 11, .len false, [.t 10], none⟩, ⟨.e 12, .bin .gtr, [.t 11, .k (.int .i64 6)], none⟩, ⟨.e 13, .mv, [.t 12], none⟩,
 ⟨.a 14, .fa 1, [.b 1], some (13, false)⟩, ⟨.e 15, .ld false 1, [.a 14], some (13, false)⟩, ⟨.e 16, .len false, [.t 15], some (13, false)⟩, ⟨.e 17, .bin .gtr, [.t 16, .k (.int .i64 4)], some (13, false)⟩, ⟨.e 18, .pick, [.t 13, .k (.bool true), .t 17], none⟩, ⟨.e 19, .mv, [.t 18], none⟩, ⟨.a 20, .fa 2, [.b 1], some (19, false)⟩, ⟨.e 21, .ld false 1, [.a 20], some (19, false)⟩,
 ⟨.e 22, .len false, [.t 21], some (19, false)⟩, ⟨.e 23, .bin .gtr, [.t 22, .k (.int .i64 6)], some (19, false)⟩, ⟨.e 24, .pick, [.t 19, .k (.bool true), .t 23], none⟩] [24] [1]) ( .cond (.t 24) (.seq (.reg [ ⟨.e 2, .mv, [.k (.int .i64 9)], none⟩] [2] []) ( .ret)) (.skip))) ( .seq (.reg [ ⟨.e 25, .ld true 3, [.b 1], none⟩, ⟨.e 26, .call 144, [.t 25], none⟩, ⟨.e 3, .mv, [.t 26], none⟩] [3] [1]) (
 .seq (.seq (.reg [ ⟨.e 4, .mv, [.k (.int .i64 0)], none⟩] [3, 4] [1]) ( .block 0 ( L91_1))) ( .seq (.seq (.reg [ ⟨.e 5, .mv, [.k (.int .i64 0)], none⟩] [5] [1]) ( .block 2 ( L91_2))) ( .seq (.seq (.reg [ ⟨.e 7, .mv, [.k (.int .i64 0)], none⟩] [7] [1]) ( .block 4 ( L91_3))) ( .seq (.reg [ ⟨.e 2, .mv, [.k (.int .i64 0)], none⟩] [2] []) ( .ret)))))))⟩
noncomputable def L106_1 : AC := .loop [0, 1, 7, 8] [] ( .seq (.reg [ ⟨.e 9, .bin .lss, [.t 8, .t 7], none⟩] [0, 1, 7, 8, 9] []) ( .seq (.cond (.t 9) (.skip) (.exit 0)) ( .seq (.block 1 ( .seq (.reg [ ⟨.e 10, .mv, [.t 8], none⟩, ⟨.e 5, .mv, [.t 10], none⟩] [0, 1, 5, 7, 8] []) ( .seq (.reg [ ⟨.e 11, .mv, [.t 1], none⟩, ⟨.e 12, .mv, [.t 0], none⟩, ⟨.e 13, .mv, [.t 5], none⟩,
 ⟨.a 14, .ia 1, [.t 12, .t 13], none⟩, ⟨.e 15, .ld false 1, [.a 14], none⟩, ⟨.e 16, .callv, [.t 11, .t 15], none⟩] [0, 1, 5, 7, 8, 16] []) ( .cond (.t 16) (.seq (.reg [ ⟨.e 17, .mv, [.t 5], none⟩, ⟨.e 4, .mv, [.t 17], none⟩] [4] []) ( .ret)) (.skip))))) ( .reg [ ⟨.e 18, .bin .add, [.t 8, .k (.int .i64 1)], none⟩, ⟨.e 8, .mv, [.t 18], none⟩] [0, 1, 7, 8] []))))
noncomputable def c106 : Fn := ⟨2, 16384, 0, true, [.t 4], .seq (.reg [ ⟨.e 4, .mv, [.k (.int .i64 0)], none⟩] [0, 1] []) ( .seq (.seq (.reg [ ⟨.e 6, .mv, [.t 0], none⟩, ⟨.e 7, .len false, [.t 6], none⟩, ⟨.e 8, .mv, [.k (.int .i64 0)], none⟩] [0, 1, 7, 8] []) ( .block 0 ( L106_1))) ( .seq (.reg [ ⟨.e 4, .mv, [.k (.int .i64 (-1))], none⟩] [4] []) ( .ret)))⟩
noncomputable def L111_1 : AC := .loop [3, 9, 10, 11] [1] ( .seq (.reg [ ⟨.e 12, .bin .lss, [.t 11, .t 10], none⟩] [3, 9, 10, 11, 12] [1]) ( .seq (.cond (.t 12) (.skip) (.exit 0)) ( .seq (.block 1 ( .seq (.reg [ ⟨.a 13, .ia 3, [.t 9, .t 11], none⟩, ⟨.e 14, .ld true 3, [.a 13], none⟩, ⟨.x 5, .box, [.k (.agg [(.str []), (.int .i64 0), (.int .i64 0)])], none⟩,
 ⟨.n, .st 3, [.b 5, .t 14], none⟩] [3, 9, 10, 11] [1, 5]) ( .reg [ ⟨.e 15, .mv, [.t 3], none⟩, ⟨.a 16, .fa 0, [.b 5], none⟩, ⟨.e 17, .ld false 1, [.a 16], none⟩, ⟨.e 18, .lit 1 1 (.str []) [0], [.t 17], none⟩, ⟨.e 19, .app 1, [.t 15, .t 18], none⟩, ⟨.e 3, .mv, [.t 19], none⟩] [3, 9, 10, 11] [1]))) ( .reg [ ⟨.e 20, .bin .add, [.t 11, .k (.int .i64 1)], none⟩,
 ⟨.e 11, .mv, [.t 20], none⟩] [3, 9, 10, 11] [1]))))
noncomputable def L111_2 : AC := .loop [3, 26, 27, 28] [] ( .seq (.reg [ ⟨.e 29, .bin .lss, [.t 28, .t 27], none⟩] [3, 26, 27, 28, 29] []) ( .seq (.cond (.t 29) (.skip) (.exit 2)) ( .seq (.block 3 ( .seq (.reg [ ⟨.a 30, .ia 4, [.t 26, .t 28], none⟩, ⟨.e 31, .ld true 4, [.a 30], none⟩, ⟨.x 7, .box, [.k (.agg [(.str []), (.int .i64 0), (.bool false), .nil])], none⟩,
 ⟨.n, .st 4, [.b 7, .t 31], none⟩] [3, 26, 27, 28] [7]) ( .reg [ ⟨.e 32, .mv, [.t 3], none⟩, ⟨.a 33, .fa 0, [.b 7], none⟩, ⟨.e 34, .ld false 1, [.a 33], none⟩, ⟨.e 35, .lit 1 1 (.str []) [0], [.t 34], none⟩, ⟨.e 36, .app 1, [.t 32, .t 35], none⟩, ⟨.e 3, .mv, [.t 36], none⟩] [3, 26, 27, 28] []))) ( .reg [ ⟨.e 37, .bin .add, [.t 28, .k (.int .i64 1)], none⟩,
 ⟨.e 28, .mv, [.t 37], none⟩] [3, 26, 27, 28] []))))
noncomputable def c111 : Fn := ⟨1, 9701499136, 162, true, [.t 2], .seq (.reg [ ⟨.x 1, .box, [.t 0], none⟩, ⟨.e 2, .mv, [.k .nil], none⟩] [] [1]) ( .seq (.reg [ ⟨.e 3, .mv, [.k .nil], none⟩] [3] [1]) ( .seq (.seq (.reg [ ⟨.a 8, .fa 0, [.b 1], none⟩, ⟨.e 9, .ld false 1, [.a 8], none⟩, ⟨.e 10, .len false, [.t 9], none⟩, ⟨.e 11, .mv, [.k (.int .i64 0)], none⟩] [3, 9, 10, 11] [1]) (
 .block 0 ( L111_1))) ( .seq (.reg [ ⟨.e 21, .mv, [.t 3], none⟩, ⟨.a 22, .fa 1, [.b 1], none⟩, ⟨.e 23, .ld false 1, [.a 22], none⟩, ⟨.e 24, .app 1, [.t 21, .t 23], none⟩, ⟨.e 3, .mv, [.t 24], none⟩] [3] [1]) ( .seq (.seq (.reg [ ⟨.a 25, .fa 2, [.b 1], none⟩, ⟨.e 26, .ld false 1, [.a 25], none⟩, ⟨.e 27, .len false, [.t 26], none⟩, ⟨.e 28, .mv, [.k (.int .i64 0)], none⟩] [3, 26, 27, 28] []) (
 .block 2 ( L111_2))) ( .seq (.reg [ ⟨.e 38, .mv, [.t 3], none⟩, ⟨.e 2, .mv, [.t 38], none⟩] [2] []) ( .ret))))))⟩
noncomputable def L112_1 : AC := .loop [0, 23, 24] [] ( .seq (.reg [ ⟨.e 25, .bin .lss, [.t 24, .t 23], none⟩] [0, 23, 24, 25] []) ( .seq (.cond (.t 25) (.skip) (.exit 0)) ( .seq (.block 1 ( .seq (.reg [ ⟨.e 26, .mv, [.t 24], none⟩, ⟨.e 3, .mv, [.t 26], none⟩] [0, 3, 23, 24] []) ( .seq (.reg [ ⟨.e 27, .mv, [.t 0], none⟩, ⟨.e 28, .mv, [.t 3], none⟩, ⟨.e 29, .six, [.t 27, .t 28], none⟩,
 ⟨.e 30, .bin .lss, [.t 29, .k (.int .u8 97)], none⟩, ⟨.e 31, .mv, [.t 30], none⟩, ⟨.e 32, .mv, [.t 0], some (31, false)⟩, ⟨.e 33, .mv, [.t 3], some (31, false)⟩, ⟨.e 34, .six, [.t 32, .t 33], some (31, false)⟩, ⟨.e 35, .bin .gtr, [.t 34, .k (.int .u8 122)], some (31, false)⟩, ⟨.e 36, .pick, [.t 31, .k (.bool true), .t 35], none⟩, ⟨.e 37, .mv, [.t 36], none⟩, ⟨.e 38, .mv, [.t 0], some (37, true)⟩,
 ⟨.e 39, .mv, [.t 3], some (37, true)⟩, ⟨.e 40, .six, [.t 38, .t 39], some (37, true)⟩, ⟨.e 41, .bin .lss, [.t 40, .k (.int .u8 48)], some (37, true)⟩, ⟨.e 42, .mv, [.t 41], some (37, true)⟩, ⟨.e 43, .mv, [.t 0], some (42, false)⟩, ⟨.e 44, .mv, [.t 3], some (42, false)⟩, ⟨.e 45, .six, [.t 43, .t 44], some (42, false)⟩, ⟨.e 46, .bin .gtr, [.t 45, .k (.int .u8 57)], some (42, false)⟩,
 ⟨.e 47, .pick, [.t 42, .k (.bool true), .t 46], some (37, true)⟩, ⟨.e 48, .pick, [.t 37, .t 47, .k (.bool false)], none⟩] [0, 23, 24, 48] []) ( .cond (.t 48) (.seq (.reg [ ⟨.e 2, .mv, [.k (.bool false)], none⟩] [2] []) ( .ret)) (.skip))))) ( .reg [ ⟨.e 49, .bin .add, [.t 24, .k (.int .i64 1)], none⟩, ⟨.e 24, .mv, [.t 49], none⟩] [0, 23, 24] []))))
noncomputable def c112 : Fn := ⟨1, 0, 0, true, [.t 2], .seq (.reg [ ⟨.e 2, .mv, [.k (.bool false)], none⟩] [0] []) ( .seq (.seq (.reg [ ⟨.e 4, .mv, [.t 0], none⟩, ⟨.e 5, .len true, [.t 4], none⟩, ⟨.e 6, .bin .lss, [.t 5, .k (.int .i64 1)], none⟩, ⟨.e 7, .mv, [.t 6], none⟩, ⟨.e 8, .mv, [.t 0], some (7, false)⟩, ⟨.e 9, .len true, [.t 8], some (7, false)⟩,
 ⟨.e 10, .bin .gtr, [.t 9, .k (.int .i64 8)], some (7, false)⟩, ⟨.e 11, .pick, [.t 7, .k (.bool true), .t 10], none⟩, ⟨.e 12, .mv, [.t 11], none⟩, ⟨.e 13, .mv, [.t 0], some (12, false)⟩, ⟨.e 14, .six, [.t 13, .k (.int .i64 0)], some (12, false)⟩, ⟨.e 15, .bin .lss, [.t 14, .k (.int .u8 97)], some (12, false)⟩, ⟨.e 16, .pick, [.t 12, .k (.bool true), .t 15], none⟩, ⟨.e 17, .mv, [.t 16], none⟩,
 ⟨.e 18, .mv, [.t 0], some (17, false)⟩, ⟨.e 19, .six, [.t 18, .k (.int .i64 0)], some (17, false)⟩, ⟨.e 20, .bin .gtr, [.t 19, .k (.int .u8 122)], some (17, false)⟩, ⟨.e 21, .pick, [.t 17, .k (.bool true), .t 20], none⟩] [0, 21] []) ( .cond (.t 21) (.seq (.reg [ ⟨.e 2, .mv, [.k (.bool false)], none⟩] [2] []) ( .ret)) (.skip))) ( .seq (.seq (.reg [ ⟨.e 22, .mv, [.t 0], none⟩,
 ⟨.e 23, .len true, [.t 22], none⟩, ⟨.e 24, .mv, [.k (.int .i64 0)], none⟩] [0, 23, 24] []) ( .block 0 ( L112_1))) ( .seq (.reg [ ⟨.e 2, .mv, [.k (.bool true)], none⟩] [2] []) ( .ret))))⟩
noncomputable def c113 : Fn := ⟨2, 0, 0, true, [.t 4], .seq (.reg [ ⟨.e 4, .mv, [.k (.bool false)], none⟩] [0, 1] []) ( .seq (.reg [ ⟨.e 5, .mv, [.t 0], none⟩, ⟨.e 6, .mv, [.t 1], none⟩, ⟨.e 7, .call 153, [.t 5, .t 6], none⟩, ⟨.e 8, .bin .geq, [.t 7, .k (.int .i64 0)], none⟩, ⟨.e 4, .mv, [.t 8], none⟩] [4] []) ( .ret))⟩
noncomputable def L114_1 : AC := .loop [5, 30, 31, 32] [2] ( .seq (.reg [ ⟨.e 33, .bin .lss, [.t 32, .t 31], none⟩] [5, 30, 31, 32, 33] [2]) ( .seq (.cond (.t 33) (.skip) (.exit 0)) ( .seq (.block 1 ( .seq (.reg [ ⟨.a 34, .ia 4, [.t 30, .t 32], none⟩, ⟨.e 35, .ld true 4, [.a 34], none⟩, ⟨.x 7, .box, [.k (.agg [(.int .i64 0), (.int .i64 0), (.int .i64 0), (.bool false)])], none⟩,
 ⟨.n, .st 4, [.b 7, .t 35], none⟩] [5, 30, 31, 32] [2, 7]) ( .seq (.reg [ ⟨.e 36, .ld true 3, [.b 2], none⟩, ⟨.e 37, .ld true 4, [.b 7], none⟩, ⟨.e 38, .call 122, [.t 5, .t 36, .t 37], none⟩, ⟨.e 8, .mv, [.t 38], none⟩] [5, 8, 30, 31, 32] [2]) ( .seq (.reg [ ⟨.e 39, .mv, [.t 8], none⟩, ⟨.e 40, .bin .neq, [.t 39, .k (.int .i64 0)], none⟩] [5, 8, 30, 31, 32, 40] [2]) (
 .cond (.t 40) (.seq (.reg [ ⟨.e 41, .mv, [.t 8], none⟩, ⟨.e 4, .mv, [.t 41], none⟩] [4] []) ( .ret)) (.skip)))))) ( .reg [ ⟨.e 42, .bin .add, [.t 32, .k (.int .i64 1)], none⟩, ⟨.e 32, .mv, [.t 42], none⟩] [5, 30, 31, 32] [2]))))
noncomputable def c114 : Fn := ⟨2, 149551302451712, 140, true, [.t 4], .seq (.reg [ ⟨.x 2, .box, [.t 0], none⟩, ⟨.x 3, .box, [.t 1], none⟩, ⟨.e 4, .mv, [.k (.int .i64 0)], none⟩] [] [2, 3]) ( .seq (.seq (.reg [ ⟨.a 9, .fa 1, [.b 3], none⟩, ⟨.e 10, .ld false 1, [.a 9], none⟩, ⟨.e 11, .bin .lss, [.t 10, .k (.int .i64 0)], none⟩, ⟨.e 12, .mv, [.t 11], none⟩, ⟨.a 13, .fa 1, [.b 3], some (12, false)⟩,
 ⟨.e 14, .ld false 1, [.a 13], some (12, false)⟩, ⟨.e 15, .bin .gtr, [.t 14, .k (.int .i64 4)], some (12, false)⟩, ⟨.e 16, .pick, [.t 12, .k (.bool true), .t 15], none⟩] [16] [2, 3]) ( .cond (.t 16) (.seq (.reg [ ⟨.e 4, .mv, [.k (.int .i64 2)], none⟩] [4] []) ( .ret)) (.skip))) ( .seq (.seq (.reg [ ⟨.a 17, .fa 3, [.b 3], none⟩, ⟨.e 18, .ld false 1, [.a 17], none⟩, ⟨.e 19, .len false, [.t 18], none⟩,
 ⟨.e 20, .bin .lss, [.t 19, .k (.int .i64 1)], none⟩, ⟨.e 21, .mv, [.t 20], none⟩, ⟨.a 22, .fa 3, [.b 3], some (21, false)⟩, ⟨.e 23, .ld false 1, [.a 22], some (21, false)⟩, ⟨.e 24, .len false, [.t 23], some (21, false)⟩, ⟨.e 25, .bin .gtr, [.t 24, .k (.int .i64 12)], some (21, false)⟩, ⟨.e 26, .pick, [.t 21, .k (.bool true), .t 25], none⟩] [26] [2, 3]) (
 .cond (.t 26) (.seq (.reg [ ⟨.e 4, .mv, [.k (.int .i64 9)], none⟩] [4] []) ( .ret)) (.skip))) ( .seq (.reg [ ⟨.e 27, .ld true 3, [.b 2], none⟩, ⟨.e 28, .call 121, [.t 27], none⟩, ⟨.e 5, .hbox 2, [.k (.agg [.nil, .nil])], none⟩, ⟨.n, .st 2, [.t 5, .t 28], none⟩] [5] [2, 3]) ( .seq (.seq (.reg [ ⟨.a 29, .fa 3, [.b 3], none⟩, ⟨.e 30, .ld false 1, [.a 29], none⟩, ⟨.e 31, .len false, [.t 30], none⟩,
 ⟨.e 32, .mv, [.k (.int .i64 0)], none⟩] [5, 30, 31, 32] [2]) ( .block 0 ( L114_1))) ( .seq (.seq (.reg [ ⟨.a 43, .fa 1, [.t 5], none⟩, ⟨.e 44, .ld false 1, [.a 43], none⟩, ⟨.e 45, .call 154, [.t 44, .k (.bool true)], none⟩, ⟨.e 46, .mv, [.t 45], none⟩, ⟨.a 47, .fa 0, [.t 5], some (46, false)⟩, ⟨.e 48, .ld false 1, [.a 47], some (46, false)⟩,
 ⟨.e 49, .call 120, [.t 48, .k (.fn 155 [])], some (46, false)⟩, ⟨.e 50, .pick, [.t 46, .k (.bool true), .t 49], none⟩] [50] []) ( .cond (.t 50) (.seq (.reg [ ⟨.e 4, .mv, [.k (.int .i64 11)], none⟩] [4] []) ( .ret)) (.skip))) ( .seq (.reg [ ⟨.e 4, .mv, [.k (.int .i64 0)], none⟩] [4] []) ( .ret)))))))⟩
noncomputable def L116_1 : AC := .loop [0, 1, 7, 8] [] ( .seq (.reg [ ⟨.e 9, .bin .lss, [.t 8, .t 7], none⟩] [0, 1, 7, 8, 9] []) ( .seq (.cond (.t 9) (.skip) (.exit 0)) ( .seq (.block 1 ( .seq (.reg [ ⟨.e 10, .mv, [.t 8], none⟩, ⟨.e 5, .mv, [.t 10], none⟩] [0, 1, 5, 7, 8] []) ( .seq (.reg [ ⟨.e 11, .mv, [.t 1], none⟩, ⟨.e 12, .mv, [.t 0], none⟩, ⟨.e 13, .mv, [.t 5], none⟩,
 ⟨.a 14, .ia 1, [.t 12, .t 13], none⟩, ⟨.e 15, .ld false 1, [.a 14], none⟩, ⟨.e 16, .bq false, [.t 11, .t 15], none⟩] [0, 1, 5, 7, 8, 16] []) ( .cond (.t 16) (.seq (.reg [ ⟨.e 17, .mv, [.t 5], none⟩, ⟨.e 4, .mv, [.t 17], none⟩] [4] []) ( .ret)) (.skip))))) ( .reg [ ⟨.e 18, .bin .add, [.t 8, .k (.int .i64 1)], none⟩, ⟨.e 8, .mv, [.t 18], none⟩] [0, 1, 7, 8] []))))
noncomputable def c116 : Fn := ⟨2, 16384, 0, true, [.t 4], .seq (.reg [ ⟨.e 4, .mv, [.k (.int .i64 0)], none⟩] [0, 1] []) ( .seq (.seq (.reg [ ⟨.e 6, .mv, [.t 0], none⟩, ⟨.e 7, .len false, [.t 6], none⟩, ⟨.e 8, .mv, [.k (.int .i64 0)], none⟩] [0, 1, 7, 8] []) ( .block 0 ( L116_1))) ( .seq (.reg [ ⟨.e 4, .mv, [.k (.int .i64 (-1))], none⟩] [4] []) ( .ret)))⟩
noncomputable def c120 : Fn := ⟨2, 0, 0, true, [.t 4], .seq (.reg [ ⟨.e 4, .mv, [.k (.bool false)], none⟩] [0, 1] []) ( .seq (.reg [ ⟨.e 5, .mv, [.t 0], none⟩, ⟨.e 6, .mv, [.t 1], none⟩, ⟨.e 7, .call 106, [.t 5, .t 6], none⟩, ⟨.e 8, .bin .geq, [.t 7, .k (.int .i64 0)], none⟩, ⟨.e 4, .mv, [.t 8], none⟩] [4] []) ( .ret))⟩
noncomputable def c121 : Fn := ⟨1, 136, 6, false, [.c 2 true 2], .seq (.reg [ ⟨.x 1, .box, [.t 0], none⟩, ⟨.x 2, .box, [.k (.agg [.nil, .nil])], none⟩] [] [1, 2]) ( .seq (.dreg [ ⟨.a 3, .fa 0, [.b 1], none⟩, ⟨.e 4, .ld false 1, [.a 3], none⟩, ⟨.e 5, .len false, [.t 4], none⟩, ⟨.e 6, .mk 1 (.int .i64 0), [.t 5], none⟩, ⟨.a 7, .fa 1, [.b 1], none⟩, ⟨.e 8, .ld false 1, [.a 7], none⟩,
 ⟨.e 9, .len false, [.t 8], none⟩, ⟨.e 10, .mk 1 (.bool false), [.t 9], none⟩, ⟨.e 11, .bld [.nil, .nil] [(0, 1), (1, 1)], [.t 6, .t 10], none⟩, ⟨.n, .st 2, [.b 2, .t 11], none⟩] [(1, 7), (3, 5), (3, 7)] [] [2]) ( .ret))⟩
noncomputable def c122 : Fn := ⟨3, 39768570932654393298517348301899120217151914675291136, 48, false, [.t 6], .seq (.reg [ ⟨.x 4, .box, [.t 1], none⟩, ⟨.x 5, .box, [.t 2], none⟩, ⟨.e 6, .mv, [.k (.int .i64 0)], none⟩] [0] [4, 5]) ( .seq (.reg [ ⟨.a 10, .fa 0, [.b 5], none⟩, ⟨.e 11, .ld false 1, [.a 10], none⟩, ⟨.e 12, .bin .eql, [.t 11, .k (.int .i64 1)], none⟩, ⟨.e 13, .mv, [.t 12], none⟩,
 ⟨.a 14, .fa 0, [.b 5], some (13, false)⟩, ⟨.e 15, .ld false 1, [.a 14], some (13, false)⟩, ⟨.e 16, .bin .eql, [.t 15, .k (.int .i64 2)], some (13, false)⟩, ⟨.e 17, .pick, [.t 13, .k (.bool true), .t 16], none⟩, ⟨.e 7, .mv, [.t 17], none⟩] [0, 7] [4, 5]) ( .seq (.seq (.reg [ ⟨.a 18, .fa 0, [.b 5], none⟩, ⟨.e 19, .ld false 1, [.a 18], none⟩, ⟨.e 20, .bin .lss, [.t 19, .k (.int .i64 1)], none⟩,
 ⟨.e 21, .mv, [.t 20], none⟩, ⟨.a 22, .fa 0, [.b 5], some (21, false)⟩, ⟨.e 23, .ld false 1, [.a 22], some (21, false)⟩, ⟨.e 24, .bin .gtr, [.t 23, .k (.int .i64 5)], some (21, false)⟩, ⟨.e 25, .pick, [.t 21, .k (.bool true), .t 24], none⟩, ⟨.e 26, .mv, [.t 25], none⟩, ⟨.e 27, .mv, [.t 7], some (26, false)⟩, ⟨.e 28, .not, [.t 27], some (26, false)⟩, ⟨.e 29, .mv, [.t 28], some (26, false)⟩,
 ⟨.a 30, .fa 2, [.b 5], some (29, true)⟩, ⟨.e 31, .ld false 1, [.a 30], some (29, true)⟩, ⟨.e 32, .bin .neq, [.t 31, .k (.int .i64 0)], some (29, true)⟩, ⟨.e 33, .pick, [.t 29, .t 32, .k (.bool false)], some (26, false)⟩, ⟨.e 34, .pick, [.t 26, .k (.bool true), .t 33], none⟩, ⟨.e 35, .mv, [.t 34], none⟩, ⟨.a 36, .fa 0, [.b 5], some (35, false)⟩, ⟨.e 37, .ld false 1, [.a 36], some (35, false)⟩,
 ⟨.e 38, .bin .neq, [.t 37, .k (.int .i64 1)], some (35, false)⟩, ⟨.e 39, .mv, [.t 38], some (35, false)⟩, ⟨.a 40, .fa 3, [.b 5], some (39, true)⟩, ⟨.e 41, .ld false 1, [.a 40], some (39, true)⟩, ⟨.e 42, .pick, [.t 39, .t 41, .k (.bool false)], some (35, false)⟩, ⟨.e 43, .pick, [.t 35, .k (.bool true), .t 42], none⟩] [0, 7, 43] [4, 5]) (
 .cond (.t 43) (.seq (.reg [ ⟨.e 6, .mv, [.k (.int .i64 1)], none⟩] [6] []) ( .ret)) (.skip))) ( .seq (.reg [ ⟨.a 44, .fa 0, [.b 4], none⟩, ⟨.e 45, .ld false 1, [.a 44], none⟩, ⟨.e 46, .len false, [.t 45], none⟩, ⟨.e 8, .mv, [.t 46], none⟩] [0, 7, 8] [4, 5]) ( .seq (.seq (.reg [ ⟨.a 47, .fa 0, [.b 5], none⟩, ⟨.e 48, .ld false 1, [.a 47], none⟩] [0, 7, 8, 48] [4, 5]) ( .block 0 (
 .seq (.seq (.reg [ ⟨.e 50, .bin .eql, [.t 48, .k (.int .i64 3)], none⟩, ⟨.e 49, .mv, [.t 50], none⟩] [0, 7, 8, 48, 49] [4, 5]) ( .cond (.t 49) (.skip) (.reg [ ⟨.e 51, .bin .eql, [.t 48, .k (.int .i64 4)], none⟩, ⟨.e 49, .mv, [.t 51], none⟩] [0, 7, 8, 48, 49] [4, 5]))) ( .cond (.t 49) (.reg [ ⟨.a 52, .fa 1, [.b 4], none⟩, ⟨.e 53, .ld false 1, [.a 52], none⟩, ⟨.e 54, .len false, [.t 53], none⟩,
 ⟨.e 8, .mv, [.t 54], none⟩] [0, 7, 8] [4, 5]) (.seq (.reg [ ⟨.e 56, .bin .eql, [.t 48, .k (.int .i64 5)], none⟩, ⟨.e 55, .mv, [.t 56], none⟩] [0, 7, 8, 55] [4, 5]) ( .cond (.t 55) (.reg [ ⟨.a 57, .fa 2, [.b 4], none⟩, ⟨.e 58, .ld false 1, [.a 57], none⟩, ⟨.e 59, .len false, [.t 58], none⟩, ⟨.e 8, .mv, [.t 59], none⟩] [0, 7, 8] [4, 5]) (.skip))))))) ( .seq (.seq (.reg [ ⟨.a 60, .fa 1, [.b 5], none⟩,
 ⟨.e 61, .ld false 1, [.a 60], none⟩, ⟨.e 62, .bin .lss, [.t 61, .k (.int .i64 0)], none⟩, ⟨.e 63, .mv, [.t 62], none⟩, ⟨.a 64, .fa 1, [.b 5], some (63, false)⟩, ⟨.e 65, .ld false 1, [.a 64], some (63, false)⟩, ⟨.e 66, .mv, [.t 8], some (63, false)⟩, ⟨.e 67, .bin .geq, [.t 65, .t 66], some (63, false)⟩, ⟨.e 68, .pick, [.t 63, .k (.bool true), .t 67], none⟩] [0, 7, 68] [4, 5]) (
 .cond (.t 68) (.seq (.reg [ ⟨.e 6, .mv, [.k (.int .i64 6)], none⟩] [6] []) ( .ret)) (.skip))) ( .seq (.seq (.dreg [ ⟨.e 69, .mv, [.t 7], none⟩, ⟨.e 70, .mv, [.t 69], none⟩, ⟨.a 71, .fa 2, [.b 5], some (70, true)⟩, ⟨.e 72, .ld false 1, [.a 71], some (70, true)⟩, ⟨.e 73, .bin .lss, [.t 72, .k (.int .i64 1)], some (70, true)⟩, ⟨.e 74, .mv, [.t 73], some (70, true)⟩,
 ⟨.a 75, .fa 2, [.b 5], some (74, false)⟩, ⟨.e 76, .ld false 1, [.a 75], some (74, false)⟩, ⟨.a 77, .fa 0, [.b 4], some (74, false)⟩, ⟨.e 78, .ld false 1, [.a 77], some (74, false)⟩, ⟨.a 79, .fa 1, [.b 5], some (74, false)⟩, ⟨.e 80, .ld false 1, [.a 79], some (74, false)⟩, ⟨.a 81, .ia 3, [.t 78, .t 80], some (74, false)⟩, ⟨.a 82, .fa 1, [.a 81], some (74, false)⟩,
 ⟨.e 83, .ld false 1, [.a 82], some (74, false)⟩, ⟨.e 84, .bin .gtr, [.t 76, .t 83], some (74, false)⟩, ⟨.e 85, .pick, [.t 74, .k (.bool true), .t 84], some (70, true)⟩, ⟨.e 86, .pick, [.t 70, .t 85, .k (.bool false)], none⟩] [] [0, 86] [4, 5]) ( .cond (.t 86) (.seq (.reg [ ⟨.e 6, .mv, [.k (.int .i64 2)], none⟩] [6] []) ( .ret)) (.skip))) (
 .seq (.reg [ ⟨.e 9, .mv, [.k (.bool true)], none⟩] [0, 9] [4, 5]) ( .seq (.seq (.reg [ ⟨.a 87, .fa 0, [.b 5], none⟩, ⟨.e 88, .ld false 1, [.a 87], none⟩] [0, 9, 88] [4, 5]) ( .block 1 ( .seq (.reg [ ⟨.e 90, .bin .eql, [.t 88, .k (.int .i64 1)], none⟩, ⟨.e 89, .mv, [.t 90], none⟩] [0, 9, 88, 89] [4, 5]) ( .cond (.t 89) (.seq (.dreg [ ⟨.e 91, .mv, [.t 0], none⟩, ⟨.a 92, .nc, [.t 91], none⟩,
 ⟨.a 93, .fa 0, [.a 92], none⟩, ⟨.e 94, .ld false 1, [.a 93], none⟩, ⟨.a 95, .fa 1, [.b 5], none⟩, ⟨.e 96, .ld false 1, [.a 95], none⟩, ⟨.a 97, .ia 1, [.t 94, .t 96], none⟩, ⟨.e 98, .ld false 1, [.a 97], none⟩, ⟨.a 99, .fa 2, [.b 5], none⟩, ⟨.e 100, .ld false 1, [.a 99], none⟩, ⟨.e 101, .bin .add, [.t 98, .t 100], none⟩, ⟨.a 102, .ia 1, [.t 94, .t 96], none⟩,
 ⟨.n, .st 1, [.a 102, .t 101], none⟩] [] [0] [4, 5]) ( .dreg [ ⟨.e 103, .mv, [.t 0], none⟩, ⟨.a 104, .nc, [.t 103], none⟩, ⟨.a 105, .fa 0, [.a 104], none⟩, ⟨.e 106, .ld false 1, [.a 105], none⟩, ⟨.a 107, .fa 1, [.b 5], none⟩, ⟨.e 108, .ld false 1, [.a 107], none⟩, ⟨.a 109, .ia 1, [.t 106, .t 108], none⟩, ⟨.e 110, .ld false 1, [.a 109], none⟩, ⟨.a 111, .fa 0, [.b 4], none⟩,
 ⟨.e 112, .ld false 1, [.a 111], none⟩, ⟨.a 113, .fa 1, [.b 5], none⟩, ⟨.e 114, .ld false 1, [.a 113], none⟩, ⟨.a 115, .ia 3, [.t 112, .t 114], none⟩, ⟨.a 116, .fa 1, [.a 115], none⟩, ⟨.e 117, .ld false 1, [.a 116], none⟩, ⟨.e 118, .bin .leq, [.t 110, .t 117], none⟩, ⟨.e 9, .mv, [.t 118], none⟩] [] [9] [])) (.seq (.reg [ ⟨.e 120, .bin .eql, [.t 88, .k (.int .i64 2)], none⟩,
 ⟨.e 119, .mv, [.t 120], none⟩] [0, 9, 88, 119] [4, 5]) ( .cond (.t 119) (.seq (.dreg [ ⟨.e 121, .mv, [.t 0], none⟩, ⟨.a 122, .nc, [.t 121], none⟩, ⟨.a 123, .fa 0, [.a 122], none⟩, ⟨.e 124, .ld false 1, [.a 123], none⟩, ⟨.a 125, .fa 1, [.b 5], none⟩, ⟨.e 126, .ld false 1, [.a 125], none⟩, ⟨.a 127, .ia 1, [.t 124, .t 126], none⟩, ⟨.e 128, .ld false 1, [.a 127], none⟩, ⟨.a 129, .fa 2, [.b 5], none⟩,
 ⟨.e 130, .ld false 1, [.a 129], none⟩, ⟨.e 131, .bin .sub, [.t 128, .t 130], none⟩, ⟨.a 132, .ia 1, [.t 124, .t 126], none⟩, ⟨.n, .st 1, [.a 132, .t 131], none⟩] [] [0] [5]) ( .dreg [ ⟨.e 133, .mv, [.t 0], none⟩, ⟨.a 134, .nc, [.t 133], none⟩, ⟨.a 135, .fa 0, [.a 134], none⟩, ⟨.e 136, .ld false 1, [.a 135], none⟩, ⟨.a 137, .fa 1, [.b 5], none⟩, ⟨.e 138, .ld false 1, [.a 137], none⟩,
 ⟨.a 139, .ia 1, [.t 136, .t 138], none⟩, ⟨.e 140, .ld false 1, [.a 139], none⟩, ⟨.e 141, .bin .geq, [.t 140, .k (.int .i64 0)], none⟩, ⟨.e 9, .mv, [.t 141], none⟩] [] [9] [])) (.seq (.seq (.reg [ ⟨.e 143, .bin .eql, [.t 88, .k (.int .i64 3)], none⟩, ⟨.e 142, .mv, [.t 143], none⟩] [0, 9, 88, 142] [4, 5]) ( .cond (.t 142) (.skip) (.reg [ ⟨.e 144, .bin .eql, [.t 88, .k (.int .i64 4)], none⟩,
 ⟨.e 142, .mv, [.t 144], none⟩] [0, 9, 88, 142] [4, 5]))) ( .cond (.t 142) (.seq (.dreg [ ⟨.e 145, .mv, [.t 0], none⟩, ⟨.a 146, .nc, [.t 145], none⟩, ⟨.a 147, .fa 1, [.a 146], none⟩, ⟨.e 148, .ld false 1, [.a 147], none⟩, ⟨.a 149, .fa 1, [.b 5], none⟩, ⟨.e 150, .ld false 1, [.a 149], none⟩, ⟨.a 151, .ia 1, [.t 148, .t 150], none⟩, ⟨.e 152, .ld false 1, [.a 151], none⟩, ⟨.a 153, .fa 0, [.b 5], none⟩,
 ⟨.e 154, .ld false 1, [.a 153], none⟩, ⟨.e 155, .bin .eql, [.t 154, .k (.int .i64 4)], none⟩, ⟨.e 156, .bq false, [.t 152, .t 155], none⟩, ⟨.e 9, .mv, [.t 156], none⟩] [] [0, 9] [5]) ( .dreg [ ⟨.e 157, .mv, [.t 0], none⟩, ⟨.a 158, .nc, [.t 157], none⟩, ⟨.a 159, .fa 1, [.a 158], none⟩, ⟨.e 160, .ld false 1, [.a 159], none⟩, ⟨.a 161, .fa 1, [.b 5], none⟩, ⟨.e 162, .ld false 1, [.a 161], none⟩,
 ⟨.a 163, .fa 0, [.b 5], none⟩, ⟨.e 164, .ld false 1, [.a 163], none⟩, ⟨.e 165, .bin .eql, [.t 164, .k (.int .i64 3)], none⟩, ⟨.a 166, .ia 1, [.t 160, .t 162], none⟩, ⟨.n, .st 1, [.a 166, .t 165], none⟩] [] [9] [])) (.seq (.reg [ ⟨.e 168, .bin .eql, [.t 88, .k (.int .i64 5)], none⟩, ⟨.e 167, .mv, [.t 168], none⟩] [9, 167] [4, 5]) ( .cond (.t 167) (.reg [ ⟨.a 169, .fa 2, [.b 4], none⟩,
 ⟨.e 170, .ld false 1, [.a 169], none⟩, ⟨.a 171, .fa 1, [.b 5], none⟩, ⟨.e 172, .ld false 1, [.a 171], none⟩, ⟨.a 173, .ia 4, [.t 170, .t 172], none⟩, ⟨.a 174, .fa 2, [.a 173], none⟩, ⟨.e 175, .ld false 1, [.a 174], none⟩, ⟨.e 9, .mv, [.t 175], none⟩] [9] []) (.skip))))))))))) ( .seq (.seq (.reg [ ⟨.e 176, .mv, [.t 9], none⟩, ⟨.e 177, .not, [.t 176], none⟩] [177] []) (
 .cond (.t 177) (.seq (.reg [ ⟨.e 6, .mv, [.k (.int .i64 11)], none⟩] [6] []) ( .ret)) (.skip))) ( .seq (.reg [ ⟨.e 6, .mv, [.k (.int .i64 0)], none⟩] [6] []) ( .ret)))))))))))⟩
noncomputable def L144_1 : AC := .loop [3, 4] [1] ( .seq (.seq (.reg [ ⟨.e 6, .mv, [.t 4], none⟩, ⟨.a 7, .fa 0, [.b 1], none⟩, ⟨.e 8, .ld false 1, [.a 7], none⟩, ⟨.e 9, .len false, [.t 8], none⟩, ⟨.e 10, .bin .lss, [.t 6, .t 9], none⟩] [3, 4, 10] [1]) ( .cond (.t 10) (.skip) (.exit 0))) ( .seq (.block 1 ( .reg [ ⟨.e 13, .mv, [.t 3], none⟩, ⟨.a 14, .fa 0, [.b 1], none⟩,
 ⟨.e 15, .ld false 1, [.a 14], none⟩, ⟨.e 16, .mv, [.t 4], none⟩, ⟨.a 17, .ia 3, [.t 15, .t 16], none⟩, ⟨.a 18, .fa 0, [.a 17], none⟩, ⟨.e 19, .ld false 1, [.a 18], none⟩, ⟨.e 20, .lit 1 1 (.str []) [0], [.t 19], none⟩, ⟨.e 21, .app 1, [.t 13, .t 20], none⟩, ⟨.e 3, .mv, [.t 21], none⟩] [3, 4] [1])) ( .reg [ ⟨.e 11, .mv, [.t 4], none⟩, ⟨.e 12, .bin .add, [.t 11, .k (.int .i64 1)], none⟩,
 ⟨.e 4, .mv, [.t 12], none⟩] [3, 4] [1])))
noncomputable def L144_2 : AC := .loop [3, 5] [1] ( .seq (.seq (.reg [ ⟨.e 26, .mv, [.t 5], none⟩, ⟨.a 27, .fa 2, [.b 1], none⟩, ⟨.e 28, .ld false 1, [.a 27], none⟩, ⟨.e 29, .len false, [.t 28], none⟩, ⟨.e 30, .bin .lss, [.t 26, .t 29], none⟩] [3, 5, 30] [1]) ( .cond (.t 30) (.skip) (.exit 2))) ( .seq (.block 3 ( .reg [ ⟨.e 33, .mv, [.t 3], none⟩, ⟨.a 34, .fa 2, [.b 1], none⟩,
 ⟨.e 35, .ld false 1, [.a 34], none⟩, ⟨.e 36, .mv, [.t 5], none⟩, ⟨.a 37, .ia 4, [.t 35, .t 36], none⟩, ⟨.a 38, .fa 0, [.a 37], none⟩, ⟨.e 39, .ld false 1, [.a 38], none⟩, ⟨.e 40, .lit 1 1 (.str []) [0], [.t 39], none⟩, ⟨.e 41, .app 1, [.t 33, .t 40], none⟩, ⟨.e 3, .mv, [.t 41], none⟩] [3, 5] [1])) ( .reg [ ⟨.e 31, .mv, [.t 5], none⟩, ⟨.e 32, .bin .add, [.t 31, .k (.int .i64 1)], none⟩,
 ⟨.e 5, .mv, [.t 32], none⟩] [3, 5] [1])))
noncomputable def c144 : Fn := ⟨1, 429639745664, 2, true, [.t 2], .seq (.reg [ ⟨.x 1, .box, [.t 0], none⟩, ⟨.e 2, .mv, [.k .nil], none⟩] [] [1]) ( .seq (.reg [ ⟨.e 3, .mv, [.k .nil], none⟩] [3] [1]) ( .seq (.seq (.reg [ ⟨.e 4, .mv, [.k (.int .i64 0)], none⟩] [3, 4] [1]) ( .block 0 ( L144_1))) ( .seq (.reg [ ⟨.e 22, .mv, [.t 3], none⟩, ⟨.a 23, .fa 1, [.b 1], none⟩,
 ⟨.e 24, .ld false 1, [.a 23], none⟩, ⟨.e 25, .app 1, [.t 22, .t 24], none⟩, ⟨.e 3, .mv, [.t 25], none⟩] [3] [1]) ( .seq (.seq (.reg [ ⟨.e 5, .mv, [.k (.int .i64 0)], none⟩] [3, 5] [1]) ( .block 2 ( L144_2))) ( .seq (.reg [ ⟨.e 42, .mv, [.t 3], none⟩, ⟨.e 2, .mv, [.t 42], none⟩] [2] []) ( .ret))))))⟩
noncomputable def L145_1 : AC := .loop [0, 3] [] ( .seq (.seq (.reg [ ⟨.e 13, .mv, [.t 3], none⟩, ⟨.e 14, .mv, [.t 0], none⟩, ⟨.e 15, .len true, [.t 14], none⟩, ⟨.e 16, .bin .lss, [.t 13, .t 15], none⟩] [0, 3, 16] []) ( .cond (.t 16) (.skip) (.exit 0))) ( .seq (.block 1 ( .seq (.reg [ ⟨.e 19, .mv, [.t 0], none⟩, ⟨.e 20, .mv, [.t 3], none⟩, ⟨.e 21, .six, [.t 19, .t 20], none⟩,
 ⟨.e 22, .bin .geq, [.t 21, .k (.int .u8 97)], none⟩, ⟨.e 23, .mv, [.t 22], none⟩, ⟨.e 24, .mv, [.t 0], some (23, true)⟩, ⟨.e 25, .mv, [.t 3], some (23, true)⟩, ⟨.e 26, .six, [.t 24, .t 25], some (23, true)⟩, ⟨.e 27, .bin .leq, [.t 26, .k (.int .u8 122)], some (23, true)⟩, ⟨.e 28, .pick, [.t 23, .t 27, .k (.bool false)], none⟩, ⟨.e 4, .mv, [.t 28], none⟩] [0, 3, 4] []) (
 .seq (.reg [ ⟨.e 29, .mv, [.t 4], none⟩, ⟨.e 30, .not, [.t 29], none⟩, ⟨.e 31, .mv, [.t 30], none⟩, ⟨.e 32, .mv, [.t 3], some (31, true)⟩, ⟨.e 33, .bin .eql, [.t 32, .k (.int .i64 0)], some (31, true)⟩, ⟨.e 34, .mv, [.t 33], some (31, true)⟩, ⟨.e 35, .mv, [.t 0], some (34, false)⟩, ⟨.e 36, .mv, [.t 3], some (34, false)⟩, ⟨.e 37, .six, [.t 35, .t 36], some (34, false)⟩,
 ⟨.e 38, .bin .lss, [.t 37, .k (.int .u8 48)], some (34, false)⟩, ⟨.e 39, .pick, [.t 34, .k (.bool true), .t 38], some (31, true)⟩, ⟨.e 40, .mv, [.t 39], some (31, true)⟩, ⟨.e 41, .mv, [.t 0], some (40, false)⟩, ⟨.e 42, .mv, [.t 3], some (40, false)⟩, ⟨.e 43, .six, [.t 41, .t 42], some (40, false)⟩, ⟨.e 44, .bin .gtr, [.t 43, .k (.int .u8 57)], some (40, false)⟩,
 ⟨.e 45, .pick, [.t 40, .k (.bool true), .t 44], some (31, true)⟩, ⟨.e 46, .pick, [.t 31, .t 45, .k (.bool false)], none⟩] [0, 3, 46] []) ( .cond (.t 46) (.seq (.reg [ ⟨.e 2, .mv, [.k (.bool false)], none⟩] [2] []) ( .ret)) (.skip))))) ( .reg [ ⟨.e 17, .mv, [.t 3], none⟩, ⟨.e 18, .bin .add, [.t 17, .k (.int .i64 1)], none⟩, ⟨.e 3, .mv, [.t 18], none⟩] [0, 3] [])))
noncomputable def c145 : Fn := ⟨1, 0, 0, true, [.t 2], .seq (.reg [ ⟨.e 2, .mv, [.k (.bool false)], none⟩] [0] []) ( .seq (.seq (.reg [ ⟨.e 5, .mv, [.t 0], none⟩, ⟨.e 6, .len true, [.t 5], none⟩, ⟨.e 7, .bin .lss, [.t 6, .k (.int .i64 1)], none⟩, ⟨.e 8, .mv, [.t 7], none⟩, ⟨.e 9, .mv, [.t 0], some (8, false)⟩, ⟨.e 10, .len true, [.t 9], some (8, false)⟩,
 ⟨.e 11, .bin .gtr, [.t 10, .k (.int .i64 8)], some (8, false)⟩, ⟨.e 12, .pick, [.t 8, .k (.bool true), .t 11], none⟩] [0, 12] []) ( .cond (.t 12) (.seq (.reg [ ⟨.e 2, .mv, [.k (.bool false)], none⟩] [2] []) ( .ret)) (.skip))) ( .seq (.seq (.reg [ ⟨.e 3, .mv, [.k (.int .i64 0)], none⟩] [0, 3] []) ( .block 0 ( L145_1))) ( .seq (.reg [ ⟨.e 2, .mv, [.k (.bool true)], none⟩] [2] []) ( .ret))))⟩
noncomputable def L146_1 : AC := .loop [0, 1, 5] [] ( .seq (.seq (.reg [ ⟨.e 6, .mv, [.t 5], none⟩, ⟨.e 7, .mv, [.t 1], none⟩, ⟨.e 8, .bin .lss, [.t 6, .t 7], none⟩] [0, 1, 5, 8] []) ( .cond (.t 8) (.skip) (.exit 0))) ( .seq (.block 1 ( .seq (.dreg [ ⟨.e 11, .mv, [.t 0], none⟩, ⟨.e 12, .mv, [.t 5], none⟩, ⟨.a 13, .ia 1, [.t 11, .t 12], none⟩, ⟨.e 14, .ld false 1, [.a 13], none⟩,
 ⟨.e 15, .mv, [.t 0], none⟩, ⟨.e 16, .mv, [.t 1], none⟩, ⟨.a 17, .ia 1, [.t 15, .t 16], none⟩, ⟨.e 18, .ld false 1, [.a 17], none⟩, ⟨.e 19, .sq false, [.t 14, .t 18], none⟩] [] [0, 1, 5, 19] []) ( .cond (.t 19) (.seq (.reg [ ⟨.e 4, .mv, [.k (.bool true)], none⟩] [4] []) ( .ret)) (.skip)))) ( .reg [ ⟨.e 9, .mv, [.t 5], none⟩, ⟨.e 10, .bin .add, [.t 9, .k (.int .i64 1)], none⟩,
 ⟨.e 5, .mv, [.t 10], none⟩] [0, 1, 5] [])))
noncomputable def c146 : Fn := ⟨2, 139264, 0, true, [.t 4], .seq (.reg [ ⟨.e 4, .mv, [.k (.bool false)], none⟩] [0, 1] []) ( .seq (.seq (.reg [ ⟨.e 5, .mv, [.k (.int .i64 0)], none⟩] [0, 1, 5] []) ( .block 0 ( L146_1))) ( .seq (.reg [ ⟨.e 4, .mv, [.k (.bool false)], none⟩] [4] []) ( .ret)))⟩
noncomputable def L147_1 : AC := .loop [5, 6] [2, 3] ( .seq (.seq (.reg [ ⟨.e 27, .mv, [.t 6], none⟩, ⟨.e 28, .mv, [.t 5], none⟩, ⟨.e 29, .bin .lss, [.t 27, .t 28], none⟩] [5, 6, 29] [2, 3]) ( .cond (.t 29) (.skip) (.exit 0))) ( .seq (.block 1 ( .seq (.reg [ ⟨.e 32, .ld true 3, [.b 2], none⟩, ⟨.a 33, .fa 3, [.b 3], none⟩, ⟨.e 34, .ld false 1, [.a 33], none⟩, ⟨.e 35, .mv, [.t 6], none⟩,
 ⟨.e 36, .call 163, [.t 32, .t 34, .t 35], none⟩, ⟨.e 7, .mv, [.t 36], none⟩] [5, 6, 7] [2, 3]) ( .seq (.reg [ ⟨.e 37, .mv, [.t 7], none⟩, ⟨.e 38, .bin .neq, [.t 37, .k (.int .i64 0)], none⟩] [5, 6, 7, 38] [2, 3]) ( .cond (.t 38) (.seq (.reg [ ⟨.e 39, .mv, [.t 7], none⟩, ⟨.e 4, .mv, [.t 39], none⟩] [4] []) ( .ret)) (.skip))))) ( .reg [ ⟨.e 30, .mv, [.t 6], none⟩,
 ⟨.e 31, .bin .add, [.t 30, .k (.int .i64 1)], none⟩, ⟨.e 6, .mv, [.t 31], none⟩] [5, 6] [2, 3])))
noncomputable def L147_2 : AC := .loop [5, 8] [2, 3] ( .seq (.seq (.reg [ ⟨.e 40, .mv, [.t 8], none⟩, ⟨.a 41, .fa 0, [.b 2], none⟩, ⟨.e 42, .ld false 1, [.a 41], none⟩, ⟨.e 43, .len false, [.t 42], none⟩, ⟨.e 44, .bin .lss, [.t 40, .t 43], none⟩] [5, 8, 44] [2, 3]) ( .cond (.t 44) (.skip) (.exit 2))) ( .seq (.block 3 ( .seq (.reg [ ⟨.a 47, .fa 3, [.b 3], none⟩, ⟨.e 48, .ld false 1, [.a 47], none⟩,
 ⟨.e 49, .mv, [.t 5], none⟩, ⟨.e 50, .mv, [.t 8], none⟩, ⟨.e 51, .call 164, [.t 48, .t 49, .t 50, .k (.int .i64 0)], none⟩, ⟨.e 52, .bin .gtr, [.t 51, .k (.int .i64 0)], none⟩] [5, 8, 52] [2, 3]) ( .cond (.t 52) (.seq (.reg [ ⟨.e 4, .mv, [.k (.int .i64 11)], none⟩] [4] []) ( .ret)) (.skip)))) ( .reg [ ⟨.e 45, .mv, [.t 8], none⟩, ⟨.e 46, .bin .add, [.t 45, .k (.int .i64 1)], none⟩,
 ⟨.e 8, .mv, [.t 46], none⟩] [5, 8] [2, 3])))
noncomputable def L147_3 : AC := .loop [5, 9] [2, 3] ( .seq (.seq (.reg [ ⟨.e 53, .mv, [.t 9], none⟩, ⟨.a 54, .fa 1, [.b 2], none⟩, ⟨.e 55, .ld false 1, [.a 54], none⟩, ⟨.e 56, .len false, [.t 55], none⟩, ⟨.e 57, .bin .lss, [.t 53, .t 56], none⟩] [5, 9, 57] [2, 3]) ( .cond (.t 57) (.skip) (.exit 4))) ( .seq (.block 5 ( .seq (.reg [ ⟨.a 60, .fa 3, [.b 3], none⟩, ⟨.e 61, .ld false 1, [.a 60], none⟩,
 ⟨.e 62, .mv, [.t 5], none⟩, ⟨.e 63, .mv, [.t 9], none⟩, ⟨.e 64, .call 164, [.t 61, .t 62, .t 63, .k (.int .i64 1)], none⟩, ⟨.e 65, .bin .gtr, [.t 64, .k (.int .i64 0)], none⟩] [5, 9, 65] [2, 3]) ( .cond (.t 65) (.seq (.reg [ ⟨.e 4, .mv, [.k (.int .i64 11)], none⟩] [4] []) ( .ret)) (.skip)))) ( .reg [ ⟨.e 58, .mv, [.t 9], none⟩, ⟨.e 59, .bin .add, [.t 58, .k (.int .i64 1)], none⟩,
 ⟨.e 9, .mv, [.t 59], none⟩] [5, 9] [2, 3])))
noncomputable def c147 : Fn := ⟨2, 1171078848218153984, 12, true, [.t 4], .seq (.reg [ ⟨.x 2, .box, [.t 0], none⟩, ⟨.x 3, .box, [.t 1], none⟩, ⟨.e 4, .mv, [.k (.int .i64 0)], none⟩] [] [2, 3]) ( .seq (.seq (.reg [ ⟨.a 10, .fa 1, [.b 3], none⟩, ⟨.e 11, .ld false 1, [.a 10], none⟩, ⟨.e 12, .bin .lss, [.t 11, .k (.int .i64 0)], none⟩, ⟨.e 13, .mv, [.t 12], none⟩,
 ⟨.a 14, .fa 1, [.b 3], some (13, false)⟩, ⟨.e 15, .ld false 1, [.a 14], some (13, false)⟩, ⟨.e 16, .bin .gtr, [.t 15, .k (.int .i64 4)], some (13, false)⟩, ⟨.e 17, .pick, [.t 13, .k (.bool true), .t 16], none⟩] [17] [2, 3]) ( .cond (.t 17) (.seq (.reg [ ⟨.e 4, .mv, [.k (.int .i64 2)], none⟩] [4] []) ( .ret)) (.skip))) ( .seq (.reg [ ⟨.a 18, .fa 3, [.b 3], none⟩, ⟨.e 19, .ld false 1, [.a 18], none⟩,
 ⟨.e 20, .len false, [.t 19], none⟩, ⟨.e 5, .mv, [.t 20], none⟩] [5] [2, 3]) ( .seq (.seq (.reg [ ⟨.e 21, .mv, [.t 5], none⟩, ⟨.e 22, .bin .lss, [.t 21, .k (.int .i64 1)], none⟩, ⟨.e 23, .mv, [.t 22], none⟩, ⟨.e 24, .mv, [.t 5], some (23, false)⟩, ⟨.e 25, .bin .gtr, [.t 24, .k (.int .i64 12)], some (23, false)⟩, ⟨.e 26, .pick, [.t 23, .k (.bool true), .t 25], none⟩] [5, 26] [2, 3]) (
 .cond (.t 26) (.seq (.reg [ ⟨.e 4, .mv, [.k (.int .i64 9)], none⟩] [4] []) ( .ret)) (.skip))) ( .seq (.seq (.reg [ ⟨.e 6, .mv, [.k (.int .i64 0)], none⟩] [5, 6] [2, 3]) ( .block 0 ( L147_1))) ( .seq (.seq (.reg [ ⟨.e 8, .mv, [.k (.int .i64 0)], none⟩] [5, 8] [2, 3]) ( .block 2 ( L147_2))) ( .seq (.seq (.reg [ ⟨.e 9, .mv, [.k (.int .i64 0)], none⟩] [5, 9] [2, 3]) ( .block 4 ( L147_3))) (
 .seq (.reg [ ⟨.e 4, .mv, [.k (.int .i64 0)], none⟩] [4] []) ( .ret))))))))⟩
noncomputable def L153_1 : AC := .loop [0, 1, 7, 8] [] ( .seq (.reg [ ⟨.e 9, .bin .lss, [.t 8, .t 7], none⟩] [0, 1, 7, 8, 9] []) ( .seq (.cond (.t 9) (.skip) (.exit 0)) ( .seq (.block 1 ( .seq (.reg [ ⟨.e 10, .mv, [.t 8], none⟩, ⟨.e 5, .mv, [.t 10], none⟩] [0, 1, 5, 7, 8] []) ( .seq (.reg [ ⟨.e 11, .mv, [.t 1], none⟩, ⟨.e 12, .mv, [.t 0], none⟩, ⟨.e 13, .mv, [.t 5], none⟩,
 ⟨.a 14, .ia 1, [.t 12, .t 13], none⟩, ⟨.e 15, .ld false 1, [.a 14], none⟩, ⟨.e 16, .sq false, [.t 11, .t 15], none⟩] [0, 1, 5, 7, 8, 16] []) ( .cond (.t 16) (.seq (.reg [ ⟨.e 17, .mv, [.t 5], none⟩, ⟨.e 4, .mv, [.t 17], none⟩] [4] []) ( .ret)) (.skip))))) ( .reg [ ⟨.e 18, .bin .add, [.t 8, .k (.int .i64 1)], none⟩, ⟨.e 8, .mv, [.t 18], none⟩] [0, 1, 7, 8] []))))
noncomputable def c153 : Fn := ⟨2, 16384, 0, true, [.t 4], .seq (.reg [ ⟨.e 4, .mv, [.k (.int .i64 0)], none⟩] [0, 1] []) ( .seq (.seq (.reg [ ⟨.e 6, .mv, [.t 0], none⟩, ⟨.e 7, .len false, [.t 6], none⟩, ⟨.e 8, .mv, [.k (.int .i64 0)], none⟩] [0, 1, 7, 8] []) ( .block 0 ( L153_1))) ( .seq (.reg [ ⟨.e 4, .mv, [.k (.int .i64 (-1))], none⟩] [4] []) ( .ret)))⟩
noncomputable def c154 : Fn := ⟨2, 0, 0, true, [.t 4], .seq (.reg [ ⟨.e 4, .mv, [.k (.bool false)], none⟩] [0, 1] []) ( .seq (.reg [ ⟨.e 5, .mv, [.t 0], none⟩, ⟨.e 6, .mv, [.t 1], none⟩, ⟨.e 7, .call 116, [.t 5, .t 6], none⟩, ⟨.e 8, .bin .geq, [.t 7, .k (.int .i64 0)], none⟩, ⟨.e 4, .mv, [.t 8], none⟩] [4] []) ( .ret))⟩
noncomputable def c155 : Fn := ⟨1, 0, 0, true, [.t 2], .seq (.reg [ ⟨.e 2, .mv, [.k (.bool false)], none⟩] [0] []) ( .seq (.reg [ ⟨.e 3, .mv, [.t 0], none⟩, ⟨.e 4, .bin .gtr, [.t 3, .k (.int .i64 0)], none⟩, ⟨.e 2, .mv, [.t 4], none⟩] [2] []) ( .ret))⟩
noncomputable def c163 : Fn := ⟨3, 89554496893919105687991506857493151567355904, 136, true, [.t 6], .seq (.reg [ ⟨.x 3, .box, [.t 0], none⟩, ⟨.e 6, .mv, [.k (.int .i64 0)], none⟩] [1, 2] [3]) ( .seq (.reg [ ⟨.e 11, .mv, [.t 1], none⟩, ⟨.e 12, .mv, [.t 2], none⟩, ⟨.a 13, .ia 4, [.t 11, .t 12], none⟩, ⟨.e 14, .ld true 4, [.a 13], none⟩,
 ⟨.x 7, .box, [.k (.agg [(.int .i64 0), (.int .i64 0), (.int .i64 0), (.bool false)])], none⟩, ⟨.n, .st 4, [.b 7, .t 14], none⟩] [1, 2] [3, 7]) ( .seq (.reg [ ⟨.a 15, .fa 0, [.b 7], none⟩, ⟨.e 16, .ld false 1, [.a 15], none⟩, ⟨.e 17, .bin .eql, [.t 16, .k (.int .i64 1)], none⟩, ⟨.e 18, .mv, [.t 17], none⟩, ⟨.a 19, .fa 0, [.b 7], some (18, false)⟩, ⟨.e 20, .ld false 1, [.a 19], some (18, false)⟩,
 ⟨.e 21, .bin .eql, [.t 20, .k (.int .i64 2)], some (18, false)⟩, ⟨.e 22, .pick, [.t 18, .k (.bool true), .t 21], none⟩, ⟨.e 8, .mv, [.t 22], none⟩] [1, 2, 8] [3, 7]) ( .seq (.seq (.reg [ ⟨.a 23, .fa 0, [.b 7], none⟩, ⟨.e 24, .ld false 1, [.a 23], none⟩, ⟨.e 25, .bin .lss, [.t 24, .k (.int .i64 1)], none⟩, ⟨.e 26, .mv, [.t 25], none⟩, ⟨.a 27, .fa 0, [.b 7], some (26, false)⟩,
 ⟨.e 28, .ld false 1, [.a 27], some (26, false)⟩, ⟨.e 29, .bin .gtr, [.t 28, .k (.int .i64 5)], some (26, false)⟩, ⟨.e 30, .pick, [.t 26, .k (.bool true), .t 29], none⟩, ⟨.e 31, .mv, [.t 30], none⟩, ⟨.e 32, .mv, [.t 8], some (31, false)⟩, ⟨.e 33, .not, [.t 32], some (31, false)⟩, ⟨.e 34, .mv, [.t 33], some (31, false)⟩, ⟨.a 35, .fa 2, [.b 7], some (34, true)⟩,
 ⟨.e 36, .ld false 1, [.a 35], some (34, true)⟩, ⟨.e 37, .bin .neq, [.t 36, .k (.int .i64 0)], some (34, true)⟩, ⟨.e 38, .pick, [.t 34, .t 37, .k (.bool false)], some (31, false)⟩, ⟨.e 39, .pick, [.t 31, .k (.bool true), .t 38], none⟩, ⟨.e 40, .mv, [.t 39], none⟩, ⟨.a 41, .fa 3, [.b 7], some (40, false)⟩, ⟨.e 42, .ld false 1, [.a 41], some (40, false)⟩, ⟨.e 43, .mv, [.t 42], some (40, false)⟩,
 ⟨.a 44, .fa 0, [.b 7], some (43, true)⟩, ⟨.e 45, .ld false 1, [.a 44], some (43, true)⟩, ⟨.e 46, .bin .neq, [.t 45, .k (.int .i64 1)], some (43, true)⟩, ⟨.e 47, .pick, [.t 43, .t 46, .k (.bool false)], some (40, false)⟩, ⟨.e 48, .pick, [.t 40, .k (.bool true), .t 47], none⟩] [1, 2, 8, 48] [3, 7]) ( .cond (.t 48) (.seq (.reg [ ⟨.e 6, .mv, [.k (.int .i64 1)], none⟩] [6] []) ( .ret)) (.skip))) (
 .seq (.reg [ ⟨.a 49, .fa 0, [.b 3], none⟩, ⟨.e 50, .ld false 1, [.a 49], none⟩, ⟨.e 51, .len false, [.t 50], none⟩, ⟨.e 9, .mv, [.t 51], none⟩] [1, 2, 8, 9] [3, 7]) ( .seq (.seq (.reg [ ⟨.a 52, .fa 0, [.b 7], none⟩, ⟨.e 53, .ld false 1, [.a 52], none⟩, ⟨.e 54, .bin .eql, [.t 53, .k (.int .i64 3)], none⟩, ⟨.e 55, .mv, [.t 54], none⟩, ⟨.a 56, .fa 0, [.b 7], some (55, false)⟩,
 ⟨.e 57, .ld false 1, [.a 56], some (55, false)⟩, ⟨.e 58, .bin .eql, [.t 57, .k (.int .i64 4)], some (55, false)⟩, ⟨.e 59, .pick, [.t 55, .k (.bool true), .t 58], none⟩] [1, 2, 8, 9, 59] [3, 7]) ( .cond (.t 59) (.reg [ ⟨.a 60, .fa 1, [.b 3], none⟩, ⟨.e 61, .ld false 1, [.a 60], none⟩, ⟨.e 62, .len false, [.t 61], none⟩, ⟨.e 9, .mv, [.t 62], none⟩] [1, 2, 8, 9] [3, 7]) (.skip))) (
 .seq (.seq (.reg [ ⟨.a 63, .fa 0, [.b 7], none⟩, ⟨.e 64, .ld false 1, [.a 63], none⟩, ⟨.e 65, .bin .eql, [.t 64, .k (.int .i64 5)], none⟩] [1, 2, 8, 9, 65] [3, 7]) ( .cond (.t 65) (.reg [ ⟨.a 66, .fa 2, [.b 3], none⟩, ⟨.e 67, .ld false 1, [.a 66], none⟩, ⟨.e 68, .len false, [.t 67], none⟩, ⟨.e 9, .mv, [.t 68], none⟩] [1, 2, 8, 9] [3, 7]) (.skip))) ( .seq (.seq (.reg [ ⟨.a 69, .fa 1, [.b 7], none⟩,
 ⟨.e 70, .ld false 1, [.a 69], none⟩, ⟨.e 71, .bin .lss, [.t 70, .k (.int .i64 0)], none⟩, ⟨.e 72, .mv, [.t 71], none⟩, ⟨.a 73, .fa 1, [.b 7], some (72, false)⟩, ⟨.e 74, .ld false 1, [.a 73], some (72, false)⟩, ⟨.e 75, .mv, [.t 9], some (72, false)⟩, ⟨.e 76, .bin .geq, [.t 74, .t 75], some (72, false)⟩, ⟨.e 77, .pick, [.t 72, .k (.bool true), .t 76], none⟩] [1, 2, 8, 77] [3, 7]) (
 .cond (.t 77) (.seq (.reg [ ⟨.e 6, .mv, [.k (.int .i64 6)], none⟩] [6] []) ( .ret)) (.skip))) ( .seq (.seq (.dreg [ ⟨.e 78, .mv, [.t 8], none⟩, ⟨.e 79, .mv, [.t 78], none⟩, ⟨.a 80, .fa 2, [.b 7], some (79, true)⟩, ⟨.e 81, .ld false 1, [.a 80], some (79, true)⟩, ⟨.e 82, .bin .lss, [.t 81, .k (.int .i64 1)], some (79, true)⟩, ⟨.e 83, .mv, [.t 82], some (79, true)⟩,
 ⟨.a 84, .fa 2, [.b 7], some (83, false)⟩, ⟨.e 85, .ld false 1, [.a 84], some (83, false)⟩, ⟨.a 86, .fa 0, [.b 3], some (83, false)⟩, ⟨.e 87, .ld false 1, [.a 86], some (83, false)⟩, ⟨.a 88, .fa 1, [.b 7], some (83, false)⟩, ⟨.e 89, .ld false 1, [.a 88], some (83, false)⟩, ⟨.a 90, .ia 3, [.t 87, .t 89], some (83, false)⟩, ⟨.a 91, .fa 1, [.a 90], some (83, false)⟩,
 ⟨.e 92, .ld false 1, [.a 91], some (83, false)⟩, ⟨.e 93, .bin .gtr, [.t 85, .t 92], some (83, false)⟩, ⟨.e 94, .pick, [.t 83, .k (.bool true), .t 93], some (79, true)⟩, ⟨.e 95, .pick, [.t 79, .t 94, .k (.bool false)], none⟩] [] [1, 2, 95] [3, 7]) ( .cond (.t 95) (.seq (.reg [ ⟨.e 6, .mv, [.k (.int .i64 2)], none⟩] [6] []) ( .ret)) (.skip))) (
 .seq (.reg [ ⟨.e 10, .mv, [.k (.bool false)], none⟩] [1, 2] [3, 7]) ( .seq (.seq (.reg [ ⟨.a 96, .fa 0, [.b 7], none⟩, ⟨.e 97, .ld false 1, [.a 96], none⟩] [1, 2, 97] [3, 7]) ( .block 0 ( .seq (.reg [ ⟨.e 107, .bin .eql, [.t 97, .k (.int .i64 1)], none⟩, ⟨.e 106, .mv, [.t 107], none⟩] [1, 2, 97, 106] [3, 7]) ( .cond (.t 106) (.dreg [ ⟨.e 108, .mv, [.t 1], none⟩, ⟨.e 109, .mv, [.t 2], none⟩,
 ⟨.a 110, .fa 1, [.b 7], none⟩, ⟨.e 111, .ld false 1, [.a 110], none⟩, ⟨.e 112, .call 164, [.t 108, .t 109, .t 111, .k (.int .i64 0)], none⟩, ⟨.a 113, .fa 2, [.b 7], none⟩, ⟨.e 114, .ld false 1, [.a 113], none⟩, ⟨.e 115, .bin .add, [.t 112, .t 114], none⟩, ⟨.a 116, .fa 0, [.b 3], none⟩, ⟨.e 117, .ld false 1, [.a 116], none⟩, ⟨.a 118, .fa 1, [.b 7], none⟩, ⟨.e 119, .ld false 1, [.a 118], none⟩,
 ⟨.a 120, .ia 3, [.t 117, .t 119], none⟩, ⟨.a 121, .fa 1, [.a 120], none⟩, ⟨.e 122, .ld false 1, [.a 121], none⟩, ⟨.e 123, .bin .gtr, [.t 115, .t 122], none⟩, ⟨.e 10, .mv, [.t 123], none⟩] [] [10] []) (.seq (.reg [ ⟨.e 125, .bin .eql, [.t 97, .k (.int .i64 2)], none⟩, ⟨.e 124, .mv, [.t 125], none⟩] [1, 2, 97, 124] [3, 7]) ( .cond (.t 124) (.dreg [ ⟨.e 126, .mv, [.t 1], none⟩,
 ⟨.e 127, .mv, [.t 2], none⟩, ⟨.a 128, .fa 1, [.b 7], none⟩, ⟨.e 129, .ld false 1, [.a 128], none⟩, ⟨.e 130, .call 164, [.t 126, .t 127, .t 129, .k (.int .i64 0)], none⟩, ⟨.a 131, .fa 2, [.b 7], none⟩, ⟨.e 132, .ld false 1, [.a 131], none⟩, ⟨.e 133, .bin .lss, [.t 130, .t 132], none⟩, ⟨.e 10, .mv, [.t 133], none⟩] [] [10] []) (.seq (.reg [ ⟨.e 135, .bin .eql, [.t 97, .k (.int .i64 3)], none⟩,
 ⟨.e 134, .mv, [.t 135], none⟩] [1, 2, 97, 134] [3, 7]) ( .cond (.t 134) (.reg [ ⟨.e 136, .mv, [.t 1], none⟩, ⟨.e 137, .mv, [.t 2], none⟩, ⟨.a 138, .fa 1, [.b 7], none⟩, ⟨.e 139, .ld false 1, [.a 138], none⟩, ⟨.e 140, .call 164, [.t 136, .t 137, .t 139, .k (.int .i64 1)], none⟩, ⟨.e 141, .bin .gtr, [.t 140, .k (.int .i64 0)], none⟩,
 ⟨.e 10, .mv, [.t 141], none⟩] [10] []) (.seq (.reg [ ⟨.e 143, .bin .eql, [.t 97, .k (.int .i64 4)], none⟩, ⟨.e 142, .mv, [.t 143], none⟩] [1, 2, 142] [3, 7]) ( .cond (.t 142) (.reg [ ⟨.e 144, .mv, [.t 1], none⟩, ⟨.e 145, .mv, [.t 2], none⟩, ⟨.a 146, .fa 1, [.b 7], none⟩, ⟨.e 147, .ld false 1, [.a 146], none⟩, ⟨.e 148, .call 164, [.t 144, .t 145, .t 147, .k (.int .i64 1)], none⟩,
 ⟨.e 149, .bin .eql, [.t 148, .k (.int .i64 0)], none⟩, ⟨.e 10, .mv, [.t 149], none⟩] [10] []) (.reg [ ⟨.a 98, .fa 2, [.b 3], none⟩, ⟨.e 99, .ld false 1, [.a 98], none⟩, ⟨.a 100, .fa 1, [.b 7], none⟩, ⟨.e 101, .ld false 1, [.a 100], none⟩, ⟨.a 102, .ia 4, [.t 99, .t 101], none⟩, ⟨.a 103, .fa 2, [.a 102], none⟩, ⟨.e 104, .ld false 1, [.a 103], none⟩, ⟨.e 105, .not, [.t 104], none⟩,
 ⟨.e 10, .mv, [.t 105], none⟩] [10] []))))))))))) ( .seq (.seq (.reg [ ⟨.e 150, .mv, [.t 10], none⟩] [150] []) ( .cond (.t 150) (.seq (.reg [ ⟨.e 6, .mv, [.k (.int .i64 11)], none⟩] [6] []) ( .ret)) (.skip))) ( .seq (.reg [ ⟨.e 6, .mv, [.k (.int .i64 0)], none⟩] [6] []) ( .ret)))))))))))))⟩
noncomputable def L164_1 : AC := .loop [0, 1, 2, 3, 9, 10] [] ( .seq (.seq (.reg [ ⟨.e 11, .mv, [.t 10], none⟩, ⟨.e 12, .mv, [.t 1], none⟩, ⟨.e 13, .bin .lss, [.t 11, .t 12], none⟩] [0, 1, 2, 3, 9, 10, 13] []) ( .cond (.t 13) (.skip) (.exit 0))) ( .seq (.block 1 ( .seq (.seq (.reg [ ⟨.e 16, .mv, [.t 0], none⟩, ⟨.e 17, .mv, [.t 10], none⟩, ⟨.a 18, .ia 4, [.t 16, .t 17], none⟩,
 ⟨.a 19, .fa 1, [.a 18], none⟩, ⟨.e 20, .ld false 1, [.a 19], none⟩, ⟨.e 21, .mv, [.t 2], none⟩, ⟨.e 22, .bin .neq, [.t 20, .t 21], none⟩] [0, 1, 2, 3, 9, 10, 22] []) ( .cond (.t 22) (.exit 1) (.skip))) ( .seq (.reg [ ⟨.e 23, .mv, [.t 0], none⟩, ⟨.e 24, .mv, [.t 10], none⟩, ⟨.a 25, .ia 4, [.t 23, .t 24], none⟩, ⟨.a 26, .fa 0, [.a 25], none⟩,
 ⟨.e 27, .ld false 1, [.a 26], none⟩] [0, 1, 2, 3, 9, 10, 27] []) ( .block 2 ( .seq (.reg [ ⟨.e 29, .bin .eql, [.t 27, .k (.int .i64 1)], none⟩, ⟨.e 28, .mv, [.t 29], none⟩] [0, 1, 2, 3, 9, 10, 27, 28] []) ( .cond (.t 28) (.seq (.reg [ ⟨.e 30, .mv, [.t 3], none⟩, ⟨.e 31, .bin .eql, [.t 30, .k (.int .i64 0)], none⟩] [0, 1, 2, 3, 9, 10, 31] []) ( .cond (.t 31) (.reg [ ⟨.e 32, .mv, [.t 9], none⟩,
 ⟨.e 33, .mv, [.t 0], none⟩, ⟨.e 34, .mv, [.t 10], none⟩, ⟨.a 35, .ia 4, [.t 33, .t 34], none⟩, ⟨.a 36, .fa 2, [.a 35], none⟩, ⟨.e 37, .ld false 1, [.a 36], none⟩, ⟨.e 38, .bin .add, [.t 32, .t 37], none⟩, ⟨.e 9, .mv, [.t 38], none⟩] [0, 1, 2, 3, 9, 10] []) (.skip))) (.seq (.reg [ ⟨.e 40, .bin .eql, [.t 27, .k (.int .i64 2)], none⟩, ⟨.e 39, .mv, [.t 40], none⟩] [0, 1, 2, 3, 9, 10, 27, 39] []) (
 .cond (.t 39) (.seq (.reg [ ⟨.e 41, .mv, [.t 3], none⟩, ⟨.e 42, .bin .eql, [.t 41, .k (.int .i64 0)], none⟩] [0, 1, 2, 3, 9, 10, 42] []) ( .cond (.t 42) (.reg [ ⟨.e 43, .mv, [.t 9], none⟩, ⟨.e 44, .mv, [.t 0], none⟩, ⟨.e 45, .mv, [.t 10], none⟩, ⟨.a 46, .ia 4, [.t 44, .t 45], none⟩, ⟨.a 47, .fa 2, [.a 46], none⟩, ⟨.e 48, .ld false 1, [.a 47], none⟩, ⟨.e 49, .bin .sub, [.t 43, .t 48], none⟩,
 ⟨.e 9, .mv, [.t 49], none⟩] [0, 1, 2, 3, 9, 10] []) (.skip))) (.seq (.reg [ ⟨.e 51, .bin .eql, [.t 27, .k (.int .i64 3)], none⟩, ⟨.e 50, .mv, [.t 51], none⟩] [0, 1, 2, 3, 9, 10, 27, 50] []) ( .cond (.t 50) (.seq (.reg [ ⟨.e 52, .mv, [.t 3], none⟩, ⟨.e 53, .bin .eql, [.t 52, .k (.int .i64 1)], none⟩] [0, 1, 2, 3, 9, 10, 53] []) ( .cond (.t 53) (.reg [ ⟨.e 54, .mv, [.t 9], none⟩,
 ⟨.e 55, .bin .add, [.t 54, .k (.int .i64 1)], none⟩, ⟨.e 9, .mv, [.t 55], none⟩] [0, 1, 2, 3, 9, 10] []) (.skip))) (.seq (.reg [ ⟨.e 57, .bin .eql, [.t 27, .k (.int .i64 4)], none⟩, ⟨.e 56, .mv, [.t 57], none⟩] [0, 1, 2, 3, 9, 10, 56] []) ( .cond (.t 56) (.seq (.reg [ ⟨.e 58, .mv, [.t 3], none⟩, ⟨.e 59, .bin .eql, [.t 58, .k (.int .i64 1)], none⟩] [0, 1, 2, 3, 9, 10, 59] []) (
 .cond (.t 59) (.reg [ ⟨.e 60, .mv, [.t 9], none⟩, ⟨.e 61, .bin .sub, [.t 60, .k (.int .i64 1)], none⟩, ⟨.e 9, .mv, [.t 61], none⟩] [0, 1, 2, 3, 9, 10] []) (.skip))) (.skip))))))))))))) ( .reg [ ⟨.e 14, .mv, [.t 10], none⟩, ⟨.e 15, .bin .add, [.t 14, .k (.int .i64 1)], none⟩, ⟨.e 10, .mv, [.t 15], none⟩] [0, 1, 2, 3, 9, 10] [])))
noncomputable def c164 : Fn := ⟨4, 211209413197824, 0, true, [.t 8], .seq (.reg [ ⟨.e 8, .mv, [.k (.int .i64 0)], none⟩] [0, 1, 2, 3] []) ( .seq (.reg [ ⟨.e 9, .mv, [.k (.int .i64 0)], none⟩] [0, 1, 2, 3, 9] []) ( .seq (.seq (.reg [ ⟨.e 10, .mv, [.k (.int .i64 0)], none⟩] [0, 1, 2, 3, 9, 10] []) ( .block 0 ( L164_1))) ( .seq (.reg [ ⟨.e 62, .mv, [.t 9], none⟩, ⟨.e 8, .mv, [.t 62], none⟩] [8] []) (
 .ret))))⟩
structure HasA (F : Nat → Option Fn) : Prop where
 h28 : F 28 = some c28
 h49 : F 49 = some c49
 h91 : F 91 = some c91
 h106 : F 106 = some c106
 h111 : F 111 = some c111
 h112 : F 112 = some c112
 h113 : F 113 = some c113
 h114 : F 114 = some c114
 h116 : F 116 = some c116
 h120 : F 120 = some c120
 h121 : F 121 = some c121
 h122 : F 122 = some c122
 h144 : F 144 = some c144
 h145 : F 145 = some c145
 h146 : F 146 = some c146
 h147 : F 147 = some c147
 h153 : F 153 = some c153
 h154 : F 154 = some c154
 h155 : F 155 = some c155
 h163 : F 163 = some c163
 h164 : F 164 = some c164
end Go.Am
namespace Go.Am
noncomputable def L45_1 : AC := .loop [0, 1, 5] [] ( .seq (.seq (.reg [ ⟨.e 11, .mv, [.t 5], none⟩, ⟨.e 12, .mv, [.t 0], none⟩, ⟨.e 13, .len false, [.t 12], none⟩, ⟨.e 14, .bin .lss, [.t 11, .t 13], none⟩] [0, 1, 5, 14] []) ( .cond (.t 14) (.skip) (.exit 0))) ( .seq (.block 1 ( .seq (.dreg [ ⟨.e 17, .mv, [.t 0], none⟩, ⟨.e 18, .mv, [.t 5], none⟩, ⟨.a 19, .ia 1, [.t 17, .t 18], none⟩,
 ⟨.e 20, .ld false 1, [.a 19], none⟩, ⟨.e 21, .mv, [.t 1], none⟩, ⟨.e 22, .mv, [.t 5], none⟩, ⟨.a 23, .ia 1, [.t 21, .t 22], none⟩, ⟨.e 24, .ld false 1, [.a 23], none⟩, ⟨.e 25, .bin .neq, [.t 20, .t 24], none⟩] [] [0, 1, 5, 25] []) ( .cond (.t 25) (.seq (.reg [ ⟨.e 4, .mv, [.k (.bool false)], none⟩] [4] []) ( .ret)) (.skip)))) ( .reg [ ⟨.e 15, .mv, [.t 5], none⟩,
 ⟨.e 16, .bin .add, [.t 15, .k (.int .i64 1)], none⟩, ⟨.e 5, .mv, [.t 16], none⟩] [0, 1, 5] [])))
noncomputable def c45 : Fn := ⟨2, 8912896, 0, true, [.t 4], .seq (.reg [ ⟨.e 4, .mv, [.k (.bool false)], none⟩] [0, 1] []) ( .seq (.seq (.reg [ ⟨.e 6, .mv, [.t 0], none⟩, ⟨.e 7, .len false, [.t 6], none⟩, ⟨.e 8, .mv, [.t 1], none⟩, ⟨.e 9, .len false, [.t 8], none⟩, ⟨.e 10, .bin .neq, [.t 7, .t 9], none⟩] [0, 1, 10] []) ( .cond (.t 10) (.seq (.reg [ ⟨.e 4, .mv, [.k (.bool false)], none⟩] [4] []) (
 .ret)) (.skip))) ( .seq (.seq (.reg [ ⟨.e 5, .mv, [.k (.int .i64 0)], none⟩] [0, 1, 5] []) ( .block 0 ( L45_1))) ( .seq (.reg [ ⟨.e 4, .mv, [.k (.bool true)], none⟩] [4] []) ( .ret))))⟩
noncomputable def L93_1 : AC := .loop [1, 2, 3, 9, 10, 11] [4] ( .seq (.seq (.reg [ ⟨.e 13, .mv, [.t 11], none⟩, ⟨.e 14, .mv, [.t 2], none⟩, ⟨.e 15, .bin .lss, [.t 13, .t 14], none⟩] [1, 2, 3, 9, 10, 11, 15] [4]) ( .cond (.t 15) (.skip) (.exit 0))) ( .seq (.block 1 ( .seq (.reg [ ⟨.a 18, .fa 3, [.b 4], none⟩, ⟨.e 19, .ld false 1, [.a 18], none⟩, ⟨.e 20, .mv, [.t 11], none⟩,
 ⟨.a 21, .ia 4, [.t 19, .t 20], none⟩, ⟨.e 22, .ld true 4, [.a 21], none⟩, ⟨.x 12, .box, [.k (.agg [(.int .i64 0), (.int .i64 0), (.int .i64 0), (.bool false)])], none⟩, ⟨.n, .st 4, [.b 12, .t 22], none⟩] [1, 2, 3, 9, 10, 11] [4, 12]) ( .seq (.seq (.reg [ ⟨.a 23, .fa 1, [.b 12], none⟩, ⟨.e 24, .ld false 1, [.a 23], none⟩, ⟨.e 25, .mv, [.t 1], none⟩,
 ⟨.e 26, .bin .neq, [.t 24, .t 25], none⟩] [1, 2, 3, 9, 10, 11, 26] [4, 12]) ( .cond (.t 26) (.exit 1) (.skip))) ( .seq (.seq (.reg [ ⟨.a 27, .fa 0, [.b 12], none⟩, ⟨.e 28, .ld false 1, [.a 27], none⟩, ⟨.e 29, .bin .eql, [.t 28, .k (.int .i64 1)], none⟩] [1, 2, 3, 9, 10, 11, 29] [4, 12]) ( .cond (.t 29) (.seq (.reg [ ⟨.e 30, .mv, [.t 9], none⟩, ⟨.a 31, .fa 2, [.b 12], none⟩,
 ⟨.e 32, .ld false 1, [.a 31], none⟩, ⟨.e 33, .bin .add, [.t 30, .t 32], none⟩, ⟨.e 9, .mv, [.t 33], none⟩] [1, 2, 3, 9, 10, 11] [4, 12]) ( .seq (.reg [ ⟨.a 34, .fa 3, [.b 12], none⟩, ⟨.e 35, .ld false 1, [.a 34], none⟩] [1, 2, 3, 9, 10, 11, 35] [4, 12]) ( .cond (.t 35) (.reg [ ⟨.e 36, .mv, [.t 10], none⟩, ⟨.a 37, .fa 2, [.b 12], none⟩, ⟨.e 38, .ld false 1, [.a 37], none⟩,
 ⟨.e 39, .bin .add, [.t 36, .t 38], none⟩, ⟨.e 10, .mv, [.t 39], none⟩] [1, 2, 3, 9, 10, 11] [4, 12]) (.skip)))) (.skip))) ( .seq (.reg [ ⟨.a 40, .fa 0, [.b 12], none⟩, ⟨.e 41, .ld false 1, [.a 40], none⟩, ⟨.e 42, .bin .eql, [.t 41, .k (.int .i64 2)], none⟩] [1, 2, 3, 9, 10, 11, 42] [4, 12]) ( .cond (.t 42) (.seq (.reg [ ⟨.e 43, .mv, [.t 9], none⟩, ⟨.a 44, .fa 2, [.b 12], none⟩,
 ⟨.e 45, .ld false 1, [.a 44], none⟩, ⟨.e 46, .bin .sub, [.t 43, .t 45], none⟩, ⟨.e 9, .mv, [.t 46], none⟩] [1, 2, 3, 9, 10, 11] [4, 12]) ( .reg [ ⟨.e 47, .mv, [.t 10], none⟩, ⟨.a 48, .fa 2, [.b 12], none⟩, ⟨.e 49, .ld false 1, [.a 48], none⟩, ⟨.e 50, .bin .sub, [.t 47, .t 49], none⟩, ⟨.e 51, .mx, [.t 50, .k (.int .i64 0)], none⟩,
 ⟨.e 10, .mv, [.t 51], none⟩] [1, 2, 3, 9, 10, 11] [4])) (.skip))))))) ( .reg [ ⟨.e 16, .mv, [.t 11], none⟩, ⟨.e 17, .bin .add, [.t 16, .k (.int .i64 1)], none⟩, ⟨.e 11, .mv, [.t 17], none⟩] [1, 2, 3, 9, 10, 11] [4])))
noncomputable def c93 : Fn := ⟨4, 300323585654784, 4112, true, [.t 8], .seq (.reg [ ⟨.x 4, .box, [.t 0], none⟩, ⟨.e 8, .mv, [.k (.int .i64 0)], none⟩] [1, 2, 3] [4]) ( .seq (.reg [ ⟨.e 9, .mv, [.k (.int .i64 0)], none⟩, ⟨.e 10, .mv, [.k (.int .i64 0)], none⟩] [1, 2, 3, 9, 10] [4]) ( .seq (.seq (.reg [ ⟨.e 11, .mv, [.k (.int .i64 0)], none⟩] [1, 2, 3, 9, 10, 11] [4]) ( .block 0 ( L93_1))) (
 .seq (.seq (.reg [ ⟨.e 52, .mv, [.t 3], none⟩] [9, 10, 52] []) ( .cond (.t 52) (.seq (.reg [ ⟨.e 53, .mv, [.t 10], none⟩, ⟨.e 8, .mv, [.t 53], none⟩] [8] []) ( .ret)) (.skip))) ( .seq (.reg [ ⟨.e 54, .mv, [.t 9], none⟩, ⟨.e 8, .mv, [.t 54], none⟩] [8] []) ( .ret)))))⟩
structure HasB (F : Nat → Option Fn) : Prop where
 h45 : F 45 = some c45
 h93 : F 93 = some c93
end Go.Am
namespace Go.Am
noncomputable def L150_1 : AC := .loop [0, 1, 7, 8] [] ( .seq (.reg [ ⟨.e 9, .bin .lss, [.t 8, .t 7], none⟩] [0, 1, 7, 8, 9] []) ( .seq (.cond (.t 9) (.skip) (.exit 0)) ( .seq (.block 1 ( .seq (.reg [ ⟨.e 10, .mv, [.t 8], none⟩, ⟨.e 5, .mv, [.t 10], none⟩] [0, 1, 5, 7, 8] []) ( .seq (.reg [ ⟨.e 11, .mv, [.t 1], none⟩, ⟨.e 12, .mv, [.t 0], none⟩, ⟨.e 13, .mv, [.t 5], none⟩,
 ⟨.a 14, .ia 1, [.t 12, .t 13], none⟩, ⟨.e 15, .ld false 1, [.a 14], none⟩, ⟨.e 16, .bin .eql, [.t 11, .t 15], none⟩] [0, 1, 5, 7, 8, 16] []) ( .cond (.t 16) (.seq (.reg [ ⟨.e 17, .mv, [.t 5], none⟩, ⟨.e 4, .mv, [.t 17], none⟩] [4] []) ( .ret)) (.skip))))) ( .reg [ ⟨.e 18, .bin .add, [.t 8, .k (.int .i64 1)], none⟩, ⟨.e 8, .mv, [.t 18], none⟩] [0, 1, 7, 8] []))))
noncomputable def c150 : Fn := ⟨2, 16384, 0, true, [.t 4], .seq (.reg [ ⟨.e 4, .mv, [.k (.int .i64 0)], none⟩] [0, 1] []) ( .seq (.seq (.reg [ ⟨.e 6, .mv, [.t 0], none⟩, ⟨.e 7, .len false, [.t 6], none⟩, ⟨.e 8, .mv, [.k (.int .i64 0)], none⟩] [0, 1, 7, 8] []) ( .block 0 ( L150_1))) ( .seq (.reg [ ⟨.e 4, .mv, [.k (.int .i64 (-1))], none⟩] [4] []) ( .ret)))⟩
end Go.Am
