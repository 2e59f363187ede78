/- One operation, and regions in the order of the text. -/
import Derived.Test.YtflfnkdhmcfjlaaChk
namespace Go.Am
open Go

/-! ### Sets of temporaries as numbers -/
def bits (m nt : Nat) : List Nat := (List.range nt).filter fun t => m.testBit t
theorem mem_bits {m nt t : Nat} : t ∈ bits m nt ↔ t < nt ∧ m.testBit t = true := by simp [bits]

def okD (A B nt : Nat) : D → Option Tmp → Bool
  | .e d, some t => Nat.beq t d && !A.testBit d && !B.testBit d && Nat.blt d nt
  | .a d, some t => Nat.beq t d && A.testBit d && Nat.blt d nt
  | .x d, some t => Nat.beq t d && B.testBit d && Nat.blt d nt
  | .n, none => true
  | _, _ => false

theorem okD_spec {A B nt : Nat} {fr : Fr} (hA : fr.AS = bits A nt) (hB : fr.BS = bits B nt) (hn : fr.nt = nt) {d : D} {t : Option Tmp} (h : okD A B nt d t = true) : DOk fr d t := by
  unfold okD at h
  split at h
  · rename_i d t
    simp only [Bool.and_eq_true, Bool.not_eq_true', Nat.blt_eq] at h
    obtain ⟨⟨⟨h1, h2⟩, h3⟩, h4⟩ := h
    have := Nat.eq_of_beq_eq_true h1
    subst this
    exact ⟨rfl, by rw [hA, mem_bits, h2]; simp, by rw [hB, mem_bits, h3]; simp, by rw [hn]; exact h4⟩
  · rename_i d t
    simp only [Bool.and_eq_true, Nat.blt_eq] at h
    obtain ⟨⟨h1, h2⟩, h4⟩ := h
    have := Nat.eq_of_beq_eq_true h1
    subst this
    exact ⟨rfl, by rw [hA, mem_bits]; exact ⟨h4, h2⟩, by rw [hn]; exact h4⟩
  · rename_i d t
    simp only [Bool.and_eq_true, Nat.blt_eq] at h
    obtain ⟨⟨h1, h2⟩, h4⟩ := h
    have := Nat.eq_of_beq_eq_true h1
    subst this
    exact ⟨rfl, by rw [hB, mem_bits]; exact ⟨h4, h2⟩, by rw [hn]; exact h4⟩
  · rfl
  · cases h

def okG (ops : Array Oper) : Option (Nat × Bool) → Option (Nat × Bool) → Bool
  | none, none => true
  | some (t, b), some (j, b') => (b == b') && (match (ops[j]?).bind (·.dst) with
    | some t' => Nat.beq t' t
    | none => false)
  | _, _ => false

noncomputable def isFrz : K → Bool
  | .frz _ => true
  | _ => false

noncomputable def okOper (P : Program) (A B nt : Nat) (pure : Bool) (ops : Array Oper) (op : Op) (o : Oper) : Bool :=
  okD A B nt op.d o.dst && okG ops op.g o.guard && okKind P op.k op.d op.os o.op && (pure || !isFrz op.k)

theorem plan_not_al {k : K} {vs : List V} {p : Plan} (h : plan k vs = some p) (hk : k.allocs = false) : p.al = false := by
  cases k <;> first | (cases hk; done) | skip
  all_goals simp only [plan, plan_mv, plan_pmv, plan_pick, plan_bin, plan_bq, plan_sq, plan_aq, plan_nq, plan_sadd, plan_not, plan_cvt, plan_cvs, plan_bts, plan_ext, plan_len, plan_mx, plan_mn, plan_bld, plan_lit, plan_six, plan_fld, plan_sl, plan_fa, plan_ia, plan_iaa, plan_nc, plan_ld, plan_st, plan_box, plan_call, plan_callv, plan_mkf, plan_look, plan_upd, plan_frz, plan_cpy, binPlan] at h
  all_goals repeat' split at h
  all_goals first
    | (cases h; rfl)
    | (cases h; done)
    | (simp only [Option.map_eq_some_iff] at h; obtain ⟨_, _, rfl⟩ := h; rfl)

theorem plan_fz {k : K} {vs : List V} {t sz : Nat} (h : plan k vs = some (.frz t sz)) : isFrz k = true := by
  cases k <;> first | rfl | skip
  all_goals simp only [plan, plan_mv, plan_pmv, plan_pick, plan_bin, plan_bq, plan_sq, plan_aq, plan_nq, plan_sadd, plan_not, plan_cvt, plan_cvs, plan_bts, plan_ext, plan_len, plan_mx, plan_mn, plan_bld, plan_lit, plan_hlit, plan_six, plan_fld, plan_sl, plan_fa, plan_ia, plan_iaa, plan_nc, plan_ld, plan_st, plan_box, plan_hbox, plan_mk, plan_app, plan_call, plan_callv, plan_mkf, plan_mkm, plan_look, plan_upd, plan_cpy, binPlan] at h
  all_goals repeat' split at h
  all_goals first
    | (cases h; done)
    | (simp only [Option.map_eq_some_iff] at h; obtain ⟨_, _, h⟩ := h; cases h; done)

/-! ### The state of a frame on its way -/
structure Inv (fr : Fr) (g0 : Gh) (mem0 : Mem) (g : Gh) (st : St) (a : Act) (w : World) : Prop where
  sim : Sim fr g st a w
  fresh : FreshFrom g st.mem st.mem.next
  lo : fr.lo ≤ st.mem.next
  le : Gh.le g0 g
  next : mem0.next ≤ st.mem.next
  blk : ∀ k, k < mem0.next → mem0.blk k = none → st.mem.blk k = none
  φ : ∀ k, k < mem0.next → g0.φ k = none → g.φ k = none
  I : ∀ b, g.I b → g0.I b ∨ fr.n0 ≤ b

/-- What is known behind a step that may have taken handle h. -/
structure InvH (fr : Fr) (g0 : Gh) (mem0 : Mem) (g : Gh) (mem : Mem) (h : Nat) (al : Bool) (g' : Gh) (st' : St) (a : Act) (w : World) : Prop where
  sim : Sim fr g' st' a w
  after : After g mem g' st'.mem h al
  lo : fr.lo ≤ st'.mem.next
  le : Gh.le g0 g'
  next : mem0.next ≤ st'.mem.next
  blk : ∀ k, k < mem0.next → mem0.blk k = none → st'.mem.blk k = none
  φ : ∀ k, k < mem0.next → g0.φ k = none → g'.φ k = none
  I : ∀ b, g'.I b → g0.I b ∨ fr.n0 ≤ b

section
variable {P : Program} {ck : Callk} {fr : Fr} {g0 : Gh} {mem0 : Mem} {g : Gh} {st st' : St} {a : Act} {w : World} {A B nt : Nat} {pure : Bool} {ops : Array Oper}

theorem Inv.of_sim (i : Inv fr g0 mem0 g st a w) {st' : St} {a' : Act} (s : Sim fr g st' a' w) (hm : st'.mem = st.mem) : Inv fr g0 mem0 g st' a' w :=
  ⟨s, by rw [hm]; exact i.fresh, by rw [hm]; exact i.lo, i.le, by rw [hm]; exact i.next, by rw [hm]; exact i.blk, i.φ, i.I⟩

theorem Inv.toH (i : Inv fr g0 mem0 g st a w) {st' : St} {a' : Act} (s : Sim fr g st' a' w) (hm : st'.mem = st.mem) (h : Nat) : InvH fr g0 mem0 g st.mem h false g st' a' w where
  sim := s
  after := .same i.fresh (.refl g) rfl (by rw [hm]) (by rw [hm]; exact fun _ h => h)
  lo := by rw [hm]; exact i.lo
  le := i.le
  next := by rw [hm]; exact i.next
  blk := by rw [hm]; exact i.blk
  φ := i.φ
  I := i.I

theorem skip_sound (hA : fr.AS = bits A nt) (hB : fr.BS = bits B nt) (hn : fr.nt = nt) (i : Inv fr g0 mem0 g st a w) {d : D} {dst : Option Tmp} (hd : okD A B nt d dst = true) (hs : skipOp st d = some st') : Sim fr g st' (a.put dst undef) w ∧ st'.mem = st.mem := by
  have hd' := okD_spec hA hB hn hd
  have hp : put st d .und = some st' := by
    cases d <;> exact hs
  exact put_sound i.sim hd' (DImg.of_img (.pure .und)) hp

theorem guard_spec (s : Sim fr g st a w) {t : Nat} {want : Bool} {v : V} {o : Oper} (hg : okG ops (some (t, want)) o.guard = true) (hv : st.env.get t = some v) :
    (v = .und → Region.wanted o (yielded ops a.tmps) = false) ∧ ∀ b, v = .bool b → Region.wanted o (yielded ops a.tmps) = (b == want) := by
  unfold okG at hg
  generalize ho : o.guard = og at hg
  split at hg
  · rename_i h; cases h
  · rename_i t' b' j b'' h1
    have h2 := ho
    cases h1
    simp only [Bool.and_eq_true, beq_iff_eq] at hg
    obtain ⟨rfl, hg⟩ := hg
    split at hg
    · rename_i t2 ht2
      have e := Nat.eq_of_beq_eq_true hg
      subst e
      obtain ⟨_, _, x, hx, hi⟩ := s.env _ _ hv
      have hy : yielded ops a.tmps j = (match x with | .bool b => some b | _ => none) := by
        unfold yielded
        rw [ht2]
        simp only [Option.bind_some, hx]
        cases x <;> rfl
      refine ⟨fun e => ?_, fun b e => ?_⟩
      · subst e
        have := hi.und_inv
        subst this
        simp [Region.wanted, h2, hy, undef]
      · subst e
        have := hi.bool_inv
        subst this
        simp only [Region.wanted, h2, hy]
        cases b <;> cases want <;> rfl
    · cases hg
  · cases hg

theorem step_sound (hck : CkOk P src ck) (hcd : ∀ f args lo m r, ck f args lo m = some r → callable P (src f) = true) (hA : fr.AS = bits A nt) (hB : fr.BS = bits B nt) (hn : fr.nt = nt) (hS : pure = true → ∀ b, ¬ fr.S0 b)
    (i : Inv fr g0 mem0 g st a w) {h : Nat} (hh : st.mem.blk h = none ∧ g.φ h = none) (hhm : mem0.next ≤ h) {op : Op} {o : Oper} (hok : okOper P A B nt pure ops op o = true) (hs : step ck fr.lo h st op = some st')
    {next : Act → World → Prop} {Q : Exit → Act → World → Prop} (hnext : ∀ g' a' w', InvH fr g0 mem0 g st.mem h op.k.allocs g' st' a' w' → next a' w') :
    if Region.wanted o (yielded ops a.tmps) then o.wp P a w next Q else next (a.put o.dst undef) w := by
  unfold okOper at hok
  simp only [Bool.and_eq_true, Bool.or_eq_true] at hok
  obtain ⟨⟨⟨hd, hg⟩, hk⟩, hz⟩ := hok
  have weaken : ∀ {g' : Gh} {st' : St} {a' : Act} {w' : World}, InvH fr g0 mem0 g st.mem h false g' st' a' w' → InvH fr g0 mem0 g st.mem h op.k.allocs g' st' a' w' := fun q =>
    { q with after := { q.after with fresh := fun k hk _ => q.after.fresh k hk (fun e => by cases e) } }
  have hexec : exec ck fr.lo h st op = some st' → o.wp P a w next Q := by
    intro he
    unfold exec at he
    split at he
    · cases he
    · rename_i vs hvs
      split at he
      · cases he
      · rename_i p hp
        have hcall : ∀ f args, p = .call f args → callable P (src f) = true := by
          rintro f args rfl
          simp only [act] at he
          split at he
          · cases he
          · rename_i hc
            exact hcd _ _ _ _ _ hc
        have hPR := kind_sound i.sim hh.2 hk hvs hp hcall
        unfold Oper.wp
        refine act_sound hck i.sim i.fresh i.lo hh (okD_spec hA hB hn hd) hPR he (fun g' a' w' s' haft hI => hnext g' a' w' ?_)
        refine ⟨s', ?_, Nat.le_trans i.lo haft.next, i.le.trans haft.le, Nat.le_trans i.next haft.next, fun k hk1 hk2 => haft.blk k (by omega) (Nat.lt_of_lt_of_le hk1 i.next) (i.blk k hk1 hk2), fun k hk1 hk2 => haft.φ k (by omega) (Nat.lt_of_lt_of_le hk1 i.next) (i.φ k hk1 hk2), fun b hb => ?_⟩
        · cases hal : op.k.allocs with
          | true => exact { haft with fresh := fun k hk1 hk2 => haft.fresh k hk1 (fun _ => hk2 rfl) }
          | false => rw [plan_not_al hp hal] at haft; exact haft
        · rcases hI b hb with h1 | h1 | h1
          · exact i.I b h1
          · exact .inr (Nat.le_trans i.sim.keep.size h1)
          · cases p with
            | frz t sz =>
              obtain ⟨h', B', l, h2, h3, h4, rfl⟩ := h1
              rcases i.sim.own h' B' l h2 h3 h4 with h5 | h5
              · exact .inr h5
              · rcases hz with hz | hz
                · exact absurd h5 (hS hz _)
                · rw [plan_fz hp] at hz; cases hz
            | _ => exact h1.elim
  unfold step at hs
  split at hs
  · rename_i hgn
    have hw : Region.wanted o (yielded ops a.tmps) = true := by
      rw [hgn] at hg
      unfold okG at hg
      generalize ho : o.guard = og at hg
      split at hg
      · simp [Region.wanted, ho]
      · rename_i h1; cases h1
      · cases hg
    rw [if_pos hw]
    exact hexec hs
  · rename_i t want hgs
    rw [hgs] at hg
    split at hs
    · rename_i b hb
      have hw := (guard_spec i.sim hg hb).2 b rfl
      split at hs
      · rename_i e
        rw [if_pos (by rw [hw, e]; simp)]
        exact hexec hs
      · rename_i e
        rw [if_neg (by rw [hw]; simpa using e)]
        obtain ⟨s1, hm⟩ := skip_sound hA hB hn i hd hs
        exact hnext g _ w (weaken (i.toH s1 hm h))
    · rename_i hb
      have hw := (guard_spec i.sim hg hb).1 rfl
      rw [if_neg (by rw [hw]; simp)]
      obtain ⟨s1, hm⟩ := skip_sound hA hB hn i hd hs
      exact hnext g _ w (weaken (i.toH s1 hm h))
    · cases hs

/-! ### Cutting and bumping -/
theorem pick_get : ∀ {live : List Nat} {e : Env} {t : Nat} {v : V}, (pick live e).get t = some v → e.get t = some v
  | [], e, t, v, h => by cases h
  | l :: live, e, t, v, h => by
    have hp : pick (l :: live) e = Option.rec (motive := fun _ => Env) (pick live e) (fun v => (l, v) :: pick live e) (e.get l) := rfl
    rw [hp] at h
    cases hl : e.get l with
    | none => rw [hl] at h; exact pick_get h
    | some u =>
      rw [hl] at h
      simp only [Env.get_cons] at h
      split at h
      · rename_i e1; subst e1; cases h; exact hl
      · exact pick_get h

theorem Sim.cut (s : Sim fr g st a w) (lv lb : List Nat) : Sim fr g (st.cut lv lb) a w :=
  ⟨s.mem, fun t v h => s.env t v (pick_get h), fun t e h => s.bx t e (pick_get h), fun t t' e e' b hne h h' => s.bxd t t' e e' b hne (pick_get h) (pick_get h'), fun t v h => (by cases h), s.size, s.defers, s.keep, s.own⟩

theorem Inv.cut (i : Inv fr g0 mem0 g st a w) (lv lb : List Nat) : Inv fr g0 mem0 g (st.cut lv lb) a w := i.of_sim (i.sim.cut lv lb) rfl

theorem Sim.bump (s : Sim fr g st a w) (n : Nat) : Sim fr g { st with mem := st.mem.bump n } a w :=
  ⟨⟨s.mem.blk, s.mem.inj, s.mem.lt⟩, s.env, fun t e h => let ⟨h1, b, h2, h3⟩ := s.bx t e h; ⟨h1, b, h2, ⟨h3.cells, h3.out, h3.new, h3.free⟩⟩, s.bxd, s.ad, s.size, s.defers, s.keep, s.own⟩

theorem InvH.inv {h : Nat} {al : Bool} {g' : Gh} (q : InvH fr g0 mem0 g st.mem h al g' st' a w) (hlt : al = true → h < st'.mem.next) : Inv fr g0 mem0 g' st' a w :=
  ⟨q.sim, fun k hk => q.after.fresh k hk (fun e => by have := hlt e; omega), q.lo, q.le, q.next, q.blk, q.φ, q.I⟩

theorem InvH.bumped {al : Bool} {g' : Gh} (q : InvH fr g0 mem0 g st.mem st.mem.next al g' st' a w) : Inv fr g0 mem0 g' (cond al { st' with mem := st'.mem.bump 1 } st') a w := by
  cases al with
  | false => exact q.inv (fun e => by cases e)
  | true =>
    have hn := q.after.next
    refine ⟨q.sim.bump 1, fun k hk => q.after.fresh k ?_ (fun _ => ?_), Nat.le_trans q.lo (Nat.le_add_right _ _), q.le, Nat.le_trans q.next (Nat.le_add_right _ _), q.blk, q.φ, q.I⟩
    · have : st'.mem.next + 1 ≤ k := hk
      omega
    · have : st'.mem.next + 1 ≤ k := hk
      omega

/-! ### A region in the order of the text -/
noncomputable def okOps (P : Program) (A B nt : Nat) (pure : Bool) (ops : Array Oper) : List Op → List Oper → Bool
  | [], [] => true
  | p :: ps, o :: os => okOper P A B nt pure ops p o && okOps P A B nt pure ops ps os
  | _, _ => false

theorem runOps_nil (lo : Nat) : runOps ck lo [] st = some st := rfl
theorem runOps_cons (lo : Nat) (o : Op) (os : List Op) : runOps ck lo (o :: os) st = (match step ck lo st.mem.next st o with
    | none => none
    | some st' => runOps ck lo os (cond o.k.allocs { st' with mem := st'.mem.bump 1 } st')) := by
  show Option.rec (motive := fun _ => Option St) none (fun st' => runOps ck lo os (cond o.k.allocs { st' with mem := st'.mem.bump 1 } st')) (step ck lo st.mem.next st o) = _
  cases step ck lo st.mem.next st o <;> rfl

theorem ops_sound (hck : CkOk P src ck) (hcd : ∀ f args lo m r, ck f args lo m = some r → callable P (src f) = true) (hA : fr.AS = bits A nt) (hB : fr.BS = bits B nt) (hn : fr.nt = nt) (hS : pure = true → ∀ b, ¬ fr.S0 b) {Q : Exit → Act → World → Prop} :
    ∀ (ps : List Op) (os : List Oper) {g : Gh} {st st' : St} {a : Act} {w : World}, okOps P A B nt pure ops ps os = true → Inv fr g0 mem0 g st a w → runOps ck fr.lo ps st = some st' → (∀ g' a' w', Inv fr g0 mem0 g' st' a' w' → Q .normal a' w') → wpList P ops Q os a w
  | [], [], g, st, st', a, w, _, i, hr, hQ => by
    cases hr
    exact hQ g a w i
  | p :: ps, o :: os, g, st, st', a, w, hok, i, hr, hQ => by
    simp only [okOps, Bool.and_eq_true] at hok
    rw [runOps_cons] at hr
    split at hr
    · cases hr
    · rename_i st1 hst
      refine wpList_step fun K hK => ?_
      refine step_sound hck hcd hA hB hn hS i (i.fresh _ (Nat.le_refl _)) i.next hok.1 hst (fun g' a' w' q => hK _ _ ?_)
      exact ops_sound hck hcd hA hB hn hS ps os hok.2 q.bumped hr hQ
  | [], _ :: _, _, _, _, _, _, hok, _, _, _ => by cases hok
  | _ :: _, [], _, _, _, _, _, hok, _, _, _ => by cases hok
end
end Go.Am
