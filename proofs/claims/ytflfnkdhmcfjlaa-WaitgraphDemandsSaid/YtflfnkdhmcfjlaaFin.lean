/- Regions whose order is open: which pairs may change places, as the checker asks. -/
import Derived.Test.YtflfnkdhmcfjlaaDrw
namespace Go.Am
open Go

noncomputable section
/-- Kinds whose plan is always a value. -/
def K.isRet : K → Bool
  | .mv | .pmv | .pick | .bin _ | .bq _ | .sq _ | .aq _ _ | .nq _ | .sadd | .not | .cvt _ | .cvs | .ext _ | .len _ | .mx | .mn | .bld _ _ | .lit _ _ _ _ | .six | .fld _ _ _ | .sl _ _ _ _ | .fa _ | .ia _ | .iaa _ _ | .nc | .mkf _ => true
  | _ => false
/-- Kinds that write nothing. -/
def K.isRd : K → Bool
  | .bts | .ld _ _ | .look _ _ _ => true
  | k => k.isRet
def K.isCall : K → Bool
  | .call _ | .callv => true
  | _ => false
def K.isAl : K → Bool
  | .hlit _ _ _ _ | .hbox _ | .mk _ _ | .mkm => true
  | _ => false
def K.isBox : K → Bool
  | .box => true
  | _ => false
def K.quiet (k : K) : Bool := k.isRd || k.isCall
def D.isA' : D → Bool
  | .a _ => true
  | _ => false

def nmApartB (i j : Op) : Bool :=
  (match i.d.name with
  | some t => !(j.names.contains t) && (match j.d.name with
    | some t' => !(Nat.beq t' t)
    | none => true)
  | none => true) && (match j.d.name with
  | some t => !(i.names.contains t)
  | none => true)

def fineB (i j : Op) (dyn : Bool) : Bool :=
  nmApartB i j && ((i.k.quiet && j.k.quiet) || (i.k.isCall && (j.k.isAl || j.k.isBox)) || (i.k.isRet && !j.k.isCall) || (j.k.isRet && !i.k.isCall) || (dyn && !i.k.isCall && !j.k.isCall)) &&
  (!(i.d.isX && j.d.isA') || (dyn && j.k.isRet))
end

theorem nmApartB_spec {i j : Op} (h : nmApartB i j = true) : nmApart i j := by
  unfold nmApartB at h
  rw [Bool.and_eq_true] at h
  obtain ⟨h1, h2⟩ := h
  refine ⟨fun t ht => ?_, fun t ht => ?_⟩
  · rw [ht] at h1
    simp only [Bool.and_eq_true, Bool.not_eq_true'] at h1
    obtain ⟨h3, h4⟩ := h1
    refine ⟨fun hin => ?_, fun e => ?_⟩
    · have : j.names.contains t = true := by simpa using hin
      rw [h3] at this; cases this
    · rw [e] at h4
      simp at h4
  · rw [ht] at h2
    simp only [Bool.not_eq_true'] at h2
    intro hin
    have : i.names.contains t = true := by simpa using hin
    rw [h2] at this; cases this

theorem plan_ret {k : K} {vs : List V} {p : Plan} (h : plan k vs = some p) (hk : k.isRet = true) : ∃ v, p = .ret v := by
  cases k <;> first | (cases hk; done) | skip
  all_goals simp only [plan, plan_mv, plan_pmv, plan_pick, plan_bin, plan_bq, plan_sq, plan_aq, plan_nq, plan_sadd, plan_not, plan_cvt, plan_cvs, plan_ext, plan_len, plan_mx, plan_mn, plan_bld, plan_lit, plan_six, plan_fld, plan_sl, plan_fa, plan_ia, plan_iaa, plan_nc, plan_mkf, binPlan] at h
  all_goals repeat' split at h
  all_goals first
    | (cases h; exact ⟨_, rfl⟩)
    | (cases h; done)
    | (simp only [Option.map_eq_some_iff] at h; obtain ⟨_, _, rfl⟩ := h; exact ⟨_, rfl⟩)

def Plan.isRd : Plan → Bool
  | .ret _ | .rd _ _ | .rdb _ _ => true
  | _ => false

theorem plan_rd {k : K} {vs : List V} {p : Plan} (h : plan k vs = some p) (hk : k.isRd = true) : p.isRd = true := by
  by_cases hr : k.isRet = true
  · obtain ⟨v, rfl⟩ := plan_ret h hr; rfl
  · cases k <;> first | (exact absurd rfl hr) | (cases hk; done) | skip
    all_goals simp only [plan, plan_bts, plan_ld, plan_look] at h
    all_goals repeat' split at h
    all_goals first
      | (cases h; rfl)
      | (cases h; done)
      | (simp only [Option.map_eq_some_iff] at h; obtain ⟨_, _, rfl⟩ := h; rfl)

theorem plan_alloc {k : K} {vs : List V} {p : Plan} (h : plan k vs = some p) (hk : k.isAl = true) : ∃ b g, p = .alloc b g := by
  cases k <;> first | (cases hk; done) | skip
  all_goals simp only [plan, plan_hlit, plan_hbox, plan_mk, plan_mkm] at h
  all_goals repeat' split at h
  all_goals first
    | (cases h; exact ⟨_, _, rfl⟩)
    | (cases h; done)
    | (simp only [Option.map_eq_some_iff] at h; obtain ⟨_, _, rfl⟩ := h; exact ⟨_, _, rfl⟩)

theorem plan_bx {k : K} {vs : List V} {p : Plan} (h : plan k vs = some p) (hk : k.isBox = true) : ∃ e, p = .bx e := by
  cases k <;> first | (cases hk; done) | skip
  simp only [plan, plan_box] at h
  repeat' split at h
  all_goals first
    | (cases h; exact ⟨_, rfl⟩)
    | (cases h; done)

/-- What is known of an operation that was carried out. -/
structure AnnOk (base : Nat) (x : Ann) (ks : List Key) : Prop where
  skip : x.q = none → x.r = (.und, [], []) ∧ x.o.d.isX = false
  keys : ∀ p, x.q = some p → ks = x.o.d.keys ++ p.keys (base + x.i)
  plan : ∀ p, x.q = some p → ∃ vs, plan x.o.k vs = some p
  call : ∀ p, x.q = some p → p.isCall = true → x.r.2 = ([], [])
  wr : ∀ p, x.q = some p → p.isCall = false → (∀ k b, (k, b) ∈ x.r.2.1 → Key.h k ∈ p.keys (base + x.i)) ∧ (∀ t e, (t, e) ∈ x.r.2.2 → Key.bx t ∈ x.o.d.keys ++ p.keys (base + x.i))
  rd : ∀ p, x.q = some p → p.isRd = true → x.r.2 = ([], [])
  ret : ∀ v, x.q = some (.ret v) → x.r.1 = v
  al : ∀ b g, x.q = some (.alloc b g) → x.r.2.1 = [(base + x.i, some b)]
  bx : ∀ e, x.q = some (.bx e) → x.r.2.1 = []

section
variable {ck : Callk} {pf : Nat → Bool} {lo base : Nat}

theorem eff_isRd {h : Nat} {blk : Nat → Option Blk} {bg : Nat → Option V} {d : D} {p : Plan} {r : V × Wr × Bs} (he : eff lo h blk bg d p = some r) (hp : p.isRd = true) : r.2 = ([], []) := by
  have base : ∀ {o : Option V} , (o.map fun v => (v, ([] : Wr), ([] : Bs))) = some r → r.2 = ([], []) := by
    intro o h
    simp only [Option.map_eq_some_iff] at h
    obtain ⟨_, _, rfl⟩ := h
    rfl
  cases p <;> first | (cases hp; done) | skip
  · simp only [eff] at he
    split at he
    · cases he
    · cases he; rfl
  · simp only [eff] at he
    split at he
    · cases he
    · split at he
      · cases he
      · exact base he
  · simp only [eff] at he
    split at he
    · cases he
    · split at he
      · cases he
      · exact base he

theorem ann_ok {s : St} {x : Ann} (hpre : pre s x.o = some x.q) (hd : Does ck lo (base + x.i) s x.o x.r) : AnnOk base x (keysOf (base + x.i) s x.o) := by
  obtain ⟨i, o, q, r⟩ := x
  simp only at hpre hd
  have hkeys : ∀ p, q = some p → keysOf (base + i) s o = o.d.keys ++ p.keys (base + i) := by
    rintro p rfl
    obtain ⟨vs, h1, h2⟩ := pre_plan hpre
    unfold keysOf
    rw [h1]
    simp only [h2]
    cases o.d <;> rfl
  have hplan : ∀ p, q = some p → ∃ vs, Am.plan o.k vs = some p := by
    rintro p rfl
    obtain ⟨vs, _, h2⟩ := pre_plan hpre
    exact ⟨vs, h2⟩
  cases hd with
  | skip hp hx =>
    rw [hp] at hpre
    cases hpre
    exact ⟨fun _ => ⟨rfl, hx⟩, hkeys, hplan, fun p h => (by cases h), fun p h => (by cases h), fun p h => (by cases h), fun p h => (by cases h), fun p g h => (by cases h), fun p h => (by cases h)⟩
  | eff p r hp hc hf hl he =>
    rw [hp] at hpre
    cases hpre
    obtain ⟨v, ws, bs⟩ := r
    refine ⟨fun h => (by cases h), hkeys, hplan, fun p' h h' => ?_, fun p' h _ => ?_, fun p' h h' => ?_, fun v' h => ?_, fun b g h => ?_, fun e h => ?_⟩
    · cases h; rw [hc] at h'; cases h'
    · cases h
      exact ⟨(eff_writes he).1, fun t e ht => ((eff_writes he).2 t e ht).1⟩
    · cases h
      exact eff_isRd he h'
    · cases h
      simp only [Am.eff] at he
      split at he
      · cases he
      · cases he; rfl
    · cases h
      simp only [Am.eff] at he
      split at he
      · cases he
      · cases he; rfl
    · cases h
      cases ho : o.d with
      | x t => rw [ho] at he; cases he; rfl
      | _ => rw [ho] at he; cases he
  | call f args v hp hx hc =>
    rw [hp] at hpre
    cases hpre
    refine ⟨fun h => (by cases h), hkeys, hplan, fun p' h h' => rfl, fun p' h h' => ?_, fun p' h h' => rfl, fun v' h => (by cases h), fun b g h => (by cases h), fun e h => (by cases h)⟩
    cases h
    cases h'

theorem apart_h {as bs : List Key} (h : keysApart as bs = true) {k : Nat} (h1 : Key.h k ∈ as) (h2 : Key.h k ∈ bs) : False := by
  unfold keysApart at h
  have := List.all_eq_true.1 (List.all_eq_true.1 h _ h1) _ h2
  simp [Key.apart] at this
theorem apart_bx {as bs : List Key} (h : keysApart as bs = true) {k : Nat} (h1 : Key.bx k ∈ as) (h2 : Key.bx k ∈ bs) : False := by
  unfold keysApart at h
  have := List.all_eq_true.1 (List.all_eq_true.1 h _ h1) _ h2
  simp [Key.apart] at this

theorem rkeys_sub {p : Plan} {h : Nat} {k : Key} (hk : k ∈ p.rkeys h) : k ∈ p.keys h := by
  cases p <;> first | exact hk | cases hk

theorem can_of {x y : Ann} {kx ky : List Key} (hx : AnnOk base x kx) (hy : AnnOk base y ky) {dyn : Bool} (hf : fineB x.o y.o dyn = true) (hdyn : dyn = true → keysApart kx ky = true) : CanA base x y := by
  unfold fineB at hf
  simp only [Bool.and_eq_true] at hf
  obtain ⟨⟨hnm, hcls⟩, hloc⟩ := hf
  -- kinds that write nothing
  have quiet0 : ∀ {z : Ann} {kz : List Key}, AnnOk base z kz → z.o.k.quiet = true → z.r.2 = ([], []) := by
    intro z kz hz hq
    cases hq0 : z.q with
    | none => rw [(hz.skip hq0).1]
    | some p =>
      obtain ⟨vs, hp⟩ := hz.plan p hq0
      unfold K.quiet at hq
      rw [Bool.or_eq_true] at hq
      rcases hq with hq | hq
      · exact hz.rd p hq0 (plan_rd hp hq)
      · refine hz.call p hq0 ?_
        cases hk : z.o.k <;> rw [hk] at hq hp <;> first | (cases hq; done) | skip
        · simp only [Am.plan, plan_call] at hp; cases hp; rfl
        · simp only [Am.plan, plan_callv] at hp
          split at hp
          · split at hp
            · cases hp; rfl
            · cases hp
          · cases hp
  have notcall : ∀ {z : Ann} {kz : List Key}, AnnOk base z kz → z.o.k.isCall = false → ∀ f args, z.q = some (.call f args) → False := by
    intro z kz hz hk f args hq
    obtain ⟨vs, hp⟩ := hz.plan _ hq
    rcases plan_call_of hp with e | e <;> rw [e] at hk <;> cases hk
  have iscall : ∀ {z : Ann} {kz : List Key}, AnnOk base z kz → z.o.k.isCall = true → ∀ p, z.q = some p → p.isCall = false → False := by
    intro z kz hz hk p hq hc
    obtain ⟨vs, hp⟩ := hz.plan _ hq
    cases hk' : z.o.k <;> rw [hk'] at hk hp <;> first | (cases hk; done) | skip
    · simp only [Am.plan, plan_call] at hp; cases hp; cases hc
    · simp only [Am.plan, plan_callv] at hp
      split at hp
      · split at hp
        · cases hp; cases hc
        · cases hp
      · cases hp
  have isret : ∀ {z : Ann} {kz : List Key}, AnnOk base z kz → z.o.k.isRet = true → z.r.2 = ([], []) ∧ ∀ p, z.q = some p → ∀ h, p.rkeys h = [] := by
    intro z kz hz hk
    refine ⟨quiet0 hz (by unfold K.quiet K.isRd; cases hk' : z.o.k <;> rw [hk'] at hk <;> first | rfl | (cases hk; done)), fun p hq h => ?_⟩
    obtain ⟨vs, hp⟩ := hz.plan _ hq
    obtain ⟨v, rfl⟩ := plan_ret hp hk
    rfl
  have retcall : ∀ {k : K}, k.isRet = true → k.isCall = false := by intro k hk; cases k <;> first | rfl | (cases hk; done)
  have hl : ∀ t, x.o.d = .x t → ∀ t', y.o.d = .a t' → ∀ off, y.r.1 ≠ .loc t off := by
    intro t ht t' ht' off e
    simp only [Bool.or_eq_true, Bool.not_eq_true', Bool.and_eq_true] at hloc
    rcases hloc with h | ⟨h1, h2⟩
    · rw [ht, ht'] at h; cases h
    · have ha := hdyn h1
      cases hxq : x.q with
      | none => have := (hx.skip hxq).2; rw [ht] at this; cases this
      | some p =>
        have hkx := hx.keys p hxq
        cases hyq : y.q with
        | none => rw [(hy.skip hyq).1] at e; cases e
        | some p' =>
          obtain ⟨vs, hp'⟩ := hy.plan _ hyq
          obtain ⟨v, rfl⟩ := plan_ret hp' h2
          have hv := hy.ret v hyq
          rw [e] at hv
          subst hv
          have hky := hy.keys _ hyq
          exact apart_bx ha (k := t) (by rw [hkx, ht]; simp [D.keys]) (by rw [hky, ht']; simp [D.keys, Plan.keys])
  simp only [Bool.or_eq_true, Bool.and_eq_true, Bool.not_eq_true'] at hcls
  have e1 : ∀ {z : Ann}, z.r.2 = ([], []) → z.r.2.1 = [] ∧ z.r.2.2 = [] := fun h => by rw [h]; exact ⟨rfl, rfl⟩
  rcases hcls with (((⟨q1, q2⟩ | ⟨q1, q2⟩) | ⟨q1, q2⟩) | ⟨q1, q2⟩) | ⟨⟨q0, q1⟩, q2⟩
  · obtain ⟨a1, a2⟩ := e1 (quiet0 hx q1)
    obtain ⟨b1, b2⟩ := e1 (quiet0 hy q2)
    exact ⟨nmApartB_spec hnm, by rw [a1]; simp, by rw [a2]; simp, fun _ _ _ => by rw [a1, a2]; simp, fun _ _ _ => by rw [b1, b2]; simp, hl, fun _ _ _ => a1, fun _ _ _ => .inl b1⟩
  · obtain ⟨a1, a2⟩ := e1 (quiet0 hx (by unfold K.quiet; rw [q1]; simp))
    refine ⟨nmApartB_spec hnm, by rw [a1]; simp, by rw [a2]; simp, fun _ _ _ => by rw [a1, a2]; simp, fun p hp hc => (iscall hx q1 p hp hc).elim, hl, fun _ _ _ => a1, fun _ _ _ => ?_⟩
    cases hyq : y.q with
    | none => rw [(hy.skip hyq).1]; exact .inl rfl
    | some p =>
      obtain ⟨vs, hp⟩ := hy.plan _ hyq
      rcases q2 with q2 | q2
      · obtain ⟨b, g, rfl⟩ := plan_alloc hp q2
        exact .inr ⟨b, hy.al b g hyq⟩
      · obtain ⟨e, rfl⟩ := plan_bx hp q2
        exact .inl (hy.bx e hyq)
  · obtain ⟨a0, a3⟩ := isret hx q1
    obtain ⟨a1, a2⟩ := e1 a0
    exact ⟨nmApartB_spec hnm, by rw [a1]; simp, by rw [a2]; simp, fun _ _ _ => by rw [a1, a2]; simp, fun p hp _ => by rw [a3 p hp]; simp, hl, fun _ _ _ => a1, fun f args h => (notcall hx (retcall q1) f args h).elim⟩
  · obtain ⟨b0, b3⟩ := isret hy q1
    obtain ⟨b1, b2⟩ := e1 b0
    exact ⟨nmApartB_spec hnm, by rw [b1]; simp, by rw [b2]; simp, fun p hp _ => by rw [b3 p hp]; simp, fun _ _ _ => by rw [b1, b2]; simp, hl, fun f args h => (notcall hy (retcall q1) f args h).elim, fun _ _ _ => .inl b1⟩
  · have ha := hdyn q0
    cases hxq : x.q with
    | none =>
      obtain ⟨a1, a2⟩ : x.r.2.1 = [] ∧ x.r.2.2 = [] := by rw [(hx.skip hxq).1]; exact ⟨rfl, rfl⟩
      exact ⟨nmApartB_spec hnm, by rw [a1]; simp, by rw [a2]; simp, fun _ _ _ => by rw [a1, a2]; simp, fun p hp _ => (by rw [hxq] at hp; cases hp), hl, fun _ _ _ => a1, fun f args h => (by rw [hxq] at h; cases h)⟩
    | some p =>
      have hcx : p.isCall = false := by
        cases hc : p.isCall with
        | false => rfl
        | true => cases p <;> first | (cases hc; done) | exact (notcall hx q1 _ _ hxq).elim
      obtain ⟨w1, w2⟩ := hx.wr p hxq hcx
      have hkx := hx.keys p hxq
      cases hyq : y.q with
      | none =>
        obtain ⟨b1, b2⟩ : y.r.2.1 = [] ∧ y.r.2.2 = [] := by rw [(hy.skip hyq).1]; exact ⟨rfl, rfl⟩
        exact ⟨nmApartB_spec hnm, by rw [b1]; simp, by rw [b2]; simp, fun p hp _ => (by rw [hyq] at hp; cases hp), fun _ _ _ => by rw [b1, b2]; simp, hl, fun f args h => (by rw [hyq] at h; cases h), fun _ _ _ => .inl b1⟩
      | some p' =>
        have hcy : p'.isCall = false := by
          cases hc : p'.isCall with
          | false => rfl
          | true => cases p' <;> first | (cases hc; done) | exact (notcall hy q2 _ _ hyq).elim
        obtain ⟨z1, z2⟩ := hy.wr p' hyq hcy
        have hky := hy.keys p' hyq
        refine ⟨nmApartB_spec hnm, fun k b h1 b' h2 => ?_, fun t e h1 e' h2 => ?_, fun p2 hp2 _ => ⟨fun k hk b h1 => ?_, fun t ht e h1 => ?_⟩, fun p2 hp2 _ => ⟨fun k hk b h1 => ?_, fun t ht e h1 => ?_⟩, hl, fun f args h => (notcall hy q2 f args h).elim, fun f args h => (notcall hx q1 f args h).elim⟩
        · exact apart_h ha (k := k) (by rw [hkx]; simp [w1 k b h1]) (by rw [hky]; simp [z1 k b' h2])
        · exact apart_bx ha (k := t) (by rw [hkx]; exact w2 t e h1) (by rw [hky]; exact z2 t e' h2)
        · rw [hyq] at hp2; cases hp2
          exact apart_h ha (k := k) (by rw [hkx]; simp [w1 k b h1]) (by rw [hky]; simp [rkeys_sub hk])
        · rw [hyq] at hp2; cases hp2
          exact apart_bx ha (k := t) (by rw [hkx]; exact w2 t e h1) (by rw [hky]; simp [rkeys_sub ht])
        · rw [hxq] at hp2; cases hp2
          exact apart_h ha (k := k) (by rw [hkx]; simp [rkeys_sub hk]) (by rw [hky]; simp [z1 k b h1])
        · rw [hxq] at hp2; cases hp2
          exact apart_bx ha (k := t) (by rw [hkx]; simp [rkeys_sub ht]) (by rw [hky]; exact z2 t e h1)
end
end Go.Am
