/- Stepping through the abstract machine's code by rewriting. -/
import Derived.Test.YtflfnkdhmcfjlaaWp
import Derived.Test.YtflfnkdhmcfjlaaFin
namespace Go.Am
open Go

/-! ### What is there, and what comes of it -/
def OC {α : Type} (o : Option α) (k : α → Prop) : Prop := ∃ a, o = some a ∧ k a
theorem OC_some {α : Type} {a : α} {k : α → Prop} : OC (some a) k ↔ k a := ⟨fun ⟨_, h, q⟩ => by cases h; exact q, fun q => ⟨a, rfl, q⟩⟩
theorem OC_none {α : Type} {k : α → Prop} : OC (none : Option α) k ↔ False := ⟨(fun ⟨_, h, _⟩ => by cases h), fun h => h.elim⟩
@[congr] theorem OC_congr {α : Type} {o o' : Option α} {k : α → Prop} (h : o = o') : OC o k = OC o' k := by rw [h]
theorem OC_ite {α : Type} {c : Prop} [Decidable c] {a : Option α} {k : α → Prop} : OC (if c then a else none) k ↔ c ∧ OC a k := by
  by_cases h : c
  · simp [h]
  · simp [h, OC_none]
theorem OC_map {α β : Type} {o : Option α} {f : α → β} {k : β → Prop} : OC (o.map f) k ↔ OC o (fun a => k (f a)) := by
  cases o with
  | none => simp [OC_none]
  | some a => simp [OC_some]

section
variable {F : Nat → Option Fn} {lo : Nat}

noncomputable def hd (md : Option (Nat × Nat)) (n : Nat) : Nat := match md with
  | none => n
  | some (b, i) => b + i
noncomputable def nx (md : Option (Nat × Nat)) : Option (Nat × Nat) := match md with
  | none => none
  | some (b, i) => some (b, i + 1)
noncomputable def bmp (md : Option (Nat × Nat)) (al : Bool) (st : St) : St := match md with
  | none => cond al { st with mem := st.mem.bump 1 } st
  | some _ => st

noncomputable def runS (ck : Callk) (lo : Nat) : Option (Nat × Nat) → List Op → St → Option St
  | _, [], st => some st
  | md, o :: os, st => match step ck lo (hd md st.mem.next) st o with
    | none => none
    | some st' => runS ck lo (nx md) os (bmp md o.k.allocs st')

theorem runS_none {ck : Callk} : ∀ (os : List Op) (st : St), runS ck lo none os st = runOps ck lo os st
  | [], st => rfl
  | o :: os, st => by
    rw [runOps_cons]
    show (match step ck lo st.mem.next st o with
      | none => none
      | some st' => runS ck lo none os (bmp none o.k.allocs st')) = _
    cases step ck lo st.mem.next st o with
    | none => rfl
    | some s => exact runS_none os _

theorem runS_some {ck : Callk} {base : Nat} : ∀ (os : List Op) (i : Nat) (st : St), runS ck lo (some (base, i)) os st = (runOpsD ck lo base i os st).map (·.1)
  | [], i, st => rfl
  | o :: os, i, st => by
    show (match step ck lo (base + i) st o with
      | none => none
      | some st' => runS ck lo (some (base, i + 1)) os st') = _
    simp only [runOpsD]
    cases step ck lo (base + i) st o with
    | none => rfl
    | some s =>
      simp only
      rw [runS_some os (i + 1) s]
      cases runOpsD ck lo base (i + 1) os s with
      | none => rfl
      | some r => rfl

def S (F : Nat → Option Fn) (lo : Nat) (md : Option (Nat × Nat)) (ops : List Op) (st : St) (Q : St → Prop) : Prop := OC (runS (callw F) lo md ops st) Q

theorem W_reg' {st : St} {Q : Ex → St → Prop} {ops : List Op} {lv lb : List Nat} : W F lo (.reg ops lv lb) st Q ↔ S F lo none ops st (fun s => Q .nrm (s.cut lv lb)) := by
  rw [W_reg]
  unfold R S OC
  rw [runS_none]

theorem W_dreg0 {st : St} {Q : Ex → St → Prop} {ops : List Op} {lv lb : List Nat} : W F lo (.dreg ops [] lv lb) st Q ↔ S F lo (some (st.mem.next, 0)) ops { st with mem := st.mem.bump ops.length } (fun s => Q .nrm (s.cut lv lb)) := by
  rw [W_dreg]
  unfold RD S OC
  rw [runS_some]
  constructor
  · rintro ⟨s, ks, h, _, q⟩
    exact ⟨s, by rw [h]; rfl, q⟩
  · rintro ⟨s, h, q⟩
    rw [Option.map_eq_some_iff] at h
    obtain ⟨⟨s', ks⟩, h1, rfl⟩ := h
    exact ⟨s', ks, h1, rfl, q⟩

@[congr] theorem W_congr {c : AC} {st st' : St} {Q : Ex → St → Prop} (h : st = st') : W F lo c st Q = W F lo c st' Q := by rw [h]
@[congr] theorem S_congr {md md' : Option (Nat × Nat)} {ops : List Op} {st st' : St} {Q : St → Prop} (hm : md = md') (h : st = st') : S F lo md ops st Q = S F lo md' ops st' Q := by rw [h, hm]
@[congr] theorem KS_congr {b : AC} {Q : Ex → St → Prop} {ex ex' : Ex} {s s' : St} (h : ex = ex') (hs : s = s') : KS F lo b Q ex s = KS F lo b Q ex' s' := by rw [h, hs]
@[congr] theorem KB_congr {i : Nat} {Q : Ex → St → Prop} {ex ex' : Ex} {s s' : St} (h : ex = ex') (hs : s = s') : KB i Q ex s = KB i Q ex' s' := by rw [h, hs]

theorem S_nil {md : Option (Nat × Nat)} {st : St} {Q : St → Prop} : S F lo md [] st Q ↔ Q st := OC_some

theorem S_cons {md : Option (Nat × Nat)} {o : Op} {ops : List Op} {st : St} {Q : St → Prop} : S F lo md (o :: ops) st Q ↔ OC (step (callw F) lo (hd md st.mem.next) st o) fun s => S F lo (nx md) ops (bmp md o.k.allocs s) Q := by
  unfold S
  show OC (match step (callw F) lo (hd md st.mem.next) st o with
    | none => none
    | some st' => runS (callw F) lo (nx md) ops (bmp md o.k.allocs st')) Q ↔ _
  cases step (callw F) lo (hd md st.mem.next) st o with
  | none => simp [OC_none]
  | some s => simp [OC_some]

/-- What a guard says. -/
def GV (v : V) (w : Bool) (A B : Prop) : Prop := match v with
  | .bool b => if b = w then A else B
  | .und => B
  | _ => False
@[congr] theorem GV_congr {v v' : V} {w : Bool} {A B : Prop} (h : v = v') : GV v w A B = GV v' w A B := by rw [h]
theorem GV_bool {b w : Bool} {A B : Prop} : GV (.bool b) w A B ↔ if b = w then A else B := Iff.rfl
theorem GV_und {w : Bool} {A B : Prop} : GV .und w A B ↔ B := Iff.rfl

/-- What a condition says. -/
def CV (v : V) (A B : Prop) : Prop := match v with
  | .bool b => if b = true then A else B
  | _ => False
@[congr] theorem CV_congr {v v' : V} {A B : Prop} (h : v = v') : CV v A B = CV v' A B := by rw [h]
theorem CV_bool {b : Bool} {A B : Prop} : CV (.bool b) A B ↔ if b = true then A else B := Iff.rfl
theorem W_cond' {st : St} {Q : Ex → St → Prop} {c : O} {a b : AC} : W F lo (.cond c a b) st Q ↔ OC (getO st c) fun v => CV v (W F lo a st Q) (W F lo b st Q) := by
  rw [W_cond]
  constructor
  · rintro ⟨v, h, q⟩
    exact ⟨.bool v, h, q⟩
  · rintro ⟨v, h, q⟩
    cases v <;> first | exact ⟨_, h, q⟩ | exact q.elim
theorem bump_bump {m : Mem} {a b : Nat} : (m.bump a).bump b = m.bump (a + b) := by simp only [Mem.bump, Nat.add_assoc]
theorem bump_blk {m : Mem} {a h : Nat} : (m.bump a).blk h = m.blk h := rfl
theorem bump_next {m : Mem} {a : Nat} : (m.bump a).next = m.next + a := rfl
theorem set_next {m : Mem} {h : Nat} {b : Option Blk} : (m.set h b).next = m.next := rfl

variable {md : Option (Nat × Nat)} {ops : List Op} {e b a : Env} {m : Mem} {Q : St → Prop}

theorem S_guard_e {d t : Nat} {w : Bool} {k : K} {os : List O} (hk : k.allocs = false) : S F lo md (⟨.e d, k, os, some (t, w)⟩ :: ops) ⟨e, b, a, m⟩ Q ↔ OC (e.get t) fun v => GV v w (S F lo md (⟨.e d, k, os, none⟩ :: ops) ⟨e, b, a, m⟩ Q) (S F lo (nx md) ops ⟨(d, .und) :: e, b, a, m⟩ Q) := by
  rw [S_cons]
  simp only [step]
  cases e.get t with
  | none => simp [OC_none]
  | some v =>
    rw [OC_some]
    have hb : bmp md false ⟨(d, .und) :: e, b, a, m⟩ = ⟨(d, .und) :: e, b, a, m⟩ := by cases md <;> rfl
    cases v with
    | bool c =>
      simp only [GV_bool]
      by_cases h : c = w
      · rw [if_pos h, if_pos h, S_cons]; exact Iff.rfl
      · rw [if_neg h, if_neg h]
        simp only [skipOp, OC_some, hk, hb]
    | und => simp only [GV_und, skipOp, OC_some, hk, hb]
    | _ => simp only [OC_none]; exact Iff.rfl

theorem S_guard_a {d t : Nat} {w : Bool} {k : K} {os : List O} (hk : k.allocs = false) : S F lo md (⟨.a d, k, os, some (t, w)⟩ :: ops) ⟨e, b, a, m⟩ Q ↔ OC (e.get t) fun v => GV v w (S F lo md (⟨.a d, k, os, none⟩ :: ops) ⟨e, b, a, m⟩ Q) (S F lo (nx md) ops ⟨e, b, (d, .und) :: a, m⟩ Q) := by
  rw [S_cons]
  simp only [step]
  cases e.get t with
  | none => simp [OC_none]
  | some v =>
    rw [OC_some]
    have hb : bmp md false ⟨e, b, (d, .und) :: a, m⟩ = ⟨e, b, (d, .und) :: a, m⟩ := by cases md <;> rfl
    cases v with
    | bool c =>
      simp only [GV_bool]
      by_cases h : c = w
      · rw [if_pos h, if_pos h, S_cons]; exact Iff.rfl
      · rw [if_neg h, if_neg h]
        simp only [skipOp, OC_some, hk, hb]
    | und => simp only [GV_und, skipOp, OC_some, hk, hb]
    | _ => simp only [OC_none]; exact Iff.rfl

theorem S_guard_n {t : Nat} {w : Bool} {k : K} {os : List O} (hk : k.allocs = false) : S F lo md (⟨.n, k, os, some (t, w)⟩ :: ops) ⟨e, b, a, m⟩ Q ↔ OC (e.get t) fun v => GV v w (S F lo md (⟨.n, k, os, none⟩ :: ops) ⟨e, b, a, m⟩ Q) (S F lo (nx md) ops ⟨e, b, a, m⟩ Q) := by
  rw [S_cons]
  simp only [step]
  cases e.get t with
  | none => simp [OC_none]
  | some v =>
    rw [OC_some]
    have hb : bmp md false ⟨e, b, a, m⟩ = ⟨e, b, a, m⟩ := by cases md <;> rfl
    cases v with
    | bool c =>
      simp only [GV_bool]
      by_cases h : c = w
      · rw [if_pos h, if_pos h, S_cons]; exact Iff.rfl
      · rw [if_neg h, if_neg h]
        simp only [skipOp, OC_some, hk, hb]
    | und => simp only [GV_und, skipOp, OC_some, hk, hb]
    | _ => simp only [OC_none]; exact Iff.rfl

/-! ### Kinds that only return -/
noncomputable def retV (k : K) (vs : List V) : Option V := match plan k vs with
  | some (.ret v) => some v
  | _ => none

def RetK (k : K) : Prop := k.allocs = false ∧ ∀ vs p, plan k vs = some p → ∃ v, p = .ret v

theorem S_ret_e {d : Nat} {k : K} {os : List O} (hk : RetK k) : S F lo md (⟨.e d, k, os, none⟩ :: ops) ⟨e, b, a, m⟩ Q ↔ OC (getOs ⟨e, b, a, m⟩ os) fun vs => OC (retV k vs) fun v => S F lo (nx md) ops ⟨(d, v) :: e, b, a, m⟩ Q := by
  rw [S_cons]
  simp only [step, exec]
  cases getOs ⟨e, b, a, m⟩ os with
  | none => simp [OC_none]
  | some vs =>
    rw [OC_some]
    simp only [retV]
    cases hp : plan k vs with
    | none => simp [OC_none]
    | some p =>
      obtain ⟨v, rfl⟩ := hk.2 vs p hp
      simp only [act, put, OC_some, hk.1]
      have hb : bmp md false ⟨(d, v) :: e, b, a, m⟩ = ⟨(d, v) :: e, b, a, m⟩ := by cases md <;> rfl
      rw [hb]

theorem S_ret_a {d : Nat} {k : K} {os : List O} (hk : RetK k) : S F lo md (⟨.a d, k, os, none⟩ :: ops) ⟨e, b, a, m⟩ Q ↔ OC (getOs ⟨e, b, a, m⟩ os) fun vs => OC (retV k vs) fun v => S F lo (nx md) ops ⟨e, b, (d, v) :: a, m⟩ Q := by
  rw [S_cons]
  simp only [step, exec]
  cases getOs ⟨e, b, a, m⟩ os with
  | none => simp [OC_none]
  | some vs =>
    rw [OC_some]
    simp only [retV]
    cases hp : plan k vs with
    | none => simp [OC_none]
    | some p =>
      obtain ⟨v, rfl⟩ := hk.2 vs p hp
      simp only [act, put, OC_some, hk.1]
      have hb : bmp md false ⟨e, b, (d, v) :: a, m⟩ = ⟨e, b, (d, v) :: a, m⟩ := by cases md <;> rfl
      rw [hb]

theorem retK_of {k : K} (h : k.isRet = true) : RetK k := by
  refine ⟨(by cases k <;> first | rfl | cases h), fun vs p hp => ?_⟩
  cases k <;> first | (cases h; done) | skip
  all_goals simp only [plan, plan_mv, plan_pmv, plan_pick, plan_bin, plan_bq, plan_sq, plan_aq, plan_nq, plan_sadd, plan_not, plan_cvt, plan_cvs, plan_ext, plan_len, plan_mx, plan_mn, plan_bld, plan_lit, plan_six, plan_fld, plan_sl, plan_fa, plan_ia, plan_iaa, plan_nc, plan_mkf, binPlan] at hp
  all_goals repeat' split at hp
  all_goals first
    | (cases hp; done)
    | (cases hp; exact ⟨_, rfl⟩)
    | (simp only [Option.map_eq_some_iff] at hp; obtain ⟨v, _, rfl⟩ := hp; exact ⟨_, rfl⟩)
end
end Go.Am
