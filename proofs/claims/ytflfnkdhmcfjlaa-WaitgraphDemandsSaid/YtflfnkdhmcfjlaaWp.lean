/- The abstract machine without fuel: what a run must come to, as rules. -/
import Derived.Test.YtflfnkdhmcfjlaaStp
namespace Go.Am
open Go

def Ckle (ck ck' : Callk) : Prop := ∀ f args lo m r, ck f args lo m = some r → ck' f args lo m = some r

section
variable {ck ck' : Callk}

theorem act_mono (hc : Ckle ck ck') {lo h : Nat} {s s' : St} {d : D} {p : Plan} (ha : act ck lo h s d p = some s') : act ck' lo h s d p = some s' := by
  cases p with
  | call f args =>
    simp only [act] at ha ⊢
    cases hk : ck f args lo s.mem with
    | none => rw [hk] at ha; cases ha
    | some r => rw [hk] at ha; rw [hc _ _ _ _ _ hk]; exact ha
  | _ => exact ha

theorem exec_mono (hc : Ckle ck ck') {lo h : Nat} {s s' : St} {o : Op} (ha : exec ck lo h s o = some s') : exec ck' lo h s o = some s' := by
  unfold exec at ha ⊢
  cases h1 : getOs s o.os with
  | none => rw [h1] at ha; cases ha
  | some vs =>
    rw [h1] at ha
    simp only at ha ⊢
    cases h2 : plan o.k vs with
    | none => rw [h2] at ha; cases ha
    | some p =>
      rw [h2] at ha
      exact act_mono hc ha

theorem step_mono (hc : Ckle ck ck') {lo h : Nat} {s s' : St} {o : Op} (ha : step ck lo h s o = some s') : step ck' lo h s o = some s' := by
  unfold step at ha ⊢
  cases hg : o.g with
  | none => rw [hg] at ha; exact exec_mono hc ha
  | some tw =>
    obtain ⟨t, w⟩ := tw
    rw [hg] at ha
    simp only at ha ⊢
    split at ha
    · split at ha
      · rename_i e; rw [if_pos e]; exact exec_mono hc ha
      · rename_i e; rw [if_neg e]; exact ha
    · exact ha
    · cases ha

theorem ops_mono (hc : Ckle ck ck') {lo : Nat} : ∀ (ps : List Op) {s s' : St}, runOps ck lo ps s = some s' → runOps ck' lo ps s = some s'
  | [], s, s', h => h
  | o :: ps, s, s', h => by
    rw [runOps_cons] at h ⊢
    cases h1 : step ck lo s.mem.next s o with
    | none => rw [h1] at h; cases h
    | some s1 =>
      rw [h1] at h
      rw [step_mono hc h1]
      exact ops_mono hc ps h

theorem opsD_mono (hc : Ckle ck ck') {lo base : Nat} : ∀ (ps : List Op) (i : Nat) {s : St} {r : St × List (List Key)}, runOpsD ck lo base i ps s = some r → runOpsD ck' lo base i ps s = some r
  | [], i, s, r, h => h
  | o :: ps, i, s, r, h => by
    simp only [runOpsD] at h ⊢
    cases h1 : step ck lo (base + i) s o with
    | none => rw [h1] at h; cases h
    | some s1 =>
      rw [h1] at h
      rw [step_mono hc h1]
      simp only at h ⊢
      cases h2 : runOpsD ck lo base (i + 1) ps s1 with
      | none => rw [h2] at h; cases h
      | some r1 =>
        rw [h2] at h
        rw [opsD_mono hc ps (i + 1) h2]
        exact h

theorem iter_mono {f g : St → Option (Ex × St)} (hf : ∀ s r, f s = some r → g s = some r) : ∀ {n n' : Nat} {s : St} {r : Ex × St}, n ≤ n' → iter f n s = some r → iter g n' s = some r
  | 0, _, s, r, _, h => by cases h
  | n + 1, 0, s, r, hn, h => by omega
  | n + 1, n' + 1, s, r, hn, h => by
    have h' : (match f s with
      | none => none
      | some (.nrm, st') => iter f n st'
      | some (.exit i, st') => some (.exit i, st')
      | some (.ret, st') => some (.ret, st')) = some r := h
    show (match g s with
      | none => none
      | some (.nrm, st') => iter g n' st'
      | some (.exit i, st') => some (.exit i, st')
      | some (.ret, st') => some (.ret, st')) = some r
    cases h1 : f s with
    | none => rw [h1] at h'; cases h'
    | some r1 =>
      rw [h1] at h'
      rw [hf s r1 h1]
      obtain ⟨ex, s1⟩ := r1
      cases ex with
      | nrm => exact iter_mono hf (Nat.le_of_succ_le_succ hn) h'
      | exit i => exact h'
      | ret => exact h'

theorem run_mono (hc : Ckle ck ck') {N N' lo : Nat} (hN : N ≤ N') : ∀ (c : AC) {s : St} {r : Ex × St}, run ck N lo c s = some r → run ck' N' lo c s = some r := by
  intro c
  induction c with
  | skip => intro s r h; exact h
  | dead => intro s r h; cases h
  | exit j => intro s r h; exact h
  | ret => intro s r h; exact h
  | reg ops lv lb =>
    intro s r h
    have h' : (match runOps ck lo ops s with
      | none => none
      | some st' => some (Ex.nrm, st'.cut lv lb)) = some r := h
    show (match runOps ck' lo ops s with
      | none => none
      | some st' => some (Ex.nrm, st'.cut lv lb)) = some r
    cases h1 : runOps ck lo ops s with
    | none => rw [h1] at h'; cases h'
    | some s1 => rw [h1] at h'; rw [ops_mono hc ops h1]; exact h'
  | dreg ops ps lv lb =>
    intro s r h
    have h' : (match runOpsD ck lo s.mem.next 0 ops { s with mem := s.mem.bump ops.length } with
      | none => none
      | some (st', ks) => if pairsOk ks ps then some (Ex.nrm, st'.cut lv lb) else none) = some r := h
    show (match runOpsD ck' lo s.mem.next 0 ops { s with mem := s.mem.bump ops.length } with
      | none => none
      | some (st', ks) => if pairsOk ks ps then some (Ex.nrm, st'.cut lv lb) else none) = some r
    cases h1 : runOpsD ck lo s.mem.next 0 ops { s with mem := s.mem.bump ops.length } with
    | none => rw [h1] at h'; cases h'
    | some s1 => rw [h1] at h'; rw [opsD_mono hc ops 0 h1]; exact h'
  | seq x y ihx ihy =>
    intro s r h
    have h' : (match run ck N lo x s with
      | none => none
      | some (.nrm, st') => run ck N lo y st'
      | some (.exit i, st') => some (.exit i, st')
      | some (.ret, st') => some (.ret, st')) = some r := h
    show (match run ck' N' lo x s with
      | none => none
      | some (.nrm, st') => run ck' N' lo y st'
      | some (.exit i, st') => some (.exit i, st')
      | some (.ret, st') => some (.ret, st')) = some r
    cases h1 : run ck N lo x s with
    | none => rw [h1] at h'; cases h'
    | some r1 =>
      rw [h1] at h'
      rw [ihx h1]
      obtain ⟨ex, s1⟩ := r1
      cases ex with
      | nrm => exact ihy h'
      | exit i => exact h'
      | ret => exact h'
  | cond c x y ihx ihy =>
    intro s r h
    have h' : (match getO s c with
      | some (.bool c) => cond c (run ck N lo x s) (run ck N lo y s)
      | _ => none) = some r := h
    show (match getO s c with
      | some (.bool c) => cond c (run ck' N' lo x s) (run ck' N' lo y s)
      | _ => none) = some r
    split at h'
    · rename_i b hb
      cases b with
      | true => exact ihx h'
      | false => exact ihy h'
    · cases h'
  | block id x ih =>
    intro s r h
    have h' : (match run ck N lo x s with
      | none => none
      | some (.nrm, st') => some (.nrm, st')
      | some (.exit i, st') => if i = id then some (.nrm, st') else some (.exit i, st')
      | some (.ret, st') => some (.ret, st')) = some r := h
    show (match run ck' N' lo x s with
      | none => none
      | some (.nrm, st') => some (.nrm, st')
      | some (.exit i, st') => if i = id then some (.nrm, st') else some (.exit i, st')
      | some (.ret, st') => some (.ret, st')) = some r
    cases h1 : run ck N lo x s with
    | none => rw [h1] at h'; cases h'
    | some r1 => rw [h1] at h'; rw [ih h1]; exact h'
  | loop lv lb x ih =>
    intro s r h
    exact iter_mono (f := fun st => run ck N lo x (st.cut lv lb)) (g := fun st => run ck' N' lo x (st.cut lv lb)) (fun s r hr => ih hr) hN h
end

theorem Ckle.refl (ck : Callk) : Ckle ck ck := fun _ _ _ _ _ h => h

theorem call_succ' (F : Nat → Option Fn) (k f : Nat) (args : List V) (lo : Nat) (m : Mem) : call F (k + 1) f args lo m = (match F f with
    | none => none
    | some fn =>
      if args.length = fn.np then
        match run (call F k) k (if fn.pure then m.next else lo) fn.body ⟨initEnv 0 args, [], [], m⟩ with
        | none => none
        | some (.exit _, _) => none
        | some (_, st) => match getRes st fn.res with
          | none => none
          | some vs => if fn.pure then
              match freeze m.next st.mem 8 (resV vs) with
              | none => none
              | some v => some (v, m)
            else some (resV vs, st.mem)
      else none) := rfl

theorem call_mono1 (F : Nat → Option Fn) : ∀ k, Ckle (call F k) (call F (k + 1))
  | 0 => fun f args lo m r h => by cases h
  | k + 1 => fun f args lo m r h => by
    have ih := call_mono1 F k
    rw [call_succ'] at h ⊢
    cases hF : F f with
    | none => rw [hF] at h; cases h
    | some fn =>
      rw [hF] at h
      simp only at h ⊢
      split at h
      · rename_i hn
        rw [if_pos hn]
        cases h1 : run (call F k) k (if fn.pure then m.next else lo) fn.body ⟨initEnv 0 args, [], [], m⟩ with
        | none => rw [h1] at h; cases h
        | some r1 =>
          rw [h1] at h
          rw [run_mono ih (Nat.le_succ k) fn.body h1]
          exact h
      · cases h

theorem call_mono (F : Nat → Option Fn) {k k' : Nat} (h : k ≤ k') : Ckle (call F k) (call F k') := by
  induction h with
  | refl => exact .refl _
  | step _ ih => exact fun f args lo m r hr => call_mono1 F _ f args lo m r (ih f args lo m r hr)

open Classical in
/-- What a call comes to, with as much fuel as it needs. -/
noncomputable def callw (F : Nat → Option Fn) : Callk := fun f args lo m => if h : ∃ r, ∃ k, call F k f args lo m = some r then some h.choose else none

theorem callw_iff {F : Nat → Option Fn} {f : Nat} {args : List V} {lo : Nat} {m : Mem} {r : V × Mem} : callw F f args lo m = some r ↔ ∃ k, call F k f args lo m = some r := by
  unfold callw
  constructor
  · intro h
    split at h
    · rename_i hx
      cases h
      exact hx.choose_spec
    · cases h
  · rintro ⟨k, hk⟩
    have hx : ∃ r, ∃ k, call F k f args lo m = some r := ⟨r, k, hk⟩
    rw [dif_pos hx]
    obtain ⟨k', hk'⟩ := hx.choose_spec
    have h1 := call_mono F (Nat.le_max_left k k') f args lo m _ hk
    have h2 := call_mono F (Nat.le_max_right k k') f args lo m _ hk'
    rw [h1] at h2
    exact h2.symm

theorem callw_ge (F : Nat → Option Fn) (k : Nat) : Ckle (call F k) (callw F) := fun _ _ _ _ _ h => callw_iff.2 ⟨k, h⟩

/-! ### Finitely many calls -/
section
variable {F : Nat → Option Fn}

theorem act_fin {lo h : Nat} {s s' : St} {d : D} {p : Plan} (ha : act (callw F) lo h s d p = some s') : ∃ k, act (call F k) lo h s d p = some s' := by
  cases p with
  | call f args =>
    simp only [act] at ha ⊢
    cases hk : callw F f args lo s.mem with
    | none => rw [hk] at ha; cases ha
    | some r =>
      obtain ⟨k, h1⟩ := callw_iff.1 hk
      rw [hk] at ha
      exact ⟨k, by rw [h1]; exact ha⟩
  | _ => exact ⟨0, ha⟩

theorem exec_fin {lo h : Nat} {s s' : St} {o : Op} (ha : exec (callw F) lo h s o = some s') : ∃ k, exec (call F k) lo h s o = some s' := by
  unfold exec at ha ⊢
  cases h1 : getOs s o.os with
  | none => rw [h1] at ha; cases ha
  | some vs =>
    rw [h1] at ha
    simp only at ha ⊢
    cases h2 : plan o.k vs with
    | none => rw [h2] at ha; cases ha
    | some p =>
      rw [h2] at ha
      exact act_fin ha

theorem step_fin {lo h : Nat} {s s' : St} {o : Op} (ha : step (callw F) lo h s o = some s') : ∃ k, step (call F k) lo h s o = some s' := by
  unfold step at ha ⊢
  cases hg : o.g with
  | none => rw [hg] at ha; exact exec_fin ha
  | some tw =>
    obtain ⟨t, w⟩ := tw
    rw [hg] at ha
    simp only at ha ⊢
    split at ha
    · split at ha
      · rename_i e
        obtain ⟨k, hk⟩ := exec_fin ha
        exact ⟨k, by rw [if_pos e]; exact hk⟩
      · rename_i e
        exact ⟨0, by rw [if_neg e]; exact ha⟩
    · exact ⟨0, ha⟩
    · cases ha

theorem ops_fin {lo : Nat} : ∀ (ps : List Op) {s s' : St}, runOps (callw F) lo ps s = some s' → ∃ k, runOps (call F k) lo ps s = some s'
  | [], s, s', h => ⟨0, h⟩
  | o :: ps, s, s', h => by
    rw [runOps_cons] at h
    cases h1 : step (callw F) lo s.mem.next s o with
    | none => rw [h1] at h; cases h
    | some s1 =>
      rw [h1] at h
      obtain ⟨k1, q1⟩ := step_fin h1
      obtain ⟨k2, q2⟩ := ops_fin ps h
      refine ⟨max k1 k2, ?_⟩
      rw [runOps_cons, step_mono (call_mono F (Nat.le_max_left k1 k2)) q1]
      exact ops_mono (call_mono F (Nat.le_max_right k1 k2)) ps q2

theorem opsD_fin {lo base : Nat} : ∀ (ps : List Op) (i : Nat) {s : St} {r : St × List (List Key)}, runOpsD (callw F) lo base i ps s = some r → ∃ k, runOpsD (call F k) lo base i ps s = some r
  | [], i, s, r, h => ⟨0, h⟩
  | o :: ps, i, s, r, h => by
    simp only [runOpsD] at h ⊢
    cases h1 : step (callw F) lo (base + i) s o with
    | none => rw [h1] at h; cases h
    | some s1 =>
      rw [h1] at h
      simp only at h
      cases h2 : runOpsD (callw F) lo base (i + 1) ps s1 with
      | none => rw [h2] at h; cases h
      | some r1 =>
        rw [h2] at h
        obtain ⟨k1, q1⟩ := step_fin h1
        obtain ⟨k2, q2⟩ := opsD_fin ps (i + 1) h2
        refine ⟨max k1 k2, ?_⟩
        rw [step_mono (call_mono F (Nat.le_max_left k1 k2)) q1]
        simp only
        rw [opsD_mono (call_mono F (Nat.le_max_right k1 k2)) ps (i + 1) q2]
        exact h

theorem run_fin {N lo : Nat} : ∀ (c : AC) {s : St} {r : Ex × St}, run (callw F) N lo c s = some r → ∃ k, run (call F k) N lo c s = some r := by
  intro c
  induction c with
  | skip => intro s r h; exact ⟨0, h⟩
  | dead => intro s r h; cases h
  | exit j => intro s r h; exact ⟨0, h⟩
  | ret => intro s r h; exact ⟨0, h⟩
  | reg ops lv lb =>
    intro s r h
    have h' : (match runOps (callw F) lo ops s with
      | none => none
      | some st' => some (Ex.nrm, st'.cut lv lb)) = some r := h
    show ∃ k, (match runOps (call F k) lo ops s with
      | none => none
      | some st' => some (Ex.nrm, st'.cut lv lb)) = some r
    cases h1 : runOps (callw F) lo ops s with
    | none => rw [h1] at h'; cases h'
    | some s1 =>
      rw [h1] at h'
      obtain ⟨k, q⟩ := ops_fin ops h1
      exact ⟨k, by rw [q]; exact h'⟩
  | dreg ops ps lv lb =>
    intro s r h
    have h' : (match runOpsD (callw F) lo s.mem.next 0 ops { s with mem := s.mem.bump ops.length } with
      | none => none
      | some (st', ks) => if pairsOk ks ps then some (Ex.nrm, st'.cut lv lb) else none) = some r := h
    show ∃ k, (match runOpsD (call F k) lo s.mem.next 0 ops { s with mem := s.mem.bump ops.length } with
      | none => none
      | some (st', ks) => if pairsOk ks ps then some (Ex.nrm, st'.cut lv lb) else none) = some r
    cases h1 : runOpsD (callw F) lo s.mem.next 0 ops { s with mem := s.mem.bump ops.length } with
    | none => rw [h1] at h'; cases h'
    | some s1 =>
      rw [h1] at h'
      obtain ⟨k, q⟩ := opsD_fin ops 0 h1
      exact ⟨k, by rw [q]; exact h'⟩
  | seq x y ihx ihy =>
    intro s r h
    have h' : (match run (callw F) N lo x s with
      | none => none
      | some (.nrm, st') => run (callw F) N lo y st'
      | some (.exit i, st') => some (.exit i, st')
      | some (.ret, st') => some (.ret, st')) = some r := h
    show ∃ k, (match run (call F k) N lo x s with
      | none => none
      | some (.nrm, st') => run (call F k) N lo y st'
      | some (.exit i, st') => some (.exit i, st')
      | some (.ret, st') => some (.ret, st')) = some r
    cases h1 : run (callw F) N lo x s with
    | none => rw [h1] at h'; cases h'
    | some r1 =>
      rw [h1] at h'
      obtain ⟨k1, q1⟩ := ihx h1
      obtain ⟨ex, s1⟩ := r1
      cases ex with
      | nrm =>
        obtain ⟨k2, q2⟩ := ihy h'
        refine ⟨max k1 k2, ?_⟩
        rw [run_mono (call_mono F (Nat.le_max_left k1 k2)) (Nat.le_refl N) x q1]
        exact run_mono (call_mono F (Nat.le_max_right k1 k2)) (Nat.le_refl N) y q2
      | exit i => exact ⟨k1, by rw [q1]; exact h'⟩
      | ret => exact ⟨k1, by rw [q1]; exact h'⟩
  | cond c x y ihx ihy =>
    intro s r h
    have h' : (match getO s c with
      | some (.bool c) => cond c (run (callw F) N lo x s) (run (callw F) N lo y s)
      | _ => none) = some r := h
    show ∃ k, (match getO s c with
      | some (.bool c) => cond c (run (call F k) N lo x s) (run (call F k) N lo y s)
      | _ => none) = some r
    split at h'
    · rename_i b hb
      cases b with
      | true => exact ihx h'
      | false => exact ihy h'
    · cases h'
  | block id x ih =>
    intro s r h
    have h' : (match run (callw F) N lo x s with
      | none => none
      | some (.nrm, st') => some (.nrm, st')
      | some (.exit i, st') => if i = id then some (.nrm, st') else some (.exit i, st')
      | some (.ret, st') => some (.ret, st')) = some r := h
    show ∃ k, (match run (call F k) N lo x s with
      | none => none
      | some (.nrm, st') => some (.nrm, st')
      | some (.exit i, st') => if i = id then some (.nrm, st') else some (.exit i, st')
      | some (.ret, st') => some (.ret, st')) = some r
    cases h1 : run (callw F) N lo x s with
    | none => rw [h1] at h'; cases h'
    | some r1 =>
      rw [h1] at h'
      obtain ⟨k, q⟩ := ih h1
      exact ⟨k, by rw [q]; exact h'⟩
  | loop lv lb x ih =>
    intro s r h
    have key : ∀ (n : Nat) {s : St}, iter (fun st => run (callw F) N lo x (st.cut lv lb)) n s = some r → ∃ k, iter (fun st => run (call F k) N lo x (st.cut lv lb)) n s = some r := by
      intro n
      induction n with
      | zero => intro s h; cases h
      | succ n ihn =>
        intro s h
        have h' : (match run (callw F) N lo x (s.cut lv lb) with
          | none => none
          | some (.nrm, st') => iter (fun st => run (callw F) N lo x (st.cut lv lb)) n st'
          | some (.exit i, st') => some (.exit i, st')
          | some (.ret, st') => some (.ret, st')) = some r := h
        show ∃ k, (match run (call F k) N lo x (s.cut lv lb) with
          | none => none
          | some (.nrm, st') => iter (fun st => run (call F k) N lo x (st.cut lv lb)) n st'
          | some (.exit i, st') => some (.exit i, st')
          | some (.ret, st') => some (.ret, st')) = some r
        cases h1 : run (callw F) N lo x (s.cut lv lb) with
        | none => rw [h1] at h'; cases h'
        | some r1 =>
          rw [h1] at h'
          obtain ⟨k1, q1⟩ := ih h1
          obtain ⟨ex, s1⟩ := r1
          cases ex with
          | nrm =>
            obtain ⟨k2, q2⟩ := ihn h'
            refine ⟨max k1 k2, ?_⟩
            rw [run_mono (call_mono F (Nat.le_max_left k1 k2)) (Nat.le_refl N) x q1]
            exact iter_mono (fun s r hr => run_mono (call_mono F (Nat.le_max_right k1 k2)) (Nat.le_refl N) x hr) (Nat.le_refl n) q2
          | exit i => exact ⟨k1, by rw [q1]; exact h'⟩
          | ret => exact ⟨k1, by rw [q1]; exact h'⟩
    exact key N h

/-! ### What a run must come to -/
def W (F : Nat → Option Fn) (lo : Nat) (c : AC) (st : St) (Q : Ex → St → Prop) : Prop := ∃ N ex st', run (callw F) N lo c st = some (ex, st') ∧ Q ex st'

def R (F : Nat → Option Fn) (lo : Nat) (ops : List Op) (st : St) (Q : St → Prop) : Prop := ∃ st', runOps (callw F) lo ops st = some st' ∧ Q st'

def RD (F : Nat → Option Fn) (lo base i : Nat) (ops : List Op) (st : St) (Q : St → List (List Key) → Prop) : Prop := ∃ st' ks, runOpsD (callw F) lo base i ops st = some (st', ks) ∧ Q st' ks

def KS (F : Nat → Option Fn) (lo : Nat) (b : AC) (Q : Ex → St → Prop) : Ex → St → Prop
  | .nrm, s => W F lo b s Q
  | .exit i, s => Q (.exit i) s
  | .ret, s => Q .ret s
def KB (id : Nat) (Q : Ex → St → Prop) : Ex → St → Prop
  | .nrm, s => Q .nrm s
  | .exit i, s => if i = id then Q .nrm s else Q (.exit i) s
  | .ret, s => Q .ret s

variable {lo : Nat} {st : St} {Q : Ex → St → Prop}

theorem KS_nrm {b : AC} {s : St} : KS F lo b Q .nrm s ↔ W F lo b s Q := Iff.rfl
theorem KS_exit {b : AC} {s : St} {i : Nat} : KS F lo b Q (.exit i) s ↔ Q (.exit i) s := Iff.rfl
theorem KS_ret {b : AC} {s : St} : KS F lo b Q .ret s ↔ Q .ret s := Iff.rfl
theorem KB_nrm {id : Nat} {s : St} : KB id Q .nrm s ↔ Q .nrm s := Iff.rfl
theorem KB_exit {id : Nat} {s : St} {i : Nat} : KB id Q (.exit i) s ↔ if i = id then Q .nrm s else Q (.exit i) s := Iff.rfl
theorem KB_ret {id : Nat} {s : St} : KB id Q .ret s ↔ Q .ret s := Iff.rfl

theorem W_skip : W F lo .skip st Q ↔ Q .nrm st := ⟨fun ⟨_, _, _, h, q⟩ => by cases h; exact q, fun q => ⟨0, _, _, rfl, q⟩⟩
theorem W_exit {i : Nat} : W F lo (.exit i) st Q ↔ Q (.exit i) st := ⟨fun ⟨_, _, _, h, q⟩ => by cases h; exact q, fun q => ⟨0, _, _, rfl, q⟩⟩
theorem W_ret : W F lo .ret st Q ↔ Q .ret st := ⟨fun ⟨_, _, _, h, q⟩ => by cases h; exact q, fun q => ⟨0, _, _, rfl, q⟩⟩

theorem run_seq_eq {ck : Callk} {N : Nat} {a b : AC} : run ck N lo (.seq a b) st = (match run ck N lo a st with
      | none => none
      | some (.nrm, st') => run ck N lo b st'
      | some (.exit i, st') => some (.exit i, st')
      | some (.ret, st') => some (.ret, st')) := rfl

theorem W_seq {a b : AC} : W F lo (.seq a b) st Q ↔ W F lo a st (KS F lo b Q) := by
  constructor
  · rintro ⟨N, ex, s', h, q⟩
    rw [run_seq_eq] at h
    split at h
    · cases h
    · rename_i s1 h1
      exact ⟨N, .nrm, s1, h1, N, ex, s', h, q⟩
    · rename_i h1; cases h; exact ⟨N, _, _, h1, q⟩
    · rename_i h1; cases h; exact ⟨N, _, _, h1, q⟩
  · rintro ⟨N, ex, s', h, q⟩
    cases ex with
    | nrm =>
      obtain ⟨N', ex, s'', h', q⟩ := q
      refine ⟨max N N', ex, s'', ?_, q⟩
      rw [run_seq_eq, run_mono (.refl _) (Nat.le_max_left N N') a h]
      exact run_mono (.refl _) (Nat.le_max_right N N') b h'
    | exit i => exact ⟨N, .exit i, s', by rw [run_seq_eq, h], q⟩
    | ret => exact ⟨N, .ret, s', by rw [run_seq_eq, h], q⟩

theorem W_cond {c : O} {a b : AC} : W F lo (.cond c a b) st Q ↔ ∃ v, getO st c = some (.bool v) ∧ if v = true then W F lo a st Q else W F lo b st Q := by
  have e : ∀ N, run (callw F) N lo (.cond c a b) st = (match getO st c with
      | some (.bool c) => cond c (run (callw F) N lo a st) (run (callw F) N lo b st)
      | _ => none) := fun N => rfl
  constructor
  · rintro ⟨N, ex, s', h, q⟩
    rw [e] at h
    split at h
    · rename_i v hv
      refine ⟨v, hv, ?_⟩
      cases v with
      | true => rw [if_pos rfl]; exact ⟨N, ex, s', h, q⟩
      | false => rw [if_neg (by simp)]; exact ⟨N, ex, s', h, q⟩
    · cases h
  · rintro ⟨v, hv, h⟩
    cases v with
    | true =>
      rw [if_pos rfl] at h
      obtain ⟨N, ex, s', h, q⟩ := h
      exact ⟨N, ex, s', by rw [e, hv]; exact h, q⟩
    | false =>
      rw [if_neg (by simp)] at h
      obtain ⟨N, ex, s', h, q⟩ := h
      exact ⟨N, ex, s', by rw [e, hv]; exact h, q⟩

theorem W_block {id : Nat} {b : AC} : W F lo (.block id b) st Q ↔ W F lo b st (KB id Q) := by
  have e : ∀ N, run (callw F) N lo (.block id b) st = (match run (callw F) N lo b st with
      | none => none
      | some (.nrm, st') => some (.nrm, st')
      | some (.exit i, st') => if i = id then some (.nrm, st') else some (.exit i, st')
      | some (.ret, st') => some (.ret, st')) := fun N => rfl
  constructor
  · rintro ⟨N, ex, s', h, q⟩
    rw [e] at h
    split at h
    · cases h
    · rename_i h1; cases h; exact ⟨N, _, _, h1, q⟩
    · rename_i i s1 h1
      refine ⟨N, _, _, h1, ?_⟩
      show if i = id then Q .nrm s1 else Q (.exit i) s1
      split at h
      · rename_i e; cases h; rw [if_pos e]; exact q
      · rename_i e; cases h; rw [if_neg e]; exact q
    · rename_i h1; cases h; exact ⟨N, _, _, h1, q⟩
  · rintro ⟨N, ex, s', h, q⟩
    cases ex with
    | nrm => exact ⟨N, .nrm, s', by rw [e, h], q⟩
    | exit i =>
      have q' : if i = id then Q .nrm s' else Q (.exit i) s' := q
      by_cases hi : i = id
      · rw [if_pos hi] at q'
        exact ⟨N, .nrm, s', by rw [e, h]; simp only; rw [if_pos hi], q'⟩
      · rw [if_neg hi] at q'
        exact ⟨N, .exit i, s', by rw [e, h]; simp only; rw [if_neg hi], q'⟩
    | ret => exact ⟨N, .ret, s', by rw [e, h], q⟩

theorem iter_succ_eq {f : St → Option (Ex × St)} {n : Nat} : iter f (n + 1) st = (match f st with
      | none => none
      | some (.nrm, st') => iter f n st'
      | some (.exit i, st') => some (.exit i, st')
      | some (.ret, st') => some (.ret, st')) := rfl

theorem W_loop {lv lb : List Nat} {b : AC} : W F lo (.loop lv lb b) st Q ↔ W F lo b (st.cut lv lb) (KS F lo (.loop lv lb b) Q) := by
  have e : ∀ N s, run (callw F) N lo (.loop lv lb b) s = iter (fun st => run (callw F) N lo b (st.cut lv lb)) N s := fun N s => rfl
  constructor
  · rintro ⟨N, ex, s', h, q⟩
    rw [e] at h
    cases N with
    | zero => cases h
    | succ n =>
      rw [iter_succ_eq] at h
      split at h
      · cases h
      · rename_i s1 h1
        refine ⟨n + 1, .nrm, s1, h1, n + 1, ex, s', ?_, q⟩
        rw [e]
        exact iter_mono (fun _ _ h => h) (Nat.le_succ n) h
      · rename_i h1; cases h; exact ⟨n + 1, _, _, h1, q⟩
      · rename_i h1; cases h; exact ⟨n + 1, _, _, h1, q⟩
  · rintro ⟨N, ex, s', h, q⟩
    cases ex with
    | nrm =>
      obtain ⟨N', ex, s'', h', q⟩ := q
      rw [e] at h'
      refine ⟨max N N' + 1, ex, s'', ?_, q⟩
      rw [e, iter_succ_eq]
      rw [run_mono (.refl _) (by omega : N ≤ max N N' + 1) b h]
      exact iter_mono (fun _ _ hr => run_mono (.refl _) (by omega : N' ≤ max N N' + 1) b hr) (by omega) h'
    | exit i =>
      refine ⟨N + 1, .exit i, s', ?_, q⟩
      rw [e, iter_succ_eq]
      rw [run_mono (.refl _) (Nat.le_succ N) b h]
    | ret =>
      refine ⟨N + 1, .ret, s', ?_, q⟩
      rw [e, iter_succ_eq]
      rw [run_mono (.refl _) (Nat.le_succ N) b h]

theorem W_reg {ops : List Op} {lv lb : List Nat} : W F lo (.reg ops lv lb) st Q ↔ R F lo ops st (fun s => Q .nrm (s.cut lv lb)) := by
  have e : ∀ N, run (callw F) N lo (.reg ops lv lb) st = (match runOps (callw F) lo ops st with
      | none => none
      | some st' => some (Ex.nrm, st'.cut lv lb)) := fun N => rfl
  constructor
  · rintro ⟨N, ex, s', h, q⟩
    rw [e] at h
    split at h
    · cases h
    · rename_i s1 h1; cases h; exact ⟨s1, h1, q⟩
  · rintro ⟨s1, h, q⟩
    exact ⟨0, .nrm, _, by rw [e, h], q⟩

theorem W_dreg {ops : List Op} {ps : List (Nat × Nat)} {lv lb : List Nat} : W F lo (.dreg ops ps lv lb) st Q ↔ RD F lo st.mem.next 0 ops { st with mem := st.mem.bump ops.length } (fun s ks => pairsOk ks ps = true ∧ Q .nrm (s.cut lv lb)) := by
  have e : ∀ N, run (callw F) N lo (.dreg ops ps lv lb) st = (match runOpsD (callw F) lo st.mem.next 0 ops { st with mem := st.mem.bump ops.length } with
      | none => none
      | some (st', ks) => if pairsOk ks ps then some (Ex.nrm, st'.cut lv lb) else none) := fun N => rfl
  constructor
  · rintro ⟨N, ex, s', h, q⟩
    rw [e] at h
    split at h
    · cases h
    · rename_i s1 ks h1
      split at h
      · rename_i hp; cases h; exact ⟨s1, ks, h1, hp, q⟩
      · cases h
  · rintro ⟨s1, ks, h, hp, q⟩
    exact ⟨0, .nrm, _, by rw [e, h]; simp only; rw [if_pos hp], q⟩

theorem R_nil {Q : St → Prop} : R F lo [] st Q ↔ Q st := ⟨fun ⟨_, h, q⟩ => by cases h; exact q, fun q => ⟨_, rfl, q⟩⟩
theorem R_cons {Q : St → Prop} {o : Op} {os : List Op} : R F lo (o :: os) st Q ↔ ∃ s, step (callw F) lo st.mem.next st o = some s ∧ R F lo os (cond o.k.allocs { s with mem := s.mem.bump 1 } s) Q := by
  unfold R
  constructor
  · rintro ⟨s', h, q⟩
    rw [runOps_cons] at h
    split at h
    · cases h
    · rename_i s1 h1; exact ⟨s1, h1, s', h, q⟩
  · rintro ⟨s1, h1, s', h, q⟩
    exact ⟨s', by rw [runOps_cons, h1]; exact h, q⟩

theorem RD_nil {Q : St → List (List Key) → Prop} {base i : Nat} : RD F lo base i [] st Q ↔ Q st [] := ⟨fun ⟨_, _, h, q⟩ => by cases h; exact q, fun q => ⟨_, _, rfl, q⟩⟩
theorem RD_cons {Q : St → List (List Key) → Prop} {base i : Nat} {o : Op} {os : List Op} : RD F lo base i (o :: os) st Q ↔ ∃ s, step (callw F) lo (base + i) st o = some s ∧ RD F lo base (i + 1) os s (fun s' ks => Q s' (keysOf (base + i) st o :: ks)) := by
  unfold RD
  constructor
  · rintro ⟨s', ks, h, q⟩
    simp only [runOpsD] at h
    split at h
    · cases h
    · rename_i s1 h1
      split at h
      · cases h
      · rename_i h2; cases h; exact ⟨s1, h1, _, _, h2, q⟩
  · rintro ⟨s1, h1, s2, ks, h, q⟩
    exact ⟨s2, _, by simp only [runOpsD]; rw [h1]; simp only; rw [h], q⟩

theorem W_mono {c : AC} {Q' : Ex → St → Prop} (h : W F lo c st Q) (hq : ∀ ex s, Q ex s → Q' ex s) : W F lo c st Q' :=
  let ⟨N, ex, s, h, q⟩ := h; ⟨N, ex, s, h, hq _ _ q⟩

/-! ### Calls -/
def PostP (fn : Fn) (m : Mem) (v : V) : Ex → St → Prop
  | .exit _, _ => False
  | _, st => ∃ vs, getRes st fn.res = some vs ∧ freeze m.next st.mem 8 (resV vs) = some v
def PostI (fn : Fn) (v : V) (m' : Mem) : Ex → St → Prop
  | .exit _, _ => False
  | _, st => ∃ vs, getRes st fn.res = some vs ∧ resV vs = v ∧ st.mem = m'

theorem PostP_nrm {fn : Fn} {m : Mem} {v : V} : PostP fn m v .nrm st ↔ ∃ vs, getRes st fn.res = some vs ∧ freeze m.next st.mem 8 (resV vs) = some v := Iff.rfl
theorem PostP_ret {fn : Fn} {m : Mem} {v : V} : PostP fn m v .ret st ↔ ∃ vs, getRes st fn.res = some vs ∧ freeze m.next st.mem 8 (resV vs) = some v := Iff.rfl
theorem PostI_nrm {fn : Fn} {m' : Mem} {v : V} : PostI fn v m' .nrm st ↔ ∃ vs, getRes st fn.res = some vs ∧ resV vs = v ∧ st.mem = m' := Iff.rfl
theorem PostI_ret {fn : Fn} {m' : Mem} {v : V} : PostI fn v m' .ret st ↔ ∃ vs, getRes st fn.res = some vs ∧ resV vs = v ∧ st.mem = m' := Iff.rfl

theorem callw_pure {f : Nat} {fn : Fn} {args : List V} {m : Mem} {v : V} (hF : F f = some fn) (hp : fn.pure = true) (hn : args.length = fn.np) (h : W F m.next fn.body ⟨initEnv 0 args, [], [], m⟩ (PostP fn m v)) : callw F f args lo m = some (v, m) := by
  obtain ⟨N, ex, s, h1, q⟩ := h
  obtain ⟨k, h2⟩ := run_fin fn.body h1
  refine callw_iff.2 ⟨max k N + 1, ?_⟩
  rw [call_succ', hF]
  simp only
  rw [if_pos hn, hp]
  simp only [if_true]
  rw [run_mono (call_mono F (Nat.le_max_left k N)) (Nat.le_max_right k N) fn.body h2]
  cases ex with
  | nrm => obtain ⟨vs, q1, q2⟩ := q; simp only [q1, q2]
  | ret => obtain ⟨vs, q1, q2⟩ := q; simp only [q1, q2]
  | exit i => exact q.elim

theorem callw_imp {f : Nat} {fn : Fn} {args : List V} {m m' : Mem} {v : V} (hF : F f = some fn) (hp : fn.pure = false) (hn : args.length = fn.np) (h : W F lo fn.body ⟨initEnv 0 args, [], [], m⟩ (PostI fn v m')) : callw F f args lo m = some (v, m') := by
  obtain ⟨N, ex, s, h1, q⟩ := h
  obtain ⟨k, h2⟩ := run_fin fn.body h1
  refine callw_iff.2 ⟨max k N + 1, ?_⟩
  rw [call_succ', hF]
  simp only
  rw [if_pos hn, hp]
  simp only [Bool.false_eq_true, if_false]
  rw [run_mono (call_mono F (Nat.le_max_left k N)) (Nat.le_max_right k N) fn.body h2]
  cases ex with
  | nrm => obtain ⟨vs, q1, q2, q3⟩ := q; simp only [q1, q2, q3]
  | ret => obtain ⟨vs, q1, q2, q3⟩ := q; simp only [q1, q2, q3]
  | exit i => exact q.elim
end
end Go.Am
