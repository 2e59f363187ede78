/- A part of the proof: The law CertificateReserves holds: with the reserve that Enough returns no step with Deep from the pool may wait, and with a smaller one it may, unless the pool is ample; no conditions. -/
import Derived.Test.YtflfnkdhmcfjlaaN25f
namespace Go.Am
open Go
set_option linter.unusedSimpArgs false
set_option linter.unusedVariables false
set_option maxRecDepth 100000
theorem u8_rng {n : Int} (h : (Lit.int .u8 n).wf = true) : 0 ≤ n ∧ n ≤ 255 := by
 simp only [Lit.wf, Bool.and_eq_true, decide_eq_true_eq] at h
 exact h
theorem open_u8 {v : V} (h : HasV (.int .u8) v) : ∃ n, v = .int .u8 n ∧ 0 ≤ n ∧ n ≤ 255 := by
 obtain ⟨n, rfl, hn⟩ := open_int' h
 have := u8_rng hn
 exact ⟨n, rfl, this⟩
theorem cv_u8 {n : Int} (h1 : 0 ≤ n) (h2 : n ≤ 255) : retV (.cvt .i64) [.int .u8 n] = some (.int .i64 n) := by
 rw [r_cvt, IntWalk.i64_in n ⟨by omega, by omega⟩]
theorem rm_i64 {x y : Int} (h1 : 0 ≤ x) (h2 : 1 ≤ y) : retV (.bin .rem) [.int .i64 x, .int .i64 y] = some (.int .i64 (x % y)) := by
 rw [r_rem, if_neg (by omega), Int.tmod_eq_emod_of_nonneg h1]
end Go.Am
namespace Go.Am
open Go
set_option linter.unusedSimpArgs false
set_option linter.unusedVariables false
set_option maxRecDepth 100000
section
variable {F : Nat → Option Fn} {lo : Nat} {md : Option (Nat × Nat)} {ops : List Op} {e b a : Env} {m : Mem} {Q : St → Prop} {d : Nat}
noncomputable def frz (lo : Nat) (m : Mem) (sz : Nat) : V → Option V
 | .agg cs => if cs.length = sz then freeze lo m 8 (.agg cs) else none
 | _ => none
theorem S_frz {t sz : Nat} : S F lo md (⟨.e d, .frz sz, [.b t], none⟩ :: ops) ⟨e, b, a, m⟩ Q ↔ OC (b.get t) fun u => OC (frz lo m sz u) fun v => S F lo (nx md) ops ⟨(d, v) :: e, (t, v) :: b, a, m.kill lo⟩ Q := by
 rw [S_exec]
 simp only [gs_cons, gs_nil, K.allocs, bmp_false, g_b]
 cases hb : b.get t with
 | none => simp [OC_none]
 | some u =>
  simp only [OC_some, plan, plan_frz, act, hb]
  cases u <;> simp only [frz, OC_none]
  case agg cs =>
   by_cases h : cs.length = sz
   ·simp only [if_pos h]
    cases freeze lo m 8 (.agg cs) with
    | none => simp [OC_none]
    | some v => simp [OC_some, put]
   ·simp only [if_neg h, OC_none]
end
theorem Rw.weak {lo lo' sz : Nat} {m : Mem} {v : V} {xs : List V} (h : Rw lo m sz v xs) (hl : lo' ≤ lo) : Rw lo' m sz v xs := by
 rcases h with h | ⟨k, h1, h2, h3, h4⟩
 ·exact .inl h
 ·exact .inr ⟨k, h1, by omega, h3, h4⟩
noncomputable def cpC (c : Cls) (hk : Nat) : V := .agg [.str c.name, vi c.wk, .bool c.srv, .row 4 hk 0 c.steps.length]
structure Cp (lo : Nat) (m : Mem) (C : V) (cs : List Cls) : Prop where
 ex : ∃ es, Rw lo m 4 C es ∧ es.length = cs.length ∧ ∀ (i : Nat) (v : V) (c : Cls), es[i]? = some v → cs[i]? = some c → ∃ hk, v = cpC c hk ∧ lo ≤ hk ∧ hk < m.next ∧ m.blk hk = some (.row 4 (c.steps.map vStp)) ∧ hOf C ≠ some hk
theorem Cp.weak {lo lo' : Nat} {m : Mem} {C : V} {cs : List Cls} (H : Cp lo m C cs) (hl : lo' ≤ lo) : Cp lo' m C cs := by
 obtain ⟨es, h1, h2, h3⟩ := H.ex
 refine ⟨es, h1.weak hl, h2, fun i v c hv hc => ?_⟩
 obtain ⟨hk, e1, e2, e3⟩ := h3 i v c hv hc
 exact ⟨hk, e1, by omega, e3⟩
theorem fz_cpC {lo n hk : Nat} {m : Mem} {c : Cls} (h1 : lo ≤ hk) (h2 : m.blk hk = some (.row 4 (c.steps.map vStp))) : freeze lo m (n + 4) (cpC c hk) = some (vCls c) := by
 have h3 : freeze lo m (n + 3) (.row 4 hk 0 c.steps.length) = some (vStps c.steps) := by
  rw [fz_row h2 h1 (by simp), List.drop_zero, List.take_of_length_le (by simp), mapO_id (fun x hx => by
   obtain ⟨y, _, rfl⟩ := List.mem_map.1 hx
   rfl)]
  rfl
 unfold cpC
 rw [fz_agg]
 simp only [mapO, fz_str, fz_int, fz_bool, h3]
 rfl
theorem Cp.fz {lo n : Nat} {m : Mem} {C : V} {cs : List Cls} (H : Cp lo m C cs) : freeze lo m (n + 5) C = some (vClss cs) := by
 obtain ⟨es, h1, h2, h3⟩ := H.ex
 rw [h1.freeze]
 have key : ∀ (es : List V) (cs : List Cls), es.length = cs.length → (∀ (i : Nat) (v : V) (c : Cls), es[i]? = some v → cs[i]? = some c → freeze lo m (n + 4) v = some (vCls c)) → mapO (freeze lo m (n + 4)) es = some (cs.map vCls) := by
  intro es
  induction es with
  | nil =>
   intro cs hl _
   cases cs with
   | nil => rfl
   | cons => simp at hl
  | cons v es ih =>
   intro cs hl hr
   cases cs with
   | nil => simp at hl
   | cons c cs =>
    have q1 := hr 0 v c rfl rfl
    have q2 := ih cs (by simpa using hl) (fun i v c hv hc => hr (i + 1) v c hv hc)
    simp only [mapO, q1, q2, List.map_cons]
 rw [key es cs h2 (fun i v c hv hc => by
  obtain ⟨hk, rfl, q1, _, q2, _⟩ := h3 i v c hv hc
  exact fz_cpC q1 q2)]
 rfl
structure CpS (lo : Nat) (m : Mem) (v : V) (s : Sys) : Prop where
 ex : ∃ hp hl C b, v = .agg [.row 3 hp 0 s.pools.length, .row 1 hl 0 s.locks.length, C] ∧ (lo ≤ hp ∧ hp < b ∧ m.blk hp = some (.row 3 (s.pools.map vPool))) ∧ (lo ≤ hl ∧ hl < b ∧ m.blk hl = some (.row 1 (s.locks.map .str))) ∧ hp ≠ hl ∧ lo ≤ b ∧ Cp b m C s.cls
theorem CpS.fz {lo : Nat} {m : Mem} {v : V} {s : Sys} (H : CpS lo m v s) : freeze lo m 8 v = some (vSys s) := by
 obtain ⟨hp, hl, C, b, rfl, ⟨h1, _, h2⟩, ⟨h3, _, h4⟩, _, h5, h6⟩ := H.ex
 have q1 : freeze lo m 7 (.row 3 hp 0 s.pools.length) = some (vPools s.pools) := by
  rw [fz_row h2 h1 (by simp), List.drop_zero, List.take_of_length_le (by simp), mapO_id (fun x hx => by
   obtain ⟨y, _, rfl⟩ := List.mem_map.1 hx
   rfl)]
  rfl
 have q2 : freeze lo m 7 (.row 1 hl 0 s.locks.length) = some (strs s.locks) := by
  rw [fz_row h4 h3 (by simp), List.drop_zero, List.take_of_length_le (by simp), mapO_id (fun x hx => by
   obtain ⟨y, _, rfl⟩ := List.mem_map.1 hx
   rfl)]
  rfl
 rw [fz_agg]
 simp only [mapO, q1, q2, (h6.weak h5).fz]
 rfl
theorem CpS.frv {lo : Nat} {m : Mem} {v : V} {s : Sys} (H : CpS lo m v s) : frz lo m 3 v = some (vSys s) := by
 have h := H.fz
 obtain ⟨hp, hl, C, b, rfl, _⟩ := H.ex
 exact h
theorem apV_lo {lo lo' h sz : Nat} {m : Mem} {x y : V} {r : V × Mem} (hl : lo ≤ lo') (hh : apV lo' h m sz x y = some r) : apV lo h m sz x y = some r := by
 unfold apV at hh ⊢
 cases hv : view m y with
 | none => rw [hv] at hh; cases hh
 | some q =>
  obtain ⟨s, xs⟩ := q
  rw [hv] at hh
  cases x with
  | row s0 h' o l =>
   simp only at hh ⊢
   by_cases h1 : s0 = sz
   ·rw [if_pos h1] at hh ⊢
    by_cases h2 : lo' ≤ h' ∧ (s = sz ∨ xs.length = 0) ∧ l + xs.length < big
    ·rw [if_pos h2] at hh
     rw [if_pos ⟨by omega, h2.2⟩]
     exact hh
    ·rw [if_neg h2] at hh
     cases hh
   ·rw [if_neg h1] at hh
    cases hh
  | _ => exact hh
theorem w89_1 {F : Nat → Option Fn} {lo b : Nat} (s : Sys) (hs : s.cls.length < 100) (hst : ∀ c ∈ s.cls, c.steps.length < 100) (P L : V) (hpo : P.one = true) (hlo : L.one = true) (u2 : V) : ∀ (t : List Cls) (i : Nat) (C : V) (m : Mem) (Q : Ex → St → Prop), s.cls.drop i = t → lo ≤ b → b ≤ m.next → Cp b m C (s.cls.take i) → (C = .nil ∨ ∃ h l, C = .row 4 h 0 l) →
  (∀ C m' e, m.next ≤ m'.next → Cp b m' C s.cls → (∀ k, k < b → m'.blk k = m.blk k) → Q (.exit 0) ⟨e, [(2, u2), (3, .agg [P, L, C])], [], m'⟩) →
  W F lo L89_1 ⟨[(16, vClss s.cls), (17, vi s.cls.length), (18, vi i)], [(2, u2), (3, .agg [P, L, C])], [], m⟩ Q := by
 intro t
 induction t with
 | nil =>
  intro i C m Q hd hlb hm H hC hQ
  have hlt := drop_nil hd
  rw [W_L (c := L89_1) rfl]
  have : ¬ ((i : Nat) : Int) < (s.cls.length : Int) := by omega
  simp only [↓sxc, sx, se, ↓reduceIte, Nat.reduceEqDiff, Nat.reduceAdd, Nat.reduceLT, Nat.reduceLeDiff, Nat.reduceSub, Nat.reduceMul, Int.reduceToNat, Int.reduceLT, Int.reduceLE, Int.reduceEq, ml_i0, ↓smc, sm, this]
  rw [List.take_of_length_le hlt] at H
  exact hQ C m _ (Nat.le_refl _) H (fun _ _ => rfl)
 | cons c t ih =>
  intro i C m Q hd hlb hm H hC hQ
  obtain ⟨hg, hd', hlt⟩ := drop_cons hd
  have c0 : ((i : Nat) : Int) < (s.cls.length : Int) := by omega
  have wr : wrapF .i64 ((i : Int) + 1) = ((i + 1 : Nat) : Int) := by rw [wr_i64 (by omega) (by omega)]; rfl
  have hs12 := hst c (List.mem_of_getElem? hg)
  have hil : (s.cls.take i).length = i := by simp; omega
  obtain ⟨es, r1, r2, r3⟩ := H.ex
  let m1 : Mem := (m.set m.next (some (.row 4 []))).bump 1
  have em1 : (m.set m.next (some (.row 4 []))).bump 1 = m1 := rfl
  have n1 : m1.next = m.next + 1 := rfl
  have f1 : ∀ k, k ≠ m.next → m1.blk k = m.blk k := fun k h => set_ne h
  have b1 : m1.blk m.next = some (.row 4 []) := by show (m.set m.next _).blk m.next = _; simp [Mem.set]
  clear_value m1
  have ap1 := ap_row (m := m1) (lo := lo) (h := m1.next) (h' := m.next) (o := 0) (l := 0) (sz := 4) (s := nz 4 (c.steps.map vStp)) (y := vStps c.steps) (xs := c.steps.map vStp) (es := []) vw_vStps (by omega) app_vStps (by have := hs12; simp [big]; omega) b1 (by simp)
  simp only [List.drop_nil, List.take_nil, List.nil_append, Nat.zero_add, List.length_map, n1] at ap1
  let m3 : Mem := ((m1.set m.next none).set (m.next + 1) (some (.row 4 (c.steps.map vStp)))).bump 1
  have em3 : ((m1.set m.next none).set (m.next + 1) (some (.row 4 (c.steps.map vStp)))).bump 1 = m3 := rfl
  have n3 : m3.next = m.next + 2 := by show m1.next + 1 = _; omega
  have f3 : ∀ k, k < m.next → m3.blk k = m.blk k := fun k h => by
   show ((m1.set m.next none).set (m.next + 1) _).blk k = _
   rw [set_ne (by omega), set_ne (by omega), f1 k (by omega)]
  have b3 : m3.blk (m.next + 1) = some (.row 4 (c.steps.map vStp)) := by show ((m1.set m.next none).set (m.next + 1) _).blk _ = _; simp [Mem.set]
  clear_value m3
  have r1' : Rw b m3 4 C es := r1.mono (by omega) (fun k l hk => by
   obtain ⟨_, _, h4, _⟩ := r1.hand (k := k) (by rw [hk]; rfl)
   exact f3 k h4)
  obtain ⟨C', m4, q1, q2, q3, _, q5, q6⟩ := r1'.app2 (y := .lst false 4 [cpC c (m.next + 1)]) (by omega) vw_lst (.inl rfl) (by simp [big]; omega)
  have hC' : C' = .row 4 m3.next 0 (es.length + 1) := by
   rcases q2 with ⟨_, h⟩ | ⟨k, h, _⟩
   ·simp at h
   ·rcases q6 with h6 | ⟨l, h6⟩
    ·rw [h6] at h; cases h
    ·rw [h6] at h
     cases h
     rw [h6]
     simp
  subst hC'
  have q1' : apV lo m3.next m3 4 C (.lst false 4 [cpC c (m.next + 1)]) = some (.row 4 m3.next 0 (es.length + 1), m4) := apV_lo hlb q1
  unfold cpC at q1'
  have sc3 : setC 3 1 (.row 4 (m.next + 1) 0 c.steps.length) (vCls c) = some (.agg [.str c.name, vi c.wk, .bool c.srv, .row 4 (m.next + 1) 0 c.steps.length]) := rfl
  rw [W_L (c := L89_1) rfl]
  simp only [↓sxc, sx, se, ↓reduceIte, Nat.reduceEqDiff, Nat.reduceAdd, Nat.reduceLT, Nat.reduceLeDiff, Nat.reduceSub, Nat.reduceMul, Int.reduceToNat, Int.reduceLT, Int.reduceLE, Int.reduceEq, ml_i0, ↓smc, sm, c0, hg, em1, n1, ap1, em3, sc3, q1', wr, hpo, hlo]
  refine ih (i + 1) (.row 4 m3.next 0 (es.length + 1)) (m4.bump 1) Q hd' hlb ?_ ⟨es ++ [cpC c (m.next + 1)], q2, ?_, fun j v c' hj hc' => ?_⟩ (.inr ⟨_, _, rfl⟩) (fun C m' e z1 z2 z3 => hQ C m' e ?_ z2 (fun k hk => ?_))
  ·show b ≤ m4.next + 1; omega
  ·rw [take_succ_drop hd]; simp [r2]
  ·rw [take_succ_drop hd] at hc'
   by_cases hji : j < es.length
   ·rw [List.getElem?_append_left hji] at hj
    rw [List.getElem?_append_left (by omega)] at hc'
    obtain ⟨hk, e1, e2, e3, e4, e5⟩ := r3 j v c' hj hc'
    refine ⟨hk, e1, e2, by show hk < m4.next + 1; omega, ?_, fun h => ?_⟩
    ·show m4.blk hk = _
     rw [q5 hk (fun l hl => e5 (by rw [hl]; rfl)) (by omega), f3 hk e3]
     exact e4
    ·cases h
     omega
   ·rw [List.getElem?_append_right (by omega)] at hj
    rw [List.getElem?_append_right (by omega)] at hc'
    have hj0 : j - es.length = 0 := by
     rcases Nat.eq_zero_or_pos (j - es.length) with h | h
     ·exact h
     ·rw [List.getElem?_eq_none (by simp; omega)] at hj
      cases hj
    rw [hj0] at hj
    rw [r2.symm, hj0] at hc'
    cases hj
    cases hc'
    refine ⟨m.next + 1, rfl, by omega, by show m.next + 1 < m4.next + 1; omega, ?_, fun h => ?_⟩
    ·show m4.blk (m.next + 1) = _
     rw [q5 _ (fun l hl => ?_) (by omega)]
     ·exact b3
     ·obtain ⟨_, _, h4, _⟩ := r1.hand (k := m.next + 1) (by rw [hl]; rfl)
      omega
    ·have h' : some m3.next = some (m.next + 1) := h
     have := Option.some.inj h'
     omega
  ·have z1' : m4.next + 1 ≤ m'.next := z1
   omega
  ·rw [z3 k hk]
   show m4.blk k = _
   rw [q5 k (fun l hl => ?_) (by omega), f3 k (by omega)]
   obtain ⟨_, h5, _⟩ := r1.hand (k := k) (by rw [hl]; rfl)
   omega
theorem sp89 {F : Nat → Option Fn} (hF : F 89 = some c89) {lo : Nat} {m : Mem} (s : Sys) (hlo : lo ≤ m.next) (hp : s.pools.length < 100) (hk : s.locks.length < 100) (hs : s.cls.length < 100) (hst : ∀ c ∈ s.cls, c.steps.length < 100) :
  ∃ v m', callw F 89 [vSys s] lo m = some (v, m') ∧ (CpS m.next m' v s ∧ m.next ≤ m'.next ∧ ∀ k, k < m.next → m'.blk k = m.blk k) := by
 refine call_x hF rfl ?_
 let m1 : Mem := (m.bump 11).set m.next (some (.row 3 []))
 have em1 : (m.bump 11).set m.next (some (.row 3 [])) = m1 := rfl
 have n1 : m1.next = m.next + 11 := rfl
 have f1 : ∀ k, k ≠ m.next → m1.blk k = m.blk k := fun k h => set_ne h
 have b1 : m1.blk m.next = some (.row 3 []) := by show (Mem.set _ m.next _).blk m.next = _; simp [Mem.set]
 clear_value m1
 have ap1 := ap_row (m := m1) (lo := lo) (h := m.next + 3) (h' := m.next) (o := 0) (l := 0) (sz := 3) (s := nz 3 (s.pools.map vPool)) (y := vPools s.pools) (xs := s.pools.map vPool) (es := []) vw_vPools hlo app_vPools (by simp [big]; omega) b1 (by simp)
 simp only [List.drop_nil, List.take_nil, List.nil_append, Nat.zero_add, List.length_map] at ap1
 let m2 : Mem := (m1.set m.next none).set (m.next + 3) (some (.row 3 (s.pools.map vPool)))
 have em2 : (m1.set m.next none).set (m.next + 3) (some (.row 3 (s.pools.map vPool))) = m2 := rfl
 have n2 : m2.next = m.next + 11 := n1
 have f2 : ∀ k, k < m.next → m2.blk k = m.blk k := fun k h => by
  show ((m1.set m.next none).set (m.next + 3) _).blk k = _
  rw [set_ne (by omega), set_ne (by omega), f1 k (by omega)]
 have b2 : m2.blk (m.next + 3) = some (.row 3 (s.pools.map vPool)) := by show ((m1.set m.next none).set (m.next + 3) _).blk _ = _; simp [Mem.set]
 clear_value m2
 let m3 : Mem := m2.set (m.next + 4) (some (.row 1 []))
 have em3 : m2.set (m.next + 4) (some (.row 1 [])) = m3 := rfl
 have n3 : m3.next = m.next + 11 := n2
 have f3 : ∀ k, k ≠ m.next + 4 → m3.blk k = m2.blk k := fun k h => set_ne h
 have b3 : m3.blk (m.next + 4) = some (.row 1 []) := by show (m2.set _ _).blk _ = _; simp [Mem.set]
 clear_value m3
 have ap2 := ap_row (m := m3) (lo := lo) (h := m.next + 7) (h' := m.next + 4) (o := 0) (l := 0) (sz := 1) (s := nz 1 (s.locks.map V.str)) (y := strs s.locks) (xs := s.locks.map V.str) (es := []) vw_strs (by omega) app_strs (by simp [big]; omega) b3 (by simp)
 simp only [List.drop_nil, List.take_nil, List.nil_append, Nat.zero_add, List.length_map] at ap2
 let m4 : Mem := (m3.set (m.next + 4) none).set (m.next + 7) (some (.row 1 (s.locks.map V.str)))
 have em4 : (m3.set (m.next + 4) none).set (m.next + 7) (some (.row 1 (s.locks.map V.str))) = m4 := rfl
 have n4 : m4.next = m.next + 11 := n3
 have f4 : ∀ k, k ≠ m.next + 4 → k ≠ m.next + 7 → m4.blk k = m3.blk k := fun k h h' => by
  show ((m3.set (m.next + 4) none).set (m.next + 7) _).blk k = _
  rw [set_ne h', set_ne h]
 have b4 : m4.blk (m.next + 7) = some (.row 1 (s.locks.map V.str)) := by show ((m3.set (m.next + 4) none).set (m.next + 7) _).blk _ = _; simp [Mem.set]
 clear_value m4
 simp only [↓sxc, sx, se, ↓reduceIte, Nat.reduceEqDiff, Nat.reduceAdd, Nat.reduceLT, Nat.reduceLeDiff, Nat.reduceSub, Nat.reduceMul, Int.reduceToNat, Int.reduceLT, Int.reduceLE, Int.reduceEq, ml_i0, ↓W_dreg, ↓sk, sk, em1, ap1, em2, em3, ap2, em4]
 have kp : V.key (vPools s.pools) = [] := rfl
 have kl : V.key (strs s.locks) = [] := rfl
 refine ⟨by simp [pairsOk, nth_eq, keysApart, Key.apart, kp, kl, k_row], ?_⟩
 refine w89_1 (b := m4.next) s hs hst (.row 3 (m.next + 3) 0 s.pools.length) (.row 1 (m.next + 7) 0 s.locks.length) rfl rfl _ s.cls 0 .nil m4 _ rfl (by omega) (Nat.le_refl _) ⟨[], .nil, by simp, fun i v c h => by simp at h⟩ (.inl rfl) (fun C m' e q1 q2 q3 => ?_)
 have hC1 : C.one = true ∧ (C = .nil ∨ ∃ h l, C = .row 4 h 0 l ∧ m4.next ≤ h) := by
  obtain ⟨es, r1, _⟩ := q2.ex
  rcases r1 with ⟨rfl, _⟩ | ⟨h, rfl, h1, _⟩
  ·exact ⟨rfl, .inl rfl⟩
  ·exact ⟨rfl, .inr ⟨h, _, rfl, h1⟩⟩
 obtain ⟨hC1, hC2⟩ := hC1
 have hC3 : ∀ k, k < m4.next → hOf C ≠ some k := by
  intro k hk h
  rcases hC2 with rfl | ⟨h', l, rfl, h1⟩
  ·cases h
  ·have : some h' = some k := h
   have := Option.some.inj this
   omega
 simp only [↓sxc, sx, se, ↓reduceIte, Nat.reduceEqDiff, Nat.reduceAdd, Nat.reduceLT, Nat.reduceLeDiff, Nat.reduceSub, Nat.reduceMul, Int.reduceToNat, Int.reduceLT, Int.reduceLE, Int.reduceEq, ml_i0, ↓smc, sm, hC1, PX_ret, PX_nrm]
 refine ⟨⟨m.next + 3, m.next + 7, C, m4.next, rfl, ⟨by omega, by omega, ?_⟩, ⟨by omega, by omega, ?_⟩, by omega, by omega, q2⟩, by omega, fun k hk => ?_⟩
 ·rw [q3 _ (by omega), f4 _ (by omega) (by omega), f3 _ (by omega)]
  exact b2
 ·rw [q3 _ (by omega)]
  exact b4
 ·rw [q3 _ (by omega), f4 _ (by omega) (by omega), f3 _ (by omega)]
  exact f2 k hk
theorem Cp.row {b : Nat} {m : Mem} {C : V} {cs : List Cls} (H : Cp b m C cs) (hn : cs ≠ []) : ∃ hC es, C = .row 4 hC 0 cs.length ∧ b ≤ hC ∧ m.blk hC = some (.row 4 es) ∧ es.length = cs.length ∧ ∀ (i : Nat) (c : Cls), cs[i]? = some c → ∃ hk, es[i]? = some (cpC c hk) ∧ b ≤ hk ∧ hk < m.next ∧ m.blk hk = some (.row 4 (c.steps.map vStp)) ∧ hC ≠ hk := by
 obtain ⟨es, h1, h2, h3⟩ := H.ex
 rcases h1 with ⟨_, h⟩ | ⟨hC, rfl, q1, q2, q3⟩
 ·rw [h] at h2
  exact absurd (List.eq_nil_of_length_eq_zero h2.symm) hn
 ·refine ⟨hC, es, by rw [h2], q1, q3, h2, fun i c hc => ?_⟩
  have hi := (List.getElem?_eq_some_iff.1 hc).1
  have hv : es[i]? = some (es[i]'(by omega)) := List.getElem?_eq_getElem _
  obtain ⟨hk, e1, e2, e3, e4, e5⟩ := h3 i _ c hv hc
  rw [e1] at hv
  exact ⟨hk, hv, e2, e3, e4, fun h => e5 (by rw [h]; rfl)⟩
theorem Cp.len {b : Nat} {m : Mem} {C : V} {cs : List Cls} (H : Cp b m C cs) : retV (.len false) [C] = some (vi cs.length) := by
 obtain ⟨es, h1, h2, _⟩ := H.ex
 rw [h1.len, h2]
theorem Cp.other {b hp : Nat} {m : Mem} {C : V} {cs : List Cls} (H : Cp b m C cs) (hb : hp < b) (B : Option Blk) : Cp b (m.set hp B) C cs := by
 obtain ⟨es, h1, h2, h3⟩ := H.ex
 refine ⟨es, h1.mono (Nat.le_refl _) (fun k l hk => ?_), h2, fun i v c hv hc => ?_⟩
 ·obtain ⟨_, h4, _⟩ := h1.hand (k := k) (by rw [hk]; rfl)
  exact set_ne (by omega)
 ·obtain ⟨hk, e1, e2, e3, e4, e5⟩ := h3 i v c hv hc
  exact ⟨hk, e1, e2, e3, by rw [set_ne (by omega)]; exact e4, e5⟩
theorem frz_sys {lo : Nat} {m : Mem} {s : Sys} : frz lo m 3 (vSys s) = some (vSys s) := rfl
end Go.Am
namespace Go.Am
open Go
set_option linter.unusedSimpArgs false
set_option linter.unusedVariables false
theorem firstE_of {f : Cls → Int} : ∀ {l : List Cls}, (∀ c ∈ l, f c = 0) → firstE f l = 0
 | [], _ => rfl
 | c :: t, h => by
  simp only [firstE]
  rw [if_neg (by simpa using h c (by simp))]
  exact firstE_of fun c' hc => h c' (by simp [hc])
structure Ext (s s' : Sys) : Prop where
 lp : s'.pools.length = s.pools.length
 ll : s'.locks.length = s.locks.length
 lc : s'.cls.length = s.cls.length
 nm : namesOf s' = namesOf s
 bad : s'.pools.any poolBad = false
 sz : ∀ on, sizeAt s on ≤ sizeAt s' on
 cc : ∀ (i : Nat) (c' : Cls), s'.cls[i]? = some c' → ∃ c, s.cls[i]? = some c ∧ c'.steps = c.steps ∧ c'.srv = c.srv ∧ 0 ≤ c'.wk ∧ c'.wk ≤ 4
theorem Ext.srv {s s' : Sys} (H : Ext s s') (on : Int) : srvAt s' on = srvAt s on := by
 unfold srvAt
 cases h : s'.cls[on.toNat]? with
 | none =>
  have : s.cls[on.toNat]? = none := by
   rw [List.getElem?_eq_none_iff] at h ⊢
   rw [← H.lc]; exact h
  rw [this]
 | some c' =>
  obtain ⟨c, h1, _, h2, _⟩ := H.cc _ _ h
  rw [h1]
  exact h2
theorem Ext.nOf {s s' : Sys} (H : Ext s s') (x : Stp) : nOf s' x = nOf s x := by
 unfold Go.Am.nOf
 rw [H.lp, H.ll, H.lc]
theorem Ext.step {s s' : Sys} (H : Ext s s') {x : Stp} {b0 b1 : Int} (h : stepE s x b0 b1 = 0) : stepE s' x b0 b1 = 0 := by
 obtain ⟨h1, h2⟩ := stepE_zero h
 have hz := H.sz x.on
 have h3 : preE s' x = 0 := by
  unfold preE at h1 ⊢
  rw [H.nOf]
  split at h1
  ·omega
  ·rename_i q1
   rw [if_neg q1]
   split at h1
   ·omega
   ·rename_i q2
    rw [if_neg q2]
    split at h1
    ·omega
    ·rename_i q3
     rw [if_neg]
     rintro ⟨q4, q5⟩
     exact q3 ⟨q4, by omega⟩
 have h4 : badE s' x b0 b1 = false := by
  unfold badE at h2 ⊢
  rw [H.srv]
  split at h2
  ·rename_i q1
   rw [if_pos q1]
   simp only [decide_eq_false_iff_not] at h2 ⊢
   omega
  ·rename_i q1
   rw [if_neg q1]
   exact h2
 unfold stepE
 rw [if_neg (by simpa using h3), h4]
 rfl
theorem Ext.steps {s s' : Sys} (H : Ext s s') : ∀ {t pre : List Stp}, stepsE s pre t = 0 → stepsE s' pre t = 0
 | [], _, _ => rfl
 | x :: t, pre, h => by
  simp only [stepsE] at h ⊢
  split at h
  ·rename_i h1
   exact absurd h h1
  ·rename_i h1
   have h1' : stepE s x (bal x.on 0 pre) (bal x.on 1 pre) = 0 := by omega
   rw [if_neg (by rw [H.step h1']; simp)]
   exact H.steps h
theorem Ext.chk {s s' : Sys} (H : Ext s s') (h0 : chkE s = 0) : chkE s' = 0 := by
 have hv := valid_of h0
 unfold chkE
 have := hv.p6
 have := hv.l4
 have := hv.c6
 rw [H.nm, if_neg (by rw [H.lp, H.ll, H.lc]; omega), if_neg (by simpa using hv.nm), if_neg (by simp [H.bad])]
 refine firstE_of fun c' hc' => ?_
 obtain ⟨i, hi, rfl⟩ := List.getElem_of_mem hc'
 obtain ⟨c, h1, h2, h3, h4, h5⟩ := H.cc i _ (List.getElem?_eq_getElem hi)
 have k := clsOk_of (hv.cls c (List.mem_of_getElem? h1))
 unfold clsE
 have k1 := k.l1
 have k12 := k.l12
 rw [h2, H.lp, H.ll, if_neg (by omega), if_neg (by omega), if_neg (by rw [H.steps k.steps]; simp), if_neg (by simp [k.o0]), if_neg (by simp [k.o1])]
structure Lw (s s' : Sys) : Prop extends Ext s s' where
 sr : ∀ on, sizeAt s on - resAt s on ≤ sizeAt s' on - resAt s' on
 rs : ∀ on, resAt s on ≤ resAt s' on
 d1 : ∀ on, (dem on s'.cls).1 ≤ (dem on s.cls).1
 d2 : ∀ on, (dem on s'.cls).2 ≤ (dem on s.cls).2
 wz : ∀ on, wkAt s' on = 0 → wkAt s on = 0
theorem Lw.imp {s s' : Sys} (H : Lw s s') {x : Stp} (h : impE s' x = true) : impE s x = true := by
 unfold impE at h ⊢
 split at h
 ·rename_i h1
  rw [if_pos h1]
  have := H.sr x.on
  simp only [Bool.and_eq_true, decide_eq_true_eq] at h ⊢
  exact ⟨h.1, by omega⟩
 ·rename_i h1
  rw [if_neg h1]
  split at h
  ·rename_i h2
   rw [if_pos h2]
   simp only [decide_eq_true_eq] at h ⊢
   exact H.wz _ h
  ·cases h
theorem Lw.hold {s s' : Sys} (H : Lw s s') {i : Nat} {c c' : Cls} (hs : c'.srv = c.srv) (L : List Stp) : hold s' i c' L = hold s i c L := by
 unfold Go.Am.hold
 rw [H.lp, H.ll, hs]
def setP (s : Sys) (i : Nat) (p : Pool) : Sys := ⟨s.pools.set i p, s.locks, s.cls⟩
theorem setP_ext {s : Sys} (h0 : chkE s = 0) {i : Nat} {p p' : Pool} (hp : s.pools[i]? = some p) (hn : p'.name = p.name) (hz : p.size ≤ p'.size) (hb : poolBad p' = false) : Ext s (setP s i p') := by
 have hv := valid_of h0
 have hil := (List.getElem?_eq_some_iff.1 hp).1
 refine ⟨by simp [setP], rfl, rfl, ?_, ?_, fun on => ?_, fun j c' hc => ⟨c', hc, rfl, rfl, ?_⟩⟩
 ·simp only [namesOf, setP, List.map_set, hn]
  congr 2
  refine List.ext_getElem? fun j => ?_
  by_cases hj : j = i
  ·subst hj
   rw [List.getElem?_set_self (by simpa using hil), List.getElem?_map, hp]
   rfl
  ·rw [List.getElem?_set_ne (Ne.symm hj)]
 ·refine List.any_eq_false.2 fun q hq => ?_
  rcases List.mem_or_eq_of_mem_set hq with h | rfl
  ·have := hv.pool q h
   simp [poolBad]
   omega
  ·simpa using hb
 ·unfold sizeAt setP
  by_cases hj : on.toNat = i
  ·rw [hj, hp, List.getElem?_set_self hil]
   exact hz
  ·rw [List.getElem?_set_ne (Ne.symm hj)]
   exact Int.le_refl _
 ·have := hv.okC c' (List.mem_of_getElem? hc)
  exact ⟨this.w0, this.w4⟩
theorem setP_at {s : Sys} {i : Nat} {p p' : Pool} (hp : s.pools[i]? = some p) : sizeAt (setP s i p') i = p'.size ∧ resAt (setP s i p') i = p'.res ∧ ∀ on : Int, on.toNat ≠ i → sizeAt (setP s i p') on = sizeAt s on ∧ resAt (setP s i p') on = resAt s on := by
 have hil := (List.getElem?_eq_some_iff.1 hp).1
 refine ⟨?_, ?_, fun on hj => ⟨?_, ?_⟩⟩
 ·unfold sizeAt setP
  rw [Int.toNat_natCast, List.getElem?_set_self hil]
 ·unfold resAt setP
  rw [Int.toNat_natCast, List.getElem?_set_self hil]
 ·unfold sizeAt setP
  rw [List.getElem?_set_ne (Ne.symm hj)]
 ·unfold resAt setP
  rw [List.getElem?_set_ne (Ne.symm hj)]
end Go.Am
