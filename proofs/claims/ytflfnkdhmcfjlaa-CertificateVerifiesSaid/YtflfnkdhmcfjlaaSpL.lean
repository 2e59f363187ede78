/- What a class holds before a step: both functions Held. -/
import Derived.Test.YtflfnkdhmcfjlaaMpr
namespace Go.Am
open Go
set_option linter.unusedSimpArgs false
set_option linter.unusedVariables false
set_option maxRecDepth 100000

def uL (s : Sys) (l : List Stp) : List Int := (List.range s.pools.length).map fun (j : Nat) => bal (j : Int) 0 l
def kL (s : Sys) (l : List Stp) : List Bool := (List.range s.locks.length).map fun (j : Nat) => decide (0 < bal (j : Int) 1 l)

theorem Rl.eqs {s : Sys} {pre : List Stp} {u : List Int} {k : List Bool} (h : Rl s pre u k) : u = uL s pre ∧ k = kL s pre := by
  constructor
  · refine List.ext_getElem? fun j => ?_
    by_cases hj : j < s.pools.length
    · rw [h.u j hj]
      simp [uL, hj]
    · rw [List.getElem?_eq_none (by rw [h.ul]; omega), List.getElem?_eq_none (by simp [uL]; omega)]
  · refine List.ext_getElem? fun j => ?_
    by_cases hj : j < s.locks.length
    · obtain ⟨b, h1, h2⟩ := h.k j hj
      rw [h1]
      simp only [kL, List.getElem?_map, List.getElem?_range hj, Option.map_some, h2]
      cases b <;> simp
    · rw [List.getElem?_eq_none (by rw [h.kl]; omega), List.getElem?_eq_none (by simp [kL]; omega)]

theorem stepsE_left {s : Sys} : ∀ {a b pre : List Stp}, stepsE s pre (a ++ b) = 0 → stepsE s pre a = 0
  | [], b, pre, _ => rfl
  | x :: a, b, pre, h => by
    rw [List.cons_append] at h
    unfold stepsE at h ⊢
    split at h
    · rename_i h1; exact absurd h h1
    · rename_i h1
      rw [if_neg h1]
      exact stepsE_left h

theorem Valid.left {s : Sys} (h : Valid s) {c : Cls} (hc : c ∈ s.cls) (k : Nat) : stepsE s [] (c.steps.take k) = 0 := by
  have h1 := (clsOk_of (h.cls c hc)).steps
  rw [← List.take_append_drop k c.steps] at h1
  exact stepsE_left h1

theorem fz_introw {lo n h : Nat} {m : Mem} {u : List Int} (hb : m.blk h = some (.row 1 (u.map vi))) (hl : lo ≤ h) : freeze lo m (n + 2) (.row 1 h 0 u.length) = some (ints u) := by
  rw [fz_row hb hl (by simp)]
  have : ((u.map vi).drop 0).take u.length = u.map vi := by rw [List.drop_zero, List.take_of_length_le (by simp)]
  rw [this, mapO_id (fun x hx => by
    obtain ⟨y, _, rfl⟩ := List.mem_map.1 hx
    rfl)]
  rfl
theorem fz_boolrow {lo n h : Nat} {m : Mem} {u : List Bool} (hb : m.blk h = some (.row 1 (u.map .bool))) (hl : lo ≤ h) : freeze lo m (n + 2) (.row 1 h 0 u.length) = some (bools u) := by
  rw [fz_row hb hl (by simp)]
  have : ((u.map V.bool).drop 0).take u.length = u.map .bool := by rw [List.drop_zero, List.take_of_length_le (by simp)]
  rw [this, mapO_id (fun x hx => by
    obtain ⟨y, _, rfl⟩ := List.mem_map.1 hx
    rfl)]
  rfl

theorem sp54 {F : Nat → Option Fn} (hA : HasA F) {lo : Nat} {m : Mem} (s : Sys) (h0 : chkE s = 0) (i k : Nat) (c : Cls) (hc : s.cls[i]? = some c) (hk : k ≤ c.steps.length) : callw F 54 [vSys s, vi i, vi k] lo m = some (.tup [ints (uL s (c.steps.take k)), bools (kL s (c.steps.take k)), vi 0], m) := by
  have hv := valid_of h0
  have hcm := List.mem_of_getElem? hc
  have hoc := hv.okC c hcm
  have hst := hv.left hcm k
  have hp := hv.size
  have h1 : s.pools.length < 100 := by have := hv.p6; omega
  have h2 : s.locks.length < 100 := by have := hv.l4; omega
  have hl12 := hoc.l12
  generalize hL : c.steps.take k = L at hst ⊢
  have hlen : L.length < 100 := by rw [← hL, List.length_take]; omega
  have loop : ∀ (p a b : Nat) (t : List Stp) (i : Nat) (u : List Int) (k : List Bool) (m' : Mem) (Q : Ex → St → Prop), L.drop i = t → Rl s (L.take i) u k → Hd m.next m' p a b u k → (∀ x ∈ L.take i, -1000 ≤ x.cnt ∧ x.cnt ≤ 1000) → stepsE s (L.take i) t = 0 →
      (∀ u k m' e, Rl s L u k → Hd m.next m' p a b u k → Q (.exit 0) ⟨(10, .ptr p 0 0) :: e, [(3, vSys s)], [], m'⟩) →
      W F m.next L54_1 ⟨[(10, .ptr p 0 0), (51, vStps L), (52, vi L.length), (53, vi i)], [(3, vSys s)], [], m'⟩ Q := by
    intro p a b t
    induction t with
    | nil =>
      intro i u k m' Q hd hr hh hb _ q2
      have hlt := drop_nil hd
      rw [W_L (c := L54_1) rfl]
      have : ¬ ((i : Nat) : Int) < (L.length : Int) := by omega
      simp only [↓sxc, sx, se, ↓reduceIte, Nat.reduceEqDiff, Nat.reduceAdd, Nat.reduceLT, Nat.reduceLeDiff, Nat.reduceSub, Nat.reduceMul, Int.reduceToNat, Int.reduceLT, Int.reduceLE, Int.reduceEq, ml_i0, this]
      rw [List.take_of_length_le hlt] at hr
      exact q2 u k m' _ hr hh
    | cons x t ih =>
      intro i u k m' Q hd hr hh hb he0 q2
      obtain ⟨hg, hd', hlt⟩ := drop_cons hd
      rw [W_L (c := L54_1) rfl]
      have : ((i : Nat) : Int) < (L.length : Int) := by omega
      have wr : wrapF .i64 ((i : Int) + 1) = ((i + 1 : Nat) : Int) := by rw [wr_i64 (by omega) (by omega)]; rfl
      have hub : ∀ n ∈ u, -1000000 ≤ n ∧ n ≤ 1000000 := by
        intro n hn
        obtain ⟨j, hj, rfl⟩ := List.getElem_of_mem hn
        have h3 := hr.u j (by rw [← hr.ul]; exact hj)
        rw [List.getElem?_eq_getElem hj] at h3
        rw [Option.some.inj h3]
        have := bal_bd (on := j) (kind := 0) hb
        rw [List.length_take] at this
        have : min i L.length ≤ 100 := by omega
        omega
      obtain ⟨v, m'', hc, ho⟩ := sp122 hA (lo := m.next) s x hh hr.ul hr.kl hp hub
      have hv := ho.res
      rw [hr.holdE] at hv
      subst hv
      have he : stepE s x (bal x.on 0 (L.take i)) (bal x.on 1 (L.take i)) = 0 := by
        unfold stepsE at he0
        split at he0
        · rename_i h1; exact absurd he0 h1
        · rename_i h1; simpa using h1
      have he1 : stepsE s (L.take i ++ [x]) t = 0 := by
        unfold stepsE at he0
        rw [if_neg (by simpa using he)] at he0
        exact he0
      simp only [↓sxc, sx, se, ↓reduceIte, Nat.reduceEqDiff, Nat.reduceAdd, Nat.reduceLT, Nat.reduceLeDiff, Nat.reduceSub, Nat.reduceMul, Int.reduceToNat, Int.reduceLT, Int.reduceLE, Int.reduceEq, ml_i0, this, hg, hc, he, wr]
      have hpr := (stepE_zero he).1
      have hr' := hr.step he
      rw [← take_succ_drop hd] at he1 hr'
      refine ih (i + 1) (uStep u x) (kStep k x) m'' Q hd' hr' ?_ (fun y hy => ?_) he1 q2
      · have hba := ho.ba
        have hbb := ho.bb
        rw [if_pos hpr] at hba hbb
        have hn := ho.nx
        exact ⟨hh.pa, hh.pb, hh.ab, hh.lp, hh.la, hh.lb, Nat.lt_of_lt_of_le hh.hp hn, Nat.lt_of_lt_of_le hh.ha hn, Nat.lt_of_lt_of_le hh.hb hn, by rw [ho.oth p hh.pa hh.pb, uStep_len, kStep_len]; exact hh.bp, hba, hbb⟩
      · rw [take_succ_drop hd] at hy
        rcases List.mem_append.1 hy with hy | hy
        · exact hb y hy
        · simp at hy
          subst hy
          exact stepE_cnt he hp
  have hil := (List.getElem?_eq_some_iff.1 hc).1
  have g1 : ¬ ((s.cls.length : Int) ≤ (i : Int)) := by omega
  have g2 : ¬ ((i : Int) < 0) := by omega
  have g3 : ¬ ((k : Int) < 0) := by omega
  have g4 : ¬ ((c.steps.length : Int) < (k : Int)) := by omega
  have c1 : ∀ {lo m}, callw F 49 [vSys s] lo m = some (vi (chkE s), m) := fun {lo m} => sp49 hA s
  obtain ⟨v, m1, hc1, a, b, rfl, hab, la, lb, ha, hb, hba, hbb, hold⟩ := sp121 hA (lo := m.next) (m := m) s h1 h2
  have hml : m.next ≤ m1.next := by omega
  have na : a ≠ m1.next := by omega
  have nb : b ≠ m1.next := by omega
  have n0 : ((k : Nat) : Int).toNat = k := rfl
  have i0 : ((i : Nat) : Int).toNat = i := rfl
  have p0 : (0 : Int) ≤ (i : Int) := by omega
  have p1 : (0 : Int) ≤ (k : Int) := by omega
  refine call_p hA.h54 rfl ?_
  simp only [↓sxc, sx, se, ↓reduceIte, Nat.reduceEqDiff, Nat.reduceAdd, Nat.reduceLT, Nat.reduceLeDiff, Nat.reduceSub, Nat.reduceMul, Int.reduceToNat, Int.reduceLT, Int.reduceLE, Int.reduceEq, ml_i0, c1, h0, g1, g2, g3, g4, hc, hc1, hml, i0, n0, p0, p1, hk, List.drop_zero, Nat.sub_zero, hL, Nat.zero_le]
  refine loop m1.next a b L 0 (List.replicate s.pools.length 0) (List.replicate s.locks.length false) _ _ rfl Rl.start ⟨na.symm, nb.symm, hab, by omega, la, lb, Nat.lt_succ_self _, Nat.lt_succ_of_lt ha, Nat.lt_succ_of_lt hb, by simp [Mem.set], by simp [Mem.set, Mem.bump, na, hba], by simp [Mem.set, Mem.bump, nb, hbb]⟩ (by simp) hst (fun u k m' e1 hr hh => ?_)
  obtain ⟨e1, e2⟩ := hr.eqs
  simp only [↓sxc, sx, se, ↓reduceIte, Nat.reduceEqDiff, Nat.reduceAdd, Nat.reduceLT, Nat.reduceLeDiff, Nat.reduceSub, Nat.reduceMul, Int.reduceToNat, Int.reduceLT, Int.reduceLE, Int.reduceEq, ml_i0, hh.bp]
  have f1 : freeze m.next (m'.bump 7) 7 (V.row 1 a 0 u.length) = some (ints u) := fz_introw hh.ba hh.la
  have f2 : freeze m.next (m'.bump 7) 7 (V.row 1 b 0 k.length) = some (bools k) := fz_boolrow hh.bb hh.lb
  simp only [mapO, f1, f2, fz_int, Option.map_some]
  rw [e1, e2]

theorem sp149 {F : Nat → Option Fn} (hA : HasA F) {lo : Nat} {m : Mem} (s : Sys) (h0 : chkE s = 0) (i k : Nat) (c : Cls) (hc : s.cls[i]? = some c) (hk : k ≤ c.steps.length) : callw F 149 [vSys s, vi i, vi k] lo m = some (.tup [ints (uL s (c.steps.take k)), bools (kL s (c.steps.take k)), vi 0], m) := by
  have hv := valid_of h0
  have hcm := List.mem_of_getElem? hc
  have hoc := hv.okC c hcm
  have hl12 := hoc.l12
  have cb : ∀ {lo m} (on kind : Int), callw F 164 [vStps c.steps, vi k, vi on, vi kind] lo m = some (vi (bal on kind (c.steps.take k)), m) := fun {lo m} on kind => sp164 hA c.steps k on kind hk (by omega) (fun x hx => hoc.cnt x (List.mem_of_mem_take hx))
  have h1 : s.pools.length < 100 := by have := hv.p6; omega
  have h2 : s.locks.length < 100 := by have := hv.l4; omega
  have loop1 : ∀ (r i : Nat) (v : V) (xs : List Int) (m' : Mem) (Q : Ex → St → Prop), i + r = s.pools.length → xs = (List.range i).map (fun (j : Nat) => bal (j : Int) 0 (c.steps.take k)) → m.next ≤ m'.next → Rw m.next m' 1 v (xs.map vi) →
      (∀ v m' e, m.next ≤ m'.next → Rw m.next m' 1 v ((uL s (c.steps.take k)).map vi) → Q (.exit 0) ⟨(2, vi k) :: (10, vStps c.steps) :: (11, v) :: (12, .nil) :: e, [(3, vSys s)], [], m'⟩) →
      W F m.next L149_1 ⟨[(2, vi k), (10, vStps c.steps), (11, v), (12, .nil), (13, vi i)], [(3, vSys s)], [], m'⟩ Q := by
    intro r
    induction r with
    | zero =>
      intro i v xs m' Q hi hx hm hr hq
      rw [W_L (c := L149_1) rfl]
      have : ¬ ((i : Nat) : Int) < (s.pools.length : Int) := by omega
      simp only [↓sxc, sx, se, ↓reduceIte, Nat.reduceEqDiff, Nat.reduceAdd, Nat.reduceLT, Nat.reduceLeDiff, Nat.reduceSub, Nat.reduceMul, Int.reduceToNat, Int.reduceLT, Int.reduceLE, Int.reduceEq, ml_i0, this]
      have e : uL s (c.steps.take k) = xs := by rw [hx, show i = s.pools.length by omega]; rfl
      exact hq v m' _ hm (by rw [e]; exact hr)
    | succ r ih =>
      intro i v xs m' Q hi hx hm hr hq
      rw [W_L (c := L149_1) rfl]
      have : ((i : Nat) : Int) < (s.pools.length : Int) := by omega
      have wr : wrapF .i64 ((i : Int) + 1) = ((i + 1 : Nat) : Int) := by rw [wr_i64 (by omega) (by omega)]; rfl
      have hxl : xs.length = i := by rw [hx]; simp
      obtain ⟨v', m'', hap, hr', hn, _⟩ := Rw.app (y := .lst false 1 [vi (bal (i : Int) 0 (c.steps.take k))]) hr hm vw_lst (.inl rfl) (by simp [big, hxl]; omega)
      simp only [↓sxc, sx, se, ↓reduceIte, Nat.reduceEqDiff, Nat.reduceAdd, Nat.reduceLT, Nat.reduceLeDiff, Nat.reduceSub, Nat.reduceMul, Int.reduceToNat, Int.reduceLT, Int.reduceLE, Int.reduceEq, ml_i0, this, cb, hap, wr]
      refine ih (i + 1) v' (xs ++ [bal (i : Int) 0 (c.steps.take k)]) (m''.bump 1) Q (by omega) (by rw [hx, List.range_succ, List.map_append]; rfl) ?_ (by simpa using hr') hq
      show m.next ≤ m''.next + 1
      omega
  have loop2 : ∀ (r i : Nat) (v w : V) (xs : List Bool) (m' : Mem) (Q : Ex → St → Prop), i + r = s.locks.length → xs = (List.range i).map (fun (j : Nat) => decide (0 < bal (j : Int) 1 (c.steps.take k))) → m.next ≤ m'.next → Rw m.next m' 1 w ((uL s (c.steps.take k)).map vi) → Rw m.next m' 1 v (xs.map .bool) → Apart w v →
      (∀ v m' e, m.next ≤ m'.next → Rw m.next m' 1 w ((uL s (c.steps.take k)).map vi) → Rw m.next m' 1 v ((kL s (c.steps.take k)).map .bool) → Q (.exit 2) ⟨(2, vi k) :: (10, vStps c.steps) :: (11, w) :: (12, v) :: e, [(3, vSys s)], [], m'⟩) →
      W F m.next L149_2 ⟨[(2, vi k), (10, vStps c.steps), (11, w), (12, v), (14, vi i)], [(3, vSys s)], [], m'⟩ Q := by
    intro r
    induction r with
    | zero =>
      intro i v w xs m' Q hi hx hm hw hr ha hq
      rw [W_L (c := L149_2) rfl]
      have : ¬ ((i : Nat) : Int) < (s.locks.length : Int) := by omega
      simp only [↓sxc, sx, se, ↓reduceIte, Nat.reduceEqDiff, Nat.reduceAdd, Nat.reduceLT, Nat.reduceLeDiff, Nat.reduceSub, Nat.reduceMul, Int.reduceToNat, Int.reduceLT, Int.reduceLE, Int.reduceEq, ml_i0, this]
      have e : kL s (c.steps.take k) = xs := by rw [hx, show i = s.locks.length by omega]; rfl
      exact hq v m' _ hm hw (by rw [e]; exact hr)
    | succ r ih =>
      intro i v w xs m' Q hi hx hm hw hr ha hq
      rw [W_L (c := L149_2) rfl]
      have : ((i : Nat) : Int) < (s.locks.length : Int) := by omega
      have wr : wrapF .i64 ((i : Int) + 1) = ((i + 1 : Nat) : Int) := by rw [wr_i64 (by omega) (by omega)]; rfl
      have hxl : xs.length = i := by rw [hx]; simp
      obtain ⟨v', m'', hap, hr', hn, ho, _⟩ := Rw.app2 (y := .lst false 1 [.bool (decide (0 < bal (i : Int) 1 (c.steps.take k)))]) hr hm vw_lst (.inl rfl) (by simp [big, hxl]; omega)
      obtain ⟨o1, o2⟩ := ho _ _ _ hw ha
      simp only [↓sxc, sx, se, ↓reduceIte, Nat.reduceEqDiff, Nat.reduceAdd, Nat.reduceLT, Nat.reduceLeDiff, Nat.reduceSub, Nat.reduceMul, Int.reduceToNat, Int.reduceLT, Int.reduceLE, Int.reduceEq, ml_i0, this, cb, hap, wr]
      refine ih (i + 1) v' w (xs ++ [decide (0 < bal (i : Int) 1 (c.steps.take k))]) (m''.bump 1) Q (by omega) (by rw [hx, List.range_succ, List.map_append]; rfl) ?_ o1 (by simpa using hr') o2 hq
      show m.next ≤ m''.next + 1
      omega
  have hil := (List.getElem?_eq_some_iff.1 hc).1
  have g1 : ¬ ((s.cls.length : Int) ≤ (i : Int)) := by omega
  have g2 : ¬ ((i : Int) < 0) := by omega
  have g3 : ¬ ((k : Int) < 0) := by omega
  have g4 : ¬ ((c.steps.length : Int) < (k : Int)) := by omega
  have c1 : ∀ {lo m}, callw F 91 [vSys s] lo m = some (vi (chkE s), m) := fun {lo m} => sp91 hA s
  have i0 : ((i : Nat) : Int).toNat = i := rfl
  have p0 : (0 : Int) ≤ (i : Int) := by omega
  refine call_p hA.h149 rfl ?_
  simp only [↓sxc, sx, se, ↓reduceIte, Nat.reduceEqDiff, Nat.reduceAdd, Nat.reduceLT, Nat.reduceLeDiff, Nat.reduceSub, Nat.reduceMul, Int.reduceToNat, Int.reduceLT, Int.reduceLE, Int.reduceEq, ml_i0, c1, h0, g1, g2, g3, g4, hc, i0, p0]
  refine loop1 s.pools.length 0 .nil [] m _ (by omega) rfl (Nat.le_refl _) .nil (fun v m' e hm hr => ?_)
  simp only [↓sxc, sx, se, ↓reduceIte, Nat.reduceEqDiff, Nat.reduceAdd, Nat.reduceLT, Nat.reduceLeDiff, Nat.reduceSub, Nat.reduceMul, Int.reduceToNat, Int.reduceLT, Int.reduceLE, Int.reduceEq, ml_i0]
  refine loop2 s.locks.length 0 .nil v [] m' _ (by omega) rfl hm hr .nil .nil_r (fun v2 m2 e hm hr1 hr2 => ?_)
  simp only [↓sxc, sx, se, ↓reduceIte, Nat.reduceEqDiff, Nat.reduceAdd, Nat.reduceLT, Nat.reduceLeDiff, Nat.reduceSub, Nat.reduceMul, Int.reduceToNat, Int.reduceLT, Int.reduceLE, Int.reduceEq, ml_i0]
  simp only [mapO]
  rw [hr1.freeze, hr2.freeze, mapO_id (fun x hx => by
    obtain ⟨y, _, rfl⟩ := List.mem_map.1 hx
    rfl), mapO_id (fun x hx => by
    obtain ⟨y, _, rfl⟩ := List.mem_map.1 hx
    rfl)]
  rfl

end Go.Am
