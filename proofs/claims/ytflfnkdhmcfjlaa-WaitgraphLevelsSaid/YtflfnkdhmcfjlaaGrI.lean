/- Copies; the program's distances. -/
import Derived.Test.YtflfnkdhmcfjlaaGrH
namespace Go.Am
open Go
set_option linter.unusedSimpArgs false
set_option linter.unusedVariables false
set_option maxRecDepth 100000

section
variable {F : Nat → Option Fn} {lo : Nat} {md : Option (Nat × Nat)} {ops : List Op} {e b a : Env} {m : Mem} {Q : St → Prop} {d : Nat}

/-- What a copy does to the memory, and what it gives. -/
noncomputable def cpV (lo : Nat) (m : Mem) (sz : Nat) (x y : V) : Option (V × Mem) :=
  match x with
  | .row s0 h' o l => if s0 = sz then
      match view m y with
      | none => none
      | some (s, xs) => if lo ≤ h' then
          match m.blk h' with
          | some (.row s' es) => if (s = sz ∨ xs.length = 0) ∧ s' = sz ∧ o + l ≤ es.length then
              some (.int .i64 (min l xs.length : Nat), m.set h' (some (.row s' (es.take o ++ xs.take (min l xs.length) ++ es.drop (o + min l xs.length)))))
            else none
          | _ => none
        else none
    else none
  | _ => none

theorem S_cpy {sz : Nat} {x y : O} : S F lo md (⟨.e d, .cpy sz, [x, y], none⟩ :: ops) ⟨e, b, a, m⟩ Q ↔ OC (getO ⟨e, b, a, m⟩ x) fun u => OC (getO ⟨e, b, a, m⟩ y) fun v => OC (cpV lo m sz u v) fun r => S F lo (nx md) ops ⟨(d, r.1) :: e, b, a, r.2⟩ Q := by
  rw [S_exec]
  simp only [gs_cons, gs_nil, K.allocs, bmp_false]
  cases getO ⟨e, b, a, m⟩ x with
  | none => simp [OC_none]
  | some u =>
    cases getO ⟨e, b, a, m⟩ y with
    | none => simp [OC_none, OC_some]
    | some v =>
      simp only [OC_some, plan, cpV]
      cases u <;> simp only [plan_cpy, OC_none]
      case row s0 h' o l =>
        by_cases hs : s0 = sz
        · simp only [if_pos hs, OC_some, act]
          cases view m v with
          | none => simp [OC_none]
          | some q =>
            obtain ⟨s, xs⟩ := q
            simp only
            by_cases h : lo ≤ h'
            · simp only [if_pos h]
              cases m.blk h' with
              | none => simp [OC_none]
              | some B =>
                cases B with
                | map _ => simp [OC_none]
                | row s' es =>
                  simp only
                  by_cases h2 : (s = sz ∨ xs.length = 0) ∧ s' = sz ∧ o + l ≤ es.length
                  · simp only [if_pos h2, OC_some, put]
                  · simp only [if_neg h2, OC_none]
            · simp only [if_neg h, OC_none]
        · simp only [if_neg hs, OC_none]

theorem cp_row {h' o l : Nat} {sz : Nat} {y : V} {xs es : List V} (hv : view m y = some (sz, xs)) (hl : lo ≤ h') (hB : m.blk h' = some (.row sz es)) (ho : o + l ≤ es.length) :
    cpV lo m sz (.row sz h' o l) y = some (.int .i64 (min l xs.length : Nat), m.set h' (some (.row sz (es.take o ++ xs.take (min l xs.length) ++ es.drop (o + min l xs.length))))) := by
  simp only [cpV, hv, if_true, if_pos hl, hB]
  rw [if_pos (by simpa using ho)]
end

theorem len_row {s h o l : Nat} : lenOf (.row s h o l) = some l := rfl
theorem wr_u64 {n : Int} (h1 : 0 ≤ n) (h2 : n ≤ 18446744073709551615) : wrapF .u64 n = n := by
  rw [wrapF_eq]
  exact IntWalk.u64_in n ⟨h1, h2⟩
theorem cv_u64 {n : Int} (h1 : 0 ≤ n) (h2 : n ≤ 18446744073709551615) : retV (.cvt .u64) [.int .i64 n] = some (.int .u64 n) := by
  rw [r_cvt, IntWalk.u64_in n ⟨h1, h2⟩]
theorem cv_i64 {n : Int} (h1 : 0 ≤ n) (h2 : n ≤ 9223372036854775807) : retV (.cvt .i64) [.int .u64 n] = some (.int .i64 n) := by
  rw [r_cvt, IntWalk.i64_in n ⟨by omega, h2⟩]
theorem shr32 {n : Int} (h1 : 0 ≤ n) (h2 : n ≤ 4294967295) : retV (.bin .shr) [.int .u64 n, .int .u64 32] = some (.int .u64 0) := by
  have e : n.fdiv (2 ^ (min (32 : Int).toNat 64)) = 0 := by
    rw [Int.fdiv_eq_ediv_of_nonneg _ (by decide)]
    exact Int.ediv_eq_zero_of_lt h1 (by show n < 4294967296; omega)
  show (match (binPlan .shr .u64 n .u64 32) with | some (.ret v) => some v | _ => none) = _
  simp only [binPlan, shrOp]
  rw [if_neg (by decide)]
  show some (V.int IntKind.u64 (n.fdiv (2 ^ (min (32 : Int).toNat 64)))) = _
  rw [e]
theorem and32 {n : Int} (h1 : 0 ≤ n) (h2 : n ≤ 4294967295) : retV (.bin .and) [.int .u64 n, .int .u64 4294967295] = some (.int .u64 n) := by
  rw [r_bin (by decide)]
  obtain ⟨k, rfl⟩ : ∃ k : Nat, n = k := ⟨n.toNat, by omega⟩
  have hk : k < 2 ^ 32 := by omega
  have e : ((BitVec.ofInt 64 (k : Int)) &&& (BitVec.ofInt 64 4294967295)).toNat = k := by
    rw [BitVec.toNat_and]
    have e1 : (BitVec.ofInt 64 (k : Int)).toNat = k := by
      rw [BitVec.toNat_ofInt]
      omega
    have e2 : (BitVec.ofInt 64 (4294967295 : Int)).toNat = 2 ^ 32 - 1 := by decide
    rw [e1, e2, Nat.and_two_pow_sub_one_eq_mod]
    exact Nat.mod_eq_of_lt hk
  show some (V.int IntKind.u64 (IntKind.u64.wrap (((BitVec.ofInt 64 (k : Int)) &&& (BitVec.ofInt 64 4294967295)).toNat : Int))) = _
  rw [e, IntWalk.u64_in _ ⟨by omega, by omega⟩]

theorem sp169 {F : Nat → Option Fn} (hG : HasG F) {lo : Nat} {m : Mem} {y : Int} (h1 : 0 ≤ y) (h2 : y ≤ 4294967295) : callw F 169 [.int .u64 1, .int .u64 y] lo m = some (.tup [.int .u64 0, .int .u64 y], m) := by
  have a1 := and32 (n := 1) (by omega) (by omega)
  have a2 := and32 h1 h2
  have a0 := and32 (n := 0) (by omega) (by omega)
  have s1 := shr32 (n := 1) (by omega) (by omega)
  have s2 := shr32 h1 h2
  have s0 := shr32 (n := 0) (by omega) (by omega)
  have w0 : wrapF .u64 0 = 0 := rfl
  have wy : wrapF .u64 y = y := wr_u64 h1 (by omega)
  refine call_p hG.h169 rfl ?_
  simp only [↓sxc, sx, se, ↓reduceIte, Nat.reduceEqDiff, Nat.reduceAdd, Nat.reduceLT, Nat.reduceLeDiff, Nat.reduceSub, Nat.reduceMul, Int.reduceToNat, Int.reduceLT, Int.reduceLE, Int.reduceEq, ml_i0, ↓smc, sm, a1, a2, a0, s1, s2, s0, w0, wy, Int.one_mul, Int.mul_one, Int.zero_mul, Int.mul_zero, Int.zero_add, Int.add_zero]
  rfl
theorem sp165 {F : Nat → Option Fn} (hG : HasG F) {lo : Nat} {m : Mem} {y : Int} (h1 : 0 ≤ y) (h2 : y ≤ 4294967295) : callw F 165 [.int .u64 1, .int .u64 y] lo m = some (.tup [.int .u64 0, .int .u64 y], m) := by
  have c1 : ∀ {lo m}, callw F 169 [.int .u64 1, .int .u64 y] lo m = some (.tup [.int .u64 0, .int .u64 y], m) := fun {lo m} => sp169 hG h1 h2
  refine call_p hG.h165 rfl ?_
  simp only [↓sxc, sx, se, ↓reduceIte, Nat.reduceEqDiff, Nat.reduceAdd, Nat.reduceLT, Nat.reduceLeDiff, Nat.reduceSub, Nat.reduceMul, Int.reduceToNat, Int.reduceLT, Int.reduceLE, Int.reduceEq, ml_i0, ↓smc, sm, c1]
  rfl

def fill (N j : Nat) : List Int := List.replicate j (-1) ++ List.replicate (N - j) 0
theorem fill_len {N j : Nat} (h : j ≤ N) : (fill N j).length = N := by simp [fill]; omega
theorem fill_take {N j : Nat} : (fill N j).take j = List.replicate j (-1) := by
  unfold fill
  rw [List.take_left' (by simp)]
theorem fill_drop {N j k : Nat} : (fill N j).drop (j + k) = List.replicate (N - j - k) 0 := by
  unfold fill
  rw [← List.drop_drop, List.drop_left' (by simp), List.drop_replicate]

theorem sp152 {F : Nat → Option Fn} (hG : HasG F) {lo : Nat} {m : Mem} {N h : Nat} (hN : 1 ≤ N) (hN4 : N ≤ 4096) (hlo : lo ≤ m.next) (hm : h < m.next) (hb : m.blk h = some (.row 1 [vi (-1)])) :
    ∃ v m', callw F 152 [.row 1 h 0 1, vi N] lo m = some (v, m') ∧ (v = .row 1 m.next 0 N ∧ m.next + 1 ≤ m'.next ∧ m'.blk m.next = some (.row 1 ((List.replicate N (-1 : Int)).map vi)) ∧ ∀ k, k < m.next → m'.blk k = m.blk k) := by
  have c1 : ∀ {lo m}, callw F 165 [.int .u64 1, .int .u64 N] lo m = some (.tup [.int .u64 0, .int .u64 N], m) := fun {lo m} => sp165 hG (by omega) (by omega)
  have loop : ∀ (r j : Nat) (m' : Mem) (Q : Ex → St → Prop), r = N - j → 1 ≤ j → j ≤ N → m.next + 1 ≤ m'.next → (∀ k, k < m.next → m'.blk k = m.blk k) → m'.blk m.next = some (.row 1 ((fill N j).map vi)) →
      (∀ m' e, m.next + 1 ≤ m'.next → (∀ k, k < m.next → m'.blk k = m.blk k) → m'.blk m.next = some (.row 1 ((List.replicate N (-1 : Int)).map vi)) → Q (.exit 0) ⟨(7, .row 1 m.next 0 N) :: e, [], [], m'⟩) →
      W F lo L152_1 ⟨[(7, .row 1 m.next 0 N), (8, vi j)], [], [], m'⟩ Q := by
    intro r
    induction r using Nat.strongRecOn with
    | ind r ih =>
      intro j m' Q hr h1 h2 h3 h4 h5 hq
      rw [W_L (c := L152_1) rfl]
      by_cases hj : j < N
      · have c2 : ((j : Nat) : Int) < (N : Int) := by omega
        have c3 : (0 : Int) ≤ (j : Int) := by omega
        have c4 : ((j : Nat) : Int).toNat = j := rfl
        have c5 : (j ≤ N) = True := by simp [h2]
        have c6 : (N ≤ N) = True := by simp
        have hv : view (m'.bump 10) (.row 1 m.next 0 j) = some (1, (List.replicate j (-1 : Int)).map vi) := by
          rw [vw_row (m := m'.bump 10) (es := (fill N j).map vi) h5 (by simp [fill_len h2]; omega)]
          rw [List.drop_zero, ← List.map_take, fill_take]
        have hc := cp_row (lo := lo) (m := m'.bump 10) (h' := m.next) (o := j) (l := N - j) (sz := 1) hv hlo h5 (by simp [fill_len h2]; omega)
        have hlen : ((List.replicate j (-1 : Int)).map vi).length = j := by simp
        rw [hlen] at hc
        have hmin : 1 ≤ min (N - j) j ∧ min (N - j) j ≤ N - j ∧ min (N - j) j ≤ j := by omega
        generalize min (N - j) j = p at hc hmin
        have e1 : List.take j ((fill N j).map vi) ++ List.take p ((List.replicate j (-1 : Int)).map vi) ++ List.drop (j + p) ((fill N j).map vi) = (fill N (j + p)).map vi := by
          rw [← List.map_take, ← List.map_take, ← List.map_drop, fill_take, fill_drop, List.take_replicate, ← List.map_append, ← List.map_append]
          congr 1
          unfold fill
          rw [show min p j = p by omega, List.replicate_append_replicate, show N - j - p = N - (j + p) by omega]
        rw [e1] at hc
        have wr : wrapF .i64 ((j : Int) + (p : Int)) = ((j + p : Nat) : Int) := by rw [wr_i64 (by omega) (by omega)]; rfl
        simp only [↓sxc, sx, se, ↓reduceIte, Nat.reduceEqDiff, Nat.reduceAdd, Nat.reduceLT, Nat.reduceLeDiff, Nat.reduceSub, Nat.reduceMul, Int.reduceToNat, Int.reduceLT, Int.reduceLE, Int.reduceEq, ml_i0, ↓smc, sm, ↓S_cpy, c2, len_row, c3, c4, sl_row, c5, c6, hc, wr, W_dreg0]
        refine ih (N - (j + p)) (by omega) (j + p) _ Q rfl (by omega) (by omega) ?_ (fun k hk => ?_) ?_ hq
        · show m.next + 1 ≤ m'.next + 10
          omega
        · rw [set_ne (by omega)]
          exact h4 k hk
        · simp [Mem.set]
      · have c2 : ¬ ((j : Nat) : Int) < (N : Int) := by omega
        have hjN : j = N := by omega
        subst hjN
        have e1 : fill j j = List.replicate j (-1) := by unfold fill; simp
        rw [e1] at h5
        simp only [↓sxc, sx, se, ↓reduceIte, Nat.reduceEqDiff, Nat.reduceAdd, Nat.reduceLT, Nat.reduceLeDiff, Nat.reduceSub, Nat.reduceMul, Int.reduceToNat, Int.reduceLT, Int.reduceLE, Int.reduceEq, ml_i0, ↓smc, sm, c2]
        exact hq m' _ h3 h4 h5
  refine call_x hG.h152 rfl ?_
  have n1 : ¬ ((N : Nat) : Int) < 0 := by omega
  have n2 : ¬ (9223372036854775807 : Int) < (N : Int) := by omega
  have n3 : ¬ (0 : Int) < 0 := by omega
  have b1 : 0 ≤ ((N : Nat) : Int) ∧ ((N : Nat) : Int) < big := by simp [big]; omega
  have v1 : retV (.cvt .u64) [.int .i64 ((1 : Nat) : Int)] = some (.int .u64 1) := cv_u64 (by omega) (by omega)
  have v2 : retV (.cvt .u64) [.int .i64 (N : Int)] = some (.int .u64 N) := cv_u64 (by omega) (by omega)
  have v3 : retV (.cvt .i64) [.int .u64 (N : Int)] = some (.int .i64 N) := cv_i64 (by omega) (by omega)
  have tn : ((N : Nat) : Int).toNat = N := rfl
  let m1 : Mem := (m.set m.next (some (.row 1 (List.replicate N (vi 0))))).bump 1
  have em1 : (m.set m.next (some (.row 1 (List.replicate N (vi 0))))).bump 1 = m1 := rfl
  have f1 : ∀ k, k < m.next → m1.blk k = m.blk k := fun k hk => set_ne (by omega)
  have b2 : m1.blk m.next = some (.row 1 (List.replicate N (vi 0))) := by show (m.set m.next _).blk m.next = _; simp [Mem.set]
  have n4 : m1.next = m.next + 1 := rfl
  clear_value m1
  have hv : view m1 (.row 1 h 0 1) = some (1, [vi (-1)]) := by
    rw [vw_row (by rw [f1 h hm]; exact hb) (by simp)]
    rfl
  have hc := cp_row (lo := lo) (m := m1) (h' := m.next) (o := 0) (l := N) (sz := 1) hv hlo b2 (by simp)
  have e1 : min N ([vi (-1)] : List V).length = 1 := by simp; omega
  rw [e1] at hc
  have e2 : List.take 0 (List.replicate N (vi 0)) ++ List.take 1 [vi (-1)] ++ List.drop (0 + 1) (List.replicate N (vi 0)) = (fill N 1).map vi := by
    unfold fill
    rw [List.drop_replicate]
    simp
  rw [e2] at hc
  simp only [↓sxc, sx, se, ↓reduceIte, Nat.reduceEqDiff, Nat.reduceAdd, Nat.reduceLT, Nat.reduceLeDiff, Nat.reduceSub, Nat.reduceMul, Int.reduceToNat, Int.reduceLT, Int.reduceLE, Int.reduceEq, ml_i0, ↓smc, sm, ↓S_cpy, n1, v1, v2, c1, n2, n3, v3, b1, tn, em1, hc, ml_i0]
  refine loop (N - 1) 1 _ _ rfl (Nat.le_refl _) hN ?_ (fun k hk => ?_) ?_ (fun m' e q1 q2 q3 => ?_)
  · show m.next + 1 ≤ m1.next
    omega
  · rw [set_ne (by omega)]
    exact f1 k hk
  · simp [Mem.set]
  · simp only [↓sxc, sx, se, ↓reduceIte, Nat.reduceEqDiff, Nat.reduceAdd, Nat.reduceLT, Nat.reduceLeDiff, Nat.reduceSub, Nat.reduceMul, Int.reduceToNat, Int.reduceLT, Int.reduceLE, Int.reduceEq, ml_i0, ↓smc, sm, PX_ret, PX_nrm]
    exact ⟨q1, q3, q2⟩
end Go.Am
