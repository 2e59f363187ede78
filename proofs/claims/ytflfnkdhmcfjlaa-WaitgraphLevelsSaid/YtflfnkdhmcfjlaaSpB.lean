/- Names of a system, balances, the reference's step. -/
import Derived.Test.YtflfnkdhmcfjlaaSpA
namespace Go.Am
open Go
set_option linter.unusedSimpArgs false
set_option linter.unusedVariables false

theorem vSys_agg {s : Sys} : vSys s = .agg [vPools s.pools, strs s.locks, vClss s.cls] := rfl
theorem ones_pool {p : Pool} : (vPool p).ones = true := rfl

/-! ### The names -/
theorem sp111 {F : Nat → Option Fn} (hA : HasA F) {lo : Nat} {m : Mem} (s : Sys) (h1 : s.pools.length < 100) (h2 : s.locks.length < 100) (h3 : s.cls.length < 100) : callw F 111 [vSys s] lo m = some (strs (namesOf s), m) := by
  have loop1 : ∀ (t : List Pool) (i : Nat) (v : V) (xs : List (List UInt8)) (m' : Mem) (Q : Ex → St → Prop), s.pools.drop i = t → xs.length + t.length < 1000 → m.next ≤ m'.next → Rw m.next m' 1 v (xs.map .str) →
      (∀ v m' e, m.next ≤ m'.next → Rw m.next m' 1 v ((xs ++ t.map Pool.name).map .str) → Q (.exit 0) ⟨(3, v) :: e, [(1, vSys s)], [], m'⟩) →
      W F m.next L111_1 ⟨[(3, v), (9, vPools s.pools), (10, vi s.pools.length), (11, vi i)], [(1, vSys s)], [], m'⟩ Q := by
    intro t
    induction t with
    | nil =>
      intro i v xs m' Q hd hl hm hr hq
      have hlt := drop_nil hd
      rw [W_L (c := L111_1) rfl]
      have : ¬ ((i : Nat) : Int) < (s.pools.length : Int) := by omega
      simp only [↓sxc, sx, se, ↓reduceIte, Nat.reduceEqDiff, Nat.reduceAdd, Nat.reduceLT, Nat.reduceLeDiff, Nat.reduceSub, Nat.reduceMul, Int.reduceToNat, Int.reduceLT, Int.reduceLE, Int.reduceEq, ml_i0, this]
      exact hq v m' _ hm (by simpa using hr)
    | cons p t ih =>
      intro i v xs m' Q hd hl hm hr hq
      obtain ⟨hg, hd', hlt⟩ := drop_cons hd
      rw [W_L (c := L111_1) rfl]
      have : ((i : Nat) : Int) < (s.pools.length : Int) := by omega
      obtain ⟨v', m'', hap, hr', hn, _⟩ := Rw.app (y := .lst false 1 [.str p.name]) hr hm vw_lst (.inl rfl) (by simp [big]; simp at hl; omega)
      have wr : wrapF .i64 ((i : Int) + 1) = ((i + 1 : Nat) : Int) := by rw [wr_i64 (by omega) (by omega)]; rfl
      simp only [↓sxc, sx, se, ↓reduceIte, Nat.reduceEqDiff, Nat.reduceAdd, Nat.reduceLT, Nat.reduceLeDiff, Nat.reduceSub, Nat.reduceMul, Int.reduceToNat, Int.reduceLT, Int.reduceLE, Int.reduceEq, ml_i0, this, hg, hap, wr]
      refine ih (i + 1) v' (xs ++ [p.name]) (m''.bump 1) Q hd' (by simp at hl ⊢; omega) ?_ (by simpa using hr') (fun v m' e h1 h2 => hq v m' e h1 (by simpa using h2))
      show m.next ≤ m''.next + 1
      omega
  have loop2 : ∀ (t : List Cls) (i : Nat) (v : V) (xs : List (List UInt8)) (m' : Mem) (Q : Ex → St → Prop), s.cls.drop i = t → xs.length + t.length < 1000 → m.next ≤ m'.next → Rw m.next m' 1 v (xs.map .str) →
      (∀ v m' e, m.next ≤ m'.next → Rw m.next m' 1 v ((xs ++ t.map Cls.name).map .str) → Q (.exit 2) ⟨(3, v) :: e, [], [], m'⟩) →
      W F m.next L111_2 ⟨[(3, v), (26, vClss s.cls), (27, vi s.cls.length), (28, vi i)], [], [], m'⟩ Q := by
    intro t
    induction t with
    | nil =>
      intro i v xs m' Q hd hl hm hr hq
      have hlt := drop_nil hd
      rw [W_L (c := L111_2) rfl]
      have : ¬ ((i : Nat) : Int) < (s.cls.length : Int) := by omega
      simp only [↓sxc, sx, se, ↓reduceIte, Nat.reduceEqDiff, Nat.reduceAdd, Nat.reduceLT, Nat.reduceLeDiff, Nat.reduceSub, Nat.reduceMul, Int.reduceToNat, Int.reduceLT, Int.reduceLE, Int.reduceEq, ml_i0, this]
      exact hq v m' _ hm (by simpa using hr)
    | cons p t ih =>
      intro i v xs m' Q hd hl hm hr hq
      obtain ⟨hg, hd', hlt⟩ := drop_cons hd
      rw [W_L (c := L111_2) rfl]
      have : ((i : Nat) : Int) < (s.cls.length : Int) := by omega
      obtain ⟨v', m'', hap, hr', hn, _⟩ := Rw.app (y := .lst false 1 [.str p.name]) hr hm vw_lst (.inl rfl) (by simp [big]; simp at hl; omega)
      have wr : wrapF .i64 ((i : Int) + 1) = ((i + 1 : Nat) : Int) := by rw [wr_i64 (by omega) (by omega)]; rfl
      simp only [↓sxc, sx, se, ↓reduceIte, Nat.reduceEqDiff, Nat.reduceAdd, Nat.reduceLT, Nat.reduceLeDiff, Nat.reduceSub, Nat.reduceMul, Int.reduceToNat, Int.reduceLT, Int.reduceLE, Int.reduceEq, ml_i0, this, hg, hap, wr]
      refine ih (i + 1) v' (xs ++ [p.name]) (m''.bump 1) Q hd' (by simp at hl ⊢; omega) ?_ (by simpa using hr') (fun v m' e h1 h2 => hq v m' e h1 (by simpa using h2))
      show m.next ≤ m''.next + 1
      omega
  refine call_p hA.h111 rfl ?_
  simp only [↓sxc, sx, se, ↓reduceIte, Nat.reduceEqDiff, Nat.reduceAdd, Nat.reduceLT, Nat.reduceLeDiff, Nat.reduceSub, Nat.reduceMul, Int.reduceToNat, Int.reduceLT, Int.reduceLE, Int.reduceEq, ml_i0]
  refine loop1 s.pools 0 .nil [] m _ rfl (by simp; omega) (Nat.le_refl _) .nil (fun v m' e hm hr => ?_)
  rw [List.nil_append] at hr
  obtain ⟨v', m'', hap, hr', hn, _⟩ := Rw.app (y := strs s.locks) hr hm vw_strs app_strs (by simp [big]; omega)
  simp only [↓sxc, sx, se, ↓reduceIte, Nat.reduceEqDiff, Nat.reduceAdd, Nat.reduceLT, Nat.reduceLeDiff, Nat.reduceSub, Nat.reduceMul, Int.reduceToNat, Int.reduceLT, Int.reduceLE, Int.reduceEq, ml_i0, hap]
  refine loop2 s.cls 0 v' (s.pools.map Pool.name ++ s.locks) (m''.bump 1) _ rfl (by simp; omega) (by show m.next ≤ m''.next + 1; omega) (by simpa using hr') (fun v m' e hm hr => ?_)
  simp only [↓sxc, sx, se, ↓reduceIte, Nat.reduceEqDiff, Nat.reduceAdd, Nat.reduceLT, Nat.reduceLeDiff, Nat.reduceSub, Nat.reduceMul, Int.reduceToNat, Int.reduceLT, Int.reduceLE, Int.reduceEq, ml_i0]
  rw [hr.freeze, mapO_id (fun x hx => by
    obtain ⟨y, _, rfl⟩ := List.mem_map.1 hx
    rfl)]
  rfl

theorem sp144 {F : Nat → Option Fn} (hA : HasA F) {lo : Nat} {m : Mem} (s : Sys) (h1 : s.pools.length < 100) (h2 : s.locks.length < 100) (h3 : s.cls.length < 100) : callw F 144 [vSys s] lo m = some (strs (namesOf s), m) := by
  have loop1 : ∀ (t : List Pool) (i : Nat) (v : V) (xs : List (List UInt8)) (m' : Mem) (Q : Ex → St → Prop), s.pools.drop i = t → xs.length + t.length < 1000 → m.next ≤ m'.next → Rw m.next m' 1 v (xs.map .str) →
      (∀ v m' e, m.next ≤ m'.next → Rw m.next m' 1 v ((xs ++ t.map Pool.name).map .str) → Q (.exit 0) ⟨(3, v) :: e, [(1, vSys s)], [], m'⟩) →
      W F m.next L144_1 ⟨[(3, v), (4, vi i)], [(1, vSys s)], [], m'⟩ Q := by
    intro t
    induction t with
    | nil =>
      intro i v xs m' Q hd hl hm hr hq
      have hlt := drop_nil hd
      rw [W_L (c := L144_1) rfl]
      have : ¬ ((i : Nat) : Int) < (s.pools.length : Int) := by omega
      simp only [↓sxc, sx, se, ↓reduceIte, Nat.reduceEqDiff, Nat.reduceAdd, Nat.reduceLT, Nat.reduceLeDiff, Nat.reduceSub, Nat.reduceMul, Int.reduceToNat, Int.reduceLT, Int.reduceLE, Int.reduceEq, ml_i0, this]
      exact hq v m' _ hm (by simpa using hr)
    | cons p t ih =>
      intro i v xs m' Q hd hl hm hr hq
      obtain ⟨hg, hd', hlt⟩ := drop_cons hd
      rw [W_L (c := L144_1) rfl]
      have : ((i : Nat) : Int) < (s.pools.length : Int) := by omega
      obtain ⟨v', m'', hap, hr', hn, _⟩ := Rw.app (y := .lst false 1 [.str p.name]) hr hm vw_lst (.inl rfl) (by simp [big]; simp at hl; omega)
      have wr : wrapF .i64 ((i : Int) + 1) = ((i + 1 : Nat) : Int) := by rw [wr_i64 (by omega) (by omega)]; rfl
      simp only [↓sxc, sx, se, ↓reduceIte, Nat.reduceEqDiff, Nat.reduceAdd, Nat.reduceLT, Nat.reduceLeDiff, Nat.reduceSub, Nat.reduceMul, Int.reduceToNat, Int.reduceLT, Int.reduceLE, Int.reduceEq, ml_i0, this, hg, hap, wr]
      refine ih (i + 1) v' (xs ++ [p.name]) (m''.bump 1) Q hd' (by simp at hl ⊢; omega) ?_ (by simpa using hr') (fun v m' e h1 h2 => hq v m' e h1 (by simpa using h2))
      show m.next ≤ m''.next + 1
      omega
  have loop2 : ∀ (t : List Cls) (i : Nat) (v : V) (xs : List (List UInt8)) (m' : Mem) (Q : Ex → St → Prop), s.cls.drop i = t → xs.length + t.length < 1000 → m.next ≤ m'.next → Rw m.next m' 1 v (xs.map .str) →
      (∀ v m' e, m.next ≤ m'.next → Rw m.next m' 1 v ((xs ++ t.map Cls.name).map .str) → Q (.exit 2) ⟨(3, v) :: e, [(1, vSys s)], [], m'⟩) →
      W F m.next L144_2 ⟨[(3, v), (5, vi i)], [(1, vSys s)], [], m'⟩ Q := by
    intro t
    induction t with
    | nil =>
      intro i v xs m' Q hd hl hm hr hq
      have hlt := drop_nil hd
      rw [W_L (c := L144_2) rfl]
      have : ¬ ((i : Nat) : Int) < (s.cls.length : Int) := by omega
      simp only [↓sxc, sx, se, ↓reduceIte, Nat.reduceEqDiff, Nat.reduceAdd, Nat.reduceLT, Nat.reduceLeDiff, Nat.reduceSub, Nat.reduceMul, Int.reduceToNat, Int.reduceLT, Int.reduceLE, Int.reduceEq, ml_i0, this]
      exact hq v m' _ hm (by simpa using hr)
    | cons p t ih =>
      intro i v xs m' Q hd hl hm hr hq
      obtain ⟨hg, hd', hlt⟩ := drop_cons hd
      rw [W_L (c := L144_2) rfl]
      have : ((i : Nat) : Int) < (s.cls.length : Int) := by omega
      obtain ⟨v', m'', hap, hr', hn, _⟩ := Rw.app (y := .lst false 1 [.str p.name]) hr hm vw_lst (.inl rfl) (by simp [big]; simp at hl; omega)
      have wr : wrapF .i64 ((i : Int) + 1) = ((i + 1 : Nat) : Int) := by rw [wr_i64 (by omega) (by omega)]; rfl
      simp only [↓sxc, sx, se, ↓reduceIte, Nat.reduceEqDiff, Nat.reduceAdd, Nat.reduceLT, Nat.reduceLeDiff, Nat.reduceSub, Nat.reduceMul, Int.reduceToNat, Int.reduceLT, Int.reduceLE, Int.reduceEq, ml_i0, this, hg, hap, wr]
      refine ih (i + 1) v' (xs ++ [p.name]) (m''.bump 1) Q hd' (by simp at hl ⊢; omega) ?_ (by simpa using hr') (fun v m' e h1 h2 => hq v m' e h1 (by simpa using h2))
      show m.next ≤ m''.next + 1
      omega
  refine call_p hA.h144 rfl ?_
  simp only [↓sxc, sx, se, ↓reduceIte, Nat.reduceEqDiff, Nat.reduceAdd, Nat.reduceLT, Nat.reduceLeDiff, Nat.reduceSub, Nat.reduceMul, Int.reduceToNat, Int.reduceLT, Int.reduceLE, Int.reduceEq, ml_i0]
  refine loop1 s.pools 0 .nil [] m _ rfl (by simp; omega) (Nat.le_refl _) .nil (fun v m' e hm hr => ?_)
  rw [List.nil_append] at hr
  obtain ⟨v', m'', hap, hr', hn, _⟩ := Rw.app (y := strs s.locks) hr hm vw_strs app_strs (by simp [big]; omega)
  simp only [↓sxc, sx, se, ↓reduceIte, Nat.reduceEqDiff, Nat.reduceAdd, Nat.reduceLT, Nat.reduceLeDiff, Nat.reduceSub, Nat.reduceMul, Int.reduceToNat, Int.reduceLT, Int.reduceLE, Int.reduceEq, ml_i0, hap]
  refine loop2 s.cls 0 v' (s.pools.map Pool.name ++ s.locks) (m''.bump 1) _ rfl (by simp; omega) (by show m.next ≤ m''.next + 1; omega) (by simpa using hr') (fun v m' e hm hr => ?_)
  simp only [↓sxc, sx, se, ↓reduceIte, Nat.reduceEqDiff, Nat.reduceAdd, Nat.reduceLT, Nat.reduceLeDiff, Nat.reduceSub, Nat.reduceMul, Int.reduceToNat, Int.reduceLT, Int.reduceLE, Int.reduceEq, ml_i0]
  rw [hr.freeze, mapO_id (fun x hx => by
    obtain ⟨y, _, rfl⟩ := List.mem_map.1 hx
    rfl)]
  rfl

/-! ### Balances -/
def delta (on kind : Int) (s : Stp) : Int :=
  if s.on = on then
    if s.kind = 1 then (if kind = 0 then s.cnt else 0) else if s.kind = 2 then (if kind = 0 then -s.cnt else 0)
    else if s.kind = 3 then (if kind = 1 then 1 else 0) else if s.kind = 4 then (if kind = 1 then -1 else 0) else 0
  else 0
def bal (on kind : Int) : List Stp → Int
  | [] => 0
  | s :: t => delta on kind s + bal on kind t
theorem bal_append {on kind : Int} : ∀ {a b : List Stp}, bal on kind (a ++ b) = bal on kind a + bal on kind b
  | [], b => by simp [bal]
  | s :: a, b => by simp only [List.cons_append, bal, bal_append (a := a)]; omega

theorem sp164 {F : Nat → Option Fn} (hA : HasA F) {lo : Nat} {m : Mem} (l : List Stp) (n : Nat) (on kind : Int) (hn : n ≤ l.length) (hn2 : n < 1000) (hb : ∀ x ∈ l.take n, -1000 ≤ x.cnt ∧ x.cnt ≤ 1000) : callw F 164 [vStps l, vi n, vi on, vi kind] lo m = some (vi (bal on kind (l.take n)), m) := by
  have loop : ∀ (t : List Stp) (i : Nat) (acc : Int) (Q : Ex → St → Prop), (l.take n).drop i = t → -1000 * i ≤ acc → acc ≤ 1000 * i →
      (∀ i v, Q (.exit 0) ⟨[(0, vStps l), (1, vi n), (2, vi on), (3, vi kind), (9, vi (acc + bal on kind t)), (10, vi i), (13, v)], [], [], m⟩) →
      W F m.next L164_1 ⟨[(0, vStps l), (1, vi n), (2, vi on), (3, vi kind), (9, vi acc), (10, vi i)], [], [], m⟩ Q := by
    intro t
    induction t with
    | nil =>
      intro i acc Q hd h1 h2 hq
      have hlt := drop_nil hd
      rw [List.length_take, Nat.min_eq_left hn] at hlt
      rw [W_L (c := L164_1) rfl]
      have : ¬ ((i : Nat) : Int) < (n : Int) := by omega
      simp only [↓sxc, sx, se, ↓reduceIte, Nat.reduceEqDiff, Nat.reduceAdd, Nat.reduceLT, Nat.reduceLeDiff, Nat.reduceSub, Nat.reduceMul, Int.reduceToNat, Int.reduceLT, Int.reduceLE, Int.reduceEq, ml_i0, this]
      have := hq i (.bool false)
      rw [bal, Int.add_zero] at this
      exact this
    | cons x t ih =>
      intro i acc Q hd h1 h2 hq
      obtain ⟨hg0, hd', hlt⟩ := drop_cons hd
      rw [List.length_take, Nat.min_eq_left hn] at hlt
      have hg : l[i]? = some x := by
        rw [List.getElem?_take, if_pos hlt] at hg0
        exact hg0
      have hx := hb x (List.mem_of_getElem? hg0)
      rw [W_L (c := L164_1) rfl]
      have : ((i : Nat) : Int) < (n : Int) := by omega
      have wr : wrapF .i64 ((i : Int) + 1) = ((i + 1 : Nat) : Int) := by rw [wr_i64 (by omega) (by omega)]; rfl
      have wa : wrapF .i64 (acc + x.cnt) = acc + x.cnt := wr_i64 (by omega) (by omega)
      have ws : wrapF .i64 (acc - x.cnt) = acc - x.cnt := wr_i64 (by omega) (by omega)
      have wi : wrapF .i64 (acc + 1) = acc + 1 := wr_i64 (by omega) (by omega)
      have wd : wrapF .i64 (acc - 1) = acc - 1 := wr_i64 (by omega) (by omega)
      have go : ∀ d, delta on kind x = d → -1000 ≤ d → d ≤ 1000 → W F m.next L164_1 ⟨[(0, vStps l), (1, vi n), (2, vi on), (3, vi kind), (9, vi (acc + d)), (10, vi (i + 1 : Nat))], [], [], m⟩ Q := by
        intro d hd2 h3 h4
        refine ih (i + 1) (acc + d) Q hd' (by push_cast; omega) (by push_cast; omega) (fun i v => ?_)
        have := hq i v
        rw [bal, hd2, ← Int.add_assoc] at this
        exact this
      by_cases ho : x.on = on
      · by_cases k1 : x.kind = 1
        · by_cases z0 : kind = 0
          · simp only [↓sxc, sx, se, ↓reduceIte, Nat.reduceEqDiff, Nat.reduceAdd, Nat.reduceLT, Nat.reduceLeDiff, Nat.reduceSub, Nat.reduceMul, Int.reduceToNat, Int.reduceLT, Int.reduceLE, Int.reduceEq, ml_i0, this, hg, wr, wa, ho, k1, z0]
            have := go x.cnt (by simp [delta, ho, k1, z0]) (by omega) (by omega)
            rw [z0] at this
            exact this
          · simp only [↓sxc, sx, se, ↓reduceIte, Nat.reduceEqDiff, Nat.reduceAdd, Nat.reduceLT, Nat.reduceLeDiff, Nat.reduceSub, Nat.reduceMul, Int.reduceToNat, Int.reduceLT, Int.reduceLE, Int.reduceEq, ml_i0, this, hg, wr, wa, ho, k1, z0]
            have := go 0 (by simp [delta, ho, k1, z0]) (by omega) (by omega)
            rw [Int.add_zero] at this
            exact this
        · by_cases k2 : x.kind = 2
          · by_cases z0 : kind = 0
            · simp only [↓sxc, sx, se, ↓reduceIte, Nat.reduceEqDiff, Nat.reduceAdd, Nat.reduceLT, Nat.reduceLeDiff, Nat.reduceSub, Nat.reduceMul, Int.reduceToNat, Int.reduceLT, Int.reduceLE, Int.reduceEq, ml_i0, this, hg, wr, ws, ho, k1, k2, z0]
              have := go (-x.cnt) (by simp [delta, ho, k2, z0]) (by omega) (by omega)
              rw [z0] at this
              exact this
            · simp only [↓sxc, sx, se, ↓reduceIte, Nat.reduceEqDiff, Nat.reduceAdd, Nat.reduceLT, Nat.reduceLeDiff, Nat.reduceSub, Nat.reduceMul, Int.reduceToNat, Int.reduceLT, Int.reduceLE, Int.reduceEq, ml_i0, this, hg, wr, ws, ho, k1, k2, z0]
              have := go 0 (by simp [delta, ho, k2, z0]) (by omega) (by omega)
              rw [Int.add_zero] at this
              exact this
          · by_cases k3 : x.kind = 3
            · by_cases z0 : kind = 1
              · simp only [↓sxc, sx, se, ↓reduceIte, Nat.reduceEqDiff, Nat.reduceAdd, Nat.reduceLT, Nat.reduceLeDiff, Nat.reduceSub, Nat.reduceMul, Int.reduceToNat, Int.reduceLT, Int.reduceLE, Int.reduceEq, ml_i0, this, hg, wr, wi, ho, k1, k2, k3, z0]
                have := go 1 (by simp [delta, ho, k3, z0]) (by omega) (by omega)
                rw [z0] at this
                exact this
              · simp only [↓sxc, sx, se, ↓reduceIte, Nat.reduceEqDiff, Nat.reduceAdd, Nat.reduceLT, Nat.reduceLeDiff, Nat.reduceSub, Nat.reduceMul, Int.reduceToNat, Int.reduceLT, Int.reduceLE, Int.reduceEq, ml_i0, this, hg, wr, wi, ho, k1, k2, k3, z0]
                have := go 0 (by simp [delta, ho, k3, z0]) (by omega) (by omega)
                rw [Int.add_zero] at this
                exact this
            · by_cases k4 : x.kind = 4
              · by_cases z0 : kind = 1
                · simp only [↓sxc, sx, se, ↓reduceIte, Nat.reduceEqDiff, Nat.reduceAdd, Nat.reduceLT, Nat.reduceLeDiff, Nat.reduceSub, Nat.reduceMul, Int.reduceToNat, Int.reduceLT, Int.reduceLE, Int.reduceEq, ml_i0, this, hg, wr, wd, ho, k1, k2, k3, k4, z0]
                  have := go (-1) (by simp [delta, ho, k4, z0]) (by omega) (by omega)
                  rw [z0] at this
                  exact this
                · simp only [↓sxc, sx, se, ↓reduceIte, Nat.reduceEqDiff, Nat.reduceAdd, Nat.reduceLT, Nat.reduceLeDiff, Nat.reduceSub, Nat.reduceMul, Int.reduceToNat, Int.reduceLT, Int.reduceLE, Int.reduceEq, ml_i0, this, hg, wr, wd, ho, k1, k2, k3, k4, z0]
                  have := go 0 (by simp [delta, ho, k4, z0]) (by omega) (by omega)
                  rw [Int.add_zero] at this
                  exact this
              · simp only [↓sxc, sx, se, ↓reduceIte, Nat.reduceEqDiff, Nat.reduceAdd, Nat.reduceLT, Nat.reduceLeDiff, Nat.reduceSub, Nat.reduceMul, Int.reduceToNat, Int.reduceLT, Int.reduceLE, Int.reduceEq, ml_i0, this, hg, wr, ho, k1, k2, k3, k4]
                have := go 0 (by simp [delta, ho, k1, k2, k3, k4]) (by omega) (by omega)
                rw [Int.add_zero] at this
                exact this
      · simp only [↓sxc, sx, se, ↓reduceIte, Nat.reduceEqDiff, Nat.reduceAdd, Nat.reduceLT, Nat.reduceLeDiff, Nat.reduceSub, Nat.reduceMul, Int.reduceToNat, Int.reduceLT, Int.reduceLE, Int.reduceEq, ml_i0, this, hg, wr, ho]
        have := go 0 (by simp [delta, ho]) (by omega) (by omega)
        rw [Int.add_zero] at this
        exact this
  refine call_p hA.h164 rfl ?_
  simp only [↓sxc, sx, se, ↓reduceIte, Nat.reduceEqDiff, Nat.reduceAdd, Nat.reduceLT, Nat.reduceLeDiff, Nat.reduceSub, Nat.reduceMul, Int.reduceToNat, Int.reduceLT, Int.reduceLE, Int.reduceEq, ml_i0]
  refine loop (l.take n) 0 0 _ rfl (by simp) (by simp) (fun i v => ?_)
  simp only [↓sxc, sx, se, ↓reduceIte, Nat.reduceEqDiff, Nat.reduceAdd, Nat.reduceLT, Nat.reduceLeDiff, Nat.reduceSub, Nat.reduceMul, Int.reduceToNat, Int.reduceLT, Int.reduceLE, Int.reduceEq, ml_i0, Int.zero_add]

end Go.Am
