/- Rules for maps; edges as values. -/
import Derived.Test.YtflfnkdhmcfjlaaSpK
namespace Go.Am
open Go
set_option linter.unusedSimpArgs false
set_option linter.unusedVariables false
set_option maxRecDepth 100000

/-! ### Maps -/
section
variable {F : Nat → Option Fn} {lo : Nat} {md : Option (Nat × Nat)} {ops : List Op} {e b a : Env} {m : Mem} {Q : St → Prop} {d : Nat}

noncomputable def lookV (m : Mem) (arr ok : Bool) (z u k : V) : Option V :=
  match u with
  | .map h => if keyIs arr k then match m.blk h with
    | some (.map es) => (lookKey k es).map fun r => match r, ok with
      | some v, true => .tup [v, .bool true]
      | none, true => .tup [z, .bool false]
      | some v, false => v
      | none, false => z
    | _ => none
    else none
  | _ => none

noncomputable def updV (lo : Nat) (m : Mem) (arr : Bool) (u k v : V) : Option Mem :=
  match u with
  | .map h => if keyIs arr k && v.one then if lo ≤ h then match m.blk h with
    | some (.map es) => (setKey k v es).map fun es' => m.set h (some (.map es'))
    | _ => none
    else none else none
  | _ => none

theorem S_look {arr ok : Bool} {z : V} {x y : O} : S F lo md (⟨.e d, .look arr ok z, [x, y], none⟩ :: ops) ⟨e, b, a, m⟩ Q ↔ OC (getO ⟨e, b, a, m⟩ x) fun u => OC (getO ⟨e, b, a, m⟩ y) fun k => OC (lookV m arr ok z u k) fun v => S F lo (nx md) ops ⟨(d, v) :: e, b, a, m⟩ Q := by
  rw [S_exec]
  simp only [gs_cons, gs_nil, K.allocs, bmp_false]
  cases getO ⟨e, b, a, m⟩ x with
  | none => simp [OC_none]
  | some u =>
    cases getO ⟨e, b, a, m⟩ y with
    | none => simp [OC_none, OC_some]
    | some k =>
      simp only [OC_some, plan]
      cases u <;> simp only [plan_look, lookV, OC_none]
      rename_i h
      cases hk : keyIs arr k with
      | false => simp [OC_none]
      | true =>
        simp only [if_true, OC_some, act]
        cases m.blk h with
        | none => simp [OC_none]
        | some B =>
          cases B with
          | row _ _ => simp [OC_none]
          | map es =>
            simp only
            cases lookKey k es with
            | none => simp [OC_none]
            | some r => cases r <;> cases ok <;> simp [OC_some, put]

theorem S_upd {arr : Bool} {x y w : O} : S F lo md (⟨.n, .upd arr, [x, y, w], none⟩ :: ops) ⟨e, b, a, m⟩ Q ↔ OC (getO ⟨e, b, a, m⟩ x) fun u => OC (getO ⟨e, b, a, m⟩ y) fun k => OC (getO ⟨e, b, a, m⟩ w) fun v => OC (updV lo m arr u k v) fun m' => S F lo (nx md) ops ⟨e, b, a, m'⟩ Q := by
  rw [S_exec]
  simp only [gs_cons, gs_nil, K.allocs, bmp_false]
  cases getO ⟨e, b, a, m⟩ x with
  | none => simp [OC_none]
  | some u =>
    cases getO ⟨e, b, a, m⟩ y with
    | none => simp [OC_none, OC_some]
    | some k =>
      cases getO ⟨e, b, a, m⟩ w with
      | none => simp [OC_none, OC_some]
      | some v =>
        simp only [OC_some, plan]
        cases u <;> simp only [plan_upd, updV, OC_none]
        rename_i h
        cases hk : (keyIs arr k && v.one) with
        | false => simp [OC_none]
        | true =>
          simp only [if_true, OC_some, act]
          by_cases hl : lo ≤ h
          · simp only [if_pos hl]
            cases m.blk h with
            | none => simp [OC_none]
            | some B =>
              cases B with
              | row _ _ => simp [OC_none]
              | map es =>
                simp only
                cases setKey k v es with
                | none => simp [OC_none]
                | some r => simp [OC_some, put]
          · simp only [if_neg hl, OC_none]
end

/-! ### Two slices that are built at once -/
def Apart (w v : V) : Prop := ∀ s1 s2 h l1 l2, w = .row s1 h 0 l1 → v = .row s2 h 0 l2 → False
theorem Apart.nil_r {w : V} : Apart w .nil := fun _ _ _ _ _ _ h => by cases h
theorem Apart.nil_l {w : V} : Apart .nil w := fun _ _ _ _ _ h _ => by cases h
theorem Apart.symm {w v : V} (h : Apart w v) : Apart v w := fun s1 s2 k l1 l2 h1 h2 => h s2 s1 k l2 l1 h2 h1

theorem Rw.app2 {lo sz s : Nat} {m : Mem} {v y : V} {xs ys : List V} (h : Rw lo m sz v xs) (hl : lo ≤ m.next) (hv : view m y = some (s, ys)) (hs : s = sz ∨ ys.length = 0) (hb : xs.length + ys.length < big) :
    ∃ v' m', apV lo m.next m sz v y = some (v', m') ∧ Rw lo (m'.bump 1) sz v' (xs ++ ys) ∧ m'.next = m.next ∧ (∀ s w ws, Rw lo m s w ws → Apart w v → Rw lo (m'.bump 1) s w ws ∧ Apart w v') ∧ (∀ k, (∀ l, v ≠ .row sz k 0 l) → k ≠ m.next → m'.blk k = m.blk k) ∧ (v' = .nil ∨ ∃ l, v' = .row sz m.next 0 l) := by
  obtain ⟨v', m', h1, h2, h3, h4⟩ := h.app hl hv hs hb
  have hv' : v' = .nil ∨ ∃ l, v' = .row sz m.next 0 l := by
    rcases h with ⟨rfl, rfl⟩ | ⟨h, rfl, q1, q2, q3⟩
    · cases ys with
      | nil =>
        simp only [apV, hv] at h1
        cases h1
        exact .inl rfl
      | cons y ys =>
        simp only [apV, hv] at h1
        split at h1
        · cases h1
          exact .inr ⟨_, rfl⟩
        · cases h1
    · simp only [apV, hv, q3, if_true] at h1
      split at h1
      · split at h1
        · cases h1
          exact .inr ⟨_, rfl⟩
        · cases h1
      · cases h1
  refine ⟨v', m', h1, h2, h3, fun s w ws hw ha => ⟨hw.mono (by show m.next ≤ m'.next + 1; omega) (fun k l hk => ?_), fun s1 s2 k l1 l2 e1 e2 => ?_⟩, h4, hv'⟩
  · refine h4 k (fun l2 hl2 => ha _ _ _ _ _ hk hl2) ?_
    rcases hw with ⟨rfl, _⟩ | ⟨k2, rfl, _, q2, _⟩
    · cases hk
    · cases hk; omega
  · rcases hw with ⟨rfl, _⟩ | ⟨k2, rfl, _, q2, _⟩
    · cases e1
    · cases e1
      rcases hv' with rfl | ⟨l3, rfl⟩
      · cases e2
      · cases e2; omega

/-! ### Edges -/
structure Edge where
  fr : Int
  to : Int
  cls : Int
  step : Int
  deriving DecidableEq

noncomputable def vEdge (e : Edge) : V := .agg [vi e.fr, vi e.to, vi e.cls, vi e.step]
noncomputable def vEdges (l : List Edge) : V := .ro true 4 (l.map vEdge)
theorem ia_vEdges {l : List Edge} {k : IntKind} {x : Int} : retV (.ia 4) [vEdges l, .int k x] = if 0 ≤ x then (l[x.toNat]?).map fun e => .imm (vEdge e) 0 else none := by
  unfold vEdges
  rw [r_iaro, ml_get]
  cases l[x.toNat]? <;> rfl
theorem len_vEdges {l : List Edge} : retV (.len false) [vEdges l] = some (.int .i64 (l.length : Int)) := by
  unfold vEdges
  rw [r_lenro, ml_len]
theorem lof_vEdges {l : List Edge} : lenOf (vEdges l) = some l.length := by
  unfold vEdges
  rw [lenro, ml_len]
theorem ce_vEdges {l : List Edge} : V.cells (vEdges l) = [vEdges l] := rfl
theorem on_vEdges {l : List Edge} : V.ones (vEdges l) = true := rfl
theorem o1_vEdges {l : List Edge} : V.one (vEdges l) = true := rfl
theorem fz_vEdges {lo n : Nat} {m : Mem} {l : List Edge} : freeze lo m (n + 1) (vEdges l) = some (vEdges l) := rfl
theorem vw_vEdges {m : Mem} {l : List Edge} : view m (vEdges l) = some (nz 4 (l.map vEdge), l.map vEdge) := rfl
theorem sl_vEdges {l : List Edge} {a b : Nat} : slOf 4 (vEdges l) a b = if a ≤ b ∧ b ≤ l.length then some (vEdges ((l.drop a).take (b - a))) else none := by
  unfold vEdges
  rw [sl_ro, ml_len]
  by_cases h : a ≤ b ∧ b ≤ l.length
  · rw [if_pos h, if_pos h, List.map_take, List.map_drop]
  · rw [if_neg h, if_neg h]
theorem scn_vEdges {l : List Edge} : setC 0 1 (vEdges l) .nil = some (vEdges l) := rfl
theorem sco_vEdges {l k : List Edge} : setC 0 1 (vEdges l) (vEdges k) = some (vEdges l) := rfl
theorem app_vEdges {l : List Edge} : nz 4 (l.map vEdge) = 4 ∨ (l.map vEdge).length = 0 := by cases l <;> simp [nz]
theorem ces_vEdge {s : Edge} : V.cells (vEdge s) = [.int .i64 s.fr, .int .i64 s.to, .int .i64 s.cls, .int .i64 s.step] := rfl
theorem ons_vEdge {s : Edge} : V.ones (vEdge s) = true := rfl
theorem fo_vEdge {a b c d : Int} : V.agg [.int .i64 a, .int .i64 b, .int .i64 c, .int .i64 d] = vEdge ⟨a, b, c, d⟩ := rfl
theorem fzs_vEdge {lo n : Nat} {m : Mem} {s : Edge} : freeze lo m (n + 2) (vEdge s) = some (vEdge s) := rfl
theorem gk_edge {a b c d : Int} : V.agg [vi a, vi b, vi c, vi d] = vEdge ⟨a, b, c, d⟩ := rfl
set_option linter.defProp false
def sm := And.intro @ia_vEdges (And.intro @len_vEdges (And.intro @lof_vEdges (And.intro @ce_vEdges (And.intro @on_vEdges (And.intro @o1_vEdges (And.intro @fz_vEdges (And.intro @vw_vEdges (And.intro @sl_vEdges (And.intro @scn_vEdges (And.intro @sco_vEdges (And.intro @ces_vEdge (And.intro @ons_vEdge (@fzs_vEdge)))))))))))))
def smc := And.intro @S_look (@S_upd)

/-! ### Maps with pairs as keys -/
noncomputable def pairV (p : Int × Int) : V := .agg [vi p.1, vi p.2]
noncomputable def seenV (l : List (Int × Int)) : List (V × V) := l.map fun p => (pairV p, .bool true)
theorem look_seen {p : Int × Int} : ∀ {l : List (Int × Int)}, lookKey (pairV p) (seenV l) = some (if p ∈ l then some (.bool true) else none)
  | [] => rfl
  | q :: l => by
    show (match keyEq (pairV p) (pairV q) with
      | some true => some (some (V.bool true))
      | some false => lookKey (pairV p) (seenV l)
      | none => none) = _
    obtain ⟨a, b⟩ := p
    obtain ⟨c, d⟩ := q
    show (match some (a == c && b == d) with
      | some true => some (some (V.bool true))
      | some false => lookKey (pairV (a, b)) (seenV l)
      | none => none) = _
    rw [look_seen (l := l)]
    cases hq : (a == c && b == d) with
    | true =>
      simp at hq
      simp [hq.1, hq.2]
    | false =>
      have : ¬ ((a, b) = (c, d)) := by
        intro h
        cases h
        simp at hq
      simp [this]
theorem set_seen {p : Int × Int} : ∀ {l : List (Int × Int)}, p ∉ l → setKey (pairV p) (.bool true) (seenV l) = some (seenV (l ++ [p]))
  | [], _ => rfl
  | q :: l, h => by
    have ih := set_seen (p := p) (l := l) (fun hh => h (by simp [hh]))
    obtain ⟨a, b⟩ := p
    obtain ⟨c, d⟩ := q
    show (match some (a == c && b == d) with
      | some true => some ((pairV (a, b), V.bool true) :: seenV l)
      | some false => (setKey (pairV (a, b)) (V.bool true) (seenV l)).map ((pairV (c, d), V.bool true) :: ·)
      | none => none) = _
    have hne : (a == c && b == d) = false := by
      cases hc : (a == c && b == d) with
      | false => rfl
      | true =>
        simp at hc
        exact absurd (by simp [hc.1, hc.2]) h
    rw [hne, ih]
    rfl
end Go.Am
