/- Kind by kind: maps. -/
import Derived.Test.YtflfnkdhmcfjlaaKindh
import Derived.WideKeyRuns
namespace Go.Am
open Go

section
variable {P : Program} {src : Nat → Nat} {fr : Fr} {g : Gh} {st : St} {a : Act} {w : World} {h : Nat} {d : D} {o : Oper}

theorem k_mkm {os : List O} {vs : List V} {T : TypeId} (hop : o.op = .makeMap T none) (hg : getOs st os = some vs) {p : Plan} (hp : plan .mkm vs = some p) :
    PlanRun src fr g st a w h d ((execOp a.eval o).run P w) p := by
  simp only [plan, plan_mkm] at hp
  split at hp
  · cases hp
    exact ⟨w.alloc (.map #[] 0), .map (some w.heap.size), ⟨w.heap.size, 0, 0, 0⟩, _, by simp [execOp, hop, Instr.makeMap], .alloc w _, rfl, ⟨#[], 0, heap_alloc_new w _, rfl, by simp⟩, .map h ⟨w.heap.size, 0, 0, 0⟩ (by simp [Gh.add])⟩
  · cases hp

/-- The type of a map's keys: strings, or two numbers. -/
def okKey (P : Program) (arr : Bool) (kt : TypeId) : Bool :=
  match arr, P.underlying kt with
  | false, some .string => true
  | true, some (.array 2 e) => isInt P e .i64 && decide (szOf P e = some 1)
  | _, _ => false

theorem keyIs_spec {arr : Bool} {k : V} (h : keyIs arr k = true) : (arr = false ∧ ∃ s, k = .str s) ∨ (arr = true ∧ ∃ a b, k = .agg [.int .i64 a, .int .i64 b]) := by
  unfold keyIs at h
  split at h
  · exact .inl ⟨rfl, _, rfl⟩
  · exact .inr ⟨rfl, _, _, rfl⟩
  · cases h

theorem pair_img {x : Value} {b c : Int} (h : Img g w (.agg [.int .i64 b, .int .i64 c]) x) : x = .agg #[.int .i64 b, .int .i64 c] := by
  obtain ⟨vs, rfl, h1, h2, h3⟩ := h.agg_inv
  match vs, h1 with
  | [y, z], _ =>
    have e1 := (h3 0 _ y rfl rfl).int_inv
    have e2 := (h3 1 _ z rfl rfl).int_inv
    subst e1 e2
    rfl

theorem run_checkKey' {arr : Bool} {kt : TypeId} (hk : okKey P arr kt = true) {k : V} {x : Value} (hi : Img g w k x) (hs : keyIs arr k = true) (em : Bool) (n : Nat) : (Instr.checkKey em (n + 1 + 1) kt x).run P w = .ok () w := by
  rcases keyIs_spec hs with ⟨rfl, s, rfl⟩ | ⟨rfl, b, c, rfl⟩
  · unfold okKey at hk
    split at hk
    · rename_i hu
      obtain ⟨y, rfl, _⟩ := hi.str_inv
      simp [Instr.checkKey, run_underlying hu]
    · rename_i h1 _; cases h1
    · cases hk
  · unfold okKey at hk
    split at hk
    · rename_i h1 _; cases h1
    · rename_i e _ hu
      simp only [Bool.and_eq_true, decide_eq_true_eq] at hk
      have hx := pair_img hi
      subst hx
      have hue := isInt_spec hk.1
      have hagg : aggOf P e = some false := by unfold aggOf; rw [hue]; rfl
      have hsz := run_sizeOf' hk.2 w
      have hrange : List.range' 0 2 = [0, 1] := rfl
      have p0 : (part e #[Value.int .i64 b, .int .i64 c] 0).run P w = .ok (.int .i64 b) w := by simp [part, run_isAgg' hagg]
      have p1 : (part e #[Value.int .i64 b, .int .i64 c] 1).run P w = .ok (.int .i64 c) w := by simp [part, run_isAgg' hagg]
      simp [Instr.checkKey, run_underlying hu, hsz, Std.Legacy.Range.forIn_eq_forIn_range', Std.Legacy.Range.size, hrange, p0, p1, run_underlying hue]
    · cases hk

theorem run_checkKey {arr : Bool} {kt : TypeId} (hk : okKey P arr kt = true) {k : V} {x : Value} (hi : Img g w k x) (hs : keyIs arr k = true) (em : Bool) : (Instr.checkKey em 10000 kt x).run P w = .ok () w :=
  run_checkKey' hk hi hs em 9998

theorem bytes_ext {b c : ByteArray} (h : b.data.toList = c.data.toList) : b = c := by
  cases b; cases c
  simp at h
  simp [h]

theorem bytes_beq (b c : ByteArray) : (b == c) = (b.data.toList == c.data.toList) := by
  rw [beq_toListBytes, bytes_eq]

theorem keyEq_str (b c : List UInt8) : keyEq (.str b) (.str c) = some (b == c) := rfl
theorem keyEq_agg (b c b' c' : Int) : keyEq (.agg [.int .i64 b, .int .i64 c]) (.agg [.int .i64 b', .int .i64 c']) = some (b == b' && c == c') := rfl

/-- Two keys are compared as the abstract machine compares them. -/
theorem run_keyEq {arr : Bool} {kt : TypeId} (hk : okKey P arr kt = true) {k k' : V} {x y : Value} (hs : keyIs arr k = true) (hi : Img g w k x) (hj : Img g w k' y) {q : Bool} (hq : keyEq k k' = some q) :
    keyIs arr k' = true ∧ (q = true → x = y ∧ k = k') ∧ (arr = false → Instr.sameNow .string x y = some q) ∧ (arr = true → (Op.equal kt x y).run P w = .ok q w) := by
  rcases keyIs_spec hs with ⟨rfl, s, rfl⟩ | ⟨rfl, b, c, rfl⟩
  · unfold keyEq at hq
    split at hq
    · rename_i s1 s2 e1
      cases e1
      cases hq
      obtain ⟨b1, rfl, rfl⟩ := hi.str_inv
      obtain ⟨b2, rfl, rfl⟩ := hj.str_inv
      refine ⟨rfl, fun h => ?_, fun _ => ?_, fun h => by cases h⟩
      · have := bytes_ext (by simpa using h)
        subst this
        exact ⟨rfl, rfl⟩
      · simp only [Instr.sameNow, bytes_beq]
    · rename_i e1; cases e1
    · cases hq
  · unfold keyEq at hq
    split at hq
    · rename_i e1; cases e1
    · rename_i b1 c1 b2 c2 e1
      cases e1
      cases hq
      have h1 := pair_img hi
      have h2 := pair_img hj
      subst h1 h2
      unfold okKey at hk
      split at hk
      · rename_i h1 _; cases h1
      · rename_i e _ hu
        simp only [Bool.and_eq_true, decide_eq_true_eq] at hk
        have hue := isInt_spec hk.1
        have hagg : aggOf P e = some false := by unfold aggOf; rw [hue]; rfl
        refine ⟨rfl, fun h => ?_, fun h => (by cases h), fun _ => ?_⟩
        · simp at h
          obtain ⟨rfl, rfl⟩ := h
          exact ⟨rfl, rfl⟩
        · obtain ⟨i, hie⟩ : ∃ i, P.info? e = some i := by
            unfold szOf at hk
            cases hq : P.info? e with
            | none => rw [hq] at hk; cases hk.2
            | some i => exact ⟨i, rfl⟩
          have hc : P.cellsOf e = 1 := by unfold Program.cellsOf; have := hk.2; unfold szOf at this; rw [this]; rfl
          have hr : List.range 2 = [0, 1] := rfl
          have e0 : (Op.equalIn 9999 e (.int .i64 b) (.int .i64 b2)).run P w = .ok (b == b2) w := run_equalIn_int w 9998 e .i64 .i64 _ _ hue
          have e1 : (Op.equalIn 9999 e (.int .i64 c) (.int .i64 c2)).run P w = .ok (c == c2) w := run_equalIn_int w 9998 e .i64 .i64 _ _ hue
          show (Op.equalIn 10000 kt _ _).run P w = _
          rw [run_equalIn_array w 9999 _ _ hu hie, hc, hr]
          have q0 : ∀ u v : Int, (part e #[Value.int .i64 u, .int .i64 v] 0).run P w = .ok (.int .i64 u) w := fun u v => by simp [part, run_isAgg' hagg]
          have q1 : ∀ u v : Int, (part e #[Value.int .i64 u, .int .i64 v] 1).run P w = .ok (.int .i64 v) w := fun u v => by simp [part, run_isAgg' hagg]
          simp only [Op.eqItems, Nat.zero_mul, Nat.one_mul, Sem.run_bind, q0, Result.andThen_ok, e0]
          cases b == b2 with
          | false => simp
          | true => simp only [Bool.not_true, Bool.false_eq_true, if_false, Sem.run_bind, q1, Result.andThen_ok, e1]; cases c == c2 <;> simp
      · cases hk
    · cases hq

/-- What is found behind a key. -/
def Found (es : List (V × V)) (ents : List MapEntry) (k : V) (i0 : Nat) (r : Option (Nat × Value)) (res : Option V) : Prop :=
  (res = none ∧ r = none) ∨ ∃ (j : Nat) (k' v : V) (m : MapEntry), res = some v ∧ r = some (i0 + j, m.val) ∧ es[j]? = some (k', v) ∧ ents[j]? = some m ∧ k = k' ∧ ∀ i k'' v'', i < j → es[i]? = some (k'', v'') → keyEq k k'' = some false

theorem find_list {arr : Bool} {kt : TypeId} (hk : okKey P arr kt = true) {k : V} {x : Value} (hs : keyIs arr k = true) (hi : Img g w k x) : ∀ (es : List (V × V)) (ents : List MapEntry) (i0 : Nat) (res : Option V), ents.length = es.length →
    (∀ (i : Nat) (k v : V) (m : MapEntry), es[i]? = some (k, v) → ents[i]? = some m → Img g w k m.key) → lookKey k es = some res →
    ∃ r, Found es ents k i0 r res ∧ (arr = false → Instr.findNow .string x ents i0 = some r) ∧ (arr = true → (Instr.findAsking kt x ents i0).run P w = .ok r w) ∧ (∀ (j : Nat) (m : MapEntry), r = some (i0 + j, m.val) → ents[j]? = some m → x = m.key ∨ True)
  | [], [], i0, res, _, _, h => by
    cases h
    exact ⟨none, .inl ⟨rfl, rfl⟩, fun _ => rfl, fun _ => rfl, fun _ _ _ _ => .inr trivial⟩
  | (k', v) :: es, m :: ents, i0, res, hl, hks, h => by
    simp only [lookKey] at h
    split at h
    · rename_i hq
      cases h
      obtain ⟨_, h1, h2, h3⟩ := run_keyEq (w := w) hk hs hi (hks 0 k' v m rfl rfl) hq
      refine ⟨some (i0, m.val), .inr ⟨0, k', v, m, rfl, rfl, rfl, rfl, (h1 rfl).2, fun i _ _ h => absurd h (Nat.not_lt_zero i)⟩, fun ha => ?_, fun ha => ?_, fun _ _ _ _ => .inr trivial⟩
      · simp only [Instr.findNow, h2 ha]
      · simp only [Instr.findAsking, Sem.run_bind, h3 ha, Result.andThen_ok]
        rfl
    · rename_i hq
      obtain ⟨_, h1, h2, h3⟩ := run_keyEq (w := w) hk hs hi (hks 0 k' v m rfl rfl) hq
      obtain ⟨r, f1, f2, f3, _⟩ := find_list hk hs hi es ents (i0 + 1) res (by simpa using hl) (fun i k v m h1 h2 => hks (i + 1) k v m (by simpa using h1) (by simpa using h2)) h
      refine ⟨r, ?_, fun ha => ?_, fun ha => ?_, fun _ _ _ _ => .inr trivial⟩
      · rcases f1 with f1 | ⟨j, k2, v2, m2, e1, e2, e3, e4, e5, e6⟩
        · exact .inl f1
        · refine .inr ⟨j + 1, k2, v2, m2, e1, by rw [e2]; congr 2; omega, by simpa using e3, by simpa using e4, e5, fun i k3 v3 hlt hi3 => ?_⟩
          cases i with
          | zero => simp at hi3; obtain ⟨rfl, rfl⟩ := hi3; exact hq
          | succ i => exact e6 i k3 v3 (by omega) (by simpa using hi3)
      · simp only [Instr.findNow, h2 ha]
        exact f2 ha
      · simp only [Instr.findAsking, Sem.run_bind, h3 ha, Result.andThen_ok]
        exact f3 ha
    · cases h
  | [], _ :: _, _, _, hl, _, _ => by simp at hl
  | _ :: _, [], _, _, hl, _, _ => by simp at hl

theorem run_find {arr : Bool} {kt : TypeId} (hk : okKey P arr kt = true) {k : V} {x : Value} (hs : keyIs arr k = true) (hi : Img g w k x) {es : List (V × V)} {ents : List MapEntry} {res : Option V} (hl : ents.length = es.length)
    (hks : ∀ (i : Nat) (k v : V) (m : MapEntry), es[i]? = some (k, v) → ents[i]? = some m → Img g w k m.key) (h : lookKey k es = some res) : ∃ r, Found es ents k 0 r res ∧ (Instr.findKey kt x ents).run P w = .ok r w := by
  obtain ⟨r, f1, f2, f3, _⟩ := find_list hk hs hi es ents 0 res hl hks h
  refine ⟨r, f1, ?_⟩
  cases arr with
  | false =>
    unfold okKey at hk
    split at hk
    · rename_i hu; exact MapKept.run_findKey hu (f2 rfl)
    · rename_i h1 _; cases h1
    · cases hk
  | true =>
    unfold okKey at hk
    split at hk
    · rename_i h1 _; cases h1
    · rename_i e _ hu
      rw [run_findKey_eq w (by rw [hu])]
      exact f3 rfl
    · cases hk

theorem lookKey_of_set {k v : V} : ∀ {es es' : List (V × V)}, setKey k v es = some es' → (lookKey k es = some none ∧ es' = es ++ [(k, v)]) ∨ ∃ (j : Nat) (v0 : V), lookKey k es = some (some v0) ∧ j < es.length ∧ es' = es.set j (k, v) ∧ (∀ i k' v', i < j → es[i]? = some (k', v') → keyEq k k' = some false) ∧ ∃ k', es[j]? = some (k', v0) ∧ keyEq k k' = some true
  | [], es', h => by cases h; exact .inl ⟨rfl, rfl⟩
  | (k', v') :: es, es', h => by
    simp only [setKey] at h
    split at h
    · rename_i hq
      cases h
      exact .inr ⟨0, v', by simp only [lookKey, hq], by simp, rfl, by simp, k', rfl, hq⟩
    · rename_i hq
      simp only [Option.map_eq_some_iff] at h
      obtain ⟨es2, h2, rfl⟩ := h
      rcases lookKey_of_set h2 with ⟨h3, rfl⟩ | ⟨j, v0, h3, h4, rfl, h5, k2, h6, h7⟩
      · exact .inl ⟨by simp only [lookKey, hq, h3], rfl⟩
      · refine .inr ⟨j + 1, v0, by simp only [lookKey, hq, h3], by simp; exact h4, rfl, fun i k3 v3 hi h8 => ?_, k2, by simpa using h6, h7⟩
        cases i with
        | zero => simp at h8; obtain ⟨rfl, rfl⟩ := h8; exact hq
        | succ i => exact h5 i k3 v3 (by omega) (by simpa using h8)
    · cases h

theorem okMap_keys {es : List (V × V)} {ents : Array MapEntry} (hz : ents.size = es.length) (hm : ∀ (i : Nat) (k v : V), es[i]? = some (k, v) → ∃ m, ents[i]? = some m ∧ ImgP g.I w k m.key ∧ Img g w v m.val ∧ m.val.oneCell' = true) :
    ents.toList.length = es.length ∧ ∀ (i : Nat) (k v : V) (m : MapEntry), es[i]? = some (k, v) → ents.toList[i]? = some m → Img g w k m.key := by
  refine ⟨by simpa using hz, fun i k v m h1 h2 => ?_⟩
  obtain ⟨m', h3, h4, _⟩ := hm i k v h1
  have : ents.toList[i]? = some m' := by simpa using h3
  rw [h2] at this
  cases this
  exact .pure h4

def okMap (P : Program) (arr : Bool) (T : TypeId) : Bool :=
  match P.underlying T with
  | some (.map kt _) => okKey P arr kt
  | _ => false

def okLook (P : Program) (arr : Bool) (T : TypeId) (z : V) : Bool :=
  match P.underlying T with
  | some (.map kt e) => okKey P arr kt && okZero P e z
  | _ => false

theorem k_look (s : Sim fr g st a w) {os : List O} {vs : List V} {x y : Operand} {T : TypeId} {arr ok : Bool} {z : V} (hop : o.op = .lookup T x y ok) (hT : okLook P arr T z = true) (hok : okOs os [x, y] = true) (hv : isVs os = true) (hg : getOs st os = some vs) {p : Plan} (hp : plan (.look arr ok z) vs = some p) :
    PlanRun src fr g st a w h d ((execOp a.eval o).run P w) p := by
  obtain ⟨v, u, rfl, r1, r2⟩ := two_vals s hok hv hg
  unfold okLook at hT
  split at hT
  · rename_i kt e hu
    simp only [Bool.and_eq_true] at hT
    obtain ⟨zx, hzx, hzr⟩ := okZero_spec hT.2
    simp only [plan, plan_look] at hp
    split at hp
    · rename_i h' k e0
      simp at e0
      obtain ⟨rfl, rfl⟩ := e0
      split at hp
      · rename_i hks
        cases hp
        intro B u hB hu'
        obtain ⟨loc, hφ, e1⟩ := r1.map_inv
        cases B with
        | row _ _ => cases hu'
        | map es =>
          simp only [Option.map_eq_some_iff] at hu'
          obtain ⟨res, hres, hu'⟩ := hu'
          obtain ⟨loc', e2, hBk, _, _⟩ := s.mem.blk h' _ hB
          rw [hφ] at e2; cases e2
          obtain ⟨ents, clock, hb, hsz, hm⟩ := hBk
          obtain ⟨hl, hkeys⟩ := okMap_keys hsz hm
          obtain ⟨r, hf, hrun⟩ := run_find (w := w) hT.1 hks r2 hl hkeys hres
          have hck := run_checkKey (w := w) hT.1 r2 hks ents.isEmpty
          have hgo := MapKept.run_getObj_map (P := P) hb
          rcases hf with ⟨rfl, rfl⟩ | ⟨j, k', v, m, rfl, rfl, h1, h2, _⟩
          · have hz : Img g w z zx := .pure (okConst_img hzx _ _)
            have run : (Instr.lookup T (a.eval x) (a.eval y) ok).run P w = .ok (if ok then .tuple #[zx, .bool false] else zx) w := by
              simp [Instr.lookup, run_underlying hu, e1, hgo, hck, hrun, hzr w]
            refine ⟨if ok then .tuple #[zx, .bool false] else zx, by simp [execOp, hop, run], ?_⟩
            cases ok with
            | false => cases hu'; exact hz
            | true =>
              cases hu'
              refine .tup [z, .bool false] [zx, .bool false] rfl (fun i c q h1 h2 => ?_)
              match i with
              | 0 => simp at h1 h2; subst h1 h2; exact hz
              | 1 => simp at h1 h2; subst h1 h2; exact .pure (.bool _)
              | i + 2 => simp at h1
          · obtain ⟨m', h3, h4, h5, h6⟩ := hm j k' v h1
            have h2' : ents[j]? = some m := by simpa using h2
            rw [h2'] at h3
            cases h3
            have run : (Instr.lookup T (a.eval x) (a.eval y) ok).run P w = .ok (if ok then .tuple #[m.val, .bool true] else m.val) w := by
              simp [Instr.lookup, run_underlying hu, e1, hgo, hck, hrun]
            refine ⟨if ok then .tuple #[m.val, .bool true] else m.val, by simp [execOp, hop, run], ?_⟩
            cases ok with
            | false => cases hu'; exact h5
            | true =>
              cases hu'
              refine .tup [v, .bool true] [m.val, .bool true] rfl (fun i c q h1 h2 => ?_)
              match i with
              | 0 => simp at h1 h2; subst h1 h2; exact h5
              | 1 => simp at h1 h2; subst h1 h2; exact .pure (.bool _)
              | i + 2 => simp at h1
      · cases hp
    · cases hp
  · cases hT

theorem run_setObj_map {r clock : Nat} {ents : Array MapEntry} (hb : w.heap[r]? = some (.map ents clock)) (ob : Obj) : ∃ w', (setObj r ob).run P w = .ok () w' ∧ Upd w w' r ob := by
  obtain ⟨h1, h2⟩ := MapKept.heap_set (o' := ob) hb
  exact ⟨{ w with heap := w.heap.setIfInBounds r ob }, by simp [setObj, Sem.run, hb], ⟨h1, fun k hk => h2 k hk, by simp, rfl, rfl, rfl⟩⟩

theorem sameBits_refl {arr : Bool} {k : V} {x : Value} (hs : keyIs arr k = true) (hi : Img g w k x) : (Instr.keyThatStays x x).run P w = .ok x w := by
  have : Instr.sameBits 10000 x x = true := by
    rcases keyIs_spec hs with ⟨_, s, rfl⟩ | ⟨_, b, c, rfl⟩
    · obtain ⟨y, rfl, _⟩ := hi.str_inv
      show (y == y) = true
      rw [bytes_beq]
      simp
    · have := pair_img hi
      subst this
      simp [Instr.sameBits]
  simp [Instr.keyThatStays, this]

theorem key_pure {arr : Bool} {k : V} {x : Value} (hs : keyIs arr k = true) (hi : Img g w k x) (I : Nat → Prop) (w' : World) : ImgP I w' k x := by
  rcases keyIs_spec hs with ⟨_, s, rfl⟩ | ⟨_, b, c, rfl⟩
  · obtain ⟨y, rfl, rfl⟩ := hi.str_inv
    exact .str y
  · have := pair_img hi
    subst this
    refine .agg [.int .i64 b, .int .i64 c] [.int .i64 b, .int .i64 c] rfl (by simp [Value.oneCell']) (fun i c q h1 h2 => ?_)
    match i with
    | 0 => simp at h1 h2; subst h1 h2; exact .int _ _
    | 1 => simp at h1 h2; subst h1 h2; exact .int _ _
    | i + 2 => simp at h1

theorem same_key {arr : Bool} {k : V} {x y : Value} (hs : keyIs arr k = true) (hi : Img g w k x) (hj : Img g w k y) : x = y := by
  rcases keyIs_spec hs with ⟨_, s, rfl⟩ | ⟨_, b, c, rfl⟩
  · obtain ⟨b1, rfl, h1⟩ := hi.str_inv
    obtain ⟨b2, rfl, h2⟩ := hj.str_inv
    rw [bytes_ext (h1.trans h2.symm)]
  · rw [pair_img hi, pair_img hj]

theorem one_of {v : V} {x : Value} (h1 : v.one = true) (hi : Img g w v x) : x.oneCell' = true := by
  have h2 : v.ones = true := by cases v <;> first | rfl | exact h1 | (simp [V.one] at h1)
  have h3 : v.cells = [v] := by cases v <;> first | rfl | (simp [V.one] at h1)
  have hc := hi.cells
  have hx : x.cells = #[x] := by
    cases x with
    | agg cs =>
      exfalso
      cases hi with
      | pure hi => cases hi; simp [V.one] at h1
      | agg => simp [V.one] at h1
    | _ => rfl
  exact hi.ones h2 0 x (by rw [hx]; rfl)

theorem k_upd (s : Sim fr g st a w) {os : List O} {vs : List V} {x y z : Operand} {T : TypeId} {arr : Bool} (hop : o.op = .mapUpdate T x y z ∨ o.op = .insert T x y z) (hT : okMap P arr T = true) (hok : okOs os [x, y, z] = true) (hv : isVs os = true) (hg : getOs st os = some vs) {p : Plan} (hp : plan (.upd arr) vs = some p) :
    PlanRun src fr g st a w h d ((execOp a.eval o).run P w) p := by
  obtain ⟨p1, p2, p3, rfl, q1, q2, q3⟩ := okOs_three hok
  obtain ⟨v1, v2, v3, rfl, g1, g2, g3⟩ := getOs_three hg
  obtain ⟨i1, i2, i3⟩ := isVs_three hv
  have r1 := getO_val s i1 q1 g1
  have r2 := getO_val s i2 q2 g2
  have r3 := getO_val s i3 q3 g3
  unfold okMap at hT
  split at hT
  · rename_i kt e hu
    simp only [plan, plan_upd] at hp
    split at hp
    · rename_i h' k v e0
      simp at e0
      obtain ⟨rfl, hk2, hv3⟩ := e0
      obtain rfl := hk2.symm
      obtain rfl := hv3.symm
      split at hp
      · rename_i hks
        simp only [Bool.and_eq_true] at hks
        obtain ⟨hks, hone⟩ := hks
        cases hp
        refine ⟨rfl, fun B B' hB hB' => ?_⟩
        obtain ⟨loc, hφ, e1⟩ := r1.map_inv
        cases B with
        | row _ _ => cases hB'
        | map es =>
          simp only [Option.map_eq_some_iff] at hB'
          obtain ⟨es', hes, rfl⟩ := hB'
          obtain ⟨loc', e2, hBk, hnI, _⟩ := s.mem.blk h' _ hB
          rw [hφ] at e2; cases e2
          obtain ⟨ents, clock, hb, hsz, hm⟩ := hBk
          obtain ⟨hl, hkeys⟩ := okMap_keys hsz hm
          have hck := run_checkKey (w := w) hT r2 hks false
          have hgo := MapKept.run_getObj_map (P := P) hb
          have run : ∀ {w' : World}, (Instr.mapUpdate T (a.eval x) (a.eval y) (a.eval z)).run P w = .ok () w' → (execOp a.eval o).run P w = .ok .skip w' := by
            intro w' hr
            rcases hop with hop | hop <;> simp [execOp, hop, hr]
          rcases lookKey_of_set hes with ⟨h1, rfl⟩ | ⟨j, v0, h1, h2, rfl, h3, k', h4, h5⟩
          · obtain ⟨r, hf, hrun⟩ := run_find (w := w) hT hks r2 hl hkeys h1
            rcases hf with ⟨_, rfl⟩ | ⟨j, k', v, m, h, _⟩
            · obtain ⟨w', h6, h7⟩ := run_setObj_map (P := P) hb (.map (ents.push { key := a.eval y, val := a.eval z, born := clock }) (clock + 1))
              have hsame : Same g.I w w' := fun b hI => h7.other b (fun e => hnI (e ▸ hI))
              refine ⟨w', loc, _, run (by simp [Instr.mapUpdate, run_underlying hu, e1, hgo, hck, hrun, h6]), hφ, h7, _, _, h7.here, by simp [hsz], fun i k2 v2 hi => ?_⟩
              by_cases hlt : i < es.length
              · rw [List.getElem?_append_left hlt] at hi
                obtain ⟨m, m1, m2, m3, m4⟩ := hm i k2 v2 hi
                refine ⟨m, ?_, m2.mono (fun _ h => h) hsame, m3.mono (.refl g) hsame, m4⟩
                rw [Array.getElem?_push_lt (by omega)]
                rw [← m1]
                simp [show i < ents.size by omega]
              · rw [List.getElem?_append_right (by omega)] at hi
                have hi0 : i = es.length := by
                  rcases Nat.lt_or_ge (i - es.length) 1 with h | h
                  · omega
                  · rw [List.getElem?_eq_none (by simpa using h)] at hi; cases hi
                subst hi0
                simp at hi
                obtain ⟨rfl, rfl⟩ := hi
                exact ⟨{ key := a.eval y, val := a.eval z, born := clock }, by rw [← hsz]; simp, key_pure hks r2 _ _, r3.mono (.refl g) hsame, one_of hone r3⟩
            · cases h
          · obtain ⟨r, hf, hrun⟩ := run_find (w := w) hT hks r2 hl hkeys h1
            rcases hf with ⟨h, _⟩ | ⟨j2, k2, v2, m, e3, rfl, e5, e6, e8, e7⟩
            · cases h
            · subst e8
              have hkk : keyEq k k = some true := by
                rcases keyIs_spec hks with ⟨_, s, rfl⟩ | ⟨_, b, c, rfl⟩
                · rw [keyEq_str]; simp
                · rw [keyEq_agg]; simp
              have hjj : j2 = j := by
                rcases Nat.lt_trichotomy j2 j with h | h | h
                · have := h3 j2 k v2 h e5
                  rw [hkk] at this; cases this
                · exact h
                · have := e7 j k' v0 h h4
                  rw [h5] at this; cases this
              subst hjj
              have e6' : ents[j2]? = some m := by simpa using e6
              obtain ⟨m', m1, m2, m3, m4⟩ := hm j2 k v2 e5
              rw [e6'] at m1
              cases m1
              have hxy : m.key = a.eval y := same_key hks (.pure m2) r2
              have hkeep := sameBits_refl (P := P) hks r2
              obtain ⟨w', h6, h7⟩ := run_setObj_map (P := P) hb (.map (ents.modify j2 fun e => { e with key := a.eval y, val := a.eval z }) clock)
              have hsame : Same g.I w w' := fun b hI => h7.other b (fun e => hnI (e ▸ hI))
              refine ⟨w', loc, _, run (by simp [Instr.mapUpdate, run_underlying hu, e1, hgo, hck, hrun, e6', hxy, hkeep, h6]), hφ, h7, _, _, h7.here, by simp [hsz], fun i k2 v2 hi => ?_⟩
              by_cases hij : j2 = i
              · subst hij
                rw [List.getElem?_set_self h2] at hi
                cases hi
                exact ⟨{ m with key := a.eval y, val := a.eval z }, by rw [Array.getElem?_modify, if_pos rfl, e6']; rfl, key_pure hks r2 _ _, r3.mono (.refl g) hsame, one_of hone r3⟩
              · rw [List.getElem?_set_ne hij] at hi
                obtain ⟨m', n1, n2, n3, n4⟩ := hm i k2 v2 hi
                exact ⟨m', by rw [Array.getElem?_modify, if_neg hij]; exact n1, n2.mono (fun _ h => h) hsame, n3.mono (.refl g) hsame, n4⟩
      · cases hp
    · cases hp
  · cases hT
end
end Go.Am
