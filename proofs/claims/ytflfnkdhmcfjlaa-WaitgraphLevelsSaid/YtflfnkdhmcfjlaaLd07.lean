/- The law WaitgraphLevels holds: levels exist exactly if there is no cycle, they fall along each edge, and each level above 0 has an edge to the level below; no conditions. -/
import Derived.Test.YtflfnkdhmcfjlaaAw42
import Derived.Test.YtflfnkdhmcfjlaaGrM
import Derived.Test.YtflfnkdhmcfjlaaGrE
import Derived.Test.YtflfnkdhmcfjlaaGrF
import Derived.Test.YtflfnkdhmcfjlaaGrL
import Derived.Test.YtflfnkdhmcfjlaaNod
import Derived.Test.YtflfnkdhmcfjlaaRwa
namespace Go.Am
open Go
set_option linter.unusedSimpArgs false
set_option linter.unusedVariables false
set_option maxRecDepth 100000

def hitL (f : List Int) (i : Nat) (e : Edge) : Bool := decide (e.fr = (i : Int)) && decide (gAt f e.to = gAt f i - 1)

theorem w7_1 {F : Nat → Option Fn} {lo : Nat} {n : Int} {N : Nat} {L : List Edge} (gr : Gr n L) (hN : n = N) {f : List Int} (hf : LevEq N L f) (hL : L.length < 1000) (i : Nat) (hi : i < N) {m : Mem} : ∀ (t : List Edge) (j : Nat) (st : Bool) (Q : Ex → St → Prop), L.drop j = t →
    (∀ e, Q (.exit 2) ⟨(6, vEdges L) :: (7, ints f) :: (11, vi i) :: (12, vi (gAt f i)) :: (13, .bool (st || t.any (hitL f i))) :: (65, ints f) :: (66, vi N) :: (67, vi i) :: e, [], [], m⟩) →
    W F lo L7_1 ⟨[(6, vEdges L), (7, ints f), (11, vi i), (12, vi (gAt f i)), (13, .bool st), (65, ints f), (66, vi N), (67, vi i), (74, vEdges L), (75, vi L.length), (76, vi j)], [], [], m⟩ Q := by
  have n4 := gr.n4
  intro t
  induction t with
  | nil =>
    intro j st Q hd hQ
    have hlt := drop_nil hd
    rw [W_L (c := L7_1) rfl]
    have : ¬ ((j : Nat) : Int) < (L.length : Int) := by omega
    simp only [↓sxc, sx, se, ↓reduceIte, Nat.reduceEqDiff, Nat.reduceAdd, Nat.reduceLT, Nat.reduceLeDiff, Nat.reduceSub, Nat.reduceMul, Int.reduceToNat, Int.reduceLT, Int.reduceLE, Int.reduceEq, ml_i0, ↓smc, sm, this]
    simp only [List.any_nil, Bool.or_false] at hQ
    exact hQ _
  | cons x t ih =>
    intro j st Q hd hQ
    obtain ⟨hg, hd', hlt⟩ := drop_cons hd
    have hx := List.mem_of_getElem? hg
    obtain ⟨a, b, ha, hb, ha2, hb2⟩ := gr.e x hx
    have bN : b < N := by omega
    rw [W_L (c := L7_1) rfl]
    have c0 : ((j : Nat) : Int) < (L.length : Int) := by omega
    have wr : wrapF .i64 ((j : Int) + 1) = ((j + 1 : Nat) : Int) := by rw [wr_i64 (by omega) (by omega)]; rfl
    have g1 := gAt_get (xs := f) (v := b) (by rw [hf.ln]; exact bN)
    have b0 : (0 : Int) ≤ b := by omega
    have bn : ((b : Nat) : Int).toNat = b := rfl
    have s1 := hf.small gr hN i hi
    have s2 := hf.nn i hi
    have w1 : wrapF .i64 (gAt f i - 1) = gAt f i - 1 := wr_i64 (by omega) (by omega)
    have hge := hf.ge x hx
    rw [ha, hb] at hge
    have eh : hitL f i x = (decide ((a : Int) = (i : Int)) && decide (gAt f (b : Int) = gAt f i - 1)) := by unfold hitL; rw [ha, hb]
    by_cases e1 : (a : Int) = (i : Int)
    · have c1 : ¬ gAt f i ≤ gAt f b := by rw [e1] at hge; omega
      have c1' : ¬ gAt f i ≤ gAt f i - 1 := by omega
      by_cases e2 : gAt f (b : Int) = gAt f i - 1
      · have eh' : hitL f i x = true := by rw [eh]; simp [e1, e2]
        simp only [List.any_cons, eh', Bool.true_or, Bool.or_true] at hQ
        cases st with
        | true =>
          simp only [↓sxc, sx, se, ↓reduceIte, Nat.reduceEqDiff, Nat.reduceAdd, Nat.reduceLT, Nat.reduceLeDiff, Nat.reduceSub, Nat.reduceMul, Int.reduceToNat, Int.reduceLT, Int.reduceLE, Int.reduceEq, ml_i0, ↓smc, sm, c0, hg, ha, hb, e1, b0, bn, g1, c1, wr]
          exact ih (j + 1) true Q hd' (fun e => by simpa using hQ e)
        | false =>
          simp only [↓sxc, sx, se, ↓reduceIte, Nat.reduceEqDiff, Nat.reduceAdd, Nat.reduceLT, Nat.reduceLeDiff, Nat.reduceSub, Nat.reduceMul, Int.reduceToNat, Int.reduceLT, Int.reduceLE, Int.reduceEq, ml_i0, ↓smc, sm, c0, hg, ha, hb, e1, b0, bn, g1, c1, c1', w1, e2, wr]
          exact ih (j + 1) true Q hd' (fun e => by simpa using hQ e)
      · have eh' : hitL f i x = false := by rw [eh]; simp [e2]
        simp only [List.any_cons, eh', Bool.false_or] at hQ
        cases st with
        | true =>
          simp only [↓sxc, sx, se, ↓reduceIte, Nat.reduceEqDiff, Nat.reduceAdd, Nat.reduceLT, Nat.reduceLeDiff, Nat.reduceSub, Nat.reduceMul, Int.reduceToNat, Int.reduceLT, Int.reduceLE, Int.reduceEq, ml_i0, ↓smc, sm, c0, hg, ha, hb, e1, b0, bn, g1, c1, wr]
          exact ih (j + 1) true Q hd' hQ
        | false =>
          simp only [↓sxc, sx, se, ↓reduceIte, Nat.reduceEqDiff, Nat.reduceAdd, Nat.reduceLT, Nat.reduceLeDiff, Nat.reduceSub, Nat.reduceMul, Int.reduceToNat, Int.reduceLT, Int.reduceLE, Int.reduceEq, ml_i0, ↓smc, sm, c0, hg, ha, hb, e1, b0, bn, g1, c1, c1', w1, e2, wr]
          exact ih (j + 1) false Q hd' hQ
    · have eh' : hitL f i x = false := by rw [eh]; simp [e1]
      simp only [List.any_cons, eh', Bool.false_or] at hQ
      cases st with
      | true =>
        simp only [↓sxc, sx, se, ↓reduceIte, Nat.reduceEqDiff, Nat.reduceAdd, Nat.reduceLT, Nat.reduceLeDiff, Nat.reduceSub, Nat.reduceMul, Int.reduceToNat, Int.reduceLT, Int.reduceLE, Int.reduceEq, ml_i0, ↓smc, sm, c0, hg, ha, hb, e1, wr]
        exact ih (j + 1) true Q hd' hQ
      | false =>
        simp only [↓sxc, sx, se, ↓reduceIte, Nat.reduceEqDiff, Nat.reduceAdd, Nat.reduceLT, Nat.reduceLeDiff, Nat.reduceSub, Nat.reduceMul, Int.reduceToNat, Int.reduceLT, Int.reduceLE, Int.reduceEq, ml_i0, ↓smc, sm, c0, hg, ha, hb, e1, wr]
        exact ih (j + 1) false Q hd' hQ

theorem w7_2 {F : Nat → Option Fn} {lo : Nat} {n : Int} {N : Nat} {L : List Edge} (gr : Gr n L) (hN : n = N) {f : List Int} (hf : LevEq N L f) (hL : L.length < 1000) {m : Mem} : ∀ (r i : Nat) (Q : Ex → St → Prop), i + r = N →
    (∀ e, Q (.exit 0) ⟨e, [], [], m⟩) → W F lo L7_2 ⟨[(6, vEdges L), (7, ints f), (65, ints f), (66, vi N), (67, vi i)], [], [], m⟩ Q := by
  have n4 := gr.n4
  intro r
  induction r with
  | zero =>
    intro i Q hi hQ
    rw [W_L (c := L7_2) rfl]
    have : ¬ ((i : Nat) : Int) < (N : Int) := by omega
    simp only [↓sxc, sx, se, ↓reduceIte, Nat.reduceEqDiff, Nat.reduceAdd, Nat.reduceLT, Nat.reduceLeDiff, Nat.reduceSub, Nat.reduceMul, Int.reduceToNat, Int.reduceLT, Int.reduceLE, Int.reduceEq, ml_i0, ↓smc, sm, this]
    exact hQ _
  | succ r ih =>
    intro i Q hi hQ
    have iN : i < N := by omega
    rw [W_L (c := L7_2) rfl]
    have c0 : ((i : Nat) : Int) < (N : Int) := by omega
    have wr : wrapF .i64 ((i : Int) + 1) = ((i + 1 : Nat) : Int) := by rw [wr_i64 (by omega) (by omega)]; rfl
    have g1 := gAt_get (xs := f) (v := i) (by rw [hf.ln]; exact iN)
    have i0 : (0 : Int) ≤ i := by omega
    have in_ : ((i : Nat) : Int).toNat = i := rfl
    have hst : (decide (gAt f i = 0) || L.any (hitL f i)) = true := by
      rcases hf.wit i iN with h | ⟨e, he, h1, h2⟩
      · simp [h]
      · have : L.any (hitL f i) = true := List.any_eq_true.2 ⟨e, he, by simp only [hitL, Bool.and_eq_true, decide_eq_true_eq]; exact ⟨h1, by omega⟩⟩
        rw [this, Bool.or_true]
    simp only [↓sxc, sx, se, ↓reduceIte, Nat.reduceEqDiff, Nat.reduceAdd, Nat.reduceLT, Nat.reduceLeDiff, Nat.reduceSub, Nat.reduceMul, Int.reduceToNat, Int.reduceLT, Int.reduceLE, Int.reduceEq, ml_i0, ↓smc, sm, c0, i0, in_, g1]
    refine w7_1 gr hN hf hL i iN L 0 _ _ rfl (fun e => ?_)
    rw [hst]
    simp only [↓sxc, sx, se, ↓reduceIte, Nat.reduceEqDiff, Nat.reduceAdd, Nat.reduceLT, Nat.reduceLeDiff, Nat.reduceSub, Nat.reduceMul, Int.reduceToNat, Int.reduceLT, Int.reduceLE, Int.reduceEq, ml_i0, ↓smc, sm, wr]
    exact ih (i + 1) Q (by omega) hQ

theorem law7 (us : List V) (h : HasAll [.int .u8, .sl tPair] us) : ∃ m, callw F42 7 us 0 m0 = some (.bool true, m) := by
  obtain ⟨u1, us, rfl, h1, h⟩ := all_cons h
  obtain ⟨u2, us, rfl, h2, h⟩ := all_cons h
  obtain rfl := all_nil h
  obtain ⟨n, rfl, hn⟩ := open_u8 h1
  obtain ⟨l, rfl, hp⟩ := open_pairs h2
  refine ⟨m0, ?_⟩
  refine call_p hasW.h7 rfl ?_
  have ha : ∀ {lo}, callw F42 27 [] lo m0 = some (.bool true, m0) := aw42
  have ln : retV (.len false) [vPrs l] = some (vi l.length) := by unfold vPrs; rw [r_lenro, ml_len]
  by_cases h40 : (40 : Int) < (l.length : Int)
  · simp only [↓sxc, sx, se, ↓reduceIte, Nat.reduceEqDiff, Nat.reduceAdd, Nat.reduceLT, Nat.reduceLeDiff, Nat.reduceSub, Nat.reduceMul, Int.reduceToNat, Int.reduceLT, Int.reduceLE, Int.reduceEq, ml_i0, ↓smc, sm, ha, ln, h40]
  · have hl : l.length < 100000 := by omega
    have c46 : ∀ {lo m}, callw F42 46 [.int .u8 n, vPrs l] lo m = some (.tup [vi (ndK n), vEdges (l.map (ndE (ndK n)))], m) := fun {lo m} => sp46 hasG n l hn hp hl
    have hk := ndK_rng (n := n)
    have h0 := nd_chk hk (l := l)
    have hLl : (l.map (ndE (ndK n))).length < 1000 := by simp; omega
    have c41 : ∀ {lo m}, callw F42 41 [vi (ndK n), vEdges (l.map (ndE (ndK n)))] lo m = some (.tup [ints (levE (ndK n) (l.map (ndE (ndK n)))).1, vi (levE (ndK n) (l.map (ndE (ndK n)))).2], m) := fun {lo m} => sp41 hasG _ _ (by omega)
    have c40 : ∀ {lo m}, callw F42 40 [vi (ndK n), vEdges (l.map (ndE (ndK n)))] lo m = some (.tup [ints (cycE (ndK n) (l.map (ndE (ndK n)))).1, vi (cycE (ndK n) (l.map (ndE (ndK n)))).2], m) := fun {lo m} => sp40 hasA hasG _ _ (by omega)
    generalize l.map (ndE (ndK n)) = L at h0 hLl c46 c41 c40
    generalize ndK n = k at hk h0 c46 c41 c40
    have gr := gr_of h0
    obtain ⟨N, hN⟩ : ∃ N : Nat, k = N := ⟨k.toNat, by omega⟩
    obtain ⟨y1, _, y3⟩ := cyc_ec h0
    by_cases hac : Acyc L
    · obtain ⟨f, hf⟩ := acyc_lev gr hN hac
      have el := levE_ok h0 hN hf
      rw [el] at c41
      have ec : (cycE k L).1 = [] := by
        rcases y3 with ⟨h, _⟩ | ⟨_, h, _⟩
        · exact h
        · have := bestE_none.2 hac
          omega
      rw [ec, y1] at c40
      have hfl : (f.length : Int) = k := by rw [hf.ln, hN]
      simp only [↓sxc, sx, se, ↓reduceIte, Nat.reduceEqDiff, Nat.reduceAdd, Nat.reduceLT, Nat.reduceLeDiff, Nat.reduceSub, Nat.reduceMul, Int.reduceToNat, Int.reduceLT, Int.reduceLE, Int.reduceEq, ml_i0, ↓smc, sm, ha, ln, h40, c46, c41, c40, hfl]
      rw [hN]
      refine w7_2 gr hN hf hLl N 0 _ (by omega) (fun e => ?_)
      simp only [↓sxc, sx, se, ↓reduceIte, Nat.reduceEqDiff, Nat.reduceAdd, Nat.reduceLT, Nat.reduceLeDiff, Nat.reduceSub, Nat.reduceMul, Int.reduceToNat, Int.reduceLT, Int.reduceLE, Int.reduceEq, ml_i0, ↓smc, sm]
    · have el := levE_no h0 hN (fun h => hac ((lev_iff gr hN).1 h))
      rw [el] at c41
      have ec : ¬ ((cycE k L).1.length : Int) = 0 := by
        rcases y3 with ⟨_, h⟩ | ⟨h, _⟩
        · exact absurd (bestE_none.1 h) hac
        · intro hc
          exact h (List.eq_nil_of_length_eq_zero (by omega))
      rw [y1] at c40
      simp only [↓sxc, sx, se, ↓reduceIte, Nat.reduceEqDiff, Nat.reduceAdd, Nat.reduceLT, Nat.reduceLeDiff, Nat.reduceSub, Nat.reduceMul, Int.reduceToNat, Int.reduceLT, Int.reduceLE, Int.reduceEq, ml_i0, ↓smc, sm, ha, ln, h40, c46, c41, c40, ec]

end Go.Am
namespace Go.Proofs.Ytflfnkdhmcfjlaa
open Go Go.Am Go.ChangeShapes Go.WideShapes Go.ChangeAt Go.RowKit
set_option linter.unusedVariables false

theorem own : ownKnob Try.prog.godebug = none := by kernel_rfl
theorem kids : Kids Try.prog (· < Try.prog.types.size) := kids_rows (by kernel_rfl) (by kernel_rfl)
theorem full : ∀ t e, t < Try.prog.types.size → Try.prog.underlying t = some (.slice e) → 0 < Try.prog.cellsOf e := slices_full_of Try.prog (by kernel_rfl)
theorem fit : fitAll Try.prog Try.f7.params.toList [.int .u8, .sl tPair] = true := by kernel_rfl

set_option maxRecDepth 100000 in
theorem lifted (os : Os) (started : os.Started) (H : Type) (enc : TypeId × Value → H) :
    ReturnsInHanded {} Try.checked os 7 .any (Rows.waitgraphLevelsSpec.pre6 enc Try.prog Try.f7 Rows.waitgraphLevelsRow.domain false) (Rows.waitgraphLevelsSpec.post enc Try.prog Try.f7 false true false false) := by
  refine returnsInHanded_of_change (C := Try.checked) own started (by kernel_rfl) Try.func7
    (ChangeSpec.witness6 (enc := enc) (C := Try.checked) false ⟨#[], #[.int .u8 0, .slice none 0 0], []⟩ 12 (by kernel_rfl) (by kernel_rfl) (by kernel_rfl) (by kernel_rfl)) ?_
  intro W base args ds gs before hval0 hW hcnd _
  have hval : ∀ (j : Nat) t v, Try.f7.params[j]? = some t → args[j]? = some v → Value.okWide Try.prog W .any base t v := hval0
  have hW' := hW
  obtain ⟨p, q, hA0, hV, rfl, hfz, hnd⟩ := hW
  have hA : DataW.TrodAll enc Try.prog W 0 (fun _ => true) true Try.f7.params.toList args.toList ds p := hA0
  obtain ⟨rfl, rfl⟩ := trodVars_none hV
  have hspec : Rows.waitgraphLevelsSpec.fn H (ds ++ []) = { results := [.lit (.bool true)], args := ds } := by
    rw [Try.params7] at hA
    obtain ⟨v0, vs0, d0, ds0, p0, q0, _, rfl, _, _, r0⟩ := trodAll_cons hA
    obtain ⟨v1, vs1, d1, ds1, p1, q1, _, rfl, _, _, r1⟩ := trodAll_cons r0
    obtain ⟨_, rfl, _⟩ := trodAll_nil r1
    rfl
  refine (law_calls (P := Try.prog) (F := F42) mixed okAll (by decide) fit (fun us h => law7 us h) hA (fun j t v ht hv => hval j t v (by rw [← Array.getElem?_toList]; exact ht) hv)).mono fun e W' ⟨he, h1, h2, h3⟩ => ?_
  subst he
  exact ⟨_, rfl, kept_post hW' rfl hspec rfl Try.underlying4 kids full (by rw [Try.params7]; decide) h1 h2 h3⟩

theorem reached : Try.prog.closure 7 = [7, 27, 90, 35, 49, 111, 112, 113, 153, 114, 121, 122, 154, 116, 120, 106, 155, 94, 92, 148, 97, 98, 54, 39, 102, 103, 104, 150, 151, 40, 105, 152, 165, 168, 169, 107, 41, 29, 31, 33, 37, 45, 46] := by kernel_rfl
theorem noPlace : Try.prog.inPlace 7 = [] := by unfold Program.inPlace; rw [reached]; kernel_rfl
theorem follows : Try.prog.unfollowed 7 = true := by unfold Program.unfollowed; rw [reached]; kernel_rfl
theorem recurs : Try.prog.recurses 7 = true := by unfold Program.recurses; rw [follows]; rfl
theorem names : Try.prog.varsNamed 7 = [] := by unfold Program.varsNamed; rw [reached]; kernel_rfl
theorem shut : joinedFacts Try.prog 7 Try.f7 Rows.waitgraphLevelsSpec Rows.waitgraphLevelsRow = true :=
  joined 7 Try.f7 Rows.waitgraphLevelsSpec Rows.waitgraphLevelsRow (by kernel_rfl) (by kernel_rfl) (by kernel_rfl) (by kernel_rfl) (by kernel_rfl) noPlace follows recurs names
    (by kernel_rfl) (by kernel_rfl) (by kernel_rfl) (by kernel_rfl) (by kernel_rfl) (by kernel_rfl) (by kernel_rfl) (by kernel_rfl) (by kernel_rfl) rfl rfl rfl rfl (by kernel_rfl) (by kernel_rfl) (by kernel_rfl) (by kernel_rfl)

theorem over : Rows.waitgraphLevelsRow.holds Try.pinned (OpenSpec.ofChange Rows.waitgraphLevelsSpec) :=
  OpenClaim.holds_of_wide 7 Try.f7 rfl rfl rfl rfl rfl rfl rfl ⟨rfl, rfl, rfl, rfl, rfl⟩ rfl rfl rfl rfl rfl (by kernel_rfl) Try.func7 shut
    (of_decide_eq_true (by kernel_rfl)) (by unfold Func.isWrapper; first | (rw [if_pos (by decide +kernel)]; kernel_rfl) | (rw [if_neg (by decide +kernel)]; exact ⟨rfl, rfl⟩))
    (fun os started H enc _ => lifted os started H enc)

/-- The statement. -/
theorem waitgraphLevels_holds : Rows.WaitgraphLevelsSaid := over
end Go.Proofs.Ytflfnkdhmcfjlaa
