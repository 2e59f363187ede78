/- The walk over a function's code. -/
import Derived.Test.YtflfnkdhmcfjlaaReh
import Derived.LoopN
namespace Go.Am
open Go

noncomputable def okCode (P : Program) (A B nt : Nat) (pure : Bool) (pf : Nat → Bool) : AC → Code → Bool
  | .skip, .skip => true
  | .dead, _ => true
  | .reg ops _ _, .region _ os false => okOps P A B nt pure os ops os.toList
  | .dreg ops ps _ _, .region _ os true => okOps P A B nt pure os ops os.toList && okDreg pf ops ps os.toList
  | .seq a b, .seq a' b' => okCode P A B nt pure pf a a' && okCode P A B nt pure pf b b'
  | .cond c a b, .cond c' a' b' => okO c c' && c.isV && okCode P A B nt pure pf a a' && okCode P A B nt pure pf b b'
  | .block i b, .block i' b' => Nat.beq i i' && okCode P A B nt pure pf b b'
  | .loop _ _ b, .loop b' => okCode P A B nt pure pf b b'
  | .exit i, .exit i' => Nat.beq i i'
  | .ret, .ret => true
  | _, _ => false

def Ex.to : Ex → Exit
  | .nrm => .normal
  | .exit i => .exit i
  | .ret => .ret

section
variable {P : Program} {ck : Callk} {pf : Nat → Bool} {fr : Fr} {g0 : Gh} {mem0 : Mem} {A B nt : Nat} {pure : Bool} {N : Nat}

theorem dreg_sound (hm : P.follows .mixedOrders = true) (hck : CkOk P src ck) (hcd : ∀ f args lo m r, ck f args lo m = some r → callable P (src f) = true) (hpc : PureCk ck pf) (hA : fr.AS = bits A nt) (hB : fr.BS = bits B nt) (hn : fr.nt = nt) (hS0 : pure = true → ∀ b, ¬ fr.S0 b) {Q : Exit → Act → World → Prop}
    {ps : List Op} {qs : List (Nat × Nat)} {os : Array Oper} {id : Nat} {g : Gh} {st st' : St} {a : Act} {w : World} {ks : List (List Key)} (hok : okOps P A B nt pure os ps os.toList = true) (hok2 : okDreg pf ps qs os.toList = true) (i : Inv fr g0 mem0 g st a w)
    (hr : runOpsD ck fr.lo st.mem.next 0 ps { st with mem := st.mem.bump ps.length } = some (st', ks)) (hps : pairsOk ks qs = true) (hQ : ∀ g' a' w', Inv fr g0 mem0 g' st' a' w' → Q .normal a' w') : (Code.region id os true).wp P Q a w := by
  unfold okDreg at hok2
  simp only [Bool.and_eq_true] at hok2
  obtain ⟨⟨hop, hback⟩, hpairs⟩ := hok2
  have hopen : ∀ o ∈ ps, o.k.opens pf = true := fun o ho => List.all_eq_true.1 hop o ho
  obtain ⟨L, h1, h2, h3, h4⟩ := annot hpc ps 0 hr hopen
  have hlen : L.length = ps.length := by rw [← h1]; simp
  have hlo := okOps_get hok
  have hsz : ps.length = os.size := by simpa using hlo.1
  have hidx : ∀ (k : Nat) (x : Ann), L[k]? = some x → x.i = k := by
    intro k x hx
    have : (L.map (·.i))[k]? = some x.i := by rw [List.getElem?_map, hx]; rfl
    rw [h2] at this
    have hk : k < ps.length := by
      rcases Nat.lt_or_ge k L.length with h | h
      · omega
      · rw [List.getElem?_eq_none h] at hx; cases hx
    rw [List.getElem?_range' hk] at this
    simp at this
    exact this.symm
  have hi0 : Inv fr g0 mem0 g { st with mem := st.mem.bump ps.length } a w.drew := by
    have s1 := (i.sim.quiet (.drew g w)).bump ps.length
    exact ⟨s1, fun k hk => i.fresh k (by have : st.mem.next + ps.length ≤ k := hk; omega), Nat.le_trans i.lo (Nat.le_add_right _ _), i.le, Nat.le_trans i.next (Nat.le_add_right _ _), i.blk, i.φ, i.I⟩
  refine wp_region_any hm ?_
  have hw : ({ w with drawn := w.drawn + 1 } : World) = w.drew := rfl
  rw [hw]
  refine dreg_any (L := L) (base := st.mem.next) (s0 := { st with mem := st.mem.bump ps.length }) hck hcd hpc hA hB hn hS0 (by rw [h1]; exact hok) (by rw [h2, hlen]) (fun x hx => hopen _ (by rw [← h1]; exact List.mem_map.2 ⟨x, hx, rfl⟩)) hback ?_ h3 ?_ i.next hQ os.size (Array.replicate os.size false) (by simp) ?_ ?_ ?_ hi0 ?_
  · intro S hS
    refine List.pairwise_iff_getElem.2 fun m n hm hn hmn hSm hSn => ?_
    have hxm := List.getElem?_eq_getElem hm
    have hxn := List.getElem?_eq_getElem hn
    have em := hidx m _ hxm
    have en := hidx n _ hxn
    have om : ps[m]? = some L[m].o := by rw [← h1, List.getElem?_map, hxm]; rfl
    have on : ps[n]? = some L[n].o := by rw [← h1, List.getElem?_map, hxn]; rfl
    have hml : (masksGo os.toList []).length = os.toList.length := by rw [masksGo_length]; simp
    have hkm : (masksGo os.toList [])[m]? = some ((masksGo os.toList [])[m]'(by simp at hml ⊢; omega)) := List.getElem?_eq_getElem _
    have hkn : (masksGo os.toList [])[n]? = some ((masksGo os.toList [])[n]'(by simp at hml ⊢; omega)) := List.getElem?_eq_getElem _
    have zm := zip3_get 0 ps _ m _ _ om hkm
    have zn := zip3_get 0 ps _ n _ _ on hkn
    rw [Nat.zero_add] at zm zn
    rw [em] at hSm
    rw [en] at hSn
    rcases okPairsB_spec hpairs m n _ _ hmn zm zn with h | h
    · have := masks_spec hS os.toList [] (fun k => by simp) (fun j m hj => by simp at hj) n _ hkn hSn m h
      rw [hSm] at this
      cases this
    · obtain ⟨k1, hk1, ok1⟩ := h4 m _ hxm
      obtain ⟨k2, hk2, ok2⟩ := h4 n _ hxn
      exact can_of ok1 ok2 h (fun hd => pairsOk_spec hps m n hd k1 k2 hk1 hk2)
  · intro x hx
    obtain ⟨k, hk, rfl⟩ := List.getElem_of_mem hx
    rw [hidx k _ (List.getElem?_eq_getElem hk)]
    exact ⟨(i.fresh _ (Nat.le_add_right _ _)).1, by show st.mem.next + k < st.mem.next + ps.length; omega⟩
  · intro j o hj hSj
    have hlt : j < os.size := by
      rcases Nat.lt_or_ge j os.toList.length with h | h
      · simpa using h
      · rw [List.getElem?_eq_none h] at hj; cases hj
    unfold lst at hSj
    simp [Array.getD, hlt] at hSj
  · unfold left
    exact Nat.le_trans (List.length_filter_le _ _) (by simp)
  · have : L.filter (fun x => lst (Array.replicate os.size false) x.i) = [] := by
      refine List.filter_eq_nil_iff.2 fun x hx => ?_
      unfold lst
      simp only [Array.getD]
      split <;> simp
    rw [this]
    rfl
  · intro k _ _
    exact (i.fresh _ (Nat.le_add_right _ _)).2

theorem run_sound (hm : P.follows .mixedOrders = true) (hck : CkOk P src ck) (hcd : ∀ f args lo m r, ck f args lo m = some r → callable P (src f) = true) (hpc : PureCk ck pf) (hA : fr.AS = bits A nt) (hB : fr.BS = bits B nt) (hn : fr.nt = nt) (hS0 : pure = true → ∀ b, ¬ fr.S0 b) :
    ∀ (c : AC) (k : Code) {g : Gh} {st st' : St} {a : Act} {w : World} {ex : Ex} {Q : Exit → Act → World → Prop}, okCode P A B nt pure pf c k = true → Inv fr g0 mem0 g st a w → run ck N fr.lo c st = some (ex, st') → (∀ g' a' w', Inv fr g0 mem0 g' st' a' w' → Q ex.to a' w') → k.wp P Q a w := by
  intro c
  induction c with
  | skip =>
    intro k g st st' a w ex Q hok i hr hQ
    cases k <;> first | (cases hok; done) | skip
    cases hr
    exact wp_skip (hQ g a w i)
  | dead =>
    intro k g st st' a w ex Q hok i hr hQ
    cases hr
  | reg ops lv lb =>
    intro k g st st' a w ex Q hok i hr hQ
    cases k <;> first | (cases hok; done) | skip
    rename_i id os draw
    cases draw with
    | true => cases hok
    | false =>
      have hr' : (match runOps ck fr.lo ops st with
        | none => none
        | some st' => some (Ex.nrm, st'.cut lv lb)) = some (ex, st') := hr
      split at hr'
      · cases hr'
      · rename_i st1 h1
        cases hr'
        exact wp_region_list (ops_sound hck hcd hA hB hn hS0 ops os.toList hok i h1 (fun g' a' w' i' => hQ g' a' w' (i'.cut lv lb)))
  | dreg ops ps lv lb =>
    intro k g st st' a w ex Q hok i hr hQ
    cases k <;> first | (cases hok; done) | skip
    rename_i id os draw
    cases draw with
    | false => cases hok
    | true =>
      have hok' : (okOps P A B nt pure os ops os.toList && okDreg pf ops ps os.toList) = true := hok
      rw [Bool.and_eq_true] at hok'
      have hr' : (match runOpsD ck fr.lo st.mem.next 0 ops { st with mem := st.mem.bump ops.length } with
        | none => none
        | some (st', ks) => if pairsOk ks ps then some (Ex.nrm, st'.cut lv lb) else none) = some (ex, st') := hr
      split at hr'
      · cases hr'
      · rename_i st1 ks h1
        split at hr'
        · rename_i hps
          cases hr'
          exact dreg_sound hm hck hcd hpc hA hB hn hS0 hok'.1 hok'.2 i h1 hps (fun g' a' w' i' => hQ g' a' w' (i'.cut lv lb))
        · cases hr'
  | seq x y ihx ihy =>
    intro k g st st' a w ex Q hok i hr hQ
    cases k <;> first | (cases hok; done) | skip
    rename_i x' y'
    have hok' : (okCode P A B nt pure pf x x' && okCode P A B nt pure pf y y') = true := hok
    rw [Bool.and_eq_true] at hok'
    have hr' : (match run ck N fr.lo x st with
      | none => none
      | some (.nrm, st') => run ck N fr.lo y st'
      | some (.exit i, st') => some (.exit i, st')
      | some (.ret, st') => some (.ret, st')) = some (ex, st') := hr
    refine wp_seq ?_
    split at hr'
    · cases hr'
    · rename_i st1 h1
      exact ihx x' hok'.1 i h1 (fun g' a' w' i' => ihy y' hok'.2 i' hr' hQ)
    · rename_i h1
      cases hr'
      exact ihx x' hok'.1 i h1 hQ
    · rename_i h1
      cases hr'
      exact ihx x' hok'.1 i h1 hQ
  | cond c x y ihx ihy =>
    intro k g st st' a w ex Q hok i hr hQ
    cases k <;> first | (cases hok; done) | skip
    rename_i c' x' y'
    have hok' : (okO c c' && c.isV && okCode P A B nt pure pf x x' && okCode P A B nt pure pf y y') = true := hok
    simp only [Bool.and_eq_true] at hok'
    obtain ⟨⟨⟨o1, o2⟩, o3⟩, o4⟩ := hok'
    have hr' : (match getO st c with
      | some (.bool c) => cond c (run ck N fr.lo x st) (run ck N fr.lo y st)
      | _ => none) = some (ex, st') := hr
    split at hr'
    · rename_i b hb
      have hc := (getO_val i.sim o2 o1 hb).bool_inv
      refine wp_cond hc ?_
      cases b with
      | true => exact ihx x' o3 i hr' hQ
      | false => exact ihy y' o4 i hr' hQ
    · cases hr'
  | block id b ih =>
    intro k g st st' a w ex Q hok i hr hQ
    cases k <;> first | (cases hok; done) | skip
    rename_i id' b'
    have hok' : (Nat.beq id id' && okCode P A B nt pure pf b b') = true := hok
    rw [Bool.and_eq_true] at hok'
    have e := Nat.eq_of_beq_eq_true hok'.1
    subst e
    have hr' : (match run ck N fr.lo b st with
      | none => none
      | some (.nrm, st') => some (.nrm, st')
      | some (.exit i, st') => if i = id then some (.nrm, st') else some (.exit i, st')
      | some (.ret, st') => some (.ret, st')) = some (ex, st') := hr
    refine wp_block ?_
    split at hr'
    · cases hr'
    · rename_i h1
      cases hr'
      exact ih b' hok'.2 i h1 hQ
    · rename_i j st1 h1
      refine ih b' hok'.2 i h1 (fun g' a' w' i' => ?_)
      show (if j = id then Q .normal a' w' else Q (.exit j) a' w')
      split at hr'
      · rename_i e; cases hr'; rw [if_pos e]; exact hQ g' a' w' i'
      · rename_i e; cases hr'; rw [if_neg e]; exact hQ g' a' w' i'
    · rename_i h1
      cases hr'
      exact ih b' hok'.2 i h1 hQ
  | loop lv lb b ih =>
    intro k g st st' a w ex Q hok i hr hQ
    cases k <;> first | (cases hok; done) | skip
    rename_i b'
    have hok' : okCode P A B nt pure pf b b' = true := hok
    have hr' : iter (fun st => run ck N fr.lo b (st.cut lv lb)) N st = some (ex, st') := hr
    have key : ∀ (n : Nat) {g : Gh} {st : St} {a : Act} {w : World}, Inv fr g0 mem0 g st a w → iter (fun st => run ck N fr.lo b (st.cut lv lb)) n st = some (ex, st') → Code.rounds P b' Q n a w := by
      intro n
      induction n with
      | zero => intro g st a w _ h; cases h
      | succ n ihn =>
        intro g st a w i h
        have h' : (match run ck N fr.lo b (st.cut lv lb) with
          | none => none
          | some (.nrm, st') => iter (fun st => run ck N fr.lo b (st.cut lv lb)) n st'
          | some (.exit i, st') => some (.exit i, st')
          | some (.ret, st') => some (.ret, st')) = some (ex, st') := h
        rw [rounds_succ]
        split at h'
        · cases h'
        · rename_i h1
          exact ih b' hok' (i.cut lv lb) h1 (fun g' a' w' i' => ihn i' h')
        · rename_i h1
          cases h'
          exact ih b' hok' (i.cut lv lb) h1 hQ
        · rename_i h1
          cases h'
          exact ih b' hok' (i.cut lv lb) h1 hQ
    exact wp_loop_rounds N (key N i hr')
  | exit j =>
    intro k g st st' a w ex Q hok i hr hQ
    cases k <;> first | (cases hok; done) | skip
    rename_i j'
    have e := Nat.eq_of_beq_eq_true (show Nat.beq j j' = true from hok)
    subst e
    cases hr
    exact wp_exit (hQ g a w i)
  | ret =>
    intro k g st st' a w ex Q hok i hr hQ
    cases k <;> first | (cases hok; done) | skip
    cases hr
    exact wp_ret (hQ g a w i)
end
end Go.Am
