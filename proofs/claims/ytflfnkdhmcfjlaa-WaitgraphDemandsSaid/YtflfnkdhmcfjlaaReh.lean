/- Regions whose order is open: the walk over all orders. -/
import Derived.Test.YtflfnkdhmcfjlaaReg
import Derived.Orders
namespace Go.Am
open Go

section
variable {P : Program} {ck : Callk} {pf : Nat → Bool} {fr : Fr} {g0 : Gh} {mem0 : Mem} {A B nt : Nat} {pure : Bool} {ops : Array Oper} {base : Nat}

/-- The part that has come up, as a function. -/
def lst (listed : Array Bool) (k : Nat) : Bool := listed.getD k false

theorem okOps_get : ∀ {ps : List Op} {os : List Oper}, okOps P A B nt pure ops ps os = true → ps.length = os.length ∧ ∀ (k : Nat) (p : Op) (o : Oper), ps[k]? = some p → os[k]? = some o → okOper P A B nt pure ops p o = true
  | [], [], _ => ⟨rfl, by simp⟩
  | p :: ps, o :: os, h => by
    simp only [okOps, Bool.and_eq_true] at h
    obtain ⟨h1, h2⟩ := okOps_get h.2
    refine ⟨by simp [h1], fun k p' o' hp ho => ?_⟩
    cases k with
    | zero => simp at hp ho; subst hp ho; exact h.1
    | succ k => exact h2 k p' o' (by simpa using hp) (by simpa using ho)
  | [], _ :: _, h => by cases h
  | _ :: _, [], h => by cases h

theorem mem_ready {md : Region.Mode} {listed : Array Bool} {i : Nat} : i ∈ Region.ready md ops listed ↔ i < ops.size ∧ listed.getD i true = false ∧ ∃ o, ops[i]? = some o ∧ ∀ e ∈ o.after, Region.binds md e = true → listed.getD e.on false = true := by
  unfold Region.ready
  rw [List.mem_filter, List.mem_range]
  constructor
  · rintro ⟨h1, h2⟩
    simp only [Bool.and_eq_true, Bool.not_eq_true'] at h2
    obtain ⟨h2, h3⟩ := h2
    have ho : ops[i]? = some ops[i] := by simp [h1]
    refine ⟨h1, h2, ops[i], ho, fun e he hb => ?_⟩
    rw [ho] at h3
    simp only [Option.map_some, Option.getD_some] at h3
    have := (Array.all_eq_true'.1 h3) e he
    rw [hb] at this
    simpa using this
  · rintro ⟨h1, h2, o, ho, h3⟩
    refine ⟨h1, ?_⟩
    simp only [Bool.and_eq_true, Bool.not_eq_true']
    refine ⟨h2, ?_⟩
    rw [ho]
    simp only [Option.map_some, Option.getD_some]
    refine Array.all_eq_true'.2 fun e he => ?_
    cases hb : Region.binds md e with
    | false => rfl
    | true => simp [h3 e he hb]

theorem getD_of_size {listed : Array Bool} {i : Nat} (h : i < listed.size) (b : Bool) : listed.getD i b = lst listed i := by
  unfold lst
  simp [Array.getD, h]

theorem lst_set {listed : Array Bool} {i : Nat} (h : i < listed.size) (k : Nat) : lst (listed.setIfInBounds i true) k = (lst listed k || k == i) := by
  unfold lst
  rw [Array.getD_eq_getD_getElem?, Array.getD_eq_getD_getElem?, Array.getElem?_setIfInBounds]
  by_cases e : i = k
  · subst e
    simp [h]
  · have : (k == i) = false := beq_eq_false_iff_ne.2 (Ne.symm e)
    rw [if_neg e, this, Bool.or_false]

/-- How many have not come up. -/
def left (n : Nat) (S : Nat → Bool) : Nat := ((List.range n).filter fun k => !S k).length

theorem left_lt {n : Nat} {S : Nat → Bool} {i : Nat} (hi : i < n) (hS : S i = false) : left n (fun k => S k || k == i) < left n S := by
  unfold left
  have : (List.range n).filter (fun k => !(S k || k == i)) = ((List.range n).filter fun k => !S k).filter fun k => !(k == i) := by
    rw [List.filter_filter]
    refine List.filter_congr fun k _ => ?_
    cases S k <;> cases k == i <;> rfl
  rw [this]
  refine List.length_filter_lt_length_iff_exists.2 ⟨i, List.mem_filter.2 ⟨List.mem_range.2 hi, by simp [hS]⟩, by simp⟩

theorem left_zero {n : Nat} {S : Nat → Bool} (h : left n S = 0) : ∀ k, k < n → S k = true := by
  intro k hk
  cases hS : S k with
  | true => rfl
  | false =>
    have : k ∈ (List.range n).filter fun k => !S k := List.mem_filter.2 ⟨List.mem_range.2 hk, by simp [hS]⟩
    unfold left at h
    rw [List.length_eq_zero_iff.1 h] at this
    cases this

theorem all_of_ready {listed : Array Bool} (hsz : listed.size = ops.size) (hback : edgesBack 0 ops.toList = true) (hr : Region.ready .any ops listed = []) : ∀ k, k < ops.size → lst listed k = true := by
  intro k
  induction k using Nat.strongRecOn with
  | _ k ih =>
    intro hk
    cases hl : lst listed k with
    | true => rfl
    | false =>
      have : k ∈ Region.ready .any ops listed := by
        refine mem_ready.2 ⟨hk, by rw [getD_of_size (by omega)]; exact hl, ops[k], by simp [hk], fun e he hb => ?_⟩
        have := edgesBack_spec hback k ops[k] (by simp [hk]) e he hb
        exact ih e.on (by omega) (by omega)
      rw [hr] at this
      cases this

theorem dreg_any (hck : CkOk P src ck) (hcd : ∀ f args lo m r, ck f args lo m = some r → callable P (src f) = true) (hpc : PureCk ck pf) (hA : fr.AS = bits A nt) (hB : fr.BS = bits B nt) (hn : fr.nt = nt) (hS0 : pure = true → ∀ b, ¬ fr.S0 b) {Q : Exit → Act → World → Prop}
    {L : List Ann} (hLo : okOps P A B nt pure ops (L.map (·.o)) ops.toList = true) (hLi : L.map (·.i) = List.range' 0 L.length) (hopen : ∀ x ∈ L, x.o.k.opens pf = true) (hback : edgesBack 0 ops.toList = true)
    (hcan : ∀ S, Closed ops.toList S → L.Pairwise (fun x y => S x.i = false → S y.i = true → CanA base x y)) {s0 sN : St} (hfull : Runs ck fr.lo base L s0 sN) (hf0 : ∀ x ∈ L, Free base s0 x.i) (hbm : mem0.next ≤ base)
    (hQ : ∀ g a w, Inv fr g0 mem0 g sN a w → Q .normal a w) :
    ∀ (fuel : Nat) (listed : Array Bool) {g : Gh} {t : St} {a : Act} {w : World}, listed.size = ops.size → Closed ops.toList (lst listed) → left ops.size (lst listed) ≤ fuel → Runs ck fr.lo base (L.filter fun x => lst listed x.i) s0 t → Inv fr g0 mem0 g t a w →
      (∀ k, k < ops.size → lst listed k = false → g.φ (base + k) = none) → wpAny P .any ops Q fuel listed a w := by
  have hlen : L.length = ops.size := by
    have := (okOps_get hLo).1
    simpa using this
  have hidx : ∀ (k : Nat) (x : Ann), L[k]? = some x → x.i = k := by
    intro k x hx
    have : (L.map (·.i))[k]? = some x.i := by rw [List.getElem?_map, hx]; rfl
    rw [hLi] at this
    have hk : k < L.length := by
      rcases Nat.lt_or_ge k L.length with h | h
      · exact h
      · rw [List.getElem?_eq_none h] at hx; cases hx
    rw [List.getElem?_range' hk] at this
    simp at this
    exact this.symm
  have hnd : (L.map (·.i)).Nodup := by rw [hLi]; exact List.nodup_range'
  have fin : ∀ {listed : Array Bool} {g : Gh} {t : St} {a : Act} {w : World}, (∀ k, k < ops.size → lst listed k = true) → Runs ck fr.lo base (L.filter fun x => lst listed x.i) s0 t → Inv fr g0 mem0 g t a w → Q .normal a w := by
    intro listed g t a w hall hr i
    have : L.filter (fun x => lst listed x.i) = L := by
      refine List.filter_eq_self.2 fun x hx => ?_
      obtain ⟨k, hk, rfl⟩ := List.getElem_of_mem hx
      have := hidx k _ (List.getElem?_eq_getElem hk)
      rw [this]
      exact hall k (by omega)
    rw [this] at hr
    have := Runs.det hr hfull
    subst this
    exact hQ g a w i
  intro fuel
  induction fuel with
  | zero =>
    intro listed g t a w hsz hcl hle hr i _
    have hall := left_zero (Nat.le_zero.1 hle)
    refine ⟨?_, fin hall hr i⟩
    apply List.eq_nil_iff_forall_not_mem.2
    intro k hk
    obtain ⟨h1, h2, _⟩ := mem_ready.1 hk
    rw [getD_of_size (by omega), hall k h1] at h2
    cases h2
  | succ fuel ih =>
    intro listed g t a w hsz hcl hle hr i hφ
    refine ⟨fun hr0 => fin (all_of_ready hsz hback hr0) hr i, fun n hn0 => ?_⟩
    obtain ⟨h1, h2, o, ho, hedges⟩ := mem_ready.1 hn0
    rw [getD_of_size (by omega)] at h2
    have hS' : ∀ k, lst (listed.setIfInBounds n true) k = (lst listed k || k == n) := lst_set (by omega)
    have hcl' : Closed ops.toList (lst (listed.setIfInBounds n true)) := by
      intro j oj hj hSj e he hb
      rw [hS'] at hSj ⊢
      simp only [Bool.or_eq_true, beq_iff_eq] at hSj ⊢
      rcases hSj with h | rfl
      · exact .inl (hcl j oj hj h e he hb)
      · have : oj = o := by rw [Array.getElem?_toList, ho] at hj; exact (Option.some.inj hj).symm
        subst this
        exact .inl (hedges e he hb)
    -- the operation in the list
    have hnL : n < L.length := by omega
    have hx : L[n]? = some L[n] := List.getElem?_eq_getElem hnL
    have hxi := hidx n _ hx
    obtain ⟨u, hu⟩ := runs_filter hpc (lst (listed.setIfInBounds n true)) L hfull hopen (hcan _ hcl') hf0 hnd
    have hsplit : L = L.take n ++ L[n] :: L.drop (n + 1) := by
      have h1 : L.drop n = L[n] :: L.drop (n + 1) := (List.getElem_cons_drop hnL).symm
      rw [← h1, List.take_append_drop]
    have hone : ∃ t', pre t L[n].o = some L[n].q ∧ Does ck fr.lo (base + L[n].i) t L[n].o L[n].r ∧ t' = t.app L[n].o.d L[n].r ∧ Eqv t' u := by
      have hu' : Runs ck fr.lo base (L.filter fun y => lst listed y.i || y.i == L[n].i) s0 u := by
        have : (fun x : Ann => lst (listed.setIfInBounds n true) x.i) = fun y : Ann => lst listed y.i || y.i == L[n].i := by
          funext y
          rw [hS', hxi]
        rw [this] at hu
        exact hu
      generalize hxx : L[n] = x at *
      rw [hsplit] at hopen hf0 hnd hr hu'
      have hp := hcan _ hcl
      rw [hsplit] at hp
      exact one_more hpc hopen hp hf0 hnd (by rw [hxi]; exact h2) hr hu'
    obtain ⟨t', hpre, hdoes, rfl, heq⟩ := hone
    have hfree : Free base t n := by
      have := hr.free (hf0 _ (List.getElem_mem hnL)) (fun y hy e => by
        have hy2 := (List.mem_filter.1 hy).2
        rw [e, hxi, h2] at hy2
        cases hy2)
      rw [hxi] at this
      exact this
    have hokop : okOper P A B nt pure ops L[n].o o = true := (okOps_get hLo).2 n _ o (by rw [List.getElem?_map, hx]; rfl) (by rw [Array.getElem?_toList]; exact ho)
    rw [hxi] at hdoes
    unfold wpOp
    rw [ho]
    simp only
    have key := step_sound (next := wpAny P .any ops Q fuel (listed.setIfInBounds n true)) (Q := Q) hck hcd hA hB hn hS0 i (h := base + n) ⟨hfree.1, hφ n h1 h2⟩ (by omega) hokop hdoes.step (fun g' a' w' q => by
      have hlt : base + n < (t.app L[n].o.d L[n].r).mem.next := by rw [next_app]; exact hfree.2
      refine ih (listed.setIfInBounds n true) (by simpa using hsz) hcl' ?_ hu ((q.inv (fun _ => hlt)).eqv heq) (fun k hk hSk => ?_)
      · have : (lst (listed.setIfInBounds n true)) = fun k => lst listed k || k == n := funext hS'
        rw [this]
        have := left_lt (S := lst listed) h1 h2
        omega
      · rw [hS'] at hSk
        simp only [Bool.or_eq_false_iff, beq_eq_false_iff_ne] at hSk
        have hfk : Free base t k := by
          have hkL : k < L.length := by omega
          have hki := hidx k _ (List.getElem?_eq_getElem hkL)
          have := hr.free (hf0 _ (List.getElem_mem hkL)) (fun y hy e => by
            have hy2 := (List.mem_filter.1 hy).2
            rw [e, hki, hSk.1] at hy2
            cases hy2)
          rw [hki] at this
          exact this
        exact q.after.φ (base + k) (by omega) hfk.2 (hφ k hk hSk.1))
    split
    · rename_i hw; rw [if_pos hw] at key; exact .inl key
    · rename_i hw; rw [if_neg hw] at key; exact key
end
end Go.Am
