/- The abstract machine's calls are the model's. -/
import Derived.Test.YtflfnkdhmcfjlaaExt
import Derived.Laws.Sem
namespace Go.Am
open Go

def okRes (P : Program) : List Res → List ResultVar → Bool
  | [], [] => true
  | .t i :: rs, .tmp t :: ts => Nat.beq i t && okRes P rs ts
  | .c i agg sz :: rs, .cell a T :: ts => Nat.beq i a && (decide (aggOf P T = some agg) && (!agg || decide (szOf P T = some sz))) && okRes P rs ts
  | _, _ => false

def resOne (tmps : Array Value) : ResultVar → Sem Value
  | .tmp t => pure (tmps.getD t undef)
  | .cell a t => do loadVar t (← asAddr (tmps.getD a undef))

theorem results_list (fn : Func) (tmps : Array Value) : results fn tmps = (do
    let vs ← fn.results.toList.mapM (resOne tmps)
    pure (if h : vs.toArray.size = 1 then vs.toArray[0] else .tuple vs.toArray)) := by
  unfold results
  have e : (fun r : ResultVar => (match r with
      | .tmp t => pure (tmps.getD t undef)
      | .cell a t => do loadVar t (← asAddr (tmps.getD a undef)) : Sem Value)) = resOne tmps := by
    funext r
    cases r <;> rfl
  rw [Array.mapM_eq_mapM_toList, bind_map_left]
  congr 1

section
variable {P : Program} {fr : Fr} {g : Gh} {st : St} {a : Act} {w : World}

theorem getR_sound (s : Sim fr g st a w) {r : Res} {t : ResultVar} {v : V} (hok : okRes P [r] [t] = true) (h : getR st r = some v) : ∃ x, (resOne a.tmps t).run P w = .ok x w ∧ Img g w v x := by
  cases r with
  | t i =>
    cases t with
    | tmp t =>
      simp only [okRes, Bool.and_true] at hok
      have e := Nat.eq_of_beq_eq_true hok
      subst e
      obtain ⟨_, _, x, h1, h2⟩ := s.env i v h
      refine ⟨x, ?_, h2⟩
      simp [resOne, Array.getD_eq_getD_getElem?, h1]
    | cell _ _ => simp [okRes] at hok
  | c i agg sz =>
    cases t with
    | tmp t => simp [okRes] at hok
    | cell c T =>
      simp only [okRes, Bool.and_true, Bool.and_eq_true, decide_eq_true_eq, Bool.or_eq_true, Bool.not_eq_true'] at hok
      obtain ⟨h1, h2, h3⟩ := hok
      have e := Nat.eq_of_beq_eq_true h1
      subst e
      simp only [getR] at h
      split at h
      · rename_i el hel
        obtain ⟨_, b, ht, hbox⟩ := s.bx i el hel
        obtain ⟨cs, T0, hb, _, hc⟩ := hbox.cells
        have hE : ElemAt g w b 0 el := fun j c hj => by
          obtain ⟨y, p1, p2, p3⟩ := hc j c hj
          exact ⟨y, by rw [cell_of_row w b _ cs T0 (0, 0) hb, Nat.zero_add]; exact p1, p2, p3⟩
        have hs : agg = true → szOf P T = some sz := fun e => by
          rcases h3 with h | h
          · rw [e] at h; cases h
          · exact h
        obtain ⟨y, e3, e4⟩ := load_elem (P := P) hE h2 hs h
        rw [Nat.zero_add] at e3
        refine ⟨y, ?_, e4⟩
        simp [resOne, Array.getD_eq_getD_getElem?, ht, asAddr, e3]
      · cases h

theorem getRes_sound (s : Sim fr g st a w) : ∀ {rs : List Res} {ts : List ResultVar} {vs : List V}, okRes P rs ts = true → getRes st rs = some vs →
    ∃ xs : List Value, (ts.mapM (resOne a.tmps)).run P w = .ok xs w ∧ vs.length = xs.length ∧ ∀ (i : Nat) (c : V) (x : Value), vs[i]? = some c → xs[i]? = some x → Img g w c x
  | [], [], vs, _, h => by
    cases h
    exact ⟨[], by simp, rfl, fun i c x h => by simp at h⟩
  | r :: rs, t :: ts, vs, hok, h => by
    have hok1 : okRes P [r] [t] = true ∧ okRes P rs ts = true := by
      cases r <;> cases t <;> simp only [okRes, Bool.and_true, Bool.and_eq_true] at hok ⊢
      · exact hok
      · cases hok
      · cases hok
      · exact hok
    simp only [getRes] at h
    split at h
    · cases h
    · rename_i v hv
      split at h
      · cases h
      · rename_i us hu
        cases h
        obtain ⟨x, h1, h2⟩ := getR_sound s hok1.1 hv
        obtain ⟨xs, h3, h4, h5⟩ := getRes_sound s hok1.2 hu
        refine ⟨x :: xs, by simp [List.mapM_cons, h1, h3], by simp [h4], fun i c y hc hy => ?_⟩
        cases i with
        | zero => simp at hc hy; subst hc hy; exact h2
        | succ i => exact h5 i c y (by simpa using hc) (by simpa using hy)
  | [], _ :: _, _, h, _ => by cases h
  | r :: rs, [], _, h, _ => by cases r <;> cases h

theorem res_sound (s : Sim fr g st a w) {fn : Func} {rs : List Res} {vs : List V} (hok : okRes P rs fn.results.toList = true) (h : getRes st rs = some vs) :
    ∃ x, (results fn a.tmps).run P w = .ok x w ∧ Img g w (resV vs) x := by
  obtain ⟨xs, h1, h2, h3⟩ := getRes_sound s hok h
  match vs, xs, h2 with
  | [], [], _ => exact ⟨.tuple #[], by rw [results_list]; simp [h1], .tup [] [] rfl (fun i c v h => by simp at h)⟩
  | [v], [x], _ => exact ⟨x, by rw [results_list]; simp [h1], h3 0 v x rfl rfl⟩
  | v :: v' :: vs, x :: x' :: xs, h2 =>
    exact ⟨.tuple (x :: x' :: xs).toArray, by rw [results_list]; simp [h1], .tup _ _ h2 h3⟩
end

noncomputable def okFn (P : Program) (pf : Nat → Bool) (fn : Fn) (f : Nat) : Bool :=
  callable P f && (match P.funcs[f]? with
  | none => false
  | some gf => match gf.body with
    | none => false
    | some code => Nat.ble fn.np gf.ntmps && Nat.beq (Nat.land fn.am fn.bm) 0 && Nat.beq (fn.am % 2 ^ fn.np) 0 && Nat.beq (fn.bm % 2 ^ fn.np) 0 && okRes P fn.res gf.results.toList && okCode P fn.am fn.bm gf.ntmps fn.pure pf fn.body code)

theorem initEnv_get : ∀ (vs : List V) (i : Nat) {t : Nat} {v : V}, (initEnv i vs).get t = some v → i ≤ t ∧ vs[t - i]? = some v
  | [], i, t, v, h => by cases h
  | u :: vs, i, t, v, h => by
    have h' : Env.get ((i, u) :: initEnv (i + 1) vs) t = some v := h
    rw [Env.get_cons] at h'
    split at h'
    · rename_i e; subst e; cases h'; exact ⟨Nat.le_refl _, by simp⟩
    · rename_i e
      obtain ⟨h1, h2⟩ := initEnv_get vs (i + 1) h'
      refine ⟨by omega, ?_⟩
      have : t - i = t - (i + 1) + 1 := by omega
      rw [this]
      simpa using h2

theorem low_zero {m np t : Nat} (h : m % 2 ^ np = 0) (ht : t < np) : m.testBit t = false := by
  have := Nat.testBit_mod_two_pow m np t
  rw [h] at this
  simpa [ht] using this.symm

theorem call_callable {P : Program} {F : Nat → Option Fn} (hF : ∀ f fn, F f = some fn → okFn P (pfOf F) fn (src f) = true) : ∀ k, ∀ f args lo m r, call F k f args lo m = some r → callable P (src f) = true
  | 0, f, args, lo, m, r, h => by cases h
  | k + 1, f, args, lo, m, r, h => by
    rw [call_succ] at h
    cases hf : F f with
    | none => rw [hf] at h; cases h
    | some fn =>
      have := hF f fn hf
      unfold okFn at this
      rw [Bool.and_eq_true] at this
      exact this.1

theorem call_sound {P : Program} {F : Nat → Option Fn} (hm : P.follows .mixedOrders = true) (hF : ∀ f fn, F f = some fn → okFn P (pfOf F) fn (src f) = true) : ∀ k, CkOk P src (call F k)
  | 0 => fun f args lo mem v mem' h => by cases h
  | k + 1 => fun f args lo m v m' h g w xs hmem hfresh hlen hargs hlo => by
    have ih := call_sound hm hF k
    have hcd := call_callable hF k
    have hpc := pure_of_ext (call_ext F k)
    rw [call_succ] at h
    cases hf : F f with
    | none => rw [hf] at h; cases h
    | some fn =>
      rw [hf] at h
      simp only at h
      split at h
      · rename_i hnp
        have hok := hF f fn hf
        unfold okFn at hok
        rw [Bool.and_eq_true] at hok
        obtain ⟨_, hok⟩ := hok
        split at hok
        · cases hok
        · rename_i gf hgf
          split at hok
          · cases hok
          · rename_i code hcode
            simp only [Bool.and_eq_true, Nat.ble_eq] at hok
            obtain ⟨⟨⟨⟨⟨k1, k2⟩, k3⟩, k4⟩, k5⟩, k6⟩ := hok
            have k2 := Nat.eq_of_beq_eq_true k2
            have k3 := Nat.eq_of_beq_eq_true k3
            have k4 := Nat.eq_of_beq_eq_true k4
            have hdisj : ∀ t, t ∈ bits fn.am gf.ntmps → t ∉ bits fn.bm gf.ntmps := by
              intro t h1 h2
              rw [mem_bits] at h1 h2
              have := Nat.testBit_and fn.am fn.bm t
              rw [show fn.am &&& fn.bm = 0 from k2, h1.2, h2.2] at this
              simp at this
            let fr : Fr := { n0 := w.heap.size, S0 := fun b => fn.pure = false ∧ ∃ h B l, lo ≤ h ∧ m.blk h = some B ∧ g.φ h = some l ∧ l.b = b, w0 := w, lo := if fn.pure then m.next else lo, AS := bits fn.am gf.ntmps, BS := bits fn.bm gf.ntmps, nt := gf.ntmps, disj := hdisj }
            have hxs : xs.length = fn.np := by omega
            have htm : ∀ (t : Nat) (x : Value), xs[t]? = some x → (xs.toArray ++ Array.replicate (gf.ntmps - xs.toArray.size) undef)[t]? = some x := by
              intro t x hx
              have hlt : t < xs.length := by
                rcases Nat.lt_or_ge t xs.length with h | h
                · exact h
                · rw [List.getElem?_eq_none h] at hx; cases hx
              rw [Array.getElem?_append_left (by simpa using hlt)]
              simpa using hx
            have hsim : Sim fr g ⟨initEnv 0 args, [], [], m⟩ { tmps := xs.toArray ++ Array.replicate (gf.ntmps - xs.toArray.size) undef, defers := [] } w := by
              refine ⟨hmem, fun t u hu => ?_, (fun t e he => by cases he), (fun t t' e e' b _ he => by cases he), (fun t u hu => by cases hu), (by simp [fr]; omega), rfl, ⟨rfl, rfl, rfl, Nat.le_refl _, fun _ _ _ => rfl⟩, fun h' B l hl hB hφ => ?_⟩
              · obtain ⟨_, h1⟩ := initEnv_get args 0 hu
                rw [Nat.sub_zero] at h1
                have hlt : t < args.length := by
                  rcases Nat.lt_or_ge t args.length with h | h
                  · exact h
                  · rw [List.getElem?_eq_none h] at h1; cases h1
                have hx : xs[t]? = some (xs[t]'(by omega)) := List.getElem?_eq_getElem _
                refine ⟨fun hA => ?_, fun hB => ?_, _, htm t _ hx, hargs t u _ h1 hx⟩
                · have := (mem_bits.1 hA).2
                  rw [low_zero k3 (by omega)] at this
                  cases this
                · have := (mem_bits.1 hB).2
                  rw [low_zero k4 (by omega)] at this
                  cases this
              · cases hp : fn.pure with
                | true =>
                  have : m.next ≤ h' := by simpa [fr, hp] using hl
                  rw [(hfresh h' this).1] at hB
                  cases hB
                | false =>
                  have : lo ≤ h' := by simpa [fr, hp] using hl
                  exact .inr ⟨hp, h', B, l, this, hB, hφ, rfl⟩
            have hinv : Inv fr g m g ⟨initEnv 0 args, [], [], m⟩ { tmps := xs.toArray ++ Array.replicate (gf.ntmps - xs.toArray.size) undef, defers := [] } w := by
              refine ⟨hsim, hfresh, ?_, .refl g, Nat.le_refl _, fun _ _ h => h, fun _ _ h => h, fun _ h => .inl h⟩
              show (if fn.pure then m.next else lo) ≤ m.next
              split
              · exact Nat.le_refl _
              · exact hlo
            have hS0 : fn.pure = true → ∀ b, ¬ fr.S0 b := fun hp b hb => by
              have := hb.1
              rw [hp] at this
              cases this
            refine calls_of_wp hgf hcode ?_
            have fin : ∀ {ex : Ex} {st : St}, (∀ i, ex ≠ .exit i) → run (call F k) k (if fn.pure then m.next else lo) fn.body ⟨initEnv 0 args, [], [], m⟩ = some (ex, st) → (match getRes st fn.res with
                | none => none
                | some vs => if fn.pure then
                    match freeze m.next st.mem 8 (resV vs) with
                    | none => none
                    | some v => some (v, m)
                  else some (resV vs, st.mem)) = some (v, m') → code.wp P (bodyPost P gf fun e w' => ∃ x g', e = .returned x ∧ Img g' w' v x ∧ Gh.le g g' ∧ MemOk g' m' w' ∧ FreshFrom g' m' m'.next ∧ m.next ≤ m'.next ∧
                    (∀ h, h < m.next → m.blk h = none → m'.blk h = none) ∧ (∀ h, h < m.next → g.φ h = none → g'.φ h = none) ∧
                    (∀ b, g'.I b → g.I b ∨ w.heap.size ≤ b) ∧
                    Keep w.heap.size (fun b => ∃ h B l, lo ≤ h ∧ m.blk h = some B ∧ g.φ h = some l ∧ l.b = b) w w' ∧
                    (∀ h B l, lo ≤ h → m'.blk h = some B → g'.φ h = some l → w.heap.size ≤ l.b ∨ ∃ h B l', lo ≤ h ∧ m.blk h = some B ∧ g.φ h = some l' ∧ l'.b = l.b))
                  { tmps := xs.toArray ++ Array.replicate (gf.ntmps - xs.toArray.size) undef, defers := [] } w := by
              intro ex st hex hrun hres
              refine run_sound (fr := fr) hm ih hcd hpc rfl rfl rfl hS0 fn.body code k6 hinv hrun (fun g' a' w' i' => ?_)
              suffices hsuff : a'.defers = [] ∧ ∃ v_1, (results gf a'.tmps).run P w' = .ok v_1 w' ∧ (fun e w' => ∃ x g', e = Ending.returned x ∧ Img g' w' v x ∧ Gh.le g g' ∧ MemOk g' m' w' ∧ FreshFrom g' m' m'.next ∧ m.next ≤ m'.next ∧
                    (∀ h, h < m.next → m.blk h = none → m'.blk h = none) ∧ (∀ h, h < m.next → g.φ h = none → g'.φ h = none) ∧
                    (∀ b, g'.I b → g.I b ∨ w.heap.size ≤ b) ∧
                    Keep w.heap.size (fun b => ∃ h B l, lo ≤ h ∧ m.blk h = some B ∧ g.φ h = some l ∧ l.b = b) w w' ∧
                    (∀ h B l, lo ≤ h → m'.blk h = some B → g'.φ h = some l → w.heap.size ≤ l.b ∨ ∃ h B l', lo ≤ h ∧ m.blk h = some B ∧ g.φ h = some l' ∧ l'.b = l.b)) (.returned v_1) w' by
                cases ex with
                | nrm => exact hsuff
                | ret => exact hsuff
                | exit i => exact absurd rfl (hex i)
              cases hg : getRes st fn.res with
              | none => rw [hg] at hres; cases hres
              | some vs =>
                rw [hg] at hres
                simp only at hres
                obtain ⟨x, hx1, hx2⟩ := res_sound i'.sim k5 hg
                refine ⟨i'.sim.defers, x, hx1, ?_⟩
                cases hp : fn.pure with
                | true =>
                  rw [hp] at hres
                  simp only [if_true] at hres
                  cases hfz : freeze m.next st.mem 8 (resV vs) with
                  | none => rw [hfz] at hres; cases hres
                  | some v' =>
                    rw [hfz] at hres
                    simp only [Option.some.injEq, Prod.mk.injEq] at hres
                    obtain ⟨rfl, rfl⟩ := hres
                    have hlo' : fr.lo = m.next := by simp [fr, hp]
                    have hnew : ∀ b, frI m.next g' st.mem b → g.I b ∨ w.heap.size ≤ b := by
                      rintro b (hb | ⟨h', B, l, h1, h2, h3, rfl⟩)
                      · exact i'.I b hb
                      · rcases i'.sim.own h' B l (by rw [hlo']; exact h1) h2 h3 with h4 | h4
                        · exact .inr h4
                        · exact absurd h4 (hS0 hp _)
                    have hle : Gh.le g ⟨g.φ, frI m.next g' st.mem⟩ := ⟨fun _ _ h => h, fun b hb => .inl (i'.le.I b hb)⟩
                    have hkeep : ∀ b, b < w.heap.size → w'.heap[b]? = w.heap[b]? := fun b hb => i'.sim.keep.block b hb (hS0 hp b)
                    have hsame : Same g.I w w' := fun b hb => hkeep b (hmem.lt b hb)
                    refine ⟨x, ⟨g.φ, frI m.next g' st.mem⟩, rfl, .pure (freeze_sound i'.sim.mem 8 _ _ x hfz hx2), hle, ⟨fun h' B hB => ?_, fun h1 h2 b b' l l' hne hb hb' hl hl' => hmem.inj h1 h2 b b' l l' hne hb hb' hl hl', (i'.sim.mem.frozen m.next).1.lt⟩, hfresh, Nat.le_refl _, fun _ _ h => h, fun _ _ h => h, hnew, ⟨i'.sim.keep.os, i'.sim.keep.tape, i'.sim.keep.output, i'.sim.keep.size, fun b hb _ => hkeep b hb⟩, fun h' B l h1 h2 h3 => .inr ⟨h', B, l, h1, h2, h3, rfl⟩⟩
                    obtain ⟨l, h1, h2, h3, h4⟩ := hmem.blk h' B hB
                    refine ⟨l, h1, h2.mono hle hsame (hkeep _ h4), fun hI => ?_, Nat.lt_of_lt_of_le h4 i'.sim.keep.size⟩
                    rcases hnew _ hI with h5 | h5
                    · exact h3 h5
                    · omega
                | false =>
                  rw [hp] at hres
                  simp only [Bool.false_eq_true, if_false, Option.some.injEq, Prod.mk.injEq] at hres
                  obtain ⟨rfl, rfl⟩ := hres
                  have hlo' : fr.lo = lo := by simp [fr, hp]
                  refine ⟨x, g', rfl, hx2, i'.le, i'.sim.mem, i'.fresh, i'.next, i'.blk, i'.φ, i'.I, ⟨i'.sim.keep.os, i'.sim.keep.tape, i'.sim.keep.output, i'.sim.keep.size, fun b hb hn => i'.sim.keep.block b hb (fun h => hn h.2)⟩, fun h' B l h1 h2 h3 => ?_⟩
                  rcases i'.sim.own h' B l (by rw [hlo']; exact h1) h2 h3 with h4 | h4
                  · exact .inl h4
                  · exact .inr h4.2
            split at h
            · cases h
            · cases h
            · rename_i ex st hno hrun
              refine fin (fun i e => ?_) hrun h
              subst e
              exact hno i rfl
      · cases h
end Go.Am
