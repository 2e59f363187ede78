/- An action of the abstract machine, and the model's operation behind it. -/
import Derived.Test.YtflfnkdhmcfjlaaFrz
namespace Go.Am
open Go

/-- Where a result goes. -/
def DOk (fr : Fr) : D → Option Tmp → Prop
  | .e d, t => t = some d ∧ d ∉ fr.AS ∧ d ∉ fr.BS ∧ d < fr.nt
  | .a d, t => t = some d ∧ d ∈ fr.AS ∧ d < fr.nt
  | .x d, t => t = some d ∧ d ∈ fr.BS ∧ d < fr.nt
  | .n, t => t = none

theorem DImg.of_img {d : D} {BS : List Nat} {g : Gh} {a : Act} {w : World} {v : V} {x : Value} (h : Img g w v x) : DImg d BS g a w v x := by
  cases d <;> first | exact h | exact h.toA

theorem put_sound {fr : Fr} {g : Gh} {st st' : St} {a : Act} {w : World} (s : Sim fr g st a w) {d : D} {dst : Option Tmp} (hd : DOk fr d dst) {v : V} {x : Value} (hv : DImg d fr.BS g a w v x) (h : put st d v = some st') :
    Sim fr g st' (a.put dst x) w ∧ st'.mem = st.mem := by
  cases d with
  | e d =>
    obtain ⟨rfl, h1, h2, h3⟩ := hd
    cases h
    exact ⟨s.put_env h1 h2 h3 hv, rfl⟩
  | a d =>
    obtain ⟨rfl, h1, h2⟩ := hd
    cases h
    exact ⟨s.put_ad h1 h2 hv, rfl⟩
  | x d => cases h
  | n =>
    cases hd
    cases h
    exact ⟨s, rfl⟩

/-- What the next operation needs to know of the handles. -/
structure After (g : Gh) (mem : Mem) (g' : Gh) (mem' : Mem) (h : Nat) (al : Bool) : Prop where
  le : Gh.le g g'
  next : mem.next ≤ mem'.next
  blk : ∀ k, k ≠ h → k < mem.next → mem.blk k = none → mem'.blk k = none
  φ : ∀ k, k ≠ h → k < mem.next → g.φ k = none → g'.φ k = none
  fresh : ∀ k, mem'.next ≤ k → (al = true → k ≠ h) → mem'.blk k = none ∧ g'.φ k = none

/-- The blocks that nobody writes any more from here on. -/
def Plan.fz (fr : Fr) (g : Gh) (mem : Mem) (b : Nat) : Plan → Prop
  | .frz _ _ => ∃ h B l, fr.lo ≤ h ∧ mem.blk h = some B ∧ g.φ h = some l ∧ l.b = b
  | _ => False

def Plan.al : Plan → Bool
  | .alloc _ _ | .app _ _ _ => true
  | _ => false

theorem After.same {g g' : Gh} {mem mem' : Mem} {h : Nat} {al : Bool} (hf : FreshFrom g mem mem.next) (hle : Gh.le g g') (hφ : g'.φ = g.φ) (hn : mem'.next = mem.next) (hb : ∀ k, mem.blk k = none → mem'.blk k = none) : After g mem g' mem' h al where
  le := hle
  next := Nat.le_of_eq hn.symm
  blk k _ _ := hb k
  φ k _ _ hk := by rw [hφ]; exact hk
  fresh k hk _ := by rw [hn] at hk; exact ⟨hb k (hf k hk).1, by rw [hφ]; exact (hf k hk).2⟩

theorem After.add {g : Gh} {mem mem' : Mem} {h : Nat} {l : Loc} (hf : FreshFrom g mem mem.next) (hfr : g.φ h = none) (hn : mem'.next = mem.next) (hb : ∀ k, k ≠ h → mem.blk k = none → mem'.blk k = none) : After g mem (g.add h l) mem' h true where
  le := Gh.le_add hfr
  next := Nat.le_of_eq hn.symm
  blk k hk _ := hb k hk
  φ k hk _ hkn := by simp only [Gh.add, if_neg hk]; exact hkn
  fresh k hk hne := by
    rw [hn] at hk
    have hne := hne rfl
    exact ⟨hb k hne (hf k hk).1, by simp only [Gh.add, if_neg hne]; exact (hf k hk).2⟩

theorem act_sound {P : Program} {src : Nat → Nat} {ck : Callk} (hck : CkOk P src ck) {fr : Fr} {g : Gh} {st st' : St} {a : Act} {w : World} (s : Sim fr g st a w) (hf : FreshFrom g st.mem st.mem.next) (hlo : fr.lo ≤ st.mem.next)
    {h : Nat} (hh : st.mem.blk h = none ∧ g.φ h = none) {d : D} {o : Oper} (hd : DOk fr d o.dst) {p : Plan} {r : Result Next} (hp : PlanRun src fr g st a w h d r p) (ha : act ck fr.lo h st d p = some st')
    {next : Act → World → Prop} {Q : Exit → Act → World → Prop} (hnext : ∀ g' a' w', Sim fr g' st' a' w' → After g st.mem g' st'.mem h p.al → (∀ b, g'.I b → g.I b ∨ w.heap.size ≤ b ∨ p.fz fr g st.mem b) → next a' w') : o.upon P a next Q r := by
  cases p with
  | ret v =>
    obtain ⟨x, w', g', rfl, q, hv⟩ := hp
    obtain ⟨s1, hm⟩ := put_sound (s.quiet q) hd hv ha
    exact hnext g' _ w' s1 (.same hf q.le q.φ (by rw [hm]) (by rw [hm]; exact fun _ h => h)) (fun b hb => (q.new b hb).imp id (fun h => .inl h.1))
  | rd h' f =>
    simp only [act] at ha
    split at ha
    · cases ha
    · rename_i b hb
      split at ha
      · cases ha
      · rename_i v hv
        obtain ⟨x, rfl, hx⟩ := hp b v hb hv
        obtain ⟨s1, hm⟩ := put_sound s hd (DImg.of_img hx) ha
        exact hnext g _ w s1 (.same hf (.refl g) rfl (by rw [hm]) (by rw [hm]; exact fun _ h => h)) (fun _ hb => .inl hb)
  | rdb t f =>
    simp only [act] at ha
    split at ha
    · cases ha
    · rename_i e he
      split at ha
      · cases ha
      · rename_i v hv
        obtain ⟨x, rfl, hx⟩ := hp e v he hv
        obtain ⟨s1, hm⟩ := put_sound s hd (DImg.of_img hx) ha
        exact hnext g _ w s1 (.same hf (.refl g) rfl (by rw [hm]) (by rw [hm]; exact fun _ h => h)) (fun _ hb => .inl hb)
  | wr h' f v =>
    obtain ⟨rfl, hp⟩ := hp
    simp only [act] at ha
    split at ha
    · rename_i hlo'
      split at ha
      · cases ha
      · rename_i b hb
        split at ha
        · cases ha
        · rename_i b' hb'
          obtain ⟨w', loc, ob, rfl, hφ, u, hB⟩ := hp b b' hb hb'
          have s1 := s.upd hlo' hb hφ u hB
          obtain ⟨s2, hm⟩ := put_sound s1 hd (DImg.of_img (.pure .und)) ha
          refine hnext g _ w' s2 (.same hf (.refl g) rfl (by rw [hm]; rfl) (fun k hk => ?_)) (fun _ hb => .inl hb)
          rw [hm]
          have : k ≠ h' := fun e => by subst e; rw [hb] at hk; cases hk
          simp [Mem.set, this, hk]
    · cases ha
  | wrb t f =>
    simp only [act] at ha
    split at ha
    · cases ha
    · rename_i e he
      split at ha
      · cases ha
      · rename_i e' he'
        obtain ⟨w', b, cs, T, rfl, ht, u, hc⟩ := hp e e' he he'
        cases d with
        | n =>
          cases ha
          have hdst : o.dst = none := hd
          have s1 := s.wrb he ht u hc
          show next (a.put o.dst undef) w'
          rw [hdst]
          exact hnext g a w' s1 (.same hf (.refl g) rfl rfl (fun _ h => h)) (fun _ hb => .inl hb)
        | _ => cases ha
  | bx e =>
    obtain ⟨w', cs, T, rfl, u, hc⟩ := hp
    cases d with
    | x d =>
      obtain ⟨hdst, hB, hn⟩ := hd
      simp only [act] at ha
      split at ha
      · cases ha
      rename_i hl
      cases ha
      show next (a.put o.dst _) w'
      rw [hdst]
      exact hnext g _ w' (s.box hB hn u hc (by simpa using hl)) (.same hf (.refl g) rfl rfl (fun _ h => h)) (fun _ hb => .inl hb)
    | _ => cases ha
  | alloc b gv =>
    obtain ⟨w', x, loc, ob, rfl, u, hl, hB, hx⟩ := hp
    have s1 := s.new hh.2 u hl hB
    obtain ⟨s2, hm⟩ := put_sound s1 hd (DImg.of_img hx) ha
    refine hnext _ _ w' s2 (.add hf hh.2 (by rw [hm]; rfl) (fun k hk hb => ?_)) (fun _ hb => .inl hb)
    rw [hm]
    simp [Mem.set, hk, hb]
  | app d' sz x =>
    simp only [act] at ha
    split at ha
    · cases ha
    · rename_i sx xs hv
      obtain ⟨p1, p2, p3⟩ := hp sx xs hv
      split at ha
      · obtain ⟨y, rfl, hy⟩ := p1 rfl rfl
        obtain ⟨s2, hm⟩ := put_sound s hd (DImg.of_img hy) ha
        exact hnext g _ w s2 (.same hf (.refl g) rfl (by rw [hm]) (by rw [hm]; exact fun _ h => h)) (fun _ hb => .inl hb)
      · rename_i y ys
        split at ha
        · rename_i hc
          obtain ⟨w', z, loc, ob, rfl, u, hl, hB, hx⟩ := p2 rfl (by simp) hc.1 hc.2
          have s1 := s.new hh.2 u hl hB
          obtain ⟨s2, hm⟩ := put_sound s1 hd (DImg.of_img hx) ha
          refine hnext _ _ w' s2 (.add hf hh.2 (by rw [hm]; rfl) (fun k hk hb => ?_)) (fun _ hb => .inl hb)
          rw [hm]
          simp [Mem.set, hk, hb]
        · cases ha
      · rename_i _ h' oo l
        split at ha
        · rename_i hc
          split at ha
          · rename_i s' es hb
            split at ha
            · rename_i hc2
              obtain ⟨rfl, hol⟩ := hc2
              obtain ⟨w', y, loc, ob, rfl, hcase, hB, hx⟩ := p3 h' oo l es rfl hc.2.1 hc.2.2 hb hol
              have hne : h' ≠ h := fun e => by subst e; rw [hh.1] at hb; cases hb
              rcases hcase with ⟨u, hl⟩ | ⟨loc0, hφ, hl, u⟩
              · have s1 := (s.killed h').new hh.2 u hl hB
                obtain ⟨s2, hm⟩ := put_sound s1 hd (DImg.of_img hx) ha
                refine hnext _ _ w' s2 (.add hf hh.2 (by rw [hm]; rfl) (fun k hk hb => ?_)) (fun _ hb => .inl hb)
                rw [hm]
                simp [Mem.set, hk, hb]
              · have s1 := s.retake hc.1 hb hφ hl hh.2 u hB
                obtain ⟨s2, hm⟩ := put_sound s1 hd (DImg.of_img hx) ha
                refine hnext _ _ w' s2 (.add hf hh.2 (by rw [hm]; rfl) (fun k hk hb => ?_)) (fun _ hb => .inl hb)
                rw [hm]
                simp [Mem.set, hk, hb]
            · cases ha
          · cases ha
        · cases ha
  | cpy sz h' oo l x =>
    simp only [act] at ha
    split at ha
    · cases ha
    · rename_i sx xs hv
      split at ha
      · rename_i hlo'
        split at ha
        · rename_i s' es hb
          split at ha
          · rename_i hc
            obtain ⟨hc1, rfl, hol⟩ := hc
            obtain ⟨w', loc, ob, rfl, hφ, u, hB⟩ := hp sx xs es hv hb hc1 hol
            have s1 := s.upd hlo' hb hφ u hB
            obtain ⟨s2, hm⟩ := put_sound s1 hd (DImg.of_img (.pure (.int _ _))) ha
            refine hnext g _ w' s2 (.same hf (.refl g) rfl (by rw [hm]; rfl) (fun k hk => ?_)) (fun _ hb => .inl hb)
            rw [hm]
            have : k ≠ h' := fun e => by subst e; rw [hb] at hk; cases hk
            simp [Mem.set, this, hk]
          · cases ha
        · cases ha
      · cases ha
  | call f args =>
    simp only [act] at ha
    split at ha
    · cases ha
    · rename_i v m hc
      obtain ⟨xs, rfl, hlen, hargs⟩ := hp
      refine (hck f args fr.lo st.mem v m hc g w xs s.mem hf hlen hargs hlo).mono ?_
      rintro e w' ⟨x, g', rfl, hx, hle, hm', hf', hn', hb', hφ', hI', hk, hown⟩
      have s1 : Sim fr g' { st with mem := m } a w' := by
        refine s.change hm' hle (fun b hb => ?_) hk.size hk.os hk.tape hk.output hI' (fun h1 B l hB hl => ?_)
        · by_cases e : ∃ h0 B0 l0, fr.lo ≤ h0 ∧ st.mem.blk h0 = some B0 ∧ g.φ h0 = some l0 ∧ l0.b = b
          · exact .inr e
          · exact .inl (hk.block b hb e)
        · by_cases hlt : fr.lo ≤ h1
          · rcases hown h1 B l hlt hB hl with h2 | ⟨h0, B0, l0, h3, h4, h5, h6⟩
            · exact .inl h2
            · exact .inr ⟨h0, B0, l0, fun _ => h3, h4, h5, h6⟩
          · right
            cases hb0 : st.mem.blk h1 with
            | none => exact absurd (hb' h1 (by omega) hb0) (by rw [hB]; simp)
            | some B0 =>
              obtain ⟨l0, h4, _⟩ := s.mem.blk h1 B0 hb0
              have := hle.φ h1 l0 h4
              rw [hl] at this; cases this
              exact ⟨h1, B0, l, fun h => absurd h hlt, hb0, h4, rfl⟩
      obtain ⟨s2, hm⟩ := put_sound s1 hd (DImg.of_img hx) ha
      exact hnext g' _ w' s2 ⟨hle, by rw [hm]; exact hn', fun k _ hk hkn => by rw [hm]; exact hb' k hk hkn, fun k _ hk hkn => hφ' k hk hkn, fun k hk _ => by rw [hm] at hk ⊢; exact hf' k hk⟩ (fun b hb => (hI' b hb).imp id .inl)
  | frz t sz =>
    simp only [act] at ha
    split at ha
    · rename_i ecs he
      split at ha
      · rename_i hsz
        split at ha
        · cases ha
        · rename_i v hv
          obtain ⟨x, rfl, hx⟩ := hp ecs he hsz
          obtain ⟨hm1, hle⟩ := s.mem.frozen fr.lo
          have hs : Same g.I w w := fun _ _ => rfl
          have s1 : Sim fr ⟨g.φ, frI fr.lo g st.mem⟩ { st with bx := (t, v) :: st.bx, mem := st.mem.kill fr.lo } a w := by
            have get : ∀ (i : Nat) (c : Blk), (st.mem.kill fr.lo).blk i = some c → st.mem.blk i = some c ∧ i < fr.lo := by
              intro i c hi
              unfold Mem.kill at hi
              simp only at hi
              split at hi
              · cases hi
              · exact ⟨hi, by omega⟩
            have out : ∀ b, (¬ g.I b) → (∀ h B l, st.mem.blk h = some B → g.φ h = some l → l.b ≠ b) → ¬ frI fr.lo g st.mem b := by
              rintro b h1 h2 (h3 | ⟨h', B, l, _, h4, h5, h6⟩)
              · exact h1 h3
              · exact h2 h' B l h4 h5 h6
            refine ⟨hm1, fun u z hz => ?_, fun t' z hz => ?_, fun t1 t2 e1 e2 k hne he1 he2 hk => ?_, fun u z hz => ?_, s.size, s.defers, s.keep, fun k B l hk hB _ => ?_⟩
            · obtain ⟨h4, h5, y, h6, h7⟩ := s.env u z hz
              exact ⟨h4, h5, y, h6, h7.mono hle hs⟩
            · simp only [Env.get_cons] at hz
              split at hz
              · rename_i e1; subst e1
                cases hz
                obtain ⟨h4, b, h5, h6⟩ := s.bx t (.agg ecs) he
                obtain ⟨cs, T, h7, h8, h9⟩ := h6.cells
                obtain ⟨h10, h11⟩ := freeze_cells hv
                refine ⟨h4, b, h5, ⟨⟨cs, T, h7, by omega, fun j c hj => ?_⟩, out b h6.out h6.free, h6.new, fun h' B l hB hl => h6.free h' B l (get h' B hB).1 hl⟩⟩
                obtain ⟨c0, k, h12, _, h13⟩ := h11 j c hj
                obtain ⟨y, h14, h15, h16⟩ := h9 j c0 h12
                exact ⟨y, h14, h15, .pure (freeze_sound s.mem k c0 c y h13 h16)⟩
              · obtain ⟨h4, b, h5, h6⟩ := s.bx t' z hz
                obtain ⟨cs, T, h7, h8, h9⟩ := h6.cells
                exact ⟨h4, b, h5, ⟨⟨cs, T, h7, h8, fun j c hj => let ⟨y, p, q, r⟩ := h9 j c hj; ⟨y, p, q, r.mono hle hs⟩⟩, out b h6.out h6.free, h6.new, fun h' B l hB hl => h6.free h' B l (get h' B hB).1 hl⟩⟩
            · have old : ∀ t' z, Env.get ((t, v) :: st.bx) t' = some z → ∃ x0, st.bx.get t' = some x0 := by
                intro t' z hz
                simp only [Env.get_cons] at hz
                split at hz
                · rename_i e1; subst e1; exact ⟨.agg ecs, he⟩
                · exact ⟨z, hz⟩
              obtain ⟨x1, hx1⟩ := old t1 e1 he1
              obtain ⟨x2, hx2⟩ := old t2 e2 he2
              exact s.bxd t1 t2 x1 x2 k hne hx1 hx2 hk
            · obtain ⟨h4, y, h6, h7⟩ := s.ad u z hz
              exact ⟨h4, y, h6, h7.mono hle hs⟩
            · have := (get k B hB).2
              omega
          obtain ⟨s2, hm⟩ := put_sound s1 hd (DImg.of_img (.pure (freeze_sound s.mem 8 (.agg ecs) v x hv hx))) ha
          refine hnext _ _ w s2 (.same hf hle rfl (by rw [hm]; rfl) (fun k hk => ?_)) (fun b hb => hb.imp id .inr)
          rw [hm]
          show (if fr.lo ≤ k then none else st.mem.blk k) = none
          rw [hk]
          split <;> rfl
      · cases ha
    · cases ha
end Go.Am
