/- A part of the proof: The law ExploreChecks holds: any state of any system has the specified error, and a step of an invalid one returns it; no conditions. -/
import Derived.Test.YtflfnkdhmcfjlaaN11e
import Derived.Test.YtflfnkdhmcfjlaaProg
import Derived.KernelRfl
namespace Go.Am
open Go Go.Proofs
set_option maxRecDepth 100000
noncomputable def tF44 : Tr := (.node 121 (.node 69 (.node 58 (.node 51 (.node 45 (.node 28 (.leaf 11 c11) (.leaf 28 c28)) (.node 49 (.leaf 45 c45) (.leaf 49 c49))) (.node 56 (.node 55 (.leaf 51 c51) (.leaf 55 c55)) (.node 57 (.leaf 56 c56) (.leaf 57 c57)))) (.node 62 (.node 60 (.node 59 (.leaf 58 c58) (.leaf 59 c59)) (.node 61 (.leaf 60 c60) (.leaf 61 c61))) (.node 64 (.node 63 (.leaf 62 c62) (.leaf 63 c63)) (.node 65 (.leaf 64 c64) (.leaf 65 c65))))) (.node 112 (.node 91 (.node 72 (.node 71 (.leaf 69 c69) (.leaf 71 c71)) (.node 73 (.leaf 72 c72) (.leaf 73 c73))) (.node 106 (.node 93 (.leaf 91 c91) (.leaf 93 c93)) (.node 111 (.leaf 106 c106) (.leaf 111 c111)))) (.node 116 (.node 114 (.node 113 (.leaf 112 c112) (.leaf 113 c113)) (.node 115 (.leaf 114 c114) (.leaf 115 c115))) (.node 118 (.node 117 (.leaf 116 c116) (.leaf 117 c117)) (.node 120 (.leaf 118 c118) (.leaf 120 c120)))))) (.node 137 (.node 129 (.node 125 (.node 123 (.node 122 (.leaf 121 c121) (.leaf 122 c122)) (.node 124 (.leaf 123 c123) (.leaf 124 c124))) (.node 127 (.node 126 (.leaf 125 c125) (.leaf 126 c126)) (.node 128 (.leaf 127 c127) (.leaf 128 c128)))) (.node 133 (.node 131 (.node 130 (.leaf 129 c129) (.leaf 130 c130)) (.node 132 (.leaf 131 c131) (.leaf 132 c132))) (.node 135 (.node 134 (.leaf 133 c133) (.leaf 134 c134)) (.node 136 (.leaf 135 c135) (.leaf 136 c136))))) (.node 155 (.node 147 (.node 145 (.node 144 (.leaf 137 c137) (.leaf 144 c144)) (.node 146 (.leaf 145 c145) (.leaf 146 c146))) (.node 153 (.node 150 (.leaf 147 c147) (.leaf 150 c150)) (.node 154 (.leaf 153 c153) (.leaf 154 c154)))) (.node 159 (.node 157 (.node 156 (.leaf 155 c155) (.leaf 156 c156)) (.node 158 (.leaf 157 c157) (.leaf 158 c158))) (.node 161 (.node 160 (.leaf 159 c159) (.leaf 160 c160)) (.node 163 (.leaf 161 c161) (.node 164 (.leaf 163 c163) (.leaf 164 c164))))))))
noncomputable def F44 : Nat → Option Fn := tF44.get
theorem hasA : HasA F44 := ⟨rfl, rfl, rfl, rfl, rfl, rfl, rfl, rfl, rfl, rfl, rfl, rfl, rfl, rfl, rfl, rfl, rfl, rfl, rfl, rfl, rfl⟩
theorem hasB : HasB F44 := ⟨rfl, rfl⟩
theorem hasE : HasE F44 := ⟨rfl, rfl, rfl, rfl, rfl, rfl, rfl, rfl, rfl, rfl, rfl, rfl, rfl, rfl, rfl, rfl, rfl, rfl, rfl, rfl, rfl, rfl, rfl, rfl, rfl, rfl, rfl, rfl, rfl, rfl, rfl, rfl, rfl, rfl, rfl, rfl, rfl⟩
theorem hasX11 : HasX11 F44 := ⟨rfl⟩
theorem ok11 : okFn Try.prog (pfOf F44) c11 (src 11) = true := by kernel_rfl
theorem ok28 : okFn Try.prog (pfOf F44) c28 (src 28) = true := by kernel_rfl
theorem ok45 : okFn Try.prog (pfOf F44) c45 (src 45) = true := by kernel_rfl
theorem ok49 : okFn Try.prog (pfOf F44) c49 (src 49) = true := by kernel_rfl
theorem ok51 : okFn Try.prog (pfOf F44) c51 (src 51) = true := by kernel_rfl
theorem ok55 : okFn Try.prog (pfOf F44) c55 (src 55) = true := by kernel_rfl
theorem ok56 : okFn Try.prog (pfOf F44) c56 (src 56) = true := by kernel_rfl
theorem ok57 : okFn Try.prog (pfOf F44) c57 (src 57) = true := by kernel_rfl
theorem ok58 : okFn Try.prog (pfOf F44) c58 (src 58) = true := by kernel_rfl
theorem ok59 : okFn Try.prog (pfOf F44) c59 (src 59) = true := by kernel_rfl
theorem ok60 : okFn Try.prog (pfOf F44) c60 (src 60) = true := by kernel_rfl
theorem ok61 : okFn Try.prog (pfOf F44) c61 (src 61) = true := by kernel_rfl
theorem ok62 : okFn Try.prog (pfOf F44) c62 (src 62) = true := by kernel_rfl
theorem ok63 : okFn Try.prog (pfOf F44) c63 (src 63) = true := by kernel_rfl
theorem ok64 : okFn Try.prog (pfOf F44) c64 (src 64) = true := by kernel_rfl
theorem ok65 : okFn Try.prog (pfOf F44) c65 (src 65) = true := by kernel_rfl
theorem ok69 : okFn Try.prog (pfOf F44) c69 (src 69) = true := by kernel_rfl
theorem ok71 : okFn Try.prog (pfOf F44) c71 (src 71) = true := by kernel_rfl
theorem ok72 : okFn Try.prog (pfOf F44) c72 (src 72) = true := by kernel_rfl
theorem ok73 : okFn Try.prog (pfOf F44) c73 (src 73) = true := by kernel_rfl
theorem ok91 : okFn Try.prog (pfOf F44) c91 (src 91) = true := by kernel_rfl
theorem ok93 : okFn Try.prog (pfOf F44) c93 (src 93) = true := by kernel_rfl
theorem ok106 : okFn Try.prog (pfOf F44) c106 (src 106) = true := by kernel_rfl
theorem ok111 : okFn Try.prog (pfOf F44) c111 (src 111) = true := by kernel_rfl
theorem ok112 : okFn Try.prog (pfOf F44) c112 (src 112) = true := by kernel_rfl
theorem ok113 : okFn Try.prog (pfOf F44) c113 (src 113) = true := by kernel_rfl
theorem ok114 : okFn Try.prog (pfOf F44) c114 (src 114) = true := by kernel_rfl
theorem ok115 : okFn Try.prog (pfOf F44) c115 (src 115) = true := by kernel_rfl
theorem ok116 : okFn Try.prog (pfOf F44) c116 (src 116) = true := by kernel_rfl
theorem ok117 : okFn Try.prog (pfOf F44) c117 (src 117) = true := by kernel_rfl
theorem ok118 : okFn Try.prog (pfOf F44) c118 (src 118) = true := by kernel_rfl
theorem ok120 : okFn Try.prog (pfOf F44) c120 (src 120) = true := by kernel_rfl
theorem ok121 : okFn Try.prog (pfOf F44) c121 (src 121) = true := by kernel_rfl
theorem ok122 : okFn Try.prog (pfOf F44) c122 (src 122) = true := by kernel_rfl
theorem ok123 : okFn Try.prog (pfOf F44) c123 (src 123) = true := by kernel_rfl
theorem ok124 : okFn Try.prog (pfOf F44) c124 (src 124) = true := by kernel_rfl
theorem ok125 : okFn Try.prog (pfOf F44) c125 (src 125) = true := by kernel_rfl
theorem ok126 : okFn Try.prog (pfOf F44) c126 (src 126) = true := by kernel_rfl
theorem ok127 : okFn Try.prog (pfOf F44) c127 (src 127) = true := by kernel_rfl
theorem ok128 : okFn Try.prog (pfOf F44) c128 (src 128) = true := by kernel_rfl
theorem ok129 : okFn Try.prog (pfOf F44) c129 (src 129) = true := by kernel_rfl
theorem ok130 : okFn Try.prog (pfOf F44) c130 (src 130) = true := by kernel_rfl
theorem ok131 : okFn Try.prog (pfOf F44) c131 (src 131) = true := by kernel_rfl
theorem ok132 : okFn Try.prog (pfOf F44) c132 (src 132) = true := by kernel_rfl
theorem ok133 : okFn Try.prog (pfOf F44) c133 (src 133) = true := by kernel_rfl
theorem ok134 : okFn Try.prog (pfOf F44) c134 (src 134) = true := by kernel_rfl
theorem ok135 : okFn Try.prog (pfOf F44) c135 (src 135) = true := by kernel_rfl
theorem ok136 : okFn Try.prog (pfOf F44) c136 (src 136) = true := by kernel_rfl
theorem ok137 : okFn Try.prog (pfOf F44) c137 (src 137) = true := by kernel_rfl
theorem ok144 : okFn Try.prog (pfOf F44) c144 (src 144) = true := by kernel_rfl
theorem ok145 : okFn Try.prog (pfOf F44) c145 (src 145) = true := by kernel_rfl
theorem ok146 : okFn Try.prog (pfOf F44) c146 (src 146) = true := by kernel_rfl
theorem ok147 : okFn Try.prog (pfOf F44) c147 (src 147) = true := by kernel_rfl
theorem ok150 : okFn Try.prog (pfOf F44) c150 (src 150) = true := by kernel_rfl
theorem ok153 : okFn Try.prog (pfOf F44) c153 (src 153) = true := by kernel_rfl
theorem ok154 : okFn Try.prog (pfOf F44) c154 (src 154) = true := by kernel_rfl
theorem ok155 : okFn Try.prog (pfOf F44) c155 (src 155) = true := by kernel_rfl
theorem ok156 : okFn Try.prog (pfOf F44) c156 (src 156) = true := by kernel_rfl
theorem ok157 : okFn Try.prog (pfOf F44) c157 (src 157) = true := by kernel_rfl
theorem ok158 : okFn Try.prog (pfOf F44) c158 (src 158) = true := by kernel_rfl
theorem ok159 : okFn Try.prog (pfOf F44) c159 (src 159) = true := by kernel_rfl
theorem ok160 : okFn Try.prog (pfOf F44) c160 (src 160) = true := by kernel_rfl
theorem ok161 : okFn Try.prog (pfOf F44) c161 (src 161) = true := by kernel_rfl
theorem ok163 : okFn Try.prog (pfOf F44) c163 (src 163) = true := by kernel_rfl
theorem ok164 : okFn Try.prog (pfOf F44) c164 (src 164) = true := by kernel_rfl
theorem okAll : ∀ f fn, F44 f = some fn → okFn Try.prog (pfOf F44) fn (src f) = true := Tr.get_all (p := fun f fn => okFn Try.prog (pfOf F44) fn (src f) = true) tF44 ⟨⟨⟨⟨⟨⟨ok11, ok28⟩, ⟨ok45, ok49⟩⟩, ⟨⟨ok51, ok55⟩, ⟨ok56, ok57⟩⟩⟩, ⟨⟨⟨ok58, ok59⟩, ⟨ok60, ok61⟩⟩, ⟨⟨ok62, ok63⟩, ⟨ok64, ok65⟩⟩⟩⟩, ⟨⟨⟨⟨ok69, ok71⟩, ⟨ok72, ok73⟩⟩, ⟨⟨ok91, ok93⟩, ⟨ok106, ok111⟩⟩⟩, ⟨⟨⟨ok112, ok113⟩, ⟨ok114, ok115⟩⟩, ⟨⟨ok116, ok117⟩, ⟨ok118, ok120⟩⟩⟩⟩⟩, ⟨⟨⟨⟨⟨ok121, ok122⟩, ⟨ok123, ok124⟩⟩, ⟨⟨ok125, ok126⟩, ⟨ok127, ok128⟩⟩⟩, ⟨⟨⟨ok129, ok130⟩, ⟨ok131, ok132⟩⟩, ⟨⟨ok133, ok134⟩, ⟨ok135, ok136⟩⟩⟩⟩, ⟨⟨⟨⟨ok137, ok144⟩, ⟨ok145, ok146⟩⟩, ⟨⟨ok147, ok150⟩, ⟨ok153, ok154⟩⟩⟩, ⟨⟨⟨ok155, ok156⟩, ⟨ok157, ok158⟩⟩, ⟨⟨ok159, ok160⟩, ⟨ok161, ⟨ok163, ok164⟩⟩⟩⟩⟩⟩⟩
theorem mixed : Try.prog.follows .mixedOrders = true := by kernel_rfl
end Go.Am
namespace Go.Am
open Go
def Ckle (ck ck' : Callk) : Prop := ∀ f args lo m r, ck f args lo m = some r → ck' f args lo m = some r
section
variable {ck ck' : Callk}
theorem act_mono (hc : Ckle ck ck') {lo h : Nat} {s s' : St} {d : D} {p : Plan} (ha : act ck lo h s d p = some s') : act ck' lo h s d p = some s' := by
 cases p with
 | call f args =>
  simp only [act] at ha ⊢
  cases hk : ck f args lo s.mem with
  | none => rw [hk] at ha; cases ha
  | some r => rw [hk] at ha; rw [hc _ _ _ _ _ hk]; exact ha
 | _ => exact ha
theorem exec_mono (hc : Ckle ck ck') {lo h : Nat} {s s' : St} {o : Op} (ha : exec ck lo h s o = some s') : exec ck' lo h s o = some s' := by
 unfold exec at ha ⊢
 cases h1 : getOs s o.os with
 | none => rw [h1] at ha; cases ha
 | some vs =>
  rw [h1] at ha
  simp only at ha ⊢
  cases h2 : plan o.k vs with
  | none => rw [h2] at ha; cases ha
  | some p =>
   rw [h2] at ha
   exact act_mono hc ha
theorem step_mono (hc : Ckle ck ck') {lo h : Nat} {s s' : St} {o : Op} (ha : step ck lo h s o = some s') : step ck' lo h s o = some s' := by
 unfold step at ha ⊢
 cases hg : o.g with
 | none => rw [hg] at ha; exact exec_mono hc ha
 | some tw =>
  obtain ⟨t, w⟩ := tw
  rw [hg] at ha
  simp only at ha ⊢
  split at ha
  ·split at ha
   ·rename_i e; rw [if_pos e]; exact exec_mono hc ha
   ·rename_i e; rw [if_neg e]; exact ha
  ·exact ha
  ·cases ha
theorem ops_mono (hc : Ckle ck ck') {lo : Nat} : ∀ (ps : List Op) {s s' : St}, runOps ck lo ps s = some s' → runOps ck' lo ps s = some s'
 | [], s, s', h => h
 | o :: ps, s, s', h => by
  rw [runOps_cons] at h ⊢
  cases h1 : step ck lo s.mem.next s o with
  | none => rw [h1] at h; cases h
  | some s1 =>
   rw [h1] at h
   rw [step_mono hc h1]
   exact ops_mono hc ps h
theorem opsD_mono (hc : Ckle ck ck') {lo base : Nat} : ∀ (ps : List Op) (i : Nat) {s : St} {r : St × List (List Key)}, runOpsD ck lo base i ps s = some r → runOpsD ck' lo base i ps s = some r
 | [], i, s, r, h => h
 | o :: ps, i, s, r, h => by
  simp only [runOpsD] at h ⊢
  cases h1 : step ck lo (base + i) s o with
  | none => rw [h1] at h; cases h
  | some s1 =>
   rw [h1] at h
   rw [step_mono hc h1]
   simp only at h ⊢
   cases h2 : runOpsD ck lo base (i + 1) ps s1 with
   | none => rw [h2] at h; cases h
   | some r1 =>
    rw [h2] at h
    rw [opsD_mono hc ps (i + 1) h2]
    exact h
theorem iter_mono {f g : St → Option (Ex × St)} (hf : ∀ s r, f s = some r → g s = some r) : ∀ {n n' : Nat} {s : St} {r : Ex × St}, n ≤ n' → iter f n s = some r → iter g n' s = some r
 | 0, _, s, r, _, h => by cases h
 | n + 1, 0, s, r, hn, h => by omega
 | n + 1, n' + 1, s, r, hn, h => by
  have h' : (match f s with
   | none => none
   | some (.nrm, st') => iter f n st'
   | some (.exit i, st') => some (.exit i, st')
   | some (.ret, st') => some (.ret, st')) = some r := h
  show (match g s with
   | none => none
   | some (.nrm, st') => iter g n' st'
   | some (.exit i, st') => some (.exit i, st')
   | some (.ret, st') => some (.ret, st')) = some r
  cases h1 : f s with
  | none => rw [h1] at h'; cases h'
  | some r1 =>
   rw [h1] at h'
   rw [hf s r1 h1]
   obtain ⟨ex, s1⟩ := r1
   cases ex with
   | nrm => exact iter_mono hf (Nat.le_of_succ_le_succ hn) h'
   | exit i => exact h'
   | ret => exact h'
theorem run_mono (hc : Ckle ck ck') {N N' lo : Nat} (hN : N ≤ N') : ∀ (c : AC) {s : St} {r : Ex × St}, run ck N lo c s = some r → run ck' N' lo c s = some r := by
 intro c
 induction c with
 | skip => intro s r h; exact h
 | dead => intro s r h; cases h
 | exit j => intro s r h; exact h
 | ret => intro s r h; exact h
 | reg ops lv lb =>
  intro s r h
  have h' : (match runOps ck lo ops s with
   | none => none
   | some st' => some (Ex.nrm, st'.cut lv lb)) = some r := h
  show (match runOps ck' lo ops s with
   | none => none
   | some st' => some (Ex.nrm, st'.cut lv lb)) = some r
  cases h1 : runOps ck lo ops s with
  | none => rw [h1] at h'; cases h'
  | some s1 => rw [h1] at h'; rw [ops_mono hc ops h1]; exact h'
 | dreg ops ps lv lb =>
  intro s r h
  have h' : (match runOpsD ck lo s.mem.next 0 ops { s with mem := s.mem.bump ops.length } with
   | none => none
   | some (st', ks) => if pairsOk ks ps then some (Ex.nrm, st'.cut lv lb) else none) = some r := h
  show (match runOpsD ck' lo s.mem.next 0 ops { s with mem := s.mem.bump ops.length } with
   | none => none
   | some (st', ks) => if pairsOk ks ps then some (Ex.nrm, st'.cut lv lb) else none) = some r
  cases h1 : runOpsD ck lo s.mem.next 0 ops { s with mem := s.mem.bump ops.length } with
  | none => rw [h1] at h'; cases h'
  | some s1 => rw [h1] at h'; rw [opsD_mono hc ops 0 h1]; exact h'
 | seq x y ihx ihy =>
  intro s r h
  have h' : (match run ck N lo x s with
   | none => none
   | some (.nrm, st') => run ck N lo y st'
   | some (.exit i, st') => some (.exit i, st')
   | some (.ret, st') => some (.ret, st')) = some r := h
  show (match run ck' N' lo x s with
   | none => none
   | some (.nrm, st') => run ck' N' lo y st'
   | some (.exit i, st') => some (.exit i, st')
   | some (.ret, st') => some (.ret, st')) = some r
  cases h1 : run ck N lo x s with
  | none => rw [h1] at h'; cases h'
  | some r1 =>
   rw [h1] at h'
   rw [ihx h1]
   obtain ⟨ex, s1⟩ := r1
   cases ex with
   | nrm => exact ihy h'
   | exit i => exact h'
   | ret => exact h'
 | cond c x y ihx ihy =>
  intro s r h
  have h' : (match getO s c with
   | some (.bool c) => cond c (run ck N lo x s) (run ck N lo y s)
   | _ => none) = some r := h
  show (match getO s c with
   | some (.bool c) => cond c (run ck' N' lo x s) (run ck' N' lo y s)
   | _ => none) = some r
  split at h'
  ·rename_i b hb
   cases b with
   | true => exact ihx h'
   | false => exact ihy h'
  ·cases h'
 | block id x ih =>
  intro s r h
  have h' : (match run ck N lo x s with
   | none => none
   | some (.nrm, st') => some (.nrm, st')
   | some (.exit i, st') => if i = id then some (.nrm, st') else some (.exit i, st')
   | some (.ret, st') => some (.ret, st')) = some r := h
  show (match run ck' N' lo x s with
   | none => none
   | some (.nrm, st') => some (.nrm, st')
   | some (.exit i, st') => if i = id then some (.nrm, st') else some (.exit i, st')
   | some (.ret, st') => some (.ret, st')) = some r
  cases h1 : run ck N lo x s with
  | none => rw [h1] at h'; cases h'
  | some r1 => rw [h1] at h'; rw [ih h1]; exact h'
 | loop lv lb x ih =>
  intro s r h
  exact iter_mono (f := fun st => run ck N lo x (st.cut lv lb)) (g := fun st => run ck' N' lo x (st.cut lv lb)) (fun s r hr => ih hr) hN h
end
theorem Ckle.refl (ck : Callk) : Ckle ck ck := fun _ _ _ _ _ h => h
theorem call_succ' (F : Nat → Option Fn) (k f : Nat) (args : List V) (lo : Nat) (m : Mem) : call F (k + 1) f args lo m = (match F f with
  | none => none
  | some fn =>
   if args.length = fn.np then
    match run (call F k) k (if fn.pure then m.next else lo) fn.body ⟨initEnv 0 args, [], [], m⟩ with
    | none => none
    | some (.exit _, _) => none
    | some (_, st) => match getRes st fn.res with
     | none => none
     | some vs => if fn.pure then
       match freeze m.next st.mem 8 (resV vs) with
       | none => none
       | some v => some (v, m)
      else some (resV vs, st.mem)
   else none) := rfl
theorem call_mono1 (F : Nat → Option Fn) : ∀ k, Ckle (call F k) (call F (k + 1))
 | 0 => fun f args lo m r h => by cases h
 | k + 1 => fun f args lo m r h => by
  have ih := call_mono1 F k
  rw [call_succ'] at h ⊢
  cases hF : F f with
  | none => rw [hF] at h; cases h
  | some fn =>
   rw [hF] at h
   simp only at h ⊢
   split at h
   ·rename_i hn
    rw [if_pos hn]
    cases h1 : run (call F k) k (if fn.pure then m.next else lo) fn.body ⟨initEnv 0 args, [], [], m⟩ with
    | none => rw [h1] at h; cases h
    | some r1 =>
     rw [h1] at h
     rw [run_mono ih (Nat.le_succ k) fn.body h1]
     exact h
   ·cases h
theorem call_mono (F : Nat → Option Fn) {k k' : Nat} (h : k ≤ k') : Ckle (call F k) (call F k') := by
 induction h with
 | refl => exact .refl _
 | step _ ih => exact fun f args lo m r hr => call_mono1 F _ f args lo m r (ih f args lo m r hr)
open Classical in
noncomputable def callw (F : Nat → Option Fn) : Callk := fun f args lo m => if h : ∃ r, ∃ k, call F k f args lo m = some r then some h.choose else none
theorem callw_iff {F : Nat → Option Fn} {f : Nat} {args : List V} {lo : Nat} {m : Mem} {r : V × Mem} : callw F f args lo m = some r ↔ ∃ k, call F k f args lo m = some r := by
 unfold callw
 constructor
 ·intro h
  split at h
  ·rename_i hx
   cases h
   exact hx.choose_spec
  ·cases h
 ·rintro ⟨k, hk⟩
  have hx : ∃ r, ∃ k, call F k f args lo m = some r := ⟨r, k, hk⟩
  rw [dif_pos hx]
  obtain ⟨k', hk'⟩ := hx.choose_spec
  have h1 := call_mono F (Nat.le_max_left k k') f args lo m _ hk
  have h2 := call_mono F (Nat.le_max_right k k') f args lo m _ hk'
  rw [h1] at h2
  exact h2.symm
section
variable {F : Nat → Option Fn}
theorem act_fin {lo h : Nat} {s s' : St} {d : D} {p : Plan} (ha : act (callw F) lo h s d p = some s') : ∃ k, act (call F k) lo h s d p = some s' := by
 cases p with
 | call f args =>
  simp only [act] at ha ⊢
  cases hk : callw F f args lo s.mem with
  | none => rw [hk] at ha; cases ha
  | some r =>
   obtain ⟨k, h1⟩ := callw_iff.1 hk
   rw [hk] at ha
   exact ⟨k, by rw [h1]; exact ha⟩
 | _ => exact ⟨0, ha⟩
theorem exec_fin {lo h : Nat} {s s' : St} {o : Op} (ha : exec (callw F) lo h s o = some s') : ∃ k, exec (call F k) lo h s o = some s' := by
 unfold exec at ha ⊢
 cases h1 : getOs s o.os with
 | none => rw [h1] at ha; cases ha
 | some vs =>
  rw [h1] at ha
  simp only at ha ⊢
  cases h2 : plan o.k vs with
  | none => rw [h2] at ha; cases ha
  | some p =>
   rw [h2] at ha
   exact act_fin ha
theorem step_fin {lo h : Nat} {s s' : St} {o : Op} (ha : step (callw F) lo h s o = some s') : ∃ k, step (call F k) lo h s o = some s' := by
 unfold step at ha ⊢
 cases hg : o.g with
 | none => rw [hg] at ha; exact exec_fin ha
 | some tw =>
  obtain ⟨t, w⟩ := tw
  rw [hg] at ha
  simp only at ha ⊢
  split at ha
  ·split at ha
   ·rename_i e
    obtain ⟨k, hk⟩ := exec_fin ha
    exact ⟨k, by rw [if_pos e]; exact hk⟩
   ·rename_i e
    exact ⟨0, by rw [if_neg e]; exact ha⟩
  ·exact ⟨0, ha⟩
  ·cases ha
theorem ops_fin {lo : Nat} : ∀ (ps : List Op) {s s' : St}, runOps (callw F) lo ps s = some s' → ∃ k, runOps (call F k) lo ps s = some s'
 | [], s, s', h => ⟨0, h⟩
 | o :: ps, s, s', h => by
  rw [runOps_cons] at h
  cases h1 : step (callw F) lo s.mem.next s o with
  | none => rw [h1] at h; cases h
  | some s1 =>
   rw [h1] at h
   obtain ⟨k1, q1⟩ := step_fin h1
   obtain ⟨k2, q2⟩ := ops_fin ps h
   refine ⟨max k1 k2, ?_⟩
   rw [runOps_cons, step_mono (call_mono F (Nat.le_max_left k1 k2)) q1]
   exact ops_mono (call_mono F (Nat.le_max_right k1 k2)) ps q2
theorem opsD_fin {lo base : Nat} : ∀ (ps : List Op) (i : Nat) {s : St} {r : St × List (List Key)}, runOpsD (callw F) lo base i ps s = some r → ∃ k, runOpsD (call F k) lo base i ps s = some r
 | [], i, s, r, h => ⟨0, h⟩
 | o :: ps, i, s, r, h => by
  simp only [runOpsD] at h ⊢
  cases h1 : step (callw F) lo (base + i) s o with
  | none => rw [h1] at h; cases h
  | some s1 =>
   rw [h1] at h
   simp only at h
   cases h2 : runOpsD (callw F) lo base (i + 1) ps s1 with
   | none => rw [h2] at h; cases h
   | some r1 =>
    rw [h2] at h
    obtain ⟨k1, q1⟩ := step_fin h1
    obtain ⟨k2, q2⟩ := opsD_fin ps (i + 1) h2
    refine ⟨max k1 k2, ?_⟩
    rw [step_mono (call_mono F (Nat.le_max_left k1 k2)) q1]
    simp only
    rw [opsD_mono (call_mono F (Nat.le_max_right k1 k2)) ps (i + 1) q2]
    exact h
theorem run_fin {N lo : Nat} : ∀ (c : AC) {s : St} {r : Ex × St}, run (callw F) N lo c s = some r → ∃ k, run (call F k) N lo c s = some r := by
 intro c
 induction c with
 | skip => intro s r h; exact ⟨0, h⟩
 | dead => intro s r h; cases h
 | exit j => intro s r h; exact ⟨0, h⟩
 | ret => intro s r h; exact ⟨0, h⟩
 | reg ops lv lb =>
  intro s r h
  have h' : (match runOps (callw F) lo ops s with
   | none => none
   | some st' => some (Ex.nrm, st'.cut lv lb)) = some r := h
  show ∃ k, (match runOps (call F k) lo ops s with
   | none => none
   | some st' => some (Ex.nrm, st'.cut lv lb)) = some r
  cases h1 : runOps (callw F) lo ops s with
  | none => rw [h1] at h'; cases h'
  | some s1 =>
   rw [h1] at h'
   obtain ⟨k, q⟩ := ops_fin ops h1
   exact ⟨k, by rw [q]; exact h'⟩
 | dreg ops ps lv lb =>
  intro s r h
  have h' : (match runOpsD (callw F) lo s.mem.next 0 ops { s with mem := s.mem.bump ops.length } with
   | none => none
   | some (st', ks) => if pairsOk ks ps then some (Ex.nrm, st'.cut lv lb) else none) = some r := h
  show ∃ k, (match runOpsD (call F k) lo s.mem.next 0 ops { s with mem := s.mem.bump ops.length } with
   | none => none
   | some (st', ks) => if pairsOk ks ps then some (Ex.nrm, st'.cut lv lb) else none) = some r
  cases h1 : runOpsD (callw F) lo s.mem.next 0 ops { s with mem := s.mem.bump ops.length } with
  | none => rw [h1] at h'; cases h'
  | some s1 =>
   rw [h1] at h'
   obtain ⟨k, q⟩ := opsD_fin ops 0 h1
   exact ⟨k, by rw [q]; exact h'⟩
 | seq x y ihx ihy =>
  intro s r h
  have h' : (match run (callw F) N lo x s with
   | none => none
   | some (.nrm, st') => run (callw F) N lo y st'
   | some (.exit i, st') => some (.exit i, st')
   | some (.ret, st') => some (.ret, st')) = some r := h
  show ∃ k, (match run (call F k) N lo x s with
   | none => none
   | some (.nrm, st') => run (call F k) N lo y st'
   | some (.exit i, st') => some (.exit i, st')
   | some (.ret, st') => some (.ret, st')) = some r
  cases h1 : run (callw F) N lo x s with
  | none => rw [h1] at h'; cases h'
  | some r1 =>
   rw [h1] at h'
   obtain ⟨k1, q1⟩ := ihx h1
   obtain ⟨ex, s1⟩ := r1
   cases ex with
   | nrm =>
    obtain ⟨k2, q2⟩ := ihy h'
    refine ⟨max k1 k2, ?_⟩
    rw [run_mono (call_mono F (Nat.le_max_left k1 k2)) (Nat.le_refl N) x q1]
    exact run_mono (call_mono F (Nat.le_max_right k1 k2)) (Nat.le_refl N) y q2
   | exit i => exact ⟨k1, by rw [q1]; exact h'⟩
   | ret => exact ⟨k1, by rw [q1]; exact h'⟩
 | cond c x y ihx ihy =>
  intro s r h
  have h' : (match getO s c with
   | some (.bool c) => cond c (run (callw F) N lo x s) (run (callw F) N lo y s)
   | _ => none) = some r := h
  show ∃ k, (match getO s c with
   | some (.bool c) => cond c (run (call F k) N lo x s) (run (call F k) N lo y s)
   | _ => none) = some r
  split at h'
  ·rename_i b hb
   cases b with
   | true => exact ihx h'
   | false => exact ihy h'
  ·cases h'
 | block id x ih =>
  intro s r h
  have h' : (match run (callw F) N lo x s with
   | none => none
   | some (.nrm, st') => some (.nrm, st')
   | some (.exit i, st') => if i = id then some (.nrm, st') else some (.exit i, st')
   | some (.ret, st') => some (.ret, st')) = some r := h
  show ∃ k, (match run (call F k) N lo x s with
   | none => none
   | some (.nrm, st') => some (.nrm, st')
   | some (.exit i, st') => if i = id then some (.nrm, st') else some (.exit i, st')
   | some (.ret, st') => some (.ret, st')) = some r
  cases h1 : run (callw F) N lo x s with
  | none => rw [h1] at h'; cases h'
  | some r1 =>
   rw [h1] at h'
   obtain ⟨k, q⟩ := ih h1
   exact ⟨k, by rw [q]; exact h'⟩
 | loop lv lb x ih =>
  intro s r h
  have key : ∀ (n : Nat) {s : St}, iter (fun st => run (callw F) N lo x (st.cut lv lb)) n s = some r → ∃ k, iter (fun st => run (call F k) N lo x (st.cut lv lb)) n s = some r := by
   intro n
   induction n with
   | zero => intro s h; cases h
   | succ n ihn =>
    intro s h
    have h' : (match run (callw F) N lo x (s.cut lv lb) with
     | none => none
     | some (.nrm, st') => iter (fun st => run (callw F) N lo x (st.cut lv lb)) n st'
     | some (.exit i, st') => some (.exit i, st')
     | some (.ret, st') => some (.ret, st')) = some r := h
    show ∃ k, (match run (call F k) N lo x (s.cut lv lb) with
     | none => none
     | some (.nrm, st') => iter (fun st => run (call F k) N lo x (st.cut lv lb)) n st'
     | some (.exit i, st') => some (.exit i, st')
     | some (.ret, st') => some (.ret, st')) = some r
    cases h1 : run (callw F) N lo x (s.cut lv lb) with
    | none => rw [h1] at h'; cases h'
    | some r1 =>
     rw [h1] at h'
     obtain ⟨k1, q1⟩ := ih h1
     obtain ⟨ex, s1⟩ := r1
     cases ex with
     | nrm =>
      obtain ⟨k2, q2⟩ := ihn h'
      refine ⟨max k1 k2, ?_⟩
      rw [run_mono (call_mono F (Nat.le_max_left k1 k2)) (Nat.le_refl N) x q1]
      exact iter_mono (fun s r hr => run_mono (call_mono F (Nat.le_max_right k1 k2)) (Nat.le_refl N) x hr) (Nat.le_refl n) q2
     | exit i => exact ⟨k1, by rw [q1]; exact h'⟩
     | ret => exact ⟨k1, by rw [q1]; exact h'⟩
  exact key N h
def W (F : Nat → Option Fn) (lo : Nat) (c : AC) (st : St) (Q : Ex → St → Prop) : Prop := ∃ N ex st', run (callw F) N lo c st = some (ex, st') ∧ Q ex st'
def R (F : Nat → Option Fn) (lo : Nat) (ops : List Op) (st : St) (Q : St → Prop) : Prop := ∃ st', runOps (callw F) lo ops st = some st' ∧ Q st'
def RD (F : Nat → Option Fn) (lo base i : Nat) (ops : List Op) (st : St) (Q : St → List (List Key) → Prop) : Prop := ∃ st' ks, runOpsD (callw F) lo base i ops st = some (st', ks) ∧ Q st' ks
def KS (F : Nat → Option Fn) (lo : Nat) (b : AC) (Q : Ex → St → Prop) : Ex → St → Prop
 | .nrm, s => W F lo b s Q
 | .exit i, s => Q (.exit i) s
 | .ret, s => Q .ret s
def KB (id : Nat) (Q : Ex → St → Prop) : Ex → St → Prop
 | .nrm, s => Q .nrm s
 | .exit i, s => if i = id then Q .nrm s else Q (.exit i) s
 | .ret, s => Q .ret s
variable {lo : Nat} {st : St} {Q : Ex → St → Prop}
theorem KS_nrm {b : AC} {s : St} : KS F lo b Q .nrm s ↔ W F lo b s Q := Iff.rfl
theorem KS_exit {b : AC} {s : St} {i : Nat} : KS F lo b Q (.exit i) s ↔ Q (.exit i) s := Iff.rfl
theorem KS_ret {b : AC} {s : St} : KS F lo b Q .ret s ↔ Q .ret s := Iff.rfl
theorem KB_nrm {id : Nat} {s : St} : KB id Q .nrm s ↔ Q .nrm s := Iff.rfl
theorem KB_exit {id : Nat} {s : St} {i : Nat} : KB id Q (.exit i) s ↔ if i = id then Q .nrm s else Q (.exit i) s := Iff.rfl
theorem KB_ret {id : Nat} {s : St} : KB id Q .ret s ↔ Q .ret s := Iff.rfl
theorem W_skip : W F lo .skip st Q ↔ Q .nrm st := ⟨fun ⟨_, _, _, h, q⟩ => by cases h; exact q, fun q => ⟨0, _, _, rfl, q⟩⟩
theorem W_exit {i : Nat} : W F lo (.exit i) st Q ↔ Q (.exit i) st := ⟨fun ⟨_, _, _, h, q⟩ => by cases h; exact q, fun q => ⟨0, _, _, rfl, q⟩⟩
theorem W_ret : W F lo .ret st Q ↔ Q .ret st := ⟨fun ⟨_, _, _, h, q⟩ => by cases h; exact q, fun q => ⟨0, _, _, rfl, q⟩⟩
theorem run_seq_eq {ck : Callk} {N : Nat} {a b : AC} : run ck N lo (.seq a b) st = (match run ck N lo a st with
   | none => none
   | some (.nrm, st') => run ck N lo b st'
   | some (.exit i, st') => some (.exit i, st')
   | some (.ret, st') => some (.ret, st')) := rfl
theorem W_seq {a b : AC} : W F lo (.seq a b) st Q ↔ W F lo a st (KS F lo b Q) := by
 constructor
 ·rintro ⟨N, ex, s', h, q⟩
  rw [run_seq_eq] at h
  split at h
  ·cases h
  ·rename_i s1 h1
   exact ⟨N, .nrm, s1, h1, N, ex, s', h, q⟩
  ·rename_i h1; cases h; exact ⟨N, _, _, h1, q⟩
  ·rename_i h1; cases h; exact ⟨N, _, _, h1, q⟩
 ·rintro ⟨N, ex, s', h, q⟩
  cases ex with
  | nrm =>
   obtain ⟨N', ex, s'', h', q⟩ := q
   refine ⟨max N N', ex, s'', ?_, q⟩
   rw [run_seq_eq, run_mono (.refl _) (Nat.le_max_left N N') a h]
   exact run_mono (.refl _) (Nat.le_max_right N N') b h'
  | exit i => exact ⟨N, .exit i, s', by rw [run_seq_eq, h], q⟩
  | ret => exact ⟨N, .ret, s', by rw [run_seq_eq, h], q⟩
theorem W_cond {c : O} {a b : AC} : W F lo (.cond c a b) st Q ↔ ∃ v, getO st c = some (.bool v) ∧ if v = true then W F lo a st Q else W F lo b st Q := by
 have e : ∀ N, run (callw F) N lo (.cond c a b) st = (match getO st c with
   | some (.bool c) => cond c (run (callw F) N lo a st) (run (callw F) N lo b st)
   | _ => none) := fun N => rfl
 constructor
 ·rintro ⟨N, ex, s', h, q⟩
  rw [e] at h
  split at h
  ·rename_i v hv
   refine ⟨v, hv, ?_⟩
   cases v with
   | true => rw [if_pos rfl]; exact ⟨N, ex, s', h, q⟩
   | false => rw [if_neg (by simp)]; exact ⟨N, ex, s', h, q⟩
  ·cases h
 ·rintro ⟨v, hv, h⟩
  cases v with
  | true =>
   rw [if_pos rfl] at h
   obtain ⟨N, ex, s', h, q⟩ := h
   exact ⟨N, ex, s', by rw [e, hv]; exact h, q⟩
  | false =>
   rw [if_neg (by simp)] at h
   obtain ⟨N, ex, s', h, q⟩ := h
   exact ⟨N, ex, s', by rw [e, hv]; exact h, q⟩
theorem W_block {id : Nat} {b : AC} : W F lo (.block id b) st Q ↔ W F lo b st (KB id Q) := by
 have e : ∀ N, run (callw F) N lo (.block id b) st = (match run (callw F) N lo b st with
   | none => none
   | some (.nrm, st') => some (.nrm, st')
   | some (.exit i, st') => if i = id then some (.nrm, st') else some (.exit i, st')
   | some (.ret, st') => some (.ret, st')) := fun N => rfl
 constructor
 ·rintro ⟨N, ex, s', h, q⟩
  rw [e] at h
  split at h
  ·cases h
  ·rename_i h1; cases h; exact ⟨N, _, _, h1, q⟩
  ·rename_i i s1 h1
   refine ⟨N, _, _, h1, ?_⟩
   show if i = id then Q .nrm s1 else Q (.exit i) s1
   split at h
   ·rename_i e; cases h; rw [if_pos e]; exact q
   ·rename_i e; cases h; rw [if_neg e]; exact q
  ·rename_i h1; cases h; exact ⟨N, _, _, h1, q⟩
 ·rintro ⟨N, ex, s', h, q⟩
  cases ex with
  | nrm => exact ⟨N, .nrm, s', by rw [e, h], q⟩
  | exit i =>
   have q' : if i = id then Q .nrm s' else Q (.exit i) s' := q
   by_cases hi : i = id
   ·rw [if_pos hi] at q'
    exact ⟨N, .nrm, s', by rw [e, h]; simp only; rw [if_pos hi], q'⟩
   ·rw [if_neg hi] at q'
    exact ⟨N, .exit i, s', by rw [e, h]; simp only; rw [if_neg hi], q'⟩
  | ret => exact ⟨N, .ret, s', by rw [e, h], q⟩
theorem iter_succ_eq {f : St → Option (Ex × St)} {n : Nat} : iter f (n + 1) st = (match f st with
   | none => none
   | some (.nrm, st') => iter f n st'
   | some (.exit i, st') => some (.exit i, st')
   | some (.ret, st') => some (.ret, st')) := rfl
theorem W_loop {lv lb : List Nat} {b : AC} : W F lo (.loop lv lb b) st Q ↔ W F lo b (st.cut lv lb) (KS F lo (.loop lv lb b) Q) := by
 have e : ∀ N s, run (callw F) N lo (.loop lv lb b) s = iter (fun st => run (callw F) N lo b (st.cut lv lb)) N s := fun N s => rfl
 constructor
 ·rintro ⟨N, ex, s', h, q⟩
  rw [e] at h
  cases N with
  | zero => cases h
  | succ n =>
   rw [iter_succ_eq] at h
   split at h
   ·cases h
   ·rename_i s1 h1
    refine ⟨n + 1, .nrm, s1, h1, n + 1, ex, s', ?_, q⟩
    rw [e]
    exact iter_mono (fun _ _ h => h) (Nat.le_succ n) h
   ·rename_i h1; cases h; exact ⟨n + 1, _, _, h1, q⟩
   ·rename_i h1; cases h; exact ⟨n + 1, _, _, h1, q⟩
 ·rintro ⟨N, ex, s', h, q⟩
  cases ex with
  | nrm =>
   obtain ⟨N', ex, s'', h', q⟩ := q
   rw [e] at h'
   refine ⟨max N N' + 1, ex, s'', ?_, q⟩
   rw [e, iter_succ_eq]
   rw [run_mono (.refl _) (by omega : N ≤ max N N' + 1) b h]
   exact iter_mono (fun _ _ hr => run_mono (.refl _) (by omega : N' ≤ max N N' + 1) b hr) (by omega) h'
  | exit i =>
   refine ⟨N + 1, .exit i, s', ?_, q⟩
   rw [e, iter_succ_eq]
   rw [run_mono (.refl _) (Nat.le_succ N) b h]
  | ret =>
   refine ⟨N + 1, .ret, s', ?_, q⟩
   rw [e, iter_succ_eq]
   rw [run_mono (.refl _) (Nat.le_succ N) b h]
theorem W_reg {ops : List Op} {lv lb : List Nat} : W F lo (.reg ops lv lb) st Q ↔ R F lo ops st (fun s => Q .nrm (s.cut lv lb)) := by
 have e : ∀ N, run (callw F) N lo (.reg ops lv lb) st = (match runOps (callw F) lo ops st with
   | none => none
   | some st' => some (Ex.nrm, st'.cut lv lb)) := fun N => rfl
 constructor
 ·rintro ⟨N, ex, s', h, q⟩
  rw [e] at h
  split at h
  ·cases h
  ·rename_i s1 h1; cases h; exact ⟨s1, h1, q⟩
 ·rintro ⟨s1, h, q⟩
  exact ⟨0, .nrm, _, by rw [e, h], q⟩
theorem W_dreg {ops : List Op} {ps : List (Nat × Nat)} {lv lb : List Nat} : W F lo (.dreg ops ps lv lb) st Q ↔ RD F lo st.mem.next 0 ops { st with mem := st.mem.bump ops.length } (fun s ks => pairsOk ks ps = true ∧ Q .nrm (s.cut lv lb)) := by
 have e : ∀ N, run (callw F) N lo (.dreg ops ps lv lb) st = (match runOpsD (callw F) lo st.mem.next 0 ops { st with mem := st.mem.bump ops.length } with
   | none => none
   | some (st', ks) => if pairsOk ks ps then some (Ex.nrm, st'.cut lv lb) else none) := fun N => rfl
 constructor
 ·rintro ⟨N, ex, s', h, q⟩
  rw [e] at h
  split at h
  ·cases h
  ·rename_i s1 ks h1
   split at h
   ·rename_i hp; cases h; exact ⟨s1, ks, h1, hp, q⟩
   ·cases h
 ·rintro ⟨s1, ks, h, hp, q⟩
  exact ⟨0, .nrm, _, by rw [e, h]; simp only; rw [if_pos hp], q⟩
theorem RD_nil {Q : St → List (List Key) → Prop} {base i : Nat} : RD F lo base i [] st Q ↔ Q st [] := ⟨fun ⟨_, _, h, q⟩ => by cases h; exact q, fun q => ⟨_, _, rfl, q⟩⟩
theorem RD_cons {Q : St → List (List Key) → Prop} {base i : Nat} {o : Op} {os : List Op} : RD F lo base i (o :: os) st Q ↔ ∃ s, step (callw F) lo (base + i) st o = some s ∧ RD F lo base (i + 1) os s (fun s' ks => Q s' (keysOf (base + i) st o :: ks)) := by
 unfold RD
 constructor
 ·rintro ⟨s', ks, h, q⟩
  simp only [runOpsD] at h
  split at h
  ·cases h
  ·rename_i s1 h1
   split at h
   ·cases h
   ·rename_i h2; cases h; exact ⟨s1, h1, _, _, h2, q⟩
 ·rintro ⟨s1, h1, s2, ks, h, q⟩
  exact ⟨s2, _, by simp only [runOpsD]; rw [h1]; simp only; rw [h], q⟩
theorem W_mono {c : AC} {Q' : Ex → St → Prop} (h : W F lo c st Q) (hq : ∀ ex s, Q ex s → Q' ex s) : W F lo c st Q' :=
 let ⟨N, ex, s, h, q⟩ := h; ⟨N, ex, s, h, hq _ _ q⟩
def PostP (fn : Fn) (m : Mem) (v : V) : Ex → St → Prop
 | .exit _, _ => False
 | _, st => ∃ vs, getRes st fn.res = some vs ∧ freeze m.next st.mem 8 (resV vs) = some v
def PostI (fn : Fn) (v : V) (m' : Mem) : Ex → St → Prop
 | .exit _, _ => False
 | _, st => ∃ vs, getRes st fn.res = some vs ∧ resV vs = v ∧ st.mem = m'
theorem callw_pure {f : Nat} {fn : Fn} {args : List V} {m : Mem} {v : V} (hF : F f = some fn) (hp : fn.pure = true) (hn : args.length = fn.np) (h : W F m.next fn.body ⟨initEnv 0 args, [], [], m⟩ (PostP fn m v)) : callw F f args lo m = some (v, m) := by
 obtain ⟨N, ex, s, h1, q⟩ := h
 obtain ⟨k, h2⟩ := run_fin fn.body h1
 refine callw_iff.2 ⟨max k N + 1, ?_⟩
 rw [call_succ', hF]
 simp only
 rw [if_pos hn, hp]
 simp only [if_true]
 rw [run_mono (call_mono F (Nat.le_max_left k N)) (Nat.le_max_right k N) fn.body h2]
 cases ex with
 | nrm => obtain ⟨vs, q1, q2⟩ := q; simp only [q1, q2]
 | ret => obtain ⟨vs, q1, q2⟩ := q; simp only [q1, q2]
 | exit i => exact q.elim
theorem callw_imp {f : Nat} {fn : Fn} {args : List V} {m m' : Mem} {v : V} (hF : F f = some fn) (hp : fn.pure = false) (hn : args.length = fn.np) (h : W F lo fn.body ⟨initEnv 0 args, [], [], m⟩ (PostI fn v m')) : callw F f args lo m = some (v, m') := by
 obtain ⟨N, ex, s, h1, q⟩ := h
 obtain ⟨k, h2⟩ := run_fin fn.body h1
 refine callw_iff.2 ⟨max k N + 1, ?_⟩
 rw [call_succ', hF]
 simp only
 rw [if_pos hn, hp]
 simp only [Bool.false_eq_true, if_false]
 rw [run_mono (call_mono F (Nat.le_max_left k N)) (Nat.le_max_right k N) fn.body h2]
 cases ex with
 | nrm => obtain ⟨vs, q1, q2, q3⟩ := q; simp only [q1, q2, q3]
 | ret => obtain ⟨vs, q1, q2, q3⟩ := q; simp only [q1, q2, q3]
 | exit i => exact q.elim
end
end Go.Am
namespace Go.Am
open Go
def OC {α : Type} (o : Option α) (k : α → Prop) : Prop := ∃ a, o = some a ∧ k a
theorem OC_some {α : Type} {a : α} {k : α → Prop} : OC (some a) k ↔ k a := ⟨fun ⟨_, h, q⟩ => by cases h; exact q, fun q => ⟨a, rfl, q⟩⟩
theorem OC_none {α : Type} {k : α → Prop} : OC (none : Option α) k ↔ False := ⟨(fun ⟨_, h, _⟩ => by cases h), fun h => h.elim⟩
@[congr] theorem OC_congr {α : Type} {o o' : Option α} {k : α → Prop} (h : o = o') : OC o k = OC o' k := by rw [h]
theorem OC_ite {α : Type} {c : Prop} [Decidable c] {a : Option α} {k : α → Prop} : OC (if c then a else none) k ↔ c ∧ OC a k := by
 by_cases h : c
 ·simp [h]
 ·simp [h, OC_none]
theorem OC_map {α β : Type} {o : Option α} {f : α → β} {k : β → Prop} : OC (o.map f) k ↔ OC o (fun a => k (f a)) := by
 cases o with
 | none => simp [OC_none]
 | some a => simp [OC_some]
section
variable {F : Nat → Option Fn} {lo : Nat}
noncomputable def hd (md : Option (Nat × Nat)) (n : Nat) : Nat := match md with
 | none => n
 | some (b, i) => b + i
noncomputable def nx (md : Option (Nat × Nat)) : Option (Nat × Nat) := match md with
 | none => none
 | some (b, i) => some (b, i + 1)
noncomputable def bmp (md : Option (Nat × Nat)) (al : Bool) (st : St) : St := match md with
 | none => cond al { st with mem := st.mem.bump 1 } st
 | some _ => st
noncomputable def runS (ck : Callk) (lo : Nat) : Option (Nat × Nat) → List Op → St → Option St
 | _, [], st => some st
 | md, o :: os, st => match step ck lo (hd md st.mem.next) st o with
  | none => none
  | some st' => runS ck lo (nx md) os (bmp md o.k.allocs st')
theorem runS_none {ck : Callk} : ∀ (os : List Op) (st : St), runS ck lo none os st = runOps ck lo os st
 | [], st => rfl
 | o :: os, st => by
  rw [runOps_cons]
  show (match step ck lo st.mem.next st o with
   | none => none
   | some st' => runS ck lo none os (bmp none o.k.allocs st')) = _
  cases step ck lo st.mem.next st o with
  | none => rfl
  | some s => exact runS_none os _
theorem runS_some {ck : Callk} {base : Nat} : ∀ (os : List Op) (i : Nat) (st : St), runS ck lo (some (base, i)) os st = (runOpsD ck lo base i os st).map (·.1)
 | [], i, st => rfl
 | o :: os, i, st => by
  show (match step ck lo (base + i) st o with
   | none => none
   | some st' => runS ck lo (some (base, i + 1)) os st') = _
  simp only [runOpsD]
  cases step ck lo (base + i) st o with
  | none => rfl
  | some s =>
   simp only
   rw [runS_some os (i + 1) s]
   cases runOpsD ck lo base (i + 1) os s with
   | none => rfl
   | some r => rfl
def S (F : Nat → Option Fn) (lo : Nat) (md : Option (Nat × Nat)) (ops : List Op) (st : St) (Q : St → Prop) : Prop := OC (runS (callw F) lo md ops st) Q
theorem W_reg' {st : St} {Q : Ex → St → Prop} {ops : List Op} {lv lb : List Nat} : W F lo (.reg ops lv lb) st Q ↔ S F lo none ops st (fun s => Q .nrm (s.cut lv lb)) := by
 rw [W_reg]
 unfold R S OC
 rw [runS_none]
theorem W_dreg0 {st : St} {Q : Ex → St → Prop} {ops : List Op} {lv lb : List Nat} : W F lo (.dreg ops [] lv lb) st Q ↔ S F lo (some (st.mem.next, 0)) ops { st with mem := st.mem.bump ops.length } (fun s => Q .nrm (s.cut lv lb)) := by
 rw [W_dreg]
 unfold RD S OC
 rw [runS_some]
 constructor
 ·rintro ⟨s, ks, h, _, q⟩
  exact ⟨s, by rw [h]; rfl, q⟩
 ·rintro ⟨s, h, q⟩
  rw [Option.map_eq_some_iff] at h
  obtain ⟨⟨s', ks⟩, h1, rfl⟩ := h
  exact ⟨s', ks, h1, rfl, q⟩
@[congr] theorem W_congr {c : AC} {st st' : St} {Q : Ex → St → Prop} (h : st = st') : W F lo c st Q = W F lo c st' Q := by rw [h]
@[congr] theorem S_congr {md md' : Option (Nat × Nat)} {ops : List Op} {st st' : St} {Q : St → Prop} (hm : md = md') (h : st = st') : S F lo md ops st Q = S F lo md' ops st' Q := by rw [h, hm]
@[congr] theorem KS_congr {b : AC} {Q : Ex → St → Prop} {ex ex' : Ex} {s s' : St} (h : ex = ex') (hs : s = s') : KS F lo b Q ex s = KS F lo b Q ex' s' := by rw [h, hs]
@[congr] theorem KB_congr {i : Nat} {Q : Ex → St → Prop} {ex ex' : Ex} {s s' : St} (h : ex = ex') (hs : s = s') : KB i Q ex s = KB i Q ex' s' := by rw [h, hs]
theorem S_nil {md : Option (Nat × Nat)} {st : St} {Q : St → Prop} : S F lo md [] st Q ↔ Q st := OC_some
theorem S_cons {md : Option (Nat × Nat)} {o : Op} {ops : List Op} {st : St} {Q : St → Prop} : S F lo md (o :: ops) st Q ↔ OC (step (callw F) lo (hd md st.mem.next) st o) fun s => S F lo (nx md) ops (bmp md o.k.allocs s) Q := by
 unfold S
 show OC (match step (callw F) lo (hd md st.mem.next) st o with
  | none => none
  | some st' => runS (callw F) lo (nx md) ops (bmp md o.k.allocs st')) Q ↔ _
 cases step (callw F) lo (hd md st.mem.next) st o with
 | none => simp [OC_none]
 | some s => simp [OC_some]
def GV (v : V) (w : Bool) (A B : Prop) : Prop := match v with
 | .bool b => if b = w then A else B
 | .und => B
 | _ => False
@[congr] theorem GV_congr {v v' : V} {w : Bool} {A B : Prop} (h : v = v') : GV v w A B = GV v' w A B := by rw [h]
theorem GV_bool {b w : Bool} {A B : Prop} : GV (.bool b) w A B ↔ if b = w then A else B := Iff.rfl
theorem GV_und {w : Bool} {A B : Prop} : GV .und w A B ↔ B := Iff.rfl
def CV (v : V) (A B : Prop) : Prop := match v with
 | .bool b => if b = true then A else B
 | _ => False
@[congr] theorem CV_congr {v v' : V} {A B : Prop} (h : v = v') : CV v A B = CV v' A B := by rw [h]
theorem CV_bool {b : Bool} {A B : Prop} : CV (.bool b) A B ↔ if b = true then A else B := Iff.rfl
theorem W_cond' {st : St} {Q : Ex → St → Prop} {c : O} {a b : AC} : W F lo (.cond c a b) st Q ↔ OC (getO st c) fun v => CV v (W F lo a st Q) (W F lo b st Q) := by
 rw [W_cond]
 constructor
 ·rintro ⟨v, h, q⟩
  exact ⟨.bool v, h, q⟩
 ·rintro ⟨v, h, q⟩
  cases v <;> first | exact ⟨_, h, q⟩ | exact q.elim
theorem bump_bump {m : Mem} {a b : Nat} : (m.bump a).bump b = m.bump (a + b) := by simp only [Mem.bump, Nat.add_assoc]
theorem bump_blk {m : Mem} {a h : Nat} : (m.bump a).blk h = m.blk h := rfl
theorem bump_next {m : Mem} {a : Nat} : (m.bump a).next = m.next + a := rfl
theorem set_next {m : Mem} {h : Nat} {b : Option Blk} : (m.set h b).next = m.next := rfl
variable {md : Option (Nat × Nat)} {ops : List Op} {e b a : Env} {m : Mem} {Q : St → Prop}
theorem S_guard_e {d t : Nat} {w : Bool} {k : K} {os : List O} (hk : k.allocs = false) : S F lo md (⟨.e d, k, os, some (t, w)⟩ :: ops) ⟨e, b, a, m⟩ Q ↔ OC (e.get t) fun v => GV v w (S F lo md (⟨.e d, k, os, none⟩ :: ops) ⟨e, b, a, m⟩ Q) (S F lo (nx md) ops ⟨(d, .und) :: e, b, a, m⟩ Q) := by
 rw [S_cons]
 simp only [step]
 cases e.get t with
 | none => simp [OC_none]
 | some v =>
  rw [OC_some]
  have hb : bmp md false ⟨(d, .und) :: e, b, a, m⟩ = ⟨(d, .und) :: e, b, a, m⟩ := by cases md <;> rfl
  cases v with
  | bool c =>
   simp only [GV_bool]
   by_cases h : c = w
   ·rw [if_pos h, if_pos h, S_cons]; exact Iff.rfl
   ·rw [if_neg h, if_neg h]
    simp only [skipOp, OC_some, hk, hb]
  | und => simp only [GV_und, skipOp, OC_some, hk, hb]
  | _ => simp only [OC_none]; exact Iff.rfl
theorem S_guard_a {d t : Nat} {w : Bool} {k : K} {os : List O} (hk : k.allocs = false) : S F lo md (⟨.a d, k, os, some (t, w)⟩ :: ops) ⟨e, b, a, m⟩ Q ↔ OC (e.get t) fun v => GV v w (S F lo md (⟨.a d, k, os, none⟩ :: ops) ⟨e, b, a, m⟩ Q) (S F lo (nx md) ops ⟨e, b, (d, .und) :: a, m⟩ Q) := by
 rw [S_cons]
 simp only [step]
 cases e.get t with
 | none => simp [OC_none]
 | some v =>
  rw [OC_some]
  have hb : bmp md false ⟨e, b, (d, .und) :: a, m⟩ = ⟨e, b, (d, .und) :: a, m⟩ := by cases md <;> rfl
  cases v with
  | bool c =>
   simp only [GV_bool]
   by_cases h : c = w
   ·rw [if_pos h, if_pos h, S_cons]; exact Iff.rfl
   ·rw [if_neg h, if_neg h]
    simp only [skipOp, OC_some, hk, hb]
  | und => simp only [GV_und, skipOp, OC_some, hk, hb]
  | _ => simp only [OC_none]; exact Iff.rfl
theorem S_guard_n {t : Nat} {w : Bool} {k : K} {os : List O} (hk : k.allocs = false) : S F lo md (⟨.n, k, os, some (t, w)⟩ :: ops) ⟨e, b, a, m⟩ Q ↔ OC (e.get t) fun v => GV v w (S F lo md (⟨.n, k, os, none⟩ :: ops) ⟨e, b, a, m⟩ Q) (S F lo (nx md) ops ⟨e, b, a, m⟩ Q) := by
 rw [S_cons]
 simp only [step]
 cases e.get t with
 | none => simp [OC_none]
 | some v =>
  rw [OC_some]
  have hb : bmp md false ⟨e, b, a, m⟩ = ⟨e, b, a, m⟩ := by cases md <;> rfl
  cases v with
  | bool c =>
   simp only [GV_bool]
   by_cases h : c = w
   ·rw [if_pos h, if_pos h, S_cons]; exact Iff.rfl
   ·rw [if_neg h, if_neg h]
    simp only [skipOp, OC_some, hk, hb]
  | und => simp only [GV_und, skipOp, OC_some, hk, hb]
  | _ => simp only [OC_none]; exact Iff.rfl
noncomputable def retV (k : K) (vs : List V) : Option V := match plan k vs with
 | some (.ret v) => some v
 | _ => none
def RetK (k : K) : Prop := k.allocs = false ∧ ∀ vs p, plan k vs = some p → ∃ v, p = .ret v
theorem S_ret_e {d : Nat} {k : K} {os : List O} (hk : RetK k) : S F lo md (⟨.e d, k, os, none⟩ :: ops) ⟨e, b, a, m⟩ Q ↔ OC (getOs ⟨e, b, a, m⟩ os) fun vs => OC (retV k vs) fun v => S F lo (nx md) ops ⟨(d, v) :: e, b, a, m⟩ Q := by
 rw [S_cons]
 simp only [step, exec]
 cases getOs ⟨e, b, a, m⟩ os with
 | none => simp [OC_none]
 | some vs =>
  rw [OC_some]
  simp only [retV]
  cases hp : plan k vs with
  | none => simp [OC_none]
  | some p =>
   obtain ⟨v, rfl⟩ := hk.2 vs p hp
   simp only [act, put, OC_some, hk.1]
   have hb : bmp md false ⟨(d, v) :: e, b, a, m⟩ = ⟨(d, v) :: e, b, a, m⟩ := by cases md <;> rfl
   rw [hb]
theorem S_ret_a {d : Nat} {k : K} {os : List O} (hk : RetK k) : S F lo md (⟨.a d, k, os, none⟩ :: ops) ⟨e, b, a, m⟩ Q ↔ OC (getOs ⟨e, b, a, m⟩ os) fun vs => OC (retV k vs) fun v => S F lo (nx md) ops ⟨e, b, (d, v) :: a, m⟩ Q := by
 rw [S_cons]
 simp only [step, exec]
 cases getOs ⟨e, b, a, m⟩ os with
 | none => simp [OC_none]
 | some vs =>
  rw [OC_some]
  simp only [retV]
  cases hp : plan k vs with
  | none => simp [OC_none]
  | some p =>
   obtain ⟨v, rfl⟩ := hk.2 vs p hp
   simp only [act, put, OC_some, hk.1]
   have hb : bmp md false ⟨e, b, (d, v) :: a, m⟩ = ⟨e, b, (d, v) :: a, m⟩ := by cases md <;> rfl
   rw [hb]
theorem retK_of {k : K} (h : k.isRet = true) : RetK k := by
 refine ⟨(by cases k <;> first | rfl | cases h), fun vs p hp => ?_⟩
 cases k <;> first | (cases h; done) | skip
 all_goals simp only [plan, plan_mv, plan_pmv, plan_pick, plan_bin, plan_bq, plan_sq, plan_aq, plan_nq, plan_sadd, plan_not, plan_cvt, plan_cvs, plan_ext, plan_len, plan_mx, plan_mn, plan_bld, plan_lit, plan_six, plan_fld, plan_sl, plan_fa, plan_ia, plan_iaa, plan_nc, plan_mkf, binPlan] at hp
 all_goals repeat' split at hp
 all_goals first
  | (cases hp; done)
  | (cases hp; exact ⟨_, rfl⟩)
  | (simp only [Option.map_eq_some_iff] at hp; obtain ⟨v, _, rfl⟩ := hp; exact ⟨_, rfl⟩)
end
end Go.Am
namespace Go.Am
set_option linter.unusedSimpArgs false
set_option linter.unusedVariables false
open Go
section
variable {st : St}
theorem gs_nil {K : List V → Prop} : OC (getOs st []) K ↔ K [] := by rw [getOs_nil, OC_some]
theorem gs_cons {o : O} {os : List O} {K : List V → Prop} : OC (getOs st (o :: os)) K ↔ OC (getO st o) fun v => OC (getOs st os) fun vs => K (v :: vs) := by
 rw [getOs_cons]
 cases getO st o with
 | none => simp [OC_none]
 | some v =>
  cases getOs st os with
  | none => simp [OC_none, OC_some]
  | some vs => simp [OC_some]
theorem g_t {e b a : Env} {m : Mem} {i : Nat} : getO ⟨e, b, a, m⟩ (.t i) = e.get i := rfl
theorem g_k {v : V} : getO st (.k v) = some v := rfl
theorem g_a {e b a : Env} {m : Mem} {i : Nat} : getO ⟨e, b, a, m⟩ (.a i) = a.get i := rfl
theorem g_b {e b a : Env} {m : Mem} {i : Nat} {K : V → Prop} : OC (getO ⟨e, b, a, m⟩ (.b i)) K ↔ OC (b.get i) fun _ => K (.loc i 0) := by
 simp only [getO]
 cases b.get i with
 | none => simp [OC_none]
 | some v => simp [OC_some]
theorem cut_eq {e b a : Env} {m : Mem} {lv lb : List Nat} : St.cut ⟨e, b, a, m⟩ lv lb = ⟨pick lv e, pick lb b, [], m⟩ := rfl
noncomputable def pickc (t : Nat) (o : Option V) (r : Env) : Env := match o with
 | none => r
 | some v => (t, v) :: r
theorem pickc_some {t : Nat} {v : V} {r : Env} : pickc t (some v) r = (t, v) :: r := rfl
theorem pickc_none {t : Nat} {r : Env} : pickc t none r = r := rfl
theorem pick_nil {e : Env} : pick [] e = [] := rfl
theorem pick_cons {t : Nat} {l : List Nat} {e : Env} : pick (t :: l) e = pickc t (e.get t) (pick l e) := by
 show Option.rec (motive := fun _ => Env) (pick l e) (fun v => (t, v) :: pick l e) (e.get t) = _
 cases e.get t <;> rfl
end
section
variable {k k' : IntKind} {x y : Int} {p : Bool} {s sz h o l n i : Nat} {xs : List V} {u v w : V}
theorem r_mv : retV .mv [v] = some v := rfl
theorem r_pmv : retV .pmv [.ptr h i o] = some (.ptr h i o) := rfl
theorem r_pick {c : Bool} : retV .pick [.bool c, u, v] = some (if c = true then u else v) := rfl
theorem r_bin {op : BinOp} (hop : op ≠ .shr) : retV (.bin op) [.int k x, .int k y] = intOp op k x y := by
 unfold retV
 simp only [plan, plan_bin]
 cases op <;> first
  | exact absurd rfl hop
  | (simp only [binPlan, if_true]; cases intOp _ k x y <;> rfl)
theorem r_add : retV (.bin .add) [.int k x, .int k y] = some (.int k (wrapF k (x + y))) := r_bin (by decide)
theorem r_sub : retV (.bin .sub) [.int k x, .int k y] = some (.int k (wrapF k (x - y))) := r_bin (by decide)
theorem r_mul : retV (.bin .mul) [.int k x, .int k y] = some (.int k (wrapF k (x * y))) := r_bin (by decide)
theorem r_quo : retV (.bin .quo) [.int k x, .int k y] = if y = 0 then none else some (.int k (wrapF k (x.tdiv y))) := r_bin (by decide)
theorem r_rem : retV (.bin .rem) [.int k x, .int k y] = if y = 0 then none else some (.int k (x.tmod y)) := r_bin (by decide)
theorem r_eql : retV (.bin .eql) [.int k x, .int k y] = some (.bool (decide (x = y))) := r_bin (by decide)
theorem r_neq : retV (.bin .neq) [.int k x, .int k y] = some (.bool (!decide (x = y))) := r_bin (by decide)
theorem r_lss : retV (.bin .lss) [.int k x, .int k y] = some (.bool (decide (x < y))) := r_bin (by decide)
theorem r_leq : retV (.bin .leq) [.int k x, .int k y] = some (.bool (decide (x ≤ y))) := r_bin (by decide)
theorem r_gtr : retV (.bin .gtr) [.int k x, .int k y] = some (.bool (decide (y < x))) := r_bin (by decide)
theorem r_geq : retV (.bin .geq) [.int k x, .int k y] = some (.bool (decide (y ≤ x))) := r_bin (by decide)
theorem r_bqe {c d : Bool} : retV (.bq false) [.bool c, .bool d] = some (.bool (decide (c = d))) := by cases c <;> cases d <;> rfl
theorem r_bqn {c d : Bool} : retV (.bq true) [.bool c, .bool d] = some (.bool (!decide (c = d))) := by cases c <;> cases d <;> rfl
theorem r_sqe {c d : List UInt8} : retV (.sq false) [.str c, .str d] = some (.bool (decide (c = d))) := by
 have : (c == d) = decide (c = d) := by by_cases h : c = d <;> simp [h]
 simp only [retV, plan, plan_sq, Bool.false_eq_true, if_false, this]
theorem r_sqn {c d : List UInt8} : retV (.sq true) [.str c, .str d] = some (.bool (!decide (c = d))) := by
 have : (c != d) = !decide (c = d) := by by_cases h : c = d <;> simp [h]
 simp only [retV, plan, plan_sq, if_true, this]
theorem r_aq {ne : Bool} {ks : List Nat} {az bs : List V} : retV (.aq ne ks) [.agg az, .agg bs] = (eqKs ks az bs).map fun r => .bool (if ne then !r else r) := by
 simp only [retV, plan, plan_aq]
 cases eqKs ks az bs <;> rfl
theorem eqKs_nil : eqKs [] [] [] = some true := rfl
theorem eqKs_int {ks : List Nat} {az bs : List V} : eqKs (0 :: ks) (.int k x :: az) (.int k y :: bs) = if x = y then eqKs ks az bs else some false := by
 simp only [eqKs, eqK, if_true]
 by_cases h : x = y
 ·simp [h]
 ·have : (x == y) = false := by simp [h]
  rw [this, if_neg h]
theorem eqKs_bool {ks : List Nat} {c d : Bool} {az bs : List V} : eqKs (1 :: ks) (.bool c :: az) (.bool d :: bs) = if c = d then eqKs ks az bs else some false := by
 simp only [eqKs, eqK]
 cases c <;> cases d <;> rfl
theorem eqKs_str {ks : List Nat} {c d : List UInt8} {az bs : List V} : eqKs (2 :: ks) (.str c :: az) (.str d :: bs) = if c = d then eqKs ks az bs else some false := by
 simp only [eqKs, eqK]
 by_cases h : c = d
 ·simp [h]
 ·have : (c == d) = false := by simp [h]
  rw [this, if_neg h]
theorem r_nq0 {ne : Bool} : retV (.nq ne) [.nil, .nil] = some (.bool (!ne)) := rfl
theorem r_nq1 {ne : Bool} : retV (.nq ne) [.row s h o l, .nil] = some (.bool ne) := rfl
theorem r_not {c : Bool} : retV .not [.bool c] = some (.bool (!c)) := rfl
theorem r_cvt : retV (.cvt k) [.int k' x] = some (.int k (k.wrap x)) := rfl
theorem r_ext : retV (.ext i) [.tup xs] = xs[i]? := by
 simp only [retV, plan, plan_ext, nth_eq]
 cases xs[i]? <;> rfl
theorem r_lenn : retV (.len false) [.nil] = some (.int .i64 0) := rfl
theorem r_lenr : retV (.len false) [.row s h o l] = some (.int .i64 (l : Int)) := rfl
theorem r_lens {c : List UInt8} : retV (.len true) [.str c] = some (.int .i64 (c.length : Int)) := rfl
theorem r_mx : retV .mx [.int k x, .int k' y] = some (.int k (max x y)) := by
 simp only [retV, plan, plan_mx]
 congr 2
 omega
theorem r_mn : retV .mn [.int k x, .int k' y] = some (.int k (min x y)) := by
 simp only [retV, plan, plan_mn]
 congr 2
 omega
theorem r_bld {z : List V} {pl : List (Nat × Nat)} : retV (.bld z pl) xs = (fillC pl xs z).map .agg := by
 simp only [retV, plan, plan_bld]
 cases fillC pl xs z <;> rfl
theorem fillC_nil {z : List V} : fillC [] [] z = some z := rfl
theorem fillC_cons {off : Nat} {pl : List (Nat × Nat)} {vs z : List V} : fillC ((off, sz) :: pl) (v :: vs) z = if v.ones && (v.cells.length == sz) && decide (off + sz ≤ z.length) then fillC pl vs (z.take off ++ v.cells ++ z.drop (off + sz)) else none := rfl
theorem r_lit {z : V} {ix : List Nat} {vs : List V} : retV (.lit sz n z ix) vs = (fillE sz ix vs (List.replicate n z)).map (.lst false sz) := by
 simp only [retV, plan, plan_lit]
 cases fillE sz ix vs (List.replicate n z) <;> rfl
theorem fillE_nil {z : List V} : fillE sz [] [] z = some z := rfl
theorem fillE_cons {ix : List Nat} {vs z : List V} : fillE sz (i :: ix) (v :: vs) z = if v.ones && (v.cells.length == sz) && decide (i < z.length) then fillE sz ix vs (z.set i v) else none := rfl
theorem r_six {c : List UInt8} : retV .six [.str c, .int k x] = if 0 ≤ x then (c[x.toNat]?).map fun c => .int .u8 c.toNat else none := by
 simp only [retV, plan, plan_six, nth_eq]
 by_cases hc : 0 ≤ x
 ·simp only [if_pos hc]
  cases c[x.toNat]? <;> rfl
 ·simp only [if_neg hc]
theorem r_fldf {off : Nat} {cs : List V} : retV (.fld false off sz) [.agg cs] = cs[off]? := by
 simp only [retV, plan, plan_fld, getC, Bool.false_eq_true, if_false, nth_eq, V.cells]
 cases cs[off]? <;> rfl
theorem r_fldt {off : Nat} {cs : List V} : retV (.fld true off sz) [.agg cs] = if off + sz ≤ cs.length then some (.agg ((cs.drop off).take sz)) else none := by
 simp only [retV, plan, plan_fld, getC, if_true, V.cells]
 by_cases hc : off + sz ≤ cs.length
 ·simp [hc]
 ·simp [hc]
theorem r_sl_lh : retV (.sl sz true true false) [v, .int k x, .int k' y] = (if 0 ≤ x ∧ 0 ≤ y ∧ (lenOf v).isSome then slOf sz v x.toNat y.toNat else none) := by
 simp only [retV, plan, plan_sl, Bool.false_eq_true, if_false, optBound, if_true]
 cases hl : lenOf v with
 | none => simp
 | some n =>
  by_cases hx : 0 ≤ x
  ·by_cases hy : 0 ≤ y
   ·simp [hx, hy]
    cases slOf sz v x.toNat y.toNat <;> rfl
   ·simp [hx, hy]
  ·simp [hx]
theorem r_sl_h : retV (.sl sz false true false) [v, .int k' y] = (if 0 ≤ y ∧ (lenOf v).isSome then slOf sz v 0 y.toNat else none) := by
 simp only [retV, plan, plan_sl, Bool.false_eq_true, if_false, optBound, if_true]
 cases hl : lenOf v with
 | none => simp
 | some n =>
  by_cases hy : 0 ≤ y
  ·simp [hy]
   cases slOf sz v 0 y.toNat <;> rfl
  ·simp [hy]
theorem r_sl_l : retV (.sl sz true false false) [v, .int k x] = (match lenOf v with
  | some n => if 0 ≤ x then slOf sz v x.toNat n else none
  | none => none) := by
 simp only [retV, plan, plan_sl, Bool.false_eq_true, if_false, optBound, if_true]
 cases hl : lenOf v with
 | none => simp
 | some n =>
  by_cases hx : 0 ≤ x
  ·simp [hx]
   cases slOf sz v x.toNat n <;> rfl
  ·simp [hx]
theorem r_fap {off : Nat} : retV (.fa off) [.ptr h i o] = some (.ptr h i (o + off)) := rfl
theorem r_fai {off : Nat} : retV (.fa off) [.imm v o] = some (.imm v (o + off)) := rfl
theorem r_fal {off t : Nat} : retV (.fa off) [.loc t o] = some (.loc t (o + off)) := rfl
theorem r_iar : retV (.ia sz) [.row s h o l, .int k x] = if 0 ≤ x ∧ x < l ∧ s = sz then some (.ptr h (o + x.toNat) 0) else none := by
 simp only [retV, plan, plan_ia]
 by_cases hc : 0 ≤ x ∧ x < l ∧ s = sz
 ·simp only [if_pos hc]
 ·simp only [if_neg hc]
theorem r_ial : retV (.ia sz) [.lst p s xs, .int k x] = if 0 ≤ x ∧ s = sz then (xs[x.toNat]?).map fun e => .imm e 0 else none := by
 simp only [retV, plan, plan_ia, nth_eq]
 by_cases hc : 0 ≤ x ∧ s = sz
 ·simp only [if_pos hc]
  cases xs[x.toNat]? <;> rfl
 ·simp only [if_neg hc]
theorem r_iaro : retV (.ia sz) [.ro p sz xs, .int k x] = if 0 ≤ x then (xs[x.toNat]?).map fun e => .imm e 0 else none := by
 show retV (.ia sz) [.lst p (nz sz xs) xs, .int k x] = _
 rw [r_ial]
 cases xs with
 | nil => simp
 | cons y ys =>
  have : nz sz (y :: ys) = sz := rfl
  simp [this]
theorem r_iaap : retV (.iaa n sz) [.ptr h i o, .int k x] = if 0 ≤ x ∧ x < n then some (.ptr h i (o + x.toNat * sz)) else none := by
 simp only [retV, plan, plan_iaa]
 by_cases hc : 0 ≤ x ∧ x < n
 ·simp only [if_pos hc]
 ·simp only [if_neg hc]
theorem r_iaai : retV (.iaa n sz) [.imm v o, .int k x] = if 0 ≤ x ∧ x < n then some (.imm v (o + x.toNat * sz)) else none := by
 simp only [retV, plan, plan_iaa]
 by_cases hc : 0 ≤ x ∧ x < n
 ·simp only [if_pos hc]
 ·simp only [if_neg hc]
theorem r_iaal {t : Nat} : retV (.iaa n sz) [.loc t o, .int k x] = if 0 ≤ x ∧ x < n then some (.loc t (o + x.toNat * sz)) else none := by
 simp only [retV, plan, plan_iaa]
 by_cases hc : 0 ≤ x ∧ x < n
 ·simp only [if_pos hc]
 ·simp only [if_neg hc]
theorem r_ncp : retV .nc [.ptr h i o] = some (.ptr h i o) := rfl
theorem r_nci : retV .nc [.imm v o] = some (.imm v o) := rfl
theorem r_ncl {t : Nat} : retV .nc [.loc t o] = some (.loc t o) := rfl
theorem r_ncf {f : Nat} {cs : List V} : retV .nc [.fn f cs] = some (.fn f cs) := rfl
theorem r_mkf {f : Nat} : retV (.mkf f) xs = some (.fn f xs) := rfl
theorem r_sadd {c d : List UInt8} : retV .sadd [.str c, .str d] = if c.length + d.length < big then some (.str (c ++ d)) else none := by
 simp only [retV, plan, plan_sadd]
 by_cases hc : c.length + d.length < big
 ·simp only [if_pos hc]
 ·simp only [if_neg hc]
theorem lenro : lenOf (.ro p sz xs) = some xs.length := rfl
theorem r_lenro : retV (.len false) [.ro p sz xs] = some (.int .i64 (xs.length : Int)) := rfl
theorem sl_ro {a b : Nat} : slOf sz (.ro p sz xs) a b = if a ≤ b ∧ b ≤ xs.length then some (.ro p sz ((xs.drop a).take (b - a))) else none := by
 show slOf sz (.lst p (nz sz xs) xs) a b = _
 simp only [slOf]
 by_cases h1 : a ≤ b
 ·simp only [h1, true_and, if_true]
  cases xs with
  | nil =>
   have e : ∀ q, V.ro p q [] = V.ro p sz [] := fun _ => rfl
   simp [e]
  | cons y ys =>
   have e : nz sz (y :: ys) = sz := rfl
   simp [e]
 ·simp [h1]
theorem sl_row {a b : Nat} : slOf sz (.row s h o l) a b = if a ≤ b ∧ b ≤ l ∧ s = sz then some (.row s h (o + a) (b - a)) else none := by
 simp only [slOf]
 by_cases h1 : a ≤ b <;> simp [h1]
end
section
variable {F : Nat → Option Fn} {lo : Nat} {md : Option (Nat × Nat)} {ops : List Op} {e b a : Env} {m : Mem} {Q : St → Prop} {d : Nat}
noncomputable def ldV (bx : Env) (m : Mem) (agg : Bool) (sz : Nat) : V → Option V
 | .imm e o => getC agg o sz e
 | .ptr h i o => match m.blk h with
  | some (.row _ es) => match es[i]? with
   | some e => getC agg o sz e
   | none => none
  | _ => none
 | .loc t o => match bx.get t with
  | some e => getC agg o sz e
  | none => none
 | _ => none
theorem ld_imm {bx : Env} {agg : Bool} {sz o : Nat} {v : V} : ldV bx m agg sz (.imm v o) = getC agg o sz v := rfl
theorem ld_ptr {bx : Env} {agg : Bool} {sz h i o s : Nat} {es : List V} (hb : m.blk h = some (.row s es)) : ldV bx m agg sz (.ptr h i o) = (match es[i]? with
   | some e => getC agg o sz e
   | none => none) := by simp only [ldV, hb]
theorem gc_f {o sz : Nat} {v : V} : getC false o sz v = v.cells[o]? := by simp only [getC, Bool.false_eq_true, if_false, nth_eq]
theorem gc_t {o sz : Nat} {v : V} : getC true o sz v = if o + sz ≤ v.cells.length then some (.agg ((v.cells.drop o).take sz)) else none := by simp only [getC, if_true]
theorem ce_agg {cs : List V} : V.cells (.agg cs) = cs := rfl
theorem ce_int {k : IntKind} {x : Int} : V.cells (.int k x) = [.int k x] := rfl
theorem ce_bool {c : Bool} : V.cells (.bool c) = [.bool c] := rfl
theorem ce_str {c : List UInt8} : V.cells (.str c) = [.str c] := rfl
theorem ce_lst {p : Bool} {s : Nat} {xs : List V} : V.cells (.lst p s xs) = [.lst p s xs] := rfl
theorem ce_ro {p : Bool} {s : Nat} {xs : List V} : V.cells (.ro p s xs) = [.ro p s xs] := rfl
theorem ce_row {s h o l : Nat} : V.cells (.row s h o l) = [.row s h o l] := rfl
theorem ce_nil : V.cells .nil = [.nil] := rfl
theorem ce_ptr {h i o : Nat} : V.cells (.ptr h i o) = [.ptr h i o] := rfl
theorem ce_map {h : Nat} : V.cells (.map h) = [.map h] := rfl
theorem ce_fn {f : Nat} {cs : List V} : V.cells (.fn f cs) = [.fn f cs] := rfl
theorem on_int {k : IntKind} {x : Int} : V.ones (.int k x) = true := rfl
theorem on_bool {c : Bool} : V.ones (.bool c) = true := rfl
theorem on_str {c : List UInt8} : V.ones (.str c) = true := rfl
theorem on_lst {p : Bool} {s : Nat} {xs : List V} : V.ones (.lst p s xs) = true := rfl
theorem on_ro {p : Bool} {s : Nat} {xs : List V} : V.ones (.ro p s xs) = true := rfl
theorem on_row {s h o l : Nat} : V.ones (.row s h o l) = true := rfl
theorem on_nil : V.ones .nil = true := rfl
theorem on_ptr {h i o : Nat} : V.ones (.ptr h i o) = true := rfl
theorem on_map {h : Nat} : V.ones (.map h) = true := rfl
theorem on_fn {f : Nat} {cs : List V} : V.ones (.fn f cs) = true := rfl
theorem on_agg {cs : List V} : V.ones (.agg cs) = cs.all V.one := rfl
theorem o1_int {k : IntKind} {x : Int} : V.one (.int k x) = true := rfl
theorem o1_bool {c : Bool} : V.one (.bool c) = true := rfl
theorem o1_str {c : List UInt8} : V.one (.str c) = true := rfl
theorem o1_lst {p : Bool} {s : Nat} {xs : List V} : V.one (.lst p s xs) = true := rfl
theorem o1_ro {p : Bool} {s : Nat} {xs : List V} : V.one (.ro p s xs) = true := rfl
theorem o1_row {s h o l : Nat} : V.one (.row s h o l) = true := rfl
theorem o1_nil : V.one .nil = true := rfl
theorem o1_ptr {h i o : Nat} : V.one (.ptr h i o) = true := rfl
theorem o1_map {h : Nat} : V.one (.map h) = true := rfl
theorem o1_fn {f : Nat} {cs : List V} : V.one (.fn f cs) = true := rfl
theorem S_exec {D : D} {k : K} {os : List O} : S F lo md (⟨D, k, os, none⟩ :: ops) ⟨e, b, a, m⟩ Q ↔ OC (getOs ⟨e, b, a, m⟩ os) fun vs => OC (plan k vs) fun p => OC (act (callw F) lo (hd md m.next) ⟨e, b, a, m⟩ D p) fun s => S F lo (nx md) ops (bmp md k.allocs s) Q := by
 rw [S_cons]
 simp only [step, exec]
 cases getOs ⟨e, b, a, m⟩ os with
 | none => simp [OC_none]
 | some vs =>
  simp only [OC_some]
  cases plan k vs with
  | none => simp [OC_none]
  | some p => simp only [OC_some]
theorem bmp_false {st : St} : bmp md false st = st := by cases md <;> rfl
theorem S_ld {agg : Bool} {sz : Nat} {x : O} : S F lo md (⟨.e d, .ld agg sz, [x], none⟩ :: ops) ⟨e, b, a, m⟩ Q ↔ OC (getO ⟨e, b, a, m⟩ x) fun u => OC (ldV b m agg sz u) fun v => S F lo (nx md) ops ⟨(d, v) :: e, b, a, m⟩ Q := by
 rw [S_exec]
 simp only [gs_cons, gs_nil, K.allocs, bmp_false]
 cases getO ⟨e, b, a, m⟩ x with
 | none => simp [OC_none]
 | some u =>
  simp only [OC_some, plan]
  cases u <;> simp only [plan_ld, ldV, OC_none]
  ·simp only [OC_some, act]
   rename_i h i o
   cases hb : m.blk h with
   | none => simp [OC_none]
   | some B =>
    cases B with
    | map _ => simp [OC_none]
    | row s es =>
     simp only [nth_eq]
     cases es[i]? with
     | none => simp [OC_none]
     | some u =>
      simp only
      cases getC agg o sz u <;> simp [OC_none, OC_some, put]
  ·simp only [OC_some, act]
   rename_i t o
   cases b.get t with
   | none => simp [OC_none]
   | some u =>
    simp only
    cases getC agg o sz u <;> simp [OC_none, OC_some, put]
  ·simp only [OC_map, act, put, OC_some]
noncomputable def stV (lo : Nat) (bx : Env) (m : Mem) (sz : Nat) (v : V) : V → Option (Env × Mem)
 | .ptr h i o => if lo ≤ h then match m.blk h with
   | some (.row s es) => match es[i]? with
    | some e => match setC o sz v e with
     | some e' => some (bx, m.set h (some (.row s (es.set i e'))))
     | none => none
    | none => none
   | _ => none
  else none
 | .loc t o => match bx.get t with
  | some e => match setC o sz v e with
   | some e' => some ((t, e') :: bx, m)
   | none => none
  | none => none
 | _ => none
theorem S_st {sz : Nat} {x y : O} : S F lo md (⟨.n, .st sz, [x, y], none⟩ :: ops) ⟨e, b, a, m⟩ Q ↔ OC (getO ⟨e, b, a, m⟩ x) fun u => OC (getO ⟨e, b, a, m⟩ y) fun v => OC (stV lo b m sz v u) fun r => S F lo (nx md) ops ⟨e, r.1, a, r.2⟩ Q := by
 rw [S_exec]
 simp only [gs_cons, gs_nil, K.allocs, bmp_false]
 cases getO ⟨e, b, a, m⟩ x with
 | none => simp [OC_none]
 | some u =>
  cases getO ⟨e, b, a, m⟩ y with
  | none => simp [OC_none, OC_some]
  | some v =>
   simp only [OC_some, plan]
   cases u <;> simp only [plan_st, stV, OC_none]
   ·simp only [OC_some, act]
    rename_i h i o
    by_cases hl : lo ≤ h
    ·simp only [if_pos hl]
     cases hb : m.blk h with
     | none => simp [OC_none]
     | some B =>
      cases B with
      | map _ => simp [OC_none]
      | row s es =>
       simp only [nth_eq]
       cases es[i]? with
       | none => simp [OC_none]
       | some u =>
        simp only
        cases setC o sz v u <;> simp [OC_none, OC_some, put]
    ·simp only [if_neg hl, OC_none]
   ·simp only [OC_some, act]
    rename_i t o
    cases b.get t with
    | none => simp [OC_none]
    | some u =>
     simp only
     cases setC o sz v u <;> simp [OC_none, OC_some]
theorem S_box {x : O} : S F lo md (⟨.x d, .box, [x], none⟩ :: ops) ⟨e, b, a, m⟩ Q ↔ OC (getO ⟨e, b, a, m⟩ x) fun v => v.ones = true ∧ hasLoc d a = false ∧ S F lo (nx md) ops ⟨e, (d, v) :: b, a, m⟩ Q := by
 rw [S_exec]
 simp only [gs_cons, gs_nil, K.allocs, bmp_false]
 cases getO ⟨e, b, a, m⟩ x with
 | none => simp [OC_none]
 | some v =>
  simp only [OC_some, plan, plan_box]
  by_cases h1 : v.ones = true
  ·simp only [h1, if_true, OC_some, act, true_and]
   cases h2 : hasLoc d a
   ·simp [OC_some]
   ·simp [OC_none]
  ·simp [h1, OC_none]
noncomputable def bm (md : Option (Nat × Nat)) (m : Mem) : Mem := match md with
 | none => m.bump 1
 | some _ => m
theorem bmp_true {e b a : Env} {m : Mem} : bmp md true ⟨e, b, a, m⟩ = ⟨e, b, a, bm md m⟩ := by cases md <;> rfl
theorem bm_none {m : Mem} : bm none m = m.bump 1 := rfl
theorem bm_some {q : Nat × Nat} {m : Mem} : bm (some q) m = m := rfl
theorem hd_none {n : Nat} : hd none n = n := rfl
theorem hd_some {x i n : Nat} : hd (some (x, i)) n = x + i := rfl
theorem nx_none : nx none = none := rfl
theorem nx_some {x i : Nat} : nx (some (x, i)) = some (x, i + 1) := rfl
noncomputable def mkN : V → Option Nat
 | .int _ n => if 0 ≤ n ∧ n < big then some n.toNat else none
 | _ => none
theorem mkN_int {k : IntKind} {n : Int} : mkN (.int k n) = if 0 ≤ n ∧ n < big then some n.toNat else none := rfl
theorem S_mk {sz : Nat} {z : V} {x : O} : S F lo md (⟨.e d, .mk sz z, [x], none⟩ :: ops) ⟨e, b, a, m⟩ Q ↔ OC (getO ⟨e, b, a, m⟩ x) fun u => OC (mkN u) fun n => S F lo (nx md) ops ⟨(d, .row sz (hd md m.next) 0 n) :: e, b, a, bm md (m.set (hd md m.next) (some (.row sz (List.replicate n z))))⟩ Q := by
 rw [S_exec]
 simp only [gs_cons, gs_nil, K.allocs]
 cases getO ⟨e, b, a, m⟩ x with
 | none => simp [OC_none]
 | some u =>
  simp only [OC_some, plan]
  cases u <;> simp only [plan_mk, mkN, OC_none]
  case int k n =>
   by_cases h : 0 ≤ n ∧ n < big
   ·simp only [if_pos h, OC_some, act, put, bmp_true]
   ·simp only [if_neg h, OC_none]
theorem S_hlit {sz n : Nat} {z : V} {ix : List Nat} {os : List O} : S F lo md (⟨.e d, .hlit sz n z ix, os, none⟩ :: ops) ⟨e, b, a, m⟩ Q ↔ OC (getOs ⟨e, b, a, m⟩ os) fun vs => OC (fillE sz ix vs (List.replicate n z)) fun es => S F lo (nx md) ops ⟨(d, .row sz (hd md m.next) 0 n) :: e, b, a, bm md (m.set (hd md m.next) (some (.row sz es)))⟩ Q := by
 rw [S_exec]
 simp only [K.allocs]
 cases getOs ⟨e, b, a, m⟩ os with
 | none => simp [OC_none]
 | some vs =>
  simp only [OC_some, plan, plan_hlit, OC_map, act, put, bmp_true]
theorem S_hbox {sz : Nat} {x : O} : S F lo md (⟨.e d, .hbox sz, [x], none⟩ :: ops) ⟨e, b, a, m⟩ Q ↔ OC (getO ⟨e, b, a, m⟩ x) fun v => v.ones = true ∧ v.cells.length = sz ∧ S F lo (nx md) ops ⟨(d, .ptr (hd md m.next) 0 0) :: e, b, a, bm md (m.set (hd md m.next) (some (.row sz [v])))⟩ Q := by
 rw [S_exec]
 simp only [gs_cons, gs_nil, K.allocs]
 cases getO ⟨e, b, a, m⟩ x with
 | none => simp [OC_none]
 | some v =>
  simp only [OC_some, plan, plan_hbox]
  by_cases h : v.ones = true ∧ v.cells.length = sz
  ·simp [h, OC_some, act, put, bmp_true]
  ·have : (v.ones && v.cells.length == sz) = false := by
    cases hc : (v.ones && v.cells.length == sz) with
    | false => rfl
    | true => simp at hc; exact absurd hc h
   simp only [this, Bool.false_eq_true, if_false, OC_none, false_iff]
   intro hh
   exact h ⟨hh.1, hh.2.1⟩
theorem S_mkm : S F lo md (⟨.e d, .mkm, [], none⟩ :: ops) ⟨e, b, a, m⟩ Q ↔ S F lo (nx md) ops ⟨(d, .map (hd md m.next)) :: e, b, a, bm md (m.set (hd md m.next) (some (.map [])))⟩ Q := by
 rw [S_exec]
 simp only [gs_nil, K.allocs, plan, plan_mkm, OC_some, act, put, bmp_true]
noncomputable def apV (lo h : Nat) (m : Mem) (sz : Nat) (x y : V) : Option (V × Mem) :=
 match view m y with
 | none => none
 | some (s, xs) => match x with
  | .nil => match xs with
   | [] => some (.nil, m)
   | z :: zs => if s = sz ∧ (z :: zs).length < big then some (.row sz h 0 (z :: zs).length, m.set h (some (.row sz (z :: zs)))) else none
  | .row s0 h' o l => if s0 = sz then if lo ≤ h' ∧ (s = sz ∨ xs.length = 0) ∧ l + xs.length < big then
    match m.blk h' with
    | some (.row s' es) => if s' = sz ∧ o + l ≤ es.length then some (.row sz h 0 (l + xs.length), (m.set h' none).set h (some (.row sz ((es.drop o).take l ++ xs)))) else none
    | _ => none
   else none else none
  | _ => none
theorem S_app {sz : Nat} {x y : O} : S F lo md (⟨.e d, .app sz, [x, y], none⟩ :: ops) ⟨e, b, a, m⟩ Q ↔ OC (getO ⟨e, b, a, m⟩ x) fun u => OC (getO ⟨e, b, a, m⟩ y) fun v => OC (apV lo (hd md m.next) m sz u v) fun r => S F lo (nx md) ops ⟨(d, r.1) :: e, b, a, bm md r.2⟩ Q := by
 rw [S_exec]
 simp only [gs_cons, gs_nil, K.allocs]
 cases getO ⟨e, b, a, m⟩ x with
 | none => simp [OC_none]
 | some u =>
  cases getO ⟨e, b, a, m⟩ y with
  | none => simp [OC_none, OC_some]
  | some v =>
   simp only [OC_some, plan, apV]
   cases u <;> simp only [plan_app, OC_none]
   case nil =>
    simp only [OC_some, act]
    cases view m v with
    | none => simp [OC_none]
    | some q =>
     obtain ⟨s, xs⟩ := q
     cases xs with
     | nil => simp [OC_some, put, bmp_true]
     | cons z zs =>
      by_cases h : s = sz ∧ (z :: zs).length < big
      ·simp only [if_pos h, OC_some, put, bmp_true]
      ·simp only [if_neg h, OC_none]
   case row s0 h' o l =>
    by_cases hs : s0 = sz
    ·simp only [if_pos hs, OC_some, act]
     cases view m v with
     | none => simp [OC_none]
     | some q =>
      obtain ⟨s, xs⟩ := q
      simp only
      by_cases h : lo ≤ h' ∧ (s = sz ∨ xs.length = 0) ∧ l + xs.length < big
      ·simp only [if_pos h]
       cases m.blk h' with
       | none => simp [OC_none]
       | some B =>
        cases B with
        | map _ => simp [OC_none]
        | row s' es =>
         simp only
         by_cases h2 : s' = sz ∧ o + l ≤ es.length
         ·simp only [if_pos h2, OC_some, put, bmp_true]
         ·simp only [if_neg h2, OC_none]
      ·simp only [if_neg h, OC_none]
    ·simp only [if_neg hs, OC_none]
     cases view m v with
     | none => simp [OC_none]
     | some q => simp [OC_none]
   all_goals
    cases view m v with
    | none => simp [OC_none]
    | some q => simp [OC_none]
theorem ap_nil {h : Nat} {sz s : Nat} {y z : V} {zs : List V} (hv : view m y = some (s, z :: zs)) (hs : s = sz) (hb : (z :: zs).length < big) : apV lo h m sz .nil y = some (.row sz h 0 (z :: zs).length, m.set h (some (.row sz (z :: zs)))) := by
 simp only [apV, hv]
 rw [if_pos ⟨hs, hb⟩]
theorem ap_row {h h' o l : Nat} {sz s : Nat} {y : V} {xs es : List V} (hv : view m y = some (s, xs)) (hl : lo ≤ h') (hs : s = sz ∨ xs.length = 0) (hb : l + xs.length < big) (hB : m.blk h' = some (.row sz es)) (ho : o + l ≤ es.length) :
  apV lo h m sz (.row sz h' o l) y = some (.row sz h 0 (l + xs.length), (m.set h' none).set h (some (.row sz ((es.drop o).take l ++ xs)))) := by
 simp only [apV, hv, if_true, if_pos (And.intro hl (And.intro hs hb)), hB, true_and, if_pos ho]
theorem vw_nil : view m .nil = some (0, []) := rfl
theorem vw_lst {p : Bool} {s : Nat} {xs : List V} : view m (.lst p s xs) = some (s, xs) := rfl
theorem vw_ro {p : Bool} {s : Nat} {xs : List V} : view m (.ro p s xs) = some (nz s xs, xs) := rfl
theorem S_call_e {f : Nat} {os : List O} : S F lo md (⟨.e d, .call f, os, none⟩ :: ops) ⟨e, b, a, m⟩ Q ↔ OC (getOs ⟨e, b, a, m⟩ os) fun vs => OC (callw F f vs lo m) fun r => S F lo (nx md) ops ⟨(d, r.1) :: e, b, a, r.2⟩ Q := by
 rw [S_exec]
 simp only [K.allocs, bmp_false]
 cases getOs ⟨e, b, a, m⟩ os with
 | none => simp [OC_none]
 | some vs =>
  simp only [OC_some, plan, plan_call, act]
  cases callw F f vs lo m with
  | none => simp [OC_none]
  | some r => simp [OC_some, put]
theorem S_call_n {f : Nat} {os : List O} : S F lo md (⟨.n, .call f, os, none⟩ :: ops) ⟨e, b, a, m⟩ Q ↔ OC (getOs ⟨e, b, a, m⟩ os) fun vs => OC (callw F f vs lo m) fun r => S F lo (nx md) ops ⟨e, b, a, r.2⟩ Q := by
 rw [S_exec]
 simp only [K.allocs, bmp_false]
 cases getOs ⟨e, b, a, m⟩ os with
 | none => simp [OC_none]
 | some vs =>
  simp only [OC_some, plan, plan_call, act]
  cases callw F f vs lo m with
  | none => simp [OC_none]
  | some r => simp [OC_some, put]
noncomputable def fnV : List V → Option (Nat × List V)
 | .fn f cs :: ws => if f < 1000 then some (f, ws ++ cs) else none
 | _ => none
theorem fnV_cons {f : Nat} {cs ws : List V} : fnV (.fn f cs :: ws) = if f < 1000 then some (f, ws ++ cs) else none := rfl
theorem S_callv {os : List O} : S F lo md (⟨.e d, .callv, os, none⟩ :: ops) ⟨e, b, a, m⟩ Q ↔ OC (getOs ⟨e, b, a, m⟩ os) fun vs => OC (fnV vs) fun q => OC (callw F q.1 q.2 lo m) fun r => S F lo (nx md) ops ⟨(d, r.1) :: e, b, a, r.2⟩ Q := by
 rw [S_exec]
 simp only [K.allocs, bmp_false]
 cases getOs ⟨e, b, a, m⟩ os with
 | none => simp [OC_none]
 | some vs =>
  simp only [OC_some, plan]
  cases vs with
  | nil => simp [plan_callv, fnV, OC_none]
  | cons v ws =>
   cases v <;> simp only [plan_callv, fnV, OC_none]
   case fn f cs =>
    by_cases h : f < 1000
    ·simp only [if_pos h, OC_some, act]
     cases callw F f (ws ++ cs) lo m with
     | none => simp [OC_none]
     | some r => simp [OC_some, put]
    ·simp only [if_neg h, OC_none]
theorem lo_loc {bx : Env} {agg : Bool} {sz t o : Nat} {K : V → Prop} : OC (ldV bx m agg sz (.loc t o)) K ↔ OC (bx.get t) fun e => OC (getC agg o sz e) K := by
 simp only [ldV]
 cases bx.get t with
 | none => simp [OC_none]
 | some v => simp [OC_some]
noncomputable def rowE : Blk → Nat → Option V
 | .row _ es, i => es[i]?
 | _, _ => none
theorem rowE_row {s i : Nat} {es : List V} : rowE (.row s es) i = es[i]? := rfl
theorem lo_ptr {bx : Env} {agg : Bool} {sz h i o : Nat} {K : V → Prop} : OC (ldV bx m agg sz (.ptr h i o)) K ↔ OC (m.blk h) fun B => OC (rowE B i) fun e => OC (getC agg o sz e) K := by
 simp only [ldV]
 cases m.blk h with
 | none => simp [OC_none]
 | some B =>
  cases B with
  | map _ => simp [OC_some, OC_none, rowE]
  | row s es =>
   simp only [OC_some, rowE]
   cases es[i]? with
   | none => simp [OC_none]
   | some e => simp [OC_some]
theorem so_loc {bx : Env} {sz t o : Nat} {v : V} {K : Env × Mem → Prop} : OC (stV lo bx m sz v (.loc t o)) K ↔ OC (bx.get t) fun e => OC (setC o sz v e) fun e' => K ((t, e') :: bx, m) := by
 simp only [stV]
 cases bx.get t with
 | none => simp [OC_none]
 | some u =>
  simp only [OC_some]
  cases setC o sz v u with
  | none => simp [OC_none]
  | some e => simp [OC_some]
noncomputable def rowS : Blk → Nat → V → Blk
 | .row s es, i, v => .row s (es.set i v)
 | b, _, _ => b
theorem rowS_row {s i : Nat} {v : V} {es : List V} : rowS (.row s es) i v = .row s (es.set i v) := rfl
theorem so_ptr {bx : Env} {sz h i o : Nat} {v : V} {K : Env × Mem → Prop} : OC (stV lo bx m sz v (.ptr h i o)) K ↔ lo ≤ h ∧ OC (m.blk h) fun B => OC (rowE B i) fun e => OC (setC o sz v e) fun e' => K (bx, m.set h (some (rowS B i e'))) := by
 simp only [stV]
 by_cases hl : lo ≤ h
 ·simp only [hl, true_and]
  cases m.blk h with
  | none => simp [OC_none]
  | some B =>
   cases B with
   | map _ => simp [OC_some, OC_none, rowE]
   | row s es =>
    simp only [OC_some, rowE, rowS]
    cases es[i]? with
    | none => simp [OC_none]
    | some e =>
     simp only [OC_some]
     cases setC o sz v e with
     | none => simp [OC_none]
     | some e' => simp [OC_some]
 ·simp [hl, OC_none]
theorem sc_agg {o sz : Nat} {v : V} {cs : List V} : setC o sz v (.agg cs) = if v.ones = true ∧ v.cells.length = sz ∧ o + sz ≤ cs.length then some (.agg (cs.take o ++ (v.cells ++ cs.drop (o + sz)))) else none := by
 simp only [setC]
 by_cases h1 : v.ones = true
 ·by_cases h2 : v.cells.length = sz
  ·simp [h1, h2]
  ·have : (v.cells.length == sz) = false := by simp [h2]
   simp [h1, h2]
 ·simp [h1]
theorem sc_ii {k k' : IntKind} {x y : Int} : setC 0 1 (.int k x) (.int k' y) = some (.int k x) := rfl
theorem sc_bb {x y : Bool} : setC 0 1 (.bool x) (.bool y) = some (.bool x) := rfl
theorem sc_rr {s h o l s' h' o' l' : Nat} : setC 0 1 (.row s h o l) (.row s' h' o' l') = some (.row s h o l) := rfl
theorem sc_rn {s h o l : Nat} : setC 0 1 (.row s h o l) .nil = some (.row s h o l) := rfl
theorem sc_on {p : Bool} {s : Nat} {xs : List V} : setC 0 1 (.ro p s xs) .nil = some (.ro p s xs) := rfl
theorem sc_oo {p q : Bool} {s t : Nat} {xs ys : List V} : setC 0 1 (.ro p s xs) (.ro q t ys) = some (.ro p s xs) := rfl
end
end Go.Am
namespace Go.Am
open Go
theorem al_mv : K.allocs (K.mv ) = false := rfl
theorem rk_mv : RetK (K.mv ) := retK_of rfl
theorem al_pmv : K.allocs (K.pmv ) = false := rfl
theorem rk_pmv : RetK (K.pmv ) := retK_of rfl
theorem al_pick : K.allocs (K.pick ) = false := rfl
theorem rk_pick : RetK (K.pick ) := retK_of rfl
theorem al_bin {op : BinOp} : K.allocs (K.bin op) = false := rfl
theorem rk_bin {op : BinOp} : RetK (K.bin op) := retK_of rfl
theorem al_bq {ne : Bool} : K.allocs (K.bq ne) = false := rfl
theorem rk_bq {ne : Bool} : RetK (K.bq ne) := retK_of rfl
theorem al_sq {ne : Bool} : K.allocs (K.sq ne) = false := rfl
theorem rk_sq {ne : Bool} : RetK (K.sq ne) := retK_of rfl
theorem al_aq {ne : Bool} {ks : List Nat} : K.allocs (K.aq ne ks) = false := rfl
theorem rk_aq {ne : Bool} {ks : List Nat} : RetK (K.aq ne ks) := retK_of rfl
theorem al_nq {ne : Bool} : K.allocs (K.nq ne) = false := rfl
theorem rk_nq {ne : Bool} : RetK (K.nq ne) := retK_of rfl
theorem al_sadd : K.allocs (K.sadd ) = false := rfl
theorem rk_sadd : RetK (K.sadd ) := retK_of rfl
theorem al_not : K.allocs (K.not ) = false := rfl
theorem rk_not : RetK (K.not ) := retK_of rfl
theorem al_cvt {k : IntKind} : K.allocs (K.cvt k) = false := rfl
theorem rk_cvt {k : IntKind} : RetK (K.cvt k) := retK_of rfl
theorem al_cvs : K.allocs (K.cvs ) = false := rfl
theorem rk_cvs : RetK (K.cvs ) := retK_of rfl
theorem al_bts : K.allocs (K.bts ) = false := rfl
theorem al_ext {i : Nat} : K.allocs (K.ext i) = false := rfl
theorem rk_ext {i : Nat} : RetK (K.ext i) := retK_of rfl
theorem al_len {str : Bool} : K.allocs (K.len str) = false := rfl
theorem rk_len {str : Bool} : RetK (K.len str) := retK_of rfl
theorem al_mx : K.allocs (K.mx ) = false := rfl
theorem rk_mx : RetK (K.mx ) := retK_of rfl
theorem al_mn : K.allocs (K.mn ) = false := rfl
theorem rk_mn : RetK (K.mn ) := retK_of rfl
theorem al_bld {zero : List V} {pl : List (Nat × Nat)} : K.allocs (K.bld zero pl) = false := rfl
theorem rk_bld {zero : List V} {pl : List (Nat × Nat)} : RetK (K.bld zero pl) := retK_of rfl
theorem al_lit {sz : Nat} {n : Nat} {zero : V} {ix : List Nat} : K.allocs (K.lit sz n zero ix) = false := rfl
theorem rk_lit {sz : Nat} {n : Nat} {zero : V} {ix : List Nat} : RetK (K.lit sz n zero ix) := retK_of rfl
theorem al_hlit {sz : Nat} {n : Nat} {zero : V} {ix : List Nat} : K.allocs (K.hlit sz n zero ix) = true := rfl
theorem al_six : K.allocs (K.six ) = false := rfl
theorem rk_six : RetK (K.six ) := retK_of rfl
theorem al_fld {agg : Bool} {off : Nat} {sz : Nat} : K.allocs (K.fld agg off sz) = false := rfl
theorem rk_fld {agg : Bool} {off : Nat} {sz : Nat} : RetK (K.fld agg off sz) := retK_of rfl
theorem al_sl {sz : Nat} {lo : Bool} {hi : Bool} {mx : Bool} : K.allocs (K.sl sz lo hi mx) = false := rfl
theorem rk_sl {sz : Nat} {lo : Bool} {hi : Bool} {mx : Bool} : RetK (K.sl sz lo hi mx) := retK_of rfl
theorem al_fa {off : Nat} : K.allocs (K.fa off) = false := rfl
theorem rk_fa {off : Nat} : RetK (K.fa off) := retK_of rfl
theorem al_ia {sz : Nat} : K.allocs (K.ia sz) = false := rfl
theorem rk_ia {sz : Nat} : RetK (K.ia sz) := retK_of rfl
theorem al_iaa {n : Nat} {sz : Nat} : K.allocs (K.iaa n sz) = false := rfl
theorem rk_iaa {n : Nat} {sz : Nat} : RetK (K.iaa n sz) := retK_of rfl
theorem al_nc : K.allocs (K.nc ) = false := rfl
theorem rk_nc : RetK (K.nc ) := retK_of rfl
theorem al_ld {agg : Bool} {sz : Nat} : K.allocs (K.ld agg sz) = false := rfl
theorem al_st {sz : Nat} : K.allocs (K.st sz) = false := rfl
theorem al_box : K.allocs (K.box ) = false := rfl
theorem al_hbox {sz : Nat} : K.allocs (K.hbox sz) = true := rfl
theorem al_mk {sz : Nat} {zero : V} : K.allocs (K.mk sz zero) = true := rfl
theorem al_app {sz : Nat} : K.allocs (K.app sz) = true := rfl
theorem al_cpy {sz : Nat} : K.allocs (K.cpy sz) = false := rfl
theorem al_call {f : Nat} : K.allocs (K.call f) = false := rfl
theorem al_callv : K.allocs (K.callv ) = false := rfl
theorem al_mkf {f : Nat} : K.allocs (K.mkf f) = false := rfl
theorem rk_mkf {f : Nat} : RetK (K.mkf f) := retK_of rfl
theorem al_mkm : K.allocs (K.mkm ) = true := rfl
theorem al_look {arr : Bool} {ok : Bool} {zero : V} : K.allocs (K.look arr ok zero) = false := rfl
theorem al_upd {arr : Bool} : K.allocs (K.upd arr) = false := rfl
theorem al_frz {sz : Nat} : K.allocs (K.frz sz) = false := rfl
theorem hasLoc_nil {d : Nat} : hasLoc d [] = false := rfl
theorem hasLoc_cons_ {d t : Nat} {v : V} {a : Env} : hasLoc d ((t, v) :: a) = (isLoc d v || hasLoc d a) := hasLoc_cons ..
theorem il_imm {d o : Nat} {v : V} : isLoc d (.imm v o) = false := rfl
theorem il_ptr {d h i o : Nat} : isLoc d (.ptr h i o) = false := rfl
theorem il_loc {d t o : Nat} : isLoc d (.loc t o) = decide (t = d) := by
 show Nat.beq t d = _
 by_cases h : t = d
 ·subst h; simp
 ·have : Nat.beq t d = false := by
   cases hb : Nat.beq t d with
   | true => exact absurd (Nat.eq_of_beq_eq_true hb) h
   | false => rfl
  rw [this]
  simp [h]
theorem il_und {d : Nat} : isLoc d .und = false := rfl
theorem il_fn {d f : Nat} {cs : List V} : isLoc d (.fn f cs) = false := rfl
theorem ml_o1 {b : Bool} : (b || false) = b := by simp
theorem ml_o2 {b : Bool} : (false || b) = b := rfl
def Rw (lo : Nat) (m : Mem) (sz : Nat) (v : V) (xs : List V) : Prop := (v = .nil ∧ xs = []) ∨ ∃ h, v = .row sz h 0 xs.length ∧ lo ≤ h ∧ h < m.next ∧ m.blk h = some (.row sz xs)
theorem Rw.nil {lo sz : Nat} {m : Mem} : Rw lo m sz .nil [] := .inl ⟨rfl, rfl⟩
theorem Rw.app {lo sz s : Nat} {m : Mem} {v y : V} {xs ys : List V} (h : Rw lo m sz v xs) (hl : lo ≤ m.next) (hv : view m y = some (s, ys)) (hs : s = sz ∨ ys.length = 0) (hb : xs.length + ys.length < big) :
  ∃ v' m', apV lo m.next m sz v y = some (v', m') ∧ Rw lo (m'.bump 1) sz v' (xs ++ ys) ∧ m'.next = m.next ∧ ∀ k, (∀ l, v ≠ .row sz k 0 l) → k ≠ m.next → m'.blk k = m.blk k := by
 rcases h with ⟨rfl, rfl⟩ | ⟨h, rfl, h1, h2, h3⟩
 ·cases ys with
  | nil => exact ⟨.nil, m, by simp only [apV, hv], .inl ⟨rfl, rfl⟩, rfl, fun _ _ _ => rfl⟩
  | cons y ys =>
   have hs' : s = sz := by
    rcases hs with h | h
    ·exact h
    ·simp at h
   refine ⟨_, _, ap_nil hv hs' (by simpa using hb), .inr ⟨m.next, by simp, hl, Nat.lt_succ_self _, by simp [Mem.bump, Mem.set]⟩, rfl, fun k _ hk => by simp [Mem.set, hk]⟩
 ·refine ⟨_, _, ap_row hv h1 hs hb h3 (by simp), .inr ⟨m.next, by simp, hl, Nat.lt_succ_self _, by simp [Mem.bump, Mem.set]⟩, rfl, fun k hk hk2 => ?_⟩
  have : k ≠ h := fun e => hk xs.length (by rw [e])
  simp [Mem.set, hk2, this]
theorem freeze_row {lo n s h o l : Nat} {m : Mem} {es : List V} (hb : m.blk h = some (.row s es)) (hl : lo ≤ h) (ho : o + l ≤ es.length) : Go.Am.freeze lo m (n + 1) (.row s h o l) = (mapO (Go.Am.freeze lo m n) ((es.drop o).take l)).map (.ro true s) := by
 simp only [Go.Am.freeze, hb]
 simp only [hl, ho, and_self, if_true]
theorem Rw.freeze {lo sz n : Nat} {m : Mem} {v : V} {xs : List V} (h : Rw lo m sz v xs) : Go.Am.freeze lo m (n + 1) v = (mapO (Go.Am.freeze lo m n) xs).map (.ro true sz) := by
 rcases h with ⟨rfl, rfl⟩ | ⟨h, rfl, h1, h2, h3⟩
 ·rfl
 ·rw [freeze_row h3 h1 (by simp)]
  simp
theorem Rw.len {lo sz : Nat} {m : Mem} {v : V} {xs : List V} (h : Rw lo m sz v xs) : retV (.len false) [v] = some (.int .i64 (xs.length : Int)) := by
 rcases h with ⟨rfl, rfl⟩ | ⟨h, rfl, _⟩
 ·rfl
 ·rfl
theorem Rw.mono {lo sz : Nat} {m m' : Mem} {v : V} {xs : List V} (h : Rw lo m sz v xs) (hn : m.next ≤ m'.next) (hb : ∀ k l, v = .row sz k 0 l → m'.blk k = m.blk k) : Rw lo m' sz v xs := by
 rcases h with h | ⟨h, rfl, h1, h2, h3⟩
 ·exact .inl h
 ·exact .inr ⟨h, rfl, h1, by omega, by rw [hb h _ rfl]; exact h3⟩
def PP (res : List Res) (m : Mem) (v : V) : Ex → St → Prop
 | .exit _, _ => False
 | _, st => OC (getRes st res) fun vs => freeze m.next st.mem 8 (resV vs) = some v
theorem PP_nrm {res : List Res} {m : Mem} {v : V} {st : St} : PP res m v .nrm st ↔ OC (getRes st res) fun vs => freeze m.next st.mem 8 (resV vs) = some v := Iff.rfl
theorem PP_ret {res : List Res} {m : Mem} {v : V} {st : St} : PP res m v .ret st ↔ OC (getRes st res) fun vs => freeze m.next st.mem 8 (resV vs) = some v := Iff.rfl
def PI (res : List Res) (v : V) (m' : Mem) : Ex → St → Prop
 | .exit _, _ => False
 | _, st => OC (getRes st res) fun vs => resV vs = v ∧ st.mem = m'
theorem PI_nrm {res : List Res} {m' : Mem} {v : V} {st : St} : PI res v m' .nrm st ↔ OC (getRes st res) fun vs => resV vs = v ∧ st.mem = m' := Iff.rfl
theorem PI_ret {res : List Res} {m' : Mem} {v : V} {st : St} : PI res v m' .ret st ↔ OC (getRes st res) fun vs => resV vs = v ∧ st.mem = m' := Iff.rfl
section
variable {F : Nat → Option Fn} {lo f np am bm : Nat} {res : List Res} {body : AC} {args : List V} {m m' : Mem} {v : V}
theorem call_p (hF : F f = some ⟨np, am, bm, true, res, body⟩) (hn : args.length = np) (h : W F m.next body ⟨initEnv 0 args, [], [], m⟩ (PP res m v)) : callw F f args lo m = some (v, m) :=
 callw_pure hF rfl hn (W_mono h fun ex s q => by cases ex <;> exact q)
theorem call_i (hF : F f = some ⟨np, am, bm, false, res, body⟩) (hn : args.length = np) (h : W F lo body ⟨initEnv 0 args, [], [], m⟩ (PI res v m')) : callw F f args lo m = some (v, m') :=
 callw_imp hF rfl hn (W_mono h fun ex s q => by cases ex <;> exact q)
theorem ie_nil {i : Nat} : initEnv i [] = [] := rfl
theorem ie_cons {i : Nat} {v : V} {vs : List V} : initEnv i (v :: vs) = (i, v) :: initEnv (i + 1) vs := rfl
theorem rs_nil {st : St} : getRes st [] = some [] := rfl
theorem rs_cons {st : St} {r : Res} {rs : List Res} {K : List V → Prop} : OC (getRes st (r :: rs)) K ↔ OC (getR st r) fun v => OC (getRes st rs) fun vs => K (v :: vs) := by
 simp only [getRes]
 cases getR st r with
 | none => simp [OC_none]
 | some v =>
  simp only [OC_some]
  cases getRes st rs with
  | none => simp [OC_none]
  | some vs => simp [OC_some]
theorem gr_t {e b a : Env} {m : Mem} {i : Nat} : getR ⟨e, b, a, m⟩ (.t i) = e.get i := rfl
theorem gr_c {e b a : Env} {m : Mem} {i sz : Nat} {agg : Bool} {K : V → Prop} : OC (getR ⟨e, b, a, m⟩ (.c i agg sz)) K ↔ OC (b.get i) fun e => OC (getC agg 0 sz e) K := by
 simp only [getR]
 cases b.get i with
 | none => simp [OC_none]
 | some v => simp [OC_some]
theorem rv_one {v : V} : resV [v] = v := rfl
theorem rv_two {u v : V} : resV [u, v] = .tup [u, v] := rfl
theorem rv_three {u v w : V} : resV [u, v, w] = .tup [u, v, w] := rfl
theorem mapO_id {f : V → Option V} : ∀ {xs : List V}, (∀ x ∈ xs, f x = some x) → mapO f xs = some xs
 | [], _ => rfl
 | x :: xs, h => by
  simp only [mapO, h x (by simp)]
  rw [mapO_id (fun y hy => h y (by simp [hy]))]
theorem mo_nil {f : V → Option V} : mapO f [] = some [] := rfl
theorem mo_cons {f : V → Option V} {x : V} {xs : List V} {K : List V → Prop} : OC (mapO f (x :: xs)) K ↔ OC (f x) fun y => OC (mapO f xs) fun ys => K (y :: ys) := by
 simp only [mapO]
 cases f x with
 | none => simp [OC_none]
 | some v =>
  simp only [OC_some]
  cases mapO f xs with
  | none => simp [OC_none]
  | some vs => simp [OC_some]
theorem fz_int {n : Nat} {k : IntKind} {x : Int} : freeze lo m (n + 1) (.int k x) = some (.int k x) := rfl
theorem fz_bool {n : Nat} {c : Bool} : freeze lo m (n + 1) (.bool c) = some (.bool c) := rfl
theorem fz_str {n : Nat} {c : List UInt8} : freeze lo m (n + 1) (.str c) = some (.str c) := rfl
theorem fz_nil {n : Nat} : freeze lo m (n + 1) .nil = some (.ro true 0 []) := rfl
theorem fz_ro {n sz : Nat} {xs : List V} : freeze lo m (n + 1) (.ro true sz xs) = some (.ro true sz xs) := rfl
theorem fz_agg {n : Nat} {cs : List V} : freeze lo m (n + 1) (.agg cs) = (mapO (freeze lo m n) cs).map .agg := rfl
theorem fz_tup {n : Nat} {cs : List V} : freeze lo m (n + 1) (.tup cs) = (mapO (freeze lo m n) cs).map .tup := rfl
theorem fz_lit {n sz : Nat} {xs : List V} : freeze lo m (n + 1) (.lst false sz xs) = (mapO (freeze lo m n) xs).map (.ro true sz) := rfl
theorem fz_row {n s h o l : Nat} {es : List V} (hb : m.blk h = some (.row s es)) (hl : lo ≤ h) (ho : o + l ≤ es.length) : freeze lo m (n + 1) (.row s h o l) = (mapO (freeze lo m n) ((es.drop o).take l)).map (.ro true s) := by
 simp only [freeze, hb]
 simp only [hl, ho, and_self, if_true]
end
theorem ml_i0 : ((0 : Nat) : Int) = 0 := rfl
theorem ml_some {n : Nat} : (some n).isSome = true := rfl
theorem ml_sz {n : Nat} : n - 0 = n := rfl
theorem ml_zl {n : Nat} : (0 ≤ n) = True := by simp
theorem ml_len {α β : Type} {f : α → β} {l : List α} : (l.map f).length = l.length := List.length_map ..
theorem ml_get {α β : Type} {f : α → β} {l : List α} {i : Nat} : (l.map f)[i]? = (l[i]?).map f := List.getElem?_map ..
theorem ml_c0 {α : Type} {x : α} {l : List α} : (x :: l)[0]? = some x := rfl
theorem ml_c1 {α : Type} {x y : α} {l : List α} : (x :: y :: l)[1]? = some y := rfl
theorem ml_c2 {α : Type} {x y z : α} {l : List α} : (x :: y :: z :: l)[2]? = some z := rfl
theorem ml_c3 {α : Type} {x y z u : α} {l : List α} : (x :: y :: z :: u :: l)[3]? = some u := rfl
theorem ml_c4 {α : Type} {x y z u v : α} {l : List α} : (x :: y :: z :: u :: v :: l)[4]? = some v := rfl
theorem ml_om {α β : Type} {f : α → β} {x : α} : (some x).map f = some (f x) := rfl
theorem ml_on {α β : Type} {f : α → β} : (none : Option α).map f = none := rfl
theorem ml_nat {n : Nat} : ((n : Nat) : Int).toNat = n := rfl
theorem ml_pos {n : Nat} : (0 ≤ ((n : Nat) : Int)) = True := by simp
theorem ml_ta {p : Prop} : (True ∧ p) = p := by simp
theorem ml_at {p : Prop} : (p ∧ True) = p := by simp
theorem ml_ft : (false = true) = False := by simp
theorem ml_tf : (true = false) = False := by simp
theorem ml_tt : (true = true) = True := by simp
theorem ml_ff : (false = false) = True := by simp
theorem ml_nt : (!true) = false := rfl
theorem ml_nf : (!false) = true := rfl
theorem ml_dt {h : Decidable True} : @decide True h = true := by simp
theorem ml_df {h : Decidable False} : @decide False h = false := by simp
theorem ml_d0 {α : Type} {l : List α} : l.drop 0 = l := rfl
theorem ml_dc {α : Type} {x : α} {l : List α} {n : Nat} : (x :: l).drop (n + 1) = l.drop n := rfl
theorem ml_t0 {α : Type} {l : List α} : l.take 0 = [] := rfl
theorem ml_tc {α : Type} {x : α} {l : List α} {n : Nat} : (x :: l).take (n + 1) = x :: l.take n := rfl
theorem ml_tn {α : Type} {n : Nat} : ([] : List α).take n = [] := by simp
theorem ml_lc {α : Type} {x : α} {l : List α} : (x :: l).length = l.length + 1 := rfl
theorem ml_ln {α : Type} : ([] : List α).length = 0 := rfl
theorem ml_an {α : Type} {l : List α} : [] ++ l = l := rfl
theorem ml_ac {α : Type} {x : α} {l k : List α} : (x :: l) ++ k = x :: (l ++ k) := rfl
theorem ml_alln {p : V → Bool} : ([] : List V).all p = true := rfl
theorem ml_allc {p : V → Bool} {x : V} {l : List V} : (x :: l).all p = (p x && l.all p) := rfl
theorem ml_b1 {b : Bool} : (true && b) = b := rfl
theorem ml_b2 {b : Bool} : (false && b) = false := rfl
theorem ml_beq {a b : Nat} : (a == b) = decide (a = b) := rfl
theorem ml_z {n : Nat} : 0 + n = n := Nat.zero_add n
theorem ml_z' {n : Nat} : n + 0 = n := rfl
theorem ml_rep {z : V} {n : Nat} : List.replicate (n + 1) z = z :: List.replicate n z := rfl
theorem ml_rep0 {z : V} : List.replicate 0 z = [] := rfl
theorem ml_s0 {x y : V} {l : List V} : (x :: l).set 0 y = y :: l := rfl
theorem ml_s1 {x y z : V} {l : List V} : (x :: z :: l).set 1 y = x :: y :: l := rfl
theorem ml_s2 {x y z u : V} {l : List V} : (x :: z :: u :: l).set 2 y = x :: z :: y :: l := rfl
theorem ml_si {i : Nat} {b : Blk} {m : Mem} : (m.set i (some b)).blk i = some b := by simp [Mem.set]
set_option linter.defProp false
theorem wr_i64 {n : Int} (h1 : -9223372036854775808 ≤ n) (h2 : n ≤ 9223372036854775807) : wrapF .i64 n = n := by
 rw [wrapF_eq]
 exact IntWalk.i64_in n ⟨by omega, by omega⟩
def sxc := And.intro @W_seq (And.intro @W_cond' (And.intro @CV_bool (And.intro @bump_bump (And.intro @bump_blk (And.intro @bump_next (And.intro @set_next (And.intro @W_block (And.intro @W_skip (And.intro @W_exit (And.intro @W_ret (And.intro @W_reg' (And.intro @W_dreg0 (And.intro @KS_nrm (And.intro @KS_exit (And.intro @KS_ret (And.intro @KB_nrm (And.intro @KB_exit (And.intro @KB_ret (And.intro @S_nil (And.intro @S_guard_e (And.intro @S_guard_a (And.intro @S_guard_n (And.intro @GV_bool (And.intro @GV_und (And.intro @S_ret_e (And.intro @S_ret_a (And.intro @OC_some (And.intro @OC_none (And.intro @gs_nil (And.intro @gs_cons (And.intro @g_t (And.intro @g_k (And.intro @g_a (And.intro @g_b (And.intro @cut_eq (And.intro @pickc_some (And.intro @pickc_none (And.intro @pick_nil (And.intro @pick_cons (And.intro @Env.get_nil (And.intro @Env.get_cons (And.intro @hd_none (And.intro @hd_some (And.intro @nx_none (And.intro @nx_some (And.intro @S_ld (And.intro @S_st (And.intro @S_box (And.intro @S_mk (And.intro @S_hlit (And.intro @S_hbox (And.intro @S_mkm (And.intro @S_app (And.intro @S_call_e (And.intro @S_call_n (And.intro @lo_loc (And.intro @lo_ptr (And.intro @so_loc (And.intro @so_ptr (And.intro @S_callv (And.intro @fnV_cons (And.intro @mkN_int (And.intro @PP_nrm (And.intro @PP_ret (And.intro @PI_nrm (And.intro @PI_ret (And.intro @ie_nil (And.intro @ie_cons (And.intro @rs_nil (And.intro @rs_cons (And.intro @gr_t (And.intro @gr_c (And.intro @rv_one (And.intro @rv_two (@rv_three)))))))))))))))))))))))))))))))))))))))))))))))))))))))))))))))))))))))))))
def sxv := And.intro @rowE_row (And.intro @rowS_row (And.intro @sc_agg (And.intro @sc_ii (And.intro @sc_bb (And.intro @sc_rr (And.intro @sc_rn (And.intro @sc_on (And.intro @sc_oo (And.intro @hasLoc_nil (And.intro @il_imm (And.intro @il_ptr (And.intro @il_loc (And.intro @il_und (And.intro @il_fn (And.intro @ml_o1 (And.intro @ml_o2 (And.intro @hasLoc_cons_ (And.intro @r_mv (And.intro @r_pmv (And.intro @r_pick (And.intro @r_add (And.intro @r_sub (And.intro @r_mul (And.intro @r_quo (And.intro @r_rem (And.intro @r_eql (And.intro @r_neq (And.intro @r_lss (And.intro @r_leq (And.intro @r_gtr (And.intro @r_geq (And.intro @r_bqe (And.intro @r_bqn (And.intro @r_sqe (And.intro @r_sqn (And.intro @r_aq (And.intro @eqKs_nil (And.intro @eqKs_int (And.intro @eqKs_bool (And.intro @eqKs_str (And.intro @r_nq0 (And.intro @r_nq1 (And.intro @r_not (And.intro @r_cvt (And.intro @r_ext (And.intro @r_lenro (And.intro @r_lenn (And.intro @r_lenr (And.intro @r_lens (And.intro @r_mx (And.intro @r_mn (And.intro @r_bld (And.intro @fillC_nil (And.intro @fillC_cons (And.intro @r_lit (And.intro @fillE_nil (And.intro @fillE_cons (And.intro @r_six (And.intro @r_fldf (And.intro @r_fldt (And.intro @r_sl_lh (And.intro @r_sl_h (And.intro @r_sl_l (And.intro @r_fap (And.intro @r_fai (And.intro @r_fal (And.intro @r_iar (And.intro @r_iaro (And.intro @r_iaap (And.intro @r_iaai (And.intro @r_iaal (And.intro @r_ncp (And.intro @r_nci (And.intro @r_ncl (And.intro @r_ncf (And.intro @r_mkf (And.intro @r_sadd (And.intro @lenro (And.intro @sl_ro (And.intro @sl_row (And.intro @ld_imm (And.intro @gc_f (And.intro @gc_t (And.intro @ce_agg (And.intro @ce_int (And.intro @ce_bool (And.intro @ce_str (And.intro @ce_lst (And.intro @ce_ro (And.intro @ce_row (And.intro @ce_nil (And.intro @ce_ptr (And.intro @ce_map (And.intro @ce_fn (And.intro @on_int (And.intro @on_bool (And.intro @on_str (And.intro @on_lst (And.intro @on_ro (And.intro @on_row (And.intro @on_nil (And.intro @on_ptr (And.intro @on_map (And.intro @on_fn (And.intro @on_agg (And.intro @o1_int (And.intro @o1_bool (And.intro @o1_str (And.intro @o1_lst (And.intro @o1_ro (And.intro @o1_row (And.intro @o1_nil (And.intro @o1_ptr (And.intro @o1_map (And.intro @o1_fn (And.intro @bm_none (And.intro @bm_some (And.intro @vw_nil (And.intro @vw_ro (And.intro @fz_int (And.intro @fz_bool (And.intro @fz_str (And.intro @fz_nil (And.intro @fz_ro (And.intro @fz_agg (And.intro @fz_tup (And.intro @fz_lit (And.intro @OC_map (And.intro @OC_ite (And.intro @mo_nil (@mo_cons)))))))))))))))))))))))))))))))))))))))))))))))))))))))))))))))))))))))))))))))))))))))))))))))))))))))))))))))))))))))))))))))))))
def sxa := And.intro @al_mv (And.intro @al_pmv (And.intro @al_pick (And.intro @al_bin (And.intro @al_bq (And.intro @al_sq (And.intro @al_aq (And.intro @al_nq (And.intro @al_sadd (And.intro @al_not (And.intro @al_cvt (And.intro @al_cvs (And.intro @al_bts (And.intro @al_ext (And.intro @al_len (And.intro @al_mx (And.intro @al_mn (And.intro @al_bld (And.intro @al_lit (And.intro @al_hlit (And.intro @al_six (And.intro @al_fld (And.intro @al_sl (And.intro @al_fa (And.intro @al_ia (And.intro @al_iaa (And.intro @al_nc (And.intro @al_ld (And.intro @al_st (And.intro @al_box (And.intro @al_hbox (And.intro @al_mk (And.intro @al_app (And.intro @al_cpy (And.intro @al_call (And.intro @al_callv (And.intro @al_mkf (And.intro @al_mkm (And.intro @al_look (And.intro @al_upd (@al_frz))))))))))))))))))))))))))))))))))))))))
def sxr := And.intro @rk_mv (And.intro @rk_pmv (And.intro @rk_pick (And.intro @rk_bin (And.intro @rk_bq (And.intro @rk_sq (And.intro @rk_aq (And.intro @rk_nq (And.intro @rk_sadd (And.intro @rk_not (And.intro @rk_cvt (And.intro @rk_cvs (And.intro @rk_ext (And.intro @rk_len (And.intro @rk_mx (And.intro @rk_mn (And.intro @rk_bld (And.intro @rk_lit (And.intro @rk_six (And.intro @rk_fld (And.intro @rk_sl (And.intro @rk_fa (And.intro @rk_ia (And.intro @rk_iaa (And.intro @rk_nc (@rk_mkf)))))))))))))))))))))))))
def sxm := And.intro @ml_some (And.intro @ml_sz (And.intro @ml_zl (And.intro @ml_len (And.intro @ml_get (And.intro @ml_c0 (And.intro @ml_c1 (And.intro @ml_c2 (And.intro @ml_c3 (And.intro @ml_c4 (And.intro @ml_om (And.intro @ml_on (And.intro @ml_nat (And.intro @ml_pos (And.intro @ml_ta (And.intro @ml_at (And.intro @ml_ft (And.intro @ml_tf (And.intro @ml_tt (And.intro @ml_ff (And.intro @ml_nt (And.intro @ml_nf (And.intro @ml_dt (And.intro @ml_df (And.intro @ml_d0 (And.intro @ml_dc (And.intro @ml_t0 (And.intro @ml_tc (And.intro @ml_tn (And.intro @ml_lc (And.intro @ml_ln (And.intro @ml_an (And.intro @ml_ac (And.intro @ml_alln (And.intro @ml_allc (And.intro @ml_b1 (And.intro @ml_b2 (And.intro @ml_beq (And.intro @ml_z (And.intro @ml_z' (And.intro @ml_rep (And.intro @ml_rep0 (And.intro @ml_s0 (And.intro @ml_s1 (And.intro @ml_s2 (@ml_si)))))))))))))))))))))))))))))))))))))))))))))
def sx := And.intro sxc (And.intro sxv (And.intro sxa (And.intro sxr (sxm))))
theorem W_L {F : Nat → Option Fn} {lo : Nat} {c b : AC} {lv lb : List Nat} {st : St} {Q : Ex → St → Prop} (h : c = .loop lv lb b) : W F lo c st Q ↔ W F lo b (st.cut lv lb) (KS F lo c Q) := by
 subst h
 exact W_loop
end Go.Am
namespace Go.Am
open Go
section
variable {F : Nat → Option Fn} {lo base i : Nat} {ops : List Op} {e b a : Env} {m : Mem} {Q : St → List (List Key) → Prop} {d : Nat}
noncomputable def dkeys : D → List Key
 | .x t => [.bx t]
 | _ => []
noncomputable def vkeys : V → List Key
 | .loc t _ => [.bx t]
 | _ => []
theorem RD_exec {D : D} {k : K} {os : List O} : RD F lo base i (⟨D, k, os, none⟩ :: ops) ⟨e, b, a, m⟩ Q ↔ OC (getOs ⟨e, b, a, m⟩ os) fun vs => OC (plan k vs) fun p => OC (act (callw F) lo (base + i) ⟨e, b, a, m⟩ D p) fun s => RD F lo base (i + 1) ops s (fun s' ks => Q s' ((dkeys D ++ p.keys (base + i)) :: ks)) := by
 rw [RD_cons]
 simp only [step, exec, keysOf]
 cases getOs ⟨e, b, a, m⟩ os with
 | none => simp [OC_none]
 | some vs =>
  simp only [OC_some]
  cases plan k vs with
  | none => simp [OC_none]
  | some p => simp only [OC_some]; exact Iff.rfl
@[congr] theorem RD_congr {os : List Op} {st st' : St} {Q : St → List (List Key) → Prop} (h : st = st') : RD F lo base i os st Q = RD F lo base i os st' Q := by rw [h]
theorem RD_ret_e {k : K} {os : List O} (hk : RetK k) : RD F lo base i (⟨.e d, k, os, none⟩ :: ops) ⟨e, b, a, m⟩ Q ↔ OC (getOs ⟨e, b, a, m⟩ os) fun vs => OC (retV k vs) fun v => RD F lo base (i + 1) ops ⟨(d, v) :: e, b, a, m⟩ (fun s' ks => Q s' (vkeys v :: ks)) := by
 rw [RD_exec]
 cases getOs ⟨e, b, a, m⟩ os with
 | none => simp [OC_none]
 | some vs =>
  simp only [OC_some, retV]
  cases hp : plan k vs with
  | none => simp [OC_none]
  | some p =>
   obtain ⟨v, rfl⟩ := hk.2 vs p hp
   have : dkeys (.e d) ++ (Plan.ret v).keys (base + i) = vkeys v := by cases v <;> rfl
   simp only [OC_some, act, put, this]
theorem RD_ret_a {k : K} {os : List O} (hk : RetK k) : RD F lo base i (⟨.a d, k, os, none⟩ :: ops) ⟨e, b, a, m⟩ Q ↔ OC (getOs ⟨e, b, a, m⟩ os) fun vs => OC (retV k vs) fun v => RD F lo base (i + 1) ops ⟨e, b, (d, v) :: a, m⟩ (fun s' ks => Q s' (vkeys v :: ks)) := by
 rw [RD_exec]
 cases getOs ⟨e, b, a, m⟩ os with
 | none => simp [OC_none]
 | some vs =>
  simp only [OC_some, retV]
  cases hp : plan k vs with
  | none => simp [OC_none]
  | some p =>
   obtain ⟨v, rfl⟩ := hk.2 vs p hp
   have : dkeys (.a d) ++ (Plan.ret v).keys (base + i) = vkeys v := by cases v <;> rfl
   simp only [OC_some, act, put, this]
noncomputable def pkeys : V → List Key
 | .ptr h _ _ => [.h h]
 | .loc t _ => [.bx t]
 | _ => []
theorem RD_ld {agg : Bool} {sz : Nat} {x : O} : RD F lo base i (⟨.e d, .ld agg sz, [x], none⟩ :: ops) ⟨e, b, a, m⟩ Q ↔ OC (getO ⟨e, b, a, m⟩ x) fun u => OC (ldV b m agg sz u) fun v => RD F lo base (i + 1) ops ⟨(d, v) :: e, b, a, m⟩ (fun s' ks => Q s' ((match u with | .imm _ _ => vkeys v | u => pkeys u) :: ks)) := by
 rw [RD_exec]
 simp only [gs_cons, gs_nil]
 cases getO ⟨e, b, a, m⟩ x with
 | none => simp [OC_none]
 | some u =>
  simp only [OC_some, plan]
  cases u <;> simp only [plan_ld, ldV, OC_none]
  ·simp only [OC_some, act]
   rename_i h j o
   cases hb : m.blk h with
   | none => simp [OC_none]
   | some B =>
    cases B with
    | map _ => simp [OC_none]
    | row s es =>
     simp only [nth_eq]
     cases es[j]? with
     | none => simp [OC_none]
     | some u =>
      simp only
      cases getC agg o sz u <;> simp [OC_none, OC_some, put, dkeys, Plan.keys, pkeys]
  ·simp only [OC_some, act]
   rename_i t o
   cases b.get t with
   | none => simp [OC_none]
   | some u =>
    simp only
    cases getC agg o sz u <;> simp [OC_none, OC_some, put, dkeys, Plan.keys, pkeys]
  ·rename_i u o
   simp only [OC_map, act, put, OC_some]
   cases getC agg o sz u with
   | none => simp [OC_none]
   | some v =>
    have : dkeys (.e d) ++ (Plan.ret v).keys (base + i) = vkeys v := by cases v <;> rfl
    simp only [OC_some, this]
theorem RD_st {sz : Nat} {x y : O} : RD F lo base i (⟨.n, .st sz, [x, y], none⟩ :: ops) ⟨e, b, a, m⟩ Q ↔ OC (getO ⟨e, b, a, m⟩ x) fun u => OC (getO ⟨e, b, a, m⟩ y) fun v => OC (stV lo b m sz v u) fun r => RD F lo base (i + 1) ops ⟨e, r.1, a, r.2⟩ (fun s' ks => Q s' (pkeys u :: ks)) := by
 rw [RD_exec]
 simp only [gs_cons, gs_nil]
 cases getO ⟨e, b, a, m⟩ x with
 | none => simp [OC_none]
 | some u =>
  cases getO ⟨e, b, a, m⟩ y with
  | none => simp [OC_none, OC_some]
  | some v =>
   simp only [OC_some, plan]
   cases u <;> simp only [plan_st, stV, OC_none]
   ·simp only [OC_some, act]
    rename_i h j o
    by_cases hl : lo ≤ h
    ·simp only [if_pos hl]
     cases hb : m.blk h with
     | none => simp [OC_none]
     | some B =>
      cases B with
      | map _ => simp [OC_none]
      | row s es =>
       simp only [nth_eq]
       cases es[j]? with
       | none => simp [OC_none]
       | some u =>
        simp only
        cases setC o sz v u <;> simp [OC_none, OC_some, put, dkeys, Plan.keys, pkeys]
    ·simp only [if_neg hl, OC_none]
   ·simp only [OC_some, act]
    rename_i t o
    cases b.get t with
    | none => simp [OC_none]
    | some u =>
     simp only
     cases setC o sz v u <;> simp [OC_none, OC_some, dkeys, Plan.keys, pkeys]
theorem RD_mk {sz : Nat} {z : V} {x : O} : RD F lo base i (⟨.e d, .mk sz z, [x], none⟩ :: ops) ⟨e, b, a, m⟩ Q ↔ OC (getO ⟨e, b, a, m⟩ x) fun u => OC (mkN u) fun n => RD F lo base (i + 1) ops ⟨(d, .row sz (base + i) 0 n) :: e, b, a, m.set (base + i) (some (.row sz (List.replicate n z)))⟩ (fun s' ks => Q s' ([.h (base + i)] :: ks)) := by
 rw [RD_exec]
 simp only [gs_cons, gs_nil]
 cases getO ⟨e, b, a, m⟩ x with
 | none => simp [OC_none]
 | some u =>
  simp only [OC_some, plan]
  cases u <;> simp only [plan_mk, mkN, OC_none]
  case int k n =>
   by_cases h : 0 ≤ n ∧ n < big
   ·simp only [if_pos h, OC_some, act, put]; exact Iff.rfl
   ·simp only [if_neg h, OC_none]
theorem RD_hlit {sz n : Nat} {z : V} {ix : List Nat} {os : List O} : RD F lo base i (⟨.e d, .hlit sz n z ix, os, none⟩ :: ops) ⟨e, b, a, m⟩ Q ↔ OC (getOs ⟨e, b, a, m⟩ os) fun vs => OC (fillE sz ix vs (List.replicate n z)) fun es => RD F lo base (i + 1) ops ⟨(d, .row sz (base + i) 0 n) :: e, b, a, m.set (base + i) (some (.row sz es))⟩ (fun s' ks => Q s' ([.h (base + i)] :: ks)) := by
 rw [RD_exec]
 cases getOs ⟨e, b, a, m⟩ os with
 | none => simp [OC_none]
 | some vs =>
  simp only [OC_some, plan, plan_hlit, OC_map, act, put]; exact Iff.rfl
theorem RD_call_e {f : Nat} {os : List O} : RD F lo base i (⟨.e d, .call f, os, none⟩ :: ops) ⟨e, b, a, m⟩ Q ↔ OC (getOs ⟨e, b, a, m⟩ os) fun vs => OC (callw F f vs lo m) fun r => RD F lo base (i + 1) ops ⟨(d, r.1) :: e, b, a, r.2⟩ (fun s' ks => Q s' ([] :: ks)) := by
 rw [RD_exec]
 cases getOs ⟨e, b, a, m⟩ os with
 | none => simp [OC_none]
 | some vs =>
  simp only [OC_some, plan, plan_call, act]
  cases callw F f vs lo m with
  | none => simp [OC_none]
  | some r => simp only [OC_some, put]; exact Iff.rfl
theorem RD_box {x : O} : RD F lo base i (⟨.x d, .box, [x], none⟩ :: ops) ⟨e, b, a, m⟩ Q ↔ OC (getO ⟨e, b, a, m⟩ x) fun v => v.ones = true ∧ hasLoc d a = false ∧ RD F lo base (i + 1) ops ⟨e, (d, v) :: b, a, m⟩ (fun s' ks => Q s' ([.bx d] :: ks)) := by
 rw [RD_exec]
 simp only [gs_cons, gs_nil]
 cases getO ⟨e, b, a, m⟩ x with
 | none => simp [OC_none]
 | some v =>
  simp only [OC_some, plan, plan_box]
  by_cases h1 : v.ones = true
  ·simp only [h1, if_true, OC_some, act, true_and]
   cases h2 : hasLoc d a
   ·simp only [OC_some, Bool.false_eq_true, if_false, true_and]; exact Iff.rfl
   ·simp [OC_none]
  ·simp [h1, OC_none]
theorem RD_hbox {sz : Nat} {x : O} : RD F lo base i (⟨.e d, .hbox sz, [x], none⟩ :: ops) ⟨e, b, a, m⟩ Q ↔ OC (getO ⟨e, b, a, m⟩ x) fun v => v.ones = true ∧ v.cells.length = sz ∧ RD F lo base (i + 1) ops ⟨(d, .ptr (base + i) 0 0) :: e, b, a, m.set (base + i) (some (.row sz [v]))⟩ (fun s' ks => Q s' ([.h (base + i)] :: ks)) := by
 rw [RD_exec]
 simp only [gs_cons, gs_nil]
 cases getO ⟨e, b, a, m⟩ x with
 | none => simp [OC_none]
 | some v =>
  simp only [OC_some, plan, plan_hbox]
  by_cases h : v.ones = true ∧ v.cells.length = sz
  ·have : (v.ones && v.cells.length == sz) = true := by simp [h]
   rw [if_pos this]
   simp only [OC_some, act, put, h.1, h.2, true_and]; exact Iff.rfl
  ·have : (v.ones && v.cells.length == sz) = false := by
    cases hc : (v.ones && v.cells.length == sz) with
    | false => rfl
    | true => simp at hc; exact absurd hc h
   simp only [this, Bool.false_eq_true, if_false, OC_none, false_iff]
   intro hh
   exact h ⟨hh.1, hh.2.1⟩
theorem RD_app {sz : Nat} {x y : O} : RD F lo base i (⟨.e d, .app sz, [x, y], none⟩ :: ops) ⟨e, b, a, m⟩ Q ↔ OC (getO ⟨e, b, a, m⟩ x) fun u => OC (getO ⟨e, b, a, m⟩ y) fun v => OC (apV lo (base + i) m sz u v) fun r => RD F lo base (i + 1) ops ⟨(d, r.1) :: e, b, a, r.2⟩ (fun s' ks => Q s' ((.h (base + i) :: (u.key ++ v.key)) :: ks)) := by
 rw [RD_exec]
 simp only [gs_cons, gs_nil]
 cases getO ⟨e, b, a, m⟩ x with
 | none => simp [OC_none]
 | some u =>
  cases getO ⟨e, b, a, m⟩ y with
  | none => simp [OC_none, OC_some]
  | some v =>
   simp only [OC_some, plan, apV]
   cases u <;> simp only [plan_app, OC_none]
   case nil =>
    simp only [OC_some, act]
    cases view m v with
    | none => simp [OC_none]
    | some q =>
     obtain ⟨s, xs⟩ := q
     cases xs with
     | nil => simp only [OC_some, put]; exact Iff.rfl
     | cons z zs =>
      by_cases h : s = sz ∧ (z :: zs).length < big
      ·simp only [if_pos h, OC_some, put]; exact Iff.rfl
      ·simp only [if_neg h, OC_none]
   case row s0 h' o l =>
    by_cases hs : s0 = sz
    ·simp only [if_pos hs, OC_some, act]
     cases view m v with
     | none => simp [OC_none]
     | some q =>
      obtain ⟨s, xs⟩ := q
      simp only
      by_cases h : lo ≤ h' ∧ (s = sz ∨ xs.length = 0) ∧ l + xs.length < big
      ·simp only [if_pos h]
       cases m.blk h' with
       | none => simp [OC_none]
       | some B =>
        cases B with
        | map _ => simp [OC_none]
        | row s' es =>
         simp only
         by_cases h2 : s' = sz ∧ o + l ≤ es.length
         ·simp only [if_pos h2, OC_some, put]; exact Iff.rfl
         ·simp only [if_neg h2, OC_none]
      ·simp only [if_neg h, OC_none]
    ·simp only [if_neg hs, OC_none]
     cases view m v with
     | none => simp [OC_none]
     | some q => simp [OC_none]
   all_goals
    cases view m v with
    | none => simp [OC_none]
    | some q => simp [OC_none]
theorem po_nil {ks : List (List Key)} : pairsOk ks [] = true := rfl
theorem ka_n {y : List Key} : keysApart [] y = true := rfl
theorem ka_c {x : Key} {xs y : List Key} : keysApart (x :: xs) y = (y.all (fun b => x.apart b) && keysApart xs y) := rfl
theorem kp_hh {x y : Nat} : Key.apart (.h x) (.h y) = decide (x ≠ y) := rfl
theorem kp_bb {x y : Nat} : Key.apart (.bx x) (.bx y) = decide (x ≠ y) := rfl
theorem kp_hb {x y : Nat} : Key.apart (.h x) (.bx y) = true := rfl
theorem kp_bh {x y : Nat} : Key.apart (.bx x) (.h y) = true := rfl
theorem vk_int {k : IntKind} {x : Int} : vkeys (.int k x) = [] := rfl
theorem vk_bool {c : Bool} : vkeys (.bool c) = [] := rfl
theorem vk_str {c : List UInt8} : vkeys (.str c) = [] := rfl
theorem vk_nil : vkeys .nil = [] := rfl
theorem vk_ro {p : Bool} {sz : Nat} {xs : List V} : vkeys (.ro p sz xs) = [] := rfl
theorem vk_row {s h o l : Nat} : vkeys (.row s h o l) = [] := rfl
theorem vk_ptr {h o l : Nat} : vkeys (.ptr h o l) = [] := rfl
theorem vk_imm {v : V} {o : Nat} : vkeys (.imm v o) = [] := rfl
theorem vk_agg {cs : List V} : vkeys (.agg cs) = [] := rfl
theorem vk_tup {cs : List V} : vkeys (.tup cs) = [] := rfl
theorem vk_fn {f : Nat} {cs : List V} : vkeys (.fn f cs) = [] := rfl
theorem vk_loc {t o : Nat} : vkeys (.loc t o) = [.bx t] := rfl
theorem pk_ptr {h o l : Nat} : pkeys (.ptr h o l) = [.h h] := rfl
theorem pk_loc {t o : Nat} : pkeys (.loc t o) = [.bx t] := rfl
theorem k_nil : V.key .nil = [] := rfl
theorem k_row {s h o l : Nat} : V.key (.row s h o l) = [.h h] := rfl
theorem k_ro {p : Bool} {sz : Nat} {xs : List V} : V.key (.ro p sz xs) = [] := rfl
theorem k_all0 {p : Key → Bool} : ([] : List Key).all p = true := rfl
theorem k_all1 {p : Key → Bool} {x : Key} {l : List Key} : (x :: l).all p = (p x && l.all p) := rfl
end
set_option linter.defProp false
def sk := And.intro @RD_nil (And.intro @RD_ret_e (And.intro @RD_ret_a (And.intro @RD_ld (And.intro @RD_st (And.intro @RD_mk (And.intro @RD_hlit (And.intro @RD_call_e (And.intro @RD_box (And.intro @RD_hbox (And.intro @RD_app (And.intro @po_nil (And.intro @ka_n (And.intro @ka_c (And.intro @kp_hh (And.intro @kp_bb (And.intro @kp_hb (And.intro @kp_bh (And.intro @vk_int (And.intro @vk_bool (And.intro @vk_str (And.intro @vk_nil (And.intro @vk_ro (And.intro @vk_row (And.intro @vk_ptr (And.intro @vk_imm (And.intro @vk_agg (And.intro @vk_tup (And.intro @vk_fn (And.intro @vk_loc (And.intro @pk_ptr (And.intro @pk_loc (And.intro @k_nil (And.intro @k_row (And.intro @k_ro (And.intro @k_all0 @k_all1)))))))))))))))))))))))))))))))))))
end Go.Am
