/- From the abstract machine's answer 'true' to a law's statement. -/
import Derived.Test.YtflfnkdhmcfjlaaCal
import Derived.Test.YtflfnkdhmcfjlaaWp
import Derived.Test.YtflfnkdhmcfjlaaOpn
import Derived.WalkKit
import Derived.ProofKit
import Derived.OpenShut
namespace Go.Am
open Go Go.ChangeShapes Go.WideShapes Go.ChangeAt Go.RowKit

noncomputable def m0 : Mem := ⟨fun _ => none, 0⟩

section
variable {H : Type} {enc : TypeId × Value → H} {P : Program} {W W' : World}

theorem sameAt_of {p : MemPlace} (hlt : p.block < W.heap.size) (hb : ∀ b, b < W.heap.size → W'.heap[b]? = W.heap[b]?) : W.sameAt W' p := by
  cases p with
  | cell b off => exact World.cell?_of_block (a := ⟨b, off, none⟩) (hb b hlt)
  | map b => exact hb b hlt

theorem trodAll_carry {base : Nat} {sp : Nat → Bool} {held : Bool} : ∀ {ts : List TypeId} {vs : List Value} {ds : List (DataW H)} {ps : List MemPlace}, DataW.TrodAll enc P W base sp held ts vs ds ps → (∀ p ∈ ps, W.sameAt W' p) → DataW.TrodAll enc P W' base sp held ts vs ds ps
  | [], [], [], _, h, _ => h
  | _ :: _, _ :: _, _ :: _, _, ⟨p, q, ⟨n, h1⟩, h2, e⟩, hs => ⟨p, q, ⟨n, DataW.trod_carry n _ _ _ h1 (fun x hx => hs x (by rw [e]; exact List.mem_append_left _ hx))⟩, trodAll_carry h2 (fun x hx => hs x (by rw [e]; exact List.mem_append_right _ hx)), e⟩

theorem kept_post {f : Func} {s : ChangeSpec} {args : Array Value} {ds gs : List (DataW H)} {before : List MemPlace} {tb : TypeId} (hW : DataW.Whole enc P f.params.toList s.vars false W args.toList ds gs before) (hv : s.vars = [])
    (hs : s.fn H (ds ++ gs) = { results := [.lit (.bool true)], args := ds }) (hr : f.resultTypes = #[tb]) (htb : P.underlying tb = some .bool) (K : Kids P (· < P.types.size)) (full : ∀ t e, t < P.types.size → P.underlying t = some (.slice e) → 0 < P.cellsOf e)
    (hT : ∀ t ∈ f.params.toList, t < P.types.size) (hos : W'.os = W.os) (hout : W'.output = W.output) (hb : ∀ b, b < W.heap.size → W'.heap[b]? = W.heap[b]?) : s.post enc P f false true false false W args (.bool true) W' := by
  have hW' := hW
  obtain ⟨p, q, hA, hV, rfl, _, _⟩ := hW
  have hlt := hW'.lt
  rw [hv] at hV
  have hq : q = [] ∧ gs = [] := by
    obtain ⟨rfl, rfl⟩ := trodVars_none hV
    exact ⟨rfl, rfl⟩
  obtain ⟨rfl, rfl⟩ := hq
  rw [List.append_nil] at hlt
  have hA2 := DataW.TrodAll.respare (spare' := fun b => decide (b < W.heap.size)) K full hT hA (fun x hx => by simpa using hlt x hx)
  have hA3 := trodAll_carry (W' := W') hA2 (fun x hx => sameAt_of (hlt x hx) hb)
  refine ⟨ds, [], p ++ [], [], p, [], hW', ?_, ?_, ?_, ?_, fun h => by cases h⟩
  · rw [hs, hr]
    exact trodAll_cons_mk (shut_bool htb _) trodAll_mk0
  · rw [hs]
    exact hA3
  · rw [hv, hs]
    rfl
  · refine ⟨hos, hout, fun i hi => ?_⟩
    rw [hb i hi]
    cases hW : W.heap[i]? with
    | none => simp
    | some o => cases o <;> simp

/-- The walk of a law: the abstract machine says true. -/
theorem law_calls {F : Nat → Option Fn} {f : FuncId} {Ts : List Ty} {ts : List TypeId} (hm : P.follows .mixedOrders = true) (hF : ∀ g fn, F g = some fn → okFn P (pfOf F) fn (src g) = true) (hf : f < 1000) (hfit : fitAll P ts Ts = true)
    (hlaw : ∀ us, HasAll Ts us → ∃ m, callw F f us 0 m0 = some (.bool true, m)) {base : Nat} {args : Array Value} {ds : List (DataW H)} {ps : List MemPlace} (hA : DataW.TrodAll enc P W 0 (fun _ => true) true ts args.toList ds ps)
    (hval : ∀ (j : Nat) t v, ts[j]? = some t → args[j]? = some v → Value.okWide P W .any base t v) : Calls P f args W fun e W' => e = .returned (.bool true) ∧ W'.os = W.os ∧ W'.output = W.output ∧ ∀ b, b < W.heap.size → W'.heap[b]? = W.heap[b]? := by
  obtain ⟨us, h1, h2, h3⟩ := open_all hA hfit (fun j t v ht hv => hval j t v ht (by simpa using hv))
  obtain ⟨m, h4⟩ := hlaw us h1
  obtain ⟨k, h5⟩ := callw_iff.1 h4
  have := call_sound hm hF k f us 0 m0 (.bool true) m h5 ⟨fun _ => none, fun b => b < W.heap.size⟩ W args.toList ⟨(fun h b hb => by cases hb), (fun h h' b b' l l' _ hb => by cases hb), fun b hb => hb⟩ (fun h _ => ⟨rfl, rfl⟩) h2 (fun i c x hc hx => .pure (h3 i c x hc hx)) (Nat.zero_le _)
  have hsrc : src f = f := by unfold src; rw [if_pos hf]
  rw [hsrc] at this
  have e : args.toList.toArray = args := by simp
  rw [e] at this
  refine this.mono ?_
  rintro e W' ⟨x, g', rfl, hx, _, _, _, _, _, _, _, hk, _⟩
  refine ⟨by rw [hx.bool_inv], hk.os, hk.output, fun b hb => hk.block b hb ?_⟩
  rintro ⟨h, B, l, _, hB, _⟩
  cases hB
end
end Go.Am
