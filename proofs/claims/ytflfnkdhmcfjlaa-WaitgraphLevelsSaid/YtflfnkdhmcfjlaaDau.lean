/- Opening more arguments: lists of numbers, graphs. -/
import Derived.Test.YtflfnkdhmcfjlaaDat
import Derived.Test.YtflfnkdhmcfjlaaMpr
namespace Go.Am
open Go
set_option linter.unusedVariables false

theorem open_ints {v : V} (h : HasV (.sl (.int .i64)) v) : ∃ l : List Int, v = ints l ∧ l.length ≤ maxLen ∧ ∀ n ∈ l, -9223372036854775808 ≤ n ∧ n ≤ 9223372036854775807 := by
  obtain ⟨n, cs, rfl, h⟩ := h
  obtain ⟨rfl, l, rfl, hl, hp⟩ := h.sl_inv dec_int
  refine ⟨l, rfl, hl, fun n hn => ?_⟩
  have := hp n hn
  simp only [Lit.wf, Bool.and_eq_true, decide_eq_true_eq] at this
  exact this
theorem dec_edge : Dec tEdge 4 vEdge (fun _ => True) := fun n cs h => by
  obtain ⟨a, b, n1, n2, rfl, rfl, h1, h⟩ := h.cons_inv
  obtain ⟨c, d, n3, n4, rfl, rfl, h2, h⟩ := h.cons_inv
  obtain ⟨e, f, n5, n6, rfl, rfl, h3, h⟩ := h.cons_inv
  obtain ⟨g, i, n7, n8, rfl, rfl, h4, h⟩ := h.cons_inv
  obtain ⟨rfl, rfl⟩ := h.nil_inv
  obtain ⟨rfl, x, rfl, _⟩ := h1.int_inv
  obtain ⟨rfl, y, rfl, _⟩ := h2.int_inv
  obtain ⟨rfl, z, rfl, _⟩ := h3.int_inv
  obtain ⟨rfl, w, rfl, _⟩ := h4.int_inv
  exact ⟨rfl, ⟨x, y, z, w⟩, rfl, trivial⟩
theorem open_edges {v : V} (h : HasV (.sl tEdge) v) : ∃ l : List Edge, v = vEdges l ∧ l.length ≤ maxLen := by
  obtain ⟨n, cs, rfl, h⟩ := h
  obtain ⟨rfl, l, rfl, hl, hp⟩ := h.sl_inv dec_edge
  exact ⟨l, rfl, hl⟩
end Go.Am
