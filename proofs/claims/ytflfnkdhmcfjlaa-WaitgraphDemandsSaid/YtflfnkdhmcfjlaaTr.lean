/- A table of functions, as a tree. -/
import Derived.Test.YtflfnkdhmcfjlaaAm
namespace Go.Am
inductive Tr where
  | nil
  | leaf (k : Nat) (c : Fn)
  | node (n : Nat) (l r : Tr)
noncomputable def Tr.get (t : Tr) (f : Nat) : Option Fn := Tr.rec none (fun k c => cond (Nat.beq f k) (some c) none) (fun n _ _ l r => cond (Nat.blt f n) l r) t
def Tr.All (p : Nat → Fn → Prop) : Tr → Prop
  | .nil => True
  | .leaf k c => p k c
  | .node _ l r => l.All p ∧ r.All p
theorem Tr.get_all {p : Nat → Fn → Prop} : ∀ (t : Tr), t.All p → ∀ f c, t.get f = some c → p f c
  | .nil, _, f, c, h => by cases h
  | .leaf k c', hp, f, c, h => by
    have h' : cond (Nat.beq f k) (some c') none = some c := h
    cases hb : Nat.beq f k with
    | false => rw [hb] at h'; cases h'
    | true =>
      rw [hb] at h'
      cases h'
      rw [Nat.eq_of_beq_eq_true hb]
      exact hp
  | .node n l r, hp, f, c, h => by
    have h' : cond (Nat.blt f n) (l.get f) (r.get f) = some c := h
    cases hb : Nat.blt f n with
    | false => rw [hb] at h'; exact Tr.get_all r hp.2 f c h'
    | true => rw [hb] at h'; exact Tr.get_all l hp.1 f c h'
end Go.Am
