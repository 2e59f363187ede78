/- A law's arguments as data. -/
import Derived.Test.YtflfnkdhmcfjlaaOpr
import Derived.Test.YtflfnkdhmcfjlaaEnc
namespace Go.Am
open Go

theorem Has.int_inv {k : IntKind} {n : Nat} {cs : List V} (h : Has (.int k) n cs) : n = 1 ∧ ∃ z, cs = [.int k z] ∧ (Lit.int k z).wf = true := by
  cases h with
  | int k z hz => exact ⟨rfl, z, rfl, hz⟩
theorem Has.bool_inv {n : Nat} {cs : List V} (h : Has .bool n cs) : n = 1 ∧ ∃ b, cs = [.bool b] := by
  cases h with
  | bool b => exact ⟨rfl, b, rfl⟩
theorem Has.str_inv {n : Nat} {cs : List V} (h : Has .str n cs) : n = 1 ∧ ∃ s, cs = [.str s] ∧ s.length ≤ maxLen := by
  cases h with
  | str s hs => exact ⟨rfl, s, rfl, hs⟩
theorem Has.nil_inv {n : Nat} {cs : List V} (h : Has (.st []) n cs) : n = 0 ∧ cs = [] := by
  cases h with
  | st0 => exact ⟨rfl, rfl⟩
theorem Has.cons_inv {f : Ty} {fs : List Ty} {n : Nat} {cs : List V} (h : Has (.st (f :: fs)) n cs) : ∃ a b n1 n2, n = n1 + n2 ∧ cs = a ++ b ∧ Has f n1 a ∧ Has (.st fs) n2 b := by
  cases h with
  | st1 f fs n m a b ha hb => exact ⟨a, b, n, m, rfl, rfl, ha, hb⟩

/-- Elements of this type are of k cells, and are such values. -/
def Dec {α : Type} (e : Ty) (k : Nat) (enc : α → V) (P : α → Prop) : Prop := ∀ n cs, Has e n cs → n = k ∧ ∃ a, wrap e cs = enc a ∧ P a

theorem all_dec {α : Type} {enc : α → V} {P : α → Prop} : ∀ {xs : List V}, (∀ x ∈ xs, ∃ a, x = enc a ∧ P a) → ∃ l : List α, xs = l.map enc ∧ ∀ a ∈ l, P a
  | [], _ => ⟨[], rfl, by simp⟩
  | x :: xs, h => by
    obtain ⟨a, rfl, ha⟩ := h x (by simp)
    obtain ⟨l, rfl, hl⟩ := all_dec (xs := xs) (fun y hy => h y (by simp [hy]))
    exact ⟨a :: l, rfl, fun b hb => by
      rcases List.mem_cons.1 hb with rfl | hb
      · exact ha
      · exact hl b hb⟩

theorem Has.sl_inv {α : Type} {e : Ty} {k : Nat} {enc : α → V} {P : α → Prop} (hd : Dec e k enc P) {n : Nat} {cs : List V} (h : Has (.sl e) n cs) : n = 1 ∧ ∃ l : List α, cs = [.ro true k (l.map enc)] ∧ l.length ≤ maxLen ∧ ∀ a ∈ l, P a := by
  cases h with
  | sl e sz xs hl css hw hh =>
    have hx : ∀ x ∈ xs, ∃ a, x = enc a ∧ P a := by
      intro x hx
      obtain ⟨i, hi, rfl⟩ := List.getElem_of_mem hx
      have hg := List.getElem?_eq_getElem hi
      obtain ⟨_, a, ha, hp⟩ := hd _ _ (hh i _ hg)
      exact ⟨a, (hw i _ hg).trans ha, hp⟩
    obtain ⟨l, rfl, hp⟩ := all_dec hx
    refine ⟨rfl, l, ?_, by simpa using hl, hp⟩
    cases l with
    | nil => rfl
    | cons a l =>
      have := (hd _ _ (hh 0 (enc a) rfl)).1
      rw [this]

def tPool : Ty := .st [.str, .int .i64, .int .i64]
def tStp : Ty := .st [.int .i64, .int .i64, .int .i64, .bool]
def tCls : Ty := .st [.str, .int .i64, .bool, .sl tStp]
def tSys : Ty := .st [.sl tPool, .sl .str, .sl tCls]
def tEdge : Ty := .st [.int .i64, .int .i64, .int .i64, .int .i64]

theorem dec_str : Dec .str 1 V.str (fun _ => True) := fun n cs h => by
  obtain ⟨rfl, s, rfl, _⟩ := h.str_inv
  exact ⟨rfl, s, rfl, trivial⟩
theorem dec_int {k : IntKind} : Dec (.int k) 1 (V.int k) (fun n => (Lit.int k n).wf = true) := fun n cs h => by
  obtain ⟨rfl, s, rfl, hs⟩ := h.int_inv
  exact ⟨rfl, s, rfl, hs⟩
theorem dec_pool : Dec tPool 3 vPool (fun _ => True) := fun n cs h => by
  obtain ⟨a, b, n1, n2, rfl, rfl, h1, h⟩ := h.cons_inv
  obtain ⟨c, d, n3, n4, rfl, rfl, h2, h⟩ := h.cons_inv
  obtain ⟨e, f, n5, n6, rfl, rfl, h3, h⟩ := h.cons_inv
  obtain ⟨rfl, rfl⟩ := h.nil_inv
  obtain ⟨rfl, x, rfl, _⟩ := h1.str_inv
  obtain ⟨rfl, y, rfl, _⟩ := h2.int_inv
  obtain ⟨rfl, z, rfl, _⟩ := h3.int_inv
  exact ⟨rfl, ⟨x, y, z⟩, rfl, trivial⟩
theorem dec_stp : Dec tStp 4 vStp (fun _ => True) := fun n cs h => by
  obtain ⟨a, b, n1, n2, rfl, rfl, h1, h⟩ := h.cons_inv
  obtain ⟨c, d, n3, n4, rfl, rfl, h2, h⟩ := h.cons_inv
  obtain ⟨e, f, n5, n6, rfl, rfl, h3, h⟩ := h.cons_inv
  obtain ⟨e, f, n5, n6, rfl, rfl, h4, h⟩ := h.cons_inv
  obtain ⟨rfl, rfl⟩ := h.nil_inv
  obtain ⟨rfl, x, rfl, _⟩ := h1.int_inv
  obtain ⟨rfl, y, rfl, _⟩ := h2.int_inv
  obtain ⟨rfl, z, rfl, _⟩ := h3.int_inv
  obtain ⟨rfl, b, rfl⟩ := h4.bool_inv
  exact ⟨rfl, ⟨x, y, z, b⟩, rfl, trivial⟩
theorem dec_cls : Dec tCls 4 vCls (fun _ => True) := fun n cs h => by
  obtain ⟨a, b, n1, n2, rfl, rfl, h1, h⟩ := h.cons_inv
  obtain ⟨c, d, n3, n4, rfl, rfl, h2, h⟩ := h.cons_inv
  obtain ⟨e, f, n5, n6, rfl, rfl, h3, h⟩ := h.cons_inv
  obtain ⟨e, f, n5, n6, rfl, rfl, h4, h⟩ := h.cons_inv
  obtain ⟨rfl, rfl⟩ := h.nil_inv
  obtain ⟨rfl, x, rfl, _⟩ := h1.str_inv
  obtain ⟨rfl, y, rfl, _⟩ := h2.int_inv
  obtain ⟨rfl, z, rfl⟩ := h3.bool_inv
  obtain ⟨rfl, l, rfl, _⟩ := h4.sl_inv dec_stp
  exact ⟨rfl, ⟨x, y, z, l⟩, rfl, trivial⟩

theorem open_sys {v : V} (h : HasV tSys v) : ∃ s, v = vSys s := by
  obtain ⟨n, cs, rfl, h⟩ := h
  obtain ⟨a, b, n1, n2, rfl, rfl, h1, h⟩ := h.cons_inv
  obtain ⟨c, d, n3, n4, rfl, rfl, h2, h⟩ := h.cons_inv
  obtain ⟨e, f, n5, n6, rfl, rfl, h3, h⟩ := h.cons_inv
  obtain ⟨rfl, rfl⟩ := h.nil_inv
  obtain ⟨rfl, x, rfl, _⟩ := h1.sl_inv dec_pool
  obtain ⟨rfl, y, rfl, _⟩ := h2.sl_inv dec_str
  obtain ⟨rfl, z, rfl, _⟩ := h3.sl_inv dec_cls
  exact ⟨⟨x, y, z⟩, rfl⟩
theorem open_int' {k : IntKind} {v : V} (h : HasV (.int k) v) : ∃ n, v = .int k n ∧ (Lit.int k n).wf = true := by
  obtain ⟨n, cs, rfl, h⟩ := h
  obtain ⟨rfl, x, rfl, hx⟩ := h.int_inv
  exact ⟨x, rfl, hx⟩
theorem open_bool' {v : V} (h : HasV .bool v) : ∃ b, v = .bool b := by
  obtain ⟨n, cs, rfl, h⟩ := h
  obtain ⟨rfl, x, rfl⟩ := h.bool_inv
  exact ⟨x, rfl⟩
theorem open_three {v : V} (h : HasV (.st [.int .i64, .int .i64, .int .i64]) v) : ∃ x y z, v = .agg [.int .i64 x, .int .i64 y, .int .i64 z] := by
  obtain ⟨n, cs, rfl, h⟩ := h
  obtain ⟨a, b, n1, n2, rfl, rfl, h1, h⟩ := h.cons_inv
  obtain ⟨c, d, n3, n4, rfl, rfl, h2, h⟩ := h.cons_inv
  obtain ⟨e, f, n5, n6, rfl, rfl, h3, h⟩ := h.cons_inv
  obtain ⟨rfl, rfl⟩ := h.nil_inv
  obtain ⟨rfl, x, rfl, _⟩ := h1.int_inv
  obtain ⟨rfl, y, rfl, _⟩ := h2.int_inv
  obtain ⟨rfl, z, rfl, _⟩ := h3.int_inv
  exact ⟨x, y, z, rfl⟩
theorem all_one {T : Ty} {us : List V} (h : HasAll [T] us) : ∃ u, us = [u] ∧ HasV T u := by
  cases h with
  | cons _ _ v vs h1 h2 =>
    cases h2
    exact ⟨v, rfl, h1⟩
theorem all_cons {T : Ty} {Ts : List Ty} {us : List V} (h : HasAll (T :: Ts) us) : ∃ u vs, us = u :: vs ∧ HasV T u ∧ HasAll Ts vs := by
  cases h with
  | cons _ _ v vs h1 h2 => exact ⟨v, vs, rfl, h1, h2⟩
theorem all_nil {us : List V} (h : HasAll [] us) : us = [] := by
  cases h
  rfl
end Go.Am
