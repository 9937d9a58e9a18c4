/- Walks: the part of a staff. -/
import Derived.Test.YtnlhhjmheghnnaaL3
set_option maxRecDepth 10000
set_option linter.unusedSimpArgs false
set_option linter.unusedVariables false
namespace Go.Hem
variable {pol : Pol}

def partOf : List Part → Nat → Option (Nat × Nat)
  | [], _ => none
  | p :: r, s => if s < p.staves.l.length then some (0, s) else (partOf r (s - p.staves.l.length)).map fun q => (q.1 + 1, q.2)

theorem partOf_spec : ∀ (l : List Part) (s : Nat), (partOf l s = none ∧ stavesOf l ≤ s) ∨ (s < stavesOf l ∧ ∃ a b p, partOf l s = some (a, b) ∧ l[a]? = some p ∧ b < p.staves.l.length ∧ stavesOf (l.take a) + b = s)
  | [], s => .inl ⟨rfl, Nat.zero_le _⟩
  | p :: r, s => by
    have e : stavesOf (p :: r) = p.staves.l.length + stavesOf r := by simp [stavesOf]
    unfold partOf
    by_cases h : s < p.staves.l.length
    · rw [if_pos h]; exact .inr ⟨by omega, 0, s, p, rfl, rfl, h, by simp [stavesOf]⟩
    · rw [if_neg h]
      rcases partOf_spec r (s - p.staves.l.length) with ⟨h1, h2⟩ | ⟨h0, a, b, q, h1, h2, h3, h4⟩
      · rw [h1]; exact .inl ⟨rfl, by omega⟩
      · rw [h1]; exact .inr ⟨by omega, a + 1, b, q, rfl, by simpa using h2, h3, by
          have : stavesOf ((p :: r).take (a + 1)) = p.staves.l.length + stavesOf (r.take a) := by simp [stavesOf]
          omega⟩

theorem partOf_step {l : List Part} {i : Nat} {p : Part} {s : Nat} (h : l[i]? = some p) : partOf (l.drop i) s = if s < p.staves.l.length then some (0, s) else (partOf (l.drop (i + 1)) (s - p.staves.l.length)).map fun q => (q.1 + 1, q.2) := by
  obtain ⟨hi, rfl⟩ := List.getElem?_eq_some_iff.1 h
  rw [List.drop_eq_getElem_cons hi]; rfl
end Go.Hem
