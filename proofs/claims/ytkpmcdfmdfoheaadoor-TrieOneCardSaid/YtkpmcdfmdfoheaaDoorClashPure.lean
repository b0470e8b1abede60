/- A part of the proof of a seat of tries: ClashPure. -/
import Derived.Test.YtkpmcdfmdfoheaaDoorRootPure
set_option linter.all false
namespace Go.Abs
open Go
def tx (m : List ByteArray) (i : Nat) : ByteArray := m.getD i ⟨#[]⟩
theorem tx_get {m : List ByteArray} {i : Nat} (h : i < m.length) : (sv m)[i]? = some [IV.str (tx m i)] :=
  sv_get m i _ (by simp [tx, List.getD, List.getElem?_eq_getElem h])
theorem tx_mem {m : List ByteArray} {i : Nat} (h : i < m.length) : tx m i ∈ m := by
  have : tx m i = m[i] := by simp [tx, List.getD, List.getElem?_eq_getElem h]
  rw [this]; exact List.getElem_mem h
/-- two unlike texts of one hash, by their places -/
def Two (m : List ByteArray) : Prop := ∃ i k, k < i ∧ i < m.length ∧ sha (tx m i) = sha (tx m k) ∧ tx m i ≠ tx m k
theorem clash_places {m : List ByteArray} (h : Clash m) : (∃ j, 0 ≤ j ∧ j < m.length ∧ sha (tx m j) = zero32) ∨ Two m := by
  have at' : ∀ x ∈ m, ∃ i, i < m.length ∧ tx m i = x := fun x hx => by
    obtain ⟨i, hi, e⟩ := List.getElem_of_mem hx
    exact ⟨i, hi, by simp [tx, List.getD, List.getElem?_eq_getElem hi, e]⟩
  rcases h with ⟨x, hx, e⟩ | ⟨x, hx, y, hy, hne, e⟩
  · obtain ⟨i, hi, rfl⟩ := at' x hx
    exact .inl ⟨i, Nat.zero_le _, hi, e⟩
  · obtain ⟨i, hi, rfl⟩ := at' x hx
    obtain ⟨k, hk, rfl⟩ := at' y hy
    rcases Nat.lt_trichotomy i k with c | c | c
    · exact .inr ⟨k, i, c, hk, e.symm, hne.symm⟩
    · subst c; exact absurd rfl hne
    · exact .inr ⟨i, k, c, hi, e, hne⟩
end Go.Abs
