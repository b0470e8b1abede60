/- A part of the proof of a seat of tries: RootPure. -/
import Derived.Test.YtkpmcdfmdfoheaaDoorPartPure
set_option linter.all false
namespace Go.Abs
open Go
theorem setN_iv' : ∀ x : Nat, x < 256 → ∀ j : Nat, j < 8 → ibits .or .u8 (x : Int) (IntKind.u8.wrap (1 * 2 ^ (7 - j))) = (setN x j : Int) := by decide +kernel
theorem firstK_zero (k : ByteArray) : bytesIV (firstK k 0) = List.replicate 32 [IV.int .u8 0] := by
  unfold firstK
  rw [show ((List.range 32).map fun i => firstN (byteN k i) (0 - 8 * i)) = List.replicate 32 0 from ?_]
  · rfl
  · apply List.ext_getElem?
    intro i
    by_cases hi : i < 32
    · simp only [List.getElem?_map, List.getElem?_range hi, Option.map_some, List.getElem?_replicate, if_pos hi, Nat.zero_sub]
      rw [firstN_zero _ (byteN_lt k i)]
    · rw [List.getElem?_eq_none (by simp; omega), List.getElem?_eq_none (by simp; omega)]
theorem firstK_next {k : ByteArray} {i : Nat} (hi : i < 256) : firstK k (i + 1) = if bit k i then setK' (firstK k i) i else firstK k i := by
  split
  · rename_i hb
    refine key_ext (firstK_size _ _) ((setB_size _ _ _).trans (firstK_size _ _)) fun m hm => ?_
    rw [firstK_bit _ _ _ hm, setK_bit (firstK_size _ _) hi m hm, firstK_bit _ _ _ hm]
    by_cases e : m = i
    · subst e; simp [hb]
    · by_cases c : m < i
      · simp [c, e, show m < i + 1 by omega]
      · simp [c, e, show ¬ m < i + 1 by omega]
  · rename_i hb
    refine key_ext (firstK_size _ _) (firstK_size _ _) fun m hm => ?_
    rw [firstK_bit _ _ _ hm, firstK_bit _ _ _ hm]
    by_cases e : m = i
    · subst e; simp [hb]
    · congr 1
      simp only [decide_eq_decide]; omega
def sv (l : List ByteArray) : List (List IV) := l.map fun s => [IV.str s]
theorem sv_len (l : List ByteArray) : (sv l).length = l.length := by simp [sv]
theorem sv_app (l m : List ByteArray) : sv l ++ sv m = sv (l ++ m) := by simp [sv]
theorem sv_get (l : List ByteArray) (i : Nat) (s : ByteArray) (h : l[i]? = some s) : (sv l)[i]? = some [IV.str s] := by simp [sv, h]
theorem texts_len : ∀ {t : T}, t.good → t ≠ .nil → t.texts.length + 1 = 3 * t.pairs.length
  | .nil, _, h => absurd rfl h
  | .leaf _ _, _, _ => rfl
  | .fork a k z o, h, _ => by
    have h1 := texts_len h.2.2.2.1 h.2.1
    have h2 := texts_len h.2.2.2.2.1 h.2.2.1
    simp only [T.texts, T.pairs, List.length_append, List.length_cons, List.length_nil]
    omega
theorem texts_last : ∀ {t : T}, t ≠ .nil → t.texts[t.texts.length - 1]? = some t.last
  | .nil, h => absurd rfl h
  | .leaf _ _, _ => rfl
  | .fork a k z o, _ => by simp [T.texts, T.last]
theorem texts_size : ∀ {t : T}, t.good → ∀ x ∈ t.texts, x.size < 1073741824
  | .nil, _, x, hx => by simp [T.texts] at hx
  | .leaf k v, h, x, hx => by
    simp only [T.texts, List.mem_cons, List.not_mem_nil, or_false] at hx
    rcases hx with rfl | rfl
    · exact h.2
    · have h1 := h.1
      simp only [leafText, ByteArray.size_append, sha_size, h1]
      decide
  | .fork a k z o, h, x, hx => by
    simp only [T.texts, List.mem_append, List.mem_cons, List.not_mem_nil, or_false] at hx
    rcases hx with (hx | hx) | rfl
    · exact texts_size h.2.2.2.1 x hx
    · exact texts_size h.2.2.2.2.1 x hx
    · have h1 := T.ksize h
      simp only [forkText, ByteArray.size_append, T.hash_size, h1, mkB_size, List.length_cons, List.length_nil]
      have : (⟨#[1]⟩ : ByteArray).size = 1 := rfl
      omega
theorem T.last_size {t : T} (h : t.good) (hn : t ≠ .nil) : t.last.size < 1073741824 := texts_size h _ (T.last_mem t hn)
/-- a fork's place, by its first and last key -/
theorem fork_ends {a : Nat} {k : ByteArray} {z o : T} (h : (T.fork a k z o).good) : ∃ p q, (z.pairs ++ o.pairs)[0]? = some p ∧ (z.pairs ++ o.pairs)[(z.pairs ++ o.pairs).length - 1]? = some q ∧ p ∈ z.pairs ∧ q ∈ o.pairs ∧ agree a p.1 q.1 ∧ bit p.1 a ≠ bit q.1 a ∧ k = firstK p.1 a := by
  have hz := T.pairs_ne h.2.2.2.1 h.2.1
  have ho := T.pairs_ne h.2.2.2.2.1 h.2.2.1
  have lz := List.length_pos_iff.2 hz
  have lo := List.length_pos_iff.2 ho
  have g := T.fork_agree h
  have hp : z.pairs[0] ∈ z.pairs := List.getElem_mem lz
  have hq : o.pairs[o.pairs.length - 1]'(by omega) ∈ o.pairs := List.getElem_mem _
  refine ⟨z.pairs[0], o.pairs[o.pairs.length - 1]'(by omega), ?_, ?_, hp, hq, ?_, ?_, ?_⟩
  · rw [List.getElem?_append_left lz]; exact List.getElem?_eq_getElem lz
  · rw [List.length_append, List.getElem?_append_right (by omega), show z.pairs.length + o.pairs.length - 1 - z.pairs.length = o.pairs.length - 1 by omega]
    exact List.getElem?_eq_getElem (by omega)
  · exact (g _ (List.mem_append_left _ hp)).trans (g _ (List.mem_append_right _ hq)).symm
  · rw [h.2.2.2.2.2.1 _ hp, h.2.2.2.2.2.2.1 _ hq]; decide
  · exact h.2.2.2.2.2.2.2 _ (List.mem_append_left _ hp)
end Go.Abs
