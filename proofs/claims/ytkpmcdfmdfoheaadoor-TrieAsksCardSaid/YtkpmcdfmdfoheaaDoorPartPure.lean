/- A part of the proof of a seat of tries: PartPure. -/
import Derived.Test.YtkpmcdfmdfoheaaDoorS2
set_option linter.all false
namespace Go.Abs
open Go
def setB (k : ByteArray) (i v : Nat) : ByteArray := mkB (((List.range k.size).map (byteN k)).set i v)
theorem setB_size (k : ByteArray) (i v : Nat) : (setB k i v).size = k.size := by unfold setB; rw [mkB_size]; simp
theorem setB_lt (k : ByteArray) (i v : Nat) (hv : v < 256) : ∀ x ∈ ((List.range k.size).map (byteN k)).set i v, x < 256 := by
  intro x hx
  rcases List.mem_or_eq_of_mem_set hx with h | h
  · simp only [List.mem_map] at h
    obtain ⟨q, _, rfl⟩ := h
    exact byteN_lt _ _
  · omega
theorem setB_iv (k : ByteArray) (i v : Nat) (hv : v < 256) : (bytesIV k).set i [IV.int .u8 (v : Int)] = bytesIV (setB k i v) := by
  rw [eb_bytes, eb_set]
  exact eb_mkB _ (setB_lt k i v hv)
theorem setB_byte (k : ByteArray) (i v q : Nat) (hv : v < 256) (hi : i < k.size) (hq : q < k.size) : byteN (setB k i v) q = if q = i then v else byteN k q := by
  unfold setB
  rw [byteN_mkB _ _ (setB_lt k i v hv)]
  simp only [List.getD, List.getElem?_set, List.length_map, List.length_range, List.getElem?_map, List.getElem?_range hq, Option.map_some]
  by_cases e : i = q
  · subst e; simp [hi]
  · rw [if_neg e, if_neg (fun h => e h.symm)]; rfl
def clrN (x j : Nat) : Nat := x &&& (255 - 2 ^ (7 - j))
def setN (x j : Nat) : Nat := x ||| 2 ^ (7 - j)
theorem clrN_lt : ∀ x, x < 256 → ∀ j, j < 8 → clrN x j < 256 := by decide +kernel
theorem setN_lt : ∀ x, x < 256 → ∀ j, j < 8 → setN x j < 256 := by decide +kernel
theorem clrN_iv : ∀ x : Nat, x < 256 → ∀ j : Nat, j < 8 → ibits .andNot .u8 (x : Int) ((128 : Int).fdiv (2 ^ j)) = (clrN x j : Int) := by decide +kernel
theorem setN_iv : ∀ x : Nat, x < 256 → ∀ j : Nat, j < 8 → ibits .or .u8 (x : Int) ((128 : Int).fdiv (2 ^ j)) = (setN x j : Int) := by decide +kernel
theorem clrN_bit : ∀ x, x < 256 → ∀ j, j < 8 → ∀ q, q < 8 → (clrN x j).testBit (7 - q) = (x.testBit (7 - q) && decide (q ≠ j)) := by decide +kernel
theorem setN_bit : ∀ x, x < 256 → ∀ j, j < 8 → ∀ q, q < 8 → (setN x j).testBit (7 - q) = (x.testBit (7 - q) || decide (q = j)) := by decide +kernel
/-- a key with a bit 0, and with a bit 1 -/
def clrK (k : ByteArray) (n : Nat) : ByteArray := setB k (n / 8) (clrN (byteN k (n / 8)) (n % 8))
def setK' (k : ByteArray) (n : Nat) : ByteArray := setB k (n / 8) (setN (byteN k (n / 8)) (n % 8))
theorem clrK_bit {k : ByteArray} (hk : k.size = 32) {n : Nat} (hn : n < 256) (m : Nat) (hm : m < 256) : bit (clrK k n) m = (bit k m && decide (m ≠ n)) := by
  obtain ⟨i, j, hj, rfl⟩ : ∃ i j, j < 8 ∧ m = 8 * i + j := ⟨m / 8, m % 8, by omega, by omega⟩
  have hx := byteN_lt k (n / 8)
  rw [bit_byte _ _ _ hj, bit_byte _ _ _ hj, clrK, setB_byte _ _ _ _ (clrN_lt _ hx _ (by omega)) (by omega) (by omega)]
  by_cases e : i = n / 8
  · rw [if_pos e, clrN_bit _ hx _ (by omega) _ hj, e]
    congr 1
    simp only [decide_eq_decide]; omega
  · rw [if_neg e, decide_eq_true (by omega), Bool.and_true]
theorem setK_bit {k : ByteArray} (hk : k.size = 32) {n : Nat} (hn : n < 256) (m : Nat) (hm : m < 256) : bit (setK' k n) m = (bit k m || decide (m = n)) := by
  obtain ⟨i, j, hj, rfl⟩ : ∃ i j, j < 8 ∧ m = 8 * i + j := ⟨m / 8, m % 8, by omega, by omega⟩
  have hx := byteN_lt k (n / 8)
  rw [bit_byte _ _ _ hj, bit_byte _ _ _ hj, setK', setB_byte _ _ _ _ (setN_lt _ hx _ (by omega)) (by omega) (by omega)]
  by_cases e : i = n / 8
  · rw [if_pos e, setN_bit _ hx _ (by omega) _ hj, e]
    congr 1
    simp only [decide_eq_decide]; omega
  · rw [if_neg e, decide_eq_false (by omega), Bool.or_false]
theorem parts_pure {t : T} (h : t.good) {k : ByteArray} (hk : k.size = 32) {n : Nat} (hn : n < 256) :
    t.under k n = t.under (clrK k n) (n + 1) ++ t.under (setK' (clrK k n) n) (n + 1) := by
  have hz : (clrK k n).size = 32 := (setB_size _ _ _).trans hk
  rw [T.under_eq (by omega) h, T.under_eq (by omega) h, T.under_eq (by omega) h]
  refine under_split (T.sorted h) hn (fun i hi => ?_) (fun i hi => ?_) ?_ ?_
  · rw [clrK_bit hk hn i (by omega), decide_eq_true (by omega), Bool.and_true]
  · rw [setK_bit hz hn i (by omega), clrK_bit hk hn i (by omega), decide_eq_true (by omega), decide_eq_false (by omega), Bool.and_true, Bool.or_false]
  · rw [clrK_bit hk hn n hn]; simp
  · rw [setK_bit hz hn n hn]; simp
theorem under_all {t : T} (h : t.good) (k : ByteArray) : t.under k 0 = t.pairs := by
  rw [T.under_eq (by omega) h]
  exact List.filter_eq_self.2 fun p _ => rfl
end Go.Abs
