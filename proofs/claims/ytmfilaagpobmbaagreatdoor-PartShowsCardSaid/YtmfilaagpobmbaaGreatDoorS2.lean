/- A part of the proof of a seat of parts: TrieSpec, TrieTree, TriePure, TriePureB, PartPure. -/
import Derived.Test.YtmfilaagpobmbaaGreatDoorS1
set_option linter.all false
namespace Go.Abs
open Go

def byteN (b : ByteArray) (i : Nat) : Nat := (b.data.toList.getD i 0).toNat
def bit (k : ByteArray) (i : Nat) : Bool := (byteN k (i / 8)).testBit (7 - i % 8)
theorem sb_byteN (b : ByteArray) (i : Nat) : sb b i = (byteN b i : Int) := rfl
theorem byteN_lt (b : ByteArray) (i : Nat) : byteN b i < 256 := (b.data.toList.getD i 0).toNat_lt

theorem byte_ext {x y : Nat} (hx : x < 256) (hy : y < 256) (h : ∀ j, j < 8 → x.testBit (7 - j) = y.testBit (7 - j)) : x = y := by
  apply Nat.eq_of_testBit_eq
  intro i
  by_cases hi : i < 8
  · have := h (7 - i) (by omega)
    rwa [show 7 - (7 - i) = i by omega] at this
  · have h8 : 2 ^ 8 ≤ 2 ^ i := Nat.pow_le_pow_right (by omega) (by omega)
    rw [Nat.testBit_lt_two_pow (by omega), Nat.testBit_lt_two_pow (by omega)]

theorem bit_byte (k : ByteArray) (i j : Nat) (h : j < 8) : bit k (8 * i + j) = (byteN k i).testBit (7 - j) := by
  unfold bit
  rw [show (8 * i + j) / 8 = i by omega, show (8 * i + j) % 8 = j by omega]

theorem bytes_ext {a b : ByteArray} (hs : a.size = b.size) (h : ∀ i, i < a.size → byteN a i = byteN b i) : a = b := by
  apply ba_ext
  apply List.ext_getElem?
  intro i
  by_cases hi : i < a.size
  · have h1 : i < a.data.toList.length := by simpa using hi
    have h2 : i < b.data.toList.length := by simpa [← hs] using hi
    have := h i hi
    simp only [byteN, List.getD, List.getElem?_eq_getElem h1, List.getElem?_eq_getElem h2, Option.getD_some] at this
    rw [List.getElem?_eq_getElem h1, List.getElem?_eq_getElem h2, UInt8.toNat_inj.1 this]
  · have h1 : a.data.toList.length ≤ i := by simpa using hi
    have h2 : b.data.toList.length ≤ i := by simpa [← hs] using hi
    rw [List.getElem?_eq_none h1, List.getElem?_eq_none h2]

theorem key_ext {a b : ByteArray} (ha : a.size = 32) (hb : b.size = 32) (h : ∀ i, i < 256 → bit a i = bit b i) : a = b := by
  refine bytes_ext (ha.trans hb.symm) fun i hi => byte_ext (byteN_lt _ _) (byteN_lt _ _) fun j hj => ?_
  rw [← bit_byte _ _ _ hj, ← bit_byte _ _ _ hj]
  exact h _ (by omega)

/-- how many first bits two keys have in common -/
def IsCommon (a b : ByteArray) (r : Nat) : Prop := r ≤ 256 ∧ (∀ i, i < r → bit a i = bit b i) ∧ (r < 256 → bit a r ≠ bit b r)

theorem IsCommon.uniq {a b : ByteArray} {r r' : Nat} (h : IsCommon a b r) (h' : IsCommon a b r') : r = r' := by
  rcases Nat.lt_trichotomy r r' with h1 | h1 | h1
  · exact absurd (h'.2.1 r h1) (h.2.2 (by have := h'.1; omega))
  · exact h1
  · exact absurd (h.2.1 r' h1) (h'.2.2 (by have := h.1; omega))

def len8 (x : Nat) : Nat := if x = 0 then 0 else Nat.log2 x + 1
theorem len8_spec : ∀ x, x < 256 → x ≠ 0 → len8 x ≤ 8 ∧ 0 < len8 x ∧ x.testBit (7 - (8 - len8 x)) = true ∧ ∀ j, j < 8 - len8 x → x.testBit (7 - j) = false := by
  decide +kernel

/-- a key's first bits, filled up with 0 -/
def IsFirst (k : ByteArray) (n : Nat) (r : ByteArray) : Prop := r.size = 32 ∧ ∀ i, i < 256 → bit r i = (decide (i < n) && bit k i)
theorem IsFirst.uniq {k : ByteArray} {n : Nat} {r r' : ByteArray} (h : IsFirst k n r) (h' : IsFirst k n r') : r = r' :=
  key_ext h.1 h'.1 fun i hi => by rw [h.2 i hi, h'.2 i hi]

theorem u8x (x y : Nat) (hx : x < 256) (hy : y < 256) : ibits .xor .u8 (x : Int) (y : Int) = ((x ^^^ y : Nat) : Int) := by
  have h := Nat.xor_lt_two_pow (n := 8) hx hy
  show IntKind.u8.wrap (((BitVec.ofInt 8 (x : Int) ^^^ BitVec.ofInt 8 (y : Int)) : BitVec 8).toNat : Int) = _
  rw [wrap8, BitVec.ofInt_natCast, BitVec.ofInt_natCast, BitVec.toNat_xor, BitVec.toNat_ofNat, BitVec.toNat_ofNat, Nat.mod_eq_of_lt hx, Nat.mod_eq_of_lt hy]
  omega

theorem common_here {a b : ByteArray} {i : Nat} (hi : i < 32) (h : ∀ j, j < i → byteN a j = byteN b j) (hne : byteN a i ^^^ byteN b i ≠ 0) : IsCommon a b (8 * i + (8 - len8 (byteN a i ^^^ byteN b i))) := by
  have hx := Nat.xor_lt_two_pow (n := 8) (byteN_lt a i) (byteN_lt b i)
  obtain ⟨h1, h2, h3, h4⟩ := len8_spec _ hx hne
  generalize hl : len8 (byteN a i ^^^ byteN b i) = l at *
  refine ⟨by omega, fun j hj => ?_, fun _ => ?_⟩
  · by_cases hj8 : j < 8 * i
    · unfold bit; rw [h (j / 8) (by omega)]
    · obtain ⟨m, rfl⟩ : ∃ m, j = 8 * i + m := ⟨j - 8 * i, by omega⟩
      rw [bit_byte _ _ _ (by omega), bit_byte _ _ _ (by omega)]
      have := h4 m (by omega)
      rw [Nat.testBit_xor] at this
      revert this
      cases (byteN a i).testBit (7 - m) <;> cases (byteN b i).testBit (7 - m) <;> simp
  · rw [bit_byte _ _ _ (by omega), bit_byte _ _ _ (by omega)]
    rw [Nat.testBit_xor] at h3
    intro he
    rw [he] at h3
    simp at h3

theorem common_all {a b : ByteArray} (h : ∀ j, j < 32 → byteN a j = byteN b j) : IsCommon a b 256 :=
  ⟨Nat.le_refl _, fun i hi => by unfold bit; rw [h (i / 8) (by omega)], fun h => absurd h (by omega)⟩

/-- a text whose bytes are a list of numbers -/
def mkB (l : List Nat) : ByteArray := ⟨(l.map UInt8.ofNat).toArray⟩
theorem mkB_size (l : List Nat) : (mkB l).size = l.length := by simp [mkB, ByteArray.size]
theorem byteN_mkB (l : List Nat) (i : Nat) (h : ∀ n ∈ l, n < 256) : byteN (mkB l) i = l.getD i 0 := by
  simp only [byteN, mkB, List.getD, List.getElem?_map]
  by_cases hi : i < l.length
  · have := h l[i] (List.getElem_mem hi)
    simp [hi]; omega
  · simp [hi]

def firstN (x : Nat) (k : Nat) : Nat := x / 2 ^ (8 - min 8 k) * 2 ^ (8 - min 8 k)
/-- a key's first bits, made -/
def firstK (k : ByteArray) (n : Nat) : ByteArray := mkB ((List.range 32).map fun i => firstN (byteN k i) (n - 8 * i))
theorem firstN_lt {x : Nat} (h : x < 256) (k : Nat) : firstN x k < 256 := Nat.lt_of_le_of_lt (Nat.div_mul_le_self _ _) h
theorem firstN_bit : ∀ x, x < 256 → ∀ k, k < 9 → ∀ j, j < 8 → (firstN x k).testBit (7 - j) = (decide (j < k) && x.testBit (7 - j)) := by decide +kernel
theorem firstK_is (k : ByteArray) (n : Nat) : IsFirst k n (firstK k n) := by
  refine ⟨by rw [firstK, mkB_size]; simp, fun i hi => ?_⟩
  obtain ⟨m, j, hj, rfl⟩ : ∃ m j, j < 8 ∧ i = 8 * m + j := ⟨i / 8, i % 8, by omega, by omega⟩
  rw [bit_byte _ _ _ hj, bit_byte _ _ _ hj, firstK, byteN_mkB _ _ (fun n hn => by
    simp only [List.mem_map] at hn
    obtain ⟨q, _, rfl⟩ := hn
    exact firstN_lt (byteN_lt _ _) _)]
  have hm : m < 32 := by omega
  simp only [List.getD, List.getElem?_map, List.getElem?_range hm, Option.map_some, Option.getD_some]
  have h1 : firstN (byteN k m) (n - 8 * m) = firstN (byteN k m) (min 8 (n - 8 * m)) := by unfold firstN; rw [show min 8 (min 8 (n - 8 * m)) = min 8 (n - 8 * m) by omega]
  rw [h1, firstN_bit _ (byteN_lt _ _) _ (by omega) _ hj]
  congr 1
  simp only [decide_eq_decide]; omega

def eb (l : List Nat) : List (List IV) := l.map fun n : Nat => [IV.int .u8 (n : Int)]
def mid (k : ByteArray) (n i : Nat) : List Nat := (List.range 32).map fun m => if m < i then firstN (byteN k m) (n - 8 * m) else byteN k m
theorem mid_len (k : ByteArray) (n i : Nat) : (mid k n i).length = 32 := by simp [mid]
theorem eb_len (l : List Nat) : (eb l).length = l.length := by simp [eb]
theorem eb_get (l : List Nat) (i v : Nat) (h : l[i]? = some v) : (eb l)[i]? = some [IV.int .u8 (v : Int)] := by simp [eb, h]
theorem eb_set (l : List Nat) (i v : Nat) : (eb l).set i [IV.int .u8 (v : Int)] = eb (l.set i v) := by simp [eb, List.map_set]
theorem mid_get (k : ByteArray) (n i : Nat) (h : i < 32) : (mid k n i)[i]? = some (byteN k i) := by simp [mid, h]
theorem mid_set (k : ByteArray) (n i : Nat) (h : i < 32) : (mid k n i).set i (firstN (byteN k i) (n - 8 * i)) = mid k n (i + 1) := by
  apply List.ext_getElem?; intro j
  rw [List.getElem?_set]
  by_cases hj : j < 32
  · by_cases e : i = j
    · subst e
      rw [if_pos rfl, if_pos (by rw [mid_len]; exact h)]
      simp [mid, h]
    · rw [if_neg e]
      simp only [mid, List.getElem?_map, List.getElem?_range hj, Option.map_some]
      congr 1
      by_cases h1 : j < i
      · rw [if_pos h1, if_pos (by omega)]
      · rw [if_neg h1, if_neg (by omega)]
  · rw [if_neg (by omega), List.getElem?_eq_none (by rw [mid_len]; omega), List.getElem?_eq_none (by rw [mid_len]; omega)]
theorem mid_same (k : ByteArray) (n i : Nat) (h : i < 32) (he : firstN (byteN k i) (n - 8 * i) = byteN k i) : mid k n (i + 1) = mid k n i := by
  rw [← mid_set k n i h, he]
  apply List.ext_getElem?; intro j
  rw [List.getElem?_set]
  by_cases e : i = j
  · subst e
    rw [if_pos rfl, if_pos (by rw [mid_len]; exact h), mid_get k n i h]
  · rw [if_neg e]
theorem eb_bytes (k : ByteArray) : bytesIV k = eb ((List.range k.size).map (byteN k)) := by
  unfold bytesIV eb
  rw [List.map_map]
  apply List.ext_getElem?; intro j
  simp only [List.getElem?_map]
  by_cases hj : j < k.size
  · have h1 : j < k.data.toList.length := by simpa using hj
    simp only [List.getElem?_range hj, List.getElem?_eq_getElem h1, Option.map_some, Function.comp, byteN, List.getD, Option.getD_some]
  · have h1 : k.data.toList.length ≤ j := by simpa using hj
    rw [List.getElem?_eq_none h1, List.getElem?_eq_none (by simpa using hj)]; rfl
theorem mid_zero (k : ByteArray) (n : Nat) (h : k.size = 32) : bytesIV k = eb (mid k n 0) := by
  rw [eb_bytes, h]; rfl
theorem eb_mkB (l : List Nat) (h : ∀ n ∈ l, n < 256) : eb l = bytesIV (mkB l) := by
  unfold eb bytesIV mkB
  simp only [List.map_map]
  apply List.map_congr_left
  intro n hn
  have := h n hn
  simp only [Function.comp, UInt8.toNat_ofNat']
  rw [Nat.mod_eq_of_lt (by omega)]
theorem mid_full (k : ByteArray) (n : Nat) : eb (mid k n 32) = bytesIV (firstK k n) := by
  have : mid k n 32 = (List.range 32).map fun i => firstN (byteN k i) (n - 8 * i) := by
    unfold mid
    apply List.map_congr_left
    intro m hm
    rw [if_pos (by simpa using hm)]
  rw [this, firstK]
  apply eb_mkB
  intro q hq
  simp only [List.mem_map] at hq
  obtain ⟨m, _, rfl⟩ := hq
  exact firstN_lt (byteN_lt _ _) _
theorem firstN_mask : ∀ x : Nat, x < 256 → ∀ k : Nat, k < 8 → ibits .and .u8 (x : Int) (IntKind.u8.wrap (255 * 2 ^ (8 - k))) = (firstN x k : Int) := by decide +kernel
theorem firstN_zero (x : Nat) (h : x < 256) : firstN x 0 = 0 := by unfold firstN; simp; omega
theorem firstN_all (x k : Nat) (h : 8 ≤ k) : firstN x k = x := by unfold firstN; rw [show min 8 k = 8 by omega]; simp

end Go.Abs

namespace Go.Abs
open Go

inductive T where
  | nil
  | leaf (k v : ByteArray)
  | fork (a : Nat) (k : ByteArray) (z o : T)

def zero32 : ByteArray := ⟨(List.replicate 32 (0 : UInt8)).toArray⟩
def leafHash (k v : ByteArray) : ByteArray := sha ((⟨#[0]⟩ ++ k) ++ v)
def forkHash (a : Nat) (k z o : ByteArray) : ByteArray := sha ((((⟨#[1]⟩ ++ mkB [a / 256 % 256, a % 256]) ++ k) ++ z) ++ o)
def T.hash : T → ByteArray
  | .nil => zero32
  | .leaf k v => leafHash k (sha v)
  | .fork a k z o => forkHash a k z.hash o.hash

def T.iv : T → IV
  | .nil => .nilp
  | .leaf k v => .ptr [.bool true, .bool false, .str k, .str v, .int .i64 0, .nilp, .nilp, .str (T.leaf k v).hash]
  | .fork a k z o => .ptr [.bool false, .bool false, .str k, .str ⟨#[]⟩, .int .i64 (a : Int), z.iv, o.iv, .str (T.fork a k z o).hash]

theorem T.iv_ptr (t : T) (h : t ≠ .nil) : ∃ l k v a z o, t.iv = .ptr [.bool l, .bool false, .str k, .str v, .int .i64 a, z, o, .str t.hash] := by
  cases t with
  | nil => exact absurd rfl h
  | leaf k v => exact ⟨_, _, _, _, _, _, rfl⟩
  | fork a k z o => exact ⟨_, _, _, _, _, _, rfl⟩

theorem leafHash_size (k v : ByteArray) : (leafHash k v).size = 32 := sha_size _
theorem T.hash_size (t : T) : t.hash.size = 32 := by
  cases t with
  | nil => rfl
  | leaf k v => exact sha_size _
  | fork a k z o => exact sha_size _

/-- keys of 32 bytes, values not too long, places below 256 -/
def T.ok : T → Prop
  | .nil => True
  | .leaf k v => k.size = 32 ∧ v.size < 1073741824
  | .fork a k z o => a < 256 ∧ k.size = 32 ∧ z ≠ .nil ∧ o ≠ .nil ∧ z.ok ∧ o.ok

def mkFork (a : Nat) (k : ByteArray) (z o : T) : T := .fork a (firstK k a) z o

end Go.Abs

namespace Go.Abs
open Go

abbrev Pr := ByteArray × ByteArray

def T.pairs : T → List Pr
  | .nil => []
  | .leaf k v => [(k, v)]
  | .fork _ _ z o => z.pairs ++ o.pairs

def agree (n : Nat) (a b : ByteArray) : Prop := ∀ i, i < n → bit a i = bit b i

theorem agree.refl (n : Nat) (a : ByteArray) : agree n a a := fun _ _ => rfl
theorem agree.symm {n : Nat} {a b : ByteArray} (h : agree n a b) : agree n b a := fun i hi => (h i hi).symm
theorem agree.trans {n : Nat} {a b c : ByteArray} (h : agree n a b) (k : agree n b c) : agree n a c := fun i hi => (h i hi).trans (k i hi)
theorem agree.le {n m : Nat} {a b : ByteArray} (h : agree n a b) (k : m ≤ n) : agree m a b := fun i hi => h i (by omega)

theorem firstK_bit (k : ByteArray) (n i : Nat) (h : i < 256) : bit (firstK k n) i = (decide (i < n) && bit k i) := (firstK_is k n).2 i h
theorem firstK_size (k : ByteArray) (n : Nat) : (firstK k n).size = 32 := (firstK_is k n).1
theorem firstK_agree (k : ByteArray) (n : Nat) (h : n ≤ 256) : agree n (firstK k n) k := fun i hi => by
  rw [firstK_bit _ _ _ (by omega)]; simp [hi]
theorem firstK_eq {x y : ByteArray} {n : Nat} (h : agree n x y) : firstK x n = firstK y n := by
  refine IsFirst.uniq (firstK_is x n) ⟨firstK_size _ _, fun i hi => ?_⟩
  rw [firstK_bit _ _ _ hi]
  by_cases hn : i < n
  · rw [h i hn]
  · simp [hn]
theorem agree_of_firstK {x y : ByteArray} {n : Nat} (hn : n ≤ 256) (h : firstK x n = firstK y n) : agree n x y :=
  (firstK_agree x n hn).symm.trans (h ▸ firstK_agree y n hn)
theorem firstK_idem (x : ByteArray) (n : Nat) (hn : n ≤ 256) : firstK (firstK x n) n = firstK x n := firstK_eq (firstK_agree x n hn)

/-- how many first bits two keys have in common, as a function -/
def cmn (a b : ByteArray) : Nat → Nat → Nat
  | 0, i => i
  | n + 1, i => if bit a i = bit b i then cmn a b n (i + 1) else i
def common (a b : ByteArray) : Nat := cmn a b 256 0
theorem cmn_is (a b : ByteArray) : ∀ n i, i + n = 256 → agree i a b → IsCommon a b (cmn a b n i) := by
  intro n
  induction n with
  | zero => intro i hi h; exact ⟨by simp only [cmn]; omega, h, fun hh => by simp only [cmn] at hh; omega⟩
  | succ n ih =>
    intro i hi h
    simp only [cmn]
    split
    · rename_i e
      exact ih (i + 1) (by omega) fun j hj => if hj' : j < i then h j hj' else by rw [show j = i by omega]; exact e
    · rename_i e
      exact ⟨by omega, h, fun _ => e⟩
theorem common_is (a b : ByteArray) : IsCommon a b (common a b) := cmn_is a b 256 0 rfl fun i hi => absurd hi (by omega)
theorem common_eq {a b : ByteArray} {r : Nat} (h : IsCommon a b r) : r = common a b := h.uniq (common_is a b)
theorem common_le (a b : ByteArray) : common a b ≤ 256 := (common_is a b).1
theorem common_agree (a b : ByteArray) : agree (common a b) a b := (common_is a b).2.1
theorem common_ne {a b : ByteArray} (h : common a b < 256) : bit a (common a b) ≠ bit b (common a b) := (common_is a b).2.2 h
theorem agree_iff {a b : ByteArray} {n : Nat} (hn : n ≤ 256) : n ≤ common a b ↔ agree n a b := by
  constructor
  · intro h; exact (common_agree a b).le h
  · intro h
    apply Nat.le_of_not_lt
    intro hlt
    exact common_ne (by omega) (h _ hlt)
theorem agree_all {a b : ByteArray} (ha : a.size = 32) (hb : b.size = 32) : agree 256 a b ↔ a = b :=
  ⟨fun h => key_ext ha hb h, fun h => h ▸ agree.refl _ _⟩
theorem common_lt {a b : ByteArray} (ha : a.size = 32) (hb : b.size = 32) : common a b < 256 ↔ a ≠ b := by
  have h1 := common_le a b
  have h2 := agree_iff (a := a) (b := b) (Nat.le_refl 256)
  have h3 := agree_all ha hb
  constructor
  · intro h e; have := h2.2 (h3.2 e); omega
  · intro h; apply Nat.lt_of_not_le; intro h'; exact h (h3.1 (h2.1 h'))

def T.good : T → Prop
  | .nil => True
  | .leaf k v => k.size = 32 ∧ v.size < 1073741824
  | .fork a k z o => a < 256 ∧ z ≠ .nil ∧ o ≠ .nil ∧ z.good ∧ o.good ∧ (∀ p ∈ z.pairs, bit p.1 a = false) ∧ (∀ p ∈ o.pairs, bit p.1 a = true) ∧ (∀ p ∈ z.pairs ++ o.pairs, k = firstK p.1 a)

theorem T.pairs_ne : ∀ {t : T}, t.good → t ≠ .nil → t.pairs ≠ []
  | .nil, _, h => absurd rfl h
  | .leaf _ _, _, _ => by simp [T.pairs]
  | .fork a k z o, h, _ => by
    intro e
    simp only [T.pairs, List.append_eq_nil_iff] at e
    exact T.pairs_ne h.2.2.2.1 h.2.1 e.1

theorem T.good.ok : ∀ {t : T}, t.good → t.ok
  | .nil, _ => trivial
  | .leaf _ _, h => h
  | .fork a k z o, ⟨h1, h2, h3, h4, h5, h6, h7, h8⟩ => by
    refine ⟨h1, ?_, h2, h3, h4.ok, h5.ok⟩
    cases z with
    | nil => exact absurd rfl h2
    | leaf k' v' => rw [h8 (k', v') (by simp [T.pairs])]; exact firstK_size _ _
    | fork a' k' z' o' =>
      have hz := T.pairs_ne h4 h2
      obtain ⟨p, hp⟩ := List.exists_mem_of_ne_nil _ hz
      rw [h8 p (List.mem_append_left _ hp)]
      exact firstK_size _ _

theorem T.key_size : ∀ {t : T}, t.good → ∀ p ∈ t.pairs, p.1.size = 32
  | .nil, _, p, hp => by simp [T.pairs] at hp
  | .leaf k v, h, p, hp => by simp [T.pairs] at hp; rw [hp]; exact h.1
  | .fork a k z o, h, p, hp => by
    simp only [T.pairs, List.mem_append] at hp
    rcases hp with hp | hp
    · exact T.key_size h.2.2.2.1 p hp
    · exact T.key_size h.2.2.2.2.1 p hp
theorem T.val_size : ∀ {t : T}, t.good → ∀ p ∈ t.pairs, p.2.size < 1073741824
  | .nil, _, p, hp => by simp [T.pairs] at hp
  | .leaf k v, h, p, hp => by simp [T.pairs] at hp; rw [hp]; exact h.2
  | .fork a k z o, h, p, hp => by
    simp only [T.pairs, List.mem_append] at hp
    rcases hp with hp | hp
    · exact T.val_size h.2.2.2.1 p hp
    · exact T.val_size h.2.2.2.2.1 p hp

theorem T.ksize {a : Nat} {k : ByteArray} {z o : T} (h : (T.fork a k z o).good) : k.size = 32 := h.ok.2.1
/-- all keys below a fork begin as its key does -/
theorem T.fork_agree {a : Nat} {k : ByteArray} {z o : T} (h : (T.fork a k z o).good) : ∀ p ∈ z.pairs ++ o.pairs, agree a p.1 k := by
  intro p hp
  have e := h.2.2.2.2.2.2.2 p hp
  rw [e]
  exact (firstK_agree p.1 a (by have := h.1; omega)).symm
theorem T.fork_idem {a : Nat} {k : ByteArray} {z o : T} (h : (T.fork a k z o).good) : firstK k a = k := by
  obtain ⟨p, hp⟩ := List.exists_mem_of_ne_nil _ (T.pairs_ne h.2.2.2.1 h.2.1)
  have e := h.2.2.2.2.2.2.2 p (List.mem_append_left _ hp)
  rw [e]
  exact firstK_idem _ _ (by have := h.1; omega)

theorem mkFork_good {a : Nat} {key : ByteArray} {z o : T} (ha : a < 256) (hz : z ≠ .nil) (ho : o ≠ .nil) (gz : z.good) (go : o.good)
    (h0 : ∀ p ∈ z.pairs, bit p.1 a = false) (h1 : ∀ p ∈ o.pairs, bit p.1 a = true) (hk : ∀ p ∈ z.pairs ++ o.pairs, agree a p.1 key) : (mkFork a key z o).good :=
  ⟨ha, hz, ho, gz, go, h0, h1, fun p hp => (firstK_eq (hk p hp)).symm⟩

/-- the order of keys -/
def klt (a b : ByteArray) : Prop := ∃ i, i < 256 ∧ agree i a b ∧ bit a i = false ∧ bit b i = true
theorem klt.irrefl (a : ByteArray) : ¬ klt a a := fun ⟨i, _, _, h1, h2⟩ => by rw [h1] at h2; exact absurd h2 (by decide)
theorem klt.trans {a b c : ByteArray} (h : klt a b) (k : klt b c) : klt a c := by
  obtain ⟨i, hi, ha, h1, h2⟩ := h
  obtain ⟨j, hj, hb, h3, h4⟩ := k
  rcases Nat.lt_trichotomy i j with h | h | h
  · exact ⟨i, hi, ha.trans (hb.le (by omega)), h1, by rw [← hb i h]; exact h2⟩
  · subst h; rw [h2] at h3; exact absurd h3 (by decide)
  · exact ⟨j, hj, (ha.le (by omega)).trans hb, by rw [ha j h]; exact h3, h4⟩
theorem klt.asymm {a b : ByteArray} (h : klt a b) : ¬ klt b a := fun k => klt.irrefl a (h.trans k)
theorem klt.total {a b : ByteArray} (ha : a.size = 32) (hb : b.size = 32) : klt a b ∨ a = b ∨ klt b a := by
  by_cases e : a = b
  · exact .inr (.inl e)
  · have h := (common_lt ha hb).2 e
    have hn := common_ne h
    have hg := common_agree a b
    cases h1 : bit a (common a b) <;> cases h2 : bit b (common a b)
    · exact absurd (h1.trans h2.symm) hn
    · exact .inl ⟨_, h, hg, h1, h2⟩
    · exact .inr (.inr ⟨_, h, hg.symm, h2, h1⟩)
    · exact absurd (h1.trans h2.symm) hn

abbrev Srt (l : List Pr) : Prop := l.Pairwise fun p q => klt p.1 q.1

theorem T.sorted : ∀ {t : T}, t.good → Srt t.pairs
  | .nil, _ => List.Pairwise.nil
  | .leaf _ _, _ => by simp [T.pairs]
  | .fork a k z o, h => by
    simp only [T.pairs]
    refine List.pairwise_append.2 ⟨T.sorted h.2.2.2.1, T.sorted h.2.2.2.2.1, fun p hp q hq => ?_⟩
    have g := T.fork_agree h
    exact ⟨a, h.1, (g p (List.mem_append_left _ hp)).trans (g q (List.mem_append_right _ hq)).symm, h.2.2.2.2.2.1 p hp, h.2.2.2.2.2.2.1 q hq⟩

/-- rising lists of the same members are the same -/
theorem srt_ext : ∀ {l m : List Pr}, Srt l → Srt m → (∀ p, p ∈ l ↔ p ∈ m) → l = m
  | [], [], _, _, _ => rfl
  | [], q :: m, _, _, h => by have := (h q).2 (by simp); simp at this
  | p :: l, [], _, _, h => by have := (h p).1 (by simp); simp at this
  | p :: l, q :: m, hl, hm, h => by
    obtain ⟨h1, h2⟩ := List.pairwise_cons.1 hl
    obtain ⟨h3, h4⟩ := List.pairwise_cons.1 hm
    have e : p = q := by
      have a := (h p).1 (by simp)
      have b := (h q).2 (by simp)
      simp only [List.mem_cons] at a b
      rcases a with a | a
      · exact a
      · rcases b with b | b
        · exact b.symm
        · exact absurd (h1 q b) (klt.asymm (h3 p a))
    subst e
    refine congrArg (p :: ·) (srt_ext h2 h4 fun r => ?_)
    have a := h r
    simp only [List.mem_cons] at a
    constructor
    · intro hr
      rcases a.1 (.inr hr) with e | e
      · subst e; exact absurd (h1 r hr) (klt.irrefl _)
      · exact e
    · intro hr
      rcases a.2 (.inr hr) with e | e
      · subst e; exact absurd (h3 r hr) (klt.irrefl _)
      · exact e

theorem srt_uniq {l : List Pr} (h : Srt l) {p q : Pr} (hp : p ∈ l) (hq : q ∈ l) (e : p.1 = q.1) : p = q := by
  induction l with
  | nil => simp at hp
  | cons r l ih =>
    obtain ⟨h1, h2⟩ := List.pairwise_cons.1 h
    simp only [List.mem_cons] at hp hq
    rcases hp with rfl | hp <;> rcases hq with rfl | hq
    · rfl
    · exact absurd (e ▸ h1 q hq) (klt.irrefl _)
    · exact absurd (e ▸ h1 p hp) (klt.irrefl _)
    · exact ih h2 hp hq

/-- a tree is told by its pairs -/
theorem T.uniq : ∀ {t u : T}, t.good → u.good → t.pairs = u.pairs → t = u
  | .nil, u, _, hu, e => by
    by_cases h : u = .nil
    · exact h.symm
    · exact absurd e.symm (T.pairs_ne hu h)
  | .leaf k v, .nil, _, _, e => by simp [T.pairs] at e
  | .leaf k v, .leaf k' v', _, _, e => by simp [T.pairs] at e; rw [e.1, e.2]
  | .leaf k v, .fork a k' z o, _, hu, e => by
    have h1 := T.pairs_ne hu.2.2.2.1 hu.2.1
    have h2 := T.pairs_ne hu.2.2.2.2.1 hu.2.2.1
    have := congrArg List.length e
    simp only [T.pairs, List.length_append, List.length_cons, List.length_nil] at this
    have h3 := List.length_pos_iff.2 h1
    have h4 := List.length_pos_iff.2 h2
    omega
  | .fork a k z o, .nil, h, _, e => absurd e (T.pairs_ne h (by simp))
  | .fork a k' z o, .leaf k v, hu, _, e => by
    have h1 := T.pairs_ne hu.2.2.2.1 hu.2.1
    have h2 := T.pairs_ne hu.2.2.2.2.1 hu.2.2.1
    have := congrArg List.length e
    simp only [T.pairs, List.length_append, List.length_cons, List.length_nil] at this
    have h3 := List.length_pos_iff.2 h1
    have h4 := List.length_pos_iff.2 h2
    omega
  | .fork a k z o, .fork a' k' z' o', h, h', e => by
    have g := T.fork_agree h
    have g' := T.fork_agree h'
    obtain ⟨p, hp⟩ := List.exists_mem_of_ne_nil _ (T.pairs_ne h.2.2.2.1 h.2.1)
    obtain ⟨q, hq⟩ := List.exists_mem_of_ne_nil _ (T.pairs_ne h.2.2.2.2.1 h.2.2.1)
    obtain ⟨p', hp'⟩ := List.exists_mem_of_ne_nil _ (T.pairs_ne h'.2.2.2.1 h'.2.1)
    obtain ⟨q', hq'⟩ := List.exists_mem_of_ne_nil _ (T.pairs_ne h'.2.2.2.2.1 h'.2.2.1)
    simp only [T.pairs] at e
    have all : ∀ r ∈ z.pairs ++ o.pairs, ∀ s ∈ z.pairs ++ o.pairs, agree a r.1 s.1 := fun r hr s hs => (g r hr).trans (g s hs).symm
    have all' : ∀ r ∈ z'.pairs ++ o'.pairs, ∀ s ∈ z'.pairs ++ o'.pairs, agree a' r.1 s.1 := fun r hr s hs => (g' r hr).trans (g' s hs).symm
    have ea : a = a' := by
      rcases Nat.lt_trichotomy a a' with c | c | c
      · have := all' p (e ▸ List.mem_append_left _ hp) q (e ▸ List.mem_append_right _ hq) a c
        rw [h.2.2.2.2.2.1 p hp, h.2.2.2.2.2.2.1 q hq] at this
        exact absurd this (by decide)
      · exact c
      · have := all p' (e ▸ List.mem_append_left _ hp') q' (e ▸ List.mem_append_right _ hq') a' c
        rw [h'.2.2.2.2.2.1 p' hp', h'.2.2.2.2.2.2.1 q' hq'] at this
        exact absurd this (by decide)
    subst ea
    have f0 : ∀ (l m : List Pr), (∀ r ∈ l, bit r.1 a = false) → (∀ r ∈ m, bit r.1 a = true) → (l ++ m).filter (fun r => !bit r.1 a) = l := by
      intro l m h1 h2
      rw [List.filter_append, List.filter_eq_self.2 (fun r hr => by simp [h1 r hr]), List.filter_eq_nil_iff.2 (fun r hr => by simp [h2 r hr]), List.append_nil]
    have ez : z.pairs = z'.pairs := by
      rw [← f0 z.pairs o.pairs h.2.2.2.2.2.1 h.2.2.2.2.2.2.1, e, f0 _ _ h'.2.2.2.2.2.1 h'.2.2.2.2.2.2.1]
    have eo : o.pairs = o'.pairs := by rw [ez] at e; exact List.append_cancel_left e
    have ek : k = k' := by rw [h.2.2.2.2.2.2.2 p (List.mem_append_left _ hp), h'.2.2.2.2.2.2.2 p (e ▸ List.mem_append_left _ hp)]
    rw [ek, T.uniq h.2.2.2.1 h'.2.2.2.1 ez, T.uniq h.2.2.2.2.1 h'.2.2.2.2.1 eo]

theorem T.ext {t u : T} (h : t.good) (k : u.good) (e : ∀ p, p ∈ t.pairs ↔ p ∈ u.pairs) : t = u := T.uniq h k (srt_ext (T.sorted h) (T.sorted k) e)

/-- a tree and a pair that isn't below it -/
def beside (f : T) (a : Nat) (key val : ByteArray) : T := if bit key a = false then mkFork a key (.leaf key val) f else mkFork a key f (.leaf key val)

def T.put (key val : ByteArray) : T → T × Bool
  | .nil => (.leaf key val, true)
  | .leaf k v => if common k key < 256 then (beside (.leaf k v) (common k key) key val, true) else (.leaf key val, false)
  | .fork a k z o => if common k key < a then (beside (.fork a k z o) (common k key) key val, true)
    else if bit key a = false then (mkFork a k (z.put key val).1 o, (z.put key val).2) else (mkFork a k z (o.put key val).1, (o.put key val).2)

def T.drop (key : ByteArray) : T → T × Bool
  | .nil => (.nil, false)
  | .leaf k v => if common k key < 256 then (.leaf k v, false) else (.nil, true)
  | .fork a k z o => if common k key < a then (.fork a k z o, false)
    else if bit key a = false then
      match z.drop key with
      | (_, false) => (.fork a k z o, false)
      | (.nil, true) => (o, true)
      | (z', true) => (mkFork a k z' o, true)
    else
      match o.drop key with
      | (_, false) => (.fork a k z o, false)
      | (.nil, true) => (z, true)
      | (o', true) => (mkFork a k z o', true)

theorem beside_pairs (f : T) (a : Nat) (key val : ByteArray) (p : Pr) : p ∈ (beside f a key val).pairs ↔ p = (key, val) ∨ p ∈ f.pairs := by
  unfold beside
  split
  · simp [mkFork, T.pairs]
  · simp [mkFork, T.pairs, or_comm]
theorem beside_len (f : T) (a : Nat) (key val : ByteArray) : (beside f a key val).pairs.length = f.pairs.length + 1 := by
  unfold beside
  split
  · simp [mkFork, T.pairs]
  · simp [mkFork, T.pairs]
theorem beside_good {f : T} {a : Nat} {key val : ByteArray} (ha : a < 256) (hk : key.size = 32) (hv : val.size < 1073741824) (hf : f ≠ .nil) (g : f.good) (hb : ∀ p ∈ f.pairs, agree a p.1 key ∧ bit p.1 a ≠ bit key a) : (beside f a key val).good := by
  unfold beside
  split
  · rename_i h
    refine mkFork_good ha (by simp) hf ⟨hk, hv⟩ g (fun p hp => ?_) (fun p hp => ?_) (fun p hp => ?_)
    · simp [T.pairs] at hp; rw [hp]; exact h
    · have := (hb p hp).2; rw [h] at this; simpa using this
    · rcases List.mem_append.1 hp with hp | hp
      · simp [T.pairs] at hp; rw [hp]; exact agree.refl _ _
      · exact (hb p hp).1
  · rename_i h
    refine mkFork_good ha hf (by simp) g ⟨hk, hv⟩ (fun p hp => ?_) (fun p hp => ?_) (fun p hp => ?_)
    · have h' := (hb p hp).2
      revert h h'
      cases bit key a <;> cases bit p.1 a <;> simp
    · simp [T.pairs] at hp; rw [hp]; revert h; cases bit key a <;> simp
    · rcases List.mem_append.1 hp with hp | hp
      · exact (hb p hp).1
      · simp [T.pairs] at hp; rw [hp]; exact agree.refl _ _

/-- where a key leaves a fork's bits -/
theorem fork_leaves {a : Nat} {k : ByteArray} {z o : T} (h : (T.fork a k z o).good) (key : ByteArray) (c : common k key < a) : ∀ p ∈ (T.fork a k z o).pairs, agree (common k key) p.1 key ∧ bit p.1 (common k key) ≠ bit key (common k key) := by
  intro p hp
  have g := T.fork_agree h p hp
  refine ⟨(g.le (by omega)).trans (common_agree k key), ?_⟩
  rw [g _ c]
  exact common_ne (by have := h.1; omega)
theorem fork_not_in {a : Nat} {k : ByteArray} {z o : T} (h : (T.fork a k z o).good) (key : ByteArray) (c : common k key < a) : ∀ p ∈ (T.fork a k z o).pairs, p.1 ≠ key :=
  fun p hp e => (fork_leaves h key c p hp).2 (by rw [e])
/-- a key that goes on below -/
theorem fork_below {a : Nat} {k : ByteArray} {z o : T} (h : (T.fork a k z o).good) (key : ByteArray) (c : ¬ common k key < a) : agree a k key :=
  (agree_iff (by have := h.1; omega)).1 (by omega)

theorem T.put_spec {key val : ByteArray} (hk : key.size = 32) (hv : val.size < 1073741824) : ∀ {t : T}, t.good → (t.put key val).1.good ∧ (t.put key val).1 ≠ .nil ∧ (∀ p, p ∈ (t.put key val).1.pairs ↔ p = (key, val) ∨ p ∈ t.pairs ∧ p.1 ≠ key) ∧ (t.put key val).1.pairs.length = t.pairs.length + (if (t.put key val).2 then 1 else 0)
  | .nil, _ => by simp [T.put, T.good, T.pairs, hk, hv]
  | .leaf k v, h => by
    have hc := common_lt h.1 hk
    simp only [T.put]
    split
    · rename_i c
      refine ⟨beside_good c hk hv (by simp) h fun p hp => ?_, by unfold beside; split <;> simp [mkFork], fun p => ?_, by rw [beside_len]; simp⟩
      · simp [T.pairs] at hp; rw [hp]; exact ⟨common_agree _ _, common_ne c⟩
      · rw [beside_pairs]
        have := hc.1 c
        constructor
        · rintro (e | e)
          · exact .inl e
          · exact .inr ⟨e, by simp [T.pairs] at e; rw [e]; exact this⟩
        · rintro (e | e)
          · exact .inl e
          · exact .inr e.1
    · rename_i c
      have e : k = key := by
        by_cases e : k = key
        · exact e
        · exact absurd (hc.2 e) c
      subst e
      refine ⟨⟨hk, hv⟩, by simp, fun p => ?_, by simp [T.pairs]⟩
      simp only [T.pairs, List.mem_singleton]
      constructor
      · intro e; exact .inl e
      · rintro (e | ⟨e, e'⟩)
        · exact e
        · rw [e] at e'; exact absurd rfl e'
  | .fork a k z o, h => by
    have hid := T.fork_idem h
    simp only [T.put]
    split
    · rename_i c
      refine ⟨beside_good (by have := h.1; omega) hk hv (by simp) h (fork_leaves h key c), by unfold beside; split <;> simp [mkFork], fun p => ?_, by rw [beside_len]; simp⟩
      rw [beside_pairs]
      constructor
      · rintro (e | e)
        · exact .inl e
        · exact .inr ⟨e, fork_not_in h key c p e⟩
      · rintro (e | e)
        · exact .inl e
        · exact .inr e.1
    · rename_i c
      have hag := fork_below h key c
      have g := T.fork_agree h
      obtain ⟨h1, h2, h3, h4, h5, h6, h7, h8⟩ := h
      split
      · rename_i hb
        obtain ⟨i1, i2, i3, i4⟩ := T.put_spec hk hv h4
        refine ⟨mkFork_good h1 i2 h3 i1 h5 (fun p hp => ?_) h7 (fun p hp => ?_), by simp [mkFork], fun p => ?_, ?_⟩
        · rcases (i3 p).1 hp with e | e
          · rw [e]; exact hb
          · exact h6 p e.1
        · rcases List.mem_append.1 hp with hp | hp
          · rcases (i3 p).1 hp with e | e
            · rw [e]; exact hag.symm
            · exact g p (List.mem_append_left _ e.1)
          · exact g p (List.mem_append_right _ hp)
        · simp only [mkFork, T.pairs, List.mem_append, i3]
          constructor
          · rintro ((e | e) | e)
            · exact .inl e
            · exact .inr ⟨.inl e.1, e.2⟩
            · exact .inr ⟨.inr e, fun e' => by have := h7 p e; rw [e', hb] at this; exact absurd this (by decide)⟩
          · rintro (e | ⟨e | e, e'⟩)
            · exact .inl (.inl e)
            · exact .inl (.inr ⟨e, e'⟩)
            · exact .inr e
        · simp only [mkFork, T.pairs, List.length_append, i4]; omega
      · rename_i hb
        have hb : bit key a = true := by revert hb; cases bit key a <;> simp
        obtain ⟨i1, i2, i3, i4⟩ := T.put_spec hk hv h5
        refine ⟨mkFork_good h1 h2 i2 h4 i1 h6 (fun p hp => ?_) (fun p hp => ?_), by simp [mkFork], fun p => ?_, ?_⟩
        · rcases (i3 p).1 hp with e | e
          · rw [e]; exact hb
          · exact h7 p e.1
        · rcases List.mem_append.1 hp with hp | hp
          · exact g p (List.mem_append_left _ hp)
          · rcases (i3 p).1 hp with e | e
            · rw [e]; exact hag.symm
            · exact g p (List.mem_append_right _ e.1)
        · simp only [mkFork, T.pairs, List.mem_append, i3]
          constructor
          · rintro (e | e | e)
            · exact .inr ⟨.inl e, fun e' => by have := h6 p e; rw [e', hb] at this; exact absurd this (by decide)⟩
            · exact .inl e
            · exact .inr ⟨.inr e.1, e.2⟩
          · rintro (e | ⟨e | e, e'⟩)
            · exact .inr (.inl e)
            · exact .inl e
            · exact .inr (.inr ⟨e, e'⟩)
        · simp only [mkFork, T.pairs, List.length_append, i4]; omega

end Go.Abs

namespace Go.Abs
open Go

theorem notFalse {b : Bool} (h : ¬ b = false) : b = true := by revert h; cases b <;> simp

theorem T.drop_spec {key : ByteArray} (hk : key.size = 32) : ∀ {t : T}, t.good → (t.drop key).1.good ∧ (∀ p, p ∈ (t.drop key).1.pairs ↔ p ∈ t.pairs ∧ p.1 ≠ key) ∧ t.pairs.length = (t.drop key).1.pairs.length + (if (t.drop key).2 then 1 else 0) ∧ ((t.drop key).2 = false → (t.drop key).1 = t)
  | .nil, _ => by simp [T.drop, T.good, T.pairs]
  | .leaf k v, h => by
    have hc := common_lt h.1 hk
    simp only [T.drop]
    split
    · rename_i c
      refine ⟨h, fun p => ⟨fun e => ⟨e, ?_⟩, fun e => e.1⟩, by simp, fun _ => rfl⟩
      simp [T.pairs] at e; rw [e]; exact hc.1 c
    · rename_i c
      have e : k = key := by
        by_cases e : k = key
        · exact e
        · exact absurd (hc.2 e) c
      subst e
      refine ⟨trivial, fun p => ?_, by simp [T.pairs], by simp⟩
      simp only [T.pairs, List.mem_singleton, List.not_mem_nil, false_iff]
      rintro ⟨e, e'⟩
      rw [e] at e'; exact e' rfl
  | .fork a k z o, h => by
    have hid := T.fork_idem h
    have hh := h
    simp only [T.drop]
    split
    · rename_i c
      exact ⟨h, fun p => ⟨fun e => ⟨e, fork_not_in h key c p e⟩, fun e => e.1⟩, by simp, fun _ => rfl⟩
    · rename_i c
      have hag := fork_below h key c
      have g := T.fork_agree h
      obtain ⟨h1, h2, h3, h4, h5, h6, h7, h8⟩ := h
      split
      · rename_i hb
        have no : ∀ p ∈ o.pairs, p.1 ≠ key := fun p hp e' => by have := h7 p hp; rw [e', hb] at this; exact absurd this (by decide)
        obtain ⟨i1, i2, i3, i4⟩ := T.drop_spec hk h4
        revert i1 i2 i3 i4
        rcases z.drop key with ⟨z', w⟩
        intro i1 i2 i3 i4
        cases w with
        | false =>
          obtain rfl : z' = z := i4 rfl
          refine ⟨hh, fun p => ?_, by simp, fun _ => rfl⟩
          constructor
          · intro e
            refine ⟨e, ?_⟩
            rcases List.mem_append.1 e with e | e
            · exact ((i2 p).1 e).2
            · exact no p e
          · exact fun e => e.1
        | true =>
          have mem : ∀ p, p ∈ z'.pairs ++ o.pairs ↔ p ∈ z.pairs ++ o.pairs ∧ p.1 ≠ key := by
            intro p
            simp only [List.mem_append]
            have := i2 p
            constructor
            · rintro (e | e)
              · exact ⟨.inl (this.1 e).1, (this.1 e).2⟩
              · exact ⟨.inr e, no p e⟩
            · rintro ⟨e | e, e'⟩
              · exact .inl (this.2 ⟨e, e'⟩)
              · exact .inr e
          have gd : z' ≠ .nil → (mkFork a k z' o).good := fun hn => mkFork_good h1 hn h3 i1 h5 (fun p hp => h6 p ((i2 p).1 hp).1) h7 (fun p hp => by
            rcases List.mem_append.1 hp with hp | hp
            · exact g p (List.mem_append_left _ ((i2 p).1 hp).1)
            · exact g p (List.mem_append_right _ hp))
          have len : z.pairs.length + o.pairs.length = (z'.pairs ++ o.pairs).length + 1 := by
            simp only [List.length_append]
            simp only [if_true] at i3
            omega
          cases z' with
          | nil => exact ⟨h5, mem, by simpa [T.pairs] using len, by simp⟩
          | leaf k' v' => exact ⟨gd (by simp), mem, by simpa [T.pairs, mkFork] using len, by simp⟩
          | fork a' k' z'' o'' => exact ⟨gd (by simp), mem, by simpa [T.pairs, mkFork] using len, by simp⟩
      · rename_i hb
        have hb := notFalse hb
        have no : ∀ p ∈ z.pairs, p.1 ≠ key := fun p hp e' => by have := h6 p hp; rw [e', hb] at this; exact absurd this (by decide)
        obtain ⟨i1, i2, i3, i4⟩ := T.drop_spec hk h5
        revert i1 i2 i3 i4
        rcases o.drop key with ⟨o', w⟩
        intro i1 i2 i3 i4
        cases w with
        | false =>
          obtain rfl : o' = o := i4 rfl
          refine ⟨hh, fun p => ?_, by simp, fun _ => rfl⟩
          constructor
          · intro e
            refine ⟨e, ?_⟩
            rcases List.mem_append.1 e with e | e
            · exact no p e
            · exact ((i2 p).1 e).2
          · exact fun e => e.1
        | true =>
          have mem : ∀ p, p ∈ z.pairs ++ o'.pairs ↔ p ∈ z.pairs ++ o.pairs ∧ p.1 ≠ key := by
            intro p
            simp only [List.mem_append]
            have := i2 p
            constructor
            · rintro (e | e)
              · exact ⟨.inl e, no p e⟩
              · exact ⟨.inr (this.1 e).1, (this.1 e).2⟩
            · rintro ⟨e | e, e'⟩
              · exact .inl e
              · exact .inr (this.2 ⟨e, e'⟩)
          have gd : o' ≠ .nil → (mkFork a k z o').good := fun hn => mkFork_good h1 h2 hn h4 i1 h6 (fun p hp => h7 p ((i2 p).1 hp).1) (fun p hp => by
            rcases List.mem_append.1 hp with hp | hp
            · exact g p (List.mem_append_left _ hp)
            · exact g p (List.mem_append_right _ ((i2 p).1 hp).1))
          have len : z.pairs.length + o.pairs.length = (z.pairs ++ o'.pairs).length + 1 := by
            simp only [List.length_append]
            simp only [if_true] at i3
            omega
          cases o' with
          | nil => exact ⟨h4, fun p => by simpa [T.pairs] using mem p, by simpa [T.pairs] using len, by simp⟩
          | leaf k' v' => exact ⟨gd (by simp), mem, by simpa [T.pairs, mkFork] using len, by simp⟩
          | fork a' k' z'' o'' => exact ⟨gd (by simp), mem, by simpa [T.pairs, mkFork] using len, by simp⟩

def T.get (key : ByteArray) : T → Option ByteArray
  | .nil => none
  | .leaf k v => if k = key then some v else none
  | .fork a _ z o => if bit key a = false then z.get key else o.get key

theorem T.get_iff {key : ByteArray} : ∀ {t : T}, t.good → ∀ v, t.get key = some v ↔ (key, v) ∈ t.pairs
  | .nil, _, v => by simp [T.get, T.pairs]
  | .leaf k v', _, v => by
    simp only [T.get, T.pairs, List.mem_singleton, Prod.mk.injEq]
    split
    · rename_i e; subst e; simp [eq_comm]
    · rename_i e; exact ⟨fun h => absurd h (by simp), fun h => absurd h.1.symm e⟩
  | .fork a k z o, h, v => by
    simp only [T.get, T.pairs, List.mem_append]
    split
    · rename_i hb
      rw [T.get_iff h.2.2.2.1]
      constructor
      · exact .inl
      · rintro (e | e)
        · exact e
        · have := h.2.2.2.2.2.2.1 _ e; rw [hb] at this; exact absurd this (by decide)
    · rename_i hb
      rw [T.get_iff h.2.2.2.2.1]
      constructor
      · exact .inr
      · rintro (e | e)
        · have := h.2.2.2.2.2.1 _ e; exact absurd this hb
        · exact e

/-- the document's Get -/
def rget (key : ByteArray) : List Pr → Option ByteArray
  | [] => none
  | p :: l => if p.1 = key then some p.2 else rget key l
theorem rget_mem {key v : ByteArray} : ∀ {l : List Pr}, rget key l = some v → (key, v) ∈ l
  | [], h => by simp [rget] at h
  | p :: l, h => by
    simp only [rget] at h
    split at h
    · rename_i e
      have : v = p.2 := by simpa using h.symm
      rw [this, ← e]; simp
    · exact List.mem_cons_of_mem _ (rget_mem h)
theorem rget_none {key : ByteArray} : ∀ {l : List Pr}, rget key l = none ↔ ∀ p ∈ l, p.1 ≠ key
  | [] => by simp [rget]
  | p :: l => by
    simp only [rget]
    split
    · rename_i e; simp [e]
    · rename_i e; simp [e, rget_none]
theorem T.get_rget {t : T} (h : t.good) (key : ByteArray) : t.get key = rget key t.pairs := by
  cases e : rget key t.pairs with
  | none =>
    cases e' : t.get key with
    | none => rfl
    | some v => exact absurd rfl (rget_none.1 e _ ((T.get_iff h v).1 e'))
  | some v => exact (T.get_iff h v).2 (rget_mem e)

def hasB (n : Nat) (a b : ByteArray) : Bool := (List.range n).all fun i => bit a i == bit b i
theorem hasB_iff {n : Nat} {a b : ByteArray} : hasB n a b = true ↔ agree n a b := by
  simp [hasB, agree]

def T.under (key : ByteArray) (n : Nat) : T → List Pr
  | .nil => []
  | .leaf k v => if common k key < n then [] else [(k, v)]
  | .fork a k z o => if a < n then (if common k key < a then [] else if bit key a = false then z.under key n else o.under key n)
    else if common k key < n then [] else (T.fork a k z o).pairs

theorem T.under_eq {key : ByteArray} {n : Nat} (hn : n ≤ 256) : ∀ {t : T}, t.good → t.under key n = t.pairs.filter fun p => hasB n p.1 key
  | .nil, _ => rfl
  | .leaf k v, h => by
    simp only [T.under, T.pairs, List.filter_cons, List.filter_nil]
    have := agree_iff (a := k) (b := key) hn
    by_cases c : common k key < n
    · rw [if_pos c, if_neg]
      rw [hasB_iff, ← this]; omega
    · rw [if_neg c, if_pos]
      rw [hasB_iff, ← this]; omega
  | .fork a k z o, h => by
    have g := T.fork_agree h
    simp only [T.under]
    by_cases ha : a < n
    · rw [if_pos ha]
      by_cases c : common k key < a
      · rw [if_pos c]
        symm
        rw [List.filter_eq_nil_iff]
        intro p hp
        rw [hasB_iff]
        intro e
        exact (fork_leaves h key c p hp).2 (e _ (by omega))
      · rw [if_neg c]
        simp only [T.pairs, List.filter_append]
        by_cases hb : bit key a = false
        · rw [if_pos hb, T.under_eq hn h.2.2.2.1, (List.filter_eq_nil_iff (l := o.pairs)).2, List.append_nil]
          intro p hp
          rw [hasB_iff]
          intro e
          have := e a ha
          rw [h.2.2.2.2.2.2.1 p hp, hb] at this
          exact absurd this (by decide)
        · rw [if_neg hb, T.under_eq hn h.2.2.2.2.1, (List.filter_eq_nil_iff (l := z.pairs)).2, List.nil_append]
          intro p hp
          rw [hasB_iff]
          intro e
          have := e a ha
          rw [h.2.2.2.2.2.1 p hp] at this
          exact hb this.symm
    · rw [if_neg ha]
      have hc := agree_iff (a := k) (b := key) hn
      by_cases c : common k key < n
      · rw [if_pos c]
        symm
        rw [List.filter_eq_nil_iff]
        intro p hp
        rw [hasB_iff]
        intro e
        have := hc.2 (((g p hp).le (by omega)).symm.trans e)
        omega
      · rw [if_neg c]
        symm
        rw [List.filter_eq_self]
        intro p hp
        rw [hasB_iff]
        exact ((g p hp).le (by omega)).trans (hc.1 (by omega))

/-- the bytes' order is that of the bits -/
theorem bytesLess_iff : ∀ (x y : List UInt8), Op.bytesLess x y = true ↔ (∃ i, (∀ j, j < i → x.getD j 0 = y.getD j 0) ∧ i < y.length ∧ (x.length = i ∨ i < x.length ∧ x.getD i 0 < y.getD i 0)) ∨ False
  | x, [] => by cases x <;> simp [Op.bytesLess]
  | [], b :: y => by
    simp only [Op.bytesLess, true_iff]
    exact .inl ⟨0, fun j hj => absurd hj (by omega), by simp, .inl rfl⟩
  | a :: x, b :: y => by
    simp only [Op.bytesLess, Bool.or_eq_true, Bool.and_eq_true, decide_eq_true_eq, beq_iff_eq, bytesLess_iff x y]
    constructor
    · rintro (h | ⟨rfl, ⟨i, h1, h2, h3⟩ | h⟩)
      · exact .inl ⟨0, fun j hj => absurd hj (by omega), by simp, .inr ⟨by simp, h⟩⟩
      · refine .inl ⟨i + 1, fun j hj => ?_, by simp; omega, ?_⟩
        · cases j with
          | zero => rfl
          | succ j => simpa using h1 j (by omega)
        · rcases h3 with h3 | ⟨h3, h4⟩
          · exact .inl (by simp; omega)
          · exact .inr ⟨by simp; omega, by simpa using h4⟩
      · exact h.elim
    · rintro (⟨i, h1, h2, h3⟩ | h)
      · cases i with
        | zero =>
          rcases h3 with h3 | ⟨h3, h4⟩
          · simp at h3
          · exact .inl (by simpa using h4)
        | succ i =>
          refine .inr ⟨by simpa using h1 0 (by omega), .inl ⟨i, fun j hj => by simpa using h1 (j + 1) (by omega), by simp at h2; omega, ?_⟩⟩
          rcases h3 with h3 | ⟨h3, h4⟩
          · exact .inl (by simp at h3; omega)
          · exact .inr ⟨by simp at h3; omega, by simpa using h4⟩
      · exact h.elim

theorem lt_of_tb {x y : Nat} (i : Nat) (hx : x.testBit i = false) (hy : y.testBit i = true) (h : ∀ j, i < j → x.testBit j = y.testBit j) : x < y := by
  have e : x / 2 ^ (i + 1) = y / 2 ^ (i + 1) := by
    apply Nat.eq_of_testBit_eq
    intro j
    rw [Nat.testBit_div_two_pow, Nat.testBit_div_two_pow]
    exact h _ (by omega)
  rw [Nat.pow_succ, ← Nat.div_div_eq_div_mul, ← Nat.div_div_eq_div_mul] at e
  rw [Nat.testBit_eq_decide_div_mod_eq] at hx hy
  simp only [decide_eq_false_iff_not, decide_eq_true_eq] at hx hy
  have : x / 2 ^ i < y / 2 ^ i := by omega
  apply Nat.lt_of_not_le
  intro hle
  have := Nat.div_le_div_right (c := 2 ^ i) hle
  omega

theorem lt_bit : ∀ x, x < 256 → ∀ y, y < 256 → (x < y ↔ ∃ j, j < 8 ∧ (∀ i, i < j → x.testBit (7 - i) = y.testBit (7 - i)) ∧ x.testBit (7 - j) = false ∧ y.testBit (7 - j) = true) := by
  intro x hx y hy
  constructor
  · intro h
    have hne : x ^^^ y ≠ 0 := fun e => by
      have h := congrArg (fun z => z ^^^ y) e
      simp [Nat.xor_assoc] at h
      omega
    have hlt := Nat.xor_lt_two_pow (n := 8) hx hy
    obtain ⟨h1, h2, h3, h4⟩ := len8_spec _ hlt hne
    generalize len8 (x ^^^ y) = l at *
    refine ⟨8 - l, by omega, fun i hi => ?_, ?_⟩
    · have := h4 i hi
      rw [Nat.testBit_xor] at this
      revert this
      cases x.testBit (7 - i) <;> cases y.testBit (7 - i) <;> simp
    · rw [Nat.testBit_xor] at h3
      by_cases hb : x.testBit (7 - (8 - l)) = true
      · exfalso
        have hb' : y.testBit (7 - (8 - l)) = false := by rw [hb] at h3; revert h3; cases y.testBit (7 - (8 - l)) <;> simp
        have : y < x := by
          apply lt_of_tb (7 - (8 - l)) hb' hb
          intro j hj
          by_cases hj8 : j < 8
          · have := h4 (7 - j) (by omega)
            rw [Nat.testBit_xor, show 7 - (7 - j) = j by omega] at this
            revert this
            cases x.testBit j <;> cases y.testBit j <;> simp
          · have h8 : 2 ^ 8 ≤ 2 ^ j := Nat.pow_le_pow_right (by omega) (by omega)
            rw [Nat.testBit_lt_two_pow (by omega), Nat.testBit_lt_two_pow (by omega)]
        omega
      · have hb : x.testBit (7 - (8 - l)) = false := by revert hb; cases x.testBit (7 - (8 - l)) <;> simp
        refine ⟨hb, ?_⟩
        rw [hb] at h3
        simpa using h3
  · rintro ⟨j, hj, h1, h2, h3⟩
    apply lt_of_tb (7 - j) h2 h3
    intro i hi
    by_cases hi8 : i < 8
    · have := h1 (7 - i) (by omega)
      rwa [show 7 - (7 - i) = i by omega] at this
    · have h8 : 2 ^ 8 ≤ 2 ^ i := Nat.pow_le_pow_right (by omega) (by omega)
      rw [Nat.testBit_lt_two_pow (by omega), Nat.testBit_lt_two_pow (by omega)]

theorem less_klt {a b : ByteArray} (ha : a.size = 32) (hb : b.size = 32) : Op.bytesLess a.toList b.toList = true ↔ klt a b := by
  rw [toList_data, toList_data, bytesLess_iff]
  have la : a.data.toList.length = 32 := by simpa using ha
  have lb : b.data.toList.length = 32 := by simpa using hb
  simp only [or_false]
  constructor
  · rintro ⟨i, h1, h2, h3⟩
    rcases h3 with h3 | ⟨h3, h4⟩
    · omega
    have h4 : byteN a i < byteN b i := h4
    obtain ⟨j, hj, e1, e2, e3⟩ := (lt_bit _ (byteN_lt a i) _ (byteN_lt b i)).1 h4
    refine ⟨8 * i + j, by omega, fun m hm => ?_, ?_, ?_⟩
    · by_cases hm8 : m < 8 * i
      · have : byteN a (m / 8) = byteN b (m / 8) := congrArg UInt8.toNat (h1 (m / 8) (by omega))
        unfold bit; rw [this]
      · obtain ⟨q, rfl⟩ : ∃ q, m = 8 * i + q := ⟨m - 8 * i, by omega⟩
        rw [bit_byte _ _ _ (by omega), bit_byte _ _ _ (by omega)]
        exact e1 q (by omega)
    · rw [bit_byte _ _ _ hj]; exact e2
    · rw [bit_byte _ _ _ hj]; exact e3
  · rintro ⟨m, hm, h1, h2, h3⟩
    obtain ⟨i, j, hj, rfl⟩ : ∃ i j, j < 8 ∧ m = 8 * i + j := ⟨m / 8, m % 8, by omega, by omega⟩
    rw [bit_byte _ _ _ hj] at h2 h3
    refine ⟨i, fun q hq => ?_, by omega, .inr ⟨by omega, ?_⟩⟩
    · apply UInt8.toNat_inj.1
      refine byte_ext (byteN_lt a q) (byteN_lt b q) fun r hr => ?_
      have := h1 (8 * q + r) (by omega)
      rwa [bit_byte _ _ _ hr, bit_byte _ _ _ hr] at this
    · show byteN a i < byteN b i
      refine (lt_bit _ (byteN_lt a i) _ (byteN_lt b i)).2 ⟨j, hj, fun q hq => ?_, h2, h3⟩
      have := h1 (8 * i + q) (by omega)
      rwa [bit_byte _ _ _ (by omega), bit_byte _ _ _ (by omega)] at this

def ble (a b : ByteArray) : Bool := Op.bytesLess a.toList b.toList || a.toList == b.toList
theorem ble_iff {a b : ByteArray} (ha : a.size = 32) (hb : b.size = 32) : ble a b = true ↔ klt a b ∨ a = b := by
  unfold ble
  rw [Bool.or_eq_true, less_klt ha hb, beq_ba]; simp

/-- the document's Put -/
def rput (key val : ByteArray) : List Pr → Bool → List Pr
  | [], d => if d then [] else [(key, val)]
  | p :: l, d => (if !d && ble key p.1 then [(key, val)] else []) ++ (if key = p.1 then [] else [p]) ++ rput key val l (d || ble key p.1)
def rdel (key : ByteArray) (l : List Pr) : List Pr := l.filter fun p => decide (p.1 ≠ key)

theorem rput_true (key val : ByteArray) : ∀ l, rput key val l true = rdel key l
  | [] => rfl
  | p :: l => by
    simp only [rput, rdel, Bool.not_true, Bool.false_and, Bool.true_or, List.filter_cons]
    have := rput_true key val l
    unfold rdel at this
    rw [this]
    by_cases e : key = p.1
    · simp [e]
    · have e' : decide (p.1 ≠ key) = true := by simpa using fun h : p.1 = key => e h.symm
      rw [if_neg e, e']; rfl

theorem rput_spec {key val : ByteArray} (hk : key.size = 32) : ∀ {l : List Pr}, Srt l → (∀ p ∈ l, p.1.size = 32) → Srt (rput key val l false) ∧ ∀ p, p ∈ rput key val l false ↔ p = (key, val) ∨ p ∈ l ∧ p.1 ≠ key
  | [], _, _ => by simp [rput]
  | p :: l, h, hs => by
    obtain ⟨h1, h2⟩ := List.pairwise_cons.1 h
    have hp := hs p (by simp)
    have hb := ble_iff hk hp
    simp only [rput, Bool.not_false, Bool.true_and, Bool.false_or]
    cases e : ble key p.1 with
    | true =>
      simp only [if_true, rput_true]
      have hle := hb.1 e
      have low : ∀ q ∈ l, klt key q.1 := fun q hq => by
        rcases hle with hl | rfl
        · exact hl.trans (h1 q hq)
        · exact h1 q hq
      have mem : ∀ q, q ∈ rdel key l ↔ q ∈ l := fun q => by
        simp only [rdel, List.mem_filter, decide_eq_true_eq]
        exact ⟨fun e => e.1, fun e => ⟨e, fun e' => by have := low q e; rw [e'] at this; exact klt.irrefl _ this⟩⟩
      have sd : Srt (rdel key l) := List.Pairwise.filter _ h2
      by_cases ek : key = p.1
      · rw [if_pos ek]
        refine ⟨by simpa using ⟨fun a b hq => low (a, b) ((mem _).1 hq), sd⟩, fun q => ?_⟩
        simp only [List.append_nil, List.singleton_append, List.mem_cons, mem]
        constructor
        · rintro (e | e)
          · exact .inl e
          · exact .inr ⟨.inr e, fun e' => by have := low q e; rw [e'] at this; exact klt.irrefl _ this⟩
        · rintro (e | ⟨e | e, e'⟩)
          · exact .inl e
          · subst e; exact absurd ek.symm e'
          · exact .inr e
      · rw [if_neg ek]
        have hl : klt key p.1 := by
          rcases hle with hl | hl
          · exact hl
          · exact absurd hl ek
        refine ⟨?_, fun q => ?_⟩
        · show Srt ((key, val) :: p :: rdel key l)
          refine List.pairwise_cons.2 ⟨fun q hq => ?_, List.pairwise_cons.2 ⟨fun q hq => h1 q ((mem q).1 hq), sd⟩⟩
          simp only [List.mem_cons] at hq
          rcases hq with rfl | hq
          · exact hl
          · exact low q ((mem q).1 hq)
        · show q ∈ (key, val) :: p :: rdel key l ↔ _
          simp only [List.mem_cons, mem]
          constructor
          · rintro (e | e | e)
            · exact .inl e
            · exact .inr ⟨.inl e, by rw [e]; exact fun e' => ek e'.symm⟩
            · exact .inr ⟨.inr e, fun e' => by have := low q e; rw [e'] at this; exact klt.irrefl _ this⟩
          · rintro (e | ⟨e, _⟩)
            · exact .inl e
            · exact .inr e
    | false =>
      have hnle : ¬ (klt key p.1 ∨ key = p.1) := fun hh => by rw [hb.2 hh] at e; exact absurd e (by decide)
      have hgt : klt p.1 key := by
        rcases klt.total hk hp with c | c | c
        · exact absurd (.inl c) hnle
        · exact absurd (.inr c) hnle
        · exact c
      have ek : ¬ key = p.1 := fun hh => hnle (.inr hh)
      obtain ⟨i1, i2⟩ := rput_spec (val := val) hk h2 (fun q hq => hs q (List.mem_cons_of_mem _ hq))
      simp only [if_neg ek, Bool.false_eq_true, if_false, List.nil_append, List.singleton_append]
      refine ⟨List.pairwise_cons.2 ⟨fun q hq => ?_, i1⟩, fun q => ?_⟩
      · rcases (i2 q).1 hq with e | e
        · rw [e]; exact hgt
        · exact h1 q e.1
      · simp only [List.mem_cons, i2]
        constructor
        · rintro (e | e | e)
          · exact .inr ⟨.inl e, by rw [e]; exact fun e' => ek e'.symm⟩
          · exact .inl e
          · exact .inr ⟨.inr e.1, e.2⟩
        · rintro (e | ⟨e | e, e'⟩)
          · exact .inr (.inl e)
          · exact .inl e
          · exact .inr (.inr ⟨e, e'⟩)

theorem T.put_pairs {key val : ByteArray} (hk : key.size = 32) (hv : val.size < 1073741824) {t : T} (h : t.good) : (t.put key val).1.pairs = rput key val t.pairs false := by
  obtain ⟨h1, h2⟩ := rput_spec (val := val) hk (T.sorted h) (T.key_size h)
  obtain ⟨g, _, m, _⟩ := T.put_spec hk hv h
  exact srt_ext (T.sorted g) h1 fun p => (m p).trans (h2 p).symm
theorem T.drop_pairs {key : ByteArray} (hk : key.size = 32) {t : T} (h : t.good) : (t.drop key).1.pairs = rdel key t.pairs := by
  obtain ⟨g, m, _⟩ := T.drop_spec hk h
  refine srt_ext (T.sorted g) (List.Pairwise.filter _ (T.sorted h)) fun p => (m p).trans ?_
  simp [rdel]

/-- what stands under a prefix, and under its two longer ones -/
theorem under_split {l : List Pr} (h : Srt l) {key z o : ByteArray} {n : Nat} (hn : n < 256) (hz : agree n z key) (ho : agree n o key) (bz : bit z n = false) (bo : bit o n = true) :
    l.filter (fun p => hasB n p.1 key) = l.filter (fun p => hasB (n + 1) p.1 z) ++ l.filter (fun p => hasB (n + 1) p.1 o) := by
  have one : ∀ (a b : ByteArray), agree (n + 1) a b ↔ agree n a b ∧ bit a n = bit b n := fun a b =>
    ⟨fun e => ⟨e.le (by omega), e n (by omega)⟩, fun e i hi => if c : i < n then e.1 i c else by rw [show i = n by omega]; exact e.2⟩
  refine srt_ext (List.Pairwise.filter _ h) (List.pairwise_append.2 ⟨List.Pairwise.filter _ h, List.Pairwise.filter _ h, fun p hp q hq => ?_⟩) fun p => ?_
  · simp only [List.mem_filter, hasB_iff, one] at hp hq
    exact ⟨n, hn, ((hp.2.1.trans hz).trans ho.symm).trans hq.2.1.symm, hp.2.2.trans bz, hq.2.2.trans bo⟩
  · simp only [List.mem_append, List.mem_filter, hasB_iff, one]
    constructor
    · rintro ⟨h1, h2⟩
      cases hb : bit p.1 n
      · exact .inl ⟨h1, h2.trans hz.symm, by rw [bz]⟩
      · exact .inr ⟨h1, h2.trans ho.symm, by rw [bo]⟩
    · rintro (⟨h1, h2, _⟩ | ⟨h1, h2, _⟩)
      · exact ⟨h1, h2.trans hz⟩
      · exact ⟨h1, h2.trans ho⟩

/-- what is hashed for a tree -/
def leafText (k v : ByteArray) : ByteArray := (⟨#[0]⟩ ++ k) ++ v
def forkText (a : Nat) (k z o : ByteArray) : ByteArray := (((⟨#[1]⟩ ++ mkB [a / 256 % 256, a % 256]) ++ k) ++ z) ++ o
def T.texts : T → List ByteArray
  | .nil => []
  | .leaf k v => [v, leafText k (sha v)]
  | .fork a k z o => z.texts ++ o.texts ++ [forkText a k z.hash o.hash]
def T.last : T → ByteArray
  | .nil => ⟨#[]⟩
  | .leaf k v => leafText k (sha v)
  | .fork a k z o => forkText a k z.hash o.hash
theorem T.last_hash (t : T) (h : t ≠ .nil) : t.hash = sha t.last := by
  cases t with
  | nil => exact absurd rfl h
  | leaf k v => rfl
  | fork a k z o => rfl
theorem T.last_mem (t : T) (h : t ≠ .nil) : t.last ∈ t.texts := by
  cases t with
  | nil => exact absurd rfl h
  | leaf k v => simp [T.last, T.texts]
  | fork a k z o => simp [T.last, T.texts]

theorem app_inj {a b c d : ByteArray} (h : a ++ b = c ++ d) (hs : a.size = c.size) : a = c ∧ b = d := by
  have h := congrArg (fun x : ByteArray => x.data.toList) h
  simp only [ByteArray.data_append, Array.toList_append] at h
  have hl : a.data.toList.length = c.data.toList.length := by simpa using hs
  obtain ⟨h1, h2⟩ := List.append_inj h hl
  exact ⟨ba_ext h1, ba_ext h2⟩

/-- unlike trees of one hash: two unlike texts of theirs have one hash, or one has the hash of nothing -/
def Clash (l : List ByteArray) : Prop := (∃ x ∈ l, sha x = zero32) ∨ ∃ x ∈ l, ∃ y ∈ l, x ≠ y ∧ sha x = sha y
theorem Clash.mono {l m : List ByteArray} (h : Clash l) (k : ∀ x ∈ l, x ∈ m) : Clash m := by
  rcases h with ⟨x, hx, e⟩ | ⟨x, hx, y, hy, e⟩
  · exact .inl ⟨x, k x hx, e⟩
  · exact .inr ⟨x, k x hx, y, k y hy, e⟩
theorem clash_last {t u : T} (ht : t ≠ .nil) (hu : u ≠ .nil) (h : t.hash = u.hash) (hne : t.last ≠ u.last) : Clash (t.texts ++ u.texts) :=
  .inr ⟨t.last, List.mem_append_left _ (T.last_mem t ht), u.last, List.mem_append_right _ (T.last_mem u hu), hne, by rw [← T.last_hash t ht, ← T.last_hash u hu, h]⟩
theorem clash_nil {t : T} (ht : t ≠ .nil) (h : t.hash = zero32) {l : List ByteArray} (hl : ∀ x ∈ t.texts, x ∈ l) : Clash l :=
  .inl ⟨t.last, hl _ (T.last_mem t ht), by rw [← T.last_hash t ht, h]⟩

theorem T.clash : ∀ {t u : T}, t.good → u.good → t ≠ u → t.hash = u.hash → Clash (t.texts ++ u.texts)
  | .nil, u, _, _, hn, he => clash_nil (fun e => hn e.symm) (show u.hash = zero32 from he.symm) (fun x hx => List.mem_append_right _ hx)
  | .leaf k v, .nil, _, _, hn, he => clash_nil (by simp) he (fun x hx => List.mem_append_left _ hx)
  | .fork a k z o, .nil, _, _, hn, he => clash_nil (by simp) he (fun x hx => List.mem_append_left _ hx)
  | .leaf k v, .leaf k' v', h, h', hn, he => by
    by_cases e : (T.leaf k v).last = (T.leaf k' v').last
    · have e : leafText k (sha v) = leafText k' (sha v') := e
      obtain ⟨e1, e2⟩ := app_inj e (by simp only [ByteArray.size_append]; rw [h.1, h'.1])
      obtain ⟨_, e3⟩ := app_inj e1 rfl
      subst e3
      refine .inr ⟨v, by simp [T.texts], v', by simp [T.texts], fun e => hn (by rw [e]), e2⟩
    · exact clash_last (by simp) (by simp) he e
  | .leaf k v, .fork a k' z o, h, h', hn, he => by
    refine clash_last (by simp) (by simp) he fun e => ?_
    have e : (⟨#[0]⟩ ++ k) ++ sha v = (((⟨#[1]⟩ ++ mkB [a / 256 % 256, a % 256]) ++ k') ++ z.hash) ++ o.hash := e
    have := congrArg (fun x : ByteArray => x.data.toList[0]?) e
    simp [ByteArray.data_append] at this
  | .fork a k' z o, .leaf k v, h, h', hn, he => by
    refine clash_last (by simp) (by simp) he fun e => ?_
    have e : (((⟨#[1]⟩ ++ mkB [a / 256 % 256, a % 256]) ++ k') ++ z.hash) ++ o.hash = (⟨#[0]⟩ ++ k) ++ sha v := e
    have := congrArg (fun x : ByteArray => x.data.toList[0]?) e
    simp [ByteArray.data_append] at this
  | .fork a k z o, .fork a' k' z' o', h, h', hn, he => by
    by_cases e : (T.fork a k z o).last = (T.fork a' k' z' o').last
    · have e : (((⟨#[1]⟩ ++ mkB [a / 256 % 256, a % 256]) ++ k) ++ z.hash) ++ o.hash = (((⟨#[1]⟩ ++ mkB [a' / 256 % 256, a' % 256]) ++ k') ++ z'.hash) ++ o'.hash := e
      have s1 := T.ksize h
      have s2 := T.ksize h'
      have m1 := mkB_size [a / 256 % 256, a % 256]
      have m2 := mkB_size [a' / 256 % 256, a' % 256]
      obtain ⟨e1, eo⟩ := app_inj e (by simp only [ByteArray.size_append, T.hash_size, s1, s2, m1, m2]; rfl)
      obtain ⟨e2, ez⟩ := app_inj e1 (by simp only [ByteArray.size_append, s1, s2, m1, m2]; rfl)
      obtain ⟨e3, ek⟩ := app_inj e2 (by simp only [ByteArray.size_append, m1, m2]; rfl)
      obtain ⟨_, ea⟩ := app_inj e3 rfl
      have ea : a = a' := by
        have := congrArg (fun x : ByteArray => byteN x 1) ea
        simp only [byteN_mkB _ _ (show ∀ n ∈ [a / 256 % 256, a % 256], n < 256 by intro n hn; simp at hn; omega), byteN_mkB _ _ (show ∀ n ∈ [a' / 256 % 256, a' % 256], n < 256 by intro n hn; simp at hn; omega)] at this
        have h1 := h.1
        have h1' := h'.1
        simp at this
        omega
      subst ea ek
      by_cases hz : z = z'
      · subst hz
        have ho : o ≠ o' := fun e => hn (by rw [e])
        refine (T.clash h.2.2.2.2.1 h'.2.2.2.2.1 ho eo).mono fun x hx => ?_
        simp only [T.texts, List.mem_append] at hx ⊢
        rcases hx with hx | hx
        · exact .inl (.inl (.inr hx))
        · exact .inr (.inl (.inr hx))
      · refine (T.clash h.2.2.2.1 h'.2.2.2.1 hz ez).mono fun x hx => ?_
        simp only [T.texts, List.mem_append] at hx ⊢
        rcases hx with hx | hx
        · exact .inl (.inl (.inl hx))
        · exact .inr (.inl (.inl hx))
    · exact clash_last (by simp) (by simp) he e

end Go.Abs

namespace Go.Abs
open Go
def setB (k : ByteArray) (i v : Nat) : ByteArray := mkB (((List.range k.size).map (byteN k)).set i v)
theorem setB_size (k : ByteArray) (i v : Nat) : (setB k i v).size = k.size := by unfold setB; rw [mkB_size]; simp
theorem setB_lt (k : ByteArray) (i v : Nat) (hv : v < 256) : ∀ x ∈ ((List.range k.size).map (byteN k)).set i v, x < 256 := by
  intro x hx
  rcases List.mem_or_eq_of_mem_set hx with h | h
  · simp only [List.mem_map] at h
    obtain ⟨q, _, rfl⟩ := h
    exact byteN_lt _ _
  · omega
theorem setB_iv (k : ByteArray) (i v : Nat) (hv : v < 256) : (bytesIV k).set i [IV.int .u8 (v : Int)] = bytesIV (setB k i v) := by
  rw [eb_bytes, eb_set]
  exact eb_mkB _ (setB_lt k i v hv)
theorem setB_byte (k : ByteArray) (i v q : Nat) (hv : v < 256) (hi : i < k.size) (hq : q < k.size) : byteN (setB k i v) q = if q = i then v else byteN k q := by
  unfold setB
  rw [byteN_mkB _ _ (setB_lt k i v hv)]
  simp only [List.getD, List.getElem?_set, List.length_map, List.length_range, List.getElem?_map, List.getElem?_range hq, Option.map_some]
  by_cases e : i = q
  · subst e; simp [hi]
  · rw [if_neg e, if_neg (fun h => e h.symm)]; rfl
def clrN (x j : Nat) : Nat := x &&& (255 - 2 ^ (7 - j))
def setN (x j : Nat) : Nat := x ||| 2 ^ (7 - j)
theorem clrN_lt : ∀ x, x < 256 → ∀ j, j < 8 → clrN x j < 256 := by decide +kernel
theorem setN_lt : ∀ x, x < 256 → ∀ j, j < 8 → setN x j < 256 := by decide +kernel
theorem clrN_iv : ∀ x : Nat, x < 256 → ∀ j : Nat, j < 8 → ibits .andNot .u8 (x : Int) ((128 : Int).fdiv (2 ^ j)) = (clrN x j : Int) := by decide +kernel
theorem setN_iv : ∀ x : Nat, x < 256 → ∀ j : Nat, j < 8 → ibits .or .u8 (x : Int) ((128 : Int).fdiv (2 ^ j)) = (setN x j : Int) := by decide +kernel
theorem clrN_bit : ∀ x, x < 256 → ∀ j, j < 8 → ∀ q, q < 8 → (clrN x j).testBit (7 - q) = (x.testBit (7 - q) && decide (q ≠ j)) := by decide +kernel
theorem setN_bit : ∀ x, x < 256 → ∀ j, j < 8 → ∀ q, q < 8 → (setN x j).testBit (7 - q) = (x.testBit (7 - q) || decide (q = j)) := by decide +kernel
/-- a key with a bit 0, and with a bit 1 -/
def clrK (k : ByteArray) (n : Nat) : ByteArray := setB k (n / 8) (clrN (byteN k (n / 8)) (n % 8))
def setK' (k : ByteArray) (n : Nat) : ByteArray := setB k (n / 8) (setN (byteN k (n / 8)) (n % 8))
theorem clrK_bit {k : ByteArray} (hk : k.size = 32) {n : Nat} (hn : n < 256) (m : Nat) (hm : m < 256) : bit (clrK k n) m = (bit k m && decide (m ≠ n)) := by
  obtain ⟨i, j, hj, rfl⟩ : ∃ i j, j < 8 ∧ m = 8 * i + j := ⟨m / 8, m % 8, by omega, by omega⟩
  have hx := byteN_lt k (n / 8)
  rw [bit_byte _ _ _ hj, bit_byte _ _ _ hj, clrK, setB_byte _ _ _ _ (clrN_lt _ hx _ (by omega)) (by omega) (by omega)]
  by_cases e : i = n / 8
  · rw [if_pos e, clrN_bit _ hx _ (by omega) _ hj, e]
    congr 1
    simp only [decide_eq_decide]; omega
  · rw [if_neg e, decide_eq_true (by omega), Bool.and_true]
theorem setK_bit {k : ByteArray} (hk : k.size = 32) {n : Nat} (hn : n < 256) (m : Nat) (hm : m < 256) : bit (setK' k n) m = (bit k m || decide (m = n)) := by
  obtain ⟨i, j, hj, rfl⟩ : ∃ i j, j < 8 ∧ m = 8 * i + j := ⟨m / 8, m % 8, by omega, by omega⟩
  have hx := byteN_lt k (n / 8)
  rw [bit_byte _ _ _ hj, bit_byte _ _ _ hj, setK', setB_byte _ _ _ _ (setN_lt _ hx _ (by omega)) (by omega) (by omega)]
  by_cases e : i = n / 8
  · rw [if_pos e, setN_bit _ hx _ (by omega) _ hj, e]
    congr 1
    simp only [decide_eq_decide]; omega
  · rw [if_neg e, decide_eq_false (by omega), Bool.or_false]
theorem parts_pure {t : T} (h : t.good) {k : ByteArray} (hk : k.size = 32) {n : Nat} (hn : n < 256) :
    t.under k n = t.under (clrK k n) (n + 1) ++ t.under (setK' (clrK k n) n) (n + 1) := by
  have hz : (clrK k n).size = 32 := (setB_size _ _ _).trans hk
  rw [T.under_eq (by omega) h, T.under_eq (by omega) h, T.under_eq (by omega) h]
  refine under_split (T.sorted h) hn (fun i hi => ?_) (fun i hi => ?_) ?_ ?_
  · rw [clrK_bit hk hn i (by omega), decide_eq_true (by omega), Bool.and_true]
  · rw [setK_bit hz hn i (by omega), clrK_bit hk hn i (by omega), decide_eq_true (by omega), decide_eq_false (by omega), Bool.and_true, Bool.or_false]
  · rw [clrK_bit hk hn n hn]; simp
  · rw [setK_bit hz hn n hn]; simp
theorem under_all {t : T} (h : t.good) (k : ByteArray) : t.under k 0 = t.pairs := by
  rw [T.under_eq (by omega) h]
  exact List.filter_eq_self.2 fun p _ => rfl
end Go.Abs
