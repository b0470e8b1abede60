/- A part of the proof of a seat of parts: WordLib, ShaSpec. -/
import Derived.Test.YtmfilaagpobmbaaGreatDoorA5
set_option linter.all false
namespace Go.Abs
open Go

abbrev W := BitVec 32
abbrev w32 (x : W) : IV := .int .u32 (x.toNat : Int)

theorem wrapU (k : IntKind) (hk : k.signed = false) (n : Int) : k.wrap n = n % (2 ^ k.bits : Int) := by
  cases k <;> simp_all [IntKind.wrap, IntKind.signed, IntKind.bits]

theorem wrap32 (n : Int) : IntKind.u32.wrap n = n % 4294967296 := by rw [wrapU _ rfl]; rfl
theorem wrap8 (n : Int) : IntKind.u8.wrap n = n % 256 := by rw [wrapU _ rfl]; rfl
theorem wrap64u (n : Int) : IntKind.u64.wrap n = n % 18446744073709551616 := by rw [wrapU _ rfl]; rfl

theorem w_add (a b : W) : IntKind.u32.wrap ((a.toNat : Int) + (b.toNat : Int)) = (((a + b).toNat : Nat) : Int) := by
  rw [wrap32, BitVec.toNat_add]; simp
theorem w_xor (a b : W) : ibits .xor .u32 (a.toNat : Int) (b.toNat : Int) = (((a ^^^ b).toNat : Nat) : Int) := by
  show IntKind.u32.wrap (((BitVec.ofInt 32 (a.toNat : Int) ^^^ BitVec.ofInt 32 (b.toNat : Int)) : BitVec 32).toNat : Int) = _
  rw [wrap32, BitVec.ofInt_natCast, BitVec.ofInt_natCast, BitVec.ofNat_toNat, BitVec.ofNat_toNat, BitVec.setWidth_eq, BitVec.setWidth_eq]
  have h := (a ^^^ b).isLt
  omega
theorem w_and (a b : W) : ibits .and .u32 (a.toNat : Int) (b.toNat : Int) = (((a &&& b).toNat : Nat) : Int) := by
  show IntKind.u32.wrap (((BitVec.ofInt 32 (a.toNat : Int) &&& BitVec.ofInt 32 (b.toNat : Int)) : BitVec 32).toNat : Int) = _
  rw [wrap32, BitVec.ofInt_natCast, BitVec.ofInt_natCast, BitVec.ofNat_toNat, BitVec.ofNat_toNat, BitVec.setWidth_eq, BitVec.setWidth_eq]
  have h := (a &&& b).isLt
  omega
theorem w_or (a b : W) : ibits .or .u32 (a.toNat : Int) (b.toNat : Int) = (((a ||| b).toNat : Nat) : Int) := by
  show IntKind.u32.wrap (((BitVec.ofInt 32 (a.toNat : Int) ||| BitVec.ofInt 32 (b.toNat : Int)) : BitVec 32).toNat : Int) = _
  rw [wrap32, BitVec.ofInt_natCast, BitVec.ofInt_natCast, BitVec.ofNat_toNat, BitVec.ofNat_toNat, BitVec.setWidth_eq, BitVec.setWidth_eq]
  have h := (a ||| b).isLt
  omega
theorem w_not (a : W) : ibits .xor .u32 4294967295 (a.toNat : Int) = (((~~~a).toNat : Nat) : Int) := by
  show IntKind.u32.wrap (((BitVec.ofInt 32 4294967295 ^^^ BitVec.ofInt 32 (a.toNat : Int)) : BitVec 32).toNat : Int) = _
  rw [wrap32, BitVec.ofInt_natCast, BitVec.ofNat_toNat, BitVec.setWidth_eq, show BitVec.ofInt 32 4294967295 = BitVec.allOnes 32 by decide, BitVec.allOnes_xor]
  have h := (~~~a).isLt
  omega
theorem w_not' (a : W) : ibits .xor .u32 (if IntKind.u32.signed then -1 else IntKind.u32.max) (a.toNat : Int) = (((~~~a).toNat : Nat) : Int) := w_not a
theorem w_shr (a : W) (n : Nat) : ((a.toNat : Int)).fdiv (2 ^ n) = (((a >>> n).toNat : Nat) : Int) := by
  rw [Int.fdiv_eq_ediv_of_nonneg _ (by exact Int.pow_nonneg (by omega)), BitVec.toNat_ushiftRight, Nat.shiftRight_eq_div_pow]; simp
theorem w_shl (a : W) (n : Nat) : IntKind.u32.wrap ((a.toNat : Int) * 2 ^ n) = (((a <<< n).toNat : Nat) : Int) := by
  rw [wrap32, BitVec.toNat_shiftLeft, Nat.shiftLeft_eq]; simp

def rot (x : W) (n : Nat) : W := (x <<< (32 - n)) ||| (x >>> n)
def three (x : W) (a b c : Nat) : W := rot x a ^^^ rot x b ^^^ rot x c
def sx (x : W) (a b c : Nat) : W := rot x a ^^^ rot x b ^^^ x >>> c
structure S8 where
  a : W
  b : W
  c : W
  d : W
  e : W
  f : W
  g : W
  h : W

abbrev S8.iv (x : S8) : List IV := [w32 x.a, w32 x.b, w32 x.c, w32 x.d, w32 x.e, w32 x.f, w32 x.g, w32 x.h]
abbrev S8.ag (x : S8) : AV := .agg [.imm (w32 x.a), .imm (w32 x.b), .imm (w32 x.c), .imm (w32 x.d), .imm (w32 x.e), .imm (w32 x.f), .imm (w32 x.g), .imm (w32 x.h)]

def S8.one (x : S8) (w : W) : W := x.h + three x.e 6 11 25 + ((x.e &&& x.f) ^^^ (~~~x.e &&& x.g)) + w
def S8.two (x : S8) : W := three x.a 2 13 22 + ((x.a &&& x.b) ^^^ (x.a &&& x.c) ^^^ (x.b &&& x.c))
/-- one round -/
def S8.round (x : S8) (w : W) : S8 := ⟨x.one w + x.two, x.a, x.b, x.c, x.d + x.one w, x.e, x.f, x.g⟩
def S8.plus (x y : S8) : S8 := ⟨x.a + y.a, x.b + y.b, x.c + y.c, x.d + y.d, x.e + y.e, x.f + y.f, x.g + y.g, x.h + y.h⟩

theorem wrap64i (n : Int) (h : -9223372036854775808 ≤ n ∧ n < 9223372036854775808) : IntKind.i64.wrap n = n := by
  show (if (true && decide (n % 18446744073709551616 ≥ 9223372036854775808)) = true then n % 18446744073709551616 - 18446744073709551616 else n % 18446744073709551616) = n
  simp only [Bool.true_and, decide_eq_true_eq]
  split <;> omega

theorem rot_add (x : W) (n : Nat) (h : 0 < n ∧ n < 32) : x >>> n + x <<< (32 - n) = rot x n := by
  unfold rot
  rw [BitVec.add_comm]
  apply BitVec.add_eq_or_of_and_eq_zero
  ext i hi
  simp only [BitVec.getElem_and, BitVec.getElem_shiftLeft, BitVec.getElem_ushiftRight, BitVec.getElem_zero]
  by_cases h1 : i < 32 - n
  · simp [h1]
  · have : x.getLsbD (n + i) = false := BitVec.getLsbD_of_ge _ _ (by omega)
    simp [this]

end Go.Abs

namespace Go.Abs
open Go

def byteW (b : ByteArray) (i : Nat) : W := BitVec.ofNat 32 (b.data.toList.getD i 0).toNat
theorem wrap_sb (b : ByteArray) (i : Nat) : IntKind.u32.wrap (sb b i) = ((byteW b i).toNat : Int) := by
  unfold sb byteW
  have := (b.data.toList.getD i 0).toNat_lt
  rw [wrap32, BitVec.toNat_ofNat, Nat.mod_eq_of_lt (by omega)]; omega

def wordN (b : ByteArray) (j : Nat) : Nat → W
  | 0 => 0
  | m + 1 => wordN b j m <<< 8 ||| byteW b (4 * j + m)

def word (b : ByteArray) (j : Nat) : W := wordN b j 4

def partW (b : ByteArray) (i : Nat) : List W := (List.range 64).map fun j => wordN b j (min 4 (i - 4 * j))

def nx (l : List W) (n : Nat) : W := l.getD n 0 + sx (l.getD (n + 1) 0) 7 18 3 + l.getD (n + 9) 0 + sx (l.getD (n + 14) 0) 17 19 10

def ws (b : ByteArray) : Nat → List W
  | 0 => (List.range 16).map (word b)
  | n + 1 => ws b n ++ [nx (ws b n) n]

def wsz (b : ByteArray) (n : Nat) : List W := ws b n ++ List.replicate (48 - n) 0

theorem ws_len (b : ByteArray) : ∀ n, (ws b n).length = 16 + n
  | 0 => by simp [ws]
  | n + 1 => by simp [ws, ws_len b n]; omega

def e1 (l : List W) : List (List IV) := l.map fun w => [w32 w]

theorem partW_zero (b : ByteArray) : partW b 0 = List.replicate 64 0 := by
  apply List.ext_getElem? ; intro j
  simp only [partW, List.getElem?_map, List.getElem?_range', List.getElem?_replicate]
  by_cases h : j < 64
  · simp [h, wordN]
  · simp [h]

theorem partW_get (b : ByteArray) (i j : Nat) (h : j < 64) : (partW b i)[j]? = some (wordN b j (min 4 (i - 4 * j))) := by
  simp [partW, h]

theorem partW_step (b : ByteArray) (i : Nat) (h : i < 64) : (partW b i).set (i / 4) (wordN b (i / 4) (min 4 (i - 4 * (i / 4))) <<< 8 ||| byteW b i) = partW b (i + 1) := by
  apply List.ext_getElem?; intro j
  rw [List.getElem?_set]
  by_cases hj : j < 64
  · rw [partW_get _ _ _ hj, partW_get _ _ _ hj]
    by_cases e : i / 4 = j
    · subst e
      have hl : i / 4 < (partW b i).length := by simp [partW]; omega
      rw [if_pos rfl, if_pos hl]
      have : min 4 (i + 1 - 4 * (i / 4)) = (i - 4 * (i / 4)) + 1 := by omega
      rw [this, show min 4 (i - 4 * (i / 4)) = i - 4 * (i / 4) by omega]
      simp only [wordN]
      rw [show 4 * (i / 4) + (i - 4 * (i / 4)) = i by omega]
    · rw [if_neg e]
      congr 2; omega
  · have h1 : (partW b i)[j]? = none := by simp [partW]; omega
    have h2 : (partW b (i + 1))[j]? = none := by simp [partW]; omega
    rw [if_neg (by omega), h1, h2]

theorem partW_full (b : ByteArray) : partW b 64 = wsz b 0 := by
  apply List.ext_getElem?; intro j
  by_cases hj : j < 64
  · rw [partW_get _ _ _ hj]
    simp only [wsz, ws, List.getElem?_append, List.length_map, List.length_range, List.getElem?_replicate, List.getElem?_map]
    by_cases h : j < 16
    · rw [if_pos h]
      simp only [List.getElem?_range h, Option.map_some, word]
      congr 2; omega
    · rw [if_neg h, if_pos (by omega), show min 4 (64 - 4 * j) = 0 by omega]; rfl
  · have h1 : (partW b 64)[j]? = none := by simp [partW]; omega
    have h2 : (wsz b 0)[j]? = none := by simp [wsz, ws]; omega
    rw [h1, h2]

theorem wsz_len (b : ByteArray) (n : Nat) (h : n ≤ 48) : (wsz b n).length = 64 := by simp [wsz, ws_len]; omega

theorem wsz_get (b : ByteArray) (n j : Nat) (h : j < 16 + n) : (wsz b n)[j]? = some ((ws b n).getD j 0) := by
  have hl : j < (ws b n).length := by rw [ws_len]; exact h
  simp only [wsz, List.getElem?_append, if_pos hl, List.getD, List.getElem?_eq_getElem hl, Option.getD_some]

theorem wsz_step (b : ByteArray) (n : Nat) (h : n < 48) : (wsz b n).set (n + 16) (nx (ws b n) n) = wsz b (n + 1) := by
  have h1 : 48 - n = (48 - (n + 1)) + 1 := by omega
  unfold wsz
  rw [h1, List.replicate_succ, List.set_append_right _ _ (by rw [ws_len]; omega), ws_len, show n + 16 - (16 + n) = 0 by omega, List.set_cons_zero]
  simp [ws]

theorem e1_get (l : List W) (j : Nat) (w : W) (h : l[j]? = some w) : (e1 l)[j]? = some [w32 w] := by simp [e1, h]
theorem e1_set (l : List W) (j : Nat) (w : W) : (e1 l).set j [w32 w] = e1 (l.set j w) := by simp [e1, List.map_set]
theorem e1_len (l : List W) : (e1 l).length = l.length := by simp [e1]

theorem flat_chunk {α : Type} : ∀ (n sz : Nat) (l : List α), l.length = n * sz → (chunk n sz l).flatten = l
  | 0, _, l, h => by simp at h; simp [chunk, h]
  | n + 1, sz, l, h => by
    rw [Nat.add_mul] at h
    simp only [chunk, List.flatten_cons]
    rw [flat_chunk n sz _ (by simp; omega), List.take_append_drop]

theorem flat_e1 (l : List W) : (e1 l).flatten = l.map w32 := by
  induction l with
  | nil => rfl
  | cons a t ih => simp only [e1] at ih; simp [e1, ih]

/-- a frame of so many slots, of which these are known -/
def kf (l : List (Nat × AV)) : Nat → Nat → List AV
  | 0, _ => []
  | n + 1, i => kfGet l i :: kf l n (i + 1)
where
  kfGet : List (Nat × AV) → Nat → AV
    | [], _ => .undef
    | (k, v) :: t, i => match Nat.beq k i with | true => v | false => kfGet t i

def kfr (n : Nat) (l : List (Nat × AV)) (heap : List Blk) : Fr := ⟨kf l n 0, heap⟩

theorem i64n (n : Nat) (h : n < 9223372036854775808) : IntKind.i64.wrap (n : Int) = n := wrap64i _ (by omega)

def kN : List Nat := [1116352408, 1899447441, 3049323471, 3921009573, 961987163, 1508970993, 2453635748, 2870763221, 3624381080, 310598401, 607225278, 1426881987, 1925078388, 2162078206, 2614888103, 3248222580, 3835390401, 4022224774, 264347078, 604807628, 770255983, 1249150122, 1555081692, 1996064986, 2554220882, 2821834349, 2952996808, 3210313671, 3336571891, 3584528711, 113926993, 338241895, 666307205, 773529912, 1294757372, 1396182291, 1695183700, 1986661051, 2177026350, 2456956037, 2730485921, 2820302411, 3259730800, 3345764771, 3516065817, 3600352804, 4094571909, 275423344, 430227734, 506948616, 659060556, 883997877, 958139571, 1322822218, 1537002063, 1747873779, 1955562222, 2024104815, 2227730452, 2361852424, 2428436474, 2756734187, 3204031479, 3329325298]
def kW : List W := kN.map (BitVec.ofNat 32)
def fN : List Nat := [1779033703, 3144134277, 1013904242, 2773480762, 1359893119, 2600822924, 528734635, 1541459225]
def first8 : S8 := ⟨1779033703#32, 3144134277#32, 1013904242#32, 2773480762#32, 1359893119#32, 2600822924#32, 528734635#32, 1541459225#32⟩

/-- so many rounds of a block -/
def rnd (b : ByteArray) (x : S8) : Nat → S8
  | 0 => x
  | t + 1 => (rnd b x t).round (kW.getD t 0 + (wsz b 48).getD t 0)

def S8.blk (x : S8) (b : ByteArray) : S8 := x.plus (rnd b x 64)

/-- so many blocks of a text -/
def runs : Nat → S8 → ByteArray → S8
  | 0, x, _ => x
  | n + 1, x, t => runs n (x.blk (t.extract 0 64)) (t.extract 64 t.size)

def be4 (w : W) : List UInt8 := [UInt8.ofNat (w >>> 24).toNat, UInt8.ofNat (w >>> 16).toNat, UInt8.ofNat (w >>> 8).toNat, UInt8.ofNat w.toNat]
def S8.out (x : S8) : ByteArray := ⟨(be4 x.a ++ be4 x.b ++ be4 x.c ++ be4 x.d ++ be4 x.e ++ be4 x.f ++ be4 x.g ++ be4 x.h).toArray⟩

def be8 (n : Nat) : List UInt8 := (List.range 8).map fun i => UInt8.ofNat (n / 2 ^ (56 - 8 * i))
/-- what follows a text of a length -/
def behind (n : Nat) : ByteArray := ⟨((128 : UInt8) :: (List.replicate ((119 - n % 64) % 64) 0 ++ be8 (8 * n))).toArray⟩
def padded (s : ByteArray) : ByteArray := s ++ behind s.size
def sha (s : ByteArray) : ByteArray := (runs ((padded s).size / 64) first8 (padded s)).out

theorem byIV (n : Nat) : IV.int .u8 (IntKind.u8.wrap (n : Int)) = IV.int .u8 (((UInt8.ofNat n).toNat : Nat) : Int) := by
  rw [wrap8]; simp [UInt8.toNat_ofNat']

theorem sha_size (s : ByteArray) : (sha s).size = 32 := rfl

theorem wsz_length (b : ByteArray) : (wsz b 48).length = 64 := wsz_len b 48 (by omega)

theorem loop_eq (b : ByteArray) : ∀ (n i : Nat) (r : List UInt8), n = b.size - i → ByteArray.toList.loop b i r = r.reverse ++ b.data.toList.drop i := by
  intro n
  induction n with
  | zero =>
    intro i r h
    unfold ByteArray.toList.loop
    have : ¬ i < b.size := by omega
    rw [if_neg this, List.drop_eq_nil_of_le (by simp [← ByteArray.size_data] at *; omega)]; simp
  | succ n ih =>
    intro i r h
    unfold ByteArray.toList.loop
    have hi : i < b.size := by omega
    have hi' : i < b.data.toList.length := by simpa using hi
    rw [if_pos hi, ih (i + 1) _ (by omega), List.drop_eq_getElem_cons hi']
    simp [ByteArray.get!, hi]
theorem toList_data (b : ByteArray) : b.toList = b.data.toList := by
  unfold ByteArray.toList
  rw [loop_eq b _ 0 [] rfl]; simp

theorem beq_ba (a b : ByteArray) : (a.toList == b.toList) = decide (a = b) := by
  rw [toList_data, toList_data]
  by_cases h : a = b
  · subst h; simp
  · rw [decide_eq_false h]
    cases hb : a.data.toList == b.data.toList with
    | false => rfl
    | true =>
      refine absurd ?_ h
      have := eq_of_beq hb
      cases a; cases b
      simp at this
      simpa using this

theorem beq_empty (t : ByteArray) (h : 0 < t.size) : (t.toList == (ByteArray.mk #[]).toList) = false := by
  rw [beq_ba, decide_eq_false]
  rintro rfl
  exact absurd h (by decide)

theorem tmodN (n k : Nat) : (n : Int).tmod (k : Int) = ((n % k : Nat) : Int) := (Int.ofNat_tmod n k).symm
theorem zeros_num (n : Nat) : (IntKind.i64.wrap (119 - (n : Int).tmod 64)).tmod 64 = (((119 - n % 64) % 64 : Nat) : Int) := by
  rw [show (64 : Int) = ((64 : Nat) : Int) from rfl, tmodN, wrap64i _ (by omega), show (119 : Int) - ((n % 64 : Nat) : Int) = ((119 - n % 64 : Nat) : Int) by omega, tmodN]

theorem ba_ext {a b : ByteArray} (h : a.data.toList = b.data.toList) : a = b := by
  cases a; cases b; simp at h; simpa using h

def bh (n k : Nat) : ByteArray := ⟨((128 : UInt8) :: (List.replicate ((119 - n % 64) % 64) 0 ++ (be8 (8 * n)).take k)).toArray⟩
theorem bh_full (n : Nat) : bh n 8 = behind n := by
  unfold bh behind
  rw [List.take_of_length_le (by simp [be8])]
theorem bh_size (n k : Nat) (h : k ≤ 8) : (bh n k).size = 1 + (119 - n % 64) % 64 + k := by
  simp [bh, ByteArray.size, be8]; omega
theorem bh_step (n k : Nat) (h : k < 8) : bh n k ++ ⟨#[UInt8.ofNat (8 * n / 2 ^ (56 - 8 * k))]⟩ = bh n (k + 1) := by
  apply ba_ext
  have h2 : (be8 (8 * n))[k]? = some (UInt8.ofNat (8 * n / 2 ^ (56 - 8 * k))) := by simp [be8, h]
  simp only [bh, ByteArray.data_append, Array.toList_append, List.cons_append, List.append_assoc, List.take_add_one, h2]
  rfl
theorem behind_size (n : Nat) : (behind n).size = 9 + (119 - n % 64) % 64 := by rw [← bh_full, bh_size _ _ (by omega)]; omega
theorem padded_size (s : ByteArray) : (padded s).size = 64 * ((padded s).size / 64) := by
  have : (padded s).size = s.size + (9 + (119 - s.size % 64) % 64) := by rw [padded, ByteArray.size_append, behind_size]
  omega
theorem padded_lt (s : ByteArray) : (padded s).size ≤ s.size + 72 := by
  have : (padded s).size = s.size + (9 + (119 - s.size % 64) % 64) := by rw [padded, ByteArray.size_append, behind_size]
  omega

def by4 (w : W) : List (List IV) := [[.int .u8 (IntKind.u8.wrap ((w.toNat : Int).fdiv (2 ^ min (24 : Int).toNat IntKind.u32.bits)))], [.int .u8 (IntKind.u8.wrap ((w.toNat : Int).fdiv (2 ^ min (16 : Int).toNat IntKind.u32.bits)))], [.int .u8 (IntKind.u8.wrap ((w.toNat : Int).fdiv (2 ^ min (8 : Int).toNat IntKind.u32.bits)))], [.int .u8 (IntKind.u8.wrap (w.toNat : Int))]]
theorem by4_eq (w : W) : by4 w = (be4 w).map fun b => [IV.int .u8 (b.toNat : Int)] := by
  unfold by4
  rw [w_shr, w_shr, w_shr, byIV, byIV, byIV, byIV]; rfl
theorem out_bytes (x : S8) : by4 x.a ++ by4 x.b ++ by4 x.c ++ by4 x.d ++ by4 x.e ++ by4 x.f ++ by4 x.g ++ by4 x.h = bytesIV x.out := by
  simp only [bytesIV, S8.out, by4_eq, List.map_append]

theorem shl_or (x : W) (b : ByteArray) (i : Nat) : x <<< 8 ||| byteW b i = x * 256#32 + byteW b i := by
  have h := (b.data.toList.getD i 0).toNat_lt
  have h1 : x * 256#32 = x <<< 8 := by
    apply BitVec.eq_of_toNat_eq
    rw [BitVec.toNat_mul, BitVec.toNat_shiftLeft, Nat.shiftLeft_eq]; rfl
  rw [h1, BitVec.add_eq_or_of_and_eq_zero]
  ext k hk
  simp only [BitVec.getElem_and, BitVec.getElem_shiftLeft, BitVec.getElem_zero]
  by_cases h8 : k < 8
  · simp [h8]
  · have : (byteW b i)[k] = false := by
      rw [BitVec.getElem_eq_testBit_toNat]
      apply Nat.testBit_lt_two_pow
      have : (byteW b i).toNat = (b.data.toList.getD i 0).toNat := by
        unfold byteW; rw [BitVec.toNat_ofNat, Nat.mod_eq_of_lt (by omega)]
      rw [this]
      calc _ < 2 ^ 8 := h
        _ ≤ 2 ^ k := Nat.pow_le_pow_right (by omega) (by omega)
    simp [this]

theorem w_mul (a : W) : IntKind.u32.wrap ((a.toNat : Int) * 256) = (((a * 256#32).toNat : Nat) : Int) := by
  rw [wrap32, BitVec.toNat_mul]
  show _ = ((a.toNat * 256 % 4294967296 : Nat) : Int)
  omega

theorem wordN_step (b : ByteArray) (j m : Nat) : wordN b j m * 256#32 + byteW b (4 * j + m) = wordN b j (m + 1) := (shl_or _ _ _).symm

def lo (n : Nat) : Nat → List UInt8
  | 0 => []
  | i + 1 => UInt8.ofNat (n / 256 ^ i) :: lo n i
def loB (n i : Nat) : ByteArray := ⟨(lo n i).toArray⟩
theorem lo_len (n : Nat) : ∀ i, (lo n i).length = i
  | 0 => rfl
  | i + 1 => by simp [lo, lo_len n i]
theorem loB_size (n i : Nat) : (loB n i).size = i := by simp [loB, ByteArray.size, lo_len]
theorem loB_step (n i : Nat) : ⟨#[UInt8.ofNat (n / 256 ^ i)]⟩ ++ loB n i = loB n (i + 1) := by
  apply ba_ext; simp [loB, lo]
theorem lo_be8 (n : Nat) : lo n 8 = be8 n := rfl
theorem lo_be4 (w : W) : lo w.toNat 4 = be4 w := by
  simp only [lo, be4, BitVec.toNat_ushiftRight, Nat.shiftRight_eq_div_pow]
  simp

def hv (l : List Nat) : List Nat := l.flatMap fun n => [n / 4294967296, n % 4294967296]
def e32 (l : List Nat) : List (List IV) := l.map fun n : Nat => [IV.int .u32 (n : Int)]
def e64 (l : List Nat) : List (List IV) := l.map fun n : Nat => [IV.int .u64 (n : Int)]
theorem hv_len (l : List Nat) : (hv l).length = 2 * l.length := by
  induction l with
  | nil => rfl
  | cons a t ih => simp only [hv] at ih ⊢; simp [ih]; omega
theorem hv_snoc (l : List Nat) (n : Nat) : hv (l ++ [n]) = hv l ++ [n / 4294967296, n % 4294967296] := by simp [hv]

def sqN : List Nat := [7640891576010911365, 4354685563439150394, 5840696474761259148, 2270897967128956185]
theorem hv_sq : hv sqN = fN := by decide

theorem e64_get (l : List Nat) (i n : Nat) (h : l[i]? = some n) : (e64 l)[i]? = some [IV.int .u64 (n : Int)] := by simp [e64, h]
theorem e32_len (l : List Nat) : (e32 l).length = l.length := by simp [e32]
theorem e64_len (l : List Nat) : (e64 l).length = l.length := by simp [e64]
theorem hv_take (l : List Nat) (i n : Nat) (h : l[i]? = some n) : e32 (hv (l.take (i + 1))) = e32 (hv (l.take i)) ++ [[IV.int .u32 ((n / 4294967296 : Nat) : Int)], [IV.int .u32 ((n % 4294967296 : Nat) : Int)]] := by
  rw [List.take_add_one, h]
  simp [hv_snoc, e32]
theorem half1 (n : Nat) (h : n < 18446744073709551616) : IntKind.u32.wrap (IntKind.u64.wrap ((n : Int).tdiv 4294967296)) = ((n / 4294967296 : Nat) : Int) := by
  rw [show (4294967296 : Int) = ((4294967296 : Nat) : Int) from rfl, ← Int.ofNat_tdiv, wrap64u, wrap32]; omega
theorem half2 (n : Nat) : IntKind.u32.wrap ((n : Int).tmod 4294967296) = ((n % 4294967296 : Nat) : Int) := by
  rw [show (4294967296 : Int) = ((4294967296 : Nat) : Int) from rfl, tmodN, wrap32]; omega

def cuN : List Nat := [4794697085070296209, 13096744586791213989, 4131703405765792241, 10538285296827260629, 15566598207151758081, 2608012711741390275, 8268148720858477054, 11230858888332702068, 16472876343709550470, 1135362055407968716, 3308224257782482090, 6679025011744409818, 10970295157772109421, 12683024718762704839, 14330467156182405447, 489312709404862823, 2861767655337697592, 5560940570391088403, 7280758554198936251, 9350256978237205637, 11727347735703742027, 14000437183109681571, 15101387698198873636, 17586052440550711408, 1847814047869135880, 2830643534987574453, 4115178123771292234, 6601373596217405427, 8399075790807196527, 9568029438005150216, 10430055239000288491, 13761210420988836082]
theorem hv_cu : hv cuN = kN := by decide

abbrev S8.el (x : S8) : List (List IV) := [[w32 x.a], [w32 x.b], [w32 x.c], [w32 x.d], [w32 x.e], [w32 x.f], [w32 x.g], [w32 x.h]]
def wf (s : ByteArray) (i : Nat) : List W := if i ≤ 16 then (List.range i).map (word s) ++ List.replicate (64 - i) 0 else wsz s (i - 16)
theorem wf0 (s : ByteArray) : wf s 0 = List.replicate 64 0 := rfl
theorem wf_hi (s : ByteArray) (n : Nat) : wf s (n + 16) = wsz s n := by
  unfold wf
  split
  · have : n = 0 := by omega
    subst this; rfl
  · rw [Nat.add_sub_cancel]
theorem wf_len (s : ByteArray) (i : Nat) (h : i ≤ 64) : (wf s i).length = 64 := by
  unfold wf; split
  · simp; omega
  · rw [wsz_len _ _ (by omega)]
theorem wf_lo (s : ByteArray) (i : Nat) (h : i < 16) : (wf s i).set i (word s i) = wf s (i + 1) := by
  unfold wf
  rw [if_pos (by omega), if_pos (by omega), show 64 - i = (64 - (i + 1)) + 1 by omega, List.replicate_succ, List.set_append_right _ _ (by simp)]
  simp [List.range_succ]
theorem e32_e1 (l : List Nat) (h : ∀ n ∈ l, n < 4294967296) : e32 l = e1 (l.map (BitVec.ofNat 32)) := by
  unfold e32 e1
  rw [List.map_map]
  apply List.map_congr_left
  intro n hn
  simp only [Function.comp]
  show _ = [IV.int .u32 (((BitVec.ofNat 32 n).toNat : Nat) : Int)]
  rw [BitVec.toNat_ofNat, Nat.mod_eq_of_lt (h n hn)]

def pz (s : ByteArray) (j : Nat) : ByteArray := s ++ ⟨((128 : UInt8) :: List.replicate j 0).toArray⟩
theorem pz_size (s : ByteArray) (j : Nat) : (pz s j).size = s.size + 1 + j := by
  rw [pz, ByteArray.size_append]
  show s.size + (((128 : UInt8) :: List.replicate j 0).toArray).size = _
  rw [List.size_toArray, List.length_cons, List.length_replicate]; omega
theorem pz_step (s : ByteArray) (j : Nat) : pz s j ++ ⟨#[0]⟩ = pz s (j + 1) := by
  apply ba_ext
  simp only [pz, ByteArray.data_append, Array.toList_append, List.append_assoc, List.cons_append]
  rw [show [(0 : UInt8)] = List.replicate 1 0 from rfl, List.replicate_append_replicate]
theorem pz_full (s : ByteArray) : pz s ((119 - s.size % 64) % 64) ++ loB (8 * s.size) 8 = padded s := by
  apply ba_ext
  simp only [pz, padded, behind, loB, lo_be8, ByteArray.data_append, Array.toList_append, List.append_assoc, List.cons_append]
theorem wrap64w (w : W) : IntKind.u64.wrap (w.toNat : Int) = (w.toNat : Int) := by
  have := w.isLt
  rw [wrap64u]; omega
theorem out_join (x : S8) : (⟨#[]⟩ : ByteArray) ++ loB x.a.toNat 4 ++ loB x.b.toNat 4 ++ loB x.c.toNat 4 ++ loB x.d.toNat 4 ++ loB x.e.toNat 4 ++ loB x.f.toNat 4 ++ loB x.g.toNat 4 ++ loB x.h.toNat 4 = x.out := by
  apply ba_ext
  simp only [S8.out, loB, lo_be4, ByteArray.data_append, Array.toList_append, List.nil_append]

end Go.Abs
