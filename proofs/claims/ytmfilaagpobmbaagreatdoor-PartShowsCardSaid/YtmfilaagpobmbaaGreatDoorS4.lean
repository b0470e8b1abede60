/- A part of the proof of a seat of parts: NdSpec, NumLib, RdPure, RdPure2, PtPure, PtPure2. -/
import Derived.Test.YtmfilaagpobmbaaGreatDoorS2
import Derived.Test.YtmfilaagpobmbaaGreatDoorS3
set_option linter.all false
/- Nodes, their bytes, and reading them. -/
namespace Go.Abs
open Go

inductive Nd where
  | num (n : Nat)
  | str (s : ByteArray)
  | lst (l : List Nd)

mutual
def Nd.iv : Nd → List IV
  | .num n => [.int .i64 0, .int .u64 (n : Int), .str ⟨#[]⟩, .lst []]
  | .str s => [.int .i64 1, .int .u64 0, .str s, .lst []]
  | .lst l => [.int .i64 2, .int .u64 0, .str ⟨#[]⟩, .lst (ivs l)]
def ivs : List Nd → List (List IV)
  | [] => []
  | a :: t => a.iv :: ivs t
end
theorem ivs_eq : ∀ l : List Nd, ivs l = l.map Nd.iv
  | [] => rfl
  | a :: t => by rw [ivs, ivs_eq t]; rfl
theorem ivs_len (l : List Nd) : (ivs l).length = l.length := by rw [ivs_eq, List.length_map]
theorem ivs_get (l : List Nd) (i : Nat) (n : Nd) (h : l[i]? = some n) : (ivs l)[i]? = some n.iv := by rw [ivs_eq, List.getElem?_map, h]; rfl
theorem ivs_app (l m : List Nd) : ivs l ++ ivs m = ivs (l ++ m) := by rw [ivs_eq, ivs_eq, ivs_eq, List.map_append]
theorem ivs_drop (l : List Nd) (n : Nat) : (ivs l).drop n = ivs (l.drop n) := by rw [ivs_eq, ivs_eq, List.map_drop]
theorem ivs_take (l : List Nd) (n : Nat) : (ivs l).take n = ivs (l.take n) := by rw [ivs_eq, ivs_eq, List.map_take]
theorem Nd.iv_len (n : Nd) : n.iv.length = 4 := by cases n <;> rfl
theorem Nd.iv_four (n : Nd) : ∃ x y z u, n.iv = [x, y, z, u] := by cases n <;> exact ⟨_, _, _, _, rfl⟩
theorem ivs_all (l : List Nd) : ∀ c ∈ ivs l, c.length = 4 := by
  intro c hc; rw [ivs_eq, List.mem_map] at hc; obtain ⟨n, _, rfl⟩ := hc; exact n.iv_len

/-- bytes of numbers below 256 -/
def nb (n : Nat) : ByteArray := ⟨#[UInt8.ofNat n]⟩
/-- a size, seven bits a byte -/
def vsize (n : Nat) : ByteArray := if n < 128 then nb n else nb (n % 128 + 128) ++ vsize (n / 128)
termination_by n
decreasing_by omega
/-- a number, its highest byte first -/
def bigE (n : Nat) : List UInt8 := if n = 0 then [] else bigE (n / 256) ++ [UInt8.ofNat n]
termination_by n
decreasing_by omega
def numB (n : Nat) : ByteArray := nb (bigE n).length ++ ⟨(bigE n).toArray⟩
mutual
def Nd.bytes : Nd → ByteArray
  | .num n => nb 110 ++ numB n
  | .str s => nb 115 ++ vsize s.size ++ s
  | .lst l => nb 108 ++ vsize l.length ++ Nd.bytesL l
def Nd.bytesL : List Nd → ByteArray
  | [] => ⟨#[]⟩
  | a :: t => a.bytes ++ Nd.bytesL t
end
mutual
def Nd.deep : Nd → Nat
  | .num _ => 1
  | .str _ => 1
  | .lst l => Nd.deepL l + 1
def Nd.deepL : List Nd → Nat
  | [] => 0
  | a :: t => max a.deep (Nd.deepL t)
end
mutual
def Nd.fine : Nd → Prop
  | .num n => n < 18446744073709551616
  | .str s => s.size < 536870912
  | .lst l => l.length < 536870912 ∧ Nd.fineL l
def Nd.fineL : List Nd → Prop
  | [] => True
  | a :: t => a.fine ∧ Nd.fineL t
end
theorem Nd.deep_pos (n : Nd) : 0 < n.deep := by cases n <;> simp [Nd.deep]
theorem Nd.deep_mem : ∀ {l : List Nd} {n : Nd}, n ∈ l → n.deep ≤ Nd.deepL l
  | a :: t, n, h => by
    rw [Nd.deepL]
    rcases List.mem_cons.1 h with rfl | h
    · omega
    · have := Nd.deep_mem h; omega
theorem Nd.fine_mem : ∀ {l : List Nd} {n : Nd}, n ∈ l → Nd.fineL l → n.fine
  | a :: t, n, h, hf => by
    rw [Nd.fineL] at hf
    rcases List.mem_cons.1 h with rfl | h
    · exact hf.1
    · exact Nd.fine_mem h hf.2
theorem Nd.bytesL_app : ∀ l m : List Nd, Nd.bytesL (l ++ m) = Nd.bytesL l ++ Nd.bytesL m
  | [], m => by show _ = (⟨#[]⟩ : ByteArray) ++ _; exact ByteArray.empty_append.symm
  | a :: l, m => by show a.bytes ++ Nd.bytesL (l ++ m) = (a.bytes ++ Nd.bytesL l) ++ _; rw [Nd.bytesL_app l m, ByteArray.append_assoc]

/-- bytes as a text -/
abbrev bl (l : List UInt8) : ByteArray := ⟨l.toArray⟩
theorem bl_size (l : List UInt8) : (bl l).size = l.length := rfl
theorem bl_app (l m : List UInt8) : bl l ++ bl m = bl (l ++ m) := by
  apply ba_ext; simp
theorem bl_self (s : ByteArray) : bl s.data.toList = s := rfl
theorem bl_extract (l : List UInt8) (a b : Nat) : (bl l).extract a b = bl ((l.drop a).take (b - a)) := by
  apply ba_ext
  rw [ByteArray.data_extract]
  show (Array.extract l.toArray a b).toList = _
  simp [List.extract_eq_take_drop]
theorem bl_at (l : List UInt8) (i : Nat) (c : UInt8) (h : l[i]? = some c) : sb (bl l) i = (c.toNat : Int) := by
  simp [sb, List.getD, h]

/-- reading a size -/
def rdSz : Nat → Bool → List UInt8 → Option (Nat × List UInt8)
  | 0, _, _ => none
  | _ + 1, _, [] => none
  | f + 1, fst, c :: l => if c.toNat < 128 then (if c.toNat = 0 ∧ fst = false then none else some (c.toNat, l)) else
    match rdSz f false l with
    | none => none
    | some (n, r) => some (c.toNat % 128 + 128 * n, r)
def be (l : List UInt8) : Nat := l.foldl (fun n c => 256 * n + c.toNat) 0
def rdsW (f : List UInt8 → Option (Nd × List UInt8)) : Nat → List UInt8 → Option (List Nd × List UInt8)
  | 0, r => some ([], r)
  | n + 1, r => match f r with
    | none => none
    | some (a, r) => match rdsW f n r with
      | none => none
      | some (k, r) => some (a :: k, r)
def rd : Nat → List UInt8 → Option (Nd × List UInt8)
  | 0, _ => none
  | _ + 1, [] => none
  | d + 1, c :: l => match rdSz 4 true l with
    | none => none
    | some (n, r) =>
      if c.toNat = 110 then (if 8 < n ∨ r.length < n ∨ (0 < n ∧ r[0]? = some 0) then none else some (.num (be (r.take n)), r.drop n))
      else if c.toNat = 115 then (if r.length < n then none else some (.str (bl (r.take n)), r.drop n))
      else if c.toNat = 108 then (match rdsW (rd d) n r with | none => none | some (k, r) => some (.lst k, r))
      else none
abbrev rds (d : Nat) := rdsW (rd d)
/-- the node of a text -/
def readN (s : ByteArray) : Option Nd :=
  match rd 20 s.data.toList with
  | some (n, []) => some n
  | _ => none
end Go.Abs

/- Words on numbers, for the walks. -/
namespace Go.Abs
open Go
theorem shrN (n k : Nat) : ((n : Int)).fdiv (2 ^ k) = ((n / 2 ^ k : Nat) : Int) := by
  rw [Int.fdiv_eq_ediv_of_nonneg _ (Int.pow_nonneg (by omega))]; simp
theorem u64n (n : Nat) (h : n < 18446744073709551616) : IntKind.u64.wrap (n : Int) = n := by rw [wrap64u]; omega
theorem u8n (n : Nat) : IntKind.u8.wrap (n : Int) = ((n % 256 : Nat) : Int) := by rw [wrap8]; omega
theorem len8_shift (x k : Nat) (h : 2 ^ k ≤ x) : len8 x = len8 (x / 2 ^ k) + k := by
  have hp : 0 < 2 ^ k := Nat.two_pow_pos k
  have h0 : x ≠ 0 := by omega
  have h1 : x / 2 ^ k ≠ 0 := by
    have := Nat.div_pos h hp
    omega
  unfold len8
  rw [if_neg h0, if_neg h1]
  have hl : (x / 2 ^ k).log2 + k = x.log2 := by
    symm
    rw [Nat.log2_eq_iff h0]
    have e1 := Nat.log2_self_le h1
    have e2 := Nat.lt_log2_self (n := x / 2 ^ k)
    have e3 := Nat.div_add_mod x (2 ^ k)
    have e4 := Nat.mod_lt x hp
    constructor
    · rw [Nat.pow_add]
      have := Nat.mul_le_mul_right (2 ^ k) e1
      have e5 : x / 2 ^ k * 2 ^ k ≤ x := Nat.div_mul_le_self _ _
      omega
    · rw [show (x / 2 ^ k).log2 + k + 1 = ((x / 2 ^ k).log2 + 1) + k by omega, Nat.pow_add]
      exact (Nat.div_lt_iff_lt_mul hp).1 e2
  omega
theorem len8_le (x k : Nat) (h : x < 2 ^ k) : len8 x ≤ k := by
  unfold len8
  split
  · omega
  · rename_i h0
    have := Nat.log2_self_le h0
    have : x.log2 < k := (Nat.pow_lt_pow_iff_right (by omega : 1 < 2)).1 (by omega)
    omega
/-- how many bytes a number has -/
theorem bigE_len (x : Nat) : (bigE x).length = (len8 x + 7) / 8 := by
  induction x using Nat.strongRecOn with
  | ind x ih =>
    rw [bigE]
    split
    · rename_i h; subst h; rfl
    · rename_i h
      rw [List.length_append, ih (x / 256) (by omega)]
      by_cases h2 : 256 ≤ x
      · rw [len8_shift x 8 h2]
        show _ + 1 = _
        rw [show 2 ^ 8 = 256 from rfl]
        omega
      · have h3 : x / 256 = 0 := by omega
        rw [h3]
        have h4 : len8 x ≤ 8 := len8_le x 8 (by omega)
        have h5 : 0 < len8 x := by unfold len8; rw [if_neg h]; omega
        show (len8 0 + 7) / 8 + 1 = _
        rw [show len8 0 = 0 from rfl]
        omega
theorem bigE_lt (x : Nat) (h : x < 18446744073709551616) : (bigE x).length ≤ 8 := by
  rw [bigE_len]
  have := len8_le x 64 h
  omega
theorem bigE_get (x : Nat) : ∀ i, i < (bigE x).length → (bigE x)[i]? = some (UInt8.ofNat (x / 256 ^ ((bigE x).length - 1 - i))) := by
  induction x using Nat.strongRecOn with
  | ind x ih =>
    intro i hi
    by_cases h : x = 0
    · subst h; rw [bigE, if_pos rfl] at hi; simp at hi
    · have e : bigE x = bigE (x / 256) ++ [UInt8.ofNat x] := by rw [bigE, if_neg h]
      rw [e] at hi ⊢
      rw [List.length_append] at hi ⊢
      simp only [List.length_singleton] at hi ⊢
      by_cases h2 : i < (bigE (x / 256)).length
      · rw [List.getElem?_append_left h2, ih (x / 256) (by omega) i h2]
        congr 2
        rw [Nat.div_div_eq_div_mul, show 256 * 256 ^ ((bigE (x / 256)).length - 1 - i) = 256 ^ ((bigE (x / 256)).length - 1 - i + 1) by rw [Nat.pow_succ, Nat.mul_comm]]
        congr 2; omega
      · have h3 : i = (bigE (x / 256)).length := by omega
        rw [List.getElem?_append_right (by omega), h3, Nat.sub_self]
        simp
theorem bytesIV_length (s : ByteArray) : (bytesIV s).length = s.size := by unfold bytesIV; rw [List.length_map]; rfl
theorem bytesIV_nb (n : Nat) (h : n < 256) : bytesIV (nb n) = [[.int .u8 (n : Int)]] := by
  show [[IV.int .u8 (((UInt8.ofNat n).toNat : Nat) : Int)]] = _
  rw [show (UInt8.ofNat n).toNat = n from by simp; omega]
theorem bytesIV_app (a b : ByteArray) : bytesIV (a ++ b) = bytesIV a ++ bytesIV b := by
  unfold bytesIV
  rw [← List.map_append]
  congr 1
theorem or128 (n : Nat) : IntKind.u8.wrap ((n : Int)) = ((n % 256 : Nat) : Int) := u8n n
theorem or128b : ∀ n : Nat, n < 256 → ibits .or .u8 (n : Int) 128 = ((n % 128 + 128 : Nat) : Int) := by decide +kernel
theorem shr7 (n : Nat) : ((n : Int)).fdiv (2 ^ (min (7 : Int).toNat IntKind.i64.bits)) = ((n / 128 : Nat) : Int) := by
  rw [show min (7 : Int).toNat IntKind.i64.bits = 7 from rfl, shrN]
theorem vsize1 (n : Nat) (h : n < 128) : vsize n = nb n := by rw [vsize, if_pos h]
theorem vsize_le (n : Nat) (h : n < 536870912) : (vsize n).size ≤ 5 ∧ 0 < (vsize n).size := by
  have h1 : ∀ n, n < 128 → (vsize n).size = 1 := fun n h => by rw [vsize1 n h]; rfl
  have h2 : ∀ n, ¬ n < 128 → (vsize n).size = 1 + (vsize (n / 128)).size := fun n h => by rw [vsize, if_neg h, ByteArray.size_append]; rfl
  have step : ∀ n, (vsize n).size = if n < 128 then 1 else 1 + (vsize (n / 128)).size := fun n => by split <;> simp_all
  rw [step n]; split
  · omega
  · rw [step (n / 128)]; split
    · omega
    · rw [step (n / 128 / 128)]; split
      · omega
      · rw [step (n / 128 / 128 / 128)]; split
        · omega
        · rw [step (n / 128 / 128 / 128 / 128)]; split
          · omega
          · omega
theorem Nd.bytes_pos (n : Nd) : 0 < n.bytes.size := by
  cases n with
  | num x => simp only [Nd.bytes, ByteArray.size_append]; show 0 < 1 + _; omega
  | str s => simp only [Nd.bytes, ByteArray.size_append]; show 0 < 1 + _ + _; omega
  | lst l => simp only [Nd.bytes, ByteArray.size_append]; show 0 < 1 + _ + _; omega
end Go.Abs

/- The reader as it runs, and that it reads what the document says. -/
namespace Go.Abs
open Go
/-- so many bytes are taken -/
def takeX (n : Nat) (l : List UInt8) (b : Bool) : List UInt8 × List UInt8 × Bool := if b = true ∨ l.length < n then ([], l, true) else (l.take n, l.drop n, false)
theorem takeX_no {n : Nat} {l : List UInt8} (h : l.length < n) : takeX n l false = ([], l, true) := by unfold takeX; rw [if_pos (.inr h)]
theorem takeX_yes {n : Nat} {l : List UInt8} (h : ¬ l.length < n) : takeX n l false = (l.take n, l.drop n, false) := by unfold takeX; rw [if_neg (by simpa using h)]
/-- the size's loop: at the k-th byte, so much read -/
def szX : Nat → Nat → Nat → List UInt8 → Nat × List UInt8 × Bool
  | 0, _, _, l => (0, l, true)
  | f + 1, k, acc, l => match l with
    | [] => (0, [], true)
    | c :: l => if c.toNat < 128 then (acc + c.toNat * 128 ^ k, l, decide (c.toNat = 0) && decide (0 < k)) else szX f (k + 1) (acc + c.toNat % 128 * 128 ^ k) l
def kidsX (f : List UInt8 → Nd × List UInt8 × Bool) : Nat → List UInt8 → Bool → List Nd × List UInt8 × Bool
  | 0, l, b => ([], l, b)
  | _ + 1, l, true => ([], l, true)
  | n + 1, l, false => ((f l).1 :: (kidsX f n (f l).2.1 (f l).2.2).1, (kidsX f n (f l).2.1 (f l).2.2).2)
def rdX : Nat → List UInt8 → Nd × List UInt8 × Bool
  | 0, l => (.num 0, l, true)
  | d + 1, l => match l with
    | [] => (.num 0, [], true)
    | c :: l =>
      let (n, l, b) := szX 4 0 0 l
      if b then (.num 0, l, true)
      else if c.toNat = 110 then
        let (t, l, b) := takeX n l false
        if 8 < n ∨ (0 < n ∧ b = false ∧ t[0]? = some 0) then (.num 0, l, true) else (.num (be t), l, b)
      else if c.toNat = 115 then (.str (bl (takeX n l false).1), (takeX n l false).2)
      else if c.toNat = 108 then (.lst (kidsX (rdX d) n l false).1, (kidsX (rdX d) n l false).2)
      else (.num 0, l, true)
theorem szX_spec : ∀ f k acc l, (f = 4 - k) → k ≤ 4 → match rdSz f (decide (k = 0)) l with
    | none => (szX f k acc l).2.2 = true
    | some (n, r) => szX f k acc l = (acc + n * 128 ^ k, r, false)
  | 0, k, acc, l, _, _ => rfl
  | f + 1, k, acc, [], _, _ => rfl
  | f + 1, k, acc, c :: l, hf, hk => by
    rw [rdSz, szX]
    by_cases h : c.toNat < 128
    · rw [if_pos h, if_pos h]
      by_cases h0 : c.toNat = 0
      · by_cases hk0 : k = 0
        · subst hk0; simp [h0]
        · rw [if_pos ⟨h0, by simpa using hk0⟩]
          simp [h0]; omega
      · rw [if_neg (fun q => h0 q.1)]
        simp [h0]
    · rw [if_neg h, if_neg h]
      have := szX_spec f (k + 1) (acc + c.toNat % 128 * 128 ^ k) l (by omega) (by omega)
      rw [show decide (k + 1 = 0) = false from by simp] at this
      cases e : rdSz f false l with
      | none => rw [e] at this; exact this
      | some p =>
        obtain ⟨n, r⟩ := p
        rw [e] at this
        simp only at this ⊢
        rw [this]
        congr 1
        rw [Nat.pow_succ, Nat.add_assoc]
        congr 1
        rw [Nat.add_mul, Nat.mul_assoc 128 n, Nat.mul_comm n (128 ^ k), Nat.mul_comm n (128 ^ k * 128), Nat.mul_assoc, Nat.mul_left_comm]
theorem rdSz_lt : ∀ f b l n r, rdSz f b l = some (n, r) → n < 128 ^ f ∧ r.length < l.length
  | 0, b, l, n, r, h => by simp [rdSz] at h
  | f + 1, b, [], n, r, h => by simp [rdSz] at h
  | f + 1, b, c :: l, n, r, h => by
    rw [rdSz] at h
    have hp : 0 < 128 ^ f := Nat.pow_pos (by decide)
    split at h
    · split at h
      · simp at h
      · simp only [Option.some.injEq, Prod.mk.injEq] at h
        obtain ⟨rfl, rfl⟩ := h
        rw [Nat.pow_succ]
        exact ⟨by omega, by simp⟩
    · split at h
      · simp at h
      · rename_i m q e
        have := rdSz_lt f _ _ _ _ e
        simp only [Option.some.injEq, Prod.mk.injEq] at h
        obtain ⟨rfl, rfl⟩ := h
        rw [Nat.pow_succ]
        exact ⟨by omega, by simp; omega⟩
theorem kidsX_spec (g : List UInt8 → Option (Nd × List UInt8)) (f : List UInt8 → Nd × List UInt8 × Bool)
    (h : ∀ l, match g l with | none => (f l).2.2 = true | some (n, r) => f l = (n, r, false)) :
    ∀ n l, match rdsW g n l with | none => (kidsX f n l false).2.2 = true | some (k, r) => kidsX f n l false = (k, r, false)
  | 0, l => rfl
  | n + 1, l => by
    rw [rdsW, kidsX]
    have h1 := h l
    cases e : g l with
    | none =>
      rw [e] at h1
      simp only at h1 ⊢
      rw [h1]
      cases n <;> rfl
    | some p =>
      obtain ⟨a, r⟩ := p
      rw [e] at h1
      simp only at h1 ⊢
      rw [h1]
      have h2 := kidsX_spec g f h n r
      simp only
      cases e2 : rdsW g n r with
      | none => rw [e2] at h2; exact h2
      | some p => obtain ⟨k, r'⟩ := p; rw [e2] at h2; simp only at h2 ⊢; rw [h2]
theorem rdX_spec : ∀ d l, match rd d l with | none => (rdX d l).2.2 = true | some (n, r) => rdX d l = (n, r, false)
  | 0, l => rfl
  | d + 1, [] => rfl
  | d + 1, c :: l => by
    rw [rd, rdX]
    have hs := szX_spec 4 0 0 l rfl (by decide)
    rw [show decide (0 = 0) = true from rfl] at hs
    cases e : rdSz 4 true l with
    | none =>
      rw [e] at hs
      simp only at hs ⊢
      rw [if_pos hs]
    | some p =>
      obtain ⟨n, r⟩ := p
      rw [e] at hs
      simp only [Nat.pow_zero, Nat.mul_one, Nat.zero_add] at hs ⊢
      rw [hs]
      simp only [Bool.false_eq_true, if_false]
      by_cases h1 : c.toNat = 110
      · rw [if_pos h1, if_pos h1]
        by_cases h2 : r.length < n
        · rw [takeX_no h2, if_pos (.inr (.inl h2))]
          simp only
          split <;> rfl
        · rw [takeX_yes h2]
          simp only
          by_cases h3 : 8 < n ∨ (0 < n ∧ r[0]? = some 0)
          · have h4 : 8 < n ∨ (0 < n ∧ true = true ∧ (r.take n)[0]? = some 0) := h3.imp id fun h => ⟨h.1, rfl, by rw [List.getElem?_take, if_pos h.1]; exact h.2⟩
            rw [if_pos (h3.imp id .inr), if_pos (by simpa using h4)]
          · have h4 : ¬ (8 < n ∨ (0 < n ∧ true = true ∧ (r.take n)[0]? = some 0)) := fun h => h3 (h.imp id fun h => ⟨h.1, by have := h.2.2; rwa [List.getElem?_take, if_pos h.1] at this⟩)
            rw [if_neg (fun h => h3 (h.imp id fun h => h.resolve_left h2)), if_neg (by simpa using h4)]
      · rw [if_neg h1, if_neg h1]
        by_cases h1 : c.toNat = 115
        · rw [if_pos h1, if_pos h1]
          by_cases h2 : r.length < n
          · rw [takeX_no h2, if_pos h2]
          · rw [takeX_yes h2, if_neg h2]
        · rw [if_neg h1, if_neg h1]
          by_cases h1 : c.toNat = 108
          · rw [if_pos h1, if_pos h1]
            have h2 := kidsX_spec (rd d) (rdX d) (rdX_spec d) n r
            cases e2 : rdsW (rd d) n r with
            | none => rw [e2] at h2; exact h2
            | some p => obtain ⟨k, r'⟩ := p; rw [e2] at h2; simp only at h2 ⊢; rw [h2]
          · rw [if_neg h1, if_neg h1]
end Go.Abs

/- Words on reading, for the walks. -/
namespace Go.Abs
open Go
theorem and127 : ∀ n : Nat, n < 256 → ibits .and .u8 (n : Int) 127 = ((n % 128 : Nat) : Int) := by decide +kernel
theorem i64or (a b : Nat) (ha : a < 9223372036854775808) (hb : b < 9223372036854775808) : ibits .or .i64 (a : Int) (b : Int) = ((a ||| b : Nat) : Int) := by
  have h : a ||| b < 2 ^ 63 := Nat.or_lt_two_pow (by omega) (by omega)
  show IntKind.i64.wrap (((BitVec.ofInt 64 (a : Int) ||| BitVec.ofInt 64 (b : Int)) : BitVec 64).toNat : Int) = _
  rw [BitVec.ofInt_natCast, BitVec.ofInt_natCast, BitVec.toNat_or, BitVec.toNat_ofNat, BitVec.toNat_ofNat, Nat.mod_eq_of_lt (by omega), Nat.mod_eq_of_lt (by omega)]
  exact wrap64i _ (by omega)
theorem or_add (a x k : Nat) (ha : a < 2 ^ k) : a ||| x * 2 ^ k = a + x * 2 ^ k := by
  rw [Nat.mul_comm, Nat.or_comm, ← Nat.two_pow_add_eq_or_of_lt ha, Nat.add_comm]
theorem bl1 (c m : UInt8) : decide (bl [c] = ⟨#[m]⟩) = decide (c.toNat = m.toNat) := by
  have : (bl [c] = ⟨#[m]⟩) ↔ c.toNat = m.toNat := by
    constructor
    · intro h
      have := congrArg (fun b : ByteArray => b.data.toList) h
      simp at this
      rw [this]
    · intro h
      rw [UInt8.toNat_inj.1 h]
  simp only [this]
theorem rdX_nil (d : Nat) : rdX (d + 1) [] = (.num 0, [], true) := rfl
theorem takeX_len (n : Nat) (l : List UInt8) (b : Bool) (s r : List UInt8) (c : Bool) (h : (s, r, c) = takeX n l b) : r.length ≤ l.length ∧ s.length ≤ l.length ∧ (c = false → s.length = n) := by
  unfold takeX at h
  split at h
  · simp only [Prod.mk.injEq] at h; obtain ⟨rfl, rfl, rfl⟩ := h; simp
  · rename_i hh
    simp only [Prod.mk.injEq] at h; obtain ⟨rfl, rfl, rfl⟩ := h
    simp only [not_or] at hh
    simp only [List.length_drop, List.length_take]
    exact ⟨by omega, by omega, fun _ => by omega⟩
theorem szX_len : ∀ (f k acc : Nat) (l : List UInt8) (n : Nat) (r : List UInt8) (c : Bool), (n, r, c) = szX f k acc l → r.length ≤ l.length
  | 0, k, acc, l, n, r, c, h => by simp only [szX, Prod.mk.injEq] at h; obtain ⟨rfl, rfl, rfl⟩ := h; exact Nat.le_refl _
  | f + 1, k, acc, [], n, r, c, h => by simp only [szX, Prod.mk.injEq] at h; obtain ⟨rfl, rfl, rfl⟩ := h; exact Nat.le_refl _
  | f + 1, k, acc, x :: l, n, r, c, h => by
    rw [szX] at h
    split at h
    · simp only [Prod.mk.injEq] at h; obtain ⟨rfl, rfl, rfl⟩ := h; simp
    · have := szX_len f _ _ _ _ _ _ h; simp; omega
theorem szX_lt (l : List UInt8) (n : Nat) (r : List UInt8) (h : (n, r, false) = szX 4 0 0 l) : n < 268435456 := by
  have h1 := szX_spec 4 0 0 l rfl (by decide)
  rw [show decide (0 = 0) = true from rfl] at h1
  cases e : rdSz 4 true l with
  | none => rw [e, ← h] at h1; simp at h1
  | some p =>
    obtain ⟨m, q⟩ := p
    have h2 := rdSz_lt _ _ _ _ _ e
    rw [e, ← h] at h1
    simp only [Nat.pow_zero, Nat.mul_one, Nat.zero_add, Prod.mk.injEq] at h1
    have h3 : 128 ^ 4 = 268435456 := by decide
    omega
theorem kidsX_len (f : List UInt8 → Nd × List UInt8 × Bool) (hf : ∀ l, (f l).2.1.length ≤ l.length) : ∀ n l b, (kidsX f n l b).2.1.length ≤ l.length
  | 0, l, b => Nat.le_refl _
  | n + 1, l, true => Nat.le_refl _
  | n + 1, l, false => Nat.le_trans (kidsX_len f hf n _ _) (hf l)
theorem rdX_len : ∀ d l, (rdX d l).2.1.length ≤ l.length
  | 0, l => Nat.le_refl _
  | d + 1, [] => Nat.le_refl _
  | d + 1, c :: l => by
    rw [rdX]
    have h1 : (szX 4 0 0 l).2.1.length ≤ l.length := szX_len 4 0 0 l _ _ _ rfl
    generalize szX 4 0 0 l = p at h1 ⊢
    obtain ⟨n, r, b⟩ := p
    simp only at h1 ⊢
    have h2 : (takeX n r false).2.1.length ≤ r.length := (takeX_len n r false _ _ _ rfl).1
    have h3 := kidsX_len (rdX d) (rdX_len d) n r false
    generalize takeX n r false = q at h2 ⊢
    obtain ⟨q1, q2, q3⟩ := q
    simp only at h2 ⊢
    split
    · simp; omega
    · split
      · split
        · simp; omega
        · simp; omega
      · split
        · simp; omega
        · split
          · simp; omega
          · simp; omega
theorem be_app (l : List UInt8) (c : UInt8) : be (l ++ [c]) = 256 * be l + c.toNat := by simp [be]
theorem be_lt0 : ∀ (l : List UInt8) (a : Nat), l.foldl (fun n c => 256 * n + c.toNat) a < (a + 1) * 256 ^ l.length
  | [], a => by simp
  | c :: l, a => by
    have h := be_lt0 l (256 * a + c.toNat)
    have hc := c.toNat_lt
    rw [List.foldl_cons, List.length_cons, Nat.pow_succ]
    refine Nat.lt_of_lt_of_le h ?_
    rw [show (a + 1) * (256 ^ l.length * 256) = ((a + 1) * 256) * 256 ^ l.length by rw [Nat.mul_assoc, Nat.mul_comm 256]]
    exact Nat.mul_le_mul_right _ (by omega)
theorem be_lt (l : List UInt8) : be l < 256 ^ l.length := by have := be_lt0 l 0; simpa [be] using this
theorem u64or (a b : Nat) (ha : a < 18446744073709551616) (hb : b < 18446744073709551616) : ibits .or .u64 (a : Int) (b : Int) = ((a ||| b : Nat) : Int) := by
  have h : a ||| b < 2 ^ 64 := Nat.or_lt_two_pow (by omega) (by omega)
  show IntKind.u64.wrap (((BitVec.ofInt 64 (a : Int) ||| BitVec.ofInt 64 (b : Int)) : BitVec 64).toNat : Int) = _
  rw [BitVec.ofInt_natCast, BitVec.ofInt_natCast, BitVec.toNat_or, BitVec.toNat_ofNat, BitVec.toNat_ofNat, Nat.mod_eq_of_lt (by omega), Nat.mod_eq_of_lt (by omega), u64n _ (by omega)]
end Go.Abs

/- Parts: trees of which some nodes are told by their hash alone; how they are read out of nodes. -/
namespace Go.Abs
open Go

inductive PT where
  | stub (h : ByteArray)
  | leaf (k v : ByteArray)
  | fork (a : Nat) (k : ByteArray) (z o : PT)

def PT.hash : PT → ByteArray
  | .stub h => h
  | .leaf k v => leafHash k (sha v)
  | .fork a k z o => forkHash a k z.hash o.hash
def PT.iv : PT → IV
  | .stub h => .ptr [.bool false, .bool true, .str ⟨#[]⟩, .str ⟨#[]⟩, .int .i64 0, .nilp, .nilp, .str h]
  | .leaf k v => .ptr [.bool true, .bool false, .str k, .str v, .int .i64 0, .nilp, .nilp, .str (leafHash k (sha v))]
  | .fork a k z o => .ptr [.bool false, .bool false, .str k, .str ⟨#[]⟩, .int .i64 (a : Int), z.iv, o.iv, .str (PT.fork a k z o).hash]
/-- as the document has it -/
def PT.tv : PT → List IV
  | .stub h => [.int .i64 0, .str ⟨#[]⟩, .str ⟨#[]⟩, .int .i64 0, .lst [], .str h]
  | .leaf k v => [.int .i64 1, .str k, .str v, .int .i64 0, .lst [], .str (leafHash k (sha v))]
  | .fork a k z o => [.int .i64 2, .str k, .str ⟨#[]⟩, .int .i64 (a : Int), .lst [z.tv, o.tv], .str (PT.fork a k z o).hash]
theorem PT.iv_ptr (t : PT) : ∃ l s k v a z o, t.iv = .ptr [.bool l, .bool s, .str k, .str v, .int .i64 a, z, o, .str t.hash] := by
  cases t with
  | stub h => exact ⟨_, _, _, _, _, _, _, rfl⟩
  | leaf k v => exact ⟨_, _, _, _, _, _, _, rfl⟩
  | fork a k z o => exact ⟨_, _, _, _, _, _, _, rfl⟩
theorem PT.tv_six (t : PT) : ∃ x y z u, t.tv = [x, .str y, .str z, .int .i64 u, t.tv.getD 4 .nilp, .str t.hash] := by
  cases t with
  | stub h => exact ⟨_, _, _, _, rfl⟩
  | leaf k v => exact ⟨_, _, _, _, rfl⟩
  | fork a k z o => exact ⟨_, _, _, _, rfl⟩
/-- a tree with all of it open, as a part -/
def T.pt : T → PT
  | .nil => .stub zero32
  | .leaf k v => .leaf k v
  | .fork a k z o => .fork a k z.pt o.pt
theorem T.pt_hash : ∀ t : T, t.pt.hash = t.hash
  | .nil => rfl
  | .leaf k v => rfl
  | .fork a k z o => by rw [T.pt, PT.hash, T.hash, T.pt_hash z, T.pt_hash o]
theorem T.pt_iv : ∀ t : T, t.good → t ≠ .nil → t.pt.iv = t.iv
  | .nil, _, h => absurd rfl h
  | .leaf k v, _, _ => rfl
  | .fork a k z o, h, _ => by
    rw [T.pt, PT.iv, T.iv, T.pt_iv z h.2.2.2.1 h.2.1, T.pt_iv o h.2.2.2.2.1 h.2.2.1, PT.hash, T.hash, T.pt_hash, T.pt_hash]
/-- may such bits stand there? -/
def holdsB (u : Option (Nat × ByteArray × Bool)) (key : ByteArray) (bits : Nat) : Bool := match u with
  | none => true
  | some (a, k, s) => decide (a < bits) && (hasB a key k && (bit key a == s))
/-- what a node is meant to be -/
inductive NK where
  | no
  | stub (s : ByteArray)
  | leaf (k b : ByteArray)
  | fork (x : Nat) (b : ByteArray)
def nkL : List Nd → NK
  | [.str k, .str b] => .leaf k b
  | [.num x, .str b] => .fork x b
  | _ => .no
def nk : Nd → NK
  | .num _ => .no
  | .str s => .stub s
  | .lst l => nkL l
def pread : Nat → Option (Nat × ByteArray × Bool) → List Nd → Option (PT × List Nd)
  | 0, _, _ => none
  | f + 1, u, l => match l with
    | [] => none
    | n :: r => match nk n with
      | .no => none
      | .stub s => if s.size = 32 then some (.stub s, r) else none
      | .leaf k b => if k.size = 32 ∧ holdsB u k 256 = true then some (.leaf k b, r) else none
      | .fork x b => if x < 256 ∧ b.size = 32 ∧ holdsB u b x = true ∧ firstK b x = b then
        (match pread f (some (x, b, false)) r with
         | none => none
         | some (z, r1) => match pread f (some (x, b, true)) r1 with
           | none => none
           | some (o, r2) => some (.fork x b z o, r2)) else none
theorem nk_leaf {n : Nd} {k b : ByteArray} (h : nk n = .leaf k b) : n = .lst [.str k, .str b] := by
  cases n with
  | num x => simp [nk] at h
  | str s => simp [nk] at h
  | lst l =>
    simp only [nk] at h
    unfold nkL at h
    split at h
    · simp only [NK.leaf.injEq] at h; rw [h.1, h.2]
    · simp at h
    · simp at h
theorem nk_fork {n : Nd} {x : Nat} {b : ByteArray} (h : nk n = .fork x b) : n = .lst [.num x, .str b] := by
  cases n with
  | num x => simp [nk] at h
  | str s => simp [nk] at h
  | lst l =>
    simp only [nk] at h
    unfold nkL at h
    split at h
    · simp at h
    · simp only [NK.fork.injEq] at h; rw [h.1, h.2]
    · simp at h
def PT.ok : PT → Prop
  | .stub h => h.size = 32
  | .leaf k v => k.size = 32 ∧ v.size < 536870912
  | .fork a k z o => a < 256 ∧ k.size = 32 ∧ firstK k a = k ∧ z.ok ∧ o.ok
theorem PT.hash_size {t : PT} (h : t.ok) : t.hash.size = 32 := by
  cases t with
  | stub h' => exact h
  | leaf k v => exact sha_size _
  | fork a k z o => exact sha_size _
theorem pread_lt : ∀ (f : Nat) (u : Option (Nat × ByteArray × Bool)) (l : List Nd) (t : PT) (r : List Nd), pread f u l = some (t, r) → r.length < l.length
  | 0, u, l, t, r, h => by simp [pread] at h
  | f + 1, u, [], t, r, h => by simp [pread] at h
  | f + 1, u, n :: l, t, r, h => by
    rw [pread] at h
    split at h
    · simp at h
    · split at h
      · simp only [Option.some.injEq, Prod.mk.injEq] at h; obtain ⟨_, rfl⟩ := h; simp
      · simp at h
    · split at h
      · simp only [Option.some.injEq, Prod.mk.injEq] at h; obtain ⟨_, rfl⟩ := h; simp
      · simp at h
    · split at h
      · split at h
        · simp at h
        · rename_i z r1 e1
          split at h
          · simp at h
          · rename_i o r2 e2
            simp only [Option.some.injEq, Prod.mk.injEq] at h; obtain ⟨_, rfl⟩ := h
            have := pread_lt f _ _ _ _ e1
            have := pread_lt f _ _ _ _ e2
            simp; omega
      · simp at h
theorem pread_ok : ∀ (f : Nat) (u : Option (Nat × ByteArray × Bool)) (l : List Nd) (t : PT) (r : List Nd), Nd.fineL l → pread f u l = some (t, r) → t.ok ∧ Nd.fineL r
  | 0, u, l, t, r, _, h => by simp [pread] at h
  | f + 1, u, [], t, r, _, h => by simp [pread] at h
  | f + 1, u, n :: l, t, r, hf, h => by
    rw [pread] at h
    rw [Nd.fineL] at hf
    split at h
    · simp at h
    · split at h
      · rename_i h32
        simp only [Option.some.injEq, Prod.mk.injEq] at h; obtain ⟨rfl, rfl⟩ := h
        exact ⟨h32, hf.2⟩
      · simp at h
    · rename_i hnk
      split at h
      · rename_i h32
        simp only [Option.some.injEq, Prod.mk.injEq] at h; obtain ⟨rfl, rfl⟩ := h
        have h1 := hf.1
        rw [nk_leaf hnk] at h1
        simp only [Nd.fine, Nd.fineL] at h1
        exact ⟨⟨h32.1, h1.2.2.1⟩, hf.2⟩
      · simp at h
    · split at h
      · rename_i h32
        split at h
        · simp at h
        · rename_i z r1 e1
          split at h
          · simp at h
          · rename_i o r2 e2
            simp only [Option.some.injEq, Prod.mk.injEq] at h; obtain ⟨rfl, rfl⟩ := h
            obtain ⟨q1, q2⟩ := pread_ok f _ _ _ _ hf.2 e1
            obtain ⟨q3, q4⟩ := pread_ok f _ _ _ _ q2 e2
            exact ⟨⟨h32.1, h32.2.1, h32.2.2.2, q1, q3⟩, q4⟩
      · simp at h
end Go.Abs

namespace Go.Abs
open Go
theorem be_u64 (l : List UInt8) (h : l.length ≤ 8) : be l < 18446744073709551616 := by
  have h1 := be_lt l
  have h2 : 256 ^ l.length ≤ 256 ^ 8 := Nat.pow_le_pow_right (by decide) h
  omega
theorem rdsW_fine (f : List UInt8 → Option (Nd × List UInt8)) (hf : ∀ l n r, l.length ≤ 16777216 → f l = some (n, r) → n.fine ∧ r.length < l.length) :
    ∀ (k : Nat) (l : List UInt8) (ks : List Nd) (r : List UInt8), l.length ≤ 16777216 → rdsW f k l = some (ks, r) → Nd.fineL ks ∧ ks.length = k ∧ r.length + ks.length ≤ l.length
  | 0, l, ks, r, hl, h => by simp only [rdsW, Option.some.injEq, Prod.mk.injEq] at h; obtain ⟨rfl, rfl⟩ := h; exact ⟨trivial, rfl, by simp⟩
  | k + 1, l, ks, r, hl, h => by
    rw [rdsW] at h
    split at h
    · simp at h
    · rename_i a r1 e1
      split at h
      · simp at h
      · rename_i k2 r2 e2
        simp only [Option.some.injEq, Prod.mk.injEq] at h; obtain ⟨rfl, rfl⟩ := h
        obtain ⟨q1, q2⟩ := hf l a r1 hl e1
        obtain ⟨p1, p2, p3⟩ := rdsW_fine f hf k r1 k2 r2 (by omega) e2
        exact ⟨⟨q1, p1⟩, by simp [p2], by simp; omega⟩
theorem rd_fine : ∀ (d : Nat) (l : List UInt8) (n : Nd) (r : List UInt8), l.length ≤ 16777216 → rd d l = some (n, r) → n.fine ∧ r.length < l.length
  | 0, l, n, r, hl, h => by simp [rd] at h
  | d + 1, [], n, r, hl, h => by simp [rd] at h
  | d + 1, c :: l, n, r, hl, h => by
    rw [rd] at h
    rw [List.length_cons] at hl
    split at h
    · simp at h
    · rename_i m q e
      have hm := rdSz_lt _ _ _ _ _ e
      split at h
      · split at h
        · simp at h
        · rename_i g
          simp only [Option.some.injEq, Prod.mk.injEq] at h; obtain ⟨rfl, rfl⟩ := h
          simp only [not_or] at g
          refine ⟨?_, by simp; omega⟩
          rw [Nd.fine]
          exact be_u64 _ (by simp; omega)
      · split at h
        · split at h
          · simp at h
          · rename_i g
            simp only [Option.some.injEq, Prod.mk.injEq] at h; obtain ⟨rfl, rfl⟩ := h
            refine ⟨?_, by simp; omega⟩
            rw [Nd.fine, bl_size]
            simp; omega
        · split at h
          · split at h
            · simp at h
            · rename_i ks r2 e2
              simp only [Option.some.injEq, Prod.mk.injEq] at h; obtain ⟨rfl, rfl⟩ := h
              obtain ⟨p1, p2, p3⟩ := rdsW_fine (rd d) (fun l n r hl h => rd_fine d l n r hl h) m q ks r2 (by omega) e2
              refine ⟨?_, by simp; omega⟩
              rw [Nd.fine]
              exact ⟨by omega, p1⟩
          · simp at h
theorem readN_fine {s : ByteArray} (hs : s.size ≤ 16777216) {n : Nd} (h : readN s = some n) : n.fine := by
  unfold readN at h
  split at h
  · rename_i m e
    simp only [Option.some.injEq] at h; subst h
    exact (rd_fine 20 _ _ _ hs e).1
  · simp at h
/-- the tree of a part's text -/
def treeOf (s : ByteArray) : Option (Option PT) := match readN s with
  | some (.lst []) => some none
  | some (.lst (k :: ks)) => (match pread 257 none (k :: ks) with
    | some (t, []) => some (some t)
    | _ => none)
  | _ => none
def rootP : Option PT → ByteArray
  | none => zero32
  | some t => t.hash
def topV : Option PT → IV
  | none => .nilp
  | some t => t.iv
def pv (p : Option PT) : IV := .ptr [topV p]
theorem treeOf_ok {s : ByteArray} (hs : s.size ≤ 16777216) {t : PT} (h : treeOf s = some (some t)) : t.ok := by
  unfold treeOf at h
  split at h
  · simp at h
  · rename_i k ks e
    have hf := readN_fine hs e
    rw [Nd.fine] at hf
    split at h
    · rename_i t' e2
      simp only [Option.some.injEq] at h; subst h
      exact (pread_ok _ _ _ _ _ hf.2 e2).1
    · simp at h
  · simp at h
end Go.Abs
namespace Go.Abs
open Go
/-- what is known of a key: none: it isn't known -/
def PT.get (key : ByteArray) : PT → Option (Option ByteArray)
  | .stub _ => none
  | .leaf k v => some (if k = key then some v else none)
  | .fork a k z o => if common k key < a then some none else if bit key a = false then z.get key else o.get key
def getP (key : ByteArray) : Option PT → Option (Option ByteArray)
  | none => some none
  | some t => t.get key
def PT.cnt : PT → Nat
  | .stub _ => 1
  | .leaf _ _ => 1
  | .fork _ _ z o => z.cnt + o.cnt
def PT.all : PT → Option (List Pr)
  | .stub _ => none
  | .leaf k v => some [(k, v)]
  | .fork _ _ z o => match z.all with
    | none => none
    | some l => match o.all with
      | none => none
      | some m => some (l ++ m)
theorem PT.all_len : ∀ {t : PT} {l : List Pr}, t.all = some l → l.length = t.cnt
  | .stub h, l, e => by simp [PT.all] at e
  | .leaf k v, l, e => by simp only [PT.all, Option.some.injEq] at e; subst e; rfl
  | .fork a k z o, l, e => by
    rw [PT.all] at e
    split at e
    · simp at e
    · rename_i l1 e1
      split at e
      · simp at e
      · rename_i l2 e2
        simp only [Option.some.injEq] at e; subst e
        rw [List.length_append, PT.all_len e1, PT.all_len e2]; rfl
def PT.under (key : ByteArray) (n : Nat) : PT → Option (List Pr)
  | .stub _ => none
  | .leaf k v => some (if common k key < n then [] else [(k, v)])
  | .fork a k z o => if common k key < min a n then some [] else if n ≤ a then (PT.fork a k z o).all else if bit key a = false then z.under key n else o.under key n
def underP (key : ByteArray) (n : Nat) : Option PT → Option (List Pr)
  | none => some []
  | some t => t.under key n
theorem pread_cnt : ∀ (f : Nat) (u : Option (Nat × ByteArray × Bool)) (l : List Nd) (t : PT) (r : List Nd), pread f u l = some (t, r) → t.cnt + r.length ≤ l.length
  | 0, u, l, t, r, h => by simp [pread] at h
  | f + 1, u, [], t, r, h => by simp [pread] at h
  | f + 1, u, n :: l, t, r, h => by
    rw [pread] at h
    split at h
    · simp at h
    · split at h
      · simp only [Option.some.injEq, Prod.mk.injEq] at h; obtain ⟨rfl, rfl⟩ := h; simp [PT.cnt]; omega
      · simp at h
    · split at h
      · simp only [Option.some.injEq, Prod.mk.injEq] at h; obtain ⟨rfl, rfl⟩ := h; simp [PT.cnt]; omega
      · simp at h
    · split at h
      · split at h
        · simp at h
        · rename_i z r1 e1
          split at h
          · simp at h
          · rename_i o r2 e2
            simp only [Option.some.injEq, Prod.mk.injEq] at h; obtain ⟨rfl, rfl⟩ := h
            have := pread_cnt f _ _ _ _ e1
            have := pread_cnt f _ _ _ _ e2
            simp [PT.cnt]; omega
      · simp at h
end Go.Abs
namespace Go.Abs
open Go
def besideP (t : PT) (a : Nat) (key val : ByteArray) : PT := if bit key a = false then .fork a (firstK key a) (.leaf key val) t else .fork a (firstK key a) t (.leaf key val)
/-- with a pair; none: that isn't known -/
def PT.put (key val : ByteArray) : PT → Option PT
  | .stub _ => none
  | .leaf k v => if k = key then some (.leaf key val) else some (besideP (.leaf k v) (common k key) key val)
  | .fork a k z o => if common k key < a then some (besideP (.fork a k z o) (common k key) key val)
    else if bit key a = false then (match z.put key val with | none => none | some z' => some (.fork a k z' o))
    else (match o.put key val with | none => none | some o' => some (.fork a k z o'))
def putP (key val : ByteArray) : Option PT → Option PT
  | none => some (.leaf key val)
  | some t => t.put key val
/-- without a key; none: that isn't known -/
def PT.drop (key : ByteArray) : PT → Option (Option PT)
  | .stub _ => none
  | .leaf k v => if k = key then some none else some (some (.leaf k v))
  | .fork a k z o => if common k key < a then some (some (.fork a k z o))
    else if bit key a = false then (match z.drop key with | none => none | some none => some (some o) | some (some z') => some (some (.fork a k z' o)))
    else (match o.drop key with | none => none | some none => some (some z) | some (some o') => some (some (.fork a k z o')))
def dropP (key : ByteArray) : Option PT → Option (Option PT)
  | none => some none
  | some t => t.drop key
theorem besideP_ok {t : PT} (ht : t.ok) {a : Nat} (ha : a < 256) {key val : ByteArray} (hk : key.size = 32) (hv : val.size < 536870912) : (besideP t a key val).ok := by
  unfold besideP
  split
  · exact ⟨ha, firstK_size _ _, firstK_idem _ _ (by omega), ⟨hk, hv⟩, ht⟩
  · exact ⟨ha, firstK_size _ _, firstK_idem _ _ (by omega), ht, ⟨hk, hv⟩⟩
theorem PT.put_ok {key val : ByteArray} (hk : key.size = 32) (hv : val.size < 536870912) : ∀ {t u : PT}, t.ok → t.put key val = some u → u.ok
  | .stub h, u, _, e => by simp [PT.put] at e
  | .leaf k v, u, ht, e => by
    rw [PT.put] at e
    split at e
    · simp only [Option.some.injEq] at e; subst e; exact ⟨hk, hv⟩
    · rename_i h
      simp only [Option.some.injEq] at e; subst e
      exact besideP_ok ht ((common_lt ht.1 hk).2 h) hk hv
  | .fork a k z o, u, ht, e => by
    have ht0 := ht
    obtain ⟨h1, h2, h3, h4, h5⟩ := ht
    rw [PT.put] at e
    split at e
    · rename_i h
      simp only [Option.some.injEq] at e; subst e
      exact besideP_ok ht0 (by omega) hk hv
    · split at e
      · split at e
        · simp at e
        · rename_i z' ez
          simp only [Option.some.injEq] at e; subst e
          exact ⟨h1, h2, h3, PT.put_ok hk hv h4 ez, h5⟩
      · split at e
        · simp at e
        · rename_i z' ez
          simp only [Option.some.injEq] at e; subst e
          exact ⟨h1, h2, h3, h4, PT.put_ok hk hv h5 ez⟩
theorem PT.drop_ok {key : ByteArray} : ∀ {t u : PT}, t.ok → t.drop key = some (some u) → u.ok
  | .stub h, u, _, e => by simp [PT.drop] at e
  | .leaf k v, u, ht, e => by
    rw [PT.drop] at e
    split at e
    · simp at e
    · simp only [Option.some.injEq] at e; subst e; exact ht
  | .fork a k z o, u, ht, e => by
    have ht0 := ht
    obtain ⟨h1, h2, h3, h4, h5⟩ := ht
    rw [PT.drop] at e
    split at e
    · simp only [Option.some.injEq] at e; subst e; exact ht0
    · split at e
      · split at e
        · simp at e
        · simp only [Option.some.injEq] at e; subst e; exact h5
        · rename_i z' ez
          simp only [Option.some.injEq] at e; subst e
          exact ⟨h1, h2, h3, PT.drop_ok h4 ez, h5⟩
      · split at e
        · simp at e
        · simp only [Option.some.injEq] at e; subst e; exact h4
        · rename_i z' ez
          simp only [Option.some.injEq] at e; subst e
          exact ⟨h1, h2, h3, h4, PT.drop_ok h5 ez⟩
end Go.Abs
