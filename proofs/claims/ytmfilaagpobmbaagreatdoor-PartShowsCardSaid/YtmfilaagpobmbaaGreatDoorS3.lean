/- A part of the proof of a seat of parts: RootPure, ClashPure, KeySpec, BackPure, ShaRun, AwakeSha, AwakeTree. -/
import Derived.KernelRfl
import Derived.Test.YtmfilaagpobmbaaGreatDoorS2
set_option linter.all false
namespace Go.Abs
open Go
theorem setN_iv' : ∀ x : Nat, x < 256 → ∀ j : Nat, j < 8 → ibits .or .u8 (x : Int) (IntKind.u8.wrap (1 * 2 ^ (7 - j))) = (setN x j : Int) := by decide +kernel
theorem firstK_zero (k : ByteArray) : bytesIV (firstK k 0) = List.replicate 32 [IV.int .u8 0] := by
  unfold firstK
  rw [show ((List.range 32).map fun i => firstN (byteN k i) (0 - 8 * i)) = List.replicate 32 0 from ?_]
  · rfl
  · apply List.ext_getElem?
    intro i
    by_cases hi : i < 32
    · simp only [List.getElem?_map, List.getElem?_range hi, Option.map_some, List.getElem?_replicate, if_pos hi, Nat.zero_sub]
      rw [firstN_zero _ (byteN_lt k i)]
    · rw [List.getElem?_eq_none (by simp; omega), List.getElem?_eq_none (by simp; omega)]
theorem firstK_next {k : ByteArray} {i : Nat} (hi : i < 256) : firstK k (i + 1) = if bit k i then setK' (firstK k i) i else firstK k i := by
  split
  · rename_i hb
    refine key_ext (firstK_size _ _) ((setB_size _ _ _).trans (firstK_size _ _)) fun m hm => ?_
    rw [firstK_bit _ _ _ hm, setK_bit (firstK_size _ _) hi m hm, firstK_bit _ _ _ hm]
    by_cases e : m = i
    · subst e; simp [hb]
    · by_cases c : m < i
      · simp [c, e, show m < i + 1 by omega]
      · simp [c, e, show ¬ m < i + 1 by omega]
  · rename_i hb
    refine key_ext (firstK_size _ _) (firstK_size _ _) fun m hm => ?_
    rw [firstK_bit _ _ _ hm, firstK_bit _ _ _ hm]
    by_cases e : m = i
    · subst e; simp [hb]
    · congr 1
      simp only [decide_eq_decide]; omega
def sv (l : List ByteArray) : List (List IV) := l.map fun s => [IV.str s]
theorem sv_len (l : List ByteArray) : (sv l).length = l.length := by simp [sv]
theorem sv_app (l m : List ByteArray) : sv l ++ sv m = sv (l ++ m) := by simp [sv]
theorem sv_get (l : List ByteArray) (i : Nat) (s : ByteArray) (h : l[i]? = some s) : (sv l)[i]? = some [IV.str s] := by simp [sv, h]
theorem texts_len : ∀ {t : T}, t.good → t ≠ .nil → t.texts.length + 1 = 3 * t.pairs.length
  | .nil, _, h => absurd rfl h
  | .leaf _ _, _, _ => rfl
  | .fork a k z o, h, _ => by
    have h1 := texts_len h.2.2.2.1 h.2.1
    have h2 := texts_len h.2.2.2.2.1 h.2.2.1
    simp only [T.texts, T.pairs, List.length_append, List.length_cons, List.length_nil]
    omega
theorem texts_last : ∀ {t : T}, t ≠ .nil → t.texts[t.texts.length - 1]? = some t.last
  | .nil, h => absurd rfl h
  | .leaf _ _, _ => rfl
  | .fork a k z o, _ => by simp [T.texts, T.last]
theorem texts_size : ∀ {t : T}, t.good → ∀ x ∈ t.texts, x.size < 1073741824
  | .nil, _, x, hx => by simp [T.texts] at hx
  | .leaf k v, h, x, hx => by
    simp only [T.texts, List.mem_cons, List.not_mem_nil, or_false] at hx
    rcases hx with rfl | rfl
    · exact h.2
    · have h1 := h.1
      simp only [leafText, ByteArray.size_append, sha_size, h1]
      decide
  | .fork a k z o, h, x, hx => by
    simp only [T.texts, List.mem_append, List.mem_cons, List.not_mem_nil, or_false] at hx
    rcases hx with (hx | hx) | rfl
    · exact texts_size h.2.2.2.1 x hx
    · exact texts_size h.2.2.2.2.1 x hx
    · have h1 := T.ksize h
      simp only [forkText, ByteArray.size_append, T.hash_size, h1, mkB_size, List.length_cons, List.length_nil]
      have : (⟨#[1]⟩ : ByteArray).size = 1 := rfl
      omega
theorem T.last_size {t : T} (h : t.good) (hn : t ≠ .nil) : t.last.size < 1073741824 := texts_size h _ (T.last_mem t hn)
/-- a fork's place, by its first and last key -/
theorem fork_ends {a : Nat} {k : ByteArray} {z o : T} (h : (T.fork a k z o).good) : ∃ p q, (z.pairs ++ o.pairs)[0]? = some p ∧ (z.pairs ++ o.pairs)[(z.pairs ++ o.pairs).length - 1]? = some q ∧ p ∈ z.pairs ∧ q ∈ o.pairs ∧ agree a p.1 q.1 ∧ bit p.1 a ≠ bit q.1 a ∧ k = firstK p.1 a := by
  have hz := T.pairs_ne h.2.2.2.1 h.2.1
  have ho := T.pairs_ne h.2.2.2.2.1 h.2.2.1
  have lz := List.length_pos_iff.2 hz
  have lo := List.length_pos_iff.2 ho
  have g := T.fork_agree h
  have hp : z.pairs[0] ∈ z.pairs := List.getElem_mem lz
  have hq : o.pairs[o.pairs.length - 1]'(by omega) ∈ o.pairs := List.getElem_mem _
  refine ⟨z.pairs[0], o.pairs[o.pairs.length - 1]'(by omega), ?_, ?_, hp, hq, ?_, ?_, ?_⟩
  · rw [List.getElem?_append_left lz]; exact List.getElem?_eq_getElem lz
  · rw [List.length_append, List.getElem?_append_right (by omega), show z.pairs.length + o.pairs.length - 1 - z.pairs.length = o.pairs.length - 1 by omega]
    exact List.getElem?_eq_getElem (by omega)
  · exact (g _ (List.mem_append_left _ hp)).trans (g _ (List.mem_append_right _ hq)).symm
  · rw [h.2.2.2.2.2.1 _ hp, h.2.2.2.2.2.2.1 _ hq]; decide
  · exact h.2.2.2.2.2.2.2 _ (List.mem_append_left _ hp)
end Go.Abs

namespace Go.Abs
open Go
def tx (m : List ByteArray) (i : Nat) : ByteArray := m.getD i ⟨#[]⟩
theorem tx_get {m : List ByteArray} {i : Nat} (h : i < m.length) : (sv m)[i]? = some [IV.str (tx m i)] :=
  sv_get m i _ (by simp [tx, List.getD, List.getElem?_eq_getElem h])
theorem tx_mem {m : List ByteArray} {i : Nat} (h : i < m.length) : tx m i ∈ m := by
  have : tx m i = m[i] := by simp [tx, List.getD, List.getElem?_eq_getElem h]
  rw [this]; exact List.getElem_mem h
/-- two unlike texts of one hash, by their places -/
def Two (m : List ByteArray) : Prop := ∃ i k, k < i ∧ i < m.length ∧ sha (tx m i) = sha (tx m k) ∧ tx m i ≠ tx m k
theorem clash_places {m : List ByteArray} (h : Clash m) : (∃ j, 0 ≤ j ∧ j < m.length ∧ sha (tx m j) = zero32) ∨ Two m := by
  have at' : ∀ x ∈ m, ∃ i, i < m.length ∧ tx m i = x := fun x hx => by
    obtain ⟨i, hi, e⟩ := List.getElem_of_mem hx
    exact ⟨i, hi, by simp [tx, List.getD, List.getElem?_eq_getElem hi, e]⟩
  rcases h with ⟨x, hx, e⟩ | ⟨x, hx, y, hy, hne, e⟩
  · obtain ⟨i, hi, rfl⟩ := at' x hx
    exact .inl ⟨i, Nat.zero_le _, hi, e⟩
  · obtain ⟨i, hi, rfl⟩ := at' x hx
    obtain ⟨k, hk, rfl⟩ := at' y hy
    rcases Nat.lt_trichotomy i k with c | c | c
    · exact .inr ⟨k, i, c, hk, e.symm, hne.symm⟩
    · subst c; exact absurd rfl hne
    · exact .inr ⟨i, k, c, hi, e, hne⟩
end Go.Abs

namespace Go.Abs
open Go
def keyB (s : ByteArray) (n : Nat) : List Nat := (List.range 32).map fun m => if m / 8 < n then (if m % 8 = 0 then byteN s (m / 8) else if m % 8 = 7 then byteN s (m / 8) / 16 else 0) else 0
/-- the law's Key -/
def lawKey (s : ByteArray) : ByteArray := if 32 ≤ s.size then s.extract 0 32 else mkB (keyB s (min 4 s.size))
theorem keyB_len (s : ByteArray) (n : Nat) : (keyB s n).length = 32 := by simp [keyB]
theorem keyB_lt (s : ByteArray) (n : Nat) : ∀ x ∈ keyB s n, x < 256 := by
  intro x hx
  simp only [keyB, List.mem_map] at hx
  obtain ⟨m, _, rfl⟩ := hx
  have := byteN_lt s (m / 8)
  split
  · split
    · exact this
    · split
      · omega
      · omega
  · omega
theorem lawKey_size (s : ByteArray) : (lawKey s).size = 32 := by
  unfold lawKey
  split
  · rw [ByteArray.size_extract]; omega
  · rw [mkB_size, keyB_len]
theorem keyB_zero (s : ByteArray) : eb (keyB s 0) = List.replicate 32 [IV.int .u8 0] := by
  have : keyB s 0 = List.replicate 32 0 := by
    unfold keyB
    simp only [Nat.not_lt_zero, if_false, List.map_const', List.length_range]
  rw [this]; rfl
theorem keyB_step (s : ByteArray) (i : Nat) (h : i < 4) : ((keyB s i).set (8 * i) (byteN s i)).set (8 * i + 7) (byteN s i / 16) = keyB s (i + 1) := by
  apply List.ext_getElem?
  intro j
  rw [List.getElem?_set, List.getElem?_set]
  by_cases hj : j < 32
  · simp only [keyB, List.length_set, List.length_map, List.length_range, List.getElem?_map, List.getElem?_range hj, Option.map_some]
    by_cases e7 : 8 * i + 7 = j
    · subst e7
      rw [if_pos rfl, if_pos (by omega), if_pos (by omega), if_neg (by omega), if_pos (by omega)]
      rw [show (8 * i + 7) / 8 = i by omega]
    · rw [if_neg e7]
      by_cases e0 : 8 * i = j
      · subst e0
        rw [if_pos rfl, if_pos (by omega), if_pos (by omega), if_pos (by omega)]
        rw [show 8 * i / 8 = i by omega]
      · rw [if_neg e0]
        congr 1
        by_cases h1 : j / 8 < i
        · rw [if_pos h1, if_pos (show j / 8 < i + 1 by omega)]
        · rw [if_neg h1]
          by_cases h2 : j / 8 < i + 1
          · rw [if_pos h2, if_neg (show ¬ j % 8 = 0 by omega), if_neg (show ¬ j % 8 = 7 by omega)]
          · rw [if_neg h2]
  · rw [if_neg (by omega), if_neg (by omega), List.getElem?_eq_none (by rw [keyB_len]; omega), List.getElem?_eq_none (by rw [keyB_len]; omega)]
end Go.Abs

namespace Go.Abs
open Go
section
variable {k v : ByteArray} (hk : k.size = 32) (hv : v.size < 1073741824) {t : T} (h : t.good)
include hk hv h
theorem back_get : (t.put k v).1.get k = some v := by
  obtain ⟨g, _, m, _⟩ := T.put_spec hk hv h
  rw [T.get_iff g, m]; exact .inl rfl
theorem back_none (hn : t.get k = none) : ((t.put k v).1.drop k).1 = t := by
  obtain ⟨g, _, m, _⟩ := T.put_spec hk hv h
  obtain ⟨g', m', _⟩ := T.drop_spec hk g
  refine T.ext g' h fun p => ?_
  rw [m', m]
  constructor
  · rintro ⟨e | e, e'⟩
    · rw [e] at e'; exact absurd rfl e'
    · exact e.1
  · intro hp
    have : p.1 ≠ k := fun e => by
      have := (T.get_iff (key := k) h p.2).2 (by rw [← e]; exact hp)
      rw [hn] at this; cases this
    exact ⟨.inr ⟨hp, this⟩, this⟩
theorem back_some {v0 : ByteArray} (hg : t.get k = some v0) : ((t.put k v).1.put k v0).1 = t := by
  have hm := (T.get_iff h v0).1 hg
  have hv0 := T.val_size h _ hm
  obtain ⟨g, _, m, _⟩ := T.put_spec hk hv h
  obtain ⟨g', _, m', _⟩ := T.put_spec hk hv0 g
  refine T.ext g' h fun p => ?_
  rw [m', m]
  constructor
  · rintro (e | ⟨e | e, e'⟩)
    · rw [e]; exact hm
    · rw [e] at e'; exact absurd rfl e'
    · exact e.1
  · intro hp
    by_cases e : p.1 = k
    · left; exact srt_uniq (T.sorted h) hp hm e
    · exact .inr ⟨.inr ⟨hp, e⟩, e⟩
theorem back_twice : ((t.put k v).1.put k v).1 = (t.put k v).1 := by
  obtain ⟨g, _, m, _⟩ := T.put_spec hk hv h
  obtain ⟨g', _, m', _⟩ := T.put_spec hk hv g
  refine T.ext g' g fun p => ?_
  rw [m', m]
  constructor
  · rintro (e | ⟨e, _⟩)
    · exact .inl e
    · exact e
  · rintro (e | e)
    · exact .inl e
    · exact .inr ⟨.inr e, e.2⟩
end
theorem drop_twice {k : ByteArray} (hk : k.size = 32) {t : T} (h : t.good) : ((t.drop k).1.drop k).1 = (t.drop k).1 := by
  obtain ⟨g, m, _⟩ := T.drop_spec hk h
  obtain ⟨g', m', _⟩ := T.drop_spec hk g
  refine T.ext g' g fun p => ?_
  rw [m', m]
  exact ⟨fun e => e.1, fun e => ⟨e, e.2⟩⟩
end Go.Abs

namespace Go.Abs
open Go

def frc {α : Type} (n : Nat) (k : Nat → α) : α := match n with | .zero => k .zero | .succ m => k (.succ m)
theorem frc_eq {α : Type} (n : Nat) (k : Nat → α) : frc n k = k n := by cases n <;> rfl
def frcW {α : Type} (w : W) (k : W → α) : α := frc w.toNat fun n => k (BitVec.ofNat 32 n)
theorem frcW_eq {α : Type} (w : W) (k : W → α) : frcW w k = k w := by unfold frcW; rw [frc_eq, BitVec.ofNat_toNat, BitVec.setWidth_eq]
def frcL {α : Type} : List W → (List W → α) → α
  | [], k => k []
  | w :: t, k => frcW w fun w => frcL t fun t => k (w :: t)
theorem frcL_eq {α : Type} : ∀ (l : List W) (k : List W → α), frcL l k = k l
  | [], k => rfl
  | w :: t, k => by simp only [frcL, frcW_eq, frcL_eq t]

def nxR (r : List W) : W := r.getD 15 0 + sx (r.getD 14 0) 7 18 3 + r.getD 6 0 + sx (r.getD 1 0) 17 19 10
def schF : Nat → List W → List W
  | 0, r => r
  | n + 1, r => frcW (nxR r) fun w => schF n (w :: r)
theorem getD_rev (l : List W) (i : Nat) (h : i < l.length) : l.reverse.getD i 0 = l.getD (l.length - 1 - i) 0 := by
  simp only [List.getD, List.getElem?_reverse h]
theorem nxR_eq (b : ByteArray) (m : Nat) : nxR (ws b m).reverse = nx (ws b m) m := by
  have hl := ws_len b m
  unfold nxR nx
  rw [getD_rev _ _ (by omega), getD_rev _ _ (by omega), getD_rev _ _ (by omega), getD_rev _ _ (by omega), hl]
  rw [show 16 + m - 1 - 15 = m by omega, show 16 + m - 1 - 14 = m + 1 by omega, show 16 + m - 1 - 6 = m + 9 by omega, show 16 + m - 1 - 1 = m + 14 by omega]
theorem schF_eq (b : ByteArray) : ∀ n m, schF n (ws b m).reverse = (ws b (m + n)).reverse
  | 0, m => rfl
  | n + 1, m => by
    have := schF_eq b n (m + 1)
    rw [show m + 1 + n = m + (n + 1) by omega] at this
    rw [← this]
    simp only [schF, frcW_eq, nxR_eq, ws, List.reverse_append, List.reverse_cons, List.reverse_nil, List.nil_append, List.singleton_append]

def rndF {α : Type} : List W → S8 → (S8 → α) → α
  | [], x, k => k x
  | w :: t, x, k => frcW (x.one w) fun o => frcW (o + x.two) fun a => frcW (x.d + o) fun e => rndF t ⟨a, x.a, x.b, x.c, e, x.e, x.f, x.g⟩ k
theorem rndF_eq {α : Type} : ∀ (l : List W) (x : S8) (k : S8 → α), rndF l x k = k (l.foldl S8.round x)
  | [], x, k => rfl
  | w :: t, x, k => by simp only [rndF, frcW_eq, rndF_eq t, List.foldl_cons, S8.round]
theorem rnd_fold (b : ByteArray) (x : S8) : ∀ n, rnd b x n = ((List.range n).map fun t => kW.getD t 0 + (wsz b 48).getD t 0).foldl S8.round x
  | 0 => rfl
  | n + 1 => by rw [List.range_succ, List.map_append, List.foldl_append, ← rnd_fold b x n]; rfl
def plusF {α : Type} (x y : S8) (k : S8 → α) : α := frcW (x.a + y.a) fun a => frcW (x.b + y.b) fun b => frcW (x.c + y.c) fun c => frcW (x.d + y.d) fun d => frcW (x.e + y.e) fun e => frcW (x.f + y.f) fun f => frcW (x.g + y.g) fun g => frcW (x.h + y.h) fun h => k ⟨a, b, c, d, e, f, g, h⟩
theorem plusF_eq {α : Type} (x y : S8) (k : S8 → α) : plusF x y k = k (x.plus y) := by simp only [plusF, frcW_eq]; rfl
def runsF : Nat → S8 → List UInt8 → S8
  | 0, x, _ => x
  | n + 1, x, l => frcL ((List.range 16).map (word ⟨(l.take 64).toArray⟩)).reverse fun r => rndF (List.zipWith (· + ·) kW (schF 48 r).reverse) x fun y => plusF x y fun x' => runsF n x' (l.drop 64)
theorem zip_eq (l : List W) (h : l.length = 64) : List.zipWith (· + ·) kW l = (List.range 64).map fun t => kW.getD t 0 + l.getD t 0 := by
  have hk : kW.length = 64 := rfl
  apply List.ext_getElem?
  intro i
  by_cases hi : i < 64
  · simp [List.getElem?_zipWith, List.getD, hi, hk, h]
  · rw [List.getElem?_eq_none (by simp [hk, h]; omega), List.getElem?_eq_none (by simp; omega)]
theorem runsF_eq : ∀ (n : Nat) (x : S8) (l : List UInt8), runsF n x l = runs n x ⟨l.toArray⟩
  | 0, x, l => rfl
  | n + 1, x, l => by
    have e1 : (⟨l.toArray⟩ : ByteArray).extract 0 64 = ⟨(l.take 64).toArray⟩ := by
      apply ba_ext; simp [ByteArray.data_extract]
    have e2 : (⟨l.toArray⟩ : ByteArray).extract 64 (⟨l.toArray⟩ : ByteArray).size = ⟨(l.drop 64).toArray⟩ := by
      apply ba_ext; simp [ByteArray.data_extract, ByteArray.size]
      exact List.take_of_length_le (by simp)
    simp only [runs, e1, e2, ← runsF_eq n, runsF, frcL_eq, rndF_eq, plusF_eq, S8.blk]
    have hs : schF 48 (List.map (word ⟨(l.take 64).toArray⟩) (List.range 16)).reverse = (ws ⟨(l.take 64).toArray⟩ 48).reverse := schF_eq _ 48 0
    rw [hs, List.reverse_reverse, zip_eq _ (by rw [ws_len]), rnd_fold]
    have hw : wsz ⟨(l.take 64).toArray⟩ 48 = ws ⟨(l.take 64).toArray⟩ 48 := by simp [wsz]
    rw [hw]
def padL (l : List UInt8) : List UInt8 := l ++ ((128 : UInt8) :: (List.replicate ((119 - l.length % 64) % 64) 0 ++ be8 (8 * l.length)))
theorem sha_run (l : List UInt8) (x : S8) (h : runsF ((padL l).length / 64) first8 (padL l) = x) : sha ⟨l.toArray⟩ = x.out := by
  subst h
  rw [runsF_eq]
  have e : padded ⟨l.toArray⟩ = ⟨(padL l).toArray⟩ := by
    apply ba_ext
    simp [padded, behind, padL, ByteArray.data_append, ByteArray.size]
  unfold sha
  rw [e]
  rfl
end Go.Abs

namespace Go.Abs
open Go
def aw1i : List UInt8 := [49]
def aw1o : List UInt8 := [107, 134, 178, 115, 255, 52, 252, 225, 157, 107, 128, 78, 255, 90, 63, 87, 71, 173, 164, 234, 162, 47, 29, 73, 192, 30, 82, 221, 183, 135, 91, 75]
theorem aw1_run : runsF ((padL aw1i).length / 64) first8 (padL aw1i) = ⟨1803989619#32, 4281662689#32, 2641068110#32, 4284104535#32, 1202562282#32, 2720996681#32, 3223212765#32, 3079101259#32⟩ := by kernel_rfl
theorem aw1_eq : sha ⟨aw1i.toArray⟩ = ⟨aw1o.toArray⟩ := (sha_run _ _ aw1_run).trans (by kernel_rfl)
def aw2i : List UInt8 := [50]
def aw2o : List UInt8 := [212, 115, 94, 58, 38, 94, 22, 238, 224, 63, 89, 113, 139, 155, 93, 3, 1, 156, 7, 216, 182, 197, 31, 144, 218, 58, 102, 110, 236, 19, 171, 53]
theorem aw2_run : runsF ((padL aw2i).length / 64) first8 (padL aw2i) = ⟨3564330554#32, 643700462#32, 3762248049#32, 2342214915#32, 27002840#32, 3066371984#32, 3661260398#32, 3960711989#32⟩ := by kernel_rfl
theorem aw2_eq : sha ⟨aw2i.toArray⟩ = ⟨aw2o.toArray⟩ := (sha_run _ _ aw2_run).trans (by kernel_rfl)
def awai : List UInt8 := [0, 97, 0, 0, 0, 0, 0, 0, 6, 0, 0, 0, 0, 0, 0, 0, 0, 0, 0, 0, 0, 0, 0, 0, 0, 0, 0, 0, 0, 0, 0, 0, 0, 107, 134, 178, 115, 255, 52, 252, 225, 157, 107, 128, 78, 255, 90, 63, 87, 71, 173, 164, 234, 162, 47, 29, 73, 192, 30, 82, 221, 183, 135, 91, 75]
def awao : List UInt8 := [157, 91, 237, 164, 254, 14, 185, 10, 55, 103, 104, 100, 89, 154, 165, 202, 10, 37, 95, 40, 221, 217, 255, 140, 106, 2, 103, 185, 36, 207, 76, 189]
theorem awa_run : runsF ((padL awai).length / 64) first8 (padL awai) = ⟨2640047524#32, 4262377738#32, 929523812#32, 1503307210#32, 170221352#32, 3722051468#32, 1778542521#32, 617565373#32⟩ := by kernel_rfl
theorem awa_eq : sha ⟨awai.toArray⟩ = ⟨awao.toArray⟩ := (sha_run _ _ awa_run).trans (by kernel_rfl)
def awbi : List UInt8 := [0, 98, 0, 0, 0, 0, 0, 0, 6, 0, 0, 0, 0, 0, 0, 0, 0, 0, 0, 0, 0, 0, 0, 0, 0, 0, 0, 0, 0, 0, 0, 0, 0, 212, 115, 94, 58, 38, 94, 22, 238, 224, 63, 89, 113, 139, 155, 93, 3, 1, 156, 7, 216, 182, 197, 31, 144, 218, 58, 102, 110, 236, 19, 171, 53]
def awbo : List UInt8 := [143, 186, 171, 39, 48, 163, 13, 83, 20, 192, 62, 1, 220, 116, 19, 145, 68, 106, 183, 14, 201, 251, 96, 22, 4, 54, 66, 219, 35, 68, 121, 251]
theorem awb_run : runsF ((padL awbi).length / 64) first8 (padL awbi) = ⟨2411375399#32, 815992147#32, 348143105#32, 3698594705#32, 1147844366#32, 3388694550#32, 70664923#32, 591690235#32⟩ := by kernel_rfl
theorem awb_eq : sha ⟨awbi.toArray⟩ = ⟨awbo.toArray⟩ := (sha_run _ _ awb_run).trans (by kernel_rfl)
def awfi : List UInt8 := [1, 0, 6, 96, 0, 0, 0, 0, 0, 0, 0, 0, 0, 0, 0, 0, 0, 0, 0, 0, 0, 0, 0, 0, 0, 0, 0, 0, 0, 0, 0, 0, 0, 0, 0, 157, 91, 237, 164, 254, 14, 185, 10, 55, 103, 104, 100, 89, 154, 165, 202, 10, 37, 95, 40, 221, 217, 255, 140, 106, 2, 103, 185, 36, 207, 76, 189, 143, 186, 171, 39, 48, 163, 13, 83, 20, 192, 62, 1, 220, 116, 19, 145, 68, 106, 183, 14, 201, 251, 96, 22, 4, 54, 66, 219, 35, 68, 121, 251]
def awfo : List UInt8 := [39, 233, 241, 188, 12, 214, 46, 60, 107, 197, 86, 151, 1, 210, 204, 170, 170, 216, 85, 33, 195, 242, 40, 20, 156, 245, 67, 8, 78, 234, 115, 51]
theorem awf_run : runsF ((padL awfi).length / 64) first8 (padL awfi) = ⟨669643196#32, 215363132#32, 1808094871#32, 30592170#32, 2866304289#32, 3287427092#32, 2633319176#32, 1323987763#32⟩ := by kernel_rfl
theorem awf_eq : sha ⟨awfi.toArray⟩ = ⟨awfo.toArray⟩ := (sha_run _ _ awf_run).trans (by kernel_rfl)
end Go.Abs

namespace Go.Abs
open Go
def akA : ByteArray := ⟨#[97]⟩
def akB : ByteArray := ⟨#[98]⟩
def av1 : ByteArray := ⟨#[49]⟩
def av2 : ByteArray := ⟨#[50]⟩
def ba : ByteArray := ⟨#[97, 0, 0, 0, 0, 0, 0, 6, 0, 0, 0, 0, 0, 0, 0, 0, 0, 0, 0, 0, 0, 0, 0, 0, 0, 0, 0, 0, 0, 0, 0, 0]⟩
def bb : ByteArray := ⟨#[98, 0, 0, 0, 0, 0, 0, 6, 0, 0, 0, 0, 0, 0, 0, 0, 0, 0, 0, 0, 0, 0, 0, 0, 0, 0, 0, 0, 0, 0, 0, 0]⟩
def bf : ByteArray := ⟨#[96, 0, 0, 0, 0, 0, 0, 0, 0, 0, 0, 0, 0, 0, 0, 0, 0, 0, 0, 0, 0, 0, 0, 0, 0, 0, 0, 0, 0, 0, 0, 0]⟩
theorem lawKey_a : lawKey akA = ba := by kernel_rfl
theorem lawKey_b : lawKey akB = bb := by kernel_rfl
def at2 : T := .fork 6 bf (.leaf ba av1) (.leaf bb av2)
theorem put_b : T.put bb av2 (.leaf ba av1) = (at2, true) := by kernel_rfl
theorem get_a : T.get ba at2 = some av1 := by kernel_rfl
theorem drop_a : T.drop ba at2 = (.leaf bb av2, true) := by kernel_rfl
theorem drop_b : T.drop bb (.leaf bb av2) = (.nil, true) := by kernel_rfl
theorem sha_1 : sha av1 = ⟨aw1o.toArray⟩ := aw1_eq
theorem sha_2 : sha av2 = ⟨aw2o.toArray⟩ := aw2_eq
theorem lh_a : leafHash ba (sha av1) = ⟨awao.toArray⟩ := by
  rw [sha_1, ← awa_eq]; unfold leafHash; exact congrArg sha (by kernel_rfl)
theorem lh_b : leafHash bb (sha av2) = ⟨awbo.toArray⟩ := by
  rw [sha_2, ← awb_eq]; unfold leafHash; exact congrArg sha (by kernel_rfl)
theorem at2_hash : at2.hash = ⟨awfo.toArray⟩ := by
  show forkHash 6 bf (leafHash ba (sha av1)) (leafHash bb (sha av2)) = _
  rw [lh_a, lh_b, ← awf_eq]; unfold forkHash; exact congrArg sha (by kernel_rfl)
theorem at2_ne : at2.hash ≠ zero32 := by
  rw [at2_hash]
  intro e
  have := congrArg (fun x : ByteArray => x.data.toList) e
  revert this
  decide +kernel
theorem at2_good : at2.good := by
  have h1 := T.put_spec (key := ba) (val := av1) rfl (by decide) (t := .nil) trivial
  have h2 := T.put_spec (key := bb) (val := av2) rfl (by decide) h1.1
  have e : (T.put ba av1 .nil).1 = .leaf ba av1 := rfl
  rw [e, put_b] at h2
  exact h2.1
end Go.Abs
