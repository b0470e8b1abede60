/- A part of the proof of a seat of parts: D1, D2, D3, D4. -/
import Derived.Test.YtmfilaagpobmbaaGreatDoorC3
import Derived.Test.YtmfilaagpobmbaaGreatDoorS2
set_option linter.all false
namespace Go.Proofs.YtmfilaagpobmbaaGreatDoor
open Go Go.Abs
set_option maxRecDepth 100000 in
theorem c_Len8 (x : Nat) (hx : x < 256) (K) (hk : K (.i (.int .i64 (len8 x : Int))) []) : SP 119 [.i (.int .u8 (x : Int))] [] K := by
  refine mk {} (fn := Tryz.f119) Tryz.func119 (by kernel_rfl) (by kernel_rfl) (Nat.le_of_ble_eq_true (Eq.refl true)) fun S hS => ?_
  conv => whnf
  refine ⟨by omega, ?_, ?_⟩
  · revert x; intro x hx _; show (x : Int) < 256; omega
  · conv => whnf
    refine (congrArg (fun n : Int => K (.i (.int .i64 n)) []) ?_ : _ = _).mpr hk
    clear hk hS S K
    revert x
    decide +kernel
theorem c_LeadingZeros8 (x : Nat) (hx : x < 256) (K) (hk : K (.i (.int .i64 ((8 - len8 x : Nat) : Int))) []) : SP 93 [.i (.int .u8 (x : Int))] [] K := by
  refine mk {} (fn := Tryz.f93) Tryz.func93 (by kernel_rfl) (by kernel_rfl) (Nat.le_of_ble_eq_true (Eq.refl true)) fun S hS => ?_
  conv => whnf
  refine hS _ _ _ _ <| c_Len8 x hx _ ?_
  conv => whnf
  have h8 : len8 x ≤ 8 := by
    by_cases h : x = 0
    · subst h; decide
    · exact (len8_spec x hx h).1
  rw [show (8 : Int) - (len8 x : Int) = ((8 - len8 x : Nat) : Int) by omega, i64n _ (by omega)]
  exact hk
set_option maxRecDepth 100000 in
theorem c_Bit (k : ByteArray) (i : Nat) (hk32 : k.size = 32) (hi : i < 256) (K) (hk : K (.i (.int .u8 ((bit k i).toNat : Int))) []) : SP 55 [.i (.str k), .i (.int .i64 (i : Int))] [] K := by
  refine mk {} (fn := Tryz.f55) Tryz.func55 (by kernel_rfl) (by kernel_rfl) (Nat.le_of_ble_eq_true (Eq.refl true)) fun S hS => ?_
  conv => whnf
  refine ⟨by decide, ?_⟩
  conv => whnf
  rw [show (8 : Int) = ((8 : Nat) : Int) from rfl, tdivN i 8 (by omega)]
  refine ⟨by omega, by omega, ?_⟩
  conv => whnf
  refine ⟨by decide, ?_⟩
  conv => whnf
  rw [tmodN, show (7 : Int) - ((i % 8 : Nat) : Int) = ((7 - i % 8 : Nat) : Int) by omega, i64n _ (by omega)]
  refine ⟨by omega, ?_⟩
  conv => whnf
  rw [sb_byteN, show (((i / 8 : Nat) : Int)).toNat = i / 8 from rfl]
  have e3 : min (((7 - i % 8 : Nat) : Int).toNat) IntKind.u8.bits = 7 - i % 8 := by simp only [IntKind.bits]; omega
  have e4 : ((byteN k (i / 8) : Int)).fdiv (2 ^ (7 - i % 8)) = ((byteN k (i / 8) / 2 ^ (7 - i % 8) : Nat) : Int) := by
    rw [Int.fdiv_eq_ediv_of_nonneg _ (Int.pow_nonneg (by omega))]; simp
  rw [e3, e4]
  refine (congrArg (fun n : Int => K (.i (.int .u8 n)) []) ?_ : _ = _).mpr hk
  unfold bit
  have hb := byteN_lt k (i / 8)
  rw [Nat.testBit_eq_decide_div_mod_eq]
  have hq : byteN k (i / 8) / 2 ^ (7 - i % 8) < 256 := Nat.lt_of_le_of_lt (Nat.div_le_self _ _) hb
  revert hq
  generalize byteN k (i / 8) / 2 ^ (7 - i % 8) = q
  intro hq
  revert q
  decide +kernel
end Go.Proofs.YtmfilaagpobmbaaGreatDoor

namespace Go.Proofs.YtmfilaagpobmbaaGreatDoor
open Go Go.Abs
set_option maxRecDepth 100000 in
theorem c_Common (a b : ByteArray) (ha : a.size = 32) (hb : b.size = 32) (K) (hk : ∀ r, IsCommon a b r → K (.i (.int .i64 (r : Int))) []) : SP 54 [.i (.str a), .i (.str b)] [] K := by
  refine mk {keep := [(2, [0,1,8,9])]} (fn := Tryz.f54) Tryz.func54 (by kernel_rfl) (by kernel_rfl) (Nat.le_of_ble_eq_true (Eq.refl true)) fun S hS => ?_
  conv => whnf
  intro X hX
  have key : ∀ (d i : Nat), i + d = 32 → (∀ j, j < i → byteN a j = byteN b j) → frK (kfr 27 [(0, .i (.str a)), (1, .i (.str b)), (8, .i (.int .i64 (a.size : Int))), (9, .i (.int .i64 (i : Int)))] []) X := by
    intro d
    induction d with
    | zero =>
      intro i hi heq
      conv => whnf
      apply hX
      conv => whnf
      rw [decide_eq_false (show ¬ ((i : Int) < (a.size : Int)) by omega)]
      conv => whnf
      obtain rfl : i = 32 := hi
      exact hk 256 (common_all heq)
    | succ d ih =>
      intro i hi heq
      conv => whnf
      apply hX
      conv => whnf
      rw [decide_eq_true (show (i : Int) < (a.size : Int) by omega)]
      conv => whnf
      refine ⟨by omega, by omega, ?_⟩
      conv => whnf
      refine ⟨by omega, by omega, ?_⟩
      conv => whnf
      have ex : ibits .xor .u8 (sb a ((i : Int)).toNat) (sb b ((i : Int)).toNat) = ((byteN a i ^^^ byteN b i : Nat) : Int) := u8x (byteN a i) (byteN b i) (byteN_lt a i) (byteN_lt b i)
      rw [ex]
      by_cases hne : byteN a i ^^^ byteN b i = 0
      · rw [hne]
        conv => whnf
        rw [show (i : Int) + 1 = ((i + 1 : Nat) : Int) by omega, i64n _ (by omega)]
        refine ih (i + 1) (by omega) fun j hj => ?_
        by_cases hj' : j < i
        · exact heq j hj'
        · rw [show j = i by omega]; have h := congrArg (fun z => z ^^^ byteN b i) hne; simpa [Nat.xor_assoc] using h
      · have hc := common_here (by omega) heq hne
        have hx := Nat.xor_lt_two_pow (n := 8) (byteN_lt a i) (byteN_lt b i)
        revert hne hc hx
        generalize byteN a i ^^^ byteN b i = q
        intro hne hc hx
        rw [show ((q : Int) != 0) = true by simp; omega]
        conv => whnf
        refine hS _ _ _ _ <| c_LeadingZeros8 q hx _ ?_
        conv => whnf
        rw [show (8 : Int) * (i : Int) = ((8 * i : Nat) : Int) by omega, i64n _ (by omega), show ((8 * i : Nat) : Int) + ((8 - len8 q : Nat) : Int) = ((8 * i + (8 - len8 q) : Nat) : Int) by omega, i64n _ (by omega)]
        exact hk _ hc
  exact key 32 0 rfl (fun j hj => absurd hj (by omega))
end Go.Proofs.YtmfilaagpobmbaaGreatDoor

namespace Go.Proofs.YtmfilaagpobmbaaGreatDoor
open Go Go.Abs
set_option maxRecDepth 100000 in
theorem c_First (k : ByteArray) (n : Nat) (hk32 : k.size = 32) (hn : n ≤ 256) (K) (hk : ∀ r, r = firstK k n → K (.i (.str r)) []) : SP 71 [.i (.str k), .i (.int .i64 (n : Int))] [] K := by
  refine mk {keep := [(3, [1,5,11,12])]} (fn := Tryz.f71) Tryz.func71 (by kernel_rfl) (by kernel_rfl) (Nat.le_of_ble_eq_true (Eq.refl true)) fun S hS => ?_
  conv => whnf
  intro X hX
  have key : ∀ (d i : Nat), i + d = 32 → ∀ L, L = mid k n i → frK (kfr 38 [(1, .i (.int .i64 (n : Int))), (5, .one (.sl 0 0 k.size)), (11, .i (.int .i64 (k.size : Int))), (12, .i (.int .i64 (i : Int)))] [.vec 1 (eb L) false]) X := by
    intro d
    induction d with
    | zero =>
      intro i hi L hL
      obtain rfl : i = 32 := hi
      have hl : (eb L).length = 32 := by rw [eb_len, hL, mid_len]
      conv => whnf
      apply hX
      conv => whnf
      rw [decide_eq_false (show ¬ (((32 : Nat) : Int) < (k.size : Int)) by omega)]
      conv => whnf
      refine ⟨firstK k n, by rw [List.drop_zero, List.take_of_length_le (by omega), hL]; exact mid_full k n, ?_⟩
      conv => whnf
      exact hk _ rfl
    | succ d ih =>
      intro i hi L hL
      have hl : (eb L).length = 32 := by rw [eb_len, hL, mid_len]
      have hg : (eb L)[i]? = some [IV.int .u8 (byteN k i : Int)] := eb_get _ _ _ (by rw [hL]; exact mid_get k n i (by omega))
      have hlt := byteN_lt k i
      conv => whnf
      apply hX
      conv => whnf
      rw [decide_eq_true (show (i : Int) < (k.size : Int) by omega)]
      conv => whnf
      rw [show (8 : Int) * (i : Int) = ((8 * i : Nat) : Int) by omega, i64n _ (by omega), wrap64i _ (by omega)]
      by_cases h0 : n ≤ 8 * i
      · rw [decide_eq_true (show (n : Int) - ((8 * i : Nat) : Int) ≤ 0 by omega)]
        conv => whnf
        refine ⟨by omega, by omega, ?_⟩
        conv => whnf
        rw [show 0 + ((i : Int)).toNat = i by omega]
        refine ⟨Nat.one_pos, _, hg, Nat.le_refl 1, ?_⟩
        conv => whnf
        rw [show (i : Int) + 1 = ((i + 1 : Nat) : Int) by omega, i64n _ (by omega)]
        have e : (eb L).set i (splice [IV.int .u8 (byteN k i : Int)] 0 [IV.int .u8 0]) = eb (L.set i 0) := eb_set L i 0
        rw [e]
        refine ih (i + 1) (by omega) _ ?_
        have := mid_set k n i (by omega)
        rw [show n - 8 * i = 0 by omega, firstN_zero _ hlt] at this
        rw [hL, this]
      · rw [decide_eq_false (show ¬ ((n : Int) - ((8 * i : Nat) : Int) ≤ 0) by omega)]
        conv => whnf
        by_cases h8 : n - 8 * i < 8
        · rw [decide_eq_true (show (n : Int) - ((8 * i : Nat) : Int) < 8 by omega)]
          conv => whnf
          refine ⟨by omega, by omega, ?_⟩
          conv => whnf
          rw [show 0 + ((i : Int)).toNat = i by omega]
          refine ⟨_, hg, ?_⟩
          conv => whnf
          rw [show (8 : Int) - ((n : Int) - ((8 * i : Nat) : Int)) = ((8 - (n - 8 * i) : Nat) : Int) by omega, i64n _ (by omega)]
          refine ⟨by omega, ?_⟩
          conv => whnf
          refine ⟨by omega, by omega, ?_⟩
          conv => whnf
          rw [show 0 + ((i : Int)).toNat = i by omega]
          refine ⟨Nat.one_pos, _, hg, Nat.le_refl 1, ?_⟩
          conv => whnf
          have e3 : min (((8 - (n - 8 * i) : Nat) : Int).toNat) IntKind.u8.bits = 8 - (n - 8 * i) := by simp only [IntKind.bits]; omega
          rw [e3, firstN_mask _ hlt _ h8, show (i : Int) + 1 = ((i + 1 : Nat) : Int) by omega, i64n _ (by omega)]
          have e : (eb L).set i (splice [IV.int .u8 (byteN k i : Int)] 0 [IV.int .u8 (firstN (byteN k i) (n - 8 * i) : Int)]) = eb (L.set i (firstN (byteN k i) (n - 8 * i))) := eb_set L i _
          rw [e]
          refine ih (i + 1) (by omega) _ ?_
          rw [hL, mid_set k n i (by omega)]
        · rw [decide_eq_false (show ¬ ((n : Int) - ((8 * i : Nat) : Int) < 8) by omega)]
          conv => whnf
          rw [show (i : Int) + 1 = ((i + 1 : Nat) : Int) by omega, i64n _ (by omega)]
          refine ih (i + 1) (by omega) _ ?_
          rw [hL, mid_same k n i (by omega) (firstN_all _ _ (by omega))]
  rw [mid_zero k n hk32]
  exact key 32 0 rfl _ rfl
end Go.Proofs.YtmfilaagpobmbaaGreatDoor

namespace Go.Proofs.YtmfilaagpobmbaaGreatDoor
open Go Go.Abs
set_option maxRecDepth 100000 in
theorem c_LeafHash (k v : ByteArray) (hk32 : k.size = 32) (hv : v.size = 32) (K) (hk : ∀ r, r = leafHash k v → K (.i (.str r)) []) : SP 120 [.i (.str k), .i (.str v)] [] K := by
  refine mk {} (fn := Tryz.f120) Tryz.func120 (by kernel_rfl) (by kernel_rfl) (Nat.le_of_ble_eq_true (Eq.refl true)) fun S hS => ?_
  conv => whnf
  refine ⟨by show 1 + k.size ≤ _; omega, ?_⟩
  conv => whnf
  refine ⟨by rw [ByteArray.size_append]; show 1 + k.size + v.size ≤ _; omega, ?_⟩
  conv => whnf
  refine hS _ _ _ _ <| c_Sum _ (by rw [ByteArray.size_append, ByteArray.size_append]; show 1 + k.size + v.size < _; omega) _ fun r hr => ?_
  conv => whnf
  exact hk r hr
set_option maxRecDepth 100000 in
theorem c_ForkHash (a : Nat) (k z o : ByteArray) (ha : a < 256) (hk32 : k.size = 32) (hz : z.size = 32) (ho : o.size = 32) (K) (hk : ∀ r, r = forkHash a k z o → K (.i (.str r)) []) : SP 104 [.i (.int .i64 (a : Int)), .i (.str k), .i (.str z), .i (.str o)] [] K := by
  refine mk {} (fn := Tryz.f104) Tryz.func104 (by kernel_rfl) (by kernel_rfl) (Nat.le_of_ble_eq_true (Eq.refl true)) fun S hS => ?_
  conv => whnf
  refine ⟨by decide, ?_⟩
  conv => whnf
  have e1 : IntKind.u8.wrap ((a : Int).fdiv (2 ^ min (Int.toNat 8) IntKind.i64.bits)) = ((a / 256 % 256 : Nat) : Int) := by
    rw [show min (Int.toNat 8) IntKind.i64.bits = 8 from rfl, wrap8, Int.fdiv_eq_ediv_of_nonneg _ (by decide)]; omega
  have e2 : IntKind.u8.wrap (a : Int) = ((a % 256 : Nat) : Int) := by rw [wrap8]; omega
  rw [e1, e2]
  refine ⟨mkB [a / 256 % 256, a % 256], (eb_mkB [a / 256 % 256, a % 256] (by intro n hn; simp at hn; omega)), ?_⟩
  conv => whnf
  have hm : (mkB [a / 256 % 256, a % 256]).size = 2 := mkB_size _
  have h1 : (ByteArray.mk #[1]).size = 1 := rfl
  unfold forkHash at hk
  revert hm hk
  generalize mkB [a / 256 % 256, a % 256] = m
  intro hk hm
  refine ⟨by omega, ?_⟩
  conv => whnf
  refine ⟨by simp only [ByteArray.size_append]; omega, ?_⟩
  conv => whnf
  refine ⟨by simp only [ByteArray.size_append]; omega, ?_⟩
  conv => whnf
  refine ⟨by simp only [ByteArray.size_append]; omega, ?_⟩
  conv => whnf
  refine hS _ _ _ _ <| c_Sum _ (by simp only [ByteArray.size_append]; omega) _ fun r hr => ?_
  conv => whnf
  exact hk r hr
set_option maxRecDepth 100000 in
theorem c_leaf (k v : ByteArray) (hk32 : k.size = 32) (hv : v.size < 1073741824) (K) (hk : ∀ t, t = (T.leaf k v).iv → K (.i t) []) : SP 96 [.i (.str k), .i (.str v)] [] K := by
  refine mk {} (fn := Tryz.f96) Tryz.func96 (by kernel_rfl) (by kernel_rfl) (Nat.le_of_ble_eq_true (Eq.refl true)) fun S hS => ?_
  conv => whnf
  refine hS _ _ _ _ <| c_Sum v (by omega) _ fun r hr => ?_
  conv => whnf
  refine hS _ _ _ _ <| c_LeafHash k r hk32 (by rw [hr]; exact sha_size _) _ fun h hh => ?_
  conv => whnf
  refine hk _ ?_
  rw [hh, hr]
  rfl
set_option maxRecDepth 100000 in
theorem c_fork (a : Nat) (k : ByteArray) (z o : T) (ha : a < 256) (hk32 : k.size = 32) (hz : z ≠ .nil) (ho : o ≠ .nil) (K) (hk : ∀ t, t = (mkFork a k z o).iv → K (.i t) []) : SP 99 [.i (.int .i64 (a : Int)), .i (.str k), .i z.iv, .i o.iv] [] K := by
  unfold mkFork T.iv T.hash at hk
  have zs := z.hash_size
  have os := o.hash_size
  obtain ⟨b1, b2, b3, b4, b5, b6, ez⟩ := z.iv_ptr hz
  obtain ⟨d1, d2, d3, d4, d5, d6, eo⟩ := o.iv_ptr ho
  rw [ez, eo] at hk ⊢
  clear ez eo
  revert zs os hk
  generalize z.hash = zh
  generalize o.hash = oh
  intro zs os hk
  refine mk {} (fn := Tryz.f99) Tryz.func99 (by kernel_rfl) (by kernel_rfl) (Nat.le_of_ble_eq_true (Eq.refl true)) fun S hS => ?_
  conv => whnf
  refine hS _ _ _ _ <| c_First k a hk32 (by omega) _ fun r hr => ?_
  conv => whnf
  have hr32 : r.size = 32 := by rw [hr]; exact (firstK_is k a).1
  rw [← hr] at hk
  have hf := fun K => c_ForkHash a r zh oh ha hr32 zs os K
  revert hf hk
  generalize forkHash a r zh oh = q
  intro hk hf
  refine ⟨.i (.str q), hS _ _ _ _ <| hf _ (fun q' hq => ⟨by rw [hq], rfl⟩), rfl, ?_⟩
  conv => whnf
  exact hk _ rfl
end Go.Proofs.YtmfilaagpobmbaaGreatDoor
