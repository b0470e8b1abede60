/- A part of the proof of a seat of parts: E3. -/
import Derived.Test.YtmfilaagpobmbaaGreatDoorE2
import Derived.Test.YtmfilaagpobmbaaGreatDoorS3
set_option linter.all false
namespace Go.Proofs.YtmfilaagpobmbaaGreatDoor
open Go Go.Abs
set_option maxRecDepth 100000 in
theorem c_Key (s : ByteArray) (hs : s.size < 1000000000) (K) (hk : ∀ r, r = lawKey s → K (.i (.str r)) []) : SP 31 [.i (.str s)] [] K := by
  unfold lawKey at hk
  refine mk {keep := [(5, [0,3,4])]} (fn := Tryz.f31) Tryz.func31 (by kernel_rfl) (by kernel_rfl) (Nat.le_of_ble_eq_true (Eq.refl true)) fun S hS => ?_
  conv => whnf
  by_cases h32 : 32 ≤ s.size
  · rw [if_pos h32] at hk
    rw [decide_eq_true (show (s.size : Int) ≥ 32 by omega)]
    conv => whnf
    refine ⟨by omega, by omega, by omega, ?_⟩
    conv => whnf
    exact hk _ rfl
  · rw [if_neg h32] at hk
    rw [decide_eq_false (show ¬ ((s.size : Int) ≥ 32) by omega)]
    conv => whnf
    refine ⟨by decide, by decide, by decide, ?_⟩
    conv => whnf
    intro X hX
    have go : ∀ (d i : Nat), i + d = min 4 s.size → ∀ L, L = keyB s i → frK (kfr 39 [(0, .i (.str s)), (3, .one (.sl 0 0 32)), (4, .i (.int .i64 (i : Int)))] [.vec 1 (eb L) false]) X := by
      intro d
      induction d with
      | zero =>
        intro i hi L hL
        have hl : (eb L).length = 32 := by rw [eb_len, hL, keyB_len]
        conv => whnf
        apply hX
        conv => whnf
        by_cases c : i < s.size
        · rw [decide_eq_true (show (i : Int) < (s.size : Int) by omega)]
          conv => whnf
          rw [decide_eq_false (show ¬ ((i : Int) < 4) by omega)]
          conv => whnf
          refine ⟨mkB L, ?_, ?_⟩
          · rw [List.drop_zero, List.take_of_length_le (by omega), eb_mkB _ (by rw [hL]; exact keyB_lt s _)]
          · conv => whnf
            exact hk _ (by rw [hL, show i = min 4 s.size by omega])
        · rw [decide_eq_false (show ¬ ((i : Int) < (s.size : Int)) by omega)]
          conv => whnf
          refine ⟨mkB L, ?_, ?_⟩
          · rw [List.drop_zero, List.take_of_length_le (by omega), eb_mkB _ (by rw [hL]; exact keyB_lt s _)]
          · conv => whnf
            exact hk _ (by rw [hL, show i = min 4 s.size by omega])
      | succ d ih =>
        intro i hi L hL
        have hl : (eb L).length = 32 := by rw [eb_len, hL, keyB_len]
        conv => whnf
        apply hX
        conv => whnf
        rw [decide_eq_true (show (i : Int) < (s.size : Int) by omega)]
        conv => whnf
        rw [decide_eq_true (show (i : Int) < 4 by omega)]
        conv => whnf
        rw [show (8 : Int) * (i : Int) = ((8 * i : Nat) : Int) by omega, i64n _ (by omega)]
        refine ⟨by omega, by omega, ?_⟩
        conv => whnf
        refine ⟨by omega, by omega, ?_⟩
        conv => whnf
        rw [show 0 + (((8 * i : Nat) : Int)).toNat = 8 * i by omega]
        refine ⟨Nat.one_pos, _, eb_get _ (8 * i) _ (List.getElem?_eq_getElem (by rw [hL, keyB_len]; omega)), Nat.le_refl 1, ?_⟩
        conv => whnf
        rw [show (8 : Int) * (i : Int) = ((8 * i : Nat) : Int) by omega, i64n _ (by omega), show ((8 * i : Nat) : Int) + 7 = ((8 * i + 7 : Nat) : Int) by omega, i64n _ (by omega)]
        refine ⟨by omega, by omega, ?_⟩
        conv => whnf
        refine ⟨by decide, ?_⟩
        conv => whnf
        refine ⟨by omega, by omega, ?_⟩
        conv => whnf
        rw [show 0 + (((8 * i + 7 : Nat) : Int)).toNat = 8 * i + 7 by omega]
        have hLl : L.length = 32 := by rw [hL, keyB_len]
        have hg2 : ((eb L).set (8 * i) [IV.int .u8 (byteN s i : Int)])[8 * i + 7]? = some [IV.int .u8 ((L[8 * i + 7]'(by omega) : Nat) : Int)] := by
          rw [eb_set]
          exact eb_get _ _ _ (by rw [List.getElem?_set_ne (by omega)]; exact List.getElem?_eq_getElem (by omega))
        have e4 : (sb s ((i : Int)).toNat).fdiv (2 ^ min (Int.toNat 4) IntKind.u8.bits) = ((byteN s i / 16 : Nat) : Int) := by
          show ((byteN s i : Nat) : Int).fdiv 16 = _
          rw [Int.fdiv_eq_ediv_of_nonneg _ (by decide)]; omega
        rw [e4]
        refine ⟨Nat.one_pos, _, hg2, Nat.le_refl 1, ?_⟩
        conv => whnf
        have hn := ih (i + 1) (by omega) (keyB s (i + 1)) rfl
        rw [← keyB_step s i (by omega), ← hL, ← eb_set, ← eb_set] at hn
        rw [show (i : Int) + 1 = ((i + 1 : Nat) : Int) by omega, i64n _ (by omega)]
        exact hn
    have g0 := go (min 4 s.size) 0 (by omega) _ rfl
    rw [keyB_zero s] at g0
    exact g0
end Go.Proofs.YtmfilaagpobmbaaGreatDoor
