/- A part of the proof of a seat of tries: E3, E4. -/
import Derived.Test.YtkpmcdfmdfoheaaDoorA5
import Derived.Test.YtkpmcdfmdfoheaaDoorE2
import Derived.Test.YtkpmcdfmdfoheaaDoorS3
set_option linter.all false
namespace Go.Proofs.YtkpmcdfmdfoheaaDoor
open Go Go.Abs
set_option maxRecDepth 100000 in
theorem c_Key (s : ByteArray) (hs : s.size < 1000000000) (K) (hk : ∀ r, r = lawKey s → K (.i (.str r)) []) : SP 17 [.i (.str s)] [] K := by
  unfold lawKey at hk
  refine mk {keep := [(5, [0,3,4])]} (fn := Tryd.f17) Tryd.func17 (by kernel_rfl) (by kernel_rfl) (Nat.le_of_ble_eq_true (Eq.refl true)) fun S hS => ?_
  conv => whnf
  by_cases h32 : 32 ≤ s.size
  · rw [if_pos h32] at hk
    rw [decide_eq_true (show (s.size : Int) ≥ 32 by omega)]
    conv => whnf
    refine ⟨by omega, by omega, by omega, ?_⟩
    conv => whnf
    exact hk _ rfl
  · rw [if_neg h32] at hk
    rw [decide_eq_false (show ¬ ((s.size : Int) ≥ 32) by omega)]
    conv => whnf
    refine ⟨by decide, by decide, by decide, ?_⟩
    conv => whnf
    intro X hX
    have go : ∀ (d i : Nat), i + d = min 4 s.size → ∀ L, L = keyB s i → frK (kfr 39 [(0, .i (.str s)), (3, .one (.sl 0 0 32)), (4, .i (.int .i64 (i : Int)))] [.vec 1 (eb L) false]) X := by
      intro d
      induction d with
      | zero =>
        intro i hi L hL
        have hl : (eb L).length = 32 := by rw [eb_len, hL, keyB_len]
        conv => whnf
        apply hX
        conv => whnf
        by_cases c : i < s.size
        · rw [decide_eq_true (show (i : Int) < (s.size : Int) by omega)]
          conv => whnf
          rw [decide_eq_false (show ¬ ((i : Int) < 4) by omega)]
          conv => whnf
          refine ⟨mkB L, ?_, ?_⟩
          · rw [List.drop_zero, List.take_of_length_le (by omega), eb_mkB _ (by rw [hL]; exact keyB_lt s _)]
          · conv => whnf
            exact hk _ (by rw [hL, show i = min 4 s.size by omega])
        · rw [decide_eq_false (show ¬ ((i : Int) < (s.size : Int)) by omega)]
          conv => whnf
          refine ⟨mkB L, ?_, ?_⟩
          · rw [List.drop_zero, List.take_of_length_le (by omega), eb_mkB _ (by rw [hL]; exact keyB_lt s _)]
          · conv => whnf
            exact hk _ (by rw [hL, show i = min 4 s.size by omega])
      | succ d ih =>
        intro i hi L hL
        have hl : (eb L).length = 32 := by rw [eb_len, hL, keyB_len]
        conv => whnf
        apply hX
        conv => whnf
        rw [decide_eq_true (show (i : Int) < (s.size : Int) by omega)]
        conv => whnf
        rw [decide_eq_true (show (i : Int) < 4 by omega)]
        conv => whnf
        rw [show (8 : Int) * (i : Int) = ((8 * i : Nat) : Int) by omega, i64n _ (by omega)]
        refine ⟨by omega, by omega, ?_⟩
        conv => whnf
        refine ⟨by omega, by omega, ?_⟩
        conv => whnf
        rw [show 0 + (((8 * i : Nat) : Int)).toNat = 8 * i by omega]
        refine ⟨Nat.one_pos, _, eb_get _ (8 * i) _ (List.getElem?_eq_getElem (by rw [hL, keyB_len]; omega)), Nat.le_refl 1, ?_⟩
        conv => whnf
        rw [show (8 : Int) * (i : Int) = ((8 * i : Nat) : Int) by omega, i64n _ (by omega), show ((8 * i : Nat) : Int) + 7 = ((8 * i + 7 : Nat) : Int) by omega, i64n _ (by omega)]
        refine ⟨by omega, by omega, ?_⟩
        conv => whnf
        refine ⟨by decide, ?_⟩
        conv => whnf
        refine ⟨by omega, by omega, ?_⟩
        conv => whnf
        rw [show 0 + (((8 * i + 7 : Nat) : Int)).toNat = 8 * i + 7 by omega]
        have hLl : L.length = 32 := by rw [hL, keyB_len]
        have hg2 : ((eb L).set (8 * i) [IV.int .u8 (byteN s i : Int)])[8 * i + 7]? = some [IV.int .u8 ((L[8 * i + 7]'(by omega) : Nat) : Int)] := by
          rw [eb_set]
          exact eb_get _ _ _ (by rw [List.getElem?_set_ne (by omega)]; exact List.getElem?_eq_getElem (by omega))
        have e4 : (sb s ((i : Int)).toNat).fdiv (2 ^ min (Int.toNat 4) IntKind.u8.bits) = ((byteN s i / 16 : Nat) : Int) := by
          show ((byteN s i : Nat) : Int).fdiv 16 = _
          rw [Int.fdiv_eq_ediv_of_nonneg _ (by decide)]; omega
        rw [e4]
        refine ⟨Nat.one_pos, _, hg2, Nat.le_refl 1, ?_⟩
        conv => whnf
        have hn := ih (i + 1) (by omega) (keyB s (i + 1)) rfl
        rw [← keyB_step s i (by omega), ← hL, ← eb_set, ← eb_set] at hn
        rw [show (i : Int) + 1 = ((i + 1 : Nat) : Int) by omega, i64n _ (by omega)]
        exact hn
    have g0 := go (min 4 s.size) 0 (by omega) _ rfl
    rw [keyB_zero s] at g0
    exact g0
end Go.Proofs.YtkpmcdfmdfoheaaDoor

namespace Go.Proofs.YtkpmcdfmdfoheaaDoor
open Go Go.Abs
set_option maxRecDepth 100000 in
theorem c_awake (K) (hk : K (.i (.bool true)) []) : SP 10 [] [] K := by
  have k1 := fun K hk => c_Key akA (by decide) K hk
  have k2 := fun K hk => c_Key akB (by decide) K hk
  rw [lawKey_a] at k1
  rw [lawKey_b] at k2
  have p1 := fun K hk => c_Put .nil trivial (by decide) ba av1 rfl (by decide) K hk
  have p2 := fun K hk => c_Put (.leaf ba av1) ⟨rfl, by decide⟩ (by decide) bb av2 rfl (by decide) K hk
  have e1 : (T.put ba av1 .nil).1 = .leaf ba av1 := rfl
  rw [e1] at p1
  rw [put_b] at p2
  have g1 := fun K hk => c_Get at2 at2_good ba rfl K hk
  rw [get_a] at g1
  have d1 := fun K hk => c_Del at2 at2_good (by decide) ba rfl K hk
  have d2 := fun K hk => c_Del (.leaf bb av2) ⟨rfl, by decide⟩ (by decide) bb rfl K hk
  rw [drop_a] at d1
  rw [drop_b] at d2
  have l1 := fun K hk => c_Len at2 K hk
  have l2 := fun K hk => c_Len .nil K hk
  have r1 := fun K hk => c_Root at2 K hk
  have r2 := fun K hk => c_Root .nil K hk
  have hne := at2_ne
  have rc := r1
  rw [at2_hash] at rc
  have e5 : (⟨awfo.toArray⟩ : ByteArray) = ⟨#[39, 233, 241, 188, 12, 214, 46, 60, 107, 197, 86, 151, 1, 210, 204, 170, 170, 216, 85, 33, 195, 242, 40, 20, 156, 245, 67, 8, 78, 234, 115, 51]⟩ := rfl
  rw [e5] at rc
  have e0 : T.nil.hash = zero32 := rfl
  rw [e0] at r2
  have n0 := fun K hk => c_New K hk
  have el : (at2.pairs.length : Int) = 2 := rfl
  have el0 : (T.nil.pairs.length : Int) = 0 := rfl
  rw [el] at l1
  rw [el0] at l2
  simp only [getR] at g1
  have g1 : ∀ K : AV → List Blk → Prop, (∀ v, v = av1 → K (.tup [.i (.str v), .i (.bool true)]) []) → SP 18 [.i (tr at2), .i (.str ba)] [] K := fun K hk => g1 K fun u hu => hu ▸ hk av1 rfl
  have x1 : akA = ⟨#[97]⟩ := rfl
  have x2 : akB = ⟨#[98]⟩ := rfl
  have x3 : av1 = ⟨#[49]⟩ := rfl
  have x4 : av2 = ⟨#[50]⟩ := rfl
  simp only [] at p2 d1 d2
  generalize tr .nil = t0 at p1 d2 l2 r2 n0
  generalize tr (.leaf ba av1) = ta at p1 p2
  generalize tr at2 = tab at p2 g1 d1 l1 r1 rc
  generalize tr (.leaf bb av2) = tb at d1 d2
  generalize at2.hash = h at r1 hne
  generalize zero32 = z at r2 hne
  rw [x1] at k1
  rw [x2] at k2
  rw [x3] at p1 g1
  rw [x4] at p2
  clear x1 x2 x3 x4
  generalize ba = ka at k1 p1 g1 d1
  generalize bb = kb at k2 p2 d2
  refine mk {} (fn := Tryd.f10) Tryd.func10 (by kernel_rfl) (by kernel_rfl) (Nat.le_of_ble_eq_true (Eq.refl true)) fun S hS => ?_
  conv => whnf
  refine hS _ _ _ _ <| n0 _ ?_
  conv => whnf
  refine hS _ _ _ _ <| k1 _ fun r hr => ?_
  subst hr
  conv => whnf
  refine hS _ _ _ _ <| p1 _ fun r hr => ?_
  subst hr
  conv => whnf
  refine hS _ _ _ _ <| k2 _ fun r hr => ?_
  subst hr
  conv => whnf
  refine hS _ _ _ _ <| p2 _ fun r hr => ?_
  subst hr
  conv => whnf
  refine hS _ _ _ _ <| k1 _ fun r hr => ?_
  subst hr
  conv => whnf
  refine hS _ _ _ _ <| g1 _ fun v hv => ?_
  conv => whnf
  refine hS _ _ _ _ <| k1 _ fun r hr => ?_
  subst hr
  conv => whnf
  refine hS _ _ _ _ <| d1 _ fun r hr => ?_
  subst hr
  conv => whnf
  refine hS _ _ _ _ <| k2 _ fun r hr => ?_
  subst hr
  conv => whnf
  refine hS _ _ _ _ <| d2 _ fun r hr => ?_
  subst hr
  conv => whnf
  rw [beq_ba, decide_eq_true hv]
  conv => whnf
  refine hS _ _ _ _ <| l1 _ ?_
  conv => whnf
  refine hS _ _ _ _ <| l2 _ ?_
  conv => whnf
  refine hS _ _ _ _ <| rc _ ?_
  try rw [aNext_eq]
  refine aOps_hide 4 fun KK hKK => ?_
  conv => whnf
  refine hKK _ ?_
  conv => whnf
  refine hS _ _ _ _ <| r1 _ ?_
  try rw [aNext_eq]
  refine aOps_hide 1 fun KK hKK => ?_
  conv => whnf
  refine hKK _ ?_
  conv => whnf
  refine hS _ _ _ _ <| r2 _ ?_
  try rw [aNext_eq]
  refine aOps_hide 3 fun KK hKK => ?_
  conv => whnf
  rw [beq_ba, decide_eq_false hne]
  refine hKK _ ?_
  conv => whnf
  refine hS _ _ _ _ <| r2 _ ?_
  conv => whnf
  refine hS _ _ _ _ <| n0 _ ?_
  conv => whnf
  refine hS _ _ _ _ <| r2 _ ?_
  conv => whnf
  rw [beq_ba, decide_eq_true rfl]
  conv => whnf
  exact hk
end Go.Proofs.YtkpmcdfmdfoheaaDoor
