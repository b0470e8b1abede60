/- A part of the proof of a seat of parts: C6. -/
import Derived.Test.YtmfilaagpobmbaaGreatDoorC4
set_option linter.all false
namespace Go.Proofs.YtmfilaagpobmbaaGreatDoor
open Go Go.Abs
set_option maxRecDepth 100000 in
set_option maxHeartbeats 4000000 in
theorem c_block_a (x : S8) (s : ByteArray) (hs : s.size = 64) (K) (hk : ∀ y, y = x.blk s → K (.i (.lst y.el)) [.vec 1 x.el false]) : SP 114 [.one (.sl 0 0 8), .i (.str s), .i (.lst (e1 kW))] [.vec 1 x.el false] K := by
  have hkl : kW.length = 64 := rfl
  revert hkl
  have hkw : ∀ t, (rnd s x (t + 1)) = (rnd s x t).round (kW.getD t 0 + (wsz s 48).getD t 0) := fun t => rfl
  revert hkw
  generalize kW = kw
  intro hkw hkl
  refine mk {keep := [(3, [0,1,2,7,8]), (13, [0,2,7,11,12]), (26, [0,11,18])], inc := 1} (fn := Tryz.f114) Tryz.func114 (by kernel_rfl) (by kernel_rfl) (Nat.le_of_ble_eq_true (Eq.refl true)) fun S hS => ?_
  conv => whnf
  refine ⟨by decide, by decide, by decide, ?_⟩
  conv => whnf
  intro X hX
  have key : ∀ (d i : Nat), i + d = 64 → frK (kfr 193 [(0, .one (.sl 0 0 8)), (1, .i (.str s)), (2, .i (.lst (e1 kw))), (7, .one (.sl 1 0 64)), (8, .i (.int .i64 (i : Int)))] [.vec 1 x.el false, .vec 1 (e1 (wf s i)) false]) X := by
    intro d
    induction d with
    | zero =>
      intro i hi
      obtain rfl : i = 64 := hi
      have hwl := wf_len s 64 (by omega)
      rw [wf_hi s 48] at hwl ⊢
      have hr : ∀ t, t < 64 → (rnd s x (t + 1)) = (rnd s x t).round (kw.getD t 0 + (wsz s 48).getD t 0) := fun t _ => hkw t
      revert hr hwl
      generalize wsz s 48 = wl
      intro hwl hr
      conv => whnf
      apply hX
      conv => whnf
      refine ⟨by decide, by decide, by decide, ?_⟩
      conv => whnf
      clear hX
      intro Y hY
      have key2 : ∀ (d t : Nat), t + d = 64 → frK (kfr 193 [(0, .one (.sl 0 0 8)), (2, .i (.lst (e1 kw))), (7, .one (.sl 1 0 64)), (11, .one (.sl 2 0 8)), (12, .i (.int .i64 (t : Int)))] [.vec 1 x.el false, .vec 1 (e1 wl) false, .vec 1 (rnd s x t).el false]) Y := by
        intro d
        induction d with
        | zero =>
          intro t ht
          obtain rfl : t = 64 := ht
          have hk := hk _ rfl
          unfold S8.blk at hk
          revert hk
          generalize rnd s x 64 = y
          intro hk
          conv => whnf
          apply hY
          conv => whnf
          intro Z hZ
          apply hZ
          conv => whnf
          refine ⟨by decide, by decide, ?_⟩
          conv => whnf
          refine ⟨_, rfl, ?_⟩
          conv => whnf
          refine ⟨by decide, by decide, ?_⟩
          conv => whnf
          refine ⟨_, rfl, ?_⟩
          conv => whnf
          rw [w_add]
          refine ⟨by decide, by decide, ?_⟩
          conv => whnf
          refine ⟨Nat.one_pos, _, rfl, Nat.le_refl 1, ?_⟩
          conv => whnf
          apply hZ
          conv => whnf
          refine ⟨by decide, by decide, ?_⟩
          conv => whnf
          refine ⟨_, rfl, ?_⟩
          conv => whnf
          refine ⟨by decide, by decide, ?_⟩
          conv => whnf
          refine ⟨_, rfl, ?_⟩
          conv => whnf
          rw [w_add]
          refine ⟨by decide, by decide, ?_⟩
          conv => whnf
          refine ⟨Nat.one_pos, _, rfl, Nat.le_refl 1, ?_⟩
          conv => whnf
          apply hZ
          conv => whnf
          refine ⟨by decide, by decide, ?_⟩
          conv => whnf
          refine ⟨_, rfl, ?_⟩
          conv => whnf
          refine ⟨by decide, by decide, ?_⟩
          conv => whnf
          refine ⟨_, rfl, ?_⟩
          conv => whnf
          rw [w_add]
          refine ⟨by decide, by decide, ?_⟩
          conv => whnf
          refine ⟨Nat.one_pos, _, rfl, Nat.le_refl 1, ?_⟩
          conv => whnf
          apply hZ
          conv => whnf
          refine ⟨by decide, by decide, ?_⟩
          conv => whnf
          refine ⟨_, rfl, ?_⟩
          conv => whnf
          refine ⟨by decide, by decide, ?_⟩
          conv => whnf
          refine ⟨_, rfl, ?_⟩
          conv => whnf
          rw [w_add]
          refine ⟨by decide, by decide, ?_⟩
          conv => whnf
          refine ⟨Nat.one_pos, _, rfl, Nat.le_refl 1, ?_⟩
          conv => whnf
          apply hZ
          conv => whnf
          refine ⟨by decide, by decide, ?_⟩
          conv => whnf
          refine ⟨_, rfl, ?_⟩
          conv => whnf
          refine ⟨by decide, by decide, ?_⟩
          conv => whnf
          refine ⟨_, rfl, ?_⟩
          conv => whnf
          rw [w_add]
          refine ⟨by decide, by decide, ?_⟩
          conv => whnf
          refine ⟨Nat.one_pos, _, rfl, Nat.le_refl 1, ?_⟩
          conv => whnf
          apply hZ
          conv => whnf
          refine ⟨by decide, by decide, ?_⟩
          conv => whnf
          refine ⟨_, rfl, ?_⟩
          conv => whnf
          refine ⟨by decide, by decide, ?_⟩
          conv => whnf
          refine ⟨_, rfl, ?_⟩
          conv => whnf
          rw [w_add]
          refine ⟨by decide, by decide, ?_⟩
          conv => whnf
          refine ⟨Nat.one_pos, _, rfl, Nat.le_refl 1, ?_⟩
          conv => whnf
          apply hZ
          conv => whnf
          refine ⟨by decide, by decide, ?_⟩
          conv => whnf
          refine ⟨_, rfl, ?_⟩
          conv => whnf
          refine ⟨by decide, by decide, ?_⟩
          conv => whnf
          refine ⟨_, rfl, ?_⟩
          conv => whnf
          rw [w_add]
          refine ⟨by decide, by decide, ?_⟩
          conv => whnf
          refine ⟨Nat.one_pos, _, rfl, Nat.le_refl 1, ?_⟩
          conv => whnf
          apply hZ
          conv => whnf
          refine ⟨by decide, by decide, ?_⟩
          conv => whnf
          refine ⟨_, rfl, ?_⟩
          conv => whnf
          refine ⟨by decide, by decide, ?_⟩
          conv => whnf
          refine ⟨_, rfl, ?_⟩
          conv => whnf
          rw [w_add]
          refine ⟨by decide, by decide, ?_⟩
          conv => whnf
          refine ⟨Nat.one_pos, _, rfl, Nat.le_refl 1, ?_⟩
          conv => whnf
          apply hZ
          conv => whnf
          have hc : x.plus y = y.plus x := by simp only [S8.plus, BitVec.add_comm]
          rw [hc] at hk
          exact hk
        | succ d ihd =>
          intro t ht
          have ihd := ihd (t + 1) (by omega)
          rw [hr t (by omega)] at ihd
          revert ihd
          generalize rnd s x t = y
          intro ihd
          conv => whnf
          apply hY
          conv => whnf
          rw [decide_eq_true (show (t : Int) < 64 by omega)]
          conv => whnf
          refine ⟨by decide, by decide, ?_⟩
          conv => whnf
          refine ⟨_, rfl, ?_⟩
          conv => whnf
          refine ⟨by decide, by decide, ?_⟩
          conv => whnf
          refine ⟨_, rfl, ?_⟩
          conv => whnf
          refine ⟨by decide, by decide, ?_⟩
          conv => whnf
          refine ⟨_, rfl, ?_⟩
          conv => whnf
          refine ⟨.i (w32 (rot y.e 6)), hS _ _ _ _ <| c_bits y.e 6 (by decide) _ ⟨rfl, rfl⟩, rfl, ?_⟩
          conv => whnf
          refine ⟨.i (w32 (rot y.e 11)), hS _ _ _ _ <| c_bits y.e 11 (by decide) _ ⟨rfl, rfl⟩, rfl, ?_⟩
          conv => whnf
          rw [w_xor]
          refine ⟨.i (w32 (rot y.e 25)), hS _ _ _ _ <| c_bits y.e 25 (by decide) _ ⟨rfl, rfl⟩, rfl, ?_⟩
          conv => whnf
          rw [w_xor, w_add]
          refine ⟨by decide, by decide, ?_⟩
          conv => whnf
          refine ⟨_, rfl, ?_⟩
          conv => whnf
          refine ⟨by decide, by decide, ?_⟩
          conv => whnf
          refine ⟨_, rfl, ?_⟩
          conv => whnf
          rw [w_not', w_and, w_and, w_xor, w_add]
          refine ⟨_, by omega, e1_get _ _ _ (show kw[((t : Int)).toNat]? = some (kw.getD t 0) by rw [List.getD, Int.toNat_natCast, List.getElem?_eq_getElem (by omega)]; rfl), rfl, ?_⟩
          conv => whnf
          rw [w_add]
          refine ⟨by omega, by omega, ?_⟩
          conv => whnf
          rw [show 0 + ((t : Int)).toNat = t by omega]
          refine ⟨_, e1_get _ _ _ (show wl[t]? = some (wl.getD t 0) by rw [List.getD, List.getElem?_eq_getElem (by omega)]; rfl), ?_⟩
          conv => whnf
          rw [w_add]
          refine ⟨.i (w32 (rot y.a 2)), hS _ _ _ _ <| c_bits y.a 2 (by decide) _ ⟨rfl, rfl⟩, rfl, ?_⟩
          conv => whnf
          refine ⟨.i (w32 (rot y.a 13)), hS _ _ _ _ <| c_bits y.a 13 (by decide) _ ⟨rfl, rfl⟩, rfl, ?_⟩
          conv => whnf
          rw [w_xor]
          refine ⟨.i (w32 (rot y.a 22)), hS _ _ _ _ <| c_bits y.a 22 (by decide) _ ⟨rfl, rfl⟩, rfl, ?_⟩
          conv => whnf
          rw [w_xor]
          refine ⟨by decide, by decide, ?_⟩
          conv => whnf
          refine ⟨_, rfl, ?_⟩
          conv => whnf
          rw [w_and]
          refine ⟨by decide, by decide, ?_⟩
          conv => whnf
          refine ⟨_, rfl, ?_⟩
          conv => whnf
          rw [w_and, w_xor]
          refine ⟨by decide, by decide, ?_⟩
          conv => whnf
          refine ⟨_, rfl, ?_⟩
          conv => whnf
          refine ⟨by decide, by decide, ?_⟩
          conv => whnf
          refine ⟨_, rfl, ?_⟩
          conv => whnf
          rw [w_and, w_xor, w_add]
          intro Z hZ
          apply hZ
          conv => whnf
          refine ⟨by decide, by decide, ?_⟩
          conv => whnf
          refine ⟨_, rfl, ?_⟩
          conv => whnf
          refine ⟨by decide, by decide, ?_⟩
          conv => whnf
          refine ⟨Nat.one_pos, _, rfl, Nat.le_refl 1, ?_⟩
          conv => whnf
          apply hZ
          conv => whnf
          refine ⟨by decide, by decide, ?_⟩
          conv => whnf
          refine ⟨_, rfl, ?_⟩
          conv => whnf
          refine ⟨by decide, by decide, ?_⟩
          conv => whnf
          refine ⟨Nat.one_pos, _, rfl, Nat.le_refl 1, ?_⟩
          conv => whnf
          apply hZ
          conv => whnf
          refine ⟨by decide, by decide, ?_⟩
          conv => whnf
          refine ⟨_, rfl, ?_⟩
          conv => whnf
          refine ⟨by decide, by decide, ?_⟩
          conv => whnf
          refine ⟨Nat.one_pos, _, rfl, Nat.le_refl 1, ?_⟩
          conv => whnf
          apply hZ
          conv => whnf
          refine ⟨by decide, by decide, ?_⟩
          conv => whnf
          refine ⟨_, rfl, ?_⟩
          conv => whnf
          refine ⟨by decide, by decide, ?_⟩
          conv => whnf
          refine ⟨Nat.one_pos, _, rfl, Nat.le_refl 1, ?_⟩
          conv => whnf
          apply hZ
          conv => whnf
          refine ⟨by decide, by decide, ?_⟩
          conv => whnf
          refine ⟨_, rfl, ?_⟩
          conv => whnf
          refine ⟨by decide, by decide, ?_⟩
          conv => whnf
          refine ⟨Nat.one_pos, _, rfl, Nat.le_refl 1, ?_⟩
          conv => whnf
          apply hZ
          conv => whnf
          refine ⟨by decide, by decide, ?_⟩
          conv => whnf
          refine ⟨_, rfl, ?_⟩
          conv => whnf
          refine ⟨by decide, by decide, ?_⟩
          conv => whnf
          refine ⟨Nat.one_pos, _, rfl, Nat.le_refl 1, ?_⟩
          conv => whnf
          apply hZ
          conv => whnf
          refine ⟨by decide, by decide, ?_⟩
          conv => whnf
          refine ⟨_, rfl, ?_⟩
          conv => whnf
          refine ⟨by decide, by decide, ?_⟩
          conv => whnf
          refine ⟨Nat.one_pos, _, rfl, Nat.le_refl 1, ?_⟩
          conv => whnf
          apply hZ
          conv => whnf
          refine ⟨by decide, by decide, ?_⟩
          conv => whnf
          refine ⟨_, rfl, ?_⟩
          conv => whnf
          rw [w_add]
          refine ⟨by decide, by decide, ?_⟩
          conv => whnf
          refine ⟨Nat.one_pos, _, rfl, Nat.le_refl 1, ?_⟩
          conv => whnf
          rw [w_add]
          refine ⟨by decide, by decide, ?_⟩
          conv => whnf
          refine ⟨Nat.one_pos, _, rfl, Nat.le_refl 1, ?_⟩
          conv => whnf
          rw [show (t : Int) + 1 = ((t + 1 : Nat) : Int) by omega, i64n _ (by omega)]
          have hone : y.one (kw.getD t 0 + wl.getD t 0) = y.h + (rot y.e 6 ^^^ rot y.e 11 ^^^ rot y.e 25) + ((y.e &&& y.f) ^^^ (~~~y.e &&& y.g)) + kw.getD t 0 + wl.getD t 0 := by
            simp only [S8.one, three, BitVec.add_assoc]
          unfold S8.round at ihd
          rw [hone] at ihd
          exact ihd
      exact key2 64 0 rfl
    | succ d ih =>
      intro i hi
      have hlen := wf_len s i (by omega)
      conv => whnf
      apply hX
      conv => whnf
      rw [decide_eq_true (show (i : Int) < 64 by omega)]
      conv => whnf
      by_cases h16 : i < 16
      · rw [decide_eq_true (show (i : Int) < 16 by omega)]
        conv => whnf
        rw [show (4 : Int) * (i : Int) = ((4 * i : Nat) : Int) by omega, i64n _ (by omega)]
        refine hS _ _ _ _ <| c_number s i (by omega) (by omega) _ ?_
        conv => whnf
        refine ⟨by omega, by omega, ?_⟩
        conv => whnf
        rw [show 0 + ((i : Int)).toNat = i by omega]
        obtain ⟨c, hc⟩ : ∃ c, (wf s i)[i]? = some c := ⟨_, List.getElem?_eq_getElem (by omega)⟩
        refine ⟨Nat.one_pos, _, e1_get _ _ _ hc, Nat.le_refl 1, ?_⟩
        conv => whnf
        have e : ∀ w : W, (e1 (wf s i)).set i (splice [w32 c] 0 [w32 w]) = e1 ((wf s i).set i w) := fun w => e1_set _ _ _
        rw [e, wf_lo s i h16, show (i : Int) + 1 = ((i + 1 : Nat) : Int) by omega, i64n _ (by omega)]
        exact ih (i + 1) (by omega)
      · rw [decide_eq_false (show ¬ ((i : Int) < 16) by omega)]
        conv => whnf
        obtain ⟨n, rfl⟩ : ∃ n, i = n + 16 := ⟨i - 16, by omega⟩
        have ih := ih (n + 16 + 1) (by omega)
        rw [show n + 16 + 1 = (n + 1) + 16 by omega, wf_hi, ← wsz_step s n (by omega)] at ih
        simp only [wf_hi] at hlen ⊢
        rw [show ((n + 16 : Nat) : Int) - 15 = ((n + 1 : Nat) : Int) by omega, i64n _ (by omega)]
        refine ⟨by omega, by omega, ?_⟩
        conv => whnf
        rw [show 0 + (((n + 1 : Nat) : Int)).toNat = n + 1 by omega]
        refine ⟨_, e1_get _ _ _ (wsz_get s n (n + 1) (by omega)), ?_⟩
        conv => whnf
        rw [show ((n + 16 : Nat) : Int) - 2 = ((n + 14 : Nat) : Int) by omega, i64n _ (by omega)]
        refine ⟨by omega, by omega, ?_⟩
        conv => whnf
        rw [show 0 + (((n + 14 : Nat) : Int)).toNat = n + 14 by omega]
        refine ⟨_, e1_get _ _ _ (wsz_get s n (n + 14) (by omega)), ?_⟩
        conv => whnf
        rw [show ((n + 16 : Nat) : Int) - 16 = ((n : Nat) : Int) by omega, i64n _ (by omega)]
        refine ⟨by omega, by omega, ?_⟩
        conv => whnf
        rw [show 0 + (((n : Nat) : Int)).toNat = n by omega]
        refine ⟨_, e1_get _ _ _ (wsz_get s n n (by omega)), ?_⟩
        conv => whnf
        refine ⟨.i (w32 (rot ((ws s n).getD (n + 1) 0) 7)), hS _ _ _ _ <| c_bits _ 7 (by decide) _ ⟨rfl, rfl⟩, rfl, ?_⟩
        conv => whnf
        refine ⟨.i (w32 (rot ((ws s n).getD (n + 1) 0) 18)), hS _ _ _ _ <| c_bits _ 18 (by decide) _ ⟨rfl, rfl⟩, rfl, ?_⟩
        conv => whnf
        refine ⟨by decide, ?_⟩
        conv => whnf
        rw [show min (Int.toNat 3) IntKind.u32.bits = 3 from rfl, w_shr, w_xor, w_xor, w_add]
        rw [show ((n + 16 : Nat) : Int) - 7 = ((n + 9 : Nat) : Int) by omega, i64n _ (by omega)]
        refine ⟨by omega, by omega, ?_⟩
        conv => whnf
        rw [show 0 + (((n + 9 : Nat) : Int)).toNat = n + 9 by omega]
        refine ⟨_, e1_get _ _ _ (wsz_get s n (n + 9) (by omega)), ?_⟩
        conv => whnf
        rw [w_add]
        refine ⟨.i (w32 (rot ((ws s n).getD (n + 14) 0) 17)), hS _ _ _ _ <| c_bits _ 17 (by decide) _ ⟨rfl, rfl⟩, rfl, ?_⟩
        conv => whnf
        refine ⟨.i (w32 (rot ((ws s n).getD (n + 14) 0) 19)), hS _ _ _ _ <| c_bits _ 19 (by decide) _ ⟨rfl, rfl⟩, rfl, ?_⟩
        conv => whnf
        refine ⟨by decide, ?_⟩
        conv => whnf
        rw [show min (Int.toNat 10) IntKind.u32.bits = 10 from rfl, w_shr, w_xor, w_xor, w_add]
        refine ⟨by omega, by omega, ?_⟩
        conv => whnf
        rw [show 0 + (((n + 16 : Nat) : Int)).toNat = n + 16 by omega]
        obtain ⟨c, hc⟩ : ∃ c, (wsz s n)[n + 16]? = some c := ⟨_, List.getElem?_eq_getElem (by omega)⟩
        refine ⟨Nat.one_pos, _, e1_get _ _ _ hc, Nat.le_refl 1, ?_⟩
        conv => whnf
        have e : ∀ w : W, (e1 (wsz s n)).set (n + 16) (splice [w32 c] 0 [w32 w]) = e1 ((wsz s n).set (n + 16) w) := fun w => e1_set _ _ _
        rw [e, show ((n + 16 : Nat) : Int) + 1 = ((n + 1 + 16 : Nat) : Int) by omega, i64n _ (by omega)]
        exact ih
  exact key 64 0 rfl
end Go.Proofs.YtmfilaagpobmbaaGreatDoor
