/- A part of the proof of a seat of parts: C3a, C3. -/
import Derived.Test.YtmfilaagpobmbaaGreatDoorC1
set_option linter.all false
namespace Go.Proofs.YtmfilaagpobmbaaGreatDoor
open Go Go.Abs
set_option maxRecDepth 100000 in
theorem c_behind (n : Nat) (hn : n < 1099511627776) (K) (hk : K (.i (.str (behind n))) []) : SP 131 [.i (.int .i64 (n : Int))] [] K := by
  refine mk {keep := [(4, [0,4,13])]} (fn := Tryz.f131) Tryz.func131 (by kernel_rfl) (by kernel_rfl) (Nat.le_of_ble_eq_true (Eq.refl true)) fun S hS => ?_
  conv => whnf
  refine ⟨by decide, ?_⟩
  conv => whnf
  refine ⟨by decide, ?_⟩
  conv => whnf
  rw [zeros_num]
  refine hS _ _ _ _ <| c_Repeat ⟨#[0]⟩ ((119 - n % 64) % 64) (by show 1 * _ < _; omega) (by omega) _ ?_
  conv => whnf
  have h0 : (⟨#[128]⟩ : ByteArray) ++ ⟨(rep [0] ((119 - n % 64) % 64)).toArray⟩ = bh n 0 := by
    apply ba_ext
    have : ∀ k, rep [0] k = List.replicate k 0 := fun k => by induction k with | zero => rfl | succ k ih => simp only [rep] at ih ⊢; simp [Lib.repeatL, ih, List.replicate_succ]
    simp [bh, this]
  have h1 := bh_size n 0 (by omega)
  rw [← h0, ByteArray.size_append] at h1
  refine ⟨by show ByteArray.size ⟨#[128]⟩ + ByteArray.size ⟨(rep [0] ((119 - n % 64) % 64)).toArray⟩ ≤ _; omega, ?_⟩
  conv => whnf
  intro X hX
  have key : ∀ (d k : Nat), k + d = 8 → frK (kfr 30 [(0, .i (.int .i64 (n : Int))), (4, .i (.str (bh n k))), (13, .i (.int .i64 (k : Int)))] []) X := by
    intro d
    induction d with
    | zero =>
      intro k hk2
      obtain rfl : k = 8 := hk2
      conv => whnf
      apply hX
      conv => whnf
      rw [bh_full]
      exact hk
    | succ d ih =>
      intro k hk2
      conv => whnf
      apply hX
      conv => whnf
      rw [decide_eq_true (show (k : Int) < 8 by omega)]
      conv => whnf
      rw [show (8 : Int) * (k : Int) = ((8 * k : Nat) : Int) by omega, i64n _ (by omega), show (56 : Int) - ((8 * k : Nat) : Int) = ((56 - 8 * k : Nat) : Int) by omega, i64n _ (by omega)]
      refine ⟨by omega, ?_⟩
      conv => whnf
      have e1 : IntKind.u64.wrap (n : Int) = n := by rw [wrap64u]; omega
      have e2 : IntKind.u64.wrap (8 * (n : Int)) = ((8 * n : Nat) : Int) := by rw [wrap64u]; omega
      have e3 : min (((56 - 8 * k : Nat) : Int).toNat) IntKind.u64.bits = 56 - 8 * k := by simp only [IntKind.bits]; omega
      have e4 : (((8 * n : Nat) : Int)).fdiv (2 ^ (56 - 8 * k)) = ((8 * n / 2 ^ (56 - 8 * k) : Nat) : Int) := by
        rw [Int.fdiv_eq_ediv_of_nonneg _ (Int.pow_nonneg (by omega))]; simp
      rw [e1, e2, e3, e4, byIV]
      refine ⟨⟨#[UInt8.ofNat (8 * n / 2 ^ (56 - 8 * k))]⟩, rfl, ?_⟩
      conv => whnf
      have h1 := bh_size n k (by omega)
      refine ⟨by show (bh n k).size + 1 ≤ _; omega, ?_⟩
      conv => whnf
      rw [bh_step n k (by omega), show (k : Int) + 1 = ((k + 1 : Nat) : Int) by omega, i64n _ (by omega)]
      exact ih (k + 1) (by omega)
  rw [h0]
  exact key 8 0 rfl
end Go.Proofs.YtmfilaagpobmbaaGreatDoor

namespace Go.Proofs.YtmfilaagpobmbaaGreatDoor
open Go Go.Abs
set_option maxRecDepth 100000 in
set_option maxHeartbeats 2000000 in
theorem c_Sum (b : ByteArray) (hb : b.size < 1099511627776) (Q) (hq : ∀ r, r = sha b → Q (.i (.str r)) []) : SP 121 [.i (.str b)] [] Q := by
  refine mk {keep := [(3, [0,3]), (7, [0,3,4,23,24])]} (fn := Tryz.f121) Tryz.func121 (by kernel_rfl) (by kernel_rfl) (Nat.le_of_ble_eq_true (Eq.refl true)) fun S hS => ?_
  conv => whnf
  refine hS _ _ _ _ <| c_behind b.size (by omega) _ ?_
  conv => whnf
  have hp := padded_lt b
  unfold padded at hp
  rw [ByteArray.size_append] at hp
  refine ⟨by omega, ?_⟩
  conv => whnf
  intro X hX
  have key : ∀ (n : Nat) (x : S8) (t : ByteArray), t.size = 64 * n → (Q (.i (.str (runs n x t).out)) []) → frK (kfr 78 [(0, .i (.str t)), (3, .one (.ref 0 0))] [.cells (x.iv.map .imm) none]) X := by
    intro n
    induction n with
    | zero =>
      intro x t ht hq
      simp only [runs] at hq
      have he : t = ⟨#[]⟩ := by
        apply ba_ext
        have h2 : t.data.toList.length = 0 := by simpa using ht
        rw [List.eq_nil_of_length_eq_zero h2]
      conv => whnf
      apply hX
      conv => whnf
      rw [beq_ba, decide_eq_true he]
      conv => whnf
      clear hX
      intro X hX
      apply hX
      conv => whnf
      refine ⟨by decide, by decide, ?_⟩
      conv => whnf
      refine ⟨_, rfl, ?_⟩
      conv => whnf
      refine ⟨by decide, ?_⟩
      conv => whnf
      refine ⟨by decide, ?_⟩
      conv => whnf
      refine ⟨by decide, ?_⟩
      conv => whnf
      refine ⟨Nat.le_of_ble_eq_true (Eq.refl true), ?_⟩
      conv => whnf
      apply hX
      conv => whnf
      refine ⟨by decide, by decide, ?_⟩
      conv => whnf
      refine ⟨_, rfl, ?_⟩
      conv => whnf
      refine ⟨by decide, ?_⟩
      conv => whnf
      refine ⟨by decide, ?_⟩
      conv => whnf
      refine ⟨by decide, ?_⟩
      conv => whnf
      refine ⟨rfl, Nat.le_of_ble_eq_true (Eq.refl true), ?_⟩
      conv => whnf
      apply hX
      conv => whnf
      refine ⟨by decide, by decide, ?_⟩
      conv => whnf
      refine ⟨_, rfl, ?_⟩
      conv => whnf
      refine ⟨by decide, ?_⟩
      conv => whnf
      refine ⟨by decide, ?_⟩
      conv => whnf
      refine ⟨by decide, ?_⟩
      conv => whnf
      refine ⟨rfl, Nat.le_of_ble_eq_true (Eq.refl true), ?_⟩
      conv => whnf
      apply hX
      conv => whnf
      refine ⟨by decide, by decide, ?_⟩
      conv => whnf
      refine ⟨_, rfl, ?_⟩
      conv => whnf
      refine ⟨by decide, ?_⟩
      conv => whnf
      refine ⟨by decide, ?_⟩
      conv => whnf
      refine ⟨by decide, ?_⟩
      conv => whnf
      refine ⟨rfl, Nat.le_of_ble_eq_true (Eq.refl true), ?_⟩
      conv => whnf
      apply hX
      conv => whnf
      refine ⟨by decide, by decide, ?_⟩
      conv => whnf
      refine ⟨_, rfl, ?_⟩
      conv => whnf
      refine ⟨by decide, ?_⟩
      conv => whnf
      refine ⟨by decide, ?_⟩
      conv => whnf
      refine ⟨by decide, ?_⟩
      conv => whnf
      refine ⟨rfl, Nat.le_of_ble_eq_true (Eq.refl true), ?_⟩
      conv => whnf
      apply hX
      conv => whnf
      refine ⟨by decide, by decide, ?_⟩
      conv => whnf
      refine ⟨_, rfl, ?_⟩
      conv => whnf
      refine ⟨by decide, ?_⟩
      conv => whnf
      refine ⟨by decide, ?_⟩
      conv => whnf
      refine ⟨by decide, ?_⟩
      conv => whnf
      refine ⟨rfl, Nat.le_of_ble_eq_true (Eq.refl true), ?_⟩
      conv => whnf
      apply hX
      conv => whnf
      refine ⟨by decide, by decide, ?_⟩
      conv => whnf
      refine ⟨_, rfl, ?_⟩
      conv => whnf
      refine ⟨by decide, ?_⟩
      conv => whnf
      refine ⟨by decide, ?_⟩
      conv => whnf
      refine ⟨by decide, ?_⟩
      conv => whnf
      refine ⟨rfl, Nat.le_of_ble_eq_true (Eq.refl true), ?_⟩
      conv => whnf
      apply hX
      conv => whnf
      refine ⟨by decide, by decide, ?_⟩
      conv => whnf
      refine ⟨_, rfl, ?_⟩
      conv => whnf
      refine ⟨by decide, ?_⟩
      conv => whnf
      refine ⟨by decide, ?_⟩
      conv => whnf
      refine ⟨by decide, ?_⟩
      conv => whnf
      refine ⟨rfl, Nat.le_of_ble_eq_true (Eq.refl true), ?_⟩
      conv => whnf
      apply hX
      conv => whnf
      refine ⟨x.out, (show by4 x.a ++ by4 x.b ++ by4 x.c ++ by4 x.d ++ by4 x.e ++ by4 x.f ++ by4 x.g ++ by4 x.h = _ from out_bytes x), ?_⟩
      conv => whnf
      exact hq
    | succ n ih =>
      intro x t ht hq
      conv => whnf
      apply hX
      conv => whnf
      rw [beq_empty t (by omega)]
      conv => whnf
      refine ⟨by omega, by omega, by omega, ?_⟩
      conv => whnf
      have h64 : (t.extract 0 64).size = 64 := by rw [ByteArray.size_extract]; omega
      refine hS _ _ _ _ <| c_plan (t.extract 0 64) h64 _ fun l hl => ?_
      have hl64 : l.length = 64 := by rw [hl, wsz_length]
      conv => whnf
      intro Y hY
      have key2 : ∀ (d k : Nat), k + d = 64 → frK (kfr 78 [(0, .i (.str t)), (3, .one (.ref 0 0)), (4, .one (.ref 1 0)), (23, .iagg (l.map w32)), (24, .i (.int .i64 (k : Int)))] [.cells (x.iv.map .imm) none, .cells ((rnd (t.extract 0 64) x k).iv.map .imm) none]) Y := by
        intro d
        induction d with
        | zero =>
          intro k hk
          obtain rfl : k = 64 := hk
          have hb : x.blk (t.extract 0 64) = x.plus (rnd (t.extract 0 64) x 64) := rfl
          simp only [runs, hb] at hq
          revert hq
          generalize rnd (t.extract 0 64) x 64 = y
          intro hq
          conv => whnf
          apply hY
          conv => whnf
          refine hS _ _ _ _ <| c_plus x y _ ?_
          conv => whnf
          refine ⟨by omega, by omega, by omega, ?_⟩
          conv => whnf
          exact ih _ _ (by show (t.extract 64 t.size).size = _; rw [ByteArray.size_extract]; omega) hq
        | succ d ihd =>
          intro k hk
          have hr : rnd (t.extract 0 64) x (k + 1) = (rnd (t.extract 0 64) x k).round (kW.getD k 0 + l.getD k 0) := by rw [hl]; rfl
          have ihd := ihd (k + 1) (by omega)
          rw [hr] at ihd
          revert ihd
          generalize rnd (t.extract 0 64) x k = y
          intro ihd
          conv => whnf
          apply hY
          conv => whnf
          rw [decide_eq_true (show (k : Int) < 64 by omega)]
          conv => whnf
          refine ⟨_, by omega, by omega, at1 l k (by omega), ?_⟩
          conv => whnf
          have hk1 : (constW.drop (k * 1)).take 1 = [w32 (kW.getD k 0)] := by rw [constW_eq]; exact at1 kW k (by show k < 64; omega)
          refine ⟨[w32 (kW.getD k 0)], by omega, by omega, hk1, Eq.refl 1, ?_⟩
          conv => whnf
          rw [w_add]
          refine ⟨(y.round (kW.getD k 0 + l.getD k 0)).ag, hS _ _ _ _ <| c_round y (kW.getD k 0 + l.getD k 0) _ ⟨rfl, rfl⟩, rfl, ?_⟩
          conv => whnf
          rw [show (k : Int) + 1 = ((k + 1 : Nat) : Int) by omega, i64n _ (by omega)]
          exact ihd
      exact key2 64 0 rfl
  exact key ((padded b).size / 64) first8 (padded b) (padded_size b) (hq _ rfl)
end Go.Proofs.YtmfilaagpobmbaaGreatDoor
