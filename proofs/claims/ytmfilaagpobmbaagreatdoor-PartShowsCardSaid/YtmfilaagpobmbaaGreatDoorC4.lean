/- A part of the proof of a seat of parts: C4, C5. -/
import Derived.Test.YtmfilaagpobmbaaGreatDoorC3
set_option linter.all false
namespace Go.Proofs.YtmfilaagpobmbaaGreatDoor
open Go Go.Abs
set_option maxRecDepth 100000 in
theorem c_number (s : ByteArray) (t : Nat) (ht : 4 * t + 4 ≤ s.size) (hs : s.size < 1099511627776) (K) (hk : K (.i (w32 (word s t))) []) : SP 129 [.i (.str s), .i (.int .i64 ((4 * t : Nat) : Int))] [] K := by
  refine mk {keep := [(3, [0,1,5,6])]} (fn := Tryz.f129) Tryz.func129 (by kernel_rfl) (by kernel_rfl) (Nat.le_of_ble_eq_true (Eq.refl true)) fun S hS => ?_
  conv => whnf
  intro X hX
  have key : ∀ (d m : Nat), m + d = 4 → frK (kfr 22 [(0, .i (.str s)), (1, .i (.int .i64 ((4 * t : Nat) : Int))), (5, .i (w32 (wordN s t m))), (6, .i (.int .i64 ((4 * t + m : Nat) : Int)))] []) X := by
    intro d
    induction d with
    | zero =>
      intro m hm
      obtain rfl : m = 4 := hm
      unfold word at hk
      revert hk
      generalize wordN s t 4 = r
      intro hk
      conv => whnf
      apply hX
      conv => whnf
      rw [show ((4 * t : Nat) : Int) + 4 = ((4 * t + 4 : Nat) : Int) by omega, i64n _ (by omega)]
      rw [decide_eq_false (show ¬ (((4 * t + 4 : Nat) : Int) < ((4 * t + 4 : Nat) : Int)) by omega)]
      conv => whnf
      exact hk
    | succ d ih =>
      intro m hm
      have ih := ih (m + 1) (by omega)
      rw [← wordN_step] at ih
      revert ih
      generalize wordN s t m = r
      intro ih
      conv => whnf
      apply hX
      conv => whnf
      rw [show ((4 * t : Nat) : Int) + 4 = ((4 * t + 4 : Nat) : Int) by omega, i64n _ (by omega)]
      rw [decide_eq_true (show ((4 * t + m : Nat) : Int) < ((4 * t + 4 : Nat) : Int) by omega)]
      conv => whnf
      refine ⟨by omega, by omega, ?_⟩
      conv => whnf
      rw [w_mul, wrap_sb, show ((4 * t + m : Nat) : Int).toNat = 4 * t + m from rfl, w_add, show ((4 * t + m : Nat) : Int) + 1 = ((4 * t + (m + 1) : Nat) : Int) by omega, i64n _ (by omega)]
      exact ih
  exact key 4 0 rfl
set_option maxRecDepth 100000 in
theorem c_bytes (n c : Nat) (hn : n < 18446744073709551616) (hc : c ≤ 8) (K) (hk : ∀ r, r = loB n c → K (.i (.str r)) []) : SP 113 [.i (.int .u64 (n : Int)), .i (.int .i64 (c : Int))] [] K := by
  refine mk {keep := [(3, [0,1,5,6])]} (fn := Tryz.f113) Tryz.func113 (by kernel_rfl) (by kernel_rfl) (Nat.le_of_ble_eq_true (Eq.refl true)) fun S hS => ?_
  conv => whnf
  intro X hX
  have key : ∀ (d m : Nat), m + d = c → ∀ r, r = loB n m → frK (kfr 22 [(0, .i (.int .u64 ((n / 256 ^ m : Nat) : Int))), (1, .i (.int .i64 (c : Int))), (5, .i (.str r)), (6, .i (.int .i64 (m : Int)))] []) X := by
    intro d
    induction d with
    | zero =>
      intro m hm r hr
      obtain rfl : m = c := hm
      conv => whnf
      apply hX
      conv => whnf
      rw [decide_eq_false (show ¬ ((m : Int) < (m : Int)) by omega)]
      conv => whnf
      exact hk r hr
    | succ d ih =>
      intro m hm r hr
      have ih := ih (m + 1) (by omega) _ (loB_step n m)
      rw [Nat.pow_succ, ← Nat.div_div_eq_div_mul, ← hr] at ih
      have hle : n / 256 ^ m ≤ n := Nat.div_le_self _ _
      have hrs := loB_size n m
      rw [← hr] at hrs
      revert ih hle
      generalize n / 256 ^ m = q
      intro ih hle
      conv => whnf
      apply hX
      conv => whnf
      rw [decide_eq_true (show (m : Int) < (c : Int) by omega)]
      conv => whnf
      refine ⟨by decide, ?_⟩
      conv => whnf
      have e1 : IV.int .u8 (IntKind.u8.wrap ((q : Int).tmod 256)) = IV.int .u8 (((UInt8.ofNat q).toNat : Nat) : Int) := by
        rw [show (256 : Int) = ((256 : Nat) : Int) from rfl, tmodN, byIV]; simp
      rw [e1]
      refine ⟨⟨#[UInt8.ofNat q]⟩, rfl, ?_⟩
      conv => whnf
      refine ⟨by show 1 + r.size ≤ _; omega, ?_⟩
      conv => whnf
      refine ⟨by decide, ?_⟩
      conv => whnf
      have e2 : IntKind.u64.wrap ((q : Int).tdiv 256) = ((q / 256 : Nat) : Int) := by
        rw [show (256 : Int) = ((256 : Nat) : Int) from rfl, ← Int.ofNat_tdiv, wrap64u]; omega
      rw [e2, show (m : Int) + 1 = ((m + 1 : Nat) : Int) by omega, i64n _ (by omega)]
      exact ih
  have := key c 0 (by omega) _ rfl
  rw [Nat.pow_zero, Nat.div_one] at this
  exact this
set_option maxRecDepth 100000 in
theorem c_squares (K) (hk : K (.i (.lst (e64 sqN))) []) : SP 86 [] [] K := by
  refine mk {} (fn := Tryz.f86) Tryz.func86 (by kernel_rfl) (by kernel_rfl) (Nat.le_of_ble_eq_true (Eq.refl true)) fun S hS => ?_
  conv => whnf
  exact hk
set_option maxRecDepth 100000 in
theorem c_halves (l : List Nat) (h0 : 0 < l.length) (h9 : l.length < 1000) (hl : ∀ n ∈ l, n < 18446744073709551616) (K) (hk : K (.i (.lst (e32 (hv l)))) []) : SP 85 [.i (.lst (e64 l))] [] K := by
  refine mk {keep := [(3, [0,3,4])]} (fn := Tryz.f85) Tryz.func85 (by kernel_rfl) (by kernel_rfl) (Nat.le_of_ble_eq_true (Eq.refl true)) fun S hS => ?_
  conv => whnf
  intro X hX
  have key : ∀ (d i : Nat), 0 < i → i + d = l.length → frK (kfr 27 [(0, .i (.lst (e64 l))), (3, .one (.sl 0 0 (2 * i))), (4, .i (.int .i64 (i : Int)))] [.vec 1 (e32 (hv (l.take i))) true]) X := by
    intro d
    induction d with
    | zero =>
      intro i hi0 hi
      conv => whnf
      apply hX
      conv => whnf
      rw [decide_eq_false (by rw [e64_len]; omega)]
      conv => whnf
      have e : List.take (2 * i) (List.drop 0 (e32 (hv (List.take i l)))) = e32 (hv l) := by
        rw [List.drop_zero, List.take_of_length_le (by rw [e32_len, hv_len, List.length_take]; omega), List.take_of_length_le (by omega)]
      rw [e]
      exact hk
    | succ d ih =>
      intro i hi0 hi
      have hn : l[i]? = some (l[i]'(by omega)) := List.getElem?_eq_getElem (by omega)
      have hl' := hl (l[i]'(by omega)) (List.getElem_mem _)
      have ih := ih (i + 1) (by omega) (by omega)
      rw [hv_take l i _ hn] at ih
      revert hn hl' ih
      generalize l[i]'(by omega) = n
      intro hn hl' ih
      have hlen : (e32 (hv (l.take i))).length = 2 * i := by rw [e32_len, hv_len, List.length_take]; omega
      conv => whnf
      apply hX
      conv => whnf
      rw [decide_eq_true (by rw [e64_len]; omega)]
      conv => whnf
      refine ⟨_, by omega, e64_get l i n hn, rfl, ?_⟩
      conv => whnf
      refine ⟨by decide, ?_⟩
      conv => whnf
      refine ⟨_, by omega, e64_get l i n hn, rfl, ?_⟩
      conv => whnf
      refine ⟨by decide, ?_⟩
      conv => whnf
      rw [half1 n hl', half2 n]
      refine ⟨chunk_each 2 1 _ rfl, ?_⟩
      conv => whnf
      refine ⟨by rw [hlen]; omega, by rw [hlen]; show (2 * i + 2) * 4 ≤ _; omega, ?_⟩
      conv => whnf
      rw [show (i : Int) + 1 = ((i + 1 : Nat) : Int) by omega, i64n _ (by omega)]
      exact ih
  have hn : l[0]? = some (l[0]'h0) := List.getElem?_eq_getElem _
  have hl' := hl (l[0]'h0) (List.getElem_mem _)
  have key := key (l.length - 1) 1 (by omega) (by omega)
  rw [hv_take l 0 _ hn] at key
  revert hn hl' key
  generalize l[0]'h0 = n
  intro hn hl' key
  apply hX
  conv => whnf
  rw [decide_eq_true (by rw [e64_len]; omega)]
  conv => whnf
  refine ⟨_, by omega, e64_get l 0 n hn, rfl, ?_⟩
  conv => whnf
  refine ⟨by decide, ?_⟩
  conv => whnf
  refine ⟨_, by omega, e64_get l 0 n hn, rfl, ?_⟩
  conv => whnf
  refine ⟨by decide, ?_⟩
  conv => whnf
  rw [half1 n hl', half2 n]
  refine ⟨chunk_each 2 1 _ rfl, ?_⟩
  conv => whnf
  refine ⟨by show 2 * 4 ≤ 17592186044416; omega, ?_⟩
  conv => whnf
  exact key
set_option maxRecDepth 100000 in
theorem c_cubes (K) (hk : K (.i (.lst (e64 cuN))) []) : SP 87 [] [] K := by
  refine mk {} (fn := Tryz.f87) Tryz.func87 (by kernel_rfl) (by kernel_rfl) (Nat.le_of_ble_eq_true (Eq.refl true)) fun S hS => ?_
  conv => whnf
  exact hk
end Go.Proofs.YtmfilaagpobmbaaGreatDoor

namespace Go.Proofs.YtmfilaagpobmbaaGreatDoor
open Go Go.Abs
set_option maxRecDepth 100000 in
set_option maxHeartbeats 4000000 in
theorem c_block_b (x : S8) (s : ByteArray) (hs : s.size = 64) (K) (hk : ∀ y, y = x.blk s → K (.i (.lst y.el)) []) : SP 114 [.i (.lst x.el), .i (.str s), .i (.lst (e1 kW))] [] K := by
  have hkl : kW.length = 64 := rfl
  revert hkl
  have hkw : ∀ t, (rnd s x (t + 1)) = (rnd s x t).round (kW.getD t 0 + (wsz s 48).getD t 0) := fun t => rfl
  revert hkw
  generalize kW = kw
  intro hkw hkl
  refine mk {keep := [(3, [0,1,2,7,8]), (13, [0,2,7,11,12]), (26, [0,11,18])]} (fn := Tryz.f114) Tryz.func114 (by kernel_rfl) (by kernel_rfl) (Nat.le_of_ble_eq_true (Eq.refl true)) fun S hS => ?_
  conv => whnf
  refine ⟨by decide, by decide, by decide, ?_⟩
  conv => whnf
  intro X hX
  have key : ∀ (d i : Nat), i + d = 64 → frK (kfr 193 [(0, .i (.lst x.el)), (1, .i (.str s)), (2, .i (.lst (e1 kw))), (7, .one (.sl 0 0 64)), (8, .i (.int .i64 (i : Int)))] [.vec 1 (e1 (wf s i)) false]) X := by
    intro d
    induction d with
    | zero =>
      intro i hi
      obtain rfl : i = 64 := hi
      have hwl := wf_len s 64 (by omega)
      rw [wf_hi s 48] at hwl ⊢
      have hr : ∀ t, t < 64 → (rnd s x (t + 1)) = (rnd s x t).round (kw.getD t 0 + (wsz s 48).getD t 0) := fun t _ => hkw t
      revert hr hwl
      generalize wsz s 48 = wl
      intro hwl hr
      conv => whnf
      apply hX
      conv => whnf
      refine ⟨by decide, by decide, by decide, ?_⟩
      conv => whnf
      clear hX
      have hxl : ∀ e ∈ x.el, e.length = 1 := by intro e he; simp at he; rcases he with rfl | rfl | rfl | rfl | rfl | rfl | rfl | rfl <;> rfl
      refine ⟨hxl, ?_⟩
      conv => whnf
      intro Y hY
      have key2 : ∀ (d t : Nat), t + d = 64 → frK (kfr 193 [(0, .i (.lst x.el)), (2, .i (.lst (e1 kw))), (7, .one (.sl 0 0 64)), (11, .one (.sl 1 0 8)), (12, .i (.int .i64 (t : Int)))] [.vec 1 (e1 wl) false, .vec 1 (rnd s x t).el false]) Y := by
        intro d
        induction d with
        | zero =>
          intro t ht
          obtain rfl : t = 64 := ht
          have hk := hk _ rfl
          unfold S8.blk at hk
          revert hk
          generalize rnd s x 64 = y
          intro hk
          conv => whnf
          apply hY
          conv => whnf
          intro Z hZ
          apply hZ
          conv => whnf
          refine ⟨by decide, by decide, ?_⟩
          conv => whnf
          refine ⟨_, rfl, ?_⟩
          conv => whnf
          refine ⟨_, by decide, rfl, rfl, ?_⟩
          conv => whnf
          rw [w_add]
          refine ⟨by decide, by decide, ?_⟩
          conv => whnf
          refine ⟨Nat.one_pos, _, rfl, Nat.le_refl 1, ?_⟩
          conv => whnf
          apply hZ
          conv => whnf
          refine ⟨by decide, by decide, ?_⟩
          conv => whnf
          refine ⟨_, rfl, ?_⟩
          conv => whnf
          refine ⟨_, by decide, rfl, rfl, ?_⟩
          conv => whnf
          rw [w_add]
          refine ⟨by decide, by decide, ?_⟩
          conv => whnf
          refine ⟨Nat.one_pos, _, rfl, Nat.le_refl 1, ?_⟩
          conv => whnf
          apply hZ
          conv => whnf
          refine ⟨by decide, by decide, ?_⟩
          conv => whnf
          refine ⟨_, rfl, ?_⟩
          conv => whnf
          refine ⟨_, by decide, rfl, rfl, ?_⟩
          conv => whnf
          rw [w_add]
          refine ⟨by decide, by decide, ?_⟩
          conv => whnf
          refine ⟨Nat.one_pos, _, rfl, Nat.le_refl 1, ?_⟩
          conv => whnf
          apply hZ
          conv => whnf
          refine ⟨by decide, by decide, ?_⟩
          conv => whnf
          refine ⟨_, rfl, ?_⟩
          conv => whnf
          refine ⟨_, by decide, rfl, rfl, ?_⟩
          conv => whnf
          rw [w_add]
          refine ⟨by decide, by decide, ?_⟩
          conv => whnf
          refine ⟨Nat.one_pos, _, rfl, Nat.le_refl 1, ?_⟩
          conv => whnf
          apply hZ
          conv => whnf
          refine ⟨by decide, by decide, ?_⟩
          conv => whnf
          refine ⟨_, rfl, ?_⟩
          conv => whnf
          refine ⟨_, by decide, rfl, rfl, ?_⟩
          conv => whnf
          rw [w_add]
          refine ⟨by decide, by decide, ?_⟩
          conv => whnf
          refine ⟨Nat.one_pos, _, rfl, Nat.le_refl 1, ?_⟩
          conv => whnf
          apply hZ
          conv => whnf
          refine ⟨by decide, by decide, ?_⟩
          conv => whnf
          refine ⟨_, rfl, ?_⟩
          conv => whnf
          refine ⟨_, by decide, rfl, rfl, ?_⟩
          conv => whnf
          rw [w_add]
          refine ⟨by decide, by decide, ?_⟩
          conv => whnf
          refine ⟨Nat.one_pos, _, rfl, Nat.le_refl 1, ?_⟩
          conv => whnf
          apply hZ
          conv => whnf
          refine ⟨by decide, by decide, ?_⟩
          conv => whnf
          refine ⟨_, rfl, ?_⟩
          conv => whnf
          refine ⟨_, by decide, rfl, rfl, ?_⟩
          conv => whnf
          rw [w_add]
          refine ⟨by decide, by decide, ?_⟩
          conv => whnf
          refine ⟨Nat.one_pos, _, rfl, Nat.le_refl 1, ?_⟩
          conv => whnf
          apply hZ
          conv => whnf
          refine ⟨by decide, by decide, ?_⟩
          conv => whnf
          refine ⟨_, rfl, ?_⟩
          conv => whnf
          refine ⟨_, by decide, rfl, rfl, ?_⟩
          conv => whnf
          rw [w_add]
          refine ⟨by decide, by decide, ?_⟩
          conv => whnf
          refine ⟨Nat.one_pos, _, rfl, Nat.le_refl 1, ?_⟩
          conv => whnf
          apply hZ
          conv => whnf
          have hc : x.plus y = y.plus x := by simp only [S8.plus, BitVec.add_comm]
          rw [hc] at hk
          exact hk
        | succ d ihd =>
          intro t ht
          have ihd := ihd (t + 1) (by omega)
          rw [hr t (by omega)] at ihd
          revert ihd
          generalize rnd s x t = y
          intro ihd
          conv => whnf
          apply hY
          conv => whnf
          rw [decide_eq_true (show (t : Int) < 64 by omega)]
          conv => whnf
          refine ⟨by decide, by decide, ?_⟩
          conv => whnf
          refine ⟨_, rfl, ?_⟩
          conv => whnf
          refine ⟨by decide, by decide, ?_⟩
          conv => whnf
          refine ⟨_, rfl, ?_⟩
          conv => whnf
          refine ⟨by decide, by decide, ?_⟩
          conv => whnf
          refine ⟨_, rfl, ?_⟩
          conv => whnf
          refine ⟨.i (w32 (rot y.e 6)), hS _ _ _ _ <| c_bits y.e 6 (by decide) _ ⟨rfl, rfl⟩, rfl, ?_⟩
          conv => whnf
          refine ⟨.i (w32 (rot y.e 11)), hS _ _ _ _ <| c_bits y.e 11 (by decide) _ ⟨rfl, rfl⟩, rfl, ?_⟩
          conv => whnf
          rw [w_xor]
          refine ⟨.i (w32 (rot y.e 25)), hS _ _ _ _ <| c_bits y.e 25 (by decide) _ ⟨rfl, rfl⟩, rfl, ?_⟩
          conv => whnf
          rw [w_xor, w_add]
          refine ⟨by decide, by decide, ?_⟩
          conv => whnf
          refine ⟨_, rfl, ?_⟩
          conv => whnf
          refine ⟨by decide, by decide, ?_⟩
          conv => whnf
          refine ⟨_, rfl, ?_⟩
          conv => whnf
          rw [w_not', w_and, w_and, w_xor, w_add]
          refine ⟨_, by omega, e1_get _ _ _ (show kw[((t : Int)).toNat]? = some (kw.getD t 0) by rw [List.getD, Int.toNat_natCast, List.getElem?_eq_getElem (by omega)]; rfl), rfl, ?_⟩
          conv => whnf
          rw [w_add]
          refine ⟨by omega, by omega, ?_⟩
          conv => whnf
          rw [show 0 + ((t : Int)).toNat = t by omega]
          refine ⟨_, e1_get _ _ _ (show wl[t]? = some (wl.getD t 0) by rw [List.getD, List.getElem?_eq_getElem (by omega)]; rfl), ?_⟩
          conv => whnf
          rw [w_add]
          refine ⟨.i (w32 (rot y.a 2)), hS _ _ _ _ <| c_bits y.a 2 (by decide) _ ⟨rfl, rfl⟩, rfl, ?_⟩
          conv => whnf
          refine ⟨.i (w32 (rot y.a 13)), hS _ _ _ _ <| c_bits y.a 13 (by decide) _ ⟨rfl, rfl⟩, rfl, ?_⟩
          conv => whnf
          rw [w_xor]
          refine ⟨.i (w32 (rot y.a 22)), hS _ _ _ _ <| c_bits y.a 22 (by decide) _ ⟨rfl, rfl⟩, rfl, ?_⟩
          conv => whnf
          rw [w_xor]
          refine ⟨by decide, by decide, ?_⟩
          conv => whnf
          refine ⟨_, rfl, ?_⟩
          conv => whnf
          rw [w_and]
          refine ⟨by decide, by decide, ?_⟩
          conv => whnf
          refine ⟨_, rfl, ?_⟩
          conv => whnf
          rw [w_and, w_xor]
          refine ⟨by decide, by decide, ?_⟩
          conv => whnf
          refine ⟨_, rfl, ?_⟩
          conv => whnf
          refine ⟨by decide, by decide, ?_⟩
          conv => whnf
          refine ⟨_, rfl, ?_⟩
          conv => whnf
          rw [w_and, w_xor, w_add]
          intro Z hZ
          apply hZ
          conv => whnf
          refine ⟨by decide, by decide, ?_⟩
          conv => whnf
          refine ⟨_, rfl, ?_⟩
          conv => whnf
          refine ⟨by decide, by decide, ?_⟩
          conv => whnf
          refine ⟨Nat.one_pos, _, rfl, Nat.le_refl 1, ?_⟩
          conv => whnf
          apply hZ
          conv => whnf
          refine ⟨by decide, by decide, ?_⟩
          conv => whnf
          refine ⟨_, rfl, ?_⟩
          conv => whnf
          refine ⟨by decide, by decide, ?_⟩
          conv => whnf
          refine ⟨Nat.one_pos, _, rfl, Nat.le_refl 1, ?_⟩
          conv => whnf
          apply hZ
          conv => whnf
          refine ⟨by decide, by decide, ?_⟩
          conv => whnf
          refine ⟨_, rfl, ?_⟩
          conv => whnf
          refine ⟨by decide, by decide, ?_⟩
          conv => whnf
          refine ⟨Nat.one_pos, _, rfl, Nat.le_refl 1, ?_⟩
          conv => whnf
          apply hZ
          conv => whnf
          refine ⟨by decide, by decide, ?_⟩
          conv => whnf
          refine ⟨_, rfl, ?_⟩
          conv => whnf
          refine ⟨by decide, by decide, ?_⟩
          conv => whnf
          refine ⟨Nat.one_pos, _, rfl, Nat.le_refl 1, ?_⟩
          conv => whnf
          apply hZ
          conv => whnf
          refine ⟨by decide, by decide, ?_⟩
          conv => whnf
          refine ⟨_, rfl, ?_⟩
          conv => whnf
          refine ⟨by decide, by decide, ?_⟩
          conv => whnf
          refine ⟨Nat.one_pos, _, rfl, Nat.le_refl 1, ?_⟩
          conv => whnf
          apply hZ
          conv => whnf
          refine ⟨by decide, by decide, ?_⟩
          conv => whnf
          refine ⟨_, rfl, ?_⟩
          conv => whnf
          refine ⟨by decide, by decide, ?_⟩
          conv => whnf
          refine ⟨Nat.one_pos, _, rfl, Nat.le_refl 1, ?_⟩
          conv => whnf
          apply hZ
          conv => whnf
          refine ⟨by decide, by decide, ?_⟩
          conv => whnf
          refine ⟨_, rfl, ?_⟩
          conv => whnf
          refine ⟨by decide, by decide, ?_⟩
          conv => whnf
          refine ⟨Nat.one_pos, _, rfl, Nat.le_refl 1, ?_⟩
          conv => whnf
          apply hZ
          conv => whnf
          refine ⟨by decide, by decide, ?_⟩
          conv => whnf
          refine ⟨_, rfl, ?_⟩
          conv => whnf
          rw [w_add]
          refine ⟨by decide, by decide, ?_⟩
          conv => whnf
          refine ⟨Nat.one_pos, _, rfl, Nat.le_refl 1, ?_⟩
          conv => whnf
          rw [w_add]
          refine ⟨by decide, by decide, ?_⟩
          conv => whnf
          refine ⟨Nat.one_pos, _, rfl, Nat.le_refl 1, ?_⟩
          conv => whnf
          rw [show (t : Int) + 1 = ((t + 1 : Nat) : Int) by omega, i64n _ (by omega)]
          have hone : y.one (kw.getD t 0 + wl.getD t 0) = y.h + (rot y.e 6 ^^^ rot y.e 11 ^^^ rot y.e 25) + ((y.e &&& y.f) ^^^ (~~~y.e &&& y.g)) + kw.getD t 0 + wl.getD t 0 := by
            simp only [S8.one, three, BitVec.add_assoc]
          unfold S8.round at ihd
          rw [hone] at ihd
          exact ihd
      exact key2 64 0 rfl
    | succ d ih =>
      intro i hi
      have hlen := wf_len s i (by omega)
      conv => whnf
      apply hX
      conv => whnf
      rw [decide_eq_true (show (i : Int) < 64 by omega)]
      conv => whnf
      by_cases h16 : i < 16
      · rw [decide_eq_true (show (i : Int) < 16 by omega)]
        conv => whnf
        rw [show (4 : Int) * (i : Int) = ((4 * i : Nat) : Int) by omega, i64n _ (by omega)]
        refine hS _ _ _ _ <| c_number s i (by omega) (by omega) _ ?_
        conv => whnf
        refine ⟨by omega, by omega, ?_⟩
        conv => whnf
        rw [show 0 + ((i : Int)).toNat = i by omega]
        obtain ⟨c, hc⟩ : ∃ c, (wf s i)[i]? = some c := ⟨_, List.getElem?_eq_getElem (by omega)⟩
        refine ⟨Nat.one_pos, _, e1_get _ _ _ hc, Nat.le_refl 1, ?_⟩
        conv => whnf
        have e : ∀ w : W, (e1 (wf s i)).set i (splice [w32 c] 0 [w32 w]) = e1 ((wf s i).set i w) := fun w => e1_set _ _ _
        rw [e, wf_lo s i h16, show (i : Int) + 1 = ((i + 1 : Nat) : Int) by omega, i64n _ (by omega)]
        exact ih (i + 1) (by omega)
      · rw [decide_eq_false (show ¬ ((i : Int) < 16) by omega)]
        conv => whnf
        obtain ⟨n, rfl⟩ : ∃ n, i = n + 16 := ⟨i - 16, by omega⟩
        have ih := ih (n + 16 + 1) (by omega)
        rw [show n + 16 + 1 = (n + 1) + 16 by omega, wf_hi, ← wsz_step s n (by omega)] at ih
        simp only [wf_hi] at hlen ⊢
        rw [show ((n + 16 : Nat) : Int) - 15 = ((n + 1 : Nat) : Int) by omega, i64n _ (by omega)]
        refine ⟨by omega, by omega, ?_⟩
        conv => whnf
        rw [show 0 + (((n + 1 : Nat) : Int)).toNat = n + 1 by omega]
        refine ⟨_, e1_get _ _ _ (wsz_get s n (n + 1) (by omega)), ?_⟩
        conv => whnf
        rw [show ((n + 16 : Nat) : Int) - 2 = ((n + 14 : Nat) : Int) by omega, i64n _ (by omega)]
        refine ⟨by omega, by omega, ?_⟩
        conv => whnf
        rw [show 0 + (((n + 14 : Nat) : Int)).toNat = n + 14 by omega]
        refine ⟨_, e1_get _ _ _ (wsz_get s n (n + 14) (by omega)), ?_⟩
        conv => whnf
        rw [show ((n + 16 : Nat) : Int) - 16 = ((n : Nat) : Int) by omega, i64n _ (by omega)]
        refine ⟨by omega, by omega, ?_⟩
        conv => whnf
        rw [show 0 + (((n : Nat) : Int)).toNat = n by omega]
        refine ⟨_, e1_get _ _ _ (wsz_get s n n (by omega)), ?_⟩
        conv => whnf
        refine ⟨.i (w32 (rot ((ws s n).getD (n + 1) 0) 7)), hS _ _ _ _ <| c_bits _ 7 (by decide) _ ⟨rfl, rfl⟩, rfl, ?_⟩
        conv => whnf
        refine ⟨.i (w32 (rot ((ws s n).getD (n + 1) 0) 18)), hS _ _ _ _ <| c_bits _ 18 (by decide) _ ⟨rfl, rfl⟩, rfl, ?_⟩
        conv => whnf
        refine ⟨by decide, ?_⟩
        conv => whnf
        rw [show min (Int.toNat 3) IntKind.u32.bits = 3 from rfl, w_shr, w_xor, w_xor, w_add]
        rw [show ((n + 16 : Nat) : Int) - 7 = ((n + 9 : Nat) : Int) by omega, i64n _ (by omega)]
        refine ⟨by omega, by omega, ?_⟩
        conv => whnf
        rw [show 0 + (((n + 9 : Nat) : Int)).toNat = n + 9 by omega]
        refine ⟨_, e1_get _ _ _ (wsz_get s n (n + 9) (by omega)), ?_⟩
        conv => whnf
        rw [w_add]
        refine ⟨.i (w32 (rot ((ws s n).getD (n + 14) 0) 17)), hS _ _ _ _ <| c_bits _ 17 (by decide) _ ⟨rfl, rfl⟩, rfl, ?_⟩
        conv => whnf
        refine ⟨.i (w32 (rot ((ws s n).getD (n + 14) 0) 19)), hS _ _ _ _ <| c_bits _ 19 (by decide) _ ⟨rfl, rfl⟩, rfl, ?_⟩
        conv => whnf
        refine ⟨by decide, ?_⟩
        conv => whnf
        rw [show min (Int.toNat 10) IntKind.u32.bits = 10 from rfl, w_shr, w_xor, w_xor, w_add]
        refine ⟨by omega, by omega, ?_⟩
        conv => whnf
        rw [show 0 + (((n + 16 : Nat) : Int)).toNat = n + 16 by omega]
        obtain ⟨c, hc⟩ : ∃ c, (wsz s n)[n + 16]? = some c := ⟨_, List.getElem?_eq_getElem (by omega)⟩
        refine ⟨Nat.one_pos, _, e1_get _ _ _ hc, Nat.le_refl 1, ?_⟩
        conv => whnf
        have e : ∀ w : W, (e1 (wsz s n)).set (n + 16) (splice [w32 c] 0 [w32 w]) = e1 ((wsz s n).set (n + 16) w) := fun w => e1_set _ _ _
        rw [e, show ((n + 16 : Nat) : Int) + 1 = ((n + 1 + 16 : Nat) : Int) by omega, i64n _ (by omega)]
        exact ih
  exact key 64 0 rfl
end Go.Proofs.YtmfilaagpobmbaaGreatDoor
