/- A part of the proof of a seat of tries: F4. -/
import Derived.Test.YtkpmcdfmdfoheaaDoorE8
import Derived.Test.YtkpmcdfmdfoheaaDoorF3
import Derived.Test.YtkpmcdfmdfoheaaDoorPartPure
set_option linter.all false
namespace Go.Proofs.YtkpmcdfmdfoheaaDoor
open Go Go.Abs
set_option maxRecDepth 100000 in
theorem c_SameT2 (l : List Pr) (hl : l.length < 1000000) (n : Nat) (M : List (List IV)) (hM : M = pl l) (hn : n = l.length) (K : AV → List Blk → Prop) (hk : K (.i (.bool true)) [.vec 2 M true]) : SP 13 [.i (.lst (pl l)), .one (.sl 0 0 n)] [.vec 2 M true] K := by
  have hpl := pl_len l
  have hpg := pl_get l
  rw [← hM] at hpl hpg ⊢
  refine mk {keep := [(4, [0,1,5])], inc := 1} (fn := Tryd.f13) Tryd.func13 (by kernel_rfl) (by kernel_rfl) (Nat.le_of_ble_eq_true (Eq.refl true)) fun S hS => ?_
  conv => whnf
  rw [show ((M.length : Int) != (n : Int)) = false by simp; omega]
  conv => whnf
  intro X hX
  have go : ∀ (d i : Nat), i + d = l.length → frK (kfr 26 [(0, .i (.lst M)), (1, .one (.sl 0 0 n)), (5, .i (.int .i64 (i : Int)))] [.vec 2 M true]) X := by
    intro d
    induction d with
    | zero =>
      intro i hi
      conv => whnf
      apply hX
      conv => whnf
      rw [decide_eq_false (show ¬ ((i : Int) < (M.length : Int)) by omega)]
      conv => whnf
      exact hk
    | succ d ih =>
      intro i hi
      have hi' : i < l.length := by omega
      have hg := hpg i l[i] (List.getElem?_eq_getElem hi')
      conv => whnf
      apply hX
      conv => whnf
      rw [decide_eq_true (show (i : Int) < (M.length : Int) by omega)]
      conv => whnf
      refine ⟨_, by omega, hg, rfl, ?_⟩
      conv => whnf
      refine ⟨by omega, by omega, ?_⟩
      conv => whnf
      rw [show 0 + ((i : Int)).toNat = i by omega]
      refine ⟨_, hg, ?_⟩
      conv => whnf
      rw [beq_ba, beq_ba, decide_eq_true rfl, decide_eq_true rfl]
      conv => whnf
      rw [show (i : Int) + 1 = ((i + 1 : Nat) : Int) by omega, i64n _ (by omega)]
      exact ih (i + 1) (by omega)
  exact go l.length 0 (by omega)
set_option maxRecDepth 100000 in
set_option maxHeartbeats 4000000 in
theorem c_TrieParts (l : List Act') (key : ByteArray) (b : Int) (hb : (Lit.int .u8 b).wf = true) : SP 9 [.i (.lst (acL l)), .i (.str key), .i (.int .u8 b)] [] (fun r _ => r = .i (.bool true)) := by
  by_cases hsm : small l 30
  · have sm := c_SmallT l 30 (by decide) hsm
    by_cases hs : key.size ≤ 100
    · have hbn : 0 ≤ b ∧ b ≤ 255 := by
        simp [Lit.wf, IntKind.min, IntKind.max, IntKind.signed, IntKind.bits] at hb
        omega
      obtain ⟨n, rfl⟩ : ∃ n : Nat, b = (n : Int) := ⟨b.toNat, by omega⟩
      have hn : n < 256 := by omega
      have md := c_Made' l 30 (by decide) hsm
      obtain ⟨tg, tl⟩ := made_good hsm
      generalize made l = t at md tg tl
      have k1 := c_Key key (show key.size < 1000000000 by omega)
      have ks := lawKey_size key
      generalize lawKey key = k at k1 ks
      have zs : (clrK k n).size = 32 := (setB_size _ _ _).trans ks
      have os : (setK' (clrK k n) n).size = 32 := (setB_size _ _ _).trans zs
      have u0 := c_Under t tg (by omega) k ks n (by omega)
      have u1 := c_Under t tg (by omega) (clrK k n) zs (n + 1) (by omega)
      have u2 := c_Under t tg (by omega) (setK' (clrK k n) n) os (n + 1) (by omega)
      have u3 := c_Under t tg (by omega) (setK' (clrK k n) n) os 0 (by omega)
      have hp := parts_pure tg ks hn
      have hall := under_all tg (setK' (clrK k n) n)
      rw [hall] at u3
      have hlen : (t.under (clrK k n) (n + 1) ++ t.under (setK' (clrK k n) n) (n + 1)).length ≤ 30 := by
        rw [← hp, T.under_eq (by omega) tg]; exact Nat.le_trans (List.length_filter_le _ _) tl
      rw [hp] at u0
      generalize t.under (clrK k n) (n + 1) = zl at *
      generalize t.under (setK' (clrK k n) n) (n + 1) = ol at *
      have s1 := c_SameT2 (zl ++ ol) (by omega)
      have s2 := c_SameT t.pairs (by omega)
      have x0 := byteN_lt k (n / 8)
      have x1 := byteN_lt (clrK k n) (n / 8)
      have e0 : (bytesIV k).set (n / 8) [IV.int .u8 (clrN (byteN k (n / 8)) (n % 8) : Int)] = bytesIV (clrK k n) := setB_iv _ _ _ (clrN_lt _ x0 _ (by omega))
      have e1 : (bytesIV (clrK k n)).set (n / 8) [IV.int .u8 (setN (byteN (clrK k n) (n / 8)) (n % 8) : Int)] = bytesIV (setK' (clrK k n) n) := setB_iv _ _ _ (setN_lt _ x1 _ (by omega))
      have c0 := clrN_iv (byteN k (n / 8)) x0 (n % 8) (by omega)
      have c1 := setN_iv (byteN (clrK k n) (n / 8)) x1 (n % 8) (by omega)
      have g0 : (bytesIV k)[n / 8]? = some [IV.int .u8 (byteN k (n / 8) : Int)] := by rw [eb_bytes, ks]; exact eb_get _ _ _ (by rw [List.getElem?_map, List.getElem?_range (by omega)]; rfl)
      have g1 : (bytesIV (clrK k n))[n / 8]? = some [IV.int .u8 (byteN (clrK k n) (n / 8) : Int)] := by rw [eb_bytes, zs]; exact eb_get _ _ _ (by rw [List.getElem?_map, List.getElem?_range (by omega)]; rfl)
      have hplz := pl_len zl
      have hplo := pl_len ol
      have hza := pl_all zl
      have hoa := pl_all ol
      have hap := pl_app zl ol
      simp only [List.length_append] at hlen
      have lk : (bytesIV k).length = 32 := by rw [eb_bytes, ks]; simp [eb]
      have lz : (bytesIV (clrK k n)).length = 32 := by rw [eb_bytes, zs]; simp [eb]
      have lo : (bytesIV (setK' (clrK k n) n)).length = 32 := by rw [eb_bytes, os]; simp [eb]
      generalize setN (byteN (clrK k n) (n / 8)) (n % 8) = vo at *
      generalize byteN (clrK k n) (n / 8) = bo at *
      generalize clrN (byteN k (n / 8)) (n % 8) = vz at *
      generalize byteN k (n / 8) = bz at *
      generalize setK' (clrK k n) n = ko at *
      generalize clrK k n = kz at *
      generalize tr t = xt at *
      generalize pl t.pairs = y at *
      generalize acL l = A at *
      refine mk {} (fn := Tryd.f9) Tryd.func9 (by kernel_rfl) (by kernel_rfl) (Nat.le_of_ble_eq_true (Eq.refl true)) fun S hS => ?_
      conv => whnf
      refine hS _ _ _ _ <| c_awake _ ?_
      conv => whnf
      refine hS _ _ _ _ <| sm _ ?_
      conv => whnf
      rw [decide_eq_false (show ¬ ((key.size : Int) > 100) by omega)]
      conv => whnf
      refine hS _ _ _ _ <| md _ ?_
      conv => whnf
      refine hS _ _ _ _ <| k1 _ fun r hr => ?_
      subst hr
      conv => whnf
      refine ⟨r, by rw [List.drop_zero, List.take_of_length_le (by omega)], ?_⟩
      conv => whnf
      rw [i64n n (by omega)]
      refine hS _ _ _ _ <| u0 _ fun L0 hL0 => ?_
      conv => whnf
      have q8 : IntKind.u8.wrap ((n : Int).tdiv 8) = ((n / 8 : Nat) : Int) := by
        rw [show (n : Int).tdiv 8 = ((n / 8 : Nat) : Int) from (Int.ofNat_tdiv n 8).symm, wrap8]; omega
      have r8 : (n : Int).tmod 8 = ((n % 8 : Nat) : Int) := tmodN n 8
      have m8 : min (((n % 8 : Nat) : Int).toNat) IntKind.u8.bits = n % 8 := by simp only [IntKind.bits]; omega
      refine ⟨by decide, ?_⟩
      conv => whnf
      rw [q8]
      refine ⟨by omega, by omega, ?_⟩
      conv => whnf
      rw [show 0 + (((n / 8 : Nat) : Int)).toNat = n / 8 by omega]
      refine ⟨_, g0, ?_⟩
      conv => whnf
      refine ⟨by decide, ?_⟩
      conv => whnf
      rw [r8]
      refine ⟨by omega, ?_⟩
      conv => whnf
      rw [m8, c0]
      refine ⟨by omega, by omega, ?_⟩
      try (show aNext _ _ _ _ _)
      try rw [aNext_eq]
      refine aOps_hide 1 fun KK hKK => ?_
      conv => whnf
      rw [show 0 + (((n / 8 : Nat) : Int)).toNat = n / 8 by omega]
      refine ⟨Nat.one_pos, _, g0, Nat.le_refl 1, ?_⟩
      conv => whnf
      refine hKK _ ?_
      conv => whnf
      refine ⟨kz, by rw [List.drop_zero, ← e0]; exact List.take_of_length_le (by rw [List.length_set]; omega), ?_⟩
      conv => whnf
      rw [i64n n (by omega), show (n : Int) + 1 = ((n + 1 : Nat) : Int) by omega, i64n _ (by omega)]
      refine hS _ _ _ _ <| u1 _ fun L1 hL1 => ?_
      conv => whnf
      have g1' : ((bytesIV r).set (n / 8) [IV.int .u8 (vz : Int)])[n / 8]? = some [IV.int .u8 (bo : Int)] := by rw [e0]; exact g1
      have e1' : ((bytesIV r).set (n / 8) [IV.int .u8 (vz : Int)]).set (n / 8) [IV.int .u8 (vo : Int)] = bytesIV ko := by rw [e0, e1]
      refine ⟨by decide, ?_⟩
      conv => whnf
      rw [q8]
      refine ⟨by omega, by omega, ?_⟩
      conv => whnf
      rw [show 0 + (((n / 8 : Nat) : Int)).toNat = n / 8 by omega]
      refine ⟨_, g1', ?_⟩
      conv => whnf
      refine ⟨by decide, ?_⟩
      conv => whnf
      rw [r8]
      refine ⟨by omega, ?_⟩
      conv => whnf
      rw [m8, c1]
      refine ⟨by omega, by omega, ?_⟩
      try (show aNext _ _ _ _ _)
      try rw [aNext_eq]
      refine aOps_hide 1 fun KK hKK => ?_
      conv => whnf
      rw [show 0 + (((n / 8 : Nat) : Int)).toNat = n / 8 by omega]
      refine ⟨Nat.one_pos, _, g1', Nat.le_refl 1, ?_⟩
      conv => whnf
      refine hKK _ ?_
      conv => whnf
      refine ⟨ko, by rw [List.drop_zero, ← e1']; exact List.take_of_length_le (by rw [List.length_set, List.length_set]; omega), ?_⟩
      conv => whnf
      rw [i64n n (by omega), show (n : Int) + 1 = ((n + 1 : Nat) : Int) by omega, i64n _ (by omega)]
      refine hS _ _ _ _ <| u2 _ fun L2 hL2 => ?_
      conv => whnf
      subst hL0 hL1 hL2
      refine ⟨hza, ?_⟩
      conv => whnf
      refine ⟨rfl, by show (0 + (pl zl).length) * 32 ≤ 17592186044416; omega, ?_⟩
      try (show aNext _ _ _ _ _)
      try rw [aNext_eq]
      refine aOps_hide 2 fun KK hKK => ?_
      conv => whnf
      refine ⟨hoa, ?_⟩
      conv => whnf
      have hE1 : chunk 0 (E.td 63).size ([] : List IV) = [] := rfl
      rw [hE1, List.nil_append]
      refine ⟨by omega, by show ((pl zl).length + (pl ol).length) * 32 ≤ 17592186044416; omega, ?_⟩
      conv => whnf
      refine hKK _ ?_
      conv => whnf
      refine hS _ _ _ _ <| s1 _ _ hap (by show 0 + (pl zl).length + (pl ol).length = _; rw [List.length_append]; omega) _ ?_
      conv => whnf
      refine ⟨ko, by rw [List.drop_zero, ← e1']; exact List.take_of_length_le (by rw [List.length_set, List.length_set]; omega), ?_⟩
      conv => whnf
      refine hS _ _ _ _ <| u3 _ fun L3 hL3 => ?_
      rw [hL3]
      conv => whnf
      refine hS _ _ _ _ <| s2 _ ?_
      conv => whnf
    · refine mk {} (fn := Tryd.f9) Tryd.func9 (by kernel_rfl) (by kernel_rfl) (Nat.le_of_ble_eq_true (Eq.refl true)) fun S hS => ?_
      conv => whnf
      refine hS _ _ _ _ <| c_awake _ ?_
      conv => whnf
      refine hS _ _ _ _ <| sm _ ?_
      conv => whnf
      rw [decide_eq_true (show (key.size : Int) > 100 by omega)]
      conv => whnf
  · have sm := c_SmallF l 30 (by decide) hsm
    refine mk {} (fn := Tryd.f9) Tryd.func9 (by kernel_rfl) (by kernel_rfl) (Nat.le_of_ble_eq_true (Eq.refl true)) fun S hS => ?_
    conv => whnf
    refine hS _ _ _ _ <| c_awake _ ?_
    conv => whnf
    refine hS _ _ _ _ <| sm _ ?_
    conv => whnf
end Go.Proofs.YtkpmcdfmdfoheaaDoor
