/- A part of the proof of a seat of parts: N1, N2, N3. -/
import Derived.Test.YtmfilaagpobmbaaGreatDoorE10
import Derived.Test.YtmfilaagpobmbaaGreatDoorE5
import Derived.Test.YtmfilaagpobmbaaGreatDoorM1
import Derived.Test.YtmfilaagpobmbaaGreatDoorM4
set_option linter.all false
namespace Go.Proofs.YtmfilaagpobmbaaGreatDoor
open Go Go.Abs
theorem made_vals : ∀ (l : List Act') {t : T} (_ : t.good) (_ : ∀ a ∈ l, okAct a) (_ : ∀ p ∈ t.pairs, p.2.size ≤ 100), ∀ p ∈ (l.foldl step t).pairs, p.2.size ≤ 100
  | [], t, _, _, h => h
  | a :: l, t, hg, hs, h => by
    have ha := hs a (by simp)
    refine made_vals l (step_good hg ha).1 (fun b hb => hs b (by simp [hb])) ?_
    intro p hp
    unfold step at hp
    split at hp
    · exact h p (((T.drop_spec (lawKey_size a.2.1) hg).2.1 p).1 hp).1
    · rcases ((T.put_spec (lawKey_size a.2.1) (show a.2.2.size < 1073741824 by have := ha.2; omega) hg).2.2.1 p).1 hp with rfl | h2
      · exact ha.2
      · exact h p h2.1
theorem made_vals' {l : List Act'} {n : Nat} (h : small l n) : ∀ p ∈ (made l).pairs, p.2.size ≤ 100 := made_vals l trivial h.2 (by simp [T.pairs])
theorem made_size {l : List Act'} {n : Nat} (hn : n ≤ 25) (h : small l n) (ks : List ByteArray) (us : List UP) : (showTx (made l) ks us).size ≤ 16777216 :=
  showTx_size (made_good h).1 (V := 100) (by decide) (made_vals' h) (n := n) (made_good h).2 (by omega) (by omega) ks us
theorem keysOf_len (ks : List ByteArray) : (keysOf ks).length = ks.length := by simp [keysOf]
theorem undersOf_len (us : List UP) : (undersOf us).length = us.length := by simp [undersOf]
/-- what is shown of what was made -/
theorem c_ShowM (l : List Act') (n : Nat) (hn : n ≤ 25) (h : small l n) (ks : List ByteArray) (us : List UP) (hok : askedOk ks us) (K : AV → List Blk → Prop) (hk : K (.tup [.i (.str (showTx (made l) (keysOf ks) (undersOf us))), .i (.bool true)]) []) :
    SP 17 [.i (tr (made l)), .i (.lst (sv (keysOf ks))), .i (.lst (uv (undersOf us)))] [] K := by
  refine c_ShowE _ _ (.inr rfl) _ (made_good h).1 (by have := (made_good h).2; omega) (fun p hp => by have := made_vals' h p hp; omega) _ (by rw [keysOf_len]; have := hok.1; omega) (by rw [undersOf_len]; have := hok.2.1; omega) (made_size hn h _ _) K (fun s hs => ?_)
  rw [hs]
  exact hk
set_option maxRecDepth 100000 in
set_option maxHeartbeats 4000000 in
theorem c_otherA (A B SK SU Kv Uv W1 W2 : List (List IV)) (t u pp : IV) (hu s : ByteArray) (op : Bool)
    (hk : ∀ K : AV → List Blk → Prop, K (.tup [.i (.lst Kv), .i (.lst Uv), .i (.bool true)]) [] → SP 14 [.agg [.imm (.lst SK), .imm (.lst SU)]] [] K)
    (h1 : ∀ K : AV → List Blk → Prop, K (.i (.bool true)) [] → SP 15 [.i (.lst A), .i (.int .i64 20)] [] K)
    (h2 : ∀ K : AV → List Blk → Prop, K (.i (.bool true)) [] → SP 15 [.i (.lst B), .i (.int .i64 20)] [] K)
    (m1 : ∀ K : AV → List Blk → Prop, K (.tup [.i t, .i (.lst W1)]) [] → SP 16 [.i (.lst A)] [] K)
    (m2 : ∀ K : AV → List Blk → Prop, K (.tup [.i u, .i (.lst W2)]) [] → SP 16 [.i (.lst B)] [] K)
    (sh : ∀ K : AV → List Blk → Prop, K (.tup [.i (.str s), .i (.bool true)]) [] → SP 17 [.i t, .i (.lst Kv), .i (.lst Uv)] [] K)
    (rt : ∀ K : AV → List Blk → Prop, K (.i (.str hu)) [] → SP 18 [.i u] [] K)
    (po : ∀ K : AV → List Blk → Prop, K (.tup [.i pp, .i (.bool op)]) [] → SP 9 [.i (.str hu), .i (.str s)] [] K)
    (sm : ∀ K : AV → List Blk → Prop, K (.i (.bool op)) [] → SP 19 [.i (.lst W1), .i (.lst W2)] [] K) :
    SP 4 [.i (.lst A), .i (.lst B), .agg [.imm (.lst SK), .imm (.lst SU)]] [] (fun r _ => r = .i (.bool true)) := by
  refine mk {frz := [5, 74]} (fn := Tryz.f4) Tryz.func4 (by kernel_rfl) (by kernel_rfl) (Nat.le_of_ble_eq_true (Eq.refl true)) fun S hS => ?_
  conv => whnf
  refine hS _ _ _ _ <| c_awake6 _ ?_
  conv => whnf
  refine hS _ _ _ _ <| hk _ ?_
  conv => whnf
  refine hS _ _ _ _ <| h1 _ ?_
  conv => whnf
  refine hS _ _ _ _ <| h2 _ ?_
  conv => whnf
  refine hS _ _ _ _ <| m1 _ ?_
  conv => whnf
  refine hS _ _ _ _ <| m2 _ ?_
  conv => whnf
  refine hS _ _ _ _ <| sh _ ?_
  conv => whnf
  refine hS _ _ _ _ <| rt _ ?_
  conv => whnf
  refine hS _ _ _ _ <| po _ ?_
  cases op
  all_goals
    conv => whnf
    refine hS _ _ _ _ <| sm _ ?_
    conv => whnf
end Go.Proofs.YtmfilaagpobmbaaGreatDoor

namespace Go.Proofs.YtmfilaagpobmbaaGreatDoor
open Go Go.Abs
set_option maxRecDepth 100000 in
set_option maxHeartbeats 4000000 in
theorem c_otherC (A B SK SU Kv Uv W1 W2 U V : List (List IV)) (n m : Nat) (t u pp : IV) (hu s : ByteArray)
    (hk : ∀ K : AV → List Blk → Prop, K (.tup [.i (.lst Kv), .i (.lst Uv), .i (.bool true)]) [] → SP 14 [.agg [.imm (.lst SK), .imm (.lst SU)]] [] K)
    (h1 : ∀ K : AV → List Blk → Prop, K (.i (.bool true)) [] → SP 15 [.i (.lst A), .i (.int .i64 20)] [] K)
    (h2 : ∀ K : AV → List Blk → Prop, K (.i (.bool true)) [] → SP 15 [.i (.lst B), .i (.int .i64 20)] [] K)
    (m1 : ∀ K : AV → List Blk → Prop, K (.tup [.i t, .i (.lst W1)]) [] → SP 16 [.i (.lst A)] [] K)
    (m2 : ∀ K : AV → List Blk → Prop, K (.tup [.i u, .i (.lst W2)]) [] → SP 16 [.i (.lst B)] [] K)
    (sh : ∀ K : AV → List Blk → Prop, K (.tup [.i (.str s), .i (.bool true)]) [] → SP 17 [.i t, .i (.lst Kv), .i (.lst Uv)] [] K)
    (rt : ∀ K : AV → List Blk → Prop, K (.i (.str hu)) [] → SP 18 [.i u] [] K)
    (po : ∀ K : AV → List Blk → Prop, K (.tup [.i pp, .i (.bool true)]) [] → SP 9 [.i (.str hu), .i (.str s)] [] K)
    (sm : ∀ K : AV → List Blk → Prop, K (.i (.bool false)) [] → SP 19 [.i (.lst W1), .i (.lst W2)] [] K)
    (hn : n = U.length) (tt : ∀ K : AV → List Blk → Prop, (∀ n1 L g, L = U → n1 = n → K (.one (.sl 0 0 n1)) [.vec 1 L g]) → SP 21 [.i (.lst W1)] [] K)
    (hm : m = V.length) (tu : ∀ K : AV → List Blk → Prop, (∀ n1 L g, L = V → n1 = m → K (.one (.sl 0 0 n1)) [.vec 1 L g]) → SP 21 [.i (.lst W2)] [] K)
    (cc : ∀ K : AV → List Blk → Prop, K (.i (.bool true)) [] → SP 20 [.i (.lst [[.lst U], [.lst V]])] [] K) :
    SP 4 [.i (.lst A), .i (.lst B), .agg [.imm (.lst SK), .imm (.lst SU)]] [] (fun r _ => r = .i (.bool true)) := by
  refine mk {frz := [5, 74]} (fn := Tryz.f4) Tryz.func4 (by kernel_rfl) (by kernel_rfl) (Nat.le_of_ble_eq_true (Eq.refl true)) fun S hS => ?_
  conv => whnf
  refine hS _ _ _ _ <| c_awake6 _ ?_
  conv => whnf
  refine hS _ _ _ _ <| hk _ ?_
  conv => whnf
  refine hS _ _ _ _ <| h1 _ ?_
  conv => whnf
  refine hS _ _ _ _ <| h2 _ ?_
  conv => whnf
  refine hS _ _ _ _ <| m1 _ ?_
  conv => whnf
  refine hS _ _ _ _ <| m2 _ ?_
  conv => whnf
  refine hS _ _ _ _ <| sh _ ?_
  conv => whnf
  refine hS _ _ _ _ <| rt _ ?_
  conv => whnf
  refine hS _ _ _ _ <| po _ ?_
  conv => whnf
  refine hS _ _ _ _ <| sm _ ?_
  conv => whnf
  refine hS _ _ _ _ <| tt _ fun n1 L1 g1 hL1 hn1 => ?_
  rw [hL1, hn1]
  cases g1
  all_goals
    conv => whnf
    refine hS _ _ _ _ <| tu _ fun n2 L2 g2 hL2 hn2 => ?_
    rw [hL2, hn2]
    cases g2
    all_goals
      conv => whnf
      rw [show (U.drop 0).take n = U by rw [List.drop_zero]; exact List.take_of_length_le (by omega), show (V.drop 0).take m = V by rw [List.drop_zero]; exact List.take_of_length_le (by omega)]
      refine hS _ _ _ _ <| cc _ ?_
      conv => whnf
set_option maxRecDepth 100000 in
set_option maxHeartbeats 4000000 in
theorem c_otherL (A B SK SU Kv Uv W2 V : List (List IV)) (m : Nat) (t u pp : IV) (hu s : ByteArray)
    (hk : ∀ K : AV → List Blk → Prop, K (.tup [.i (.lst Kv), .i (.lst Uv), .i (.bool true)]) [] → SP 14 [.agg [.imm (.lst SK), .imm (.lst SU)]] [] K)
    (h1 : ∀ K : AV → List Blk → Prop, K (.i (.bool true)) [] → SP 15 [.i (.lst A), .i (.int .i64 20)] [] K)
    (h2 : ∀ K : AV → List Blk → Prop, K (.i (.bool true)) [] → SP 15 [.i (.lst B), .i (.int .i64 20)] [] K)
    (m1 : ∀ K : AV → List Blk → Prop, K (.tup [.i t, .i (.lst [])]) [] → SP 16 [.i (.lst A)] [] K)
    (m2 : ∀ K : AV → List Blk → Prop, K (.tup [.i u, .i (.lst W2)]) [] → SP 16 [.i (.lst B)] [] K)
    (sh : ∀ K : AV → List Blk → Prop, K (.tup [.i (.str s), .i (.bool true)]) [] → SP 17 [.i t, .i (.lst Kv), .i (.lst Uv)] [] K)
    (rt : ∀ K : AV → List Blk → Prop, K (.i (.str hu)) [] → SP 18 [.i u] [] K)
    (po : ∀ K : AV → List Blk → Prop, K (.tup [.i pp, .i (.bool true)]) [] → SP 9 [.i (.str hu), .i (.str s)] [] K)
    (sm : ∀ K : AV → List Blk → Prop, K (.i (.bool false)) [] → SP 19 [.i (.lst []), .i (.lst W2)] [] K)
    (hm : m = V.length) (tu : ∀ K : AV → List Blk → Prop, (∀ n1 L g, L = V → n1 = m → K (.one (.sl 0 0 n1)) [.vec 1 L g]) → SP 21 [.i (.lst W2)] [] K)
    (cc : ∀ K : AV → List Blk → Prop, K (.i (.bool true)) [] → SP 20 [.i (.lst [[.lst []], [.lst V]])] [] K) :
    SP 4 [.i (.lst A), .i (.lst B), .agg [.imm (.lst SK), .imm (.lst SU)]] [] (fun r _ => r = .i (.bool true)) := by
  refine mk {frz := [5, 74]} (fn := Tryz.f4) Tryz.func4 (by kernel_rfl) (by kernel_rfl) (Nat.le_of_ble_eq_true (Eq.refl true)) fun S hS => ?_
  conv => whnf
  refine hS _ _ _ _ <| c_awake6 _ ?_
  conv => whnf
  refine hS _ _ _ _ <| hk _ ?_
  conv => whnf
  refine hS _ _ _ _ <| h1 _ ?_
  conv => whnf
  refine hS _ _ _ _ <| h2 _ ?_
  conv => whnf
  refine hS _ _ _ _ <| m1 _ ?_
  conv => whnf
  refine hS _ _ _ _ <| m2 _ ?_
  conv => whnf
  refine hS _ _ _ _ <| sh _ ?_
  conv => whnf
  refine hS _ _ _ _ <| rt _ ?_
  conv => whnf
  refine hS _ _ _ _ <| po _ ?_
  conv => whnf
  refine hS _ _ _ _ <| sm _ ?_
  conv => whnf
  refine hS _ _ _ _ <| c_TextsN _ ?_
  conv => whnf
  refine hS _ _ _ _ <| tu _ fun n2 L2 g2 hL2 hn2 => ?_
  rw [hL2, hn2]
  cases g2
  all_goals
    conv => whnf
    rw [show (V.drop 0).take m = V by rw [List.drop_zero]; exact List.take_of_length_le (by omega)]
    refine hS _ _ _ _ <| cc _ ?_
    conv => whnf
set_option maxRecDepth 100000 in
set_option maxHeartbeats 4000000 in
theorem c_otherR (A B SK SU Kv Uv W1 U : List (List IV)) (n : Nat) (t u pp : IV) (hu s : ByteArray)
    (hk : ∀ K : AV → List Blk → Prop, K (.tup [.i (.lst Kv), .i (.lst Uv), .i (.bool true)]) [] → SP 14 [.agg [.imm (.lst SK), .imm (.lst SU)]] [] K)
    (h1 : ∀ K : AV → List Blk → Prop, K (.i (.bool true)) [] → SP 15 [.i (.lst A), .i (.int .i64 20)] [] K)
    (h2 : ∀ K : AV → List Blk → Prop, K (.i (.bool true)) [] → SP 15 [.i (.lst B), .i (.int .i64 20)] [] K)
    (m1 : ∀ K : AV → List Blk → Prop, K (.tup [.i t, .i (.lst W1)]) [] → SP 16 [.i (.lst A)] [] K)
    (m2 : ∀ K : AV → List Blk → Prop, K (.tup [.i u, .i (.lst [])]) [] → SP 16 [.i (.lst B)] [] K)
    (sh : ∀ K : AV → List Blk → Prop, K (.tup [.i (.str s), .i (.bool true)]) [] → SP 17 [.i t, .i (.lst Kv), .i (.lst Uv)] [] K)
    (rt : ∀ K : AV → List Blk → Prop, K (.i (.str hu)) [] → SP 18 [.i u] [] K)
    (po : ∀ K : AV → List Blk → Prop, K (.tup [.i pp, .i (.bool true)]) [] → SP 9 [.i (.str hu), .i (.str s)] [] K)
    (sm : ∀ K : AV → List Blk → Prop, K (.i (.bool false)) [] → SP 19 [.i (.lst W1), .i (.lst [])] [] K)
    (hn : n = U.length) (tt : ∀ K : AV → List Blk → Prop, (∀ n1 L g, L = U → n1 = n → K (.one (.sl 0 0 n1)) [.vec 1 L g]) → SP 21 [.i (.lst W1)] [] K)
    (cc : ∀ K : AV → List Blk → Prop, K (.i (.bool true)) [] → SP 20 [.i (.lst [[.lst U], [.lst []]])] [] K) :
    SP 4 [.i (.lst A), .i (.lst B), .agg [.imm (.lst SK), .imm (.lst SU)]] [] (fun r _ => r = .i (.bool true)) := by
  refine mk {frz := [5, 74]} (fn := Tryz.f4) Tryz.func4 (by kernel_rfl) (by kernel_rfl) (Nat.le_of_ble_eq_true (Eq.refl true)) fun S hS => ?_
  conv => whnf
  refine hS _ _ _ _ <| c_awake6 _ ?_
  conv => whnf
  refine hS _ _ _ _ <| hk _ ?_
  conv => whnf
  refine hS _ _ _ _ <| h1 _ ?_
  conv => whnf
  refine hS _ _ _ _ <| h2 _ ?_
  conv => whnf
  refine hS _ _ _ _ <| m1 _ ?_
  conv => whnf
  refine hS _ _ _ _ <| m2 _ ?_
  conv => whnf
  refine hS _ _ _ _ <| sh _ ?_
  conv => whnf
  refine hS _ _ _ _ <| rt _ ?_
  conv => whnf
  refine hS _ _ _ _ <| po _ ?_
  conv => whnf
  refine hS _ _ _ _ <| sm _ ?_
  conv => whnf
  refine hS _ _ _ _ <| tt _ fun n1 L1 g1 hL1 hn1 => ?_
  rw [hL1, hn1]
  cases g1
  all_goals
    conv => whnf
    refine hS _ _ _ _ <| c_TextsN _ ?_
    conv => whnf
    rw [show (U.drop 0).take n = U by rw [List.drop_zero]; exact List.take_of_length_le (by omega)]
    refine hS _ _ _ _ <| cc _ ?_
    conv => whnf
set_option maxRecDepth 100000 in
set_option maxHeartbeats 4000000 in
theorem c_otherF (A B SK SU Kv Uv : List (List IV)) (a b c : Bool) (h : (a && b && c) = false)
    (hk : ∀ K : AV → List Blk → Prop, K (.tup [.i (.lst Kv), .i (.lst Uv), .i (.bool c)]) [] → SP 14 [.agg [.imm (.lst SK), .imm (.lst SU)]] [] K)
    (h1 : ∀ K : AV → List Blk → Prop, K (.i (.bool a)) [] → SP 15 [.i (.lst A), .i (.int .i64 20)] [] K)
    (h2 : ∀ K : AV → List Blk → Prop, K (.i (.bool b)) [] → SP 15 [.i (.lst B), .i (.int .i64 20)] [] K) :
    SP 4 [.i (.lst A), .i (.lst B), .agg [.imm (.lst SK), .imm (.lst SU)]] [] (fun r _ => r = .i (.bool true)) := by
  refine mk {frz := [5, 74]} (fn := Tryz.f4) Tryz.func4 (by kernel_rfl) (by kernel_rfl) (Nat.le_of_ble_eq_true (Eq.refl true)) fun S hS => ?_
  conv => whnf
  refine hS _ _ _ _ <| c_awake6 _ ?_
  conv => whnf
  refine hS _ _ _ _ <| hk _ ?_
  conv => whnf
  refine hS _ _ _ _ <| h1 _ ?_
  cases a
  · conv => whnf
  · cases b
    · conv => whnf
      refine hS _ _ _ _ <| h2 _ ?_
      conv => whnf
    · cases c
      · conv => whnf
        refine hS _ _ _ _ <| h2 _ ?_
        conv => whnf
      · cases h
end Go.Proofs.YtmfilaagpobmbaaGreatDoor

namespace Go.Proofs.YtmfilaagpobmbaaGreatDoor
open Go Go.Abs
theorem c_OpenNo {t : T} (hg : t.good) (hv : ∀ p ∈ t.pairs, p.2.size < 268435456) (hl : t.pairs.length < 100000) (ks : List ByteArray) (us : List UP) (hs : (showTx t ks us).size ≤ 16777216) (root : ByteArray) (hr : t.hash ≠ root) (K : AV → List Blk → Prop) (hk : K (.tup [.i .nilp, .i (.bool false)]) []) :
    SP 9 [.i (.str root), .i (.str (showTx t ks us))] [] K := by
  have e := treeOf_show hg hv hl ks us
  refine c_POpen root (showTx t ks us) hs K (fun p hp hq => ?_) (fun _ => hk)
  rw [e] at hp
  simp only [Option.some.injEq] at hp
  subst hp
  exact absurd ((rootP_part t ks us).symm.trans hq) hr
theorem c_PartOther (a b : List Act') (ks : List ByteArray) (us : List UP) :
    SP 4 [.i (.lst (acL a)), .i (.lst (acL b)), .agg [.imm (.lst (sv ks)), .imm (.lst (uv us))]] [] (fun r _ => r = .i (.bool true)) := by
  by_cases ha : small a 20
  case neg =>
    by_cases hb : small b 20
    all_goals
      by_cases hok : askedOk ks us
    · exact c_otherF _ _ _ _ _ _ false true true rfl (fun K hK => c_keysT ks us hok K fun A B hA hB => by rw [hA, hB]; exact hK) (fun K hK => c_SmallF a 20 (by decide) ha K hK) (fun K hK => c_SmallT b 20 (by decide) hb K hK)
    · exact c_otherF _ _ _ _ _ _ false true false rfl (fun K hK => c_keysF ks us hok K hK) (fun K hK => c_SmallF a 20 (by decide) ha K hK) (fun K hK => c_SmallT b 20 (by decide) hb K hK)
    · exact c_otherF _ _ _ _ _ _ false false true rfl (fun K hK => c_keysT ks us hok K fun A B hA hB => by rw [hA, hB]; exact hK) (fun K hK => c_SmallF a 20 (by decide) ha K hK) (fun K hK => c_SmallF b 20 (by decide) hb K hK)
    · exact c_otherF _ _ _ _ _ _ false false false rfl (fun K hK => c_keysF ks us hok K hK) (fun K hK => c_SmallF a 20 (by decide) ha K hK) (fun K hK => c_SmallF b 20 (by decide) hb K hK)
  by_cases hb : small b 20
  case neg =>
    by_cases hok : askedOk ks us
    · exact c_otherF _ _ _ _ _ _ true false true rfl (fun K hK => c_keysT ks us hok K fun A B hA hB => by rw [hA, hB]; exact hK) (fun K hK => c_SmallT a 20 (by decide) ha K hK) (fun K hK => c_SmallF b 20 (by decide) hb K hK)
    · exact c_otherF _ _ _ _ _ _ true false false rfl (fun K hK => c_keysF ks us hok K hK) (fun K hK => c_SmallT a 20 (by decide) ha K hK) (fun K hK => c_SmallF b 20 (by decide) hb K hK)
  by_cases hok : askedOk ks us
  case neg =>
    exact c_otherF _ _ _ _ _ _ true true false rfl (fun K hK => c_keysF ks us hok K hK) (fun K hK => c_SmallT a 20 (by decide) ha K hK) (fun K hK => c_SmallT b 20 (by decide) hb K hK)
  obtain ⟨tg, tl⟩ := made_good ha
  obtain ⟨ug, ul⟩ := made_good hb
  have hk := fun (K : AV → List Blk → Prop) (hK : K (.tup [.i (.lst (sv (keysOf ks))), .i (.lst (uv (undersOf us))), .i (.bool true)]) []) => c_keysT ks us hok K fun A B hA hB => by rw [hA, hB]; exact hK
  have h1 := fun K hK => c_SmallT a 20 (by decide) ha K hK
  have h2 := fun K hK => c_SmallT b 20 (by decide) hb K hK
  have m1 := fun (K : AV → List Blk → Prop) (hK : K (.tup [.i (tr (made a)), .i (.lst (pl (made a).pairs))]) []) => c_Made a 20 (by decide) ha K fun t ht => by rw [ht]; exact hK
  have m2 := fun (K : AV → List Blk → Prop) (hK : K (.tup [.i (tr (made b)), .i (.lst (pl (made b).pairs))]) []) => c_Made b 20 (by decide) hb K fun t ht => by rw [ht]; exact hK
  have sh := fun (K : AV → List Blk → Prop) (hK : K (.tup [.i (.str (showTx (made a) (keysOf ks) (undersOf us))), .i (.bool true)]) []) => c_ShowM a 20 (by decide) ha ks us hok K hK
  have rt := fun K hK => c_Root (made b) K hK
  have hv : ∀ p ∈ (made a).pairs, p.2.size < 268435456 := fun p hp => by have := made_vals' ha p hp; omega
  have hsz := made_size (show 20 ≤ 25 by decide) ha (keysOf ks) (undersOf us)
  by_cases hh : (made a).hash = (made b).hash
  case neg =>
    have hp : (made a).pairs ≠ (made b).pairs := fun e => hh (by rw [T.uniq tg ug e])
    exact c_otherA _ _ _ _ _ _ _ _ _ _ _ _ _ false hk h1 h2 m1 m2 sh rt (fun K hK => c_OpenNo tg hv (by omega) (keysOf ks) (undersOf us) hsz _ hh K hK) (fun K hK => c_SameF _ _ (by omega) hp K hK)
  have po := fun (K : AV → List Blk → Prop) (hK : K (.tup [.i (pv (partOf (made a) (keysOf ks) (undersOf us))), .i (.bool true)]) []) => c_OpenT tg hv (by omega) (keysOf ks) (undersOf us) hsz K hK
  rw [hh] at po
  by_cases he : (made a).pairs = (made b).pairs
  · have e := T.uniq tg ug he
    rw [← e] at m2 rt po
    refine c_otherA _ _ _ _ _ _ _ _ _ _ _ _ _ true hk h1 h2 m1 m2 sh rt po (fun K hK => c_SameT _ (by omega) K hK)
  have sm := fun K hK => c_SameF (made a).pairs (made b).pairs (by omega) he K hK
  have hne : made a ≠ made b := fun e => he (by rw [e])
  have cl := T.clash tg ug hne hh
  have hts : ∀ x ∈ (made a).texts ++ (made b).texts, x.size < 1073741824 := fun x hx => by
    rcases List.mem_append.1 hx with h | h
    · exact texts_size tg x h
    · exact texts_size ug x h
  have hne2 : (made a).texts ++ (made b).texts ≠ [] := fun e => by
    rw [e] at cl
    rcases cl with ⟨x, hx, _⟩ | ⟨x, hx, _⟩ <;> simp at hx
  have hlen : (made a).texts.length + (made b).texts.length < 100000 := by
    have h1 : (made a).texts.length ≤ 75 := by
      by_cases hn : made a = .nil
      · rw [hn]; exact Nat.zero_le _
      · have := texts_len tg hn; omega
    have h2 : (made b).texts.length ≤ 75 := by
      by_cases hn : made b = .nil
      · rw [hn]; exact Nat.zero_le _
      · have := texts_len ug hn; omega
    omega
  have cc := fun K hK => c_Clash (made a).texts (made b).texts hne2 hlen hts cl K hK
  by_cases tn : made a = .nil
  · have un : made b ≠ .nil := fun e => hne (tn.trans e.symm)
    have tu := c_Texts (made b) ug un (by omega)
    have e1 : pl (made a).pairs = [] := by rw [tn]; rfl
    have e2 : sv (made a).texts = [] := by rw [tn]; rfl
    rw [e1] at m1 sm
    rw [e2] at cc
    exact c_otherL _ _ _ _ _ _ _ _ _ _ _ _ _ _ hk h1 h2 m1 m2 sh rt po sm (sv_len _).symm tu cc
  · have tt := c_Texts (made a) tg tn (by omega)
    by_cases un : made b = .nil
    · have e1 : pl (made b).pairs = [] := by rw [un]; rfl
      have e2 : sv (made b).texts = [] := by rw [un]; rfl
      rw [e1] at m2 sm
      rw [e2] at cc
      exact c_otherR _ _ _ _ _ _ _ _ _ _ _ _ _ _ hk h1 h2 m1 m2 sh rt po sm (sv_len _).symm tt cc
    · have tu := c_Texts (made b) ug un (by omega)
      exact c_otherC _ _ _ _ _ _ _ _ _ _ _ _ _ _ _ _ _ hk h1 h2 m1 m2 sh rt po sm (sv_len _).symm tt (sv_len _).symm tu cc
end Go.Proofs.YtmfilaagpobmbaaGreatDoor
