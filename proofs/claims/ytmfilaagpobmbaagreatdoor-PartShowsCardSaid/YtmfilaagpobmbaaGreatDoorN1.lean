/- A part of the proof of a seat of parts: N1. -/
import Derived.Test.YtmfilaagpobmbaaGreatDoorE10
import Derived.Test.YtmfilaagpobmbaaGreatDoorE5
import Derived.Test.YtmfilaagpobmbaaGreatDoorM1
import Derived.Test.YtmfilaagpobmbaaGreatDoorM4
set_option linter.all false
namespace Go.Proofs.YtmfilaagpobmbaaGreatDoor
open Go Go.Abs
theorem made_vals : ∀ (l : List Act') {t : T} (_ : t.good) (_ : ∀ a ∈ l, okAct a) (_ : ∀ p ∈ t.pairs, p.2.size ≤ 100), ∀ p ∈ (l.foldl step t).pairs, p.2.size ≤ 100
  | [], t, _, _, h => h
  | a :: l, t, hg, hs, h => by
    have ha := hs a (by simp)
    refine made_vals l (step_good hg ha).1 (fun b hb => hs b (by simp [hb])) ?_
    intro p hp
    unfold step at hp
    split at hp
    · exact h p (((T.drop_spec (lawKey_size a.2.1) hg).2.1 p).1 hp).1
    · rcases ((T.put_spec (lawKey_size a.2.1) (show a.2.2.size < 1073741824 by have := ha.2; omega) hg).2.2.1 p).1 hp with rfl | h2
      · exact ha.2
      · exact h p h2.1
theorem made_vals' {l : List Act'} {n : Nat} (h : small l n) : ∀ p ∈ (made l).pairs, p.2.size ≤ 100 := made_vals l trivial h.2 (by simp [T.pairs])
theorem made_size {l : List Act'} {n : Nat} (hn : n ≤ 25) (h : small l n) (ks : List ByteArray) (us : List UP) : (showTx (made l) ks us).size ≤ 16777216 :=
  showTx_size (made_good h).1 (V := 100) (by decide) (made_vals' h) (n := n) (made_good h).2 (by omega) (by omega) ks us
theorem keysOf_len (ks : List ByteArray) : (keysOf ks).length = ks.length := by simp [keysOf]
theorem undersOf_len (us : List UP) : (undersOf us).length = us.length := by simp [undersOf]
/-- what is shown of what was made -/
theorem c_ShowM (l : List Act') (n : Nat) (hn : n ≤ 25) (h : small l n) (ks : List ByteArray) (us : List UP) (hok : askedOk ks us) (K : AV → List Blk → Prop) (hk : K (.tup [.i (.str (showTx (made l) (keysOf ks) (undersOf us))), .i (.bool true)]) []) :
    SP 17 [.i (tr (made l)), .i (.lst (sv (keysOf ks))), .i (.lst (uv (undersOf us)))] [] K := by
  refine c_ShowE _ _ (.inr rfl) _ (made_good h).1 (by have := (made_good h).2; omega) (fun p hp => by have := made_vals' h p hp; omega) _ (by rw [keysOf_len]; have := hok.1; omega) (by rw [undersOf_len]; have := hok.2.1; omega) (made_size hn h _ _) K (fun s hs => ?_)
  rw [hs]
  exact hk
set_option maxRecDepth 100000 in
set_option maxHeartbeats 4000000 in
theorem c_otherA (A B SK SU Kv Uv W1 W2 : List (List IV)) (t u pp : IV) (hu s : ByteArray) (op : Bool)
    (hk : ∀ K : AV → List Blk → Prop, K (.tup [.i (.lst Kv), .i (.lst Uv), .i (.bool true)]) [] → SP 14 [.agg [.imm (.lst SK), .imm (.lst SU)]] [] K)
    (h1 : ∀ K : AV → List Blk → Prop, K (.i (.bool true)) [] → SP 15 [.i (.lst A), .i (.int .i64 20)] [] K)
    (h2 : ∀ K : AV → List Blk → Prop, K (.i (.bool true)) [] → SP 15 [.i (.lst B), .i (.int .i64 20)] [] K)
    (m1 : ∀ K : AV → List Blk → Prop, K (.tup [.i t, .i (.lst W1)]) [] → SP 16 [.i (.lst A)] [] K)
    (m2 : ∀ K : AV → List Blk → Prop, K (.tup [.i u, .i (.lst W2)]) [] → SP 16 [.i (.lst B)] [] K)
    (sh : ∀ K : AV → List Blk → Prop, K (.tup [.i (.str s), .i (.bool true)]) [] → SP 17 [.i t, .i (.lst Kv), .i (.lst Uv)] [] K)
    (rt : ∀ K : AV → List Blk → Prop, K (.i (.str hu)) [] → SP 18 [.i u] [] K)
    (po : ∀ K : AV → List Blk → Prop, K (.tup [.i pp, .i (.bool op)]) [] → SP 9 [.i (.str hu), .i (.str s)] [] K)
    (sm : ∀ K : AV → List Blk → Prop, K (.i (.bool op)) [] → SP 19 [.i (.lst W1), .i (.lst W2)] [] K) :
    SP 4 [.i (.lst A), .i (.lst B), .agg [.imm (.lst SK), .imm (.lst SU)]] [] (fun r _ => r = .i (.bool true)) := by
  refine mk {frz := [5, 74]} (fn := Tryz.f4) Tryz.func4 (by kernel_rfl) (by kernel_rfl) (Nat.le_of_ble_eq_true (Eq.refl true)) fun S hS => ?_
  conv => whnf
  refine hS _ _ _ _ <| c_awake6 _ ?_
  conv => whnf
  refine hS _ _ _ _ <| hk _ ?_
  conv => whnf
  refine hS _ _ _ _ <| h1 _ ?_
  conv => whnf
  refine hS _ _ _ _ <| h2 _ ?_
  conv => whnf
  refine hS _ _ _ _ <| m1 _ ?_
  conv => whnf
  refine hS _ _ _ _ <| m2 _ ?_
  conv => whnf
  refine hS _ _ _ _ <| sh _ ?_
  conv => whnf
  refine hS _ _ _ _ <| rt _ ?_
  conv => whnf
  refine hS _ _ _ _ <| po _ ?_
  cases op
  all_goals
    conv => whnf
    refine hS _ _ _ _ <| sm _ ?_
    conv => whnf
end Go.Proofs.YtmfilaagpobmbaaGreatDoor
