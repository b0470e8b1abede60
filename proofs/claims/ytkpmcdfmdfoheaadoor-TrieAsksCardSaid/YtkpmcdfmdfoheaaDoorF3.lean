/- A part of the proof of a seat of tries: F3. -/
import Derived.Test.YtkpmcdfmdfoheaaDoorE6
import Derived.Test.YtkpmcdfmdfoheaaDoorF1
set_option linter.all false
namespace Go.Proofs.YtkpmcdfmdfoheaaDoor
open Go Go.Abs
theorem c_Made' (l : List Act') (n : Nat) (hn : n < 1000) (h : small l n) (K : AV → List Blk → Prop) (hk : K (.tup [.i (tr (made l)), .i (.lst (pl (made l).pairs))]) []) : SP 12 [.i (.lst (acL l))] [] K :=
  c_Made l n hn h K fun t ht => by rw [ht]; exact hk
set_option maxRecDepth 100000 in
theorem c_TrieKeeps (a b : List Act') : SP 7 [.i (.lst (acL a)), .i (.lst (acL b))] [] (fun r _ => r = .i (.bool true)) := by
  by_cases hsa : small a 25
  · have sa := c_SmallT a 25 (by decide) hsa
    by_cases hsb : small b 25
    · have sb := c_SmallT b 25 (by decide) hsb
      have md := c_Made' a 25 (by decide) hsa
      obtain ⟨tg, tl⟩ := made_good hsa
      generalize made a = t at md tg tl
      have rt := c_Root t
      have al := c_All t tg (by omega)
      have sm := c_SameT t.pairs (by omega)
      have ln := c_Len t
      have hpl := pl_len t.pairs
      have hla := acL_len b
      have hga := acL_get b
      have hb1 := hsb.1
      have u0 : ∀ X : IV → Prop, X (tr t) → X (tr t) := fun _ h => h
      have al : ∀ K : AV → List Blk → Prop, K (.i (.lst (pl t.pairs))) [] → SP 23 [.i (tr t)] [] K := fun K hK => al K fun L hL => by rw [hL]; exact hK
      generalize htr : tr t = xt at md rt al ln
      generalize t.hash = ht at rt
      generalize pl t.pairs = y at md al sm hpl
      generalize acL a = A at sa md ⊢
      generalize acL b = B at sb hla hga ⊢
      refine mk {keep := [(9, [5,6,7,8,29,30,31])]} (fn := Tryd.f7) Tryd.func7 (by kernel_rfl) (by kernel_rfl) (Nat.le_of_ble_eq_true (Eq.refl true)) fun S hS => ?_
      conv => whnf
      refine hS _ _ _ _ <| c_awake _ ?_
      conv => whnf
      refine hS _ _ _ _ <| sa _ ?_
      conv => whnf
      refine hS _ _ _ _ <| sb _ ?_
      conv => whnf
      refine hS _ _ _ _ <| md _ ?_
      conv => whnf
      refine hS _ _ _ _ <| rt _ ?_
      conv => whnf
      intro X hX
      have go : ∀ (d i : Nat), i + d = b.length → ∀ u : T, u.good → u.pairs.length ≤ 25 + i → frK (kfr 68 [(5, .i xt), (6, .i (.lst y)), (7, .i (.str ht)), (8, .i (tr u)), (29, .i (.lst B)), (30, .i (.int .i64 (B.length : Int))), (31, .i (.int .i64 (i : Int)))] []) X := by
        intro d
        induction d with
        | zero =>
          intro i hi u ug ul
          generalize tr u = xu
          conv => whnf
          apply hX
          conv => whnf
          rw [decide_eq_false (show ¬ ((i : Int) < (B.length : Int)) by omega)]
          conv => whnf
          refine hS _ _ _ _ <| rt _ ?_
          conv => whnf
          rw [beq_ba, decide_eq_true rfl]
          conv => whnf
          refine hS _ _ _ _ <| al _ ?_
          conv => whnf
          refine hS _ _ _ _ <| sm _ ?_
          conv => whnf
          refine hS _ _ _ _ <| ln _ ?_
          conv => whnf
          rw [hpl, show ((t.pairs.length : Int) == (t.pairs.length : Int)) = true by simp]
        | succ d ih =>
          intro i hi u ug ul
          have hi' : i < b.length := by omega
          have hok := hsb.2 b[i] (List.getElem_mem hi')
          obtain ⟨h2, h3⟩ := hok
          have hsg := step_good ug (hsb.2 b[i] (List.getElem_mem hi'))
          have hih := ih (i + 1) (by omega) (step u b[i]) hsg.1 (by omega)
          have ks := lawKey_size b[i].2.1
          have k1 := c_Key b[i].2.1 (show b[i].2.1.size < 1000000000 by omega)
          by_cases hwh : b[i].1 = 1
          · have es : step u b[i] = (u.drop (lawKey b[i].2.1)).1 := by unfold step; rw [if_pos hwh]
            have d1 := c_Del u ug (show u.pairs.length < 1000000000 by omega) (lawKey b[i].2.1) ks
            rw [es] at hih
            generalize (u.drop (lawKey b[i].2.1)).1 = u' at *
            generalize lawKey b[i].2.1 = k at *
            generalize tr u' = x' at *
            generalize tr u = x at *
            conv => whnf
            apply hX
            conv => whnf
            rw [decide_eq_true (show (i : Int) < (B.length : Int) by omega)]
            conv => whnf
            refine ⟨_, by omega, hga i hi', rfl, ?_⟩
            conv => whnf
            rw [show (b[i].1 == 1) = true by simp [hwh]]
            conv => whnf
            refine hS _ _ _ _ <| k1 _ fun r hr => ?_
            subst hr
            conv => whnf
            refine hS _ _ _ _ <| d1 _ fun r hr => ?_
            subst hr
            conv => whnf
            rw [show (i : Int) + 1 = ((i + 1 : Nat) : Int) by omega, i64n _ (by omega)]
            exact hih
          · have es : step u b[i] = (u.put (lawKey b[i].2.1) b[i].2.2).1 := by unfold step; rw [if_neg hwh]
            have hv : b[i].2.2.size < 1073741824 := by omega
            have d1 := c_Put u ug (show u.pairs.length < 1000000000 by omega) (lawKey b[i].2.1) b[i].2.2 ks hv
            rw [es] at hih
            generalize (u.put (lawKey b[i].2.1) b[i].2.2).1 = u' at *
            generalize lawKey b[i].2.1 = k at *
            generalize tr u' = x' at *
            generalize tr u = x at *
            conv => whnf
            apply hX
            conv => whnf
            rw [decide_eq_true (show (i : Int) < (B.length : Int) by omega)]
            conv => whnf
            refine ⟨_, by omega, hga i hi', rfl, ?_⟩
            conv => whnf
            rw [show (b[i].1 == 1) = false by simp [hwh]]
            conv => whnf
            refine ⟨.i (.str k), hS _ _ _ _ <| k1 _ (fun u hu => ⟨by rw [hu], rfl⟩), rfl, ?_⟩
            conv => whnf
            refine ⟨.i x', hS _ _ _ _ <| d1 _ (fun u hu => ⟨by rw [hu], rfl⟩), rfl, ?_⟩
            conv => whnf
            rw [show (i : Int) + 1 = ((i + 1 : Nat) : Int) by omega, i64n _ (by omega)]
            exact hih
      have h0 := go b.length 0 (by omega) t tg (by omega)
      rw [htr] at h0
      exact h0
    · have sb := c_SmallF b 25 (by decide) hsb
      generalize acL a = A at *
      generalize acL b = B at *
      refine mk {keep := [(9, [5,6,7,8,29,30,31])]} (fn := Tryd.f7) Tryd.func7 (by kernel_rfl) (by kernel_rfl) (Nat.le_of_ble_eq_true (Eq.refl true)) fun S hS => ?_
      conv => whnf
      refine hS _ _ _ _ <| c_awake _ ?_
      conv => whnf
      refine hS _ _ _ _ <| sa _ ?_
      conv => whnf
      refine hS _ _ _ _ <| sb _ ?_
      conv => whnf
  · have sa := c_SmallF a 25 (by decide) hsa
    generalize acL a = A at *
    generalize acL b = B at *
    refine mk {keep := [(9, [5,6,7,8,29,30,31])]} (fn := Tryd.f7) Tryd.func7 (by kernel_rfl) (by kernel_rfl) (Nat.le_of_ble_eq_true (Eq.refl true)) fun S hS => ?_
    conv => whnf
    refine hS _ _ _ _ <| c_awake _ ?_
    conv => whnf
    refine hS _ _ _ _ <| sa _ ?_
    conv => whnf
end Go.Proofs.YtkpmcdfmdfoheaaDoor
