/- A part of the proof of a seat of tries: F2. -/
import Derived.Test.YtkpmcdfmdfoheaaDoorBackPure
import Derived.Test.YtkpmcdfmdfoheaaDoorF1
set_option linter.all false
namespace Go.Proofs.YtkpmcdfmdfoheaaDoor
open Go Go.Abs
set_option maxRecDepth 100000 in
theorem c_TrieBack (l : List Act') (key val : ByteArray) : SP 4 [.i (.lst (acL l)), .i (.str key), .i (.str val)] [] (fun r _ => r = .i (.bool true)) := by
  by_cases hsm : small l 25
  · have sm := c_SmallT l 25 (by decide) hsm
    by_cases hs : key.size ≤ 100 ∧ val.size ≤ 100
    · obtain ⟨h1, h2⟩ := hs
      have hv : val.size < 1073741824 := by omega
      have md := c_Made l 25 (by decide) hsm
      obtain ⟨tg, tl⟩ := made_good hsm
      generalize made l = t at md tg tl
      have md : ∀ K : AV → List Blk → Prop, K (.tup [.i (tr t), .i (.lst (pl t.pairs))]) [] → SP 12 [.i (.lst (acL l))] [] K := fun K hK => md K fun t' ht' => by rw [ht']; exact hK
      have k1 := c_Key key (show key.size < 1000000000 by omega)
      have ks := lawKey_size key
      generalize lawKey key = k at k1 ks
      obtain ⟨ug, _, _, ul⟩ := T.put_spec ks hv tg
      have ul : (t.put k val).1.pairs.length ≤ 26 := by rw [ul]; split <;> omega
      have g1 := c_Get t tg k ks
      have p1 := c_Put t tg (show t.pairs.length < 1000000000 by omega) k val ks hv
      have f1 := back_get ks hv tg
      have f2 := @back_none k val ks hv t tg
      have f3 := @back_some k val ks hv t tg
      have f4 := back_twice ks hv tg
      have f5 := drop_twice ks ug
      have fv : ∀ v, t.get k = some v → v.size < 1073741824 := fun v hv => T.val_size tg _ ((T.get_iff tg v).1 hv)
      generalize (t.put k val).1 = u at *
      have g2 := c_Get u ug k ks
      rw [f1] at g2
      have d1 := c_Del u ug (show u.pairs.length < 1000000000 by omega) k ks
      obtain ⟨dg, _, dl, _⟩ := T.drop_spec ks ug
      have dl : (u.drop k).1.pairs.length ≤ 26 := by omega
      have p2 := c_Put u ug (show u.pairs.length < 1000000000 by omega) k val ks hv
      rw [f4] at p2
      have p3 := fun v hv => c_Put u ug (show u.pairs.length < 1000000000 by omega) k v ks hv
      have rt := c_Root t
      have ru := c_Root u
      have rd := c_Root (u.drop k).1
      have d2 := c_Del (u.drop k).1 dg (show (u.drop k).1.pairs.length < 1000000000 by omega) k ks
      rw [f5] at d2
      simp only [getR] at g2
      generalize hw : (u.drop k).1 = w at *
      have rb : t.get k = none → ∀ K, K (.i (.str t.hash)) [] → SP 14 [.i (tr w)] [] K := fun hn => by rw [f2 hn]; exact rt
      have p4 : ∀ v0, t.get k = some v0 → ∀ K, K (.i (tr t)) [] → SP 19 [.i (tr u), .i (.str k), .i (.str v0)] [] K := fun v0 h0 K hK => p3 v0 (fv v0 h0) K fun q hq => by rw [hq, f3 h0]; exact hK
      clear f1 f2 f3 f4 f5 p3 fv hw
      cases hg : t.get k with
      | none =>
        have rbk := rb hg
        rw [hg] at g1
        simp only [getR] at g1
        generalize pl t.pairs = y at *
        generalize tr t = xt at *
        generalize tr u = xu at *
        generalize tr w = xw at *
        generalize t.hash = ht at *
        generalize u.hash = hu at *
        generalize w.hash = hw at *
        refine mk {} (fn := Tryd.f4) Tryd.func4 (by kernel_rfl) (by kernel_rfl) (Nat.le_of_ble_eq_true (Eq.refl true)) fun S hS => ?_
        conv => whnf
        refine hS _ _ _ _ <| c_awake _ ?_
        conv => whnf
        refine hS _ _ _ _ <| sm _ ?_
        conv => whnf
        rw [decide_eq_false (show ¬ ((key.size : Int) > 100) by omega)]
        conv => whnf
        rw [decide_eq_false (show ¬ ((val.size : Int) > 100) by omega)]
        conv => whnf
        refine hS _ _ _ _ <| md _ ?_
        conv => whnf
        refine hS _ _ _ _ <| k1 _ fun r hr => ?_
        subst hr
        conv => whnf
        refine hS _ _ _ _ <| g1 _ fun r hr => ?_
        subst hr
        conv => whnf
        refine hS _ _ _ _ <| p1 _ fun r hr => ?_
        subst hr
        conv => whnf
        refine hS _ _ _ _ <| d1 _ fun r hr => ?_
        subst hr
        conv => whnf
        refine hS _ _ _ _ <| g2 _ fun r hr => ?_
        subst hr
        conv => whnf
        rw [beq_ba, decide_eq_true rfl]
        conv => whnf
        refine hS _ _ _ _ <| rbk _ ?_
        conv => whnf
        refine hS _ _ _ _ <| rt _ ?_
        try rw [aNext_eq]
        refine aOps_hide 3 fun KK hKK => ?_
        conv => whnf
        rw [beq_ba, decide_eq_true rfl]
        refine hKK _ ?_
        conv => whnf
        refine hS _ _ _ _ <| p2 _ fun r hr => ?_
        subst hr
        conv => whnf
        refine hS _ _ _ _ <| ru _ ?_
        conv => whnf
        refine hS _ _ _ _ <| ru _ ?_
        try rw [aNext_eq]
        refine aOps_hide 3 fun KK hKK => ?_
        conv => whnf
        rw [beq_ba, decide_eq_true rfl]
        refine hKK _ ?_
        conv => whnf
        refine hS _ _ _ _ <| d1 _ fun r hr => ?_
        subst hr
        conv => whnf
        refine hS _ _ _ _ <| d2 _ fun r hr => ?_
        subst hr
        conv => whnf
        refine hS _ _ _ _ <| rd _ ?_
        conv => whnf
        refine hS _ _ _ _ <| d1 _ fun r hr => ?_
        subst hr
        conv => whnf
        refine hS _ _ _ _ <| rd _ ?_
        conv => whnf
        rw [beq_ba, decide_eq_true rfl]
      | some v0 =>
        have p5 := p4 v0 hg
        rw [hg] at g1
        simp only [getR] at g1
        generalize pl t.pairs = y at *
        generalize tr t = xt at *
        generalize tr u = xu at *
        generalize tr w = xw at *
        generalize t.hash = ht at *
        generalize u.hash = hu at *
        generalize w.hash = hw at *
        have rbk := rt
        refine mk {} (fn := Tryd.f4) Tryd.func4 (by kernel_rfl) (by kernel_rfl) (Nat.le_of_ble_eq_true (Eq.refl true)) fun S hS => ?_
        conv => whnf
        refine hS _ _ _ _ <| c_awake _ ?_
        conv => whnf
        refine hS _ _ _ _ <| sm _ ?_
        conv => whnf
        rw [decide_eq_false (show ¬ ((key.size : Int) > 100) by omega)]
        conv => whnf
        rw [decide_eq_false (show ¬ ((val.size : Int) > 100) by omega)]
        conv => whnf
        refine hS _ _ _ _ <| md _ ?_
        conv => whnf
        refine hS _ _ _ _ <| k1 _ fun r hr => ?_
        subst hr
        conv => whnf
        refine hS _ _ _ _ <| g1 _ fun r hr => ?_
        subst hr
        conv => whnf
        refine hS _ _ _ _ <| p1 _ fun r hr => ?_
        subst hr
        conv => whnf
        refine hS _ _ _ _ <| d1 _ fun r hr => ?_
        subst hr
        conv => whnf
        refine hS _ _ _ _ <| p5 _ ?_
        conv => whnf
        refine hS _ _ _ _ <| g2 _ fun r hr => ?_
        subst hr
        conv => whnf
        rw [beq_ba, decide_eq_true rfl]
        conv => whnf
        refine hS _ _ _ _ <| rbk _ ?_
        conv => whnf
        refine hS _ _ _ _ <| rt _ ?_
        try rw [aNext_eq]
        refine aOps_hide 3 fun KK hKK => ?_
        conv => whnf
        rw [beq_ba, decide_eq_true rfl]
        refine hKK _ ?_
        conv => whnf
        refine hS _ _ _ _ <| p2 _ fun r hr => ?_
        subst hr
        conv => whnf
        refine hS _ _ _ _ <| ru _ ?_
        conv => whnf
        refine hS _ _ _ _ <| ru _ ?_
        try rw [aNext_eq]
        refine aOps_hide 3 fun KK hKK => ?_
        conv => whnf
        rw [beq_ba, decide_eq_true rfl]
        refine hKK _ ?_
        conv => whnf
        refine hS _ _ _ _ <| d1 _ fun r hr => ?_
        subst hr
        conv => whnf
        refine hS _ _ _ _ <| d2 _ fun r hr => ?_
        subst hr
        conv => whnf
        refine hS _ _ _ _ <| rd _ ?_
        conv => whnf
        refine hS _ _ _ _ <| d1 _ fun r hr => ?_
        subst hr
        conv => whnf
        refine hS _ _ _ _ <| rd _ ?_
        conv => whnf
        rw [beq_ba, decide_eq_true rfl]
    · refine mk {} (fn := Tryd.f4) Tryd.func4 (by kernel_rfl) (by kernel_rfl) (Nat.le_of_ble_eq_true (Eq.refl true)) fun S hS => ?_
      conv => whnf
      refine hS _ _ _ _ <| c_awake _ ?_
      conv => whnf
      refine hS _ _ _ _ <| sm _ ?_
      conv => whnf
      by_cases h1 : key.size ≤ 100
      · rw [decide_eq_false (show ¬ ((key.size : Int) > 100) by omega)]
        conv => whnf
        by_cases h2 : val.size ≤ 100
        · exact absurd ⟨h1, h2⟩ hs
        · rw [decide_eq_true (show (val.size : Int) > 100 by omega)]
          conv => whnf
      · rw [decide_eq_true (show (key.size : Int) > 100 by omega)]
        conv => whnf
  · have sm := c_SmallF l 25 (by decide) hsm
    refine mk {} (fn := Tryd.f4) Tryd.func4 (by kernel_rfl) (by kernel_rfl) (Nat.le_of_ble_eq_true (Eq.refl true)) fun S hS => ?_
    conv => whnf
    refine hS _ _ _ _ <| c_awake _ ?_
    conv => whnf
    refine hS _ _ _ _ <| sm _ ?_
    conv => whnf
end Go.Proofs.YtkpmcdfmdfoheaaDoor
