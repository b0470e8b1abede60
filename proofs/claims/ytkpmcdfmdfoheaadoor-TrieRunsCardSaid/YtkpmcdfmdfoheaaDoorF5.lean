/- A part of the proof of a seat of tries: F5. -/
import Derived.Test.YtkpmcdfmdfoheaaDoorE11
import Derived.Test.YtkpmcdfmdfoheaaDoorF3
set_option linter.all false
namespace Go.Proofs.YtkpmcdfmdfoheaaDoor
open Go Go.Abs
set_option maxRecDepth 100000 in
theorem c_TrieRuns (l : List Act') : SP 6 [.i (.lst (acL l))] [] (fun r _ => r = .i (.bool true)) := by
  by_cases hsm : small l 40
  · have sm := c_SmallT l 40 (by decide) hsm
    have md := c_Made' l 40 (by decide) hsm
    obtain ⟨tg, tl⟩ := made_good hsm
    generalize made l = t at md tg tl
    have al : ∀ K : AV → List Blk → Prop, K (.i (.lst (pl t.pairs))) [] → SP 23 [.i (tr t)] [] K := fun K hK => c_All t tg (by omega) K fun L hL => by rw [hL]; exact hK
    have sa := c_SameT t.pairs (by omega)
    have ln := c_Len t
    have rt := c_Root t
    have rr := c_rRoot t tg (by omega)
    have tp := c_Top t
    have tt := c_tree t tg (by omega)
    have hpl := pl_len t.pairs
    generalize tr t = xt at *
    generalize t.hash = ht at *
    generalize pl t.pairs = y at *
    generalize acL l = A at *
    generalize t.iv = f at *
    refine mk {} (fn := Tryd.f6) Tryd.func6 (by kernel_rfl) (by kernel_rfl) (Nat.le_of_ble_eq_true (Eq.refl true)) fun S hS => ?_
    conv => whnf
    refine hS _ _ _ _ <| c_awake _ ?_
    conv => whnf
    refine hS _ _ _ _ <| sm _ ?_
    conv => whnf
    refine hS _ _ _ _ <| md _ ?_
    conv => whnf
    refine hS _ _ _ _ <| al _ ?_
    conv => whnf
    refine hS _ _ _ _ <| sa _ ?_
    conv => whnf
    refine hS _ _ _ _ <| ln _ ?_
    try (show aNext _ _ _ _ _)
    try rw [aNext_eq]
    refine aOps_hide 4 fun KK hKK => ?_
    conv => whnf
    rw [hpl, show ((t.pairs.length : Int) == (t.pairs.length : Int)) = true by simp]
    refine hKK _ ?_
    conv => whnf
    refine hS _ _ _ _ <| rt _ ?_
    conv => whnf
    refine hS _ _ _ _ <| rr _ ?_
    try (show aNext _ _ _ _ _)
    try rw [aNext_eq]
    refine aOps_hide 3 fun KK hKK => ?_
    conv => whnf
    rw [beq_ba, decide_eq_true rfl]
    refine hKK _ ?_
    conv => whnf
    refine hS _ _ _ _ <| tp _ ?_
    conv => whnf
    refine hS _ _ _ _ <| tt _ ?_
    conv => whnf
  · have sm := c_SmallF l 40 (by decide) hsm
    refine mk {} (fn := Tryd.f6) Tryd.func6 (by kernel_rfl) (by kernel_rfl) (Nat.le_of_ble_eq_true (Eq.refl true)) fun S hS => ?_
    conv => whnf
    refine hS _ _ _ _ <| c_awake _ ?_
    conv => whnf
    refine hS _ _ _ _ <| sm _ ?_
    conv => whnf
end Go.Proofs.YtkpmcdfmdfoheaaDoor
