/- A part of the proof of a seat of tries: L1. -/
import Derived.Test.YtkpmcdfmdfoheaaDoorR0
set_option linter.all false
namespace Go.Proofs.YtkpmcdfmdfoheaaDoor
open Go Go.Abs
theorem put_again (k v v' : ByteArray) (hk : k.size = 32) : (T.put k v' (.leaf k v)).1 = .leaf k v' := by
  simp only [T.put]
  rw [if_neg (fun h => (common_lt hk hk).1 h rfl)]
set_option maxRecDepth 100000 in
theorem c_TrieLeaf (key zero one : ByteArray) : SP 5 [.i (.str key), .i (.str zero), .i (.str one)] [] (fun r _ => r = .i (.bool true)) := by
  by_cases hs : key.size ≤ 100 ∧ zero.size ≤ 100 ∧ one.size ≤ 100
  · obtain ⟨h1, h2, h3⟩ := hs
    have k1 := fun K hk => c_Key key (by omega) K hk
    have ks := lawKey_size key
    generalize lawKey key = k at k1 ks
    have n0 := fun K hk => c_New K hk
    have p1 := fun K hk => c_Put .nil trivial (by decide) k zero ks (by omega) K hk
    have p2 := fun K hk => c_Put (.leaf k zero) ⟨ks, by omega⟩ (by simp [T.pairs]) k one ks (by omega) K hk
    have e1 : (T.put k zero .nil).1 = .leaf k zero := rfl
    rw [e1] at p1
    rw [put_again _ _ _ ks] at p2
    have r1 := fun K hk => c_Root (.leaf k zero) K hk
    have r2 := fun K hk => c_Root (.leaf k one) K hk
    have x1 : (T.leaf k zero).hash = sha ((⟨#[0]⟩ ++ k) ++ sha zero) := rfl
    have x2 : (T.leaf k one).hash = sha ((⟨#[0]⟩ ++ k) ++ sha one) := rfl
    rw [x1] at r1
    rw [x2] at r2
    have q1 := fun K hk => c_Print zero (by omega) K hk
    have q2 := fun K hk => c_Print one (by omega) K hk
    have z1 := sha_size zero
    have z2 := sha_size one
    have hsz : (⟨#[0]⟩ : ByteArray).size = 1 := rfl
    generalize sha zero = sz at *
    generalize sha one = so at *
    generalize tr .nil = t0 at *
    generalize tr (.leaf k zero) = ta at *
    generalize tr (.leaf k one) = tb at *
    refine mk {} (fn := Tryd.f5) Tryd.func5 (by kernel_rfl) (by kernel_rfl) (Nat.le_of_ble_eq_true (Eq.refl true)) fun S hS => ?_
    conv => whnf
    refine hS _ _ _ _ <| c_awake _ ?_
    conv => whnf
    rw [decide_eq_false (show ¬ ((key.size : Int) > 100) by omega)]
    conv => whnf
    rw [decide_eq_false (show ¬ ((zero.size : Int) > 100) by omega)]
    conv => whnf
    rw [decide_eq_false (show ¬ ((one.size : Int) > 100) by omega)]
    conv => whnf
    refine hS _ _ _ _ <| k1 _ fun r hr => ?_
    subst hr
    conv => whnf
    refine hS _ _ _ _ <| n0 _ ?_
    conv => whnf
    refine hS _ _ _ _ <| p1 _ fun r hr => ?_
    subst hr
    conv => whnf
    refine hS _ _ _ _ <| r1 _ ?_
    conv => whnf
    refine ⟨by first | omega | (simp only [ByteArray.size_append]; omega), ?_⟩
    conv => whnf
    refine hS _ _ _ _ <| q1 _ fun a ha => ?_
    subst ha
    conv => whnf
    refine ⟨by first | omega | (simp only [ByteArray.size_append]; omega), ?_⟩
    conv => whnf
    refine hS _ _ _ _ <| c_Print _ (by first | omega | (simp only [ByteArray.size_append]; omega)) _ fun b hb => ?_
    try rw [aNext_eq]
    refine aOps_hide 3 fun KK hKK => ?_
    conv => whnf
    rw [beq_ba, decide_eq_true hb.symm]
    refine hKK _ ?_
    conv => whnf
    refine hS _ _ _ _ <| p2 _ fun q hq => ?_
    subst hq
    conv => whnf
    refine hS _ _ _ _ <| r2 _ ?_
    conv => whnf
    refine ⟨by first | omega | (simp only [ByteArray.size_append]; omega), ?_⟩
    conv => whnf
    refine hS _ _ _ _ <| q2 _ fun c hc => ?_
    subst hc
    conv => whnf
    refine ⟨by first | omega | (simp only [ByteArray.size_append]; omega), ?_⟩
    conv => whnf
    refine hS _ _ _ _ <| c_Print _ (by first | omega | (simp only [ByteArray.size_append]; omega)) _ fun d hd => ?_
    conv => whnf
    rw [beq_ba, decide_eq_true hd.symm]
  · refine mk {} (fn := Tryd.f5) Tryd.func5 (by kernel_rfl) (by kernel_rfl) (Nat.le_of_ble_eq_true (Eq.refl true)) fun S hS => ?_
    conv => whnf
    refine hS _ _ _ _ <| c_awake _ ?_
    conv => whnf
    by_cases h1 : key.size ≤ 100
    · rw [decide_eq_false (show ¬ ((key.size : Int) > 100) by omega)]
      conv => whnf
      by_cases h2 : zero.size ≤ 100
      · rw [decide_eq_false (show ¬ ((zero.size : Int) > 100) by omega)]
        conv => whnf
        by_cases h3 : one.size ≤ 100
        · exact absurd ⟨h1, h2, h3⟩ hs
        · rw [decide_eq_true (show (one.size : Int) > 100 by omega)]
          conv => whnf
      · rw [decide_eq_true (show (zero.size : Int) > 100 by omega)]
        conv => whnf
    · rw [decide_eq_true (show (key.size : Int) > 100 by omega)]
      conv => whnf
end Go.Proofs.YtkpmcdfmdfoheaaDoor
