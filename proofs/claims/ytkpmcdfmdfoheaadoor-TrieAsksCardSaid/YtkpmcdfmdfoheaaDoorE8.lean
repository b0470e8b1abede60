/- A part of the proof of a seat of tries: E8. -/
import Derived.Test.YtkpmcdfmdfoheaaDoorE7
set_option linter.all false
namespace Go.Proofs.YtkpmcdfmdfoheaaDoor
open Go Go.Abs
theorem c_CommonE (a b : ByteArray) (ha : a.size = 32) (hb : b.size = 32) (K : AV → List Blk → Prop) (hk : ∀ r, r = common a b → K (.i (.int .i64 (r : Int))) []) : SP 45 [.i (.str a), .i (.str b)] [] K :=
  c_Common a b ha hb K fun r hr => hk r (common_eq hr)
set_option maxRecDepth 100000 in
theorem c_Under (t : T) (ht : t.good) (hb : t.pairs.length < 100000) (key : ByteArray) (hkey : key.size = 32) (n : Nat) (hn : n ≤ 256) (K : AV → List Blk → Prop) (hk : ∀ L, L = pl (t.under key n) → K (.i (.lst L)) []) : SP 29 [.i (tr t), .i (.str key), .i (.int .i64 (n : Int))] [] K := by
  have h1 := c_Top t
  have hks : ((key.size : Int) != 32) = false := by rw [hkey]; rfl
  generalize tr t = x at h1 ⊢
  refine mk {keep := [(4, [1,2,7])]} (fn := Tryd.f29) Tryd.func29 (by kernel_rfl) (by kernel_rfl) (Nat.le_of_ble_eq_true (Eq.refl true)) fun S hS => ?_
  conv => whnf
  rw [hks]
  conv => whnf
  rw [decide_eq_false (show ¬ ((n : Int) < 0) by omega)]
  conv => whnf
  rw [decide_eq_false (show ¬ ((n : Int) > 256) by omega)]
  conv => whnf
  refine hS _ _ _ _ <| h1 _ ?_
  conv => whnf
  clear h1
  intro X hX
  have go : ∀ (t : T) (_ : t.good) (_ : t.pairs.length < 100000) (_ : ∀ L, L = pl (t.under key n) → K (.i (.lst L)) []), frK (kfr 78 [(1, .i (.str key)), (2, .i (.int .i64 (n : Int))), (7, .i t.iv)] []) X := by
    intro t
    induction t with
    | nil =>
      intro ht hb hk
      have en : T.nil.iv = .nilp := rfl
      rw [en]
      conv => whnf
      apply hX
      conv => whnf
      exact hk _ rfl
    | leaf k v =>
      intro ht hb hk
      have hg := c_gather0 (.leaf k v) ht (by simp) hb
      have h32 : k.size = 32 := ht.1
      rw [T.iv_leaf] at hg ⊢
      generalize (T.leaf k v).hash = hs at hg ⊢
      simp only [T.under] at hk
      conv => whnf
      apply hX
      conv => whnf
      refine hS _ _ _ _ <| c_CommonE k key h32 hkey _ fun r hr => ?_
      subst hr
      conv => whnf
      by_cases c : common k key < n
      · rw [if_pos c] at hk
        rw [decide_eq_true (show (common k key : Int) < (n : Int) by omega)]
        conv => whnf
        exact hk _ rfl
      · rw [if_neg c] at hk
        rw [decide_eq_false (show ¬ ((common k key : Int) < (n : Int)) by omega)]
        conv => whnf
        refine hS _ _ _ _ <| hg _ fun n' L' hL' hn' => ?_
        conv => whnf
        refine hk _ ?_
        rw [hn', hL', List.drop_zero, List.take_of_length_le (by rw [pl_len]; exact Nat.le_refl _)]
        rfl
    | fork a k z o iz io =>
      intro ht hb hk
      have hg := c_gather0 (.fork a k z o) ht (by simp) hb
      have h32 := T.ksize ht
      rw [T.iv_fork] at hg ⊢
      generalize (T.fork a k z o).hash = hs at hg ⊢
      simp only [T.under] at hk
      simp only [T.pairs, List.length_append] at hb
      conv => whnf
      apply hX
      conv => whnf
      by_cases ha : a < n
      · rw [if_pos ha] at hk
        rw [decide_eq_true (show (a : Int) < (n : Int) by omega)]
        conv => whnf
        refine ⟨.i (.int .i64 (common k key : Int)), hS _ _ _ _ <| c_CommonE k key h32 hkey _ (fun r hr => ⟨by rw [hr], rfl⟩), rfl, ?_⟩
        conv => whnf
        by_cases c : common k key < a
        · rw [if_pos c] at hk
          rw [decide_eq_true (show (common k key : Int) < (a : Int) by omega)]
          conv => whnf
          exact hk _ rfl
        · rw [if_neg c] at hk
          rw [decide_eq_false (show ¬ ((common k key : Int) < (a : Int)) by omega)]
          conv => whnf
          refine hS _ _ _ _ <| c_Bit key a hkey ht.1 _ ?_
          conv => whnf
          cases hbit : bit key a
          · rw [if_pos hbit] at hk
            conv => whnf
            exact iz ht.2.2.2.1 (by omega) hk
          · rw [if_neg (by simp [hbit])] at hk
            conv => whnf
            exact io ht.2.2.2.2.1 (by omega) hk
      · rw [if_neg ha] at hk
        rw [decide_eq_false (show ¬ ((a : Int) < (n : Int)) by omega)]
        conv => whnf
        refine hS _ _ _ _ <| c_CommonE k key h32 hkey _ fun r hr => ?_
        subst hr
        conv => whnf
        by_cases c : common k key < n
        · rw [if_pos c] at hk
          rw [decide_eq_true (show (common k key : Int) < (n : Int) by omega)]
          conv => whnf
          exact hk _ rfl
        · rw [if_neg c] at hk
          rw [decide_eq_false (show ¬ ((common k key : Int) < (n : Int)) by omega)]
          conv => whnf
          refine hS _ _ _ _ <| hg _ fun n' L' hL' hn' => ?_
          conv => whnf
          refine hk _ ?_
          rw [hn', hL', List.drop_zero, List.take_of_length_le (by rw [pl_len]; exact Nat.le_refl _)]
  exact go t ht hb hk
set_option maxRecDepth 100000 in
theorem c_UnderBad (x : IV) (key : ByteArray) (n : Int) (h : key.size ≠ 32 ∨ n < 0 ∨ 256 < n) (K : AV → List Blk → Prop) (hk : K (.i (.lst [])) []) : SP 29 [.i x, .i (.str key), .i (.int .i64 n)] [] K := by
  refine mk {keep := [(4, [1,2,7])]} (fn := Tryd.f29) Tryd.func29 (by kernel_rfl) (by kernel_rfl) (Nat.le_of_ble_eq_true (Eq.refl true)) fun S hS => ?_
  conv => whnf
  by_cases h1 : key.size = 32
  · rw [show ((key.size : Int) != 32) = false by rw [h1]; rfl]
    conv => whnf
    by_cases h2 : n < 0
    · rw [decide_eq_true (show n < 0 by omega)]
      conv => whnf
      exact hk
    · rw [decide_eq_false (show ¬ (n < 0) by omega)]
      conv => whnf
      rw [decide_eq_true (show n > 256 by omega)]
      conv => whnf
      exact hk
  · rw [show ((key.size : Int) != 32) = true by simp; omega]
    conv => whnf
    exact hk
set_option maxRecDepth 100000 in
theorem c_UnderN (key : ByteArray) (hkey : key.size = 32) (K : AV → List Blk → Prop) (hk : K (.i (.lst [])) []) : SP 29 [.i .nilp, .i (.str key), .i (.int .i64 0)] [] K := by
  refine mk {keep := [(4, [1,2,7])]} (fn := Tryd.f29) Tryd.func29 (by kernel_rfl) (by kernel_rfl) (Nat.le_of_ble_eq_true (Eq.refl true)) fun S hS => ?_
  conv => whnf
  rw [show ((key.size : Int) != 32) = false by rw [hkey]; rfl]
  conv => whnf
  refine hS _ _ _ _ <| c_TopN _ ?_
  conv => whnf
  intro X hX
  apply hX
  conv => whnf
  exact hk
end Go.Proofs.YtkpmcdfmdfoheaaDoor
