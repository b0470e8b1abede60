/- A part of the proof of a seat of tries: E6. -/
import Derived.Test.YtkpmcdfmdfoheaaDoorE5
set_option linter.all false
namespace Go.Proofs.YtkpmcdfmdfoheaaDoor
open Go Go.Abs
set_option maxRecDepth 100000 in
theorem c_SameT (l : List Pr) (hl : l.length < 1000000) (K : AV → List Blk → Prop) (hk : K (.i (.bool true)) []) : SP 13 [.i (.lst (pl l)), .i (.lst (pl l))] [] K := by
  have hpl := pl_len l
  have hpg := pl_get l
  generalize pl l = L at hpl hpg ⊢
  refine mk {keep := [(4, [0,1,5])]} (fn := Tryd.f13) Tryd.func13 (by kernel_rfl) (by kernel_rfl) (Nat.le_of_ble_eq_true (Eq.refl true)) fun S hS => ?_
  conv => whnf
  rw [show ((L.length : Int) != (L.length : Int)) = false by simp]
  conv => whnf
  intro X hX
  have go : ∀ (d i : Nat), i + d = l.length → frK (kfr 26 [(0, .i (.lst L)), (1, .i (.lst L)), (5, .i (.int .i64 (i : Int)))] []) X := by
    intro d
    induction d with
    | zero =>
      intro i hi
      conv => whnf
      apply hX
      conv => whnf
      rw [decide_eq_false (show ¬ ((i : Int) < (L.length : Int)) by omega)]
      conv => whnf
      exact hk
    | succ d ih =>
      intro i hi
      have hi' : i < l.length := by omega
      have hg := hpg i l[i] (List.getElem?_eq_getElem hi')
      conv => whnf
      apply hX
      conv => whnf
      rw [decide_eq_true (show (i : Int) < (L.length : Int) by omega)]
      conv => whnf
      refine ⟨_, by omega, hg, rfl, ?_⟩
      conv => whnf
      refine ⟨_, by omega, hg, rfl, ?_⟩
      conv => whnf
      rw [beq_ba, beq_ba, decide_eq_true rfl, decide_eq_true rfl]
      conv => whnf
      rw [show (i : Int) + 1 = ((i + 1 : Nat) : Int) by omega, i64n _ (by omega)]
      exact ih (i + 1) (by omega)
  exact go l.length 0 (by omega)
set_option maxRecDepth 100000 in
theorem c_SameF (l m : List Pr) (hl : l.length < 1000000) (hne : l ≠ m) (K : AV → List Blk → Prop) (hk : K (.i (.bool false)) []) : SP 13 [.i (.lst (pl l)), .i (.lst (pl m))] [] K := by
  have hpl := pl_len l
  have hpg := pl_get l
  have hpl2 := pl_len m
  have hpg2 := pl_get m
  generalize pl l = L at hpl hpg ⊢
  generalize pl m = M at hpl2 hpg2 ⊢
  refine mk {keep := [(4, [0,1,5])]} (fn := Tryd.f13) Tryd.func13 (by kernel_rfl) (by kernel_rfl) (Nat.le_of_ble_eq_true (Eq.refl true)) fun S hS => ?_
  conv => whnf
  by_cases hlen : l.length = m.length
  · rw [show ((L.length : Int) != (M.length : Int)) = false by simp; omega]
    conv => whnf
    intro X hX
    have go : ∀ (d i : Nat), i + d = l.length → l.drop i ≠ m.drop i → frK (kfr 26 [(0, .i (.lst L)), (1, .i (.lst M)), (5, .i (.int .i64 (i : Int)))] []) X := by
      intro d
      induction d with
      | zero =>
        intro i hi hd
        rw [List.drop_eq_nil_of_le (by omega), List.drop_eq_nil_of_le (by omega)] at hd
        exact absurd rfl hd
      | succ d ih =>
        intro i hi hd
        have hi' : i < l.length := by omega
        have hi2 : i < m.length := by omega
        have hg := hpg i l[i] (List.getElem?_eq_getElem hi')
        have hg2 := hpg2 i m[i] (List.getElem?_eq_getElem hi2)
        rw [List.drop_eq_getElem_cons hi', List.drop_eq_getElem_cons hi2] at hd
        conv => whnf
        apply hX
        conv => whnf
        rw [decide_eq_true (show (i : Int) < (L.length : Int) by omega)]
        conv => whnf
        refine ⟨_, by omega, hg, rfl, ?_⟩
        conv => whnf
        refine ⟨_, by omega, hg2, rfl, ?_⟩
        conv => whnf
        rw [beq_ba, beq_ba]
        by_cases e1 : l[i].1 = m[i].1
        · rw [decide_eq_true e1]
          by_cases e2 : l[i].2 = m[i].2
          · rw [decide_eq_true e2]
            conv => whnf
            rw [show (i : Int) + 1 = ((i + 1 : Nat) : Int) by omega, i64n _ (by omega)]
            refine ih (i + 1) (by omega) fun e => hd ?_
            rw [e, Prod.ext e1 e2]
          · rw [decide_eq_false e2]
            conv => whnf
            exact hk
        · rw [decide_eq_false e1]
          conv => whnf
          exact hk
    exact go l.length 0 (by omega) hne
  · rw [show ((L.length : Int) != (M.length : Int)) = true by simp; omega]
    conv => whnf
    exact hk
end Go.Proofs.YtkpmcdfmdfoheaaDoor
