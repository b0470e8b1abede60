/- A part of the proof of a seat of tries: F1. -/
import Derived.Test.YtkpmcdfmdfoheaaDoorA5
import Derived.Test.YtkpmcdfmdfoheaaDoorR0
set_option linter.all false
namespace Go.Proofs.YtkpmcdfmdfoheaaDoor
open Go Go.Abs
theorem acL_len (l : List Act') : (acL l).length = l.length := by simp [acL]
theorem acL_get (l : List Act') (i : Nat) (h : i < l.length) : (acL l)[i]? = some [.int .i64 l[i].1, .str l[i].2.1, .str l[i].2.2] := by simp [acL, h]
def okAct (a : Act') : Prop := a.2.1.size ≤ 100 ∧ a.2.2.size ≤ 100
instance (a : Act') : Decidable (okAct a) := by unfold okAct; infer_instance
def small (l : List Act') (n : Nat) : Prop := l.length ≤ n ∧ ∀ a ∈ l, okAct a
set_option maxRecDepth 100000 in
theorem c_SmallT (l : List Act') (n : Nat) (hn : n < 1000) (h : small l n) (K) (hk : K (.i (.bool true)) []) : SP 11 [.i (.lst (acL l)), .i (.int .i64 (n : Int))] [] K := by
  have hl := acL_len l
  have hg := acL_get l
  have h1 := h.1
  generalize acL l = L at hl hg ⊢
  refine mk {keep := [(4, [11,12,13])]} (fn := Tryd.f11) Tryd.func11 (by kernel_rfl) (by kernel_rfl) (Nat.le_of_ble_eq_true (Eq.refl true)) fun S hS => ?_
  conv => whnf
  rw [decide_eq_false (show ¬ ((L.length : Int) > (n : Int)) by omega)]
  conv => whnf
  intro X hX
  have go : ∀ (d i : Nat), i + d = l.length → frK (kfr 28 [(11, .i (.lst L)), (12, .i (.int .i64 (L.length : Int))), (13, .i (.int .i64 (i : Int)))] []) X := by
    intro d
    induction d with
    | zero =>
      intro i hi
      conv => whnf
      apply hX
      conv => whnf
      rw [decide_eq_false (show ¬ ((i : Int) < (L.length : Int)) by omega)]
      conv => whnf
      exact hk
    | succ d ih =>
      intro i hi
      have hi' : i < l.length := by omega
      obtain ⟨h2, h3⟩ := h.2 l[i] (List.getElem_mem hi')
      conv => whnf
      apply hX
      conv => whnf
      rw [decide_eq_true (show (i : Int) < (L.length : Int) by omega)]
      conv => whnf
      refine ⟨_, by omega, hg i hi', rfl, ?_⟩
      conv => whnf
      rw [decide_eq_false (show ¬ ((l[i].2.1.size : Int) > 100) by omega)]
      conv => whnf
      rw [decide_eq_false (show ¬ ((l[i].2.2.size : Int) > 100) by omega)]
      conv => whnf
      rw [show (i : Int) + 1 = ((i + 1 : Nat) : Int) by omega, i64n _ (by omega)]
      exact ih (i + 1) (by omega)
  exact go l.length 0 (by omega)
set_option maxRecDepth 100000 in
theorem c_SmallF (l : List Act') (n : Nat) (hn : n < 1000) (h : ¬ small l n) (K) (hk : K (.i (.bool false)) []) : SP 11 [.i (.lst (acL l)), .i (.int .i64 (n : Int))] [] K := by
  have hl := acL_len l
  have hg := acL_get l
  generalize acL l = L at hl hg ⊢
  refine mk {keep := [(4, [11,12,13])]} (fn := Tryd.f11) Tryd.func11 (by kernel_rfl) (by kernel_rfl) (Nat.le_of_ble_eq_true (Eq.refl true)) fun S hS => ?_
  conv => whnf
  by_cases h1 : l.length ≤ n
  · rw [decide_eq_false (show ¬ ((L.length : Int) > (n : Int)) by omega)]
    conv => whnf
    intro X hX
    have go : ∀ (d i : Nat), i + d = l.length → (∃ a ∈ l.drop i, ¬ okAct a) → frK (kfr 28 [(11, .i (.lst L)), (12, .i (.int .i64 (L.length : Int))), (13, .i (.int .i64 (i : Int)))] []) X := by
      intro d
      induction d with
      | zero =>
        intro i hi hex
        rw [List.drop_eq_nil_of_le (by omega)] at hex
        obtain ⟨a, ha, _⟩ := hex
        simp at ha
      | succ d ih =>
        intro i hi hex
        have hi' : i < l.length := by omega
        conv => whnf
        apply hX
        conv => whnf
        rw [decide_eq_true (show (i : Int) < (L.length : Int) by omega)]
        conv => whnf
        refine ⟨_, by omega, hg i hi', rfl, ?_⟩
        conv => whnf
        by_cases h2 : l[i].2.1.size ≤ 100
        · rw [decide_eq_false (show ¬ ((l[i].2.1.size : Int) > 100) by omega)]
          conv => whnf
          by_cases h3 : l[i].2.2.size ≤ 100
          · rw [decide_eq_false (show ¬ ((l[i].2.2.size : Int) > 100) by omega)]
            conv => whnf
            rw [show (i : Int) + 1 = ((i + 1 : Nat) : Int) by omega, i64n _ (by omega)]
            refine ih (i + 1) (by omega) ?_
            obtain ⟨a, ha, hb⟩ := hex
            rw [List.drop_eq_getElem_cons hi', List.mem_cons] at ha
            rcases ha with rfl | ha
            · exact absurd ⟨h2, h3⟩ hb
            · exact ⟨a, ha, hb⟩
          · rw [decide_eq_true (show (l[i].2.2.size : Int) > 100 by omega)]
            conv => whnf
            exact hk
        · rw [decide_eq_true (show (l[i].2.1.size : Int) > 100 by omega)]
          conv => whnf
          exact hk
    refine go l.length 0 (by omega) ?_
    simp only [small, not_and, Classical.not_forall] at h
    obtain ⟨a, ha, hb⟩ := h h1
    exact ⟨a, by simpa using ha, hb⟩
  · rw [decide_eq_true (show (L.length : Int) > (n : Int) by omega)]
    conv => whnf
    exact hk

def step (t : T) (a : Act') : T := if a.1 = 1 then (t.drop (lawKey a.2.1)).1 else (t.put (lawKey a.2.1) a.2.2).1
def made (l : List Act') : T := l.foldl step .nil
theorem step_good {t : T} (h : t.good) {a : Act'} (ha : okAct a) : (step t a).good ∧ (step t a).pairs.length ≤ t.pairs.length + 1 := by
  unfold step
  split
  · obtain ⟨g, _, l, _⟩ := T.drop_spec (lawKey_size a.2.1) h
    exact ⟨g, by omega⟩
  · obtain ⟨g, _, _, l⟩ := T.put_spec (lawKey_size a.2.1) (show a.2.2.size < 1073741824 by have := ha.2; omega) h
    exact ⟨g, by rw [l]; split <;> omega⟩
theorem fold_good : ∀ (l : List Act') {t : T} (_ : t.good) (_ : ∀ a ∈ l, okAct a), (l.foldl step t).good ∧ (l.foldl step t).pairs.length ≤ t.pairs.length + l.length
  | [], t, h, _ => ⟨h, Nat.le_refl _⟩
  | a :: l, t, h, hs => by
    obtain ⟨h1, h2⟩ := step_good h (hs a (by simp))
    obtain ⟨h3, h4⟩ := fold_good l h1 (fun b hb => hs b (by simp [hb]))
    exact ⟨h3, by simp only [List.foldl_cons, List.length_cons]; omega⟩
set_option maxRecDepth 100000 in
theorem c_Made (l : List Act') (n : Nat) (hn : n < 1000) (h : small l n) (K) (hk : ∀ t, t = made l → K (.tup [.i (tr t), .i (.lst (pl t.pairs))]) []) : SP 12 [.i (.lst (acL l))] [] K := by
  have hl := acL_len l
  have hg := acL_get l
  have h1 := h.1
  generalize acL l = L at hl hg ⊢
  refine mk {keep := [(4, [4,5,10,11,12])]} (fn := Tryd.f12) Tryd.func12 (by kernel_rfl) (by kernel_rfl) (Nat.le_of_ble_eq_true (Eq.refl true)) fun S hS => ?_
  conv => whnf
  refine hS _ _ _ _ <| c_New _ ?_
  conv => whnf
  intro X hX
  have go : ∀ (d i : Nat), i + d = l.length → ∀ (t : T) (w : AV), t.good → t.pairs.length ≤ i → (l.drop i).foldl step t = made l → WL w t.pairs → frK (kfr 41 [(4, .i (tr t)), (5, w), (10, .i (.lst L)), (11, .i (.int .i64 (L.length : Int))), (12, .i (.int .i64 (i : Int)))] []) X := by
    intro d
    induction d with
    | zero =>
      intro i hi t w ht hlt hf hw
      rw [List.drop_eq_nil_of_le (by omega)] at hf
      have hk := hk t hf
      rcases hw with ⟨rfl, hp⟩ | rfl
      · rw [hp] at hk
        generalize tr t = x at hk ⊢
        conv => whnf
        apply hX
        conv => whnf
        rw [decide_eq_false (show ¬ ((i : Int) < (L.length : Int)) by omega)]
        conv => whnf
        exact hk
      · generalize tr t = x at hk ⊢
        generalize pl t.pairs = y at hk ⊢
        conv => whnf
        apply hX
        conv => whnf
        rw [decide_eq_false (show ¬ ((i : Int) < (L.length : Int)) by omega)]
        conv => whnf
        exact hk
    | succ d ih =>
      intro i hi t w ht hlt hf hw
      have hi' : i < l.length := by omega
      obtain ⟨h2, h3⟩ := h.2 l[i] (List.getElem_mem hi')
      rw [List.drop_eq_getElem_cons hi', List.foldl_cons] at hf
      have hsg := step_good ht (h.2 l[i] (List.getElem_mem hi'))
      have hih := ih (i + 1) (by omega) (step t l[i]) (.i (.lst (pl (step t l[i]).pairs))) hsg.1 (by omega) hf (.inr rfl)
      have ks := lawKey_size l[i].2.1
      have k1 := c_Key l[i].2.1 (show l[i].2.1.size < 1000000000 by omega)
      by_cases hwh : l[i].1 = 1
      · have es : step t l[i] = (t.drop (lawKey l[i].2.1)).1 := by unfold step; rw [if_pos hwh]
        have d1 := c_Del t ht (show t.pairs.length < 1000000000 by omega) (lawKey l[i].2.1) ks
        have d2 := c_rDel w t.pairs hw (show t.pairs.length < 1000000000 by omega) (lawKey l[i].2.1)
        rw [← T.drop_pairs ks ht] at d2
        rw [es] at hih
        generalize (t.drop (lawKey l[i].2.1)).1 = t' at *
        generalize lawKey l[i].2.1 = k at *
        generalize pl t'.pairs = y at *
        generalize tr t' = x' at *
        generalize tr t = x at *
        rcases hw with ⟨rfl, hp⟩ | rfl
        all_goals
          conv => whnf
          apply hX
          conv => whnf
          rw [decide_eq_true (show (i : Int) < (L.length : Int) by omega)]
          conv => whnf
          refine ⟨_, by omega, hg i hi', rfl, ?_⟩
          conv => whnf
          refine hS _ _ _ _ <| k1 _ fun r hr => ?_
          subst hr
          conv => whnf
          rw [show (l[i].1 == 1) = true by simp [hwh]]
          conv => whnf
          refine hS _ _ _ _ <| d1 _ fun r hr => ?_
          subst hr
          conv => whnf
          refine hS _ _ _ _ <| d2 _ ?_
          conv => whnf
          rw [show (i : Int) + 1 = ((i + 1 : Nat) : Int) by omega, i64n _ (by omega)]
          exact hih
      · have es : step t l[i] = (t.put (lawKey l[i].2.1) l[i].2.2).1 := by unfold step; rw [if_neg hwh]
        have hv : l[i].2.2.size < 1073741824 := by omega
        have d1 := c_Put t ht (show t.pairs.length < 1000000000 by omega) (lawKey l[i].2.1) l[i].2.2 ks hv
        have d2 := c_rPut w t.pairs hw (show t.pairs.length < 100000000 by omega) (lawKey l[i].2.1) l[i].2.2 ks
        rw [← T.put_pairs ks hv ht] at d2
        rw [es] at hih
        generalize (t.put (lawKey l[i].2.1) l[i].2.2).1 = t' at *
        generalize lawKey l[i].2.1 = k at *
        generalize pl t'.pairs = y at *
        generalize tr t' = x' at *
        generalize tr t = x at *
        rcases hw with ⟨rfl, hp⟩ | rfl
        all_goals
          conv => whnf
          apply hX
          conv => whnf
          rw [decide_eq_true (show (i : Int) < (L.length : Int) by omega)]
          conv => whnf
          refine ⟨_, by omega, hg i hi', rfl, ?_⟩
          conv => whnf
          refine hS _ _ _ _ <| k1 _ fun r hr => ?_
          subst hr
          conv => whnf
          rw [show (l[i].1 == 1) = false by simp [hwh]]
          conv => whnf
          refine ⟨.i x', hS _ _ _ _ <| d1 _ (fun u hu => ⟨by rw [hu], rfl⟩), rfl, ?_⟩
          conv => whnf
          refine ⟨.i (.lst y), hS _ _ _ _ <| d2 _ ⟨rfl, rfl⟩, rfl, ?_⟩
          conv => whnf
          rw [show (i : Int) + 1 = ((i + 1 : Nat) : Int) by omega, i64n _ (by omega)]
          exact hih
  exact go l.length 0 (by omega) .nil _ trivial (Nat.zero_le _) rfl (.inl ⟨rfl, rfl⟩)
theorem made_good {l : List Act'} {n : Nat} (h : small l n) : (made l).good ∧ (made l).pairs.length ≤ n := by
  obtain ⟨h1, h2⟩ := fold_good l (t := .nil) trivial h.2
  have := h.1
  exact ⟨h1, by simp only [made]; simp only [T.pairs, List.length_nil] at h2; omega⟩
end Go.Proofs.YtkpmcdfmdfoheaaDoor
