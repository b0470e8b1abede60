/- A part of the proof of a seat of tries: E12. -/
import Derived.Test.YtkpmcdfmdfoheaaDoorClashPure
import Derived.Test.YtkpmcdfmdfoheaaDoorE11
set_option linter.all false
namespace Go.Proofs.YtkpmcdfmdfoheaaDoor
open Go Go.Abs
set_option maxRecDepth 100000 in
set_option maxHeartbeats 4000000 in
theorem c_Clash (a b : List ByteArray) (hne : a ++ b ≠ []) (hl : a.length + b.length < 100000) (hs : ∀ x ∈ a ++ b, x.size < 1073741824) (hc : Clash (a ++ b)) (K : AV → List Blk → Prop) (hk : K (.i (.bool true)) []) : SP 15 [.i (.lst [[.lst (sv a)], [.lst (sv b)]])] [] K := by
  have hcp := clash_places hc
  have hrn := fun K hK => c_rRootNN K hK
  have hpr : ∀ i, i < (a ++ b).length → ∀ K : AV → List Blk → Prop, K (.i (.str (sha (tx (a ++ b) i)))) [] → SP 22 [.i (.str (tx (a ++ b) i))] [] K := fun i hi K hK => c_Print _ (by have := hs _ (tx_mem hi); omega) K fun r hr => by rw [hr]; exact hK
  have hget := fun i (hi : i < (a ++ b).length) => tx_get hi
  have hnn : 0 < (a ++ b).length := List.length_pos_iff.2 hne
  have hab : sv a ++ sv b = sv (a ++ b) := sv_app a b
  have hla := sv_len a
  have hlb := sv_len b
  have hlm := sv_len (a ++ b)
  have hlab : (a ++ b).length = a.length + b.length := List.length_append
  have hea : a = [] → sv a = [] ∧ sv b = sv (a ++ b) := fun e => by subst e; exact ⟨rfl, rfl⟩
  have hal : ∀ l : List ByteArray, ∀ e ∈ sv l, e.length = 1 := fun l e he => by
    simp only [sv, List.mem_map] at he
    obtain ⟨_, _, rfl⟩ := he
    rfl
  have hala := hal a
  have halb := hal b
  generalize hM : sv (a ++ b) = M at hget hab hlm hea
  generalize hm : a ++ b = m at *
  generalize hA : sv a = A at *
  generalize hB : sv b = B at *
  clear hM hm hA hB hne hs hc
  generalize zero32 = z at *
  refine mk {keep := [(3, [0,3,4]), (8, [3,5,6]), (14, [3,5,7]), (17, [3,5,7,8])]} (fn := Tryd.f15) Tryd.func15 (by kernel_rfl) (by kernel_rfl) (Nat.le_of_ble_eq_true (Eq.refl true)) fun S hS => ?_
  conv => whnf
  intro X hX
  -- behind the first loop
  have rest : frK (kfr 72 [(0, .i (.lst [[.lst A], [.lst B]])), (3, .one (.sl 0 0 M.length)), (4, .i (.int .i64 2))] [.vec 1 M true]) X := by
    conv => whnf
    apply hX
    conv => whnf
    intro Y hY
    have hMn : M.length = m.length := hlm
    have two : Two m → ∀ P : List (List IV), P.length = m.length → (∀ j, j < m.length → P[j]? = some [IV.str (sha (tx m j))]) → frK (kfr 72 [(3, .one (.sl 0 0 M.length)), (5, .one (.sl 2 0 P.length)), (6, .i (.int .i64 (m.length : Int)))] [.vec 1 M true, .dead, .vec 1 P true]) Y := by
      intro hE P hPl hP
      conv => whnf
      apply hY
      conv => whnf
      rw [decide_eq_false (show ¬ ((m.length : Int) < (M.length : Int)) by omega)]
      conv => whnf
      intro Z hZ
      have outer : ∀ (d i : Nat), i + d = m.length → (∃ i' k, i ≤ i' ∧ k < i' ∧ i' < m.length ∧ sha (tx m i') = sha (tx m k) ∧ tx m i' ≠ tx m k) → frK (kfr 72 [(3, .one (.sl 0 0 M.length)), (5, .one (.sl 2 0 P.length)), (7, .i (.int .i64 (i : Int)))] [.vec 1 M true, .dead, .vec 1 P true]) Z := by
        intro d
        induction d with
        | zero =>
          intro i hi hex
          obtain ⟨i', k, h1, _, h2, _⟩ := hex
          omega
        | succ d ih =>
          intro i hi hex
          conv => whnf
          apply hZ
          conv => whnf
          rw [decide_eq_true (show (i : Int) < (M.length : Int) by omega)]
          conv => whnf
          intro V hV
          have inner : ∀ (c k : Nat), k + c = i → ((∃ k', k ≤ k' ∧ k' < i ∧ sha (tx m i) = sha (tx m k') ∧ tx m i ≠ tx m k') ∨ (∃ i' k', i + 1 ≤ i' ∧ k' < i' ∧ i' < m.length ∧ sha (tx m i') = sha (tx m k') ∧ tx m i' ≠ tx m k')) → frK (kfr 72 [(3, .one (.sl 0 0 M.length)), (5, .one (.sl 2 0 P.length)), (7, .i (.int .i64 (i : Int))), (8, .i (.int .i64 (k : Int)))] [.vec 1 M true, .dead, .vec 1 P true]) V := by
            intro c
            induction c with
            | zero =>
              intro k hk' hor
              obtain rfl : k = i := hk'
              have hor : ∃ i' k', k + 1 ≤ i' ∧ k' < i' ∧ i' < m.length ∧ sha (tx m i') = sha (tx m k') ∧ tx m i' ≠ tx m k' := by
                rcases hor with ⟨k', h1, h2, _⟩ | h
                · omega
                · exact h
              conv => whnf
              apply hV
              conv => whnf
              rw [decide_eq_false (show ¬ ((k : Int) < (k : Int)) by omega)]
              conv => whnf
              rw [show (k : Int) + 1 = ((k + 1 : Nat) : Int) by omega, i64n _ (by omega)]
              exact ih (k + 1) (by omega) hor
            | succ c ihc =>
              intro k hk' hor
              have pi := hP i (by omega)
              have pk := hP k (by omega)
              have li := hget i (by omega)
              have lk := hget k (by omega)
              conv => whnf
              apply hV
              conv => whnf
              rw [decide_eq_true (show (k : Int) < (i : Int) by omega)]
              conv => whnf
              refine ⟨by omega, by omega, ?_⟩
              conv => whnf
              rw [show 0 + ((i : Int)).toNat = i by omega]
              refine ⟨_, pi, ?_⟩
              conv => whnf
              refine ⟨by omega, by omega, ?_⟩
              conv => whnf
              rw [show 0 + ((k : Int)).toNat = k by omega]
              refine ⟨_, pk, ?_⟩
              conv => whnf
              rw [beq_ba]
              by_cases e1 : sha (tx m i) = sha (tx m k)
              · rw [decide_eq_true e1]
                conv => whnf
                refine ⟨by omega, by omega, ?_⟩
                conv => whnf
                rw [show 0 + ((i : Int)).toNat = i by omega]
                refine ⟨_, li, ?_⟩
                conv => whnf
                refine ⟨by omega, by omega, ?_⟩
                conv => whnf
                rw [show 0 + ((k : Int)).toNat = k by omega]
                refine ⟨_, lk, ?_⟩
                conv => whnf
                rw [beq_ba]
                by_cases e2 : tx m i = tx m k
                · rw [decide_eq_true e2]
                  conv => whnf
                  rw [show (k : Int) + 1 = ((k + 1 : Nat) : Int) by omega, i64n _ (by omega)]
                  refine ihc (k + 1) (by omega) ?_
                  rcases hor with ⟨k', h1, h2, h3, h4⟩ | h
                  · refine .inl ⟨k', ?_, h2, h3, h4⟩
                    by_cases c : k' = k
                    · subst c; exact absurd e2 h4
                    · omega
                  · exact .inr h
                · rw [decide_eq_false e2]
                  conv => whnf
                  exact hk
              · rw [decide_eq_false e1]
                conv => whnf
                rw [show (k : Int) + 1 = ((k + 1 : Nat) : Int) by omega, i64n _ (by omega)]
                refine ihc (k + 1) (by omega) ?_
                rcases hor with ⟨k', h1, h2, h3, h4⟩ | h
                · refine .inl ⟨k', ?_, h2, h3, h4⟩
                  by_cases c : k' = k
                  · subst c; exact absurd h3 e1
                  · omega
                · exact .inr h
          refine inner i 0 (by omega) ?_
          obtain ⟨i', k, h1, h2, h3, h4, h5⟩ := hex
          by_cases c : i' = i
          · subst c; exact .inl ⟨k, Nat.zero_le _, h2, h4, h5⟩
          · exact .inr ⟨i', k, by omega, h2, h3, h4, h5⟩
      obtain ⟨i, k, h1, h2, h3, h4⟩ := hE
      exact outer m.length 0 (by omega) ⟨i, k, Nat.zero_le _, h1, h2, h3, h4⟩
    have prints : ∀ (d i : Nat), i + d = m.length → 0 < i → ((∃ j, i ≤ j ∧ j < m.length ∧ sha (tx m j) = z) ∨ Two m) → ∀ P : List (List IV), P.length = i → (∀ j, j < i → P[j]? = some [IV.str (sha (tx m j))]) → frK (kfr 72 [(3, .one (.sl 0 0 M.length)), (5, .one (.sl 2 0 P.length)), (6, .i (.int .i64 (i : Int)))] [.vec 1 M true, .dead, .vec 1 P true]) Y := by
      intro d
      induction d with
      | zero =>
        intro i hi h0 hor P hPl hP
        obtain rfl : i = m.length := hi
        refine two ?_ P hPl hP
        rcases hor with ⟨j, h1, h2, _⟩ | h
        · omega
        · exact h
      | succ d ih =>
        intro i hi h0 hor P hPl hP
        have li := hget i (by omega)
        conv => whnf
        apply hY
        conv => whnf
        rw [decide_eq_true (show (i : Int) < (M.length : Int) by omega)]
        conv => whnf
        refine ⟨by omega, by omega, ?_⟩
        conv => whnf
        rw [show 0 + ((i : Int)).toNat = i by omega]
        refine ⟨_, li, ?_⟩
        conv => whnf
        refine hS _ _ _ _ <| hpr i (by omega) _ ?_
        conv => whnf
        refine ⟨by omega, by show (P.length + 1) * 16 ≤ 17592186044416; omega, ?_⟩
        conv => whnf
        have hP' : ∀ j, j < i + 1 → (P ++ [[IV.str (sha (tx m i))]])[j]? = some [IV.str (sha (tx m j))] := fun j hj => by
          by_cases c : j < i
          · rw [List.getElem?_append_left (by omega)]; exact hP j c
          · obtain rfl : j = i := by omega
            rw [List.getElem?_append_right (by omega), hPl, Nat.sub_self]; rfl
        have hPl' : (P ++ [[IV.str (sha (tx m i))]]).length = i + 1 := by rw [List.length_append, hPl]; rfl
        have gi := hP' i (by omega)
        refine ⟨by omega, by show (i : Int) < ((P.length + 1 : Nat) : Int); omega, ?_⟩
        conv => whnf
        rw [show 0 + ((i : Int)).toNat = i by omega]
        refine ⟨_, gi, ?_⟩
        conv => whnf
        refine ⟨.i (.str z), hS _ _ _ _ <| hrn _ ⟨rfl, rfl⟩, rfl, ?_⟩
        conv => whnf
        rw [beq_ba]
        by_cases ez : sha (tx m i) = z
        · rw [decide_eq_true ez]
          conv => whnf
          exact hk
        · rw [decide_eq_false ez]
          conv => whnf
          rw [show (i : Int) + 1 = ((i + 1 : Nat) : Int) by omega, i64n _ (by omega)]
          have hn := ih (i + 1) (by omega) (by omega) (by
            rcases hor with ⟨j, h1, h2, h3⟩ | h
            · refine .inl ⟨j, ?_, h2, h3⟩
              by_cases c : j = i
              · subst c; exact absurd h3 ez
              · omega
            · exact .inr h) _ hPl' hP'
          rw [List.length_append] at hn
          exact hn
    have l0 := hget 0 hnn
    apply hY
    conv => whnf
    rw [decide_eq_true (show (0 : Int) < (M.length : Int) by omega)]
    conv => whnf
    refine ⟨by omega, by omega, ?_⟩
    conv => whnf
    refine ⟨_, l0, ?_⟩
    conv => whnf
    refine hS _ _ _ _ <| hpr 0 hnn _ ?_
    conv => whnf
    refine ⟨Nat.le_of_ble_eq_true rfl, ?_⟩
    conv => whnf
    refine ⟨by omega, by show (0 : Int) < ((0 + 1 : Nat) : Int); omega, ?_⟩
    conv => whnf
    refine ⟨_, rfl, ?_⟩
    conv => whnf
    refine ⟨.i (.str z), hS _ _ _ _ <| hrn _ ⟨rfl, rfl⟩, rfl, ?_⟩
    conv => whnf
    rw [beq_ba]
    by_cases ez : sha (tx m 0) = z
    · rw [decide_eq_true ez]
      conv => whnf
      exact hk
    · rw [decide_eq_false ez]
      conv => whnf
      refine prints (m.length - 1) 1 (by omega) (by omega) ?_ [[IV.str (sha (tx m 0))]] rfl (fun j hj => ?_)
      · rcases hcp with ⟨j, _, h2, h3⟩ | h
        · refine .inl ⟨j, ?_, h2, h3⟩
          by_cases c : j = 0
          · subst c; exact absurd h3 ez
          · omega
        · exact .inr h
      · obtain rfl : j = 0 := by omega
        rfl
  apply hX
  conv => whnf
  refine ⟨_, by decide, rfl, rfl, ?_⟩
  conv => whnf
  refine ⟨hala, ?_⟩
  cases A with
  | nil =>
    cases B with
    | nil =>
      have := congrArg List.length hab
      simp only [List.length_append, List.length_nil] at this
      omega
    | cons y B =>
      simp only [List.length_cons] at hlb
      conv => whnf
      apply hX
      conv => whnf
      refine ⟨_, by decide, rfl, rfl, ?_⟩
      conv => whnf
      refine ⟨halb, ?_⟩
      conv => whnf
      refine ⟨by show (B.length + 1) * 16 ≤ 17592186044416; omega, ?_⟩
      conv => whnf
      subst hab
      exact rest
  | cons x A =>
    simp only [List.length_cons] at hla
    conv => whnf
    refine ⟨by show (A.length + 1) * 16 ≤ 17592186044416; omega, ?_⟩
    conv => whnf
    apply hX
    conv => whnf
    refine ⟨_, by decide, rfl, rfl, ?_⟩
    conv => whnf
    refine ⟨halb, ?_⟩
    conv => whnf
    refine ⟨Nat.zero_add _, by show (A.length + 1 + B.length) * 16 ≤ 17592186044416; omega, ?_⟩
    conv => whnf
    subst hab
    rw [List.length_append] at rest
    exact rest
end Go.Proofs.YtkpmcdfmdfoheaaDoor
