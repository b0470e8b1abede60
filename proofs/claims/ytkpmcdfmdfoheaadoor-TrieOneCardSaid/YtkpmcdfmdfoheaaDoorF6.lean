/- A part of the proof of a seat of tries: F6. -/
import Derived.Test.YtkpmcdfmdfoheaaDoorE12
import Derived.Test.YtkpmcdfmdfoheaaDoorF3
set_option linter.all false
namespace Go.Proofs.YtkpmcdfmdfoheaaDoor
open Go Go.Abs
set_option maxRecDepth 100000 in
set_option maxHeartbeats 4000000 in
theorem c_TrieOne (a b : List Act') : SP 3 [.i (.lst (acL a)), .i (.lst (acL b))] [] (fun r _ => r = .i (.bool true)) := by
  by_cases hsa : small a 25
  · have sa := c_SmallT a 25 (by decide) hsa
    by_cases hsb : small b 25
    · have sb := c_SmallT b 25 (by decide) hsb
      have ma := c_Made' a 25 (by decide) hsa
      have mb := c_Made' b 25 (by decide) hsb
      obtain ⟨tg, tl⟩ := made_good hsa
      obtain ⟨ug, ul⟩ := made_good hsb
      generalize made a = t at ma tg tl
      generalize made b = u at mb ug ul
      have rt := c_Root t
      have ru := c_Root u
      generalize acL a = A at *
      generalize acL b = B at *
      by_cases he : t.pairs = u.pairs
      · have e := T.uniq tg ug he
        subst e
        have sm := c_SameT t.pairs (by omega)
        generalize tr t = xt at *
        generalize t.hash = ht at *
        generalize pl t.pairs = y at *
        refine mk {frz := [47]} (fn := Tryd.f3) Tryd.func3 (by kernel_rfl) (by kernel_rfl) (Nat.le_of_ble_eq_true (Eq.refl true)) fun S hS => ?_
        conv => whnf
        refine hS _ _ _ _ <| c_awake _ ?_
        conv => whnf
        refine hS _ _ _ _ <| sa _ ?_
        conv => whnf
        refine hS _ _ _ _ <| sb _ ?_
        conv => whnf
        refine hS _ _ _ _ <| ma _ ?_
        conv => whnf
        refine hS _ _ _ _ <| mb _ ?_
        conv => whnf
        refine hS _ _ _ _ <| sm _ ?_
        conv => whnf
        refine hS _ _ _ _ <| rt _ ?_
        conv => whnf
        refine hS _ _ _ _ <| rt _ ?_
        conv => whnf
        rw [beq_ba, decide_eq_true rfl]
      · have sm := c_SameF t.pairs u.pairs (by omega) he
        by_cases hh : t.hash = u.hash
        · have hne : t ≠ u := fun e => he (by rw [e])
          have cl := T.clash tg ug hne hh
          have hts : ∀ x ∈ t.texts ++ u.texts, x.size < 1073741824 := fun x hx => by
            rcases List.mem_append.1 hx with h | h
            · exact texts_size tg x h
            · exact texts_size ug x h
          have hne2 : t.texts ++ u.texts ≠ [] := fun e => by
            rw [e] at cl
            rcases cl with ⟨x, hx, _⟩ | ⟨x, hx, _⟩ <;> simp at hx
          have hlen : t.texts.length + u.texts.length < 100000 := by
            have h1 : t.texts.length ≤ 75 := by
              by_cases hn : t = .nil
              · subst hn; exact Nat.zero_le _
              · have := texts_len tg hn; omega
            have h2 : u.texts.length ≤ 75 := by
              by_cases hn : u = .nil
              · subst hn; exact Nat.zero_le _
              · have := texts_len ug hn; omega
            omega
          have cc := c_Clash t.texts u.texts hne2 hlen hts cl
          have l1 := sv_len t.texts
          have l2 := sv_len u.texts
          by_cases tn : t = .nil
          · subst tn
            have un : u ≠ .nil := fun e => hne e.symm
            have tu := c_Texts u ug un (by omega)
            have e1 : pl T.nil.pairs = [] := rfl
            have e2 : sv T.nil.texts = [] := rfl
            rw [e1] at ma sm
            rw [e2] at cc
            generalize tr .nil = xt at *
            generalize tr u = xu at *
            rw [← hh] at ru
            generalize T.nil.hash = h at *
            generalize pl u.pairs = y at *
            generalize sv u.texts = U at *
            generalize u.texts.length = n at *
            refine mk {frz := [47]} (fn := Tryd.f3) Tryd.func3 (by kernel_rfl) (by kernel_rfl) (Nat.le_of_ble_eq_true (Eq.refl true)) fun S hS => ?_
            conv => whnf
            refine hS _ _ _ _ <| c_awake _ ?_
            conv => whnf
            refine hS _ _ _ _ <| sa _ ?_
            conv => whnf
            refine hS _ _ _ _ <| sb _ ?_
            conv => whnf
            refine hS _ _ _ _ <| ma _ ?_
            conv => whnf
            refine hS _ _ _ _ <| mb _ ?_
            conv => whnf
            refine hS _ _ _ _ <| sm _ ?_
            conv => whnf
            refine hS _ _ _ _ <| rt _ ?_
            conv => whnf
            refine hS _ _ _ _ <| ru _ ?_
            try (show aNext _ _ _ _ _)
            try rw [aNext_eq]
            refine aOps_hide 2 fun KK hKK => ?_
            conv => whnf
            rw [beq_ba, decide_eq_true rfl]
            refine hKK _ ?_
            conv => whnf
            refine hS _ _ _ _ <| c_TextsN _ ?_
            conv => whnf
            refine hS _ _ _ _ <| tu _ fun n1 L1 g hL hn1 => ?_
            rw [hL, hn1]
            cases g
            all_goals
              conv => whnf
              rw [show (U.drop 0).take n = U by rw [List.drop_zero]; exact List.take_of_length_le (by omega)]
              refine hS _ _ _ _ <| cc _ ?_
              conv => whnf
          · by_cases un : u = .nil
            · subst un
              have tt := c_Texts t tg tn (by omega)
              have e1 : pl T.nil.pairs = [] := rfl
              have e2 : sv T.nil.texts = [] := rfl
              rw [e1] at mb sm
              rw [e2] at cc
              generalize tr .nil = xu at *
              generalize tr t = xt at *
              rw [hh] at rt
              generalize T.nil.hash = h at *
              generalize pl t.pairs = y at *
              generalize sv t.texts = U at *
              generalize t.texts.length = n at *
              refine mk {frz := [47]} (fn := Tryd.f3) Tryd.func3 (by kernel_rfl) (by kernel_rfl) (Nat.le_of_ble_eq_true (Eq.refl true)) fun S hS => ?_
              conv => whnf
              refine hS _ _ _ _ <| c_awake _ ?_
              conv => whnf
              refine hS _ _ _ _ <| sa _ ?_
              conv => whnf
              refine hS _ _ _ _ <| sb _ ?_
              conv => whnf
              refine hS _ _ _ _ <| ma _ ?_
              conv => whnf
              refine hS _ _ _ _ <| mb _ ?_
              conv => whnf
              refine hS _ _ _ _ <| sm _ ?_
              conv => whnf
              refine hS _ _ _ _ <| rt _ ?_
              conv => whnf
              refine hS _ _ _ _ <| ru _ ?_
              try (show aNext _ _ _ _ _)
              try rw [aNext_eq]
              refine aOps_hide 2 fun KK hKK => ?_
              conv => whnf
              rw [beq_ba, decide_eq_true rfl]
              refine hKK _ ?_
              conv => whnf
              refine hS _ _ _ _ <| tt _ fun n1 L1 g hL hn1 => ?_
              rw [hL, hn1]
              cases g
              all_goals
                conv => whnf
                refine hS _ _ _ _ <| c_TextsN _ ?_
                conv => whnf
                rw [show (U.drop 0).take n = U by rw [List.drop_zero]; exact List.take_of_length_le (by omega)]
                refine hS _ _ _ _ <| cc _ ?_
                conv => whnf
            · have tt := c_Texts t tg tn (by omega)
              have tu := c_Texts u ug un (by omega)
              generalize tr t = xt at *
              generalize tr u = xu at *
              rw [← hh] at ru
              generalize t.hash = h at *
              generalize pl t.pairs = y at *
              generalize pl u.pairs = y2 at *
              generalize sv t.texts = U at *
              generalize sv u.texts = V at *
              generalize t.texts.length = n at *
              generalize u.texts.length = m at *
              refine mk {frz := [47]} (fn := Tryd.f3) Tryd.func3 (by kernel_rfl) (by kernel_rfl) (Nat.le_of_ble_eq_true (Eq.refl true)) fun S hS => ?_
              conv => whnf
              refine hS _ _ _ _ <| c_awake _ ?_
              conv => whnf
              refine hS _ _ _ _ <| sa _ ?_
              conv => whnf
              refine hS _ _ _ _ <| sb _ ?_
              conv => whnf
              refine hS _ _ _ _ <| ma _ ?_
              conv => whnf
              refine hS _ _ _ _ <| mb _ ?_
              conv => whnf
              refine hS _ _ _ _ <| sm _ ?_
              conv => whnf
              refine hS _ _ _ _ <| rt _ ?_
              conv => whnf
              refine hS _ _ _ _ <| ru _ ?_
              try (show aNext _ _ _ _ _)
              try rw [aNext_eq]
              refine aOps_hide 2 fun KK hKK => ?_
              conv => whnf
              rw [beq_ba, decide_eq_true rfl]
              refine hKK _ ?_
              conv => whnf
              refine hS _ _ _ _ <| tt _ fun n1 L1 g hL hn1 => ?_
              rw [hL, hn1]
              cases g
              all_goals
                conv => whnf
                refine hS _ _ _ _ <| tu _ fun n2 L2 g2 hL2 hn2 => ?_
                rw [hL2, hn2]
                cases g2
                all_goals
                  conv => whnf
                  rw [show (U.drop 0).take n = U by rw [List.drop_zero]; exact List.take_of_length_le (by omega), show (V.drop 0).take m = V by rw [List.drop_zero]; exact List.take_of_length_le (by omega)]
                  refine hS _ _ _ _ <| cc _ ?_
                  conv => whnf
        · generalize tr t = xt at *
          generalize tr u = xu at *
          generalize t.hash = ht at *
          generalize u.hash = hu at *
          generalize pl t.pairs = y at *
          generalize pl u.pairs = y2 at *
          refine mk {frz := [47]} (fn := Tryd.f3) Tryd.func3 (by kernel_rfl) (by kernel_rfl) (Nat.le_of_ble_eq_true (Eq.refl true)) fun S hS => ?_
          conv => whnf
          refine hS _ _ _ _ <| c_awake _ ?_
          conv => whnf
          refine hS _ _ _ _ <| sa _ ?_
          conv => whnf
          refine hS _ _ _ _ <| sb _ ?_
          conv => whnf
          refine hS _ _ _ _ <| ma _ ?_
          conv => whnf
          refine hS _ _ _ _ <| mb _ ?_
          conv => whnf
          refine hS _ _ _ _ <| sm _ ?_
          conv => whnf
          refine hS _ _ _ _ <| rt _ ?_
          conv => whnf
          refine hS _ _ _ _ <| ru _ ?_
          try (show aNext _ _ _ _ _)
          try rw [aNext_eq]
          refine aOps_hide 2 fun KK hKK => ?_
          conv => whnf
          rw [beq_ba, decide_eq_false hh]
          refine hKK _ ?_
          conv => whnf
    · have sb := c_SmallF b 25 (by decide) hsb
      generalize acL a = A at *
      generalize acL b = B at *
      refine mk {frz := [47]} (fn := Tryd.f3) Tryd.func3 (by kernel_rfl) (by kernel_rfl) (Nat.le_of_ble_eq_true (Eq.refl true)) fun S hS => ?_
      conv => whnf
      refine hS _ _ _ _ <| c_awake _ ?_
      conv => whnf
      refine hS _ _ _ _ <| sa _ ?_
      conv => whnf
      refine hS _ _ _ _ <| sb _ ?_
      conv => whnf
  · have sa := c_SmallF a 25 (by decide) hsa
    generalize acL a = A at *
    generalize acL b = B at *
    refine mk {frz := [47]} (fn := Tryd.f3) Tryd.func3 (by kernel_rfl) (by kernel_rfl) (Nat.le_of_ble_eq_true (Eq.refl true)) fun S hS => ?_
    conv => whnf
    refine hS _ _ _ _ <| c_awake _ ?_
    conv => whnf
    refine hS _ _ _ _ <| sa _ ?_
    conv => whnf
end Go.Proofs.YtkpmcdfmdfoheaaDoor
