/- A part of the proof of a seat of tries: F7. -/
import Derived.Test.YtkpmcdfmdfoheaaDoorE11
import Derived.Test.YtkpmcdfmdfoheaaDoorF3
set_option linter.all false
namespace Go.Proofs.YtkpmcdfmdfoheaaDoor
open Go Go.Abs
def gv : Option ByteArray → ByteArray | some v => v | none => ⟨#[]⟩
def gb : Option ByteArray → Bool | some _ => true | none => false
theorem getR_eq (o : Option ByteArray) : getR o = .tup [.i (.str (gv o)), .i (.bool (gb o))] := by cases o <;> rfl
theorem ask_get (t : T) (tg : t.good) (tl : t.pairs.length < 1000) (k : ByteArray) : ∃ (v : ByteArray) (b : Bool), (∀ K : AV → List Blk → Prop, K (.tup [.i (.str v), .i (.bool b)]) [] → SP 18 [.i (tr t), .i (.str k)] [] K) ∧
    (∀ K : AV → List Blk → Prop, K (.tup [.i (.str v), .i (.bool b)]) [] → SP 28 [.i (.lst (pl t.pairs)), .i (.str k)] [] K) := by
  refine ⟨gv (rget k t.pairs), gb (rget k t.pairs), fun K hK => ?_, fun K hK => c_rGet _ t.pairs (.inr rfl) (by omega) k K fun u hu => by rw [hu, getR_eq]; exact hK⟩
  by_cases hk : k.size = 32
  · exact c_Get t tg k hk K fun u hu => by rw [hu, T.get_rget tg, getR_eq]; exact hK
  · refine c_GetBad t k hk K fun u hu => ?_
    have : rget k t.pairs = none := rget_none.2 fun p hp e => hk (by rw [← e]; exact T.key_size tg p hp)
    rw [hu]
    rw [this] at hK
    exact hK
theorem ask_under (t : T) (tg : t.good) (tl : t.pairs.length < 1000) (k : ByteArray) (n : Int) : ∃ l : List Pr, l.length < 1000 ∧ (∀ K : AV → List Blk → Prop, K (.i (.lst (pl l))) [] → SP 29 [.i (tr t), .i (.str k), .i (.int .i64 n)] [] K) ∧
    (∀ K : AV → List Blk → Prop, K (.i (.lst (pl l))) [] → SP 30 [.i (.lst (pl t.pairs)), .i (.str k), .i (.int .i64 n)] [] K) := by
  by_cases h : k.size = 32 ∧ 0 ≤ n ∧ n ≤ 256
  · obtain ⟨hk, h0, h1⟩ := h
    obtain ⟨m, rfl⟩ : ∃ m : Nat, n = (m : Int) := ⟨n.toNat, by omega⟩
    refine ⟨t.under k m, ?_, fun K hK => c_Under t tg (by omega) k hk m (by omega) K fun L hL => by rw [hL]; exact hK, fun K hK => c_rUnder t.pairs (by omega) (T.key_size tg) k hk m (by omega) K fun L hL => by rw [hL, ← T.under_eq (by omega) tg]; exact hK⟩
    rw [T.under_eq (by omega) tg]
    exact Nat.lt_of_le_of_lt (List.length_filter_le _ _) tl
  · have hb : k.size ≠ 32 ∨ n < 0 ∨ 256 < n := by omega
    exact ⟨[], by simp, fun K hK => c_UnderBad _ k n hb K hK, fun K hK => c_rUnderBad _ k n hb K hK⟩
set_option maxRecDepth 100000 in
set_option maxHeartbeats 4000000 in
theorem c_TrieAsks (l : List Act') (raw key : ByteArray) (n : Int) (_ : (Lit.int .i64 n).wf = true) : SP 8 [.i (.lst (acL l)), .agg [.imm (.str raw), .imm (.str key)], .i (.int .i64 n)] [] (fun r _ => r = .i (.bool true)) := by
  by_cases hsm : small l 40
  · have sm := c_SmallT l 40 (by decide) hsm
    by_cases hs : raw.size ≤ 100 ∧ key.size ≤ 100
    · obtain ⟨s1, s2⟩ := hs
      have md := c_Made' l 40 (by decide) hsm
      obtain ⟨tg, tl⟩ := made_good hsm
      generalize made l = t at md tg tl
      have k1 := c_Key key (show key.size < 1000000000 by omega)
      have ks := lawKey_size key
      generalize lawKey key = k at k1 ks
      have k1 : ∀ K : AV → List Blk → Prop, K (.i (.str k)) [] → SP 17 [.i (.str key)] [] K := fun K hK => k1 K fun r hr => by rw [hr]; exact hK
      obtain ⟨v1, b1, g1, r1⟩ := ask_get t tg (by omega) raw
      obtain ⟨v2, b2, g2, r2⟩ := ask_get t tg (by omega) k
      obtain ⟨l1, ll1, u1, x1⟩ := ask_under t tg (by omega) raw n
      obtain ⟨l2, ll2, u2, x2⟩ := ask_under t tg (by omega) k n
      have sa1 := c_SameT l1 (by omega)
      have sa2 := c_SameT l2 (by omega)
      have rt := c_Root t
      have pb := fun (h : raw.size ≠ 32) => c_PutBad (tr t) raw ⟨#[120]⟩ h
      have db := fun (h : raw.size ≠ 32) => c_DelBad (tr t) raw h
      have un := c_UnderN k ks
      have pn := c_PutN k ⟨#[120]⟩ ks (by decide)
      have ln := c_Len (.leaf k ⟨#[120]⟩)
      have e1 : ((T.leaf k ⟨#[120]⟩).pairs.length : Int) = 1 := rfl
      rw [e1] at ln
      have pn : ∀ K : AV → List Blk → Prop, K (.i (tr (.leaf k ⟨#[120]⟩))) [] → SP 19 [.i .nilp, .i (.str k), .i (.str ⟨#[120]⟩)] [] K := fun K hK => pn K fun u hu => by rw [hu]; exact hK
      have rn := fun K hK => c_RootN K hK
      have rrn := fun K hK => c_rRootNN K hK
      generalize zero32 = z at rn rrn
      generalize tr (.leaf k ⟨#[120]⟩) = xl at pn ln
      generalize tr t = xt at *
      generalize t.hash = ht at *
      generalize pl t.pairs = y at *
      generalize pl l1 = y1 at *
      generalize pl l2 = y2 at *
      generalize acL l = A at *
      refine mk {keep := [(8, [2,7,8,9,10,45,46,47])]} (fn := Tryd.f8) Tryd.func8 (by kernel_rfl) (by kernel_rfl) (Nat.le_of_ble_eq_true (Eq.refl true)) fun S hS => ?_
      conv => whnf
      refine ⟨by decide, by decide, Nat.succ_pos 1, ?_⟩
      conv => whnf
      refine ⟨_, rfl, ?_⟩
      conv => whnf
      refine ⟨by decide, by decide, Nat.lt_succ_self 1, ?_⟩
      conv => whnf
      refine ⟨_, rfl, ?_⟩
      conv => whnf
      refine hS _ _ _ _ <| c_awake _ ?_
      conv => whnf
      refine hS _ _ _ _ <| sm _ ?_
      conv => whnf
      rw [decide_eq_false (show ¬ ((raw.size : Int) > 100) by omega)]
      conv => whnf
      rw [decide_eq_false (show ¬ ((key.size : Int) > 100) by omega)]
      conv => whnf
      refine hS _ _ _ _ <| md _ ?_
      conv => whnf
      refine hS _ _ _ _ <| k1 _ ?_
      conv => whnf
      intro X hX
      apply hX
      conv => whnf
      refine ⟨by decide, by decide, ?_⟩
      conv => whnf
      refine ⟨_, rfl, ?_⟩
      conv => whnf
      refine hS _ _ _ _ <| g1 _ ?_
      conv => whnf
      refine hS _ _ _ _ <| r1 _ ?_
      conv => whnf
      rw [beq_ba, decide_eq_true rfl]
      conv => whnf
      rw [show (b1 == b1) = true by simp]
      conv => whnf
      refine hS _ _ _ _ <| u1 _ ?_
      conv => whnf
      refine hS _ _ _ _ <| x1 _ ?_
      conv => whnf
      refine hS _ _ _ _ <| sa1 _ ?_
      conv => whnf
      apply hX
      conv => whnf
      refine ⟨by decide, by decide, ?_⟩
      conv => whnf
      refine ⟨_, rfl, ?_⟩
      conv => whnf
      refine hS _ _ _ _ <| g2 _ ?_
      conv => whnf
      refine hS _ _ _ _ <| r2 _ ?_
      conv => whnf
      rw [beq_ba, decide_eq_true rfl]
      conv => whnf
      rw [show (b2 == b2) = true by simp]
      conv => whnf
      refine hS _ _ _ _ <| u2 _ ?_
      conv => whnf
      refine hS _ _ _ _ <| x2 _ ?_
      conv => whnf
      refine hS _ _ _ _ <| sa2 _ ?_
      conv => whnf
      apply hX
      conv => whnf
      by_cases h32 : raw.size = 32
      · rw [show ((raw.size : Int) != 32) = false by rw [h32]; rfl]
        conv => whnf
        refine hS _ _ _ _ <| c_LenN _ ?_
        conv => whnf
        refine hS _ _ _ _ <| c_TopN _ ?_
        conv => whnf
        refine hS _ _ _ _ <| k1 _ ?_
        conv => whnf
        refine hS _ _ _ _ <| un _ ?_
        conv => whnf
        refine hS _ _ _ _ <| rn _ ?_
        conv => whnf
        refine hS _ _ _ _ <| rrn _ ?_
        try (show aNext _ _ _ _ _)
        try rw [aNext_eq]
        refine aOps_hide 3 fun KK hKK => ?_
        conv => whnf
        rw [beq_ba, decide_eq_true rfl]
        refine hKK _ ?_
        conv => whnf
        refine hS _ _ _ _ <| k1 _ ?_
        conv => whnf
        refine hS _ _ _ _ <| pn _ ?_
        conv => whnf
        refine hS _ _ _ _ <| ln _ ?_
        conv => whnf
        rfl
      · have pb := pb h32
        have db := db h32
        rw [show ((raw.size : Int) != 32) = true by simp; omega]
        conv => whnf
        refine hS _ _ _ _ <| pb _ ?_
        conv => whnf
        refine hS _ _ _ _ <| rt _ ?_
        conv => whnf
        refine hS _ _ _ _ <| rt _ ?_
        try (show aNext _ _ _ _ _)
        try rw [aNext_eq]
        refine aOps_hide 2 fun KK hKK => ?_
        conv => whnf
        rw [beq_ba, decide_eq_true rfl]
        refine hKK _ ?_
        conv => whnf
        refine hS _ _ _ _ <| db _ ?_
        conv => whnf
        refine hS _ _ _ _ <| rt _ ?_
        conv => whnf
        refine hS _ _ _ _ <| rt _ ?_
        try (show aNext _ _ _ _ _)
        try rw [aNext_eq]
        refine aOps_hide 3 fun KK hKK => ?_
        conv => whnf
        rw [beq_ba, decide_eq_true rfl]
        refine hKK _ ?_
        conv => whnf
        refine hS _ _ _ _ <| c_LenN _ ?_
        conv => whnf
        refine hS _ _ _ _ <| c_TopN _ ?_
        conv => whnf
        refine hS _ _ _ _ <| k1 _ ?_
        conv => whnf
        refine hS _ _ _ _ <| un _ ?_
        conv => whnf
        refine hS _ _ _ _ <| rn _ ?_
        conv => whnf
        refine hS _ _ _ _ <| rrn _ ?_
        try (show aNext _ _ _ _ _)
        try rw [aNext_eq]
        refine aOps_hide 3 fun KK hKK => ?_
        conv => whnf
        rw [beq_ba, decide_eq_true rfl]
        refine hKK _ ?_
        conv => whnf
        refine hS _ _ _ _ <| k1 _ ?_
        conv => whnf
        refine hS _ _ _ _ <| pn _ ?_
        conv => whnf
        refine hS _ _ _ _ <| ln _ ?_
        conv => whnf
        rfl
    · refine mk {keep := [(8, [2,7,8,9,10,45,46,47])]} (fn := Tryd.f8) Tryd.func8 (by kernel_rfl) (by kernel_rfl) (Nat.le_of_ble_eq_true (Eq.refl true)) fun S hS => ?_
      conv => whnf
      refine ⟨by decide, by decide, Nat.succ_pos 1, ?_⟩
      conv => whnf
      refine ⟨_, rfl, ?_⟩
      conv => whnf
      refine ⟨by decide, by decide, Nat.lt_succ_self 1, ?_⟩
      conv => whnf
      refine ⟨_, rfl, ?_⟩
      conv => whnf
      refine hS _ _ _ _ <| c_awake _ ?_
      conv => whnf
      refine hS _ _ _ _ <| sm _ ?_
      conv => whnf
      by_cases h1 : raw.size ≤ 100
      · rw [decide_eq_false (show ¬ ((raw.size : Int) > 100) by omega)]
        conv => whnf
        by_cases h2 : key.size ≤ 100
        · exact absurd ⟨h1, h2⟩ hs
        · rw [decide_eq_true (show (key.size : Int) > 100 by omega)]
          conv => whnf
      · rw [decide_eq_true (show (raw.size : Int) > 100 by omega)]
        conv => whnf
  · have sm := c_SmallF l 40 (by decide) hsm
    refine mk {keep := [(8, [2,7,8,9,10,45,46,47])]} (fn := Tryd.f8) Tryd.func8 (by kernel_rfl) (by kernel_rfl) (Nat.le_of_ble_eq_true (Eq.refl true)) fun S hS => ?_
    conv => whnf
    refine ⟨by decide, by decide, Nat.succ_pos 1, ?_⟩
    conv => whnf
    refine ⟨_, rfl, ?_⟩
    conv => whnf
    refine ⟨by decide, by decide, Nat.lt_succ_self 1, ?_⟩
    conv => whnf
    refine ⟨_, rfl, ?_⟩
    conv => whnf
    refine hS _ _ _ _ <| c_awake _ ?_
    conv => whnf
    refine hS _ _ _ _ <| sm _ ?_
    conv => whnf
end Go.Proofs.YtkpmcdfmdfoheaaDoor
