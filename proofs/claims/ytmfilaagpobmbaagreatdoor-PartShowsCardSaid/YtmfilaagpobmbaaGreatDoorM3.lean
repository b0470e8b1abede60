/- A part of the proof of a seat of parts: M3. -/
import Derived.Test.YtmfilaagpobmbaaGreatDoorM1
set_option linter.all false
namespace Go.Proofs.YtmfilaagpobmbaaGreatDoor
open Go Go.Abs
set_option maxRecDepth 100000 in
set_option maxHeartbeats 4000000 in
theorem c_PartOpensY (text root rp : ByteArray) (ht : text.size ≤ 4000) (hr : root.size ≤ 100) (x1 x2 x3 x4 x5 x6 pp0 tp : IV)
    (hrO : ∀ K : AV → List Blk → Prop, K (.tup [.agg [.imm x1, .imm x2, .imm x3, .imm x4, .imm x5, .imm x6], .i (.bool true)]) [] → SP 8 [.i (.str text)] [] K)
    (hRt : ∀ K : AV → List Blk → Prop, K (.i (.str rp)) [] → SP 10 [.agg [.imm x1, .imm x2, .imm x3, .imm x4, .imm x5, .imm x6]] [] K)
    (hO1 : ∀ K : AV → List Blk → Prop, K (.tup [.i (.ptr [pp0]), .i (.bool true)]) [] → SP 9 [.i (.str rp), .i (.str text)] [] K)
    (hTop : ∀ K : AV → List Blk → Prop, K (.i tp) [] → SP 12 [.i (.ptr [pp0])] [] K)
    (hSm : ∀ K : AV → List Blk → Prop, K (.i (.bool true)) [] → SP 11 [.i tp, .agg [.imm x1, .imm x2, .imm x3, .imm x4, .imm x5, .imm x6]] [] K)
    (hPR : ∀ K : AV → List Blk → Prop, K (.i (.str rp)) [] → SP 13 [.i (.ptr [pp0])] [] K)
    (hO2y : root = rp → ∀ K : AV → List Blk → Prop, K (.tup [.i (.ptr [pp0]), .i (.bool true)]) [] → SP 9 [.i (.str root), .i (.str text)] [] K)
    (hO2n : root ≠ rp → ∀ K : AV → List Blk → Prop, K (.tup [.i .nilp, .i (.bool false)]) [] → SP 9 [.i (.str root), .i (.str text)] [] K) :
    SP 3 [.i (.str text), .i (.str root)] [] (fun r _ => r = .i (.bool true)) := by
  refine mk {} (fn := Tryz.f3) Tryz.func3 (by kernel_rfl) (by kernel_rfl) (Nat.le_of_ble_eq_true (Eq.refl true)) fun S hS => ?_
  conv => whnf
  refine hS _ _ _ _ <| c_awake6 _ ?_
  conv => whnf
  rw [decide_eq_false (show ¬ ((text.size : Int) > 4000) by omega)]
  conv => whnf
  rw [decide_eq_false (show ¬ ((root.size : Int) > 100) by omega)]
  conv => whnf
  refine hS _ _ _ _ <| hrO _ ?_
  conv => whnf
  refine hS _ _ _ _ <| hRt _ ?_
  conv => whnf
  refine hS _ _ _ _ <| hO1 _ ?_
  conv => whnf
  refine ⟨_, hS _ _ _ _ <| hTop _ ⟨rfl, rfl⟩, rfl, ?_⟩
  conv => whnf
  refine ⟨_, hS _ _ _ _ <| hSm _ ⟨rfl, rfl⟩, rfl, ?_⟩
  conv => whnf
  refine ⟨_, hS _ _ _ _ <| hPR _ ⟨rfl, rfl⟩, rfl, ?_⟩
  conv => whnf
  refine ⟨_, hS _ _ _ _ <| hRt _ ⟨rfl, rfl⟩, rfl, ?_⟩
  conv => whnf
  rw [self_beq]
  conv => whnf
  by_cases h : root = rp
  · refine hS _ _ _ _ <| hO2y h _ ?_
    conv => whnf
    refine hS _ _ _ _ <| hRt _ ?_
    conv => whnf
    rw [beq_ba, decide_eq_true h]
    rfl
  · refine hS _ _ _ _ <| hO2n h _ ?_
    conv => whnf
    refine hS _ _ _ _ <| hRt _ ?_
    conv => whnf
    rw [beq_ba, decide_eq_false h]
    rfl
set_option maxRecDepth 100000 in
set_option maxHeartbeats 4000000 in
theorem c_PartOpensN (text root rp : ByteArray) (ht : text.size ≤ 4000) (hr : root.size ≤ 100) (x1 x2 x3 x4 x5 x6 : IV)
    (hrO : ∀ K : AV → List Blk → Prop, K (.tup [.agg [.imm x1, .imm x2, .imm x3, .imm x4, .imm x5, .imm x6], .i (.bool false)]) [] → SP 8 [.i (.str text)] [] K)
    (hRt : ∀ K : AV → List Blk → Prop, K (.i (.str rp)) [] → SP 10 [.agg [.imm x1, .imm x2, .imm x3, .imm x4, .imm x5, .imm x6]] [] K)
    (hO : ∀ r, ∀ K : AV → List Blk → Prop, K (.tup [.i .nilp, .i (.bool false)]) [] → SP 9 [.i (.str r), .i (.str text)] [] K) :
    SP 3 [.i (.str text), .i (.str root)] [] (fun r _ => r = .i (.bool true)) := by
  refine mk {} (fn := Tryz.f3) Tryz.func3 (by kernel_rfl) (by kernel_rfl) (Nat.le_of_ble_eq_true (Eq.refl true)) fun S hS => ?_
  conv => whnf
  refine hS _ _ _ _ <| c_awake6 _ ?_
  conv => whnf
  rw [decide_eq_false (show ¬ ((text.size : Int) > 4000) by omega)]
  conv => whnf
  rw [decide_eq_false (show ¬ ((root.size : Int) > 100) by omega)]
  conv => whnf
  refine hS _ _ _ _ <| hrO _ ?_
  conv => whnf
  refine hS _ _ _ _ <| hRt _ ?_
  conv => whnf
  refine hS _ _ _ _ <| hO rp _ ?_
  conv => whnf
  refine hS _ _ _ _ <| hO root _ ?_
  conv => whnf
set_option maxRecDepth 100000 in
theorem c_PartOpens (text root : ByteArray) : SP 3 [.i (.str text), .i (.str root)] [] (fun r _ => r = .i (.bool true)) := by
  by_cases ht : text.size ≤ 4000
  case neg =>
    refine mk {} (fn := Tryz.f3) Tryz.func3 (by kernel_rfl) (by kernel_rfl) (Nat.le_of_ble_eq_true (Eq.refl true)) fun S hS => ?_
    conv => whnf
    refine hS _ _ _ _ <| c_awake6 _ ?_
    conv => whnf
    rw [decide_eq_true (show (text.size : Int) > 4000 by omega)]
    conv => whnf
  by_cases hr : root.size ≤ 100
  case neg =>
    refine mk {} (fn := Tryz.f3) Tryz.func3 (by kernel_rfl) (by kernel_rfl) (Nat.le_of_ble_eq_true (Eq.refl true)) fun S hS => ?_
    conv => whnf
    refine hS _ _ _ _ <| c_awake6 _ ?_
    conv => whnf
    rw [decide_eq_false (show ¬ ((text.size : Int) > 4000) by omega)]
    conv => whnf
    rw [decide_eq_true (show (root.size : Int) > 100 by omega)]
    conv => whnf
  have hO := fun K hK => c_rOpen text (by omega) K hK
  have hP := fun r K => c_POpen r text (by omega) K
  cases e : treeOf text with
  | none =>
    rw [e] at hO hP
    refine c_PartOpensN text root zero32 ht hr (.int .i64 0) (.str ⟨#[]⟩) (.str ⟨#[]⟩) (.int .i64 0) (.lst []) (.str ⟨#[]⟩) (fun K hK => hO K fun y1 y2 y3 y4 y5 y6 b hb => ?_) (fun K hK => c_rRootP0 _ _ _ _ _ _ rfl K hK) (fun r K hK => hP r K (fun p hp _ => by simp at hp) (fun _ => hK))
    obtain ⟨hx, rfl⟩ := hb
    simp only [List.cons.injEq, and_true] at hx
    obtain ⟨rfl, rfl, rfl, rfl, rfl, rfl⟩ := hx
    exact hK
  | some p =>
    rw [e] at hO hP
    have hy : ∀ r, r = rootP p → ∀ K : AV → List Blk → Prop, K (.tup [.i (pv p), .i (.bool true)]) [] → SP 9 [.i (.str r), .i (.str text)] [] K := fun r hr K hK => hP r K (fun q hq _ => by simp only [Option.some.injEq] at hq; subst hq; exact hK) (fun h => absurd hr.symm (h p rfl))
    have hn : ∀ r, r ≠ rootP p → ∀ K : AV → List Blk → Prop, K (.tup [.i .nilp, .i (.bool false)]) [] → SP 9 [.i (.str r), .i (.str text)] [] K := fun r hr K hK => hP r K (fun q hq h => by simp only [Option.some.injEq] at hq; subst hq; exact absurd h.symm hr) (fun _ => hK)
    cases p with
    | none =>
      refine c_PartOpensY text root zero32 ht hr (.int .i64 0) (.str ⟨#[]⟩) (.str ⟨#[]⟩) (.int .i64 0) (.lst []) (.str ⟨#[]⟩) .nilp .nilp (fun K hK => hO K fun y1 y2 y3 y4 y5 y6 b hb => ?_) (fun K hK => c_rRootP0 _ _ _ _ _ _ rfl K hK) (hy zero32 rfl) (fun K hK => c_PTop none K hK) (fun K hK => c_sameN _ _ _ _ _ _ rfl K hK) (fun K hK => c_PRoot none K hK) (hy root) (hn root)
      obtain ⟨hx, rfl⟩ := hb
      simp only [List.cons.injEq, and_true] at hx
      obtain ⟨rfl, rfl, rfl, rfl, rfl, rfl⟩ := hx
      exact hK
    | some t =>
      have hok := treeOf_ok (by omega) e
      obtain ⟨x1, x2, x3, x4, u, hx⟩ : ∃ x1 x2 x3 x4 u, t.tv = [x1, x2, x3, x4, u, .str t.hash] := by
        obtain ⟨a, b, c, d, h⟩ := t.tv_six
        exact ⟨_, _, _, _, _, h⟩
      refine c_PartOpensY text root t.hash ht hr x1 x2 x3 x4 u (.str t.hash) t.iv t.iv (fun K hK => hO K fun y1 y2 y3 y4 y5 y6 b hb => ?_) (fun K hK => c_rRootP _ _ _ _ _ _ (PT.hash_size hok) K hK) (hy t.hash rfl) (fun K hK => c_PTop (some t) K hK) (fun K hK => c_same t _ _ _ _ _ _ hx K hK) (fun K hK => c_PRoot (some t) K hK) (hy root) (hn root)
      obtain ⟨hx', rfl⟩ := hb
      rw [hx] at hx'
      simp only [List.cons.injEq, and_true] at hx'
      obtain ⟨rfl, rfl, rfl, rfl, rfl, rfl⟩ := hx'
      exact hK
end Go.Proofs.YtmfilaagpobmbaaGreatDoor
