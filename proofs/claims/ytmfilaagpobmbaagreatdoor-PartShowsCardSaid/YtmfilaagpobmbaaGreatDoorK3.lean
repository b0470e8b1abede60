/- A part of the proof of a seat of parts: K3, K4, K5. -/
import Derived.Test.YtmfilaagpobmbaaGreatDoorK1
import Derived.Test.YtmfilaagpobmbaaGreatDoorS4
set_option linter.all false
namespace Go.Proofs.YtmfilaagpobmbaaGreatDoor
open Go Go.Abs
theorem c_PRootN (K : AV → List Blk → Prop) (hk : ∀ e : ByteArray, e = ⟨#[]⟩ → K (.i (.str e)) []) : SP 13 [.i .nilp] [] K := by
  refine mk {} (fn := Tryz.f13) Tryz.func13 (by kernel_rfl) (by kernel_rfl) (Nat.le_of_ble_eq_true (Eq.refl true)) fun S hS => ?_
  conv => whnf
  exact hk _ rfl
set_option maxRecDepth 100000 in
theorem c_PRoot (p : Option PT) (K : AV → List Blk → Prop) (hk : K (.i (.str (rootP p))) []) : SP 13 [.i (pv p)] [] K := by
  cases p with
  | none =>
    refine mk {} (fn := Tryz.f13) Tryz.func13 (by kernel_rfl) (by kernel_rfl) (Nat.le_of_ble_eq_true (Eq.refl true)) fun S hS => ?_
    conv => whnf
    refine hS _ _ _ _ <| c_Empty _ ?_
    conv => whnf
    exact hk
  | some t =>
    obtain ⟨l1, s1, k1, v1, a1, z1, o1, e1⟩ := t.iv_ptr
    simp only [rootP] at hk
    simp only [pv, topV, e1]
    generalize t.hash = h at *
    refine mk {} (fn := Tryz.f13) Tryz.func13 (by kernel_rfl) (by kernel_rfl) (Nat.le_of_ble_eq_true (Eq.refl true)) fun S hS => ?_
    conv => whnf
    exact hk
set_option maxRecDepth 100000 in
theorem c_PRootB (p : Option PT) (K : AV → List Blk → Prop) (hk : K (.i (.str (rootP p))) [.cells [.imm (topV p)] none]) : SP 13 [.one (.ref 0 0)] [.cells [.imm (topV p)] none] K := by
  cases p with
  | none =>
    refine mk {inc := 1} (fn := Tryz.f13) Tryz.func13 (by kernel_rfl) (by kernel_rfl) (Nat.le_of_ble_eq_true (Eq.refl true)) fun S hS => ?_
    conv => whnf
    refine hS _ _ _ _ <| c_Empty _ ?_
    conv => whnf
    exact hk
  | some t =>
    obtain ⟨l1, s1, k1, v1, a1, z1, o1, e1⟩ := t.iv_ptr
    simp only [rootP, topV, e1] at hk ⊢
    generalize t.hash = h at *
    refine mk {inc := 1} (fn := Tryz.f13) Tryz.func13 (by kernel_rfl) (by kernel_rfl) (Nat.le_of_ble_eq_true (Eq.refl true)) fun S hS => ?_
    conv => whnf
    exact hk
theorem c_PTopN (K : AV → List Blk → Prop) (hk : K (.i .nilp) []) : SP 12 [.i .nilp] [] K := by
  refine mk {} (fn := Tryz.f12) Tryz.func12 (by kernel_rfl) (by kernel_rfl) (Nat.le_of_ble_eq_true (Eq.refl true)) fun S hS => ?_
  conv => whnf
  exact hk
theorem c_PTop (p : Option PT) (K : AV → List Blk → Prop) (hk : K (.i (topV p)) []) : SP 12 [.i (pv p)] [] K := by
  refine mk {} (fn := Tryz.f12) Tryz.func12 (by kernel_rfl) (by kernel_rfl) (Nat.le_of_ble_eq_true (Eq.refl true)) fun S hS => ?_
  conv => whnf
  exact hk
set_option maxRecDepth 100000 in
set_option maxHeartbeats 2000000 in
theorem c_POpen (root s : ByteArray) (hs : s.size ≤ 16777216) (K : AV → List Blk → Prop)
    (hk : ∀ p, treeOf s = some p → rootP p = root → K (.tup [.i (pv p), .i (.bool true)]) [])
    (hn : (∀ p, treeOf s = some p → rootP p ≠ root) → K (.tup [.i .nilp, .i (.bool false)]) []) : SP 9 [.i (.str root), .i (.str s)] [] K := by
  have hfin := fun n h => readN_fine (n := n) hs h
  unfold treeOf at hk hn
  refine mk {inc := 0} (fn := Tryz.f9) Tryz.func9 (by kernel_rfl) (by kernel_rfl) (Nat.le_of_ble_eq_true (Eq.refl true)) fun S hS => ?_
  conv => whnf
  refine hS _ _ _ _ <| c_Read s hs _ fun x y z u b hr => ?_
  generalize readN s = q at *
  cases q with
  | none =>
    obtain ⟨rfl, rfl, rfl, rfl, rfl⟩ := hr
    conv => whnf
    exact hn (by simp)
  | some n =>
    obtain ⟨hv, rfl⟩ := hr
    cases n with
    | num m =>
      simp only [Nd.iv, List.cons.injEq, and_true] at hv; obtain ⟨rfl, rfl, rfl, rfl⟩ := hv
      conv => whnf
      exact hn (by simp)
    | str m =>
      simp only [Nd.iv, List.cons.injEq, and_true] at hv; obtain ⟨rfl, rfl, rfl, rfl⟩ := hv
      conv => whnf
      exact hn (by simp)
    | lst ks =>
      have hf := hfin _ rfl
      rw [Nd.fine] at hf
      simp only [Nd.iv, List.cons.injEq, and_true] at hv; obtain ⟨rfl, rfl, rfl, rfl⟩ := hv
      cases ks with
      | nil =>
        conv => whnf
        refine hS _ _ _ _ <| c_PRootB none _ ?_
        conv => whnf
        rw [beq_ba]
        by_cases hr : rootP none = root
        · rw [decide_eq_true hr]
          conv => whnf
          exact hk none rfl hr
        · rw [decide_eq_false hr]
          conv => whnf
          exact hn (fun p hp => by simp only [Option.some.injEq] at hp; subst hp; exact hr)
      | cons k ks =>
        have hll := ivs_len (k :: ks)
        rw [List.length_cons] at hll
        conv => whnf
        rw [decide_eq_true (show ((((ivs (k :: ks)).length : Nat)) : Int) > 0 by omega)]
        conv => whnf
        refine hS _ _ _ _ <| c_pnode 257 none .nilp (k :: ks) (Nat.le_refl _) hf.1 hf.2 _ (fun hz l' => ?_) (fun t r hz => ?_)
        · conv => whnf
          exact hn (fun p hp => by simp only [hz] at hp; simp at hp)
        conv => whnf
        cases r with
        | cons q r =>
          have hr2 := ivs_len (q :: r)
          rw [List.length_cons] at hr2
          rw [decide_eq_true (show ((((ivs (q :: r)).length : Nat)) : Int) > 0 by omega)]
          conv => whnf
          exact hn (fun p hp => by simp only [hz] at hp; simp at hp)
        | nil =>
          conv => whnf
          refine hS _ _ _ _ <| c_PRootB (some t) _ ?_
          conv => whnf
          rw [beq_ba]
          by_cases hr : rootP (some t) = root
          · rw [decide_eq_true hr]
            conv => whnf
            exact hk (some t) (by simp only [hz]) hr
          · rw [decide_eq_false hr]
            conv => whnf
            exact hn (fun p hp => by simp only [hz, Option.some.injEq] at hp; subst hp; exact hr)
end Go.Proofs.YtmfilaagpobmbaaGreatDoor

namespace Go.Proofs.YtmfilaagpobmbaaGreatDoor
open Go Go.Abs
def kgR (e : ByteArray) : Option (Option ByteArray) → AV
  | none => .tup [.i (.str e), .i (.bool false), .i (.bool false)]
  | some none => .tup [.i (.str e), .i (.bool false), .i (.bool true)]
  | some (some v) => .tup [.i (.str v), .i (.bool true), .i (.bool true)]
set_option maxRecDepth 100000 in
set_option maxHeartbeats 2000000 in
theorem c_PGet (p : Option PT) (hp : ∀ t, p = some t → t.ok) (key : ByteArray) (hkey : key.size = 32) (K : AV → List Blk → Prop) (hk : ∀ e, e = ⟨#[]⟩ → K (kgR e (getP key p)) []) : SP 23 [.i (pv p), .i (.str key)] [] K := by
  have hk := hk _ rfl
  have hks : ((key.size : Int) != 32) = false := by rw [hkey]; rfl
  refine mk {keep := [(4, [1, 4, 5, 6, 7])]} (fn := Tryz.f23) Tryz.func23 (by kernel_rfl) (by kernel_rfl) (Nat.le_of_ble_eq_true (Eq.refl true)) fun S hS => ?_
  conv => whnf
  rw [hks]
  conv => whnf
  intro X hX
  have fin : ∀ t : PT, t.ok → K (kgR ⟨#[]⟩ (t.get key)) [] → frK (kfr 79 [(1, .i (.str key)), (4, .i (.str ⟨#[]⟩)), (5, .i (.bool false)), (6, .i (.bool false)), (7, .i t.iv)] []) X := by
    intro t
    induction t with
    | stub h =>
      intro _ hk
      conv => whnf
      apply hX
      conv => whnf
      exact hk
    | leaf k v =>
      intro hok hk
      conv => whnf
      apply hX
      conv => whnf
      rw [beq_ba]
      rw [PT.get] at hk
      by_cases h : k = key
      · rw [decide_eq_true h]
        rw [if_pos h] at hk
        conv => whnf
        exact hk
      · rw [decide_eq_false h]
        rw [if_neg h] at hk
        conv => whnf
        exact hk
    | fork a k z o iz io =>
      intro hok hk
      obtain ⟨ha, hk32, _, hz, ho⟩ := hok
      conv => whnf
      apply hX
      conv => whnf
      refine ⟨.i (.int .i64 (common k key : Int)), hS _ _ _ _ <| c_CommonE k key hk32 hkey _ (fun r hr => ⟨by rw [hr], rfl⟩), rfl, ?_⟩
      conv => whnf
      rw [PT.get] at hk
      by_cases c : common k key < a
      · rw [if_pos c] at hk
        rw [decide_eq_true (show (common k key : Int) < (a : Int) by omega)]
        conv => whnf
        exact hk
      · rw [if_neg c] at hk
        rw [decide_eq_false (show ¬ ((common k key : Int) < (a : Int)) by omega)]
        conv => whnf
        refine hS _ _ _ _ <| c_Bit key a hkey ha _ ?_
        conv => whnf
        cases hbit : bit key a
        · rw [if_pos hbit] at hk
          conv => whnf
          exact iz hz hk
        · rw [if_neg (by rw [hbit]; simp)] at hk
          conv => whnf
          exact io ho hk
  cases p with
  | none =>
    apply hX
    conv => whnf
    exact hk
  | some t => exact fin t (hp t rfl) hk
end Go.Proofs.YtmfilaagpobmbaaGreatDoor

namespace Go.Proofs.YtmfilaagpobmbaaGreatDoor
open Go Go.Abs
set_option maxRecDepth 100000 in
set_option maxHeartbeats 2000000 in
theorem c_pgatherS : ∀ (t : PT) (m : List Pr) (n : Nat) (L : List (List IV)) (_ : L = pl m) (_ : n = m.length) (_ : m.length + t.cnt < 1000000) (K : AV → List Blk → Prop)
    (_ : t.all = none → ∀ L', K (.tup [.one .nils, .i (.bool false)]) [.vec 2 L' true]) (_ : ∀ l, t.all = some l → ∀ n' L', L' = pl (m ++ l) → n' = (m ++ l).length → K (.tup [.one (.sl 0 0 n'), .i (.bool true)]) [.vec 2 L' true]), SP 56 [.i t.iv, .one (.sl 0 0 n)] [.vec 2 L true] K := by
  intro t
  induction t with
  | stub h =>
    intro m n L hE hn hb K hf hk
    refine mk {res := false, inc := 1} (fn := Tryz.f56) Tryz.func56 (by kernel_rfl) (by kernel_rfl) (Nat.le_of_ble_eq_true (Eq.refl true)) fun S hS => ?_
    conv => whnf
    exact hf rfl L
  | leaf k v =>
    intro m n L hE hn hb K hf hk
    have hk := hk _ rfl
    have hl : L.length = m.length := by rw [hE, pl_len]
    simp only [PT.cnt] at hb
    refine mk {res := false, inc := 1} (fn := Tryz.f56) Tryz.func56 (by kernel_rfl) (by kernel_rfl) (Nat.le_of_ble_eq_true (Eq.refl true)) fun S hS => ?_
    conv => whnf
    refine ⟨fun e he => (by
      cases he with
      | head => rfl
      | tail _ h => cases h), by omega, by show (L.length + 1) * 32 ≤ 17592186044416; omega, ?_⟩
    conv => whnf
    exact hk _ _ (by rw [hE]; exact pl_app m [(k, v)]) (by show n + 1 = _; simp [hn])
  | fork a k z o iz io =>
    intro m n L hE hn hb K hf hk
    simp only [PT.cnt] at hb
    rw [PT.iv]
    rw [PT.all] at hf hk
    generalize (PT.fork a k z o).hash = hs
    refine mk {res := false, inc := 1} (fn := Tryz.f56) Tryz.func56 (by kernel_rfl) (by kernel_rfl) (Nat.le_of_ble_eq_true (Eq.refl true)) fun S hS => ?_
    conv => whnf
    refine hS _ _ _ _ <| iz m n L hE hn (by omega) _ (fun hz L' => ?_) (fun l hz n' L' hL' hn' => ?_)
    · conv => whnf
      rw [hz] at hf
      exact hf rfl L'
    rw [hz] at hf hk
    simp only at hf hk
    have hzl := PT.all_len hz
    conv => whnf
    refine hS _ _ _ _ <| io (m ++ l) n' L' hL' hn' (by rw [List.length_append]; omega) _ (fun ho L'' => ?_) (fun l2 ho n2 L2 hL2 hn2 => ?_)
    · conv => whnf
      rw [ho] at hf
      exact hf rfl L''
    rw [ho] at hk
    conv => whnf
    exact hk _ rfl n2 L2 (by rw [hL2, List.append_assoc]) (by rw [hn2, List.append_assoc])
set_option maxRecDepth 100000 in
set_option maxHeartbeats 2000000 in
theorem c_pgather0 : ∀ (t : PT) (_ : t.cnt < 1000000) (K : AV → List Blk → Prop)
    (_ : t.all = none → K (.tup [.one .nils, .i (.bool false)]) []) (_ : ∀ l, t.all = some l → ∀ n' L', L' = pl l → n' = l.length → K (.tup [.one (.sl 0 0 n'), .i (.bool true)]) [.vec 2 L' true]), SP 56 [.i t.iv, .one .nils] [] K := by
  intro t
  induction t with
  | stub h =>
    intro hb K hf hk
    refine mk {res := false, inc := 0} (fn := Tryz.f56) Tryz.func56 (by kernel_rfl) (by kernel_rfl) (Nat.le_of_ble_eq_true (Eq.refl true)) fun S hS => ?_
    conv => whnf
    exact hf rfl
  | leaf k v =>
    intro hb K hf hk
    have hk := hk _ rfl
    refine mk {res := false, inc := 0} (fn := Tryz.f56) Tryz.func56 (by kernel_rfl) (by kernel_rfl) (Nat.le_of_ble_eq_true (Eq.refl true)) fun S hS => ?_
    conv => whnf
    refine ⟨fun e he => (by
      cases he with
      | head => rfl
      | tail _ h => cases h), Nat.le_of_ble_eq_true rfl, ?_⟩
    conv => whnf
    exact hk _ _ rfl rfl
  | fork a k z o iz io =>
    intro hb K hf hk
    simp only [PT.cnt] at hb
    rw [PT.iv]
    rw [PT.all] at hf hk
    generalize (PT.fork a k z o).hash = hs
    refine mk {res := false, inc := 0} (fn := Tryz.f56) Tryz.func56 (by kernel_rfl) (by kernel_rfl) (Nat.le_of_ble_eq_true (Eq.refl true)) fun S hS => ?_
    conv => whnf
    refine hS _ _ _ _ <| iz (by omega) _ (fun hz => ?_) (fun l hz n' L' hL' hn' => ?_)
    · conv => whnf
      rw [hz] at hf
      exact hf rfl
    rw [hz] at hf hk
    simp only at hf hk
    have hzl := PT.all_len hz
    conv => whnf
    refine hS _ _ _ _ <| c_pgatherS o l n' L' hL' hn' (by omega) _ (fun ho L'' => ?_) (fun l2 ho n2 L2 hL2 hn2 => ?_)
    · conv => whnf
      rw [ho] at hf
      exact hf rfl
    rw [ho] at hk
    conv => whnf
    exact hk _ rfl n2 L2 hL2 hn2
def underR : Option (List Pr) → AV
  | none => .tup [.i (.lst []), .i (.bool false)]
  | some l => .tup [.i (.lst (pl l)), .i (.bool true)]
theorem c_PUnderBad (p : IV) (key : ByteArray) (n : Int) (h : n < 0 ∨ 256 < n) (hkey : key.size = 32) (K : AV → List Blk → Prop) (hk : K (underR (some [])) []) : SP 25 [.i (.ptr [p]), .i (.str key), .i (.int .i64 n)] [] K := by
  have hks : ((key.size : Int) != 32) = false := by rw [hkey]; rfl
  refine mk {keep := [(6, [1, 2, 6, 7, 8])]} (fn := Tryz.f25) Tryz.func25 (by kernel_rfl) (by kernel_rfl) (Nat.le_of_ble_eq_true (Eq.refl true)) fun S hS => ?_
  conv => whnf
  rw [hks]
  conv => whnf
  rcases h with h | h
  · rw [decide_eq_true (show n < 0 by omega)]
    conv => whnf
    exact hk
  · rw [decide_eq_false (show ¬ (n < 0) by omega)]
    conv => whnf
    rw [decide_eq_true (show n > 256 by omega)]
    conv => whnf
    exact hk
set_option maxRecDepth 100000 in
set_option maxHeartbeats 2000000 in
theorem c_PUnder (p : Option PT) (hp : ∀ t, p = some t → t.ok ∧ t.cnt < 1000000) (key : ByteArray) (hkey : key.size = 32) (n : Nat) (hn : n ≤ 256) (K : AV → List Blk → Prop) (hk : ∀ u, u = underR (underP key n p) → K u []) : SP 25 [.i (pv p), .i (.str key), .i (.int .i64 (n : Int))] [] K := by
  have hk := hk _ rfl
  have hks : ((key.size : Int) != 32) = false := by rw [hkey]; rfl
  refine mk {keep := [(6, [1, 2, 6, 7, 8])]} (fn := Tryz.f25) Tryz.func25 (by kernel_rfl) (by kernel_rfl) (Nat.le_of_ble_eq_true (Eq.refl true)) fun S hS => ?_
  conv => whnf
  rw [hks]
  conv => whnf
  rw [decide_eq_false (show ¬ ((n : Int) < 0) by omega)]
  conv => whnf
  rw [decide_eq_false (show ¬ ((n : Int) > 256) by omega)]
  conv => whnf
  intro X hX
  have fin : ∀ t : PT, t.ok → t.cnt < 1000000 → K (underR (t.under key n)) [] → frK (kfr 80 [(1, .i (.str key)), (2, .i (.int .i64 (n : Int))), (6, .one .nils), (7, .i (.bool false)), (8, .i t.iv)] []) X := by
    intro t
    induction t with
    | stub h =>
      intro _ _ hk
      conv => whnf
      apply hX
      conv => whnf
      exact hk
    | leaf k v =>
      intro hok hc hk
      have hg := c_pgather0 (.leaf k v) hc
      conv => whnf
      apply hX
      conv => whnf
      refine hS _ _ _ _ <| c_CommonE k key hok.1 hkey _ (fun r hr => ?_)
      subst hr
      conv => whnf
      rw [PT.under] at hk
      rw [show (if (n : Int) < 256 then (n : Int) else 256) = (n : Int) by split <;> omega]
      by_cases c : common k key < n
      · rw [if_pos c] at hk
        rw [decide_eq_true (show (common k key : Int) < (n : Int) by omega)]
        conv => whnf
        exact hk
      · rw [if_neg c] at hk
        rw [decide_eq_false (show ¬ ((common k key : Int) < (n : Int)) by omega)]
        conv => whnf
        refine hS _ _ _ _ <| hg _ (fun h => by simp [PT.all] at h) (fun l hl n' L' hL' hn' => ?_)
        simp only [PT.all, Option.some.injEq] at hl
        subst hl
        conv => whnf
        have e : (L'.drop 0).take n' = pl [(k, v)] := by rw [hn', hL', List.drop_zero, List.take_of_length_le (by rw [pl_len]; exact Nat.le_refl _)]
        show K (.tup [.i (.lst ((L'.drop 0).take n')), _]) []
        rw [e]
        exact hk
    | fork a k z o iz io =>
      intro hok hc hk
      have hg := c_pgather0 (.fork a k z o) hc
      obtain ⟨ha, hk32, _, hz, ho⟩ := hok
      rw [PT.iv] at hg ⊢
      generalize (PT.fork a k z o).hash = hs at hg ⊢
      conv => whnf
      apply hX
      conv => whnf
      refine hS _ _ _ _ <| c_CommonE k key hk32 hkey _ (fun r hr => ?_)
      subst hr
      conv => whnf
      rw [PT.under] at hk
      rw [show (if (n : Int) < (a : Int) then (n : Int) else (a : Int)) = ((min a n : Nat) : Int) by split <;> omega]
      by_cases c : common k key < min a n
      · rw [if_pos c] at hk
        rw [decide_eq_true (show (common k key : Int) < ((min a n : Nat) : Int) by omega)]
        conv => whnf
        exact hk
      · rw [if_neg c] at hk
        rw [decide_eq_false (show ¬ ((common k key : Int) < ((min a n : Nat) : Int)) by omega)]
        conv => whnf
        by_cases hna : n ≤ a
        · rw [decide_eq_true (show (a : Int) ≥ (n : Int) by omega)]
          conv => whnf
          rw [if_pos hna] at hk
          cases hall : (PT.fork a k z o).all with
          | none =>
            refine hS _ _ _ _ <| hg _ (fun h => ?_) (fun l hl n' L' hL' hn' => ?_)
            · conv => whnf
              rw [hall] at hk
              exact hk
            · rw [hall] at hl; simp at hl
          | some l =>
            refine hS _ _ _ _ <| hg _ (fun h => by rw [hall] at h; simp at h) (fun l2 hl n' L' hL' hn' => ?_)
            rw [hall] at hl hk
            simp only [Option.some.injEq] at hl
            subst hl
            conv => whnf
            have e : (L'.drop 0).take n' = pl l := by rw [hn', hL', List.drop_zero, List.take_of_length_le (by rw [pl_len]; exact Nat.le_refl _)]
            show K (.tup [.i (.lst ((L'.drop 0).take n')), _]) []
            rw [e]
            exact hk
        · rw [decide_eq_false (show ¬ ((a : Int) ≥ (n : Int)) by omega)]
          conv => whnf
          rw [if_neg hna] at hk
          refine hS _ _ _ _ <| c_Bit key a hkey ha _ ?_
          conv => whnf
          simp only [PT.cnt] at hc
          cases hbit : bit key a
          · rw [if_pos hbit] at hk
            conv => whnf
            exact iz hz (by omega) hk
          · rw [if_neg (by rw [hbit]; simp)] at hk
            conv => whnf
            exact io ho (by omega) hk
  cases p with
  | none =>
    apply hX
    conv => whnf
    exact hk
  | some t => exact fin t (hp t rfl).1 (hp t rfl).2 hk
end Go.Proofs.YtmfilaagpobmbaaGreatDoor
