/- A part of the proof of a seat of parts: H1, H2, H3. -/
import Derived.Test.YtmfilaagpobmbaaGreatDoorG5
import Derived.Test.YtmfilaagpobmbaaGreatDoorS4
set_option linter.all false
namespace Go.Proofs.YtmfilaagpobmbaaGreatDoor
open Go Go.Abs
/-- the reader: what is left, and whether it fell -/
abbrev rB (l : List UInt8) (b : Bool) : List Blk := [.cells [.imm (.str (bl l)), .imm (.bool b)] none]
theorem c_take (n : Nat) (l : List UInt8) (b : Bool) (hn : n < 9223372036854775808) (hl : l.length < 9223372036854775808) (Q : AV → List Blk → Prop) (hq : ∀ s r c, (s, r, c) = takeX n l b → Q (.i (.str (bl s))) (rB r c)) : SP 102 [.one (.ref 0 0), .i (.int .i64 (n : Int))] (rB l b) Q := by
  have hz := bl_size l
  refine mk {res := false, inc := 1} (fn := Tryz.f102) Tryz.func102 (by kernel_rfl) (by kernel_rfl) (Nat.le_of_ble_eq_true (Eq.refl true)) fun S hS => ?_
  conv => whnf
  cases b with
  | true =>
    conv => whnf
    exact hq [] l true (by unfold takeX; rw [if_pos (.inl rfl)])
  | false =>
    conv => whnf
    by_cases h : l.length < n
    · rw [decide_eq_true (show (n : Int) > ((bl l).size : Int) by omega)]
      conv => whnf
      exact hq [] l true (takeX_no h).symm
    · rw [decide_eq_false (show ¬ ((n : Int) > ((bl l).size : Int)) by omega)]
      conv => whnf
      refine ⟨by omega, by omega, by omega, ?_⟩
      conv => whnf
      refine ⟨by omega, by omega, by omega, ?_⟩
      conv => whnf
      rw [show ((n : Int)).toNat = n from rfl, show ((((bl l).size : Nat) : Int)).toNat = (bl l).size from rfl, show ((0 : Int)).toNat = 0 from rfl, bl_extract, bl_extract, hz, List.drop_zero, Nat.sub_zero, List.take_of_length_le (l := l.drop n) (by rw [List.length_drop]; omega)]
      exact hq _ _ _ (takeX_yes h).symm
set_option maxRecDepth 100000 in
set_option maxHeartbeats 1000000 in
theorem c_rsize (l : List UInt8) (hl : l.length < 9223372036854775808) (Q : AV → List Blk → Prop) (hq : ∀ n r c, (n, r, c) = szX 4 0 0 l → Q (.i (.int .i64 (n : Int))) (rB r c)) : SP 103 [.one (.ref 0 0)] (rB l false) Q := by
  refine mk {res := false, inc := 1, keep := [(3, [0, 3, 6])]} (fn := Tryz.f103) Tryz.func103 (by kernel_rfl) (by kernel_rfl) (Nat.le_of_ble_eq_true (Eq.refl true)) fun S hS => ?_
  conv => whnf
  intro X hX
  have key : ∀ (f k acc : Nat), f + k = 4 → acc < 128 ^ k → ∀ (l : List UInt8), l.length < 9223372036854775808 → (∀ n r c, (n, r, c) = szX f k acc l → Q (.i (.int .i64 (n : Int))) (rB r c)) → ∀ i a : Int, i = (k : Int) → a = (acc : Int) → frK (kfr 42 [(0, .one (.ref 0 0)), (3, .i (.int .i64 a)), (6, .i (.int .i64 i))] (rB l false)) X := by
    intro f
    induction f with
    | zero =>
      intro k acc hk ha l hl hq i a hi haa
      subst hi haa
      conv => whnf
      apply hX
      conv => whnf
      rw [decide_eq_false (show ¬ ((k : Int) < 4) by omega)]
      conv => whnf
      exact hq 0 l true rfl
    | succ f ih =>
      intro k acc hk ha l hl hq i a hi haa
      subst hi haa
      conv => whnf
      apply hX
      conv => whnf
      rw [decide_eq_true (show (k : Int) < 4 by omega)]
      conv => whnf
      refine hS _ _ _ _ <| c_take 1 l false (by decide) hl _ fun s r c hsr => ?_
      cases l with
      | nil =>
        rw [takeX_no (by decide)] at hsr
        simp only [Prod.mk.injEq] at hsr
        obtain ⟨rfl, rfl, rfl⟩ := hsr
        conv => whnf
        exact hq 0 [] true rfl
      | cons c0 l =>
        rw [takeX_yes (by simp)] at hsr
        simp only [Prod.mk.injEq, List.take_succ_cons, List.take_zero, List.drop_succ_cons, List.drop_zero] at hsr
        obtain ⟨rfl, rfl, rfl⟩ := hsr
        have hl' : r.length < 9223372036854775808 := by rw [List.length_cons] at hl; omega
        have hc := c0.toNat_lt
        conv => whnf
        refine ⟨by decide, by show (0 : Int) < ((1 : Nat) : Int); decide, ?_⟩
        conv => whnf
        rw [show sb (bl [c0]) (0 : Int).toNat = (c0.toNat : Int) from rfl, and127 _ (by omega), i64n _ (by omega), show (7 : Int) * (k : Int) = ((7 * k : Nat) : Int) by omega, i64n _ (by omega)]
        refine ⟨by omega, ?_⟩
        conv => whnf
        have hm : min (((7 * k : Nat) : Int)).toNat IntKind.i64.bits = 7 * k := by simp only [IntKind.bits]; omega
        have hp : 2 ^ (7 * k) = 128 ^ k := by rw [Nat.pow_mul]
        have hk3 : 128 ^ k ≤ 128 ^ 3 := Nat.pow_le_pow_right (by decide) (by omega)
        have hb : c0.toNat % 128 * 128 ^ k ≤ 127 * 128 ^ k := Nat.mul_le_mul_right _ (by omega)
        have hv : IntKind.i64.wrap (((c0.toNat % 128 : Nat) : Int) * 2 ^ (7 * k)) = ((c0.toNat % 128 * 128 ^ k : Nat) : Int) := by
          rw [show (((c0.toNat % 128 : Nat) : Int) * 2 ^ (7 * k)) = ((c0.toNat % 128 * 128 ^ k : Nat) : Int) by rw [← hp]; simp]
          exact i64n _ (by omega)
        rw [hm, hv, i64or _ _ (by omega) (by omega), ← hp, or_add _ _ _ (by rw [hp]; exact ha), hp]
        refine ⟨by decide, by show (0 : Int) < ((1 : Nat) : Int); decide, ?_⟩
        conv => whnf
        rw [show sb (bl [c0]) (0 : Int).toNat = (c0.toNat : Int) from rfl]
        by_cases h : c0.toNat < 128
        · rw [decide_eq_true (show (c0.toNat : Int) < 128 by omega)]
          conv => whnf
          refine ⟨by decide, by show (0 : Int) < ((1 : Nat) : Int); decide, ?_⟩
          conv => whnf
          rw [show sb (bl [c0]) (0 : Int).toNat = (c0.toNat : Int) from rfl]
          have hsz : szX (f + 1) k acc (c0 :: r) = (acc + c0.toNat * 128 ^ k, r, decide (c0.toNat = 0) && decide (0 < k)) := by rw [szX]; exact if_pos h
          rw [hsz] at hq
          have hq := hq _ _ _ rfl
          rw [show c0.toNat % 128 = c0.toNat by omega]
          have e0 : ∀ z : Int, z = 0 → (((c0.toNat : Nat) : Int) == z) = decide (c0.toNat = 0) := fun z hz => by subst hz; by_cases h : c0.toNat = 0 <;> simp [h]
          rw [e0 _ rfl]
          by_cases h0 : c0.toNat = 0
          · rw [decide_eq_true h0]
            conv => whnf
            rw [h0] at hq ⊢
            have e : decide ((k : Int) > 0) = (decide (0 = 0) && decide (0 < k)) := by simp
            rw [e]
            exact hq
          · rw [decide_eq_false h0]
            conv => whnf
            rw [show (decide (c0.toNat = 0) && decide (0 < k)) = false by simp [h0]] at hq
            exact hq
        · rw [decide_eq_false (show ¬ ((c0.toNat : Int) < 128) by omega)]
          conv => whnf
          have hsz : szX (f + 1) k acc (c0 :: r) = szX f (k + 1) (acc + c0.toNat % 128 * 128 ^ k) r := by rw [szX]; exact if_neg h
          rw [hsz] at hq
          refine ih (k + 1) _ (by omega) ?_ r hl' hq _ _ ?_ rfl
          · rw [Nat.pow_succ]; omega
          · rw [show (k : Int) + 1 = ((k + 1 : Nat) : Int) by omega, i64n _ (by omega)]
  exact key 4 0 0 rfl (by decide) l hl hq _ _ rfl rfl
theorem c_rsizeB (l : List UInt8) (hl : l.length < 9223372036854775808) (Q : AV → List Blk → Prop) (hq : Q (.i (.int .i64 0)) (rB l true)) : SP 103 [.one (.ref 0 0)] (rB l true) Q := by
  refine mk {res := false, inc := 1, keep := [(3, [0, 3, 6])]} (fn := Tryz.f103) Tryz.func103 (by kernel_rfl) (by kernel_rfl) (Nat.le_of_ble_eq_true (Eq.refl true)) fun S hS => ?_
  conv => whnf
  intro X hX
  apply hX
  conv => whnf
  refine hS _ _ _ _ <| c_take 1 l true (by decide) hl _ fun s r c hsr => ?_
  unfold takeX at hsr
  rw [if_pos (.inl rfl)] at hsr
  simp only [Prod.mk.injEq] at hsr
  obtain ⟨rfl, rfl, rfl⟩ := hsr
  conv => whnf
  exact hq
end Go.Proofs.YtmfilaagpobmbaaGreatDoor

namespace Go.Proofs.YtmfilaagpobmbaaGreatDoor
open Go Go.Abs
def RdOk (d : Nat) : Prop := ∀ (l : List UInt8) (n : Nd) (r : List UInt8) (c : Bool) (x y z u : IV), (n, r, c) = rdX d l → n.iv = [x, y, z, u] → l.length ≤ 16777216 → ∀ Q : AV → List Blk → Prop, Q (.agg [.imm x, .imm y, .imm z, .imm u]) (rB r c) → SP 67 [.one (.ref 0 0), .i (.int .i64 (d : Int))] (rB l false) Q
set_option maxRecDepth 100000 in
set_option maxHeartbeats 1000000 in
theorem c_rnode0 : RdOk 0 := by
  intro l n r c x y z u hx hv hl Q hq
  simp only [rdX, Prod.mk.injEq] at hx
  obtain ⟨rfl, rfl, rfl⟩ := hx
  simp only [Nd.iv, List.cons.injEq, and_true] at hv; obtain ⟨rfl, rfl, rfl, rfl⟩ := hv
  refine mk {inc := 1, hc := [98], hk := [2], hw := [98], kl := [94], keep := [(13, [0, 4, 7, 8, 56, 57]), (23, [0, 1, 4, 6, 10, 11])]} (fn := Tryz.f67) Tryz.func67 (by kernel_rfl) (by kernel_rfl) (Nat.le_of_ble_eq_true (Eq.refl true)) fun S hS => ?_
  conv => whnf
  exact hq
theorem eqz (a : Nat) : ∀ z : Int, z = 0 → ((((a : Nat) : Int)) == z) = decide (a = 0) := fun z hz => by subst hz; by_cases h : a = 0 <;> simp [h]
set_option maxRecDepth 100000 in
set_option maxHeartbeats 4000000 in
theorem c_rnodeS (d : Nat) (hd : d < 20) (ih : RdOk d) : RdOk (d + 1) := by
  intro l n r c x y z u hx hv hl Q hq
  refine mk {inc := 1, hc := [98], hk := [2], hw := [98], kl := [94], keep := [(13, [0, 4, 7, 8, 56, 57]), (23, [0, 1, 4, 6, 10, 11])]} (fn := Tryz.f67) Tryz.func67 (by kernel_rfl) (by kernel_rfl) (Nat.le_of_ble_eq_true (Eq.refl true)) fun S hS => ?_
  conv => whnf
  rw [eqz _ _ rfl, decide_eq_false (by omega)]
  conv => whnf
  refine hS _ _ _ _ <| c_take 1 l false (by decide) (by omega) _ fun s1 l1 b1 ht => ?_
  cases l with
  | nil =>
    simp only [rdX, Prod.mk.injEq] at hx
    obtain ⟨rfl, rfl, rfl⟩ := hx
    simp only [Nd.iv, List.cons.injEq, and_true] at hv; obtain ⟨rfl, rfl, rfl, rfl⟩ := hv
    rw [takeX_no (by decide)] at ht
    simp only [Prod.mk.injEq] at ht
    obtain ⟨rfl, rfl, rfl⟩ := ht
    conv => whnf
    refine hS _ _ _ _ <| c_rsizeB [] (by decide) _ ?_
    conv => whnf
    exact hq
  | cons c0 l0 =>
    rw [takeX_yes (by simp)] at ht
    simp only [Prod.mk.injEq, List.take_succ_cons, List.take_zero, List.drop_succ_cons, List.drop_zero] at ht
    obtain ⟨rfl, rfl, rfl⟩ := ht
    rw [List.length_cons] at hl
    conv => whnf
    refine hS _ _ _ _ <| c_rsize l1 (by omega) _ fun m r1 b1 hm => ?_
    rw [rdX, ← hm] at hx
    have hr1 := szX_len _ _ _ _ _ _ _ hm
    cases b1 with
    | true =>
      simp only [if_true, Prod.mk.injEq] at hx
      obtain ⟨rfl, rfl, rfl⟩ := hx
      simp only [Nd.iv, List.cons.injEq, and_true] at hv; obtain ⟨rfl, rfl, rfl, rfl⟩ := hv
      conv => whnf
      exact hq
    | false =>
      have hm28 := szX_lt _ _ _ hm
      simp only [Bool.false_eq_true, if_false] at hx
      conv => whnf
      rw [beq_ba, bl1]
      by_cases k1 : c0.toNat = 110
      · rw [if_pos k1] at hx
        rw [decide_eq_true (show c0.toNat = (110 : UInt8).toNat from k1)]
        conv => whnf
        refine hS _ _ _ _ <| c_take m r1 false (by omega) (by omega) _ fun t r2 b2 ht => ?_
        rw [← ht] at hx
        have htl := takeX_len _ _ _ _ _ _ ht
        simp only at hx
        conv => whnf
        by_cases g1 : 8 < m
        · rw [decide_eq_true (show (m : Int) > 8 by omega)]
          conv => whnf
          rw [if_pos (.inl g1)] at hx
          simp only [Prod.mk.injEq] at hx
          obtain ⟨rfl, rfl, rfl⟩ := hx
          simp only [Nd.iv, List.cons.injEq, and_true] at hv; obtain ⟨rfl, rfl, rfl, rfl⟩ := hv
          exact hq
        · rw [decide_eq_false (show ¬ ((m : Int) > 8) by omega)]
          conv => whnf
          have hcase : (m = 0 ∧ b2 = false ∧ t = []) ∨ (0 < m ∧ b2 = true ∧ t = []) ∨ (0 < m ∧ b2 = false ∧ t.length = m ∧ t[0]? ≠ some 0) ∨ (0 < m ∧ b2 = false ∧ t.length = m ∧ t[0]? = some 0) := by
            by_cases hb : r1.length < m
            · rw [takeX_no hb] at ht
              simp only [Prod.mk.injEq] at ht
              exact .inr (.inl ⟨by omega, ht.2.2, ht.1⟩)
            · rw [takeX_yes hb] at ht
              simp only [Prod.mk.injEq] at ht
              have hl := htl.2.2 ht.2.2
              by_cases h0 : m = 0
              · exact .inl ⟨h0, ht.2.2, List.eq_nil_of_length_eq_zero (by omega)⟩
              · by_cases hz : t[0]? = some 0
                · exact .inr (.inr (.inr ⟨by omega, ht.2.2, hl, hz⟩))
                · exact .inr (.inr (.inl ⟨by omega, ht.2.2, hl, hz⟩))
          rcases hcase with ⟨q1, rfl, q2⟩ | ⟨q1, rfl, q2⟩ | ⟨q1, rfl, q2, q3⟩ | ⟨q1, rfl, q2, q3⟩
          rotate_left 3
          · rw [if_pos (.inr ⟨q1, rfl, q3⟩)] at hx
            simp only [Prod.mk.injEq] at hx
            obtain ⟨rfl, rfl, rfl⟩ := hx
            simp only [Nd.iv, List.cons.injEq, and_true] at hv; obtain ⟨rfl, rfl, rfl, rfl⟩ := hv
            have hz := bl_size t
            have hs0 : sb (bl t) 0 = 0 := bl_at t 0 0 q3
            rw [decide_eq_true (show (m : Int) > 0 by omega)]
            conv => whnf
            refine ⟨by decide, by show (0 : Int) < (((bl t).size : Nat) : Int); omega, ?_⟩
            conv => whnf
            rw [show (0 : Int).toNat = 0 from rfl, hs0]
            conv => whnf
            exact hq
          case' inl =>
            have ht8 : t.length ≤ 8 := by rw [q2]; decide
            rw [if_neg (by omega)] at hx
            rw [decide_eq_false (show ¬ ((m : Int) > 0) by omega)]
            conv => whnf
          case' inr.inl =>
            have ht8 : t.length ≤ 8 := by rw [q2]; decide
            rw [if_neg (by simp [g1])] at hx
            rw [decide_eq_true (show (m : Int) > 0 by omega)]
            conv => whnf
          case' inr.inr.inl =>
            have ht8 : t.length ≤ 8 := by omega
            rw [if_neg (by simp [g1, q3])] at hx
            rw [decide_eq_true (show (m : Int) > 0 by omega)]
            conv => whnf
            have hz := bl_size t
            refine ⟨by decide, by show (0 : Int) < (((bl t).size : Nat) : Int); omega, ?_⟩
            conv => whnf
            have hn0 : (sb (bl t) (0 : Int).toNat == (0 : Int)) = false := by
              cases t with
              | nil => simp at q2; omega
              | cons a t =>
                have : sb (bl (a :: t)) (0 : Int).toNat = (a.toNat : Int) := rfl
                rw [this, eqz _ _ rfl]
                simp only [decide_eq_false_iff_not]
                intro h0
                apply q3
                show some a = some 0
                rw [UInt8.toNat_inj.1 (show a.toNat = (0 : UInt8).toNat from h0)]
            rw [hn0]
            conv => whnf
          all_goals
            clear q1 q2
            have hz := bl_size t
            simp only [Prod.mk.injEq] at hx
            obtain ⟨rfl, rfl, hcc⟩ := hx
            simp only [Nd.iv, List.cons.injEq, and_true] at hv; obtain ⟨rfl, rfl, rfl, rfl⟩ := hv
            intro X hX
            have key : ∀ (k i : Nat), i + k = t.length → ∀ vb : IV, vb = .bool c → ∀ j w : Int, j = (i : Int) → w = (be (t.take i) : Int) → frK (kfr 107 [(0, .one (.ref 0 0)), (4, .one (.ref 1 0)), (7, .i (.str (bl t))), (8, .i (.int .u64 w)), (56, .i (.int .i64 ((bl t).size : Int))), (57, .i (.int .i64 j))] [.cells [.imm (.str (bl r)), .imm vb] none, .cells [.imm (.int .i64 0), .imm (.int .u64 0), .imm (.str ⟨#[]⟩), .nils] none]) X := by
              intro k
              induction k with
              | zero =>
                intro i hi vb hvb j w hj hw
                subst hj hw hvb
                conv => whnf
                apply hX
                conv => whnf
                rw [decide_eq_false (show ¬ ((i : Int) < ((bl t).size : Int)) by omega)]
                conv => whnf
                rw [show i = t.length by omega, List.take_length]
                refine hS _ _ _ _ <| c_N (be t) _ ?_
                conv => whnf
                exact hq
              | succ k ihk =>
                intro i hi vb hvb j w hj hw
                subst hj hw hvb
                conv => whnf
                apply hX
                conv => whnf
                rw [decide_eq_true (show (i : Int) < ((bl t).size : Int) by omega)]
                conv => whnf
                obtain ⟨ch, hch⟩ : ∃ ch, t[i]? = some ch := ⟨t[i]'(by omega), List.getElem?_eq_getElem _⟩
                have hlt := be_lt (t.take i)
                have hti : (t.take i).length = i := by rw [List.length_take]; omega
                have hp : 256 ^ i ≤ 256 ^ 7 := Nat.pow_le_pow_right (by decide) (by omega)
                rw [hti] at hlt
                have hc8 := ch.toNat_lt
                have htk : be (t.take (i + 1)) = 256 * be (t.take i) + ch.toNat := by rw [List.take_succ, hch]; exact be_app _ _
                refine ⟨by decide, ?_⟩
                conv => whnf
                have hmn : min (8 : Int).toNat IntKind.u64.bits = 8 := rfl
                have hsh : IntKind.u64.wrap (((be (t.take i) : Nat) : Int) * 2 ^ min (8 : Int).toNat IntKind.u64.bits) = ((256 * be (t.take i) : Nat) : Int) := by
                  rw [hmn, show (((be (t.take i) : Nat) : Int) * 2 ^ 8) = ((256 * be (t.take i) : Nat) : Int) by omega, u64n _ (by omega)]
                rw [hsh]
                refine ⟨by omega, by omega, ?_⟩
                conv => whnf
                rw [show ((i : Int)).toNat = i from rfl, bl_at t i ch hch, u64n _ (by omega), u64or _ _ (by omega) (by omega), Nat.or_comm, Nat.mul_comm, or_add _ _ 8 (by omega)]
                refine ihk (i + 1) (by omega) _ rfl _ _ ?_ ?_
                · rw [show (i : Int) + 1 = ((i + 1 : Nat) : Int) by omega, i64n _ (by omega)]
                · rw [htk]; omega
            exact key t.length 0 (by omega) _ (by rw [hcc]) _ _ rfl rfl
      · rw [if_neg k1] at hx
        rw [decide_eq_false (show ¬ c0.toNat = (110 : UInt8).toNat from k1)]
        conv => whnf
        rw [beq_ba, bl1]
        by_cases k2 : c0.toNat = 115
        · rw [if_pos k2] at hx
          rw [decide_eq_true (show c0.toNat = (115 : UInt8).toNat from k2)]
          conv => whnf
          refine hS _ _ _ _ <| c_take m r1 false (by omega) (by omega) _ fun t r2 b2 ht => ?_
          rw [← ht] at hx
          simp only [Prod.mk.injEq] at hx
          obtain ⟨rfl, rfl, rfl⟩ := hx
          simp only [Nd.iv, List.cons.injEq, and_true] at hv; obtain ⟨rfl, rfl, rfl, rfl⟩ := hv
          conv => whnf
          refine hS _ _ _ _ <| c_S (bl t) _ ?_
          conv => whnf
          exact hq
        · rw [if_neg k2] at hx
          rw [decide_eq_false (show ¬ c0.toNat = (115 : UInt8).toNat from k2)]
          conv => whnf
          rw [beq_ba, bl1]
          by_cases k3 : c0.toNat = 108
          · rw [if_pos k3] at hx
            rw [decide_eq_true (show c0.toNat = (108 : UInt8).toNat from k3)]
            conv => whnf
            simp only [Prod.mk.injEq] at hx
            obtain ⟨rfl, h2⟩ := hx
            simp only [Nd.iv, List.cons.injEq, and_true] at hv; obtain ⟨rfl, rfl, rfl, rfl⟩ := hv
            have hrl := rdX_len d
            intro X hX
            have key : ∀ (k : Nat) (acc : List Nd) (l : List UInt8) (b : Bool), acc ≠ [] → acc.length + k = m → l.length ≤ 16777216 → (kidsX (rdX d) m r1 false).1 = acc ++ (kidsX (rdX d) k l b).1 → (kidsX (rdX d) m r1 false).2 = (kidsX (rdX d) k l b).2 → ∀ (j : Int) (nn : Nat) (L : List (List IV)), j = (acc.length : Int) → nn = acc.length → L = ivs acc →
                frK (kfr 107 [(0, .one (.ref 0 0)), (1, .i (.int .i64 ((d + 1 : Nat) : Int))), (4, .one (.ref 1 0)), (6, .i (.int .i64 (m : Int))), (10, .one (.ref 2 0)), (11, .i (.int .i64 j))] [.cells [.imm (.str (bl l)), .imm (.bool b)] none, .cells [.imm (.int .i64 0), .imm (.int .u64 0), .imm (.str ⟨#[]⟩), .nils] none, .cells [.imm (.int .i64 2), .imm (.int .u64 0), .imm (.str ⟨#[]⟩), .sl 3 0 nn] none, .vec 4 L true]) X := by
              have done : ∀ (acc : List Nd) (l : List UInt8) (b : Bool), (kidsX (rdX d) m r1 false).1 = acc → (kidsX (rdX d) m r1 false).2 = (l, b) → ∀ (nn : Nat) (L : List (List IV)), nn = acc.length → L = ivs acc → Q (.agg [.imm (.int .i64 2), .imm (.int .u64 0), .imm (.str ⟨#[]⟩), .imm (.lst ((L.drop 0).take nn))]) [.cells [.imm (.str (bl l)), .imm (.bool b)] none] := by
                intro acc l b h1 h3 nn L hn hL
                subst hn hL
                rw [h3] at h2
                simp only [Prod.mk.injEq] at h2
                obtain ⟨rfl, rfl⟩ := h2
                rw [h1] at hq
                rw [List.drop_zero, ← ivs_len, List.take_length]
                exact hq
              intro k
              induction k with
              | zero =>
                intro acc l b hacc hk hl' hk1 hk2 j nn L hj hn hL
                subst hj
                conv => whnf
                apply hX
                conv => whnf
                rw [decide_eq_false (show ¬ ((acc.length : Int) < (m : Int)) by omega)]
                conv => whnf
                exact done acc l b (by rw [hk1]; exact List.append_nil _) hk2 nn L hn hL
              | succ k ihk =>
                intro acc l b hacc hk hl' hk1 hk2 j nn L hj hn hL
                subst hj
                conv => whnf
                apply hX
                conv => whnf
                rw [decide_eq_true (show (acc.length : Int) < (m : Int) by omega)]
                conv => whnf
                cases b with
                | true => exact done acc l true (by rw [hk1]; exact List.append_nil _) hk2 nn L hn hL
                | false =>
                  conv => whnf
                  have hf4 := (rdX d l).1.iv_four
                  obtain ⟨x, y, z, u, hf4⟩ := hf4
                  rw [show ((d + 1 : Nat) : Int) - 1 = ((d : Nat) : Int) by omega, i64n _ (by omega)]
                  refine ⟨_, _, hS _ _ _ _ <| ih l (rdX d l).1 (rdX d l).2.1 (rdX d l).2.2 x y z u rfl hf4 hl' _ ⟨rfl, rfl⟩, ?_⟩
                  conv => whnf
                  refine ⟨rfl, ?_⟩
                  conv => whnf
                  have hLl : L.length = acc.length := by rw [hL, ivs_len]
                  refine ⟨fun e he => ?_, ?_⟩
                  · rcases List.mem_cons.1 (show e ∈ [[x, y, z, u]] from he) with rfl | h
                    · rfl
                    · simp at h
                  conv => whnf
                  refine ⟨by omega, ?_, ?_⟩
                  · show (L.length + 1) * 56 ≤ 17592186044416
                    omega
                  conv => whnf
                  refine ihk (acc ++ [(rdX d l).1]) (rdX d l).2.1 (rdX d l).2.2 (by simp) (by simp; omega) (Nat.le_trans (hrl l) hl') ?_ hk2 _ _ _ ?_ ?_ ?_
                  · rw [hk1, List.append_assoc]; rfl
                  · rw [show (acc.length : Int) + 1 = ((acc.length + 1 : Nat) : Int) by omega, i64n _ (by omega), List.length_append]; rfl
                  · rw [hn, List.length_append]; rfl
                  · rw [hL, ← ivs_app, ivs, ivs, hf4]; rfl
            apply hX
            conv => whnf
            cases m with
            | zero =>
              rw [decide_eq_false (show ¬ ((0 : Int) < ((0 : Nat) : Int)) by omega)]
              conv => whnf
              simp only [kidsX, Prod.mk.injEq] at h2
              obtain ⟨rfl, rfl⟩ := h2
              exact hq
            | succ m =>
              rw [decide_eq_true (show (0 : Int) < ((m + 1 : Nat) : Int) by omega)]
              conv => whnf
              have hf4 := (rdX d r1).1.iv_four
              obtain ⟨x, y, z, u, hf4⟩ := hf4
              rw [show ((d + 1 : Nat) : Int) - 1 = ((d : Nat) : Int) by omega, i64n _ (by omega)]
              refine ⟨_, _, hS _ _ _ _ <| ih r1 (rdX d r1).1 (rdX d r1).2.1 (rdX d r1).2.2 x y z u rfl hf4 (by omega) _ ⟨rfl, rfl⟩, ?_⟩
              conv => whnf
              refine ⟨rfl, ?_⟩
              conv => whnf
              refine ⟨fun e he => ?_, ?_⟩
              · rcases List.mem_cons.1 (show e ∈ [[x, y, z, u]] from he) with rfl | h
                · rfl
                · simp at h
              conv => whnf
              refine ⟨by show (0 + 1) * 56 ≤ 17592186044416; decide, ?_⟩
              conv => whnf
              refine key m [(rdX d r1).1] (rdX d r1).2.1 (rdX d r1).2.2 (by simp) (by simp; omega) (Nat.le_trans (hrl r1) (by omega)) rfl rfl _ _ _ ?_ ?_ ?_
              · rfl
              · rfl
              · rw [ivs, ivs, hf4]; rfl
          · rw [if_neg k3] at hx
            rw [decide_eq_false (show ¬ c0.toNat = (108 : UInt8).toNat from k3)]
            conv => whnf
            simp only [Prod.mk.injEq] at hx
            obtain ⟨rfl, rfl, rfl⟩ := hx
            simp only [Nd.iv, List.cons.injEq, and_true] at hv; obtain ⟨rfl, rfl, rfl, rfl⟩ := hv
            exact hq
theorem c_rnode (d : Nat) (hd : d ≤ 20) : RdOk d := by
  induction d with
  | zero => exact c_rnode0
  | succ d ih => exact c_rnodeS d (by omega) (ih (by omega))
end Go.Proofs.YtmfilaagpobmbaaGreatDoor

namespace Go.Proofs.YtmfilaagpobmbaaGreatDoor
open Go Go.Abs
theorem bl_empty (l : List UInt8) (e : ByteArray) (he : e = ⟨#[]⟩) : decide (bl l = e) = decide (l = []) := by
  subst he
  have : (bl l = ⟨#[]⟩) ↔ l = [] := by
    constructor
    · intro h
      have := congrArg (fun b : ByteArray => b.data.toList) h
      simpa using this
    · intro h; rw [h]
  simp only [this]
/-- what reading gives: the node, and whether it is one -/
def rdR (n : Option Nd) (x y z u : IV) (b : Bool) : Prop := match n with
  | some n => n.iv = [x, y, z, u] ∧ b = true
  | none => x = .int .i64 0 ∧ y = .int .u64 0 ∧ z = .str ⟨#[]⟩ ∧ u = .lst [] ∧ b = false
set_option maxRecDepth 100000 in
set_option maxHeartbeats 1000000 in
theorem c_Read (s : ByteArray) (hs : s.size ≤ 16777216) (K : AV → List Blk → Prop) (hk : ∀ x y z u b, rdR (readN s) x y z u b → K (.tup [.agg [.imm x, .imm y, .imm z, .imm u], .i (.bool b)]) []) : SP 35 [.i (.str s)] [] K := by
  have hl : s.data.toList.length ≤ 16777216 := hs
  have hsp := rdX_spec 20 s.data.toList
  have hf := c_rnode 20 (by decide) s.data.toList
  generalize hr : rdX 20 s.data.toList = p at hsp hf
  obtain ⟨n, r, c⟩ := p
  obtain ⟨x, y, z, u, h4⟩ := n.iv_four
  refine mk {} (fn := Tryz.f35) Tryz.func35 (by kernel_rfl) (by kernel_rfl) (Nat.le_of_ble_eq_true (Eq.refl true)) fun S hS => ?_
  conv => whnf
  rw [decide_eq_false (show ¬ ((s.size : Int) > 16777216) by omega)]
  conv => whnf
  refine hS _ _ _ _ <| hf _ _ _ x y z u rfl h4 hl _ ?_
  conv => whnf
  cases c with
  | true =>
    conv => whnf
    refine hk _ _ _ _ _ ?_
    have : readN s = none := by
      unfold readN
      cases e : rd 20 s.data.toList with
      | none => rfl
      | some q => rw [e] at hsp; simp only [Prod.mk.injEq] at hsp; exact absurd hsp.2.2 (by simp)
    rw [this]
    exact ⟨rfl, rfl, rfl, rfl, rfl⟩
  | false =>
    conv => whnf
    obtain ⟨e, he⟩ : ∃ e : ByteArray, e = ⟨#[]⟩ := ⟨_, rfl⟩
    have hq : rd 20 s.data.toList = some (n, r) := by
      cases e : rd 20 s.data.toList with
      | none => rw [e] at hsp; simp at hsp
      | some q => obtain ⟨a, b⟩ := q; rw [e] at hsp; simp only [Prod.mk.injEq] at hsp; rw [hsp.1, hsp.2.1]
    rw [beq_ba, bl_empty _ _ rfl]
    cases r with
    | nil =>
      rw [decide_eq_true rfl]
      conv => whnf
      exact hk _ _ _ _ _ (by unfold readN; rw [hq]; exact ⟨h4, rfl⟩)
    | cons a r =>
      rw [decide_eq_false (by simp)]
      conv => whnf
      exact hk _ _ _ _ _ (by unfold readN; rw [hq]; exact ⟨rfl, rfl, rfl, rfl, rfl⟩)
end Go.Proofs.YtmfilaagpobmbaaGreatDoor
