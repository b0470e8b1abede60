/- A part of the proof of a seat of parts: H4, H5. -/
import Derived.Test.YtmfilaagpobmbaaGreatDoorH1
set_option linter.all false
namespace Go.Proofs.YtmfilaagpobmbaaGreatDoor
open Go Go.Abs
theorem sb_at (s : ByteArray) (i : Nat) (c : UInt8) (h : s.data.toList[i]? = some c) : sb s i = (c.toNat : Int) := by simp [sb, List.getD, h]
/-- the size that stands at a place, and where it ends -/
def szAt (s : ByteArray) (a : Nat) : Option (Nat × Nat) := match rdSz 4 true (s.data.toList.drop a) with
  | some (n, r) => some (n, s.size - r.length)
  | none => none
set_option maxRecDepth 100000 in
set_option maxHeartbeats 1000000 in
theorem c_refsize (s : ByteArray) (hs : s.size ≤ 16777216) (a : Nat) (ha : a ≤ s.size) (K : AV → List Blk → Prop)
    (hn : rdSz 4 true (s.data.toList.drop a) = none → K (.tup [.i (.int .i64 0), .i (.int .i64 (-1))]) [])
    (hk : ∀ n r, rdSz 4 true (s.data.toList.drop a) = some (n, r) → ∀ e : Nat, e + r.length = s.size → r = s.data.toList.drop e → K (.tup [.i (.int .i64 (n : Int)), .i (.int .i64 (e : Int))]) []) :
    SP 101 [.i (.str s), .i (.int .i64 (a : Int))] [] K := by
  have hl : s.data.toList.length = s.size := rfl
  refine mk {keep := [(4, [0, 1, 4, 5, 6, 7, 8])]} (fn := Tryz.f101) Tryz.func101 (by kernel_rfl) (by kernel_rfl) (Nat.le_of_ble_eq_true (Eq.refl true)) fun S hS => ?_
  conv => whnf
  intro X hX
  have key : ∀ (f k acc : Nat), f + k = 4 → acc < 128 ^ k → a + k ≤ s.size →
      (rdSz f (decide (k = 0)) (s.data.toList.drop (a + k)) = none → K (.tup [.i (.int .i64 0), .i (.int .i64 (-1))]) []) →
      (∀ n r, rdSz f (decide (k = 0)) (s.data.toList.drop (a + k)) = some (n, r) → ∀ e : Nat, e + r.length = s.size → r = s.data.toList.drop e → K (.tup [.i (.int .i64 ((acc + n * 128 ^ k : Nat) : Int)), .i (.int .i64 (e : Int))]) []) →
      ∀ i x p : Int, i = ((a + k : Nat) : Int) → x = (acc : Int) → p = ((128 ^ k : Nat) : Int) → frK (kfr 47 [(0, .i (.str s)), (1, .i (.int .i64 (a : Int))), (4, .i (.int .i64 0)), (5, .i (.int .i64 0)), (6, .i (.int .i64 x)), (7, .i (.int .i64 p)), (8, .i (.int .i64 i))] []) X := by
    intro f
    induction f with
    | zero =>
      intro k acc hk4 ha4 hak hn hk i x p hi hx hp
      subst hi hx hp
      conv => whnf
      apply hX
      conv => whnf
      have e4 : IntKind.i64.wrap ((a : Int) + 4) = ((a + 4 : Nat) : Int) := i64n (a + 4) (by omega)
      by_cases hlt : a + k < s.size
      · rw [decide_eq_true (show ((a + k : Nat) : Int) < (s.size : Int) by omega)]
        conv => whnf
        rw [e4]
        rw [decide_eq_false (show ¬ (((a + k : Nat) : Int) < ((a + 4 : Nat) : Int)) by omega)]
        conv => whnf
        exact hn rfl
      · rw [decide_eq_false (show ¬ (((a + k : Nat) : Int) < (s.size : Int)) by omega)]
        conv => whnf
        exact hn rfl
    | succ f ih =>
      intro k acc hk4 ha4 hak hn hk i x p hi hx hp
      subst hi hx hp
      conv => whnf
      apply hX
      conv => whnf
      have e4 : IntKind.i64.wrap ((a : Int) + 4) = ((a + 4 : Nat) : Int) := i64n (a + 4) (by omega)
      by_cases hlt : a + k < s.size
      · rw [decide_eq_true (show ((a + k : Nat) : Int) < (s.size : Int) by omega)]
        conv => whnf
        rw [e4]
        rw [decide_eq_true (show ((a + k : Nat) : Int) < ((a + 4 : Nat) : Int) by omega)]
        conv => whnf
        refine ⟨by omega, by omega, ?_⟩
        conv => whnf
        obtain ⟨c, hc⟩ : ∃ c, s.data.toList[a + k]? = some c := ⟨s.data.toList[a + k]'(by omega), List.getElem?_eq_getElem _⟩
        have hd : s.data.toList.drop (a + k) = c :: s.data.toList.drop (a + (k + 1)) := by
          have h1 := List.drop_eq_getElem_cons (l := s.data.toList) (i := a + k) (by omega)
          rw [h1, (List.getElem?_eq_some_iff.1 hc).2]; rfl
        rw [hd] at hn hk
        have hc8 := c.toNat_lt
        rw [show (((a + k : Nat) : Int)).toNat = a + k from rfl, sb_at s _ c hc, i64n _ (by omega)]
        refine ⟨by decide, ?_⟩
        conv => whnf
        have hk3 : 128 ^ k ≤ 128 ^ 3 := Nat.pow_le_pow_right (by decide) (by omega)
        have hb : c.toNat % 128 * 128 ^ k ≤ 127 * 128 ^ k := Nat.mul_le_mul_right _ (by omega)
        have e1 : IntKind.i64.wrap (((c.toNat : Int)).tmod 128 * ((128 ^ k : Nat) : Int)) = ((c.toNat % 128 * 128 ^ k : Nat) : Int) := by
          rw [show ((c.toNat : Int)).tmod 128 = ((c.toNat % 128 : Nat) : Int) from tmodN _ 128, ← Int.natCast_mul, i64n _ (by omega)]
        rw [e1, ← Int.natCast_add, i64n (acc + c.toNat % 128 * 128 ^ k) (by omega)]
        have e2 : IntKind.i64.wrap (((128 ^ k : Nat) : Int) * 128) = ((128 ^ (k + 1) : Nat) : Int) := by
          rw [Nat.pow_succ]
          exact i64n (128 ^ k * 128) (by omega)
        rw [e2]
        by_cases h : c.toNat < 128
        · rw [decide_eq_true (show (c.toNat : Int) < 128 by omega)]
          conv => whnf
          rw [rdSz, if_pos h] at hn hk
          rw [eqz _ _ rfl]
          by_cases h0 : c.toNat = 0
          · rw [decide_eq_true h0]
            conv => whnf
            by_cases hk0 : k = 0
            · subst hk0
              rw [if_neg (by simp)] at hk
              rw [decide_eq_false (show ¬ (((a + 0 : Nat) : Int) > (a : Int)) by omega)]
              conv => whnf
              have := hk _ _ rfl (a + 0 + 1) (by simp; omega) rfl
              rw [h0] at this ⊢
              rw [show ((a + 0 : Nat) : Int) + 1 = ((a + 0 + 1 : Nat) : Int) by omega, i64n _ (by omega)]
              exact this
            · rw [if_pos ⟨h0, by simpa using hk0⟩] at hn
              rw [decide_eq_true (show (((a + k : Nat) : Int) > (a : Int)) by omega)]
              conv => whnf
              exact hn rfl
          · rw [decide_eq_false h0]
            conv => whnf
            rw [if_neg (show ¬ (c.toNat = 0 ∧ decide (k = 0) = false) from fun q => h0 q.1)] at hk
            have := hk _ _ rfl (a + k + 1) (by simp; omega) (by rw [Nat.add_assoc])
            rw [show ((a + k : Nat) : Int) + 1 = ((a + k + 1 : Nat) : Int) by omega, i64n _ (by omega), show c.toNat % 128 = c.toNat by omega]
            exact this
        · rw [decide_eq_false (show ¬ ((c.toNat : Int) < 128) by omega)]
          conv => whnf
          rw [rdSz, if_neg h] at hn hk
          refine ih (k + 1) (acc + c.toNat % 128 * 128 ^ k) (by omega) (by rw [Nat.pow_succ]; omega) (by omega) ?_ ?_ _ _ _ ?_ rfl rfl
          · intro hq
            rw [show decide (k + 1 = 0) = false from by simp] at hq
            rw [hq] at hn
            exact hn rfl
          · intro n r hq e he hr
            rw [show decide (k + 1 = 0) = false from by simp] at hq
            rw [hq] at hk
            have := hk _ _ rfl e he hr
            rw [Nat.pow_succ]
            rw [show acc + c.toNat % 128 * 128 ^ k + n * (128 ^ k * 128) = acc + (c.toNat % 128 + 128 * n) * 128 ^ k by rw [Nat.add_mul, Nat.add_assoc, Nat.mul_comm 128 n, Nat.mul_assoc n, Nat.mul_comm 128]]
            exact this
          · rw [show ((a + k : Nat) : Int) + 1 = ((a + (k + 1) : Nat) : Int) by omega, i64n _ (by omega)]
      · rw [decide_eq_false (show ¬ (((a + k : Nat) : Int) < (s.size : Int)) by omega)]
        conv => whnf
        rw [List.drop_eq_nil_of_le (by omega)] at hn
        exact hn rfl
  refine key 4 0 0 rfl (by decide) (by omega) hn ?_ _ _ _ rfl rfl rfl
  intro n r hq e he hr
  rw [Nat.pow_zero, Nat.mul_one, Nat.zero_add]
  exact hk n r hq e he hr
end Go.Proofs.YtmfilaagpobmbaaGreatDoor

namespace Go.Proofs.YtmfilaagpobmbaaGreatDoor
open Go Go.Abs
abbrev noNd : AV := .agg [.imm (.int .i64 0), .imm (.int .u64 0), .imm (.str ⟨#[]⟩), .imm (.lst [])]
def RfOk (s : ByteArray) (d : Nat) : Prop := ∀ (a : Nat), a ≤ s.size → ∀ K : AV → List Blk → Prop,
    (rd d (s.data.toList.drop a) = none → K (.tup [noNd, .i (.int .i64 (-1))]) []) →
    (∀ n r, rd d (s.data.toList.drop a) = some (n, r) → ∀ x y z u, n.iv = [x, y, z, u] → ∀ e : Nat, e + r.length = s.size → r = s.data.toList.drop e → K (.tup [.agg [.imm x, .imm y, .imm z, .imm u], .i (.int .i64 (e : Int))]) []) →
    SP 65 [.i (.str s), .i (.int .i64 (a : Int)), .i (.int .i64 (d : Int))] [] K
set_option maxRecDepth 100000 in
set_option maxHeartbeats 4000000 in
theorem c_refnodeS (s : ByteArray) (hs : s.size ≤ 16777216) (d : Nat) (hd : d < 20) (ih : RfOk s d) : RfOk s (d + 1) := by
  intro a ha K hn hk
  have hl : s.data.toList.length = s.size := rfl
  refine mk {frz := [123], keep := [(13, [0, 6, 8, 9, 10, 11, 12]), (24, [0, 2, 6, 8, 9, 10, 13, 14])]} (fn := Tryz.f65) Tryz.func65 (by kernel_rfl) (by kernel_rfl) (Nat.le_of_ble_eq_true (Eq.refl true)) fun S hS => ?_
  conv => whnf
  by_cases has : s.size ≤ a
  · rw [decide_eq_true (show (a : Int) ≥ (s.size : Int) by omega)]
    conv => whnf
    rw [List.drop_eq_nil_of_le (by omega)] at hn
    exact hn rfl
  rw [decide_eq_false (show ¬ ((a : Int) ≥ (s.size : Int)) by omega)]
  conv => whnf
  rw [decide_eq_false (show ¬ ((((d + 1 : Nat) : Int)) < 1) by omega)]
  conv => whnf
  rw [show (a : Int) + 1 = ((a + 1 : Nat) : Int) by omega, i64n _ (by omega)]
  obtain ⟨c, hc⟩ : ∃ c, s.data.toList[a]? = some c := ⟨s.data.toList[a]'(by omega), List.getElem?_eq_getElem _⟩
  have hdr : s.data.toList.drop a = c :: s.data.toList.drop (a + 1) := by
    have h1 := List.drop_eq_getElem_cons (l := s.data.toList) (i := a) (by omega)
    rw [h1, (List.getElem?_eq_some_iff.1 hc).2]
  rw [hdr] at hn hk
  simp only [rd] at hn hk
  have hc8 := c.toNat_lt
  refine hS _ _ _ _ <| c_refsize s hs (a + 1) (by omega) _ (fun hz => ?_) (fun m r1 hz e he hr => ?_)
  · conv => whnf
    rw [hz] at hn
    exact hn rfl
  rw [hz] at hn hk
  simp only at hn hk
  have hm28 := (rdSz_lt _ _ _ _ _ hz).1
  have h128 : 128 ^ 4 = 268435456 := by decide
  have hrl : r1.length ≤ s.size := by omega
  conv => whnf
  rw [decide_eq_false (show ¬ ((e : Int) < 0) by omega)]
  conv => whnf
  refine ⟨by omega, by omega, ?_⟩
  conv => whnf
  rw [show ((a : Int)).toNat = a from rfl, sb_at s _ c hc]
  have hej : ∀ (q : Nat) (z : Int), z = (q : Int) → (((c.toNat : Nat) : Int) == z) = decide (c.toNat = q) := by
    intro q z h1
    subst h1
    by_cases h : c.toNat = q
    · rw [h, decide_eq_true rfl]; simp
    · rw [decide_eq_false h]; simpa using fun h' : ((c.toNat : Nat) : Int) = (q : Int) => h (by omega)
  rw [hej 110 (110 : Int) rfl]
  by_cases k1 : c.toNat = 110
  · rw [if_pos k1] at hn hk
    rw [decide_eq_true k1]
    conv => whnf
    have ew : IntKind.i64.wrap ((e : Int) + (m : Int)) = ((e + m : Nat) : Int) := i64n (e + m) (by omega)
    by_cases g1 : 8 < m
    · rw [decide_eq_true (show (m : Int) > 8 by omega)]
      conv => whnf
      rw [if_pos (.inl g1)] at hn
      exact hn rfl
    rw [decide_eq_false (show ¬ ((m : Int) > 8) by omega)]
    conv => whnf
    rw [ew]
    by_cases g2 : s.size < e + m
    · rw [decide_eq_true (show (((e + m : Nat) : Int)) > (s.size : Int) by omega)]
      conv => whnf
      rw [if_pos (.inr (.inl (by omega)))] at hn
      exact hn rfl
    rw [decide_eq_false (show ¬ ((((e + m : Nat) : Int)) > (s.size : Int)) by omega)]
    conv => whnf
    have fin : ¬ (0 < m ∧ r1[0]? = some 0) → K (.tup [.agg [.imm (.int .i64 0), .imm (.int .u64 ((be (r1.take m) : Nat) : Int)), .imm (.str ⟨#[]⟩), .imm (.lst [])], .i (.int .i64 ((e + m : Nat) : Int))]) [] := by
      intro hz0
      rw [if_neg (show ¬ (8 < m ∨ r1.length < m ∨ (0 < m ∧ r1[0]? = some 0)) from fun h => h.elim g1 fun h => h.elim (fun h => by omega) hz0)] at hk
      exact hk _ _ rfl _ _ _ _ rfl (e + m) (by rw [List.length_drop]; omega) (by rw [hr, List.drop_drop])
    have hget : ∀ i, r1[i]? = s.data.toList[e + i]? := fun i => by rw [hr, List.getElem?_drop]
    by_cases hm0 : m = 0
    case' pos =>
      rw [decide_eq_false (show ¬ ((m : Int) > 0) by omega)]
      conv => whnf
      have fin := fin (by omega)
    case' neg =>
      rw [decide_eq_true (show (m : Int) > 0 by omega)]
      conv => whnf
      refine ⟨by omega, by omega, ?_⟩
      conv => whnf
      obtain ⟨c1, hc1⟩ : ∃ c1, s.data.toList[e]? = some c1 := ⟨s.data.toList[e]'(by omega), List.getElem?_eq_getElem _⟩
      rw [show ((e : Int)).toNat = e from rfl, sb_at s _ c1 hc1, eqz _ _ rfl]
      by_cases h0 : c1.toNat = 0
      · rw [decide_eq_true h0]
        conv => whnf
        rw [if_pos (.inr (.inr ⟨by omega, by rw [hget, Nat.add_zero, hc1, UInt8.toNat_inj.1 (show c1.toNat = (0 : UInt8).toNat from h0)]⟩))] at hn
        exact hn rfl
      rw [decide_eq_false h0]
      have fin := fin (fun h => h0 (by have := h.2; rw [hget, Nat.add_zero, hc1] at this; rw [Option.some.inj this]; rfl))
      conv => whnf
    all_goals
      intro X hX
      have key : ∀ (k i : Nat), i + k = m → ∀ j w : Int, j = (i : Int) → w = (be (r1.take i) : Int) → frK (kfr 130 [(0, .i (.str s)), (6, .one (.ref 0 0)), (8, .one (.ref 1 0)), (9, .i (.int .i64 (m : Int))), (10, .i (.int .i64 (e : Int))), (11, .i (.int .u64 w)), (12, .i (.int .i64 j))] [.cells [.imm (.int .i64 0), .imm (.int .u64 0), .imm (.str ⟨#[]⟩), .nils] none, .cells [.imm (.int .i64 0), .imm (.int .u64 0), .imm (.str ⟨#[]⟩), .nils] none]) X := by
        intro k
        induction k with
        | zero =>
          intro i hi j w hj hw
          subst hj hw
          conv => whnf
          apply hX
          conv => whnf
          rw [decide_eq_false (show ¬ ((i : Int) < (m : Int)) by omega)]
          conv => whnf
          rw [ew, show i = m by omega]
          exact fin
        | succ k ihk =>
          intro i hi j w hj hw
          subst hj hw
          conv => whnf
          apply hX
          conv => whnf
          rw [decide_eq_true (show (i : Int) < (m : Int) by omega)]
          conv => whnf
          obtain ⟨ch, hch⟩ : ∃ ch, r1[i]? = some ch := ⟨r1[i]'(by omega), List.getElem?_eq_getElem _⟩
          have hch' := hch
          rw [hget] at hch'
          have hlt := be_lt (r1.take i)
          have hti : (r1.take i).length = i := by rw [List.length_take]; omega
          have hp : 256 ^ i ≤ 256 ^ 7 := Nat.pow_le_pow_right (by decide) (by omega)
          rw [hti] at hlt
          have hch8 := ch.toNat_lt
          have htk : be (r1.take (i + 1)) = 256 * be (r1.take i) + ch.toNat := by rw [List.take_succ, hch]; exact be_app _ _
          rw [← Int.natCast_add, i64n (e + i) (by omega)]
          refine ⟨by omega, by omega, ?_⟩
          conv => whnf
          rw [show (((e + i : Nat) : Int)).toNat = e + i from rfl, sb_at s _ ch hch']
          refine ihk (i + 1) (by omega) _ _ ?_ ?_
          · rw [show (i : Int) + 1 = ((i + 1 : Nat) : Int) by omega, i64n _ (by omega)]
          · rw [htk, u64n ch.toNat (by omega), show ((be (r1.take i) : Nat) : Int) * 256 = ((be (r1.take i) * 256 : Nat) : Int) by omega, u64n _ (by omega), ← Int.natCast_add, u64n _ (by omega)]; omega
      exact key m 0 (by omega) _ _ rfl rfl
  rw [if_neg k1] at hn hk
  rw [decide_eq_false k1]
  conv => whnf
  rw [hej 115 (115 : Int) rfl]
  by_cases k2 : c.toNat = 115
  · rw [if_pos k2] at hn hk
    rw [decide_eq_true k2]
    conv => whnf
    have ew : IntKind.i64.wrap ((e : Int) + (m : Int)) = ((e + m : Nat) : Int) := i64n (e + m) (by omega)
    rw [ew]
    by_cases g : s.size < e + m
    · rw [decide_eq_true (show (((e + m : Nat) : Int)) > (s.size : Int) by omega)]
      conv => whnf
      rw [if_pos (by omega)] at hn
      exact hn rfl
    · rw [decide_eq_false (show ¬ ((((e + m : Nat) : Int)) > (s.size : Int)) by omega)]
      conv => whnf
      rw [if_neg (by omega)] at hk
      rw [ew]
      refine ⟨by omega, by omega, by omega, ?_⟩
      conv => whnf
      have hx : s.extract ((e : Int)).toNat (((e + m : Nat) : Int)).toNat = bl (r1.take m) := by
        rw [show ((e : Int)).toNat = e from rfl, show (((e + m : Nat) : Int)).toNat = e + m from rfl, ← bl_self s, bl_extract, hr]
        congr 3
        omega
      rw [hx, ew]
      exact hk _ _ rfl _ _ _ _ rfl (e + m) (by rw [List.length_drop]; omega) (by rw [hr, List.drop_drop])
  rw [if_neg k2] at hn hk
  rw [decide_eq_false k2]
  conv => whnf
  rw [hej 108 (108 : Int) rfl]
  by_cases k3 : c.toNat = 108
  · rw [if_pos k3] at hn hk
    rw [decide_eq_true k3]
    conv => whnf
    intro X hX
    have key : ∀ (k : Nat) (acc : List Nd) (e : Nat) (l : List UInt8), acc ≠ [] → acc.length + k = m → e + l.length = s.size → l = s.data.toList.drop e →
        (rdsW (rd d) k l = none → K (.tup [noNd, .i (.int .i64 (-1))]) []) →
        (∀ ks r, rdsW (rd d) k l = some (ks, r) → ∀ e : Nat, e + r.length = s.size → r = s.data.toList.drop e → K (.tup [.agg [.imm (.int .i64 2), .imm (.int .u64 0), .imm (.str ⟨#[]⟩), .imm (.lst (ivs (acc ++ ks)))], .i (.int .i64 (e : Int))]) []) →
        ∀ (j f : Int) (nn : Nat) (L : List (List IV)), j = (acc.length : Int) → f = (e : Int) → nn = acc.length → L = ivs acc →
        frK (kfr 130 [(0, .i (.str s)), (2, .i (.int .i64 ((d + 1 : Nat) : Int))), (6, .one (.ref 0 0)), (8, .one (.ref 1 0)), (9, .i (.int .i64 (m : Int))), (10, .i (.int .i64 f)), (13, .one (.ref 2 0)), (14, .i (.int .i64 j))] [.cells [.imm (.int .i64 0), .imm (.int .u64 0), .imm (.str ⟨#[]⟩), .nils] none, .cells [.imm (.int .i64 0), .imm (.int .u64 0), .imm (.str ⟨#[]⟩), .nils] none, .cells [.imm (.int .i64 2), .imm (.int .u64 0), .imm (.str ⟨#[]⟩), .sl 4 0 nn] none, .dead, .vec 4 L true]) X := by
      intro k
      induction k with
      | zero =>
        intro acc e l hacc hk hel hl hn hk j f nn L hj hf hnn hL
        subst hj hf hnn hL
        conv => whnf
        apply hX
        conv => whnf
        rw [decide_eq_false (show ¬ ((acc.length : Int) < (m : Int)) by omega)]
        conv => whnf
        have := hk [] l rfl e hel hl
        rw [List.append_nil] at this
        show K (.tup [.agg [_, _, _, .imm (.lst (((ivs acc).drop 0).take acc.length))], _]) []
        rw [List.drop_zero, ← ivs_len acc, List.take_length]
        exact this
      | succ k ihk =>
        intro acc e l hacc hkm hel hl hn hk j f nn L hj hf hnn hL
        subst hj hf
        have hLl : L.length = acc.length := by rw [hL, ivs_len]
        conv => whnf
        apply hX
        conv => whnf
        rw [decide_eq_true (show (acc.length : Int) < (m : Int) by omega)]
        conv => whnf
        rw [show ((d + 1 : Nat) : Int) - 1 = ((d : Nat) : Int) by omega, i64n _ (by omega)]
        rw [rdsW, hl] at hn hk
        refine hS _ _ _ _ <| ih e (by omega) _ (fun hz => ?_) (fun n r2 hz x y z u hv e2 he2 hr2 => ?_)
        · conv => whnf
          rw [hz] at hn
          exact hn rfl
        rw [hz] at hn hk
        simp only at hn hk
        conv => whnf
        rw [decide_eq_false (show ¬ ((e2 : Int) < 0) by omega)]
        conv => whnf
        refine ⟨fun q hq => ?_, ?_⟩
        · rcases List.mem_cons.1 (show q ∈ [[x, y, z, u]] from hq) with rfl | h
          · rfl
          · simp at h
        conv => whnf
        refine ⟨by omega, ?_, ?_⟩
        · show (L.length + 1) * 56 ≤ 17592186044416
          omega
        conv => whnf
        refine ihk (acc ++ [n]) e2 r2 (by simp) (by simp; omega) he2 hr2 (fun hq => ?_) (fun ks r3 hq e3 he3 hr3 => ?_) _ _ _ _ ?_ rfl ?_ ?_
        · rw [hq] at hn; exact hn rfl
        · rw [hq] at hk
          have := hk _ _ rfl e3 he3 hr3
          rw [List.append_assoc]
          exact this
        · rw [show (acc.length : Int) + 1 = ((acc.length + 1 : Nat) : Int) by omega, i64n _ (by omega), List.length_append]; rfl
        · rw [hnn, List.length_append]; rfl
        · rw [hL, ← ivs_app, ivs, ivs, hv]; rfl
    apply hX
    conv => whnf
    cases m with
    | zero =>
      rw [decide_eq_false (show ¬ ((0 : Int) < ((0 : Nat) : Int)) by omega)]
      conv => whnf
      simp only [rdsW] at hk
      exact hk _ _ rfl _ _ _ _ rfl e he hr
    | succ m =>
      rw [decide_eq_true (show (0 : Int) < ((m + 1 : Nat) : Int) by omega)]
      conv => whnf
      rw [show ((d + 1 : Nat) : Int) - 1 = ((d : Nat) : Int) by omega, i64n _ (by omega)]
      rw [rdsW, hr] at hn hk
      refine hS _ _ _ _ <| ih e (by omega) _ (fun hz => ?_) (fun n r2 hz x y z u hv e2 he2 hr2 => ?_)
      · conv => whnf
        rw [hz] at hn
        exact hn rfl
      rw [hz] at hn hk
      simp only at hn hk
      conv => whnf
      rw [decide_eq_false (show ¬ ((e2 : Int) < 0) by omega)]
      conv => whnf
      refine ⟨fun q hq => ?_, ?_⟩
      · rcases List.mem_cons.1 (show q ∈ [[x, y, z, u]] from hq) with rfl | h
        · rfl
        · simp at h
      conv => whnf
      refine ⟨by show (0 + 1) * 56 ≤ 17592186044416; decide, ?_⟩
      conv => whnf
      refine key m [n] e2 r2 (by simp) (by simp; omega) he2 hr2 (fun hq => ?_) (fun ks r3 hq e3 he3 hr3 => ?_) _ _ _ _ rfl rfl rfl ?_
      · rw [hq] at hn; exact hn rfl
      · rw [hq] at hk
        exact hk _ _ rfl _ _ _ _ rfl e3 he3 hr3
      · rw [ivs, ivs, hv]; rfl
  rw [if_neg k3] at hn
  rw [decide_eq_false k3]
  conv => whnf
  exact hn rfl
set_option maxRecDepth 100000 in
set_option maxHeartbeats 1000000 in
theorem c_refnode (s : ByteArray) (hs : s.size ≤ 16777216) (d : Nat) (hd : d ≤ 20) : RfOk s d := by
  induction d with
  | zero =>
    intro a ha K hn hk
    have hn := hn rfl
    refine mk {frz := [123], keep := [(13, [0, 6, 8, 9, 10, 11, 12]), (24, [0, 2, 6, 8, 9, 10, 13, 14])]} (fn := Tryz.f65) Tryz.func65 (by kernel_rfl) (by kernel_rfl) (Nat.le_of_ble_eq_true (Eq.refl true)) fun S hS => ?_
    conv => whnf
    by_cases has : s.size ≤ a
    · rw [decide_eq_true (show (a : Int) ≥ (s.size : Int) by omega)]
      conv => whnf
      exact hn
    · rw [decide_eq_false (show ¬ ((a : Int) ≥ (s.size : Int)) by omega)]
      conv => whnf
      exact hn
  | succ d ih => exact c_refnodeS s hs d (by omega) (ih (by omega))
set_option maxRecDepth 100000 in
set_option maxHeartbeats 1000000 in
theorem c_refRead (s : ByteArray) (hs : s.size ≤ 16777216) (K : AV → List Blk → Prop) (hk : ∀ x y z u b, rdR (readN s) x y z u b → K (.tup [.agg [.imm x, .imm y, .imm z, .imm u], .i (.bool b)]) []) : SP 33 [.i (.str s)] [] K := by
  have hno : readN s = none → K (.tup [noNd, .i (.bool false)]) [] := fun h => hk _ _ _ _ _ (by rw [h]; exact ⟨rfl, rfl, rfl, rfl, rfl⟩)
  refine mk {} (fn := Tryz.f33) Tryz.func33 (by kernel_rfl) (by kernel_rfl) (Nat.le_of_ble_eq_true (Eq.refl true)) fun S hS => ?_
  conv => whnf
  rw [decide_eq_false (show ¬ ((s.size : Int) > 16777216) by omega)]
  conv => whnf
  refine hS _ _ _ _ <| c_refnode s hs 20 (by decide) 0 (by omega) _ (fun hz => ?_) (fun n r hz x y z u hv e he hr => ?_)
  · rw [List.drop_zero] at hz
    conv => whnf
    exact hno (by unfold readN; rw [hz])
  · rw [List.drop_zero] at hz
    conv => whnf
    cases r with
    | nil =>
      have : e = s.size := by simpa using he
      subst this
      rw [show (((s.size : Nat) : Int) != ((s.size : Nat) : Int)) = false by simp]
      conv => whnf
      exact hk _ _ _ _ _ (by unfold readN; rw [hz]; exact ⟨hv, rfl⟩)
    | cons q r =>
      have : e ≠ s.size := by rw [List.length_cons] at he; omega
      rw [show ((e : Int) != ((s.size : Nat) : Int)) = true by simp; omega]
      conv => whnf
      exact hno (by unfold readN; rw [hz])
end Go.Proofs.YtmfilaagpobmbaaGreatDoor
