/- A part of the proof of a seat of parts: E8, E9. -/
import Derived.Test.YtmfilaagpobmbaaGreatDoorA5
import Derived.Test.YtmfilaagpobmbaaGreatDoorE5
import Derived.Test.YtmfilaagpobmbaaGreatDoorS3
set_option linter.all false
namespace Go.Proofs.YtmfilaagpobmbaaGreatDoor
open Go Go.Abs
theorem c_CommonE (a b : ByteArray) (ha : a.size = 32) (hb : b.size = 32) (K : AV → List Blk → Prop) (hk : ∀ r, r = common a b → K (.i (.int .i64 (r : Int))) []) : SP 54 [.i (.str a), .i (.str b)] [] K :=
  c_Common a b ha hb K fun r hr => hk r (common_eq hr)
set_option maxRecDepth 100000 in
theorem c_Under (t : T) (ht : t.good) (hb : t.pairs.length < 100000) (key : ByteArray) (hkey : key.size = 32) (n : Nat) (hn : n ≤ 256) (K : AV → List Blk → Prop) (hk : ∀ L, L = pl (t.under key n) → K (.i (.lst L)) []) : SP 60 [.i (tr t), .i (.str key), .i (.int .i64 (n : Int))] [] K := by
  have h1 := c_Top t
  have hks : ((key.size : Int) != 32) = false := by rw [hkey]; rfl
  generalize tr t = x at h1 ⊢
  refine mk {keep := [(4, [1,2,7])]} (fn := Tryz.f60) Tryz.func60 (by kernel_rfl) (by kernel_rfl) (Nat.le_of_ble_eq_true (Eq.refl true)) fun S hS => ?_
  conv => whnf
  rw [hks]
  conv => whnf
  rw [decide_eq_false (show ¬ ((n : Int) < 0) by omega)]
  conv => whnf
  rw [decide_eq_false (show ¬ ((n : Int) > 256) by omega)]
  conv => whnf
  refine hS _ _ _ _ <| h1 _ ?_
  conv => whnf
  clear h1
  intro X hX
  have go : ∀ (t : T) (_ : t.good) (_ : t.pairs.length < 100000) (_ : ∀ L, L = pl (t.under key n) → K (.i (.lst L)) []), frK (kfr 78 [(1, .i (.str key)), (2, .i (.int .i64 (n : Int))), (7, .i t.iv)] []) X := by
    intro t
    induction t with
    | nil =>
      intro ht hb hk
      have en : T.nil.iv = .nilp := rfl
      rw [en]
      conv => whnf
      apply hX
      conv => whnf
      exact hk _ rfl
    | leaf k v =>
      intro ht hb hk
      have hg := c_gather0 (.leaf k v) ht (by simp) hb
      have h32 : k.size = 32 := ht.1
      rw [T.iv_leaf] at hg ⊢
      generalize (T.leaf k v).hash = hs at hg ⊢
      simp only [T.under] at hk
      conv => whnf
      apply hX
      conv => whnf
      refine hS _ _ _ _ <| c_CommonE k key h32 hkey _ fun r hr => ?_
      subst hr
      conv => whnf
      by_cases c : common k key < n
      · rw [if_pos c] at hk
        rw [decide_eq_true (show (common k key : Int) < (n : Int) by omega)]
        conv => whnf
        exact hk _ rfl
      · rw [if_neg c] at hk
        rw [decide_eq_false (show ¬ ((common k key : Int) < (n : Int)) by omega)]
        conv => whnf
        refine hS _ _ _ _ <| hg _ fun n' L' hL' hn' => ?_
        conv => whnf
        refine hk _ ?_
        rw [hn', hL', List.drop_zero, List.take_of_length_le (by rw [pl_len]; exact Nat.le_refl _)]
        rfl
    | fork a k z o iz io =>
      intro ht hb hk
      have hg := c_gather0 (.fork a k z o) ht (by simp) hb
      have h32 := T.ksize ht
      rw [T.iv_fork] at hg ⊢
      generalize (T.fork a k z o).hash = hs at hg ⊢
      simp only [T.under] at hk
      simp only [T.pairs, List.length_append] at hb
      conv => whnf
      apply hX
      conv => whnf
      by_cases ha : a < n
      · rw [if_pos ha] at hk
        rw [decide_eq_true (show (a : Int) < (n : Int) by omega)]
        conv => whnf
        refine ⟨.i (.int .i64 (common k key : Int)), hS _ _ _ _ <| c_CommonE k key h32 hkey _ (fun r hr => ⟨by rw [hr], rfl⟩), rfl, ?_⟩
        conv => whnf
        by_cases c : common k key < a
        · rw [if_pos c] at hk
          rw [decide_eq_true (show (common k key : Int) < (a : Int) by omega)]
          conv => whnf
          exact hk _ rfl
        · rw [if_neg c] at hk
          rw [decide_eq_false (show ¬ ((common k key : Int) < (a : Int)) by omega)]
          conv => whnf
          refine hS _ _ _ _ <| c_Bit key a hkey ht.1 _ ?_
          conv => whnf
          cases hbit : bit key a
          · rw [if_pos hbit] at hk
            conv => whnf
            exact iz ht.2.2.2.1 (by omega) hk
          · rw [if_neg (by simp [hbit])] at hk
            conv => whnf
            exact io ht.2.2.2.2.1 (by omega) hk
      · rw [if_neg ha] at hk
        rw [decide_eq_false (show ¬ ((a : Int) < (n : Int)) by omega)]
        conv => whnf
        refine hS _ _ _ _ <| c_CommonE k key h32 hkey _ fun r hr => ?_
        subst hr
        conv => whnf
        by_cases c : common k key < n
        · rw [if_pos c] at hk
          rw [decide_eq_true (show (common k key : Int) < (n : Int) by omega)]
          conv => whnf
          exact hk _ rfl
        · rw [if_neg c] at hk
          rw [decide_eq_false (show ¬ ((common k key : Int) < (n : Int)) by omega)]
          conv => whnf
          refine hS _ _ _ _ <| hg _ fun n' L' hL' hn' => ?_
          conv => whnf
          refine hk _ ?_
          rw [hn', hL', List.drop_zero, List.take_of_length_le (by rw [pl_len]; exact Nat.le_refl _)]
  exact go t ht hb hk
set_option maxRecDepth 100000 in
theorem c_UnderBad (x : IV) (key : ByteArray) (n : Int) (h : key.size ≠ 32 ∨ n < 0 ∨ 256 < n) (K : AV → List Blk → Prop) (hk : K (.i (.lst [])) []) : SP 60 [.i x, .i (.str key), .i (.int .i64 n)] [] K := by
  refine mk {keep := [(4, [1,2,7])]} (fn := Tryz.f60) Tryz.func60 (by kernel_rfl) (by kernel_rfl) (Nat.le_of_ble_eq_true (Eq.refl true)) fun S hS => ?_
  conv => whnf
  by_cases h1 : key.size = 32
  · rw [show ((key.size : Int) != 32) = false by rw [h1]; rfl]
    conv => whnf
    by_cases h2 : n < 0
    · rw [decide_eq_true (show n < 0 by omega)]
      conv => whnf
      exact hk
    · rw [decide_eq_false (show ¬ (n < 0) by omega)]
      conv => whnf
      rw [decide_eq_true (show n > 256 by omega)]
      conv => whnf
      exact hk
  · rw [show ((key.size : Int) != 32) = true by simp; omega]
    conv => whnf
    exact hk
set_option maxRecDepth 100000 in
theorem c_UnderN (key : ByteArray) (hkey : key.size = 32) (K : AV → List Blk → Prop) (hk : K (.i (.lst [])) []) : SP 60 [.i .nilp, .i (.str key), .i (.int .i64 0)] [] K := by
  refine mk {keep := [(4, [1,2,7])]} (fn := Tryz.f60) Tryz.func60 (by kernel_rfl) (by kernel_rfl) (Nat.le_of_ble_eq_true (Eq.refl true)) fun S hS => ?_
  conv => whnf
  rw [show ((key.size : Int) != 32) = false by rw [hkey]; rfl]
  conv => whnf
  refine hS _ _ _ _ <| c_TopN _ ?_
  conv => whnf
  intro X hX
  apply hX
  conv => whnf
  exact hk
end Go.Proofs.YtmfilaagpobmbaaGreatDoor

namespace Go.Proofs.YtmfilaagpobmbaaGreatDoor
open Go Go.Abs
set_option maxRecDepth 100000 in
theorem c_Place (l : List Pr) (p q : Pr) (a : Nat) (ha : a < 256) (hl : l.length < 100000) (h0 : l[0]? = some p) (h1 : l[l.length - 1]? = some q) (hp : p.1.size = 32) (hq : q.1.size = 32) (hag : agree a p.1 q.1) (hne : bit p.1 a ≠ bit q.1 a) (K : AV → List Blk → Prop) (hk : K (.i (.int .i64 (a : Int))) []) : SP 48 [.i (.lst (pl l))] [] K := by
  have hpl := pl_len l
  have hg0 := pl_get l _ _ h0
  have hg1 := pl_get l _ _ h1
  have hpos : 0 < l.length := by
    cases l with
    | nil => simp at h0
    | cons => simp
  generalize pl l = L at hpl hg0 hg1 ⊢
  refine mk {keep := [(2, [0,3])]} (fn := Tryz.f48) Tryz.func48 (by kernel_rfl) (by kernel_rfl) (Nat.le_of_ble_eq_true (Eq.refl true)) fun S hS => ?_
  conv => whnf
  intro X hX
  have go : ∀ (d i : Nat), i + d = a → frK (kfr 25 [(0, .i (.lst L)), (3, .i (.int .i64 (i : Int)))] []) X := by
    intro d
    induction d with
    | zero =>
      intro i hi
      obtain rfl : i = a := hi
      conv => whnf
      apply hX
      conv => whnf
      rw [decide_eq_true (show (i : Int) < 256 by omega)]
      conv => whnf
      refine ⟨_, by decide, hg0, rfl, ?_⟩
      conv => whnf
      refine ⟨.i (.int .i64 ((bit p.1 i).toNat : Int)), hS _ _ _ _ <| c_rBit p.1 i hp ha _ ⟨rfl, rfl⟩, rfl, ?_⟩
      conv => whnf
      rw [show (L.length : Int) - 1 = ((l.length - 1 : Nat) : Int) by omega, i64n _ (by omega)]
      refine ⟨_, by omega, hg1, rfl, ?_⟩
      conv => whnf
      refine ⟨.i (.int .i64 ((bit q.1 i).toNat : Int)), hS _ _ _ _ <| c_rBit q.1 i hq ha _ ⟨rfl, rfl⟩, rfl, ?_⟩
      conv => whnf
      rw [bit_ne, show (bit p.1 i != bit q.1 i) = true by simpa using hne]
      conv => whnf
      exact hk
    | succ d ih =>
      intro i hi
      conv => whnf
      apply hX
      conv => whnf
      rw [decide_eq_true (show (i : Int) < 256 by omega)]
      conv => whnf
      refine ⟨_, by decide, hg0, rfl, ?_⟩
      conv => whnf
      refine ⟨.i (.int .i64 ((bit p.1 i).toNat : Int)), hS _ _ _ _ <| c_rBit p.1 i hp (by omega) _ ⟨rfl, rfl⟩, rfl, ?_⟩
      conv => whnf
      rw [show (L.length : Int) - 1 = ((l.length - 1 : Nat) : Int) by omega, i64n _ (by omega)]
      refine ⟨_, by omega, hg1, rfl, ?_⟩
      conv => whnf
      refine ⟨.i (.int .i64 ((bit q.1 i).toNat : Int)), hS _ _ _ _ <| c_rBit q.1 i hq (by omega) _ ⟨rfl, rfl⟩, rfl, ?_⟩
      conv => whnf
      rw [bit_ne, show (bit p.1 i != bit q.1 i) = false by simpa using hag i (by omega)]
      conv => whnf
      rw [show (i : Int) + 1 = ((i + 1 : Nat) : Int) by omega, i64n _ (by omega)]
      exact ih (i + 1) (by omega)
  exact go a 0 (by omega)
theorem bit_one (b : Bool) : (((b.toNat : Nat) : Int) == 1) = b := by cases b <;> rfl
theorem bit_zero (b : Bool) : (((b.toNat : Nat) : Int) == 0) = !b := by cases b <;> rfl
set_option maxRecDepth 100000 in
theorem c_rFirst (k : ByteArray) (n : Nat) (hk32 : k.size = 32) (hn : n ≤ 256) (K : AV → List Blk → Prop) (hk : ∀ r, r = firstK k n → K (.i (.str r)) []) : SP 50 [.i (.str k), .i (.int .i64 (n : Int))] [] K := by
  refine mk {keep := [(3, [0,1,5,6])]} (fn := Tryz.f50) Tryz.func50 (by kernel_rfl) (by kernel_rfl) (Nat.le_of_ble_eq_true (Eq.refl true)) fun S hS => ?_
  conv => whnf
  refine ⟨by decide, by decide, by decide, ?_⟩
  conv => whnf
  intro X hX
  have go : ∀ (d i : Nat), i + d = n → ∀ r, r = firstK k i → frK (kfr 33 [(0, .i (.str k)), (1, .i (.int .i64 (n : Int))), (5, .one (.sl 0 0 32)), (6, .i (.int .i64 (i : Int)))] [.vec 1 (bytesIV r) false]) X := by
    intro d
    induction d with
    | zero =>
      intro i hi r hr
      obtain rfl : i = n := hi
      have lr : (bytesIV r).length = 32 := by rw [hr, eb_bytes, firstK_size]; simp [eb]
      conv => whnf
      apply hX
      conv => whnf
      rw [decide_eq_false (show ¬ ((i : Int) < (i : Int)) by omega)]
      conv => whnf
      refine ⟨r, by rw [List.drop_zero]; exact List.take_of_length_le (by omega), ?_⟩
      conv => whnf
      exact hk r hr
    | succ d ih =>
      intro i hi r hr
      have hi' : i < 256 := by omega
      have hnx := firstK_next (k := k) hi'
      have hrs : r.size = 32 := by rw [hr]; exact firstK_size _ _
      conv => whnf
      apply hX
      conv => whnf
      rw [decide_eq_true (show (i : Int) < (n : Int) by omega)]
      conv => whnf
      refine hS _ _ _ _ <| c_rBit k i hk32 hi' _ ?_
      conv => whnf
      rw [bit_one]
      cases hb : bit k i
      · rw [hb, if_neg (by decide)] at hnx
        conv => whnf
        rw [show (i : Int) + 1 = ((i + 1 : Nat) : Int) by omega, i64n _ (by omega)]
        exact ih (i + 1) (by omega) r (by rw [hnx]; exact hr)
      · rw [hb, if_pos rfl, ← hr] at hnx
        have x0 := byteN_lt r (i / 8)
        have e0 : (bytesIV r).set (i / 8) [IV.int .u8 (setN (byteN r (i / 8)) (i % 8) : Int)] = bytesIV (setK' r i) := setB_iv _ _ _ (setN_lt _ x0 _ (by omega))
        have c0 := setN_iv' (byteN r (i / 8)) x0 (i % 8) (by omega)
        have g0 : (bytesIV r)[i / 8]? = some [IV.int .u8 (byteN r (i / 8) : Int)] := by rw [eb_bytes, hrs]; exact eb_get _ _ _ (by rw [List.getElem?_map, List.getElem?_range (by omega)]; rfl)
        have q8 : IntKind.i64.wrap ((i : Int).tdiv 8) = ((i / 8 : Nat) : Int) := tdivN i 8 (by omega)
        have r8 : (i : Int).tmod 8 = ((i % 8 : Nat) : Int) := tmodN i 8
        have m8 : min (((7 - i % 8 : Nat) : Int).toNat) IntKind.u8.bits = 7 - i % 8 := by simp only [IntKind.bits]; omega
        have hih := ih (i + 1) (by omega) (setK' r i) hnx.symm
        rw [← e0] at hih
        generalize setN (byteN r (i / 8)) (i % 8) = v at *
        generalize byteN r (i / 8) = bz at *
        conv => whnf
        refine ⟨by decide, ?_⟩
        conv => whnf
        refine ⟨by decide, ?_⟩
        conv => whnf
        rw [q8]
        refine ⟨by omega, by omega, ?_⟩
        conv => whnf
        rw [show 0 + (((i / 8 : Nat) : Int)).toNat = i / 8 by omega]
        refine ⟨_, g0, ?_⟩
        conv => whnf
        refine ⟨by decide, ?_⟩
        conv => whnf
        rw [r8, show (7 : Int) - ((i % 8 : Nat) : Int) = ((7 - i % 8 : Nat) : Int) by omega, i64n _ (by omega)]
        refine ⟨by omega, ?_⟩
        conv => whnf
        rw [m8, c0]
        refine ⟨by omega, by omega, ?_⟩
        conv => whnf
        rw [show 0 + (((i / 8 : Nat) : Int)).toNat = i / 8 by omega]
        refine ⟨Nat.one_pos, _, g0, Nat.le_refl 1, ?_⟩
        conv => whnf
        rw [show (i : Int) + 1 = ((i + 1 : Nat) : Int) by omega, i64n _ (by omega)]
        exact hih
  have h0 := go n 0 (by omega) _ rfl
  rw [firstK_zero] at h0
  exact h0
end Go.Proofs.YtmfilaagpobmbaaGreatDoor
