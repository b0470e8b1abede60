/- A part of the proof of a seat of tries: E9. -/
import Derived.Test.YtkpmcdfmdfoheaaDoorA5
import Derived.Test.YtkpmcdfmdfoheaaDoorE8
import Derived.Test.YtkpmcdfmdfoheaaDoorRootPure
set_option linter.all false
namespace Go.Proofs.YtkpmcdfmdfoheaaDoor
open Go Go.Abs
set_option maxRecDepth 100000 in
theorem c_Place (l : List Pr) (p q : Pr) (a : Nat) (ha : a < 256) (hl : l.length < 100000) (h0 : l[0]? = some p) (h1 : l[l.length - 1]? = some q) (hp : p.1.size = 32) (hq : q.1.size = 32) (hag : agree a p.1 q.1) (hne : bit p.1 a ≠ bit q.1 a) (K : AV → List Blk → Prop) (hk : K (.i (.int .i64 (a : Int))) []) : SP 34 [.i (.lst (pl l))] [] K := by
  have hpl := pl_len l
  have hg0 := pl_get l _ _ h0
  have hg1 := pl_get l _ _ h1
  have hpos : 0 < l.length := by
    cases l with
    | nil => simp at h0
    | cons => simp
  generalize pl l = L at hpl hg0 hg1 ⊢
  refine mk {keep := [(2, [0,3])]} (fn := Tryd.f34) Tryd.func34 (by kernel_rfl) (by kernel_rfl) (Nat.le_of_ble_eq_true (Eq.refl true)) fun S hS => ?_
  conv => whnf
  intro X hX
  have go : ∀ (d i : Nat), i + d = a → frK (kfr 25 [(0, .i (.lst L)), (3, .i (.int .i64 (i : Int)))] []) X := by
    intro d
    induction d with
    | zero =>
      intro i hi
      obtain rfl : i = a := hi
      conv => whnf
      apply hX
      conv => whnf
      rw [decide_eq_true (show (i : Int) < 256 by omega)]
      conv => whnf
      refine ⟨_, by decide, hg0, rfl, ?_⟩
      conv => whnf
      refine ⟨.i (.int .i64 ((bit p.1 i).toNat : Int)), hS _ _ _ _ <| c_rBit p.1 i hp ha _ ⟨rfl, rfl⟩, rfl, ?_⟩
      conv => whnf
      rw [show (L.length : Int) - 1 = ((l.length - 1 : Nat) : Int) by omega, i64n _ (by omega)]
      refine ⟨_, by omega, hg1, rfl, ?_⟩
      conv => whnf
      refine ⟨.i (.int .i64 ((bit q.1 i).toNat : Int)), hS _ _ _ _ <| c_rBit q.1 i hq ha _ ⟨rfl, rfl⟩, rfl, ?_⟩
      conv => whnf
      rw [bit_ne, show (bit p.1 i != bit q.1 i) = true by simpa using hne]
      conv => whnf
      exact hk
    | succ d ih =>
      intro i hi
      conv => whnf
      apply hX
      conv => whnf
      rw [decide_eq_true (show (i : Int) < 256 by omega)]
      conv => whnf
      refine ⟨_, by decide, hg0, rfl, ?_⟩
      conv => whnf
      refine ⟨.i (.int .i64 ((bit p.1 i).toNat : Int)), hS _ _ _ _ <| c_rBit p.1 i hp (by omega) _ ⟨rfl, rfl⟩, rfl, ?_⟩
      conv => whnf
      rw [show (L.length : Int) - 1 = ((l.length - 1 : Nat) : Int) by omega, i64n _ (by omega)]
      refine ⟨_, by omega, hg1, rfl, ?_⟩
      conv => whnf
      refine ⟨.i (.int .i64 ((bit q.1 i).toNat : Int)), hS _ _ _ _ <| c_rBit q.1 i hq (by omega) _ ⟨rfl, rfl⟩, rfl, ?_⟩
      conv => whnf
      rw [bit_ne, show (bit p.1 i != bit q.1 i) = false by simpa using hag i (by omega)]
      conv => whnf
      rw [show (i : Int) + 1 = ((i + 1 : Nat) : Int) by omega, i64n _ (by omega)]
      exact ih (i + 1) (by omega)
  exact go a 0 (by omega)
theorem bit_one (b : Bool) : (((b.toNat : Nat) : Int) == 1) = b := by cases b <;> rfl
theorem bit_zero (b : Bool) : (((b.toNat : Nat) : Int) == 0) = !b := by cases b <;> rfl
set_option maxRecDepth 100000 in
theorem c_rFirst (k : ByteArray) (n : Nat) (hk32 : k.size = 32) (hn : n ≤ 256) (K : AV → List Blk → Prop) (hk : ∀ r, r = firstK k n → K (.i (.str r)) []) : SP 36 [.i (.str k), .i (.int .i64 (n : Int))] [] K := by
  refine mk {keep := [(3, [0,1,5,6])]} (fn := Tryd.f36) Tryd.func36 (by kernel_rfl) (by kernel_rfl) (Nat.le_of_ble_eq_true (Eq.refl true)) fun S hS => ?_
  conv => whnf
  refine ⟨by decide, by decide, by decide, ?_⟩
  conv => whnf
  intro X hX
  have go : ∀ (d i : Nat), i + d = n → ∀ r, r = firstK k i → frK (kfr 33 [(0, .i (.str k)), (1, .i (.int .i64 (n : Int))), (5, .one (.sl 0 0 32)), (6, .i (.int .i64 (i : Int)))] [.vec 1 (bytesIV r) false]) X := by
    intro d
    induction d with
    | zero =>
      intro i hi r hr
      obtain rfl : i = n := hi
      have lr : (bytesIV r).length = 32 := by rw [hr, eb_bytes, firstK_size]; simp [eb]
      conv => whnf
      apply hX
      conv => whnf
      rw [decide_eq_false (show ¬ ((i : Int) < (i : Int)) by omega)]
      conv => whnf
      refine ⟨r, by rw [List.drop_zero]; exact List.take_of_length_le (by omega), ?_⟩
      conv => whnf
      exact hk r hr
    | succ d ih =>
      intro i hi r hr
      have hi' : i < 256 := by omega
      have hnx := firstK_next (k := k) hi'
      have hrs : r.size = 32 := by rw [hr]; exact firstK_size _ _
      conv => whnf
      apply hX
      conv => whnf
      rw [decide_eq_true (show (i : Int) < (n : Int) by omega)]
      conv => whnf
      refine hS _ _ _ _ <| c_rBit k i hk32 hi' _ ?_
      conv => whnf
      rw [bit_one]
      cases hb : bit k i
      · rw [hb, if_neg (by decide)] at hnx
        conv => whnf
        rw [show (i : Int) + 1 = ((i + 1 : Nat) : Int) by omega, i64n _ (by omega)]
        exact ih (i + 1) (by omega) r (by rw [hnx]; exact hr)
      · rw [hb, if_pos rfl, ← hr] at hnx
        have x0 := byteN_lt r (i / 8)
        have e0 : (bytesIV r).set (i / 8) [IV.int .u8 (setN (byteN r (i / 8)) (i % 8) : Int)] = bytesIV (setK' r i) := setB_iv _ _ _ (setN_lt _ x0 _ (by omega))
        have c0 := setN_iv' (byteN r (i / 8)) x0 (i % 8) (by omega)
        have g0 : (bytesIV r)[i / 8]? = some [IV.int .u8 (byteN r (i / 8) : Int)] := by rw [eb_bytes, hrs]; exact eb_get _ _ _ (by rw [List.getElem?_map, List.getElem?_range (by omega)]; rfl)
        have q8 : IntKind.i64.wrap ((i : Int).tdiv 8) = ((i / 8 : Nat) : Int) := tdivN i 8 (by omega)
        have r8 : (i : Int).tmod 8 = ((i % 8 : Nat) : Int) := tmodN i 8
        have m8 : min (((7 - i % 8 : Nat) : Int).toNat) IntKind.u8.bits = 7 - i % 8 := by simp only [IntKind.bits]; omega
        have hih := ih (i + 1) (by omega) (setK' r i) hnx.symm
        rw [← e0] at hih
        generalize setN (byteN r (i / 8)) (i % 8) = v at *
        generalize byteN r (i / 8) = bz at *
        conv => whnf
        refine ⟨by decide, ?_⟩
        conv => whnf
        refine ⟨by decide, ?_⟩
        conv => whnf
        rw [q8]
        refine ⟨by omega, by omega, ?_⟩
        conv => whnf
        rw [show 0 + (((i / 8 : Nat) : Int)).toNat = i / 8 by omega]
        refine ⟨_, g0, ?_⟩
        conv => whnf
        refine ⟨by decide, ?_⟩
        conv => whnf
        rw [r8, show (7 : Int) - ((i % 8 : Nat) : Int) = ((7 - i % 8 : Nat) : Int) by omega, i64n _ (by omega)]
        refine ⟨by omega, ?_⟩
        conv => whnf
        rw [m8, c0]
        refine ⟨by omega, by omega, ?_⟩
        conv => whnf
        rw [show 0 + (((i / 8 : Nat) : Int)).toNat = i / 8 by omega]
        refine ⟨Nat.one_pos, _, g0, Nat.le_refl 1, ?_⟩
        conv => whnf
        rw [show (i : Int) + 1 = ((i + 1 : Nat) : Int) by omega, i64n _ (by omega)]
        exact hih
  have h0 := go n 0 (by omega) _ rfl
  rw [firstK_zero] at h0
  exact h0
end Go.Proofs.YtkpmcdfmdfoheaaDoor
