/- A part of the proof of a seat of tries: E7. -/
import Derived.Test.YtkpmcdfmdfoheaaDoorE6
set_option linter.all false
namespace Go.Proofs.YtkpmcdfmdfoheaaDoor
open Go Go.Abs
set_option maxRecDepth 100000 in
theorem c_rBit (k : ByteArray) (i : Nat) (hk32 : k.size = 32) (hi : i < 256) (K : AV → List Blk → Prop) (hk : K (.i (.int .i64 ((bit k i).toNat : Int))) []) : SP 35 [.i (.str k), .i (.int .i64 (i : Int))] [] K := by
  refine mk {} (fn := Tryd.f35) Tryd.func35 (by kernel_rfl) (by kernel_rfl) (Nat.le_of_ble_eq_true (Eq.refl true)) fun S hS => ?_
  conv => whnf
  refine ⟨by decide, ?_⟩
  conv => whnf
  rw [show (8 : Int) = ((8 : Nat) : Int) from rfl, tdivN i 8 (by omega)]
  refine ⟨by omega, by omega, ?_⟩
  conv => whnf
  refine ⟨by decide, ?_⟩
  conv => whnf
  rw [tmodN, show (7 : Int) - ((i % 8 : Nat) : Int) = ((7 - i % 8 : Nat) : Int) by omega, i64n _ (by omega)]
  refine ⟨by omega, ?_⟩
  conv => whnf
  rw [sb_byteN, show (((i / 8 : Nat) : Int)).toNat = i / 8 from rfl]
  have e3 : min (((7 - i % 8 : Nat) : Int).toNat) IntKind.u8.bits = 7 - i % 8 := by simp only [IntKind.bits]; omega
  have e4 : ((byteN k (i / 8) : Int)).fdiv (2 ^ (7 - i % 8)) = ((byteN k (i / 8) / 2 ^ (7 - i % 8) : Nat) : Int) := by
    rw [Int.fdiv_eq_ediv_of_nonneg _ (Int.pow_nonneg (by omega))]; simp
  rw [e3, e4]
  refine (congrArg (fun n : Int => K (.i (.int .i64 n)) []) ?_ : _ = _).mpr hk
  unfold bit
  have hb := byteN_lt k (i / 8)
  rw [Nat.testBit_eq_decide_div_mod_eq]
  have hq : byteN k (i / 8) / 2 ^ (7 - i % 8) < 256 := Nat.lt_of_le_of_lt (Nat.div_le_self _ _) hb
  revert hq
  generalize byteN k (i / 8) / 2 ^ (7 - i % 8) = q
  intro hq
  revert q
  decide +kernel
theorem bit_ne (a b : Bool) : (((a.toNat : Nat) : Int) != ((b.toNat : Nat) : Int)) = (a != b) := by cases a <;> cases b <;> rfl
set_option maxRecDepth 100000 in
theorem c_Has (k p : ByteArray) (n : Nat) (hk32 : k.size = 32) (hp32 : p.size = 32) (hn : n ≤ 256) (K : AV → List Blk → Prop) (hk : K (.i (.bool (hasB n k p))) []) : SP 46 [.i (.str k), .i (.str p), .i (.int .i64 (n : Int))] [] K := by
  refine mk {keep := [(2, [0,1,2,7])]} (fn := Tryd.f46) Tryd.func46 (by kernel_rfl) (by kernel_rfl) (Nat.le_of_ble_eq_true (Eq.refl true)) fun S hS => ?_
  conv => whnf
  intro X hX
  have go : ∀ (d i : Nat), i + d = n → agree i k p → frK (kfr 20 [(0, .i (.str k)), (1, .i (.str p)), (2, .i (.int .i64 (n : Int))), (7, .i (.int .i64 (i : Int)))] []) X := by
    intro d
    induction d with
    | zero =>
      intro i hi ha
      obtain rfl : i = n := hi
      conv => whnf
      apply hX
      conv => whnf
      rw [decide_eq_false (show ¬ ((i : Int) < (i : Int)) by omega)]
      conv => whnf
      rw [hasB_iff.2 ha] at hk
      exact hk
    | succ d ih =>
      intro i hi ha
      conv => whnf
      apply hX
      conv => whnf
      rw [decide_eq_true (show (i : Int) < (n : Int) by omega)]
      conv => whnf
      refine hS _ _ _ _ <| c_rBit k i hk32 (by omega) _ ?_
      conv => whnf
      refine hS _ _ _ _ <| c_rBit p i hp32 (by omega) _ ?_
      conv => whnf
      rw [bit_ne]
      by_cases e : bit k i = bit p i
      · rw [show (bit k i != bit p i) = false by simp [e]]
        conv => whnf
        rw [show (i : Int) + 1 = ((i + 1 : Nat) : Int) by omega, i64n _ (by omega)]
        exact ih (i + 1) (by omega) fun j hj => if c : j < i then ha j c else by rw [show j = i by omega]; exact e
      · rw [show (bit k i != bit p i) = true by simpa using e]
        conv => whnf
        have : hasB n k p = false := by
          cases hh : hasB n k p with
          | false => rfl
          | true => exact absurd (hasB_iff.1 hh i (by omega)) e
        rw [this] at hk
        exact hk
  exact go n 0 (by omega) (fun j hj => absurd hj (by omega))
theorem filt_yes {f : Pr → Bool} {p : Pr} (l : List Pr) (h : f p = true) : (p :: l).filter f = p :: l.filter f := by simp [h]
theorem filt_no {f : Pr → Bool} {p : Pr} (l : List Pr) (h : f p = false) : (p :: l).filter f = l.filter f := by simp [h]
set_option maxRecDepth 100000 in
theorem c_rUnder (l : List Pr) (hl : l.length < 1000000) (hs : ∀ p ∈ l, p.1.size = 32) (key : ByteArray) (hkey : key.size = 32) (n : Nat) (hn : n ≤ 256) (K : AV → List Blk → Prop) (hk : ∀ L, L = pl (l.filter fun p => hasB n p.1 key) → K (.i (.lst L)) []) : SP 30 [.i (.lst (pl l)), .i (.str key), .i (.int .i64 (n : Int))] [] K := by
  have hks : ((key.size : Int) != 32) = false := by rw [hkey]; rfl
  have hpl := pl_len l
  have hpg := pl_get l
  generalize pl l = L at hpl hpg ⊢
  refine mk {keep := [(5, [0,1,2,7,8])]} (fn := Tryd.f30) Tryd.func30 (by kernel_rfl) (by kernel_rfl) (Nat.le_of_ble_eq_true (Eq.refl true)) fun S hS => ?_
  conv => whnf
  rw [hks]
  conv => whnf
  rw [decide_eq_false (show ¬ ((n : Int) < 0) by omega)]
  conv => whnf
  rw [decide_eq_false (show ¬ ((n : Int) > 256) by omega)]
  conv => whnf
  intro X hX
  have go : ∀ (d i : Nat), i + d = l.length → ∀ (m : List Pr) (o : AV) (H : List Blk), Out o H m → m.length ≤ i → m ++ (l.drop i).filter (fun p => hasB n p.1 key) = l.filter (fun p => hasB n p.1 key) → frK (kfr 42 [(0, .i (.lst L)), (1, .i (.str key)), (2, .i (.int .i64 (n : Int))), (7, o), (8, .i (.int .i64 (i : Int)))] H) X := by
    intro d
    induction d with
    | zero =>
      intro i hi m o H ho hm he
      rw [List.drop_eq_nil_of_le (by omega)] at he
      have he : m = l.filter (fun p => hasB n p.1 key) := by simpa using he
      rcases ho with ⟨rfl, rfl, rfl⟩ | ⟨rfl, rfl⟩
      · conv => whnf
        apply hX
        conv => whnf
        rw [decide_eq_false (show ¬ ((i : Int) < (L.length : Int)) by omega)]
        conv => whnf
        exact hk _ (by rw [← he]; rfl)
      · conv => whnf
        apply hX
        conv => whnf
        rw [decide_eq_false (show ¬ ((i : Int) < (L.length : Int)) by omega)]
        conv => whnf
        exact hk _ (by rw [← he]; simp)
    | succ d ih =>
      intro i hi m o H ho hm he
      have hi' : i < l.length := by omega
      have hg := hpg i l[i] (List.getElem?_eq_getElem hi')
      have hpm := pl_len m
      have h32 := hs l[i] (List.getElem_mem hi')
      rw [List.drop_eq_getElem_cons hi'] at he
      have ho' := ho
      rcases ho with ⟨rfl, rfl, hm0⟩ | ⟨rfl, rfl⟩
      all_goals
        conv => whnf
        apply hX
        conv => whnf
        rw [decide_eq_true (show (i : Int) < (L.length : Int) by omega)]
        conv => whnf
        refine ⟨_, by omega, hg, rfl, ?_⟩
        conv => whnf
        refine hS _ _ _ _ <| c_Has l[i].1 key n h32 hkey hn _ ?_
        conv => whnf
        cases e : hasB n l[i].1 key
        · conv => whnf
          rw [show (i : Int) + 1 = ((i + 1 : Nat) : Int) by omega, i64n _ (by omega)]
          exact ih (i + 1) (by omega) _ _ _ ho' (Nat.le_succ_of_le hm) (by rw [filt_no (f := fun p => hasB n p.1 key) _ e] at he; exact he)
        · conv => whnf
          refine ⟨_, by omega, hg, rfl, ?_⟩
          conv => whnf
          first
          | refine ⟨Nat.le_of_ble_eq_true rfl, ?_⟩
          | refine ⟨Nat.zero_add _, by show ((pl m).length + 1) * 32 ≤ 17592186044416; omega, ?_⟩
          conv => whnf
          rw [show (i : Int) + 1 = ((i + 1 : Nat) : Int) by omega, i64n _ (by omega)]
          refine ih (i + 1) (by omega) (m ++ [l[i]]) _ _ (Out.sl ?_ ?_) (by simp at hm ⊢; omega) (by rw [filt_yes (f := fun p => hasB n p.1 key) _ e] at he; simpa using he)
          · first | (subst hm0; rfl) | exact pl_app m [l[i]]
          · first | (subst hm0; rfl) | (show (pl m).length + 1 = _; rw [List.length_append, hpm]; rfl)
  exact go l.length 0 (by omega) [] _ _ (.inl ⟨rfl, rfl, rfl⟩) (by simp) rfl
set_option maxRecDepth 100000 in
theorem c_rUnderBad (w : IV) (key : ByteArray) (n : Int) (h : key.size ≠ 32 ∨ n < 0 ∨ 256 < n) (K : AV → List Blk → Prop) (hk : K (.i (.lst [])) []) : SP 30 [.i w, .i (.str key), .i (.int .i64 n)] [] K := by
  refine mk {keep := [(5, [0,1,2,7,8])]} (fn := Tryd.f30) Tryd.func30 (by kernel_rfl) (by kernel_rfl) (Nat.le_of_ble_eq_true (Eq.refl true)) fun S hS => ?_
  conv => whnf
  by_cases h1 : key.size = 32
  · rw [show ((key.size : Int) != 32) = false by rw [h1]; rfl]
    conv => whnf
    by_cases h2 : n < 0
    · rw [decide_eq_true (show n < 0 by omega)]
      conv => whnf
      exact hk
    · rw [decide_eq_false (show ¬ (n < 0) by omega)]
      conv => whnf
      rw [decide_eq_true (show n > 256 by omega)]
      conv => whnf
      exact hk
  · rw [show ((key.size : Int) != 32) = true by simp; omega]
    conv => whnf
    exact hk
end Go.Proofs.YtkpmcdfmdfoheaaDoor
