/- A part of the proof of a seat of parts: E5, E6, E7. -/
import Derived.Test.YtmfilaagpobmbaaGreatDoorE3
import Derived.Test.YtmfilaagpobmbaaGreatDoorS3
set_option linter.all false
namespace Go.Proofs.YtmfilaagpobmbaaGreatDoor
open Go Go.Abs
set_option maxRecDepth 100000 in
theorem c_gatherS : ∀ (t : T) (_ : t.good) (m : List Pr) (n : Nat) (L : List (List IV)) (_ : L = pl m) (_ : n = m.length) (_ : m.length + t.pairs.length < 100000) (K : AV → List Blk → Prop)
    (_ : ∀ n' L', L' = pl (m ++ t.pairs) → n' = (m ++ t.pairs).length → K (.one (.sl 0 0 n')) [.vec 2 L' true]), SP 95 [.i t.iv, .one (.sl 0 0 n)] [.vec 2 L true] K := by
  intro t
  induction t with
  | nil =>
    intro ht m n L hE hn hb K hk
    have hk := hk n L (by simpa [T.pairs] using hE) (by simpa [T.pairs] using hn)
    have en : T.nil.iv = .nilp := rfl
    rw [en]
    refine mk {res := false, inc := 1, pl := [29, 33], hc := [35, 36]} (fn := Tryz.f95) Tryz.func95 (by kernel_rfl) (by kernel_rfl) (Nat.le_of_ble_eq_true (Eq.refl true)) fun S hS => ?_
    conv => whnf
    exact hk
  | leaf k v =>
    intro ht m n L hE hn hb K hk
    have hl : L.length = m.length := by rw [hE, pl_len]
    simp only [T.pairs, List.length_cons, List.length_nil] at hb hk
    rw [T.iv_leaf]
    generalize (T.leaf k v).hash = hs
    refine mk {res := false, inc := 1, pl := [29, 33], hc := [35, 36]} (fn := Tryz.f95) Tryz.func95 (by kernel_rfl) (by kernel_rfl) (Nat.le_of_ble_eq_true (Eq.refl true)) fun S hS => ?_
    conv => whnf
    refine ⟨fun e he => (by
      cases he with
      | head => rfl
      | tail _ h => cases h), by omega, by show (L.length + 1) * 32 ≤ 17592186044416; omega, ?_⟩
    conv => whnf
    exact hk _ _ (by rw [hE]; exact pl_app m [(k, v)]) (by show n + 1 = _; simp [hn])
  | fork a k z o iz io =>
    intro ht m n L hE hn hb K hk
    simp only [T.pairs, List.length_append] at hb
    rw [T.iv_fork]
    generalize (T.fork a k z o).hash = hs
    have iz := iz ht.2.2.2.1 m n L hE hn (by omega)
    have io := io ht.2.2.2.2.1 (m ++ z.pairs) _ _ rfl rfl (by simp; omega)
    refine mk {res := false, inc := 1, pl := [29, 33], hc := [35, 36]} (fn := Tryz.f95) Tryz.func95 (by kernel_rfl) (by kernel_rfl) (Nat.le_of_ble_eq_true (Eq.refl true)) fun S hS => ?_
    conv => whnf
    refine ⟨.one (.sl 0 0 (m ++ z.pairs).length), [.vec 2 (pl (m ++ z.pairs)) true], ?_, ?_⟩
    · conv => whnf
      refine hS _ _ _ _ <| iz _ fun n' E' hE' hn' => ?_
      rw [hE', hn']
      exact ⟨rfl, rfl⟩
    conv => whnf
    refine ⟨.one (.sl 0 0 (m ++ z.pairs ++ o.pairs).length), [.vec 2 (pl (m ++ z.pairs ++ o.pairs)) true], ?_, ?_⟩
    · conv => whnf
      refine hS _ _ _ _ <| io _ fun n' E' hE' hn' => ?_
      rw [hE', hn']
      exact ⟨rfl, rfl⟩
    conv => whnf
    exact hk _ _ (by simp [T.pairs]) (by simp [T.pairs])
set_option maxRecDepth 100000 in
theorem c_gather0 : ∀ (t : T) (_ : t.good) (_ : t ≠ .nil) (_ : t.pairs.length < 100000) (K : AV → List Blk → Prop)
    (_ : ∀ n' L', L' = pl t.pairs → n' = t.pairs.length → K (.one (.sl 0 0 n')) [.vec 2 L' true]), SP 95 [.i t.iv, .one .nils] [] K := by
  intro t
  induction t with
  | nil => intro ht hn; exact absurd rfl hn
  | leaf k v =>
    intro ht hn hb K hk
    rw [T.iv_leaf]
    generalize (T.leaf k v).hash = hs
    refine mk {res := false, pl := [29, 33], hc := [35, 36]} (fn := Tryz.f95) Tryz.func95 (by kernel_rfl) (by kernel_rfl) (Nat.le_of_ble_eq_true (Eq.refl true)) fun S hS => ?_
    conv => whnf
    refine ⟨fun e he => (by
      cases he with
      | head => rfl
      | tail _ h => cases h), Nat.le_of_ble_eq_true rfl, ?_⟩
    conv => whnf
    exact hk _ _ rfl rfl
  | fork a k z o iz io =>
    intro ht hn hb K hk
    simp only [T.pairs, List.length_append] at hb
    rw [T.iv_fork]
    generalize (T.fork a k z o).hash = hs
    have iz := iz ht.2.2.2.1 ht.2.1 (by omega)
    have io := c_gatherS o ht.2.2.2.2.1 z.pairs _ _ rfl rfl (by omega)
    refine mk {res := false, pl := [29, 33], hc := [35, 36]} (fn := Tryz.f95) Tryz.func95 (by kernel_rfl) (by kernel_rfl) (Nat.le_of_ble_eq_true (Eq.refl true)) fun S hS => ?_
    conv => whnf
    refine ⟨.one (.sl 0 0 z.pairs.length), [.vec 2 (pl z.pairs) true], ?_, ?_⟩
    · conv => whnf
      refine hS _ _ _ _ <| iz _ fun n' E' hE' hn' => ?_
      rw [hE', hn']
      exact ⟨rfl, rfl⟩
    conv => whnf
    refine ⟨.one (.sl 0 0 (z.pairs ++ o.pairs).length), [.vec 2 (pl (z.pairs ++ o.pairs)) true], ?_, ?_⟩
    · conv => whnf
      refine hS _ _ _ _ <| io _ fun n' E' hE' hn' => ?_
      rw [hE', hn']
      exact ⟨rfl, rfl⟩
    conv => whnf
    exact hk _ _ rfl rfl
set_option maxRecDepth 100000 in
theorem c_gatherN (K : AV → List Blk → Prop) (hk : K (.one .nils) []) : SP 95 [.i .nilp, .one .nils] [] K := by
  refine mk {res := false, pl := [29, 33], hc := [35, 36]} (fn := Tryz.f95) Tryz.func95 (by kernel_rfl) (by kernel_rfl) (Nat.le_of_ble_eq_true (Eq.refl true)) fun S hS => ?_
  conv => whnf
  exact hk
end Go.Proofs.YtmfilaagpobmbaaGreatDoor

namespace Go.Proofs.YtmfilaagpobmbaaGreatDoor
open Go Go.Abs
set_option maxRecDepth 100000 in
theorem c_SameT (l : List Pr) (hl : l.length < 1000000) (K : AV → List Blk → Prop) (hk : K (.i (.bool true)) []) : SP 19 [.i (.lst (pl l)), .i (.lst (pl l))] [] K := by
  have hpl := pl_len l
  have hpg := pl_get l
  generalize pl l = L at hpl hpg ⊢
  refine mk {keep := [(4, [0,1,5])]} (fn := Tryz.f19) Tryz.func19 (by kernel_rfl) (by kernel_rfl) (Nat.le_of_ble_eq_true (Eq.refl true)) fun S hS => ?_
  conv => whnf
  rw [show ((L.length : Int) != (L.length : Int)) = false by simp]
  conv => whnf
  intro X hX
  have go : ∀ (d i : Nat), i + d = l.length → frK (kfr 26 [(0, .i (.lst L)), (1, .i (.lst L)), (5, .i (.int .i64 (i : Int)))] []) X := by
    intro d
    induction d with
    | zero =>
      intro i hi
      conv => whnf
      apply hX
      conv => whnf
      rw [decide_eq_false (show ¬ ((i : Int) < (L.length : Int)) by omega)]
      conv => whnf
      exact hk
    | succ d ih =>
      intro i hi
      have hi' : i < l.length := by omega
      have hg := hpg i l[i] (List.getElem?_eq_getElem hi')
      conv => whnf
      apply hX
      conv => whnf
      rw [decide_eq_true (show (i : Int) < (L.length : Int) by omega)]
      conv => whnf
      refine ⟨_, by omega, hg, rfl, ?_⟩
      conv => whnf
      refine ⟨_, by omega, hg, rfl, ?_⟩
      conv => whnf
      rw [beq_ba, beq_ba, decide_eq_true rfl, decide_eq_true rfl]
      conv => whnf
      rw [show (i : Int) + 1 = ((i + 1 : Nat) : Int) by omega, i64n _ (by omega)]
      exact ih (i + 1) (by omega)
  exact go l.length 0 (by omega)
set_option maxRecDepth 100000 in
theorem c_SameF (l m : List Pr) (hl : l.length < 1000000) (hne : l ≠ m) (K : AV → List Blk → Prop) (hk : K (.i (.bool false)) []) : SP 19 [.i (.lst (pl l)), .i (.lst (pl m))] [] K := by
  have hpl := pl_len l
  have hpg := pl_get l
  have hpl2 := pl_len m
  have hpg2 := pl_get m
  generalize pl l = L at hpl hpg ⊢
  generalize pl m = M at hpl2 hpg2 ⊢
  refine mk {keep := [(4, [0,1,5])]} (fn := Tryz.f19) Tryz.func19 (by kernel_rfl) (by kernel_rfl) (Nat.le_of_ble_eq_true (Eq.refl true)) fun S hS => ?_
  conv => whnf
  by_cases hlen : l.length = m.length
  · rw [show ((L.length : Int) != (M.length : Int)) = false by simp; omega]
    conv => whnf
    intro X hX
    have go : ∀ (d i : Nat), i + d = l.length → l.drop i ≠ m.drop i → frK (kfr 26 [(0, .i (.lst L)), (1, .i (.lst M)), (5, .i (.int .i64 (i : Int)))] []) X := by
      intro d
      induction d with
      | zero =>
        intro i hi hd
        rw [List.drop_eq_nil_of_le (by omega), List.drop_eq_nil_of_le (by omega)] at hd
        exact absurd rfl hd
      | succ d ih =>
        intro i hi hd
        have hi' : i < l.length := by omega
        have hi2 : i < m.length := by omega
        have hg := hpg i l[i] (List.getElem?_eq_getElem hi')
        have hg2 := hpg2 i m[i] (List.getElem?_eq_getElem hi2)
        rw [List.drop_eq_getElem_cons hi', List.drop_eq_getElem_cons hi2] at hd
        conv => whnf
        apply hX
        conv => whnf
        rw [decide_eq_true (show (i : Int) < (L.length : Int) by omega)]
        conv => whnf
        refine ⟨_, by omega, hg, rfl, ?_⟩
        conv => whnf
        refine ⟨_, by omega, hg2, rfl, ?_⟩
        conv => whnf
        rw [beq_ba, beq_ba]
        by_cases e1 : l[i].1 = m[i].1
        · rw [decide_eq_true e1]
          by_cases e2 : l[i].2 = m[i].2
          · rw [decide_eq_true e2]
            conv => whnf
            rw [show (i : Int) + 1 = ((i + 1 : Nat) : Int) by omega, i64n _ (by omega)]
            refine ih (i + 1) (by omega) fun e => hd ?_
            rw [e, Prod.ext e1 e2]
          · rw [decide_eq_false e2]
            conv => whnf
            exact hk
        · rw [decide_eq_false e1]
          conv => whnf
          exact hk
    exact go l.length 0 (by omega) hne
  · rw [show ((L.length : Int) != (M.length : Int)) = true by simp; omega]
    conv => whnf
    exact hk
end Go.Proofs.YtmfilaagpobmbaaGreatDoor

namespace Go.Proofs.YtmfilaagpobmbaaGreatDoor
open Go Go.Abs
set_option maxRecDepth 100000 in
theorem c_rBit (k : ByteArray) (i : Nat) (hk32 : k.size = 32) (hi : i < 256) (K : AV → List Blk → Prop) (hk : K (.i (.int .i64 ((bit k i).toNat : Int))) []) : SP 49 [.i (.str k), .i (.int .i64 (i : Int))] [] K := by
  refine mk {} (fn := Tryz.f49) Tryz.func49 (by kernel_rfl) (by kernel_rfl) (Nat.le_of_ble_eq_true (Eq.refl true)) fun S hS => ?_
  conv => whnf
  refine ⟨by decide, ?_⟩
  conv => whnf
  rw [show (8 : Int) = ((8 : Nat) : Int) from rfl, tdivN i 8 (by omega)]
  refine ⟨by omega, by omega, ?_⟩
  conv => whnf
  refine ⟨by decide, ?_⟩
  conv => whnf
  rw [tmodN, show (7 : Int) - ((i % 8 : Nat) : Int) = ((7 - i % 8 : Nat) : Int) by omega, i64n _ (by omega)]
  refine ⟨by omega, ?_⟩
  conv => whnf
  rw [sb_byteN, show (((i / 8 : Nat) : Int)).toNat = i / 8 from rfl]
  have e3 : min (((7 - i % 8 : Nat) : Int).toNat) IntKind.u8.bits = 7 - i % 8 := by simp only [IntKind.bits]; omega
  have e4 : ((byteN k (i / 8) : Int)).fdiv (2 ^ (7 - i % 8)) = ((byteN k (i / 8) / 2 ^ (7 - i % 8) : Nat) : Int) := by
    rw [Int.fdiv_eq_ediv_of_nonneg _ (Int.pow_nonneg (by omega))]; simp
  rw [e3, e4]
  refine (congrArg (fun n : Int => K (.i (.int .i64 n)) []) ?_ : _ = _).mpr hk
  unfold bit
  have hb := byteN_lt k (i / 8)
  rw [Nat.testBit_eq_decide_div_mod_eq]
  have hq : byteN k (i / 8) / 2 ^ (7 - i % 8) < 256 := Nat.lt_of_le_of_lt (Nat.div_le_self _ _) hb
  revert hq
  generalize byteN k (i / 8) / 2 ^ (7 - i % 8) = q
  intro hq
  revert q
  decide +kernel
theorem bit_ne (a b : Bool) : (((a.toNat : Nat) : Int) != ((b.toNat : Nat) : Int)) = (a != b) := by cases a <;> cases b <;> rfl
set_option maxRecDepth 100000 in
theorem c_Has (k p : ByteArray) (n : Nat) (hk32 : k.size = 32) (hp32 : p.size = 32) (hn : n ≤ 256) (K : AV → List Blk → Prop) (hk : K (.i (.bool (hasB n k p))) []) : SP 57 [.i (.str k), .i (.str p), .i (.int .i64 (n : Int))] [] K := by
  refine mk {keep := [(2, [0,1,2,7])]} (fn := Tryz.f57) Tryz.func57 (by kernel_rfl) (by kernel_rfl) (Nat.le_of_ble_eq_true (Eq.refl true)) fun S hS => ?_
  conv => whnf
  intro X hX
  have go : ∀ (d i : Nat), i + d = n → agree i k p → frK (kfr 20 [(0, .i (.str k)), (1, .i (.str p)), (2, .i (.int .i64 (n : Int))), (7, .i (.int .i64 (i : Int)))] []) X := by
    intro d
    induction d with
    | zero =>
      intro i hi ha
      obtain rfl : i = n := hi
      conv => whnf
      apply hX
      conv => whnf
      rw [decide_eq_false (show ¬ ((i : Int) < (i : Int)) by omega)]
      conv => whnf
      rw [hasB_iff.2 ha] at hk
      exact hk
    | succ d ih =>
      intro i hi ha
      conv => whnf
      apply hX
      conv => whnf
      rw [decide_eq_true (show (i : Int) < (n : Int) by omega)]
      conv => whnf
      refine hS _ _ _ _ <| c_rBit k i hk32 (by omega) _ ?_
      conv => whnf
      refine hS _ _ _ _ <| c_rBit p i hp32 (by omega) _ ?_
      conv => whnf
      rw [bit_ne]
      by_cases e : bit k i = bit p i
      · rw [show (bit k i != bit p i) = false by simp [e]]
        conv => whnf
        rw [show (i : Int) + 1 = ((i + 1 : Nat) : Int) by omega, i64n _ (by omega)]
        exact ih (i + 1) (by omega) fun j hj => if c : j < i then ha j c else by rw [show j = i by omega]; exact e
      · rw [show (bit k i != bit p i) = true by simpa using e]
        conv => whnf
        have : hasB n k p = false := by
          cases hh : hasB n k p with
          | false => rfl
          | true => exact absurd (hasB_iff.1 hh i (by omega)) e
        rw [this] at hk
        exact hk
  exact go n 0 (by omega) (fun j hj => absurd hj (by omega))
theorem filt_yes {f : Pr → Bool} {p : Pr} (l : List Pr) (h : f p = true) : (p :: l).filter f = p :: l.filter f := by simp [h]
theorem filt_no {f : Pr → Bool} {p : Pr} (l : List Pr) (h : f p = false) : (p :: l).filter f = l.filter f := by simp [h]
set_option maxRecDepth 100000 in
theorem c_rUnder (l : List Pr) (hl : l.length < 1000000) (hs : ∀ p ∈ l, p.1.size = 32) (key : ByteArray) (hkey : key.size = 32) (n : Nat) (hn : n ≤ 256) (K : AV → List Blk → Prop) (hk : ∀ L, L = pl (l.filter fun p => hasB n p.1 key) → K (.i (.lst L)) []) : SP 26 [.i (.lst (pl l)), .i (.str key), .i (.int .i64 (n : Int))] [] K := by
  have hks : ((key.size : Int) != 32) = false := by rw [hkey]; rfl
  have hpl := pl_len l
  have hpg := pl_get l
  generalize pl l = L at hpl hpg ⊢
  refine mk {keep := [(5, [0,1,2,7,8])]} (fn := Tryz.f26) Tryz.func26 (by kernel_rfl) (by kernel_rfl) (Nat.le_of_ble_eq_true (Eq.refl true)) fun S hS => ?_
  conv => whnf
  rw [hks]
  conv => whnf
  rw [decide_eq_false (show ¬ ((n : Int) < 0) by omega)]
  conv => whnf
  rw [decide_eq_false (show ¬ ((n : Int) > 256) by omega)]
  conv => whnf
  intro X hX
  have go : ∀ (d i : Nat), i + d = l.length → ∀ (m : List Pr) (o : AV) (H : List Blk), Out o H m → m.length ≤ i → m ++ (l.drop i).filter (fun p => hasB n p.1 key) = l.filter (fun p => hasB n p.1 key) → frK (kfr 42 [(0, .i (.lst L)), (1, .i (.str key)), (2, .i (.int .i64 (n : Int))), (7, o), (8, .i (.int .i64 (i : Int)))] H) X := by
    intro d
    induction d with
    | zero =>
      intro i hi m o H ho hm he
      rw [List.drop_eq_nil_of_le (by omega)] at he
      have he : m = l.filter (fun p => hasB n p.1 key) := by simpa using he
      rcases ho with ⟨rfl, rfl, rfl⟩ | ⟨rfl, rfl⟩
      · conv => whnf
        apply hX
        conv => whnf
        rw [decide_eq_false (show ¬ ((i : Int) < (L.length : Int)) by omega)]
        conv => whnf
        exact hk _ (by rw [← he]; rfl)
      · conv => whnf
        apply hX
        conv => whnf
        rw [decide_eq_false (show ¬ ((i : Int) < (L.length : Int)) by omega)]
        conv => whnf
        exact hk _ (by rw [← he]; simp)
    | succ d ih =>
      intro i hi m o H ho hm he
      have hi' : i < l.length := by omega
      have hg := hpg i l[i] (List.getElem?_eq_getElem hi')
      have hpm := pl_len m
      have h32 := hs l[i] (List.getElem_mem hi')
      rw [List.drop_eq_getElem_cons hi'] at he
      have ho' := ho
      rcases ho with ⟨rfl, rfl, hm0⟩ | ⟨rfl, rfl⟩
      all_goals
        conv => whnf
        apply hX
        conv => whnf
        rw [decide_eq_true (show (i : Int) < (L.length : Int) by omega)]
        conv => whnf
        refine ⟨_, by omega, hg, rfl, ?_⟩
        conv => whnf
        refine hS _ _ _ _ <| c_Has l[i].1 key n h32 hkey hn _ ?_
        conv => whnf
        cases e : hasB n l[i].1 key
        · conv => whnf
          rw [show (i : Int) + 1 = ((i + 1 : Nat) : Int) by omega, i64n _ (by omega)]
          exact ih (i + 1) (by omega) _ _ _ ho' (Nat.le_succ_of_le hm) (by rw [filt_no (f := fun p => hasB n p.1 key) _ e] at he; exact he)
        · conv => whnf
          refine ⟨_, by omega, hg, rfl, ?_⟩
          conv => whnf
          first
          | refine ⟨Nat.le_of_ble_eq_true rfl, ?_⟩
          | refine ⟨Nat.zero_add _, by show ((pl m).length + 1) * 32 ≤ 17592186044416; omega, ?_⟩
          conv => whnf
          rw [show (i : Int) + 1 = ((i + 1 : Nat) : Int) by omega, i64n _ (by omega)]
          refine ih (i + 1) (by omega) (m ++ [l[i]]) _ _ (Out.sl ?_ ?_) (by simp at hm ⊢; omega) (by rw [filt_yes (f := fun p => hasB n p.1 key) _ e] at he; simpa using he)
          · first | (subst hm0; rfl) | exact pl_app m [l[i]]
          · first | (subst hm0; rfl) | (show (pl m).length + 1 = _; rw [List.length_append, hpm]; rfl)
  exact go l.length 0 (by omega) [] _ _ (.inl ⟨rfl, rfl, rfl⟩) (by simp) rfl
set_option maxRecDepth 100000 in
theorem c_rUnderBad (w : IV) (key : ByteArray) (n : Int) (h : key.size ≠ 32 ∨ n < 0 ∨ 256 < n) (K : AV → List Blk → Prop) (hk : K (.i (.lst [])) []) : SP 26 [.i w, .i (.str key), .i (.int .i64 n)] [] K := by
  refine mk {keep := [(5, [0,1,2,7,8])]} (fn := Tryz.f26) Tryz.func26 (by kernel_rfl) (by kernel_rfl) (Nat.le_of_ble_eq_true (Eq.refl true)) fun S hS => ?_
  conv => whnf
  by_cases h1 : key.size = 32
  · rw [show ((key.size : Int) != 32) = false by rw [h1]; rfl]
    conv => whnf
    by_cases h2 : n < 0
    · rw [decide_eq_true (show n < 0 by omega)]
      conv => whnf
      exact hk
    · rw [decide_eq_false (show ¬ (n < 0) by omega)]
      conv => whnf
      rw [decide_eq_true (show n > 256 by omega)]
      conv => whnf
      exact hk
  · rw [show ((key.size : Int) != 32) = true by simp; omega]
    conv => whnf
    exact hk
end Go.Proofs.YtmfilaagpobmbaaGreatDoor
