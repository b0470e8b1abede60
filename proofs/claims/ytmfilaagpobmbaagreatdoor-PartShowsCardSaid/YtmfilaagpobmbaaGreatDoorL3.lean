/- A part of the proof of a seat of parts: L3, L4. -/
import Derived.Test.YtmfilaagpobmbaaGreatDoorE10
import Derived.Test.YtmfilaagpobmbaaGreatDoorL1
import Derived.Test.YtmfilaagpobmbaaGreatDoorS5
set_option linter.all false
namespace Go.Proofs.YtmfilaagpobmbaaGreatDoor
open Go Go.Abs
theorem ne32 (w : ByteArray) (z : Int) (hz : z = 32) : (((w.size : Nat) : Int) != z) = decide (w.size ≠ 32) := by subst hz; by_cases h : w.size = 32 <;> simp [h]; omega
theorem eq32 (w : ByteArray) (z : Int) (hz : z = 32) : (((w.size : Nat) : Int) == z) = decide (w.size = 32) := by subst hz; by_cases h : w.size = 32 <;> simp [h]; omega
set_option maxRecDepth 100000 in
set_option maxHeartbeats 8000000 in
theorem c_sides (ks : List ByteArray) (us : List UP) (hk9 : ks.length < 1000000) (hu9 : us.length < 1000000) (a : Nat) (ha : a < 256) (k : ByteArray) (hk32 : k.size = 32) (K : AV → List Blk → Prop)
    (hk : ∀ b z o, z = sideB ks us a k false → o = sideB ks us a k true → K (.tup [.i (.lst [[.bool z], [.bool o]]), .i (.bool b)]) []) : SP 92 [.i (.lst (sv ks)), .i (.lst (uv us)), .i (.int .i64 (a : Int)), .i (.str k)] [] K := by
  have hsl := sv_len ks
  have hsg := sv_get ks
  have hul := uv_len us
  have hug := uv_get us
  generalize sv ks = SK at hsl hsg ⊢
  generalize uv us = SU at hul hug ⊢
  refine mk {cmp := true, keep := [(4, [0, 1, 2, 3, 10, 11, 12]), (10, [1, 2, 3, 10, 11, 13])]} (fn := Tryz.f92) Tryz.func92 (by kernel_rfl) (by kernel_rfl) (Nat.le_of_ble_eq_true (Eq.refl true)) fun S hS => ?_
  conv => whnf
  intro X hX
  have key1 : ∀ (c i : Nat), i + c = ks.length → ∀ (j : Int) (b z o : Bool), j = (i : Int) → z = (ks.take i).any (sK a k false) → o = (ks.take i).any (sK a k true) →
      frK (kfr 93 [(0, .i (.lst SK)), (1, .i (.lst SU)), (2, .i (.int .i64 (a : Int))), (3, .i (.str k)), (10, .one (.sl 0 0 2)), (11, .i (.bool b)), (12, .i (.int .i64 j))] [.vec 1 [[.bool z], [.bool o]] false]) X := by
    intro c
    induction c with
    | zero =>
      intro i hi j b z o hj hz ho
      subst hj
      rw [show i = ks.length by omega, List.take_length] at hz ho
      conv => whnf
      apply hX
      conv => whnf
      rw [decide_eq_false (show ¬ ((i : Int) < (SK.length : Int)) by omega)]
      conv => whnf
      intro X2 hX2
      have key2 : ∀ (c i : Nat), i + c = us.length → ∀ (j : Int) (b z' o' : Bool), j = (i : Int) → z' = (z || (us.take i).any (sU a k false)) → o' = (o || (us.take i).any (sU a k true)) →
          frK (kfr 93 [(1, .i (.lst SU)), (2, .i (.int .i64 (a : Int))), (3, .i (.str k)), (10, .one (.sl 0 0 2)), (11, .i (.bool b)), (13, .i (.int .i64 j))] [.vec 1 [[.bool z'], [.bool o']] false]) X2 := by
        intro c
        induction c with
        | zero =>
          intro i hi j b z' o' hj hz' ho'
          subst hj
          rw [show i = us.length by omega, List.take_length] at hz' ho'
          conv => whnf
          apply hX2
          conv => whnf
          rw [decide_eq_false (show ¬ ((i : Int) < (SU.length : Int)) by omega)]
          conv => whnf
          exact hk _ _ _ (by rw [hz', hz]; rfl) (by rw [ho', ho]; rfl)
        | succ c ih =>
          intro i hi j b z' o' hj hz' ho'
          subst hj
          obtain ⟨p, hp1⟩ : ∃ p, us[i]? = some p := ⟨us[i]'(by omega), List.getElem?_eq_getElem _⟩
          have ej : IntKind.i64.wrap ((i : Int) + 1) = ((i + 1 : Nat) : Int) := by rw [show (i : Int) + 1 = ((i + 1 : Nat) : Int) by omega, i64n _ (by omega)]
          have ih := fun b z2 o2 (h1 : z2 = (z' || sU a k false p)) (h2 : o2 = (o' || sU a k true p)) => ih (i + 1) (by omega) (IntKind.i64.wrap ((i : Int) + 1)) b z2 o2 ej (by rw [h1, hz', any_take _ _ _ _ hp1, Bool.or_assoc]) (by rw [h2, ho', any_take _ _ _ _ hp1, Bool.or_assoc])
          conv => whnf
          apply hX2
          conv => whnf
          rw [decide_eq_true (show (i : Int) < (SU.length : Int) by omega)]
          conv => whnf
          refine ⟨_, by omega, hug i p hp1, rfl, ?_⟩
          conv => whnf
          have skip : okU p = false → z' = (z' || sU a k false p) ∧ o' = (o' || sU a k true p) := by
            intro h; simp [sU, h]
          rw [ne32 _ _ rfl]
          by_cases g1 : p.1.size = 32
          case neg =>
            rw [decide_eq_true (show p.1.size ≠ 32 from g1)]
            conv => whnf
            obtain ⟨s1, s2⟩ := skip (by simp [okU, g1])
            exact ih _ _ _ s1 s2
          rw [decide_eq_false (show ¬ p.1.size ≠ 32 from fun h => h g1)]
          conv => whnf
          by_cases g2 : 0 ≤ p.2
          case neg =>
            rw [decide_eq_true (show p.2 < 0 by omega)]
            conv => whnf
            obtain ⟨s1, s2⟩ := skip (by simp [okU, g2])
            exact ih _ _ _ s1 s2
          rw [decide_eq_false (show ¬ (p.2 < 0) by omega)]
          conv => whnf
          by_cases g3 : p.2 ≤ 256
          case neg =>
            rw [decide_eq_true (show p.2 > 256 by omega)]
            conv => whnf
            obtain ⟨s1, s2⟩ := skip (by simp [okU, g3])
            exact ih _ _ _ s1 s2
          rw [decide_eq_false (show ¬ (p.2 > 256) by omega)]
          conv => whnf
          have hok : okU p = true := by simp [okU, g1, g2, g3]
          by_cases g4 : (a : Int) < p.2
          · rw [decide_eq_true (show (a : Int) < p.2 by omega)]
            conv => whnf
            have hs : ∀ s, sU a k s p = (hasB a p.1 k && (bit p.1 a == s)) := fun s => by simp [sU, hok, g4]
            rw [hs, hs] at ih
            refine hS _ _ _ _ <| c_Has p.1 k a g1 hk32 (by omega) _ ?_
            cases hh : hasB a p.1 k
            · conv => whnf
              exact ih _ _ _ (by simp [hh]) (by simp [hh])
            · conv => whnf
              refine hS _ _ _ _ <| c_rBit p.1 a g1 ha _ ?_
              conv => whnf
              cases hb : bit p.1 a
              · refine ⟨by decide, by decide, ?_⟩
                conv => whnf
                refine ⟨by decide, _, rfl, Nat.le_of_ble_eq_true rfl, ?_⟩
                conv => whnf
                exact ih _ _ _ (by simp [hh, hb]) (by simp [hh, hb])
              · refine ⟨by decide, by decide, ?_⟩
                conv => whnf
                refine ⟨by decide, _, rfl, Nat.le_of_ble_eq_true rfl, ?_⟩
                conv => whnf
                exact ih _ _ _ (by simp [hh, hb]) (by simp [hh, hb])
          · rw [decide_eq_false (show ¬ ((a : Int) < p.2) by omega)]
            conv => whnf
            have hs : ∀ s, sU a k s p = hasB p.2.toNat k p.1 := fun s => by simp [sU, hok, g4]
            rw [hs, hs] at ih
            have hp2 : p.2 = ((p.2.toNat : Nat) : Int) := by omega
            have hH := fun K hk => c_Has k p.1 p.2.toNat hk32 g1 (by omega) K hk
            rw [← hp2] at hH
            refine hS _ _ _ _ <| hH _ ?_
            cases hh : hasB p.2.toNat k p.1
            · conv => whnf
              exact ih _ _ _ (by simp [hh]) (by simp [hh])
            · conv => whnf
              exact ih _ _ _ (by simp [hh]) (by simp [hh])
      exact key2 us.length 0 (by omega) _ _ _ _ rfl (by simp) (by simp)
    | succ c ih =>
      intro i hi j b z o hj hz ho
      subst hj
      obtain ⟨x, hx1⟩ : ∃ x, ks[i]? = some x := ⟨ks[i]'(by omega), List.getElem?_eq_getElem _⟩
      have ej : IntKind.i64.wrap ((i : Int) + 1) = ((i + 1 : Nat) : Int) := by rw [show (i : Int) + 1 = ((i + 1 : Nat) : Int) by omega, i64n _ (by omega)]
      have ih := fun b z2 o2 (h1 : z2 = (z || sK a k false x)) (h2 : o2 = (o || sK a k true x)) => ih (i + 1) (by omega) (IntKind.i64.wrap ((i : Int) + 1)) b z2 o2 ej (by rw [h1, hz, any_take _ _ _ _ hx1]) (by rw [h2, ho, any_take _ _ _ _ hx1])
      conv => whnf
      apply hX
      conv => whnf
      rw [decide_eq_true (show (i : Int) < (SK.length : Int) by omega)]
      conv => whnf
      refine ⟨_, by omega, hsg i x hx1, rfl, ?_⟩
      conv => whnf
      rw [eq32 _ _ rfl]
      by_cases g1 : x.size = 32
      case neg =>
        rw [decide_eq_false g1]
        conv => whnf
        exact ih _ _ _ (by simp [sK, okK, g1]) (by simp [sK, okK, g1])
      rw [decide_eq_true g1]
      have hs : ∀ s, sK a k s x = (hasB a x k && (bit x a == s)) := fun s => by simp [sK, okK, g1]
      rw [hs, hs] at ih
      conv => whnf
      refine ⟨_, by omega, hsg i x hx1, rfl, ?_⟩
      conv => whnf
      refine hS _ _ _ _ <| c_Has x k a g1 hk32 (by omega) _ ?_
      cases hh : hasB a x k
      · conv => whnf
        exact ih _ _ _ (by simp [hh]) (by simp [hh])
      · conv => whnf
        refine ⟨_, by omega, hsg i x hx1, rfl, ?_⟩
        conv => whnf
        refine hS _ _ _ _ <| c_rBit x a g1 ha _ ?_
        conv => whnf
        cases hb : bit x a
        · refine ⟨by decide, by decide, ?_⟩
          conv => whnf
          refine ⟨by decide, _, rfl, Nat.le_of_ble_eq_true rfl, ?_⟩
          conv => whnf
          exact ih _ _ _ (by simp [hh, hb]) (by simp [hh, hb])
        · refine ⟨by decide, by decide, ?_⟩
          conv => whnf
          refine ⟨by decide, _, rfl, Nat.le_of_ble_eq_true rfl, ?_⟩
          conv => whnf
          exact ih _ _ _ (by simp [hh, hb]) (by simp [hh, hb])
  exact key1 ks.length 0 (by omega) _ _ _ _ rfl rfl rfl
end Go.Proofs.YtmfilaagpobmbaaGreatDoor

namespace Go.Proofs.YtmfilaagpobmbaaGreatDoor
open Go Go.Abs
set_option maxRecDepth 100000 in
set_option maxHeartbeats 8000000 in
theorem c_rshow (ks : List ByteArray) (us : List UP) (hk9 : ks.length < 1000000) (hu9 : us.length < 1000000) : ∀ (t : T) (_ : t.good) (_ : t ≠ .nil) (_ : t.pairs.length ≤ 1000) (K : AV → List Blk → Prop) (_ : ∀ L, L = ivs (showR t ks us) → K (.i (.lst L)) []),
    SP 53 [.i (.lst (pl t.pairs)), .i (.lst (sv ks)), .i (.lst (uv us))] [] K := by
  intro t
  induction t with
  | nil => intro ht hn; exact absurd rfl hn
  | leaf k v =>
    intro ht hn hb K hk
    show SP _ [.i (.lst [[.str k, .str v]]), _, _] [] K
    refine mk {frz := [54, 96], keep := [(6, [0, 1, 2, 7, 8, 9]), (12, [1, 2, 10, 11, 13, 14])]} (fn := Tryz.f53) Tryz.func53 (by kernel_rfl) (by kernel_rfl) (Nat.le_of_ble_eq_true (Eq.refl true)) fun S hS => ?_
    conv => whnf
    refine ⟨_, by decide, rfl, rfl, ?_⟩
    conv => whnf
    refine ⟨.agg [.imm (.int .i64 1), .imm (.int .u64 0), .imm (.str k), .imm (.lst [])], hS _ _ _ _ <| c_rS k _ ⟨rfl, rfl⟩, rfl, ?_⟩
    conv => whnf
    refine ⟨_, by decide, rfl, rfl, ?_⟩
    conv => whnf
    refine ⟨.agg [.imm (.int .i64 1), .imm (.int .u64 0), .imm (.str v), .imm (.lst [])], hS _ _ _ _ <| c_rS v _ ⟨rfl, rfl⟩, rfl, ?_⟩
    conv => whnf
    refine ⟨aLst (ivs [.str k, .str v]), hS _ _ _ _ <| c_rLL (ivs [.str k, .str v]) _ ⟨rfl, rfl⟩, rfl, ?_⟩
    conv => whnf
    exact hk _ rfl
  | fork a k z o iz io =>
    intro ht hn hb K hk
    obtain ⟨p, q, e0, e1, hp, hq, hag, hne, hkk⟩ := fork_ends ht
    have hksz := T.ksize ht
    obtain ⟨h1, h2, h3, h4, h5, h6, h7, h8⟩ := ht
    simp only [T.pairs, List.length_append] at hb
    have ps := T.key_size h4 p hp
    have qs := T.key_size h5 q hq
    have iz := iz h4 h2 (by omega)
    have io := io h5 h3 (by omega)
    have rz := c_rRoot z h4 (by omega)
    have ro := c_rRoot o h5 (by omega)
    have lnz := showR_len z ks us h4 h2
    have lno := showR_len o ks us h5 h3
    have hpl := c_Place (z.pairs ++ o.pairs) p q a h1 (by rw [List.length_append]; omega) e0 e1 ps qs hag hne
    have hfi := c_rFirst p.1 a ps (by omega)
    rw [← hkk] at hfi
    have hsd := c_sides ks us hk9 hu9 a h1 k hksz
    have hg := pl_get (z.pairs ++ o.pairs)
    have hall := pl_all (z.pairs ++ o.pairs)
    have hlen := pl_len (z.pairs ++ o.pairs)
    have hlz : 0 < z.pairs.length := List.length_pos_iff.2 (T.pairs_ne h4 h2)
    have hlo : 0 < o.pairs.length := List.length_pos_iff.2 (T.pairs_ne h5 h3)
    have ez : ((pl (z.pairs ++ o.pairs)).take z.pairs.length).drop 0 = pl z.pairs := by rw [← pl_app, List.drop_zero]; exact List.take_left' (pl_len _)
    have eo : ((pl (z.pairs ++ o.pairs)).take (pl (z.pairs ++ o.pairs)).length).drop z.pairs.length = pl o.pairs := by rw [List.take_length, ← pl_app]; exact List.drop_left' (pl_len _)
    rw [showR] at hk
    show SP _ [.i (.lst (pl (z.pairs ++ o.pairs))), _, _] [] K
    generalize hL : pl (z.pairs ++ o.pairs) = L at hpl hg hall hlen ez eo ⊢
    rw [List.length_append] at hlen
    have bz : ∀ i, i < z.pairs.length → ∃ r : Pr, L[i]? = some [IV.str r.1, IV.str r.2] ∧ r.1.size = 32 ∧ bit r.1 a = false := fun i hi => by
      have hm : z.pairs[i] ∈ z.pairs := List.getElem_mem hi
      exact ⟨z.pairs[i], hg i _ (by rw [List.getElem?_append_left hi]; exact List.getElem?_eq_getElem hi), T.key_size h4 _ hm, h6 _ hm⟩
    have bo : ∃ r : Pr, L[z.pairs.length]? = some [IV.str r.1, IV.str r.2] ∧ r.1.size = 32 ∧ bit r.1 a = true := by
      have hm : o.pairs[0] ∈ o.pairs := List.getElem_mem hlo
      exact ⟨o.pairs[0], hg _ _ (by rw [List.getElem?_append_right (Nat.le_refl _), Nat.sub_self]; exact List.getElem?_eq_getElem hlo), T.key_size h5 _ hm, h7 _ hm⟩
    have g0 := hg _ _ e0
    clear hg e0 e1 hp hq h6 h7 h8 hkk hag hne
    have hlL : 2 ≤ L.length := by omega
    have i4z := ivs_all (showR z ks us)
    have i4o := ivs_all (showR o ks us)
    have ilz := ivs_len (showR z ks us)
    have ilo := ivs_len (showR o ks us)
    have lenpos : ((L.length : Int) == 1) = false := by rw [beq_eq_false_iff_ne]; omega
    generalize showR z ks us = sz at *
    generalize showR o ks us = so at *
    generalize z.hash = zh at *
    generalize o.hash = oh at *
    generalize pl z.pairs = PZ at *
    generalize pl o.pairs = PO at *
    generalize sideB ks us a k false = bz' at *
    generalize sideB ks us a k true = bo' at *
    refine mk {frz := [54, 96], keep := [(6, [0, 1, 2, 7, 8, 9]), (12, [1, 2, 10, 11, 13, 14])]} (fn := Tryz.f53) Tryz.func53 (by kernel_rfl) (by kernel_rfl) (Nat.le_of_ble_eq_true (Eq.refl true)) fun S hS => ?_
    conv => whnf
    rw [lenpos]
    conv => whnf
    refine hS _ _ _ _ <| hpl _ ?_
    conv => whnf
    refine ⟨_, by decide, g0, rfl, ?_⟩
    conv => whnf
    refine hS _ _ _ _ <| hfi _ fun r hr => ?_
    subst hr
    conv => whnf
    intro X hX
    have go : ∀ (d i : Nat), i + d = z.pairs.length → frK (kfr 99 [(0, .i (.lst L)), (1, .i (.lst (sv ks))), (2, .i (.lst (uv us))), (7, .i (.int .i64 (a : Int))), (8, .i (.str r)), (9, .i (.int .i64 (i : Int)))] []) X := by
      intro d
      induction d with
      | zero =>
        intro i hi
        obtain ⟨r', hr1, hr2, hr3⟩ := bo
        rw [show z.pairs.length = i by omega] at hr1 ez eo
        conv => whnf
        apply hX
        conv => whnf
        refine ⟨_, by omega, hr1, rfl, ?_⟩
        conv => whnf
        refine hS _ _ _ _ <| c_rBit r'.1 a hr2 h1 _ ?_
        conv => whnf
        rw [bit_zero, hr3]
        conv => whnf
        rw [u64n a (by omega)]
        refine hS _ _ _ _ <| c_rN a _ ?_
        conv => whnf
        refine hS _ _ _ _ <| c_rS _ _ ?_
        conv => whnf
        refine hS _ _ _ _ <| c_rLL (ivs [.num a, .str _]) _ ?_
        conv => whnf
        refine hS _ _ _ _ <| hsd _ fun b z2 o2 hz2 ho2 => ?_
        subst hz2 ho2
        conv => whnf
        refine ⟨hall, by decide, by omega, by omega, ?_⟩
        conv => whnf
        rw [show (L.take ((i : Int)).toNat).drop (Int.toNat 0) = PZ from ez]
        refine ⟨hall, by omega, by omega, by omega, ?_⟩
        conv => whnf
        rw [show (L.take ((L.length : Int)).toNat).drop ((i : Int)).toNat = PO from eo]
        intro X2 hX2
        have done : ∀ (acc3 : List Nd) (n3 : Nat) (L3 : List (List IV)), L3 = ivs acc3 → n3 = acc3.length → acc3 = Nd.lst [.num a, .str r] :: ((if z2 = true then sz else [.str zh]) ++ (if o2 = true then so else [.str oh])) → K (.i (.lst ((L3.drop 0).take n3))) [] := by
          intro acc3 n3 L3 h1 h2 h3
          refine hk _ ?_
          rw [List.drop_zero, h1, h2, ← ivs_len, List.take_length, h3]
        have step2 : ∀ (acc2 : List Nd) (n2 : Nat) (L2 : List (List IV)), L2 = ivs acc2 → n2 = acc2.length → acc2 = Nd.lst [.num a, .str r] :: (if z2 = true then sz else [.str zh]) →
            frK (kfr 99 [(1, .i (.lst (sv ks))), (2, .i (.lst (uv us))), (10, .one (.sl 0 0 n2)), (11, .i (.lst [[.bool z2], [.bool o2]])), (13, .i (.lst [[.lst PZ], [.lst PO]])), (14, .i (.int .i64 1))] [.vec 4 L2 true]) X2 := by
          intro acc2 n2 L2 hL2 hn2 hacc2
          have hl2 : L2.length = acc2.length := by rw [hL2, ivs_len]
          have hb2 : acc2.length ≤ 10000 := by rw [hacc2]; simp only [List.length_cons]; split <;> simp <;> omega
          conv => whnf
          apply hX2
          conv => whnf
          refine ⟨_, by decide, rfl, rfl, ?_⟩
          conv => whnf
          cases o2
          · conv => whnf
            refine ⟨_, by decide, rfl, rfl, ?_⟩
            conv => whnf
            refine hS _ _ _ _ <| ro _ ?_
            conv => whnf
            refine hS _ _ _ _ <| c_rS oh _ ?_
            conv => whnf
            refine ⟨one_all rfl, ?_⟩
            conv => whnf
            refine ⟨by omega, by show (L2.length + 1) * 56 ≤ 17592186044416; omega, ?_⟩
            conv => whnf
            apply hX2
            conv => whnf
            exact done (acc2 ++ [.str oh]) _ _ (by rw [hL2, ← ivs_app]; rfl) (by rw [hn2, List.length_append]; rfl) (by rw [hacc2]; simp)
          · conv => whnf
            refine ⟨_, by decide, rfl, rfl, ?_⟩
            conv => whnf
            refine hS _ _ _ _ <| io _ fun L' hL' => ?_
            subst hL'
            conv => whnf
            refine ⟨i4o, ?_⟩
            conv => whnf
            refine ⟨by omega, by show (L2.length + (ivs so).length) * 56 ≤ 17592186044416; omega, ?_⟩
            conv => whnf
            apply hX2
            conv => whnf
            exact done (acc2 ++ so) _ _ (by rw [hL2, ← ivs_app]) (by rw [hn2, List.length_append, ilo]) (by rw [hacc2]; simp)
        apply hX2
        conv => whnf
        refine ⟨_, by decide, rfl, rfl, ?_⟩
        conv => whnf
        cases z2
        · conv => whnf
          refine ⟨_, by decide, rfl, rfl, ?_⟩
          conv => whnf
          refine hS _ _ _ _ <| rz _ ?_
          conv => whnf
          refine hS _ _ _ _ <| c_rS zh _ ?_
          conv => whnf
          refine ⟨one_all rfl, ?_⟩
          conv => whnf
          refine ⟨rfl, by show (1 + 1) * 56 ≤ 17592186044416; decide, ?_⟩
          conv => whnf
          exact step2 [.lst [.num a, .str r], .str zh] 2 [[.int .i64 2, .int .u64 0, .str ⟨#[]⟩, .lst (ivs [.num a, .str r])], [.int .i64 1, .int .u64 0, .str zh, .lst []]] rfl rfl (by simp)
        · conv => whnf
          refine ⟨_, by decide, rfl, rfl, ?_⟩
          conv => whnf
          refine hS _ _ _ _ <| iz _ fun L' hL' => ?_
          subst hL'
          conv => whnf
          refine ⟨i4z, ?_⟩
          conv => whnf
          refine ⟨rfl, by show (1 + (ivs sz).length) * 56 ≤ 17592186044416; omega, ?_⟩
          conv => whnf
          exact step2 (.lst [.num a, .str r] :: sz) (1 + (ivs sz).length) ([[.int .i64 2, .int .u64 0, .str ⟨#[]⟩, .lst (ivs [.num a, .str r])]] ++ ivs sz) rfl (by rw [ilz, List.length_cons]; omega) (by simp)
      | succ d ih =>
        intro i hi
        obtain ⟨r', hr1, hr2, hr3⟩ := bz i (by omega)
        conv => whnf
        apply hX
        conv => whnf
        refine ⟨_, by omega, hr1, rfl, ?_⟩
        conv => whnf
        refine hS _ _ _ _ <| c_rBit r'.1 a hr2 h1 _ ?_
        conv => whnf
        rw [bit_zero, hr3]
        conv => whnf
        rw [show (i : Int) + 1 = ((i + 1 : Nat) : Int) by omega, i64n _ (by omega)]
        exact ih (i + 1) (by omega)
    exact go z.pairs.length 0 (by omega)
set_option maxRecDepth 100000 in
set_option maxHeartbeats 2000000 in
theorem c_rShow (t : T) (hg : t.good) (hp : t.pairs.length ≤ 1000) (ks : List ByteArray) (us : List UP) (hk9 : ks.length < 1000000) (hu9 : us.length < 1000000) (N : List Nd) (hN : N = showR t ks us) (hd : Nd.deepL N < 20) (hf : Nd.fineL N)
    (hs : (Nd.lst N).bytes.size ≤ 16777216) (K : AV → List Blk → Prop) (hk : ∀ s, s = (Nd.lst N).bytes → K (.tup [.i (.str s), .i (.bool true)]) []) : SP 22 [.i (.lst (pl t.pairs)), .i (.lst (sv ks)), .i (.lst (uv us))] [] K := by
  by_cases ht : t = .nil
  · subst ht
    have hW := fun K => c_rWrite [] (by decide) (by simp [Nd.deepL]) trivial (by rw [hN] at hs; exact hs) _ rfl K
    rw [hN] at hk
    show SP _ [.i (.lst []), _, _] [] K
    refine mk {} (fn := Tryz.f22) Tryz.func22 (by kernel_rfl) (by kernel_rfl) (Nat.le_of_ble_eq_true (Eq.refl true)) fun S hS => ?_
    conv => whnf
    refine hS _ _ _ _ <| c_rL0 _ ?_
    conv => whnf
    refine hS _ _ _ _ <| hW _ fun s hs => ?_
    conv => whnf
    exact hk s hs
  · have hlen := showR_len t ks us hg ht
    rw [← hN] at hlen
    have hsh := c_rshow ks us hk9 hu9 t hg ht hp
    rw [← hN] at hsh
    have hW := fun e he K => c_rWrite N (by omega) hd hf hs e he K
    have hlz : 0 < t.pairs.length := List.length_pos_iff.2 (T.pairs_ne hg ht)
    have hpl := pl_len t.pairs
    generalize pl t.pairs = P at *
    have lenpos : ((P.length : Int) == 0) = false := by rw [beq_eq_false_iff_ne]; omega
    refine mk {} (fn := Tryz.f22) Tryz.func22 (by kernel_rfl) (by kernel_rfl) (Nat.le_of_ble_eq_true (Eq.refl true)) fun S hS => ?_
    conv => whnf
    rw [lenpos]
    conv => whnf
    refine hS _ _ _ _ <| hsh _ fun L hL => ?_
    subst hL
    conv => whnf
    refine hS _ _ _ _ <| c_rLL (ivs N) _ ?_
    conv => whnf
    refine hS _ _ _ _ <| hW _ rfl _ fun s hs => ?_
    conv => whnf
    exact hk s hs
end Go.Proofs.YtmfilaagpobmbaaGreatDoor
