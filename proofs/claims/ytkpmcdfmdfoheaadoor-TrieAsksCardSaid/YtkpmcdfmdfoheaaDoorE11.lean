/- A part of the proof of a seat of tries: E11. -/
import Derived.Test.YtkpmcdfmdfoheaaDoorE10
set_option linter.all false
namespace Go.Proofs.YtkpmcdfmdfoheaaDoor
open Go Go.Abs
theorem zero32_iv : List.replicate 32 [IV.int .u8 0] = bytesIV zero32 := rfl
set_option maxRecDepth 100000 in
theorem c_rRootN (K : AV → List Blk → Prop) (hk : K (.i (.str zero32)) []) : SP 25 [.i (.lst [])] [] K := by
  have hz := zero32_iv
  generalize zero32 = z at hz hk
  refine mk {} (fn := Tryd.f25) Tryd.func25 (by kernel_rfl) (by kernel_rfl) (Nat.le_of_ble_eq_true (Eq.refl true)) fun S hS => ?_
  conv => whnf
  refine hS _ _ _ _ <| c_TextsN _ ?_
  conv => whnf
  refine ⟨by decide, by decide, by decide, ?_⟩
  conv => whnf
  refine ⟨z, hz, ?_⟩
  conv => whnf
  exact hk
set_option maxRecDepth 100000 in
theorem c_rRootNN (K : AV → List Blk → Prop) (hk : K (.i (.str zero32)) []) : SP 25 [.one .nils] [] K := by
  have hz := zero32_iv
  generalize zero32 = z at hz hk
  refine mk {} (fn := Tryd.f25) Tryd.func25 (by kernel_rfl) (by kernel_rfl) (Nat.le_of_ble_eq_true (Eq.refl true)) fun S hS => ?_
  conv => whnf
  refine hS _ _ _ _ <| c_TextsNN _ ?_
  conv => whnf
  refine ⟨by decide, by decide, by decide, ?_⟩
  conv => whnf
  refine ⟨z, hz, ?_⟩
  conv => whnf
  exact hk
set_option maxRecDepth 100000 in
theorem c_rRoot (t : T) (ht : t.good) (hb : t.pairs.length ≤ 1000) (K : AV → List Blk → Prop) (hk : K (.i (.str t.hash)) []) : SP 25 [.i (.lst (pl t.pairs))] [] K := by
  by_cases hn : t = .nil
  · subst hn
    exact c_rRootN K hk
  · have tx := c_Texts t ht hn hb
    have tl := texts_len ht hn
    have la := sv_get _ _ _ (texts_last hn)
    have hp := c_Print t.last (by have := T.last_size ht hn; omega)
    rw [T.last_hash t hn] at hk
    have hpos : 0 < t.pairs.length := List.length_pos_iff.2 (T.pairs_ne ht hn)
    generalize pl t.pairs = L at *
    generalize sv t.texts = A at *
    generalize t.texts.length = n at *
    generalize t.last = s at *
    have hp : ∀ K : AV → List Blk → Prop, K (.i (.str (sha s))) [] → SP 22 [.i (.str s)] [] K := fun K h => hp K fun r hr => by rw [hr]; exact h
    generalize sha s = h at *
    have hne : ((n : Int) == 0) = false := by rw [beq_eq_false_iff_ne]; omega
    refine mk {} (fn := Tryd.f25) Tryd.func25 (by kernel_rfl) (by kernel_rfl) (Nat.le_of_ble_eq_true (Eq.refl true)) fun S hS => ?_
    conv => whnf
    refine hS _ _ _ _ <| tx _ fun n1 L1 g hL hn1 => ?_
    rw [hL, hn1]
    cases g
    all_goals
      conv => whnf
      rw [hne]
      conv => whnf
      rw [show (n : Int) - 1 = ((n - 1 : Nat) : Int) by omega, i64n _ (by omega)]
      refine ⟨by omega, by omega, ?_⟩
      conv => whnf
      rw [show 0 + (((n - 1 : Nat) : Int)).toNat = n - 1 by omega]
      refine ⟨_, la, ?_⟩
      conv => whnf
      refine hS _ _ _ _ <| hp _ ?_
      conv => whnf
      exact hk
set_option maxRecDepth 100000 in
set_option maxHeartbeats 4000000 in
theorem c_tree : ∀ (t : T) (_ : t.good) (_ : t.pairs.length ≤ 1000) (K : AV → List Blk → Prop) (_ : K (.i (.bool true)) []), SP 26 [.i t.iv, .i (.lst (pl t.pairs))] [] K := by
  intro t
  induction t with
  | nil =>
    intro ht hb K hk
    have en : T.nil.iv = .nilp := rfl
    have ep : pl T.nil.pairs = [] := rfl
    rw [en, ep]
    refine mk {keep := [(7, [0,1,5,6])]} (fn := Tryd.f26) Tryd.func26 (by kernel_rfl) (by kernel_rfl) (Nat.le_of_ble_eq_true (Eq.refl true)) fun S hS => ?_
    conv => whnf
    exact hk
  | leaf k v =>
    intro ht hb K hk
    have hr := c_rRoot (.leaf k v) ht hb
    have ep : pl (T.leaf k v).pairs = [[IV.str k, IV.str v]] := rfl
    rw [ep] at hr ⊢
    rw [T.iv_leaf]
    generalize (T.leaf k v).hash = hs at *
    refine mk {keep := [(7, [0,1,5,6])]} (fn := Tryd.f26) Tryd.func26 (by kernel_rfl) (by kernel_rfl) (Nat.le_of_ble_eq_true (Eq.refl true)) fun S hS => ?_
    conv => whnf
    refine ⟨_, by decide, rfl, rfl, ?_⟩
    conv => whnf
    rw [beq_ba, decide_eq_true rfl]
    conv => whnf
    refine ⟨_, by decide, rfl, rfl, ?_⟩
    conv => whnf
    rw [beq_ba, decide_eq_true rfl]
    conv => whnf
    refine ⟨.i (.str hs), hS _ _ _ _ <| hr _ ⟨rfl, rfl⟩, rfl, ?_⟩
    conv => whnf
    rw [beq_ba, decide_eq_true rfl]
    conv => whnf
    exact hk
  | fork a k z o iz io =>
    intro ht hb K hk
    have hr := c_rRoot (.fork a k z o) ht hb
    obtain ⟨p, q, e0, e1, hp, hq, hag, hne, hkk⟩ := fork_ends ht
    obtain ⟨h1, h2, h3, h4, h5, h6, h7, h8⟩ := ht
    simp only [T.pairs, List.length_append] at hb
    have ps := T.key_size h4 p hp
    have qs := T.key_size h5 q hq
    have iz := iz h4 (by omega)
    have io := io h5 (by omega)
    have hpl := c_Place (z.pairs ++ o.pairs) p q a h1 (by rw [List.length_append]; omega) e0 e1 ps qs hag hne
    have hfi := c_rFirst p.1 a ps (by omega)
    rw [← hkk] at hfi
    have hg := pl_get (z.pairs ++ o.pairs)
    have hall := pl_all (z.pairs ++ o.pairs)
    have hlen := pl_len (z.pairs ++ o.pairs)
    have hlz : 0 < z.pairs.length := List.length_pos_iff.2 (T.pairs_ne h4 h2)
    have hlo : 0 < o.pairs.length := List.length_pos_iff.2 (T.pairs_ne h5 h3)
    have ez : ((pl (z.pairs ++ o.pairs)).take z.pairs.length).drop 0 = pl z.pairs := by rw [← pl_app, List.drop_zero]; exact List.take_left' (pl_len _)
    have eo : ((pl (z.pairs ++ o.pairs)).take (pl (z.pairs ++ o.pairs)).length).drop z.pairs.length = pl o.pairs := by rw [List.take_length, ← pl_app]; exact List.drop_left' (pl_len _)
    have ep : pl (T.fork a k z o).pairs = pl (z.pairs ++ o.pairs) := rfl
    rw [ep] at hr ⊢
    rw [T.iv_fork]
    generalize (T.fork a k z o).hash = hs at *
    generalize hL : pl (z.pairs ++ o.pairs) = L at hpl hg hall hlen ez eo hr ⊢
    rw [List.length_append] at hlen
    have bz : ∀ i, i < z.pairs.length → ∃ r : Pr, L[i]? = some [IV.str r.1, IV.str r.2] ∧ r.1.size = 32 ∧ bit r.1 a = false := fun i hi => by
      have hm : z.pairs[i] ∈ z.pairs := List.getElem_mem hi
      exact ⟨z.pairs[i], hg i _ (by rw [List.getElem?_append_left hi]; exact List.getElem?_eq_getElem hi), T.key_size h4 _ hm, h6 _ hm⟩
    have bo : ∃ r : Pr, L[z.pairs.length]? = some [IV.str r.1, IV.str r.2] ∧ r.1.size = 32 ∧ bit r.1 a = true := by
      have hm : o.pairs[0] ∈ o.pairs := List.getElem_mem hlo
      exact ⟨o.pairs[0], hg _ _ (by rw [List.getElem?_append_right (Nat.le_refl _), Nat.sub_self]; exact List.getElem?_eq_getElem hlo), T.key_size h5 _ hm, h7 _ hm⟩
    have g0 := hg _ _ e0
    clear hg e0 e1 hp hq h6 h7 h8 hkk hag hne
    have lenpos : ((L.length : Int) == 0) = false ∧ ((L.length : Int) == 1) = false := by constructor <;> (rw [beq_eq_false_iff_ne]; omega)
    generalize pl z.pairs = PZ at *
    generalize pl o.pairs = PO at *
    obtain ⟨_, _, _, _, _, _, ezv⟩ := z.iv_ptr h2
    obtain ⟨_, _, _, _, _, _, eov⟩ := o.iv_ptr h3
    generalize z.iv = zi at *
    generalize o.iv = oi at *
    refine mk {keep := [(7, [0,1,5,6])]} (fn := Tryd.f26) Tryd.func26 (by kernel_rfl) (by kernel_rfl) (Nat.le_of_ble_eq_true (Eq.refl true)) fun S hS => ?_
    conv => whnf
    rw [lenpos.1]
    conv => whnf
    rw [lenpos.2]
    conv => whnf
    refine hS _ _ _ _ <| hpl _ ?_
    conv => whnf
    intro X hX
    have go : ∀ (d i : Nat), i + d = z.pairs.length → frK (kfr 140 [(0, .i (.ptr [.bool false, .bool false, .str k, .str ⟨#[]⟩, .int .i64 (a : Int), zi, oi, .str hs])), (1, .i (.lst L)), (5, .i (.int .i64 (a : Int))), (6, .i (.int .i64 (i : Int)))] []) X := by
      intro d
      induction d with
      | zero =>
        intro i hi
        obtain ⟨r, hr1, hr2, hr3⟩ := bo
        rw [show z.pairs.length = i by omega] at hr1 ez eo
        conv => whnf
        apply hX
        conv => whnf
        refine ⟨_, by omega, hr1, rfl, ?_⟩
        conv => whnf
        refine hS _ _ _ _ <| c_rBit r.1 a hr2 h1 _ ?_
        conv => whnf
        rw [bit_zero, hr3]
        conv => whnf
        rw [show ((a : Int) == (a : Int)) = true by simp]
        conv => whnf
        refine ⟨_, by decide, g0, rfl, ?_⟩
        conv => whnf
        refine ⟨.i (.str k), hS _ _ _ _ <| hfi _ (fun r hr => ⟨by rw [hr], rfl⟩), rfl, ?_⟩
        try (show aNext _ _ _ _ _)
        try rw [aNext_eq]
        refine aOps_hide 3 fun KK hKK => ?_
        conv => whnf
        rw [beq_ba, decide_eq_true rfl]
        refine hKK _ ?_
        conv => whnf
        refine ⟨.i (.str hs), hS _ _ _ _ <| hr _ ⟨rfl, rfl⟩, rfl, ?_⟩
        try (show aNext _ _ _ _ _)
        try rw [aNext_eq]
        refine aOps_hide 3 fun KK hKK => ?_
        conv => whnf
        rw [beq_ba, decide_eq_true rfl]
        refine hKK _ ?_
        conv => whnf
        refine ⟨hall, by decide, by omega, by omega, ?_⟩
        conv => whnf
        rw [show (L.take ((i : Int)).toNat).drop (Int.toNat 0) = PZ from ez]
        refine ⟨.i (.bool true), hS _ _ _ _ <| iz _ ⟨rfl, rfl⟩, rfl, ?_⟩
        conv => whnf
        refine ⟨hall, by omega, by omega, by omega, ?_⟩
        conv => whnf
        rw [show (L.take ((L.length : Int)).toNat).drop ((i : Int)).toNat = PO from eo]
        refine ⟨.i (.bool true), hS _ _ _ _ <| io _ ⟨rfl, rfl⟩, rfl, ?_⟩
        conv => whnf
        exact hk
      | succ d ih =>
        intro i hi
        obtain ⟨r, hr1, hr2, hr3⟩ := bz i (by omega)
        conv => whnf
        apply hX
        conv => whnf
        refine ⟨_, by omega, hr1, rfl, ?_⟩
        conv => whnf
        refine hS _ _ _ _ <| c_rBit r.1 a hr2 h1 _ ?_
        conv => whnf
        rw [bit_zero, hr3]
        conv => whnf
        rw [show (i : Int) + 1 = ((i + 1 : Nat) : Int) by omega, i64n _ (by omega)]
        exact ih (i + 1) (by omega)
    exact go z.pairs.length 0 (by omega)
end Go.Proofs.YtkpmcdfmdfoheaaDoor
