/- A part of the proof of a seat of parts: E10, E11p, E12p. -/
import Derived.Test.YtmfilaagpobmbaaGreatDoorE8
import Derived.Test.YtmfilaagpobmbaaGreatDoorS3
set_option linter.all false
namespace Go.Proofs.YtmfilaagpobmbaaGreatDoor
open Go Go.Abs
set_option maxRecDepth 100000 in
theorem c_TextsN (K : AV → List Blk → Prop) (hk : K (.one .nils) []) : SP 21 [.i (.lst [])] [] K := by
  refine mk {res := false, keep := [(7, [0,3,4])], hc := [29]} (fn := Tryz.f21) Tryz.func21 (by kernel_rfl) (by kernel_rfl) (Nat.le_of_ble_eq_true (Eq.refl true)) fun S hS => ?_
  conv => whnf
  exact hk
set_option maxRecDepth 100000 in
theorem c_TextsNN (K : AV → List Blk → Prop) (hk : K (.one .nils) []) : SP 21 [.one .nils] [] K := by
  refine mk {res := false, keep := [(7, [0,3,4])], hc := [29]} (fn := Tryz.f21) Tryz.func21 (by kernel_rfl) (by kernel_rfl) (Nat.le_of_ble_eq_true (Eq.refl true)) fun S hS => ?_
  conv => whnf
  exact hk
set_option maxRecDepth 100000 in
theorem c_TextsL (k v : ByteArray) (hk32 : k.size = 32) (hv : v.size < 1073741824) (K : AV → List Blk → Prop) (hk : ∀ L g, L = sv [v, leafText k (sha v)] → K (.one (.sl 0 0 2)) [.vec 1 L g]) : SP 21 [.i (.lst (pl [(k, v)]))] [] K := by
  have hpr := c_Print v (by omega)
  have hs := sha_size v
  have h1 : (⟨#[0]⟩ : ByteArray).size = 1 := rfl
  unfold leafText at hk
  generalize sha v = s at *
  have e : pl [(k, v)] = [[IV.str k, IV.str v]] := rfl
  rw [e]
  refine mk {res := false, keep := [(7, [0,3,4])], hc := [29]} (fn := Tryz.f21) Tryz.func21 (by kernel_rfl) (by kernel_rfl) (Nat.le_of_ble_eq_true (Eq.refl true)) fun S hS => ?_
  conv => whnf
  refine ⟨_, by decide, rfl, rfl, ?_⟩
  conv => whnf
  refine ⟨_, by decide, rfl, rfl, ?_⟩
  conv => whnf
  refine ⟨by omega, ?_⟩
  conv => whnf
  refine ⟨_, by decide, rfl, rfl, ?_⟩
  conv => whnf
  refine ⟨.i (.str s), hS _ _ _ _ <| hpr _ (fun r hr => ⟨by rw [hr], rfl⟩), rfl, ?_⟩
  conv => whnf
  refine ⟨by rw [ByteArray.size_append]; omega, ?_⟩
  conv => whnf
  exact hk _ _ rfl
set_option maxRecDepth 100000 in
set_option maxHeartbeats 4000000 in
theorem c_Texts : ∀ (t : T) (_ : t.good) (_ : t ≠ .nil) (_ : t.pairs.length ≤ 1000) (K : AV → List Blk → Prop) (_ : ∀ n L g, L = sv t.texts → n = t.texts.length → K (.one (.sl 0 0 n)) [.vec 1 L g]), SP 21 [.i (.lst (pl t.pairs))] [] K := by
  intro t
  induction t with
  | nil => intro ht hn; exact absurd rfl hn
  | leaf k v =>
    intro ht hn hb K hk
    exact c_TextsL k v ht.1 ht.2 K fun L g hL => hk 2 L g hL rfl
  | fork a k z o iz io =>
    intro ht hn hb K hk
    obtain ⟨p, q, e0, e1, hp, hq, hag, hne, hkk⟩ := fork_ends ht
    have hksz := T.ksize ht
    obtain ⟨h1, h2, h3, h4, h5, h6, h7, h8⟩ := ht
    simp only [T.pairs, List.length_append] at hb
    have ps := T.key_size h4 p hp
    have qs := T.key_size h5 q hq
    have iz := iz h4 h2 (by omega)
    have io := io h5 h3 (by omega)
    have tz := texts_len h4 h2
    have to' := texts_len h5 h3
    have lz := texts_last h2
    have lo := texts_last h3
    have sz := T.last_size h4 h2
    have so := T.last_size h5 h3
    have hz := T.last_hash z h2
    have ho := T.last_hash o h3
    have zs := z.hash_size
    have os := o.hash_size
    have hpl := c_Place (z.pairs ++ o.pairs) p q a h1 (by rw [List.length_append]; omega) e0 e1 ps qs hag hne
    have hfi := c_rFirst p.1 a ps (by omega)
    rw [← hkk] at hfi
    have hp1 := c_Print z.last (by omega)
    have hp2 := c_Print o.last (by omega)
    rw [← hz] at hp1
    rw [← ho] at hp2
    have hg := pl_get (z.pairs ++ o.pairs)
    have hall := pl_all (z.pairs ++ o.pairs)
    have hlen := pl_len (z.pairs ++ o.pairs)
    have hlz : 0 < z.pairs.length := List.length_pos_iff.2 (T.pairs_ne h4 h2)
    have hlo : 0 < o.pairs.length := List.length_pos_iff.2 (T.pairs_ne h5 h3)
    have ez : ((pl (z.pairs ++ o.pairs)).take z.pairs.length).drop 0 = pl z.pairs := by rw [← pl_app, List.drop_zero]; exact List.take_left' (pl_len _)
    have eo : ((pl (z.pairs ++ o.pairs)).take (pl (z.pairs ++ o.pairs)).length).drop z.pairs.length = pl o.pairs := by rw [List.take_length, ← pl_app]; exact List.drop_left' (pl_len _)
    have gz := sv_get z.texts _ _ lz
    have go' := sv_get o.texts _ _ lo
    have sz' := sv_len z.texts
    have so' := sv_len o.texts
    have fin : ∀ (n : Nat) (L : List (List IV)) (g : Bool), L = sv z.texts ++ sv o.texts ++ [[IV.str (forkText a k z.hash o.hash)]] → n = z.texts.length + o.texts.length + 1 → K (.one (.sl 0 0 n)) [.vec 1 L g] := fun n L g hL hn => hk n L g (by rw [hL]; show _ = sv (z.texts ++ o.texts ++ [forkText a k z.hash o.hash]); rw [← sv_app, ← sv_app]; rfl) (by rw [hn]; show _ = (z.texts ++ o.texts ++ [forkText a k z.hash o.hash]).length; rw [List.length_append, List.length_append]; rfl)
    clear hk
    show SP _ [.i (.lst (pl (z.pairs ++ o.pairs)))] [] K
    generalize hL : pl (z.pairs ++ o.pairs) = L at hpl hg hall hlen ez eo ⊢
    rw [List.length_append] at hlen
    have bz : ∀ i, i < z.pairs.length → ∃ r : Pr, L[i]? = some [IV.str r.1, IV.str r.2] ∧ r.1.size = 32 ∧ bit r.1 a = false := fun i hi => by
      have hm : z.pairs[i] ∈ z.pairs := List.getElem_mem hi
      exact ⟨z.pairs[i], hg i _ (by rw [List.getElem?_append_left hi]; exact List.getElem?_eq_getElem hi), T.key_size h4 _ hm, h6 _ hm⟩
    have bo : ∃ r : Pr, L[z.pairs.length]? = some [IV.str r.1, IV.str r.2] ∧ r.1.size = 32 ∧ bit r.1 a = true := by
      have hm : o.pairs[0] ∈ o.pairs := List.getElem_mem hlo
      exact ⟨o.pairs[0], hg _ _ (by rw [List.getElem?_append_right (Nat.le_refl _), Nat.sub_self]; exact List.getElem?_eq_getElem hlo), T.key_size h5 _ hm, h7 _ hm⟩
    have g0 := hg _ _ e0
    clear hg e0 e1 hp hq h6 h7 h8 hkk hag hne
    unfold forkText at fin
    have m2 : (mkB [a / 256 % 256, a % 256]).size = 2 := mkB_size _
    have em : bytesIV (mkB [a / 256 % 256, a % 256]) = eb [a / 256 % 256, a % 256] := (eb_mkB [a / 256 % 256, a % 256] (by intro n hn; simp at hn; omega)).symm
    have one1 : (⟨#[1]⟩ : ByteArray).size = 1 := rfl
    have w1 : IntKind.u8.wrap (IntKind.i64.wrap ((a : Int).tdiv 256)) = ((a / 256 % 256 : Nat) : Int) := by
      rw [show (256 : Int) = ((256 : Nat) : Int) from rfl, tdivN a 256 (by omega), wrap8]; omega
    have w2 : IntKind.u8.wrap ((a : Int).tmod 256) = ((a % 256 : Nat) : Int) := by
      rw [show (256 : Int) = ((256 : Nat) : Int) from rfl, tmodN, wrap8]; omega
    generalize mkB [a / 256 % 256, a % 256] = mb at *
    generalize z.hash = zh at *
    generalize o.hash = oh at *
    generalize z.last = zl at *
    generalize o.last = ol at *
    generalize hA : sv z.texts = A at *
    generalize hB : sv o.texts = B at *
    generalize z.texts.length = na at *
    generalize o.texts.length = nb at *
    have lenpos : ((L.length : Int) == 0) = false ∧ ((L.length : Int) == 1) = false := by constructor <;> (rw [beq_eq_false_iff_ne]; omega)
    refine mk {res := false, keep := [(7, [0,3,4])], hc := [29]} (fn := Tryz.f21) Tryz.func21 (by kernel_rfl) (by kernel_rfl) (Nat.le_of_ble_eq_true (Eq.refl true)) fun S hS => ?_
    conv => whnf
    rw [lenpos.1]
    conv => whnf
    rw [lenpos.2]
    conv => whnf
    refine hS _ _ _ _ <| hpl _ ?_
    conv => whnf
    intro X hX
    have go : ∀ (d i : Nat), i + d = z.pairs.length → frK (kfr 88 [(0, .i (.lst L)), (3, .i (.int .i64 (a : Int))), (4, .i (.int .i64 (i : Int)))] []) X := by
      intro d
      induction d with
      | zero =>
        intro i hi
        obtain ⟨r, hr1, hr2, hr3⟩ := bo
        rw [show z.pairs.length = i by omega] at hr1 ez eo
        conv => whnf
        apply hX
        conv => whnf
        refine ⟨_, by omega, hr1, rfl, ?_⟩
        conv => whnf
        refine hS _ _ _ _ <| c_rBit r.1 a hr2 h1 _ ?_
        conv => whnf
        rw [bit_zero, hr3]
        conv => whnf
        refine ⟨hall, by decide, by omega, by omega, ?_⟩
        conv => whnf
        rw [show (L.take ((i : Int)).toNat).drop (Int.toNat 0) = pl z.pairs from ez]
        refine hS _ _ _ _ <| iz _ fun n1 L1 g1 hL1 hn1 => ?_
        rw [hL1, hn1]
        cases g1
        all_goals
          conv => whnf
          refine ⟨hall, by omega, by omega, by omega, ?_⟩
          conv => whnf
          rw [show (L.take ((L.length : Int)).toNat).drop ((i : Int)).toNat = pl o.pairs from eo]
          refine hS _ _ _ _ <| io _ fun n2 L2 g2 hL2 hn2 => ?_
          rw [hL2, hn2]
          cases g2
          all_goals
            conv => whnf
            refine ⟨by decide, ?_⟩
            conv => whnf
            refine ⟨by decide, ?_⟩
            conv => whnf
            rw [w1, w2]
            refine ⟨fun e he => (by
              cases he with
              | head => rfl
              | tail _ h =>
                cases h with
                | head => rfl
                | tail _ h => cases h), mb, em.symm, ?_⟩
            conv => whnf
            refine ⟨by omega, ?_⟩
            conv => whnf
            refine ⟨_, by decide, g0, rfl, ?_⟩
            conv => whnf
            refine ⟨.i (.str k), hS _ _ _ _ <| hfi _ (fun r hr => ⟨by rw [hr], rfl⟩), rfl, ?_⟩
            conv => whnf
            refine ⟨by simp only [ByteArray.size_append]; omega, ?_⟩
            conv => whnf
            rw [show (na : Int) - 1 = ((na - 1 : Nat) : Int) by omega, i64n _ (by omega)]
            refine ⟨by omega, by omega, ?_⟩
            conv => whnf
            rw [show 0 + (((na - 1 : Nat) : Int)).toNat = na - 1 by omega]
            refine ⟨_, gz, ?_⟩
            conv => whnf
            refine ⟨.i (.str zh), hS _ _ _ _ <| hp1 _ (fun r hr => ⟨by rw [hr], rfl⟩), rfl, ?_⟩
            conv => whnf
            refine ⟨by simp only [ByteArray.size_append]; omega, ?_⟩
            conv => whnf
            rw [show (nb : Int) - 1 = ((nb - 1 : Nat) : Int) by omega, i64n _ (by omega)]
            refine ⟨by omega, by omega, ?_⟩
            conv => whnf
            rw [show 0 + (((nb - 1 : Nat) : Int)).toNat = nb - 1 by omega]
            refine ⟨_, go', ?_⟩
            conv => whnf
            refine ⟨.i (.str oh), hS _ _ _ _ <| hp2 _ (fun r hr => ⟨by rw [hr], rfl⟩), rfl, ?_⟩
            conv => whnf
            refine ⟨by simp only [ByteArray.size_append]; omega, ?_⟩
            conv => whnf
            rw [show (B.drop 0).take nb = B by rw [List.drop_zero]; exact List.take_of_length_le (by omega)]
            refine ⟨by omega, by show (A.length + B.length) * 16 ≤ 17592186044416; omega, ?_⟩
            conv => whnf
            refine ⟨by rw [List.length_append]; omega, by show ((A ++ B).length + 1) * 16 ≤ 17592186044416; rw [List.length_append]; omega, ?_⟩
            conv => whnf
            refine fin _ _ _ rfl ?_
            show na + B.length + 1 = _
            omega
      | succ d ih =>
        intro i hi
        obtain ⟨r, hr1, hr2, hr3⟩ := bz i (by omega)
        conv => whnf
        apply hX
        conv => whnf
        refine ⟨_, by omega, hr1, rfl, ?_⟩
        conv => whnf
        refine hS _ _ _ _ <| c_rBit r.1 a hr2 h1 _ ?_
        conv => whnf
        rw [bit_zero, hr3]
        conv => whnf
        rw [show (i : Int) + 1 = ((i + 1 : Nat) : Int) by omega, i64n _ (by omega)]
        exact ih (i + 1) (by omega)
    exact go z.pairs.length 0 (by omega)
end Go.Proofs.YtmfilaagpobmbaaGreatDoor

namespace Go.Proofs.YtmfilaagpobmbaaGreatDoor
open Go Go.Abs
theorem zero32_iv : List.replicate 32 [IV.int .u8 0] = bytesIV zero32 := rfl
set_option maxRecDepth 100000 in
theorem c_rRootN (K : AV → List Blk → Prop) (hk : K (.i (.str zero32)) []) : SP 47 [.i (.lst [])] [] K := by
  have hz := zero32_iv
  generalize zero32 = z at hz hk
  refine mk {} (fn := Tryz.f47) Tryz.func47 (by kernel_rfl) (by kernel_rfl) (Nat.le_of_ble_eq_true (Eq.refl true)) fun S hS => ?_
  conv => whnf
  refine hS _ _ _ _ <| c_TextsN _ ?_
  conv => whnf
  refine ⟨by decide, by decide, by decide, ?_⟩
  conv => whnf
  refine ⟨z, hz, ?_⟩
  conv => whnf
  exact hk
set_option maxRecDepth 100000 in
theorem c_rRootNN (K : AV → List Blk → Prop) (hk : K (.i (.str zero32)) []) : SP 47 [.one .nils] [] K := by
  have hz := zero32_iv
  generalize zero32 = z at hz hk
  refine mk {} (fn := Tryz.f47) Tryz.func47 (by kernel_rfl) (by kernel_rfl) (Nat.le_of_ble_eq_true (Eq.refl true)) fun S hS => ?_
  conv => whnf
  refine hS _ _ _ _ <| c_TextsNN _ ?_
  conv => whnf
  refine ⟨by decide, by decide, by decide, ?_⟩
  conv => whnf
  refine ⟨z, hz, ?_⟩
  conv => whnf
  exact hk
set_option maxRecDepth 100000 in
theorem c_rRoot (t : T) (ht : t.good) (hb : t.pairs.length ≤ 1000) (K : AV → List Blk → Prop) (hk : K (.i (.str t.hash)) []) : SP 47 [.i (.lst (pl t.pairs))] [] K := by
  by_cases hn : t = .nil
  · subst hn
    exact c_rRootN K hk
  · have tx := c_Texts t ht hn hb
    have tl := texts_len ht hn
    have la := sv_get _ _ _ (texts_last hn)
    have hp := c_Print t.last (by have := T.last_size ht hn; omega)
    rw [T.last_hash t hn] at hk
    have hpos : 0 < t.pairs.length := List.length_pos_iff.2 (T.pairs_ne ht hn)
    generalize pl t.pairs = L at *
    generalize sv t.texts = A at *
    generalize t.texts.length = n at *
    generalize t.last = s at *
    have hp : ∀ K : AV → List Blk → Prop, K (.i (.str (sha s))) [] → SP 46 [.i (.str s)] [] K := fun K h => hp K fun r hr => by rw [hr]; exact h
    generalize sha s = h at *
    have hne : ((n : Int) == 0) = false := by rw [beq_eq_false_iff_ne]; omega
    refine mk {} (fn := Tryz.f47) Tryz.func47 (by kernel_rfl) (by kernel_rfl) (Nat.le_of_ble_eq_true (Eq.refl true)) fun S hS => ?_
    conv => whnf
    refine hS _ _ _ _ <| tx _ fun n1 L1 g hL hn1 => ?_
    rw [hL, hn1]
    cases g
    all_goals
      conv => whnf
      rw [hne]
      conv => whnf
      rw [show (n : Int) - 1 = ((n - 1 : Nat) : Int) by omega, i64n _ (by omega)]
      refine ⟨by omega, by omega, ?_⟩
      conv => whnf
      rw [show 0 + (((n - 1 : Nat) : Int)).toNat = n - 1 by omega]
      refine ⟨_, la, ?_⟩
      conv => whnf
      refine hS _ _ _ _ <| hp _ ?_
      conv => whnf
      exact hk
end Go.Proofs.YtmfilaagpobmbaaGreatDoor

namespace Go.Proofs.YtmfilaagpobmbaaGreatDoor
open Go Go.Abs
set_option maxRecDepth 100000 in
set_option maxHeartbeats 4000000 in
theorem c_Clash (a b : List ByteArray) (hne : a ++ b ≠ []) (hl : a.length + b.length < 100000) (hs : ∀ x ∈ a ++ b, x.size < 1073741824) (hc : Clash (a ++ b)) (K : AV → List Blk → Prop) (hk : K (.i (.bool true)) []) : SP 20 [.i (.lst [[.lst (sv a)], [.lst (sv b)]])] [] K := by
  have hcp := clash_places hc
  have hrn := fun K hK => c_rRootNN K hK
  have hpr : ∀ i, i < (a ++ b).length → ∀ K : AV → List Blk → Prop, K (.i (.str (sha (tx (a ++ b) i)))) [] → SP 46 [.i (.str (tx (a ++ b) i))] [] K := fun i hi K hK => c_Print _ (by have := hs _ (tx_mem hi); omega) K fun r hr => by rw [hr]; exact hK
  have hget := fun i (hi : i < (a ++ b).length) => tx_get hi
  have hnn : 0 < (a ++ b).length := List.length_pos_iff.2 hne
  have hab : sv a ++ sv b = sv (a ++ b) := sv_app a b
  have hla := sv_len a
  have hlb := sv_len b
  have hlm := sv_len (a ++ b)
  have hlab : (a ++ b).length = a.length + b.length := List.length_append
  have hea : a = [] → sv a = [] ∧ sv b = sv (a ++ b) := fun e => by subst e; exact ⟨rfl, rfl⟩
  have hal : ∀ l : List ByteArray, ∀ e ∈ sv l, e.length = 1 := fun l e he => by
    simp only [sv, List.mem_map] at he
    obtain ⟨_, _, rfl⟩ := he
    rfl
  have hala := hal a
  have halb := hal b
  generalize hM : sv (a ++ b) = M at hget hab hlm hea
  generalize hm : a ++ b = m at *
  generalize hA : sv a = A at *
  generalize hB : sv b = B at *
  clear hM hm hA hB hne hs hc
  generalize zero32 = z at *
  refine mk {keep := [(3, [0,3,4]), (8, [3,5,6]), (14, [3,5,7]), (17, [3,5,7,8])]} (fn := Tryz.f20) Tryz.func20 (by kernel_rfl) (by kernel_rfl) (Nat.le_of_ble_eq_true (Eq.refl true)) fun S hS => ?_
  conv => whnf
  intro X hX
  -- behind the first loop
  have rest : frK (kfr 72 [(0, .i (.lst [[.lst A], [.lst B]])), (3, .one (.sl 0 0 M.length)), (4, .i (.int .i64 2))] [.vec 1 M true]) X := by
    conv => whnf
    apply hX
    conv => whnf
    intro Y hY
    have hMn : M.length = m.length := hlm
    have two : Two m → ∀ P : List (List IV), P.length = m.length → (∀ j, j < m.length → P[j]? = some [IV.str (sha (tx m j))]) → frK (kfr 72 [(3, .one (.sl 0 0 M.length)), (5, .one (.sl 2 0 P.length)), (6, .i (.int .i64 (m.length : Int)))] [.vec 1 M true, .dead, .vec 1 P true]) Y := by
      intro hE P hPl hP
      conv => whnf
      apply hY
      conv => whnf
      rw [decide_eq_false (show ¬ ((m.length : Int) < (M.length : Int)) by omega)]
      conv => whnf
      intro Z hZ
      have outer : ∀ (d i : Nat), i + d = m.length → (∃ i' k, i ≤ i' ∧ k < i' ∧ i' < m.length ∧ sha (tx m i') = sha (tx m k) ∧ tx m i' ≠ tx m k) → frK (kfr 72 [(3, .one (.sl 0 0 M.length)), (5, .one (.sl 2 0 P.length)), (7, .i (.int .i64 (i : Int)))] [.vec 1 M true, .dead, .vec 1 P true]) Z := by
        intro d
        induction d with
        | zero =>
          intro i hi hex
          obtain ⟨i', k, h1, _, h2, _⟩ := hex
          omega
        | succ d ih =>
          intro i hi hex
          conv => whnf
          apply hZ
          conv => whnf
          rw [decide_eq_true (show (i : Int) < (M.length : Int) by omega)]
          conv => whnf
          intro V hV
          have inner : ∀ (c k : Nat), k + c = i → ((∃ k', k ≤ k' ∧ k' < i ∧ sha (tx m i) = sha (tx m k') ∧ tx m i ≠ tx m k') ∨ (∃ i' k', i + 1 ≤ i' ∧ k' < i' ∧ i' < m.length ∧ sha (tx m i') = sha (tx m k') ∧ tx m i' ≠ tx m k')) → frK (kfr 72 [(3, .one (.sl 0 0 M.length)), (5, .one (.sl 2 0 P.length)), (7, .i (.int .i64 (i : Int))), (8, .i (.int .i64 (k : Int)))] [.vec 1 M true, .dead, .vec 1 P true]) V := by
            intro c
            induction c with
            | zero =>
              intro k hk' hor
              obtain rfl : k = i := hk'
              have hor : ∃ i' k', k + 1 ≤ i' ∧ k' < i' ∧ i' < m.length ∧ sha (tx m i') = sha (tx m k') ∧ tx m i' ≠ tx m k' := by
                rcases hor with ⟨k', h1, h2, _⟩ | h
                · omega
                · exact h
              conv => whnf
              apply hV
              conv => whnf
              rw [decide_eq_false (show ¬ ((k : Int) < (k : Int)) by omega)]
              conv => whnf
              rw [show (k : Int) + 1 = ((k + 1 : Nat) : Int) by omega, i64n _ (by omega)]
              exact ih (k + 1) (by omega) hor
            | succ c ihc =>
              intro k hk' hor
              have pi := hP i (by omega)
              have pk := hP k (by omega)
              have li := hget i (by omega)
              have lk := hget k (by omega)
              conv => whnf
              apply hV
              conv => whnf
              rw [decide_eq_true (show (k : Int) < (i : Int) by omega)]
              conv => whnf
              refine ⟨by omega, by omega, ?_⟩
              conv => whnf
              rw [show 0 + ((i : Int)).toNat = i by omega]
              refine ⟨_, pi, ?_⟩
              conv => whnf
              refine ⟨by omega, by omega, ?_⟩
              conv => whnf
              rw [show 0 + ((k : Int)).toNat = k by omega]
              refine ⟨_, pk, ?_⟩
              conv => whnf
              rw [beq_ba]
              by_cases e1 : sha (tx m i) = sha (tx m k)
              · rw [decide_eq_true e1]
                conv => whnf
                refine ⟨by omega, by omega, ?_⟩
                conv => whnf
                rw [show 0 + ((i : Int)).toNat = i by omega]
                refine ⟨_, li, ?_⟩
                conv => whnf
                refine ⟨by omega, by omega, ?_⟩
                conv => whnf
                rw [show 0 + ((k : Int)).toNat = k by omega]
                refine ⟨_, lk, ?_⟩
                conv => whnf
                rw [beq_ba]
                by_cases e2 : tx m i = tx m k
                · rw [decide_eq_true e2]
                  conv => whnf
                  rw [show (k : Int) + 1 = ((k + 1 : Nat) : Int) by omega, i64n _ (by omega)]
                  refine ihc (k + 1) (by omega) ?_
                  rcases hor with ⟨k', h1, h2, h3, h4⟩ | h
                  · refine .inl ⟨k', ?_, h2, h3, h4⟩
                    by_cases c : k' = k
                    · subst c; exact absurd e2 h4
                    · omega
                  · exact .inr h
                · rw [decide_eq_false e2]
                  conv => whnf
                  exact hk
              · rw [decide_eq_false e1]
                conv => whnf
                rw [show (k : Int) + 1 = ((k + 1 : Nat) : Int) by omega, i64n _ (by omega)]
                refine ihc (k + 1) (by omega) ?_
                rcases hor with ⟨k', h1, h2, h3, h4⟩ | h
                · refine .inl ⟨k', ?_, h2, h3, h4⟩
                  by_cases c : k' = k
                  · subst c; exact absurd h3 e1
                  · omega
                · exact .inr h
          refine inner i 0 (by omega) ?_
          obtain ⟨i', k, h1, h2, h3, h4, h5⟩ := hex
          by_cases c : i' = i
          · subst c; exact .inl ⟨k, Nat.zero_le _, h2, h4, h5⟩
          · exact .inr ⟨i', k, by omega, h2, h3, h4, h5⟩
      obtain ⟨i, k, h1, h2, h3, h4⟩ := hE
      exact outer m.length 0 (by omega) ⟨i, k, Nat.zero_le _, h1, h2, h3, h4⟩
    have prints : ∀ (d i : Nat), i + d = m.length → 0 < i → ((∃ j, i ≤ j ∧ j < m.length ∧ sha (tx m j) = z) ∨ Two m) → ∀ P : List (List IV), P.length = i → (∀ j, j < i → P[j]? = some [IV.str (sha (tx m j))]) → frK (kfr 72 [(3, .one (.sl 0 0 M.length)), (5, .one (.sl 2 0 P.length)), (6, .i (.int .i64 (i : Int)))] [.vec 1 M true, .dead, .vec 1 P true]) Y := by
      intro d
      induction d with
      | zero =>
        intro i hi h0 hor P hPl hP
        obtain rfl : i = m.length := hi
        refine two ?_ P hPl hP
        rcases hor with ⟨j, h1, h2, _⟩ | h
        · omega
        · exact h
      | succ d ih =>
        intro i hi h0 hor P hPl hP
        have li := hget i (by omega)
        conv => whnf
        apply hY
        conv => whnf
        rw [decide_eq_true (show (i : Int) < (M.length : Int) by omega)]
        conv => whnf
        refine ⟨by omega, by omega, ?_⟩
        conv => whnf
        rw [show 0 + ((i : Int)).toNat = i by omega]
        refine ⟨_, li, ?_⟩
        conv => whnf
        refine hS _ _ _ _ <| hpr i (by omega) _ ?_
        conv => whnf
        refine ⟨by omega, by show (P.length + 1) * 16 ≤ 17592186044416; omega, ?_⟩
        conv => whnf
        have hP' : ∀ j, j < i + 1 → (P ++ [[IV.str (sha (tx m i))]])[j]? = some [IV.str (sha (tx m j))] := fun j hj => by
          by_cases c : j < i
          · rw [List.getElem?_append_left (by omega)]; exact hP j c
          · obtain rfl : j = i := by omega
            rw [List.getElem?_append_right (by omega), hPl, Nat.sub_self]; rfl
        have hPl' : (P ++ [[IV.str (sha (tx m i))]]).length = i + 1 := by rw [List.length_append, hPl]; rfl
        have gi := hP' i (by omega)
        refine ⟨by omega, by show (i : Int) < ((P.length + 1 : Nat) : Int); omega, ?_⟩
        conv => whnf
        rw [show 0 + ((i : Int)).toNat = i by omega]
        refine ⟨_, gi, ?_⟩
        conv => whnf
        refine ⟨.i (.str z), hS _ _ _ _ <| hrn _ ⟨rfl, rfl⟩, rfl, ?_⟩
        conv => whnf
        rw [beq_ba]
        by_cases ez : sha (tx m i) = z
        · rw [decide_eq_true ez]
          conv => whnf
          exact hk
        · rw [decide_eq_false ez]
          conv => whnf
          rw [show (i : Int) + 1 = ((i + 1 : Nat) : Int) by omega, i64n _ (by omega)]
          have hn := ih (i + 1) (by omega) (by omega) (by
            rcases hor with ⟨j, h1, h2, h3⟩ | h
            · refine .inl ⟨j, ?_, h2, h3⟩
              by_cases c : j = i
              · subst c; exact absurd h3 ez
              · omega
            · exact .inr h) _ hPl' hP'
          rw [List.length_append] at hn
          exact hn
    have l0 := hget 0 hnn
    apply hY
    conv => whnf
    rw [decide_eq_true (show (0 : Int) < (M.length : Int) by omega)]
    conv => whnf
    refine ⟨by omega, by omega, ?_⟩
    conv => whnf
    refine ⟨_, l0, ?_⟩
    conv => whnf
    refine hS _ _ _ _ <| hpr 0 hnn _ ?_
    conv => whnf
    refine ⟨Nat.le_of_ble_eq_true rfl, ?_⟩
    conv => whnf
    refine ⟨by omega, by show (0 : Int) < ((0 + 1 : Nat) : Int); omega, ?_⟩
    conv => whnf
    refine ⟨_, rfl, ?_⟩
    conv => whnf
    refine ⟨.i (.str z), hS _ _ _ _ <| hrn _ ⟨rfl, rfl⟩, rfl, ?_⟩
    conv => whnf
    rw [beq_ba]
    by_cases ez : sha (tx m 0) = z
    · rw [decide_eq_true ez]
      conv => whnf
      exact hk
    · rw [decide_eq_false ez]
      conv => whnf
      refine prints (m.length - 1) 1 (by omega) (by omega) ?_ [[IV.str (sha (tx m 0))]] rfl (fun j hj => ?_)
      · rcases hcp with ⟨j, _, h2, h3⟩ | h
        · refine .inl ⟨j, ?_, h2, h3⟩
          by_cases c : j = 0
          · subst c; exact absurd h3 ez
          · omega
        · exact .inr h
      · obtain rfl : j = 0 := by omega
        rfl
  apply hX
  conv => whnf
  refine ⟨_, by decide, rfl, rfl, ?_⟩
  conv => whnf
  refine ⟨hala, ?_⟩
  cases A with
  | nil =>
    cases B with
    | nil =>
      have := congrArg List.length hab
      simp only [List.length_append, List.length_nil] at this
      omega
    | cons y B =>
      simp only [List.length_cons] at hlb
      conv => whnf
      apply hX
      conv => whnf
      refine ⟨_, by decide, rfl, rfl, ?_⟩
      conv => whnf
      refine ⟨halb, ?_⟩
      conv => whnf
      refine ⟨by show (B.length + 1) * 16 ≤ 17592186044416; omega, ?_⟩
      conv => whnf
      subst hab
      exact rest
  | cons x A =>
    simp only [List.length_cons] at hla
    conv => whnf
    refine ⟨by show (A.length + 1) * 16 ≤ 17592186044416; omega, ?_⟩
    conv => whnf
    apply hX
    conv => whnf
    refine ⟨_, by decide, rfl, rfl, ?_⟩
    conv => whnf
    refine ⟨halb, ?_⟩
    conv => whnf
    refine ⟨Nat.zero_add _, by show (A.length + 1 + B.length) * 16 ≤ 17592186044416; omega, ?_⟩
    conv => whnf
    subst hab
    rw [List.length_append] at rest
    exact rest
end Go.Proofs.YtmfilaagpobmbaaGreatDoor
