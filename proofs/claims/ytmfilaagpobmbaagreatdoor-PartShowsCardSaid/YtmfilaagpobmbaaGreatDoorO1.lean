/- A part of the proof of a seat of parts: O1, O2, O3. -/
import Derived.Test.YtmfilaagpobmbaaGreatDoorE1
import Derived.Test.YtmfilaagpobmbaaGreatDoorE8
import Derived.Test.YtmfilaagpobmbaaGreatDoorK10
import Derived.Test.YtmfilaagpobmbaaGreatDoorK3
import Derived.Test.YtmfilaagpobmbaaGreatDoorL3
import Derived.Test.YtmfilaagpobmbaaGreatDoorL5
import Derived.Test.YtmfilaagpobmbaaGreatDoorN1
set_option linter.all false
namespace Go.Proofs.YtmfilaagpobmbaaGreatDoor
open Go Go.Abs
def gv : Option ByteArray → ByteArray | some v => v | none => ⟨#[]⟩
def gb : Option ByteArray → Bool | some _ => true | none => false
theorem getR_eq (o : Option ByteArray) : getR o = .tup [.i (.str (gv o)), .i (.bool (gb o))] := by cases o <;> rfl
theorem kgR_eq (o : Option ByteArray) : kgR ⟨#[]⟩ (some o) = .tup [.i (.str (gv o)), .i (.bool (gb o)), .i (.bool true)] := by cases o <;> rfl
theorem partOf_some {t : T} (h : t ≠ .nil) (ks : List ByteArray) (us : List UP) : partOf t ks us = some (prune t (ks.filter okK) (us.filter okU)) := by
  cases t with
  | nil => exact absurd rfl h
  | leaf k v => rfl
  | fork a k z o => rfl
theorem part_get {t : T} (hg : t.good) (ks : List ByteArray) (us : List UP) (key : ByteArray) (hkey : key.size = 32) (hm : key ∈ ks) : getP key (partOf t ks us) = some (t.get key) := by
  by_cases ht : t = .nil
  · subst ht; rfl
  rw [partOf_some ht]
  obtain ⟨r, hr⟩ := get_known t (ks.filter okK) (us.filter okU) hg ht (List.mem_filter.2 ⟨hm, decide_eq_true hkey⟩)
  show (prune t (ks.filter okK) (us.filter okU)).get key = _
  rw [hr, Pru.get (prune_pru t _ _) hg r hr]
theorem part_under {t : T} (hg : t.good) (ks : List ByteArray) (us : List UP) (p : UP) (hp : okU p = true) (hn : p.2.toNat ≤ 256) (hm : p ∈ us) : underP p.1 p.2.toNat (partOf t ks us) = some (t.under p.1 p.2.toNat) := by
  by_cases ht : t = .nil
  · subst ht; rfl
  rw [partOf_some ht]
  obtain ⟨r, hr⟩ := under_known hp t (ks.filter okK) (us.filter okU) hg ht (List.mem_filter.2 ⟨hm, hp⟩)
  show (prune t (ks.filter okK) (us.filter okU)).under p.1 p.2.toNat = _
  rw [hr, Pru.under hn (prune_pru t _ _) hg r hr]
theorem part_ok {t : T} (hg : t.good) (hv : ∀ p ∈ t.pairs, p.2.size < 268435456) (ks : List ByteArray) (us : List UP) : ∀ x, partOf t ks us = some x → x.ok ∧ x.cnt ≤ t.pairs.length := by
  intro x hx
  by_cases ht : t = .nil
  · subst ht; cases hx
  rw [partOf_some ht] at hx
  obtain rfl := Option.some.inj hx
  exact ⟨prune_ok t _ _ hg hv, prune_cnt t _ _ hg ht⟩
theorem p_get {t : T} (hg : t.good) (hl : t.pairs.length < 1000) (hv : ∀ p ∈ t.pairs, p.2.size < 268435456) (ks : List ByteArray) (us : List UP) (key : ByteArray) (hkey : key.size = 32) (hm : key ∈ ks) : ∃ (v : ByteArray) (b : Bool),
    (∀ K : AV → List Blk → Prop, K (.tup [.i (.str v), .i (.bool b), .i (.bool true)]) [] → SP 23 [.i (pv (partOf t ks us)), .i (.str key)] [] K) ∧
    (∀ K : AV → List Blk → Prop, K (.tup [.i (.str v), .i (.bool b)]) [] → SP 24 [.i (.lst (pl t.pairs)), .i (.str key)] [] K) := by
  refine ⟨gv (rget key t.pairs), gb (rget key t.pairs), fun K hK => c_PGet _ (fun x hx => (part_ok hg hv ks us x hx).1) key hkey K fun e he => ?_, fun K hK => c_rGet _ t.pairs (.inr rfl) (by omega) key K fun u hu => by rw [hu, getR_eq]; exact hK⟩
  rw [part_get hg ks us key hkey hm, he, kgR_eq, T.get_rget hg]
  exact hK
theorem p_under {t : T} (hg : t.good) (hl : t.pairs.length < 1000) (hv : ∀ p ∈ t.pairs, p.2.size < 268435456) (ks : List ByteArray) (us : List UP) (p : UP) (hkey : p.1.size = 32) (hm : p ∈ us) : ∃ l : List Pr, l.length < 1000 ∧
    (∀ K : AV → List Blk → Prop, K (.tup [.i (.lst (pl l)), .i (.bool true)]) [] → SP 25 [.i (pv (partOf t ks us)), .i (.str p.1), .i (.int .i64 p.2)] [] K) ∧
    (∀ K : AV → List Blk → Prop, K (.i (.lst (pl l))) [] → SP 26 [.i (.lst (pl t.pairs)), .i (.str p.1), .i (.int .i64 p.2)] [] K) := by
  by_cases h : 0 ≤ p.2 ∧ p.2 ≤ 256
  · obtain ⟨h0, h1⟩ := h
    have hok : okU p = true := by simp [okU, hkey, h0, h1]
    have hn : p.2.toNat ≤ 256 := by omega
    have e : p.2 = (p.2.toNat : Int) := by omega
    have pu := part_under hg ks us p hok hn hm
    refine ⟨t.under p.1 p.2.toNat, ?_, fun K hK => ?_, fun K hK => ?_⟩
    · rw [T.under_eq hn hg]
      exact Nat.lt_of_le_of_lt (List.length_filter_le _ _) hl
    · rw [e]
      refine c_PUnder _ (fun x hx => ⟨(part_ok hg hv ks us x hx).1, by have := (part_ok hg hv ks us x hx).2; omega⟩) p.1 hkey p.2.toNat hn K fun u hu => ?_
      rw [hu, pu]
      exact hK
    · rw [e]
      refine c_rUnder t.pairs (by omega) (T.key_size hg) p.1 hkey p.2.toNat hn K fun L hL => ?_
      rw [hL, ← T.under_eq hn hg]
      exact hK
  · exact ⟨[], by simp, fun K hK => c_PUnderBad _ p.1 p.2 (by omega) hkey K hK, fun K hK => c_rUnderBad _ p.1 p.2 (by omega) K hK⟩
end Go.Proofs.YtmfilaagpobmbaaGreatDoor

namespace Go.Proofs.YtmfilaagpobmbaaGreatDoor
open Go Go.Abs
set_option maxRecDepth 100000 in
set_option maxHeartbeats 4000000 in
theorem c_showsW (ks : List ByteArray) (us : List UP) (A SK SU Kv Uv W : List (List IV)) (t pp : IV) (h s : ByteArray)
    (hsl : Kv.length = ks.length) (hsg : ∀ (i : Nat) (s : ByteArray), ks[i]? = some s → Kv[i]? = some [IV.str s])
    (hul : Uv.length = us.length) (hug : ∀ (i : Nat) (p : UP), us[i]? = some p → Uv[i]? = some [IV.str p.1, IV.int .i64 p.2])
    (hkn : ks.length < 1000) (hun : us.length < 1000)
    (hk : ∀ K : AV → List Blk → Prop, K (.tup [.i (.lst Kv), .i (.lst Uv), .i (.bool true)]) [] → SP 14 [.agg [.imm (.lst SK), .imm (.lst SU)]] [] K)
    (h1 : ∀ K : AV → List Blk → Prop, K (.i (.bool true)) [] → SP 15 [.i (.lst A), .i (.int .i64 25)] [] K)
    (m1 : ∀ K : AV → List Blk → Prop, K (.tup [.i t, .i (.lst W)]) [] → SP 16 [.i (.lst A)] [] K)
    (sh : ∀ K : AV → List Blk → Prop, K (.tup [.i (.str s), .i (.bool true)]) [] → SP 17 [.i t, .i (.lst Kv), .i (.lst Uv)] [] K)
    (sr : ∀ K : AV → List Blk → Prop, K (.tup [.i (.str s), .i (.bool true)]) [] → SP 22 [.i (.lst W), .i (.lst Kv), .i (.lst Uv)] [] K)
    (rt : ∀ K : AV → List Blk → Prop, K (.i (.str h)) [] → SP 18 [.i t] [] K)
    (po : ∀ K : AV → List Blk → Prop, K (.tup [.i pp, .i (.bool true)]) [] → SP 9 [.i (.str h), .i (.str s)] [] K)
    (pr : ∀ K : AV → List Blk → Prop, K (.i (.str h)) [] → SP 13 [.i pp] [] K)
    (ge : ∀ x ∈ ks, ∃ (v : ByteArray) (b : Bool), (∀ K : AV → List Blk → Prop, K (.tup [.i (.str v), .i (.bool b), .i (.bool true)]) [] → SP 23 [.i pp, .i (.str x)] [] K) ∧
      (∀ K : AV → List Blk → Prop, K (.tup [.i (.str v), .i (.bool b)]) [] → SP 24 [.i (.lst W), .i (.str x)] [] K))
    (ud : ∀ p ∈ us, ∃ L : List (List IV), (∀ K : AV → List Blk → Prop, K (.tup [.i (.lst L), .i (.bool true)]) [] → SP 25 [.i pp, .i (.str p.1), .i (.int .i64 p.2)] [] K) ∧
      (∀ K : AV → List Blk → Prop, K (.i (.lst L)) [] → SP 26 [.i (.lst W), .i (.str p.1), .i (.int .i64 p.2)] [] K) ∧
      (∀ K : AV → List Blk → Prop, K (.i (.bool true)) [] → SP 19 [.i (.lst L), .i (.lst L)] [] K)) :
    SP 5 [.i (.lst A), .agg [.imm (.lst SK), .imm (.lst SU)]] [] (fun r _ => r = .i (.bool true)) := by
  refine mk {cmp := true, frz := [3, 24], keep := [(13, [6, 9, 14, 90, 91, 92]), (21, [9, 14, 122, 123, 124])]} (fn := Tryz.f5) Tryz.func5 (by kernel_rfl) (by kernel_rfl) (Nat.le_of_ble_eq_true (Eq.refl true)) fun S hS => ?_
  conv => whnf
  refine hS _ _ _ _ <| c_awake6 _ ?_
  conv => whnf
  refine hS _ _ _ _ <| hk _ ?_
  conv => whnf
  refine hS _ _ _ _ <| h1 _ ?_
  conv => whnf
  refine hS _ _ _ _ <| m1 _ ?_
  conv => whnf
  refine hS _ _ _ _ <| sh _ ?_
  conv => whnf
  refine hS _ _ _ _ <| sr _ ?_
  conv => whnf
  refine hS _ _ _ _ <| rt _ ?_
  conv => whnf
  refine hS _ _ _ _ <| po _ ?_
  conv => whnf
  rw [self_beq]
  conv => whnf
  refine hS _ _ _ _ <| pr _ ?_
  conv => whnf
  refine hS _ _ _ _ <| rt _ ?_
  conv => whnf
  rw [self_beq]
  conv => whnf
  intro X hX
  have key1 : ∀ (c i : Nat), i + c = ks.length → ∀ j : Int, j = (i : Int) →
      frK (kfr 151 [(6, .i (.lst Uv)), (9, .i (.lst W)), (14, .i pp), (90, .i (.lst Kv)), (91, .i (.int .i64 (Kv.length : Int))), (92, .i (.int .i64 j))] []) X := by
    intro c
    induction c with
    | zero =>
      intro i hi j hj
      subst hj
      conv => whnf
      apply hX
      conv => whnf
      rw [decide_eq_false (show ¬ ((i : Int) < (Kv.length : Int)) by omega)]
      conv => whnf
      intro X2 hX2
      have key2 : ∀ (c i : Nat), i + c = us.length → ∀ j : Int, j = (i : Int) →
          frK (kfr 151 [(9, .i (.lst W)), (14, .i pp), (122, .i (.lst Uv)), (123, .i (.int .i64 (Uv.length : Int))), (124, .i (.int .i64 j))] []) X2 := by
        intro c
        induction c with
        | zero =>
          intro i hi j hj
          subst hj
          conv => whnf
          apply hX2
          conv => whnf
          rw [decide_eq_false (show ¬ ((i : Int) < (Uv.length : Int)) by omega)]
          conv => whnf
        | succ c ih2 =>
          intro i hi j hj
          subst hj
          obtain ⟨p, hp1⟩ : ∃ p, us[i]? = some p := ⟨us[i]'(by omega), List.getElem?_eq_getElem _⟩
          obtain ⟨L, g1, g2, g3⟩ := ud p (List.mem_of_getElem? hp1)
          have ej : IntKind.i64.wrap ((i : Int) + 1) = ((i + 1 : Nat) : Int) := by rw [show (i : Int) + 1 = ((i + 1 : Nat) : Int) by omega, i64n _ (by omega)]
          have ih2 := ih2 (i + 1) (by omega)
          conv => whnf
          apply hX2
          conv => whnf
          rw [decide_eq_true (show (i : Int) < (Uv.length : Int) by omega)]
          conv => whnf
          refine ⟨_, by omega, hug i p hp1, rfl, ?_⟩
          conv => whnf
          refine hS _ _ _ _ <| g1 _ ?_
          conv => whnf
          refine hS _ _ _ _ <| g2 _ ?_
          conv => whnf
          refine hS _ _ _ _ <| g3 _ ?_
          conv => whnf
          exact ih2 _ ej
      exact key2 us.length 0 (by omega) _ rfl
    | succ c ih =>
      intro i hi j hj
      subst hj
      obtain ⟨x, hx1⟩ : ∃ x, ks[i]? = some x := ⟨ks[i]'(by omega), List.getElem?_eq_getElem _⟩
      obtain ⟨v, b, g1, g2⟩ := ge x (List.mem_of_getElem? hx1)
      have ej : IntKind.i64.wrap ((i : Int) + 1) = ((i + 1 : Nat) : Int) := by rw [show (i : Int) + 1 = ((i + 1 : Nat) : Int) by omega, i64n _ (by omega)]
      have ih := ih (i + 1) (by omega)
      conv => whnf
      apply hX
      conv => whnf
      rw [decide_eq_true (show (i : Int) < (Kv.length : Int) by omega)]
      conv => whnf
      refine ⟨_, by omega, hsg i x hx1, rfl, ?_⟩
      conv => whnf
      refine hS _ _ _ _ <| g1 _ ?_
      conv => whnf
      refine hS _ _ _ _ <| g2 _ ?_
      conv => whnf
      rw [show (b == b) = true by simp]
      conv => whnf
      rw [self_beq]
      conv => whnf
      exact ih _ ej
  exact key1 ks.length 0 (by omega) _ rfl
end Go.Proofs.YtmfilaagpobmbaaGreatDoor

namespace Go.Proofs.YtmfilaagpobmbaaGreatDoor
open Go Go.Abs
set_option maxRecDepth 100000 in
set_option maxHeartbeats 4000000 in
theorem c_showsF (A SK SU Kv Uv : List (List IV)) (a c : Bool) (h : (a && c) = false)
    (hk : ∀ K : AV → List Blk → Prop, K (.tup [.i (.lst Kv), .i (.lst Uv), .i (.bool c)]) [] → SP 14 [.agg [.imm (.lst SK), .imm (.lst SU)]] [] K)
    (h1 : ∀ K : AV → List Blk → Prop, K (.i (.bool a)) [] → SP 15 [.i (.lst A), .i (.int .i64 25)] [] K) :
    SP 5 [.i (.lst A), .agg [.imm (.lst SK), .imm (.lst SU)]] [] (fun r _ => r = .i (.bool true)) := by
  refine mk {cmp := true, frz := [3, 24], keep := [(13, [6, 9, 14, 90, 91, 92]), (21, [9, 14, 122, 123, 124])]} (fn := Tryz.f5) Tryz.func5 (by kernel_rfl) (by kernel_rfl) (Nat.le_of_ble_eq_true (Eq.refl true)) fun S hS => ?_
  conv => whnf
  refine hS _ _ _ _ <| c_awake6 _ ?_
  conv => whnf
  refine hS _ _ _ _ <| hk _ ?_
  conv => whnf
  refine hS _ _ _ _ <| h1 _ ?_
  cases a
  · conv => whnf
  · cases c
    · conv => whnf
    · cases h
theorem c_PartShows (l : List Act') (ks : List ByteArray) (us : List UP) :
    SP 5 [.i (.lst (acL l)), .agg [.imm (.lst (sv ks)), .imm (.lst (uv us))]] [] (fun r _ => r = .i (.bool true)) := by
  by_cases ha : small l 25
  case neg =>
    by_cases hok : askedOk ks us
    · exact c_showsF _ _ _ _ _ false true rfl (fun K hK => c_keysT ks us hok K fun A B hA hB => by rw [hA, hB]; exact hK) (fun K hK => c_SmallF l 25 (by decide) ha K hK)
    · exact c_showsF _ _ _ _ _ false false rfl (fun K hK => c_keysF ks us hok K hK) (fun K hK => c_SmallF l 25 (by decide) ha K hK)
  by_cases hok : askedOk ks us
  case neg =>
    exact c_showsF _ _ _ _ _ true false rfl (fun K hK => c_keysF ks us hok K hK) (fun K hK => c_SmallT l 25 (by decide) ha K hK)
  obtain ⟨tg, tl⟩ := made_good ha
  have hv9 := made_vals' ha
  have hv : ∀ p ∈ (made l).pairs, p.2.size < 268435456 := fun p hp => by have := hv9 p hp; omega
  have hsz := made_size (show 25 ≤ 25 by decide) ha (keysOf ks) (undersOf us)
  have k8 : (keysOf ks).length ≤ 8 := by rw [keysOf_len]; exact hok.1
  have u4 : (undersOf us).length ≤ 4 := by rw [undersOf_len]; exact hok.2.1
  have eR := showT_eq tg (keysOf ks) (undersOf us)
  refine c_showsW (keysOf ks) (undersOf us) _ _ _ (sv (keysOf ks)) (uv (undersOf us)) (pl (made l).pairs) (tr (made l)) (pv (partOf (made l) (keysOf ks) (undersOf us))) (made l).hash (showTx (made l) (keysOf ks) (undersOf us))
    (sv_len _) (sv_get _) (uv_len _) (uv_get _) (by omega) (by omega) ?_ ?_ ?_ ?_ ?_ ?_ ?_ ?_ ?_ ?_
  · exact fun K hK => c_keysT ks us hok K fun A B hA hB => by rw [hA, hB]; exact hK
  · exact fun K hK => c_SmallT l 25 (by decide) ha K hK
  · exact fun K hK => c_Made l 25 (by decide) ha K fun t ht => by rw [ht]; exact hK
  · exact fun K hK => c_ShowM l 25 (by decide) ha ks us hok K hK
  · refine fun K hK => c_rShow (made l) tg (by omega) (keysOf ks) (undersOf us) (by omega) (by omega) _ eR ?_ ?_ hsz K fun s hs => by rw [hs]; exact hK
    · have := showN_deep (made l) ((keysOf ks).filter okK) ((undersOf us).filter okU)
      omega
    · exact showN_fine (made l) _ _ tg (fun p hp => by have := hv p hp; omega)
  · exact fun K hK => c_Root (made l) K hK
  · exact fun K hK => c_OpenT tg hv (by omega) (keysOf ks) (undersOf us) hsz K hK
  · exact fun K hK => c_PRoot _ K (by rw [rootP_part]; exact hK)
  · intro x hx
    have h32 : x.size = 32 := by
      obtain ⟨y, _, rfl⟩ := List.mem_map.1 hx
      exact lawKey_size y
    exact p_get tg (by omega) hv _ _ x h32 hx
  · intro p hp
    have h32 : p.1.size = 32 := by
      obtain ⟨y, _, rfl⟩ := List.mem_map.1 hp
      exact lawKey_size y.1
    obtain ⟨L, hL, g1, g2⟩ := p_under tg (by omega) hv (keysOf ks) (undersOf us) p h32 hp
    exact ⟨pl L, g1, g2, fun K hK => c_SameT L (by omega) K hK⟩
end Go.Proofs.YtmfilaagpobmbaaGreatDoor
