/- A part of the proof of a seat of parts: M1, M2. -/
import Derived.Test.YtmfilaagpobmbaaGreatDoorE3
import Derived.Test.YtmfilaagpobmbaaGreatDoorK10
import Derived.Test.YtmfilaagpobmbaaGreatDoorL5
import Derived.Test.YtmfilaagpobmbaaGreatDoorS5
set_option linter.all false
namespace Go.Proofs.YtmfilaagpobmbaaGreatDoor
open Go Go.Abs
set_option maxRecDepth 100000 in
set_option maxHeartbeats 4000000 in
theorem c_awakeW (ka kb s r r3 e v1 : ByteArray) (hv1 : v1 = ⟨#[49]⟩) (t0 ta tab ta3 pp pq : IV)
    (hN : ∀ K : AV → List Blk → Prop, K (.i t0) [] → SP 29 [] [] K)
    (hka : ∀ K : AV → List Blk → Prop, K (.i (.str ka)) [] → SP 31 [.i (.str ⟨#[97]⟩)] [] K)
    (hkb : ∀ K : AV → List Blk → Prop, K (.i (.str kb)) [] → SP 31 [.i (.str ⟨#[98]⟩)] [] K)
    (hp1 : ∀ K : AV → List Blk → Prop, K (.i ta) [] → SP 30 [.i t0, .i (.str ka), .i (.str ⟨#[49]⟩)] [] K)
    (hp2 : ∀ K : AV → List Blk → Prop, K (.i tab) [] → SP 30 [.i ta, .i (.str kb), .i (.str ⟨#[50]⟩)] [] K)
    (hp3 : ∀ K : AV → List Blk → Prop, K (.i ta3) [] → SP 30 [.i tab, .i (.str ka), .i (.str ⟨#[51]⟩)] [] K)
    (hs : ∀ K : AV → List Blk → Prop, K (.tup [.i (.str s), .i (.bool true)]) [] → SP 17 [.i tab, .i (.lst [[.str ka]]), .one .nils] [] K)
    (hr : ∀ K : AV → List Blk → Prop, K (.i (.str r)) [] → SP 18 [.i tab] [] K)
    (hr3 : ∀ K : AV → List Blk → Prop, K (.i (.str r3)) [] → SP 18 [.i ta3] [] K)
    (ho : ∀ K : AV → List Blk → Prop, K (.tup [.i pp, .i (.bool true)]) [] → SP 9 [.i (.str r), .i (.str s)] [] K)
    (hg1 : ∀ K : AV → List Blk → Prop, K (.tup [.i (.str v1), .i (.bool true), .i (.bool true)]) [] → SP 23 [.i pp, .i (.str ka)] [] K)
    (hg2 : ∀ K : AV → List Blk → Prop, K (.tup [.i (.str e), .i (.bool false), .i (.bool false)]) [] → SP 23 [.i pp, .i (.str kb)] [] K)
    (hq : ∀ K : AV → List Blk → Prop, K (.tup [.i pq, .i (.bool true)]) [] → SP 32 [.i pp, .i (.str ka), .i (.str ⟨#[51]⟩)] [] K)
    (hqr : ∀ K : AV → List Blk → Prop, K (.i (.str r3)) [] → SP 13 [.i pq] [] K)
    (K : AV → List Blk → Prop) (hk : K (.i (.bool true)) []) : SP 7 [] [] K := by
  refine mk {frz := [22]} (fn := Tryz.f7) Tryz.func7 (by kernel_rfl) (by kernel_rfl) (Nat.le_of_ble_eq_true (Eq.refl true)) fun S hS => ?_
  conv => whnf
  refine hS _ _ _ _ <| hN _ ?_
  conv => whnf
  refine hS _ _ _ _ <| hka _ ?_
  conv => whnf
  refine hS _ _ _ _ <| hp1 _ ?_
  conv => whnf
  refine hS _ _ _ _ <| hkb _ ?_
  conv => whnf
  refine hS _ _ _ _ <| hp2 _ ?_
  conv => whnf
  refine hS _ _ _ _ <| hka _ ?_
  conv => whnf
  refine hS _ _ _ _ <| hs _ ?_
  conv => whnf
  refine hS _ _ _ _ <| hr _ ?_
  conv => whnf
  refine hS _ _ _ _ <| ho _ ?_
  conv => whnf
  refine hS _ _ _ _ <| hka _ ?_
  conv => whnf
  refine hS _ _ _ _ <| hg1 _ ?_
  conv => whnf
  refine hS _ _ _ _ <| hkb _ ?_
  conv => whnf
  refine hS _ _ _ _ <| hg2 _ ?_
  conv => whnf
  refine hS _ _ _ _ <| hka _ ?_
  conv => whnf
  refine hS _ _ _ _ <| hq _ ?_
  conv => whnf
  rw [beq_ba, decide_eq_true hv1]
  conv => whnf
  refine hS _ _ _ _ <| hqr _ ?_
  conv => whnf
  refine hS _ _ _ _ <| hka _ ?_
  conv => whnf
  refine hS _ _ _ _ <| hp3 _ ?_
  conv => whnf
  refine hS _ _ _ _ <| hr3 _ ?_
  conv => whnf
  rw [beq_ba, decide_eq_true rfl]
  exact hk
theorem c_OpenT {t : T} (hg : t.good) (hv : ∀ p ∈ t.pairs, p.2.size < 268435456) (hl : t.pairs.length < 100000) (ks : List ByteArray) (us : List UP) (hs : (showTx t ks us).size ≤ 16777216) (K : AV → List Blk → Prop) (hk : K (.tup [.i (pv (partOf t ks us)), .i (.bool true)]) []) :
    SP 9 [.i (.str t.hash), .i (.str (showTx t ks us))] [] K := by
  have e := treeOf_show hg hv hl ks us
  refine c_POpen t.hash (showTx t ks us) hs K (fun p hp _ => ?_) (fun h => ?_)
  · rw [e] at hp
    simp only [Option.some.injEq] at hp
    subst hp
    exact hk
  · exact absurd (rootP_part t ks us) (h _ e)
theorem c_awake6 (K : AV → List Blk → Prop) (hk : K (.i (.bool true)) []) : SP 7 [] [] K := by
  refine c_awakeW ba bb (showTx at2 [ba] []) at2.hash (at2.put ba av3).1.hash ⟨#[]⟩ av1 rfl (tr .nil) (tr (.leaf ba av1)) (tr at2) (tr (at2.put ba av3).1) (pv (some aP0)) (pv (some aP1)) ?_ ?_ ?_ ?_ ?_ ?_ ?_ ?_ ?_ ?_ ?_ ?_ ?_ ?_ K hk
  · exact fun K hK => c_New K hK
  · exact fun K hK => c_Key akA (by decide) K fun r hr => by rw [hr, lawKey_a]; exact hK
  · exact fun K hK => c_Key akB (by decide) K fun r hr => by rw [hr, lawKey_b]; exact hK
  · exact fun K hK => c_Put .nil trivial (by decide) ba av1 rfl (by decide) K fun u hu => by rw [hu]; exact hK
  · exact fun K hK => c_Put (.leaf ba av1) ⟨rfl, by decide⟩ (by decide) bb av2 rfl (by decide) K fun u hu => by rw [hu, put_b]; exact hK
  · exact fun K hK => c_Put at2 at2_good (by decide) ba av3 rfl (by decide) K fun u hu => by rw [hu]; exact hK
  · exact fun K hK => c_ShowE (.one .nils) [] (.inl ⟨rfl, rfl⟩) at2 at2_good (by decide) (fun p hp => by have := aw_vals p hp; omega) [ba] (by decide) (by decide) aw_size K fun s hs => by rw [hs]; exact hK
  · exact fun K hK => c_Root at2 K hK
  · exact fun K hK => c_Root _ K hK
  · exact fun K hK => c_OpenT at2_good aw_vals (by decide) [ba] [] aw_size K (by rw [aw_part]; exact hK)
  · exact fun K hK => c_PGet (some aP0) (fun t ht => by simp only [Option.some.injEq] at ht; subst ht; exact aw_ok) ba rfl K fun e he => by rw [getP, aw_get]; exact hK
  · exact fun K hK => c_PGet (some aP0) (fun t ht => by simp only [Option.some.injEq] at ht; subst ht; exact aw_ok) bb rfl K fun e he => by rw [getP, aw_getb, he]; exact hK
  · exact fun K hK => c_PPut (some aP0) (fun t ht => by simp only [Option.some.injEq] at ht; subst ht; exact aw_ok) ba av3 rfl (by decide) K fun u hu => by rw [hu, putP, aw_put]; exact hK
  · exact fun K hK => c_PRoot (some aP1) K (by rw [rootP, aw_root]; exact hK)
end Go.Proofs.YtmfilaagpobmbaaGreatDoor

namespace Go.Proofs.YtmfilaagpobmbaaGreatDoor
open Go Go.Abs
theorem self_beq (s : ByteArray) : (s.toList == s.toList) = true := by simp
set_option maxRecDepth 100000 in
theorem c_sameN (x1 x2 x3 x4 x5 : IV) (h : ByteArray) (hh : h = ⟨#[]⟩) (K : AV → List Blk → Prop) (hk : K (.i (.bool true)) []) : SP 11 [.i .nilp, .agg [.imm x1, .imm x2, .imm x3, .imm x4, .imm x5, .imm (.str h)]] [] K := by
  refine mk {frz := [3]} (fn := Tryz.f11) Tryz.func11 (by kernel_rfl) (by kernel_rfl) (Nat.le_of_ble_eq_true (Eq.refl true)) fun S hS => ?_
  conv => whnf
  rw [beq_ba, decide_eq_true hh]
  exact hk
set_option maxRecDepth 100000 in
set_option maxHeartbeats 2000000 in
theorem c_same : ∀ (t : PT) (x1 x2 x3 x4 x5 x6 : IV) (_ : t.tv = [x1, x2, x3, x4, x5, x6]) (K : AV → List Blk → Prop) (_ : K (.i (.bool true)) []), SP 11 [.i t.iv, .agg [.imm x1, .imm x2, .imm x3, .imm x4, .imm x5, .imm x6]] [] K := by
  intro t
  induction t with
  | stub h =>
    intro x1 x2 x3 x4 x5 x6 hx K hk
    simp only [PT.tv, List.cons.injEq, and_true] at hx
    obtain ⟨rfl, rfl, rfl, rfl, rfl, rfl⟩ := hx
    refine mk {frz := [3]} (fn := Tryz.f11) Tryz.func11 (by kernel_rfl) (by kernel_rfl) (Nat.le_of_ble_eq_true (Eq.refl true)) fun S hS => ?_
    conv => whnf
    rw [self_beq]
    conv => whnf
    exact hk
  | leaf k v =>
    intro x1 x2 x3 x4 x5 x6 hx K hk
    simp only [PT.tv, List.cons.injEq, and_true] at hx
    obtain ⟨rfl, rfl, rfl, rfl, rfl, rfl⟩ := hx
    rw [PT.iv]
    generalize leafHash k (sha v) = hh
    refine mk {frz := [3]} (fn := Tryz.f11) Tryz.func11 (by kernel_rfl) (by kernel_rfl) (Nat.le_of_ble_eq_true (Eq.refl true)) fun S hS => ?_
    conv => whnf
    rw [self_beq]
    conv => whnf
    rw [self_beq]
    conv => whnf
    rw [self_beq]
    exact hk
  | fork a k z o iz io =>
    intro x1 x2 x3 x4 x5 x6 hx K hk
    obtain ⟨z1, z2, z3, z4, z5, z6, hz⟩ := ptv_list z
    obtain ⟨o1, o2, o3, o4, o5, o6, ho⟩ := ptv_list o
    rw [PT.tv, hz, ho] at hx
    simp only [List.cons.injEq, and_true] at hx
    obtain ⟨rfl, rfl, rfl, rfl, rfl, rfl⟩ := hx
    have iz := iz _ _ _ _ _ _ hz
    have io := io _ _ _ _ _ _ ho
    rw [PT.iv]
    generalize z.iv = zi at *
    generalize o.iv = oi at *
    generalize (PT.fork a k z o).hash = hh
    refine mk {frz := [3]} (fn := Tryz.f11) Tryz.func11 (by kernel_rfl) (by kernel_rfl) (Nat.le_of_ble_eq_true (Eq.refl true)) fun S hS => ?_
    conv => whnf
    rw [self_beq]
    conv => whnf
    rw [show (((a : Nat) : Int) == ((a : Nat) : Int)) = true by simp]
    conv => whnf
    rw [self_beq]
    conv => whnf
    refine ⟨_, by decide, rfl, rfl, ?_⟩
    conv => whnf
    refine ⟨.i (.bool true), hS _ _ _ _ <| iz _ ⟨rfl, rfl⟩, rfl, ?_⟩
    conv => whnf
    refine ⟨_, by decide, rfl, rfl, ?_⟩
    conv => whnf
    refine ⟨.i (.bool true), hS _ _ _ _ <| io _ ⟨rfl, rfl⟩, rfl, ?_⟩
    conv => whnf
    exact hk
end Go.Proofs.YtmfilaagpobmbaaGreatDoor
