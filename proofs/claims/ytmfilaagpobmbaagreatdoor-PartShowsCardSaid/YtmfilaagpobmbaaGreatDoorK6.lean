/- A part of the proof of a seat of parts: K6, K7. -/
import Derived.Test.YtmfilaagpobmbaaGreatDoorK3
set_option linter.all false
namespace Go.Proofs.YtmfilaagpobmbaaGreatDoor
open Go Go.Abs
set_option maxRecDepth 100000 in
theorem c_pbeside (t : PT) (ht : t.ok) (a : Nat) (ha : a < 256) (key val : ByteArray) (hkey : key.size = 32) (hv : val.size < 536870912) (K : AV → List Blk → Prop) (hk : ∀ u, u = (besideP t a key val).iv → K (.i u) []) : SP 100 [.i t.iv, .i (.int .i64 (a : Int)), .i (.str key), .i (.str val)] [] K := by
  have hk := hk _ rfl
  unfold besideP at hk
  refine mk {} (fn := Tryz.f100) Tryz.func100 (by kernel_rfl) (by kernel_rfl) (Nat.le_of_ble_eq_true (Eq.refl true)) fun S hS => ?_
  conv => whnf
  refine hS _ _ _ _ <| c_Bit key a hkey ha _ ?_
  conv => whnf
  cases hb : bit key a
  · rw [if_pos hb] at hk
    conv => whnf
    refine hS _ _ _ _ <| c_pleaf key val hkey (by omega) _ fun u hu => ?_
    conv => whnf
    rw [hu]
    refine hS _ _ _ _ <| c_pfork a key (.leaf key val) t ha hkey (sha_size _) (PT.hash_size ht) _ fun w hw => ?_
    conv => whnf
    rw [hw]
    exact hk
  · rw [if_neg (by rw [hb]; simp)] at hk
    conv => whnf
    refine hS _ _ _ _ <| c_pleaf key val hkey (by omega) _ fun u hu => ?_
    conv => whnf
    rw [hu]
    refine hS _ _ _ _ <| c_pfork a key t (.leaf key val) ha hkey (PT.hash_size ht) (sha_size _) _ fun w hw => ?_
    conv => whnf
    rw [hw]
    exact hk
/-- a tree, or nil -/
def oiv : Option PT → IV
  | none => .nilp
  | some t => t.iv
theorem c_pputN (key val : ByteArray) (hkey : key.size = 32) (hv : val.size < 536870912) (K : AV → List Blk → Prop) (hk : ∀ u, u = (PT.leaf key val).iv → K (.i u) []) : SP 64 [.i .nilp, .i (.str key), .i (.str val)] [] K := by
  refine mk {} (fn := Tryz.f64) Tryz.func64 (by kernel_rfl) (by kernel_rfl) (Nat.le_of_ble_eq_true (Eq.refl true)) fun S hS => ?_
  conv => whnf
  refine hS _ _ _ _ <| c_pleaf key val hkey (by omega) _ fun u hu => ?_
  conv => whnf
  exact hk _ hu
set_option maxRecDepth 100000 in
set_option maxHeartbeats 2000000 in
theorem c_pput (key val : ByteArray) (hkey : key.size = 32) (hv : val.size < 536870912) : ∀ (t : PT) (_ : t.ok) (K : AV → List Blk → Prop) (_ : ∀ u, u = oiv (t.put key val) → K (.i u) []), SP 64 [.i t.iv, .i (.str key), .i (.str val)] [] K := by
  intro t
  induction t with
  | stub h =>
    intro ht K hk
    refine mk {} (fn := Tryz.f64) Tryz.func64 (by kernel_rfl) (by kernel_rfl) (Nat.le_of_ble_eq_true (Eq.refl true)) fun S hS => ?_
    conv => whnf
    exact hk _ rfl
  | leaf k v =>
    intro ht K hk
    have hk := hk _ rfl
    have hbs := fun ha => c_pbeside (.leaf k v) ht (common k key) ha key val hkey hv
    rw [PT.iv] at hbs ⊢
    rw [PT.put] at hk
    refine mk {} (fn := Tryz.f64) Tryz.func64 (by kernel_rfl) (by kernel_rfl) (Nat.le_of_ble_eq_true (Eq.refl true)) fun S hS => ?_
    conv => whnf
    rw [beq_ba]
    by_cases h : k = key
    · rw [decide_eq_true h]
      rw [if_pos h] at hk
      conv => whnf
      refine hS _ _ _ _ <| c_pleaf key val hkey (by omega) _ fun u hu => ?_
      conv => whnf
      rw [hu]
      exact hk
    · rw [decide_eq_false h]
      rw [if_neg h] at hk
      conv => whnf
      refine hS _ _ _ _ <| c_CommonE k key ht.1 hkey _ fun r hr => ?_
      subst hr
      conv => whnf
      refine hS _ _ _ _ <| hbs ((common_lt ht.1 hkey).2 h) _ fun u hu => ?_
      conv => whnf
      rw [hu]
      exact hk
  | fork a k z o iz io =>
    intro ht K hk
    have hk := hk _ rfl
    have hbs := fun ha => c_pbeside (.fork a k z o) ht (common k key) ha key val hkey hv
    obtain ⟨h1, h2, h3, h4, h5⟩ := ht
    have iz := iz h4
    have io := io h5
    obtain ⟨zl, zs, zk, zv, za, zz, zo, ez⟩ := z.iv_ptr
    obtain ⟨ol, os, ok, ov, oa, oz, oo, eo⟩ := o.iv_ptr
    have hfz := fun (z' : PT) (hz' : z'.ok) => c_pfork a k z' o h1 h2 (PT.hash_size hz') (PT.hash_size h5)
    have hfo := fun (o' : PT) (ho' : o'.ok) => c_pfork a k z o' h1 h2 (PT.hash_size h4) (PT.hash_size ho')
    have hzo := fun u h => PT.put_ok (u := u) hkey hv h4 h
    have hoo := fun u h => PT.put_ok (u := u) hkey hv h5 h
    rw [h3] at hfz hfo
    rw [PT.iv] at hbs ⊢
    rw [PT.put] at hk
    rw [ez, eo] at hbs ⊢
    rw [ez] at iz hfo
    rw [eo] at io hfz
    generalize (PT.fork a k z o).hash = hs at hbs ⊢
    clear ez eo
    refine mk {} (fn := Tryz.f64) Tryz.func64 (by kernel_rfl) (by kernel_rfl) (Nat.le_of_ble_eq_true (Eq.refl true)) fun S hS => ?_
    conv => whnf
    refine hS _ _ _ _ <| c_CommonE k key h2 hkey _ fun r hr => ?_
    subst hr
    conv => whnf
    by_cases c : common k key < a
    · rw [if_pos c] at hk
      rw [decide_eq_true (show (common k key : Int) < (a : Int) by omega)]
      conv => whnf
      refine hS _ _ _ _ <| hbs (by omega) _ fun u hu => ?_
      conv => whnf
      rw [hu]
      exact hk
    · rw [if_neg c] at hk
      rw [decide_eq_false (show ¬ ((common k key : Int) < (a : Int)) by omega)]
      conv => whnf
      refine hS _ _ _ _ <| c_Bit key a hkey h1 _ ?_
      conv => whnf
      cases hb : bit key a
      · rw [if_pos hb] at hk
        conv => whnf
        refine hS _ _ _ _ <| iz _ fun u hu => ?_
        subst hu
        cases e : z.put key val with
        | none =>
          conv => whnf
          rw [e] at hk
          exact hk
        | some z' =>
          rw [e] at hk
          have hf := hfz z' (hzo z' e)
          simp only [oiv] at hk ⊢
          obtain ⟨l, s, kk, vv, aa, zz', oo', e'⟩ := z'.iv_ptr
          rw [e'] at hf ⊢
          conv => whnf
          refine ⟨_, hS _ _ _ _ <| hf _ (fun q hq => ⟨by rw [hq], rfl⟩), rfl, ?_⟩
          conv => whnf
          exact hk
      · rw [if_neg (by rw [hb]; simp)] at hk
        conv => whnf
        refine hS _ _ _ _ <| io _ fun u hu => ?_
        subst hu
        cases e : o.put key val with
        | none =>
          conv => whnf
          rw [e] at hk
          exact hk
        | some o' =>
          rw [e] at hk
          have hf := hfo o' (hoo o' e)
          simp only [oiv] at hk ⊢
          obtain ⟨l, s, kk, vv, aa, zz', oo', e'⟩ := o'.iv_ptr
          rw [e'] at hf ⊢
          conv => whnf
          refine ⟨_, hS _ _ _ _ <| hf _ (fun q hq => ⟨by rw [hq], rfl⟩), rfl, ?_⟩
          conv => whnf
          exact hk
end Go.Proofs.YtmfilaagpobmbaaGreatDoor

namespace Go.Proofs.YtmfilaagpobmbaaGreatDoor
open Go Go.Abs
def dropR : Option (Option PT) → AV
  | none => .tup [.i .nilp, .i (.bool false)]
  | some p => .tup [.i (oiv p), .i (.bool true)]
theorem c_pdropN (key : ByteArray) (K : AV → List Blk → Prop) (hk : K (.tup [.i .nilp, .i (.bool true)]) []) : SP 94 [.i .nilp, .i (.str key)] [] K := by
  refine mk {} (fn := Tryz.f94) Tryz.func94 (by kernel_rfl) (by kernel_rfl) (Nat.le_of_ble_eq_true (Eq.refl true)) fun S hS => ?_
  conv => whnf
  exact hk
set_option maxRecDepth 100000 in
set_option maxHeartbeats 2000000 in
theorem c_pdrop (key : ByteArray) (hkey : key.size = 32) : ∀ (t : PT) (_ : t.ok) (K : AV → List Blk → Prop) (_ : ∀ u, u = dropR (t.drop key) → K u []), SP 94 [.i t.iv, .i (.str key)] [] K := by
  intro t
  induction t with
  | stub h =>
    intro ht K hk
    have hk := hk _ rfl
    refine mk {} (fn := Tryz.f94) Tryz.func94 (by kernel_rfl) (by kernel_rfl) (Nat.le_of_ble_eq_true (Eq.refl true)) fun S hS => ?_
    conv => whnf
    exact hk
  | leaf k v =>
    intro ht K hk
    have hk := hk _ rfl
    rw [PT.drop] at hk
    refine mk {} (fn := Tryz.f94) Tryz.func94 (by kernel_rfl) (by kernel_rfl) (Nat.le_of_ble_eq_true (Eq.refl true)) fun S hS => ?_
    conv => whnf
    rw [beq_ba]
    by_cases h : k = key
    · rw [decide_eq_true h]
      rw [if_pos h] at hk
      conv => whnf
      exact hk
    · rw [decide_eq_false h]
      rw [if_neg h] at hk
      conv => whnf
      exact hk
  | fork a k z o iz io =>
    intro ht K hk
    have hk := hk _ rfl
    have ht0 := ht
    obtain ⟨h1, h2, h3, h4, h5⟩ := ht
    have iz := iz h4
    have io := io h5
    obtain ⟨zl, zs, zk, zv, za, zz, zo, ez⟩ := z.iv_ptr
    obtain ⟨ol, os, ok, ov, oa, oz, oo, eo⟩ := o.iv_ptr
    have hfz := fun (z' : PT) (hz' : z'.ok) => c_pfork a k z' o h1 h2 (PT.hash_size hz') (PT.hash_size h5)
    have hfo := fun (o' : PT) (ho' : o'.ok) => c_pfork a k z o' h1 h2 (PT.hash_size h4) (PT.hash_size ho')
    have hzo := fun u h => PT.drop_ok (key := key) (u := u) h4 h
    have hoo := fun u h => PT.drop_ok (key := key) (u := u) h5 h
    have hself : ∃ hs, (PT.fork a k z o).iv = .ptr [.bool false, .bool false, .str k, .str ⟨#[]⟩, .int .i64 (a : Int), z.iv, o.iv, .str hs] := ⟨_, rfl⟩
    obtain ⟨hs, hself⟩ := hself
    rw [h3] at hfz hfo
    rw [PT.drop] at hk
    have hzz : oiv (some z) = z.iv := rfl
    have hoz : oiv (some o) = o.iv := rfl
    have hsz : oiv (some (.fork a k z o)) = (PT.fork a k z o).iv := rfl
    rw [ez] at iz hfo hzz hself
    rw [eo] at io hfz hoz hself
    rw [hself] at hsz ⊢
    clear ez eo hself
    refine mk {} (fn := Tryz.f94) Tryz.func94 (by kernel_rfl) (by kernel_rfl) (Nat.le_of_ble_eq_true (Eq.refl true)) fun S hS => ?_
    conv => whnf
    refine ⟨.i (.int .i64 (common k key : Int)), hS _ _ _ _ <| c_CommonE k key h2 hkey _ (fun r hr => ⟨by rw [hr], rfl⟩), rfl, ?_⟩
    conv => whnf
    by_cases c : common k key < a
    · rw [if_pos c] at hk
      rw [decide_eq_true (show (common k key : Int) < (a : Int) by omega)]
      conv => whnf
      simp only [dropR, hsz] at hk
      exact hk
    · rw [if_neg c] at hk
      rw [decide_eq_false (show ¬ ((common k key : Int) < (a : Int)) by omega)]
      conv => whnf
      refine hS _ _ _ _ <| c_Bit key a hkey h1 _ ?_
      conv => whnf
      cases hb : bit key a
      · rw [if_pos hb] at hk
        conv => whnf
        refine hS _ _ _ _ <| iz _ fun u hu => ?_
        subst hu
        cases e : z.drop key with
        | none =>
          conv => whnf
          rw [e] at hk
          exact hk
        | some q =>
          rw [e] at hk
          cases q with
          | none =>
            conv => whnf
            simp only [dropR, hoz] at hk
            exact hk
          | some z' =>
            have hf := hfz z' (hzo z' e)
            simp only [dropR, oiv] at hk ⊢
            obtain ⟨l, s, kk, vv, aa, zz', oo', e'⟩ := z'.iv_ptr
            rw [e'] at hf ⊢
            conv => whnf
            refine ⟨_, hS _ _ _ _ <| hf _ (fun q hq => ⟨by rw [hq], rfl⟩), rfl, ?_⟩
            conv => whnf
            exact hk
      · rw [if_neg (by rw [hb]; simp)] at hk
        conv => whnf
        refine hS _ _ _ _ <| io _ fun u hu => ?_
        subst hu
        cases e : o.drop key with
        | none =>
          conv => whnf
          rw [e] at hk
          exact hk
        | some q =>
          rw [e] at hk
          cases q with
          | none =>
            conv => whnf
            simp only [dropR, hzz] at hk
            exact hk
          | some z' =>
            have hf := hfo z' (hoo z' e)
            simp only [dropR, oiv] at hk ⊢
            obtain ⟨l, s, kk, vv, aa, zz', oo', e'⟩ := z'.iv_ptr
            rw [e'] at hf ⊢
            conv => whnf
            refine ⟨_, hS _ _ _ _ <| hf _ (fun q hq => ⟨by rw [hq], rfl⟩), rfl, ?_⟩
            conv => whnf
            exact hk
/-- a part, if it is known -/
def partR : Option (Option PT) → AV
  | none => .tup [.i .nilp, .i (.bool false)]
  | some p => .tup [.i (pv p), .i (.bool true)]
set_option maxRecDepth 100000 in
theorem c_PPut (p : Option PT) (hp : ∀ t, p = some t → t.ok) (key val : ByteArray) (hkey : key.size = 32) (hv : val.size < 536870912) (K : AV → List Blk → Prop) (hk : ∀ u, u = partR ((putP key val p).map some) → K u []) : SP 32 [.i (pv p), .i (.str key), .i (.str val)] [] K := by
  have hk := hk _ rfl
  have hks : ((key.size : Int) != 32) = false := by rw [hkey]; rfl
  refine mk {} (fn := Tryz.f32) Tryz.func32 (by kernel_rfl) (by kernel_rfl) (Nat.le_of_ble_eq_true (Eq.refl true)) fun S hS => ?_
  conv => whnf
  rw [hks]
  conv => whnf
  cases p with
  | none =>
    refine hS _ _ _ _ <| c_pputN key val hkey hv _ fun u hu => ?_
    rw [PT.iv] at hu
    rw [hu]
    conv => whnf
    exact hk
  | some t =>
    refine hS _ _ _ _ <| c_pput key val hkey hv t (hp t rfl) _ fun u hu => ?_
    rw [putP] at hk
    subst hu
    cases e : t.put key val with
    | none =>
      rw [e] at hk
      conv => whnf
      exact hk
    | some q =>
      rw [e] at hk
      simp only [oiv, Option.map_some, partR, pv, topV] at hk ⊢
      obtain ⟨l, s, kk, vv, aa, zz', oo', e'⟩ := q.iv_ptr
      rw [e'] at hk ⊢
      conv => whnf
      exact hk
set_option maxRecDepth 100000 in
theorem c_PDel (p : Option PT) (hp : ∀ t, p = some t → t.ok) (key : ByteArray) (hkey : key.size = 32) (K : AV → List Blk → Prop) (hk : ∀ u, u = partR (dropP key p) → K u []) : SP 59 [.i (pv p), .i (.str key)] [] K := by
  have hk := hk _ rfl
  have hks : ((key.size : Int) != 32) = false := by rw [hkey]; rfl
  refine mk {} (fn := Tryz.f59) Tryz.func59 (by kernel_rfl) (by kernel_rfl) (Nat.le_of_ble_eq_true (Eq.refl true)) fun S hS => ?_
  conv => whnf
  rw [hks]
  conv => whnf
  cases p with
  | none =>
    refine hS _ _ _ _ <| c_pdropN key _ ?_
    conv => whnf
    exact hk
  | some t =>
    refine hS _ _ _ _ <| c_pdrop key hkey t (hp t rfl) _ fun u hu => ?_
    rw [dropP] at hk
    subst hu
    cases e : t.drop key with
    | none =>
      rw [e] at hk
      conv => whnf
      exact hk
    | some q =>
      rw [e] at hk
      cases q with
      | none =>
        conv => whnf
        exact hk
      | some q =>
        conv => whnf
        exact hk
end Go.Proofs.YtmfilaagpobmbaaGreatDoor
