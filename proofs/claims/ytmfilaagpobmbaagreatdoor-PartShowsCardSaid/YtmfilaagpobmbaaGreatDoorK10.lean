/- A part of the proof of a seat of parts: K10, K11. -/
import Derived.Test.YtmfilaagpobmbaaGreatDoorK8
import Derived.Test.YtmfilaagpobmbaaGreatDoorS5
set_option linter.all false
namespace Go.Proofs.YtmfilaagpobmbaaGreatDoor
open Go Go.Abs
theorem four_all {a b c d : IV} : ∀ e ∈ [[a, b, c, d]], e.length = 4 := one_all rfl
theorem ivs_one (n : Nd) (l : List Nd) : ivs (n :: l) = n.iv :: ivs l := rfl
set_option maxRecDepth 100000 in
set_option maxHeartbeats 8000000 in
theorem c_showF (a : Nat) (k : ByteArray) (ha : a < 256) (zh oh : ByteArray) (zl ol : Bool) (zk ok zv ov : ByteArray) (za oa : Int) (zz zo oz oo : IV) (ks : List ByteArray) (us : List UP) (kz ko : List ByteArray) (uz uo : List UP) (sz so : List Nd) (hs : ByteArray)
    (acc : List Nd) (n : Nat) (L : List (List IV)) (hL : L = ivs acc) (hn : n = acc.length)
    (hb : acc.length + (Nd.lst [.num a, .str k] :: ((if kz.isEmpty && uz.isEmpty then [Nd.str zh] else sz) ++ (if ko.isEmpty && uo.isEmpty then [Nd.str oh] else so))).length < 1000000)
    (iz : ∀ (acc : List Nd) (n : Nat) (L : List (List IV)), L = ivs acc → n = acc.length → acc.length + sz.length < 1000000 → ∀ K : AV → List Blk → Prop, (∀ n' L', L' = ivs (acc ++ sz) → n' = (acc ++ sz).length → K (.one (.sl 0 0 n')) [.vec 4 L' true]) →
      SP 42 [.i (.ptr [.bool zl, .bool false, .str zk, .str zv, .int .i64 za, zz, zo, .str zh]), .agg [.imm (.lst (sv kz)), .imm (.lst (uv uz))], .one (.sl 0 0 n)] [.vec 4 L true] K)
    (io : ∀ (acc : List Nd) (n : Nat) (L : List (List IV)), L = ivs acc → n = acc.length → acc.length + so.length < 1000000 → ∀ K : AV → List Blk → Prop, (∀ n' L', L' = ivs (acc ++ so) → n' = (acc ++ so).length → K (.one (.sl 0 0 n')) [.vec 4 L' true]) →
      SP 42 [.i (.ptr [.bool ol, .bool false, .str ok, .str ov, .int .i64 oa, oz, oo, .str oh]), .agg [.imm (.lst (sv ko)), .imm (.lst (uv uo))], .one (.sl 0 0 n)] [.vec 4 L true] K)
    (bz : ∀ (z o h : IV) (K : AV → List Blk → Prop), (∀ A B, A = sv kz → B = uv uz → K (.agg [.imm (.lst A), .imm (.lst B)]) []) → SP 77 [.agg [.imm (.lst (sv ks)), .imm (.lst (uv us))], .i (.ptr [.bool false, .bool false, .str k, .str ⟨#[]⟩, .int .i64 (a : Int), z, o, h]), .i (.int .u8 ((false.toNat : Nat) : Int))] [] K)
    (bo : ∀ (z o h : IV) (K : AV → List Blk → Prop), (∀ A B, A = sv ko → B = uv uo → K (.agg [.imm (.lst A), .imm (.lst B)]) []) → SP 77 [.agg [.imm (.lst (sv ks)), .imm (.lst (uv us))], .i (.ptr [.bool false, .bool false, .str k, .str ⟨#[]⟩, .int .i64 (a : Int), z, o, h]), .i (.int .u8 ((true.toNat : Nat) : Int))] [] K)
    (nz : ∀ K : AV → List Blk → Prop, K (.i (.bool (kz.isEmpty && uz.isEmpty))) [] → SP 78 [.agg [.imm (.lst (sv kz)), .imm (.lst (uv uz))]] [] K)
    (no : ∀ K : AV → List Blk → Prop, K (.i (.bool (ko.isEmpty && uo.isEmpty))) [] → SP 78 [.agg [.imm (.lst (sv ko)), .imm (.lst (uv uo))]] [] K)
    (K : AV → List Blk → Prop) (hk : ∀ n' L', L' = ivs (acc ++ Nd.lst [.num a, .str k] :: ((if kz.isEmpty && uz.isEmpty then [Nd.str zh] else sz) ++ (if ko.isEmpty && uo.isEmpty then [Nd.str oh] else so))) → n' = (acc ++ Nd.lst [.num a, .str k] :: ((if kz.isEmpty && uz.isEmpty then [Nd.str zh] else sz) ++ (if ko.isEmpty && uo.isEmpty then [Nd.str oh] else so))).length → K (.one (.sl 0 0 n')) [.vec 4 L' true]) :
    SP 42 [.i (.ptr [.bool false, .bool false, .str k, .str ⟨#[]⟩, .int .i64 (a : Int), .ptr [.bool zl, .bool false, .str zk, .str zv, .int .i64 za, zz, zo, .str zh], .ptr [.bool ol, .bool false, .str ok, .str ov, .int .i64 oa, oz, oo, .str oh], .str hs]), .agg [.imm (.lst (sv ks)), .imm (.lst (uv us))], .one (.sl 0 0 n)] [.vec 4 L true] K := by
  have hLl : L.length = acc.length := by rw [hL, ivs_len]
  refine mk {res := false, inc := 1, frz := [4, 73], keep := [(5, [0, 2, 4, 53, 54, 55])]} (fn := Tryz.f42) Tryz.func42 (by kernel_rfl) (by kernel_rfl) (Nat.le_of_ble_eq_true (Eq.refl true)) fun S hS => ?_
  conv => whnf
  rw [u64n a (by omega)]
  refine ⟨.agg [.imm (.int .i64 0), .imm (.int .u64 (a : Int)), .imm (.str ⟨#[]⟩), .imm (.lst [])], hS _ _ _ _ <| c_N a _ ⟨rfl, rfl⟩, rfl, ?_⟩
  conv => whnf
  refine ⟨.agg [.imm (.int .i64 1), .imm (.int .u64 0), .imm (.str k), .imm (.lst [])], hS _ _ _ _ <| c_S k _ ⟨rfl, rfl⟩, rfl, ?_⟩
  conv => whnf
  refine ⟨aLst (ivs [.num a, .str k]), hS _ _ _ _ <| c_LL _ _ (ivs_all [.num a, .str k]) (show 1 < 536870912 by decide) _ (fun L hL => ⟨by rw [hL]; rfl, rfl⟩), rfl, ?_⟩
  conv => whnf
  refine ⟨four_all, ?_⟩
  conv => whnf
  refine ⟨by omega, by show (L.length + 1) * 56 ≤ 17592186044416; simp only [List.length_cons, List.length_append] at hb; omega, ?_⟩
  conv => whnf
  have hlen1 : (acc ++ [Nd.lst [.num a, .str k]]).length = acc.length + 1 := by simp
  simp only [List.length_cons, List.length_append] at hb
  intro X hX
  have done : ∀ (acc3 : List Nd) (n3 : Nat) (L3 : List (List IV)), L3 = ivs acc3 → n3 = acc3.length → acc3 = acc ++ Nd.lst [.num a, .str k] :: ((if kz.isEmpty && uz.isEmpty then [Nd.str zh] else sz) ++ (if ko.isEmpty && uo.isEmpty then [Nd.str oh] else so)) → K (.one (.sl 0 0 n3)) [.vec 4 L3 true] := by
    intro acc3 n3 L3 h1 h2 h3
    subst h3
    exact hk _ _ h1 h2
  have step2 : ∀ (acc2 : List Nd) (n2 : Nat) (L2 : List (List IV)), L2 = ivs acc2 → n2 = acc2.length → acc2 = acc ++ Nd.lst [.num a, .str k] :: (if kz.isEmpty && uz.isEmpty then [Nd.str zh] else sz) →
      frK (kfr 81 [(0, .i (.ptr [.bool false, .bool false, .str k, .str ⟨#[]⟩, .int .i64 (a : Int), .ptr [.bool zl, .bool false, .str zk, .str zv, .int .i64 za, zz, zo, .str zh], .ptr [.bool ol, .bool false, .str ok, .str ov, .int .i64 oa, oz, oo, .str oh], .str hs])), (2, .one (.sl 0 0 n2)), (4, .i (.ptr [.lst (sv ks), .lst (uv us)])),
        (53, .i (.lst [[.ptr [.bool zl, .bool false, .str zk, .str zv, .int .i64 za, zz, zo, .str zh]], [.ptr [.bool ol, .bool false, .str ok, .str ov, .int .i64 oa, oz, oo, .str oh]]])), (54, .i (.int .i64 2)), (55, .i (.int .i64 1))] [.vec 4 L2 true]) X := by
    intro acc2 n2 L2 hL2 hn2 hacc2
    have hl2 : L2.length = acc2.length := by rw [hL2, ivs_len]
    have hb2 : acc2.length = acc.length + ((if kz.isEmpty && uz.isEmpty then [Nd.str zh] else sz).length + 1) := by rw [hacc2]; simp
    conv => whnf
    apply hX
    conv => whnf
    refine ⟨_, by decide, rfl, rfl, ?_⟩
    conv => whnf
    refine hS _ _ _ _ <| bo _ _ _ _ fun A B hA hB => ?_
    subst hA hB
    conv => whnf
    refine hS _ _ _ _ <| no _ ?_
    generalize (ko.isEmpty && uo.isEmpty) = c at hb done
    cases c
    · conv => whnf
      rw [if_neg (show ¬ (false = true) by simp) (c := false = true) (t := [Nd.str oh]) (e := so)] at hb
      refine hS _ _ _ _ <| io acc2 _ _ hL2 hn2 (by omega) _ fun n' L' hL' hn' => ?_
      conv => whnf
      apply hX
      conv => whnf
      exact done _ _ _ hL' hn' (by rw [hacc2]; simp)
    · conv => whnf
      refine hS _ _ _ _ <| c_S oh _ ?_
      conv => whnf
      refine ⟨four_all, ?_⟩
      conv => whnf
      refine ⟨by omega, by show (L2.length + 1) * 56 ≤ 17592186044416; omega, ?_⟩
      conv => whnf
      apply hX
      conv => whnf
      exact done (acc2 ++ [.str oh]) _ _ (by rw [hL2, ← ivs_app]; rfl) (by rw [hn2, List.length_append]; rfl) (by rw [hacc2]; simp)
  apply hX
  conv => whnf
  refine ⟨_, by decide, rfl, rfl, ?_⟩
  conv => whnf
  refine hS _ _ _ _ <| bz _ _ _ _ fun A B hA hB => ?_
  subst hA hB
  conv => whnf
  refine hS _ _ _ _ <| nz _ ?_
  generalize (kz.isEmpty && uz.isEmpty) = c at hb step2
  cases c
  · conv => whnf
    refine hS _ _ _ _ <| iz (acc ++ [.lst [.num a, .str k]]) _ _ (by rw [hL, ← ivs_app]; rfl) (by rw [hn, List.length_append]; rfl) (by simp at hb ⊢; omega) _ fun n' L' hL' hn' => ?_
    conv => whnf
    exact step2 _ _ _ hL' hn' (by simp)
  · conv => whnf
    refine hS _ _ _ _ <| c_S zh _ ?_
    conv => whnf
    refine ⟨four_all, ?_⟩
    conv => whnf
    refine ⟨by simp; omega, by show ((L ++ [_]).length + 1) * 56 ≤ 17592186044416; rw [List.length_append]; simp only [List.length_singleton]; omega, ?_⟩
    conv => whnf
    exact step2 (acc ++ [.lst [.num a, .str k], .str zh]) _ _ (by rw [hL, List.append_assoc, ← ivs_app]; rfl) (by rw [hn, List.length_append]; rfl) (by simp)
set_option maxRecDepth 100000 in
set_option maxHeartbeats 8000000 in
theorem c_showS : ∀ (t : T) (_ : t.good) (_ : t ≠ .nil) (ks : List ByteArray) (us : List UP) (_ : ks.length < 1000000) (_ : us.length < 1000000) (_ : ∀ x ∈ ks, x.size = 32) (_ : ∀ p ∈ us, okU p = true)
    (acc : List Nd) (n : Nat) (L : List (List IV)) (_ : L = ivs acc) (_ : n = acc.length) (_ : acc.length + (showN t ks us).length < 1000000) (K : AV → List Blk → Prop)
    (_ : ∀ n' L', L' = ivs (acc ++ showN t ks us) → n' = (acc ++ showN t ks us).length → K (.one (.sl 0 0 n')) [.vec 4 L' true]),
    SP 42 [.i t.iv, .agg [.imm (.lst (sv ks)), .imm (.lst (uv us))], .one (.sl 0 0 n)] [.vec 4 L true] K := by
  intro t
  induction t with
  | nil => intro _ h; exact absurd rfl h
  | leaf k v =>
    intro hg hne ks us hk9 hu9 hks hus acc n L hL hn hb K hk
    have hLl : L.length = acc.length := by rw [hL, ivs_len]
    simp only [showN, List.length_singleton] at hk hb
    rw [T.iv_leaf]
    generalize (T.leaf k v).hash = hs
    refine mk {res := false, inc := 1, frz := [4, 73], keep := [(5, [0, 2, 4, 53, 54, 55])]} (fn := Tryz.f42) Tryz.func42 (by kernel_rfl) (by kernel_rfl) (Nat.le_of_ble_eq_true (Eq.refl true)) fun S hS => ?_
    conv => whnf
    refine ⟨.agg [.imm (.int .i64 1), .imm (.int .u64 0), .imm (.str k), .imm (.lst [])], hS _ _ _ _ <| c_S k _ ⟨rfl, rfl⟩, rfl, ?_⟩
    conv => whnf
    refine ⟨.agg [.imm (.int .i64 1), .imm (.int .u64 0), .imm (.str v), .imm (.lst [])], hS _ _ _ _ <| c_S v _ ⟨rfl, rfl⟩, rfl, ?_⟩
    conv => whnf
    refine ⟨aLst (ivs [.str k, .str v]), hS _ _ _ _ <| c_LL _ _ (ivs_all [.str k, .str v]) (show 1 < 536870912 by decide) _ (fun L hL => ⟨by rw [hL]; rfl, rfl⟩), rfl, ?_⟩
    conv => whnf
    refine ⟨four_all, ?_⟩
    conv => whnf
    refine ⟨by omega, by show (L.length + 1) * 56 ≤ 17592186044416; omega, ?_⟩
    conv => whnf
    exact hk _ _ (by rw [hL, ← ivs_app]; rfl) (by rw [hn, List.length_append]; rfl)
  | fork a k z o iz io =>
    intro hg hne ks us hk9 hu9 hks hus acc n L hL hn hb K hk
    have hLl : L.length = acc.length := by rw [hL, ivs_len]
    have hk32 := T.ksize hg
    obtain ⟨h1, h2, h3, h4, h5, _, _, _⟩ := hg
    obtain ⟨zl, zk, zv, za, zz, zo, ez⟩ := z.iv_ptr h2
    obtain ⟨ol, ok, ov, oa, oz, oo, eo⟩ := o.iv_ptr h3
    have fl : ∀ s, (ks.filter (leadK a k s)).length < 1000000 := fun s => Nat.lt_of_le_of_lt (List.length_filter_le _ _) hk9
    have fu : ∀ s, (us.filter (leadU a k s)).length < 1000000 := fun s => Nat.lt_of_le_of_lt (List.length_filter_le _ _) hu9
    have fk : ∀ s, ∀ x ∈ ks.filter (leadK a k s), x.size = 32 := fun s x hx => hks x (List.mem_filter.1 hx).1
    have fp : ∀ s, ∀ p ∈ us.filter (leadU a k s), okU p = true := fun s x hx => hus x (List.mem_filter.1 hx).1
    have iz := iz h4 h2 (ks.filter (leadK a k false)) (us.filter (leadU a k false)) (fl _) (fu _) (fk _) (fp _)
    have io := io h5 h3 (ks.filter (leadK a k true)) (us.filter (leadU a k true)) (fl _) (fu _) (fk _) (fp _)
    have bz := fun z o h K hk => c_below ks us hk9 hu9 hks hus a h1 k hk32 false false ⟨#[]⟩ z o h false K hk
    have bo := fun z o h K hk => c_below ks us hk9 hu9 hks hus a h1 k hk32 false false ⟨#[]⟩ z o h true K hk
    have nz := fun K hk => c_none (ks.filter (leadK a k false)) (us.filter (leadU a k false)) (fl _) (fu _) K hk
    have no := fun K hk => c_none (ks.filter (leadK a k true)) (us.filter (leadU a k true)) (fl _) (fu _) K hk
    rw [showN] at hk hb
    rw [T.iv_fork]
    rw [ez] at iz ⊢
    rw [eo] at io ⊢
    clear ez eo
    generalize (T.fork a k z o).hash = hs
    generalize ks.filter (leadK a k false) = kz at *
    generalize ks.filter (leadK a k true) = ko at *
    generalize us.filter (leadU a k false) = uz at *
    generalize us.filter (leadU a k true) = uo at *
    generalize showN z kz uz = sz at *
    generalize showN o ko uo = so at *
    generalize z.hash = zh at *
    generalize o.hash = oh at *
    exact c_showF a k (by omega) zh oh _ _ _ _ _ _ _ _ _ _ _ _ ks us kz ko uz uo sz so hs acc n L hL hn hb iz io bz bo nz no K hk
set_option maxRecDepth 100000 in
set_option maxHeartbeats 8000000 in
theorem c_showF0 (a : Nat) (k : ByteArray) (ha : a < 256) (zh oh : ByteArray) (zl ol : Bool) (zk ok zv ov : ByteArray) (za oa : Int) (zz zo oz oo : IV) (ks : List ByteArray) (us : List UP) (kz ko : List ByteArray) (uz uo : List UP) (sz so : List Nd) (hs : ByteArray)
    (hb : (Nd.lst [.num a, .str k] :: ((if kz.isEmpty && uz.isEmpty then [Nd.str zh] else sz) ++ (if ko.isEmpty && uo.isEmpty then [Nd.str oh] else so))).length < 1000000)
    (iz : ∀ (acc : List Nd) (n : Nat) (L : List (List IV)), L = ivs acc → n = acc.length → acc.length + sz.length < 1000000 → ∀ K : AV → List Blk → Prop, (∀ n' L', L' = ivs (acc ++ sz) → n' = (acc ++ sz).length → K (.one (.sl 0 0 n')) [.vec 4 L' true]) →
      SP 42 [.i (.ptr [.bool zl, .bool false, .str zk, .str zv, .int .i64 za, zz, zo, .str zh]), .agg [.imm (.lst (sv kz)), .imm (.lst (uv uz))], .one (.sl 0 0 n)] [.vec 4 L true] K)
    (io : ∀ (acc : List Nd) (n : Nat) (L : List (List IV)), L = ivs acc → n = acc.length → acc.length + so.length < 1000000 → ∀ K : AV → List Blk → Prop, (∀ n' L', L' = ivs (acc ++ so) → n' = (acc ++ so).length → K (.one (.sl 0 0 n')) [.vec 4 L' true]) →
      SP 42 [.i (.ptr [.bool ol, .bool false, .str ok, .str ov, .int .i64 oa, oz, oo, .str oh]), .agg [.imm (.lst (sv ko)), .imm (.lst (uv uo))], .one (.sl 0 0 n)] [.vec 4 L true] K)
    (bz : ∀ (z o h : IV) (K : AV → List Blk → Prop), (∀ A B, A = sv kz → B = uv uz → K (.agg [.imm (.lst A), .imm (.lst B)]) []) → SP 77 [.agg [.imm (.lst (sv ks)), .imm (.lst (uv us))], .i (.ptr [.bool false, .bool false, .str k, .str ⟨#[]⟩, .int .i64 (a : Int), z, o, h]), .i (.int .u8 ((false.toNat : Nat) : Int))] [] K)
    (bo : ∀ (z o h : IV) (K : AV → List Blk → Prop), (∀ A B, A = sv ko → B = uv uo → K (.agg [.imm (.lst A), .imm (.lst B)]) []) → SP 77 [.agg [.imm (.lst (sv ks)), .imm (.lst (uv us))], .i (.ptr [.bool false, .bool false, .str k, .str ⟨#[]⟩, .int .i64 (a : Int), z, o, h]), .i (.int .u8 ((true.toNat : Nat) : Int))] [] K)
    (nz : ∀ K : AV → List Blk → Prop, K (.i (.bool (kz.isEmpty && uz.isEmpty))) [] → SP 78 [.agg [.imm (.lst (sv kz)), .imm (.lst (uv uz))]] [] K)
    (no : ∀ K : AV → List Blk → Prop, K (.i (.bool (ko.isEmpty && uo.isEmpty))) [] → SP 78 [.agg [.imm (.lst (sv ko)), .imm (.lst (uv uo))]] [] K)
    (K : AV → List Blk → Prop) (hk : ∀ n' L', L' = ivs (Nd.lst [.num a, .str k] :: ((if kz.isEmpty && uz.isEmpty then [Nd.str zh] else sz) ++ (if ko.isEmpty && uo.isEmpty then [Nd.str oh] else so))) → n' = (Nd.lst [.num a, .str k] :: ((if kz.isEmpty && uz.isEmpty then [Nd.str zh] else sz) ++ (if ko.isEmpty && uo.isEmpty then [Nd.str oh] else so))).length → K (.one (.sl 0 0 n')) [.vec 4 L' true]) :
    SP 42 [.i (.ptr [.bool false, .bool false, .str k, .str ⟨#[]⟩, .int .i64 (a : Int), .ptr [.bool zl, .bool false, .str zk, .str zv, .int .i64 za, zz, zo, .str zh], .ptr [.bool ol, .bool false, .str ok, .str ov, .int .i64 oa, oz, oo, .str oh], .str hs]), .agg [.imm (.lst (sv ks)), .imm (.lst (uv us))], .one .nils] [] K := by
  refine mk {res := false, inc := 0, frz := [4, 73], keep := [(5, [0, 2, 4, 53, 54, 55])]} (fn := Tryz.f42) Tryz.func42 (by kernel_rfl) (by kernel_rfl) (Nat.le_of_ble_eq_true (Eq.refl true)) fun S hS => ?_
  conv => whnf
  rw [u64n a (by omega)]
  refine ⟨.agg [.imm (.int .i64 0), .imm (.int .u64 (a : Int)), .imm (.str ⟨#[]⟩), .imm (.lst [])], hS _ _ _ _ <| c_N a _ ⟨rfl, rfl⟩, rfl, ?_⟩
  conv => whnf
  refine ⟨.agg [.imm (.int .i64 1), .imm (.int .u64 0), .imm (.str k), .imm (.lst [])], hS _ _ _ _ <| c_S k _ ⟨rfl, rfl⟩, rfl, ?_⟩
  conv => whnf
  refine ⟨aLst (ivs [.num a, .str k]), hS _ _ _ _ <| c_LL _ _ (ivs_all [.num a, .str k]) (show 1 < 536870912 by decide) _ (fun L hL => ⟨by rw [hL]; rfl, rfl⟩), rfl, ?_⟩
  conv => whnf
  refine ⟨four_all, ?_⟩
  conv => whnf
  refine ⟨by show (0 + 1) * 56 ≤ 17592186044416; decide, ?_⟩
  conv => whnf
  simp only [List.length_cons, List.length_append] at hb
  intro X hX
  have done : ∀ (acc3 : List Nd) (n3 : Nat) (L3 : List (List IV)), L3 = ivs acc3 → n3 = acc3.length → acc3 = Nd.lst [.num a, .str k] :: ((if kz.isEmpty && uz.isEmpty then [Nd.str zh] else sz) ++ (if ko.isEmpty && uo.isEmpty then [Nd.str oh] else so)) → K (.one (.sl 0 0 n3)) [.vec 4 L3 true] := by
    intro acc3 n3 L3 h1 h2 h3
    subst h3
    exact hk _ _ h1 h2
  have step2 : ∀ (acc2 : List Nd) (n2 : Nat) (L2 : List (List IV)), L2 = ivs acc2 → n2 = acc2.length → acc2 = Nd.lst [.num a, .str k] :: (if kz.isEmpty && uz.isEmpty then [Nd.str zh] else sz) →
      frK (kfr 81 [(0, .i (.ptr [.bool false, .bool false, .str k, .str ⟨#[]⟩, .int .i64 (a : Int), .ptr [.bool zl, .bool false, .str zk, .str zv, .int .i64 za, zz, zo, .str zh], .ptr [.bool ol, .bool false, .str ok, .str ov, .int .i64 oa, oz, oo, .str oh], .str hs])), (2, .one (.sl 0 0 n2)), (4, .i (.ptr [.lst (sv ks), .lst (uv us)])),
        (53, .i (.lst [[.ptr [.bool zl, .bool false, .str zk, .str zv, .int .i64 za, zz, zo, .str zh]], [.ptr [.bool ol, .bool false, .str ok, .str ov, .int .i64 oa, oz, oo, .str oh]]])), (54, .i (.int .i64 2)), (55, .i (.int .i64 1))] [.vec 4 L2 true]) X := by
    intro acc2 n2 L2 hL2 hn2 hacc2
    have hl2 : L2.length = acc2.length := by rw [hL2, ivs_len]
    have hb2 : acc2.length = ((if kz.isEmpty && uz.isEmpty then [Nd.str zh] else sz).length + 1) := by rw [hacc2]; simp
    conv => whnf
    apply hX
    conv => whnf
    refine ⟨_, by decide, rfl, rfl, ?_⟩
    conv => whnf
    refine hS _ _ _ _ <| bo _ _ _ _ fun A B hA hB => ?_
    subst hA hB
    conv => whnf
    refine hS _ _ _ _ <| no _ ?_
    generalize (ko.isEmpty && uo.isEmpty) = c at hb done
    cases c
    · conv => whnf
      rw [if_neg (show ¬ (false = true) by simp) (c := false = true) (t := [Nd.str oh]) (e := so)] at hb
      refine hS _ _ _ _ <| io acc2 _ _ hL2 hn2 (by omega) _ fun n' L' hL' hn' => ?_
      conv => whnf
      apply hX
      conv => whnf
      exact done _ _ _ hL' hn' (by rw [hacc2]; simp)
    · conv => whnf
      refine hS _ _ _ _ <| c_S oh _ ?_
      conv => whnf
      refine ⟨four_all, ?_⟩
      conv => whnf
      refine ⟨by omega, by show (L2.length + 1) * 56 ≤ 17592186044416; omega, ?_⟩
      conv => whnf
      apply hX
      conv => whnf
      exact done (acc2 ++ [.str oh]) _ _ (by rw [hL2, ← ivs_app]; rfl) (by rw [hn2, List.length_append]; rfl) (by rw [hacc2]; simp)
  apply hX
  conv => whnf
  refine ⟨_, by decide, rfl, rfl, ?_⟩
  conv => whnf
  refine hS _ _ _ _ <| bz _ _ _ _ fun A B hA hB => ?_
  subst hA hB
  conv => whnf
  refine hS _ _ _ _ <| nz _ ?_
  generalize (kz.isEmpty && uz.isEmpty) = c at hb step2
  cases c
  · conv => whnf
    refine hS _ _ _ _ <| iz [.lst [.num a, .str k]] 1 [[.int .i64 2, .int .u64 0, .str ⟨#[]⟩, .lst (ivs [.num a, .str k])]] rfl rfl (by simp at hb ⊢; omega) _ fun n' L' hL' hn' => ?_
    conv => whnf
    exact step2 _ _ _ hL' hn' (by simp)
  · conv => whnf
    refine hS _ _ _ _ <| c_S zh _ ?_
    conv => whnf
    refine ⟨four_all, ?_⟩
    conv => whnf
    refine ⟨rfl, by show (1 + 1) * 56 ≤ 17592186044416; decide, ?_⟩
    conv => whnf
    exact step2 [.lst [.num a, .str k], .str zh] 2 [[.int .i64 2, .int .u64 0, .str ⟨#[]⟩, .lst (ivs [.num a, .str k])], [.int .i64 1, .int .u64 0, .str zh, .lst []]] rfl rfl (by simp)
set_option maxRecDepth 100000 in
set_option maxHeartbeats 8000000 in
theorem c_show0 : ∀ (t : T) (_ : t.good) (_ : t ≠ .nil) (ks : List ByteArray) (us : List UP) (_ : ks.length < 1000000) (_ : us.length < 1000000) (_ : ∀ x ∈ ks, x.size = 32) (_ : ∀ p ∈ us, okU p = true)
    (_ : (showN t ks us).length < 1000000) (K : AV → List Blk → Prop)
    (_ : ∀ n' L', L' = ivs (showN t ks us) → n' = (showN t ks us).length → K (.one (.sl 0 0 n')) [.vec 4 L' true]),
    SP 42 [.i t.iv, .agg [.imm (.lst (sv ks)), .imm (.lst (uv us))], .one .nils] [] K := by
  intro t
  induction t with
  | nil => intro _ h; exact absurd rfl h
  | leaf k v =>
    intro hg hne ks us hk9 hu9 hks hus hb K hk
    simp only [showN, List.length_singleton] at hk hb
    rw [T.iv_leaf]
    generalize (T.leaf k v).hash = hs
    refine mk {res := false, inc := 0, frz := [4, 73], keep := [(5, [0, 2, 4, 53, 54, 55])]} (fn := Tryz.f42) Tryz.func42 (by kernel_rfl) (by kernel_rfl) (Nat.le_of_ble_eq_true (Eq.refl true)) fun S hS => ?_
    conv => whnf
    refine ⟨.agg [.imm (.int .i64 1), .imm (.int .u64 0), .imm (.str k), .imm (.lst [])], hS _ _ _ _ <| c_S k _ ⟨rfl, rfl⟩, rfl, ?_⟩
    conv => whnf
    refine ⟨.agg [.imm (.int .i64 1), .imm (.int .u64 0), .imm (.str v), .imm (.lst [])], hS _ _ _ _ <| c_S v _ ⟨rfl, rfl⟩, rfl, ?_⟩
    conv => whnf
    refine ⟨aLst (ivs [.str k, .str v]), hS _ _ _ _ <| c_LL _ _ (ivs_all [.str k, .str v]) (show 1 < 536870912 by decide) _ (fun L hL => ⟨by rw [hL]; rfl, rfl⟩), rfl, ?_⟩
    conv => whnf
    refine ⟨four_all, ?_⟩
    conv => whnf
    refine ⟨by show (0 + 1) * 56 ≤ 17592186044416; decide, ?_⟩
    conv => whnf
    exact hk 1 [[.int .i64 2, .int .u64 0, .str ⟨#[]⟩, .lst (ivs [.str k, .str v])]] rfl rfl
  | fork a k z o iz io =>
    intro hg hne ks us hk9 hu9 hks hus hb K hk
    have hk32 := T.ksize hg
    obtain ⟨h1, h2, h3, h4, h5, _, _, _⟩ := hg
    obtain ⟨zl, zk, zv, za, zz, zo, ez⟩ := z.iv_ptr h2
    obtain ⟨ol, ok, ov, oa, oz, oo, eo⟩ := o.iv_ptr h3
    have fl : ∀ s, (ks.filter (leadK a k s)).length < 1000000 := fun s => Nat.lt_of_le_of_lt (List.length_filter_le _ _) hk9
    have fu : ∀ s, (us.filter (leadU a k s)).length < 1000000 := fun s => Nat.lt_of_le_of_lt (List.length_filter_le _ _) hu9
    have fk : ∀ s, ∀ x ∈ ks.filter (leadK a k s), x.size = 32 := fun s x hx => hks x (List.mem_filter.1 hx).1
    have fp : ∀ s, ∀ p ∈ us.filter (leadU a k s), okU p = true := fun s x hx => hus x (List.mem_filter.1 hx).1
    have iz := c_showS z h4 h2 (ks.filter (leadK a k false)) (us.filter (leadU a k false)) (fl _) (fu _) (fk _) (fp _)
    have io := c_showS o h5 h3 (ks.filter (leadK a k true)) (us.filter (leadU a k true)) (fl _) (fu _) (fk _) (fp _)
    have bz := fun z o h K hk => c_below ks us hk9 hu9 hks hus a h1 k hk32 false false ⟨#[]⟩ z o h false K hk
    have bo := fun z o h K hk => c_below ks us hk9 hu9 hks hus a h1 k hk32 false false ⟨#[]⟩ z o h true K hk
    have nz := fun K hk => c_none (ks.filter (leadK a k false)) (us.filter (leadU a k false)) (fl _) (fu _) K hk
    have no := fun K hk => c_none (ks.filter (leadK a k true)) (us.filter (leadU a k true)) (fl _) (fu _) K hk
    rw [showN] at hk hb
    rw [T.iv_fork]
    rw [ez] at iz ⊢
    rw [eo] at io ⊢
    clear ez eo
    generalize (T.fork a k z o).hash = hs
    generalize ks.filter (leadK a k false) = kz at *
    generalize ks.filter (leadK a k true) = ko at *
    generalize us.filter (leadU a k false) = uz at *
    generalize us.filter (leadU a k true) = uo at *
    generalize showN z kz uz = sz at *
    generalize showN o ko uo = so at *
    generalize z.hash = zh at *
    generalize o.hash = oh at *
    exact c_showF0 a k (by omega) zh oh _ _ _ _ _ _ _ _ _ _ _ _ ks us kz ko uz uo sz so hs hb iz io bz bo nz no K hk
end Go.Proofs.YtmfilaagpobmbaaGreatDoor

namespace Go.Proofs.YtmfilaagpobmbaaGreatDoor
open Go Go.Abs
def showT (t : T) (ks : List ByteArray) (us : List UP) : List Nd := showN t (ks.filter okK) (us.filter okU)
def showText (t : T) (ks : List ByteArray) (us : List UP) : ByteArray := (Nd.lst (showT t ks us)).bytes
theorem okK_all (ks : List ByteArray) : ∀ x ∈ ks.filter okK, x.size = 32 := fun x hx => of_decide_eq_true (List.mem_filter.1 hx).2
theorem okU_all (us : List UP) : ∀ p ∈ us.filter okU, okU p = true := fun p hp => (List.mem_filter.1 hp).2
theorem showT_fine {t : T} (hg : t.good) (hv : ∀ p ∈ t.pairs, p.2.size < 536870912) (ks : List ByteArray) (us : List UP) : Nd.fineL (showT t ks us) := showN_fine t _ _ hg hv
set_option maxRecDepth 100000 in
set_option maxHeartbeats 4000000 in
theorem c_ShowE (w : AV) (us : List UP) (hw : (w = .one .nils ∧ us = []) ∨ w = .i (.lst (uv us))) (t : T) (hg : t.good) (hp : t.pairs.length < 100000) (hv : ∀ p ∈ t.pairs, p.2.size < 536870912) (ks : List ByteArray) (hk9 : ks.length < 1000000) (hu9 : us.length < 1000000)
    (hs : (showText t ks us).size ≤ 16777216) (K : AV → List Blk → Prop) (hk : ∀ s, s = showText t ks us → K (.tup [.i (.str s), .i (.bool true)]) []) : SP 17 [.i (tr t), .i (.lst (sv ks)), w] [] K := by
  have h1 := c_Top t
  have hfl := Nat.lt_of_le_of_lt (List.length_filter_le okK ks) hk9
  have hul := Nat.lt_of_le_of_lt (List.length_filter_le okU us) hu9
  have hW : ∀ (l : List Nd), l = showT t ks us → l.length < 536870912 → Nd.deepL l < 20 → Nd.fineL l → ∀ (e : ByteArray), e = ⟨#[]⟩ → ∀ K : AV → List Blk → Prop, (∀ s, s = showText t ks us → K (.tup [.i (.str s), .i (.bool true)]) []) →
      SP 44 [.agg [.imm (.int .i64 2), .imm (.int .u64 0), .imm (.str e), .imm (.lst (ivs l))]] [] K := by
    intro l hl h1 h2 h3 e he K hk
    subst hl
    exact c_Write _ h1 h2 h3 hs e he K fun s hs => hk s hs
  generalize tr t = x at h1 ⊢
  by_cases ht : t = .nil
  · subst ht
    have hnil : T.nil.iv = .nilp := rfl
    rw [hnil] at h1
    rcases hw with ⟨rfl, rfl⟩ | rfl
    all_goals
      refine mk {} (fn := Tryz.f17) Tryz.func17 (by kernel_rfl) (by kernel_rfl) (Nat.le_of_ble_eq_true (Eq.refl true)) fun S hS => ?_
      conv => whnf
      refine hS _ _ _ _ <| h1 _ ?_
      conv => whnf
      refine hS _ _ _ _ <| c_L0 _ ?_
      conv => whnf
      refine hS _ _ _ _ <| hW [] rfl (by decide) (by simp [Nd.deepL]) trivial _ rfl _ fun s hs => ?_
      conv => whnf
      exact hk s hs
  · have hlen := showN_len t (ks.filter okK) (us.filter okU) hg ht
    have hpos : 0 < (showT t ks us).length := by
      unfold showT
      cases t with
      | nil => exact absurd rfl ht
      | leaf k v => simp [showN]
      | fork a k z o => simp [showN]
    have hs0 := c_show0 t hg ht (ks.filter okK) (us.filter okU) hfl hul (okK_all ks) (okU_all us) (by omega)
    have hd := showN_deep t (ks.filter okK) (us.filter okU)
    have hW2 := hW _ rfl (show (showT t ks us).length < _ by unfold showT; omega) (show Nd.deepL (showT t ks us) < _ by unfold showT; omega) (showT_fine hg hv ks us)
    have hrL := fun K hk => c_rightL ks us hk9 hu9 K hk
    have hrN := fun K hk => c_rightN ks hk9 K hk
    have hiv4 := ivs_all (showT t ks us)
    have hivl := ivs_len (showT t ks us)
    change ∀ K, (∀ n' L', L' = ivs (showT t ks us) → n' = (showT t ks us).length → _) → _ at hs0
    have h536 : (showT t ks us).length < 536870912 := by unfold showT; omega
    obtain ⟨l, k1, v1, a1, z1, o1, e1⟩ := t.iv_ptr ht
    rw [e1] at h1 hs0
    clear e1
    generalize showT t ks us = N at *
    rcases hw with ⟨rfl, rfl⟩ | rfl
    · refine mk {} (fn := Tryz.f17) Tryz.func17 (by kernel_rfl) (by kernel_rfl) (Nat.le_of_ble_eq_true (Eq.refl true)) fun S hS => ?_
      conv => whnf
      refine hS _ _ _ _ <| h1 _ ?_
      conv => whnf
      refine hS _ _ _ _ <| hrN _ fun A hA => ?_
      subst hA
      conv => whnf
      refine hS _ _ _ _ <| hs0 _ fun n' L' hL' hn' => ?_
      subst hL'
      conv => whnf
      refine hS _ _ _ _ <| c_LS n' (by omega) (ivs N) (by omega) hiv4 (by omega) true _ fun L2 hL2 => ?_
      subst hL2
      conv => whnf
      refine hS _ _ _ _ <| hW2 _ rfl _ fun s hs => ?_
      conv => whnf
      exact hk s hs
    · refine mk {} (fn := Tryz.f17) Tryz.func17 (by kernel_rfl) (by kernel_rfl) (Nat.le_of_ble_eq_true (Eq.refl true)) fun S hS => ?_
      conv => whnf
      refine hS _ _ _ _ <| h1 _ ?_
      conv => whnf
      refine hS _ _ _ _ <| hrL _ fun A B hA hB => ?_
      subst hA hB
      conv => whnf
      refine hS _ _ _ _ <| hs0 _ fun n' L' hL' hn' => ?_
      subst hL'
      conv => whnf
      refine hS _ _ _ _ <| c_LS n' (by omega) (ivs N) (by omega) hiv4 (by omega) true _ fun L2 hL2 => ?_
      subst hL2
      conv => whnf
      refine hS _ _ _ _ <| hW2 _ rfl _ fun s hs => ?_
      conv => whnf
      exact hk s hs
end Go.Proofs.YtmfilaagpobmbaaGreatDoor
