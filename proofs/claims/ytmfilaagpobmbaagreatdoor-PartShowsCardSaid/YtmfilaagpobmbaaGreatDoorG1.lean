/- A part of the proof of a seat of parts: G1, G2, G3, G4. -/
import Derived.Test.YtmfilaagpobmbaaGreatDoorB1
import Derived.Test.YtmfilaagpobmbaaGreatDoorD1
set_option linter.all false
namespace Go.Proofs.YtmfilaagpobmbaaGreatDoor
open Go Go.Abs
set_option maxRecDepth 100000 in
theorem c_sizeB (bad : Bool) (s : ByteArray) (hs : s.size < 536870912) (n : Nat) (hn : n < 1073741824) (Q : AV → List Blk → Prop) (hq : Q (.tup []) (wB bad (bytesIV (s ++ vsize n)))) : SP 112 [.one (.ref 0 0), .i (.int .i64 (n : Int))] (wB bad (bytesIV s)) Q := by
  refine mk {res := false, inc := 2, keep := [(0, [0,1])]} (fn := Tryz.f112) Tryz.func112 (by kernel_rfl) (by kernel_rfl) (Nat.le_of_ble_eq_true (Eq.refl true)) fun S hS => ?_
  conv => whnf
  intro X hX
  have key : ∀ (d n : Nat), n ≤ d → n < 1073741824 → ∀ (s t : ByteArray), s.size + n < 2000000000 → t = s ++ vsize n → (Q (.tup []) (wB bad (bytesIV t))) → frK (kfr 21 [(0, .one (.ref 0 0)), (1, .i (.int .i64 (n : Int)))] (wB bad (bytesIV s))) X := by
    intro d
    have last : ∀ (n : Nat), n < 128 → ∀ (s t : ByteArray), s.size + n < 2000000000 → t = s ++ vsize n → (Q (.tup []) (wB bad (bytesIV t))) → frK (kfr 21 [(0, .one (.ref 0 0)), (1, .i (.int .i64 (n : Int)))] (wB bad (bytesIV s))) X := by
      intro n hn s t hs ht hq
      rw [vsize, if_pos hn] at ht
      subst ht
      conv => whnf
      apply hX
      conv => whnf
      rw [decide_eq_false (show ¬ ((n : Int) ≥ 128) by omega)]
      conv => whnf
      rw [or128]
      refine hS _ _ _ _ <| c_WriteByteB bad (bytesIV s) _ (by rw [bytesIV_length]; omega) _ ?_
      conv => whnf
      rw [bytesIV_app, bytesIV_nb n (by omega)] at hq
      rw [Nat.mod_eq_of_lt (show n < 256 by omega)]
      exact hq
    induction d with
    | zero => intro n hnd hn; exact last n (by omega)
    | succ d ih =>
      intro n hnd hn s t hs ht hq
      by_cases h : n < 128
      · exact last n h s t hs ht hq
      rw [vsize, if_neg h] at ht
      conv => whnf
      apply hX
      conv => whnf
      rw [decide_eq_true (show (n : Int) ≥ 128 by omega)]
      conv => whnf
      rw [or128, or128b _ (Nat.mod_lt _ (by decide))]
      refine hS _ _ _ _ <| c_WriteByteB bad (bytesIV s) _ (by rw [bytesIV_length]; omega) _ ?_
      conv => whnf
      refine ⟨by decide, ?_⟩
      conv => whnf
      rw [shr7]
      rw [show n % 256 % 128 = n % 128 by omega]
      have e : bytesIV s ++ [[IV.int .u8 ((n % 128 + 128 : Nat) : Int)]] = bytesIV (s ++ nb (n % 128 + 128)) := by rw [bytesIV_app, bytesIV_nb _ (by omega)]
      rw [e]
      exact ih (n / 128) (by omega) (by omega) _ t (by rw [ByteArray.size_append]; show s.size + 1 + n / 128 < _; omega) (by rw [ht, ByteArray.append_assoc]) hq
  exact key n n (Nat.le_refl _) hn s _ (by omega) rfl hq
end Go.Proofs.YtmfilaagpobmbaaGreatDoor

namespace Go.Proofs.YtmfilaagpobmbaaGreatDoor
open Go Go.Abs
def RightOk (d : Nat) : Prop := ∀ n : Nd, n.fine → n.deep ≤ d → ∀ x y z u, n.iv = [x, y, z, u] → ∀ K : AV → List Blk → Prop, K (.i (.bool true)) [] → SP 109 [.agg [.imm x, .imm y, .imm z, .imm u], .i (.int .i64 (d : Int))] [] K
theorem c_right1 (d : Nat) (hd : d < 20) (hr : RightOk d) (n : Nd) (hf : n.fine) (hn : n.deep ≤ d) (x y z u : IV) (h : n.iv = [x, y, z, u]) (K : AV → List Blk → Prop) (hk : K (.i (.bool false)) []) : SP 128 [.agg [.imm x, .imm y, .imm z, .imm u], .i (.ptr [.int .i64 ((d + 1 : Nat) : Int)])] [] K := by
  refine mk {frz := [2]} (fn := Tryz.f128) Tryz.func128 (by kernel_rfl) (by kernel_rfl) (Nat.le_of_ble_eq_true (Eq.refl true)) fun S hS => ?_
  conv => whnf
  rw [show ((d + 1 : Nat) : Int) - 1 = ((d : Nat) : Int) by omega, i64n _ (by omega)]
  refine hS _ _ _ _ <| hr n hf hn x y z u h _ ?_
  conv => whnf
  exact hk
set_option maxRecDepth 100000 in
theorem c_IndexFunc (d : Nat) (hd : d < 20) (hr : RightOk d) (ks : List Nd) (hks : ks.length < 536870912) (h : ∀ n ∈ ks, n.fine ∧ n.deep ≤ d) (K : AV → List Blk → Prop) (hk : K (.i (.int .i64 (-1))) []) :
    SP 137 [.i (.lst (ivs ks)), .i (.fn 128 [] [.ptr [.int .i64 ((d + 1 : Nat) : Int)]])] [] K := by
  have hl := ivs_len ks
  refine mk {keep := [(2, [0,1,7,8])]} (fn := Tryz.f137) Tryz.func137 (by kernel_rfl) (by kernel_rfl) (Nat.le_of_ble_eq_true (Eq.refl true)) fun S hS => ?_
  conv => whnf
  intro X hX
  have key : ∀ (c i : Nat), i + c = ks.length → frK (kfr 19 [(0, .i (.lst (ivs ks))), (1, .i (.fn 128 [] [.ptr [.int .i64 ((d + 1 : Nat) : Int)]])), (7, .i (.int .i64 ((ivs ks).length : Int))), (8, .i (.int .i64 (i : Int)))] []) X := by
    intro c
    induction c with
    | zero =>
      intro i hi
      conv => whnf
      apply hX
      conv => whnf
      rw [decide_eq_false (show ¬ ((i : Int) < ((ivs ks).length : Int)) by omega)]
      conv => whnf
      exact hk
    | succ c ih =>
      intro i hi
      conv => whnf
      apply hX
      conv => whnf
      rw [decide_eq_true (show (i : Int) < ((ivs ks).length : Int) by omega)]
      conv => whnf
      obtain ⟨k, hk1⟩ : ∃ k, ks[i]? = some k := ⟨ks[i]'(by omega), List.getElem?_eq_getElem _⟩
      obtain ⟨hf, hn⟩ := h k (List.mem_of_getElem? hk1)
      obtain ⟨x, y, z, u, hv⟩ := k.iv_four
      refine ⟨[x, y, z, u], by omega, by rw [← hv]; exact ivs_get ks i k hk1, rfl, ?_⟩
      conv => whnf
      refine hS _ _ _ _ <| c_right1 d hd hr k hf hn x y z u hv _ ?_
      conv => whnf
      rw [show (i : Int) + 1 = ((i + 1 : Nat) : Int) by omega, i64n _ (by omega)]
      exact ih (i + 1) (by omega)
  exact key ks.length 0 (by omega)
theorem c_ContainsFunc (d : Nat) (hd : d < 20) (hr : RightOk d) (ks : List Nd) (hks : ks.length < 536870912) (h : ∀ n ∈ ks, n.fine ∧ n.deep ≤ d) (K : AV → List Blk → Prop) (hk : K (.i (.bool false)) []) :
    SP 127 [.i (.lst (ivs ks)), .i (.fn 128 [] [.ptr [.int .i64 ((d + 1 : Nat) : Int)]])] [] K := by
  refine mk {} (fn := Tryz.f127) Tryz.func127 (by kernel_rfl) (by kernel_rfl) (Nat.le_of_ble_eq_true (Eq.refl true)) fun S hS => ?_
  conv => whnf
  refine hS _ _ _ _ <| c_IndexFunc d hd hr ks hks h _ ?_
  conv => whnf
  exact hk
end Go.Proofs.YtmfilaagpobmbaaGreatDoor

namespace Go.Proofs.YtmfilaagpobmbaaGreatDoor
open Go Go.Abs
set_option maxRecDepth 100000 in
theorem c_nrightN (d : Nat) (hd : d + 1 ≤ 20) (n : Nat) (e : ByteArray) (he : e = ⟨#[]⟩) (K : AV → List Blk → Prop) (hk : K (.i (.bool true)) []) : SP 109 [.agg [.imm (.int .i64 0), .imm (.int .u64 (n : Int)), .imm (.str e), .imm (.lst [])], .i (.int .i64 ((d + 1 : Nat) : Int))] [] K := by
  refine mk {frz := [2, 3]} (fn := Tryz.f109) Tryz.func109 (by kernel_rfl) (by kernel_rfl) (Nat.le_of_ble_eq_true (Eq.refl true)) fun S hS => ?_
  conv => whnf
  rw [beq_ba, decide_eq_true he]
  conv => whnf
  exact hk
set_option maxRecDepth 100000 in
theorem c_nrightS (d : Nat) (hd : d + 1 ≤ 20) (s : ByteArray) (K : AV → List Blk → Prop) (hk : K (.i (.bool true)) []) : SP 109 [.agg [.imm (.int .i64 1), .imm (.int .u64 0), .imm (.str s), .imm (.lst [])], .i (.int .i64 ((d + 1 : Nat) : Int))] [] K := by
  refine mk {frz := [2, 3]} (fn := Tryz.f109) Tryz.func109 (by kernel_rfl) (by kernel_rfl) (Nat.le_of_ble_eq_true (Eq.refl true)) fun S hS => ?_
  conv => whnf
  exact hk
set_option maxRecDepth 100000 in
theorem c_nrightL (d : Nat) (hd : d + 1 ≤ 20) (ih : RightOk d) (e : ByteArray) (he : e = ⟨#[]⟩) (ks : List Nd) (hks : ks.length < 536870912) (h : ∀ n ∈ ks, n.fine ∧ n.deep ≤ d) (K : AV → List Blk → Prop) (hk : K (.i (.bool true)) []) :
    SP 109 [.agg [.imm (.int .i64 2), .imm (.int .u64 0), .imm (.str e), .imm (.lst (ivs ks))], .i (.int .i64 ((d + 1 : Nat) : Int))] [] K := by
  refine mk {frz := [2, 3]} (fn := Tryz.f109) Tryz.func109 (by kernel_rfl) (by kernel_rfl) (Nat.le_of_ble_eq_true (Eq.refl true)) fun S hS => ?_
  conv => whnf
  rw [beq_ba, decide_eq_true he]
  conv => whnf
  refine hS _ _ _ _ <| c_ContainsFunc d (by omega) ih ks hks h _ ?_
  conv => whnf
  exact hk
theorem c_nright (d : Nat) (hd : d ≤ 20) : RightOk d := by
  induction d with
  | zero => intro n _ h; have := n.deep_pos; omega
  | succ d ih =>
    intro n hf hn x y z u h K hk
    have ih := ih (by omega)
    cases n with
    | num n =>
      simp only [Nd.iv, List.cons.injEq, and_true] at h; obtain ⟨rfl, rfl, rfl, rfl⟩ := h
      exact c_nrightN d hd n _ rfl K hk
    | str s =>
      simp only [Nd.iv, List.cons.injEq, and_true] at h; obtain ⟨rfl, rfl, rfl, rfl⟩ := h
      exact c_nrightS d hd s K hk
    | lst l =>
      simp only [Nd.iv, List.cons.injEq, and_true] at h; obtain ⟨rfl, rfl, rfl, rfl⟩ := h
      rw [Nd.deep] at hn
      rw [Nd.fine] at hf
      exact c_nrightL d hd ih _ rfl l hf.1 (fun n hn' => ⟨Nd.fine_mem hn' hf.2, by have := Nd.deep_mem hn'; omega⟩) K hk
theorem c_Right (n : Nd) (hf : n.fine) (hn : n.deep ≤ 20) (x y z u : IV) (h : n.iv = [x, y, z, u]) (K : AV → List Blk → Prop) (hk : K (.i (.bool true)) []) : SP 79 [.agg [.imm x, .imm y, .imm z, .imm u]] [] K := by
  refine mk {frz := [1]} (fn := Tryz.f79) Tryz.func79 (by kernel_rfl) (by kernel_rfl) (Nat.le_of_ble_eq_true (Eq.refl true)) fun S hS => ?_
  conv => whnf
  refine hS _ _ _ _ <| c_nright 20 (by omega) n hf hn x y z u h _ ?_
  conv => whnf
  exact hk
end Go.Proofs.YtmfilaagpobmbaaGreatDoor

namespace Go.Proofs.YtmfilaagpobmbaaGreatDoor
open Go Go.Abs
theorem c_N (x : Nat) (K : AV → List Blk → Prop) (hk : K (.agg [.imm (.int .i64 0), .imm (.int .u64 (x : Int)), .imm (.str ⟨#[]⟩), .imm (.lst [])]) []) : SP 76 [.i (.int .u64 (x : Int))] [] K := by
  refine mk {} (fn := Tryz.f76) Tryz.func76 (by kernel_rfl) (by kernel_rfl) (Nat.le_of_ble_eq_true (Eq.refl true)) fun S hS => ?_
  conv => whnf
  exact hk
theorem c_S (s : ByteArray) (K : AV → List Blk → Prop) (hk : K (.agg [.imm (.int .i64 1), .imm (.int .u64 0), .imm (.str s), .imm (.lst [])]) []) : SP 75 [.i (.str s)] [] K := by
  refine mk {} (fn := Tryz.f75) Tryz.func75 (by kernel_rfl) (by kernel_rfl) (Nat.le_of_ble_eq_true (Eq.refl true)) fun S hS => ?_
  conv => whnf
  exact hk
theorem c_Clone0 (K : AV → List Blk → Prop) (hk : K (.i (.lst [])) []) : SP 83 [.one .nils] [] K := by
  refine mk {} (fn := Tryz.f83) Tryz.func83 (by kernel_rfl) (by kernel_rfl) (Nat.le_of_ble_eq_true (Eq.refl true)) fun S hS => ?_
  conv => whnf
  exact hk
theorem c_CloneL (k : List IV) (ks : List (List IV)) (h4 : ∀ v ∈ k :: ks, v.length = 4) (hl : ks.length < 536870912) (K : AV → List Blk → Prop) (hk : ∀ L, L = k :: ks → K (.i (.lst L)) []) : SP 83 [.i (.lst (k :: ks))] [] K := by
  refine mk {} (fn := Tryz.f83) Tryz.func83 (by kernel_rfl) (by kernel_rfl) (Nat.le_of_ble_eq_true (Eq.refl true)) fun S hS => ?_
  conv => whnf
  refine ⟨h4, ?_⟩
  conv => whnf
  refine ⟨rfl, ?_, ?_⟩
  · show (0 + (ks.length + 1)) * _ ≤ _
    show (0 + (ks.length + 1)) * 56 ≤ 17592186044416
    omega
  conv => whnf
  apply hk
  exact List.take_of_length_le (by show ks.length + 1 ≤ 0 + (ks.length + 1); omega)
theorem c_CloneS (n : Nat) (hn : 0 < n) (ks : List (List IV)) (hks : n = ks.length) (h4 : ∀ v ∈ ks, v.length = 4) (hl : ks.length < 536870912) (g : Bool) (K : AV → List Blk → Prop) (hk : ∀ L, L = ks → K (.i (.lst L)) [.vec 4 ks g]) : SP 83 [.one (.sl 0 0 n)] [.vec 4 ks g] K := by
  have ht : (ks.drop 0).take n = ks := by rw [List.drop_zero, hks]; exact List.take_length
  cases g
  all_goals
    refine mk {inc := 1} (fn := Tryz.f83) Tryz.func83 (by kernel_rfl) (by kernel_rfl) (Nat.le_of_ble_eq_true (Eq.refl true)) fun S hS => ?_
    conv => whnf
    refine ⟨rfl, ?_, ?_⟩
    · show (0 + ((ks.drop 0).take n).length) * 56 ≤ 17592186044416
      rw [ht]
      omega
    conv => whnf
    apply hk
    show (List.drop 0 ([] ++ List.take n (List.drop 0 ks))).take (0 + (List.take n (List.drop 0 ks)).length) = ks
    rw [ht]
    simp
end Go.Proofs.YtmfilaagpobmbaaGreatDoor
