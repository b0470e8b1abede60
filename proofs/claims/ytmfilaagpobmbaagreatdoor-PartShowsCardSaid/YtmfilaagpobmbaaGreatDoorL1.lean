/- A part of the proof of a seat of parts: L1, L2. -/
import Derived.Test.YtmfilaagpobmbaaGreatDoorH4
import Derived.Test.YtmfilaagpobmbaaGreatDoorS5
set_option linter.all false
namespace Go.Proofs.YtmfilaagpobmbaaGreatDoor
open Go Go.Abs
theorem c_rN (x : Nat) (K : AV → List Blk → Prop) (hk : K (.agg [.imm (.int .i64 0), .imm (.int .u64 (x : Int)), .imm (.str ⟨#[]⟩), .imm (.lst [])]) []) : SP 91 [.i (.int .u64 (x : Int))] [] K := by
  refine mk {} (fn := Tryz.f91) Tryz.func91 (by kernel_rfl) (by kernel_rfl) (Nat.le_of_ble_eq_true (Eq.refl true)) fun S hS => ?_
  conv => whnf
  exact hk
theorem c_rS (s : ByteArray) (K : AV → List Blk → Prop) (hk : K (.agg [.imm (.int .i64 1), .imm (.int .u64 0), .imm (.str s), .imm (.lst [])]) []) : SP 90 [.i (.str s)] [] K := by
  refine mk {} (fn := Tryz.f90) Tryz.func90 (by kernel_rfl) (by kernel_rfl) (Nat.le_of_ble_eq_true (Eq.refl true)) fun S hS => ?_
  conv => whnf
  exact hk
theorem c_rL0 (K : AV → List Blk → Prop) (hk : K (aLst []) []) : SP 52 [.one .nils] [] K := by
  refine mk {} (fn := Tryz.f52) Tryz.func52 (by kernel_rfl) (by kernel_rfl) (Nat.le_of_ble_eq_true (Eq.refl true)) fun S hS => ?_
  conv => whnf
  exact hk
theorem c_rLL (l : List (List IV)) (K : AV → List Blk → Prop) (hk : K (aLst l) []) : SP 52 [.i (.lst l)] [] K := by
  refine mk {} (fn := Tryz.f52) Tryz.func52 (by kernel_rfl) (by kernel_rfl) (Nat.le_of_ble_eq_true (Eq.refl true)) fun S hS => ?_
  conv => whnf
  exact hk
def DeepOk (d : Nat) : Prop := ∀ n : Nd, n.fine → n.deep ≤ d → ∀ x y z u, n.iv = [x, y, z, u] → ∀ K : AV → List Blk → Prop, K (.i (.int .i64 (n.deep : Int))) [] → SP 115 [.agg [.imm x, .imm y, .imm z, .imm u]] [] K
theorem deepL_snoc (l : List Nd) (i : Nat) (n : Nd) (h : l[i]? = some n) : Nd.deepL (l.take (i + 1)) = max (Nd.deepL (l.take i)) n.deep := by
  have htk : l.take (i + 1) = l.take i ++ [n] := by rw [List.take_succ, h]; rfl
  have h2 : ∀ m : List Nd, Nd.deepL (m ++ [n]) = max (Nd.deepL m) n.deep := by
    intro m
    induction m with
    | nil => simp [Nd.deepL]
    | cons a m ih => simp only [List.cons_append, Nd.deepL, ih]; omega
  rw [htk, h2]
set_option maxRecDepth 100000 in
set_option maxHeartbeats 1000000 in
theorem c_Deep (d : Nat) (hd : d < 1000) : DeepOk d := by
  induction d with
  | zero => intro n _ h; have := n.deep_pos; omega
  | succ d ih =>
    have ih := ih (by omega)
    intro n hf hn x y z u h K hk
    cases n with
    | num n =>
      simp only [Nd.iv, List.cons.injEq, and_true] at h; obtain ⟨rfl, rfl, rfl, rfl⟩ := h
      refine mk {frz := [1], keep := [(3, [1, 3, 4])]} (fn := Tryz.f115) Tryz.func115 (by kernel_rfl) (by kernel_rfl) (Nat.le_of_ble_eq_true (Eq.refl true)) fun S hS => ?_
      conv => whnf
      intro X hX
      apply hX
      conv => whnf
      exact hk
    | str n =>
      simp only [Nd.iv, List.cons.injEq, and_true] at h; obtain ⟨rfl, rfl, rfl, rfl⟩ := h
      refine mk {frz := [1], keep := [(3, [1, 3, 4])]} (fn := Tryz.f115) Tryz.func115 (by kernel_rfl) (by kernel_rfl) (Nat.le_of_ble_eq_true (Eq.refl true)) fun S hS => ?_
      conv => whnf
      intro X hX
      apply hX
      conv => whnf
      exact hk
    | lst l =>
      simp only [Nd.iv, List.cons.injEq, and_true] at h; obtain ⟨rfl, rfl, rfl, rfl⟩ := h
      rw [Nd.deep] at hn hk
      rw [Nd.fine] at hf
      have hll := ivs_len l
      have hlg := ivs_get l
      have hbd : ∀ i, Nd.deepL (l.take i) ≤ Nd.deepL l := fun i => by
        have := List.take_append_drop i l
        have h2 : ∀ a b : List Nd, Nd.deepL a ≤ Nd.deepL (a ++ b) := by
          intro a b
          induction a with
          | nil => simp [Nd.deepL]
          | cons q a ih => simp only [List.cons_append, Nd.deepL]; omega
        rw [← this]; simp only [List.take_append_drop]; exact Nat.le_trans (h2 _ (l.drop i)) (by rw [List.take_append_drop]; exact Nat.le_refl _)
      generalize ivs l = L at *
      refine mk {frz := [1], keep := [(3, [1, 3, 4])]} (fn := Tryz.f115) Tryz.func115 (by kernel_rfl) (by kernel_rfl) (Nat.le_of_ble_eq_true (Eq.refl true)) fun S hS => ?_
      conv => whnf
      intro X hX
      have key : ∀ (c i : Nat), i + c = l.length → ∀ j v : Int, j = (i : Int) → v = (Nd.deepL (l.take i) : Int) → frK (kfr 22 [(1, .i (.ptr [.int .i64 2, .int .u64 0, .str ⟨#[]⟩, .lst L])), (3, .i (.int .i64 v)), (4, .i (.int .i64 j))] []) X := by
        intro c
        induction c with
        | zero =>
          intro i hi j v hj hv
          subst hj hv
          conv => whnf
          apply hX
          conv => whnf
          rw [decide_eq_false (show ¬ ((i : Int) < (L.length : Int)) by omega)]
          conv => whnf
          rw [show i = l.length by omega, List.take_length, show ((Nd.deepL l : Nat) : Int) + 1 = ((Nd.deepL l + 1 : Nat) : Int) by omega, i64n _ (by omega)]
          exact hk
        | succ c ihc =>
          intro i hi j v hj hv
          subst hj hv
          conv => whnf
          apply hX
          conv => whnf
          rw [decide_eq_true (show (i : Int) < (L.length : Int) by omega)]
          conv => whnf
          obtain ⟨k, hk1⟩ : ∃ k, l[i]? = some k := ⟨l[i]'(by omega), List.getElem?_eq_getElem _⟩
          obtain ⟨x, y, z, u, hv⟩ := k.iv_four
          refine ⟨[x, y, z, u], by omega, by rw [← hv]; exact hlg i k hk1, rfl, ?_⟩
          conv => whnf
          refine hS _ _ _ _ <| ih k (Nd.fine_mem (List.mem_of_getElem? hk1) hf.2) (by have := Nd.deep_mem (List.mem_of_getElem? hk1); omega) x y z u hv _ ?_
          conv => whnf
          refine ihc (i + 1) (by omega) _ _ ?_ ?_
          · rw [show (i : Int) + 1 = ((i + 1 : Nat) : Int) by omega, i64n _ (by omega)]
          · rw [deepL_snoc l i k hk1]; split <;> omega
      exact key l.length 0 (by omega) _ _ rfl rfl
def PlainOk (d : Nat) : Prop := ∀ n : Nd, n.fine → n.deep ≤ d → ∀ x y z u, n.iv = [x, y, z, u] → ∀ K : AV → List Blk → Prop, K (.i (.bool true)) [] → SP 116 [.agg [.imm x, .imm y, .imm z, .imm u]] [] K
set_option maxRecDepth 100000 in
set_option maxHeartbeats 1000000 in
theorem c_plainL (d : Nat) (ih : PlainOk d) (l : List Nd) (hl : l.length < 536870912) (h : ∀ n ∈ l, n.fine ∧ n.deep ≤ d) (e : ByteArray) (he : e = ⟨#[]⟩) (K : AV → List Blk → Prop) (hk : K (.i (.bool true)) []) : SP 116 [.agg [.imm (.int .i64 2), .imm (.int .u64 0), .imm (.str e), .imm (.lst (ivs l))]] [] K := by
  have hll := ivs_len l
  have hlg := ivs_get l
  generalize ivs l = L at *
  refine mk {frz := [1], keep := [(10, [1, 3])]} (fn := Tryz.f116) Tryz.func116 (by kernel_rfl) (by kernel_rfl) (Nat.le_of_ble_eq_true (Eq.refl true)) fun S hS => ?_
  conv => whnf
  rw [beq_ba, decide_eq_true he]
  conv => whnf
  intro X hX
  have key : ∀ (c i : Nat), i + c = l.length → ∀ j : Int, j = (i : Int) → frK (kfr 52 [(1, .i (.ptr [.int .i64 2, .int .u64 0, .str e, .lst L])), (3, .i (.int .i64 j))] []) X := by
    intro c
    induction c with
    | zero =>
      intro i hi j hj
      subst hj
      conv => whnf
      apply hX
      conv => whnf
      rw [decide_eq_false (show ¬ ((i : Int) < (L.length : Int)) by omega)]
      conv => whnf
      exact hk
    | succ c ihc =>
      intro i hi j hj
      subst hj
      conv => whnf
      apply hX
      conv => whnf
      rw [decide_eq_true (show (i : Int) < (L.length : Int) by omega)]
      conv => whnf
      obtain ⟨k, hk1⟩ : ∃ k, l[i]? = some k := ⟨l[i]'(by omega), List.getElem?_eq_getElem _⟩
      obtain ⟨x, y, z, u, hv⟩ := k.iv_four
      refine ⟨[x, y, z, u], by omega, by rw [← hv]; exact hlg i k hk1, rfl, ?_⟩
      conv => whnf
      refine hS _ _ _ _ <| ih k (h k (List.mem_of_getElem? hk1)).1 (h k (List.mem_of_getElem? hk1)).2 x y z u hv _ ?_
      conv => whnf
      refine ihc (i + 1) (by omega) _ ?_
      rw [show (i : Int) + 1 = ((i + 1 : Nat) : Int) by omega, i64n _ (by omega)]
  exact key l.length 0 (by omega) _ rfl
set_option maxRecDepth 100000 in
theorem c_plainN (n : Nat) (e : ByteArray) (he : e = ⟨#[]⟩) (K : AV → List Blk → Prop) (hk : K (.i (.bool true)) []) : SP 116 [.agg [.imm (.int .i64 0), .imm (.int .u64 (n : Int)), .imm (.str e), .imm (.lst [])]] [] K := by
  refine mk {frz := [1], keep := [(10, [1, 3])]} (fn := Tryz.f116) Tryz.func116 (by kernel_rfl) (by kernel_rfl) (Nat.le_of_ble_eq_true (Eq.refl true)) fun S hS => ?_
  conv => whnf
  rw [beq_ba, decide_eq_true he]
  conv => whnf
  exact hk
set_option maxRecDepth 100000 in
theorem c_plain (d : Nat) : PlainOk d := by
  induction d with
  | zero => intro n _ h; have := n.deep_pos; omega
  | succ d ih =>
    intro n hf hn x y z u h K hk
    cases n with
    | num n =>
      simp only [Nd.iv, List.cons.injEq, and_true] at h; obtain ⟨rfl, rfl, rfl, rfl⟩ := h
      exact c_plainN n _ rfl K hk
    | str s =>
      simp only [Nd.iv, List.cons.injEq, and_true] at h; obtain ⟨rfl, rfl, rfl, rfl⟩ := h
      refine mk {frz := [1], keep := [(10, [1, 3])]} (fn := Tryz.f116) Tryz.func116 (by kernel_rfl) (by kernel_rfl) (Nat.le_of_ble_eq_true (Eq.refl true)) fun S hS => ?_
      conv => whnf
      exact hk
    | lst l =>
      simp only [Nd.iv, List.cons.injEq, and_true] at h; obtain ⟨rfl, rfl, rfl, rfl⟩ := h
      rw [Nd.deep] at hn
      rw [Nd.fine] at hf
      exact c_plainL d ih l hf.1 (fun n hn' => ⟨Nd.fine_mem hn' hf.2, by have := Nd.deep_mem hn'; omega⟩) _ rfl K hk
set_option maxRecDepth 100000 in
theorem c_rRight (n : Nd) (hf : n.fine) (hn : n.deep ≤ 20) (x y z u : IV) (h : n.iv = [x, y, z, u]) (K : AV → List Blk → Prop) (hk : K (.i (.bool true)) []) : SP 88 [.agg [.imm x, .imm y, .imm z, .imm u]] [] K := by
  refine mk {frz := [1]} (fn := Tryz.f88) Tryz.func88 (by kernel_rfl) (by kernel_rfl) (Nat.le_of_ble_eq_true (Eq.refl true)) fun S hS => ?_
  conv => whnf
  refine hS _ _ _ _ <| c_Deep 20 (by decide) n hf hn x y z u h _ ?_
  conv => whnf
  rw [decide_eq_true (show (n.deep : Int) ≤ 20 by omega)]
  conv => whnf
  refine hS _ _ _ _ <| c_plain 20 n hf hn x y z u h _ ?_
  conv => whnf
  exact hk
end Go.Proofs.YtmfilaagpobmbaaGreatDoor

namespace Go.Proofs.YtmfilaagpobmbaaGreatDoor
open Go Go.Abs
theorem one_nb (n : Nat) (h : n < 256) : [[IV.int .u8 (n : Int)]] = bytesIV (nb n) := (bytesIV_nb n h).symm
set_option maxRecDepth 100000 in
set_option maxHeartbeats 1000000 in
theorem c_rSize (n : Nat) (hn : n < 1073741824) (K : AV → List Blk → Prop) (hk : ∀ s, s = vsize n → K (.i (.str s)) []) : SP 118 [.i (.int .i64 (n : Int))] [] K := by
  refine mk {frz := [11, 19], keep := [(2, [0, 3])]} (fn := Tryz.f118) Tryz.func118 (by kernel_rfl) (by kernel_rfl) (Nat.le_of_ble_eq_true (Eq.refl true)) fun S hS => ?_
  conv => whnf
  intro X hX
  have key : ∀ (d n : Nat), n ≤ d → n < 1073741824 → ∀ (s : ByteArray), s.size + n < 2000000000 → (∀ t, t = s ++ vsize n → K (.i (.str t)) []) → ∀ j : Int, j = (n : Int) → frK (kfr 22 [(0, .i (.int .i64 j)), (3, .i (.str s))] []) X := by
    intro d
    induction d with
    | zero =>
      intro n hd hn s hs hk j hj
      obtain rfl : n = 0 := by omega
      subst hj
      conv => whnf
      apply hX
      conv => whnf
      rw [decide_eq_false (show ¬ ((((0 : Nat)) : Int) ≥ 128) by omega)]
      conv => whnf
      rw [u8n]
      refine ⟨one_all rfl, nb 0, one_nb 0 (by decide), ?_⟩
      conv => whnf
      refine ⟨by rw [show (nb 0).size = 1 from rfl]; omega, ?_⟩
      conv => whnf
      exact hk _ (by rw [vsize1 0 (by decide)])
    | succ d ih =>
      intro n hd hn s hs hk j hj
      subst hj
      conv => whnf
      apply hX
      conv => whnf
      by_cases h : n < 128
      · rw [decide_eq_false (show ¬ ((n : Int) ≥ 128) by omega)]
        conv => whnf
        rw [u8n, Nat.mod_eq_of_lt (show n < 256 by omega)]
        refine ⟨one_all rfl, nb n, one_nb n (by omega), ?_⟩
        conv => whnf
        refine ⟨by rw [show (nb n).size = 1 from rfl]; omega, ?_⟩
        conv => whnf
        exact hk _ (by rw [vsize1 n h])
      · rw [decide_eq_true (show (n : Int) ≥ 128 by omega)]
        conv => whnf
        refine ⟨by decide, ?_⟩
        conv => whnf
        rw [show ((n : Int)).tmod 128 = ((n % 128 : Nat) : Int) from tmodN n 128, show ((n % 128 : Nat) : Int) + 128 = ((n % 128 + 128 : Nat) : Int) by omega, i64n _ (by omega), u8n, Nat.mod_eq_of_lt (show n % 128 + 128 < 256 by omega)]
        refine ⟨one_all rfl, nb (n % 128 + 128), one_nb _ (by omega), ?_⟩
        conv => whnf
        refine ⟨by rw [show (nb (n % 128 + 128)).size = 1 from rfl]; omega, ?_⟩
        conv => whnf
        refine ⟨by decide, ?_⟩
        conv => whnf
        refine ih (n / 128) (by omega) (by omega) _ (by rw [ByteArray.size_append]; show s.size + 1 + n / 128 < _; omega) (fun t ht => hk t ?_) _ ?_
        · have hv : vsize n = nb (n % 128 + 128) ++ vsize (n / 128) := by rw [vsize, if_neg h]
          rw [ht, ByteArray.append_assoc, hv]
        · exact tdivN n 128 (by omega)
  refine key n n (Nat.le_refl _) hn _ (by show 0 + n < _; omega) (fun t ht => hk t ?_) _ rfl
  rw [ht]
  exact ByteArray.empty_append
set_option maxRecDepth 100000 in
set_option maxHeartbeats 1000000 in
theorem c_rnumber (n : Nat) (hn : n < 18446744073709551616) (K : AV → List Blk → Prop) (hk : ∀ s, s = bl (bigE n) → K (.i (.str s)) []) : SP 117 [.i (.int .u64 (n : Int))] [] K := by
  have hlen := bigE_lt n hn
  refine mk {frz := [9], keep := [(2, [0, 3])]} (fn := Tryz.f117) Tryz.func117 (by kernel_rfl) (by kernel_rfl) (Nat.le_of_ble_eq_true (Eq.refl true)) fun S hS => ?_
  conv => whnf
  intro X hX
  have key : ∀ (m : Nat), m < 18446744073709551616 → ∀ (l : List UInt8), bigE n = bigE m ++ l → ∀ (s : ByteArray), s = bl l → ∀ j : Int, j = (m : Int) → frK (kfr 16 [(0, .i (.int .u64 j)), (3, .i (.str s))] []) X := by
    intro m
    induction m using Nat.strongRecOn with
    | ind m ih =>
      intro hm l hl s hs j hj
      subst hj hs
      conv => whnf
      apply hX
      conv => whnf
      by_cases h : m = 0
      · rw [decide_eq_false (show ¬ ((m : Int) > 0) by omega)]
        conv => whnf
        have h0 : bigE 0 = [] := by rw [bigE, if_pos rfl]
        rw [h, h0, List.nil_append] at hl
        exact hk _ (by rw [hl])
      · rw [decide_eq_true (show (m : Int) > 0 by omega)]
        conv => whnf
        refine ⟨by decide, ?_⟩
        conv => whnf
        have hb : bigE m = bigE (m / 256) ++ [UInt8.ofNat m] := by rw [bigE, if_neg h]
        have hlb : (bigE m).length + l.length = (bigE n).length := by rw [hl, List.length_append]
        rw [show ((m : Int)).tmod 256 = ((m % 256 : Nat) : Int) from tmodN m 256, u8n, Nat.mod_mod]
        refine ⟨one_all rfl, nb (m % 256), one_nb _ (by omega), ?_⟩
        conv => whnf
        refine ⟨by rw [show (nb (m % 256)).size = 1 from rfl, bl_size]; omega, ?_⟩
        conv => whnf
        refine ⟨by decide, ?_⟩
        conv => whnf
        refine ih (m / 256) (by omega) (by omega) (UInt8.ofNat m :: l) (by rw [hl, hb, List.append_assoc]; rfl) _ ?_ _ ?_
        · show bl [UInt8.ofNat (m % 256)] ++ bl l = _
          rw [bl_app, show UInt8.ofNat (m % 256) = UInt8.ofNat m from by apply UInt8.toNat_inj.1; simp]
          rfl
        · rw [show ((m : Int)).tdiv 256 = ((m / 256 : Nat) : Int) from (Int.ofNat_tdiv m 256).symm, u64n _ (by omega)]
  exact key n hn [] (by simp) _ rfl _ rfl
def BytesOk (d : Nat) : Prop := ∀ n : Nd, n.fine → n.deep ≤ d → n.bytes.size < 1073741824 → ∀ x y z u, n.iv = [x, y, z, u] → ∀ K : AV → List Blk → Prop, (∀ s, s = n.bytes → K (.i (.str s)) []) → SP 89 [.agg [.imm x, .imm y, .imm z, .imm u]] [] K
set_option maxRecDepth 100000 in
set_option maxHeartbeats 1000000 in
theorem c_bytesN (n : Nat) (hn : n < 18446744073709551616) (e : ByteArray) (K : AV → List Blk → Prop) (hk : ∀ s, s = nb 110 ++ numB n → K (.i (.str s)) []) : SP 89 [.agg [.imm (.int .i64 0), .imm (.int .u64 (n : Int)), .imm (.str e), .imm (.lst [])]] [] K := by
  have hl8 := bigE_lt n hn
  refine mk {frz := [1], keep := [(9, [1, 4, 5])]} (fn := Tryz.f89) Tryz.func89 (by kernel_rfl) (by kernel_rfl) (Nat.le_of_ble_eq_true (Eq.refl true)) fun S hS => ?_
  conv => whnf
  refine hS _ _ _ _ <| c_rnumber n hn _ fun s hs => ?_
  have hsz : s.size = (bigE n).length := by rw [hs]; rfl
  conv => whnf
  rw [hsz]
  refine hS _ _ _ _ <| c_rSize (bigE n).length (by omega) _ fun t ht => ?_
  rw [vsize1 _ (by omega)] at ht
  have htz : t.size = 1 := by rw [ht]; rfl
  conv => whnf
  refine ⟨by show 1 + t.size ≤ _; omega, ?_⟩
  conv => whnf
  refine ⟨by rw [ByteArray.size_append]; show 1 + t.size + s.size ≤ _; omega, ?_⟩
  conv => whnf
  refine hk _ ?_
  rw [ht, hs, ByteArray.append_assoc]
  rfl
set_option maxRecDepth 100000 in
set_option maxHeartbeats 1000000 in
theorem c_bytesS (x : ByteArray) (hx : x.size < 536870912) (K : AV → List Blk → Prop) (hk : ∀ s, s = nb 115 ++ vsize x.size ++ x → K (.i (.str s)) []) : SP 89 [.agg [.imm (.int .i64 1), .imm (.int .u64 0), .imm (.str x), .imm (.lst [])]] [] K := by
  have hv := vsize_le x.size hx
  refine mk {frz := [1], keep := [(9, [1, 4, 5])]} (fn := Tryz.f89) Tryz.func89 (by kernel_rfl) (by kernel_rfl) (Nat.le_of_ble_eq_true (Eq.refl true)) fun S hS => ?_
  conv => whnf
  refine ⟨.i (.str (vsize x.size)), hS _ _ _ _ <| c_rSize x.size (by omega) _ (fun t ht => ⟨by rw [ht], rfl⟩), rfl, ?_⟩
  conv => whnf
  refine ⟨by show 1 + (vsize x.size).size ≤ _; omega, ?_⟩
  conv => whnf
  refine ⟨by rw [ByteArray.size_append]; show 1 + (vsize x.size).size + x.size ≤ _; omega, ?_⟩
  conv => whnf
  exact hk _ rfl
set_option maxRecDepth 100000 in
set_option maxHeartbeats 1000000 in
theorem c_bytesL (d : Nat) (ih : BytesOk d) (l : List Nd) (hl : l.length < 536870912) (h : ∀ n ∈ l, n.fine ∧ n.deep ≤ d) (hs : (nb 108 ++ vsize l.length ++ Nd.bytesL l).size < 1073741824) (e : ByteArray) (K : AV → List Blk → Prop) (hk : ∀ s, s = nb 108 ++ vsize l.length ++ Nd.bytesL l → K (.i (.str s)) []) : SP 89 [.agg [.imm (.int .i64 2), .imm (.int .u64 0), .imm (.str e), .imm (.lst (ivs l))]] [] K := by
  have hv := vsize_le l.length hl
  have hll := ivs_len l
  have hlg := ivs_get l
  rw [ByteArray.size_append, ByteArray.size_append] at hs
  have h108 : (nb 108).size = 1 := rfl
  generalize ivs l = L at *
  refine mk {frz := [1], keep := [(9, [1, 4, 5])]} (fn := Tryz.f89) Tryz.func89 (by kernel_rfl) (by kernel_rfl) (Nat.le_of_ble_eq_true (Eq.refl true)) fun S hS => ?_
  conv => whnf
  rw [hll]
  refine hS _ _ _ _ <| c_rSize l.length (by omega) _ fun t ht => ?_
  subst ht
  conv => whnf
  refine ⟨by show 1 + (vsize l.length).size ≤ _; omega, ?_⟩
  conv => whnf
  intro X hX
  have key : ∀ (c i : Nat), i + c = l.length → ∀ j : Int, j = (i : Int) → ∀ t, t = nb 108 ++ vsize l.length ++ Nd.bytesL (l.take i) → frK (kfr 50 [(1, .i (.ptr [.int .i64 2, .int .u64 0, .str e, .lst L])), (4, .i (.str t)), (5, .i (.int .i64 j))] []) X := by
    intro c
    induction c with
    | zero =>
      intro i hi j hj t ht
      subst hj
      conv => whnf
      apply hX
      conv => whnf
      rw [decide_eq_false (show ¬ ((i : Int) < (L.length : Int)) by omega)]
      conv => whnf
      rw [show i = l.length by omega, List.take_length] at ht
      exact hk _ ht
    | succ c ihc =>
      intro i hi j hj t ht
      subst hj
      conv => whnf
      apply hX
      conv => whnf
      rw [decide_eq_true (show (i : Int) < (L.length : Int) by omega)]
      conv => whnf
      obtain ⟨k, hk1⟩ : ∃ k, l[i]? = some k := ⟨l[i]'(by omega), List.getElem?_eq_getElem _⟩
      obtain ⟨x, y, z, u, hv⟩ := k.iv_four
      have htk : l.take (i + 1) = l.take i ++ [k] := by rw [List.take_succ, hk1]; rfl
      have hbk : Nd.bytesL (l.take (i + 1)) = Nd.bytesL (l.take i) ++ k.bytes := by rw [htk, Nd.bytesL_app]; exact congrArg _ ByteArray.append_empty
      have hsp : (Nd.bytesL l).size = (Nd.bytesL (l.take i)).size + k.bytes.size + (Nd.bytesL (l.drop (i + 1))).size := by rw [← ByteArray.size_append, ← hbk, ← ByteArray.size_append, ← Nd.bytesL_app, List.take_append_drop]
      have hts : t.size = 1 + (vsize l.length).size + (Nd.bytesL (l.take i)).size := by rw [ht, ByteArray.size_append, ByteArray.size_append]; rfl
      refine ⟨[x, y, z, u], by omega, by rw [← hv]; exact hlg i k hk1, rfl, ?_⟩
      conv => whnf
      refine hS _ _ _ _ <| ih k (h k (List.mem_of_getElem? hk1)).1 (h k (List.mem_of_getElem? hk1)).2 (by omega) x y z u hv _ fun s hs => ?_
      have hsz : s.size = k.bytes.size := by rw [hs]
      conv => whnf
      refine ⟨by omega, ?_⟩
      conv => whnf
      refine ihc (i + 1) (by omega) _ ?_ _ ?_
      · rw [show (i : Int) + 1 = ((i + 1 : Nat) : Int) by omega, i64n _ (by omega)]
      · rw [ht, hs, hbk, ByteArray.append_assoc (a := nb 108 ++ vsize l.length)]
  refine key l.length 0 (by omega) _ rfl _ ?_
  show _ = nb 108 ++ vsize l.length ++ Nd.bytesL []
  exact ByteArray.append_empty.symm
theorem c_ndbytes (d : Nat) : BytesOk d := by
  induction d with
  | zero => intro n _ h; have := n.deep_pos; omega
  | succ d ih =>
    intro n hf hn hs x y z u h K hk
    cases n with
    | num n =>
      simp only [Nd.iv, List.cons.injEq, and_true] at h; obtain ⟨rfl, rfl, rfl, rfl⟩ := h
      exact c_bytesN n hf _ K hk
    | str s =>
      simp only [Nd.iv, List.cons.injEq, and_true] at h; obtain ⟨rfl, rfl, rfl, rfl⟩ := h
      exact c_bytesS s hf K hk
    | lst l =>
      simp only [Nd.iv, List.cons.injEq, and_true] at h; obtain ⟨rfl, rfl, rfl, rfl⟩ := h
      rw [Nd.deep] at hn
      rw [Nd.fine] at hf
      exact c_bytesL d ih l hf.1 (fun n hn' => ⟨Nd.fine_mem hn' hf.2, by have := Nd.deep_mem hn'; omega⟩) hs _ K hk
set_option maxRecDepth 100000 in
theorem c_rWrite (l : List Nd) (hl : l.length < 536870912) (hd : Nd.deepL l < 20) (hf : Nd.fineL l) (hs : (Nd.lst l).bytes.size ≤ 16777216) (e : ByteArray) (he : e = ⟨#[]⟩) (K : AV → List Blk → Prop) (hk : ∀ t, t = (Nd.lst l).bytes → K (.tup [.i (.str t), .i (.bool true)]) []) : SP 51 [.agg [.imm (.int .i64 2), .imm (.int .u64 0), .imm (.str e), .imm (.lst (ivs l))]] [] K := by
  have hfi : (Nd.lst l).fine := by rw [Nd.fine]; exact ⟨hl, hf⟩
  have hde : (Nd.lst l).deep ≤ 20 := by rw [Nd.deep]; omega
  have hR := fun K => c_rRight (.lst l) hfi hde _ _ _ _ (by rw [Nd.iv]) K
  have hB := fun K => c_ndbytes 20 (.lst l) hfi hde (by omega) _ _ _ _ (by rw [Nd.iv]) K
  rw [← he] at hR hB
  generalize (Nd.lst l).bytes = b at *
  refine mk {frz := [1]} (fn := Tryz.f51) Tryz.func51 (by kernel_rfl) (by kernel_rfl) (Nat.le_of_ble_eq_true (Eq.refl true)) fun S hS => ?_
  conv => whnf
  refine hS _ _ _ _ <| hR _ ?_
  conv => whnf
  refine hS _ _ _ _ <| hB _ fun s hs' => ?_
  subst hs'
  conv => whnf
  rw [decide_eq_false (show ¬ ((s.size : Int) > 16777216) by omega)]
  conv => whnf
  exact hk _ rfl
end Go.Proofs.YtmfilaagpobmbaaGreatDoor
