/- A part of the proof of a seat of parts: G5, G6, G7, G8. -/
import Derived.Test.YtmfilaagpobmbaaGreatDoorG1
set_option linter.all false
namespace Go.Proofs.YtmfilaagpobmbaaGreatDoor
open Go Go.Abs
abbrev aLst (ks : List (List IV)) : AV := .agg [.imm (.int .i64 2), .imm (.int .u64 0), .imm (.str ⟨#[]⟩), .imm (.lst ks)]
theorem c_L0 (K : AV → List Blk → Prop) (hk : K (aLst []) []) : SP 45 [.one .nils] [] K := by
  refine mk {} (fn := Tryz.f45) Tryz.func45 (by kernel_rfl) (by kernel_rfl) (Nat.le_of_ble_eq_true (Eq.refl true)) fun S hS => ?_
  conv => whnf
  refine hS _ _ _ _ <| c_Clone0 _ ?_
  conv => whnf
  exact hk
theorem c_LL (k : List IV) (ks : List (List IV)) (h4 : ∀ v ∈ k :: ks, v.length = 4) (hl : ks.length < 536870912) (K : AV → List Blk → Prop) (hk : ∀ L, L = k :: ks → K (aLst L) []) : SP 45 [.i (.lst (k :: ks))] [] K := by
  refine mk {} (fn := Tryz.f45) Tryz.func45 (by kernel_rfl) (by kernel_rfl) (Nat.le_of_ble_eq_true (Eq.refl true)) fun S hS => ?_
  conv => whnf
  refine hS _ _ _ _ <| c_CloneL k ks h4 hl _ fun L hL => ?_
  conv => whnf
  exact hk L hL
theorem c_LS (n : Nat) (hn : 0 < n) (ks : List (List IV)) (hks : n = ks.length) (h4 : ∀ v ∈ ks, v.length = 4) (hl : ks.length < 536870912) (g : Bool) (K : AV → List Blk → Prop) (hk : ∀ L, L = ks → K (aLst L) [.vec 4 ks g]) : SP 45 [.one (.sl 0 0 n)] [.vec 4 ks g] K := by
  cases g
  all_goals
    refine mk {inc := 1} (fn := Tryz.f45) Tryz.func45 (by kernel_rfl) (by kernel_rfl) (Nat.le_of_ble_eq_true (Eq.refl true)) fun S hS => ?_
    conv => whnf
    refine hS _ _ _ _ <| c_CloneS n hn ks hks h4 hl _ _ fun L hL => ?_
    conv => whnf
    exact hk L hL
theorem len_last (tab : ByteArray) (ht : ∀ y : Nat, y < 256 → sb tab ((y : Int)).toNat = ((len8 y : Nat) : Int)) (x y c : Nat) (hx : x < 18446744073709551616) (hy : y < 256) (he : len8 y + c = len8 x) : IntKind.i64.wrap ((c : Int) + IntKind.i64.wrap (sb tab (IntKind.u8.wrap (y : Int)).toNat)) = ((len8 x : Nat) : Int) := by
  have h8 := len8_le x 64 hx
  rw [u8n, Nat.mod_eq_of_lt hy, ht y hy, i64n _ (by omega), ← Int.natCast_add, i64n _ (by omega), Nat.add_comm, he]
theorem shr_at (x : Nat) (k : Int) (m : Nat) (h : min k.toNat IntKind.u64.bits = m) : ((x : Int)).fdiv (2 ^ min k.toNat IntKind.u64.bits) = ((x / 2 ^ m : Nat) : Int) := by rw [h, shrN]
def lenTab : ByteArray := ⟨((List.range 256).map fun i => UInt8.ofNat (len8 i)).toArray⟩
theorem htab : ∀ y : Nat, y < 256 → sb lenTab ((y : Int)).toNat = ((len8 y : Nat) : Int) := by decide +kernel
set_option maxRecDepth 100000 in
set_option maxHeartbeats 4000000 in
theorem c_Len64 (x : Nat) (hx : x < 18446744073709551616) (K) (hk : ∀ L, L = len8 x → K (.i (.int .i64 (L : Int))) []) : SP 110 [.i (.int .u64 (x : Int))] [] K := by
  have hk := hk _ rfl
  refine mk {} (fn := Tryz.f110) Tryz.func110 (by kernel_rfl) (by kernel_rfl) (Nat.le_of_ble_eq_true (Eq.refl true)) fun S hS => ?_
  conv => whnf
  by_cases h32 : 4294967296 ≤ x
  · rw [decide_eq_true (show (x : Int) ≥ 4294967296 by omega)]
    conv => whnf
    refine ⟨by omega, ?_⟩
    conv => whnf
    have e32 := len8_shift x 32 h32
    have y32 : x / 2 ^ 32 < 4294967296 := by omega
    rw [shr_at x 32 32 rfl]
    generalize x / 2 ^ 32 = z32 at *
    by_cases h16 : 65536 ≤ z32
    · rw [decide_eq_true (show (z32 : Int) ≥ 65536 by omega)]
      conv => whnf
      refine ⟨by omega, ?_⟩
      conv => whnf
      have e16 := len8_shift z32 16 h16
      have y16 : z32 / 2 ^ 16 < 65536 := by omega
      rw [shr_at z32 16 16 rfl]
      generalize z32 / 2 ^ 16 = z16 at *
      by_cases h8 : 256 ≤ z16
      · rw [decide_eq_true (show (z16 : Int) ≥ 256 by omega)]
        conv => whnf
        refine ⟨by omega, ?_⟩
        conv => whnf
        have e8 := len8_shift z16 8 h8
        have y8 : z16 / 2 ^ 8 < 256 := by omega
        rw [shr_at z16 8 8 rfl]
        generalize z16 / 2 ^ 8 = z8 at *
        refine ⟨by rw [u8n]; omega, ?_, ?_⟩
        · rw [u8n]; show ((z8 % 256 : Nat) : Int) < 256; omega
        conv => whnf
        exact (congrArg (fun n : Int => K (.i (.int .i64 n)) []) (len_last _ htab x z8 56 hx (by omega) (by omega))).mpr hk
      · rw [decide_eq_false (show ¬ ((z16 : Int) ≥ 256) by omega)]
        conv => whnf
        refine ⟨by rw [u8n]; omega, ?_, ?_⟩
        · rw [u8n]; show ((z16 % 256 : Nat) : Int) < 256; omega
        conv => whnf
        exact (congrArg (fun n : Int => K (.i (.int .i64 n)) []) (len_last _ htab x z16 48 hx (by omega) (by omega))).mpr hk
    · rw [decide_eq_false (show ¬ ((z32 : Int) ≥ 65536) by omega)]
      conv => whnf
      by_cases h8 : 256 ≤ z32
      · rw [decide_eq_true (show (z32 : Int) ≥ 256 by omega)]
        conv => whnf
        refine ⟨by omega, ?_⟩
        conv => whnf
        have e8 := len8_shift z32 8 h8
        have y8 : z32 / 2 ^ 8 < 256 := by omega
        rw [shr_at z32 8 8 rfl]
        generalize z32 / 2 ^ 8 = z8 at *
        refine ⟨by rw [u8n]; omega, ?_, ?_⟩
        · rw [u8n]; show ((z8 % 256 : Nat) : Int) < 256; omega
        conv => whnf
        exact (congrArg (fun n : Int => K (.i (.int .i64 n)) []) (len_last _ htab x z8 40 hx (by omega) (by omega))).mpr hk
      · rw [decide_eq_false (show ¬ ((z32 : Int) ≥ 256) by omega)]
        conv => whnf
        refine ⟨by rw [u8n]; omega, ?_, ?_⟩
        · rw [u8n]; show ((z32 % 256 : Nat) : Int) < 256; omega
        conv => whnf
        exact (congrArg (fun n : Int => K (.i (.int .i64 n)) []) (len_last _ htab x z32 32 hx (by omega) (by omega))).mpr hk
  · rw [decide_eq_false (show ¬ ((x : Int) ≥ 4294967296) by omega)]
    conv => whnf
    by_cases h16 : 65536 ≤ x
    · rw [decide_eq_true (show (x : Int) ≥ 65536 by omega)]
      conv => whnf
      refine ⟨by omega, ?_⟩
      conv => whnf
      have e16 := len8_shift x 16 h16
      have y16 : x / 2 ^ 16 < 65536 := by omega
      rw [shr_at x 16 16 rfl]
      generalize x / 2 ^ 16 = z16 at *
      by_cases h8 : 256 ≤ z16
      · rw [decide_eq_true (show (z16 : Int) ≥ 256 by omega)]
        conv => whnf
        refine ⟨by omega, ?_⟩
        conv => whnf
        have e8 := len8_shift z16 8 h8
        have y8 : z16 / 2 ^ 8 < 256 := by omega
        rw [shr_at z16 8 8 rfl]
        generalize z16 / 2 ^ 8 = z8 at *
        refine ⟨by rw [u8n]; omega, ?_, ?_⟩
        · rw [u8n]; show ((z8 % 256 : Nat) : Int) < 256; omega
        conv => whnf
        exact (congrArg (fun n : Int => K (.i (.int .i64 n)) []) (len_last _ htab x z8 24 hx (by omega) (by omega))).mpr hk
      · rw [decide_eq_false (show ¬ ((z16 : Int) ≥ 256) by omega)]
        conv => whnf
        refine ⟨by rw [u8n]; omega, ?_, ?_⟩
        · rw [u8n]; show ((z16 % 256 : Nat) : Int) < 256; omega
        conv => whnf
        exact (congrArg (fun n : Int => K (.i (.int .i64 n)) []) (len_last _ htab x z16 16 hx (by omega) (by omega))).mpr hk
    · rw [decide_eq_false (show ¬ ((x : Int) ≥ 65536) by omega)]
      conv => whnf
      by_cases h8 : 256 ≤ x
      · rw [decide_eq_true (show (x : Int) ≥ 256 by omega)]
        conv => whnf
        refine ⟨by omega, ?_⟩
        conv => whnf
        have e8 := len8_shift x 8 h8
        have y8 : x / 2 ^ 8 < 256 := by omega
        rw [shr_at x 8 8 rfl]
        generalize x / 2 ^ 8 = z8 at *
        refine ⟨by rw [u8n]; omega, ?_, ?_⟩
        · rw [u8n]; show ((z8 % 256 : Nat) : Int) < 256; omega
        conv => whnf
        exact (congrArg (fun n : Int => K (.i (.int .i64 n)) []) (len_last _ htab x z8 8 hx (by omega) (by omega))).mpr hk
      · rw [decide_eq_false (show ¬ ((x : Int) ≥ 256) by omega)]
        conv => whnf
        refine ⟨by rw [u8n]; omega, ?_, ?_⟩
        · rw [u8n]; show ((x % 256 : Nat) : Int) < 256; omega
        conv => whnf
        exact (congrArg (fun n : Int => K (.i (.int .i64 n)) []) (len_last _ htab x x 0 hx (by omega) (by omega))).mpr hk
end Go.Proofs.YtmfilaagpobmbaaGreatDoor

namespace Go.Proofs.YtmfilaagpobmbaaGreatDoor
open Go Go.Abs
theorem wBnb (s : ByteArray) (n : Nat) (h : n < 256) : bytesIV s ++ [[IV.int .u8 (n : Int)]] = bytesIV (s ++ nb n) := by rw [bytesIV_app, bytesIV_nb n h]
/-- the writer at a node, begun -/
def WrB (d : Nat) : Prop := ∀ n : Nd, n.fine → n.deep ≤ d → ∀ x y z u, n.iv = [x, y, z, u] → ∀ s : ByteArray, s.size + n.bytes.size ≤ 16777216 → ∀ Q : AV → List Blk → Prop, (∀ t, t = s ++ n.bytes → Q (.tup []) (wB false (bytesIV t))) →
  SP 80 [.one (.ref 0 0), .agg [.imm x, .imm y, .imm z, .imm u]] (wB false (bytesIV s)) Q
set_option maxRecDepth 100000 in
set_option maxHeartbeats 1000000 in
theorem c_nodeN (n : Nat) (hn : n < 18446744073709551616) (e : ByteArray) (s : ByteArray) (hs : s.size + (numB n).size + 1 ≤ 16777216) (Q : AV → List Blk → Prop) (hq : ∀ t, t = s ++ (nb 110 ++ numB n) → Q (.tup []) (wB false (bytesIV t))) :
    SP 80 [.one (.ref 0 0), .agg [.imm (.int .i64 0), .imm (.int .u64 (n : Int)), .imm (.str e), .imm (.lst [])]] (wB false (bytesIV s)) Q := by
  have hbl := bytesIV_length s
  have hlb := bigE_len n
  have hl8 := bigE_lt n hn
  have hget := bigE_get n
  have hq := hq _ rfl
  rw [numB, ByteArray.size_append] at hs
  have hs1 : (nb (bigE n).length).size = 1 := rfl
  have hs2 : (⟨(bigE n).toArray⟩ : ByteArray).size = (bigE n).length := rfl
  rw [numB, ← ByteArray.append_assoc, ← ByteArray.append_assoc] at hq
  generalize bigE n = B at *
  refine mk {res := false, inc := 2, frz := [3], hc := [17, 77, 92, 106], pl := [73, 94, 105], keep := [(16, [0, 3, 5]), (7, [0,38,39,40])]} (fn := Tryz.f80) Tryz.func80 (by kernel_rfl) (by kernel_rfl) (Nat.le_of_ble_eq_true (Eq.refl true)) fun S hS => ?_
  conv => whnf
  refine hS _ _ _ _ <| c_LenB false (bytesIV s) _ ?_
  conv => whnf
  rw [decide_eq_false (show ¬ (((bytesIV s).length : Int) > 16777216) by omega)]
  conv => whnf
  refine hS _ _ _ _ <| c_Len64 n hn _ fun L hL => ?_
  have hl64 := len8_le n 64 hn
  conv => whnf
  rw [show (L : Int) + 7 = ((L + 7 : Nat) : Int) by omega, i64n _ (by omega), show (8 : Int) = ((8 : Nat) : Int) from rfl, tdivN _ 8 (by omega), hL, ← hlb]
  refine ⟨by omega, ?_⟩
  conv => whnf
  refine hS _ _ _ _ <| c_WriteByteB false (bytesIV s) 110 (by omega) _ ?_
  conv => whnf
  rw [show (110 : Int) = ((110 : Nat) : Int) from rfl, wBnb s 110 (by decide)]
  have h1 : (s ++ nb 110).size = s.size + 1 := by rw [ByteArray.size_append]; rfl
  refine hS _ _ _ _ <| c_sizeB false (s ++ nb 110) (by omega) B.length (by omega) _ ?_
  conv => whnf
  rw [vsize1 B.length (by omega)]
  generalize hs0 : s ++ nb 110 ++ nb B.length = s0 at *
  have hsz : s0.size = s.size + 2 := by rw [← hs0, ByteArray.size_append, h1]; rfl
  intro X hX
  have key : ∀ (c : Nat), c ≤ B.length → ∀ i : Int, i = 8 * (c : Int) - 8 → ∀ t v, t = s0 ++ bl (B.take (B.length - c)) → v = bytesIV t → frK (kfr 107 [(0, .one (.ref 0 0)), (3, .i (.ptr [.int .i64 0, .int .u64 (n : Int), .str e, .lst []])), (5, .i (.int .i64 i))] (wB false v)) X := by
    intro c
    induction c with
    | zero =>
      intro hc i hi t v ht hv
      subst hi hv
      conv => whnf
      apply hX
      conv => whnf
      rw [Nat.sub_zero, List.take_length] at ht
      rw [← ht] at hq
      exact hq
    | succ c ih =>
      intro hc i hi t v ht hv
      have hi : i = ((8 * c : Nat) : Int) := by omega
      subst hi hv
      have hbt := bytesIV_length t
      have hts : t.size ≤ s0.size + B.length := by rw [ht, ByteArray.size_append, bl_size (B.take (B.length - (c + 1)))]; have := List.length_take (i := B.length - (c + 1)) (l := B); omega
      conv => whnf
      apply hX
      conv => whnf
      rw [decide_eq_true (show ((8 * c : Nat) : Int) ≥ 0 by omega)]
      conv => whnf
      have hsh : min (((8 * c : Nat) : Int)).toNat IntKind.u64.bits = 8 * c := by simp only [IntKind.bits]; omega
      refine ⟨by omega, ?_⟩
      conv => whnf
      rw [hsh, shrN, u8n]
      refine ⟨_, _, hS _ _ _ _ <| c_WriteByteB false (bytesIV t) _ (by omega) _ ⟨rfl, rfl⟩, ?_⟩
      conv => whnf
      refine ih (by omega) _ ?_ (t ++ bl [UInt8.ofNat (n / 256 ^ c)]) _ ?_ ?_
      · rw [wrap64i _ (by omega)]; omega
      · have := hget (B.length - (c + 1)) (by omega)
        rw [ht, show B.length - c = B.length - (c + 1) + 1 by omega, List.take_succ, this, show B.length - 1 - (B.length - (c + 1)) = c by omega, ← bl_app, ByteArray.append_assoc]
        rfl
      · rw [bytesIV_app, show 2 ^ (8 * c) = 256 ^ c by rw [Nat.pow_mul]]
        show _ = _ ++ [[IV.int .u8 (((UInt8.ofNat (n / 256 ^ c)).toNat : Nat) : Int)]]
        rw [UInt8.toNat_ofNat']
  refine key B.length (Nat.le_refl _) _ ?_ s0 _ ?_ rfl
  · rw [wrap64i ((B.length : Int) - 1) (by omega), wrap64i _ (by omega)]; omega
  · rw [Nat.sub_self]; exact (ByteArray.append_empty (b := s0)).symm
end Go.Proofs.YtmfilaagpobmbaaGreatDoor

namespace Go.Proofs.YtmfilaagpobmbaaGreatDoor
open Go Go.Abs
set_option maxRecDepth 100000 in
set_option maxHeartbeats 1000000 in
theorem c_nodeS (x : ByteArray) (hx : x.size < 536870912) (s : ByteArray) (hs : s.size + (nb 115 ++ vsize x.size ++ x).size ≤ 16777216) (Q : AV → List Blk → Prop) (hq : ∀ t, t = s ++ (nb 115 ++ vsize x.size ++ x) → Q (.tup []) (wB false (bytesIV t))) :
    SP 80 [.one (.ref 0 0), .agg [.imm (.int .i64 1), .imm (.int .u64 0), .imm (.str x), .imm (.lst [])]] (wB false (bytesIV s)) Q := by
  have hbl := bytesIV_length s
  have hq := hq _ rfl
  obtain ⟨v5, v0⟩ := vsize_le x.size (by omega)
  rw [ByteArray.size_append, ByteArray.size_append] at hs
  have h1 : (s ++ nb 115).size = s.size + 1 := by rw [ByteArray.size_append]; rfl
  have h2 : (nb 115).size = 1 := rfl
  have h3 : (s ++ nb 115 ++ vsize x.size).size = s.size + 1 + (vsize x.size).size := by rw [ByteArray.size_append, h1]
  rw [← ByteArray.append_assoc, ← ByteArray.append_assoc] at hq
  refine mk {res := false, inc := 2, frz := [3], hc := [17, 77, 92, 106], pl := [73, 94, 105], keep := [(16, [0, 3, 5]), (7, [0,38,39,40])]} (fn := Tryz.f80) Tryz.func80 (by kernel_rfl) (by kernel_rfl) (Nat.le_of_ble_eq_true (Eq.refl true)) fun S hS => ?_
  conv => whnf
  refine hS _ _ _ _ <| c_LenB false (bytesIV s) _ ?_
  conv => whnf
  rw [decide_eq_false (show ¬ (((bytesIV s).length : Int) > 16777216) by omega)]
  conv => whnf
  refine hS _ _ _ _ <| c_WriteByteB false (bytesIV s) 115 (by omega) _ ?_
  conv => whnf
  rw [show (115 : Int) = ((115 : Nat) : Int) from rfl, wBnb s 115 (by decide)]
  refine hS _ _ _ _ <| c_sizeB false (s ++ nb 115) (by omega) x.size (by omega) _ ?_
  conv => whnf
  generalize s ++ nb 115 ++ vsize x.size = s0 at *
  have hb0 := bytesIV_length s0
  refine ⟨_, _, hS _ _ _ _ <| c_LenB false (bytesIV s0) _ ⟨rfl, rfl⟩, ?_⟩
  conv => whnf
  rw [← Int.natCast_add, i64n _ (by omega)]
  rw [decide_eq_false (show ¬ ((((bytesIV s0).length + x.size : Nat) : Int) > 16777216) by omega)]
  conv => whnf
  refine ⟨_, _, hS _ _ _ _ <| c_WriteStringB false (bytesIV s0) x (by omega) (by omega) _ ⟨rfl, rfl⟩, ?_⟩
  conv => whnf
  rw [← bytesIV_app]
  exact hq
set_option maxRecDepth 100000 in
set_option maxHeartbeats 1000000 in
theorem c_nodeL (d : Nat) (ih : WrB d) (l : List Nd) (hl : l.length < 536870912) (h : ∀ n ∈ l, n.fine ∧ n.deep ≤ d) (e : ByteArray) (s : ByteArray) (hs : s.size + (nb 108 ++ vsize l.length ++ Nd.bytesL l).size ≤ 16777216) (Q : AV → List Blk → Prop) (hq : ∀ t, t = s ++ (nb 108 ++ vsize l.length ++ Nd.bytesL l) → Q (.tup []) (wB false (bytesIV t))) :
    SP 80 [.one (.ref 0 0), .agg [.imm (.int .i64 2), .imm (.int .u64 0), .imm (.str e), .imm (.lst (ivs l))]] (wB false (bytesIV s)) Q := by
  have hbl := bytesIV_length s
  have hll := ivs_len l
  have hq := hq _ rfl
  obtain ⟨v5, v0⟩ := vsize_le l.length (by omega)
  rw [ByteArray.size_append, ByteArray.size_append] at hs
  have h1 : (s ++ nb 108).size = s.size + 1 := by rw [ByteArray.size_append]; rfl
  have h2 : (nb 108).size = 1 := rfl
  have h3 : (s ++ nb 108 ++ vsize l.length).size = s.size + 1 + (vsize l.length).size := by rw [ByteArray.size_append, h1]
  rw [← ByteArray.append_assoc, ← ByteArray.append_assoc] at hq
  refine mk {res := false, inc := 2, frz := [3, 7], hc := [17, 77, 92, 106], pl := [73, 94, 105], keep := [(16, [0, 3, 5]), (7, [0,38,39,40])]} (fn := Tryz.f80) Tryz.func80 (by kernel_rfl) (by kernel_rfl) (Nat.le_of_ble_eq_true (Eq.refl true)) fun S hS => ?_
  conv => whnf
  refine hS _ _ _ _ <| c_LenB false (bytesIV s) _ ?_
  conv => whnf
  rw [decide_eq_false (show ¬ (((bytesIV s).length : Int) > 16777216) by omega)]
  conv => whnf
  refine hS _ _ _ _ <| c_WriteByteB false (bytesIV s) 108 (by omega) _ ?_
  conv => whnf
  rw [show (108 : Int) = ((108 : Nat) : Int) from rfl, wBnb s 108 (by decide), hll]
  refine hS _ _ _ _ <| c_sizeB false (s ++ nb 108) (by omega) l.length (by omega) _ ?_
  conv => whnf
  generalize s ++ nb 108 ++ vsize l.length = s0 at *
  intro X hX
  have key : ∀ (c i : Nat), i + c = l.length → ∀ j : Int, j = (i : Int) → ∀ t v, t = s0 ++ Nd.bytesL (l.take i) → v = bytesIV t → frK (kfr 107 [(0, .one (.ref 0 0)), (38, .i (.lst (ivs l))), (39, .i (.int .i64 ((ivs l).length : Int))), (40, .i (.int .i64 j))] (wB false v)) X := by
    intro c
    induction c with
    | zero =>
      intro i hi j hj t v ht hv
      subst hj hv
      conv => whnf
      apply hX
      conv => whnf
      rw [decide_eq_false (show ¬ ((i : Int) < ((ivs l).length : Int)) by omega)]
      conv => whnf
      rw [show i = l.length by omega, List.take_length] at ht
      rw [← ht] at hq
      exact hq
    | succ c ihc =>
      intro i hi j hj t v ht hv
      subst hj hv
      conv => whnf
      apply hX
      conv => whnf
      rw [decide_eq_true (show (i : Int) < ((ivs l).length : Int) by omega)]
      conv => whnf
      obtain ⟨k, hk1⟩ : ∃ k, l[i]? = some k := ⟨l[i]'(by omega), List.getElem?_eq_getElem _⟩
      obtain ⟨hf, hn⟩ := h k (List.mem_of_getElem? hk1)
      obtain ⟨x, y, z, u, hv⟩ := k.iv_four
      have htk : l.take (i + 1) = l.take i ++ [k] := by rw [List.take_succ, hk1]; rfl
      have hbk : Nd.bytesL (l.take (i + 1)) = Nd.bytesL (l.take i) ++ k.bytes := by rw [htk, Nd.bytesL_app]; exact congrArg _ ByteArray.append_empty
      have hsp : Nd.bytesL l = Nd.bytesL (l.take (i + 1)) ++ Nd.bytesL (l.drop (i + 1)) := by rw [← Nd.bytesL_app, List.take_append_drop]
      have hts : t.size + k.bytes.size ≤ 16777216 := by
        rw [hsp, hbk, ByteArray.size_append, ByteArray.size_append] at hs
        rw [ht, ByteArray.size_append]
        omega
      refine ⟨[x, y, z, u], by omega, by rw [← hv]; exact ivs_get l i k hk1, rfl, ?_⟩
      conv => whnf
      refine hS _ _ _ _ <| ih k hf hn x y z u hv t hts _ fun t' ht' => ?_
      conv => whnf
      refine ihc (i + 1) (by omega) _ ?_ t' _ ?_ rfl
      · rw [show (i : Int) + 1 = ((i + 1 : Nat) : Int) by omega, i64n _ (by omega)]
      · rw [ht', ht, hbk, ByteArray.append_assoc]
  exact key l.length 0 (by omega) _ rfl s0 _ (by exact (ByteArray.append_empty (b := s0)).symm) rfl
theorem c_nodeB (d : Nat) : WrB d := by
  induction d with
  | zero => intro n _ h; have := n.deep_pos; omega
  | succ d ih =>
    intro n hf hn x y z u h s hs Q hq
    cases n with
    | num n =>
      simp only [Nd.iv, List.cons.injEq, and_true] at h; obtain ⟨rfl, rfl, rfl, rfl⟩ := h
      exact c_nodeN n hf _ s (by rw [Nd.bytes, ByteArray.size_append] at hs; have : (nb 110).size = 1 := rfl; omega) Q hq
    | str x =>
      simp only [Nd.iv, List.cons.injEq, and_true] at h; obtain ⟨rfl, rfl, rfl, rfl⟩ := h
      exact c_nodeS x hf s hs Q hq
    | lst l =>
      simp only [Nd.iv, List.cons.injEq, and_true] at h; obtain ⟨rfl, rfl, rfl, rfl⟩ := h
      rw [Nd.deep] at hn
      rw [Nd.fine] at hf
      exact c_nodeL d ih l hf.1 (fun n hn' => ⟨Nd.fine_mem hn' hf.2, by have := Nd.deep_mem hn'; omega⟩) _ s hs Q hq
end Go.Proofs.YtmfilaagpobmbaaGreatDoor

namespace Go.Proofs.YtmfilaagpobmbaaGreatDoor
open Go Go.Abs
set_option maxRecDepth 100000 in
set_option maxHeartbeats 1000000 in
/-- a list, by a writer that has not begun -/
theorem c_nodeA (d : Nat) (ih : WrB d) (l : List Nd) (hl : l.length < 536870912) (h : ∀ n ∈ l, n.fine ∧ n.deep ≤ d) (e : ByteArray) (hs : (nb 108 ++ vsize l.length ++ Nd.bytesL l).size ≤ 16777216) (Q : AV → List Blk → Prop) (hq : ∀ t, t = nb 108 ++ vsize l.length ++ Nd.bytesL l → Q (.tup []) (wC false (bytesIV t))) :
    SP 80 [.one (.ref 0 0), .agg [.imm (.int .i64 2), .imm (.int .u64 0), .imm (.str e), .imm (.lst (ivs l))]] (wA false) Q := by
  have hll := ivs_len l
  have hq := hq _ rfl
  obtain ⟨v5, v0⟩ := vsize_le l.length (by omega)
  rw [ByteArray.size_append, ByteArray.size_append] at hs
  have h2 : (nb 108).size = 1 := rfl
  have h3 : (nb 108 ++ vsize l.length).size = 1 + (vsize l.length).size := by rw [ByteArray.size_append, h2]
  refine mk {res := false, inc := 1, frz := [3, 7], hc := [17, 77, 92, 106], pl := [73, 94, 105], keep := [(16, [0, 3, 5]), (7, [0,38,39,40])]} (fn := Tryz.f80) Tryz.func80 (by kernel_rfl) (by kernel_rfl) (Nat.le_of_ble_eq_true (Eq.refl true)) fun S hS => ?_
  conv => whnf
  refine hS _ _ _ _ <| c_LenA false _ ?_
  conv => whnf
  refine hS _ _ _ _ <| c_WriteByteA false 108 _ ?_
  conv => whnf
  rw [show [[IV.int IntKind.u8 (108 : Int)]] = bytesIV (nb 108) from rfl, hll]
  refine hS _ _ _ _ <| c_sizeB false (nb 108) (by omega) l.length (by omega) _ ?_
  conv => whnf
  generalize nb 108 ++ vsize l.length = s0 at *
  intro X hX
  have key : ∀ (c i : Nat), i + c = l.length → ∀ j : Int, j = (i : Int) → ∀ t v, t = s0 ++ Nd.bytesL (l.take i) → v = bytesIV t → frK (kfr 107 [(0, .one (.ref 0 0)), (38, .i (.lst (ivs l))), (39, .i (.int .i64 ((ivs l).length : Int))), (40, .i (.int .i64 j))] (wC false v)) X := by
    intro c
    induction c with
    | zero =>
      intro i hi j hj t v ht hv
      subst hj hv
      conv => whnf
      apply hX
      conv => whnf
      rw [decide_eq_false (show ¬ ((i : Int) < ((ivs l).length : Int)) by omega)]
      conv => whnf
      rw [show i = l.length by omega, List.take_length] at ht
      rw [← ht] at hq
      exact hq
    | succ c ihc =>
      intro i hi j hj t v ht hv
      subst hj hv
      conv => whnf
      apply hX
      conv => whnf
      rw [decide_eq_true (show (i : Int) < ((ivs l).length : Int) by omega)]
      conv => whnf
      obtain ⟨k, hk1⟩ : ∃ k, l[i]? = some k := ⟨l[i]'(by omega), List.getElem?_eq_getElem _⟩
      obtain ⟨hf, hn⟩ := h k (List.mem_of_getElem? hk1)
      obtain ⟨x, y, z, u, hv⟩ := k.iv_four
      have htk : l.take (i + 1) = l.take i ++ [k] := by rw [List.take_succ, hk1]; rfl
      have hbk : Nd.bytesL (l.take (i + 1)) = Nd.bytesL (l.take i) ++ k.bytes := by rw [htk, Nd.bytesL_app]; exact congrArg _ ByteArray.append_empty
      have hsp : Nd.bytesL l = Nd.bytesL (l.take (i + 1)) ++ Nd.bytesL (l.drop (i + 1)) := by rw [← Nd.bytesL_app, List.take_append_drop]
      have hts : t.size + k.bytes.size ≤ 16777216 := by
        rw [hsp, hbk, ByteArray.size_append, ByteArray.size_append] at hs
        rw [ht, ByteArray.size_append]
        omega
      refine ⟨[x, y, z, u], by omega, by rw [← hv]; exact ivs_get l i k hk1, rfl, ?_⟩
      conv => whnf
      refine hS _ _ _ _ <| ih k hf hn x y z u hv t hts _ fun t' ht' => ?_
      conv => whnf
      refine ihc (i + 1) (by omega) _ ?_ t' _ ?_ rfl
      · rw [show (i : Int) + 1 = ((i + 1 : Nat) : Int) by omega, i64n _ (by omega)]
      · rw [ht', ht, hbk, ByteArray.append_assoc]
  exact key l.length 0 (by omega) _ rfl s0 _ (by exact (ByteArray.append_empty (b := s0)).symm) rfl
set_option maxRecDepth 100000 in
set_option maxHeartbeats 1000000 in
theorem c_Write (l : List Nd) (hl : l.length < 536870912) (hd : Nd.deepL l < 20) (hf : Nd.fineL l) (hs : (Nd.lst l).bytes.size ≤ 16777216) (e : ByteArray) (he : e = ⟨#[]⟩) (K : AV → List Blk → Prop) (hk : ∀ t, t = (Nd.lst l).bytes → K (.tup [.i (.str t), .i (.bool true)]) []) : SP 44 [.agg [.imm (.int .i64 2), .imm (.int .u64 0), .imm (.str e), .imm (.lst (ivs l))]] [] K := by
  have hk := hk _ rfl
  have hp := Nd.bytes_pos (.lst l)
  rw [Nd.bytes] at hk hs hp
  have hR := fun K => c_Right (.lst l) (by rw [Nd.fine]; exact ⟨hl, hf⟩) (by rw [Nd.deep]; omega) _ _ _ _ (by rw [Nd.iv]) K
  rw [← he] at hR
  refine mk {frz := [1], ht := [4]} (fn := Tryz.f44) Tryz.func44 (by kernel_rfl) (by kernel_rfl) (Nat.le_of_ble_eq_true (Eq.refl true)) fun S hS => ?_
  conv => whnf
  refine hS _ _ _ _ <| hR _ ?_
  conv => whnf
  refine hS _ _ _ _ <| c_nodeA 20 (c_nodeB 20) l hl (fun n hn => ⟨Nd.fine_mem hn hf, by have := Nd.deep_mem hn; omega⟩) e hs _ fun t ht => ?_
  conv => whnf
  rw [← ht] at hk hp hs
  have hbt := bytesIV_length t
  refine hS _ _ _ _ <| c_LenB false (bytesIV t) _ ?_
  conv => whnf
  rw [decide_eq_false (show ¬ (((bytesIV t).length : Int) > 16777216) by omega)]
  conv => whnf
  refine hS _ _ _ _ <| c_String false t hp (by omega) _ rfl _ ?_
  conv => whnf
  exact hk
end Go.Proofs.YtmfilaagpobmbaaGreatDoor
