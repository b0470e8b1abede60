/- A part of the proof of a seat of parts: C1, C2, CR. -/
import Derived.Test.YtmfilaagpobmbaaGreatDoorS1
import Derived.Test.YtmfilaagpobmbaaGreatDoorShelf
import Derived.Test.YtmfilaagpobmbaaGreatDoorTE
set_option linter.all false
namespace Go.Proofs.YtmfilaagpobmbaaGreatDoor
open Go Go.Abs
noncomputable abbrev SP := Snd Tryz.prog E
theorem mk {f : Nat} {fn : Func} (hh : Hint) {args : List AV} {H : List Blk} {Q : AV → List Blk → Prop} (hf : Tryz.prog.funcs[f]? = some fn) (hn : (fn.name == "runtime.NumGoroutine") = false) (hd : bodyOk E hh fn = true)
   (hinc : H.length ≤ hh.inc) (h : ∀ S : Go.Abs.Spec, (∀ f args H Q, SP f args H Q → S f args H Q) → aBody E hh S fn args H Q) : SP f args H Q := Snd.intro tyOk eqOk mixed hh hf hn hd hinc (h SP fun _ _ _ _ h => h)

theorem c_RotateLeft32 (x : W) (n : Int) (s : Nat) (hs : ibits .and .u64 (IntKind.u64.wrap n) 31 = (s : Int)) (h0 : 0 < s) (h32 : s ≤ 31) (K) (h : K (.i (w32 (rot x (32 - s)))) []) : SP 141 [.i (w32 x), .i (.int .i64 n)] [] K := by
  refine mk {} (fn := Tryz.f141) Tryz.func141 (by kernel_rfl) (by kernel_rfl) (Nat.le_of_ble_eq_true (Eq.refl true)) fun S hS => ?_
  conv => whnf
  rw [hs]
  refine ⟨by omega, ?_⟩
  conv => whnf
  have e1 : IntKind.u64.wrap (32 - (s : Int)) = ((32 - s : Nat) : Int) := by rw [wrap64u]; omega
  rw [e1]
  refine ⟨by omega, ?_⟩
  conv => whnf
  have e2 : min ((s : Int).toNat) IntKind.u32.bits = s := by simp only [IntKind.bits]; omega
  have e3 : min (((32 - s : Nat) : Int).toNat) IntKind.u32.bits = 32 - s := by simp only [IntKind.bits]; omega
  rw [e2, e3, w_shl, w_shr, w_or]
  rw [show rot x (32 - s) = (x <<< s ||| x >>> (32 - s)) by unfold rot; rw [show 32 - (32 - s) = s by omega]] at h
  exact h

theorem rotNum : ∀ n : Fin 32, 0 < n.val → ibits .and .u64 (IntKind.u64.wrap (IntKind.i64.wrap (0 - (n.val : Int)))) 31 = ((32 - n.val : Nat) : Int) := by decide

theorem c_right (x : W) (n : Nat) (h0 : 0 < n) (h32 : n < 32) (K) (h : K (.i (w32 (rot x n))) []) : SP 140 [.i (w32 x), .i (.int .i64 n)] [] K := by
  refine mk {} (fn := Tryz.f140) Tryz.func140 (by kernel_rfl) (by kernel_rfl) (Nat.le_of_ble_eq_true (Eq.refl true)) fun S hS => ?_
  conv => whnf
  refine hS _ _ _ _ <| c_RotateLeft32 x _ (32 - n) (rotNum ⟨n, h32⟩ h0) (by omega) (by omega) _ ?_
  conv => whnf
  rw [show 32 - (32 - n) = n by omega]
  have e : IntKind.u32.wrap ((rot x n).toNat : Int) = ((rot x n).toNat : Int) := by rw [wrap32]; have := (rot x n).isLt; omega
  try rw [e]
  exact h

theorem c_three (x : W) (a b c : Nat) (ha : 0 < a ∧ a < 32) (hb : 0 < b ∧ b < 32) (hc : 0 < c ∧ c < 32) (K) (h : K (.i (w32 (three x a b c))) []) : SP 139 [.i (w32 x), .i (.int .i64 a), .i (.int .i64 b), .i (.int .i64 c)] [] K := by
  refine mk {} (fn := Tryz.f139) Tryz.func139 (by kernel_rfl) (by kernel_rfl) (Nat.le_of_ble_eq_true (Eq.refl true)) fun S hS => ?_
  conv => whnf
  refine hS _ _ _ _ <| c_right x a ha.1 ha.2 _ ?_
  conv => whnf
  refine hS _ _ _ _ <| c_right x b hb.1 hb.2 _ ?_
  conv => whnf
  rw [w_xor]
  refine hS _ _ _ _ <| c_right x c hc.1 hc.2 _ ?_
  conv => whnf
  rw [w_xor]
  exact h
theorem c_s (x : W) (a b c : Nat) (ha : 0 < a ∧ a < 32) (hb : 0 < b ∧ b < 32) (hc : c < 32) (K) (h : K (.i (w32 (sx x a b c))) []) : SP 138 [.i (w32 x), .i (.int .i64 a), .i (.int .i64 b), .i (.int .i64 c)] [] K := by
  refine mk {} (fn := Tryz.f138) Tryz.func138 (by kernel_rfl) (by kernel_rfl) (Nat.le_of_ble_eq_true (Eq.refl true)) fun S hS => ?_
  conv => whnf
  refine ⟨.i (w32 (rot x a)), hS _ _ _ _ <| c_right x a ha.1 ha.2 _ ⟨rfl, rfl⟩, rfl, ?_⟩
  conv => whnf
  refine ⟨.i (w32 (rot x b)), hS _ _ _ _ <| c_right x b hb.1 hb.2 _ ⟨rfl, rfl⟩, rfl, ?_⟩
  conv => whnf
  refine ⟨by omega, ?_⟩
  conv => whnf
  have e3 : min ((c : Int).toNat) IntKind.u32.bits = c := by simp only [IntKind.bits]; omega
  rw [e3, w_shr, w_xor, w_xor]
  exact h

set_option maxRecDepth 100000 in
theorem c_round (x : S8) (w : W) (Q) (hq : Q (x.round w).ag []) : SP 133 [x.ag, .i (w32 w)] [] Q := by
  refine mk {} (fn := Tryz.f133) Tryz.func133 (by kernel_rfl) (by kernel_rfl) (Nat.le_of_ble_eq_true (Eq.refl true)) fun S hS => ?_
  conv => whnf
  refine ⟨.i (w32 (three x.e 6 11 25)), hS _ _ _ _ <| c_three x.e 6 11 25 (by decide) (by decide) (by decide) _ ⟨rfl, rfl⟩, rfl, ?_⟩
  conv => whnf
  refine ⟨.i (w32 (three x.a 2 13 22)), hS _ _ _ _ <| c_three x.a 2 13 22 (by decide) (by decide) (by decide) _ ⟨rfl, rfl⟩, rfl, ?_⟩
  conv => whnf
  simp only [w_not', w_and, w_xor, w_add]
  exact hq
set_option maxRecDepth 100000 in
theorem c_plus (x y : S8) (Q) (hq : Q (x.plus y).ag []) : SP 134 [x.ag, y.ag] [] Q := by
  refine mk {} (fn := Tryz.f134) Tryz.func134 (by kernel_rfl) (by kernel_rfl) (Nat.le_of_ble_eq_true (Eq.refl true)) fun S hS => ?_
  conv => whnf
  simp only [w_add]
  exact hq
set_option maxRecDepth 100000 in
theorem c_bits (x : W) (n : Nat) (h0 : 0 < n ∧ n < 32) (Q) (hq : Q (.i (w32 (rot x n))) []) : SP 130 [.i (w32 x), .i (.int .i64 n)] [] Q := by
  refine mk {} (fn := Tryz.f130) Tryz.func130 (by kernel_rfl) (by kernel_rfl) (Nat.le_of_ble_eq_true (Eq.refl true)) fun S hS => ?_
  conv => whnf
  refine ⟨by omega, ?_⟩
  conv => whnf
  rw [wrap64i _ (by omega)]
  refine ⟨by omega, ?_⟩
  conv => whnf
  have e2 : min ((n : Int).toNat) IntKind.u32.bits = n := by simp only [IntKind.bits]; omega
  have e3 : min ((32 - (n : Int)).toNat) IntKind.u32.bits = 32 - n := by simp only [IntKind.bits]; omega
  rw [e2, e3, w_shl, w_shr, w_add, rot_add x n h0]
  exact hq
end Go.Proofs.YtmfilaagpobmbaaGreatDoor

namespace Go.Proofs.YtmfilaagpobmbaaGreatDoor
open Go Go.Abs
theorem tdivN (i k : Nat) (h : i < 9223372036854775808) : IntKind.i64.wrap ((i : Int).tdiv (k : Int)) = ((i / k : Nat) : Int) := by
  have h1 := Nat.div_le_self i k
  generalize hq : i / k = q at *
  rw [← Int.ofNat_tdiv, hq, wrap64i _ (by omega)]
set_option maxRecDepth 100000 in
theorem c_plan (b : ByteArray) (hb : b.size = 64) (Q) (hq : ∀ l, l = wsz b 48 → Q (.iagg (l.map w32)) []) : SP 132 [.i (.str b)] [] Q := by
  refine mk {keep := [(3, [0,2,3,6]), (8, [2,3,23])]} (fn := Tryz.f132) Tryz.func132 (by kernel_rfl) (by kernel_rfl) (Nat.le_of_ble_eq_true (Eq.refl true)) fun S hS => ?_
  conv => whnf
  intro X hX
  have key : ∀ (d i : Nat), i + d = 64 → frK (kfr 51 [(0, .i (.str b)), (2, .one (.ref 0 0)), (3, .one (.ref 1 0)), (6, .i (.int .i64 (i : Int)))] [.vec 1 (e1 (List.replicate 64 0)) false, .vec 1 (e1 (partW b i)) false]) X := by
    intro d
    induction d with
    | zero =>
      intro i hi
      obtain rfl : i = 64 := hi
      conv => whnf
      apply hX
      conv => whnf
      clear hX
      intro X hX
      have key2 : ∀ (d n : Nat), n + d = 48 → frK (kfr 51 [(2, .one (.ref 0 0)), (3, .one (.ref 1 0)), (23, .i (.int .i64 (n : Int)))] [.vec 1 (e1 (List.replicate 64 0)) false, .vec 1 (e1 (wsz b n)) false]) X := by
        intro d
        induction d with
        | zero =>
          intro n hn
          obtain rfl : n = 48 := hn
          have hl := wsz_len b 48 (by omega)
          have hq := hq _ rfl
          revert hl hq
          generalize wsz b 48 = l
          intro hl hq
          conv => whnf
          apply hX
          conv => whnf
          refine ⟨by rw [e1_len, hl], ?_⟩
          conv => whnf
          have h64 : (e1 l).flatten.length = 64 := by rw [flat_e1]; simp [hl]
          refine ⟨h64, by rw [h64]; decide, h64, ?_⟩
          conv => whnf
          refine ⟨chunk_len _ _ _, ?_⟩
          conv => whnf
          rw [flat_chunk _ _ _ (by rw [h64]; decide), flat_e1]
          exact hq
        | succ d ih =>
          intro n hn
          conv => whnf
          apply hX
          conv => whnf
          rw [decide_eq_true (show (n : Int) < 48 by omega)]
          conv => whnf
          have hlen := wsz_len b n (by omega)
          refine ⟨by omega, by omega, by rw [e1_len, hlen]; omega, ?_⟩
          conv => whnf
          rw [show (n : Int).toNat = n from rfl]
          refine ⟨_, e1_get _ _ _ (wsz_get b n n (by omega)), ?_⟩
          conv => whnf
          rw [show (n : Int) + 1 = ((n + 1 : Nat) : Int) by omega, i64n _ (by omega)]
          refine ⟨by omega, by omega, by rw [e1_len, hlen]; omega, ?_⟩
          conv => whnf
          rw [show ((n + 1 : Nat) : Int).toNat = n + 1 from rfl]
          refine ⟨_, e1_get _ _ _ (wsz_get b n (n + 1) (by omega)), ?_⟩
          conv => whnf
          refine ⟨.i (w32 (sx ((ws b n).getD (n + 1) 0) 7 18 3)), hS _ _ _ _ <| c_s _ 7 18 3 (by decide) (by decide) (by decide) _ ⟨rfl, rfl⟩, rfl, ?_⟩
          conv => whnf
          rw [w_add, show (n : Int) + 9 = ((n + 9 : Nat) : Int) by omega, i64n _ (by omega)]
          refine ⟨by omega, by omega, by rw [e1_len, hlen]; omega, ?_⟩
          conv => whnf
          rw [show ((n + 9 : Nat) : Int).toNat = n + 9 from rfl]
          refine ⟨_, e1_get _ _ _ (wsz_get b n (n + 9) (by omega)), ?_⟩
          conv => whnf
          rw [w_add, show (n : Int) + 14 = ((n + 14 : Nat) : Int) by omega, i64n _ (by omega)]
          refine ⟨by omega, by omega, by rw [e1_len, hlen]; omega, ?_⟩
          conv => whnf
          rw [show ((n + 14 : Nat) : Int).toNat = n + 14 from rfl]
          refine ⟨_, e1_get _ _ _ (wsz_get b n (n + 14) (by omega)), ?_⟩
          conv => whnf
          refine ⟨.i (w32 (sx ((ws b n).getD (n + 14) 0) 17 19 10)), hS _ _ _ _ <| c_s _ 17 19 10 (by decide) (by decide) (by decide) _ ⟨rfl, rfl⟩, rfl, ?_⟩
          conv => whnf
          rw [w_add, show (n : Int) + 16 = ((n + 16 : Nat) : Int) by omega, i64n _ (by omega)]
          refine ⟨by omega, by omega, by rw [e1_len, hlen]; omega, ?_⟩
          conv => whnf
          rw [show ((n + 16 : Nat) : Int).toNat = n + 16 from rfl]
          obtain ⟨c, hc⟩ : ∃ c, (wsz b n)[n + 16]? = some c := ⟨_, List.getElem?_eq_getElem (by omega)⟩
          refine ⟨Nat.one_pos, _, e1_get _ _ _ hc, Nat.le_refl 1, ?_⟩
          conv => whnf
          have e : ∀ w : W, (e1 (wsz b n)).set (n + 16) (splice [w32 c] 0 [w32 w]) = e1 ((wsz b n).set (n + 16) w) := fun w => e1_set _ _ _
          have e2 := wsz_step b n (by omega)
          unfold nx at e2
          rw [e, e2, show (n : Int) + 1 = ((n + 1 : Nat) : Int) by omega, i64n _ (by omega)]
          exact ih (n + 1) (by omega)
      rw [partW_full]
      exact key2 48 0 rfl
    | succ d ih =>
      intro i hi
      conv => whnf
      apply hX
      conv => whnf
      rw [decide_eq_true (show (i : Int) < 64 by omega)]
      conv => whnf
      refine ⟨by decide, ?_⟩
      conv => whnf
      refine ⟨by decide, ?_⟩
      conv => whnf
      rw [show (4 : Int) = ((4 : Nat) : Int) from rfl, tdivN i 4 (by omega)]
      refine ⟨by omega, by omega, by rw [e1_len]; simp [partW]; omega, ?_⟩
      conv => whnf
      rw [show ((i / 4 : Nat) : Int).toNat = i / 4 from rfl]
      refine ⟨_, e1_get _ _ _ (partW_get b i (i / 4) (by omega)), ?_⟩
      conv => whnf
      refine ⟨by decide, ?_⟩
      conv => whnf
      refine ⟨by omega, by omega, ?_⟩
      conv => whnf
      rw [show (i : Int).toNat = i from rfl, show min (Int.toNat 8) IntKind.u32.bits = 8 from rfl, w_shl, wrap_sb, w_or]
      refine ⟨by omega, by omega, by rw [e1_len]; simp [partW]; omega, ?_⟩
      conv => whnf
      rw [show ((i / 4 : Nat) : Int).toNat = i / 4 from rfl]
      refine ⟨Nat.one_pos, _, e1_get _ _ _ (partW_get b i (i / 4) (by omega)), Nat.le_refl 1, ?_⟩
      conv => whnf
      have e : ∀ w : W, (e1 (partW b i)).set (i / 4) (splice [w32 (wordN b (i / 4) (min 4 (i - 4 * (i / 4))))] 0 [w32 w]) = e1 ((partW b i).set (i / 4) w) := fun w => e1_set _ _ _
      rw [e, partW_step b i (by omega), show (i : Int) + 1 = ((i + 1 : Nat) : Int) by omega, i64n _ (by omega)]
      exact ih (i + 1) (by omega)
  exact key 64 0 rfl
theorem kW_toNat : ∀ l : List Nat, (∀ n ∈ l, n < 4294967296) → (l.map (BitVec.ofNat 32)).map w32 = l.map (fun n : Nat => IV.int .u32 (n : Int)) := by
  intro l h
  rw [List.map_map]
  apply List.map_congr_left
  intro n hn
  simp only [Function.comp]
  show IV.int .u32 (((BitVec.ofNat 32 n).toNat : Nat) : Int) = _
  rw [BitVec.toNat_ofNat, Nat.mod_eq_of_lt (h n hn)]
theorem constW_eq : constW = kW.map w32 := by
  unfold kW
  rw [kW_toNat _ (by decide)]; rfl
theorem at1 (l : List W) (t : Nat) (h : t < l.length) : ((l.map w32).drop (t * 1)).take 1 = [w32 (l.getD t 0)] := by
  rw [Nat.mul_one, ← List.map_drop, ← List.map_take]
  simp [List.take_one, h, List.getD]
end Go.Proofs.YtmfilaagpobmbaaGreatDoor

namespace Go.Proofs.YtmfilaagpobmbaaGreatDoor
open Go Go.Abs Go.Proofs Go.RowKit
theorem snd_of_calls {f : Nat} {args : List AV} {vs0 : Array Value} {r : AV} {v : Value} {K : AV → List Blk → Prop} (hfn : ∃ fn, Tryz.prog.funcs[f]? = some fn ∧ (fn.name == "runtime.NumGoroutine") = false ∧ fn.body.isNone = false)
    (hargs : ∀ w g vs, L2 (AVR w g) args vs.toList → vs = vs0) (hr : ∀ w g, AVR w g r v) (hk : K r [])
    (hc : ∀ w, Calls Tryz.prog f vs0 w fun e w' => e = .returned v ∧ Below w.heap.size w w') : SP f args [] K := by
  intro w g vs hs ha
  obtain rfl := hargs w g vs ha
  refine ⟨hfn, (hc w).mono fun e w' ⟨he, hb⟩ => ⟨v, g, r, [], he, ?_, ?_, .refl _, Nat.le_refl _, hr _ _, hk⟩⟩
  · refine ⟨fun id B h => by simp at h, fun id B id' B' r r' h => by simp at h, fun b ⟨id, B, h, _⟩ => by simp at h, fun b hb' => Nat.lt_of_lt_of_le (hs.lt b hb') hb.size, hs.nil, fun k cells hk => ?_⟩
    exact (hs.glob k cells hk).keep (fun _ h => h) (fun b hb' => hb.block b (hs.lt b hb'))
  · exact ⟨hb.os, hb.tape, hb.output, hb.size, fun b h1 _ => hb.block b h1, fun _ h => h, fun _ h => .inl h, fun _ h => .inl h⟩
abbrev rep := Lib.repeatL
theorem c_Repeat (s : ByteArray) (n : Nat) (h : s.size * n < 1099511627776) (hn : n < 1099511627776) (K) (hk : K (.i (.str ⟨(rep s.data.toList n).toArray⟩)) []) : SP 73 [.i (.str s), .i (.int .i64 (n : Int))] [] K := by
  refine snd_of_calls (vs0 := #[.string s, .int .i64 n]) ⟨_, Tryz.func73, by kernel_rfl, by kernel_rfl⟩ (fun w g vs hv => ?_) (fun w g => ?_) hk (fun w => Tryz.strings_Repeat s n w (by omega) (by omega))
  · obtain ⟨b, m, h1, h2, h3⟩ := hv.uncons
    obtain ⟨b', m', h4, h5, h6⟩ := h3.uncons
    have := h6.nil_inv
    subst this
    cases h2; cases h5
    apply Array.toList_inj.1
    rw [h1, h4]
  · exact Rd.str _
end Go.Proofs.YtmfilaagpobmbaaGreatDoor
