/- A part of the proof of a seat of parts: L5, L6, L7. -/
import Derived.Test.YtmfilaagpobmbaaGreatDoorK3
import Derived.Test.YtmfilaagpobmbaaGreatDoorL3
set_option linter.all false
namespace Go.Proofs.YtmfilaagpobmbaaGreatDoor
open Go Go.Abs
/-- the fork above, as the document's reader is told of it -/
def upR (u : Up) (at_ : Int) (first : ByteArray) (side : Int) : Prop := match u with
  | none => at_ = -1
  | some (a, k, s) => at_ = (a : Int) ∧ first = k ∧ side = ((s.toNat : Nat) : Int)
set_option maxRecDepth 100000 in
theorem c_rbelow (f : Nat) (u : Up) (at_ : Int) (first : ByteArray) (side : Int) (hr : upR u at_ first side) (hu : upOk f u) (key : ByteArray) (hkey : key.size = 32) (bits : Nat) (K : AV → List Blk → Prop) (hk : K (.i (.bool (holdsB u key bits))) []) :
    SP 66 [.i (.str key), .i (.int .i64 (bits : Int)), .i (.int .i64 at_), .i (.str first), .i (.int .i64 side)] [] K := by
  rcases u with _ | ⟨a, k, s⟩
  · have hr : at_ = -1 := hr
    subst hr
    refine mk {} (fn := Tryz.f66) Tryz.func66 (by kernel_rfl) (by kernel_rfl) (Nat.le_of_ble_eq_true (Eq.refl true)) fun S hS => ?_
    conv => whnf
    exact hk
  · obtain ⟨rfl, rfl, rfl⟩ := hr
    obtain ⟨ha, hk32, _⟩ := hu
    simp only [holdsB] at hk
    refine mk {} (fn := Tryz.f66) Tryz.func66 (by kernel_rfl) (by kernel_rfl) (Nat.le_of_ble_eq_true (Eq.refl true)) fun S hS => ?_
    conv => whnf
    rw [decide_eq_false (show ¬ ((a : Int) < 0) by omega)]
    conv => whnf
    by_cases h1 : a < bits
    · rw [decide_eq_true h1] at hk
      rw [decide_eq_true (show (bits : Int) > (a : Int) by omega)]
      conv => whnf
      refine hS _ _ _ _ <| c_Has key first a hkey hk32 (by omega) _ ?_
      cases hh : hasB a key first
      · rw [hh] at hk
        conv => whnf
        exact hk
      · rw [hh] at hk
        conv => whnf
        refine hS _ _ _ _ <| c_rBit key a hkey ha _ ?_
        conv => whnf
        rw [bit_eq]
        exact hk
    · rw [decide_eq_false h1] at hk
      rw [decide_eq_false (show ¬ ((bits : Int) > (a : Int)) by omega)]
      conv => whnf
      exact hk
set_option maxRecDepth 100000 in
set_option maxHeartbeats 2000000 in
theorem c_rtext (a : Nat) (ha : a < 256) (k e h : ByteArray) (hk32 : k.size = 32) (z o : PT) (hz : z.hash.size = 32) (ho : o.hash.size = 32) (L : List (List IV)) (hL : L = [z.tv, o.tv]) (K : AV → List Blk → Prop) (hk : ∀ s, s = forkText a k z.hash o.hash → K (.i (.str s)) [.vec 6 L true]) :
    SP 61 [.agg [.imm (.int .i64 2), .imm (.str k), .imm (.str e), .imm (.int .i64 (a : Int)), .sl 0 0 2, .imm (.str h)]] [.vec 6 L true] K := by
  have hk := hk _ rfl
  unfold forkText at hk
  obtain ⟨x1, y1, z1, u1, e1⟩ := z.tv_six
  obtain ⟨x2, y2, z2, u2, e2⟩ := o.tv_six
  rw [e1, e2] at hL
  subst hL
  clear e1 e2
  have m2 : (mkB [a / 256 % 256, a % 256]).size = 2 := mkB_size _
  have em : bytesIV (mkB [a / 256 % 256, a % 256]) = eb [a / 256 % 256, a % 256] := (eb_mkB [a / 256 % 256, a % 256] (by intro n hn; simp at hn; omega)).symm
  have one1 : (⟨#[1]⟩ : ByteArray).size = 1 := rfl
  have w1 : IntKind.u8.wrap (IntKind.i64.wrap ((a : Int).tdiv 256)) = ((a / 256 % 256 : Nat) : Int) := by
    rw [show (256 : Int) = ((256 : Nat) : Int) from rfl, tdivN a 256 (by omega), wrap8]; omega
  have w2 : IntKind.u8.wrap ((a : Int).tmod 256) = ((a % 256 : Nat) : Int) := by
    rw [show (256 : Int) = ((256 : Nat) : Int) from rfl, tmodN, wrap8]; omega
  generalize mkB [a / 256 % 256, a % 256] = mb at *
  generalize z.hash = zh at *
  generalize o.hash = oh at *
  generalize z.tv.getD 4 .nilp = q1 at *
  generalize o.tv.getD 4 .nilp = q2 at *
  refine mk {inc := 1} (fn := Tryz.f61) Tryz.func61 (by kernel_rfl) (by kernel_rfl) (Nat.le_of_ble_eq_true (Eq.refl true)) fun S hS => ?_
  conv => whnf
  refine ⟨by decide, ?_⟩
  conv => whnf
  refine ⟨by decide, ?_⟩
  conv => whnf
  rw [w1, w2]
  refine ⟨fun e he => (by
    cases he with
    | head => rfl
    | tail _ h =>
      cases h with
      | head => rfl
      | tail _ h => cases h), mb, em.symm, ?_⟩
  conv => whnf
  refine ⟨by omega, ?_⟩
  conv => whnf
  refine ⟨by simp only [ByteArray.size_append]; omega, ?_⟩
  conv => whnf
  refine ⟨by decide, by decide, ?_⟩
  conv => whnf
  refine ⟨_, rfl, ?_⟩
  conv => whnf
  refine ⟨by simp only [ByteArray.size_append]; omega, ?_⟩
  conv => whnf
  refine ⟨by decide, by decide, ?_⟩
  conv => whnf
  refine ⟨_, rfl, ?_⟩
  conv => whnf
  refine ⟨by simp only [ByteArray.size_append]; omega, ?_⟩
  conv => whnf
  exact hk
set_option maxRecDepth 100000 in
set_option maxHeartbeats 2000000 in
theorem c_rtextI (a : Nat) (ha : a < 256) (k e h : ByteArray) (hk32 : k.size = 32) (z o : PT) (hz : z.hash.size = 32) (ho : o.hash.size = 32) (L : List (List IV)) (hL : L = [z.tv, o.tv]) (K : AV → List Blk → Prop) (hk : ∀ s, s = forkText a k z.hash o.hash → K (.i (.str s)) []) :
    SP 61 [.agg [.imm (.int .i64 2), .imm (.str k), .imm (.str e), .imm (.int .i64 (a : Int)), .imm (.lst L), .imm (.str h)]] [] K := by
  have hk := hk _ rfl
  unfold forkText at hk
  obtain ⟨x1, y1, z1, u1, e1⟩ := z.tv_six
  obtain ⟨x2, y2, z2, u2, e2⟩ := o.tv_six
  rw [e1, e2] at hL
  subst hL
  clear e1 e2
  have m2 : (mkB [a / 256 % 256, a % 256]).size = 2 := mkB_size _
  have em : bytesIV (mkB [a / 256 % 256, a % 256]) = eb [a / 256 % 256, a % 256] := (eb_mkB [a / 256 % 256, a % 256] (by intro n hn; simp at hn; omega)).symm
  have one1 : (⟨#[1]⟩ : ByteArray).size = 1 := rfl
  have w1 : IntKind.u8.wrap (IntKind.i64.wrap ((a : Int).tdiv 256)) = ((a / 256 % 256 : Nat) : Int) := by
    rw [show (256 : Int) = ((256 : Nat) : Int) from rfl, tdivN a 256 (by omega), wrap8]; omega
  have w2 : IntKind.u8.wrap ((a : Int).tmod 256) = ((a % 256 : Nat) : Int) := by
    rw [show (256 : Int) = ((256 : Nat) : Int) from rfl, tmodN, wrap8]; omega
  generalize mkB [a / 256 % 256, a % 256] = mb at *
  generalize z.hash = zh at *
  generalize o.hash = oh at *
  generalize z.tv.getD 4 .nilp = q1 at *
  generalize o.tv.getD 4 .nilp = q2 at *
  refine mk {frz := [1]} (fn := Tryz.f61) Tryz.func61 (by kernel_rfl) (by kernel_rfl) (Nat.le_of_ble_eq_true (Eq.refl true)) fun S hS => ?_
  conv => whnf
  refine ⟨by decide, ?_⟩
  conv => whnf
  refine ⟨by decide, ?_⟩
  conv => whnf
  rw [w1, w2]
  refine ⟨fun e he => (by
    cases he with
    | head => rfl
    | tail _ h =>
      cases h with
      | head => rfl
      | tail _ h => cases h), mb, em.symm, ?_⟩
  conv => whnf
  refine ⟨by omega, ?_⟩
  conv => whnf
  refine ⟨by simp only [ByteArray.size_append]; omega, ?_⟩
  conv => whnf
  refine ⟨_, by decide, rfl, rfl, ?_⟩
  conv => whnf
  refine ⟨by simp only [ByteArray.size_append]; omega, ?_⟩
  conv => whnf
  refine ⟨_, by decide, rfl, rfl, ?_⟩
  conv => whnf
  refine ⟨by simp only [ByteArray.size_append]; omega, ?_⟩
  conv => whnf
  exact hk
end Go.Proofs.YtmfilaagpobmbaaGreatDoor

namespace Go.Proofs.YtmfilaagpobmbaaGreatDoor
open Go Go.Abs
abbrev noTr : AV := .agg [.imm (.int .i64 0), .imm (.str ⟨#[]⟩), .imm (.str ⟨#[]⟩), .imm (.int .i64 0), .imm (.lst []), .imm (.str ⟨#[]⟩)]
def RtOk (f : Nat) : Prop := ∀ (u : Up) (at_ : Int) (first : ByteArray) (side : Int) (l : List Nd), upR u at_ first side → upOk f u → l.length < 536870912 → Nd.fineL l → ∀ K : AV → List Blk → Prop,
  (pread f u l = none → K (.tup [noTr, .i (.int .i64 (-1))]) []) →
  (∀ t r, pread f u l = some (t, r) → ∀ x1 x2 x3 x4 x5 x6, t.tv = [x1, x2, x3, x4, x5, x6] → ∀ n : Nat, n + r.length = l.length → r = l.drop n → K (.tup [.agg [.imm x1, .imm x2, .imm x3, .imm x4, .imm x5, .imm x6], .i (.int .i64 (n : Int))]) []) →
  SP 34 [.i (.lst (ivs l)), .i (.int .i64 at_), .i (.str first), .i (.int .i64 side)] [] K
theorem ptv_list (t : PT) : ∃ x1 x2 x3 x4 x5 x6, t.tv = [x1, x2, x3, x4, x5, x6] := by cases t <;> exact ⟨_, _, _, _, _, _, rfl⟩
theorem upR_lt {u : Up} {at_ : Int} {first : ByteArray} {side : Int} (hr : upR u at_ first side) {b : ByteArray} {m : Nat} (h : holdsB u b m = true) : ¬ ((m : Int) ≤ at_) := by
  rcases u with _ | ⟨a, k, s⟩
  · have hr : at_ = -1 := hr
    omega
  · simp only [holdsB, Bool.and_eq_true, decide_eq_true_eq] at h
    have := hr.1
    omega
theorem pread_drop : ∀ (f : Nat) (u : Option (Nat × ByteArray × Bool)) (l : List Nd) (t : PT) (r : List Nd), pread f u l = some (t, r) → r = l.drop (l.length - r.length)
  | 0, u, l, t, r, h => by simp [pread] at h
  | f + 1, u, [], t, r, h => by simp [pread] at h
  | f + 1, u, n :: l, t, r, h => by
    have one : ∀ l : List Nd, l = (n :: l).drop ((n :: l).length - l.length) := fun l => by rw [List.length_cons, show l.length + 1 - l.length = 1 by omega]; rfl
    rw [pread] at h
    split at h
    · simp at h
    · split at h
      · simp only [Option.some.injEq, Prod.mk.injEq] at h; obtain ⟨_, rfl⟩ := h; exact one _
      · simp at h
    · split at h
      · simp only [Option.some.injEq, Prod.mk.injEq] at h; obtain ⟨_, rfl⟩ := h; exact one _
      · simp at h
    · split at h
      · split at h
        · simp at h
        · rename_i z r1 e1
          split at h
          · simp at h
          · rename_i o r2 e2
            simp only [Option.some.injEq, Prod.mk.injEq] at h; obtain ⟨_, rfl⟩ := h
            have h1 := pread_drop f _ _ _ _ e1
            have h2 := pread_drop f _ _ _ _ e2
            have h3 := pread_lt _ _ _ _ _ e1
            have h4 := pread_lt _ _ _ _ _ e2
            rw [List.length_cons, show l.length + 1 - r2.length = (l.length - r2.length) + 1 by omega, List.drop_succ_cons]
            rw [h1, List.drop_drop] at h2
            rw [← h1] at h2
            rw [show l.length - r2.length = l.length - r1.length + (r1.length - r2.length) by omega]
            exact h2
      · simp at h
set_option maxRecDepth 100000 in
set_option maxHeartbeats 8000000 in
theorem c_rreadC (f : Nat) (ih : RtOk f) (u : Up) (at_ : Int) (first : ByteArray) (side : Int) (n : Nd) (r : List Nd) (hup : upR u at_ first side) (hu : upOk (f + 1) u) (hat : -1 ≤ at_ ∧ at_ < 256) (hr : r.length < 536870912) (hf : n.fine ∧ Nd.fineL r) (L : List (List IV)) (hL0 : L[0]? = some n.iv) (hLl : L.length = r.length + 1)
    (hLd : ∀ j, (L.take ((L.length : Nat) : Int).toNat).drop j = ivs ((n :: r).drop j)) (hLa : ∀ c ∈ L, c.length = 4) (K : AV → List Blk → Prop)
    (hn : pstep f u n r = none → K (.tup [noTr, .i (.int .i64 (-1))]) [])
    (hk : ∀ t r', pstep f u n r = some (t, r') → ∀ x1 x2 x3 x4 x5 x6, t.tv = [x1, x2, x3, x4, x5, x6] → ∀ m : Nat, m + r'.length = r.length + 1 → r' = (n :: r).drop m → K (.tup [.agg [.imm x1, .imm x2, .imm x3, .imm x4, .imm x5, .imm x6], .i (.int .i64 (m : Int))]) []) :
    SP 34 [.i (.lst L), .i (.int .i64 at_), .i (.str first), .i (.int .i64 side)] [] K := by
  unfold pstep at hn hk
  refine mk {hk := [4], hw := [17], hs := true, kl := [148], pl := [146], frz := [160], keep := [(22, [0, 8, 10, 13, 14, 15, 16])]} (fn := Tryz.f34) Tryz.func34 (by kernel_rfl) (by kernel_rfl) (Nat.le_of_ble_eq_true (Eq.refl true)) fun S hS => ?_
  conv => whnf
  rw [eqz L.length _ rfl, decide_eq_false (by omega)]
  conv => whnf
  cases n with
  | num x =>
    refine ⟨[.int .i64 0, .int .u64 (x : Int), .str ⟨#[]⟩, .lst []], by decide, hL0, rfl, ?_⟩
    conv => whnf
    exact hn rfl
  | str st =>
    refine ⟨[.int .i64 1, .int .u64 0, .str st, .lst []], by decide, hL0, rfl, ?_⟩
    conv => whnf
    rw [ne32 st _ rfl]
    by_cases h32 : st.size = 32
    · rw [decide_eq_false (show ¬ st.size ≠ 32 from fun h => h h32)]
      conv => whnf
      exact hk (.stub st) r (if_pos h32) _ _ _ _ _ _ rfl 1 (by omega) rfl
    · rw [decide_eq_true (show st.size ≠ 32 from h32)]
      conv => whnf
      exact hn (if_neg h32)
  | lst ks =>
    refine ⟨[.int .i64 2, .int .u64 0, .str ⟨#[]⟩, .lst (ivs ks)], by decide, hL0, rfl, ?_⟩
    conv => whnf
    have hkl := ivs_len ks
    have hkf := hf.1
    rw [Nd.fine] at hkf
    have e2 : ∀ z : Int, z = 2 → ((((ivs ks).length : Nat) : Int) != z) = decide (ks.length ≠ 2) := fun z hz => by subst hz; rw [hkl]; by_cases h : ks.length = 2 <;> simp [h]; omega
    rw [e2 _ rfl]
    by_cases h2 : ks.length ≠ 2
    · rw [decide_eq_true h2]
      conv => whnf
      rw [nk_len h2] at hn
      exact hn rfl
    rw [decide_eq_false h2]
    conv => whnf
    obtain ⟨x, y, rfl⟩ : ∃ x y, ks = [x, y] := by
      match ks, h2 with
      | [x, y], _ => exact ⟨x, y, rfl⟩
      | [], h => simp at h
      | [x], h => simp at h
      | x :: y :: w :: t, h => simp at h
    have hnoY : (∀ b, y ≠ .str b) → nk (.lst [x, y]) = .no := by
      intro h
      simp only [nk]
      unfold nkL
      split
      · rename_i e; simp only [List.cons.injEq, and_true] at e; exact absurd e.2 (h _)
      · rename_i e; simp only [List.cons.injEq, and_true] at e; exact absurd e.2 (h _)
      · rfl
    cases y with
    | num m =>
      refine ⟨[.int .i64 0, .int .u64 (m : Int), .str ⟨#[]⟩, .lst []], by decide, rfl, rfl, ?_⟩
      conv => whnf
      rw [hnoY (by simp)] at hn
      exact hn rfl
    | lst m =>
      refine ⟨[.int .i64 2, .int .u64 0, .str ⟨#[]⟩, .lst (ivs m)], by decide, rfl, rfl, ?_⟩
      conv => whnf
      rw [hnoY (by simp)] at hn
      exact hn rfl
    | str b =>
      refine ⟨[.int .i64 1, .int .u64 0, .str b, .lst []], by decide, rfl, rfl, ?_⟩
      conv => whnf
      have hbf : b.size < 536870912 := hkf.2.2.1
      cases x with
      | lst m =>
        refine ⟨[.int .i64 2, .int .u64 0, .str ⟨#[]⟩, .lst (ivs m)], by decide, rfl, rfl, ?_⟩
        conv => whnf
        refine ⟨[.int .i64 1, .int .u64 0, .str b, .lst []], by decide, rfl, rfl, ?_⟩
        conv => whnf
        exact hn rfl
      | str k1 =>
        refine ⟨[.int .i64 1, .int .u64 0, .str k1, .lst []], by decide, rfl, rfl, ?_⟩
        conv => whnf
        refine ⟨[.int .i64 1, .int .u64 0, .str b, .lst []], by decide, rfl, rfl, ?_⟩
        conv => whnf
        rw [ne32 k1 _ rfl]
        by_cases g1 : k1.size ≠ 32
        · rw [decide_eq_true g1]
          conv => whnf
          exact hn (if_neg fun h => g1 h.1)
        rw [decide_eq_false g1]
        have g1 : k1.size = 32 := by omega
        conv => whnf
        refine hS _ _ _ _ <| c_rbelow (f + 1) u at_ first side hup hu k1 g1 256 _ ?_
        cases hb : holdsB u k1 256 with
        | false =>
          conv => whnf
          exact hn (if_neg fun h => by have := h.2; rw [hb] at this; simp at this)
        | true =>
          conv => whnf
          refine ⟨by show 1 + k1.size ≤ _; omega, ?_⟩
          conv => whnf
          refine ⟨.i (.str (sha b)), hS _ _ _ _ <| c_Print b (by omega) _ (fun q hq => ⟨by rw [hq], rfl⟩), rfl, ?_⟩
          conv => whnf
          refine ⟨by rw [ByteArray.size_append, sha_size]; show 1 + k1.size + 32 ≤ _; omega, ?_⟩
          conv => whnf
          refine ⟨.i (.str (leafHash k1 (sha b))), hS _ _ _ _ <| c_Print _ (by rw [ByteArray.size_append, ByteArray.size_append, sha_size]; show 1 + k1.size + 32 < _; omega) _ (fun q hq => ⟨by rw [hq]; rfl, rfl⟩), rfl, ?_⟩
          conv => whnf
          refine ⟨rfl, ?_⟩
          conv => whnf
          exact hk _ _ (if_pos ⟨g1, hb⟩) _ _ _ _ _ _ rfl 1 (by omega) rfl
      | num m =>
        refine ⟨[.int .i64 0, .int .u64 (m : Int), .str ⟨#[]⟩, .lst []], by decide, rfl, rfl, ?_⟩
        conv => whnf
        refine ⟨[.int .i64 1, .int .u64 0, .str b, .lst []], by decide, rfl, rfl, ?_⟩
        conv => whnf
        by_cases g0 : m < 256
        case neg =>
          rw [decide_eq_true (show (m : Int) > 255 by omega)]
          conv => whnf
          exact hn (if_neg fun h => g0 h.1)
        rw [decide_eq_false (show ¬ ((m : Int) > 255) by omega)]
        conv => whnf
        rw [ne32 b _ rfl]
        by_cases g1 : b.size ≠ 32
        · rw [decide_eq_true g1]
          conv => whnf
          exact hn (if_neg fun h => g1 h.2.1)
        rw [decide_eq_false g1]
        have g1 : b.size = 32 := by omega
        conv => whnf
        rw [i64n m (by omega)]
        by_cases glt : (m : Int) ≤ at_
        · rw [decide_eq_true (show (m : Int) ≤ at_ by omega)]
          conv => whnf
          exact hn (if_neg fun h => upR_lt hup h.2.2.1 glt)
        rw [decide_eq_false (show ¬ ((m : Int) ≤ at_) by omega)]
        conv => whnf
        rw [i64n m (by omega)]
        refine hS _ _ _ _ <| c_rbelow (f + 1) u at_ first side hup hu b g1 m _ ?_
        cases hb : holdsB u b m with
        | false =>
          conv => whnf
          exact hn (if_neg fun h => by have := h.2.2.1; rw [hb] at this; simp at this)
        | true =>
          conv => whnf
          rw [i64n m (by omega)]
          refine hS _ _ _ _ <| c_rFirst b m g1 (by omega) _ fun b' hb' => ?_
          conv => whnf
          subst hb'
          rw [beq_ba]
          by_cases hfb : firstK b m = b
          case neg =>
            rw [decide_eq_false hfb]
            conv => whnf
            exact hn (if_neg fun h => hfb h.2.2.2)
          rw [decide_eq_true hfb]
          conv => whnf
          rw [i64n m (by omega)]
          have hup' : ∀ s' : Bool, upOk f (some (m, b, s')) := fun s' => ⟨g0, g1, by
            rcases u with _ | ⟨a, k, s⟩
            · have : 257 ≤ f + 1 := hu
              omega
            · simp only [holdsB, Bool.and_eq_true, decide_eq_true_eq] at hb
              have := hu.2.2
              omega⟩
          rw [show nk (.lst [.num m, .str b]) = .fork m b from rfl] at hn hk
          simp only at hn hk
          rw [if_pos ⟨g0, g1, hb, hfb⟩] at hn hk
          intro X hX
          apply hX
          conv => whnf
          refine ⟨hLa, by decide, by omega, by omega, ?_⟩
          rw [show (L.take ((L.length : Int)).toNat).drop (Int.toNat 1) = ivs r from hLd 1]
          conv => whnf
          cases e1 : pread f (some (m, b, false)) r with
          | none =>
            refine ⟨_, hS _ _ _ _ <| ih (some (m, b, false)) (m : Int) b 0 r ⟨rfl, rfl, rfl⟩ (hup' _) hr hf.2 _ (fun hz => ⟨rfl, rfl⟩) (fun t r' hz => by rw [e1] at hz; simp at hz), rfl, ?_⟩
            conv => whnf
            refine ⟨rfl, ?_⟩
            conv => whnf
            refine ⟨rfl, ?_⟩
            conv => whnf
            rw [e1] at hn
            exact hn rfl
          | some q1 =>
            obtain ⟨t1, r1⟩ := q1
            rw [e1] at hn hk
            simp only at hn hk
            have hlt1 := pread_lt _ _ _ _ _ e1
            have hok1 := pread_ok _ _ _ _ _ hf.2 e1
            obtain ⟨x1, x2, x3, x4, x5, x6, hx⟩ := ptv_list t1
            have hex1 : ∃ n1 : Nat, n1 + r1.length = r.length ∧ r1 = r.drop n1 := by
              refine ⟨r.length - r1.length, by omega, ?_⟩
              exact pread_drop _ _ _ _ _ e1
            obtain ⟨n1, hn1, hr1⟩ := hex1
            refine ⟨.tup [.agg [.imm x1, .imm x2, .imm x3, .imm x4, .imm x5, .imm x6], .i (.int .i64 (n1 : Int))], hS _ _ _ _ <| ih (some (m, b, false)) (m : Int) b 0 r ⟨rfl, rfl, rfl⟩ (hup' _) hr hf.2 _ (fun hz => by rw [e1] at hz; simp at hz) (fun t r' hz y1 y2 y3 y4 y5 y6 hy n' hn' _ => by
              rw [e1] at hz
              simp only [Option.some.injEq, Prod.mk.injEq] at hz
              obtain ⟨rfl, rfl⟩ := hz
              rw [hx] at hy
              simp only [List.cons.injEq, and_true] at hy
              obtain ⟨rfl, rfl, rfl, rfl, rfl, rfl⟩ := hy
              obtain rfl : n1 = n' := by omega
              exact ⟨rfl, rfl⟩), rfl, ?_⟩
            conv => whnf
            refine ⟨rfl, ?_⟩
            conv => whnf
            refine ⟨rfl, ?_⟩
            conv => whnf
            rw [decide_eq_false (show ¬ ((n1 : Int) < 0) by omega)]
            conv => whnf
            refine ⟨one_all rfl, ?_⟩
            conv => whnf
            refine ⟨Nat.le_of_ble_eq_true rfl, ?_⟩
            conv => whnf
            rw [show (1 : Int) + (n1 : Int) = ((1 + n1 : Nat) : Int) by omega, i64n _ (by omega)]
            apply hX
            conv => whnf
            refine ⟨hLa, by omega, by omega, by omega, ?_⟩
            rw [show (L.take ((L.length : Int)).toNat).drop (((1 + n1 : Nat) : Int)).toNat = ivs r1 from by rw [show (((1 + n1 : Nat) : Int)).toNat = 1 + n1 from rfl, hLd, Nat.add_comm, List.drop_succ_cons, ← hr1]]
            conv => whnf
            cases e2 : pread f (some (m, b, true)) r1 with
            | none =>
              refine ⟨_, hS _ _ _ _ <| ih (some (m, b, true)) (m : Int) b 1 r1 ⟨rfl, rfl, rfl⟩ (hup' _) (by omega) hok1.2 _ (fun hz => ⟨rfl, rfl⟩) (fun t r' hz => by rw [e2] at hz; simp at hz), rfl, ?_⟩
              conv => whnf
              refine ⟨rfl, ?_⟩
              conv => whnf
              refine ⟨rfl, ?_⟩
              conv => whnf
              rw [e2] at hn
              exact hn rfl
            | some q2 =>
              obtain ⟨t2, r2⟩ := q2
              rw [e2] at hk
              simp only at hk
              have hlt2 := pread_lt _ _ _ _ _ e2
              have hok2 := pread_ok _ _ _ _ _ hok1.2 e2
              obtain ⟨z1, z2, z3, z4, z5, z6, hz⟩ := ptv_list t2
              have hex2 : ∃ n2 : Nat, n2 + r2.length = r1.length ∧ r2 = r1.drop n2 := by
                refine ⟨r1.length - r2.length, by omega, ?_⟩
                exact pread_drop _ _ _ _ _ e2
              obtain ⟨n2, hn2, hr2⟩ := hex2
              refine ⟨.tup [.agg [.imm z1, .imm z2, .imm z3, .imm z4, .imm z5, .imm z6], .i (.int .i64 (n2 : Int))], hS _ _ _ _ <| ih (some (m, b, true)) (m : Int) b 1 r1 ⟨rfl, rfl, rfl⟩ (hup' _) (by omega) hok1.2 _ (fun hq => by rw [e2] at hq; simp at hq) (fun t r' hq y1 y2 y3 y4 y5 y6 hy n' hn' _ => by
                rw [e2] at hq
                simp only [Option.some.injEq, Prod.mk.injEq] at hq
                obtain ⟨rfl, rfl⟩ := hq
                rw [hz] at hy
                simp only [List.cons.injEq, and_true] at hy
                obtain ⟨rfl, rfl, rfl, rfl, rfl, rfl⟩ := hy
                obtain rfl : n2 = n' := by omega
                exact ⟨rfl, rfl⟩), rfl, ?_⟩
              conv => whnf
              refine ⟨rfl, ?_⟩
              conv => whnf
              refine ⟨rfl, ?_⟩
              conv => whnf
              rw [decide_eq_false (show ¬ ((n2 : Int) < 0) by omega)]
              conv => whnf
              refine ⟨one_all rfl, ?_⟩
              conv => whnf
              refine ⟨rfl, Nat.le_of_ble_eq_true rfl, ?_⟩
              conv => whnf
              rw [show ((1 + n1 : Nat) : Int) + (n2 : Int) = ((1 + n1 + n2 : Nat) : Int) by omega, i64n _ (by omega)]
              apply hX
              conv => whnf
              refine hS _ _ _ _ <| c_rtext m g0 b _ _ g1 t1 t2 (PT.hash_size hok1.1) (PT.hash_size hok2.1) _ (by rw [hx, hz]; rfl) _ fun s hs => ?_
              conv => whnf
              refine hS _ _ _ _ <| c_Print s (by rw [hs]; unfold forkText; simp only [ByteArray.size_append, mkB_size, g1, PT.hash_size hok1.1, PT.hash_size hok2.1]; show 1 + 2 + 32 + 32 + 32 < _; decide) _ fun hh hhe => ?_
              conv => whnf
              refine hk _ _ rfl _ _ _ _ _ _ ?_ (1 + n1 + n2) (by omega) ?_
              · rw [PT.tv, hx, hz, hhe, hs]; rfl
              · rw [show 1 + n1 + n2 = (n1 + n2) + 1 by omega, List.drop_succ_cons, hr2, hr1, List.drop_drop]
set_option maxRecDepth 100000 in
set_option maxHeartbeats 2000000 in
theorem c_rread (f : Nat) : RtOk f := by
  induction f with
  | zero =>
    intro u at_ first side l _ hu
    rcases u with _ | ⟨a, k, s⟩
    · simp [upOk] at hu
    · simp only [upOk] at hu; omega
  | succ f ih =>
    intro u at_ first side l hup hu hlen hfine K hn hk
    cases l with
    | nil =>
      have hn := hn rfl
      show SP _ [.i (.lst []), _, _, _] [] K
      refine mk {hk := [4], hw := [17], hs := true, kl := [148], pl := [146], frz := [160], keep := [(22, [0, 8, 10, 13, 14, 15, 16])]} (fn := Tryz.f34) Tryz.func34 (by kernel_rfl) (by kernel_rfl) (Nat.le_of_ble_eq_true (Eq.refl true)) fun S hS => ?_
      conv => whnf
      exact hn
    | cons n r =>
      have hat : -1 ≤ at_ ∧ at_ < 256 := by
        rcases u with _ | ⟨a, k, s⟩
        · have : at_ = -1 := hup
          omega
        · have h1 := hup.1
          have h2 := hu.1
          omega
      refine c_rreadC f ih u at_ first side n r hup hu hat (by simp at hlen; omega) hfine (ivs (n :: r)) (ivs_get _ 0 n rfl) (ivs_len _) (fun j => ?_) (ivs_all _) K hn (fun t r' h x1 x2 x3 x4 x5 x6 hx m hm hd => hk t r' h x1 x2 x3 x4 x5 x6 hx m hm hd)
      rw [show ((((ivs (n :: r)).length : Nat) : Int)).toNat = (ivs (n :: r)).length from rfl, List.take_length, ivs_drop]
/-- a text's tree, as the document has it -/
def trR (q : Option (Option PT)) (x1 x2 x3 x4 x5 x6 : IV) (b : Bool) : Prop := match q with
  | some (some t) => t.tv = [x1, x2, x3, x4, x5, x6] ∧ b = true
  | some none => [x1, x2, x3, x4, x5, x6] = [.int .i64 0, .str ⟨#[]⟩, .str ⟨#[]⟩, .int .i64 0, .lst [], .str ⟨#[]⟩] ∧ b = true
  | none => [x1, x2, x3, x4, x5, x6] = [.int .i64 0, .str ⟨#[]⟩, .str ⟨#[]⟩, .int .i64 0, .lst [], .str ⟨#[]⟩] ∧ b = false
end Go.Proofs.YtmfilaagpobmbaaGreatDoor

namespace Go.Proofs.YtmfilaagpobmbaaGreatDoor
open Go Go.Abs
set_option maxRecDepth 100000 in
set_option maxHeartbeats 2000000 in
theorem c_rOpenW (s : ByteArray) (x y : Int) (w : ByteArray) (u : List (List IV)) (b : Bool) (h : b = false ∨ x ≠ 2) (hR : ∀ K : AV → List Blk → Prop, K (.tup [.agg [.imm (.int .i64 x), .imm (.int .u64 y), .imm (.str w), .imm (.lst u)], .i (.bool b)]) [] → SP 33 [.i (.str s)] [] K) (K : AV → List Blk → Prop) (hk : K (.tup [noTr, .i (.bool false)]) []) : SP 8 [.i (.str s)] [] K := by
  refine mk {} (fn := Tryz.f8) Tryz.func8 (by kernel_rfl) (by kernel_rfl) (Nat.le_of_ble_eq_true (Eq.refl true)) fun S hS => ?_
  conv => whnf
  refine hS _ _ _ _ <| hR _ ?_
  cases b with
  | false =>
    conv => whnf
    exact hk
  | true =>
    have hx : (x != 2) = true := by rcases h with h | h <;> simp at h ⊢; exact h
    conv => whnf
    rw [hx]
    conv => whnf
    exact hk
set_option maxRecDepth 100000 in
set_option maxHeartbeats 2000000 in
theorem c_rOpenN (s : ByteArray) (w : ByteArray) (hR : ∀ K : AV → List Blk → Prop, K (.tup [.agg [.imm (.int .i64 2), .imm (.int .u64 0), .imm (.str w), .imm (.lst [])], .i (.bool true)]) [] → SP 33 [.i (.str s)] [] K) (K : AV → List Blk → Prop) (hk : K (.tup [noTr, .i (.bool true)]) []) : SP 8 [.i (.str s)] [] K := by
  refine mk {} (fn := Tryz.f8) Tryz.func8 (by kernel_rfl) (by kernel_rfl) (Nat.le_of_ble_eq_true (Eq.refl true)) fun S hS => ?_
  conv => whnf
  refine hS _ _ _ _ <| hR _ ?_
  conv => whnf
  exact hk
set_option maxRecDepth 100000 in
set_option maxHeartbeats 2000000 in
theorem c_rOpenL (s : ByteArray) (w : ByteArray) (L : List (List IV)) (hL : 0 < L.length) (hL2 : L.length < 1000000000) (hR : ∀ K : AV → List Blk → Prop, K (.tup [.agg [.imm (.int .i64 2), .imm (.int .u64 0), .imm (.str w), .imm (.lst L)], .i (.bool true)]) [] → SP 33 [.i (.str s)] [] K)
    (x1 x2 x3 x4 x5 x6 : IV) (n : Int) (e : ByteArray) (he : e = ⟨#[]⟩) (hrd : ∀ K : AV → List Blk → Prop, K (.tup [.agg [.imm x1, .imm x2, .imm x3, .imm x4, .imm x5, .imm x6], .i (.int .i64 n)]) [] → SP 34 [.i (.lst L), .i (.int .i64 (-1)), .i (.str e), .i (.int .i64 0)] [] K) (K : AV → List Blk → Prop)
    (hn : n ≠ (L.length : Int) → K (.tup [noTr, .i (.bool false)]) []) (hk : n = (L.length : Int) → K (.tup [.agg [.imm x1, .imm x2, .imm x3, .imm x4, .imm x5, .imm x6], .i (.bool true)]) []) : SP 8 [.i (.str s)] [] K := by
  subst he
  have e0 : ∀ z : Int, z = 0 → (((L.length : Nat) : Int) == z) = false := fun z hz => by subst hz; rw [beq_eq_false_iff_ne]; omega
  refine mk {} (fn := Tryz.f8) Tryz.func8 (by kernel_rfl) (by kernel_rfl) (Nat.le_of_ble_eq_true (Eq.refl true)) fun S hS => ?_
  conv => whnf
  refine hS _ _ _ _ <| hR _ ?_
  conv => whnf
  rw [e0 _ rfl]
  conv => whnf
  refine hS _ _ _ _ <| hrd _ ?_
  conv => whnf
  by_cases h : n = (L.length : Int)
  · rw [show (n != ((L.length : Nat) : Int)) = false by simp [h]]
    conv => whnf
    exact hk h
  · rw [show (n != ((L.length : Nat) : Int)) = true by simpa using h]
    conv => whnf
    exact hn h
theorem c_rOpen (s : ByteArray) (hs : s.size ≤ 16777216) (K : AV → List Blk → Prop) (hk : ∀ x1 x2 x3 x4 x5 x6 b, trR (treeOf s) x1 x2 x3 x4 x5 x6 b → K (.tup [.agg [.imm x1, .imm x2, .imm x3, .imm x4, .imm x5, .imm x6], .i (.bool b)]) []) : SP 8 [.i (.str s)] [] K := by
  have hfin := fun n h => readN_fine (n := n) hs h
  have hno : treeOf s = none → K (.tup [noTr, .i (.bool false)]) [] := fun h => hk _ _ _ _ _ _ _ (by rw [h]; exact ⟨rfl, rfl⟩)
  have hnil : treeOf s = some none → K (.tup [noTr, .i (.bool true)]) [] := fun h => hk _ _ _ _ _ _ _ (by rw [h]; exact ⟨rfl, rfl⟩)
  have hyes : ∀ t, treeOf s = some (some t) → ∀ x1 x2 x3 x4 x5 x6, t.tv = [x1, x2, x3, x4, x5, x6] → K (.tup [.agg [.imm x1, .imm x2, .imm x3, .imm x4, .imm x5, .imm x6], .i (.bool true)]) [] := fun t h x1 x2 x3 x4 x5 x6 hx => hk _ _ _ _ _ _ _ (by rw [h]; exact ⟨hx, rfl⟩)
  clear hk
  have hR := fun K hK => c_refRead s hs K hK
  unfold treeOf at hno hnil hyes
  cases e : readN s with
  | none =>
    rw [e] at hno
    exact c_rOpenW s 0 0 ⟨#[]⟩ [] false (.inl rfl) (fun K hK => hR K fun x y z u b hr => by rw [e] at hr; obtain ⟨rfl, rfl, rfl, rfl, rfl⟩ := hr; exact hK) K (hno rfl)
  | some n =>
    have hR2 : ∀ x y z u, n.iv = [x, y, z, u] → ∀ K : AV → List Blk → Prop, K (.tup [.agg [.imm x, .imm y, .imm z, .imm u], .i (.bool true)]) [] → SP 33 [.i (.str s)] [] K := by
      intro x y z u hv K hK
      refine hR K fun x' y' z' u' b hr => ?_
      rw [e] at hr
      obtain ⟨hv', rfl⟩ := hr
      rw [hv] at hv'
      simp only [List.cons.injEq, and_true] at hv'
      obtain ⟨rfl, rfl, rfl, rfl⟩ := hv'
      exact hK
    rw [e] at hno hnil hyes
    cases n with
    | num m => exact c_rOpenW s 0 (m : Int) _ _ true (.inr (by decide)) (hR2 _ _ _ _ (by rw [Nd.iv])) K (hno rfl)
    | str m => exact c_rOpenW s 1 0 _ _ true (.inr (by decide)) (hR2 _ _ _ _ (by rw [Nd.iv])) K (hno rfl)
    | lst ks =>
      have hf := hfin _ e
      rw [Nd.fine] at hf
      cases ks with
      | nil => exact c_rOpenN s _ (hR2 _ _ _ _ (by rw [Nd.iv]; rfl)) K (hnil rfl)
      | cons k ks =>
        have hll := ivs_len (k :: ks)
        rw [List.length_cons] at hll
        have hkl : (k :: ks).length < 536870912 := hf.1
        rw [List.length_cons] at hkl
        have hrd := c_rread 257 none (-1) ⟨#[]⟩ 0 (k :: ks) rfl (Nat.le_refl _) hf.1 hf.2
        simp only at hno hyes
        cases e1 : pread 257 none (k :: ks) with
        | none =>
          rw [e1] at hno
          exact c_rOpenL s _ (ivs (k :: ks)) (by omega) (by omega) (hR2 _ _ _ _ (by rw [Nd.iv])) _ _ _ _ _ _ (-1) _ rfl (fun K hK => hrd K (fun _ => hK) (fun t r hz => by rw [e1] at hz; simp at hz)) K (fun _ => hno rfl) (fun h => by omega)
        | some q =>
          obtain ⟨t, r⟩ := q
          obtain ⟨x1, x2, x3, x4, x5, x6, hx⟩ := ptv_list t
          have hlt := pread_lt _ _ _ _ _ e1
          rw [List.length_cons] at hlt
          rw [e1] at hno hyes
          refine c_rOpenL s _ (ivs (k :: ks)) (by omega) (by omega) (hR2 _ _ _ _ (by rw [Nd.iv])) x1 x2 x3 x4 x5 x6 ((ks.length + 1 - r.length : Nat) : Int) _ rfl (fun K hK => hrd K (fun hz => by rw [e1] at hz; simp at hz) (fun t' r' hz y1 y2 y3 y4 y5 y6 hy n hn _ => ?_)) K (fun h => ?_) (fun h => ?_)
          · rw [e1] at hz
            simp only [Option.some.injEq, Prod.mk.injEq] at hz
            obtain ⟨rfl, rfl⟩ := hz
            rw [hx] at hy
            simp only [List.cons.injEq, and_true] at hy
            obtain ⟨rfl, rfl, rfl, rfl, rfl, rfl⟩ := hy
            rw [List.length_cons] at hn
            obtain rfl : n = ks.length + 1 - r.length := by omega
            exact hK
          · cases r with
            | nil => rw [List.length_nil] at h; omega
            | cons a r => exact hno rfl
          · cases r with
            | nil => exact hyes t rfl _ _ _ _ _ _ hx
            | cons a r => rw [List.length_cons] at h hlt; omega
set_option maxRecDepth 100000 in
theorem c_rRootP (x1 x2 x3 x4 x5 : IV) (h : ByteArray) (hh : h.size = 32) (K : AV → List Blk → Prop) (hk : K (.i (.str h)) []) : SP 10 [.agg [.imm x1, .imm x2, .imm x3, .imm x4, .imm x5, .imm (.str h)]] [] K := by
  refine mk {frz := [1]} (fn := Tryz.f10) Tryz.func10 (by kernel_rfl) (by kernel_rfl) (Nat.le_of_ble_eq_true (Eq.refl true)) fun S hS => ?_
  conv => whnf
  rw [beq_ba, decide_eq_false (fun e => by rw [e] at hh; exact absurd hh (by decide))]
  conv => whnf
  exact hk
set_option maxRecDepth 100000 in
theorem c_rRootP0 (x1 x2 x3 x4 x5 : IV) (h : ByteArray) (hh : h = ⟨#[]⟩) (K : AV → List Blk → Prop) (hk : K (.i (.str zero32)) []) : SP 10 [.agg [.imm x1, .imm x2, .imm x3, .imm x4, .imm x5, .imm (.str h)]] [] K := by
  have hz := zero32_iv
  generalize zero32 = z at hz hk
  refine mk {frz := [1]} (fn := Tryz.f10) Tryz.func10 (by kernel_rfl) (by kernel_rfl) (Nat.le_of_ble_eq_true (Eq.refl true)) fun S hS => ?_
  conv => whnf
  rw [beq_ba, decide_eq_true hh]
  conv => whnf
  refine ⟨by decide, by decide, by decide, ?_⟩
  conv => whnf
  refine ⟨z, hz, ?_⟩
  conv => whnf
  exact hk
end Go.Proofs.YtmfilaagpobmbaaGreatDoor
