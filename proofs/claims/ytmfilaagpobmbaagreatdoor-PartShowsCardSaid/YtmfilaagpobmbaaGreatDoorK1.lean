/- A part of the proof of a seat of parts: K1, K2. -/
import Derived.Test.YtmfilaagpobmbaaGreatDoorE10
import Derived.Test.YtmfilaagpobmbaaGreatDoorH4
import Derived.Test.YtmfilaagpobmbaaGreatDoorS4
set_option linter.all false
namespace Go.Proofs.YtmfilaagpobmbaaGreatDoor
open Go Go.Abs
theorem c_pleaf (k v : ByteArray) (hk32 : k.size = 32) (hv : v.size < 1073741824) (K) (hk : ∀ t, t = (PT.leaf k v).iv → K (.i t) []) : SP 70 [.i (.str k), .i (.str v)] [] K := by
  refine mk {} (fn := Tryz.f70) Tryz.func70 (by kernel_rfl) (by kernel_rfl) (Nat.le_of_ble_eq_true (Eq.refl true)) fun S hS => ?_
  conv => whnf
  refine hS _ _ _ _ <| c_New _ ?_
  conv => whnf
  refine hS _ _ _ _ <| c_Put .nil trivial (by decide) k v hk32 hv _ fun u hu => ?_
  have hu : u = tr (.leaf k v) := hu
  subst hu
  conv => whnf
  refine hS _ _ _ _ <| c_Top (.leaf k v) _ ?_
  conv => whnf
  exact hk _ rfl
set_option maxRecDepth 100000 in
theorem c_pfork (a : Nat) (k : ByteArray) (z o : PT) (ha : a < 256) (hk32 : k.size = 32) (hz : z.hash.size = 32) (ho : o.hash.size = 32) (K) (hk : ∀ t, t = (PT.fork a (firstK k a) z o).iv → K (.i t) []) : SP 72 [.i (.int .i64 (a : Int)), .i (.str k), .i z.iv, .i o.iv] [] K := by
  obtain ⟨l1, s1, k1, v1, a1, z1, o1, e1⟩ := z.iv_ptr
  obtain ⟨l2, s2, k2, v2, a2, z2, o2, e2⟩ := o.iv_ptr
  have hk := hk _ rfl
  rw [PT.iv, PT.hash] at hk
  rw [e1, e2] at hk ⊢
  clear e1 e2
  revert hz ho hk
  generalize z.hash = zh
  generalize o.hash = oh
  intro zs os hk
  refine mk {} (fn := Tryz.f72) Tryz.func72 (by kernel_rfl) (by kernel_rfl) (Nat.le_of_ble_eq_true (Eq.refl true)) fun S hS => ?_
  conv => whnf
  refine hS _ _ _ _ <| c_First k a hk32 (by omega) _ fun r hr => ?_
  conv => whnf
  have hr32 : r.size = 32 := by rw [hr]; exact (firstK_is k a).1
  rw [← hr] at hk
  have hf := fun K => c_ForkHash a r zh oh ha hr32 zs os K
  revert hf hk
  generalize forkHash a r zh oh = q
  intro hk hf
  refine ⟨.i (.str q), hS _ _ _ _ <| hf _ (fun q' hq => ⟨by rw [hq], rfl⟩), rfl, ?_⟩
  conv => whnf
  exact hk
/-- the fork above, as it lies open: its place and first bits are there -/
abbrev fkC (b1 b2 : Bool) (k v : ByteArray) (a : Nat) (z o h : IV) : List A1 := [.imm (.bool b1), .imm (.bool b2), .imm (.str k), .imm (.str v), .imm (.int .i64 (a : Int)), .imm z, .imm o, .imm h]
set_option maxRecDepth 100000 in
theorem c_holdsN (side : IV) (key : ByteArray) (bits : Nat) (K : AV → List Blk → Prop) (hk : K (.i (.bool true)) []) : SP 69 [.agg [.imm .nilp, .imm side], .i (.str key), .i (.int .i64 (bits : Int))] [] K := by
  refine mk {} (fn := Tryz.f69) Tryz.func69 (by kernel_rfl) (by kernel_rfl) (Nat.le_of_ble_eq_true (Eq.refl true)) fun S hS => ?_
  conv => whnf
  exact hk
theorem bit_eq (a b : Bool) : (((a.toNat : Nat) : Int) == ((b.toNat : Nat) : Int)) = (a == b) := by cases a <;> cases b <;> rfl
set_option maxRecDepth 100000 in
theorem c_holds (b1 b2 : Bool) (k v : ByteArray) (a : Nat) (z o h : IV) (s : Bool) (key : ByteArray) (bits : Nat) (ha : a < 256) (hk32 : k.size = 32) (hkey : key.size = 32) (K : AV → List Blk → Prop) (hk : K (.i (.bool (holdsB (some (a, k, s)) key bits))) [.cells (fkC b1 b2 k v a z o h) none]) :
    SP 69 [.agg [.ref 0 0, .imm (.int .u8 ((s.toNat : Nat) : Int))], .i (.str key), .i (.int .i64 (bits : Int))] [.cells (fkC b1 b2 k v a z o h) none] K := by
  simp only [holdsB] at hk
  refine mk {inc := 1} (fn := Tryz.f69) Tryz.func69 (by kernel_rfl) (by kernel_rfl) (Nat.le_of_ble_eq_true (Eq.refl true)) fun S hS => ?_
  conv => whnf
  by_cases h1 : a < bits
  · rw [decide_eq_true (show (bits : Int) > (a : Int) by omega)]
    conv => whnf
    refine ⟨.i (.int .i64 (common key k : Int)), hS _ _ _ _ <| c_CommonE key k hkey hk32 _ (fun r hr => ⟨by rw [hr], rfl⟩), rfl, ?_⟩
    conv => whnf
    have hag := agree_iff (a := key) (b := k) (n := a) (by omega)
    by_cases h2 : a ≤ common key k
    · rw [decide_eq_true (show ((common key k : Nat) : Int) ≥ (a : Int) by omega)]
      conv => whnf
      refine ⟨.i (.int .u8 (((bit key a).toNat : Nat) : Int)), hS _ _ _ _ <| c_Bit key a hkey ha _ ⟨rfl, rfl⟩, rfl, ?_⟩
      conv => whnf
      rw [bit_eq]
      rw [decide_eq_true h1, hasB_iff.2 (hag.1 h2)] at hk
      exact hk
    · rw [decide_eq_false (show ¬ (((common key k : Nat) : Int) ≥ (a : Int)) by omega)]
      conv => whnf
      have hf : hasB a key k = false := by
        cases hh : hasB a key k with
        | false => rfl
        | true => exact absurd (hag.2 (hasB_iff.1 hh)) h2
      rw [decide_eq_true h1, hf] at hk
      exact hk
  · rw [decide_eq_false (show ¬ ((bits : Int) > (a : Int)) by omega)]
    conv => whnf
    rw [decide_eq_false h1] at hk
    exact hk
abbrev rN (l : List Nd) (b : Bool) : List Blk := [.cells [.imm (.lst (ivs l)), .imm (.bool b)] none]
theorem c_fail (l : List Nd) (b : Bool) (Q : AV → List Blk → Prop) (hq : Q (.i .nilp) (rN l true)) : SP 68 [.one (.ref 0 0)] (rN l b) Q := by
  refine mk {inc := 1} (fn := Tryz.f68) Tryz.func68 (by kernel_rfl) (by kernel_rfl) (Nat.le_of_ble_eq_true (Eq.refl true)) fun S hS => ?_
  conv => whnf
  exact hq
end Go.Proofs.YtmfilaagpobmbaaGreatDoor

namespace Go.Proofs.YtmfilaagpobmbaaGreatDoor
open Go Go.Abs
abbrev Up := Option (Nat × ByteArray × Bool)
/-- the fork above, handed on -/
def upA : Up → AV
  | none => .agg [.imm .nilp, .imm (.int .u8 0)]
  | some (_, _, s) => .agg [.ref 1 0, .imm (.int .u8 ((s.toNat : Nat) : Int))]
def upA0 : Up → AV
  | none => .agg [.imm .nilp, .imm (.int .u8 0)]
  | some (_, _, s) => .agg [.ref 0 0, .imm (.int .u8 ((s.toNat : Nat) : Int))]
def upH : Up → IV → List Blk
  | none, _ => []
  | some (a, k, _), z => [.cells (fkC false false k ⟨#[]⟩ a z .nilp (.str ⟨#[]⟩)) none]
def upOk (f : Nat) (u : Up) : Prop := match u with
  | none => 257 ≤ f
  | some (a, k, _) => a < 256 ∧ k.size = 32 ∧ 256 ≤ a + f
theorem c_holdsU (f : Nat) (u : Up) (z : IV) (key : ByteArray) (hkey : key.size = 32) (bits : Nat) (hu : upOk f u) (K : AV → List Blk → Prop) (hk : K (.i (.bool (holdsB u key bits))) (upH u z)) : SP 69 [upA0 u, .i (.str key), .i (.int .i64 (bits : Int))] (upH u z) K := by
  rcases u with _ | ⟨a, k, s⟩
  · exact c_holdsN _ key bits K hk
  · exact c_holds false false k _ a z _ _ s key bits hu.1 hu.2.1 hkey K hk
set_option maxRecDepth 100000 in
theorem c_pnodeBad (u : Up) (z : IV) (l : List Nd) (Q : AV → List Blk → Prop) (hq : Q (.i .nilp) (rN l true ++ upH u z)) : SP 36 [.one (.ref 0 0), upA u] (rN l true ++ upH u z) Q := by
  rcases u with _ | ⟨a, k, s⟩
  all_goals
    refine mk {inc := 2, hk := [2], hw := [6], hs := true, kl := [70, 74], pl := [71, 72, 75, 77]} (fn := Tryz.f36) Tryz.func36 (by kernel_rfl) (by kernel_rfl) (Nat.le_of_ble_eq_true (Eq.refl true)) fun S hS => ?_
    conv => whnf
    refine hS _ _ _ _ <| c_fail l true _ ?_
    conv => whnf
    exact hq
theorem nk_len {ks : List Nd} (h : ks.length ≠ 2) : nk (.lst ks) = .no := by
  simp only [nk]
  unfold nkL
  split
  · simp at h
  · simp at h
  · rfl
def RnOk (f : Nat) : Prop := ∀ (u : Up) (z : IV) (l : List Nd), upOk f u → l.length < 536870912 → Nd.fineL l → ∀ Q : AV → List Blk → Prop,
  (pread f u l = none → ∀ l', Q (.i .nilp) (rN l' true ++ upH u z)) → (∀ t r, pread f u l = some (t, r) → Q (.i t.iv) (rN r false ++ upH u z)) →
  SP 36 [.one (.ref 0 0), upA u] (rN l false ++ upH u z) Q
/-- the tree that begins with a node -/
def pstep (f : Nat) (u : Up) (n : Nd) (r : List Nd) : Option (PT × List Nd) := match nk n with
  | .no => none
  | .stub s => if s.size = 32 then some (.stub s, r) else none
  | .leaf k b => if k.size = 32 ∧ holdsB u k 256 = true then some (.leaf k b, r) else none
  | .fork x b => if x < 256 ∧ b.size = 32 ∧ holdsB u b x = true ∧ firstK b x = b then
    (match pread f (some (x, b, false)) r with
     | none => none
     | some (z, r1) => match pread f (some (x, b, true)) r1 with
       | none => none
       | some (o, r2) => some (.fork x b z o, r2)) else none
set_option maxRecDepth 100000 in
set_option maxHeartbeats 4000000 in
theorem c_pnodeC (f : Nat) (ih : RnOk f) (u : Up) (z : IV) (n : Nd) (r : List Nd) (hu : upOk (f + 1) u) (hr : r.length < 536870912) (hf : n.fine ∧ Nd.fineL r) (L : List (List IV)) (hL0 : L[0]? = some n.iv) (hLl : L.length = r.length + 1)
    (hLd : (L.take ((L.length : Nat) : Int).toNat).drop ((1 : Int)).toNat = ivs r) (hLa : ∀ c ∈ L, c.length = 4) (Q : AV → List Blk → Prop)
    (hn : pstep f u n r = none → ∀ l', Q (.i .nilp) (rN l' true ++ upH u z)) (hk : ∀ t r', pstep f u n r = some (t, r') → Q (.i t.iv) (rN r' false ++ upH u z)) :
    SP 36 [.one (.ref 0 0), upA u] (.cells [.imm (.lst L), .imm (.bool false)] none :: upH u z) Q := by
  have hu0 := hu
  unfold pstep at hn hk
  rcases u with _ | ⟨a, k, s⟩
  all_goals simp only [upH] at hn hk ⊢
  case' none =>
    refine mk {inc := 2, hk := [2], hw := [6], hs := true, kl := [70, 74], pl := [71, 72, 75, 77]} (fn := Tryz.f36) Tryz.func36 (by kernel_rfl) (by kernel_rfl) (Nat.le_of_ble_eq_true (Eq.refl true)) fun S hS => ?_
    conv => whnf
  case' some =>
    refine mk {inc := 2, hk := [3], hw := [6], hs := true, kl := [70, 74], pl := [71, 72, 75, 77]} (fn := Tryz.f36) Tryz.func36 (by kernel_rfl) (by kernel_rfl) (Nat.le_of_ble_eq_true (Eq.refl true)) fun S hS => ?_
    conv => whnf
  all_goals
    rw [eqz L.length _ rfl, decide_eq_false (by omega)]
    conv => whnf
    cases n with
    | num x =>
      have hn := hn rfl r
      refine ⟨(Nd.num x).iv, by decide, hL0, rfl, ?_⟩
      conv => whnf
      refine ⟨hLa, by decide, by omega, by omega, ?_⟩
      rw [hLd]
      conv => whnf
      refine hS _ _ _ _ <| c_fail r false _ ?_
      conv => whnf
      exact hn
    | str st =>
      refine ⟨(Nd.str st).iv, by decide, hL0, rfl, ?_⟩
      conv => whnf
      refine ⟨hLa, by decide, by omega, by omega, ?_⟩
      rw [hLd]
      conv => whnf
      have e32 : ∀ z : Int, z = 32 → (((st.size : Nat) : Int) == z) = decide (st.size = 32) := fun z hz => by subst hz; by_cases h : st.size = 32 <;> simp [h]; omega
      rw [e32 _ rfl]
      by_cases h32 : st.size = 32
      · rw [decide_eq_true h32]
        conv => whnf
        exact hk (.stub st) r (if_pos h32)
      · rw [decide_eq_false h32]
        conv => whnf
        refine hS _ _ _ _ <| c_fail r false _ ?_
        conv => whnf
        exact hn (if_neg h32) r
    | lst ks =>
      refine ⟨[.int .i64 2, .int .u64 0, .str ⟨#[]⟩, .lst (ivs ks)], by decide, hL0, rfl, ?_⟩
      conv => whnf
      refine ⟨hLa, by decide, by omega, by omega, ?_⟩
      rw [hLd]
      conv => whnf
      have hkl := ivs_len ks
      have hkf := hf.1
      rw [Nd.fine] at hkf
      have e2 : ∀ z : Int, z = 2 → ((((ivs ks).length : Nat) : Int) != z) = decide (ks.length ≠ 2) := fun z hz => by subst hz; rw [hkl]; by_cases h : ks.length = 2 <;> simp [h]; omega
      rw [e2 _ rfl]
      by_cases h2 : ks.length ≠ 2
      · rw [decide_eq_true h2]
        conv => whnf
        refine hS _ _ _ _ <| c_fail r false _ ?_
        conv => whnf
        rw [nk_len h2] at hn
        exact hn rfl r
      rw [decide_eq_false h2]
      conv => whnf
      obtain ⟨x, y, rfl⟩ : ∃ x y, ks = [x, y] := by
        match ks, h2 with
        | [x, y], _ => exact ⟨x, y, rfl⟩
        | [], h => simp at h
        | [x], h => simp at h
        | x :: y :: w :: t, h => simp at h
      have hnoY : (∀ b, y ≠ .str b) → nk (.lst [x, y]) = .no := by
        intro h
        simp only [nk]
        unfold nkL
        split
        · rename_i e; simp only [List.cons.injEq, and_true] at e; exact absurd e.2 (h _)
        · rename_i e; simp only [List.cons.injEq, and_true] at e; exact absurd e.2 (h _)
        · rfl
      cases y with
      | num m =>
        refine ⟨[.int .i64 0, .int .u64 (m : Int), .str ⟨#[]⟩, .lst []], by decide, rfl, rfl, ?_⟩
        conv => whnf
        refine hS _ _ _ _ <| c_fail r false _ ?_
        conv => whnf
        rw [hnoY (by simp)] at hn
        exact hn rfl r
      | lst m =>
        refine ⟨[.int .i64 2, .int .u64 0, .str ⟨#[]⟩, .lst (ivs m)], by decide, rfl, rfl, ?_⟩
        conv => whnf
        refine hS _ _ _ _ <| c_fail r false _ ?_
        conv => whnf
        rw [hnoY (by simp)] at hn
        exact hn rfl r
      | str b =>
        refine ⟨[.int .i64 1, .int .u64 0, .str b, .lst []], by decide, rfl, rfl, ?_⟩
        conv => whnf
        have hbf : b.size < 536870912 := hkf.2.2.1
        have e32 : ∀ (w : ByteArray) (z : Int), z = 32 → (((w.size : Nat) : Int) != z) = decide (w.size ≠ 32) := fun w z hz => by subst hz; by_cases h : w.size = 32 <;> simp [h]; omega
        cases x with
        | lst m =>
          refine ⟨[.int .i64 2, .int .u64 0, .str ⟨#[]⟩, .lst (ivs m)], by decide, rfl, rfl, ?_⟩
          conv => whnf
          refine ⟨[.int .i64 1, .int .u64 0, .str b, .lst []], by decide, rfl, rfl, ?_⟩
          conv => whnf
          refine ⟨rfl, ?_⟩
          conv => whnf
          refine ⟨rfl, ?_⟩
          conv => whnf
          refine hS _ _ _ _ <| c_fail r false _ ?_
          conv => whnf
          exact hn rfl r
        | str k1 =>
          refine ⟨[.int .i64 1, .int .u64 0, .str k1, .lst []], by decide, rfl, rfl, ?_⟩
          conv => whnf
          refine ⟨[.int .i64 1, .int .u64 0, .str b, .lst []], by decide, rfl, rfl, ?_⟩
          conv => whnf
          refine ⟨rfl, ?_⟩
          conv => whnf
          refine ⟨rfl, ?_⟩
          conv => whnf
          rw [e32 k1 _ rfl]
          by_cases g1 : k1.size ≠ 32
          · rw [decide_eq_true g1]
            conv => whnf
            refine hS _ _ _ _ <| c_fail r false _ ?_
            conv => whnf
            exact hn (if_neg fun h => g1 h.1) r
          rw [decide_eq_false g1]
          have g1 : k1.size = 32 := by omega
          conv => whnf
          have hh := fun K => c_holdsU (f + 1) _ z k1 g1 256 hu0 K
          refine hS _ _ _ _ <| hh _ ?_
          clear hh
          cases hb : holdsB _ k1 256 with
          | false =>
            conv => whnf
            refine hS _ _ _ _ <| c_fail r false _ ?_
            conv => whnf
            exact hn (if_neg fun h => by have := h.2; rw [hb] at this; simp at this) r
          | true =>
            conv => whnf
            refine hS _ _ _ _ <| c_pleaf k1 b g1 (by omega) _ fun t ht => ?_
            conv => whnf
            rw [ht]
            exact hk _ _ (if_pos ⟨g1, hb⟩)
        | num m =>
          refine ⟨[.int .i64 0, .int .u64 (m : Int), .str ⟨#[]⟩, .lst []], by decide, rfl, rfl, ?_⟩
          conv => whnf
          refine ⟨[.int .i64 1, .int .u64 0, .str b, .lst []], by decide, rfl, rfl, ?_⟩
          conv => whnf
          refine ⟨rfl, ?_⟩
          conv => whnf
          refine ⟨rfl, ?_⟩
          conv => whnf
          by_cases g0 : m < 256
          case neg =>
            rw [decide_eq_true (show (m : Int) ≥ 256 by omega)]
            conv => whnf
            refine hS _ _ _ _ <| c_fail r false _ ?_
            conv => whnf
            exact hn (if_neg fun h => g0 h.1) r
          rw [decide_eq_false (show ¬ ((m : Int) ≥ 256) by omega)]
          conv => whnf
          rw [e32 b _ rfl]
          by_cases g1 : b.size ≠ 32
          · rw [decide_eq_true g1]
            conv => whnf
            refine hS _ _ _ _ <| c_fail r false _ ?_
            conv => whnf
            exact hn (if_neg fun h => g1 h.2.1) r
          rw [decide_eq_false g1]
          have g1 : b.size = 32 := by omega
          conv => whnf
          rw [i64n m (by omega)]
          have hh := fun K => c_holdsU (f + 1) _ z b g1 m hu0 K
          refine hS _ _ _ _ <| hh _ ?_
          clear hh
          cases hb : holdsB _ b m with
          | false =>
            conv => whnf
            refine hS _ _ _ _ <| c_fail r false _ ?_
            conv => whnf
            exact hn (if_neg fun h => by have := h.2.2.1; rw [hb] at this; simp at this) r
          | true =>
            conv => whnf
            rw [i64n m (by omega)]
            refine hS _ _ _ _ <| c_First b m g1 (by omega) _ fun b' hb' => ?_
            conv => whnf
            subst hb'
            rw [beq_ba]
            by_cases hfb : firstK b m = b
            case neg =>
              rw [decide_eq_false hfb]
              conv => whnf
              refine hS _ _ _ _ <| c_fail r false _ ?_
              conv => whnf
              exact hn (if_neg fun h => hfb h.2.2.2) r
            rw [decide_eq_true hfb]
            conv => whnf
            rw [i64n m (by omega)]
            have hup : ∀ s' : Bool, upOk f (some (m, b, s')) := fun s' => ⟨g0, g1, by
              simp only [upOk] at hu0
              first
                | omega
                | (simp only [holdsB, Bool.and_eq_true, decide_eq_true_eq] at hb
                   omega)⟩
            rw [show nk (.lst [.num m, .str b]) = .fork m b from rfl] at hn hk
            simp only at hn hk
            rw [if_pos ⟨g0, g1, hb, hfb⟩] at hn hk
            refine hS _ _ _ _ <| ih (some (m, b, false)) .nilp r (hup _) hr hf.2 _ (fun hz l' => ?_) (fun t1 r1 hz => ?_)
            · conv => whnf
              refine hS _ _ _ _ <| c_pnodeBad (some (m, b, true)) .nilp l' _ ?_
              conv => whnf
              rw [hz] at hn
              exact hn rfl l'
            rw [hz] at hn hk
            simp only at hn hk
            have hr1 := pread_lt _ _ _ _ _ hz
            have hok1 := pread_ok _ _ _ _ _ hf.2 hz
            conv => whnf
            refine hS _ _ _ _ <| ih (some (m, b, true)) t1.iv r1 (hup _) (by omega) hok1.2 _ (fun hz2 l' => ?_) (fun t2 r2 hz2 => ?_)
            · conv => whnf
              rw [hz2] at hn
              exact hn rfl l'
            rw [hz2] at hk
            have hok2 := pread_ok _ _ _ _ _ hok1.2 hz2
            conv => whnf
            have hfk := fun K hk => c_pfork m b t1 t2 g0 g1 (PT.hash_size hok1.1) (PT.hash_size hok2.1) K hk
            rw [hfb] at hfk
            refine ⟨.i (PT.fork m b t1 t2).iv, hS _ _ _ _ <| hfk _ (fun q hq => ⟨by rw [hq], rfl⟩), rfl, ?_⟩
            conv => whnf
            exact hk _ _ rfl
set_option maxRecDepth 100000 in
theorem c_pnodeS (f : Nat) (ih : RnOk f) : RnOk (f + 1) := by
  intro u z l hu hlen hfine Q hn hk
  cases l with
  | nil =>
    have hn := hn rfl []
    rcases u with _ | ⟨a, k, s⟩
    all_goals
      refine mk {inc := 2, hk := [2], hw := [6], hs := true, kl := [70, 74], pl := [71, 72, 75, 77]} (fn := Tryz.f36) Tryz.func36 (by kernel_rfl) (by kernel_rfl) (Nat.le_of_ble_eq_true (Eq.refl true)) fun S hS => ?_
      conv => whnf
      refine hS _ _ _ _ <| c_fail [] false _ ?_
      conv => whnf
      exact hn
  | cons n r =>
    refine c_pnodeC f ih u z n r hu (by simp at hlen; omega) hfine (ivs (n :: r)) (ivs_get _ 0 n rfl) (ivs_len _) ?_ (ivs_all _) Q hn hk
    rw [show ((((ivs (n :: r)).length : Nat) : Int)).toNat = (ivs (n :: r)).length from rfl, List.take_length]; rfl
theorem c_pnode (f : Nat) : RnOk f := by
  induction f with
  | zero =>
    intro u z l hu
    rcases u with _ | ⟨a, k, s⟩
    · simp [upOk] at hu
    · simp only [upOk] at hu; omega
  | succ f ih => exact c_pnodeS f ih
end Go.Proofs.YtmfilaagpobmbaaGreatDoor
