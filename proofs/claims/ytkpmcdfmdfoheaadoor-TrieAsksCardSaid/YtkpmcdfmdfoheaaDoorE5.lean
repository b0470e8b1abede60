/- A part of the proof of a seat of tries: E5. -/
import Derived.Test.YtkpmcdfmdfoheaaDoorE3
set_option linter.all false
namespace Go.Proofs.YtkpmcdfmdfoheaaDoor
open Go Go.Abs
set_option maxRecDepth 100000 in
theorem c_gatherS : ∀ (t : T) (_ : t.good) (m : List Pr) (n : Nat) (L : List (List IV)) (_ : L = pl m) (_ : n = m.length) (_ : m.length + t.pairs.length < 100000) (K : AV → List Blk → Prop)
    (_ : ∀ n' L', L' = pl (m ++ t.pairs) → n' = (m ++ t.pairs).length → K (.one (.sl 0 0 n')) [.vec 2 L' true]), SP 44 [.i t.iv, .one (.sl 0 0 n)] [.vec 2 L true] K := by
  intro t
  induction t with
  | nil =>
    intro ht m n L hE hn hb K hk
    have hk := hk n L (by simpa [T.pairs] using hE) (by simpa [T.pairs] using hn)
    have en : T.nil.iv = .nilp := rfl
    rw [en]
    refine mk {res := false, inc := 1, pl := [29, 33], hc := [35, 36]} (fn := Tryd.f44) Tryd.func44 (by kernel_rfl) (by kernel_rfl) (Nat.le_of_ble_eq_true (Eq.refl true)) fun S hS => ?_
    conv => whnf
    exact hk
  | leaf k v =>
    intro ht m n L hE hn hb K hk
    have hl : L.length = m.length := by rw [hE, pl_len]
    simp only [T.pairs, List.length_cons, List.length_nil] at hb hk
    rw [T.iv_leaf]
    generalize (T.leaf k v).hash = hs
    refine mk {res := false, inc := 1, pl := [29, 33], hc := [35, 36]} (fn := Tryd.f44) Tryd.func44 (by kernel_rfl) (by kernel_rfl) (Nat.le_of_ble_eq_true (Eq.refl true)) fun S hS => ?_
    conv => whnf
    refine ⟨fun e he => (by
      cases he with
      | head => rfl
      | tail _ h => cases h), by omega, by show (L.length + 1) * 32 ≤ 17592186044416; omega, ?_⟩
    conv => whnf
    exact hk _ _ (by rw [hE]; exact pl_app m [(k, v)]) (by show n + 1 = _; simp [hn])
  | fork a k z o iz io =>
    intro ht m n L hE hn hb K hk
    simp only [T.pairs, List.length_append] at hb
    rw [T.iv_fork]
    generalize (T.fork a k z o).hash = hs
    have iz := iz ht.2.2.2.1 m n L hE hn (by omega)
    have io := io ht.2.2.2.2.1 (m ++ z.pairs) _ _ rfl rfl (by simp; omega)
    refine mk {res := false, inc := 1, pl := [29, 33], hc := [35, 36]} (fn := Tryd.f44) Tryd.func44 (by kernel_rfl) (by kernel_rfl) (Nat.le_of_ble_eq_true (Eq.refl true)) fun S hS => ?_
    conv => whnf
    refine ⟨.one (.sl 0 0 (m ++ z.pairs).length), [.vec 2 (pl (m ++ z.pairs)) true], ?_, ?_⟩
    · conv => whnf
      refine hS _ _ _ _ <| iz _ fun n' E' hE' hn' => ?_
      rw [hE', hn']
      exact ⟨rfl, rfl⟩
    conv => whnf
    refine ⟨.one (.sl 0 0 (m ++ z.pairs ++ o.pairs).length), [.vec 2 (pl (m ++ z.pairs ++ o.pairs)) true], ?_, ?_⟩
    · conv => whnf
      refine hS _ _ _ _ <| io _ fun n' E' hE' hn' => ?_
      rw [hE', hn']
      exact ⟨rfl, rfl⟩
    conv => whnf
    exact hk _ _ (by simp [T.pairs]) (by simp [T.pairs])
set_option maxRecDepth 100000 in
theorem c_gather0 : ∀ (t : T) (_ : t.good) (_ : t ≠ .nil) (_ : t.pairs.length < 100000) (K : AV → List Blk → Prop)
    (_ : ∀ n' L', L' = pl t.pairs → n' = t.pairs.length → K (.one (.sl 0 0 n')) [.vec 2 L' true]), SP 44 [.i t.iv, .one .nils] [] K := by
  intro t
  induction t with
  | nil => intro ht hn; exact absurd rfl hn
  | leaf k v =>
    intro ht hn hb K hk
    rw [T.iv_leaf]
    generalize (T.leaf k v).hash = hs
    refine mk {res := false, pl := [29, 33], hc := [35, 36]} (fn := Tryd.f44) Tryd.func44 (by kernel_rfl) (by kernel_rfl) (Nat.le_of_ble_eq_true (Eq.refl true)) fun S hS => ?_
    conv => whnf
    refine ⟨fun e he => (by
      cases he with
      | head => rfl
      | tail _ h => cases h), Nat.le_of_ble_eq_true rfl, ?_⟩
    conv => whnf
    exact hk _ _ rfl rfl
  | fork a k z o iz io =>
    intro ht hn hb K hk
    simp only [T.pairs, List.length_append] at hb
    rw [T.iv_fork]
    generalize (T.fork a k z o).hash = hs
    have iz := iz ht.2.2.2.1 ht.2.1 (by omega)
    have io := c_gatherS o ht.2.2.2.2.1 z.pairs _ _ rfl rfl (by omega)
    refine mk {res := false, pl := [29, 33], hc := [35, 36]} (fn := Tryd.f44) Tryd.func44 (by kernel_rfl) (by kernel_rfl) (Nat.le_of_ble_eq_true (Eq.refl true)) fun S hS => ?_
    conv => whnf
    refine ⟨.one (.sl 0 0 z.pairs.length), [.vec 2 (pl z.pairs) true], ?_, ?_⟩
    · conv => whnf
      refine hS _ _ _ _ <| iz _ fun n' E' hE' hn' => ?_
      rw [hE', hn']
      exact ⟨rfl, rfl⟩
    conv => whnf
    refine ⟨.one (.sl 0 0 (z.pairs ++ o.pairs).length), [.vec 2 (pl (z.pairs ++ o.pairs)) true], ?_, ?_⟩
    · conv => whnf
      refine hS _ _ _ _ <| io _ fun n' E' hE' hn' => ?_
      rw [hE', hn']
      exact ⟨rfl, rfl⟩
    conv => whnf
    exact hk _ _ rfl rfl
set_option maxRecDepth 100000 in
theorem c_gatherN (K : AV → List Blk → Prop) (hk : K (.one .nils) []) : SP 44 [.i .nilp, .one .nils] [] K := by
  refine mk {res := false, pl := [29, 33], hc := [35, 36]} (fn := Tryd.f44) Tryd.func44 (by kernel_rfl) (by kernel_rfl) (Nat.le_of_ble_eq_true (Eq.refl true)) fun S hS => ?_
  conv => whnf
  exact hk
set_option maxRecDepth 100000 in
theorem c_All (t : T) (ht : t.good) (hb : t.pairs.length < 100000) (K : AV → List Blk → Prop) (hk : ∀ L, L = pl t.pairs → K (.i (.lst L)) []) : SP 23 [.i (tr t)] [] K := by
  have ht1 := c_Top t
  generalize tr t = x at ht1 ⊢
  by_cases hn : t = .nil
  · subst hn
    have hk := hk [] rfl
    have en : T.nil.iv = .nilp := rfl
    rw [en] at ht1
    refine mk {} (fn := Tryd.f23) Tryd.func23 (by kernel_rfl) (by kernel_rfl) (Nat.le_of_ble_eq_true (Eq.refl true)) fun S hS => ?_
    conv => whnf
    refine hS _ _ _ _ <| ht1 _ ?_
    conv => whnf
    refine hS _ _ _ _ <| c_gatherN _ ?_
    conv => whnf
    exact hk
  · have hg := c_gather0 t ht hn hb
    generalize t.iv = f at ht1 hg
    refine mk {} (fn := Tryd.f23) Tryd.func23 (by kernel_rfl) (by kernel_rfl) (Nat.le_of_ble_eq_true (Eq.refl true)) fun S hS => ?_
    conv => whnf
    refine hS _ _ _ _ <| ht1 _ ?_
    conv => whnf
    refine hS _ _ _ _ <| hg _ fun n' L' hL' hn' => ?_
    conv => whnf
    refine hk _ ?_
    rw [hn', hL', List.drop_zero, List.take_of_length_le (by rw [pl_len]; exact Nat.le_refl _)]
end Go.Proofs.YtkpmcdfmdfoheaaDoor
