/- A part of the proof of a seat of parts: D8. -/
import Derived.Test.YtmfilaagpobmbaaGreatDoorC1
import Derived.Test.YtmfilaagpobmbaaGreatDoorD5
set_option linter.all false
namespace Go.Proofs.YtmfilaagpobmbaaGreatDoor
open Go Go.Abs
def tr (t : T) : IV := .ptr [t.iv, .int .i64 (t.pairs.length : Int)]
set_option maxRecDepth 100000 in
theorem c_New (K) (hk : K (.i (tr .nil)) []) : SP 29 [] [] K := by
  refine mk {} (fn := Tryz.f29) Tryz.func29 (by kernel_rfl) (by kernel_rfl) (Nat.le_of_ble_eq_true (Eq.refl true)) fun S hS => ?_
  conv => whnf
  exact hk
set_option maxRecDepth 100000 in
theorem c_Top (t : T) (K) (hk : K (.i t.iv) []) : SP 41 [.i (tr t)] [] K := by
  unfold tr
  revert hk
  generalize t.iv = f
  generalize (t.pairs.length : Int) = n
  intro hk
  refine mk {} (fn := Tryz.f41) Tryz.func41 (by kernel_rfl) (by kernel_rfl) (Nat.le_of_ble_eq_true (Eq.refl true)) fun S hS => ?_
  conv => whnf
  exact hk
set_option maxRecDepth 100000 in
theorem c_TopN (K) (hk : K (.i .nilp) []) : SP 41 [.i .nilp] [] K := by
  refine mk {} (fn := Tryz.f41) Tryz.func41 (by kernel_rfl) (by kernel_rfl) (Nat.le_of_ble_eq_true (Eq.refl true)) fun S hS => ?_
  conv => whnf
  exact hk
set_option maxRecDepth 100000 in
theorem c_Len (t : T) (K) (hk : K (.i (.int .i64 (t.pairs.length : Int))) []) : SP 63 [.i (tr t)] [] K := by
  unfold tr
  revert hk
  generalize t.iv = f
  generalize (t.pairs.length : Int) = n
  intro hk
  refine mk {} (fn := Tryz.f63) Tryz.func63 (by kernel_rfl) (by kernel_rfl) (Nat.le_of_ble_eq_true (Eq.refl true)) fun S hS => ?_
  conv => whnf
  exact hk
set_option maxRecDepth 100000 in
theorem c_LenN (K) (hk : K (.i (.int .i64 0)) []) : SP 63 [.i .nilp] [] K := by
  refine mk {} (fn := Tryz.f63) Tryz.func63 (by kernel_rfl) (by kernel_rfl) (Nat.le_of_ble_eq_true (Eq.refl true)) fun S hS => ?_
  conv => whnf
  exact hk
set_option maxRecDepth 100000 in
theorem c_Empty (K) (hk : K (.i (.str zero32)) []) : SP 37 [] [] K := by
  refine mk {} (fn := Tryz.f37) Tryz.func37 (by kernel_rfl) (by kernel_rfl) (Nat.le_of_ble_eq_true (Eq.refl true)) fun S hS => ?_
  conv => whnf
  refine hS _ _ _ _ <| c_Repeat ⟨#[0]⟩ 32 (by decide) (by decide) _ ?_
  have e : (⟨(rep (ByteArray.mk #[0]).data.toList 32).toArray⟩ : ByteArray) = zero32 := rfl
  rw [e]
  revert hk
  generalize zero32 = z
  intro hk
  conv => whnf
  exact hk
set_option maxRecDepth 100000 in
theorem c_Root (t : T) (K) (hk : K (.i (.str t.hash)) []) : SP 18 [.i (tr t)] [] K := by
  have ht := fun K => c_Top t K
  by_cases hn : t = .nil
  · subst hn
    revert ht
    generalize tr .nil = x
    have en : T.nil.iv = .nilp := rfl
    have eh : T.nil.hash = zero32 := rfl
    rw [en]
    rw [eh] at hk
    intro ht
    refine mk {} (fn := Tryz.f18) Tryz.func18 (by kernel_rfl) (by kernel_rfl) (Nat.le_of_ble_eq_true (Eq.refl true)) fun S hS => ?_
    conv => whnf
    refine hS _ _ _ _ <| ht _ ?_
    conv => whnf
    refine hS _ _ _ _ <| c_Empty _ ?_
    conv => whnf
    exact hk
  · obtain ⟨_, _, _, _, _, _, e⟩ := t.iv_ptr hn
    rw [e] at ht
    revert ht hk
    generalize tr t = x
    generalize t.hash = h
    intro hk ht
    refine mk {} (fn := Tryz.f18) Tryz.func18 (by kernel_rfl) (by kernel_rfl) (Nat.le_of_ble_eq_true (Eq.refl true)) fun S hS => ?_
    conv => whnf
    refine hS _ _ _ _ <| ht _ ?_
    conv => whnf
    exact hk
set_option maxRecDepth 100000 in
theorem c_RootN (K) (hk : K (.i (.str zero32)) []) : SP 18 [.i .nilp] [] K := by
  refine mk {} (fn := Tryz.f18) Tryz.func18 (by kernel_rfl) (by kernel_rfl) (Nat.le_of_ble_eq_true (Eq.refl true)) fun S hS => ?_
  conv => whnf
  refine hS _ _ _ _ <| c_TopN _ ?_
  conv => whnf
  refine hS _ _ _ _ <| c_Empty _ ?_
  conv => whnf
  exact hk
set_option maxRecDepth 100000 in
theorem c_Put (t : T) (ht : t.good) (hl : t.pairs.length < 1000000000) (key val : ByteArray) (hkey : key.size = 32) (hv : val.size < 1073741824) (K) (hk : ∀ u, u = tr (t.put key val).1 → K (.i u) []) : SP 30 [.i (tr t), .i (.str key), .i (.str val)] [] K := by
  have hp := c_put key val hkey hv t ht
  have h1 := fun K => c_Top t K
  have h2 := fun K => c_Len t K
  have hlen := (T.put_spec (key := key) (val := val) hkey hv ht).2.2.2
  have hks : ((key.size : Int) != 32) = false := by rw [hkey]; rfl
  unfold tr at hk
  rw [hlen] at hk
  clear hlen
  revert hp h1 h2 hk
  generalize t.put key val = p
  obtain ⟨p, w⟩ := p
  generalize tr t = x
  generalize t.iv = f
  generalize hn : t.pairs.length = n at hl
  simp only
  generalize p.iv = f'
  intro hk hp h1 h2
  refine mk {} (fn := Tryz.f30) Tryz.func30 (by kernel_rfl) (by kernel_rfl) (Nat.le_of_ble_eq_true (Eq.refl true)) fun S hS => ?_
  conv => whnf
  rw [hks]
  conv => whnf
  refine hS _ _ _ _ <| h1 _ ?_
  conv => whnf
  refine hS _ _ _ _ <| hp _ fun r hr => ?_
  conv => whnf
  refine hS _ _ _ _ <| h2 _ ?_
  conv => whnf
  subst hr
  cases w
  · conv => whnf
    exact hk _ rfl
  · conv => whnf
    rw [show (n : Int) + 1 = ((n + 1 : Nat) : Int) by omega, i64n _ (by omega)]
    exact hk _ rfl
set_option maxRecDepth 100000 in
theorem c_PutN (key val : ByteArray) (hkey : key.size = 32) (hv : val.size < 1073741824) (K) (hk : ∀ u, u = tr (.leaf key val) → K (.i u) []) : SP 30 [.i .nilp, .i (.str key), .i (.str val)] [] K := by
  have hp := c_put key val hkey hv .nil trivial
  have hks : ((key.size : Int) != 32) = false := by rw [hkey]; rfl
  have en : T.nil.iv = .nilp := rfl
  rw [en] at hp
  simp only [T.put] at hp
  unfold tr at hk
  revert hp hk
  generalize (T.leaf key val).iv = f'
  intro hk hp
  refine mk {} (fn := Tryz.f30) Tryz.func30 (by kernel_rfl) (by kernel_rfl) (Nat.le_of_ble_eq_true (Eq.refl true)) fun S hS => ?_
  conv => whnf
  rw [hks]
  conv => whnf
  refine hS _ _ _ _ <| c_TopN _ ?_
  conv => whnf
  refine hS _ _ _ _ <| hp _ fun r hr => ?_
  conv => whnf
  refine hS _ _ _ _ <| c_LenN _ ?_
  conv => whnf
  subst hr
  exact hk _ rfl
set_option maxRecDepth 100000 in
theorem c_PutBad (x : IV) (key val : ByteArray) (hkey : key.size ≠ 32) (K) (hk : K (.i x) []) : SP 30 [.i x, .i (.str key), .i (.str val)] [] K := by
  have hks : ((key.size : Int) != 32) = true := by simp; omega
  refine mk {} (fn := Tryz.f30) Tryz.func30 (by kernel_rfl) (by kernel_rfl) (Nat.le_of_ble_eq_true (Eq.refl true)) fun S hS => ?_
  conv => whnf
  rw [hks]
  conv => whnf
  exact hk
set_option maxRecDepth 100000 in
theorem c_Del (t : T) (ht : t.good) (hl : t.pairs.length < 1000000000) (key : ByteArray) (hkey : key.size = 32) (K) (hk : ∀ u, u = tr (t.drop key).1 → K (.i u) []) : SP 38 [.i (tr t), .i (.str key)] [] K := by
  have hp := c_drop key hkey t ht
  have h1 := fun K => c_Top t K
  obtain ⟨_, _, hlen, hsame⟩ := T.drop_spec (key := key) hkey ht
  have hks : ((key.size : Int) != 32) = false := by rw [hkey]; rfl
  revert hp h1 hk hlen hsame
  generalize t.drop key = p
  obtain ⟨p, w⟩ := p
  simp only
  intro hk hp h1 hlen hsame
  cases w
  · rw [hsame rfl] at hk hp
    have hk := hk _ rfl
    generalize tr t = x at hk h1 hp ⊢
    generalize t.iv = f at hk h1 hp ⊢
    refine mk {} (fn := Tryz.f38) Tryz.func38 (by kernel_rfl) (by kernel_rfl) (Nat.le_of_ble_eq_true (Eq.refl true)) fun S hS => ?_
    conv => whnf
    rw [hks]
    conv => whnf
    refine hS _ _ _ _ <| h1 _ ?_
    conv => whnf
    refine hS _ _ _ _ <| hp _ fun r hr => ?_
    conv => whnf
    exact hk
  · have hk := hk _ rfl
    unfold tr at h1 hk ⊢
    generalize p.iv = f' at hp hk ⊢
    generalize t.iv = f at hp h1 ⊢
    have e : (p.pairs.length : Int) = IntKind.i64.wrap ((t.pairs.length : Int) - 1) := by
      simp only [if_true] at hlen
      rw [hlen, wrap64i _ (by omega)]; omega
    rw [e] at hk
    generalize (t.pairs.length : Int) = n at h1 hk ⊢
    refine mk {} (fn := Tryz.f38) Tryz.func38 (by kernel_rfl) (by kernel_rfl) (Nat.le_of_ble_eq_true (Eq.refl true)) fun S hS => ?_
    conv => whnf
    rw [hks]
    conv => whnf
    refine hS _ _ _ _ <| h1 _ ?_
    conv => whnf
    refine hS _ _ _ _ <| hp _ fun r hr => ?_
    conv => whnf
    subst hr
    exact hk
set_option maxRecDepth 100000 in
theorem c_DelBad (x : IV) (key : ByteArray) (hkey : key.size ≠ 32) (K) (hk : K (.i x) []) : SP 38 [.i x, .i (.str key)] [] K := by
  have hks : ((key.size : Int) != 32) = true := by simp; omega
  refine mk {} (fn := Tryz.f38) Tryz.func38 (by kernel_rfl) (by kernel_rfl) (Nat.le_of_ble_eq_true (Eq.refl true)) fun S hS => ?_
  conv => whnf
  rw [hks]
  conv => whnf
  exact hk
def getR : Option ByteArray → AV
  | some v => .tup [.i (.str v), .i (.bool true)]
  | none => .tup [.i (.str ⟨#[]⟩), .i (.bool false)]
set_option maxRecDepth 100000 in
theorem c_Get (t : T) (ht : t.good) (key : ByteArray) (hkey : key.size = 32) (K) (hk : ∀ u, u = getR (t.get key) → K u []) : SP 58 [.i (tr t), .i (.str key)] [] K := by
  have h1 := fun K => c_Top t K
  have hks : ((key.size : Int) != 32) = false := by rw [hkey]; rfl
  revert h1
  generalize tr t = x
  intro h1
  refine mk {keep := [(4, [1,6])]} (fn := Tryz.f58) Tryz.func58 (by kernel_rfl) (by kernel_rfl) (Nat.le_of_ble_eq_true (Eq.refl true)) fun S hS => ?_
  conv => whnf
  refine hS _ _ _ _ <| h1 _ ?_
  conv => whnf
  rw [hks]
  clear h1
  conv => whnf
  intro X hX
  have go : ∀ (t : T) (_ : t.good) (_ : ∀ u, u = getR (t.get key) → K u []), frK (kfr 50 [(1, .i (.str key)), (6, .i t.iv)] []) X := by
    intro t
    induction t with
    | nil =>
      intro ht hk
      have en : T.nil.iv = .nilp := rfl
      rw [en]
      conv => whnf
      apply hX
      conv => whnf
      exact hk _ rfl
    | leaf k v =>
      intro ht hk
      rw [T.iv_leaf]
      generalize (T.leaf k v).hash = hs
      conv => whnf
      apply hX
      conv => whnf
      rw [beq_ba]
      simp only [T.get] at hk
      by_cases e : k = key
      · rw [if_pos e] at hk
        rw [decide_eq_true e]
        conv => whnf
        exact hk _ rfl
      · rw [if_neg e] at hk
        rw [decide_eq_false e]
        conv => whnf
        exact hk _ rfl
    | fork a k z o iz io =>
      intro ht hk
      rw [T.iv_fork]
      generalize (T.fork a k z o).hash = hs
      simp only [T.get] at hk
      conv => whnf
      apply hX
      conv => whnf
      refine hS _ _ _ _ <| c_Bit key a hkey ht.1 _ ?_
      conv => whnf
      cases hb : bit key a
      · rw [if_pos hb] at hk
        conv => whnf
        exact iz ht.2.2.2.1 hk
      · rw [if_neg (by simp [hb])] at hk
        conv => whnf
        exact io ht.2.2.2.2.1 hk
  exact go t ht hk
set_option maxRecDepth 100000 in
theorem c_GetBad (t : T) (key : ByteArray) (hkey : key.size ≠ 32) (K) (hk : ∀ u, u = getR none → K u []) : SP 58 [.i (tr t), .i (.str key)] [] K := by
  have h1 := fun K => c_Top t K
  have hks : ((key.size : Int) != 32) = true := by simp; omega
  revert h1
  generalize tr t = x
  intro h1
  refine mk {keep := [(4, [1,6])]} (fn := Tryz.f58) Tryz.func58 (by kernel_rfl) (by kernel_rfl) (Nat.le_of_ble_eq_true (Eq.refl true)) fun S hS => ?_
  conv => whnf
  refine hS _ _ _ _ <| h1 _ ?_
  conv => whnf
  rw [hks]
  conv => whnf
  exact hk _ rfl
end Go.Proofs.YtmfilaagpobmbaaGreatDoor
