/- A part of the proof of a seat of parts: D5, D6, D7. -/
import Derived.Test.YtmfilaagpobmbaaGreatDoorD1
import Derived.Test.YtmfilaagpobmbaaGreatDoorS2
set_option linter.all false
namespace Go.Proofs.YtmfilaagpobmbaaGreatDoor
open Go Go.Abs
def splitN : T → ByteArray → Nat
  | .nil, _ => 256
  | .leaf k _, key => common k key
  | .fork a k _ _, key => if a ≤ common k key then 256 else common k key
set_option maxRecDepth 100000 in
theorem c_split (t : T) (ht : t.good) (hn : t ≠ .nil) (key : ByteArray) (hkey : key.size = 32) (K) (hk : K (.i (.int .i64 (splitN t key : Int))) []) : SP 97 [.i t.iv, .i (.str key)] [] K := by
  cases t with
  | nil => exact absurd rfl hn
  | leaf k v =>
    have h1 : k.size = 32 := ht.1
    unfold T.iv
    generalize (T.leaf k v).hash = hs
    refine mk {} (fn := Tryz.f97) Tryz.func97 (by kernel_rfl) (by kernel_rfl) (Nat.le_of_ble_eq_true (Eq.refl true)) fun S hS => ?_
    conv => whnf
    refine hS _ _ _ _ <| c_Common k key h1 hkey _ fun r hr => ?_
    obtain rfl := common_eq hr
    conv => whnf
    exact hk
  | fork a k z o =>
    have h1 : k.size = 32 := T.ksize ht
    unfold T.iv
    generalize (T.fork a k z o).hash = hs
    refine mk {} (fn := Tryz.f97) Tryz.func97 (by kernel_rfl) (by kernel_rfl) (Nat.le_of_ble_eq_true (Eq.refl true)) fun S hS => ?_
    conv => whnf
    refine hS _ _ _ _ <| c_Common k key h1 hkey _ fun r hr => ?_
    obtain rfl := common_eq hr
    conv => whnf
    simp only [splitN] at hk
    by_cases c : a ≤ common k key
    · rw [if_pos c] at hk
      rw [decide_eq_true (show (common k key : Int) ≥ (a : Int) by omega)]
      conv => whnf
      exact hk
    · rw [if_neg c] at hk
      rw [decide_eq_false (show ¬ ((common k key : Int) ≥ (a : Int)) by omega)]
      conv => whnf
      exact hk
set_option maxRecDepth 100000 in
theorem c_beside (t : T) (hn : t ≠ .nil) (a : Nat) (ha : a < 256) (key val : ByteArray) (hkey : key.size = 32) (hv : val.size < 1073741824) (K) (hk : ∀ u, u = (beside t a key val).iv → K (.i u) []) : SP 98 [.i t.iv, .i (.int .i64 (a : Int)), .i (.str key), .i (.str val)] [] K := by
  obtain ⟨b1, b2, b3, b4, b5, b6, ez⟩ := t.iv_ptr hn
  have hf1 := fun K => c_fork a key (.leaf key val) t ha hkey (by simp) hn K
  have hf2 := fun K => c_fork a key t (.leaf key val) ha hkey hn (by simp) K
  have hl := fun K => c_leaf key val hkey hv K
  unfold beside at hk
  revert hf1 hf2 hl
  generalize (T.leaf key val).iv = L
  generalize t.iv = u
  intro hf1 hf2 hl
  refine mk {} (fn := Tryz.f98) Tryz.func98 (by kernel_rfl) (by kernel_rfl) (Nat.le_of_ble_eq_true (Eq.refl true)) fun S hS => ?_
  conv => whnf
  refine hS _ _ _ _ <| c_Bit key a hkey ha _ ?_
  conv => whnf
  cases hb : bit key a
  · rw [if_pos hb] at hk
    conv => whnf
    refine hS _ _ _ _ <| hl _ fun r hr => ?_
    subst hr
    conv => whnf
    refine hS _ _ _ _ <| hf1 _ fun r hr => ?_
    conv => whnf
    exact hk _ hr
  · rw [if_neg (by simp [hb])] at hk
    conv => whnf
    refine hS _ _ _ _ <| hl _ fun r hr => ?_
    subst hr
    conv => whnf
    refine hS _ _ _ _ <| hf2 _ fun r hr => ?_
    conv => whnf
    exact hk _ hr
end Go.Proofs.YtmfilaagpobmbaaGreatDoor

namespace Go.Proofs.YtmfilaagpobmbaaGreatDoor
open Go Go.Abs
theorem T.iv_leaf (k v : ByteArray) : (T.leaf k v).iv = .ptr [.bool true, .bool false, .str k, .str v, .int .i64 0, .nilp, .nilp, .str (T.leaf k v).hash] := rfl
theorem T.iv_fork (a : Nat) (k : ByteArray) (z o : T) : (T.fork a k z o).iv = .ptr [.bool false, .bool false, .str k, .str ⟨#[]⟩, .int .i64 (a : Int), z.iv, o.iv, .str (T.fork a k z o).hash] := rfl
set_option maxRecDepth 100000 in
theorem c_put (key val : ByteArray) (hkey : key.size = 32) (hv : val.size < 1073741824) : ∀ (t : T) (_ : t.good) (K : AV → List Blk → Prop) (_ : ∀ u, u = (t.put key val).1.iv → K (.tup [.i u, .i (.bool (t.put key val).2)]) []), SP 62 [.i t.iv, .i (.str key), .i (.str val)] [] K := by
  intro t
  induction t with
  | nil =>
    intro ht K hk
    unfold T.iv
    simp only [T.put] at hk
    refine mk {} (fn := Tryz.f62) Tryz.func62 (by kernel_rfl) (by kernel_rfl) (Nat.le_of_ble_eq_true (Eq.refl true)) fun S hS => ?_
    conv => whnf
    refine hS _ _ _ _ <| c_leaf key val hkey hv _ fun r hr => ?_
    conv => whnf
    exact hk _ hr
  | leaf k v =>
    intro ht K hk
    have hsp := c_split (.leaf k v) ht (by simp) key hkey
    have hbs := fun ha => c_beside (.leaf k v) (by simp) (common k key) ha key val hkey hv
    rw [T.iv_leaf] at hsp hbs ⊢
    revert hsp hbs
    generalize (T.leaf k v).hash = hs
    intro hsp hbs
    simp only [splitN] at hsp
    simp only [T.put] at hk
    refine mk {} (fn := Tryz.f62) Tryz.func62 (by kernel_rfl) (by kernel_rfl) (Nat.le_of_ble_eq_true (Eq.refl true)) fun S hS => ?_
    conv => whnf
    refine hS _ _ _ _ <| hsp _ ?_
    conv => whnf
    by_cases c : common k key < 256
    · rw [if_pos c] at hk
      rw [decide_eq_true (show (common k key : Int) < 256 by omega)]
      conv => whnf
      refine hS _ _ _ _ <| hbs c _ fun r hr => ?_
      conv => whnf
      exact hk _ hr
    · rw [if_neg c] at hk
      rw [decide_eq_false (show ¬ ((common k key : Int) < 256) by omega)]
      conv => whnf
      refine hS _ _ _ _ <| c_leaf key val hkey hv _ fun r hr => ?_
      conv => whnf
      exact hk _ hr
  | fork a k z o iz io =>
    intro ht K hk
    have hsp := c_split (.fork a k z o) ht (by simp) key hkey
    have hbs := fun ha => c_beside (.fork a k z o) (by simp) (common k key) ha key val hkey hv
    have hks := T.ksize ht
    obtain ⟨h1, h2, h3, h4, h5, h6, h7, h8⟩ := ht
    rw [T.iv_fork] at hsp hbs ⊢
    revert hsp hbs
    generalize (T.fork a k z o).hash = hs
    intro hsp hbs
    simp only [splitN] at hsp
    simp only [T.put] at hk
    have hz := T.put_spec (key := key) (val := val) hkey hv h4
    have ho := T.put_spec (key := key) (val := val) hkey hv h5
    have iz := iz h4
    have io := io h5
    have hfz := fun K => c_fork a k (z.put key val).1 o h1 hks hz.2.1 h3 K
    have hfo := fun K => c_fork a k z (o.put key val).1 h1 hks h2 ho.2.1 K
    clear hz ho
    revert iz io hk hfz hfo
    generalize z.put key val = pz
    generalize o.put key val = po
    obtain ⟨z', wz⟩ := pz
    obtain ⟨o', wo⟩ := po
    intro hk iz io hfz hfo
    simp only at iz io hk hfz hfo
    refine mk {} (fn := Tryz.f62) Tryz.func62 (by kernel_rfl) (by kernel_rfl) (Nat.le_of_ble_eq_true (Eq.refl true)) fun S hS => ?_
    conv => whnf
    refine hS _ _ _ _ <| hsp _ ?_
    conv => whnf
    by_cases c : common k key < a
    · rw [if_pos c] at hk
      rw [if_neg (show ¬ a ≤ common k key by omega)]
      rw [decide_eq_true (show (common k key : Int) < 256 by omega)]
      conv => whnf
      refine hS _ _ _ _ <| hbs (by omega) _ fun r hr => ?_
      conv => whnf
      exact hk _ hr
    · rw [if_neg c] at hk
      rw [if_pos (show a ≤ common k key by omega)]
      conv => whnf
      refine hS _ _ _ _ <| c_Bit key a hkey h1 _ ?_
      conv => whnf
      cases hb : bit key a
      · rw [if_pos hb] at hk
        conv => whnf
        refine hS _ _ _ _ <| iz _ fun r hr => ?_
        subst hr
        conv => whnf
        refine ⟨.i (mkFork a k z' o).iv, hS _ _ _ _ <| hfz _ (fun q hq => ⟨by rw [hq], rfl⟩), rfl, ?_⟩
        revert hk
        generalize (mkFork a k z' o).iv = R
        intro hk
        conv => whnf
        exact hk _ rfl
      · rw [if_neg (by simp [hb])] at hk
        conv => whnf
        refine hS _ _ _ _ <| io _ fun r hr => ?_
        subst hr
        conv => whnf
        refine ⟨.i (mkFork a k z o').iv, hS _ _ _ _ <| hfo _ (fun q hq => ⟨by rw [hq], rfl⟩), rfl, ?_⟩
        revert hk
        generalize (mkFork a k z o').iv = R
        intro hk
        conv => whnf
        exact hk _ rfl
end Go.Proofs.YtmfilaagpobmbaaGreatDoor

namespace Go.Proofs.YtmfilaagpobmbaaGreatDoor
open Go Go.Abs
set_option maxRecDepth 100000 in
theorem c_drop (key : ByteArray) (hkey : key.size = 32) : ∀ (t : T) (_ : t.good) (K : AV → List Blk → Prop) (_ : ∀ u, u = (t.drop key).1.iv → K (.tup [.i u, .i (.bool (t.drop key).2)]) []), SP 74 [.i t.iv, .i (.str key)] [] K := by
  intro t
  induction t with
  | nil =>
    intro ht K hk
    unfold T.iv
    simp only [T.drop] at hk
    refine mk {} (fn := Tryz.f74) Tryz.func74 (by kernel_rfl) (by kernel_rfl) (Nat.le_of_ble_eq_true (Eq.refl true)) fun S hS => ?_
    conv => whnf
    exact hk _ rfl
  | leaf k v =>
    intro ht K hk
    have hsp := c_split (.leaf k v) ht (by simp) key hkey
    simp only [T.drop] at hk
    have hk2 : common k key < 256 → K (.tup [.i (T.leaf k v).iv, .i (.bool false)]) [] := fun c => by rw [if_pos c] at hk; exact hk _ rfl
    rw [T.iv_leaf] at hsp hk2 ⊢
    revert hsp hk2
    generalize (T.leaf k v).hash = hs
    intro hsp hk2
    simp only [splitN] at hsp
    refine mk {} (fn := Tryz.f74) Tryz.func74 (by kernel_rfl) (by kernel_rfl) (Nat.le_of_ble_eq_true (Eq.refl true)) fun S hS => ?_
    conv => whnf
    refine hS _ _ _ _ <| hsp _ ?_
    conv => whnf
    by_cases c : common k key < 256
    · rw [decide_eq_true (show (common k key : Int) < 256 by omega)]
      conv => whnf
      exact hk2 c
    · rw [if_neg c] at hk
      rw [decide_eq_false (show ¬ ((common k key : Int) < 256) by omega)]
      conv => whnf
      exact hk _ rfl
  | fork a k z o iz io =>
    intro ht K hk
    have hsp := c_split (.fork a k z o) ht (by simp) key hkey
    have hks := T.ksize ht
    have hid := T.fork_idem ht
    obtain ⟨h1, h2, h3, h4, h5, h6, h7, h8⟩ := ht
    have iz := iz h4
    have io := io h5
    have ez := z.iv_ptr h2
    have eo := o.iv_ptr h3
    have hfz := fun z' h => c_fork a k z' o h1 hks h h3
    have hfo := fun o' h => c_fork a k z o' h1 hks h2 h
    simp only [T.drop] at hk
    rw [T.iv_fork] at hsp ⊢
    have ex : ∀ h, h = (T.fork a k z o).hash → (T.fork a k z o).iv = .ptr [.bool false, .bool false, .str k, .str ⟨#[]⟩, .int .i64 (a : Int), z.iv, o.iv, .str h] := fun h e => by rw [e]; rfl
    revert hsp
    generalize hgen : (T.fork a k z o).hash = hs
    have ex := ex hs hgen.symm
    intro hsp
    simp only [splitN] at hsp
    revert iz io hk
    generalize z.drop key = pz
    generalize o.drop key = po
    obtain ⟨z', wz⟩ := pz
    obtain ⟨o', wo⟩ := po
    intro hk iz io
    simp only at iz io hk
    refine mk {} (fn := Tryz.f74) Tryz.func74 (by kernel_rfl) (by kernel_rfl) (Nat.le_of_ble_eq_true (Eq.refl true)) fun S hS => ?_
    conv => whnf
    refine hS _ _ _ _ <| hsp _ ?_
    conv => whnf
    by_cases c : common k key < a
    · rw [if_pos c] at hk
      rw [if_neg (show ¬ a ≤ common k key by omega)]
      rw [decide_eq_true (show (common k key : Int) < 256 by omega)]
      conv => whnf
      exact hk _ ex.symm
    · rw [if_neg c] at hk
      rw [if_pos (show a ≤ common k key by omega)]
      conv => whnf
      refine hS _ _ _ _ <| c_Bit key a hkey h1 _ ?_
      conv => whnf
      cases hb : bit key a
      · rw [if_pos hb] at hk
        conv => whnf
        refine hS _ _ _ _ <| iz _ fun r hr => ?_
        subst hr
        cases wz with
        | false =>
          conv => whnf
          exact hk _ ex.symm
        | true =>
          by_cases hz' : z' = .nil
          · subst hz'
            have hk := hk _ rfl
            have en : T.nil.iv = .nilp := rfl
            rw [en]
            conv => whnf
            exact hk
          · obtain ⟨_, _, _, _, _, _, ez'⟩ := z'.iv_ptr hz'
            obtain ⟨_, _, _, _, _, _, eo⟩ := eo
            have hf := hfz z' hz'
            have hk2 : K (.tup [.i (mkFork a k z' o).iv, .i (.bool true)]) [] := by
              cases z' with
              | nil => exact absurd rfl hz'
              | leaf => exact hk _ rfl
              | fork => exact hk _ rfl
            rw [ez', eo] at hf ⊢
            conv => whnf
            refine ⟨.i (mkFork a k z' o).iv, hS _ _ _ _ <| hf _ (fun q hq => ⟨by rw [hq], rfl⟩), rfl, ?_⟩
            revert hk2
            generalize (mkFork a k z' o).iv = R
            intro hk2
            conv => whnf
            exact hk2
      · rw [if_neg (by simp [hb])] at hk
        conv => whnf
        refine hS _ _ _ _ <| io _ fun r hr => ?_
        subst hr
        cases wo with
        | false =>
          conv => whnf
          exact hk _ ex.symm
        | true =>
          obtain ⟨_, _, _, _, _, _, ez⟩ := ez
          by_cases ho' : o' = .nil
          · subst ho'
            have hk := hk _ rfl
            rw [ez] at hk ⊢
            have en : T.nil.iv = .nilp := rfl
            rw [en]
            conv => whnf
            exact hk
          · obtain ⟨_, _, _, _, _, _, eo'⟩ := o'.iv_ptr ho'
            have hf := hfo o' ho'
            have hk2 : K (.tup [.i (mkFork a k z o').iv, .i (.bool true)]) [] := by
              cases o' with
              | nil => exact absurd rfl ho'
              | leaf => exact hk _ rfl
              | fork => exact hk _ rfl
            rw [ez, eo'] at hf ⊢
            conv => whnf
            refine ⟨.i (mkFork a k z o').iv, hS _ _ _ _ <| hf _ (fun q hq => ⟨by rw [hq], rfl⟩), rfl, ?_⟩
            revert hk2
            generalize (mkFork a k z o').iv = R
            intro hk2
            conv => whnf
            exact hk2
end Go.Proofs.YtmfilaagpobmbaaGreatDoor
