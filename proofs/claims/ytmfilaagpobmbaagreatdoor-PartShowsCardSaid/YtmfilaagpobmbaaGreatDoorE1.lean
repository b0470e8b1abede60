/- A part of the proof of a seat of parts: E1. -/
import Derived.Test.YtmfilaagpobmbaaGreatDoorC7
import Derived.Test.YtmfilaagpobmbaaGreatDoorD8
set_option linter.all false
namespace Go.Proofs.YtmfilaagpobmbaaGreatDoor
open Go Go.Abs
/-- a list of pairs -/
def pl (l : List Pr) : List (List IV) := l.map fun p => [.str p.1, .str p.2]
theorem pl_len (l : List Pr) : (pl l).length = l.length := by simp [pl]
theorem pl_get (l : List Pr) (i : Nat) (p : Pr) (h : l[i]? = some p) : (pl l)[i]? = some [.str p.1, .str p.2] := by simp [pl, h]
theorem pl_app (l m : List Pr) : pl l ++ pl m = pl (l ++ m) := by simp [pl]
/-- handed as a slice -/
def WL (w : AV) (l : List Pr) : Prop := (w = .one .nils ∧ l = []) ∨ w = .i (.lst (pl l))
theorem pl_all (l : List Pr) : ∀ c ∈ pl l, c.length = 2 := by
  intro c hc
  simp only [pl, List.mem_map] at hc
  obtain ⟨p, _, rfl⟩ := hc
  rfl
set_option maxRecDepth 100000 in
theorem c_rGet (w : AV) (l : List Pr) (hw : WL w l) (hl : l.length < 1000000000) (key : ByteArray) (K) (hk : ∀ u, u = getR (rget key l) → K u []) : SP 24 [w, .i (.str key)] [] K := by
  rcases hw with ⟨rfl, rfl⟩ | rfl
  · refine mk {keep := [(2, [0,1,6])]} (fn := Tryz.f24) Tryz.func24 (by kernel_rfl) (by kernel_rfl) (Nat.le_of_ble_eq_true (Eq.refl true)) fun S hS => ?_
    conv => whnf
    intro X hX
    apply hX
    conv => whnf
    exact hk _ rfl
  · have hpl := pl_len l
    have hpg := pl_get l
    generalize pl l = L at hpl hpg ⊢
    refine mk {keep := [(2, [0,1,6])]} (fn := Tryz.f24) Tryz.func24 (by kernel_rfl) (by kernel_rfl) (Nat.le_of_ble_eq_true (Eq.refl true)) fun S hS => ?_
    conv => whnf
    intro X hX
    have go : ∀ (d i : Nat), i + d = l.length → rget key l = rget key (l.drop i) → frK (kfr 25 [(0, .i (.lst L)), (1, .i (.str key)), (6, .i (.int .i64 (i : Int)))] []) X := by
      intro d
      induction d with
      | zero =>
        intro i hi he
        conv => whnf
        apply hX
        conv => whnf
        rw [decide_eq_false (show ¬ ((i : Int) < (L.length : Int)) by omega)]
        conv => whnf
        rw [List.drop_eq_nil_of_le (by omega)] at he
        rw [he] at hk
        exact hk _ rfl
      | succ d ih =>
        intro i hi he
        have hi' : i < l.length := by omega
        have hg := hpg i l[i] (List.getElem?_eq_getElem hi')
        rw [List.drop_eq_getElem_cons hi'] at he
        conv => whnf
        apply hX
        conv => whnf
        rw [decide_eq_true (show (i : Int) < (L.length : Int) by omega)]
        conv => whnf
        refine ⟨_, by omega, hg, rfl, ?_⟩
        conv => whnf
        rw [beq_ba]
        simp only [rget] at he
        by_cases e : l[i].1 = key
        · rw [if_pos e] at he
          rw [he] at hk
          rw [decide_eq_true e]
          conv => whnf
          refine ⟨_, by omega, hg, rfl, ?_⟩
          conv => whnf
          exact hk _ rfl
        · rw [if_neg e] at he
          rw [decide_eq_false e]
          conv => whnf
          rw [show (i : Int) + 1 = ((i + 1 : Nat) : Int) by omega, i64n _ (by omega)]
          exact ih (i + 1) (by omega) he
    exact go l.length 0 (by omega) rfl
theorem rdel_eq {key : ByteArray} {p : Pr} (l : List Pr) (h : p.1 = key) : rdel key (p :: l) = rdel key l := by simp [rdel, h]
theorem rdel_ne {key : ByteArray} {p : Pr} (l : List Pr) (h : p.1 ≠ key) : rdel key (p :: l) = p :: rdel key l := by simp [rdel, h]
/-- what is gathered so far: nothing, or a slice of the frame's own -/
def Out (o : AV) (H : List Blk) (m : List Pr) : Prop := (o = .one .nils ∧ H = [] ∧ m = []) ∨ (o = .one (.sl 1 0 (pl m).length) ∧ H = [.dead, .vec 2 (pl m) true])
theorem Out.sl {m : List Pr} {n : Nat} {E : List (List IV)} (he : E = pl m) (hn : n = m.length) : Out (.one (.sl 1 0 n)) [.dead, .vec 2 E true] m := by
  subst he hn; exact .inr ⟨by rw [pl_len], rfl⟩
set_option maxRecDepth 100000 in
theorem c_rDel (w : AV) (l : List Pr) (hw : WL w l) (hl : l.length < 1000000000) (key : ByteArray) (K) (hk : K (.i (.lst (pl (rdel key l)))) []) : SP 39 [w, .i (.str key)] [] K := by
  rcases hw with ⟨rfl, rfl⟩ | rfl
  · refine mk {keep := [(3, [0,1,5,6])]} (fn := Tryz.f39) Tryz.func39 (by kernel_rfl) (by kernel_rfl) (Nat.le_of_ble_eq_true (Eq.refl true)) fun S hS => ?_
    conv => whnf
    intro X hX
    apply hX
    conv => whnf
    exact hk
  · have hpl := pl_len l
    have hpg := pl_get l
    generalize pl l = L at hpl hpg ⊢
    refine mk {keep := [(3, [0,1,5,6])]} (fn := Tryz.f39) Tryz.func39 (by kernel_rfl) (by kernel_rfl) (Nat.le_of_ble_eq_true (Eq.refl true)) fun S hS => ?_
    conv => whnf
    intro X hX
    have fin : ∀ m L, m = rdel key l → L = pl m → K (.i (.lst L)) [] := fun m L h h' => h' ▸ h ▸ hk
    have go : ∀ (d i : Nat), i + d = l.length → ∀ (m : List Pr) (o : AV) (H : List Blk), Out o H m → m.length ≤ i → m ++ rdel key (l.drop i) = rdel key l → frK (kfr 28 [(0, .i (.lst L)), (1, .i (.str key)), (5, o), (6, .i (.int .i64 (i : Int)))] H) X := by
      intro d
      induction d with
      | zero =>
        intro i hi m o H ho hm he
        rw [List.drop_eq_nil_of_le (by omega)] at he
        rcases ho with ⟨rfl, rfl, rfl⟩ | ⟨rfl, rfl⟩
        · conv => whnf
          apply hX
          conv => whnf
          rw [decide_eq_false (show ¬ ((i : Int) < (L.length : Int)) by omega)]
          conv => whnf
          exact fin [] [] (by simpa [rdel] using he) rfl
        · conv => whnf
          apply hX
          conv => whnf
          rw [decide_eq_false (show ¬ ((i : Int) < (L.length : Int)) by omega)]
          conv => whnf
          exact fin m _ (by simpa [rdel] using he) (by simp)
      | succ d ih =>
        intro i hi m o H ho hm he
        have hi' : i < l.length := by omega
        have hg := hpg i l[i] (List.getElem?_eq_getElem hi')
        have hpm := pl_len m
        rw [List.drop_eq_getElem_cons hi'] at he
        have ho' := ho
        rcases ho with ⟨rfl, rfl, rfl⟩ | ⟨rfl, rfl⟩
        all_goals
          conv => whnf
          apply hX
          conv => whnf
          rw [decide_eq_true (show (i : Int) < (L.length : Int) by omega)]
          conv => whnf
          refine ⟨_, by omega, hg, rfl, ?_⟩
          conv => whnf
          rw [beq_ba]
          by_cases e : l[i].1 = key
          · rw [decide_eq_true e]
            conv => whnf
            rw [show (i : Int) + 1 = ((i + 1 : Nat) : Int) by omega, i64n _ (by omega)]
            exact ih (i + 1) (by omega) _ _ _ ho' (Nat.le_succ_of_le hm) (by rw [rdel_eq _ e] at he; exact he)
          · rw [decide_eq_false e]
            conv => whnf
            refine ⟨_, by omega, hg, rfl, ?_⟩
            conv => whnf
            first
            | refine ⟨Nat.le_of_ble_eq_true rfl, ?_⟩
            | refine ⟨Nat.zero_add _, by show ((pl m).length + 1) * 32 ≤ 17592186044416; omega, ?_⟩
            conv => whnf
            rw [show (i : Int) + 1 = ((i + 1 : Nat) : Int) by omega, i64n _ (by omega)]
            refine ih (i + 1) (by omega) (_ ++ [l[i]]) _ _ (Out.sl ?_ ?_) (by simp at hm ⊢; omega) (by rw [rdel_ne _ e] at he; simpa using he)
            · first | rfl | exact pl_app m [l[i]]
            · first | rfl | (show (pl m).length + 1 = _; rw [List.length_append, hpm]; rfl)
    exact go l.length 0 (by omega) [] _ _ (.inl ⟨rfl, rfl, rfl⟩) (by simp) rfl
end Go.Proofs.YtmfilaagpobmbaaGreatDoor
