/- A part of the proof of a seat of parts: M4, M5. -/
import Derived.Test.YtmfilaagpobmbaaGreatDoorE5
import Derived.Test.YtmfilaagpobmbaaGreatDoorR2
set_option linter.all false
namespace Go.Proofs.YtmfilaagpobmbaaGreatDoor
open Go Go.Abs
def keysOf (ks : List ByteArray) : List ByteArray := ks.map lawKey
def undersOf (us : List UP) : List UP := us.map fun p => (lawKey p.1, p.2)
def askedOk (ks : List ByteArray) (us : List UP) : Prop := ks.length ≤ 8 ∧ us.length ≤ 4 ∧ (∀ x ∈ ks, x.size ≤ 100) ∧ (∀ p ∈ us, p.1.size ≤ 100)
/-- the slices that are being made: of keys, and behind them of prefixes -/
def slV {α : Type} (b : Nat) (l : List α) (n : Nat) : AV := match l with
  | [] => .one .nils
  | _ :: _ => .one (.sl b 0 n)
def slK (ks : List ByteArray) (us : List UP) (n m : Nat) : AV × AV := match ks with
  | [] => (.one .nils, slV 0 us m)
  | _ :: _ => (.one (.sl 0 0 n), slV 1 us m)
def slH (ks : List ByteArray) (us : List UP) (A B : List (List IV)) : List Blk := match ks, us with
  | [], [] => []
  | _ :: _, [] => [.vec 1 A true]
  | [], _ :: _ => [.vec 2 B true]
  | _ :: _, _ :: _ => [.vec 1 A true, .vec 2 B true]
theorem keysOf_snoc (ks : List ByteArray) (i : Nat) (x : ByteArray) (h : ks[i]? = some x) : keysOf (ks.take (i + 1)) = keysOf (ks.take i) ++ [lawKey x] := by
  unfold keysOf; rw [List.take_succ, h, List.map_append]; rfl
theorem undersOf_snoc (us : List UP) (i : Nat) (p : UP) (h : us[i]? = some p) : undersOf (us.take (i + 1)) = undersOf (us.take i) ++ [(lawKey p.1, p.2)] := by
  unfold undersOf; rw [List.take_succ, h, List.map_append]; rfl
set_option maxRecDepth 100000 in
set_option maxHeartbeats 8000000 in
theorem c_keysT (ks : List ByteArray) (us : List UP) (hok : askedOk ks us) (K : AV → List Blk → Prop) (hk : ∀ A B, A = sv (keysOf ks) → B = uv (undersOf us) → K (.tup [.i (.lst A), .i (.lst B), .i (.bool true)]) []) :
    SP 14 [.agg [.imm (.lst (sv ks)), .imm (.lst (uv us))]] [] K := by
  obtain ⟨h8, h4, hks, hus⟩ := hok
  have hsl := sv_len ks
  have hsg := sv_get ks
  have hul := uv_len us
  have hug := uv_get us
  generalize sv ks = SK at hsl hsg ⊢
  generalize uv us = SU at hul hug ⊢
  refine mk {cmp := true, frz := [1, 34], keep := [(6, [1, 5, 6, 22, 23, 24]), (13, [5, 6, 38, 39, 40])]} (fn := Tryz.f14) Tryz.func14 (by kernel_rfl) (by kernel_rfl) (Nat.le_of_ble_eq_true (Eq.refl true)) fun S hS => ?_
  conv => whnf
  rw [decide_eq_false (show ¬ ((SK.length : Int) > 8) by omega)]
  conv => whnf
  rw [decide_eq_false (show ¬ ((SU.length : Int) > 4) by omega)]
  conv => whnf
  intro X hX
  have key1 : ∀ (c i : Nat), i + c = ks.length → ∀ (acc : List ByteArray) (j : Int) (n : Nat) (A : List (List IV)), acc = keysOf (ks.take i) → j = (i : Int) → n = acc.length → A = sv acc →
      frK (kfr 60 [(1, .i (.ptr [.lst SK, .lst SU])), (5, (slK acc [] n 0).1), (6, (slK acc [] n 0).2), (22, .i (.lst SK)), (23, .i (.int .i64 (SK.length : Int))), (24, .i (.int .i64 j))] (slH acc [] A [])) X := by
    intro c
    induction c with
    | zero =>
      intro i hi acc j n A hacc hj hn hA
      subst hj
      rw [show i = ks.length by omega, List.take_length] at hacc
      cases acc
      all_goals
        simp only [slK, slV, slH]
        conv => whnf
        apply hX
        conv => whnf
        rw [decide_eq_false (show ¬ ((i : Int) < (SK.length : Int)) by omega)]
        conv => whnf
        intro X2 hX2
        have key2 : ∀ (c i : Nat), i + c = us.length → ∀ (acc2 : List UP) (j : Int) (m : Nat) (B : List (List IV)), acc2 = undersOf (us.take i) → j = (i : Int) → m = acc2.length → B = uv acc2 →
            frK (kfr 60 [(5, (slK (keysOf ks) acc2 n m).1), (6, (slK (keysOf ks) acc2 n m).2), (38, .i (.lst SU)), (39, .i (.int .i64 (SU.length : Int))), (40, .i (.int .i64 j))] (slH (keysOf ks) acc2 A B)) X2 := by
          rw [← hacc]
          intro c
          induction c with
          | zero =>
            intro i hi acc2 j m B hacc2 hj hm hB
            subst hj
            rw [show i = us.length by omega, List.take_length] at hacc2
            cases acc2
            all_goals
              simp only [slK, slV, slH]
              conv => whnf
              apply hX2
              conv => whnf
              rw [decide_eq_false (show ¬ ((i : Int) < (SU.length : Int)) by omega)]
              conv => whnf
              rw [← hacc, ← hacc2] at hk
              refine hk _ _ ?_ ?_
              · first
                  | rfl
                  | (rw [List.drop_zero, hn, hA, ← sv_len, List.take_length])
              · first
                  | rfl
                  | (rw [List.drop_zero, hm, hB, ← uv_len, List.take_length])
          | succ c ih2 =>
            intro i hi acc2 j m B hacc2 hj hm hB
            subst hj
            obtain ⟨p, hp1⟩ : ∃ p, us[i]? = some p := ⟨us[i]'(by omega), List.getElem?_eq_getElem _⟩
            have hp100 := hus p (List.mem_of_getElem? hp1)
            have hBl : B.length = acc2.length := by rw [hB, uv_len]
            have hal : acc2.length ≤ 4 := by rw [hacc2]; simp [undersOf]; omega
            have ej : IntKind.i64.wrap ((i : Int) + 1) = ((i + 1 : Nat) : Int) := by rw [show (i : Int) + 1 = ((i + 1 : Nat) : Int) by omega, i64n _ (by omega)]
            have ih2 := ih2 (i + 1) (by omega) (acc2 ++ [(lawKey p.1, p.2)])
            rw [undersOf_snoc us i p hp1, ← hacc2] at ih2
            cases acc2
            case nil =>
              simp only [slK, slV, slH, List.nil_append, List.cons_append] at ih2 ⊢
              conv => whnf
              apply hX2
              conv => whnf
              rw [decide_eq_true (show (i : Int) < (SU.length : Int) by omega)]
              conv => whnf
              refine ⟨_, by omega, hug i p hp1, rfl, ?_⟩
              conv => whnf
              rw [decide_eq_false (show ¬ ((p.1.size : Int) > 100) by omega)]
              conv => whnf
              refine ⟨.i (.str (lawKey p.1)), hS _ _ _ _ <| c_Key p.1 (by omega) _ (fun r hr => ⟨by rw [hr], rfl⟩), rfl, ?_⟩
              conv => whnf
              refine ⟨one_all rfl, ?_⟩
              conv => whnf
              refine ⟨by show (0 + 1) * 24 ≤ 17592186044416; decide, ?_⟩
              conv => whnf
              exact ih2 _ 1 [[.str (lawKey p.1), .int .i64 p.2]] trivial ej rfl rfl
            case cons h t =>
              simp only [slK, slV, slH, List.nil_append, List.cons_append] at ih2 ⊢
              conv => whnf
              apply hX2
              conv => whnf
              rw [decide_eq_true (show (i : Int) < (SU.length : Int) by omega)]
              conv => whnf
              refine ⟨_, by omega, hug i p hp1, rfl, ?_⟩
              conv => whnf
              rw [decide_eq_false (show ¬ ((p.1.size : Int) > 100) by omega)]
              conv => whnf
              refine ⟨.i (.str (lawKey p.1)), hS _ _ _ _ <| c_Key p.1 (by omega) _ (fun r hr => ⟨by rw [hr], rfl⟩), rfl, ?_⟩
              conv => whnf
              refine ⟨one_all rfl, ?_⟩
              conv => whnf
              refine ⟨by omega, by show (B.length + 1) * 24 ≤ 17592186044416; omega, ?_⟩
              conv => whnf
              exact ih2 _ (m + 1) (B ++ [[.str (lawKey p.1), .int .i64 p.2]]) trivial ej (by simp [hm]) (by rw [hB]; exact uv_app (h :: t) [(lawKey p.1, p.2)])
        have h2 := key2 us.length 0 (by omega) [] 0 0 [] rfl rfl rfl rfl
        rw [← hacc] at h2
        exact h2
    | succ c ih =>
      intro i hi acc j n A hacc hj hn hA
      subst hj
      obtain ⟨x, hx1⟩ : ∃ x, ks[i]? = some x := ⟨ks[i]'(by omega), List.getElem?_eq_getElem _⟩
      have hx100 := hks x (List.mem_of_getElem? hx1)
      have hAl : A.length = acc.length := by rw [hA, sv_len]
      have hal : acc.length ≤ 8 := by rw [hacc]; simp [keysOf]; omega
      have ej : IntKind.i64.wrap ((i : Int) + 1) = ((i + 1 : Nat) : Int) := by rw [show (i : Int) + 1 = ((i + 1 : Nat) : Int) by omega, i64n _ (by omega)]
      have ih := ih (i + 1) (by omega) (acc ++ [lawKey x])
      rw [keysOf_snoc ks i x hx1, ← hacc] at ih
      cases acc
      case nil =>
        simp only [slK, slV, slH, List.nil_append, List.cons_append] at ih ⊢
        conv => whnf
        apply hX
        conv => whnf
        rw [decide_eq_true (show (i : Int) < (SK.length : Int) by omega)]
        conv => whnf
        refine ⟨_, by omega, hsg i x hx1, rfl, ?_⟩
        conv => whnf
        rw [decide_eq_false (show ¬ ((x.size : Int) > 100) by omega)]
        conv => whnf
        refine hS _ _ _ _ <| c_Key x (by omega) _ fun r hr => ?_
        subst hr
        conv => whnf
        refine ⟨one_all rfl, ?_⟩
        conv => whnf
        refine ⟨by show (0 + 1) * 16 ≤ 17592186044416; decide, ?_⟩
        conv => whnf
        exact ih _ 1 [[.str (lawKey x)]] trivial ej rfl rfl
      case cons h t =>
        simp only [slK, slV, slH, List.nil_append, List.cons_append] at ih ⊢
        conv => whnf
        apply hX
        conv => whnf
        rw [decide_eq_true (show (i : Int) < (SK.length : Int) by omega)]
        conv => whnf
        refine ⟨_, by omega, hsg i x hx1, rfl, ?_⟩
        conv => whnf
        rw [decide_eq_false (show ¬ ((x.size : Int) > 100) by omega)]
        conv => whnf
        refine hS _ _ _ _ <| c_Key x (by omega) _ fun r hr => ?_
        subst hr
        conv => whnf
        refine ⟨one_all rfl, ?_⟩
        conv => whnf
        refine ⟨by omega, by show (A.length + 1) * 16 ≤ 17592186044416; omega, ?_⟩
        conv => whnf
        exact ih _ (n + 1) (A ++ [[.str (lawKey x)]]) trivial ej (by simp [hn]) (by rw [hA]; exact sv_app (h :: t) [lawKey x])
  exact key1 ks.length 0 (by omega) [] _ 0 [] rfl rfl rfl rfl
end Go.Proofs.YtmfilaagpobmbaaGreatDoor

namespace Go.Proofs.YtmfilaagpobmbaaGreatDoor
open Go Go.Abs
theorem take_ok {α : Type} (P : α → Prop) (l : List α) (i : Nat) (x : α) (h : l[i]? = some x) (hg : ∀ y ∈ l.take i, P y) (hx : P x) : ∀ y ∈ l.take (i + 1), P y := by
  intro y hy
  rw [List.take_succ, h] at hy
  rcases List.mem_append.1 hy with h1 | h1
  · exact hg y h1
  · simp at h1; rw [h1]; exact hx
set_option maxRecDepth 100000 in
set_option maxHeartbeats 8000000 in
theorem c_keysF (ks : List ByteArray) (us : List UP) (hok : ¬ askedOk ks us) (K : AV → List Blk → Prop) (hk : K (.tup [.i (.lst []), .i (.lst []), .i (.bool false)]) []) :
    SP 14 [.agg [.imm (.lst (sv ks)), .imm (.lst (uv us))]] [] K := by
  have hsl := sv_len ks
  have hsg := sv_get ks
  have hul := uv_len us
  have hug := uv_get us
  generalize sv ks = SK at hsl hsg ⊢
  generalize uv us = SU at hul hug ⊢
  by_cases h8 : ks.length ≤ 8
  case neg =>
    refine mk {cmp := true, frz := [1, 34], keep := [(6, [1, 5, 6, 22, 23, 24]), (13, [5, 6, 38, 39, 40])]} (fn := Tryz.f14) Tryz.func14 (by kernel_rfl) (by kernel_rfl) (Nat.le_of_ble_eq_true (Eq.refl true)) fun S hS => ?_
    conv => whnf
    rw [decide_eq_true (show (SK.length : Int) > 8 by omega)]
    conv => whnf
    exact hk
  by_cases h4 : us.length ≤ 4
  case neg =>
    refine mk {cmp := true, frz := [1, 34], keep := [(6, [1, 5, 6, 22, 23, 24]), (13, [5, 6, 38, 39, 40])]} (fn := Tryz.f14) Tryz.func14 (by kernel_rfl) (by kernel_rfl) (Nat.le_of_ble_eq_true (Eq.refl true)) fun S hS => ?_
    conv => whnf
    rw [decide_eq_false (show ¬ ((SK.length : Int) > 8) by omega)]
    conv => whnf
    rw [decide_eq_true (show (SU.length : Int) > 4 by omega)]
    conv => whnf
    exact hk
  have hno : ¬ ((∀ x ∈ ks, x.size ≤ 100) ∧ ∀ p ∈ us, p.1.size ≤ 100) := fun h => hok ⟨h8, h4, h.1, h.2⟩
  refine mk {cmp := true, frz := [1, 34], keep := [(6, [1, 5, 6, 22, 23, 24]), (13, [5, 6, 38, 39, 40])]} (fn := Tryz.f14) Tryz.func14 (by kernel_rfl) (by kernel_rfl) (Nat.le_of_ble_eq_true (Eq.refl true)) fun S hS => ?_
  conv => whnf
  rw [decide_eq_false (show ¬ ((SK.length : Int) > 8) by omega)]
  conv => whnf
  rw [decide_eq_false (show ¬ ((SU.length : Int) > 4) by omega)]
  conv => whnf
  intro X hX
  have key1 : ∀ (c i : Nat), i + c = ks.length → ∀ (acc : List ByteArray) (j : Int) (n : Nat) (A : List (List IV)), acc = keysOf (ks.take i) → j = (i : Int) → n = acc.length → A = sv acc → (∀ x ∈ ks.take i, x.size ≤ 100) →
      frK (kfr 60 [(1, .i (.ptr [.lst SK, .lst SU])), (5, (slK acc [] n 0).1), (6, (slK acc [] n 0).2), (22, .i (.lst SK)), (23, .i (.int .i64 (SK.length : Int))), (24, .i (.int .i64 j))] (slH acc [] A [])) X := by
    intro c
    induction c with
    | zero =>
      intro i hi acc j n A hacc hj hn hA hgood
      subst hj
      rw [show i = ks.length by omega, List.take_length] at hacc hgood
      cases acc
      all_goals
        simp only [slK, slV, slH]
        conv => whnf
        apply hX
        conv => whnf
        rw [decide_eq_false (show ¬ ((i : Int) < (SK.length : Int)) by omega)]
        conv => whnf
        intro X2 hX2
        have key2 : ∀ (c i : Nat), i + c = us.length → ∀ (acc2 : List UP) (j : Int) (m : Nat) (B : List (List IV)), acc2 = undersOf (us.take i) → j = (i : Int) → m = acc2.length → B = uv acc2 → (∀ p ∈ us.take i, p.1.size ≤ 100) →
            frK (kfr 60 [(5, (slK (keysOf ks) acc2 n m).1), (6, (slK (keysOf ks) acc2 n m).2), (38, .i (.lst SU)), (39, .i (.int .i64 (SU.length : Int))), (40, .i (.int .i64 j))] (slH (keysOf ks) acc2 A B)) X2 := by
          rw [← hacc]
          intro c
          induction c with
          | zero =>
            intro i hi acc2 j m B hacc2 hj hm hB hgood2
            subst hj
            rw [show i = us.length by omega, List.take_length] at hgood2
            exact absurd ⟨hgood, hgood2⟩ hno
          | succ c ih2 =>
            intro i hi acc2 j m B hacc2 hj hm hB hgood2
            subst hj
            obtain ⟨p, hp1⟩ : ∃ p, us[i]? = some p := ⟨us[i]'(by omega), List.getElem?_eq_getElem _⟩
            have hBl : B.length = acc2.length := by rw [hB, uv_len]
            have hal : acc2.length ≤ 4 := by rw [hacc2]; simp [undersOf]; omega
            have ej : IntKind.i64.wrap ((i : Int) + 1) = ((i + 1 : Nat) : Int) := by rw [show (i : Int) + 1 = ((i + 1 : Nat) : Int) by omega, i64n _ (by omega)]
            have ih2 := ih2 (i + 1) (by omega) (acc2 ++ [(lawKey p.1, p.2)])
            rw [undersOf_snoc us i p hp1, ← hacc2] at ih2
            cases acc2
            case nil =>
              simp only [slK, slV, slH, List.nil_append, List.cons_append] at ih2 ⊢
              conv => whnf
              apply hX2
              conv => whnf
              rw [decide_eq_true (show (i : Int) < (SU.length : Int) by omega)]
              conv => whnf
              refine ⟨_, by omega, hug i p hp1, rfl, ?_⟩
              conv => whnf
              by_cases hp100 : p.1.size ≤ 100
              case neg =>
                rw [decide_eq_true (show (p.1.size : Int) > 100 by omega)]
                conv => whnf
                exact hk
              have hg2 := take_ok (fun p : UP => p.1.size ≤ 100) us i p hp1 hgood2 hp100
              rw [decide_eq_false (show ¬ ((p.1.size : Int) > 100) by omega)]
              conv => whnf
              refine ⟨.i (.str (lawKey p.1)), hS _ _ _ _ <| c_Key p.1 (by omega) _ (fun r hr => ⟨by rw [hr], rfl⟩), rfl, ?_⟩
              conv => whnf
              refine ⟨one_all rfl, ?_⟩
              conv => whnf
              refine ⟨by show (0 + 1) * 24 ≤ 17592186044416; decide, ?_⟩
              conv => whnf
              exact ih2 _ 1 [[.str (lawKey p.1), .int .i64 p.2]] trivial ej rfl rfl hg2
            case cons h t =>
              simp only [slK, slV, slH, List.nil_append, List.cons_append] at ih2 ⊢
              conv => whnf
              apply hX2
              conv => whnf
              rw [decide_eq_true (show (i : Int) < (SU.length : Int) by omega)]
              conv => whnf
              refine ⟨_, by omega, hug i p hp1, rfl, ?_⟩
              conv => whnf
              by_cases hp100 : p.1.size ≤ 100
              case neg =>
                rw [decide_eq_true (show (p.1.size : Int) > 100 by omega)]
                conv => whnf
                exact hk
              have hg2 := take_ok (fun p : UP => p.1.size ≤ 100) us i p hp1 hgood2 hp100
              rw [decide_eq_false (show ¬ ((p.1.size : Int) > 100) by omega)]
              conv => whnf
              refine ⟨.i (.str (lawKey p.1)), hS _ _ _ _ <| c_Key p.1 (by omega) _ (fun r hr => ⟨by rw [hr], rfl⟩), rfl, ?_⟩
              conv => whnf
              refine ⟨one_all rfl, ?_⟩
              conv => whnf
              refine ⟨by omega, by show (B.length + 1) * 24 ≤ 17592186044416; omega, ?_⟩
              conv => whnf
              exact ih2 _ (m + 1) (B ++ [[.str (lawKey p.1), .int .i64 p.2]]) trivial ej (by simp [hm]) (by rw [hB]; exact uv_app (h :: t) [(lawKey p.1, p.2)]) hg2
        have h2 := key2 us.length 0 (by omega) [] 0 0 [] rfl rfl rfl rfl (by simp)
        rw [← hacc] at h2
        exact h2
    | succ c ih =>
      intro i hi acc j n A hacc hj hn hA hgood
      subst hj
      obtain ⟨x, hx1⟩ : ∃ x, ks[i]? = some x := ⟨ks[i]'(by omega), List.getElem?_eq_getElem _⟩
      have hAl : A.length = acc.length := by rw [hA, sv_len]
      have hal : acc.length ≤ 8 := by rw [hacc]; simp [keysOf]; omega
      have ej : IntKind.i64.wrap ((i : Int) + 1) = ((i + 1 : Nat) : Int) := by rw [show (i : Int) + 1 = ((i + 1 : Nat) : Int) by omega, i64n _ (by omega)]
      have ih := ih (i + 1) (by omega) (acc ++ [lawKey x])
      rw [keysOf_snoc ks i x hx1, ← hacc] at ih
      cases acc
      case nil =>
        simp only [slK, slV, slH, List.nil_append, List.cons_append] at ih ⊢
        conv => whnf
        apply hX
        conv => whnf
        rw [decide_eq_true (show (i : Int) < (SK.length : Int) by omega)]
        conv => whnf
        refine ⟨_, by omega, hsg i x hx1, rfl, ?_⟩
        conv => whnf
        by_cases hx100 : x.size ≤ 100
        case neg =>
          rw [decide_eq_true (show (x.size : Int) > 100 by omega)]
          conv => whnf
          exact hk
        have hg2 := take_ok (fun x : ByteArray => x.size ≤ 100) ks i x hx1 hgood hx100
        rw [decide_eq_false (show ¬ ((x.size : Int) > 100) by omega)]
        conv => whnf
        refine hS _ _ _ _ <| c_Key x (by omega) _ fun r hr => ?_
        subst hr
        conv => whnf
        refine ⟨one_all rfl, ?_⟩
        conv => whnf
        refine ⟨by show (0 + 1) * 16 ≤ 17592186044416; decide, ?_⟩
        conv => whnf
        exact ih _ 1 [[.str (lawKey x)]] trivial ej rfl rfl hg2
      case cons h t =>
        simp only [slK, slV, slH, List.nil_append, List.cons_append] at ih ⊢
        conv => whnf
        apply hX
        conv => whnf
        rw [decide_eq_true (show (i : Int) < (SK.length : Int) by omega)]
        conv => whnf
        refine ⟨_, by omega, hsg i x hx1, rfl, ?_⟩
        conv => whnf
        by_cases hx100 : x.size ≤ 100
        case neg =>
          rw [decide_eq_true (show (x.size : Int) > 100 by omega)]
          conv => whnf
          exact hk
        have hg2 := take_ok (fun x : ByteArray => x.size ≤ 100) ks i x hx1 hgood hx100
        rw [decide_eq_false (show ¬ ((x.size : Int) > 100) by omega)]
        conv => whnf
        refine hS _ _ _ _ <| c_Key x (by omega) _ fun r hr => ?_
        subst hr
        conv => whnf
        refine ⟨one_all rfl, ?_⟩
        conv => whnf
        refine ⟨by omega, by show (A.length + 1) * 16 ≤ 17592186044416; omega, ?_⟩
        conv => whnf
        exact ih _ (n + 1) (A ++ [[.str (lawKey x)]]) trivial ej (by simp [hn]) (by rw [hA]; exact sv_app (h :: t) [lawKey x]) hg2
  exact key1 ks.length 0 (by omega) [] _ 0 [] rfl rfl rfl rfl (by simp)
end Go.Proofs.YtmfilaagpobmbaaGreatDoor
