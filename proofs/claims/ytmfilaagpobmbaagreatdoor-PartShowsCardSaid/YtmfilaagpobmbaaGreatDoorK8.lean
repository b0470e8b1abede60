/- A part of the proof of a seat of parts: K8, K9. -/
import Derived.Test.YtmfilaagpobmbaaGreatDoorK6
import Derived.Test.YtmfilaagpobmbaaGreatDoorS5
set_option linter.all false
namespace Go.Proofs.YtmfilaagpobmbaaGreatDoor
open Go Go.Abs
/-- prefixes, handed as a slice -/
def UL (w : AV) (l : List UP) : Prop := (w = .one .nils ∧ l = []) ∨ w = .i (.lst (uv l))
theorem e32 (w : ByteArray) (z : Int) (hz : z = 32) : (((w.size : Nat) : Int) == z) = decide (w.size = 32) := by subst hz; by_cases h : w.size = 32 <;> simp [h]; omega
set_option maxRecDepth 100000 in
set_option maxHeartbeats 8000000 in
theorem c_rightL (ks : List ByteArray) (us : List UP) (hk9 : ks.length < 1000000) (hu9 : us.length < 1000000) (K : AV → List Blk → Prop) (hk : ∀ A B, A = sv (ks.filter okK) → B = uv (us.filter okU) → K (.agg [.imm (.lst A), .imm (.lst B)]) []) :
    SP 43 [.i (.lst (sv ks)), .i (.lst (uv us))] [] K := by
  have hsl := sv_len ks
  have hsg := sv_get ks
  have hul := uv_len us
  have hug := uv_get us
  generalize sv ks = SK at hsl hsg ⊢
  generalize uv us = SU at hul hug ⊢
  refine mk {frz := [22, 49], keep := [(3, [1, 4, 5, 10, 11, 12]), (9, [4, 5, 26, 27, 28])]} (fn := Tryz.f43) Tryz.func43 (by kernel_rfl) (by kernel_rfl) (Nat.le_of_ble_eq_true (Eq.refl true)) fun S hS => ?_
  conv => whnf
  intro X hX
  have key1 : ∀ (c i : Nat) (acc : List ByteArray), i + c = ks.length → acc.length ≤ i → ks.filter okK = acc ++ (ks.drop i).filter okK → ∀ (j : Int) (n : Nat) (A : List (List IV)), j = (i : Int) → n = acc.length → A = sv acc →
      frK (kfr 54 [(1, .i (.lst SU)), (4, .one (.ref 0 0)), (5, .one (.ref 1 0)), (10, .i (.lst SK)), (11, .i (.int .i64 (SK.length : Int))), (12, .i (.int .i64 j))] (shB acc [] n 0 A [])) X := by
    intro c
    induction c with
    | zero =>
      intro i acc hi hai hacc j n A hj hn hA
      subst hj
      rw [List.drop_eq_nil_of_le (by omega), List.filter_nil, List.append_nil] at hacc
      cases acc
      all_goals
        simp only [shB]
        conv => whnf
        apply hX
        conv => whnf
        rw [decide_eq_false (show ¬ ((i : Int) < (SK.length : Int)) by omega)]
        conv => whnf
        intro X2 hX2
        have key2 : ∀ (c i : Nat) (acc2 : List UP), i + c = us.length → acc2.length ≤ i → us.filter okU = acc2 ++ (us.drop i).filter okU → ∀ (j : Int) (m : Nat) (B : List (List IV)), j = (i : Int) → m = acc2.length → B = uv acc2 →
            frK (kfr 54 [(4, .one (.ref 0 0)), (5, .one (.ref 1 0)), (26, .i (.lst SU)), (27, .i (.int .i64 (SU.length : Int))), (28, .i (.int .i64 j))] (shB (ks.filter okK) acc2 n m A B)) X2 := by
          rw [hacc]
          intro c
          induction c with
          | zero =>
            intro i acc2 hi hai hacc2 j m B hj hm hB
            subst hj
            rw [List.drop_eq_nil_of_le (by omega), List.filter_nil, List.append_nil] at hacc2
            cases acc2
            all_goals
              simp only [shB]
              conv => whnf
              apply hX2
              conv => whnf
              rw [decide_eq_false (show ¬ ((i : Int) < (SU.length : Int)) by omega)]
              conv => whnf
              rw [hacc, hacc2] at hk
              refine hk _ _ ?_ ?_
              · first
                  | rfl
                  | (rw [List.drop_zero, hn, hA, ← sv_len, List.take_length])
              · first
                  | rfl
                  | (rw [List.drop_zero, hm, hB, ← uv_len, List.take_length])
          | succ c ih2 =>
            intro i acc2 hi hai hacc2 j m B hj hm hB
            subst hj
            obtain ⟨p, hp1⟩ : ∃ p, us[i]? = some p := ⟨us[i]'(by omega), List.getElem?_eq_getElem _⟩
            rw [filt_step okU us i p hp1] at hacc2
            have hBl : B.length = acc2.length := by rw [hB, uv_len]
            have ej : IntKind.i64.wrap ((i : Int) + 1) = ((i + 1 : Nat) : Int) := by rw [show (i : Int) + 1 = ((i + 1 : Nat) : Int) by omega, i64n _ (by omega)]
            by_cases hok : okU p = true
            · rw [if_pos hok, ← List.append_assoc] at hacc2
              have ih2 := fun j m B => ih2 (i + 1) (acc2 ++ [p]) (by omega) (by simp; omega) hacc2 j m B
              simp only [okU, Bool.and_eq_true, decide_eq_true_eq] at hok
              cases acc2 with
              | nil =>
                simp only [shB, List.nil_append, List.cons_append] at ih2 ⊢
                conv => whnf
                apply hX2
                conv => whnf
                rw [decide_eq_true (show (i : Int) < (SU.length : Int) by omega)]
                conv => whnf
                refine ⟨_, by omega, hug i p hp1, rfl, ?_⟩
                conv => whnf
                rw [e32 _ _ rfl, decide_eq_true hok.1]
                conv => whnf
                rw [decide_eq_true (show p.2 ≥ 0 by omega)]
                conv => whnf
                rw [decide_eq_true (show p.2 ≤ 256 by omega)]
                conv => whnf
                refine ⟨one_all rfl, ?_⟩
                conv => whnf
                refine ⟨by show (0 + 1) * 24 ≤ 17592186044416; decide, ?_⟩
                conv => whnf
                exact ih2 _ 1 [[.str p.1, .int .i64 p.2]] ej rfl rfl
              | cons h t =>
                simp only [shB, List.nil_append, List.cons_append] at ih2 ⊢
                conv => whnf
                apply hX2
                conv => whnf
                rw [decide_eq_true (show (i : Int) < (SU.length : Int) by omega)]
                conv => whnf
                refine ⟨_, by omega, hug i p hp1, rfl, ?_⟩
                conv => whnf
                rw [e32 _ _ rfl, decide_eq_true hok.1]
                conv => whnf
                rw [decide_eq_true (show p.2 ≥ 0 by omega)]
                conv => whnf
                rw [decide_eq_true (show p.2 ≤ 256 by omega)]
                conv => whnf
                refine ⟨one_all rfl, ?_⟩
                conv => whnf
                refine ⟨by omega, by show (B.length + 1) * 24 ≤ 17592186044416; omega, ?_⟩
                conv => whnf
                exact ih2 _ (m + 1) (B ++ [[.str p.1, .int .i64 p.2]]) ej (by simp [hm]) (by rw [hB]; exact uv_app (h :: t) [p])
            · rw [if_neg hok, List.nil_append] at hacc2
              have ih2 := fun j m B => ih2 (i + 1) acc2 (by omega) (by omega) hacc2 j m B
              simp only [okU, Bool.and_eq_true, decide_eq_true_eq] at hok
              cases acc2
              all_goals
                simp only [shB] at ih2 ⊢
                conv => whnf
                apply hX2
                conv => whnf
                rw [decide_eq_true (show (i : Int) < (SU.length : Int) by omega)]
                conv => whnf
                refine ⟨_, by omega, hug i p hp1, rfl, ?_⟩
                conv => whnf
                rw [e32 _ _ rfl]
                by_cases g1 : p.1.size = 32
                · rw [decide_eq_true g1]
                  conv => whnf
                  by_cases g2 : 0 ≤ p.2
                  · rw [decide_eq_true (show p.2 ≥ 0 by omega)]
                    conv => whnf
                    rw [decide_eq_false (show ¬ (p.2 ≤ 256) by omega)]
                    conv => whnf
                    exact ih2 _ m B ej hm hB
                  · rw [decide_eq_false (show ¬ (p.2 ≥ 0) by omega)]
                    conv => whnf
                    exact ih2 _ m B ej hm hB
                · rw [decide_eq_false g1]
                  conv => whnf
                  exact ih2 _ m B ej hm hB
        have h2 := key2 us.length 0 [] (by omega) (Nat.le_refl _) rfl 0 0 [] rfl rfl rfl
        rw [hacc] at h2
        exact h2
    | succ c ih =>
      intro i acc hi hai hacc j n A hj hn hA
      subst hj
      obtain ⟨k, hk1⟩ : ∃ k, ks[i]? = some k := ⟨ks[i]'(by omega), List.getElem?_eq_getElem _⟩
      rw [filt_step okK ks i k hk1] at hacc
      have hAl : A.length = acc.length := by rw [hA, sv_len]
      have ej : IntKind.i64.wrap ((i : Int) + 1) = ((i + 1 : Nat) : Int) := by rw [show (i : Int) + 1 = ((i + 1 : Nat) : Int) by omega, i64n _ (by omega)]
      by_cases h32 : k.size = 32
      · rw [if_pos (show okK k = true from decide_eq_true h32), ← List.append_assoc] at hacc
        have ih := fun j n A => ih (i + 1) (acc ++ [k]) (by omega) (by simp; omega) hacc j n A
        cases acc with
        | nil =>
          simp only [shB, List.nil_append, List.cons_append] at ih ⊢
          conv => whnf
          apply hX
          conv => whnf
          rw [decide_eq_true (show (i : Int) < (SK.length : Int) by omega)]
          conv => whnf
          refine ⟨_, by omega, hsg i k hk1, rfl, ?_⟩
          conv => whnf
          rw [e32 _ _ rfl, decide_eq_true h32]
          conv => whnf
          refine ⟨one_all rfl, ?_⟩
          conv => whnf
          refine ⟨by show (0 + 1) * 16 ≤ 17592186044416; decide, ?_⟩
          conv => whnf
          exact ih _ 1 [[.str k]] ej rfl rfl
        | cons h t =>
          simp only [shB, List.nil_append, List.cons_append] at ih ⊢
          conv => whnf
          apply hX
          conv => whnf
          rw [decide_eq_true (show (i : Int) < (SK.length : Int) by omega)]
          conv => whnf
          refine ⟨_, by omega, hsg i k hk1, rfl, ?_⟩
          conv => whnf
          rw [e32 _ _ rfl, decide_eq_true h32]
          conv => whnf
          refine ⟨one_all rfl, ?_⟩
          conv => whnf
          refine ⟨by omega, by show (A.length + 1) * 16 ≤ 17592186044416; omega, ?_⟩
          conv => whnf
          exact ih _ (n + 1) (A ++ [[.str k]]) ej (by simp [hn]) (by rw [hA]; exact sv_app (h :: t) [k])
      · rw [if_neg (show ¬ okK k = true from fun h => h32 (of_decide_eq_true h)), List.nil_append] at hacc
        have ih := fun j n A => ih (i + 1) acc (by omega) (by omega) hacc j n A
        cases acc
        all_goals
          simp only [shB] at ih ⊢
          conv => whnf
          apply hX
          conv => whnf
          rw [decide_eq_true (show (i : Int) < (SK.length : Int) by omega)]
          conv => whnf
          refine ⟨_, by omega, hsg i k hk1, rfl, ?_⟩
          conv => whnf
          rw [e32 _ _ rfl, decide_eq_false h32]
          conv => whnf
          exact ih _ n A ej hn hA
  exact key1 ks.length 0 [] (by omega) (Nat.le_refl _) rfl 0 0 [] rfl rfl rfl
set_option maxRecDepth 100000 in
set_option maxHeartbeats 8000000 in
theorem c_rightN (ks : List ByteArray) (hk9 : ks.length < 1000000) (K : AV → List Blk → Prop) (hk : ∀ A, A = sv (ks.filter okK) → K (.agg [.imm (.lst A), .imm (.lst [])]) []) :
    SP 43 [.i (.lst (sv ks)), .one .nils] [] K := by
  have hsl := sv_len ks
  have hsg := sv_get ks
  generalize sv ks = SK at hsl hsg ⊢
  refine mk {frz := [22, 49], keep := [(3, [1, 4, 5, 10, 11, 12]), (9, [4, 5, 26, 27, 28])]} (fn := Tryz.f43) Tryz.func43 (by kernel_rfl) (by kernel_rfl) (Nat.le_of_ble_eq_true (Eq.refl true)) fun S hS => ?_
  conv => whnf
  intro X hX
  have key1 : ∀ (c i : Nat) (acc : List ByteArray), i + c = ks.length → acc.length ≤ i → ks.filter okK = acc ++ (ks.drop i).filter okK → ∀ (j : Int) (n : Nat) (A : List (List IV)), j = (i : Int) → n = acc.length → A = sv acc →
      frK (kfr 54 [(1, .one .nils), (4, .one (.ref 0 0)), (5, .one (.ref 1 0)), (10, .i (.lst SK)), (11, .i (.int .i64 (SK.length : Int))), (12, .i (.int .i64 j))] (shB acc [] n 0 A [])) X := by
    intro c
    induction c with
    | zero =>
      intro i acc hi hai hacc j n A hj hn hA
      subst hj
      rw [List.drop_eq_nil_of_le (by omega), List.filter_nil, List.append_nil] at hacc
      cases acc
      all_goals
        simp only [shB]
        conv => whnf
        apply hX
        conv => whnf
        rw [decide_eq_false (show ¬ ((i : Int) < (SK.length : Int)) by omega)]
        conv => whnf
        intro X2 hX2
        apply hX2
        conv => whnf
        rw [hacc] at hk
        refine hk _ ?_
        first
          | rfl
          | (rw [List.drop_zero, hn, hA, ← sv_len, List.take_length])
    | succ c ih =>
      intro i acc hi hai hacc j n A hj hn hA
      subst hj
      obtain ⟨k, hk1⟩ : ∃ k, ks[i]? = some k := ⟨ks[i]'(by omega), List.getElem?_eq_getElem _⟩
      rw [filt_step okK ks i k hk1] at hacc
      have hAl : A.length = acc.length := by rw [hA, sv_len]
      have ej : IntKind.i64.wrap ((i : Int) + 1) = ((i + 1 : Nat) : Int) := by rw [show (i : Int) + 1 = ((i + 1 : Nat) : Int) by omega, i64n _ (by omega)]
      by_cases h32 : k.size = 32
      · rw [if_pos (show okK k = true from decide_eq_true h32), ← List.append_assoc] at hacc
        have ih := fun j n A => ih (i + 1) (acc ++ [k]) (by omega) (by simp; omega) hacc j n A
        cases acc with
        | nil =>
          simp only [shB, List.nil_append, List.cons_append] at ih ⊢
          conv => whnf
          apply hX
          conv => whnf
          rw [decide_eq_true (show (i : Int) < (SK.length : Int) by omega)]
          conv => whnf
          refine ⟨_, by omega, hsg i k hk1, rfl, ?_⟩
          conv => whnf
          rw [e32 _ _ rfl, decide_eq_true h32]
          conv => whnf
          refine ⟨one_all rfl, ?_⟩
          conv => whnf
          refine ⟨by show (0 + 1) * 16 ≤ 17592186044416; decide, ?_⟩
          conv => whnf
          exact ih _ 1 [[.str k]] ej rfl rfl
        | cons h t =>
          simp only [shB, List.nil_append, List.cons_append] at ih ⊢
          conv => whnf
          apply hX
          conv => whnf
          rw [decide_eq_true (show (i : Int) < (SK.length : Int) by omega)]
          conv => whnf
          refine ⟨_, by omega, hsg i k hk1, rfl, ?_⟩
          conv => whnf
          rw [e32 _ _ rfl, decide_eq_true h32]
          conv => whnf
          refine ⟨one_all rfl, ?_⟩
          conv => whnf
          refine ⟨by omega, by show (A.length + 1) * 16 ≤ 17592186044416; omega, ?_⟩
          conv => whnf
          exact ih _ (n + 1) (A ++ [[.str k]]) ej (by simp [hn]) (by rw [hA]; exact sv_app (h :: t) [k])
      · rw [if_neg (show ¬ okK k = true from fun h => h32 (of_decide_eq_true h)), List.nil_append] at hacc
        have ih := fun j n A => ih (i + 1) acc (by omega) (by omega) hacc j n A
        cases acc
        all_goals
          simp only [shB] at ih ⊢
          conv => whnf
          apply hX
          conv => whnf
          rw [decide_eq_true (show (i : Int) < (SK.length : Int) by omega)]
          conv => whnf
          refine ⟨_, by omega, hsg i k hk1, rfl, ?_⟩
          conv => whnf
          rw [e32 _ _ rfl, decide_eq_false h32]
          conv => whnf
          exact ih _ n A ej hn hA
  exact key1 ks.length 0 [] (by omega) (Nat.le_refl _) rfl 0 0 [] rfl rfl rfl
end Go.Proofs.YtmfilaagpobmbaaGreatDoor

namespace Go.Proofs.YtmfilaagpobmbaaGreatDoor
open Go Go.Abs
theorem leadK_true {a : Nat} {k x : ByteArray} {s : Bool} (h : leadK a k s x = true) : a ≤ common x k ∧ (bit x a == s) = true := by
  simpa [leadK] using h
set_option maxRecDepth 100000 in
set_option maxHeartbeats 8000000 in
theorem c_below (ks : List ByteArray) (us : List UP) (hk9 : ks.length < 1000000) (hu9 : us.length < 1000000) (hks : ∀ x ∈ ks, x.size = 32) (hus : ∀ p ∈ us, okU p = true) (a : Nat) (ha : a < 256) (k : ByteArray) (hk32 : k.size = 32) (b1 b2 : Bool) (v : ByteArray) (z o h : IV) (s : Bool) (K : AV → List Blk → Prop) (hk : ∀ A B, A = sv (ks.filter (leadK a k s)) → B = uv (us.filter (leadU a k s)) → K (.agg [.imm (.lst A), .imm (.lst B)]) []) :
    SP 77 [.agg [.imm (.lst (sv ks)), .imm (.lst (uv us))], .i (.ptr [.bool b1, .bool b2, .str k, .str v, .int .i64 (a : Int), z, o, h]), .i (.int .u8 ((s.toNat : Nat) : Int))] [] K := by
  have hsl := sv_len ks
  have hsg := sv_get ks
  have hul := uv_len us
  have hug := uv_get us
  generalize sv ks = SK at hsl hsg ⊢
  generalize uv us = SU at hul hug ⊢
  refine mk {frz := [3, 44, 94], keep := [(3, [1, 2, 3, 6, 7, 14, 15, 16]), (9, [1, 2, 6, 7, 49, 50, 51])]} (fn := Tryz.f77) Tryz.func77 (by kernel_rfl) (by kernel_rfl) (Nat.le_of_ble_eq_true (Eq.refl true)) fun S hS => ?_
  conv => whnf
  intro X hX
  have key1 : ∀ (c i : Nat) (acc : List ByteArray), i + c = ks.length → acc.length ≤ i → ks.filter (leadK a k s) = acc ++ (ks.drop i).filter (leadK a k s) → ∀ (j : Int) (n : Nat) (A : List (List IV)), j = (i : Int) → n = acc.length → A = sv acc →
      frK (kfr 99 [(1, .i (.ptr [.bool b1, .bool b2, .str k, .str v, .int .i64 (a : Int), z, o, h])), (2, .i (.int .u8 ((s.toNat : Nat) : Int))), (3, .i (.ptr [.lst SK, .lst SU])), (6, .one (.ref 0 0)), (7, .one (.ref 1 0)), (14, .i (.lst SK)), (15, .i (.int .i64 (SK.length : Int))), (16, .i (.int .i64 j))] (shB acc [] n 0 A [])) X := by
    intro c
    induction c with
    | zero =>
      intro i acc hi hai hacc j n A hj hn hA
      subst hj
      rw [List.drop_eq_nil_of_le (by omega), List.filter_nil, List.append_nil] at hacc
      cases acc
      all_goals
        simp only [shB]
        conv => whnf
        apply hX
        conv => whnf
        rw [decide_eq_false (show ¬ ((i : Int) < (SK.length : Int)) by omega)]
        conv => whnf
        intro X2 hX2
        have key2 : ∀ (c i : Nat) (acc2 : List UP), i + c = us.length → acc2.length ≤ i → us.filter (leadU a k s) = acc2 ++ (us.drop i).filter (leadU a k s) → ∀ (j : Int) (m : Nat) (B : List (List IV)), j = (i : Int) → m = acc2.length → B = uv acc2 →
            frK (kfr 99 [(1, .i (.ptr [.bool b1, .bool b2, .str k, .str v, .int .i64 (a : Int), z, o, h])), (2, .i (.int .u8 ((s.toNat : Nat) : Int))), (6, .one (.ref 0 0)), (7, .one (.ref 1 0)), (49, .i (.lst SU)), (50, .i (.int .i64 (SU.length : Int))), (51, .i (.int .i64 j))] (shB (ks.filter (leadK a k s)) acc2 n m A B)) X2 := by
          rw [hacc]
          intro c
          induction c with
          | zero =>
            intro i acc2 hi hai hacc2 j m B hj hm hB
            subst hj
            rw [List.drop_eq_nil_of_le (by omega), List.filter_nil, List.append_nil] at hacc2
            cases acc2
            all_goals
              simp only [shB]
              conv => whnf
              apply hX2
              conv => whnf
              rw [decide_eq_false (show ¬ ((i : Int) < (SU.length : Int)) by omega)]
              conv => whnf
              rw [hacc, hacc2] at hk
              refine hk _ _ ?_ ?_
              · first
                  | rfl
                  | (rw [List.drop_zero, hn, hA, ← sv_len, List.take_length])
              · first
                  | rfl
                  | (rw [List.drop_zero, hm, hB, ← uv_len, List.take_length])
          | succ c ih2 =>
            intro i acc2 hi hai hacc2 j m B hj hm hB
            subst hj
            obtain ⟨p, hp1⟩ : ∃ p, us[i]? = some p := ⟨us[i]'(by omega), List.getElem?_eq_getElem _⟩
            have hpok := hus p (List.mem_of_getElem? hp1)
            simp only [okU, Bool.and_eq_true, decide_eq_true_eq] at hpok
            obtain ⟨hp32, hp0, hp256⟩ := hpok
            rw [filt_step (leadU a k s) us i p hp1] at hacc2
            have hBl : B.length = acc2.length := by rw [hB, uv_len]
            have ej : IntKind.i64.wrap ((i : Int) + 1) = ((i + 1 : Nat) : Int) := by rw [show (i : Int) + 1 = ((i + 1 : Nat) : Int) by omega, i64n _ (by omega)]
            have hmin : (if p.2 < (a : Int) then p.2 else (a : Int)) = min (a : Int) p.2 := by split <;> omega
            have ih2t := fun hq => ih2 (i + 1) (acc2 ++ [p]) (by omega) (by simp; omega) hq
            have ih2f := fun hq => ih2 (i + 1) acc2 (by omega) (by omega) hq
            cases acc2
            case nil =>
              simp only [shB, List.nil_append, List.cons_append] at ih2t ih2f hacc2 ⊢
              conv => whnf
              apply hX2
              conv => whnf
              rw [decide_eq_true (show (i : Int) < (SU.length : Int) by omega)]
              conv => whnf
              refine ⟨_, by omega, hug i p hp1, rfl, ?_⟩
              conv => whnf
              rw [hmin]
              refine ⟨.i (.int .i64 (common p.1 k : Int)), hS _ _ _ _ <| c_CommonE p.1 k hp32 hk32 _ (fun r hr => ⟨by rw [hr], rfl⟩), rfl, ?_⟩
              conv => whnf
              by_cases g1 : min (a : Int) p.2 ≤ (common p.1 k : Int)
              · rw [decide_eq_true (show (common p.1 k : Int) ≥ min (a : Int) p.2 by omega)]
                conv => whnf
                by_cases g2 : p.2 ≤ (a : Int)
                · rw [decide_eq_true (show p.2 ≤ (a : Int) by omega)]
                  conv => whnf
                  rw [if_pos (show leadU a k s p = true by simp [leadU, g1, g2])] at hacc2
                  refine ⟨one_all rfl, ?_⟩
                  conv => whnf
                  refine ⟨by show (0 + 1) * 24 ≤ 17592186044416; decide, ?_⟩
                  conv => whnf
                  exact ih2t hacc2 _ 1 [[.str p.1, .int .i64 p.2]] ej rfl rfl
                · rw [decide_eq_false (show ¬ (p.2 ≤ (a : Int)) by omega)]
                  conv => whnf
                  refine ⟨.i (.int .u8 (((bit p.1 a).toNat : Nat) : Int)), hS _ _ _ _ <| c_Bit p.1 a hp32 ha _ ⟨rfl, rfl⟩, rfl, ?_⟩
                  conv => whnf
                  rw [bit_eq]
                  cases g3 : (bit p.1 a == s)
                  · conv => whnf
                    rw [if_neg (show ¬ leadU a k s p = true by simp [leadU, g2, g3])] at hacc2
                    exact ih2f hacc2 _ m B ej hm hB
                  · conv => whnf
                    rw [if_pos (show leadU a k s p = true by simp [leadU, g1, g3])] at hacc2
                    refine ⟨one_all rfl, ?_⟩
                    conv => whnf
                    refine ⟨by show (0 + 1) * 24 ≤ 17592186044416; decide, ?_⟩
                    conv => whnf
                    exact ih2t hacc2 _ 1 [[.str p.1, .int .i64 p.2]] ej rfl rfl
              · rw [decide_eq_false (show ¬ ((common p.1 k : Int) ≥ min (a : Int) p.2) by omega)]
                conv => whnf
                rw [if_neg (show ¬ leadU a k s p = true by simp [leadU, g1])] at hacc2
                exact ih2f hacc2 _ m B ej hm hB
            case cons h t =>
              simp only [shB, List.nil_append, List.cons_append] at ih2t ih2f hacc2 ⊢
              conv => whnf
              apply hX2
              conv => whnf
              rw [decide_eq_true (show (i : Int) < (SU.length : Int) by omega)]
              conv => whnf
              refine ⟨_, by omega, hug i p hp1, rfl, ?_⟩
              conv => whnf
              rw [hmin]
              refine ⟨.i (.int .i64 (common p.1 k : Int)), hS _ _ _ _ <| c_CommonE p.1 k hp32 hk32 _ (fun r hr => ⟨by rw [hr], rfl⟩), rfl, ?_⟩
              conv => whnf
              by_cases g1 : min (a : Int) p.2 ≤ (common p.1 k : Int)
              · rw [decide_eq_true (show (common p.1 k : Int) ≥ min (a : Int) p.2 by omega)]
                conv => whnf
                by_cases g2 : p.2 ≤ (a : Int)
                · rw [decide_eq_true (show p.2 ≤ (a : Int) by omega)]
                  conv => whnf
                  rw [if_pos (show leadU a k s p = true by simp [leadU, g1, g2])] at hacc2
                  refine ⟨one_all rfl, ?_⟩
                  conv => whnf
                  refine ⟨by omega, by show (B.length + 1) * 24 ≤ 17592186044416; omega, ?_⟩
                  conv => whnf
                  exact ih2t (by simpa using hacc2) _ (m + 1) (B ++ [[.str p.1, .int .i64 p.2]]) ej (by simp [hm]) (by rw [hB]; exact uv_app (h :: t) [p])
                · rw [decide_eq_false (show ¬ (p.2 ≤ (a : Int)) by omega)]
                  conv => whnf
                  refine ⟨.i (.int .u8 (((bit p.1 a).toNat : Nat) : Int)), hS _ _ _ _ <| c_Bit p.1 a hp32 ha _ ⟨rfl, rfl⟩, rfl, ?_⟩
                  conv => whnf
                  rw [bit_eq]
                  cases g3 : (bit p.1 a == s)
                  · conv => whnf
                    rw [if_neg (show ¬ leadU a k s p = true by simp [leadU, g2, g3])] at hacc2
                    exact ih2f hacc2 _ m B ej hm hB
                  · conv => whnf
                    rw [if_pos (show leadU a k s p = true by simp [leadU, g1, g3])] at hacc2
                    refine ⟨one_all rfl, ?_⟩
                    conv => whnf
                    refine ⟨by omega, by show (B.length + 1) * 24 ≤ 17592186044416; omega, ?_⟩
                    conv => whnf
                    exact ih2t (by simpa using hacc2) _ (m + 1) (B ++ [[.str p.1, .int .i64 p.2]]) ej (by simp [hm]) (by rw [hB]; exact uv_app (h :: t) [p])
              · rw [decide_eq_false (show ¬ ((common p.1 k : Int) ≥ min (a : Int) p.2) by omega)]
                conv => whnf
                rw [if_neg (show ¬ leadU a k s p = true by simp [leadU, g1])] at hacc2
                exact ih2f hacc2 _ m B ej hm hB
        have h2 := key2 us.length 0 [] (by omega) (Nat.le_refl _) rfl 0 0 [] rfl rfl rfl
        rw [hacc] at h2
        exact h2
    | succ c ih =>
      intro i acc hi hai hacc j n A hj hn hA
      subst hj
      obtain ⟨x, hx1⟩ : ∃ x, ks[i]? = some x := ⟨ks[i]'(by omega), List.getElem?_eq_getElem _⟩
      have hx32 := hks x (List.mem_of_getElem? hx1)
      rw [filt_step (leadK a k s) ks i x hx1] at hacc
      have hAl : A.length = acc.length := by rw [hA, sv_len]
      have ej : IntKind.i64.wrap ((i : Int) + 1) = ((i + 1 : Nat) : Int) := by rw [show (i : Int) + 1 = ((i + 1 : Nat) : Int) by omega, i64n _ (by omega)]
      have iht := fun hq => ih (i + 1) (acc ++ [x]) (by omega) (by simp; omega) hq
      have ihf := fun hq => ih (i + 1) acc (by omega) (by omega) hq
      by_cases hl : leadK a k s x = true
      · rw [if_pos hl] at hacc
        obtain ⟨g1, g2⟩ := leadK_true hl
        cases acc
        case nil =>
          simp only [shB, List.nil_append, List.cons_append] at iht ihf hacc ⊢
          conv => whnf
          apply hX
          conv => whnf
          rw [decide_eq_true (show (i : Int) < (SK.length : Int) by omega)]
          conv => whnf
          refine ⟨_, by omega, hsg i x hx1, rfl, ?_⟩
          conv => whnf
          refine ⟨.i (.int .i64 (common x k : Int)), hS _ _ _ _ <| c_CommonE x k hx32 hk32 _ (fun r hr => ⟨by rw [hr], rfl⟩), rfl, ?_⟩
          conv => whnf
          rw [decide_eq_true (show (common x k : Int) ≥ (a : Int) by omega)]
          conv => whnf
          refine ⟨.i (.int .u8 (((bit x a).toNat : Nat) : Int)), hS _ _ _ _ <| c_Bit x a hx32 ha _ ⟨rfl, rfl⟩, rfl, ?_⟩
          conv => whnf
          rw [bit_eq, g2]
          conv => whnf
          refine ⟨one_all rfl, ?_⟩
          conv => whnf
          refine ⟨by show (0 + 1) * 16 ≤ 17592186044416; decide, ?_⟩
          conv => whnf
          exact iht hacc _ 1 [[.str x]] ej rfl rfl
        case cons h t =>
          simp only [shB, List.nil_append, List.cons_append] at iht ihf hacc ⊢
          conv => whnf
          apply hX
          conv => whnf
          rw [decide_eq_true (show (i : Int) < (SK.length : Int) by omega)]
          conv => whnf
          refine ⟨_, by omega, hsg i x hx1, rfl, ?_⟩
          conv => whnf
          refine ⟨.i (.int .i64 (common x k : Int)), hS _ _ _ _ <| c_CommonE x k hx32 hk32 _ (fun r hr => ⟨by rw [hr], rfl⟩), rfl, ?_⟩
          conv => whnf
          rw [decide_eq_true (show (common x k : Int) ≥ (a : Int) by omega)]
          conv => whnf
          refine ⟨.i (.int .u8 (((bit x a).toNat : Nat) : Int)), hS _ _ _ _ <| c_Bit x a hx32 ha _ ⟨rfl, rfl⟩, rfl, ?_⟩
          conv => whnf
          rw [bit_eq, g2]
          conv => whnf
          refine ⟨one_all rfl, ?_⟩
          conv => whnf
          refine ⟨by omega, by show (A.length + 1) * 16 ≤ 17592186044416; omega, ?_⟩
          conv => whnf
          exact iht (by simpa using hacc) _ (n + 1) (A ++ [[.str x]]) ej (by simp [hn]) (by rw [hA]; exact sv_app (h :: t) [x])
      · rw [if_neg hl, List.nil_append] at hacc
        have ihf := ihf hacc
        simp only [leadK, Bool.and_eq_true, decide_eq_true_eq, not_and] at hl
        cases acc
        all_goals
          simp only [shB] at ihf ⊢
          conv => whnf
          apply hX
          conv => whnf
          rw [decide_eq_true (show (i : Int) < (SK.length : Int) by omega)]
          conv => whnf
          refine ⟨_, by omega, hsg i x hx1, rfl, ?_⟩
          conv => whnf
          refine ⟨.i (.int .i64 (common x k : Int)), hS _ _ _ _ <| c_CommonE x k hx32 hk32 _ (fun r hr => ⟨by rw [hr], rfl⟩), rfl, ?_⟩
          conv => whnf
          by_cases g1 : a ≤ common x k
          · rw [decide_eq_true (show (common x k : Int) ≥ (a : Int) by omega)]
            conv => whnf
            refine ⟨.i (.int .u8 (((bit x a).toNat : Nat) : Int)), hS _ _ _ _ <| c_Bit x a hx32 ha _ ⟨rfl, rfl⟩, rfl, ?_⟩
            conv => whnf
            rw [bit_eq, Bool.eq_false_iff.2 (hl g1)]
            conv => whnf
            exact ihf _ n A ej hn hA
          · rw [decide_eq_false (show ¬ ((common x k : Int) ≥ (a : Int)) by omega)]
            conv => whnf
            exact ihf _ n A ej hn hA
  exact key1 ks.length 0 [] (by omega) (Nat.le_refl _) rfl 0 0 [] rfl rfl rfl
theorem c_none (ks : List ByteArray) (us : List UP) (hk9 : ks.length < 1000000) (hu9 : us.length < 1000000) (K : AV → List Blk → Prop) (hk : K (.i (.bool (ks.isEmpty && us.isEmpty))) []) : SP 78 [.agg [.imm (.lst (sv ks)), .imm (.lst (uv us))]] [] K := by
  have hsl := sv_len ks
  have hul := uv_len us
  have e : ∀ z : Int, z = 0 → ((((sv ks).length + (uv us).length : Nat) : Int) == z) = (ks.isEmpty && us.isEmpty) := by
    intro z hz
    subst hz
    rw [hsl, hul]
    cases ks <;> cases us <;> simp <;> omega
  generalize sv ks = SK at *
  generalize uv us = SU at *
  refine mk {frz := [1]} (fn := Tryz.f78) Tryz.func78 (by kernel_rfl) (by kernel_rfl) (Nat.le_of_ble_eq_true (Eq.refl true)) fun S hS => ?_
  conv => whnf
  rw [← Int.natCast_add, i64n _ (by omega), e _ rfl]
  exact hk
end Go.Proofs.YtmfilaagpobmbaaGreatDoor
