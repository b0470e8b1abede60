/- A part of the proof of a seat of parts: E2. -/
import Derived.Test.YtmfilaagpobmbaaGreatDoorE1
set_option linter.all false
namespace Go.Proofs.YtmfilaagpobmbaaGreatDoor
open Go Go.Abs
theorem rput_at {key val : ByteArray} {p : Pr} {l : List Pr} {d c : Bool} (h : (!d && ble key p.1) = c) {e : Bool} (he : decide (key = p.1) = e) :
    rput key val (p :: l) d = (if c then [(key, val)] else []) ++ (if e then [] else [p]) ++ rput key val l (d || c) := by
  subst h he
  simp only [rput, decide_eq_true_eq]
  cases d <;> simp
set_option maxRecDepth 100000 in
set_option maxHeartbeats 1000000 in
theorem c_rPut (w : AV) (l : List Pr) (hw : WL w l) (hl : l.length < 100000000) (key val : ByteArray) (hkey : key.size = 32) (K) (hk : K (.i (.lst (pl (rput key val l false)))) []) : SP 40 [w, .i (.str key), .i (.str val)] [] K := by
  have hks : ((key.size : Int) != 32) = false := by rw [hkey]; rfl
  rcases hw with ⟨rfl, rfl⟩ | rfl
  · refine mk {keep := [(6, [0,1,2,7,8,9])]} (fn := Tryz.f40) Tryz.func40 (by kernel_rfl) (by kernel_rfl) (Nat.le_of_ble_eq_true (Eq.refl true)) fun S hS => ?_
    conv => whnf
    rw [hks]
    conv => whnf
    intro X hX
    apply hX
    conv => whnf
    refine ⟨Nat.le_of_ble_eq_true rfl, ?_⟩
    conv => whnf
    exact hk
  · have hpl := pl_len l
    have hpg := pl_get l
    generalize pl l = L at hpl hpg ⊢
    refine mk {keep := [(6, [0,1,2,7,8,9])]} (fn := Tryz.f40) Tryz.func40 (by kernel_rfl) (by kernel_rfl) (Nat.le_of_ble_eq_true (Eq.refl true)) fun S hS => ?_
    conv => whnf
    rw [hks]
    conv => whnf
    intro X hX
    have fin : ∀ m L, m = rput key val l false → L = pl m → K (.i (.lst L)) [] := fun m L h h' => h' ▸ h ▸ hk
    have go : ∀ (n i : Nat), i + n = l.length → ∀ (m : List Pr) (o : AV) (H : List Blk) (d : Bool), Out o H m → m.length ≤ 2 * i → m ++ rput key val (l.drop i) d = rput key val l false → frK (kfr 60 [(0, .i (.lst L)), (1, .i (.str key)), (2, .i (.str val)), (7, o), (8, .i (.bool d)), (9, .i (.int .i64 (i : Int)))] H) X := by
      intro n
      induction n with
      | zero =>
        intro i hi m o H d ho hm he
        rw [List.drop_eq_nil_of_le (by omega)] at he
        have hpm := pl_len m
        rcases ho with ⟨rfl, rfl, hm0⟩ | ⟨rfl, rfl⟩
        all_goals
          conv => whnf
          apply hX
          conv => whnf
          rw [decide_eq_false (show ¬ ((i : Int) < (L.length : Int)) by omega)]
          conv => whnf
          cases d
          · conv => whnf
            first
            | refine ⟨Nat.le_of_ble_eq_true rfl, ?_⟩
            | refine ⟨Nat.zero_add _, by show ((pl m).length + 1) * 32 ≤ 17592186044416; omega, ?_⟩
            conv => whnf
            refine fin (m ++ [(key, val)]) _ (by simpa [rput] using he) ?_
            first
            | (subst hm0; rfl)
            | (rw [List.drop_zero]; exact (List.take_of_length_le (by show (pl m ++ [[IV.str key, IV.str val]]).length ≤ (pl m).length + 1; simp)).trans (pl_app m [(key, val)]))
          · conv => whnf
            refine fin m _ (by simpa [rput] using he) ?_
            first
            | (subst hm0; rfl)
            | (rw [List.drop_zero]; exact List.take_of_length_le (Nat.le_refl _))
      | succ n ih =>
        intro i hi m o H d ho hm he
        have hi' : i < l.length := by omega
        have hg := hpg i l[i] (List.getElem?_eq_getElem hi')
        have hpm := pl_len m
        rw [List.drop_eq_getElem_cons hi'] at he
        have ho' := ho
        cases d
        · cases hc : (!false && ble key l[i].1)
          · cases hq : decide (key = l[i].1)
            · rw [rput_at hc hq] at he
              rcases ho with ⟨rfl, rfl, hm0⟩ | ⟨rfl, rfl⟩
              · conv => whnf
                apply hX
                conv => whnf
                rw [decide_eq_true (show (i : Int) < (L.length : Int) by omega)]
                conv => whnf
                refine ⟨_, by omega, hg, rfl, ?_⟩
                conv => whnf
                rw [show (Op.bytesLess key.toList l[i].fst.toList || key.toList == l[i].fst.toList) = false from hc]
                conv => whnf
                refine ⟨_, by omega, hg, rfl, ?_⟩
                conv => whnf
                rw [beq_ba, hq]
                conv => whnf
                refine ⟨_, by omega, hg, rfl, ?_⟩
                conv => whnf
                refine ⟨Nat.le_of_ble_eq_true rfl, ?_⟩
                conv => whnf
                rw [show (i : Int) + 1 = ((i + 1 : Nat) : Int) by omega, i64n _ (by omega)]
                refine ih (i + 1) (by omega) (m ++ [l[i]]) _ _ _ (Out.sl ?_ ?_) (by simp only [List.length_append, List.length_cons, List.length_nil]; omega) (by simpa using he)
                · subst hm0; rfl
                · subst hm0; rfl
              · conv => whnf
                apply hX
                conv => whnf
                rw [decide_eq_true (show (i : Int) < (L.length : Int) by omega)]
                conv => whnf
                refine ⟨_, by omega, hg, rfl, ?_⟩
                conv => whnf
                rw [show (Op.bytesLess key.toList l[i].fst.toList || key.toList == l[i].fst.toList) = false from hc]
                conv => whnf
                refine ⟨_, by omega, hg, rfl, ?_⟩
                conv => whnf
                rw [beq_ba, hq]
                conv => whnf
                refine ⟨_, by omega, hg, rfl, ?_⟩
                conv => whnf
                refine ⟨by show 0 + _ = _; first | rfl | exact Nat.zero_add _ | simp, by show ((pl m).length + 1) * 32 ≤ 17592186044416; (try simp only [List.length_append, List.length_cons, List.length_nil]); omega, ?_⟩
                conv => whnf
                rw [show (i : Int) + 1 = ((i + 1 : Nat) : Int) by omega, i64n _ (by omega)]
                refine ih (i + 1) (by omega) (m ++ [l[i]]) _ _ _ (Out.sl ?_ ?_) (by simp only [List.length_append, List.length_cons, List.length_nil]; omega) (by simpa using he)
                · show pl m ++ [[IV.str l[i].fst, IV.str l[i].snd]] = pl (m ++ [l[i]]); simp [pl]
                · show (pl m).length + 1 = _; simp [pl]
            · rw [rput_at hc hq] at he
              rcases ho with ⟨rfl, rfl, hm0⟩ | ⟨rfl, rfl⟩
              · conv => whnf
                apply hX
                conv => whnf
                rw [decide_eq_true (show (i : Int) < (L.length : Int) by omega)]
                conv => whnf
                refine ⟨_, by omega, hg, rfl, ?_⟩
                conv => whnf
                rw [show (Op.bytesLess key.toList l[i].fst.toList || key.toList == l[i].fst.toList) = false from hc]
                conv => whnf
                refine ⟨_, by omega, hg, rfl, ?_⟩
                conv => whnf
                rw [beq_ba, hq]
                conv => whnf
                rw [show (i : Int) + 1 = ((i + 1 : Nat) : Int) by omega, i64n _ (by omega)]
                exact ih (i + 1) (by omega) m _ _ _ ho' (by omega) (by simpa using he)
              · conv => whnf
                apply hX
                conv => whnf
                rw [decide_eq_true (show (i : Int) < (L.length : Int) by omega)]
                conv => whnf
                refine ⟨_, by omega, hg, rfl, ?_⟩
                conv => whnf
                rw [show (Op.bytesLess key.toList l[i].fst.toList || key.toList == l[i].fst.toList) = false from hc]
                conv => whnf
                refine ⟨_, by omega, hg, rfl, ?_⟩
                conv => whnf
                rw [beq_ba, hq]
                conv => whnf
                rw [show (i : Int) + 1 = ((i + 1 : Nat) : Int) by omega, i64n _ (by omega)]
                exact ih (i + 1) (by omega) m _ _ _ ho' (by omega) (by simpa using he)
          · cases hq : decide (key = l[i].1)
            · rw [rput_at hc hq] at he
              rcases ho with ⟨rfl, rfl, hm0⟩ | ⟨rfl, rfl⟩
              · conv => whnf
                apply hX
                conv => whnf
                rw [decide_eq_true (show (i : Int) < (L.length : Int) by omega)]
                conv => whnf
                refine ⟨_, by omega, hg, rfl, ?_⟩
                conv => whnf
                rw [show (Op.bytesLess key.toList l[i].fst.toList || key.toList == l[i].fst.toList) = true from hc]
                conv => whnf
                refine ⟨Nat.le_of_ble_eq_true rfl, ?_⟩
                conv => whnf
                refine ⟨_, by omega, hg, rfl, ?_⟩
                conv => whnf
                rw [beq_ba, hq]
                conv => whnf
                refine ⟨_, by omega, hg, rfl, ?_⟩
                conv => whnf
                refine ⟨by show 0 + _ = _; first | rfl | exact Nat.zero_add _ | simp, by show (([[IV.str key, IV.str val]]).length + 1) * 32 ≤ 17592186044416; (try simp only [List.length_append, List.length_cons, List.length_nil]); omega, ?_⟩
                conv => whnf
                rw [show (i : Int) + 1 = ((i + 1 : Nat) : Int) by omega, i64n _ (by omega)]
                refine ih (i + 1) (by omega) (m ++ [(key, val)] ++ [l[i]]) _ _ _ (Out.sl ?_ ?_) (by simp only [List.length_append, List.length_cons, List.length_nil]; omega) (by simpa using he)
                · subst hm0; rfl
                · subst hm0; rfl
              · conv => whnf
                apply hX
                conv => whnf
                rw [decide_eq_true (show (i : Int) < (L.length : Int) by omega)]
                conv => whnf
                refine ⟨_, by omega, hg, rfl, ?_⟩
                conv => whnf
                rw [show (Op.bytesLess key.toList l[i].fst.toList || key.toList == l[i].fst.toList) = true from hc]
                conv => whnf
                refine ⟨by show 0 + _ = _; first | rfl | exact Nat.zero_add _ | simp, by show ((pl m).length + 1) * 32 ≤ 17592186044416; (try simp only [List.length_append, List.length_cons, List.length_nil]); omega, ?_⟩
                conv => whnf
                refine ⟨_, by omega, hg, rfl, ?_⟩
                conv => whnf
                rw [beq_ba, hq]
                conv => whnf
                refine ⟨_, by omega, hg, rfl, ?_⟩
                conv => whnf
                refine ⟨by show 0 + _ = _; first | rfl | exact Nat.zero_add _ | simp, by show ((pl m ++ [[IV.str key, IV.str val]]).length + 1) * 32 ≤ 17592186044416; (try simp only [List.length_append, List.length_cons, List.length_nil]); omega, ?_⟩
                conv => whnf
                rw [show (i : Int) + 1 = ((i + 1 : Nat) : Int) by omega, i64n _ (by omega)]
                refine ih (i + 1) (by omega) (m ++ [(key, val)] ++ [l[i]]) _ _ _ (Out.sl ?_ ?_) (by simp only [List.length_append, List.length_cons, List.length_nil]; omega) (by simpa using he)
                · show pl m ++ [[IV.str key, IV.str val]] ++ [[IV.str l[i].fst, IV.str l[i].snd]] = pl (m ++ [(key, val)] ++ [l[i]]); simp [pl]
                · show (pl m).length + 1 + 1 = _; simp [pl]
            · rw [rput_at hc hq] at he
              rcases ho with ⟨rfl, rfl, hm0⟩ | ⟨rfl, rfl⟩
              · conv => whnf
                apply hX
                conv => whnf
                rw [decide_eq_true (show (i : Int) < (L.length : Int) by omega)]
                conv => whnf
                refine ⟨_, by omega, hg, rfl, ?_⟩
                conv => whnf
                rw [show (Op.bytesLess key.toList l[i].fst.toList || key.toList == l[i].fst.toList) = true from hc]
                conv => whnf
                refine ⟨Nat.le_of_ble_eq_true rfl, ?_⟩
                conv => whnf
                refine ⟨_, by omega, hg, rfl, ?_⟩
                conv => whnf
                rw [beq_ba, hq]
                conv => whnf
                rw [show (i : Int) + 1 = ((i + 1 : Nat) : Int) by omega, i64n _ (by omega)]
                refine ih (i + 1) (by omega) (m ++ [(key, val)]) _ _ _ (Out.sl ?_ ?_) (by simp only [List.length_append, List.length_cons, List.length_nil]; omega) (by simpa using he)
                · subst hm0; rfl
                · subst hm0; rfl
              · conv => whnf
                apply hX
                conv => whnf
                rw [decide_eq_true (show (i : Int) < (L.length : Int) by omega)]
                conv => whnf
                refine ⟨_, by omega, hg, rfl, ?_⟩
                conv => whnf
                rw [show (Op.bytesLess key.toList l[i].fst.toList || key.toList == l[i].fst.toList) = true from hc]
                conv => whnf
                refine ⟨by show 0 + _ = _; first | rfl | exact Nat.zero_add _ | simp, by show ((pl m).length + 1) * 32 ≤ 17592186044416; (try simp only [List.length_append, List.length_cons, List.length_nil]); omega, ?_⟩
                conv => whnf
                refine ⟨_, by omega, hg, rfl, ?_⟩
                conv => whnf
                rw [beq_ba, hq]
                conv => whnf
                rw [show (i : Int) + 1 = ((i + 1 : Nat) : Int) by omega, i64n _ (by omega)]
                refine ih (i + 1) (by omega) (m ++ [(key, val)]) _ _ _ (Out.sl ?_ ?_) (by simp only [List.length_append, List.length_cons, List.length_nil]; omega) (by simpa using he)
                · show pl m ++ [[IV.str key, IV.str val]] = pl (m ++ [(key, val)]); simp [pl]
                · show (pl m).length + 1 = _; simp [pl]
        · cases hc : (!true && ble key l[i].1)
          · cases hq : decide (key = l[i].1)
            · rw [rput_at hc hq] at he
              rcases ho with ⟨rfl, rfl, hm0⟩ | ⟨rfl, rfl⟩
              · conv => whnf
                apply hX
                conv => whnf
                rw [decide_eq_true (show (i : Int) < (L.length : Int) by omega)]
                conv => whnf
                refine ⟨_, by omega, hg, rfl, ?_⟩
                conv => whnf
                rw [beq_ba, hq]
                conv => whnf
                refine ⟨_, by omega, hg, rfl, ?_⟩
                conv => whnf
                refine ⟨Nat.le_of_ble_eq_true rfl, ?_⟩
                conv => whnf
                rw [show (i : Int) + 1 = ((i + 1 : Nat) : Int) by omega, i64n _ (by omega)]
                refine ih (i + 1) (by omega) (m ++ [l[i]]) _ _ _ (Out.sl ?_ ?_) (by simp only [List.length_append, List.length_cons, List.length_nil]; omega) (by simpa using he)
                · subst hm0; rfl
                · subst hm0; rfl
              · conv => whnf
                apply hX
                conv => whnf
                rw [decide_eq_true (show (i : Int) < (L.length : Int) by omega)]
                conv => whnf
                refine ⟨_, by omega, hg, rfl, ?_⟩
                conv => whnf
                rw [beq_ba, hq]
                conv => whnf
                refine ⟨_, by omega, hg, rfl, ?_⟩
                conv => whnf
                refine ⟨by show 0 + _ = _; first | rfl | exact Nat.zero_add _ | simp, by show ((pl m).length + 1) * 32 ≤ 17592186044416; (try simp only [List.length_append, List.length_cons, List.length_nil]); omega, ?_⟩
                conv => whnf
                rw [show (i : Int) + 1 = ((i + 1 : Nat) : Int) by omega, i64n _ (by omega)]
                refine ih (i + 1) (by omega) (m ++ [l[i]]) _ _ _ (Out.sl ?_ ?_) (by simp only [List.length_append, List.length_cons, List.length_nil]; omega) (by simpa using he)
                · show pl m ++ [[IV.str l[i].fst, IV.str l[i].snd]] = pl (m ++ [l[i]]); simp [pl]
                · show (pl m).length + 1 = _; simp [pl]
            · rw [rput_at hc hq] at he
              rcases ho with ⟨rfl, rfl, hm0⟩ | ⟨rfl, rfl⟩
              · conv => whnf
                apply hX
                conv => whnf
                rw [decide_eq_true (show (i : Int) < (L.length : Int) by omega)]
                conv => whnf
                refine ⟨_, by omega, hg, rfl, ?_⟩
                conv => whnf
                rw [beq_ba, hq]
                conv => whnf
                rw [show (i : Int) + 1 = ((i + 1 : Nat) : Int) by omega, i64n _ (by omega)]
                exact ih (i + 1) (by omega) m _ _ _ ho' (by omega) (by simpa using he)
              · conv => whnf
                apply hX
                conv => whnf
                rw [decide_eq_true (show (i : Int) < (L.length : Int) by omega)]
                conv => whnf
                refine ⟨_, by omega, hg, rfl, ?_⟩
                conv => whnf
                rw [beq_ba, hq]
                conv => whnf
                rw [show (i : Int) + 1 = ((i + 1 : Nat) : Int) by omega, i64n _ (by omega)]
                exact ih (i + 1) (by omega) m _ _ _ ho' (by omega) (by simpa using he)
          · exact absurd hc (by simp)
    exact go l.length 0 (by omega) [] _ _ _ (.inl ⟨rfl, rfl, rfl⟩) (by simp) rfl
end Go.Proofs.YtmfilaagpobmbaaGreatDoor
