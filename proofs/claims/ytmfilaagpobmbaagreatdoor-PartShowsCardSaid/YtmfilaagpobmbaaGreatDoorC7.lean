/- A part of the proof of a seat of parts: C7. -/
import Derived.Test.YtmfilaagpobmbaaGreatDoorC4
import Derived.Test.YtmfilaagpobmbaaGreatDoorC6
set_option linter.all false
namespace Go.Proofs.YtmfilaagpobmbaaGreatDoor
open Go Go.Abs
set_option maxRecDepth 100000 in
set_option maxHeartbeats 4000000 in
theorem c_By (s : ByteArray) (hs : s.size < 1099511627776) (K) (hk : ∀ r, r = sha s → K (.i (.str r)) []) : SP 84 [.i (.str s), .i (.lst first8.el), .i (.lst (e1 kW))] [] K := by
  have hblka := fun x t ht K => c_block_a x t ht K
  have hblkb := fun x t ht K => c_block_b x t ht K
  have hk : K (.i (.str (runs ((padded s).size / 64) first8 (padded s)).out)) [] := hk _ rfl
  revert hblka hblkb hk
  generalize kW = kw
  generalize hf : first8 = f8
  intro hblka hblkb hk
  refine mk {keep := [(2, [0,1,2,7]), (7, [2,7,8]), (12, [8,9,10])]} (fn := Tryz.f84) Tryz.func84 (by kernel_rfl) (by kernel_rfl) (Nat.le_of_ble_eq_true (Eq.refl true)) fun S hS => ?_
  conv => whnf
  refine ⟨by show s.size + 1 ≤ _; omega, ?_⟩
  conv => whnf
  intro X hX
  have key : ∀ (d j : Nat), j + d = (119 - s.size % 64) % 64 → ∀ t, t = pz s j → frK (kfr 54 [(0, .i (.str s)), (1, .i (.lst f8.el)), (2, .i (.lst (e1 kw))), (7, .i (.str t))] []) X := by
    intro d
    induction d with
    | zero =>
      intro j hj t ht
      have hsz := pz_size s j
      rw [← ht] at hsz
      conv => whnf
      apply hX
      conv => whnf
      rw [show (t.size : Int) + 8 = ((t.size + 8 : Nat) : Int) by omega, i64n _ (by omega)]
      refine ⟨by decide, ?_⟩
      conv => whnf
      rw [show (64 : Int) = ((64 : Nat) : Int) from rfl, tmodN]
      rw [decide_eq_false (show ¬ ((((t.size + 8) % 64 : Nat) : Int) > 0) by omega)]
      conv => whnf
      clear hX
      have e1 : IntKind.u64.wrap (IntKind.u64.wrap (s.size : Int) * 8) = ((8 * s.size : Nat) : Int) := by rw [wrap64u, wrap64u]; omega
      rw [e1]
      refine hS _ _ _ _ <| c_bytes (8 * s.size) 8 (by omega) (by omega) _ fun r hr => ?_
      conv => whnf
      have hrs : r.size = 8 := by rw [hr]; exact loB_size _ _
      refine ⟨by omega, ?_⟩
      conv => whnf
      refine ⟨by decide, by decide, by decide, ?_⟩
      conv => whnf
      have hxl : ∀ e ∈ f8.el, e.length = 1 := by intro e he; simp at he; rcases he with rfl | rfl | rfl | rfl | rfl | rfl | rfl | rfl <;> rfl
      refine ⟨hxl, ?_⟩
      conv => whnf
      intro Y hY
      have hp : t ++ r = padded s := by rw [ht, hr, show j = (119 - s.size % 64) % 64 by omega]; exact pz_full s
      rw [hp]
      have hps := padded_size s
      have hpl : 0 < (padded s).size := by rw [← hp, ByteArray.size_append]; omega
      revert hps hpl hk
      generalize padded s = p
      intro hk hps hpl
      have k2 : ∀ (n : Nat) (x : S8) (t : ByteArray), t.size = 64 * n → K (.i (.str (runs n x t).out)) [] → frK (kfr 54 [(2, .i (.lst (Abs.e1 kw))), (7, .i (.str t)), (8, .i (.lst x.el))] []) Y := by
        intro n
        induction n with
        | zero =>
          intro x t ht hk
          simp only [runs] at hk
          conv => whnf
          apply hY
          conv => whnf
          rw [decide_eq_false (show ¬ ((t.size : Int) > 0) by omega)]
          conv => whnf
          clear hY
          intro Z hZ
          have h0 : (ByteArray.mk #[]).size = 0 := rfl
          apply hZ
          conv => whnf
          refine ⟨_, by decide, rfl, rfl, ?_⟩
          conv => whnf
          rw [wrap64w]
          refine hS _ _ _ _ <| c_bytes x.a.toNat 4 (by have := x.a.isLt; omega) (by omega) _ fun r0 hr0 => ?_
          have hz0 : r0.size = 4 := by rw [hr0]; exact loB_size _ _
          conv => whnf
          refine ⟨by first | omega | (simp only [ByteArray.size_append]; omega), ?_⟩
          conv => whnf
          apply hZ
          conv => whnf
          refine ⟨_, by decide, rfl, rfl, ?_⟩
          conv => whnf
          rw [wrap64w]
          refine hS _ _ _ _ <| c_bytes x.b.toNat 4 (by have := x.b.isLt; omega) (by omega) _ fun r1 hr1 => ?_
          have hz1 : r1.size = 4 := by rw [hr1]; exact loB_size _ _
          conv => whnf
          refine ⟨by first | omega | (simp only [ByteArray.size_append]; omega), ?_⟩
          conv => whnf
          apply hZ
          conv => whnf
          refine ⟨_, by decide, rfl, rfl, ?_⟩
          conv => whnf
          rw [wrap64w]
          refine hS _ _ _ _ <| c_bytes x.c.toNat 4 (by have := x.c.isLt; omega) (by omega) _ fun r2 hr2 => ?_
          have hz2 : r2.size = 4 := by rw [hr2]; exact loB_size _ _
          conv => whnf
          refine ⟨by first | omega | (simp only [ByteArray.size_append]; omega), ?_⟩
          conv => whnf
          apply hZ
          conv => whnf
          refine ⟨_, by decide, rfl, rfl, ?_⟩
          conv => whnf
          rw [wrap64w]
          refine hS _ _ _ _ <| c_bytes x.d.toNat 4 (by have := x.d.isLt; omega) (by omega) _ fun r3 hr3 => ?_
          have hz3 : r3.size = 4 := by rw [hr3]; exact loB_size _ _
          conv => whnf
          refine ⟨by first | omega | (simp only [ByteArray.size_append]; omega), ?_⟩
          conv => whnf
          apply hZ
          conv => whnf
          refine ⟨_, by decide, rfl, rfl, ?_⟩
          conv => whnf
          rw [wrap64w]
          refine hS _ _ _ _ <| c_bytes x.e.toNat 4 (by have := x.e.isLt; omega) (by omega) _ fun r4 hr4 => ?_
          have hz4 : r4.size = 4 := by rw [hr4]; exact loB_size _ _
          conv => whnf
          refine ⟨by first | omega | (simp only [ByteArray.size_append]; omega), ?_⟩
          conv => whnf
          apply hZ
          conv => whnf
          refine ⟨_, by decide, rfl, rfl, ?_⟩
          conv => whnf
          rw [wrap64w]
          refine hS _ _ _ _ <| c_bytes x.f.toNat 4 (by have := x.f.isLt; omega) (by omega) _ fun r5 hr5 => ?_
          have hz5 : r5.size = 4 := by rw [hr5]; exact loB_size _ _
          conv => whnf
          refine ⟨by first | omega | (simp only [ByteArray.size_append]; omega), ?_⟩
          conv => whnf
          apply hZ
          conv => whnf
          refine ⟨_, by decide, rfl, rfl, ?_⟩
          conv => whnf
          rw [wrap64w]
          refine hS _ _ _ _ <| c_bytes x.g.toNat 4 (by have := x.g.isLt; omega) (by omega) _ fun r6 hr6 => ?_
          have hz6 : r6.size = 4 := by rw [hr6]; exact loB_size _ _
          conv => whnf
          refine ⟨by first | omega | (simp only [ByteArray.size_append]; omega), ?_⟩
          conv => whnf
          apply hZ
          conv => whnf
          refine ⟨_, by decide, rfl, rfl, ?_⟩
          conv => whnf
          rw [wrap64w]
          refine hS _ _ _ _ <| c_bytes x.h.toNat 4 (by have := x.h.isLt; omega) (by omega) _ fun r7 hr7 => ?_
          have hz7 : r7.size = 4 := by rw [hr7]; exact loB_size _ _
          conv => whnf
          refine ⟨by first | omega | (simp only [ByteArray.size_append]; omega), ?_⟩
          conv => whnf
          apply hZ
          conv => whnf
          rw [hr0, hr1, hr2, hr3, hr4, hr5, hr6, hr7, out_join]
          exact hk
        | succ n ih =>
          intro x t ht hk
          conv => whnf
          apply hY
          conv => whnf
          rw [decide_eq_true (show (t.size : Int) > 0 by omega)]
          conv => whnf
          refine ⟨by decide, by decide, by omega, ?_⟩
          conv => whnf
          have h64 : (t.extract 0 64).size = 64 := by rw [ByteArray.size_extract]; omega
          refine hS _ _ _ _ <| hblkb x (t.extract 0 64) h64 _ fun y hy => ?_
          conv => whnf
          refine ⟨by omega, by omega, by omega, ?_⟩
          conv => whnf
          refine ih y _ (by show (t.extract 64 t.size).size = _; rw [ByteArray.size_extract]; omega) ?_
          rw [hy]; exact hk
      obtain ⟨n, hn⟩ : ∃ n, p.size / 64 = n + 1 := ⟨p.size / 64 - 1, by omega⟩
      rw [hn] at hk hps
      apply hY
      conv => whnf
      rw [decide_eq_true (show (p.size : Int) > 0 by omega)]
      conv => whnf
      refine ⟨by decide, by decide, by omega, ?_⟩
      conv => whnf
      have h64 : (p.extract 0 64).size = 64 := by rw [ByteArray.size_extract]; omega
      refine hS _ _ _ _ <| hblka f8 (p.extract 0 64) h64 _ fun y hy => ?_
      conv => whnf
      refine ⟨by omega, by omega, by omega, ?_⟩
      conv => whnf
      refine k2 n y _ (by show (p.extract 64 p.size).size = _; rw [ByteArray.size_extract]; omega) ?_
      rw [hy]; exact hk
    | succ d ih =>
      intro j hj t ht
      have hsz := pz_size s j
      rw [← ht] at hsz
      conv => whnf
      apply hX
      conv => whnf
      rw [show (t.size : Int) + 8 = ((t.size + 8 : Nat) : Int) by omega, i64n _ (by omega)]
      refine ⟨by decide, ?_⟩
      conv => whnf
      rw [show (64 : Int) = ((64 : Nat) : Int) from rfl, tmodN]
      rw [decide_eq_true (show (((t.size + 8) % 64 : Nat) : Int) > 0 by omega)]
      conv => whnf
      refine ⟨by show t.size + 1 ≤ _; omega, ?_⟩
      conv => whnf
      exact ih (j + 1) (by omega) _ (by rw [ht]; exact pz_step s j)
  have hpz : pz s 0 = s ++ ⟨#[128]⟩ := rfl
  exact key ((119 - s.size % 64) % 64) 0 (by omega) _ hpz.symm
theorem e32_cu : e32 kN = e1 kW := e32_e1 kN (by decide)
theorem e32_fi : e32 fN = first8.el := by kernel_rfl
set_option maxRecDepth 100000 in
theorem c_Print (s : ByteArray) (hs : s.size < 1099511627776) (K) (hk : ∀ r, r = sha s → K (.i (.str r)) []) : SP 46 [.i (.str s)] [] K := by
  have h1 : ∀ K, K (.i (.lst first8.el)) [] → SP 85 [.i (.lst (e64 sqN))] [] K := fun K h => c_halves sqN (by decide) (by decide) (by decide) K (by rw [hv_sq, e32_fi]; exact h)
  have h2 : ∀ K, K (.i (.lst (e1 kW))) [] → SP 85 [.i (.lst (e64 cuN))] [] K := fun K h => c_halves cuN (by decide) (by decide) (by decide) K (by rw [hv_cu, e32_cu]; exact h)
  have h3 := c_By s hs
  have h4 := fun K => c_squares K
  have h5 := fun K => c_cubes K
  revert h1 h2 h3 h4 h5
  generalize e64 sqN = a1
  generalize e64 cuN = a2
  generalize first8.el = a3
  generalize e1 kW = a4
  intro h1 h2 h3 h4 h5
  refine mk {} (fn := Tryz.f46) Tryz.func46 (by kernel_rfl) (by kernel_rfl) (Nat.le_of_ble_eq_true (Eq.refl true)) fun S hS => ?_
  conv => whnf
  refine hS _ _ _ _ <| h4 _ ?_
  conv => whnf
  refine hS _ _ _ _ <| h1 _ ?_
  conv => whnf
  refine hS _ _ _ _ <| h5 _ ?_
  conv => whnf
  refine hS _ _ _ _ <| h2 _ ?_
  conv => whnf
  refine hS _ _ _ _ <| h3 _ fun r hr => ?_
  conv => whnf
  exact hk r hr
end Go.Proofs.YtmfilaagpobmbaaGreatDoor
