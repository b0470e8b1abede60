/- PartShows: proved for every input. The walk of the law's code and what it computes, put together: the law answers true, and its arguments read as they did. Conditions: the two package variables of the hash begin as the program's text lays them (tied by the card). -/
import Derived.Test.YtmfilaagpobmbaaGreatDoorTie
import Derived.Test.YtmfilaagpobmbaaGreatDoorCards
import Derived.SevenTiedAt
import Derived.Test.YtmfilaagpobmbaaGreatDoorO1
set_option linter.all false
namespace Go.Proofs.YtmfilaagpobmbaaGreatDoor
set_option maxRecDepth 100000
open Go Go.Abs Go.Deep Go.ChangeShapes Go.WideShapes Go.ChangeAt Go.RowKit
open Go.ChangeMaps (open_string shut_string)
namespace PartShows
/-- a world that meets the row's condition: the two variables laid -/
noncomputable def laidWorld (os : Os) : World :=
  let w0 := World.holding Tryz.prog os ⟨#[], #[], []⟩
  { w0 with heap := (w0.heap.modify 0 fun
      | .cells _ t frozen => .cells (firstN'.map (Value.int .u32)).toArray t frozen
      | o => o).modify 1 fun
      | .cells _ t frozen => .cells (constN'.map (Value.int .u32)).toArray t frozen
      | o => o }
theorem laid_met (os : Os) (args : Array Value) : laidMet Tryz.prog Rows.partShowsRow.laid ((laidWorld os).forCall (fun _ _ => 0) ⟨#[], args, []⟩).memory :=
  laidMet_of_run' 8 (by kernel_rfl) (by kernel_rfl)
theorem lifted (os : Os) (started : os.Started) (H : Type) (enc : TypeId × Value → H) :
    ReturnsInHanded {} Tryz.checked os 5 .any (fun w args => (Rows.partShowsSpec.pre enc Tryz.prog Tryz.f5 Rows.partShowsRow.domain false w args ∧ laidMet Tryz.prog Rows.partShowsRow.laid w) ∧ sizedMet enc Tryz.prog Tryz.f5 (OpenSpec.ofChange Rows.partShowsSpec) false w args)
      (Rows.partShowsSpec.post enc Tryz.prog Tryz.f5 false true false false) := by
  refine returnsInHanded_of_change_and (C := Tryz.checked) (X := fun w _ => laidMet Tryz.prog Rows.partShowsRow.laid w) (fun _ _ _ hh h => h.of_heap hh) own started (by kernel_rfl) Tryz.func5
    (ChangeSpec.witness_at (enc := enc) (C := Tryz.checked) (os := os) (X := fun w _ => laidMet Tryz.prog Rows.partShowsRow.laid w) false (laidWorld os) #[.slice none 0 0, .agg #[.slice none 0 0, .slice none 0 0]] 8 rfl (by kernel_rfl) (by kernel_rfl) (by kernel_rfl) (by kernel_rfl) (by kernel_rfl) (laid_met os _)) ?_
  intro W base args ds gs before hval0 hW hcnd0 _ hL _
  have hval : ∀ (j : Nat) t v, Tryz.f5.params[j]? = some t → args[j]? = some v → Value.okWide Tryz.prog W .any base t v := hval0
  have hW' := hW
  obtain ⟨p, q, hA0, hV, rfl, hfz, hnd⟩ := hW
  have hA : DataW.TrodAll enc Tryz.prog W 0 (fun _ => true) true Tryz.f5.params.toList args.toList ds p := hA0
  rw [Tryz.params5] at hA hval
  obtain ⟨v0, vs0, d0, ds0, p0, q0, hargs, rfl, rfl, h0, r0⟩ := trodAll_cons hA
  obtain ⟨v1, vs1, d1, ds1, p1, q1, rfl, rfl, rfl, h1, r1⟩ := trodAll_cons r0
  obtain ⟨rfl, rfl, rfl⟩ := trodAll_nil r1
  obtain rfl : args = #[v0, v1] := by cases args; simp_all
  obtain ⟨rfl, rfl⟩ := trodVars_none hV
  have k0 := h0
  have lt0 : ∀ x ∈ p0, x.block < W.heap.size := by obtain ⟨m, hm⟩ := k0; exact DataW.trod_lt m _ _ _ hm
  obtain ⟨a0, y0⟩ := open_acts (hval 0 37 v0 rfl rfl) h0
  have k1 := h1
  have lt1 : ∀ x ∈ p1, x.block < W.heap.size := by obtain ⟨m, hm⟩ := k1; exact DataW.trod_lt m _ _ _ hm
  obtain ⟨a1, b1, y1⟩ := open_asked (hval 1 41 v1 rfl rfl) h1
  clear hA0 hval0
  refine (calls_of_snd (W := W) hL (c_PartShows a0 a1 b1) (L2.cons y0 (L2.cons y1 L2.nil))).mono fun e W' ⟨he, bel⟩ => ?_
  subst he
  exact ⟨_, rfl, _, _, _, [], _, [], hW', trodAll_mk1 (shut_bool Tryz.underlying4 _), (trodAll_cons_mk (Below.trod laidOut (by kernel_rfl) (of_decide_eq_true (by kernel_rfl)) k0 bel lt0) (trodAll_cons_mk (Below.trod laidOut (by kernel_rfl) (of_decide_eq_true (by kernel_rfl)) k1 bel lt1) trodAll_mk0)), rfl, bel.frame _, fun h => by cases h⟩
theorem over : Rows.partShowsRow.holds Tryz.pinned (OpenSpec.ofChange Rows.partShowsSpec) :=
  OpenClaim.holds_of_wide 5 Tryz.f5 rfl rfl rfl rfl rfl rfl rfl ⟨rfl, rfl, rfl, rfl, rfl⟩ rfl rfl rfl rfl rfl (by kernel_rfl) Tryz.func5 (by kernel_rfl)
    (of_decide_eq_true (by kernel_rfl)) (by unfold Func.isWrapper; first | (rw [if_pos (by decide +kernel)]; kernel_rfl) | (rw [if_neg (by decide +kernel)]; exact ⟨rfl, rfl⟩))
    (fun os started H enc _ => lifted os started H enc)
end PartShows
theorem partShows_card : Rows.PartShowsCardSaid :=
  Claim7.holds_tied_plain_at .later [] [.data, .data] true Rows.partShowsCard.stood.harness false
    PartShows.over (fun _ h => by cases h) (by kernel_rfl) (fun _ h => by cases h) partShows_row_tie rfl ⟨rfl, rfl⟩ (by kernel_rfl) rfl
    (fun f fn hf hfn => by
      obtain rfl : f = 5 := Option.some.inj ((show Tryz.prog.funcNamed "vidimus/vidimuslaw06.PartShows" = some 5 by kernel_rfl).symm.trans hf) |>.symm
      obtain rfl : fn = Tryz.f5 := (Option.some.inj (Tryz.func5.symm.trans hfn)).symm
      exact ⟨by kernel_rfl, fun j t ht => by
        rw [Tryz.params5] at ht
        have h3 : t ∈ [37, 41] := List.mem_of_getElem? (by simpa using ht)
        exact (show ∀ t ∈ [37, 41], Tryz.prog.wantsStandIn t = false from fun t ht => by
          have h := List.all_eq_true.1 (show ([37, 41] : List Nat).all (fun t => !Tryz.prog.wantsStandIn t) = true by kernel_rfl) t ht
          simpa using h) t h3⟩)
    (by kernel_rfl)
#print axioms partShows_card
end Go.Proofs.YtmfilaagpobmbaaGreatDoor
