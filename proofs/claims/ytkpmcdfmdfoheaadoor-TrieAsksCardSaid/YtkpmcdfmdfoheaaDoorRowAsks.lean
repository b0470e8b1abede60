/- TrieAsks: proved for every input. The walk of the law's code and what it computes, put together: the law answers true, and its arguments read as they did. Conditions: the two package variables of the hash begin as the program's text lays them (tied by the card). -/
import Derived.Test.YtkpmcdfmdfoheaaDoorTie
import Derived.Test.YtkpmcdfmdfoheaaDoorCards
import Derived.SevenTiedAt
import Derived.Test.YtkpmcdfmdfoheaaDoorF8
set_option linter.all false
namespace Go.Proofs.YtkpmcdfmdfoheaaDoor
set_option maxRecDepth 100000
open Go Go.Abs Go.Deep Go.ChangeShapes Go.WideShapes Go.ChangeAt Go.RowKit
open Go.ChangeMaps (open_string shut_string)
namespace TrieAsks
/-- a world that meets the row's condition: the two variables laid -/
noncomputable def laidWorld (os : Os) : World :=
  let w0 := World.holding Tryd.prog os ⟨#[], #[], []⟩
  { w0 with heap := (w0.heap.modify 0 fun
      | .cells _ t frozen => .cells (firstN'.map (Value.int .u32)).toArray t frozen
      | o => o).modify 1 fun
      | .cells _ t frozen => .cells (constN'.map (Value.int .u32)).toArray t frozen
      | o => o }
theorem laid_met (os : Os) (args : Array Value) : laidMet Tryd.prog Rows.trieAsksRow.laid ((laidWorld os).forCall (fun _ _ => 0) ⟨#[], args, []⟩).memory :=
  laidMet_of_run' 8 (by kernel_rfl) (by kernel_rfl)
theorem lifted (os : Os) (started : os.Started) (H : Type) (enc : TypeId × Value → H) :
    ReturnsInHanded {} Tryd.checked os 8 .any (fun w args => (Rows.trieAsksSpec.pre enc Tryd.prog Tryd.f8 Rows.trieAsksRow.domain false w args ∧ laidMet Tryd.prog Rows.trieAsksRow.laid w) ∧ sizedMet enc Tryd.prog Tryd.f8 (OpenSpec.ofChange Rows.trieAsksSpec) false w args)
      (Rows.trieAsksSpec.post enc Tryd.prog Tryd.f8 false true false false) := by
  refine returnsInHanded_of_change_and (C := Tryd.checked) (X := fun w _ => laidMet Tryd.prog Rows.trieAsksRow.laid w) (fun _ _ _ hh h => h.of_heap hh) own started (by kernel_rfl) Tryd.func8
    (ChangeSpec.witness_at (enc := enc) (C := Tryd.checked) (os := os) (X := fun w _ => laidMet Tryd.prog Rows.trieAsksRow.laid w) false (laidWorld os) #[.slice none 0 0, .agg #[.string ByteArray.empty, .string ByteArray.empty], .int .i64 0] 8 rfl (by kernel_rfl) (by kernel_rfl) (by kernel_rfl) (by kernel_rfl) (by kernel_rfl) (laid_met os _)) ?_
  intro W base args ds gs before hval0 hW hcnd0 _ hL _
  have hval : ∀ (j : Nat) t v, Tryd.f8.params[j]? = some t → args[j]? = some v → Value.okWide Tryd.prog W .any base t v := hval0
  have hW' := hW
  obtain ⟨p, q, hA0, hV, rfl, hfz, hnd⟩ := hW
  have hA : DataW.TrodAll enc Tryd.prog W 0 (fun _ => true) true Tryd.f8.params.toList args.toList ds p := hA0
  rw [Tryd.params8] at hA hval
  obtain ⟨v0, vs0, d0, ds0, p0, q0, hargs, rfl, rfl, h0, r0⟩ := trodAll_cons hA
  obtain ⟨v1, vs1, d1, ds1, p1, q1, rfl, rfl, rfl, h1, r1⟩ := trodAll_cons r0
  obtain ⟨v2, vs2, d2, ds2, p2, q2, rfl, rfl, rfl, h2, r2⟩ := trodAll_cons r1
  obtain ⟨rfl, rfl, rfl⟩ := trodAll_nil r2
  obtain rfl : args = #[v0, v1, v2] := by cases args; simp_all
  obtain ⟨rfl, rfl⟩ := trodVars_none hV
  have k0 := h0
  have lt0 : ∀ x ∈ p0, x.block < W.heap.size := by obtain ⟨m, hm⟩ := k0; exact DataW.trod_lt m _ _ _ hm
  obtain ⟨a0, y0⟩ := open_acts (hval 0 22 v0 rfl rfl) h0
  have k1 := h1
  have lt1 : ∀ x ∈ p1, x.block < W.heap.size := by obtain ⟨m, hm⟩ := k1; exact DataW.trod_lt m _ _ _ hm
  obtain ⟨a1, b1, rfl⟩ := open_strs2 (hval 1 53 v1 rfl rfl) h1
  obtain ⟨a2, rfl, rfl, rfl, w2⟩ := open_int Tryd.underlying3 (hval 2 3 v2 rfl rfl) h2
  clear hA0 hval0
  refine (calls_of_snd (W := W) hL (c_TrieAsks a0 a1 b1 a2 w2) (L2.cons y0 (L2.cons (rd_strs2 a1 b1) (L2.cons (Rd.int _ a2) L2.nil)))).mono fun e W' ⟨he, bel⟩ => ?_
  subst he
  exact ⟨_, rfl, _, _, _, [], _, [], hW', trodAll_mk1 (shut_bool Tryd.underlying4 _), (trodAll_cons_mk (Below.trod laidOut (by kernel_rfl) (of_decide_eq_true (by kernel_rfl)) k0 bel lt0) (trodAll_cons_mk (Below.trod laidOut (by kernel_rfl) (of_decide_eq_true (by kernel_rfl)) k1 bel lt1) (trodAll_cons_mk (shut_int Tryd.underlying3 w2) trodAll_mk0))), rfl, bel.frame _, fun h => by cases h⟩
theorem over : Rows.trieAsksRow.holds Tryd.pinned (OpenSpec.ofChange Rows.trieAsksSpec) :=
  OpenClaim.holds_of_wide 8 Tryd.f8 rfl rfl rfl rfl rfl rfl rfl ⟨rfl, rfl, rfl, rfl, rfl⟩ rfl rfl rfl rfl rfl (by kernel_rfl) Tryd.func8 (by kernel_rfl)
    (of_decide_eq_true (by kernel_rfl)) (by unfold Func.isWrapper; first | (rw [if_pos (by decide +kernel)]; kernel_rfl) | (rw [if_neg (by decide +kernel)]; exact ⟨rfl, rfl⟩))
    (fun os started H enc _ => lifted os started H enc)
end TrieAsks
theorem trieAsks_card : Rows.TrieAsksCardSaid :=
  Claim7.holds_tied_plain_at .later [] [.data, .data] true Rows.trieAsksCard.stood.harness false
    TrieAsks.over (fun _ h => by cases h) (by kernel_rfl) (fun _ h => by cases h) trieAsks_row_tie rfl ⟨rfl, rfl⟩ (by kernel_rfl) rfl
    (fun f fn hf hfn => by
      obtain rfl : f = 8 := Option.some.inj ((show Tryd.prog.funcNamed "vidimus/vidimuslaw05.TrieAsks" = some 8 by kernel_rfl).symm.trans hf) |>.symm
      obtain rfl : fn = Tryd.f8 := (Option.some.inj (Tryd.func8.symm.trans hfn)).symm
      exact ⟨by kernel_rfl, fun j t ht => by
        rw [Tryd.params8] at ht
        have h3 : t ∈ [22, 53, 3] := List.mem_of_getElem? (by simpa using ht)
        exact (show ∀ t ∈ [22, 53, 3], Tryd.prog.wantsStandIn t = false from fun t ht => by
          have h := List.all_eq_true.1 (show ([22, 53, 3] : List Nat).all (fun t => !Tryd.prog.wantsStandIn t) = true by kernel_rfl) t ht
          simpa using h) t h3⟩)
    (by kernel_rfl)
#print axioms trieAsks_card
end Go.Proofs.YtkpmcdfmdfoheaaDoor
