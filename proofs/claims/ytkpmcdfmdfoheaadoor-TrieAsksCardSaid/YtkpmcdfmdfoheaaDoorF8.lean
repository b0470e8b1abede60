/- A part of the proof of a seat of tries: F8. -/
import Derived.Test.YtkpmcdfmdfoheaaDoorF7
set_option linter.all false
namespace Go.Proofs.YtkpmcdfmdfoheaaDoor
set_option maxRecDepth 100000
open Go Go.Abs Go.Deep Go.ChangeShapes Go.WideShapes Go.ChangeAt Go.RowKit
theorem open_strs2 {W : World} {H : Type} {enc : TypeId × Value → H} {sp : Nat → Bool} {held : Bool} {r : Reach} {b0 : Nat} {v : Value} {d : DataW H} {ps : List MemPlace} (_ : Value.okWide Tryd.prog W r b0 53 v) (h : DataW.Trod enc Tryd.prog W 0 sp held 53 v d ps) :
    ∃ a b : ByteArray, v = .agg #[.string a, .string b] := by
  obtain ⟨fuel, hf⟩ := h
  obtain ⟨xs, m, _, hx, hl, hxl, hi⟩ := DataW.trod_array Tryd.underlying53 hf
  have h0 := hi 0 (by omega)
  have h1 := hi 1 (by omega)
  rw [show Tryd.prog.cellsOf 9 = 1 by kernel_rfl, List.getElem?_eq_getElem (show 0 < xs.length by omega)] at h0
  rw [show Tryd.prog.cellsOf 9 = 1 by kernel_rfl, List.getElem?_eq_getElem (show 1 < xs.length by omega)] at h1
  rw [show Tryd.prog.cellsOf 53 = 2 by kernel_rfl] at hl
  obtain ⟨a, e0, _⟩ := DataW.trod_string Tryd.underlying9 h0
  obtain ⟨b, e1, _⟩ := DataW.trod_string Tryd.underlying9 h1
  refine ⟨a, b, ?_⟩
  cases v with
  | agg cs =>
    congr 1
    apply Array.toList_inj.1
    simp only [Value.cells] at hl e0 e1
    match hcs : cs.toList, hl with
    | [u, w], _ =>
      rw [hcs] at e0 e1
      simp at e0 e1
      rw [e0, e1]
  | _ => simp [Value.cells] at hl
theorem rd_strs2 {W : World} {g : Gh} (a b : ByteArray) : AVR W g (.agg [.imm (.str a), .imm (.str b)]) (.agg #[.string a, .string b]) :=
  ⟨_, rfl, L2.cons (Rd.str a) (L2.cons (Rd.str b) L2.nil)⟩
end Go.Proofs.YtkpmcdfmdfoheaaDoor
