/- A part of the proof of a seat of parts: R0, R1. -/
import Derived.Test.YtmfilaagpobmbaaGreatDoorRows
import Derived.WalkKit
import Derived.ProofKit
import Derived.OpenShut
import Derived.ShutString
import Derived.ChangeOld
import Derived.Below
import Derived.Carry
import Derived.LaidLaws
import Derived.Handed
import Derived.Deep.Strs
import Derived.Deep.Slices
import Derived.Test.YtmfilaagpobmbaaGreatDoorM3
set_option linter.all false
namespace Go.Proofs.YtmfilaagpobmbaaGreatDoor
open Go Go.Abs Go.ChangeShapes Go.WideShapes Go.ChangeAt Go.RowKit
theorem own : ownKnob Tryz.prog.godebug = none := by kernel_rfl
theorem laidOut : laidOutB Tryz.prog = true := by kernel_rfl
theorem ints_of_trod {w : World} {H : Type} {enc : TypeId × Value → H} {sp : Nat → Bool} {held : Bool} {base fuel t e n : Nat} {k : IntKind} {cs : List Value} {L : List Int} {p : List MemPlace} (ht : Tryz.prog.underlying t = some (.array n e)) (he : Tryz.prog.underlying e = some (.int k)) (hc : Tryz.prog.cellsOf e = 1) (hct : Tryz.prog.cellsOf t = n)
    (h : DataW.trod enc Tryz.prog w base sp held fuel t cs = some (.agg (L.map fun n => .lit (.int k n)), p)) : cs = L.map (.int k ·) := by
  obtain ⟨xs, m, _, hx, hl, hxl, hi⟩ := DataW.trod_array ht h
  simp only [Prod.mk.injEq, DataW.agg.injEq] at hx
  have hlen : L.length = n := by have := congrArg List.length hx.1; simp only [List.length_map] at this; omega
  apply List.ext_getElem?
  intro i
  by_cases hin : i < n
  · have hd := hi i hin
    rw [hc, Nat.mul_one] at hd
    have hxi : i < xs.length := by omega
    rw [List.getElem?_eq_getElem hxi] at hd
    obtain ⟨s, h1, h2, _⟩ := DataW.trod_int he hd
    have h3 := congrArg (fun l : List (DataW H) => l[i]?) hx.1
    simp only [List.getElem?_map, List.getElem?_eq_getElem hxi, List.getElem?_eq_getElem (show i < L.length by omega), Option.map_some, Option.some.injEq] at h3
    rw [h2] at h3
    simp only [DataW.lit.injEq, Lit.int.injEq, true_and] at h3
    rw [List.getElem?_map, List.getElem?_eq_getElem (show i < L.length by omega), Option.map_some, h3]
    have h4 := congrArg (fun l : List Value => l[0]?) h1
    simpa using h4
  · rw [List.getElem?_eq_none (by omega), List.getElem?_eq_none (by simp; omega)]
theorem ints_of_struct {w : World} {H : Type} {enc : TypeId × Value → H} {sp : Nat → Bool} {held : Bool} {base fuel t e : Nat} {fs : Array Field} {k : IntKind} {cs : List Value} {L : List Int} {p : List MemPlace} (ht : Tryz.prog.underlying t = some (.struct fs)) (he : Tryz.prog.underlying e = some (.int k)) (hc : Tryz.prog.cellsOf e = 1) (hct : Tryz.prog.cellsOf t = fs.size)
    (hfs : fs.toList.map (fun f => (f.offset, f.type)) = (List.range fs.size).map fun i => (i, e))
    (h : DataW.trod enc Tryz.prog w base sp held fuel t cs = some (.agg (L.map fun n => .lit (.int k n)), p)) : cs = L.map (.int k ·) := by
  obtain ⟨xs, m, _, hx, hl, hxl, hi⟩ := DataW.trod_struct ht h
  simp only [Prod.mk.injEq, DataW.agg.injEq] at hx
  have hlen : L.length = fs.size := by have := congrArg List.length hx.1; simp only [List.length_map] at this; omega
  apply List.ext_getElem?
  intro i
  by_cases hin : i < fs.size
  · have hff : fs[i]? = some fs[i] := Array.getElem?_eq_getElem hin
    have hof := congrArg (fun l : List (Nat × Nat) => l[i]?) hfs
    simp only [List.getElem?_map, List.getElem?_range hin, Option.map_some, Array.getElem?_toList, hff, Option.some.injEq, Prod.mk.injEq] at hof
    have hd := hi i fs[i] hff
    rw [hof.1, hof.2, hc] at hd
    have hxi : i < xs.length := by omega
    rw [List.getElem?_eq_getElem hxi] at hd
    obtain ⟨s, h1, h2, _⟩ := DataW.trod_int he hd
    have h3 := congrArg (fun l : List (DataW H) => l[i]?) hx.1
    simp only [List.getElem?_map, List.getElem?_eq_getElem hxi, List.getElem?_eq_getElem (show i < L.length by omega), Option.map_some, Option.some.injEq] at h3
    rw [h2] at h3
    simp only [DataW.lit.injEq, Lit.int.injEq, true_and] at h3
    rw [List.getElem?_map, List.getElem?_eq_getElem (show i < L.length by omega), Option.map_some, h3]
    have h4 := congrArg (fun l : List Value => l[0]?) h1
    simpa using h4
  · rw [List.getElem?_eq_none (by omega), List.getElem?_eq_none (by simp; omega)]
def firstN' : List Int := [1779033703, 3144134277, 1013904242, 2773480762, 1359893119, 2600822924, 528734635, 1541459225]
def constN' : List Int := [1116352408, 1899447441, 3049323471, 3921009573, 961987163, 1508970993, 2453635748, 2870763221, 3624381080, 310598401, 607225278, 1426881987, 1925078388, 2162078206, 2614888103, 3248222580, 3835390401, 4022224774, 264347078, 604807628, 770255983, 1249150122, 1555081692, 1996064986, 2554220882, 2821834349, 2952996808, 3210313671, 3336571891, 3584528711, 113926993, 338241895, 666307205, 773529912, 1294757372, 1396182291, 1695183700, 1986661051, 2177026350, 2456956037, 2730485921, 2820302411, 3259730800, 3345764771, 3516065817, 3600352804, 4094571909, 275423344, 430227734, 506948616, 659060556, 883997877, 958139571, 1322822218, 1537002063, 1747873779, 1955562222, 2024104815, 2227730452, 2361852424, 2428436474, 2756734187, 3204031479, 3329325298]
def laidL : List (String × DataW Unit) := [("vidimus/sha.first", Rows.laid_vidimus_sha_first), ("vidimus/sha.constants", Rows.laid_vidimus_sha_constants)]
theorem rd_glob {W : World} {g : Nat} {k : IntKind} {L : List Int} {cs : Array Value} {n : String} (hg : Tryz.prog.globalNamed n = some g) (hv : W.var? Tryz.prog n = some cs) (hcs : cs.toList = L.map (.int k ·)) (hlt : g < W.heap.size) : Rd W (fun b => b < W.heap.size) (.ptr (L.map (IV.int k))) (.pointer (some ⟨g, 0, none⟩)) := by
  refine .ptr _ g 0 (fun i => (L.map (Value.int k ·)).getD i undef) (fun _ => hlt) (fun i hi => ?_) (fun i x hx => ?_)
  · have hi : i < L.length := by simpa using hi
    have hc : cs[i]? = some (.int k L[i]) := by
      have := congrArg (fun l : List Value => l[i]?) hcs
      simpa [hi] using this
    have := World.var?_cell hg hv i
    rw [hc] at this
    rw [Nat.zero_add, this]
    simp [List.getD, hi]
  · simp only [List.getElem?_map] at hx
    cases hL : L[i]? with
    | none => rw [hL] at hx; simp at hx
    | some q =>
      rw [hL] at hx
      simp only [Option.map_some, Option.some.injEq] at hx
      subst hx
      simp only [List.getD, List.getElem?_map, hL, Option.map_some, Option.getD_some]
      exact .int k q
theorem World.var?_lt {P : Program} {w : World} {n : String} {g : Nat} {cs : Array Value} (hg : P.globalNamed n = some g) (h : w.var? P n = some cs) : g < w.heap.size := by
  cases hh : w.heap[g]? with
  | none => simp [World.var?, hg, hh] at h
  | some o => exact (Array.getElem?_eq_some_iff.1 hh).1
theorem glob_of_laid {W : World} (h : laidMet Tryz.prog laidL W) : ∀ (k : Nat) cells, E.glob[k]? = some cells → Rd W (fun b => b < W.heap.size) (.ptr cells) (.pointer (some ⟨k, 0, none⟩)) := by
  obtain ⟨ps, ⟨g, t, cs, fuel, p, q, hg, ht, hv, hd, ⟨g2, t2, cs2, fuel2, p2, q2, hg2, ht2, hv2, hd2, _⟩, _⟩, _⟩ := h
  obtain rfl := Option.some.inj ((show Tryz.prog.globalNamed "vidimus/sha.first" = some 0 by kernel_rfl).symm.trans hg)
  obtain rfl := Option.some.inj ((show Tryz.prog.globalNamed "vidimus/sha.constants" = some 1 by kernel_rfl).symm.trans hg2)
  obtain rfl := Option.some.inj ((show (Tryz.prog.globals[0]?).map (·.type) = some 192 by kernel_rfl).symm.trans ht)
  obtain rfl := Option.some.inj ((show (Tryz.prog.globals[1]?).map (·.type) = some 193 by kernel_rfl).symm.trans ht2)
  have e1 := ints_of_struct (L := firstN') Tryz.underlying192 Tryz.underlying190 (by kernel_rfl) (by kernel_rfl) (by kernel_rfl) hd
  have e2 := ints_of_trod (L := constN') Tryz.underlying193 Tryz.underlying190 (by kernel_rfl) (by kernel_rfl) hd2
  intro k cells hk
  have h0 := rd_glob hg hv e1 (World.var?_lt hg hv)
  have h1 := rd_glob hg2 hv2 e2 (World.var?_lt hg2 hv2)
  match k, hk with
  | 0, hk => obtain rfl := Option.some.inj hk; exact h0
  | 1, hk => obtain rfl := Option.some.inj hk; exact h1
  | k + 2, hk => simp [E] at hk
end Go.Proofs.YtmfilaagpobmbaaGreatDoor

namespace Go.Proofs.YtmfilaagpobmbaaGreatDoor
set_option maxRecDepth 100000
open Go Go.Abs Go.Deep Go.ChangeShapes Go.WideShapes Go.ChangeAt Go.RowKit
abbrev ghW (W : World) : Gh := ⟨fun b => b < W.heap.size, fun _ => []⟩
theorem calls_of_snd {f : Nat} {args : List AV} {vs : Array Value} {W : World} (hL : laidMet Tryz.prog laidL W) (h : SP f args [] (fun r _ => r = .i (.bool true))) (ha : L2 (AVR W (ghW W)) args vs.toList) :
    Calls Tryz.prog f vs W fun e W' => e = .returned (.bool true) ∧ Below W.heap.size W W' := by
  have hs : Sim E W (ghW W) [] := ⟨fun id B hid => by simp at hid, fun id B _ _ _ _ hid => by simp at hid, fun b hb => by obtain ⟨id, B, hid, _⟩ := hb; simp at hid, fun b hb => hb, fun _ _ => rfl, glob_of_laid hL⟩
  refine (h W _ vs hs ha).2.mono ?_
  rintro e W' ⟨v, g', r, H', rfl, _, st, _, _, hr, rfl⟩
  refine ⟨?_, st.os, st.tape, st.output, st.size, fun b hb => st.frame b hb ?_⟩
  · cases hr; rfl
  · rintro ⟨id, B, hid, _⟩; simp at hid
end Go.Proofs.YtmfilaagpobmbaaGreatDoor
