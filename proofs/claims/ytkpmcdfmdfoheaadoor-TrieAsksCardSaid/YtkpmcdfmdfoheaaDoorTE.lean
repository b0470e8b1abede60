/- A part of the proof of a seat of tries: TE. -/
import Derived.Test.YtkpmcdfmdfoheaaDoorProg
import Derived.KernelRfl
import Derived.Test.YtkpmcdfmdfoheaaDoorA5
set_option linter.all false
namespace Go.Proofs.YtkpmcdfmdfoheaaDoor
open Go Go.Abs

def firstW : List IV := [1779033703, 3144134277, 1013904242, 2773480762, 1359893119, 2600822924, 528734635, 1541459225].map (IV.int .u32)
def constW : List IV := [1116352408, 1899447441, 3049323471, 3921009573, 961987163, 1508970993, 2453635748, 2870763221, 3624381080, 310598401, 607225278, 1426881987, 1925078388, 2162078206, 2614888103, 3248222580, 3835390401, 4022224774, 264347078, 604807628, 770255983, 1249150122, 1555081692, 1996064986, 2554220882, 2821834349, 2952996808, 3210313671, 3336571891, 3584528711, 113926993, 338241895, 666307205, 773529912, 1294757372, 1396182291, 1695183700, 1986661051, 2177026350, 2456956037, 2730485921, 2820302411, 3259730800, 3345764771, 3516065817, 3600352804, 4094571909, 275423344, 430227734, 506948616, 659060556, 883997877, 958139571, 1322822218, 1537002063, 1747873779, 1955562222, 2024104815, 2227730452, 2361852424, 2428436474, 2756734187, 3204031479, 3329325298].map (IV.int .u32)
def ty0 : List TD := [⟨false, 1, 0, [], .other⟩,
  ⟨false, 1, 8, [.junk], .other⟩,
  ⟨false, 1, 8, [.imm (.int .i64 0)], .int .i64⟩,
  ⟨false, 1, 8, [.imm (.int .i64 0)], .int .i64⟩,
  ⟨false, 1, 1, [.imm (.bool false)], .bool⟩,
  ⟨false, 1, 1, [.imm (.int .u8 0)], .int .u8⟩,
  ⟨false, 1, 1, [.imm (.int .u8 0)], .int .u8⟩,
  ⟨true, 4, 24, [.imm (.int .i64 0), .imm (.int .i64 0), .imm (.bool false), .imm (.int .u8 0)], .struct [(0, 2), (1, 3), (2, 4), (3, 6)]⟩,
  ⟨true, 4, 24, [.imm (.int .i64 0), .imm (.int .i64 0), .imm (.bool false), .imm (.int .u8 0)], .struct [(0, 2), (1, 3), (2, 4), (3, 6)]⟩,
  ⟨false, 1, 16, [.imm (.str ⟨#[]⟩)], .str⟩,
  ⟨false, 1, 16, [.imm (.str ⟨#[]⟩)], .str⟩,
  ⟨false, 1, 16, [.imm (.str ⟨#[]⟩)], .str⟩,
  ⟨false, 1, 8, [.imm (.int .u64 0)], .int .u64⟩,
  ⟨true, 2, 24, [.imm (.str ⟨#[]⟩), .imm (.int .u64 0)], .struct [(0, 9), (1, 12)]⟩,
  ⟨true, 2, 24, [.imm (.str ⟨#[]⟩), .imm (.int .u64 0)], .struct [(0, 9), (1, 12)]⟩,
  ⟨false, 1, 8, [.imm .nilp], .ptr 128⟩,
  ⟨false, 1, 8, [.imm .nilp], .ptr 131⟩,
  ⟨false, 1, 8, [.imm .nilp], .ptr 138⟩,
  ⟨true, 1, 8, [.imm .nilp], .struct [(0, 17)]⟩,
  ⟨true, 1, 8, [.imm .nilp], .struct [(0, 17)]⟩]
def ty1 : List TD := [  ⟨false, 1, 16, [.junk], .other⟩,
  ⟨false, 1, 4, [.imm (.int .i32 0)], .int .i32⟩,
  ⟨false, 1, 24, [.nils], .slice 52⟩,
  ⟨false, 1, 8, [.junk], .other⟩,
  ⟨false, 1, 8, [.junk], .other⟩,
  ⟨false, 1, 8, [.imm .nilp], .ptr 74⟩,
  ⟨false, 1, 24, [.nils], .slice 63⟩,
  ⟨false, 1, 0, [], .other⟩,
  ⟨false, 1, 8, [.junk], .other⟩,
  ⟨false, 1, 8, [.junk], .other⟩,
  ⟨false, 1, 8, [.junk], .other⟩,
  ⟨false, 1, 8, [.junk], .other⟩,
  ⟨false, 1, 24, [.nils], .slice 9⟩,
  ⟨false, 1, 8, [.junk], .other⟩,
  ⟨false, 1, 24, [.nils], .slice 32⟩,
  ⟨false, 1, 8, [.junk], .other⟩,
  ⟨false, 1, 8, [.junk], .other⟩,
  ⟨false, 1, 0, [], .other⟩,
  ⟨false, 1, 8, [.junk], .other⟩,
  ⟨false, 1, 8, [.junk], .other⟩]
def ty2 : List TD := [  ⟨false, 1, 8, [.junk], .other⟩,
  ⟨false, 1, 8, [.junk], .other⟩,
  ⟨false, 1, 8, [.junk], .other⟩,
  ⟨false, 1, 8, [.junk], .other⟩,
  ⟨false, 1, 8, [.junk], .other⟩,
  ⟨false, 1, 8, [.junk], .other⟩,
  ⟨false, 1, 8, [.junk], .other⟩,
  ⟨false, 1, 8, [.junk], .other⟩,
  ⟨false, 1, 8, [.imm .nilp], .ptr 65⟩,
  ⟨false, 1, 8, [.junk], .other⟩,
  ⟨false, 1, 8, [.junk], .other⟩,
  ⟨true, 3, 40, [.imm (.int .i64 0), .imm (.str ⟨#[]⟩), .imm (.str ⟨#[]⟩)], .struct [(0, 3), (1, 9), (2, 9)]⟩,
  ⟨true, 3, 40, [.imm (.int .i64 0), .imm (.str ⟨#[]⟩), .imm (.str ⟨#[]⟩)], .struct [(0, 3), (1, 9), (2, 9)]⟩,
  ⟨true, 2, 32, [.imm (.str ⟨#[]⟩), .imm (.str ⟨#[]⟩)], .array 2 9⟩,
  ⟨false, 1, 8, [.junk], .other⟩,
  ⟨false, 1, 8, [.junk], .other⟩,
  ⟨false, 1, 8, [.junk], .other⟩,
  ⟨false, 1, 8, [.junk], .other⟩,
  ⟨false, 1, 24, [.nils], .slice 5⟩,
  ⟨false, 1, 8, [.junk], .other⟩]
def ty3 : List TD := [  ⟨false, 1, 8, [.junk], .other⟩,
  ⟨false, 1, 8, [.junk], .other⟩,
  ⟨true, 2, 32, [.imm (.str ⟨#[]⟩), .imm (.str ⟨#[]⟩)], .struct [(0, 9), (1, 9)]⟩,
  ⟨true, 2, 32, [.imm (.str ⟨#[]⟩), .imm (.str ⟨#[]⟩)], .struct [(0, 9), (1, 9)]⟩,
  ⟨true, 8, 80, [.imm (.bool false), .imm (.bool false), .imm (.str ⟨#[]⟩), .imm (.str ⟨#[]⟩), .imm (.int .i64 0), .imm .nilp, .imm .nilp, .imm (.str ⟨#[]⟩)], .struct [(0, 4), (1, 4), (2, 9), (3, 9), (4, 3), (5, 48), (6, 48), (7, 9)]⟩,
  ⟨true, 8, 80, [.imm (.bool false), .imm (.bool false), .imm (.str ⟨#[]⟩), .imm (.str ⟨#[]⟩), .imm (.int .i64 0), .imm .nilp, .imm .nilp, .imm (.str ⟨#[]⟩)], .struct [(0, 4), (1, 4), (2, 9), (3, 9), (4, 3), (5, 48), (6, 48), (7, 9)]⟩,
  ⟨false, 1, 8, [.junk], .other⟩,
  ⟨false, 1, 8, [.junk], .other⟩,
  ⟨false, 1, 8, [.junk], .other⟩,
  ⟨false, 1, 8, [.imm (.int .u64 0)], .int .u64⟩,
  ⟨false, 1, 8, [.junk], .other⟩,
  ⟨false, 1, 0, [], .other⟩,
  ⟨false, 1, 8, [.junk], .other⟩,
  ⟨true, 2, 16, [.imm .nilp, .imm (.int .i64 0)], .struct [(0, 48), (1, 3)]⟩,
  ⟨true, 2, 16, [.imm .nilp, .imm (.int .i64 0)], .struct [(0, 48), (1, 3)]⟩,
  ⟨false, 1, 8, [.junk], .other⟩,
  ⟨false, 1, 8, [.junk], .other⟩,
  ⟨false, 1, 24, [.nils], .slice 91⟩,
  ⟨false, 1, 8, [.junk], .other⟩,
  ⟨false, 1, 24, [.nils], .slice 89⟩]
def ty4 : List TD := [  ⟨false, 1, 8, [.junk], .other⟩,
  ⟨false, 1, 8, [.junk], .other⟩,
  ⟨false, 1, 8, [.junk], .other⟩,
  ⟨false, 1, 8, [.junk], .other⟩,
  ⟨false, 1, 8, [.junk], .other⟩,
  ⟨false, 1, 8, [.junk], .other⟩,
  ⟨false, 1, 8, [.junk], .other⟩,
  ⟨false, 1, 8, [.junk], .other⟩,
  ⟨false, 1, 8, [.junk], .other⟩,
  ⟨false, 1, 8, [.imm (.int .u64 0)], .int .u64⟩,
  ⟨false, 1, 8, [.junk], .other⟩,
  ⟨false, 1, 4, [.imm (.int .u32 0)], .int .u32⟩,
  ⟨false, 1, 8, [.junk], .other⟩,
  ⟨false, 1, 0, [], .other⟩,
  ⟨false, 1, 8, [.junk], .other⟩,
  ⟨false, 1, 8, [.junk], .other⟩,
  ⟨false, 1, 8, [.imm .nilp], .ptr 98⟩,
  ⟨true, 2, 32, [.imm .nilp, .nils], .struct [(0, 96), (1, 58)]⟩,
  ⟨true, 2, 32, [.imm .nilp, .nils], .struct [(0, 96), (1, 58)]⟩,
  ⟨false, 1, 8, [.junk], .other⟩]
def ty5 : List TD := [  ⟨false, 1, 16, [.junk], .other⟩,
  ⟨false, 1, 16, [.junk], .other⟩,
  ⟨false, 1, 0, [], .other⟩,
  ⟨false, 1, 8, [.junk], .other⟩,
  ⟨false, 1, 8, [.junk], .other⟩,
  ⟨false, 1, 8, [.junk], .other⟩,
  ⟨false, 1, 8, [.junk], .other⟩,
  ⟨false, 1, 8, [.junk], .other⟩,
  ⟨false, 1, 0, [], .other⟩,
  ⟨false, 1, 8, [.junk], .other⟩,
  ⟨false, 1, 0, [], .other⟩,
  ⟨false, 1, 8, [.junk], .other⟩,
  ⟨false, 1, 8, [.imm .nilp], .ptr 5⟩,
  ⟨false, 1, 4, [.imm (.int .u32 0)], .int .u32⟩,
  ⟨true, 8, 32, [.imm (.int .u32 0), .imm (.int .u32 0), .imm (.int .u32 0), .imm (.int .u32 0), .imm (.int .u32 0), .imm (.int .u32 0), .imm (.int .u32 0), .imm (.int .u32 0)], .struct [(0, 113), (1, 113), (2, 113), (3, 113), (4, 113), (5, 113), (6, 113), (7, 113)]⟩,
  ⟨true, 8, 32, [.imm (.int .u32 0), .imm (.int .u32 0), .imm (.int .u32 0), .imm (.int .u32 0), .imm (.int .u32 0), .imm (.int .u32 0), .imm (.int .u32 0), .imm (.int .u32 0)], .struct [(0, 113), (1, 113), (2, 113), (3, 113), (4, 113), (5, 113), (6, 113), (7, 113)]⟩,
  ⟨false, 1, 8, [.junk], .other⟩,
  ⟨true, 64, 256, [.imm (.int .u32 0), .imm (.int .u32 0), .imm (.int .u32 0), .imm (.int .u32 0), .imm (.int .u32 0), .imm (.int .u32 0), .imm (.int .u32 0), .imm (.int .u32 0), .imm (.int .u32 0), .imm (.int .u32 0), .imm (.int .u32 0), .imm (.int .u32 0), .imm (.int .u32 0), .imm (.int .u32 0), .imm (.int .u32 0), .imm (.int .u32 0), .imm (.int .u32 0), .imm (.int .u32 0), .imm (.int .u32 0), .imm (.int .u32 0), .imm (.int .u32 0), .imm (.int .u32 0), .imm (.int .u32 0), .imm (.int .u32 0), .imm (.int .u32 0), .imm (.int .u32 0), .imm (.int .u32 0), .imm (.int .u32 0), .imm (.int .u32 0), .imm (.int .u32 0), .imm (.int .u32 0), .imm (.int .u32 0), .imm (.int .u32 0), .imm (.int .u32 0), .imm (.int .u32 0), .imm (.int .u32 0), .imm (.int .u32 0), .imm (.int .u32 0), .imm (.int .u32 0), .imm (.int .u32 0), .imm (.int .u32 0), .imm (.int .u32 0), .imm (.int .u32 0), .imm (.int .u32 0), .imm (.int .u32 0), .imm (.int .u32 0), .imm (.int .u32 0), .imm (.int .u32 0), .imm (.int .u32 0), .imm (.int .u32 0), .imm (.int .u32 0), .imm (.int .u32 0), .imm (.int .u32 0), .imm (.int .u32 0), .imm (.int .u32 0), .imm (.int .u32 0), .imm (.int .u32 0), .imm (.int .u32 0), .imm (.int .u32 0), .imm (.int .u32 0), .imm (.int .u32 0), .imm (.int .u32 0), .imm (.int .u32 0), .imm (.int .u32 0)], .array 64 113⟩,
  ⟨false, 1, 8, [.junk], .other⟩,
  ⟨false, 1, 8, [.junk], .other⟩]
def ty6 : List TD := [  ⟨false, 1, 8, [.junk], .other⟩,
  ⟨false, 1, 24, [.nils], .slice 113⟩,
  ⟨false, 1, 8, [.imm .nilp], .other⟩,
  ⟨false, 1, 8, [.junk], .other⟩,
  ⟨false, 1, 8, [.junk], .other⟩,
  ⟨false, 1, 8, [.junk], .other⟩,
  ⟨false, 1, 8, [.junk], .other⟩,
  ⟨true, 4, 40, [.imm .nilp, .imm .nilp, .imm .nilp, .imm (.str ⟨#[]⟩)], .struct [(0, 17), (1, 17), (2, 17), (3, 9)]⟩,
  ⟨true, 4, 40, [.imm .nilp, .imm .nilp, .imm .nilp, .imm (.str ⟨#[]⟩)], .struct [(0, 17), (1, 17), (2, 17), (3, 9)]⟩,
  ⟨true, 0, 0, [], .array 0 16⟩,
  ⟨true, 0, 0, [], .struct [(0, 129)]⟩,
  ⟨true, 0, 0, [], .struct [(0, 129)]⟩,
  ⟨false, 1, 1, [.imm (.int .u8 0)], .int .u8⟩,
  ⟨false, 1, 1, [.imm (.int .u8 0)], .int .u8⟩,
  ⟨false, 1, 8, [.junk], .other⟩,
  ⟨false, 1, 4, [.imm (.int .i32 0)], .int .i32⟩,
  ⟨false, 1, 4, [.imm (.int .i32 0)], .int .i32⟩,
  ⟨true, 11, 48, [.imm (.int .u64 0), .imm (.int .u64 0), .imm (.int .u32 0), .imm (.int .u8 0), .imm (.int .u8 0), .imm (.int .u8 0), .imm (.int .u8 0), .junk, .imm .nilp, .imm (.int .i32 0), .imm (.int .i32 0)], .struct [(0, 12), (1, 12), (2, 91), (3, 132), (4, 5), (5, 5), (6, 133), (7, 134), (8, 112), (9, 135), (10, 136)]⟩,
  ⟨true, 11, 48, [.imm (.int .u64 0), .imm (.int .u64 0), .imm (.int .u32 0), .imm (.int .u8 0), .imm (.int .u8 0), .imm (.int .u8 0), .imm (.int .u8 0), .junk, .imm .nilp, .imm (.int .i32 0), .imm (.int .i32 0)], .struct [(0, 12), (1, 12), (2, 91), (3, 132), (4, 5), (5, 5), (6, 133), (7, 134), (8, 112), (9, 135), (10, 136)]⟩]
def tyL : List TD := ty0 ++ ty1 ++ ty2 ++ ty3 ++ ty4 ++ ty5 ++ ty6
noncomputable def E : Env := { ty := tyL, glob := [firstW, constW], eqs := [63], fall := tdOf Tryd.prog }
theorem tyEq : tyL = (List.range Tryd.prog.types.size).map (tdOf Tryd.prog) := by kernel_rfl
theorem E_ty : E.ty = tyL := by kernel_rfl
theorem tyOk : TyOk Tryd.prog E := tyOk_of (by kernel_rfl) (E_ty.trans tyEq)
theorem eqOk : EqOk Tryd.prog E := by
  intro t ht
  have ht : t = 63 := by simpa [E] using ht
  subst ht
  refine ⟨by kernel_rfl, by kernel_rfl, ?_⟩
  have h : (Tryd.prog.fieldsOf 63).toList.all (fun f => f.name != "_") = true := by kernel_rfl
  intro f hf
  have := List.all_eq_true.mp h f hf
  simpa using this
theorem mixed : Tryd.prog.follows .mixedOrders = true := by kernel_rfl
end Go.Proofs.YtkpmcdfmdfoheaaDoor
