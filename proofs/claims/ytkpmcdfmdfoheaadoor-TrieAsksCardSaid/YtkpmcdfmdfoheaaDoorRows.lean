/-
  NARROWER THAN 'FOR EVERY INPUT', by the rows' own cells (each row's printed sentence says how): TrieOne: laid · TrieBack: laid · TrieLeaf: laid · TrieRuns: laid · TrieKeeps: laid · TrieAsks: laid · TrieParts: laid.
  DERIVED. THE GIVEN ROWS OF THIS SEAT. 7 by the template 'for every input the law returns true; each argument reads behind the call as it read before'; 0 by the template 'total and deterministic' (their statements: YtkpmcdfmdfoheaaDoorTotals.lean).
  GIVEN WITH THE SEED: the statements are not yours to turn. If you find one false, say at which input.
  Laid BY PROGRAM, IN A SANDBOX (cutbox-rows.mjs): the forced cells as the released guide's own fill.sh prints them over the translation 4e3c06e26e7b4e30… (all of the seat's roots in one cut). By AI agents, Wed Nov 11 2026. No macro, syntax, notation, axiom, sorry.
-/
import Derived.Test.YtkpmcdfmdfoheaaDoorChecked
import GoSem.Claim
import GoSem.ClaimJoined
import GoSem.ClaimMapViews
import Derived.JoinedTies
import Derived.KernelRfl
namespace Go.Proofs.YtkpmcdfmdfoheaaDoor
/- THE CELL 'sum', in the pinned program and in every row, IS THE sha256 OF THE DUMP (.gsa) THAT YtkpmcdfmdfoheaaDoorProg.lean LOADS. Nothing in Lean hashes anything: it is a label: what it is worth is what the hold of that sum in a sandbox is worth. -/
noncomputable def Tryd.pinned : Pinned := { name := "ytkpmcdfmdfoheaadoor", sum := "4e3c06e26e7b4e303ea2dc6f7d28bfea389fc6df794bba938d19201e655d27f6", checked := Tryd.checked }
namespace Rows
def none {H : Type} : Left H := { results := [], args := [] }

/- WHAT THE LISTED PACKAGE-LEVEL VARIABLES READ AS WHEN THE CALL BEGINS. Each datum BY PROGRAM (the guide's laid-datum.mjs) off the statement by which the dump's own 'gosem.cut.vars' lays the variable. In a bare row this is a premise. The card (YtkpmcdfmdfoheaaDoorCards.lean) ties it to the program's text. -/
def laid_vidimus_sha_first {H : Type} : DataW H := .agg [.lit (.int .u32 1779033703), .lit (.int .u32 3144134277), .lit (.int .u32 1013904242), .lit (.int .u32 2773480762), .lit (.int .u32 1359893119), .lit (.int .u32 2600822924), .lit (.int .u32 528734635), .lit (.int .u32 1541459225)]
def laid_vidimus_sha_constants {H : Type} : DataW H := .agg [.lit (.int .u32 1116352408), .lit (.int .u32 1899447441), .lit (.int .u32 3049323471), .lit (.int .u32 3921009573), .lit (.int .u32 961987163), .lit (.int .u32 1508970993), .lit (.int .u32 2453635748), .lit (.int .u32 2870763221), .lit (.int .u32 3624381080), .lit (.int .u32 310598401), .lit (.int .u32 607225278), .lit (.int .u32 1426881987), .lit (.int .u32 1925078388), .lit (.int .u32 2162078206), .lit (.int .u32 2614888103), .lit (.int .u32 3248222580), .lit (.int .u32 3835390401), .lit (.int .u32 4022224774), .lit (.int .u32 264347078), .lit (.int .u32 604807628), .lit (.int .u32 770255983), .lit (.int .u32 1249150122), .lit (.int .u32 1555081692), .lit (.int .u32 1996064986), .lit (.int .u32 2554220882), .lit (.int .u32 2821834349), .lit (.int .u32 2952996808), .lit (.int .u32 3210313671), .lit (.int .u32 3336571891), .lit (.int .u32 3584528711), .lit (.int .u32 113926993), .lit (.int .u32 338241895), .lit (.int .u32 666307205), .lit (.int .u32 773529912), .lit (.int .u32 1294757372), .lit (.int .u32 1396182291), .lit (.int .u32 1695183700), .lit (.int .u32 1986661051), .lit (.int .u32 2177026350), .lit (.int .u32 2456956037), .lit (.int .u32 2730485921), .lit (.int .u32 2820302411), .lit (.int .u32 3259730800), .lit (.int .u32 3345764771), .lit (.int .u32 3516065817), .lit (.int .u32 3600352804), .lit (.int .u32 4094571909), .lit (.int .u32 275423344), .lit (.int .u32 430227734), .lit (.int .u32 506948616), .lit (.int .u32 659060556), .lit (.int .u32 883997877), .lit (.int .u32 958139571), .lit (.int .u32 1322822218), .lit (.int .u32 1537002063), .lit (.int .u32 1747873779), .lit (.int .u32 1955562222), .lit (.int .u32 2024104815), .lit (.int .u32 2227730452), .lit (.int .u32 2361852424), .lit (.int .u32 2428436474), .lit (.int .u32 2756734187), .lit (.int .u32 3204031479), .lit (.int .u32 3329325298)]

/-- 'vidimuslaw05.TrieOne': WHATEVER THE INPUT: true; the input reads as it did. -/
def trieOneSpec : ChangeSpec := { name := "trieOne", fn := fun _ => fun
  | [d1, d2] => { results := [.lit (.bool true)], args := [d1, d2] }
  | _ => none }
def trieOneRow : OpenClaim := { program := "ytkpmcdfmdfoheaadoor", sum := "4e3c06e26e7b4e303ea2dc6f7d28bfea389fc6df794bba938d19201e655d27f6", func := "vidimus/vidimuslaw05.TrieOne", spec := "trieOne", inPlace := ["internal/abi.NoEscape", "internal/bytealg.MakeNoZero"], recurses := true, named := ["vidimus/sha.first", "vidimus/sha.constants"], apart := false, laid := [("vidimus/sha.first", laid_vidimus_sha_first), ("vidimus/sha.constants", laid_vidimus_sha_constants)] }
def TrieOneSaid : Prop := trieOneRow.holds Tryd.pinned (OpenSpec.ofChange trieOneSpec)

/-- ITS FALSE NEIGHBOUR: 'it returns false'. Refute it at one input. -/
def trieOneWrong : ChangeSpec := { name := "trieOne", fn := fun _ => fun
  | [d1, d2] => { results := [.lit (.bool false)], args := [d1, d2] }
  | _ => none }
def TrieOneWrongFalsely : Prop := trieOneRow.holds Tryd.pinned (OpenSpec.ofChange trieOneWrong)

/-- 'vidimuslaw05.TrieBack': WHATEVER THE INPUT: true; the input reads as it did. -/
def trieBackSpec : ChangeSpec := { name := "trieBack", fn := fun _ => fun
  | [d1, d2, d3] => { results := [.lit (.bool true)], args := [d1, d2, d3] }
  | _ => none }
def trieBackRow : OpenClaim := { program := "ytkpmcdfmdfoheaadoor", sum := "4e3c06e26e7b4e303ea2dc6f7d28bfea389fc6df794bba938d19201e655d27f6", func := "vidimus/vidimuslaw05.TrieBack", spec := "trieBack", inPlace := ["internal/abi.NoEscape", "internal/bytealg.MakeNoZero"], recurses := true, named := ["vidimus/sha.first", "vidimus/sha.constants"], apart := false, laid := [("vidimus/sha.first", laid_vidimus_sha_first), ("vidimus/sha.constants", laid_vidimus_sha_constants)] }
def TrieBackSaid : Prop := trieBackRow.holds Tryd.pinned (OpenSpec.ofChange trieBackSpec)

/-- ITS FALSE NEIGHBOUR: 'it returns false'. Refute it at one input. -/
def trieBackWrong : ChangeSpec := { name := "trieBack", fn := fun _ => fun
  | [d1, d2, d3] => { results := [.lit (.bool false)], args := [d1, d2, d3] }
  | _ => none }
def TrieBackWrongFalsely : Prop := trieBackRow.holds Tryd.pinned (OpenSpec.ofChange trieBackWrong)

/-- 'vidimuslaw05.TrieLeaf': WHATEVER THE INPUT: true; the input reads as it did. -/
def trieLeafSpec : ChangeSpec := { name := "trieLeaf", fn := fun _ => fun
  | [d1, d2, d3] => { results := [.lit (.bool true)], args := [d1, d2, d3] }
  | _ => none }
def trieLeafRow : OpenClaim := { program := "ytkpmcdfmdfoheaadoor", sum := "4e3c06e26e7b4e303ea2dc6f7d28bfea389fc6df794bba938d19201e655d27f6", func := "vidimus/vidimuslaw05.TrieLeaf", spec := "trieLeaf", inPlace := ["internal/abi.NoEscape", "internal/bytealg.MakeNoZero"], recurses := true, named := ["vidimus/sha.first", "vidimus/sha.constants"], apart := false, laid := [("vidimus/sha.first", laid_vidimus_sha_first), ("vidimus/sha.constants", laid_vidimus_sha_constants)] }
def TrieLeafSaid : Prop := trieLeafRow.holds Tryd.pinned (OpenSpec.ofChange trieLeafSpec)

/-- ITS FALSE NEIGHBOUR: 'it returns false'. Refute it at one input. -/
def trieLeafWrong : ChangeSpec := { name := "trieLeaf", fn := fun _ => fun
  | [d1, d2, d3] => { results := [.lit (.bool false)], args := [d1, d2, d3] }
  | _ => none }
def TrieLeafWrongFalsely : Prop := trieLeafRow.holds Tryd.pinned (OpenSpec.ofChange trieLeafWrong)

/-- 'vidimuslaw05.TrieRuns': WHATEVER THE INPUT: true; the input reads as it did. -/
def trieRunsSpec : ChangeSpec := { name := "trieRuns", fn := fun _ => fun
  | [d] => { results := [.lit (.bool true)], args := [d] }
  | _ => none }
def trieRunsRow : OpenClaim := { program := "ytkpmcdfmdfoheaadoor", sum := "4e3c06e26e7b4e303ea2dc6f7d28bfea389fc6df794bba938d19201e655d27f6", func := "vidimus/vidimuslaw05.TrieRuns", spec := "trieRuns", inPlace := ["internal/abi.NoEscape", "internal/bytealg.MakeNoZero"], recurses := true, named := ["vidimus/sha.first", "vidimus/sha.constants"], apart := false, laid := [("vidimus/sha.first", laid_vidimus_sha_first), ("vidimus/sha.constants", laid_vidimus_sha_constants)] }
def TrieRunsSaid : Prop := trieRunsRow.holds Tryd.pinned (OpenSpec.ofChange trieRunsSpec)

/-- ITS FALSE NEIGHBOUR: 'it returns false'. Refute it at one input. -/
def trieRunsWrong : ChangeSpec := { name := "trieRuns", fn := fun _ => fun
  | [d] => { results := [.lit (.bool false)], args := [d] }
  | _ => none }
def TrieRunsWrongFalsely : Prop := trieRunsRow.holds Tryd.pinned (OpenSpec.ofChange trieRunsWrong)

/-- 'vidimuslaw05.TrieKeeps': WHATEVER THE INPUT: true; the input reads as it did. -/
def trieKeepsSpec : ChangeSpec := { name := "trieKeeps", fn := fun _ => fun
  | [d1, d2] => { results := [.lit (.bool true)], args := [d1, d2] }
  | _ => none }
def trieKeepsRow : OpenClaim := { program := "ytkpmcdfmdfoheaadoor", sum := "4e3c06e26e7b4e303ea2dc6f7d28bfea389fc6df794bba938d19201e655d27f6", func := "vidimus/vidimuslaw05.TrieKeeps", spec := "trieKeeps", inPlace := ["internal/abi.NoEscape", "internal/bytealg.MakeNoZero"], recurses := true, named := ["vidimus/sha.first", "vidimus/sha.constants"], apart := false, laid := [("vidimus/sha.first", laid_vidimus_sha_first), ("vidimus/sha.constants", laid_vidimus_sha_constants)] }
def TrieKeepsSaid : Prop := trieKeepsRow.holds Tryd.pinned (OpenSpec.ofChange trieKeepsSpec)

/-- ITS FALSE NEIGHBOUR: 'it returns false'. Refute it at one input. -/
def trieKeepsWrong : ChangeSpec := { name := "trieKeeps", fn := fun _ => fun
  | [d1, d2] => { results := [.lit (.bool false)], args := [d1, d2] }
  | _ => none }
def TrieKeepsWrongFalsely : Prop := trieKeepsRow.holds Tryd.pinned (OpenSpec.ofChange trieKeepsWrong)

/-- 'vidimuslaw05.TrieAsks': WHATEVER THE INPUT: true; the input reads as it did. -/
def trieAsksSpec : ChangeSpec := { name := "trieAsks", fn := fun _ => fun
  | [d1, d2, d3] => { results := [.lit (.bool true)], args := [d1, d2, d3] }
  | _ => none }
def trieAsksRow : OpenClaim := { program := "ytkpmcdfmdfoheaadoor", sum := "4e3c06e26e7b4e303ea2dc6f7d28bfea389fc6df794bba938d19201e655d27f6", func := "vidimus/vidimuslaw05.TrieAsks", spec := "trieAsks", inPlace := ["internal/abi.NoEscape", "internal/bytealg.MakeNoZero"], recurses := true, named := ["vidimus/sha.first", "vidimus/sha.constants"], apart := false, laid := [("vidimus/sha.first", laid_vidimus_sha_first), ("vidimus/sha.constants", laid_vidimus_sha_constants)] }
def TrieAsksSaid : Prop := trieAsksRow.holds Tryd.pinned (OpenSpec.ofChange trieAsksSpec)

/-- ITS FALSE NEIGHBOUR: 'it returns false'. Refute it at one input. -/
def trieAsksWrong : ChangeSpec := { name := "trieAsks", fn := fun _ => fun
  | [d1, d2, d3] => { results := [.lit (.bool false)], args := [d1, d2, d3] }
  | _ => none }
def TrieAsksWrongFalsely : Prop := trieAsksRow.holds Tryd.pinned (OpenSpec.ofChange trieAsksWrong)

/-- 'vidimuslaw05.TrieParts': WHATEVER THE INPUT: true; the input reads as it did. -/
def triePartsSpec : ChangeSpec := { name := "trieParts", fn := fun _ => fun
  | [d1, d2, d3] => { results := [.lit (.bool true)], args := [d1, d2, d3] }
  | _ => none }
def triePartsRow : OpenClaim := { program := "ytkpmcdfmdfoheaadoor", sum := "4e3c06e26e7b4e303ea2dc6f7d28bfea389fc6df794bba938d19201e655d27f6", func := "vidimus/vidimuslaw05.TrieParts", spec := "trieParts", inPlace := ["internal/abi.NoEscape", "internal/bytealg.MakeNoZero"], recurses := true, named := ["vidimus/sha.first", "vidimus/sha.constants"], apart := false, laid := [("vidimus/sha.first", laid_vidimus_sha_first), ("vidimus/sha.constants", laid_vidimus_sha_constants)] }
def TriePartsSaid : Prop := triePartsRow.holds Tryd.pinned (OpenSpec.ofChange triePartsSpec)

/-- ITS FALSE NEIGHBOUR: 'it returns false'. Refute it at one input. -/
def triePartsWrong : ChangeSpec := { name := "trieParts", fn := fun _ => fun
  | [d1, d2, d3] => { results := [.lit (.bool false)], args := [d1, d2, d3] }
  | _ => none }
def TriePartsWrongFalsely : Prop := triePartsRow.holds Tryd.pinned (OpenSpec.ofChange triePartsWrong)

/- THE SECOND FORM. 'bulk': how many values and letters a reading holds, each counted each time it is reached (what is shared counts as often as it is met; a slice's spare places count too). A statement '..UptoSaid' is the law's where the arguments, and the package variables that the reading takes, are together of bulk at most 1048576: NARROWER than '..Said'. Prove '..Said' where nothing that the law and all that it calls make is longer than what came in: it says more and counts as full. Else prove '..UptoSaid'. A law counts once. -/
mutual
def uptoBulk {H : Type} : DataW H → Nat
  | .lit (.string bytes) => bytes.length + 1
  | .lit _ => 1
  | .nil => 1
  | .ptr d => uptoBulk d + 1
  | .slice elems spare => uptoBulkAll elems + uptoBulkAll spare + 1
  | .agg parts => uptoBulkAll parts + 1
  | .iface _ d => uptoBulk d + 1
  | .map entries => uptoBulkEntries entries + 1
  | .held _ => 1
def uptoBulkAll {H : Type} : List (DataW H) → Nat
  | [] => 0
  | d :: r => uptoBulk d + uptoBulkAll r
def uptoBulkEntries {H : Type} : List (Lit × DataW H) → Nat
  | [] => 0
  | x :: r => uptoBulkEntry x + uptoBulkEntries r
def uptoBulkEntry {H : Type} : Lit × DataW H → Nat
  | (.string bytes, d) => bytes.length + uptoBulk d + 1
  | (_, d) => uptoBulk d + 1
 end
def uptoSmall : (H : Type) → List (DataW H) → Bool := fun _ ds => decide (uptoBulkAll ds ≤ 1048576)
def OpenSpec.upto (s : _root_.Go.ChangeSpec) : _root_.Go.OpenSpec := { _root_.Go.OpenSpec.ofChange s with cond := some uptoSmall }

/-- 'vidimuslaw05.TrieOne', WHERE WHAT IT READS IS OF BULK AT MOST 1048576: true; the input reads as it did. -/
def trieOneUptoRow : OpenClaim := { program := "ytkpmcdfmdfoheaadoor", sum := "4e3c06e26e7b4e303ea2dc6f7d28bfea389fc6df794bba938d19201e655d27f6", func := "vidimus/vidimuslaw05.TrieOne", spec := "trieOne", inPlace := ["internal/abi.NoEscape", "internal/bytealg.MakeNoZero"], recurses := true, named := ["vidimus/sha.first", "vidimus/sha.constants"], apart := false, laid := [("vidimus/sha.first", laid_vidimus_sha_first), ("vidimus/sha.constants", laid_vidimus_sha_constants)], narrowed := true }
def TrieOneUptoSaid : Prop := trieOneUptoRow.holds Tryd.pinned (OpenSpec.upto trieOneSpec)

/-- 'vidimuslaw05.TrieBack', WHERE WHAT IT READS IS OF BULK AT MOST 1048576: true; the input reads as it did. -/
def trieBackUptoRow : OpenClaim := { program := "ytkpmcdfmdfoheaadoor", sum := "4e3c06e26e7b4e303ea2dc6f7d28bfea389fc6df794bba938d19201e655d27f6", func := "vidimus/vidimuslaw05.TrieBack", spec := "trieBack", inPlace := ["internal/abi.NoEscape", "internal/bytealg.MakeNoZero"], recurses := true, named := ["vidimus/sha.first", "vidimus/sha.constants"], apart := false, laid := [("vidimus/sha.first", laid_vidimus_sha_first), ("vidimus/sha.constants", laid_vidimus_sha_constants)], narrowed := true }
def TrieBackUptoSaid : Prop := trieBackUptoRow.holds Tryd.pinned (OpenSpec.upto trieBackSpec)

/-- 'vidimuslaw05.TrieLeaf', WHERE WHAT IT READS IS OF BULK AT MOST 1048576: true; the input reads as it did. -/
def trieLeafUptoRow : OpenClaim := { program := "ytkpmcdfmdfoheaadoor", sum := "4e3c06e26e7b4e303ea2dc6f7d28bfea389fc6df794bba938d19201e655d27f6", func := "vidimus/vidimuslaw05.TrieLeaf", spec := "trieLeaf", inPlace := ["internal/abi.NoEscape", "internal/bytealg.MakeNoZero"], recurses := true, named := ["vidimus/sha.first", "vidimus/sha.constants"], apart := false, laid := [("vidimus/sha.first", laid_vidimus_sha_first), ("vidimus/sha.constants", laid_vidimus_sha_constants)], narrowed := true }
def TrieLeafUptoSaid : Prop := trieLeafUptoRow.holds Tryd.pinned (OpenSpec.upto trieLeafSpec)

/-- 'vidimuslaw05.TrieRuns', WHERE WHAT IT READS IS OF BULK AT MOST 1048576: true; the input reads as it did. -/
def trieRunsUptoRow : OpenClaim := { program := "ytkpmcdfmdfoheaadoor", sum := "4e3c06e26e7b4e303ea2dc6f7d28bfea389fc6df794bba938d19201e655d27f6", func := "vidimus/vidimuslaw05.TrieRuns", spec := "trieRuns", inPlace := ["internal/abi.NoEscape", "internal/bytealg.MakeNoZero"], recurses := true, named := ["vidimus/sha.first", "vidimus/sha.constants"], apart := false, laid := [("vidimus/sha.first", laid_vidimus_sha_first), ("vidimus/sha.constants", laid_vidimus_sha_constants)], narrowed := true }
def TrieRunsUptoSaid : Prop := trieRunsUptoRow.holds Tryd.pinned (OpenSpec.upto trieRunsSpec)

/-- 'vidimuslaw05.TrieKeeps', WHERE WHAT IT READS IS OF BULK AT MOST 1048576: true; the input reads as it did. -/
def trieKeepsUptoRow : OpenClaim := { program := "ytkpmcdfmdfoheaadoor", sum := "4e3c06e26e7b4e303ea2dc6f7d28bfea389fc6df794bba938d19201e655d27f6", func := "vidimus/vidimuslaw05.TrieKeeps", spec := "trieKeeps", inPlace := ["internal/abi.NoEscape", "internal/bytealg.MakeNoZero"], recurses := true, named := ["vidimus/sha.first", "vidimus/sha.constants"], apart := false, laid := [("vidimus/sha.first", laid_vidimus_sha_first), ("vidimus/sha.constants", laid_vidimus_sha_constants)], narrowed := true }
def TrieKeepsUptoSaid : Prop := trieKeepsUptoRow.holds Tryd.pinned (OpenSpec.upto trieKeepsSpec)

/-- 'vidimuslaw05.TrieAsks', WHERE WHAT IT READS IS OF BULK AT MOST 1048576: true; the input reads as it did. -/
def trieAsksUptoRow : OpenClaim := { program := "ytkpmcdfmdfoheaadoor", sum := "4e3c06e26e7b4e303ea2dc6f7d28bfea389fc6df794bba938d19201e655d27f6", func := "vidimus/vidimuslaw05.TrieAsks", spec := "trieAsks", inPlace := ["internal/abi.NoEscape", "internal/bytealg.MakeNoZero"], recurses := true, named := ["vidimus/sha.first", "vidimus/sha.constants"], apart := false, laid := [("vidimus/sha.first", laid_vidimus_sha_first), ("vidimus/sha.constants", laid_vidimus_sha_constants)], narrowed := true }
def TrieAsksUptoSaid : Prop := trieAsksUptoRow.holds Tryd.pinned (OpenSpec.upto trieAsksSpec)

/-- 'vidimuslaw05.TrieParts', WHERE WHAT IT READS IS OF BULK AT MOST 1048576: true; the input reads as it did. -/
def triePartsUptoRow : OpenClaim := { program := "ytkpmcdfmdfoheaadoor", sum := "4e3c06e26e7b4e303ea2dc6f7d28bfea389fc6df794bba938d19201e655d27f6", func := "vidimus/vidimuslaw05.TrieParts", spec := "trieParts", inPlace := ["internal/abi.NoEscape", "internal/bytealg.MakeNoZero"], recurses := true, named := ["vidimus/sha.first", "vidimus/sha.constants"], apart := false, laid := [("vidimus/sha.first", laid_vidimus_sha_first), ("vidimus/sha.constants", laid_vidimus_sha_constants)], narrowed := true }
def TriePartsUptoSaid : Prop := triePartsUptoRow.holds Tryd.pinned (OpenSpec.upto triePartsSpec)

end Rows
end Go.Proofs.YtkpmcdfmdfoheaaDoor
