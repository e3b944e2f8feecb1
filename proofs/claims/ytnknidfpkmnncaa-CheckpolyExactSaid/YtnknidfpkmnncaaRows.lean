/-
  No cell of these rows narrows 'for every input' (looked for: loops, veiled, ifaces, maps, wideKeys, modest, calm, conditions, laid).
  DERIVED. THE GIVEN ROWS OF THIS SEAT. 9 by the template 'for every input the law returns true; each argument reads behind the call as it read before'; 0 by the template 'total and deterministic' (their statements: YtnknidfpkmnncaaTotals.lean).
  GIVEN WITH THE SEED: the statements are not yours to turn. If you find one false, say at which input.
  Laid BY PROGRAM, IN A SANDBOX (cutbox-rows.mjs): the forced cells as the released guide's own fill.sh prints them over the translation e1dbd1096e0f9d57… (all of the seat's roots in one cut). By AI agents, Wed Nov 11 2026. No macro, syntax, notation, axiom, sorry.
-/
import Derived.Test.YtnknidfpkmnncaaChecked
import GoSem.Claim
import GoSem.ClaimJoined
import GoSem.ClaimMapViews
import Derived.JoinedTies
import Derived.KernelRfl
namespace Go.Proofs.Ytnknidfpkmnncaa
/- THE CELL 'sum', in the pinned program and in every row, IS THE sha256 OF THE DUMP (.gsa) THAT YtnknidfpkmnncaaProg.lean LOADS. Nothing in Lean hashes anything: it is a label: what it is worth is what the hold of that sum in a sandbox is worth. -/
noncomputable def Try.pinned : Pinned := { name := "ytnknidfpkmnncaa", sum := "e1dbd1096e0f9d57e93fd384f11085be99a971fbb059d1da0ccd0e131dccb3e9", checked := Try.checked }
namespace Rows
def none {H : Type} : Left H := { results := [], args := [] }

/-- 'cylinderlaw54.CheckpolyCompare': WHATEVER THE INPUT: true; the input reads as it did. -/
def checkpolyCompareSpec : ChangeSpec := { name := "checkpolyCompare", fn := fun _ => fun
  | [d1, d2, d3] => { results := [.lit (.bool true)], args := [d1, d2, d3] }
  | _ => none }
def checkpolyCompareRow : OpenClaim := { program := "ytnknidfpkmnncaa", sum := "e1dbd1096e0f9d57e93fd384f11085be99a971fbb059d1da0ccd0e131dccb3e9", func := "cylinder/cylinderlaw54.CheckpolyCompare", spec := "checkpolyCompare", unfollowed := true, recurses := true, apart := false }
def CheckpolyCompareSaid : Prop := checkpolyCompareRow.holds Try.pinned (OpenSpec.ofChange checkpolyCompareSpec)

/-- ITS FALSE NEIGHBOUR: 'it returns false'. Refute it at one input. -/
def checkpolyCompareWrong : ChangeSpec := { name := "checkpolyCompare", fn := fun _ => fun
  | [d1, d2, d3] => { results := [.lit (.bool false)], args := [d1, d2, d3] }
  | _ => none }
def CheckpolyCompareWrongFalsely : Prop := checkpolyCompareRow.holds Try.pinned (OpenSpec.ofChange checkpolyCompareWrong)

/-- 'cylinderlaw54.CheckpolySums': WHATEVER THE INPUT: true; the input reads as it did. -/
def checkpolySumsSpec : ChangeSpec := { name := "checkpolySums", fn := fun _ => fun
  | [d1, d2, d3] => { results := [.lit (.bool true)], args := [d1, d2, d3] }
  | _ => none }
def checkpolySumsRow : OpenClaim := { program := "ytnknidfpkmnncaa", sum := "e1dbd1096e0f9d57e93fd384f11085be99a971fbb059d1da0ccd0e131dccb3e9", func := "cylinder/cylinderlaw54.CheckpolySums", spec := "checkpolySums", unfollowed := true, recurses := true, apart := false }
def CheckpolySumsSaid : Prop := checkpolySumsRow.holds Try.pinned (OpenSpec.ofChange checkpolySumsSpec)

/-- ITS FALSE NEIGHBOUR: 'it returns false'. Refute it at one input. -/
def checkpolySumsWrong : ChangeSpec := { name := "checkpolySums", fn := fun _ => fun
  | [d1, d2, d3] => { results := [.lit (.bool false)], args := [d1, d2, d3] }
  | _ => none }
def CheckpolySumsWrongFalsely : Prop := checkpolySumsRow.holds Try.pinned (OpenSpec.ofChange checkpolySumsWrong)

/-- 'cylinderlaw54.CheckpolyReducta': WHATEVER THE INPUT: true; the input reads as it did. -/
def checkpolyReductaSpec : ChangeSpec := { name := "checkpolyReducta", fn := fun _ => fun
  | [d1, d2] => { results := [.lit (.bool true)], args := [d1, d2] }
  | _ => none }
def checkpolyReductaRow : OpenClaim := { program := "ytnknidfpkmnncaa", sum := "e1dbd1096e0f9d57e93fd384f11085be99a971fbb059d1da0ccd0e131dccb3e9", func := "cylinder/cylinderlaw54.CheckpolyReducta", spec := "checkpolyReducta", unfollowed := true, recurses := true, apart := false }
def CheckpolyReductaSaid : Prop := checkpolyReductaRow.holds Try.pinned (OpenSpec.ofChange checkpolyReductaSpec)

/-- ITS FALSE NEIGHBOUR: 'it returns false'. Refute it at one input. -/
def checkpolyReductaWrong : ChangeSpec := { name := "checkpolyReducta", fn := fun _ => fun
  | [d1, d2] => { results := [.lit (.bool false)], args := [d1, d2] }
  | _ => none }
def CheckpolyReductaWrongFalsely : Prop := checkpolyReductaRow.holds Try.pinned (OpenSpec.ofChange checkpolyReductaWrong)

/-- 'cylinderlaw54.CheckpolyRing': WHATEVER THE INPUT: true; the input reads as it did. -/
def checkpolyRingSpec : ChangeSpec := { name := "checkpolyRing", fn := fun _ => fun
  | [d1, d2, d3] => { results := [.lit (.bool true)], args := [d1, d2, d3] }
  | _ => none }
def checkpolyRingRow : OpenClaim := { program := "ytnknidfpkmnncaa", sum := "e1dbd1096e0f9d57e93fd384f11085be99a971fbb059d1da0ccd0e131dccb3e9", func := "cylinder/cylinderlaw54.CheckpolyRing", spec := "checkpolyRing", unfollowed := true, recurses := true, named := ["math/bits.overflowError", "math/bits.divideError"], apart := false }
def CheckpolyRingSaid : Prop := checkpolyRingRow.holds Try.pinned (OpenSpec.ofChange checkpolyRingSpec)

/-- ITS FALSE NEIGHBOUR: 'it returns false'. Refute it at one input. -/
def checkpolyRingWrong : ChangeSpec := { name := "checkpolyRing", fn := fun _ => fun
  | [d1, d2, d3] => { results := [.lit (.bool false)], args := [d1, d2, d3] }
  | _ => none }
def CheckpolyRingWrongFalsely : Prop := checkpolyRingRow.holds Try.pinned (OpenSpec.ofChange checkpolyRingWrong)

/-- 'cylinderlaw54.CheckpolyExact': WHATEVER THE INPUT: true; the input reads as it did. -/
def checkpolyExactSpec : ChangeSpec := { name := "checkpolyExact", fn := fun _ => fun
  | [d1, d2, d3] => { results := [.lit (.bool true)], args := [d1, d2, d3] }
  | _ => none }
def checkpolyExactRow : OpenClaim := { program := "ytnknidfpkmnncaa", sum := "e1dbd1096e0f9d57e93fd384f11085be99a971fbb059d1da0ccd0e131dccb3e9", func := "cylinder/cylinderlaw54.CheckpolyExact", spec := "checkpolyExact", unfollowed := true, recurses := true, named := ["math/bits.overflowError", "math/bits.divideError"], apart := false }
def CheckpolyExactSaid : Prop := checkpolyExactRow.holds Try.pinned (OpenSpec.ofChange checkpolyExactSpec)

/-- ITS FALSE NEIGHBOUR: 'it returns false'. Refute it at one input. -/
def checkpolyExactWrong : ChangeSpec := { name := "checkpolyExact", fn := fun _ => fun
  | [d1, d2, d3] => { results := [.lit (.bool false)], args := [d1, d2, d3] }
  | _ => none }
def CheckpolyExactWrongFalsely : Prop := checkpolyExactRow.holds Try.pinned (OpenSpec.ofChange checkpolyExactWrong)

/-- 'cylinderlaw54.CheckpolyDet': WHATEVER THE INPUT: true; the input reads as it did. -/
def checkpolyDetSpec : ChangeSpec := { name := "checkpolyDet", fn := fun _ => fun
  | [d1, d2, d3] => { results := [.lit (.bool true)], args := [d1, d2, d3] }
  | _ => none }
def checkpolyDetRow : OpenClaim := { program := "ytnknidfpkmnncaa", sum := "e1dbd1096e0f9d57e93fd384f11085be99a971fbb059d1da0ccd0e131dccb3e9", func := "cylinder/cylinderlaw54.CheckpolyDet", spec := "checkpolyDet", unfollowed := true, recurses := true, named := ["math/bits.overflowError", "math/bits.divideError"], apart := false }
def CheckpolyDetSaid : Prop := checkpolyDetRow.holds Try.pinned (OpenSpec.ofChange checkpolyDetSpec)

/-- ITS FALSE NEIGHBOUR: 'it returns false'. Refute it at one input. -/
def checkpolyDetWrong : ChangeSpec := { name := "checkpolyDet", fn := fun _ => fun
  | [d1, d2, d3] => { results := [.lit (.bool false)], args := [d1, d2, d3] }
  | _ => none }
def CheckpolyDetWrongFalsely : Prop := checkpolyDetRow.holds Try.pinned (OpenSpec.ofChange checkpolyDetWrong)

/-- 'cylinderlaw54.CheckpolyRows': WHATEVER THE INPUT: true; the input reads as it did. -/
def checkpolyRowsSpec : ChangeSpec := { name := "checkpolyRows", fn := fun _ => fun
  | [d1, d2, d3] => { results := [.lit (.bool true)], args := [d1, d2, d3] }
  | _ => none }
def checkpolyRowsRow : OpenClaim := { program := "ytnknidfpkmnncaa", sum := "e1dbd1096e0f9d57e93fd384f11085be99a971fbb059d1da0ccd0e131dccb3e9", func := "cylinder/cylinderlaw54.CheckpolyRows", spec := "checkpolyRows", unfollowed := true, recurses := true, named := ["math/bits.overflowError", "math/bits.divideError"], apart := false }
def CheckpolyRowsSaid : Prop := checkpolyRowsRow.holds Try.pinned (OpenSpec.ofChange checkpolyRowsSpec)

/-- ITS FALSE NEIGHBOUR: 'it returns false'. Refute it at one input. -/
def checkpolyRowsWrong : ChangeSpec := { name := "checkpolyRows", fn := fun _ => fun
  | [d1, d2, d3] => { results := [.lit (.bool false)], args := [d1, d2, d3] }
  | _ => none }
def CheckpolyRowsWrongFalsely : Prop := checkpolyRowsRow.holds Try.pinned (OpenSpec.ofChange checkpolyRowsWrong)

/-- 'cylinderlaw54.CheckpolyCommon': WHATEVER THE INPUT: true; the input reads as it did. -/
def checkpolyCommonSpec : ChangeSpec := { name := "checkpolyCommon", fn := fun _ => fun
  | [d1, d2, d3] => { results := [.lit (.bool true)], args := [d1, d2, d3] }
  | _ => none }
def checkpolyCommonRow : OpenClaim := { program := "ytnknidfpkmnncaa", sum := "e1dbd1096e0f9d57e93fd384f11085be99a971fbb059d1da0ccd0e131dccb3e9", func := "cylinder/cylinderlaw54.CheckpolyCommon", spec := "checkpolyCommon", unfollowed := true, recurses := true, named := ["math/bits.overflowError", "math/bits.divideError"], apart := false }
def CheckpolyCommonSaid : Prop := checkpolyCommonRow.holds Try.pinned (OpenSpec.ofChange checkpolyCommonSpec)

/-- ITS FALSE NEIGHBOUR: 'it returns false'. Refute it at one input. -/
def checkpolyCommonWrong : ChangeSpec := { name := "checkpolyCommon", fn := fun _ => fun
  | [d1, d2, d3] => { results := [.lit (.bool false)], args := [d1, d2, d3] }
  | _ => none }
def CheckpolyCommonWrongFalsely : Prop := checkpolyCommonRow.holds Try.pinned (OpenSpec.ofChange checkpolyCommonWrong)

/-- 'cylinderlaw54.CheckpolyPsc': WHATEVER THE INPUT: true; the input reads as it did. -/
def checkpolyPscSpec : ChangeSpec := { name := "checkpolyPsc", fn := fun _ => fun
  | [d1, d2, d3] => { results := [.lit (.bool true)], args := [d1, d2, d3] }
  | _ => none }
def checkpolyPscRow : OpenClaim := { program := "ytnknidfpkmnncaa", sum := "e1dbd1096e0f9d57e93fd384f11085be99a971fbb059d1da0ccd0e131dccb3e9", func := "cylinder/cylinderlaw54.CheckpolyPsc", spec := "checkpolyPsc", unfollowed := true, recurses := true, named := ["math/bits.overflowError", "math/bits.divideError"], apart := false }
def CheckpolyPscSaid : Prop := checkpolyPscRow.holds Try.pinned (OpenSpec.ofChange checkpolyPscSpec)

/-- ITS FALSE NEIGHBOUR: 'it returns false'. Refute it at one input. -/
def checkpolyPscWrong : ChangeSpec := { name := "checkpolyPsc", fn := fun _ => fun
  | [d1, d2, d3] => { results := [.lit (.bool false)], args := [d1, d2, d3] }
  | _ => none }
def CheckpolyPscWrongFalsely : Prop := checkpolyPscRow.holds Try.pinned (OpenSpec.ofChange checkpolyPscWrong)

/- THE SECOND FORM. 'bulk': how many values and letters a reading holds, each counted each time it is reached (what is shared counts as often as it is met; a slice's spare places count too). A statement '..UptoSaid' is the law's where the arguments, and the package variables that the reading takes, are together of bulk at most 1048576: NARROWER than '..Said'. Prove '..Said' where nothing that the law and all that it calls make is longer than what came in: it says more and counts as full. Else prove '..UptoSaid'. A law counts once. -/
mutual
def uptoBulk {H : Type} : DataW H → Nat
  | .lit (.string bytes) => bytes.length + 1
  | .lit _ => 1
  | .nil => 1
  | .ptr d => uptoBulk d + 1
  | .slice elems spare => uptoBulkAll elems + uptoBulkAll spare + 1
  | .agg parts => uptoBulkAll parts + 1
  | .iface _ d => uptoBulk d + 1
  | .map entries => uptoBulkEntries entries + 1
  | .held _ => 1
def uptoBulkAll {H : Type} : List (DataW H) → Nat
  | [] => 0
  | d :: r => uptoBulk d + uptoBulkAll r
def uptoBulkEntries {H : Type} : List (Lit × DataW H) → Nat
  | [] => 0
  | x :: r => uptoBulkEntry x + uptoBulkEntries r
def uptoBulkEntry {H : Type} : Lit × DataW H → Nat
  | (.string bytes, d) => bytes.length + uptoBulk d + 1
  | (_, d) => uptoBulk d + 1
 end
def uptoSmall : (H : Type) → List (DataW H) → Bool := fun _ ds => decide (uptoBulkAll ds ≤ 1048576)
def OpenSpec.upto (s : _root_.Go.ChangeSpec) : _root_.Go.OpenSpec := { _root_.Go.OpenSpec.ofChange s with cond := some uptoSmall }

/-- 'cylinderlaw54.CheckpolyCompare', WHERE WHAT IT READS IS OF BULK AT MOST 1048576: true; the input reads as it did. -/
def checkpolyCompareUptoRow : OpenClaim := { program := "ytnknidfpkmnncaa", sum := "e1dbd1096e0f9d57e93fd384f11085be99a971fbb059d1da0ccd0e131dccb3e9", func := "cylinder/cylinderlaw54.CheckpolyCompare", spec := "checkpolyCompare", unfollowed := true, recurses := true, apart := false, narrowed := true }
def CheckpolyCompareUptoSaid : Prop := checkpolyCompareUptoRow.holds Try.pinned (OpenSpec.upto checkpolyCompareSpec)

/-- 'cylinderlaw54.CheckpolySums', WHERE WHAT IT READS IS OF BULK AT MOST 1048576: true; the input reads as it did. -/
def checkpolySumsUptoRow : OpenClaim := { program := "ytnknidfpkmnncaa", sum := "e1dbd1096e0f9d57e93fd384f11085be99a971fbb059d1da0ccd0e131dccb3e9", func := "cylinder/cylinderlaw54.CheckpolySums", spec := "checkpolySums", unfollowed := true, recurses := true, apart := false, narrowed := true }
def CheckpolySumsUptoSaid : Prop := checkpolySumsUptoRow.holds Try.pinned (OpenSpec.upto checkpolySumsSpec)

/-- 'cylinderlaw54.CheckpolyReducta', WHERE WHAT IT READS IS OF BULK AT MOST 1048576: true; the input reads as it did. -/
def checkpolyReductaUptoRow : OpenClaim := { program := "ytnknidfpkmnncaa", sum := "e1dbd1096e0f9d57e93fd384f11085be99a971fbb059d1da0ccd0e131dccb3e9", func := "cylinder/cylinderlaw54.CheckpolyReducta", spec := "checkpolyReducta", unfollowed := true, recurses := true, apart := false, narrowed := true }
def CheckpolyReductaUptoSaid : Prop := checkpolyReductaUptoRow.holds Try.pinned (OpenSpec.upto checkpolyReductaSpec)

/-- 'cylinderlaw54.CheckpolyRing', WHERE WHAT IT READS IS OF BULK AT MOST 1048576: true; the input reads as it did. -/
def checkpolyRingUptoRow : OpenClaim := { program := "ytnknidfpkmnncaa", sum := "e1dbd1096e0f9d57e93fd384f11085be99a971fbb059d1da0ccd0e131dccb3e9", func := "cylinder/cylinderlaw54.CheckpolyRing", spec := "checkpolyRing", unfollowed := true, recurses := true, named := ["math/bits.overflowError", "math/bits.divideError"], apart := false, narrowed := true }
def CheckpolyRingUptoSaid : Prop := checkpolyRingUptoRow.holds Try.pinned (OpenSpec.upto checkpolyRingSpec)

/-- 'cylinderlaw54.CheckpolyExact', WHERE WHAT IT READS IS OF BULK AT MOST 1048576: true; the input reads as it did. -/
def checkpolyExactUptoRow : OpenClaim := { program := "ytnknidfpkmnncaa", sum := "e1dbd1096e0f9d57e93fd384f11085be99a971fbb059d1da0ccd0e131dccb3e9", func := "cylinder/cylinderlaw54.CheckpolyExact", spec := "checkpolyExact", unfollowed := true, recurses := true, named := ["math/bits.overflowError", "math/bits.divideError"], apart := false, narrowed := true }
def CheckpolyExactUptoSaid : Prop := checkpolyExactUptoRow.holds Try.pinned (OpenSpec.upto checkpolyExactSpec)

/-- 'cylinderlaw54.CheckpolyDet', WHERE WHAT IT READS IS OF BULK AT MOST 1048576: true; the input reads as it did. -/
def checkpolyDetUptoRow : OpenClaim := { program := "ytnknidfpkmnncaa", sum := "e1dbd1096e0f9d57e93fd384f11085be99a971fbb059d1da0ccd0e131dccb3e9", func := "cylinder/cylinderlaw54.CheckpolyDet", spec := "checkpolyDet", unfollowed := true, recurses := true, named := ["math/bits.overflowError", "math/bits.divideError"], apart := false, narrowed := true }
def CheckpolyDetUptoSaid : Prop := checkpolyDetUptoRow.holds Try.pinned (OpenSpec.upto checkpolyDetSpec)

/-- 'cylinderlaw54.CheckpolyRows', WHERE WHAT IT READS IS OF BULK AT MOST 1048576: true; the input reads as it did. -/
def checkpolyRowsUptoRow : OpenClaim := { program := "ytnknidfpkmnncaa", sum := "e1dbd1096e0f9d57e93fd384f11085be99a971fbb059d1da0ccd0e131dccb3e9", func := "cylinder/cylinderlaw54.CheckpolyRows", spec := "checkpolyRows", unfollowed := true, recurses := true, named := ["math/bits.overflowError", "math/bits.divideError"], apart := false, narrowed := true }
def CheckpolyRowsUptoSaid : Prop := checkpolyRowsUptoRow.holds Try.pinned (OpenSpec.upto checkpolyRowsSpec)

/-- 'cylinderlaw54.CheckpolyCommon', WHERE WHAT IT READS IS OF BULK AT MOST 1048576: true; the input reads as it did. -/
def checkpolyCommonUptoRow : OpenClaim := { program := "ytnknidfpkmnncaa", sum := "e1dbd1096e0f9d57e93fd384f11085be99a971fbb059d1da0ccd0e131dccb3e9", func := "cylinder/cylinderlaw54.CheckpolyCommon", spec := "checkpolyCommon", unfollowed := true, recurses := true, named := ["math/bits.overflowError", "math/bits.divideError"], apart := false, narrowed := true }
def CheckpolyCommonUptoSaid : Prop := checkpolyCommonUptoRow.holds Try.pinned (OpenSpec.upto checkpolyCommonSpec)

/-- 'cylinderlaw54.CheckpolyPsc', WHERE WHAT IT READS IS OF BULK AT MOST 1048576: true; the input reads as it did. -/
def checkpolyPscUptoRow : OpenClaim := { program := "ytnknidfpkmnncaa", sum := "e1dbd1096e0f9d57e93fd384f11085be99a971fbb059d1da0ccd0e131dccb3e9", func := "cylinder/cylinderlaw54.CheckpolyPsc", spec := "checkpolyPsc", unfollowed := true, recurses := true, named := ["math/bits.overflowError", "math/bits.divideError"], apart := false, narrowed := true }
def CheckpolyPscUptoSaid : Prop := checkpolyPscUptoRow.holds Try.pinned (OpenSpec.upto checkpolyPscSpec)

end Rows
end Go.Proofs.Ytnknidfpkmnncaa
