/-
  No cell of these rows narrows 'for every input' (looked for: loops, veiled, ifaces, maps, wideKeys, modest, calm, conditions, laid).
  DERIVED. THE GIVEN ROWS OF THIS SEAT. 2 by the template 'for every input the law returns true; each argument reads behind the call as it read before'; 0 by the template 'total and deterministic' (their statements: YtnknidfpkmnncaaGreatTotals.lean).
  GIVEN WITH THE SEED: the statements are not yours to turn. If you find one false, say at which input.
  Laid BY PROGRAM, IN A SANDBOX (cutbox-rows.mjs): the forced cells as the released guide's own fill.sh prints them over the translation bf33d9195aead154… (all of the seat's roots in one cut). By AI agents, Wed Nov 11 2026. No macro, syntax, notation, axiom, sorry.
-/
import Derived.Test.YtnknidfpkmnncaaGreatChecked
import GoSem.Claim
import GoSem.ClaimJoined
import GoSem.ClaimMapViews
import Derived.JoinedTies
import Derived.KernelRfl
namespace Go.Proofs.YtnknidfpkmnncaaGreat
/- THE CELL 'sum', in the pinned program and in every row, IS THE sha256 OF THE DUMP (.gsa) THAT YtnknidfpkmnncaaGreatProg.lean LOADS. Nothing in Lean hashes anything: it is a label: what it is worth is what the hold of that sum in a sandbox is worth. -/
noncomputable def Tryz.pinned : Pinned := { name := "ytnknidfpkmnncaagreat", sum := "bf33d9195aead154c44a793d5f982413fb7bc7b9dd020bb850d46f23bbe87e23", checked := Tryz.checked }
namespace Rows
def none {H : Type} : Left H := { results := [], args := [] }

/-- 'cylinderlaw54.CheckpolyParts': WHATEVER THE INPUT: true; the input reads as it did. -/
def checkpolyPartsSpec : ChangeSpec := { name := "checkpolyParts", fn := fun _ => fun
  | [d1, d2] => { results := [.lit (.bool true)], args := [d1, d2] }
  | _ => none }
def checkpolyPartsRow : OpenClaim := { program := "ytnknidfpkmnncaagreat", sum := "bf33d9195aead154c44a793d5f982413fb7bc7b9dd020bb850d46f23bbe87e23", func := "cylinder/cylinderlaw54.CheckpolyParts", spec := "checkpolyParts", unfollowed := true, recurses := true, named := ["math/bits.overflowError", "math/bits.divideError"], apart := false }
def CheckpolyPartsSaid : Prop := checkpolyPartsRow.holds Tryz.pinned (OpenSpec.ofChange checkpolyPartsSpec)

/-- ITS FALSE NEIGHBOUR: 'it returns false'. Refute it at one input. -/
def checkpolyPartsWrong : ChangeSpec := { name := "checkpolyParts", fn := fun _ => fun
  | [d1, d2] => { results := [.lit (.bool false)], args := [d1, d2] }
  | _ => none }
def CheckpolyPartsWrongFalsely : Prop := checkpolyPartsRow.holds Tryz.pinned (OpenSpec.ofChange checkpolyPartsWrong)

/-- 'cylinderlaw54.CheckpolyProjects': WHATEVER THE INPUT: true; the input reads as it did. -/
def checkpolyProjectsSpec : ChangeSpec := { name := "checkpolyProjects", fn := fun _ => fun
  | [d1, d2] => { results := [.lit (.bool true)], args := [d1, d2] }
  | _ => none }
def checkpolyProjectsRow : OpenClaim := { program := "ytnknidfpkmnncaagreat", sum := "bf33d9195aead154c44a793d5f982413fb7bc7b9dd020bb850d46f23bbe87e23", func := "cylinder/cylinderlaw54.CheckpolyProjects", spec := "checkpolyProjects", unfollowed := true, recurses := true, named := ["math/bits.overflowError", "math/bits.divideError"], apart := false }
def CheckpolyProjectsSaid : Prop := checkpolyProjectsRow.holds Tryz.pinned (OpenSpec.ofChange checkpolyProjectsSpec)

/-- ITS FALSE NEIGHBOUR: 'it returns false'. Refute it at one input. -/
def checkpolyProjectsWrong : ChangeSpec := { name := "checkpolyProjects", fn := fun _ => fun
  | [d1, d2] => { results := [.lit (.bool false)], args := [d1, d2] }
  | _ => none }
def CheckpolyProjectsWrongFalsely : Prop := checkpolyProjectsRow.holds Tryz.pinned (OpenSpec.ofChange checkpolyProjectsWrong)

/- THE SECOND FORM. 'bulk': how many values and letters a reading holds, each counted each time it is reached (what is shared counts as often as it is met; a slice's spare places count too). A statement '..UptoSaid' is the law's where the arguments, and the package variables that the reading takes, are together of bulk at most 1048576: NARROWER than '..Said'. Prove '..Said' where nothing that the law and all that it calls make is longer than what came in: it says more and counts as full. Else prove '..UptoSaid'. A law counts once. -/
mutual
def uptoBulk {H : Type} : DataW H → Nat
  | .lit (.string bytes) => bytes.length + 1
  | .lit _ => 1
  | .nil => 1
  | .ptr d => uptoBulk d + 1
  | .slice elems spare => uptoBulkAll elems + uptoBulkAll spare + 1
  | .agg parts => uptoBulkAll parts + 1
  | .iface _ d => uptoBulk d + 1
  | .map entries => uptoBulkEntries entries + 1
  | .held _ => 1
def uptoBulkAll {H : Type} : List (DataW H) → Nat
  | [] => 0
  | d :: r => uptoBulk d + uptoBulkAll r
def uptoBulkEntries {H : Type} : List (Lit × DataW H) → Nat
  | [] => 0
  | x :: r => uptoBulkEntry x + uptoBulkEntries r
def uptoBulkEntry {H : Type} : Lit × DataW H → Nat
  | (.string bytes, d) => bytes.length + uptoBulk d + 1
  | (_, d) => uptoBulk d + 1
 end
def uptoSmall : (H : Type) → List (DataW H) → Bool := fun _ ds => decide (uptoBulkAll ds ≤ 1048576)
def OpenSpec.upto (s : _root_.Go.ChangeSpec) : _root_.Go.OpenSpec := { _root_.Go.OpenSpec.ofChange s with cond := some uptoSmall }

/-- 'cylinderlaw54.CheckpolyParts', WHERE WHAT IT READS IS OF BULK AT MOST 1048576: true; the input reads as it did. -/
def checkpolyPartsUptoRow : OpenClaim := { program := "ytnknidfpkmnncaagreat", sum := "bf33d9195aead154c44a793d5f982413fb7bc7b9dd020bb850d46f23bbe87e23", func := "cylinder/cylinderlaw54.CheckpolyParts", spec := "checkpolyParts", unfollowed := true, recurses := true, named := ["math/bits.overflowError", "math/bits.divideError"], apart := false, narrowed := true }
def CheckpolyPartsUptoSaid : Prop := checkpolyPartsUptoRow.holds Tryz.pinned (OpenSpec.upto checkpolyPartsSpec)

/-- 'cylinderlaw54.CheckpolyProjects', WHERE WHAT IT READS IS OF BULK AT MOST 1048576: true; the input reads as it did. -/
def checkpolyProjectsUptoRow : OpenClaim := { program := "ytnknidfpkmnncaagreat", sum := "bf33d9195aead154c44a793d5f982413fb7bc7b9dd020bb850d46f23bbe87e23", func := "cylinder/cylinderlaw54.CheckpolyProjects", spec := "checkpolyProjects", unfollowed := true, recurses := true, named := ["math/bits.overflowError", "math/bits.divideError"], apart := false, narrowed := true }
def CheckpolyProjectsUptoSaid : Prop := checkpolyProjectsUptoRow.holds Tryz.pinned (OpenSpec.upto checkpolyProjectsSpec)

end Rows
end Go.Proofs.YtnknidfpkmnncaaGreat
