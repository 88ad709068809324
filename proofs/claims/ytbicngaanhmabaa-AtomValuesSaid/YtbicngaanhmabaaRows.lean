/-
  No cell of these rows narrows 'for every input' (looked for: loops, veiled, ifaces, maps, wideKeys, modest, calm, conditions, laid).
  DERIVED. THE GIVEN ROWS OF THIS SEAT. 4 by the template 'for every input the law returns true; each argument reads behind the call as it read before'; 0 by the template 'total and deterministic' (their statements: YtbicngaanhmabaaTotals.lean).
  GIVEN WITH THE SEED: the statements are not yours to turn. If you find one false, say at which input.
  Laid BY PROGRAM, IN A SANDBOX (cutbox-rows.mjs): the forced cells as the released guide's own fill.sh prints them over the translation f1095faf4bf8d304… (all of the seat's roots in one cut). By AI agents, Wed Nov 11 2026. No macro, syntax, notation, axiom, sorry.
-/
import Derived.Test.YtbicngaanhmabaaChecked
import GoSem.Claim
import GoSem.ClaimJoined
import GoSem.ClaimMapViews
import Derived.JoinedTies
import Derived.KernelRfl
namespace Go.Proofs.Ytbicngaanhmabaa
/- THE CELL 'sum', in the pinned program and in every row, IS THE sha256 OF THE DUMP (.gsa) THAT YtbicngaanhmabaaProg.lean LOADS. Nothing in Lean hashes anything: it is a label: what it is worth is what the hold of that sum in a sandbox is worth. -/
noncomputable def Try.pinned : Pinned := { name := "ytbicngaanhmabaa", sum := "f1095faf4bf8d304295a03f3e5c71cbed13524eed3ffd789b8267b382c63bf68", checked := Try.checked }
namespace Rows
def none {H : Type} : Left H := { results := [], args := [] }

/-- 'saleroomlaw09.AtomNormals': WHATEVER THE INPUT: true; the input reads as it did. -/
def atomNormalsSpec : ChangeSpec := { name := "atomNormals", fn := fun _ => fun
  | [d1, d2] => { results := [.lit (.bool true)], args := [d1, d2] }
  | _ => none }
def atomNormalsRow : OpenClaim := { program := "ytbicngaanhmabaa", sum := "f1095faf4bf8d304295a03f3e5c71cbed13524eed3ffd789b8267b382c63bf68", func := "saleroom/saleroomlaw09.AtomNormals", spec := "atomNormals", unfollowed := true, recurses := true, apart := false }
def AtomNormalsSaid : Prop := atomNormalsRow.holds Try.pinned (OpenSpec.ofChange atomNormalsSpec)

/-- ITS FALSE NEIGHBOUR: 'it returns false'. Refute it at one input. -/
def atomNormalsWrong : ChangeSpec := { name := "atomNormals", fn := fun _ => fun
  | [d1, d2] => { results := [.lit (.bool false)], args := [d1, d2] }
  | _ => none }
def AtomNormalsWrongFalsely : Prop := atomNormalsRow.holds Try.pinned (OpenSpec.ofChange atomNormalsWrong)

/-- 'saleroomlaw09.AtomValues': WHATEVER THE INPUT: true; the input reads as it did. -/
def atomValuesSpec : ChangeSpec := { name := "atomValues", fn := fun _ => fun
  | [d1, d2] => { results := [.lit (.bool true)], args := [d1, d2] }
  | _ => none }
def atomValuesRow : OpenClaim := { program := "ytbicngaanhmabaa", sum := "f1095faf4bf8d304295a03f3e5c71cbed13524eed3ffd789b8267b382c63bf68", func := "saleroom/saleroomlaw09.AtomValues", spec := "atomValues", unfollowed := true, recurses := true, apart := false }
def AtomValuesSaid : Prop := atomValuesRow.holds Try.pinned (OpenSpec.ofChange atomValuesSpec)

/-- ITS FALSE NEIGHBOUR: 'it returns false'. Refute it at one input. -/
def atomValuesWrong : ChangeSpec := { name := "atomValues", fn := fun _ => fun
  | [d1, d2] => { results := [.lit (.bool false)], args := [d1, d2] }
  | _ => none }
def AtomValuesWrongFalsely : Prop := atomValuesRow.holds Try.pinned (OpenSpec.ofChange atomValuesWrong)

/-- 'saleroomlaw09.AtomOrder': WHATEVER THE INPUT: true; the input reads as it did. -/
def atomOrderSpec : ChangeSpec := { name := "atomOrder", fn := fun _ => fun
  | [d1, d2] => { results := [.lit (.bool true)], args := [d1, d2] }
  | _ => none }
def atomOrderRow : OpenClaim := { program := "ytbicngaanhmabaa", sum := "f1095faf4bf8d304295a03f3e5c71cbed13524eed3ffd789b8267b382c63bf68", func := "saleroom/saleroomlaw09.AtomOrder", spec := "atomOrder", unfollowed := true, recurses := true, apart := false }
def AtomOrderSaid : Prop := atomOrderRow.holds Try.pinned (OpenSpec.ofChange atomOrderSpec)

/-- ITS FALSE NEIGHBOUR: 'it returns false'. Refute it at one input. -/
def atomOrderWrong : ChangeSpec := { name := "atomOrder", fn := fun _ => fun
  | [d1, d2] => { results := [.lit (.bool false)], args := [d1, d2] }
  | _ => none }
def AtomOrderWrongFalsely : Prop := atomOrderRow.holds Try.pinned (OpenSpec.ofChange atomOrderWrong)

/-- 'saleroomlaw09.AtomWithin': WHATEVER THE INPUT: true; the input reads as it did. -/
def atomWithinSpec : ChangeSpec := { name := "atomWithin", fn := fun _ => fun
  | [d1, d2, d3, d4] => { results := [.lit (.bool true)], args := [d1, d2, d3, d4] }
  | _ => none }
def atomWithinRow : OpenClaim := { program := "ytbicngaanhmabaa", sum := "f1095faf4bf8d304295a03f3e5c71cbed13524eed3ffd789b8267b382c63bf68", func := "saleroom/saleroomlaw09.AtomWithin", spec := "atomWithin", unfollowed := true, recurses := true, apart := false }
def AtomWithinSaid : Prop := atomWithinRow.holds Try.pinned (OpenSpec.ofChange atomWithinSpec)

/-- ITS FALSE NEIGHBOUR: 'it returns false'. Refute it at one input. -/
def atomWithinWrong : ChangeSpec := { name := "atomWithin", fn := fun _ => fun
  | [d1, d2, d3, d4] => { results := [.lit (.bool false)], args := [d1, d2, d3, d4] }
  | _ => none }
def AtomWithinWrongFalsely : Prop := atomWithinRow.holds Try.pinned (OpenSpec.ofChange atomWithinWrong)

/- THE SECOND FORM. 'bulk': how many values and letters a reading holds, each counted each time it is reached (what is shared counts as often as it is met; a slice's spare places count too). A statement '..UptoSaid' is the law's where the arguments, and the package variables that the reading takes, are together of bulk at most 1048576: NARROWER than '..Said'. Prove '..Said' where nothing that the law and all that it calls make is longer than what came in: it says more and counts as full. Else prove '..UptoSaid'. A law counts once. -/
mutual
def uptoBulk {H : Type} : DataW H → Nat
  | .lit (.string bytes) => bytes.length + 1
  | .lit _ => 1
  | .nil => 1
  | .ptr d => uptoBulk d + 1
  | .slice elems spare => uptoBulkAll elems + uptoBulkAll spare + 1
  | .agg parts => uptoBulkAll parts + 1
  | .iface _ d => uptoBulk d + 1
  | .map entries => uptoBulkEntries entries + 1
  | .held _ => 1
def uptoBulkAll {H : Type} : List (DataW H) → Nat
  | [] => 0
  | d :: r => uptoBulk d + uptoBulkAll r
def uptoBulkEntries {H : Type} : List (Lit × DataW H) → Nat
  | [] => 0
  | x :: r => uptoBulkEntry x + uptoBulkEntries r
def uptoBulkEntry {H : Type} : Lit × DataW H → Nat
  | (.string bytes, d) => bytes.length + uptoBulk d + 1
  | (_, d) => uptoBulk d + 1
 end
def uptoSmall : (H : Type) → List (DataW H) → Bool := fun _ ds => decide (uptoBulkAll ds ≤ 1048576)
def OpenSpec.upto (s : _root_.Go.ChangeSpec) : _root_.Go.OpenSpec := { _root_.Go.OpenSpec.ofChange s with cond := some uptoSmall }

/-- 'saleroomlaw09.AtomNormals', WHERE WHAT IT READS IS OF BULK AT MOST 1048576: true; the input reads as it did. -/
def atomNormalsUptoRow : OpenClaim := { program := "ytbicngaanhmabaa", sum := "f1095faf4bf8d304295a03f3e5c71cbed13524eed3ffd789b8267b382c63bf68", func := "saleroom/saleroomlaw09.AtomNormals", spec := "atomNormals", unfollowed := true, recurses := true, apart := false, narrowed := true }
def AtomNormalsUptoSaid : Prop := atomNormalsUptoRow.holds Try.pinned (OpenSpec.upto atomNormalsSpec)

/-- 'saleroomlaw09.AtomValues', WHERE WHAT IT READS IS OF BULK AT MOST 1048576: true; the input reads as it did. -/
def atomValuesUptoRow : OpenClaim := { program := "ytbicngaanhmabaa", sum := "f1095faf4bf8d304295a03f3e5c71cbed13524eed3ffd789b8267b382c63bf68", func := "saleroom/saleroomlaw09.AtomValues", spec := "atomValues", unfollowed := true, recurses := true, apart := false, narrowed := true }
def AtomValuesUptoSaid : Prop := atomValuesUptoRow.holds Try.pinned (OpenSpec.upto atomValuesSpec)

/-- 'saleroomlaw09.AtomOrder', WHERE WHAT IT READS IS OF BULK AT MOST 1048576: true; the input reads as it did. -/
def atomOrderUptoRow : OpenClaim := { program := "ytbicngaanhmabaa", sum := "f1095faf4bf8d304295a03f3e5c71cbed13524eed3ffd789b8267b382c63bf68", func := "saleroom/saleroomlaw09.AtomOrder", spec := "atomOrder", unfollowed := true, recurses := true, apart := false, narrowed := true }
def AtomOrderUptoSaid : Prop := atomOrderUptoRow.holds Try.pinned (OpenSpec.upto atomOrderSpec)

/-- 'saleroomlaw09.AtomWithin', WHERE WHAT IT READS IS OF BULK AT MOST 1048576: true; the input reads as it did. -/
def atomWithinUptoRow : OpenClaim := { program := "ytbicngaanhmabaa", sum := "f1095faf4bf8d304295a03f3e5c71cbed13524eed3ffd789b8267b382c63bf68", func := "saleroom/saleroomlaw09.AtomWithin", spec := "atomWithin", unfollowed := true, recurses := true, apart := false, narrowed := true }
def AtomWithinUptoSaid : Prop := atomWithinUptoRow.holds Try.pinned (OpenSpec.upto atomWithinSpec)

end Rows
end Go.Proofs.Ytbicngaanhmabaa
