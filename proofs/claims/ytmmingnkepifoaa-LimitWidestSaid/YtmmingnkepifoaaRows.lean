/-
  No cell of these rows narrows 'for every input' (looked for: loops, veiled, ifaces, maps, wideKeys, modest, calm, conditions, laid).
  DERIVED. THE GIVEN ROWS OF THIS SEAT. 4 by the template 'for every input the law returns true; each argument reads behind the call as it read before'; 0 by the template 'total and deterministic' (their statements: YtmmingnkepifoaaTotals.lean).
  GIVEN WITH THE SEED: the statements are not yours to turn. If you find one false, say at which input.
  Laid BY PROGRAM, IN A SANDBOX (cutbox-rows.mjs): the forced cells as the released guide's own fill.sh prints them over the translation deab52fef5c61839… (all of the seat's roots in one cut). By AI agents, Wed Nov 11 2026. No macro, syntax, notation, axiom, sorry.
-/
import Derived.Test.YtmmingnkepifoaaChecked
import GoSem.Claim
import GoSem.ClaimJoined
import GoSem.ClaimMapViews
import Derived.JoinedTies
import Derived.KernelRfl
namespace Go.Proofs.Ytmmingnkepifoaa
/- THE CELL 'sum', in the pinned program and in every row, IS THE sha256 OF THE DUMP (.gsa) THAT YtmmingnkepifoaaProg.lean LOADS. Nothing in Lean hashes anything: it is a label: what it is worth is what the hold of that sum in a sandbox is worth. -/
noncomputable def Try.pinned : Pinned := { name := "ytmmingnkepifoaa", sum := "deab52fef5c61839f4f84a159cb8644ff9ff8b92ce35818516e22dcbd51183c3", checked := Try.checked }
namespace Rows
def none {H : Type} : Left H := { results := [], args := [] }

/-- 'saleroomlaw22.LimitPlans': WHATEVER THE INPUT: true; the input reads as it did. -/
def limitPlansSpec : ChangeSpec := { name := "limitPlans", fn := fun _ => fun
  | [d1, d2, d3, d4] => { results := [.lit (.bool true)], args := [d1, d2, d3, d4] }
  | _ => none }
def limitPlansRow : OpenClaim := { program := "ytmmingnkepifoaa", sum := "deab52fef5c61839f4f84a159cb8644ff9ff8b92ce35818516e22dcbd51183c3", func := "saleroom/saleroomlaw22.LimitPlans", spec := "limitPlans", unfollowed := true, recurses := true, apart := false }
def LimitPlansSaid : Prop := limitPlansRow.holds Try.pinned (OpenSpec.ofChange limitPlansSpec)

/-- ITS FALSE NEIGHBOUR: 'it returns false'. Refute it at one input. -/
def limitPlansWrong : ChangeSpec := { name := "limitPlans", fn := fun _ => fun
  | [d1, d2, d3, d4] => { results := [.lit (.bool false)], args := [d1, d2, d3, d4] }
  | _ => none }
def LimitPlansWrongFalsely : Prop := limitPlansRow.holds Try.pinned (OpenSpec.ofChange limitPlansWrong)

/-- 'saleroomlaw22.LimitRooms': WHATEVER THE INPUT: true; the input reads as it did. -/
def limitRoomsSpec : ChangeSpec := { name := "limitRooms", fn := fun _ => fun
  | [d1, d2, d3] => { results := [.lit (.bool true)], args := [d1, d2, d3] }
  | _ => none }
def limitRoomsRow : OpenClaim := { program := "ytmmingnkepifoaa", sum := "deab52fef5c61839f4f84a159cb8644ff9ff8b92ce35818516e22dcbd51183c3", func := "saleroom/saleroomlaw22.LimitRooms", spec := "limitRooms", unfollowed := true, recurses := true, apart := false }
def LimitRoomsSaid : Prop := limitRoomsRow.holds Try.pinned (OpenSpec.ofChange limitRoomsSpec)

/-- ITS FALSE NEIGHBOUR: 'it returns false'. Refute it at one input. -/
def limitRoomsWrong : ChangeSpec := { name := "limitRooms", fn := fun _ => fun
  | [d1, d2, d3] => { results := [.lit (.bool false)], args := [d1, d2, d3] }
  | _ => none }
def LimitRoomsWrongFalsely : Prop := limitRoomsRow.holds Try.pinned (OpenSpec.ofChange limitRoomsWrong)

/-- 'saleroomlaw22.LimitSplits': WHATEVER THE INPUT: true; the input reads as it did. -/
def limitSplitsSpec : ChangeSpec := { name := "limitSplits", fn := fun _ => fun
  | [d1, d2] => { results := [.lit (.bool true)], args := [d1, d2] }
  | _ => none }
def limitSplitsRow : OpenClaim := { program := "ytmmingnkepifoaa", sum := "deab52fef5c61839f4f84a159cb8644ff9ff8b92ce35818516e22dcbd51183c3", func := "saleroom/saleroomlaw22.LimitSplits", spec := "limitSplits", unfollowed := true, recurses := true, apart := false }
def LimitSplitsSaid : Prop := limitSplitsRow.holds Try.pinned (OpenSpec.ofChange limitSplitsSpec)

/-- ITS FALSE NEIGHBOUR: 'it returns false'. Refute it at one input. -/
def limitSplitsWrong : ChangeSpec := { name := "limitSplits", fn := fun _ => fun
  | [d1, d2] => { results := [.lit (.bool false)], args := [d1, d2] }
  | _ => none }
def LimitSplitsWrongFalsely : Prop := limitSplitsRow.holds Try.pinned (OpenSpec.ofChange limitSplitsWrong)

/-- 'saleroomlaw22.LimitWidest': WHATEVER THE INPUT: true; the input reads as it did. -/
def limitWidestSpec : ChangeSpec := { name := "limitWidest", fn := fun _ => fun
  | [d1, d2, d3, d4] => { results := [.lit (.bool true)], args := [d1, d2, d3, d4] }
  | _ => none }
def limitWidestRow : OpenClaim := { program := "ytmmingnkepifoaa", sum := "deab52fef5c61839f4f84a159cb8644ff9ff8b92ce35818516e22dcbd51183c3", func := "saleroom/saleroomlaw22.LimitWidest", spec := "limitWidest", unfollowed := true, recurses := true, apart := false }
def LimitWidestSaid : Prop := limitWidestRow.holds Try.pinned (OpenSpec.ofChange limitWidestSpec)

/-- ITS FALSE NEIGHBOUR: 'it returns false'. Refute it at one input. -/
def limitWidestWrong : ChangeSpec := { name := "limitWidest", fn := fun _ => fun
  | [d1, d2, d3, d4] => { results := [.lit (.bool false)], args := [d1, d2, d3, d4] }
  | _ => none }
def LimitWidestWrongFalsely : Prop := limitWidestRow.holds Try.pinned (OpenSpec.ofChange limitWidestWrong)

/- THE SECOND FORM. 'bulk': how many values and letters a reading holds, each counted each time it is reached (what is shared counts as often as it is met; a slice's spare places count too). A statement '..UptoSaid' is the law's where the arguments, and the package variables that the reading takes, are together of bulk at most 1048576: NARROWER than '..Said'. Prove '..Said' where nothing that the law and all that it calls make is longer than what came in: it says more and counts as full. Else prove '..UptoSaid'. A law counts once. -/
mutual
def uptoBulk {H : Type} : DataW H → Nat
  | .lit (.string bytes) => bytes.length + 1
  | .lit _ => 1
  | .nil => 1
  | .ptr d => uptoBulk d + 1
  | .slice elems spare => uptoBulkAll elems + uptoBulkAll spare + 1
  | .agg parts => uptoBulkAll parts + 1
  | .iface _ d => uptoBulk d + 1
  | .map entries => uptoBulkEntries entries + 1
  | .held _ => 1
def uptoBulkAll {H : Type} : List (DataW H) → Nat
  | [] => 0
  | d :: r => uptoBulk d + uptoBulkAll r
def uptoBulkEntries {H : Type} : List (Lit × DataW H) → Nat
  | [] => 0
  | x :: r => uptoBulkEntry x + uptoBulkEntries r
def uptoBulkEntry {H : Type} : Lit × DataW H → Nat
  | (.string bytes, d) => bytes.length + uptoBulk d + 1
  | (_, d) => uptoBulk d + 1
 end
def uptoSmall : (H : Type) → List (DataW H) → Bool := fun _ ds => decide (uptoBulkAll ds ≤ 1048576)
def OpenSpec.upto (s : _root_.Go.ChangeSpec) : _root_.Go.OpenSpec := { _root_.Go.OpenSpec.ofChange s with cond := some uptoSmall }

/-- 'saleroomlaw22.LimitPlans', WHERE WHAT IT READS IS OF BULK AT MOST 1048576: true; the input reads as it did. -/
def limitPlansUptoRow : OpenClaim := { program := "ytmmingnkepifoaa", sum := "deab52fef5c61839f4f84a159cb8644ff9ff8b92ce35818516e22dcbd51183c3", func := "saleroom/saleroomlaw22.LimitPlans", spec := "limitPlans", unfollowed := true, recurses := true, apart := false, narrowed := true }
def LimitPlansUptoSaid : Prop := limitPlansUptoRow.holds Try.pinned (OpenSpec.upto limitPlansSpec)

/-- 'saleroomlaw22.LimitRooms', WHERE WHAT IT READS IS OF BULK AT MOST 1048576: true; the input reads as it did. -/
def limitRoomsUptoRow : OpenClaim := { program := "ytmmingnkepifoaa", sum := "deab52fef5c61839f4f84a159cb8644ff9ff8b92ce35818516e22dcbd51183c3", func := "saleroom/saleroomlaw22.LimitRooms", spec := "limitRooms", unfollowed := true, recurses := true, apart := false, narrowed := true }
def LimitRoomsUptoSaid : Prop := limitRoomsUptoRow.holds Try.pinned (OpenSpec.upto limitRoomsSpec)

/-- 'saleroomlaw22.LimitSplits', WHERE WHAT IT READS IS OF BULK AT MOST 1048576: true; the input reads as it did. -/
def limitSplitsUptoRow : OpenClaim := { program := "ytmmingnkepifoaa", sum := "deab52fef5c61839f4f84a159cb8644ff9ff8b92ce35818516e22dcbd51183c3", func := "saleroom/saleroomlaw22.LimitSplits", spec := "limitSplits", unfollowed := true, recurses := true, apart := false, narrowed := true }
def LimitSplitsUptoSaid : Prop := limitSplitsUptoRow.holds Try.pinned (OpenSpec.upto limitSplitsSpec)

/-- 'saleroomlaw22.LimitWidest', WHERE WHAT IT READS IS OF BULK AT MOST 1048576: true; the input reads as it did. -/
def limitWidestUptoRow : OpenClaim := { program := "ytmmingnkepifoaa", sum := "deab52fef5c61839f4f84a159cb8644ff9ff8b92ce35818516e22dcbd51183c3", func := "saleroom/saleroomlaw22.LimitWidest", spec := "limitWidest", unfollowed := true, recurses := true, apart := false, narrowed := true }
def LimitWidestUptoSaid : Prop := limitWidestUptoRow.holds Try.pinned (OpenSpec.upto limitWidestSpec)

end Rows
end Go.Proofs.Ytmmingnkepifoaa
