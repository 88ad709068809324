/- Some texts of one seat in one file, in build order. -/
import Derived.Test.YtmcapemlfplcgaaDoorG8
import Derived.Test.YtmcapemlfplcgaaDoorProg
import Derived.Below
import Derived.Deep.Draws
import Derived.Deep.AppendLies
import Derived.Maps.AppendAt
import Derived.OwnWalk
import Derived.Laws.BytesArg
import Derived.Laws.MakeOwn
import Derived.Laws.OwnMore
import Derived.Deep.OwnRows
import Derived.Tactics
import Derived.Lib.ConvBytes
import Derived.Laws.Slices
import Derived.WalkKit
import Derived.KernelRfl
import Derived.RowKit3
import Derived.Deep.LoopGhost
import Derived.Deep.QuietTactic
import Derived.BigQuiet
import Derived.WideLaws
import Derived.Deep.DeepCutAuto
import Derived.Deep.CutBlock
import Derived.Deep.RegionHeld3
import Derived.Laws.Rows
import Derived.Lib.AppendStr
import Derived.ArgAppend
import Derived.Laws.IdiomCopy
import Derived.OrdersHeld
import Derived.Laws.BitsLemmas
import Derived.RowKit
import Derived.Test.YtmcapemlfplcgaaDoorWWords
import Derived.Test.YtmcapemlfplcgaaDoorWLast
import Derived.Test.YtmcapemlfplcgaaDoorWTab
import Derived.Test.YtmcapemlfplcgaaDoorWFour
import Derived.Test.YtmcapemlfplcgaaDoorWQPut
import Derived.Test.YtmcapemlfplcgaaDoorWApart
import Derived.Test.YtmcapemlfplcgaaDoorWArr
import Derived.Test.YtmcapemlfplcgaaDoorWZeros
import Derived.Test.YtmcapemlfplcgaaDoorWFoot
import Derived.Test.YtmcapemlfplcgaaDoorWKept
import Derived.Test.YtmcapemlfplcgaaDoorWShare
import Derived.Test.YtmcapemlfplcgaaDoorWN
import Derived.Test.YtmcapemlfplcgaaDoorWFootNe
import Derived.Test.YtmcapemlfplcgaaDoorWAt
import Derived.Test.YtmcapemlfplcgaaDoorWEqStruct
import Derived.Test.YtmcapemlfplcgaaDoorWRepsOne
import Derived.Test.YtmcapemlfplcgaaDoorWInv
import Derived.Test.YtmcapemlfplcgaaDoorWInvWords
import Derived.Test.YtmcapemlfplcgaaDoorWGuard
import Derived.Test.YtmcapemlfplcgaaDoorWNEv
import Derived.Test.YtmcapemlfplcgaaDoorWMore
/- cmp.Compare[int], set.Count. -/
namespace Go.Proofs.YtmcapemlfplcgaaDoor.H
open Go.RowKit Go.Proofs.YtmcapemlfplcgaaDoorW.PrintWords Go.Proofs.YtmcapemlfplcgaaDoorW.PrintLast Go.Proofs.YtmcapemlfplcgaaDoorW.PrintMore Go.Proofs.YtmcapemlfplcgaaDoor.TrM Go.Proofs.YtmcapemlfplcgaaDoor.AtM
set_option linter.unusedVariables false
set_option linter.unusedSimpArgs false
set_option maxRecDepth 100000
theorem isNaN_int (x : Int) (W : World) : Calls Tryd.prog 65 #[.int .i64 x] W fun e W' => e = .returned (.bool false) ∧ W = W' := by
  go_enter Tryd.func65, Tryd.ntmps65
  go_wp2
  go_ret
  simp
theorem cmp_int (x y : Int) (W : World) : Calls Tryd.prog 45 #[.int .i64 x, .int .i64 y] W fun e W' => e = .returned (.int .i64 (cmpN x y)) ∧ W = W' := by
  by_cases c1 : x < y
  · have e : cmpN x y = -1 := by unfold cmpN; rw [if_pos c1]
    rw [e]
    have b0 : decide (x < y) = true := decide_eq_true c1
    clear c1 e
    go_enter Tryd.func45, Tryd.ntmps45
    go_wp2_with (go_at_call 65; refine (isNaN_int _ _).mono ?_; rintro e w' ⟨rfl, rfl⟩)
    go_ret
    exact ⟨rfl, rfl⟩
  · by_cases c2 : y < x
    · have e : cmpN x y = 1 := by unfold cmpN; rw [if_neg c1, if_pos c2]
      rw [e]
      have b0 : decide (x < y) = false := decide_eq_false c1
      have b1 : decide (y < x) = true := decide_eq_true c2
      clear c1 c2 e
      go_enter Tryd.func45, Tryd.ntmps45
      go_wp2_with (go_at_call 65; refine (isNaN_int _ _).mono ?_; rintro e w' ⟨rfl, rfl⟩)
      go_ret
      exact ⟨rfl, rfl⟩
    · have e : cmpN x y = 0 := by unfold cmpN; rw [if_neg c1, if_neg c2]
      rw [e]
      have b0 : decide (x < y) = false := decide_eq_false c1
      have b1 : decide (y < x) = false := decide_eq_false c2
      clear c1 c2 e
      go_enter Tryd.func45, Tryd.ntmps45
      go_wp2_with (go_at_call 65; refine (isNaN_int _ _).mono ?_; rintro e w' ⟨rfl, rfl⟩)
      go_ret
      exact ⟨rfl, rfl⟩
theorem Count_calls (x : Int) (W : World) (hx : U64 x) : Calls Tryd.prog 14 #[.int .u64 x] W fun e W' => e = .returned (.int .i64 (pcS x)) ∧ W = W' := by
  go_enter Tryd.func14, Tryd.ntmps14
  go_wp2_with (go_at_call 43; refine (ones_calls _ _ hx).mono ?_; rintro e w' ⟨rfl, rfl⟩)
  go_ret
  exact ⟨rfl, rfl⟩
end Go.Proofs.YtmcapemlfplcgaaDoor.H
/- cmp.Or[int], set.Cmp. -/
namespace Go.Proofs.YtmcapemlfplcgaaDoor.H
open Go.RowKit Go.Proofs.YtmcapemlfplcgaaDoorW.PrintWords Go.Proofs.YtmcapemlfplcgaaDoorW.PrintLast Go.Proofs.YtmcapemlfplcgaaDoorW.PrintMore Go.Proofs.YtmcapemlfplcgaaDoor.TrM Go.Proofs.YtmcapemlfplcgaaDoor.AtM
set_option linter.unusedVariables false
set_option linter.unusedSimpArgs false
set_option maxRecDepth 100000
theorem Or_calls (p q : Int) (b : Nat) (W : World) (r0 : W.cell? { block := b, off := 0 } = some (.int .i64 p)) (r1 : W.cell? { block := b, off := 1 } = some (.int .i64 q)) : Calls Tryd.prog 44 #[.slice (some { block := b, off := 0 }) 2 2] W fun e W' => e = .returned (.int .i64 (if p = 0 then q else p)) ∧ W = W' := by
  go_enter Tryd.func44, Tryd.ntmps44
  go_wp2
  go_loop [8] (fun i => ∃ k : Int, 0 ≤ k ∧ k ≤ 2 ∧ i = .int .i64 k ∧ (1 ≤ k → p = 0) ∧ (2 ≤ k → q = 0)) (fun i => 2 - (intOf i).toNat)
  case atStart => exact ⟨0, by omega, by omega, rfl, by omega, by omega⟩
  case round =>
    obtain ⟨k, h1, h2, rfl, h3, h4⟩ := hrel
    rcases (by omega : k = 0 ∨ k = 1 ∨ k = 2) with rfl | rfl | rfl
    · by_cases c : p = 0
      · have b2 : (p != 0) = false := by simp [c]
        have HC := Lib.hid c
        clear c h3 h4
        go_wp2
        go_round
        case rel => exact ⟨1, by omega, by omega, rfl, fun _ => HC.out, by omega⟩
        case measure => simp [intOf]
      · have b2 : (p != 0) = true := by simp [c]
        have HC := Lib.hid c
        clear c h3 h4
        go_wp2
        go_ret
        exact ⟨by have h := HC.out; simp [h], rfl⟩
    · have HP := Lib.hid (h3 (by omega))
      by_cases c : q = 0
      · have b2 : (q != 0) = false := by simp [c]
        have HC := Lib.hid c
        clear c h3 h4
        go_wp2
        go_round
        case rel => exact ⟨2, by omega, by omega, rfl, fun _ => HP.out, fun _ => HC.out⟩
        case measure => simp [intOf]
      · have b2 : (q != 0) = true := by simp [c]
        have HC := Lib.hid c
        clear c h3 h4
        go_wp2
        go_ret
        exact ⟨by have h := HP.out; simp [h], rfl⟩
    · have HP := Lib.hid (h3 (by omega))
      have HC := Lib.hid (h4 (by omega))
      clear h3 h4
      go_wp2
      go_ret
      exact ⟨by have h := HP.out; have h2 := HC.out; simp [h, h2], rfl⟩
theorem cell_new0 (W : World) (p q : Value) (t : Nat) : (W.alloc (.cells #[p, q] t)).cell? { block := W.heap.size, off := 0 } = some p := by
  unfold World.cell? World.alloc
  simp only [Array.getElem?_push_size]
  rfl
theorem cell_new1 (W : World) (p q : Value) (t : Nat) : (W.alloc (.cells #[p, q] t)).cell? { block := W.heap.size, off := 1 } = some q := by
  unfold World.cell? World.alloc
  simp only [Array.getElem?_push_size]
  rfl
theorem Cmp_calls (x y : Int) (W : World) (hx : U64 x) (hy : U64 y) : Calls Tryd.prog 20 #[.int .u64 x, .int .u64 y] W fun e W' => e = .returned (.int .i64 (cmpS x y)) ∧ ∃ o, W' = W.alloc o := by
  go_enter Tryd.func20, Tryd.ntmps20
  go_wp2_with first
    | (go_at_call 14; refine (Count_calls _ _ (by assumption)).mono ?_; rintro e w' ⟨rfl, rfl⟩)
    | (go_at_call 45; refine (cmp_int _ _ _).mono ?_; rintro e w' ⟨rfl, rfl⟩)
    | (go_at_call 46; refine (cmp_u64 _ _ _).mono ?_; rintro e w' ⟨rfl, rfl⟩)
  refine (Or_calls _ _ _ _ (cell_new0 _ _ _ _) (cell_new1 _ _ _ _)).mono ?_
  rintro e w' ⟨rfl, rfl⟩
  have hs : cmpS x y = if cmpN (pcS x) (pcS y) = 0 then cmpN x y else cmpN (pcS x) (pcS y) := by
    unfold cmpS cmpN; repeat' split
    all_goals first | rfl | omega
  rw [← hs]
  clear hs
  go_wp2
  go_ret
  exact ⟨rfl, _, rfl⟩
end Go.Proofs.YtmcapemlfplcgaaDoor.H
-- PRINTED BY A CHANGED COPY OF THE PRINT (wip/tools/patch_print.py), over contracts by hand
namespace Go.Proofs.YtmcapemlfplcgaaDoor.PAll2
open Go.RowKit Go.Proofs.YtmcapemlfplcgaaDoorW.PrintWords Go.Proofs.YtmcapemlfplcgaaDoorW.PrintLast Go.Proofs.YtmcapemlfplcgaaDoorW.PrintMore
attribute [local go_sem] max2_int min2_int max_two min_two max_three min_three max_four min_four   -- for this text's walks alone
set_option linter.unusedVariables false
set_option linter.unusedSimpArgs false



def errW : Option Int → Value
  | none => .nilIface
  | some c => .iface 0 (.int .i64 c)
theorem errW_none : errW none = .nilIface := rfl
theorem errW_some (c : Int) : errW (some c) = .iface 0 (.int .i64 c) := rfl

theorem info3 : (Tryd.prog.info? 3).map (fun i => (i.zero, i.size, i.bytes)) = some (some (.int .i64 0), 1, 8) := by kernel_rfl
theorem info22 : (Tryd.prog.info? 22).map (fun i => (i.zero, i.size, i.bytes)) = some (some (.int .u64 0), 1, 8) := by kernel_rfl
-- the values' own types

end Go.Proofs.YtmcapemlfplcgaaDoor.PAll2
