/- SumParts: whatever the two parts, the statement's function answers true. No condition. -/
import Derived.Test.YtbbnapdkiohefaaPSumPartsx1
import Derived.Test.YtbbnapdkiohefaaRow
namespace Go.Proofs.Ytbbnapdkiohefaa.MSumParts
open Go.RowKit Go.Proofs.YtbbnapdkiohefaaW.PrintWords Go.Proofs.YtbbnapdkiohefaaW.PrintMore Go.Proofs.Ytbbnapdkiohefaa.PSumParts Go.Proofs.Ytbbnapdkiohefaa.H Go.Proofs.Ytbbnapdkiohefaa.CrcM
set_option linter.unusedVariables false

theorem ext_ext (a b : List Int) : ext (ext 0#32 a) b = ext 0#32 (a ++ b) := by
  unfold ext run
  rw [List.foldl_append, BitVec.not_not]
theorem open_seal (l : List Int) : openB (l ++ le4 (ext 0#32 l)) = (l, true) := by
  have h4 : (l ++ le4 (ext 0#32 l)).length = l.length + 4 := by simp [le4]
  unfold openB
  rw [h4, if_neg (by omega), Nat.add_sub_cancel, List.take_left' rfl, if_pos rfl]

theorem pure (k : Nat) (a b : List Int) : saleroomlaw03_SumParts.f (k + 1) a b = some true := by
  unfold saleroomlaw03_SumParts.f saleroomlaw03_alive.f
  simp only [Option.bind_some, if_true]
  by_cases h1 : (a.length : Int) > 2000
  · rw [if_pos h1]; simp only [saleroomlaw03_SumParts.j0, if_true]
  rw [if_neg h1]
  by_cases h2 : (b.length : Int) > 2000
  · rw [decide_eq_true h2]; simp only [saleroomlaw03_SumParts.j0, if_true]
  rw [decide_eq_false h2]
  simp only [saleroomlaw03_SumParts.j0, Bool.false_eq_true, if_false]
  unfold sum_Seal.f sum_Open.f sum_Of.f sum_Extend.f saleroomref01_Same.f
  have ha : a.length ≤ 1000000 := by omega
  have hl : (a ++ le4 (ext 0#32 a)).length ≤ 1000000 := by simp [le4]; omega
  have f1 : ([a] : List (List Int)).flatten = a := by simp
  have f2 : ([b] : List (List Int)).flatten = b := by simp
  have f3 : ([a, b] : List (List Int)).flatten = a ++ b := by simp
  have h3 : (a ++ b).length ≤ 1000000 := by rw [List.length_append]; omega
  have e0 : BitVec.ofInt 32 0 = 0#32 := rfl
  rw [f1, f2, f3, if_pos ha]
  simp only [Option.bind_some]
  rw [if_pos hl, if_pos ha, if_pos h3, if_pos (show b.length ≤ 1000000 by omega), open_seal]
  rw [Option.bind_some, Option.bind_some, if_pos (And.intro (v32_lo _) (v32_hi _)), bits32, ext_ext, Option.bind_some, Option.bind_some, if_pos rfl, if_pos (And.intro (Int.le_refl 0) (by decide)), e0, Option.bind_some, Option.bind_some, if_pos rfl, if_pos rfl, decide_eq_true rfl]

theorem opens : Opens Try.prog 25 (Kd.slice 5 (Kd.int .u8)) (fun l => ∀ x ∈ l, (Lit.int .u8 x).wf = true) := opens_slice 0 Try.underlying25 (by kernel_rfl) (opens_int Try.underlying5)
theorem main (A : Option Addr) (c : Nat) (l : List Int) (e : l.length ≤ c) {W0 : World} (m : Kd.C (Kd.int .u8) W0 A l.length l) (g : ∀ x ∈ l, (Lit.int .u8 x).wf = true)
    (A1 : Option Addr) (c1 : Nat) (l1 : List Int) (e1 : l1.length ≤ c1) (m1 : Kd.C (Kd.int .u8) W0 A1 l1.length l1) (g1 : ∀ x ∈ l1, (Lit.int .u8 x).wf = true) (W : World) (hW : W0 = W := by rfl) :
    Calls Try.prog 4 #[.slice A l.length c, .slice A1 l1.length c1] W fun e W' => e = .returned (.bool true) ∧ Below W.heap.size W W' := by
  subst hW
  exact saleroomlaw03_SumParts.calls (0 + 1) (fun k => k < W0.heap.size) A c l (fun k => k < W0.heap.size) A1 c1 l1 true W0 (Kd.V_mk e (Kd.C_F (Kd.heap_int .u8) m)) (Kd.V_mk e1 (Kd.C_F (Kd.heap_int .u8) m1)) (pure 0 l l1)
end Go.Proofs.Ytbbnapdkiohefaa.MSumParts
