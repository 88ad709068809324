/- SumBytes: whatever the parts, the statement's function answers true. No condition. -/
import Derived.Test.YtbbnapdkiohefaaPSumBytesx1
import Derived.Test.YtbbnapdkiohefaaRow
namespace Go.Proofs.Ytbbnapdkiohefaa.MSumBytes
open Go.RowKit Go.Proofs.YtbbnapdkiohefaaW.PrintWords Go.Proofs.Ytbbnapdkiohefaa.PSumBytes Go.Proofs.Ytbbnapdkiohefaa.H Go.Proofs.Ytbbnapdkiohefaa.CrcM
set_option linter.unusedVariables false

theorem rd_nat (l : List (List Int)) (k : Nat) : rd_L1 l k = l.getD k [] := by simp [rd_L1]
theorem few_tells (l : List (List Int)) (hl : l.length ≤ 9223372036854775807) (d : Nat) : ∀ (k i : Nat), i + d = l.length → d < k → upLen l i ≤ 2000 →
    ∃ r, saleroomref03_Few.l0 k l 2000 (upLen l i) i = some r ∧ (r = true → l.flatten.length ≤ 2000) := by
  induction d with
  | zero =>
    intro k i hi hk hu
    obtain ⟨k, rfl⟩ : ∃ m, k = m + 1 := ⟨k - 1, by omega⟩
    refine ⟨true, by simp only [saleroomref03_Few.l0]; rw [if_neg (by omega)], fun _ => ?_⟩
    have : upLen l i = l.flatten.length := by unfold upLen; rw [List.take_of_length_le (by omega)]
    omega
  | succ d ih =>
    intro k i hi hk hu
    obtain ⟨k, rfl⟩ : ∃ m, k = m + 1 := ⟨k - 1, by omega⟩
    simp only [saleroomref03_Few.l0]
    rw [if_pos (by omega), if_pos (by omega), rd_nat]
    have hw : wrap64 (2000 - (upLen l i : Int)) = 2000 - (upLen l i : Int) := by unfold wrap64; omega
    rw [hw]
    have hs := upLen_succ l i (by omega)
    by_cases hgt : ((l.getD i []).length : Int) > 2000 - (upLen l i : Int)
    · exact ⟨false, by rw [if_pos hgt], fun h => by cases h⟩
    · rw [if_neg hgt]
      have h1 : wrap64 ((upLen l i : Int) + ((l.getD i []).length : Int)) = (upLen l (i + 1) : Int) := by rw [hs]; unfold wrap64; omega
      have h2 : wrap64 ((i : Int) + 1) = ((i + 1 : Nat) : Int) := by unfold wrap64; omega
      rw [h1, h2]
      exact ih k (i + 1) (by omega) (by omega) (by omega)

theorem pure (l : List (List Int)) (hl : l.length ≤ 9223372036854775807) (hb : ∀ x ∈ l, ∀ y ∈ x, 0 ≤ y ∧ y < 256) : saleroomlaw03_SumBytes.f (l.length + 1) l = some true := by
  unfold saleroomlaw03_SumBytes.f saleroomlaw03_alive.f
  simp only [Option.bind_some, if_true]
  unfold saleroomref03_Few.f
  by_cases h8 : (l.length : Int) > 8
  · rw [if_pos h8]; simp only [Option.bind_some, Bool.false_eq_true, if_false]
  · rw [if_neg h8]
    obtain ⟨r, hr, hf⟩ := few_tells l hl l.length (l.length + 1) 0 (by omega) (by omega) (by rw [upLen_zero]; omega)
    rw [upLen_zero] at hr
    rw [show saleroomref03_Few.l0 (l.length + 1) l 2000 0 0 = some r from hr]
    simp only [Option.bind_some]
    cases r
    · simp only [Bool.false_eq_true, if_false]
    · simp only [if_true]
      have hfl := hf rfl
      have hall : (l.flatten.all fun x => decide (0 ≤ x ∧ x < 256)) = true := by
        rw [List.all_eq_true]; intro x hx
        obtain ⟨p, hp, hxp⟩ := List.mem_flatten.1 hx
        simpa using hb p hp x hxp
      unfold saleroomref01_Join.f sum_Of.f
      generalize l.flatten = b at hfl hall ⊢
      rw [if_pos (show b.length ≤ 1000000 by omega)]
      simp only [Option.bind_some]
      unfold sum_Open.f saleroomref03_Open.f saleroomref03_Of.f sum_Seal.f saleroomref03_Seal.f saleroomref01_Same.f
      have hb6 : b.length ≤ 1000000 := by omega
      rw [if_pos hb6, if_pos (And.intro hall hb6), if_pos hall, if_pos hb6, if_pos (And.intro hall hb6), if_pos hb6]
      simp

theorem opens : Opens Try.prog 22 (Kd.slice 25 (Kd.slice 5 (Kd.int .u8))) (fun l => ∀ x ∈ l, ∀ y ∈ x, (Lit.int .u8 y).wf = true) :=
  opens_slice [] Try.underlying22 (by kernel_rfl) (opens_slice 0 Try.underlying25 (by kernel_rfl) (opens_int Try.underlying5))
theorem main (A : Option Addr) (c : Nat) (l : List (List Int)) (e : l.length ≤ c) {W0 : World} (m : Kd.C (Kd.slice 5 (Kd.int .u8)) W0 A l.length l) (g : ∀ x ∈ l, ∀ y ∈ x, (Lit.int .u8 y).wf = true) (W : World) (hW : W0 = W := by rfl) :
    Calls Try.prog 3 #[.slice A l.length c] W fun e W' => e = .returned (.bool true) ∧ Below W.heap.size W W' := by
  subst hW
  exact saleroomlaw03_SumBytes.calls (l.length + 1) A c l true W0 m e (pure l m.2.1 (fun x hx y hy => wf_u8 (g x hx y hy)))
end Go.Proofs.Ytbbnapdkiohefaa.MSumBytes
