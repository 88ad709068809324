/- The example of the statements about sum: alive() is true. -/
import Derived.Test.YtbbnapdkiohefaaSum2
import Derived.Lib.ConvBytes
namespace Go.Proofs.Ytbbnapdkiohefaa.H
open Go.RowKit Go.Proofs.YtbbnapdkiohefaaW.PrintWords Go.Proofs.YtbbnapdkiohefaaW.PrintLast Go.Proofs.YtbbnapdkiohefaaW.PrintMore Go.Proofs.Ytbbnapdkiohefaa.CrcM
set_option linter.unusedVariables false
set_option linter.unusedSimpArgs false

theorem al1 : openB ([97, 98] ++ le4 (ext 0#32 [97, 98])) = ([97, 98], true) := by decide +kernel
theorem al2 : openB [1, 2, 3, 4, 5] = ([], false) := by decide +kernel
theorem al3 : v32 (ext 0#32 ([[49, 50, 51, 52, 53, 54, 55, 56, 57]] : List (List Int)).flatten) = 3808858755 := by decide +kernel
theorem al4 : v32 (ext 0#32 ([] : List (List Int)).flatten) = 0 := by decide +kernel
theorem al5 : v32 (ext (ext 0#32 ([[49, 50, 51, 52, 53]] : List (List Int)).flatten) [54, 55, 56, 57]) = 3808858755 := by decide +kernel

set_option maxHeartbeats 1600000 in
theorem alive_calls (w : World) : Calls Try.prog 7 #[] w fun e w' => e = .returned (.bool true) ∧ Below w.heap.size w w' := by
  have kc := fun (W : World) (C : Array Value) (n c : Nat) => Lib.run_convert_bytes_const (P := Try.prog) W 25 5 C n c Try.underlying25 Try.underlying5
  have e1 := al1
  generalize h5 : ext 0#32 ([[49, 50, 51, 52, 53]] : List (List Int)).flatten = x5
  have e5 := al5
  rw [h5] at e5
  generalize h6 : ext x5 [54, 55, 56, 57] = x6 at e5
  have E5 := Lib.hid (And.intro h5 (And.intro h6 e5))
  clear h5 h6 e5
  have b1 : (v32 x6 == 3808858755) = true := by rw [E5.out.2.2]; rfl
  generalize hS : ([97, 98] ++ le4 (ext 0#32 [97, 98]) : List Int) = s1 at e1
  have hl1 : s1.length ≤ 1000000 := by rw [← hS]; simp [le4]
  have E1 := Lib.hid (And.intro e1 hS)
  clear e1 hS
  go_enter Try.func7, Try.ntmps7
  have T0 := trivial
  go_wp2_with (first
    | (go_at_call 15; (with_reducible refine (Seal_eq _ _ _ [97, 98] s1 _ ?s1 E1.out.2 ?s2 ?s3 ?s4).mono ?_); (case s1 => rfl); (case s2 => exact C_lit _ [97, 98] _ _ (by simp)); (case s3 => exact Nat.le_refl _); (case s4 => simp); rintro e w1 ⟨A1, c1, rfl, hc1, hr1, hb1⟩; have HR1 := Aside0.mk hr1; have HB1 := Aside0.mk (below_step (below_alloc (Below.refl _ _) _) hb1); clear hr1 hb1)
    | (go_at_call 10; have _t := HR1; (with_reducible refine (Open_eq _ _ _ s1 _ _ _ ?s1 E1.out.1 ?s2 ?s3 ?s4).mono ?_); (case s1 => rfl); (case s2 => exact HR1.out); (case s3 => exact hc1); (case s4 => exact hl1); clear HR1 _t; rintro e w2 ⟨A2, c2, rfl, hc2, hr2, hb2⟩; have HR2 := Aside0.mk hr2; have HB2 := Aside0.mk (below_step HB1.out hb2); clear hr2 hb2 HB1)
    | (go_at_call 10; have _t := HR2; (with_reducible refine (Open_eq _ _ _ [1, 2, 3, 4, 5] _ _ _ ?s1 al2 ?s2 ?s3 ?s4).mono ?_); (case s1 => rfl); (case s2 => exact C_lit _ [1, 2, 3, 4, 5] _ _ (by simp)); (case s3 => exact Nat.le_refl _); (case s4 => simp); rintro e w3 ⟨A3, c3, rfl, hc3, hr3, hb3⟩; have hq3 := below_step (below_alloc (Below.refl _ _) _) hb3; have HR3 := Aside0.mk (Kd.C_below HR2.out hq3); have HB3 := Aside0.mk (below_step HB2.out hq3); clear hr3 hb3 hq3 HB2 HR2 _t)
    | (go_at_call 12; have _t := HR3; (with_reducible refine (Of_eq _ _ _ [[49, 50, 51, 52, 53, 54, 55, 56, 57]] _ _ ?s1 al3 ?s2 ?s3 ?s4).mono ?_); (case s1 => rfl); (case s2 => exact C_oneg _ _ _ (World.size_alloc _ _) (Nat.le_refl 9) (C_lit w3 [49, 50, 51, 52, 53, 54, 55, 56, 57] _ _ (by simp))); (case s3 => exact Nat.le_refl _); (case s4 => simp); rintro e w4 ⟨rfl, hb4⟩; have hq4 := below_step (below_alloc (below_alloc (Below.refl _ _) _) _) hb4; have HR4 := Aside0.mk (Kd.C_below HR3.out hq4); have HB4 := Aside0.mk (below_step HB3.out hq4); clear hb4 hq4 HB3 HR3 _t)
    | (go_at_call 12; have _t := HR4; (with_reducible refine (Of_eq _ _ _ [] _ _ ?s1 al4 ?s2 ?s3 ?s4).mono ?_); (case s1 => rfl); (case s2 => exact C_nil _ _); (case s3 => exact Nat.le_refl _); (case s4 => simp); rintro e w5 ⟨rfl, hb5⟩; have HR5 := Aside0.mk (Kd.C_below HR4.out hb5); have HB5 := Aside0.mk (below_step HB4.out hb5); clear hb5 HB4 HR4 _t)
    | (go_at_call 12; have _t := HR5; (with_reducible refine (Of_eq _ _ _ [[49, 50, 51, 52, 53]] (v32 x5) _ ?s1 ?s5 ?s2 ?s3 ?s4).mono ?_); (case s1 => rfl); (case s5 => rw [E5.out.1]); (case s2 => exact C_oneg _ _ _ (World.size_alloc _ _) (Nat.le_refl 5) (C_lit w5 [49, 50, 51, 52, 53] _ _ (by simp))); (case s3 => exact Nat.le_refl _); (case s4 => simp); rintro e w6 ⟨rfl, hb6⟩; have hq6 := below_step (below_alloc (below_alloc (Below.refl _ _) _) _) hb6; have HR6 := Aside0.mk (Kd.C_below HR5.out hq6); have HB6 := Aside0.mk (below_step HB5.out hq6); clear hb6 hq6 HB5 HR5 _t)
    | (go_at_call 17; have _t := HR6; (with_reducible refine (Extend_eq _ x5 x6 _ _ _ [54, 55, 56, 57] _ ?s1 rfl E5.out.2.1 ?s2 ?s3).mono ?_); (case s1 => rfl); (case s2 => exact C_lit _ [54, 55, 56, 57] _ _ (by simp)); (case s3 => exact Nat.le_refl _); rintro e w7 ⟨rfl, hb7⟩; have hq7 := below_step (below_alloc (Below.refl _ _) _) hb7; have HR7 := Aside0.mk (Kd.C_below HR6.out hq7); have HB7 := Aside0.mk (below_step HB6.out hq7); have hstr := Kd.C_string (P := Try.prog) (c := c2) Try.underlying25 Try.underlying5 Try.underlying9 HR7.out; rw [show strOfNums [97, 98] = (⟨#[97, 98]⟩ : ByteArray) from rfl] at hstr; simp only [List.length_cons, List.length_nil, Nat.zero_add, Nat.reduceAdd] at hstr; clear hb7 hq7 HB6 HR6 _t))
  go_ret
  exact ⟨rfl, HB7.out⟩
end Go.Proofs.Ytbbnapdkiohefaa.H
