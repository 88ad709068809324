/- FrameWrites: whatever the kind and the body, the statement's function answers true. No condition. -/
import Derived.Test.YtagjnjdaookdgaaFrRef
import Derived.Test.YtagjnjdaookdgaaRow
namespace Go.Proofs.Ytagjnjdaookdgaa.MFrameWrites
open Go.RowKit Go.Proofs.YtagjnjdaookdgaaW.PrintWords Go.Proofs.YtagjnjdaookdgaaW.PrintLast Go.Proofs.YtagjnjdaookdgaaW.PrintMore Go.Proofs.Ytagjnjdaookdgaa.H Go.Proofs.Ytagjnjdaookdgaa.CrcM
set_option linter.unusedVariables false
set_option linter.unusedSimpArgs false
attribute [local go_sem] max2_int min2_int

theorem opens : Opens Try.prog 22 (Kd.slice 5 (Kd.int .u8)) (fun l => ∀ x ∈ l, (Lit.int .u8 x).wf = true) := opens_slice 0 Try.underlying22 (by kernel_rfl) (opens_int Try.underlying5)

set_option maxHeartbeats 1600000 in
theorem main (kind : Int) (wf : (Lit.int .i64 kind).wf = true)
    (A : Option Addr) (c : Nat) (l : List Int) (hc : l.length ≤ c) {W0 : World} (m : Kd.C (Kd.int .u8) W0 A l.length l) (g : ∀ x ∈ l, (Lit.int .u8 x).wf = true) (W : World) (hW : W0 = W := by rfl) :
    Calls Try.prog 3 #[.int .i64 kind, .slice A l.length c] W fun e W' => e = .returned (.bool true) ∧ Below W.heap.size W W' := by
  subst hW
  have hB : Bts l := fun x hx => wf_u8 (g x hx)
  have M := Aside0.mk m
  clear m g
  by_cases h5 : l.length > 5000
  · have b0 : decide (5000 < l.length) = true := decide_eq_true h5
    have b1 : decide ((5000 : Int) < (l.length : Int)) = true := decide_eq_true (by omega)
    clear hB
    go_enter Try.func3, Try.ntmps3
    go_wp2_with (first
      | (go_at_call 8; refine (alive6_calls _).mono ?_; rintro e w1 ⟨rfl, hb1⟩; have S1 := Aside0.mk hb1; clear hb1))
    go_ret
    exact ⟨rfl, S1.out⟩
  · have b0 : decide (5000 < l.length) = false := decide_eq_false h5
    have b1 : decide ((5000 : Int) < (l.length : Int)) = false := decide_eq_false (by omega)
    have hl : (l.length : Int) ≤ 5000 := by omega
    have hB := Aside0.mk hB
    generalize hwf : writeF kind l = wr
    obtain ⟨r, er⟩ := wr
    have HWF := Lib.hid hwf
    clear hwf h5 wf
    go_enter Try.func3, Try.ntmps3
    go_wp2_with (first
      | (go_at_call 8; refine (alive6_calls _).mono ?_; rintro e w1 ⟨rfl, hb1⟩; have S1 := Aside0.mk (And.intro hb1 (Kd.C_below M.out hb1)); clear hb1 M)
      | (go_at_call 9; have _t := S1; (with_reducible refine (Write_eq _ _ _ _ r.length l r er _ ?s1 ?s2 ?s3 ?s4 ?s5).mono ?_); (case s1 => rfl); (case s2 => rfl); (case s3 => exact HWF.out); (case s4 => exact S1.out.2); (case s5 => exact hc); rintro e w2 ⟨A2, c2, rfl, hc2, hr2, hb2⟩; have S2 := Aside0.mk (And.intro (below_step S1.out.1 hb2) (And.intro (Kd.C_below S1.out.2 hb2) hr2)); clear S1 _t hr2 hb2)
      | (go_at_call 10; have _t := S2; (with_reducible refine (RWrite_eq _ _ _ _ r.length l r er _ ?s1 ?s2 ?s3 ?s4 ?s5 ?s6).mono ?_); (case s1 => rfl); (case s2 => rfl); (case s3 => exact HWF.out); (case s4 => exact S2.out.2.1); (case s5 => exact hc); (case s6 => exact hB.out); rintro e w3 ⟨A3, c3, rfl, hc3, hr3, hb3⟩; have S3 := Aside0.mk (And.intro (below_step S2.out.1 hb3) (And.intro (Kd.C_below S2.out.2.2 hb3) hr3)); clear S2 _t hr3 hb3)
      | (go_at_call 11; have _t := S3; (with_reducible refine (Same_eq _ _ _ _ r.length r.length r r _ ?s1 ?s2 true ?s3 ?s4 ?s5).mono ?_); (case s1 => rfl); (case s2 => rfl); (case s3 => exact decide_eq_true rfl); (case s4 => exact S3.out.2.1); (case s5 => exact S3.out.2.2); rintro e w4 ⟨rfl, hb4⟩; have S4 := Aside0.mk (below_step S3.out.1 hb4); clear S3 _t hb4)
      | (go_at_call 12; (with_reducible refine (Weight_eq _ _ _ ?s1 rfl).mono ?_); (case s1 => omega); rintro e w5 ⟨rfl, rfl⟩)
      | (go_at_call 13; (with_reducible refine (RWeight_eq _ _ _ ?s1 rfl).mono ?_); (case s1 => omega); rintro e w5 ⟨rfl, rfl⟩))
    all_goals
      go_ret
      exact ⟨rfl, S4.out⟩
end Go.Proofs.Ytagjnjdaookdgaa.MFrameWrites
