/- Some texts of one seat in one file, in build order. -/
import Derived.Test.YtmmingnkepifoaaG17
import Derived.Test.YtmmingnkepifoaaG18
import Derived.Test.YtmmingnkepifoaaG1
/- LimitPlans: whatever the plan, the statement's function answers true. No condition. -/
namespace Go.Proofs.Ytmmingnkepifoaa.MLimitPlans
open Go.RowKit Go.Proofs.YtmmingnkepifoaaW.PrintWords Go.Proofs.YtmmingnkepifoaaW.PrintLast Go.Proofs.YtmmingnkepifoaaW.PrintMore Go.Proofs.Ytmmingnkepifoaa.H Go.Proofs.Ytmmingnkepifoaa.Ult Go.Proofs.Ytmmingnkepifoaa.R22 Go.Proofs.Ytmmingnkepifoaa.PAll22
set_option linter.unusedVariables false
set_option linter.unusedSimpArgs false
theorem opens : Opens Try.prog 22 (Kd.slice 2 (Kd.int .i64)) (fun l => ∀ x ∈ l, (Lit.int .i64 x).wf = true) := opens_slice 0 Try.underlying22 (by kernel_rfl) (opens_int Try.underlying2)
def finP (odd : Bool) (r : Int × Bool) (n : Nat) (cap : Int) : Int × Int := if odd = true then (0, 1) else if (n : Int) > 64 then (0, 3) else if r.2 = true then (if r.1 > cap then (0, 61) else (r.1, 0)) else (0, 61)
def badL (l : List Int) : Bool := l.any fun m => !okM m
theorem check_l0 (l : List Int) (r : Int × Bool) (a0 cap b : Int) (hl : l.length ≤ 600000) : ∀ (d i : Nat) (odd : Bool), i + d = l.length → Ult (fun k => limit_Plan_Check.l0 k r.1 r.2 odd l (l.length : Int) (i : Int) a0 cap l b) (finP (odd || badL (l.drop i)) r l.length cap) := by
  intro d
  induction d with
  | zero =>
    intro i odd hi
    refine Ult.succ ?_
    simp only [limit_Plan_Check.l0]
    refine Ult.neg (by omega) ?_
    rw [List.drop_of_length_le (by omega), show badL [] = false from rfl, Bool.or_false]
    unfold finP
    refine Ult.ite (fun h => ?_) (fun h => ?_)
    · rw [if_pos h]; exact .pure _
    · rw [if_neg h]
      refine Ult.ite (fun h => ?_) (fun h => ?_)
      · rw [if_pos h]; exact .pure _
      · rw [if_neg h]
        refine Ult.ite (fun h => ?_) (fun h => ?_)
        · rw [if_pos h]
          refine Ult.ite (fun h => ?_) (fun h => ?_)
          · rw [if_pos h]; exact .pure _
          · rw [if_neg h]; exact .pure _
        · rw [if_neg h]; exact .pure _
  | succ d ih =>
    intro i odd hi
    have hil : i < l.length := by omega
    refine Ult.succ ?_
    simp only [limit_Plan_Check.l0, rd_at hil]
    have hb : badL (l.drop i) = (!okM l[i] || badL (l.drop (i + 1))) := by rw [List.drop_eq_getElem_cons hil]; rfl
    rw [hb]
    generalize l[i] = n
    rw [show wrap64 ((i : Int) + 1) = ((i + 1 : Nat) : Int) by rw [w64 (by omega) (by omega)]; rfl]
    refine Ult.pos (by omega) (Ult.pos (by omega) (Ult.pos (by omega) (Ult.ite (fun h => ?_) (fun h => ?_))))
    · rw [h, Bool.true_or]
      have := ih (i + 1) true (by omega)
      rwa [Bool.true_or] at this
    · rw [Bool.eq_false_iff.2 h, Bool.false_or]
      refine Ult.bind0 (right_f n) ?_
      exact ih (i + 1) _ (by omega)
theorem check_ev (l : List Int) (a0 cap b : Int) (hl : l.length ≤ 600000) : Ult (fun k => limit_Plan_Check.f k a0 cap l b) (finP ((!decide (1 ≤ b ∧ b ≤ 1099511627776) || decide (a0 < 1 ∨ a0 > 64)) || badL l) (rdsL l b) l.length cap) := by
  have hj : ∀ odd : Bool, Ult (fun k => limit_Plan_Check.j0 k (rdsL l b).1 (rdsL l b).2 odd a0 cap l b) (finP (odd || badL l) (rdsL l b) l.length cap) := by
    intro odd
    refine Ult.succ ?_
    simp only [limit_Plan_Check.j0]
    exact check_l0 l (rdsL l b) a0 cap b hl l.length 0 odd (by omega)
  unfold limit_Plan_Check.f
  refine Ult.bind (rounds_ev l b hl) (Ult.bind0 (eps_f b) ?_)
  refine Ult.ite (fun h => ?_) (fun h => ?_)
  · rw [h, Bool.not_true, Bool.false_or]
    refine Ult.ite (fun h2 => ?_) (fun h2 => ?_)
    · rw [decide_eq_true (show a0 < 1 ∨ a0 > 64 from .inl h2)]; exact hj true
    · rw [show decide (a0 < 1 ∨ a0 > 64) = decide (a0 > 64) from decide_eq_decide.2 (by omega)]; exact hj _
  · rw [Bool.eq_false_iff.2 h, Bool.not_false, Bool.true_or]; exact hj true
theorem rcheck_l0 (l : List Int) (cap b : Int) (hl : l.length ≤ 600000) : ∀ (d i : Nat), i + d = l.length → Ult (fun k => saleroomref22_Check.l0 k cap l b (i : Int)) (finP (badL (l.drop i)) (rdsL l b) l.length cap) := by
  intro d
  induction d with
  | zero =>
    intro i hi
    refine Ult.succ ?_
    simp only [saleroomref22_Check.l0]
    refine Ult.neg (by omega) ?_
    rw [List.drop_of_length_le (by omega), show badL [] = false from rfl]
    unfold finP
    rw [if_neg (by simp)]
    refine Ult.ite (fun h => ?_) (fun h => ?_)
    · rw [if_pos h]; exact .pure _
    · rw [if_neg h]
      refine Ult.bind (rrounds_ev l b hl) (Ult.ite (fun h => ?_) (fun h => ?_))
      · rw [if_pos h]
        refine Ult.ite (fun h => ?_) (fun h => ?_)
        · rw [if_pos h]; exact .pure _
        · rw [if_neg h]; exact .pure _
      · rw [if_neg h]; exact .pure _
  | succ d ih =>
    intro i hi
    have hil : i < l.length := by omega
    refine Ult.succ ?_
    simp only [saleroomref22_Check.l0, rd_at hil]
    have hb : badL (l.drop i) = (!okM l[i] || badL (l.drop (i + 1))) := by rw [List.drop_eq_getElem_cons hil]; rfl
    rw [hb]
    generalize l[i] = n
    rw [show wrap64 ((i : Int) + 1) = ((i + 1 : Nat) : Int) by rw [w64 (by omega) (by omega)]; rfl]
    refine Ult.pos (by omega) (Ult.pos (by omega) (Ult.bind0 (rright_f n) (Ult.ite (fun h => ?_) (fun h => ?_))))
    · rw [h, Bool.not_true, Bool.false_or]
      exact ih (i + 1) (by omega)
    · rw [Bool.eq_false_iff.2 h, Bool.not_false, Bool.true_or]
      exact .pure _
theorem rcheck_ev (l : List Int) (a0 cap b : Int) (hl : l.length ≤ 600000) : Ult (fun k => saleroomref22_Check.f k a0 cap l b) (finP ((!decide (1 ≤ b ∧ b ≤ 1099511627776) || decide (a0 < 1 ∨ a0 > 64)) || badL l) (rdsL l b) l.length cap) := by
  have hj : ∀ odd : Bool, odd = (!decide (1 ≤ b ∧ b ≤ 1099511627776) || decide (a0 < 1 ∨ a0 > 64)) → Ult (fun k => saleroomref22_Check.j0 k cap l b odd) (finP ((!decide (1 ≤ b ∧ b ≤ 1099511627776) || decide (a0 < 1 ∨ a0 > 64)) || badL l) (rdsL l b) l.length cap) := by
    intro odd ho
    rw [← ho]
    refine Ult.succ ?_
    simp only [saleroomref22_Check.j0]
    refine Ult.ite (fun h => ?_) (fun h => ?_)
    · rw [h, Bool.true_or]; exact .pure _
    · rw [Bool.eq_false_iff.2 h, Bool.false_or]
      exact rcheck_l0 l cap b hl l.length 0 (by omega)
  unfold saleroomref22_Check.f
  refine Ult.ite (fun h => hj true ?_) (fun h => Ult.ite (fun h2 => hj true ?_) (fun h2 => Ult.ite (fun h3 => hj true ?_) (fun h3 => hj _ ?_)))
  · rw [decide_eq_false (show ¬ (1 ≤ b ∧ b ≤ 1099511627776) by omega)]; rfl
  · rw [decide_eq_false (show ¬ (1 ≤ b ∧ b ≤ 1099511627776) by omega)]; rfl
  · rw [decide_eq_true (show a0 < 1 ∨ a0 > 64 from .inl h3), Bool.or_true]
  · rw [decide_eq_true (show 1 ≤ b ∧ b ≤ 1099511627776 by omega), Bool.not_true, Bool.false_or]
    exact decide_eq_decide.2 (by omega)
theorem pure (a0 cap b : Int) (l : List Int) : ∃ k, saleroomlaw22_LimitPlans.f k a0 cap l b = some true := by
  refine Ult.get ?_
  unfold saleroomlaw22_LimitPlans.f
  refine Ult.bind alive_ev (Ult.pos rfl (Ult.ite (fun h => .pure _) (fun h => ?_)))
  refine Ult.bind (rounds_ev l b (by omega)) (Ult.bind (rrounds_ev l b (by omega)) (Ult.bind (check_ev l a0 cap b (by omega)) (Ult.bind (rcheck_ev l a0 cap b (by omega)) ?_)))
  exact Ult.pos rfl (Ult.pos (by simp) (Ult.pos rfl (Ult.const (by simp))))
theorem main (a0 : Int) (w0 : (Lit.int .i64 a0).wf = true) (cap : Int) (w1 : (Lit.int .i64 cap).wf = true)
    (A : Option Addr) (c : Nat) (l : List Int) (hc : l.length ≤ c) {W0 : World} (m : Kd.C (Kd.int .i64) W0 A l.length l) (g : ∀ x ∈ l, (Lit.int .i64 x).wf = true)
    (b : Int) (wb : (Lit.int .i64 b).wf = true) (W : World) (hW : W0 = W := by rfl) :
    Calls Try.prog 3 #[.int .i64 a0, .int .i64 cap, .slice A l.length c, .int .i64 b] W fun e W' => e = .returned (.bool true) ∧ Below W.heap.size W W' := by
  subst hW
  obtain ⟨k, hk⟩ := pure a0 cap b l
  exact saleroomlaw22_LimitPlans.calls k a0 cap A c l b true W0 m hc hk
end Go.Proofs.Ytmmingnkepifoaa.MLimitPlans
