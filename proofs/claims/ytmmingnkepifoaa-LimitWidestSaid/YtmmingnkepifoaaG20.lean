/- Some texts of one seat in one file, in build order. -/
import Derived.Test.YtmmingnkepifoaaG15
import Derived.Test.YtmmingnkepifoaaG16
import Derived.Test.YtmmingnkepifoaaG18
-- PRINTED BY A CHANGED COPY OF THE PRINT (wip/tools/patch_print.py), over contracts by hand
namespace Go.Proofs.Ytmmingnkepifoaa.PAll22
open Go.RowKit Go.Proofs.YtmmingnkepifoaaW.PrintWords Go.Proofs.YtmmingnkepifoaaW.PrintLast Go.Proofs.YtmmingnkepifoaaW.PrintMore
attribute [local go_sem] max2_int min2_int max_two min_two max_three min_three max_four min_four   -- for this text's walks alone
set_option linter.unusedVariables false
set_option linter.unusedSimpArgs false

/-! ### saleroomlaw22_LimitWidest: function 6 -/
mutual
def saleroomlaw22_LimitWidest.j0 : Nat → List Int → Int → Bool → Option (Bool)
  | 0, _, _, _ => none
  | k + 1, x2, x3, x73 => if x73 = true then (some false) else ((limit_Least.f k x2 x3).bind fun bt146 => (saleroomlaw22_LimitWidest.l0 k x2 x3 bt146.1 bt146.2 0 false x2 (x2.length : Int) 0))
def saleroomlaw22_LimitWidest.l0 : Nat → List Int → Int → Int → Bool → Int → Bool → List Int → Int → Int → Option (Bool)
  | 0, _, _, _, _, _, _, _, _, _ => none
  | k + 1, x2, x3, x11, x12, x13, x14, x80, x81, x82 => if x82 < x81 then (if 0 ≤ x82 then (if x82 < (x80.length : Int) then (if x14 = true then (if (rd x80 x82) > 0 then (saleroomlaw22_LimitWidest.l0 k x2 x3 x11 x12 (wrap64 (x13 + 1)) true x80 x81 (wrap64 (x82 + 1))) else (saleroomlaw22_LimitWidest.l0 k x2 x3 x11 x12 x13 true x80 x81 (wrap64 (x82 + 1)))) else (if (rd x80 x82) < 0 then (if (rd x80 x82) > 0 then (saleroomlaw22_LimitWidest.l0 k x2 x3 x11 x12 (wrap64 (x13 + 1)) true x80 x81 (wrap64 (x82 + 1))) else (saleroomlaw22_LimitWidest.l0 k x2 x3 x11 x12 x13 true x80 x81 (wrap64 (x82 + 1)))) else (if (rd x80 x82) > 0 then (saleroomlaw22_LimitWidest.l0 k x2 x3 x11 x12 (wrap64 (x13 + 1)) (decide ((rd x80 x82) > 1099511627776)) x80 x81 (wrap64 (x82 + 1))) else (saleroomlaw22_LimitWidest.l0 k x2 x3 x11 x12 x13 (decide ((rd x80 x82) > 1099511627776)) x80 x81 (wrap64 (x82 + 1)))))) else (none)) else (none)) else (if x14 = true then (if (x12 != false) = true then (saleroomlaw22_LimitWidest.j2 k x2 x3 x11 x12 true) else (if x12 = true then (saleroomlaw22_LimitWidest.j2 k x2 x3 x11 x12 false) else (saleroomlaw22_LimitWidest.j2 k x2 x3 x11 x12 (x11 != 0)))) else (if (x12 != (decide (x13 ≤ x3))) = true then (saleroomlaw22_LimitWidest.j2 k x2 x3 x11 x12 true) else (if x12 = true then (saleroomlaw22_LimitWidest.j2 k x2 x3 x11 x12 false) else (saleroomlaw22_LimitWidest.j2 k x2 x3 x11 x12 (x11 != 0)))))
def saleroomlaw22_LimitWidest.j2 : Nat → List Int → Int → Int → Bool → Bool → Option (Bool)
  | 0, _, _, _, _, _ => none
  | k + 1, x2, x3, x11, x12, x116 => if x116 = true then (some false) else (if x12 = true then ((limit_Rounds.f k x2 x11).bind fun bt149 => (if bt149.2 = true then (if bt149.1 > x3 then (some false) else (if x11 < 1 then (some false) else (if x11 > 1099511627776 then (some false) else ((limit_Rounds.f k x2 (wrap64 (x11 - 1))).bind fun bt151 => (if x11 = 1 then (some true) else (if bt151.2 = true then (some (decide (bt151.1 > x3))) else (some true))))))) else (some false))) else (some true))
end
def saleroomlaw22_LimitWidest.f (k : Nat) (a0 : Int) (a1 : Int) (l2 : List Int) (a3 : Int) : Option (Bool) := (saleroomlaw22_alive.f).bind fun t140 => (if t140 = true then (if (l2.length : Int) > 100 then (some true) else ((limit_Widest.f k a0 a1).bind fun bt141 => ((limit_Fits.f 0 a1 a0).bind fun t143 => (if (bt141.2 != t143) = true then (saleroomlaw22_LimitWidest.j0 k l2 a3 true) else (if bt141.2 = true then ((limit_Fits.f bt141.1 a1 a0).bind fun t144 => (if t144 = true then (if bt141.1 < 1099511627776 then ((limit_Fits.f (wrap64 (bt141.1 + 1)) a1 a0).bind fun t145 => (if t145 = true then (saleroomlaw22_LimitWidest.j0 k l2 a3 true) else (if bt141.1 < 0 then (saleroomlaw22_LimitWidest.j0 k l2 a3 true) else (if bt141.1 > 1099511627776 then (saleroomlaw22_LimitWidest.j0 k l2 a3 true) else (saleroomlaw22_LimitWidest.j0 k l2 a3 false))))) else (if bt141.1 < 0 then (saleroomlaw22_LimitWidest.j0 k l2 a3 true) else (if bt141.1 > 1099511627776 then (saleroomlaw22_LimitWidest.j0 k l2 a3 true) else (saleroomlaw22_LimitWidest.j0 k l2 a3 false)))) else (saleroomlaw22_LimitWidest.j0 k l2 a3 true))) else (saleroomlaw22_LimitWidest.j0 k l2 a3 (bt141.1 != 0))))))) else (some false))
theorem saleroomlaw22_LimitWidest.mono_l : ∀ k, (∀ y0 y1 y2, LeO (saleroomlaw22_LimitWidest.j0 k y0 y1 y2) (saleroomlaw22_LimitWidest.j0 (k + 1) y0 y1 y2)) ∧ (∀ y0 y1 y2 y3 y4 y5 y6 y7 y8, LeO (saleroomlaw22_LimitWidest.l0 k y0 y1 y2 y3 y4 y5 y6 y7 y8) (saleroomlaw22_LimitWidest.l0 (k + 1) y0 y1 y2 y3 y4 y5 y6 y7 y8)) ∧ (∀ y0 y1 y2 y3 y4, LeO (saleroomlaw22_LimitWidest.j2 k y0 y1 y2 y3 y4) (saleroomlaw22_LimitWidest.j2 (k + 1) y0 y1 y2 y3 y4))
  | 0 => ⟨fun _ _ _ r h => by simp [saleroomlaw22_LimitWidest.j0] at h, fun _ _ _ _ _ _ _ _ _ r h => by simp [saleroomlaw22_LimitWidest.l0] at h, fun _ _ _ _ _ r h => by simp [saleroomlaw22_LimitWidest.j2] at h⟩
  | k + 1 => by
    obtain ⟨ih0, ih1, ih2⟩ := saleroomlaw22_LimitWidest.mono_l k
    refine ⟨?_, ?_, ?_⟩
    · intro y0 y1 y2
      unfold saleroomlaw22_LimitWidest.j0
      repeat' first
      | (with_reducible exact ih0 _ _ _)
      | (with_reducible exact ih1 _ _ _ _ _ _ _ _ _)
      | (with_reducible exact ih2 _ _ _ _ _)
      | (with_reducible exact limit_Least.mono _ _ _)
      | (with_reducible exact limit_Rounds.mono _ _ _)
      | (with_reducible exact limit_Widest.mono _ _ _)
      | (with_reducible exact LeO.refl _)
      | (with_reducible exact LeO.none _)
      | (with_reducible refine LeO.ite ?_ ?_)
      | (with_reducible refine LeO.bind ?_ (fun _ => ?_))
      | exact ih0 _ _ _
      | exact ih1 _ _ _ _ _ _ _ _ _
      | exact ih2 _ _ _ _ _
      | exact limit_Least.mono _ _ _
      | exact limit_Rounds.mono _ _ _
      | exact limit_Widest.mono _ _ _
      | exact LeO.none _
      | refine LeO.ite ?_ ?_
      | refine LeO.bind ?_ (fun _ => ?_)
    · intro y0 y1 y2 y3 y4 y5 y6 y7 y8
      unfold saleroomlaw22_LimitWidest.l0
      repeat' first
      | (with_reducible exact ih0 _ _ _)
      | (with_reducible exact ih1 _ _ _ _ _ _ _ _ _)
      | (with_reducible exact ih2 _ _ _ _ _)
      | (with_reducible exact limit_Least.mono _ _ _)
      | (with_reducible exact limit_Rounds.mono _ _ _)
      | (with_reducible exact limit_Widest.mono _ _ _)
      | (with_reducible exact LeO.refl _)
      | (with_reducible exact LeO.none _)
      | (with_reducible refine LeO.ite ?_ ?_)
      | (with_reducible refine LeO.bind ?_ (fun _ => ?_))
      | exact ih0 _ _ _
      | exact ih1 _ _ _ _ _ _ _ _ _
      | exact ih2 _ _ _ _ _
      | exact limit_Least.mono _ _ _
      | exact limit_Rounds.mono _ _ _
      | exact limit_Widest.mono _ _ _
      | exact LeO.none _
      | refine LeO.ite ?_ ?_
      | refine LeO.bind ?_ (fun _ => ?_)
    · intro y0 y1 y2 y3 y4
      unfold saleroomlaw22_LimitWidest.j2
      repeat' first
      | (with_reducible exact ih0 _ _ _)
      | (with_reducible exact ih1 _ _ _ _ _ _ _ _ _)
      | (with_reducible exact ih2 _ _ _ _ _)
      | (with_reducible exact limit_Least.mono _ _ _)
      | (with_reducible exact limit_Rounds.mono _ _ _)
      | (with_reducible exact limit_Widest.mono _ _ _)
      | (with_reducible exact LeO.refl _)
      | (with_reducible exact LeO.none _)
      | (with_reducible refine LeO.ite ?_ ?_)
      | (with_reducible refine LeO.bind ?_ (fun _ => ?_))
      | exact ih0 _ _ _
      | exact ih1 _ _ _ _ _ _ _ _ _
      | exact ih2 _ _ _ _ _
      | exact limit_Least.mono _ _ _
      | exact limit_Rounds.mono _ _ _
      | exact limit_Widest.mono _ _ _
      | exact LeO.none _
      | refine LeO.ite ?_ ?_
      | refine LeO.bind ?_ (fun _ => ?_)
theorem saleroomlaw22_LimitWidest.mono : ∀ a0 a1 a2 a3 k, LeO (saleroomlaw22_LimitWidest.f k a0 a1 a2 a3) (saleroomlaw22_LimitWidest.f (k + 1) a0 a1 a2 a3) := by
  intro a0 a1 a2 a3 k
  obtain ⟨ih0, ih1, ih2⟩ := saleroomlaw22_LimitWidest.mono_l k
  unfold saleroomlaw22_LimitWidest.f
  repeat' first
      | (with_reducible exact ih0 _ _ _)
      | (with_reducible exact ih1 _ _ _ _ _ _ _ _ _)
      | (with_reducible exact ih2 _ _ _ _ _)
      | (with_reducible exact limit_Least.mono _ _ _)
      | (with_reducible exact limit_Rounds.mono _ _ _)
      | (with_reducible exact limit_Widest.mono _ _ _)
      | (with_reducible exact LeO.refl _)
      | (with_reducible exact LeO.none _)
      | (with_reducible refine LeO.ite ?_ ?_)
      | (with_reducible refine LeO.bind ?_ (fun _ => ?_))
      | exact ih0 _ _ _
      | exact ih1 _ _ _ _ _ _ _ _ _
      | exact ih2 _ _ _ _ _
      | exact limit_Least.mono _ _ _
      | exact limit_Rounds.mono _ _ _
      | exact limit_Widest.mono _ _ _
      | exact LeO.none _
      | refine LeO.ite ?_ ?_
      | refine LeO.bind ?_ (fun _ => ?_)
set_option maxHeartbeats 8000000 in
set_option maxRecDepth 100000 in
theorem saleroomlaw22_LimitWidest.calls (k : Nat) (a0 : Int) (a1 : Int) (A2 : Option Addr) (c2 : Nat) (l2 : List Int) (a3 : Int) (r : Bool) (w : World) (hr2 : Kd.C (Kd.int .i64) w A2 l2.length l2) (hc2 : l2.length ≤ c2) (h : saleroomlaw22_LimitWidest.f k a0 a1 l2 a3 = some r) :
    Calls Try.prog 6 #[.int .i64 a0, .int .i64 a1, .slice A2 l2.length c2, .int .i64 a3] w fun e w' => e = .returned (.bool r) ∧ Below w.heap.size w w' := by
  have HR2 := Aside0.mk hr2
  have HC2 := Aside0.mk hc2
  clear hr2 hc2
  have HB := Aside0.mk (Below.refl w.heap.size w)
  have H : ((saleroomlaw22_alive.f).bind fun t140 => (if t140 = true then (if (l2.length : Int) > 100 then (some true) else ((limit_Widest.f k a0 a1).bind fun bt141 => ((limit_Fits.f 0 a1 a0).bind fun t143 => (if (bt141.2 != t143) = true then (saleroomlaw22_LimitWidest.j0 k l2 a3 true) else (if bt141.2 = true then ((limit_Fits.f bt141.1 a1 a0).bind fun t144 => (if t144 = true then (if bt141.1 < 1099511627776 then ((limit_Fits.f (wrap64 (bt141.1 + 1)) a1 a0).bind fun t145 => (if t145 = true then (saleroomlaw22_LimitWidest.j0 k l2 a3 true) else (if bt141.1 < 0 then (saleroomlaw22_LimitWidest.j0 k l2 a3 true) else (if bt141.1 > 1099511627776 then (saleroomlaw22_LimitWidest.j0 k l2 a3 true) else (saleroomlaw22_LimitWidest.j0 k l2 a3 false))))) else (if bt141.1 < 0 then (saleroomlaw22_LimitWidest.j0 k l2 a3 true) else (if bt141.1 > 1099511627776 then (saleroomlaw22_LimitWidest.j0 k l2 a3 true) else (saleroomlaw22_LimitWidest.j0 k l2 a3 false)))) else (saleroomlaw22_LimitWidest.j0 k l2 a3 true))) else (saleroomlaw22_LimitWidest.j0 k l2 a3 (bt141.1 != 0))))))) else (some false))) = some r := h
  clear h
  replace H := Option.bind_eq_some_iff.mp H
  obtain ⟨t140, A50, H⟩ := H
  replace H : (if t140 = true then (if (l2.length : Int) > 100 then (some true) else ((limit_Widest.f k a0 a1).bind fun bt141 => ((limit_Fits.f 0 a1 a0).bind fun t143 => (if (bt141.2 != t143) = true then (saleroomlaw22_LimitWidest.j0 k l2 a3 true) else (if bt141.2 = true then ((limit_Fits.f bt141.1 a1 a0).bind fun t144 => (if t144 = true then (if bt141.1 < 1099511627776 then ((limit_Fits.f (wrap64 (bt141.1 + 1)) a1 a0).bind fun t145 => (if t145 = true then (saleroomlaw22_LimitWidest.j0 k l2 a3 true) else (if bt141.1 < 0 then (saleroomlaw22_LimitWidest.j0 k l2 a3 true) else (if bt141.1 > 1099511627776 then (saleroomlaw22_LimitWidest.j0 k l2 a3 true) else (saleroomlaw22_LimitWidest.j0 k l2 a3 false))))) else (if bt141.1 < 0 then (saleroomlaw22_LimitWidest.j0 k l2 a3 true) else (if bt141.1 > 1099511627776 then (saleroomlaw22_LimitWidest.j0 k l2 a3 true) else (saleroomlaw22_LimitWidest.j0 k l2 a3 false)))) else (saleroomlaw22_LimitWidest.j0 k l2 a3 true))) else (saleroomlaw22_LimitWidest.j0 k l2 a3 (bt141.1 != 0))))))) else (some false)) = some r := H
  have A5 := Aside0.mk A50
  clear A50
  by_cases c6 : t140 = true
  · subst c6
    have H1 : (if (l2.length : Int) > 100 then (some true) else ((limit_Widest.f k a0 a1).bind fun bt141 => ((limit_Fits.f 0 a1 a0).bind fun t143 => (if (bt141.2 != t143) = true then (saleroomlaw22_LimitWidest.j0 k l2 a3 true) else (if bt141.2 = true then ((limit_Fits.f bt141.1 a1 a0).bind fun t144 => (if t144 = true then (if bt141.1 < 1099511627776 then ((limit_Fits.f (wrap64 (bt141.1 + 1)) a1 a0).bind fun t145 => (if t145 = true then (saleroomlaw22_LimitWidest.j0 k l2 a3 true) else (if bt141.1 < 0 then (saleroomlaw22_LimitWidest.j0 k l2 a3 true) else (if bt141.1 > 1099511627776 then (saleroomlaw22_LimitWidest.j0 k l2 a3 true) else (saleroomlaw22_LimitWidest.j0 k l2 a3 false))))) else (if bt141.1 < 0 then (saleroomlaw22_LimitWidest.j0 k l2 a3 true) else (if bt141.1 > 1099511627776 then (saleroomlaw22_LimitWidest.j0 k l2 a3 true) else (saleroomlaw22_LimitWidest.j0 k l2 a3 false)))) else (saleroomlaw22_LimitWidest.j0 k l2 a3 true))) else (saleroomlaw22_LimitWidest.j0 k l2 a3 (bt141.1 != 0))))))) = some r := by rw [if_pos rfl] at H; exact H
    clear H
    have H := H1
    clear H1
    by_cases c7 : (l2.length : Int) > 100
    · rw [if_pos c7] at H
      have c7b0 : decide (100 < (l2.length : Int)) = true := decide_eq_true c7
      have c7b1 : decide (100 < l2.length) = true := decide_eq_true (by omega)
      clear c7
      obtain rfl := Option.some.inj H
      go_enter Try.func6, Try.ntmps6
      go_wp2_with (first | ((with_reducible refine gate_callee (f := 7) rfl ?_); refine goesL_ (some 21) rfl rfl Try.func7 (by kernel_rfl) rfl #[] rfl (by (try simp only [List.map_toArray, List.map_cons, List.map_nil]); first | done | rfl | (simp only [List.length_drop, List.length_take]; rfl)) ?_; (with_reducible refine (saleroomlaw22_alive.calls  true _ A5.out).mono ?_); rintro e w8 ⟨rfl, hb⟩; refine ⟨_, rfl, ?_⟩; have n0_ := Aside0.mk (below_step (by repeat (first | (with_reducible first | exact HB.out | apply below_alloc | apply pw_below_drewN | apply below_drew1) | exact HB.out)) hb); clear HB; have HB := n0_; clear n0_; (try clear hb); (try clear hb2); (try clear hk); (try clear hi)))
      go_ret
      exact ⟨by first | rfl | (simp [errW_none, errW_some] <;> rfl) | (simp [*, errW_none, errW_some] <;> rfl), by repeat (first | (with_reducible first | exact HB.out | apply below_alloc | apply pw_below_drewN | apply below_drew1) | exact HB.out)⟩
    · rw [if_neg c7] at H
      have c7b0 : decide (100 < (l2.length : Int)) = false := decide_eq_false c7
      have c7b1 : decide (100 < l2.length) = false := decide_eq_false (by omega)
      clear c7
      replace H := Option.bind_eq_some_iff.mp H
      obtain ⟨⟨t141, t142⟩, A90, H⟩ := H
      replace H : ((limit_Fits.f 0 a1 a0).bind fun t143 => (if (t142 != t143) = true then (saleroomlaw22_LimitWidest.j0 k l2 a3 true) else (if t142 = true then ((limit_Fits.f t141 a1 a0).bind fun t144 => (if t144 = true then (if t141 < 1099511627776 then ((limit_Fits.f (wrap64 (t141 + 1)) a1 a0).bind fun t145 => (if t145 = true then (saleroomlaw22_LimitWidest.j0 k l2 a3 true) else (if t141 < 0 then (saleroomlaw22_LimitWidest.j0 k l2 a3 true) else (if t141 > 1099511627776 then (saleroomlaw22_LimitWidest.j0 k l2 a3 true) else (saleroomlaw22_LimitWidest.j0 k l2 a3 false))))) else (if t141 < 0 then (saleroomlaw22_LimitWidest.j0 k l2 a3 true) else (if t141 > 1099511627776 then (saleroomlaw22_LimitWidest.j0 k l2 a3 true) else (saleroomlaw22_LimitWidest.j0 k l2 a3 false)))) else (saleroomlaw22_LimitWidest.j0 k l2 a3 true))) else (saleroomlaw22_LimitWidest.j0 k l2 a3 (t141 != 0))))) = some r := H
      have A9 := Aside0.mk A90
      clear A90
      have HC10 := Aside0.mk H
      clear H
      go_enter Try.func6, Try.ntmps6
      go_upto_region 6 with (first | ((with_reducible refine gate_callee (f := 7) rfl ?_); refine goesL_ (some 21) rfl rfl Try.func7 (by kernel_rfl) rfl #[] rfl (by (try simp only [List.map_toArray, List.map_cons, List.map_nil]); first | done | rfl | (simp only [List.length_drop, List.length_take]; rfl)) ?_; (with_reducible refine (saleroomlaw22_alive.calls  true _ A5.out).mono ?_); rintro e w11 ⟨rfl, hb⟩; refine ⟨_, rfl, ?_⟩; have n0_ := Aside0.mk (below_step (by repeat (first | (with_reducible first | exact HB.out | apply below_alloc | apply pw_below_drewN | apply below_drew1) | exact HB.out)) hb); clear HB; have HB := n0_; clear n0_; (try clear hb); (try clear hb2); (try clear hk); (try clear hi)) | ((with_reducible refine gate_callee (f := 21) rfl ?_); refine goesL_ (some 29) rfl rfl Try.func21 (by kernel_rfl) rfl #[.int .i64 a0, .int .i64 a1] rfl (by (try simp only [List.map_toArray, List.map_cons, List.map_nil]); first | done | rfl | (simp only [List.length_drop, List.length_take]; rfl)) ?_; (with_reducible refine (limit_Widest.calls k a0 a1 t141 t142 _ A9.out).mono ?_); rintro e w12 ⟨rfl, hb⟩; refine ⟨_, rfl, ?_⟩; have n0_ := Aside0.mk (below_step (by repeat (first | (with_reducible first | exact HB.out | apply below_alloc | apply pw_below_drewN | apply below_drew1) | exact HB.out)) hb); clear HB; have HB := n0_; clear n0_; (try clear hb); (try clear hb2); (try clear hk); (try clear hi)))
      (try simp only [Act.put, List.setIfInBounds_toArray, List.set_cons_zero, List.set_cons_succ])
      go_cut [73] (fun v73 wc => ∃ (kq : Nat) (x73_9 : Bool), v73 = .bool x73_9 ∧ Aside0 (saleroomlaw22_LimitWidest.j0 kq l2 a3 x73_9 = some r) ∧ Aside0 (kq ≤ k) ∧ Aside0 (Below w.heap.size w wc))
      case first =>
        have H := HC10.out
        clear HC10
        replace H := Option.bind_eq_some_iff.mp H
        obtain ⟨t143, A130, H⟩ := H
        replace H : (if (t142 != t143) = true then (saleroomlaw22_LimitWidest.j0 k l2 a3 true) else (if t142 = true then ((limit_Fits.f t141 a1 a0).bind fun t144 => (if t144 = true then (if t141 < 1099511627776 then ((limit_Fits.f (wrap64 (t141 + 1)) a1 a0).bind fun t145 => (if t145 = true then (saleroomlaw22_LimitWidest.j0 k l2 a3 true) else (if t141 < 0 then (saleroomlaw22_LimitWidest.j0 k l2 a3 true) else (if t141 > 1099511627776 then (saleroomlaw22_LimitWidest.j0 k l2 a3 true) else (saleroomlaw22_LimitWidest.j0 k l2 a3 false))))) else (if t141 < 0 then (saleroomlaw22_LimitWidest.j0 k l2 a3 true) else (if t141 > 1099511627776 then (saleroomlaw22_LimitWidest.j0 k l2 a3 true) else (saleroomlaw22_LimitWidest.j0 k l2 a3 false)))) else (saleroomlaw22_LimitWidest.j0 k l2 a3 true))) else (saleroomlaw22_LimitWidest.j0 k l2 a3 (t141 != 0)))) = some r := H
        have A13 := Aside0.mk A130
        clear A130
        by_cases c14 : (t142 != t143) = true
        · rw [if_pos c14] at H
          have c14b0 : (t142 != t143) = true := c14
          (try (have c14b1 : decide (t142 = t143) = false := by simpa using c14))
          (try (have c14b2 : (t142 == t143) = false := by simpa using c14))
          (try (have c14b3 : ¬ (t142 = t143) := by simpa using c14))
          clear c14
          (first | rw [c14b0] | (simp only [i64_w, i32_w]; rw [c14b0]) | skip)
          have H' := Aside0.mk H
          clear H
          go_wp2_with (first | ((with_reducible refine gate_callee (f := 14) rfl ?_); refine goesL_ (some 35) rfl rfl Try.func14 (by kernel_rfl) rfl #[.int .i64 0, .int .i64 a1, .int .i64 a0] rfl (by (try simp only [List.map_toArray, List.map_cons, List.map_nil]); first | done | rfl | (simp only [List.length_drop, List.length_take]; rfl)) ?_; (with_reducible refine (limit_Fits.calls 0 a1 a0 t143 _ A13.out).mono ?_); rintro e w15 ⟨rfl, hb⟩; refine ⟨_, rfl, ?_⟩; have n0_ := Aside0.mk (below_step (by repeat (first | (with_reducible first | exact HB.out | apply below_alloc | apply pw_below_drewN | apply below_drew1) | exact HB.out)) hb); clear HB; have HB := n0_; clear n0_; (try clear hb); (try clear hb2); (try clear hk); (try clear hi)))
          go_meet
          case rel => exact ⟨_, (true), (by first | rfl | (simp; done) | (simp [*]; done)), H', ⟨by first | omega | exact Nat.le_refl _⟩, ⟨by repeat (first | (with_reducible first | exact HB.out | apply below_alloc | apply pw_below_drewN | apply below_drew1) | exact HB.out)⟩⟩
        · rw [if_neg c14] at H
          have c14b0 : (t142 != t143) = false := by simpa using c14
          (try (have c14b1 : decide (t142 = t143) = true := by simpa using c14))
          (try (have c14b2 : (t142 == t143) = true := by simpa using c14))
          clear c14
          (first | rw [c14b0] | (simp only [i64_w, i32_w]; rw [c14b0]) | skip)
          by_cases c16 : t142 = true
          · subst c16
            have H1 : ((limit_Fits.f t141 a1 a0).bind fun t144 => (if t144 = true then (if t141 < 1099511627776 then ((limit_Fits.f (wrap64 (t141 + 1)) a1 a0).bind fun t145 => (if t145 = true then (saleroomlaw22_LimitWidest.j0 k l2 a3 true) else (if t141 < 0 then (saleroomlaw22_LimitWidest.j0 k l2 a3 true) else (if t141 > 1099511627776 then (saleroomlaw22_LimitWidest.j0 k l2 a3 true) else (saleroomlaw22_LimitWidest.j0 k l2 a3 false))))) else (if t141 < 0 then (saleroomlaw22_LimitWidest.j0 k l2 a3 true) else (if t141 > 1099511627776 then (saleroomlaw22_LimitWidest.j0 k l2 a3 true) else (saleroomlaw22_LimitWidest.j0 k l2 a3 false)))) else (saleroomlaw22_LimitWidest.j0 k l2 a3 true))) = some r := by rw [if_pos rfl] at H; exact H
            clear H
            have H := H1
            clear H1
            replace H := Option.bind_eq_some_iff.mp H
            obtain ⟨t144, A170, H⟩ := H
            replace H : (if t144 = true then (if t141 < 1099511627776 then ((limit_Fits.f (wrap64 (t141 + 1)) a1 a0).bind fun t145 => (if t145 = true then (saleroomlaw22_LimitWidest.j0 k l2 a3 true) else (if t141 < 0 then (saleroomlaw22_LimitWidest.j0 k l2 a3 true) else (if t141 > 1099511627776 then (saleroomlaw22_LimitWidest.j0 k l2 a3 true) else (saleroomlaw22_LimitWidest.j0 k l2 a3 false))))) else (if t141 < 0 then (saleroomlaw22_LimitWidest.j0 k l2 a3 true) else (if t141 > 1099511627776 then (saleroomlaw22_LimitWidest.j0 k l2 a3 true) else (saleroomlaw22_LimitWidest.j0 k l2 a3 false)))) else (saleroomlaw22_LimitWidest.j0 k l2 a3 true)) = some r := H
            have A17 := Aside0.mk A170
            clear A170
            by_cases c18 : t144 = true
            · subst c18
              have H1 : (if t141 < 1099511627776 then ((limit_Fits.f (wrap64 (t141 + 1)) a1 a0).bind fun t145 => (if t145 = true then (saleroomlaw22_LimitWidest.j0 k l2 a3 true) else (if t141 < 0 then (saleroomlaw22_LimitWidest.j0 k l2 a3 true) else (if t141 > 1099511627776 then (saleroomlaw22_LimitWidest.j0 k l2 a3 true) else (saleroomlaw22_LimitWidest.j0 k l2 a3 false))))) else (if t141 < 0 then (saleroomlaw22_LimitWidest.j0 k l2 a3 true) else (if t141 > 1099511627776 then (saleroomlaw22_LimitWidest.j0 k l2 a3 true) else (saleroomlaw22_LimitWidest.j0 k l2 a3 false)))) = some r := by rw [if_pos rfl] at H; exact H
              clear H
              have H := H1
              clear H1
              by_cases c19 : t141 < 1099511627776
              · rw [if_pos c19] at H
                have c19b0 : decide (t141 < 1099511627776) = true := decide_eq_true c19
                clear c19
                replace H := Option.bind_eq_some_iff.mp H
                obtain ⟨t145, A200, H⟩ := H
                replace H : (if t145 = true then (saleroomlaw22_LimitWidest.j0 k l2 a3 true) else (if t141 < 0 then (saleroomlaw22_LimitWidest.j0 k l2 a3 true) else (if t141 > 1099511627776 then (saleroomlaw22_LimitWidest.j0 k l2 a3 true) else (saleroomlaw22_LimitWidest.j0 k l2 a3 false)))) = some r := H
                have A20 := Aside0.mk A200
                clear A200
                by_cases c21 : t145 = true
                · subst c21
                  have H1 : (saleroomlaw22_LimitWidest.j0 k l2 a3 true) = some r := by rw [if_pos rfl] at H; exact H
                  clear H
                  have H := H1
                  clear H1
                  have H' := Aside0.mk H
                  clear H
                  go_wp2_with (first | ((with_reducible refine gate_callee (f := 14) rfl ?_); refine goesL_ (some 35) rfl rfl Try.func14 (by kernel_rfl) rfl #[.int .i64 0, .int .i64 a1, .int .i64 a0] rfl (by (try simp only [List.map_toArray, List.map_cons, List.map_nil]); first | done | rfl | (simp only [List.length_drop, List.length_take]; rfl)) ?_; (with_reducible refine (limit_Fits.calls 0 a1 a0 t143 _ A13.out).mono ?_); rintro e w22 ⟨rfl, hb⟩; refine ⟨_, rfl, ?_⟩; have n0_ := Aside0.mk (below_step (by repeat (first | (with_reducible first | exact HB.out | apply below_alloc | apply pw_below_drewN | apply below_drew1) | exact HB.out)) hb); clear HB; have HB := n0_; clear n0_; (try clear hb); (try clear hb2); (try clear hk); (try clear hi)) | (go_at_call 14; (with_reducible refine (limit_Fits.calls t141 a1 a0 true _ A17.out).mono ?_); rintro e w23 ⟨rfl, hb⟩; have n0_ := Aside0.mk (below_step (by repeat (first | (with_reducible first | exact HB.out | apply below_alloc | apply pw_below_drewN | apply below_drew1) | exact HB.out)) hb); clear HB; have HB := n0_; clear n0_; (try clear hb); (try clear hb2); (try clear hk); (try clear hi)) | (go_at_call 14; (with_reducible refine (limit_Fits.calls (wrap64 (t141 + 1)) a1 a0 true _ A20.out).mono ?_); rintro e w24 ⟨rfl, hb⟩; have n0_ := Aside0.mk (below_step (by repeat (first | (with_reducible first | exact HB.out | apply below_alloc | apply pw_below_drewN | apply below_drew1) | exact HB.out)) hb); clear HB; have HB := n0_; clear n0_; (try clear hb); (try clear hb2); (try clear hk); (try clear hi)))
                  go_meet
                  case rel => exact ⟨_, (true), (by first | rfl | (simp; done) | (simp [*]; done)), H', ⟨by first | omega | exact Nat.le_refl _⟩, ⟨by repeat (first | (with_reducible first | exact HB.out | apply below_alloc | apply pw_below_drewN | apply below_drew1) | exact HB.out)⟩⟩
                · replace c21 := Bool.eq_false_iff.mpr c21
                  subst c21
                  have H1 : (if t141 < 0 then (saleroomlaw22_LimitWidest.j0 k l2 a3 true) else (if t141 > 1099511627776 then (saleroomlaw22_LimitWidest.j0 k l2 a3 true) else (saleroomlaw22_LimitWidest.j0 k l2 a3 false))) = some r := by rw [if_neg (show ¬ (false = true) by decide)] at H; exact H
                  clear H
                  have H := H1
                  clear H1
                  by_cases c25 : t141 < 0
                  · rw [if_pos c25] at H
                    have c25b0 : decide (t141 < 0) = true := decide_eq_true c25
                    clear c25
                    have H' := Aside0.mk H
                    clear H
                    go_wp2_with (first | ((with_reducible refine gate_callee (f := 14) rfl ?_); refine goesL_ (some 35) rfl rfl Try.func14 (by kernel_rfl) rfl #[.int .i64 0, .int .i64 a1, .int .i64 a0] rfl (by (try simp only [List.map_toArray, List.map_cons, List.map_nil]); first | done | rfl | (simp only [List.length_drop, List.length_take]; rfl)) ?_; (with_reducible refine (limit_Fits.calls 0 a1 a0 t143 _ A13.out).mono ?_); rintro e w26 ⟨rfl, hb⟩; refine ⟨_, rfl, ?_⟩; have n0_ := Aside0.mk (below_step (by repeat (first | (with_reducible first | exact HB.out | apply below_alloc | apply pw_below_drewN | apply below_drew1) | exact HB.out)) hb); clear HB; have HB := n0_; clear n0_; (try clear hb); (try clear hb2); (try clear hk); (try clear hi)) | (go_at_call 14; (with_reducible refine (limit_Fits.calls t141 a1 a0 true _ A17.out).mono ?_); rintro e w27 ⟨rfl, hb⟩; have n0_ := Aside0.mk (below_step (by repeat (first | (with_reducible first | exact HB.out | apply below_alloc | apply pw_below_drewN | apply below_drew1) | exact HB.out)) hb); clear HB; have HB := n0_; clear n0_; (try clear hb); (try clear hb2); (try clear hk); (try clear hi)) | (go_at_call 14; (with_reducible refine (limit_Fits.calls (wrap64 (t141 + 1)) a1 a0 false _ A20.out).mono ?_); rintro e w28 ⟨rfl, hb⟩; have n0_ := Aside0.mk (below_step (by repeat (first | (with_reducible first | exact HB.out | apply below_alloc | apply pw_below_drewN | apply below_drew1) | exact HB.out)) hb); clear HB; have HB := n0_; clear n0_; (try clear hb); (try clear hb2); (try clear hk); (try clear hi)))
                    go_meet
                    case rel => exact ⟨_, (true), (by first | rfl | (simp; done) | (simp [*]; done)), H', ⟨by first | omega | exact Nat.le_refl _⟩, ⟨by repeat (first | (with_reducible first | exact HB.out | apply below_alloc | apply pw_below_drewN | apply below_drew1) | exact HB.out)⟩⟩
                  · rw [if_neg c25] at H
                    have c25b0 : decide (t141 < 0) = false := decide_eq_false c25
                    clear c25
                    by_cases c29 : t141 > 1099511627776
                    · rw [if_pos c29] at H
                      have c29b0 : decide (1099511627776 < t141) = true := decide_eq_true c29
                      clear c29
                      have H' := Aside0.mk H
                      clear H
                      go_wp2_with (first | ((with_reducible refine gate_callee (f := 14) rfl ?_); refine goesL_ (some 35) rfl rfl Try.func14 (by kernel_rfl) rfl #[.int .i64 0, .int .i64 a1, .int .i64 a0] rfl (by (try simp only [List.map_toArray, List.map_cons, List.map_nil]); first | done | rfl | (simp only [List.length_drop, List.length_take]; rfl)) ?_; (with_reducible refine (limit_Fits.calls 0 a1 a0 t143 _ A13.out).mono ?_); rintro e w30 ⟨rfl, hb⟩; refine ⟨_, rfl, ?_⟩; have n0_ := Aside0.mk (below_step (by repeat (first | (with_reducible first | exact HB.out | apply below_alloc | apply pw_below_drewN | apply below_drew1) | exact HB.out)) hb); clear HB; have HB := n0_; clear n0_; (try clear hb); (try clear hb2); (try clear hk); (try clear hi)) | (go_at_call 14; (with_reducible refine (limit_Fits.calls t141 a1 a0 true _ A17.out).mono ?_); rintro e w31 ⟨rfl, hb⟩; have n0_ := Aside0.mk (below_step (by repeat (first | (with_reducible first | exact HB.out | apply below_alloc | apply pw_below_drewN | apply below_drew1) | exact HB.out)) hb); clear HB; have HB := n0_; clear n0_; (try clear hb); (try clear hb2); (try clear hk); (try clear hi)) | (go_at_call 14; (with_reducible refine (limit_Fits.calls (wrap64 (t141 + 1)) a1 a0 false _ A20.out).mono ?_); rintro e w32 ⟨rfl, hb⟩; have n0_ := Aside0.mk (below_step (by repeat (first | (with_reducible first | exact HB.out | apply below_alloc | apply pw_below_drewN | apply below_drew1) | exact HB.out)) hb); clear HB; have HB := n0_; clear n0_; (try clear hb); (try clear hb2); (try clear hk); (try clear hi)))
                      go_meet
                      case rel => exact ⟨_, (true), (by first | rfl | (simp; done) | (simp [*]; done)), H', ⟨by first | omega | exact Nat.le_refl _⟩, ⟨by repeat (first | (with_reducible first | exact HB.out | apply below_alloc | apply pw_below_drewN | apply below_drew1) | exact HB.out)⟩⟩
                    · rw [if_neg c29] at H
                      have c29b0 : decide (1099511627776 < t141) = false := decide_eq_false c29
                      clear c29
                      have H' := Aside0.mk H
                      clear H
                      go_wp2_with (first | ((with_reducible refine gate_callee (f := 14) rfl ?_); refine goesL_ (some 35) rfl rfl Try.func14 (by kernel_rfl) rfl #[.int .i64 0, .int .i64 a1, .int .i64 a0] rfl (by (try simp only [List.map_toArray, List.map_cons, List.map_nil]); first | done | rfl | (simp only [List.length_drop, List.length_take]; rfl)) ?_; (with_reducible refine (limit_Fits.calls 0 a1 a0 t143 _ A13.out).mono ?_); rintro e w33 ⟨rfl, hb⟩; refine ⟨_, rfl, ?_⟩; have n0_ := Aside0.mk (below_step (by repeat (first | (with_reducible first | exact HB.out | apply below_alloc | apply pw_below_drewN | apply below_drew1) | exact HB.out)) hb); clear HB; have HB := n0_; clear n0_; (try clear hb); (try clear hb2); (try clear hk); (try clear hi)) | (go_at_call 14; (with_reducible refine (limit_Fits.calls t141 a1 a0 true _ A17.out).mono ?_); rintro e w34 ⟨rfl, hb⟩; have n0_ := Aside0.mk (below_step (by repeat (first | (with_reducible first | exact HB.out | apply below_alloc | apply pw_below_drewN | apply below_drew1) | exact HB.out)) hb); clear HB; have HB := n0_; clear n0_; (try clear hb); (try clear hb2); (try clear hk); (try clear hi)) | (go_at_call 14; (with_reducible refine (limit_Fits.calls (wrap64 (t141 + 1)) a1 a0 false _ A20.out).mono ?_); rintro e w35 ⟨rfl, hb⟩; have n0_ := Aside0.mk (below_step (by repeat (first | (with_reducible first | exact HB.out | apply below_alloc | apply pw_below_drewN | apply below_drew1) | exact HB.out)) hb); clear HB; have HB := n0_; clear n0_; (try clear hb); (try clear hb2); (try clear hk); (try clear hi)))
                      go_meet
                      case rel => exact ⟨_, (false), (by first | rfl | (simp; done) | (simp [*]; done)), H', ⟨by first | omega | exact Nat.le_refl _⟩, ⟨by repeat (first | (with_reducible first | exact HB.out | apply below_alloc | apply pw_below_drewN | apply below_drew1) | exact HB.out)⟩⟩
              · rw [if_neg c19] at H
                have c19b0 : decide (t141 < 1099511627776) = false := decide_eq_false c19
                clear c19
                by_cases c36 : t141 < 0
                · rw [if_pos c36] at H
                  have c36b0 : decide (t141 < 0) = true := decide_eq_true c36
                  clear c36
                  have H' := Aside0.mk H
                  clear H
                  go_wp2_with (first | ((with_reducible refine gate_callee (f := 14) rfl ?_); refine goesL_ (some 35) rfl rfl Try.func14 (by kernel_rfl) rfl #[.int .i64 0, .int .i64 a1, .int .i64 a0] rfl (by (try simp only [List.map_toArray, List.map_cons, List.map_nil]); first | done | rfl | (simp only [List.length_drop, List.length_take]; rfl)) ?_; (with_reducible refine (limit_Fits.calls 0 a1 a0 t143 _ A13.out).mono ?_); rintro e w37 ⟨rfl, hb⟩; refine ⟨_, rfl, ?_⟩; have n0_ := Aside0.mk (below_step (by repeat (first | (with_reducible first | exact HB.out | apply below_alloc | apply pw_below_drewN | apply below_drew1) | exact HB.out)) hb); clear HB; have HB := n0_; clear n0_; (try clear hb); (try clear hb2); (try clear hk); (try clear hi)) | (go_at_call 14; (with_reducible refine (limit_Fits.calls t141 a1 a0 true _ A17.out).mono ?_); rintro e w38 ⟨rfl, hb⟩; have n0_ := Aside0.mk (below_step (by repeat (first | (with_reducible first | exact HB.out | apply below_alloc | apply pw_below_drewN | apply below_drew1) | exact HB.out)) hb); clear HB; have HB := n0_; clear n0_; (try clear hb); (try clear hb2); (try clear hk); (try clear hi)))
                  go_meet
                  case rel => exact ⟨_, (true), (by first | rfl | (simp; done) | (simp [*]; done)), H', ⟨by first | omega | exact Nat.le_refl _⟩, ⟨by repeat (first | (with_reducible first | exact HB.out | apply below_alloc | apply pw_below_drewN | apply below_drew1) | exact HB.out)⟩⟩
                · rw [if_neg c36] at H
                  have c36b0 : decide (t141 < 0) = false := decide_eq_false c36
                  clear c36
                  by_cases c39 : t141 > 1099511627776
                  · rw [if_pos c39] at H
                    have c39b0 : decide (1099511627776 < t141) = true := decide_eq_true c39
                    clear c39
                    have H' := Aside0.mk H
                    clear H
                    go_wp2_with (first | ((with_reducible refine gate_callee (f := 14) rfl ?_); refine goesL_ (some 35) rfl rfl Try.func14 (by kernel_rfl) rfl #[.int .i64 0, .int .i64 a1, .int .i64 a0] rfl (by (try simp only [List.map_toArray, List.map_cons, List.map_nil]); first | done | rfl | (simp only [List.length_drop, List.length_take]; rfl)) ?_; (with_reducible refine (limit_Fits.calls 0 a1 a0 t143 _ A13.out).mono ?_); rintro e w40 ⟨rfl, hb⟩; refine ⟨_, rfl, ?_⟩; have n0_ := Aside0.mk (below_step (by repeat (first | (with_reducible first | exact HB.out | apply below_alloc | apply pw_below_drewN | apply below_drew1) | exact HB.out)) hb); clear HB; have HB := n0_; clear n0_; (try clear hb); (try clear hb2); (try clear hk); (try clear hi)) | (go_at_call 14; (with_reducible refine (limit_Fits.calls t141 a1 a0 true _ A17.out).mono ?_); rintro e w41 ⟨rfl, hb⟩; have n0_ := Aside0.mk (below_step (by repeat (first | (with_reducible first | exact HB.out | apply below_alloc | apply pw_below_drewN | apply below_drew1) | exact HB.out)) hb); clear HB; have HB := n0_; clear n0_; (try clear hb); (try clear hb2); (try clear hk); (try clear hi)))
                    go_meet
                    case rel => exact ⟨_, (true), (by first | rfl | (simp; done) | (simp [*]; done)), H', ⟨by first | omega | exact Nat.le_refl _⟩, ⟨by repeat (first | (with_reducible first | exact HB.out | apply below_alloc | apply pw_below_drewN | apply below_drew1) | exact HB.out)⟩⟩
                  · rw [if_neg c39] at H
                    have c39b0 : decide (1099511627776 < t141) = false := decide_eq_false c39
                    clear c39
                    have H' := Aside0.mk H
                    clear H
                    go_wp2_with (first | ((with_reducible refine gate_callee (f := 14) rfl ?_); refine goesL_ (some 35) rfl rfl Try.func14 (by kernel_rfl) rfl #[.int .i64 0, .int .i64 a1, .int .i64 a0] rfl (by (try simp only [List.map_toArray, List.map_cons, List.map_nil]); first | done | rfl | (simp only [List.length_drop, List.length_take]; rfl)) ?_; (with_reducible refine (limit_Fits.calls 0 a1 a0 t143 _ A13.out).mono ?_); rintro e w42 ⟨rfl, hb⟩; refine ⟨_, rfl, ?_⟩; have n0_ := Aside0.mk (below_step (by repeat (first | (with_reducible first | exact HB.out | apply below_alloc | apply pw_below_drewN | apply below_drew1) | exact HB.out)) hb); clear HB; have HB := n0_; clear n0_; (try clear hb); (try clear hb2); (try clear hk); (try clear hi)) | (go_at_call 14; (with_reducible refine (limit_Fits.calls t141 a1 a0 true _ A17.out).mono ?_); rintro e w43 ⟨rfl, hb⟩; have n0_ := Aside0.mk (below_step (by repeat (first | (with_reducible first | exact HB.out | apply below_alloc | apply pw_below_drewN | apply below_drew1) | exact HB.out)) hb); clear HB; have HB := n0_; clear n0_; (try clear hb); (try clear hb2); (try clear hk); (try clear hi)))
                    go_meet
                    case rel => exact ⟨_, (false), (by first | rfl | (simp; done) | (simp [*]; done)), H', ⟨by first | omega | exact Nat.le_refl _⟩, ⟨by repeat (first | (with_reducible first | exact HB.out | apply below_alloc | apply pw_below_drewN | apply below_drew1) | exact HB.out)⟩⟩
            · replace c18 := Bool.eq_false_iff.mpr c18
              subst c18
              have H1 : (saleroomlaw22_LimitWidest.j0 k l2 a3 true) = some r := by rw [if_neg (show ¬ (false = true) by decide)] at H; exact H
              clear H
              have H := H1
              clear H1
              have H' := Aside0.mk H
              clear H
              go_wp2_with (first | ((with_reducible refine gate_callee (f := 14) rfl ?_); refine goesL_ (some 35) rfl rfl Try.func14 (by kernel_rfl) rfl #[.int .i64 0, .int .i64 a1, .int .i64 a0] rfl (by (try simp only [List.map_toArray, List.map_cons, List.map_nil]); first | done | rfl | (simp only [List.length_drop, List.length_take]; rfl)) ?_; (with_reducible refine (limit_Fits.calls 0 a1 a0 t143 _ A13.out).mono ?_); rintro e w44 ⟨rfl, hb⟩; refine ⟨_, rfl, ?_⟩; have n0_ := Aside0.mk (below_step (by repeat (first | (with_reducible first | exact HB.out | apply below_alloc | apply pw_below_drewN | apply below_drew1) | exact HB.out)) hb); clear HB; have HB := n0_; clear n0_; (try clear hb); (try clear hb2); (try clear hk); (try clear hi)) | (go_at_call 14; (with_reducible refine (limit_Fits.calls t141 a1 a0 false _ A17.out).mono ?_); rintro e w45 ⟨rfl, hb⟩; have n0_ := Aside0.mk (below_step (by repeat (first | (with_reducible first | exact HB.out | apply below_alloc | apply pw_below_drewN | apply below_drew1) | exact HB.out)) hb); clear HB; have HB := n0_; clear n0_; (try clear hb); (try clear hb2); (try clear hk); (try clear hi)))
              go_meet
              case rel => exact ⟨_, (true), (by first | rfl | (simp; done) | (simp [*]; done)), H', ⟨by first | omega | exact Nat.le_refl _⟩, ⟨by repeat (first | (with_reducible first | exact HB.out | apply below_alloc | apply pw_below_drewN | apply below_drew1) | exact HB.out)⟩⟩
          · replace c16 := Bool.eq_false_iff.mpr c16
            subst c16
            have H1 : (saleroomlaw22_LimitWidest.j0 k l2 a3 (t141 != 0)) = some r := by rw [if_neg (show ¬ (false = true) by decide)] at H; exact H
            clear H
            have H := H1
            clear H1
            have H' := Aside0.mk H
            clear H
            go_wp2_with (first | ((with_reducible refine gate_callee (f := 14) rfl ?_); refine goesL_ (some 35) rfl rfl Try.func14 (by kernel_rfl) rfl #[.int .i64 0, .int .i64 a1, .int .i64 a0] rfl (by (try simp only [List.map_toArray, List.map_cons, List.map_nil]); first | done | rfl | (simp only [List.length_drop, List.length_take]; rfl)) ?_; (with_reducible refine (limit_Fits.calls 0 a1 a0 t143 _ A13.out).mono ?_); rintro e w46 ⟨rfl, hb⟩; refine ⟨_, rfl, ?_⟩; have n0_ := Aside0.mk (below_step (by repeat (first | (with_reducible first | exact HB.out | apply below_alloc | apply pw_below_drewN | apply below_drew1) | exact HB.out)) hb); clear HB; have HB := n0_; clear n0_; (try clear hb); (try clear hb2); (try clear hk); (try clear hi)))
            go_meet
            case rel => exact ⟨_, ((t141 != 0)), (by first | rfl | (simp; done) | (simp [*]; done)), H', ⟨by first | omega | exact Nat.le_refl _⟩, ⟨by repeat (first | (with_reducible first | exact HB.out | apply below_alloc | apply pw_below_drewN | apply below_drew1) | exact HB.out)⟩⟩
      case rest =>
        clear HC10
        try clear c1
        try clear c2
        try clear p2
        try clear c3
        try clear c6
        try clear p6
        try clear c7
        try clear c7b0
        try clear c7b1
        try clear c14
        try clear c14b0
        try clear c14b1
        try clear c14b2
        try clear c16
        try clear c18
        try clear c19
        try clear c19b0
        try clear c21
        try clear c25
        try clear c25b0
        try clear c29
        try clear c29b0
        try clear c36
        try clear c36b0
        try clear c39
        try clear c39b0
        obtain ⟨kq, x73_9, rfl, HA, HJ9, HB⟩ := hcut
        cases kq with
        | zero => exact absurd HA.out (by simp [saleroomlaw22_LimitWidest.j0])
        | succ kj9 =>
          have H := HA.out
          clear HA
          simp only [saleroomlaw22_LimitWidest.j0] at H
          by_cases c47 : x73_9 = true
          · subst c47
            have H1 : (some false) = some r := by rw [if_pos rfl] at H; exact H
            clear H
            have H := H1
            clear H1
            obtain rfl := Option.some.inj H
            go_wp2
            go_ret
            exact ⟨by first | rfl | (simp [errW_none, errW_some] <;> rfl) | (simp [*, errW_none, errW_some] <;> rfl), by repeat (first | (with_reducible first | exact HB.out | apply below_alloc | apply pw_below_drewN | apply below_drew1) | exact HB.out)⟩
          · replace c47 := Bool.eq_false_iff.mpr c47
            subst c47
            have H1 : ((limit_Least.f kj9 l2 a3).bind fun bt146 => (saleroomlaw22_LimitWidest.l0 kj9 l2 a3 bt146.1 bt146.2 0 false l2 (l2.length : Int) 0)) = some r := by rw [if_neg (show ¬ (false = true) by decide)] at H; exact H
            clear H
            have H := H1
            clear H1
            replace H := Option.bind_eq_some_iff.mp H
            obtain ⟨⟨t146, t147⟩, A480, H⟩ := H
            replace H : (saleroomlaw22_LimitWidest.l0 kj9 l2 a3 t146 t147 0 false l2 (l2.length : Int) 0) = some r := H
            have A48 := Aside0.mk A480
            clear A480
            have H' := Aside0.mk H
            clear H
            go_wp2_with (first | ((with_reducible refine gate_callee (f := 22) rfl ?_); refine goesL_ (some 77) rfl rfl Try.func22 (by kernel_rfl) rfl #[.slice A2 l2.length c2, .int .i64 a3] rfl (by (try simp only [List.map_toArray, List.map_cons, List.map_nil]); first | done | rfl | (simp only [List.length_drop, List.length_take]; rfl)) ?_; (with_reducible refine (limit_Least.calls kj9 _ _ l2 a3 t146 t147 _ ?side1 ?side2 A48.out).mono ?_); (case side1 => repeat (first | exact (Kd.C_below HR2.out HB.out) | (with_reducible refine Kd.C_alloc ?_ _) | (with_reducible refine Kd.C_drewN ?_ _) | (with_reducible refine Kd.C_drew ?_))); (case side2 => exact HC2.out); rintro e w49 ⟨rfl, hb⟩; refine ⟨_, rfl, ?_⟩; have n0_ := Aside0.mk (below_step (by repeat (first | (with_reducible first | exact HB.out | apply below_alloc | apply pw_below_drewN | apply below_drew1) | exact HB.out)) hb); clear HB; have HB := n0_; clear n0_; (try clear hb); (try clear hb2); (try clear hk); (try clear hi)))
            go_loopg [13, 14, 82] kj9 (fun kq v13 v14 v82 w' => ∃ (x13_2 : Int) (x14_2 : Bool) (x82_2 : Int), v13 = .int .i64 x13_2 ∧ v14 = .bool x14_2 ∧ v82 = .int .i64 x82_2 ∧ Aside0 (saleroomlaw22_LimitWidest.l0 kq l2 a3 t146 t147 x13_2 x14_2 l2 (l2.length : Int) x82_2 = some r) ∧ Aside0 (kq ≤ kj9) ∧ Aside0 (Below w.heap.size w w'))
            case atStart => exact ⟨(0), (false), (0), (by first | rfl | (simp; done) | (simp [*]; done)), (by first | rfl | (simp; done) | (simp [*]; done)), (by first | rfl | (simp; done) | (simp [*]; done)), H', ⟨Nat.le_refl _⟩, ⟨by repeat (first | (with_reducible first | exact HB.out | apply below_alloc | apply pw_below_drewN | apply below_drew1) | exact HB.out)⟩⟩
            case round =>
              clear H'
              try clear c1
              try clear c2
              try clear p2
              try clear c3
              try clear c4
              try clear c6
              try clear p6
              try clear c7
              try clear c7b0
              try clear c7b1
              try clear c14
              try clear c14b0
              try clear c14b1
              try clear c14b2
              try clear c16
              try clear c18
              try clear c19
              try clear c19b0
              try clear c21
              try clear c22
              try clear c25
              try clear c25b0
              try clear c29
              try clear c29b0
              try clear c36
              try clear c36b0
              try clear c39
              try clear c39b0
              try clear c47
              try clear p2
              try clear p6
              obtain ⟨x13_2, x14_2, x82_2, rfl, rfl, rfl, HA, HK2, HB⟩ := hrel
              cases gk with
              | zero => exact absurd HA.out (by simp [saleroomlaw22_LimitWidest.l0])
              | succ k2 =>
                have H := HA.out
                clear HA
                simp only [saleroomlaw22_LimitWidest.l0] at H
                by_cases c50 : x82_2 < (l2.length : Int)
                · rw [if_pos c50] at H
                  have c50b0 : decide (x82_2 < (l2.length : Int)) = true := decide_eq_true c50
                  clear c50
                  by_cases c51 : 0 ≤ x82_2
                  · rw [if_pos c51] at H
                    have c51b0 : decide (0 ≤ x82_2) = true := decide_eq_true c51
                    clear c51
                    by_cases c52 : x82_2 < (l2.length : Int)
                    · rw [if_pos c52] at H
                      have c52b0 : decide (x82_2 < (l2.length : Int)) = true := decide_eq_true c52
                      clear c52
                      by_cases c53 : x14_2 = true
                      · subst c53
                        have H1 : (if (rd l2 x82_2) > 0 then (saleroomlaw22_LimitWidest.l0 k2 l2 a3 t146 t147 (wrap64 (x13_2 + 1)) true l2 (l2.length : Int) (wrap64 (x82_2 + 1))) else (saleroomlaw22_LimitWidest.l0 k2 l2 a3 t146 t147 x13_2 true l2 (l2.length : Int) (wrap64 (x82_2 + 1)))) = some r := by rw [if_pos rfl] at H; exact H
                        clear H
                        have H := H1
                        clear H1
                        by_cases c54 : (rd l2 x82_2) > 0
                        · rw [if_pos c54] at H
                          have c54b0 : decide (0 < (rd l2 x82_2)) = true := decide_eq_true c54
                          clear c54
                          have H' := Aside0.mk H
                          clear H
                          have p148 : 0 ≤ (x82_2 : Int) := of_decide_eq_true (by first | (with_reducible assumption) | assumption)
                          have q148 : x82_2 < (l2.length : Int) := of_decide_eq_true (by first | (with_reducible assumption) | assumption)
                          obtain ⟨ad148, e148, hx148_0⟩ := Kd.at_int HR2.out x82_2 p148 q148
                          cases e148
                          replace hx148_0 := (HB.out.cell (World.block_lt_of_cell? w _ hx148_0)).trans hx148_0
                          replace p148 := eq_true p148
                          replace q148 := eq_true q148
                          go_wp2
                          go_roundg k2
                          case measure => have := HJ9.out; have := HK2.out; omega
                          case rel => exact ⟨(wrap64 (x13_2 + 1)), (true), (wrap64 (x82_2 + 1)), (by first | rfl | (simp; done) | (simp [*]; done)), (by first | rfl | (simp; done) | (simp [*]; done)), (by first | rfl | (simp; done) | (simp [*]; done)), H', ⟨by have := HJ9.out; have := HK2.out; omega⟩, ⟨by repeat (first | (with_reducible first | exact HB.out | apply below_alloc | apply pw_below_drewN | apply below_drew1) | exact HB.out)⟩⟩
                        · rw [if_neg c54] at H
                          have c54b0 : decide (0 < (rd l2 x82_2)) = false := decide_eq_false c54
                          clear c54
                          have H' := Aside0.mk H
                          clear H
                          have p148 : 0 ≤ (x82_2 : Int) := of_decide_eq_true (by first | (with_reducible assumption) | assumption)
                          have q148 : x82_2 < (l2.length : Int) := of_decide_eq_true (by first | (with_reducible assumption) | assumption)
                          obtain ⟨ad148, e148, hx148_0⟩ := Kd.at_int HR2.out x82_2 p148 q148
                          cases e148
                          replace hx148_0 := (HB.out.cell (World.block_lt_of_cell? w _ hx148_0)).trans hx148_0
                          replace p148 := eq_true p148
                          replace q148 := eq_true q148
                          go_wp2
                          go_roundg k2
                          case measure => have := HJ9.out; have := HK2.out; omega
                          case rel => exact ⟨(x13_2), (true), (wrap64 (x82_2 + 1)), (by first | rfl | (simp; done) | (simp [*]; done)), (by first | rfl | (simp; done) | (simp [*]; done)), (by first | rfl | (simp; done) | (simp [*]; done)), H', ⟨by have := HJ9.out; have := HK2.out; omega⟩, ⟨by repeat (first | (with_reducible first | exact HB.out | apply below_alloc | apply pw_below_drewN | apply below_drew1) | exact HB.out)⟩⟩
                      · replace c53 := Bool.eq_false_iff.mpr c53
                        subst c53
                        have H1 : (if (rd l2 x82_2) < 0 then (if (rd l2 x82_2) > 0 then (saleroomlaw22_LimitWidest.l0 k2 l2 a3 t146 t147 (wrap64 (x13_2 + 1)) true l2 (l2.length : Int) (wrap64 (x82_2 + 1))) else (saleroomlaw22_LimitWidest.l0 k2 l2 a3 t146 t147 x13_2 true l2 (l2.length : Int) (wrap64 (x82_2 + 1)))) else (if (rd l2 x82_2) > 0 then (saleroomlaw22_LimitWidest.l0 k2 l2 a3 t146 t147 (wrap64 (x13_2 + 1)) (decide ((rd l2 x82_2) > 1099511627776)) l2 (l2.length : Int) (wrap64 (x82_2 + 1))) else (saleroomlaw22_LimitWidest.l0 k2 l2 a3 t146 t147 x13_2 (decide ((rd l2 x82_2) > 1099511627776)) l2 (l2.length : Int) (wrap64 (x82_2 + 1))))) = some r := by rw [if_neg (show ¬ (false = true) by decide)] at H; exact H
                        clear H
                        have H := H1
                        clear H1
                        by_cases c55 : (rd l2 x82_2) < 0
                        · rw [if_pos c55] at H
                          have c55b0 : decide ((rd l2 x82_2) < 0) = true := decide_eq_true c55
                          clear c55
                          by_cases c56 : (rd l2 x82_2) > 0
                          · rw [if_pos c56] at H
                            have c56b0 : decide (0 < (rd l2 x82_2)) = true := decide_eq_true c56
                            clear c56
                            have H' := Aside0.mk H
                            clear H
                            have p148 : 0 ≤ (x82_2 : Int) := of_decide_eq_true (by first | (with_reducible assumption) | assumption)
                            have q148 : x82_2 < (l2.length : Int) := of_decide_eq_true (by first | (with_reducible assumption) | assumption)
                            obtain ⟨ad148, e148, hx148_0⟩ := Kd.at_int HR2.out x82_2 p148 q148
                            cases e148
                            replace hx148_0 := (HB.out.cell (World.block_lt_of_cell? w _ hx148_0)).trans hx148_0
                            replace p148 := eq_true p148
                            replace q148 := eq_true q148
                            go_wp2
                            go_roundg k2
                            case measure => have := HJ9.out; have := HK2.out; omega
                            case rel => exact ⟨(wrap64 (x13_2 + 1)), (true), (wrap64 (x82_2 + 1)), (by first | rfl | (simp; done) | (simp [*]; done)), (by first | rfl | (simp; done) | (simp [*]; done)), (by first | rfl | (simp; done) | (simp [*]; done)), H', ⟨by have := HJ9.out; have := HK2.out; omega⟩, ⟨by repeat (first | (with_reducible first | exact HB.out | apply below_alloc | apply pw_below_drewN | apply below_drew1) | exact HB.out)⟩⟩
                          · rw [if_neg c56] at H
                            have c56b0 : decide (0 < (rd l2 x82_2)) = false := decide_eq_false c56
                            clear c56
                            have H' := Aside0.mk H
                            clear H
                            have p148 : 0 ≤ (x82_2 : Int) := of_decide_eq_true (by first | (with_reducible assumption) | assumption)
                            have q148 : x82_2 < (l2.length : Int) := of_decide_eq_true (by first | (with_reducible assumption) | assumption)
                            obtain ⟨ad148, e148, hx148_0⟩ := Kd.at_int HR2.out x82_2 p148 q148
                            cases e148
                            replace hx148_0 := (HB.out.cell (World.block_lt_of_cell? w _ hx148_0)).trans hx148_0
                            replace p148 := eq_true p148
                            replace q148 := eq_true q148
                            go_wp2
                            go_roundg k2
                            case measure => have := HJ9.out; have := HK2.out; omega
                            case rel => exact ⟨(x13_2), (true), (wrap64 (x82_2 + 1)), (by first | rfl | (simp; done) | (simp [*]; done)), (by first | rfl | (simp; done) | (simp [*]; done)), (by first | rfl | (simp; done) | (simp [*]; done)), H', ⟨by have := HJ9.out; have := HK2.out; omega⟩, ⟨by repeat (first | (with_reducible first | exact HB.out | apply below_alloc | apply pw_below_drewN | apply below_drew1) | exact HB.out)⟩⟩
                        · rw [if_neg c55] at H
                          have c55b0 : decide ((rd l2 x82_2) < 0) = false := decide_eq_false c55
                          clear c55
                          by_cases c57 : (rd l2 x82_2) > 0
                          · rw [if_pos c57] at H
                            have c57b0 : decide (0 < (rd l2 x82_2)) = true := decide_eq_true c57
                            clear c57
                            have H' := Aside0.mk H
                            clear H
                            have p148 : 0 ≤ (x82_2 : Int) := of_decide_eq_true (by first | (with_reducible assumption) | assumption)
                            have q148 : x82_2 < (l2.length : Int) := of_decide_eq_true (by first | (with_reducible assumption) | assumption)
                            obtain ⟨ad148, e148, hx148_0⟩ := Kd.at_int HR2.out x82_2 p148 q148
                            cases e148
                            replace hx148_0 := (HB.out.cell (World.block_lt_of_cell? w _ hx148_0)).trans hx148_0
                            replace p148 := eq_true p148
                            replace q148 := eq_true q148
                            go_wp2
                            go_roundg k2
                            case measure => have := HJ9.out; have := HK2.out; omega
                            case rel => exact ⟨(wrap64 (x13_2 + 1)), (decide ((rd l2 x82_2) > 1099511627776)), (wrap64 (x82_2 + 1)), (by first | rfl | (simp; done) | (simp [*]; done)), (by first | rfl | (simp; done) | (simp [*]; done)), (by first | rfl | (simp; done) | (simp [*]; done)), H', ⟨by have := HJ9.out; have := HK2.out; omega⟩, ⟨by repeat (first | (with_reducible first | exact HB.out | apply below_alloc | apply pw_below_drewN | apply below_drew1) | exact HB.out)⟩⟩
                          · rw [if_neg c57] at H
                            have c57b0 : decide (0 < (rd l2 x82_2)) = false := decide_eq_false c57
                            clear c57
                            have H' := Aside0.mk H
                            clear H
                            have p148 : 0 ≤ (x82_2 : Int) := of_decide_eq_true (by first | (with_reducible assumption) | assumption)
                            have q148 : x82_2 < (l2.length : Int) := of_decide_eq_true (by first | (with_reducible assumption) | assumption)
                            obtain ⟨ad148, e148, hx148_0⟩ := Kd.at_int HR2.out x82_2 p148 q148
                            cases e148
                            replace hx148_0 := (HB.out.cell (World.block_lt_of_cell? w _ hx148_0)).trans hx148_0
                            replace p148 := eq_true p148
                            replace q148 := eq_true q148
                            go_wp2
                            go_roundg k2
                            case measure => have := HJ9.out; have := HK2.out; omega
                            case rel => exact ⟨(x13_2), (decide ((rd l2 x82_2) > 1099511627776)), (wrap64 (x82_2 + 1)), (by first | rfl | (simp; done) | (simp [*]; done)), (by first | rfl | (simp; done) | (simp [*]; done)), (by first | rfl | (simp; done) | (simp [*]; done)), H', ⟨by have := HJ9.out; have := HK2.out; omega⟩, ⟨by repeat (first | (with_reducible first | exact HB.out | apply below_alloc | apply pw_below_drewN | apply below_drew1) | exact HB.out)⟩⟩
                    · rw [if_neg c52] at H
                      exact absurd H (by simp)
                  · rw [if_neg c51] at H
                    exact absurd H (by simp)
                · rw [if_neg c50] at H
                  have c50b0 : decide (x82_2 < (l2.length : Int)) = false := decide_eq_false c50
                  clear c50
                  have HC58 := Aside0.mk H
                  clear H
                  go_upto_region 17 with (fail)
                  go_cut [116] (fun v116 wc => ∃ (kq : Nat) (x116_57 : Bool), v116 = .bool x116_57 ∧ Aside0 (saleroomlaw22_LimitWidest.j2 kq l2 a3 t146 t147 x116_57 = some r) ∧ Aside0 (kq ≤ k2) ∧ Aside0 (Below w.heap.size w wc))
                  case first =>
                    have H := HC58.out
                    clear HC58
                    by_cases c59 : x14_2 = true
                    · subst c59
                      have H1 : (if (t147 != false) = true then (saleroomlaw22_LimitWidest.j2 k2 l2 a3 t146 t147 true) else (if t147 = true then (saleroomlaw22_LimitWidest.j2 k2 l2 a3 t146 t147 false) else (saleroomlaw22_LimitWidest.j2 k2 l2 a3 t146 t147 (t146 != 0)))) = some r := by rw [if_pos rfl] at H; exact H
                      clear H
                      have H := H1
                      clear H1
                      by_cases c60 : (t147 != false) = true
                      · rw [if_pos c60] at H
                        have c60b0 : (t147 != false) = true := c60
                        (try (have c60b1 : decide (t147 = false) = false := by simpa using c60))
                        (try (have c60b2 : (t147 == false) = false := by simpa using c60))
                        (try (have c60b3 : ¬ (t147 = false) := by simpa using c60))
                        clear c60
                        (first | rw [c60b0] | (simp only [i64_w, i32_w]; rw [c60b0]) | skip)
                        have H' := Aside0.mk H
                        clear H
                        go_wp2
                        go_meet
                        case rel => exact ⟨_, (true), (by first | rfl | (simp; done) | (simp [*]; done)), H', ⟨by have := HJ9.out; have := HK2.out; first | omega | exact Nat.le_refl _⟩, ⟨by repeat (first | (with_reducible first | exact HB.out | apply below_alloc | apply pw_below_drewN | apply below_drew1) | exact HB.out)⟩⟩
                      · rw [if_neg c60] at H
                        have c60b0 : (t147 != false) = false := by simpa using c60
                        (try (have c60b1 : decide (t147 = false) = true := by simpa using c60))
                        (try (have c60b2 : (t147 == false) = true := by simpa using c60))
                        clear c60
                        (first | rw [c60b0] | (simp only [i64_w, i32_w]; rw [c60b0]) | skip)
                        by_cases c61 : t147 = true
                        · subst c61
                          have H1 : (saleroomlaw22_LimitWidest.j2 k2 l2 a3 t146 true false) = some r := by rw [if_pos rfl] at H; exact H
                          clear H
                          have H := H1
                          clear H1
                          have H' := Aside0.mk H
                          clear H
                          go_wp2
                          go_meet
                          case rel => exact ⟨_, (false), (by first | rfl | (simp; done) | (simp [*]; done)), H', ⟨by have := HJ9.out; have := HK2.out; first | omega | exact Nat.le_refl _⟩, ⟨by repeat (first | (with_reducible first | exact HB.out | apply below_alloc | apply pw_below_drewN | apply below_drew1) | exact HB.out)⟩⟩
                        · replace c61 := Bool.eq_false_iff.mpr c61
                          subst c61
                          have H1 : (saleroomlaw22_LimitWidest.j2 k2 l2 a3 t146 false (t146 != 0)) = some r := by rw [if_neg (show ¬ (false = true) by decide)] at H; exact H
                          clear H
                          have H := H1
                          clear H1
                          have H' := Aside0.mk H
                          clear H
                          go_wp2
                          go_meet
                          case rel => exact ⟨_, ((t146 != 0)), (by first | rfl | (simp; done) | (simp [*]; done)), H', ⟨by have := HJ9.out; have := HK2.out; first | omega | exact Nat.le_refl _⟩, ⟨by repeat (first | (with_reducible first | exact HB.out | apply below_alloc | apply pw_below_drewN | apply below_drew1) | exact HB.out)⟩⟩
                    · replace c59 := Bool.eq_false_iff.mpr c59
                      subst c59
                      have H1 : (if (t147 != (decide (x13_2 ≤ a3))) = true then (saleroomlaw22_LimitWidest.j2 k2 l2 a3 t146 t147 true) else (if t147 = true then (saleroomlaw22_LimitWidest.j2 k2 l2 a3 t146 t147 false) else (saleroomlaw22_LimitWidest.j2 k2 l2 a3 t146 t147 (t146 != 0)))) = some r := by rw [if_neg (show ¬ (false = true) by decide)] at H; exact H
                      clear H
                      have H := H1
                      clear H1
                      by_cases c62 : (t147 != (decide (x13_2 ≤ a3))) = true
                      · rw [if_pos c62] at H
                        have c62b0 : (t147 != (decide (x13_2 ≤ a3))) = true := c62
                        (try (have c62b1 : decide (t147 = (decide (x13_2 ≤ a3))) = false := by simpa using c62))
                        (try (have c62b2 : (t147 == (decide (x13_2 ≤ a3))) = false := by simpa using c62))
                        (try (have c62b3 : ¬ (t147 = (decide (x13_2 ≤ a3))) := by simpa using c62))
                        clear c62
                        have H' := Aside0.mk H
                        clear H
                        go_wp2
                        go_meet
                        case rel => exact ⟨_, (true), (by first | rfl | (simp; done) | (simp [*]; done)), H', ⟨by have := HJ9.out; have := HK2.out; first | omega | exact Nat.le_refl _⟩, ⟨by repeat (first | (with_reducible first | exact HB.out | apply below_alloc | apply pw_below_drewN | apply below_drew1) | exact HB.out)⟩⟩
                      · rw [if_neg c62] at H
                        have c62b0 : (t147 != (decide (x13_2 ≤ a3))) = false := by simpa using c62
                        (try (have c62b1 : decide (t147 = (decide (x13_2 ≤ a3))) = true := by simpa using c62))
                        (try (have c62b2 : (t147 == (decide (x13_2 ≤ a3))) = true := by simpa using c62))
                        clear c62
                        by_cases c63 : t147 = true
                        · subst c63
                          have H1 : (saleroomlaw22_LimitWidest.j2 k2 l2 a3 t146 true false) = some r := by rw [if_pos rfl] at H; exact H
                          clear H
                          have H := H1
                          clear H1
                          have H' := Aside0.mk H
                          clear H
                          go_wp2
                          go_meet
                          case rel => exact ⟨_, (false), (by first | rfl | (simp; done) | (simp [*]; done)), H', ⟨by have := HJ9.out; have := HK2.out; first | omega | exact Nat.le_refl _⟩, ⟨by repeat (first | (with_reducible first | exact HB.out | apply below_alloc | apply pw_below_drewN | apply below_drew1) | exact HB.out)⟩⟩
                        · replace c63 := Bool.eq_false_iff.mpr c63
                          subst c63
                          have H1 : (saleroomlaw22_LimitWidest.j2 k2 l2 a3 t146 false (t146 != 0)) = some r := by rw [if_neg (show ¬ (false = true) by decide)] at H; exact H
                          clear H
                          have H := H1
                          clear H1
                          have H' := Aside0.mk H
                          clear H
                          go_wp2
                          go_meet
                          case rel => exact ⟨_, ((t146 != 0)), (by first | rfl | (simp; done) | (simp [*]; done)), H', ⟨by have := HJ9.out; have := HK2.out; first | omega | exact Nat.le_refl _⟩, ⟨by repeat (first | (with_reducible first | exact HB.out | apply below_alloc | apply pw_below_drewN | apply below_drew1) | exact HB.out)⟩⟩
                  case rest =>
                    clear HC58
                    try clear c1
                    try clear p1
                    try clear q1
                    try clear hx1
                    try clear c2
                    try clear p2
                    try clear c3
                    try clear c4
                    try clear c5
                    try clear c6
                    try clear p6
                    try clear c7
                    try clear c7b0
                    try clear c7b1
                    try clear c14
                    try clear c14b0
                    try clear c14b1
                    try clear c14b2
                    try clear p14
                    try clear q14
                    try clear hx14
                    try clear c16
                    try clear c18
                    try clear c19
                    try clear c19b0
                    try clear c21
                    try clear c22
                    try clear c25
                    try clear c25b0
                    try clear c29
                    try clear c29b0
                    try clear c36
                    try clear c36b0
                    try clear c39
                    try clear c39b0
                    try clear c47
                    try clear c50
                    try clear c50b0
                    try clear c51
                    try clear c51b0
                    try clear c52
                    try clear c52b0
                    try clear c53
                    try clear c54
                    try clear c54b0
                    try clear c55
                    try clear c55b0
                    try clear c56
                    try clear c56b0
                    try clear c57
                    try clear c57b0
                    try clear c59
                    try clear c60
                    try clear c60b0
                    try clear c60b1
                    try clear c60b2
                    try clear c61
                    try clear c62
                    try clear c62b0
                    try clear c62b1
                    try clear c62b2
                    try clear c63
                    try clear hx148_0
                    try clear p148
                    try clear p2
                    try clear p6
                    try clear q148
                    obtain ⟨kq, x116_57, rfl, HA, HJ57, HB⟩ := hcut
                    cases kq with
                    | zero => exact absurd HA.out (by simp [saleroomlaw22_LimitWidest.j2])
                    | succ kj57 =>
                      have H := HA.out
                      clear HA
                      simp only [saleroomlaw22_LimitWidest.j2] at H
                      by_cases c64 : x116_57 = true
                      · subst c64
                        have H1 : (some false) = some r := by rw [if_pos rfl] at H; exact H
                        clear H
                        have H := H1
                        clear H1
                        obtain rfl := Option.some.inj H
                        go_wp2
                        go_ret
                        exact ⟨by first | rfl | (simp [errW_none, errW_some] <;> rfl) | (simp [*, errW_none, errW_some] <;> rfl), by repeat (first | (with_reducible first | exact HB.out | apply below_alloc | apply pw_below_drewN | apply below_drew1) | exact HB.out)⟩
                      · replace c64 := Bool.eq_false_iff.mpr c64
                        subst c64
                        have H1 : (if t147 = true then ((limit_Rounds.f kj57 l2 t146).bind fun bt149 => (if bt149.2 = true then (if bt149.1 > a3 then (some false) else (if t146 < 1 then (some false) else (if t146 > 1099511627776 then (some false) else ((limit_Rounds.f kj57 l2 (wrap64 (t146 - 1))).bind fun bt151 => (if t146 = 1 then (some true) else (if bt151.2 = true then (some (decide (bt151.1 > a3))) else (some true))))))) else (some false))) else (some true)) = some r := by rw [if_neg (show ¬ (false = true) by decide)] at H; exact H
                        clear H
                        have H := H1
                        clear H1
                        by_cases c65 : t147 = true
                        · subst c65
                          have H1 : ((limit_Rounds.f kj57 l2 t146).bind fun bt149 => (if bt149.2 = true then (if bt149.1 > a3 then (some false) else (if t146 < 1 then (some false) else (if t146 > 1099511627776 then (some false) else ((limit_Rounds.f kj57 l2 (wrap64 (t146 - 1))).bind fun bt151 => (if t146 = 1 then (some true) else (if bt151.2 = true then (some (decide (bt151.1 > a3))) else (some true))))))) else (some false))) = some r := by rw [if_pos rfl] at H; exact H
                          clear H
                          have H := H1
                          clear H1
                          replace H := Option.bind_eq_some_iff.mp H
                          obtain ⟨⟨t149, t150⟩, A660, H⟩ := H
                          replace H : (if t150 = true then (if t149 > a3 then (some false) else (if t146 < 1 then (some false) else (if t146 > 1099511627776 then (some false) else ((limit_Rounds.f kj57 l2 (wrap64 (t146 - 1))).bind fun bt151 => (if t146 = 1 then (some true) else (if bt151.2 = true then (some (decide (bt151.1 > a3))) else (some true))))))) else (some false)) = some r := H
                          have A66 := Aside0.mk A660
                          clear A660
                          by_cases c67 : t150 = true
                          · subst c67
                            have H1 : (if t149 > a3 then (some false) else (if t146 < 1 then (some false) else (if t146 > 1099511627776 then (some false) else ((limit_Rounds.f kj57 l2 (wrap64 (t146 - 1))).bind fun bt151 => (if t146 = 1 then (some true) else (if bt151.2 = true then (some (decide (bt151.1 > a3))) else (some true))))))) = some r := by rw [if_pos rfl] at H; exact H
                            clear H
                            have H := H1
                            clear H1
                            by_cases c68 : t149 > a3
                            · rw [if_pos c68] at H
                              have c68b0 : decide (a3 < t149) = true := decide_eq_true c68
                              clear c68
                              obtain rfl := Option.some.inj H
                              go_wp2_with (first | ((with_reducible refine gate_callee (f := 8) rfl ?_); refine goesL_ (some 122) rfl rfl Try.func8 (by kernel_rfl) rfl #[.slice A2 l2.length c2, .int .i64 t146] rfl (by (try simp only [List.map_toArray, List.map_cons, List.map_nil]); first | done | rfl | (simp only [List.length_drop, List.length_take]; rfl)) ?_; (with_reducible refine (limit_Rounds.calls kj57 _ _ l2 t146 t149 true _ ?side1 ?side2 A66.out).mono ?_); (case side1 => repeat (first | exact (Kd.C_below HR2.out HB.out) | (with_reducible refine Kd.C_alloc ?_ _) | (with_reducible refine Kd.C_drewN ?_ _) | (with_reducible refine Kd.C_drew ?_))); (case side2 => exact HC2.out); rintro e w69 ⟨rfl, hb⟩; refine ⟨_, rfl, ?_⟩; have n0_ := Aside0.mk (below_step (by repeat (first | (with_reducible first | exact HB.out | apply below_alloc | apply pw_below_drewN | apply below_drew1) | exact HB.out)) hb); clear HB; have HB := n0_; clear n0_; (try clear hb); (try clear hb2); (try clear hk); (try clear hi)))
                              go_ret
                              exact ⟨by first | rfl | (simp [errW_none, errW_some] <;> rfl) | (simp [*, errW_none, errW_some] <;> rfl), by repeat (first | (with_reducible first | exact HB.out | apply below_alloc | apply pw_below_drewN | apply below_drew1) | exact HB.out)⟩
                            · rw [if_neg c68] at H
                              have c68b0 : decide (a3 < t149) = false := decide_eq_false c68
                              clear c68
                              by_cases c70 : t146 < 1
                              · rw [if_pos c70] at H
                                have c70b0 : decide (t146 < 1) = true := decide_eq_true c70
                                clear c70
                                obtain rfl := Option.some.inj H
                                go_wp2_with (first | ((with_reducible refine gate_callee (f := 8) rfl ?_); refine goesL_ (some 122) rfl rfl Try.func8 (by kernel_rfl) rfl #[.slice A2 l2.length c2, .int .i64 t146] rfl (by (try simp only [List.map_toArray, List.map_cons, List.map_nil]); first | done | rfl | (simp only [List.length_drop, List.length_take]; rfl)) ?_; (with_reducible refine (limit_Rounds.calls kj57 _ _ l2 t146 t149 true _ ?side1 ?side2 A66.out).mono ?_); (case side1 => repeat (first | exact (Kd.C_below HR2.out HB.out) | (with_reducible refine Kd.C_alloc ?_ _) | (with_reducible refine Kd.C_drewN ?_ _) | (with_reducible refine Kd.C_drew ?_))); (case side2 => exact HC2.out); rintro e w71 ⟨rfl, hb⟩; refine ⟨_, rfl, ?_⟩; have n0_ := Aside0.mk (below_step (by repeat (first | (with_reducible first | exact HB.out | apply below_alloc | apply pw_below_drewN | apply below_drew1) | exact HB.out)) hb); clear HB; have HB := n0_; clear n0_; (try clear hb); (try clear hb2); (try clear hk); (try clear hi)))
                                go_ret
                                exact ⟨by first | rfl | (simp [errW_none, errW_some] <;> rfl) | (simp [*, errW_none, errW_some] <;> rfl), by repeat (first | (with_reducible first | exact HB.out | apply below_alloc | apply pw_below_drewN | apply below_drew1) | exact HB.out)⟩
                              · rw [if_neg c70] at H
                                have c70b0 : decide (t146 < 1) = false := decide_eq_false c70
                                clear c70
                                by_cases c72 : t146 > 1099511627776
                                · rw [if_pos c72] at H
                                  have c72b0 : decide (1099511627776 < t146) = true := decide_eq_true c72
                                  clear c72
                                  obtain rfl := Option.some.inj H
                                  go_wp2_with (first | ((with_reducible refine gate_callee (f := 8) rfl ?_); refine goesL_ (some 122) rfl rfl Try.func8 (by kernel_rfl) rfl #[.slice A2 l2.length c2, .int .i64 t146] rfl (by (try simp only [List.map_toArray, List.map_cons, List.map_nil]); first | done | rfl | (simp only [List.length_drop, List.length_take]; rfl)) ?_; (with_reducible refine (limit_Rounds.calls kj57 _ _ l2 t146 t149 true _ ?side1 ?side2 A66.out).mono ?_); (case side1 => repeat (first | exact (Kd.C_below HR2.out HB.out) | (with_reducible refine Kd.C_alloc ?_ _) | (with_reducible refine Kd.C_drewN ?_ _) | (with_reducible refine Kd.C_drew ?_))); (case side2 => exact HC2.out); rintro e w73 ⟨rfl, hb⟩; refine ⟨_, rfl, ?_⟩; have n0_ := Aside0.mk (below_step (by repeat (first | (with_reducible first | exact HB.out | apply below_alloc | apply pw_below_drewN | apply below_drew1) | exact HB.out)) hb); clear HB; have HB := n0_; clear n0_; (try clear hb); (try clear hb2); (try clear hk); (try clear hi)))
                                  go_ret
                                  exact ⟨by first | rfl | (simp [errW_none, errW_some] <;> rfl) | (simp [*, errW_none, errW_some] <;> rfl), by repeat (first | (with_reducible first | exact HB.out | apply below_alloc | apply pw_below_drewN | apply below_drew1) | exact HB.out)⟩
                                · rw [if_neg c72] at H
                                  have c72b0 : decide (1099511627776 < t146) = false := decide_eq_false c72
                                  clear c72
                                  replace H := Option.bind_eq_some_iff.mp H
                                  obtain ⟨⟨t151, t152⟩, A740, H⟩ := H
                                  replace H : (if t146 = 1 then (some true) else (if t152 = true then (some (decide (t151 > a3))) else (some true))) = some r := H
                                  have A74 := Aside0.mk A740
                                  clear A740
                                  by_cases c75 : t146 = 1
                                  · rw [if_pos c75] at H
                                    have c75b0 : (t146 == 1) = true := beq_iff_eq.mpr c75
                                    have c75b1 : (t146 != 1) = false := bne_eq_false_iff_eq.mpr c75
                                    clear c75
                                    obtain rfl := Option.some.inj H
                                    go_wp2_with (first | ((with_reducible refine gate_callee (f := 8) rfl ?_); refine goesL_ (some 122) rfl rfl Try.func8 (by kernel_rfl) rfl #[.slice A2 l2.length c2, .int .i64 t146] rfl (by (try simp only [List.map_toArray, List.map_cons, List.map_nil]); first | done | rfl | (simp only [List.length_drop, List.length_take]; rfl)) ?_; (with_reducible refine (limit_Rounds.calls kj57 _ _ l2 t146 t149 true _ ?side1 ?side2 A66.out).mono ?_); (case side1 => repeat (first | exact (Kd.C_below HR2.out HB.out) | (with_reducible refine Kd.C_alloc ?_ _) | (with_reducible refine Kd.C_drewN ?_ _) | (with_reducible refine Kd.C_drew ?_))); (case side2 => exact HC2.out); rintro e w76 ⟨rfl, hb⟩; refine ⟨_, rfl, ?_⟩; have n0_ := Aside0.mk (below_step (by repeat (first | (with_reducible first | exact HB.out | apply below_alloc | apply pw_below_drewN | apply below_drew1) | exact HB.out)) hb); clear HB; have HB := n0_; clear n0_; (try clear hb); (try clear hb2); (try clear hk); (try clear hi)) | ((with_reducible refine gate_callee (f := 8) rfl ?_); refine goesL_ (some 144) rfl rfl Try.func8 (by kernel_rfl) rfl #[.slice A2 l2.length c2, .int .i64 (wrap64 (t146 - 1))] rfl (by (try simp only [List.map_toArray, List.map_cons, List.map_nil]); first | done | rfl | (simp only [List.length_drop, List.length_take]; rfl)) ?_; (with_reducible refine (limit_Rounds.calls kj57 _ _ l2 (wrap64 (t146 - 1)) t151 t152 _ ?side1 ?side2 A74.out).mono ?_); (case side1 => repeat (first | exact (Kd.C_below HR2.out HB.out) | (with_reducible refine Kd.C_alloc ?_ _) | (with_reducible refine Kd.C_drewN ?_ _) | (with_reducible refine Kd.C_drew ?_))); (case side2 => exact HC2.out); rintro e w77 ⟨rfl, hb⟩; refine ⟨_, rfl, ?_⟩; have n0_ := Aside0.mk (below_step (by repeat (first | (with_reducible first | exact HB.out | apply below_alloc | apply pw_below_drewN | apply below_drew1) | exact HB.out)) hb); clear HB; have HB := n0_; clear n0_; (try clear hb); (try clear hb2); (try clear hk); (try clear hi)))
                                    go_ret
                                    exact ⟨by first | rfl | (simp [errW_none, errW_some] <;> rfl) | (simp [*, errW_none, errW_some] <;> rfl), by repeat (first | (with_reducible first | exact HB.out | apply below_alloc | apply pw_below_drewN | apply below_drew1) | exact HB.out)⟩
                                  · rw [if_neg c75] at H
                                    have c75b0 : (t146 == 1) = false := beq_eq_false_iff_ne.mpr c75
                                    have c75b1 : (t146 != 1) = true := bne_iff_ne.mpr c75
                                    by_cases c78 : t152 = true
                                    · subst c78
                                      have H1 : (some (decide (t151 > a3))) = some r := by rw [if_pos rfl] at H; exact H
                                      clear H
                                      have H := H1
                                      clear H1
                                      obtain rfl := Option.some.inj H
                                      go_wp2_with (first | ((with_reducible refine gate_callee (f := 8) rfl ?_); refine goesL_ (some 122) rfl rfl Try.func8 (by kernel_rfl) rfl #[.slice A2 l2.length c2, .int .i64 t146] rfl (by (try simp only [List.map_toArray, List.map_cons, List.map_nil]); first | done | rfl | (simp only [List.length_drop, List.length_take]; rfl)) ?_; (with_reducible refine (limit_Rounds.calls kj57 _ _ l2 t146 t149 true _ ?side1 ?side2 A66.out).mono ?_); (case side1 => repeat (first | exact (Kd.C_below HR2.out HB.out) | (with_reducible refine Kd.C_alloc ?_ _) | (with_reducible refine Kd.C_drewN ?_ _) | (with_reducible refine Kd.C_drew ?_))); (case side2 => exact HC2.out); rintro e w79 ⟨rfl, hb⟩; refine ⟨_, rfl, ?_⟩; have n0_ := Aside0.mk (below_step (by repeat (first | (with_reducible first | exact HB.out | apply below_alloc | apply pw_below_drewN | apply below_drew1) | exact HB.out)) hb); clear HB; have HB := n0_; clear n0_; (try clear hb); (try clear hb2); (try clear hk); (try clear hi)) | ((with_reducible refine gate_callee (f := 8) rfl ?_); refine goesL_ (some 144) rfl rfl Try.func8 (by kernel_rfl) rfl #[.slice A2 l2.length c2, .int .i64 (wrap64 (t146 - 1))] rfl (by (try simp only [List.map_toArray, List.map_cons, List.map_nil]); first | done | rfl | (simp only [List.length_drop, List.length_take]; rfl)) ?_; (with_reducible refine (limit_Rounds.calls kj57 _ _ l2 (wrap64 (t146 - 1)) t151 true _ ?side1 ?side2 A74.out).mono ?_); (case side1 => repeat (first | exact (Kd.C_below HR2.out HB.out) | (with_reducible refine Kd.C_alloc ?_ _) | (with_reducible refine Kd.C_drewN ?_ _) | (with_reducible refine Kd.C_drew ?_))); (case side2 => exact HC2.out); rintro e w80 ⟨rfl, hb⟩; refine ⟨_, rfl, ?_⟩; have n0_ := Aside0.mk (below_step (by repeat (first | (with_reducible first | exact HB.out | apply below_alloc | apply pw_below_drewN | apply below_drew1) | exact HB.out)) hb); clear HB; have HB := n0_; clear n0_; (try clear hb); (try clear hb2); (try clear hk); (try clear hi)))
                                      go_ret
                                      exact ⟨by first | rfl | (simp [errW_none, errW_some] <;> rfl) | (simp [*, errW_none, errW_some] <;> rfl), by repeat (first | (with_reducible first | exact HB.out | apply below_alloc | apply pw_below_drewN | apply below_drew1) | exact HB.out)⟩
                                    · replace c78 := Bool.eq_false_iff.mpr c78
                                      subst c78
                                      have H1 : (some true) = some r := by rw [if_neg (show ¬ (false = true) by decide)] at H; exact H
                                      clear H
                                      have H := H1
                                      clear H1
                                      obtain rfl := Option.some.inj H
                                      go_wp2_with (first | ((with_reducible refine gate_callee (f := 8) rfl ?_); refine goesL_ (some 122) rfl rfl Try.func8 (by kernel_rfl) rfl #[.slice A2 l2.length c2, .int .i64 t146] rfl (by (try simp only [List.map_toArray, List.map_cons, List.map_nil]); first | done | rfl | (simp only [List.length_drop, List.length_take]; rfl)) ?_; (with_reducible refine (limit_Rounds.calls kj57 _ _ l2 t146 t149 true _ ?side1 ?side2 A66.out).mono ?_); (case side1 => repeat (first | exact (Kd.C_below HR2.out HB.out) | (with_reducible refine Kd.C_alloc ?_ _) | (with_reducible refine Kd.C_drewN ?_ _) | (with_reducible refine Kd.C_drew ?_))); (case side2 => exact HC2.out); rintro e w81 ⟨rfl, hb⟩; refine ⟨_, rfl, ?_⟩; have n0_ := Aside0.mk (below_step (by repeat (first | (with_reducible first | exact HB.out | apply below_alloc | apply pw_below_drewN | apply below_drew1) | exact HB.out)) hb); clear HB; have HB := n0_; clear n0_; (try clear hb); (try clear hb2); (try clear hk); (try clear hi)) | ((with_reducible refine gate_callee (f := 8) rfl ?_); refine goesL_ (some 144) rfl rfl Try.func8 (by kernel_rfl) rfl #[.slice A2 l2.length c2, .int .i64 (wrap64 (t146 - 1))] rfl (by (try simp only [List.map_toArray, List.map_cons, List.map_nil]); first | done | rfl | (simp only [List.length_drop, List.length_take]; rfl)) ?_; (with_reducible refine (limit_Rounds.calls kj57 _ _ l2 (wrap64 (t146 - 1)) t151 false _ ?side1 ?side2 A74.out).mono ?_); (case side1 => repeat (first | exact (Kd.C_below HR2.out HB.out) | (with_reducible refine Kd.C_alloc ?_ _) | (with_reducible refine Kd.C_drewN ?_ _) | (with_reducible refine Kd.C_drew ?_))); (case side2 => exact HC2.out); rintro e w82 ⟨rfl, hb⟩; refine ⟨_, rfl, ?_⟩; have n0_ := Aside0.mk (below_step (by repeat (first | (with_reducible first | exact HB.out | apply below_alloc | apply pw_below_drewN | apply below_drew1) | exact HB.out)) hb); clear HB; have HB := n0_; clear n0_; (try clear hb); (try clear hb2); (try clear hk); (try clear hi)))
                                      go_ret
                                      exact ⟨by first | rfl | (simp [errW_none, errW_some] <;> rfl) | (simp [*, errW_none, errW_some] <;> rfl), by repeat (first | (with_reducible first | exact HB.out | apply below_alloc | apply pw_below_drewN | apply below_drew1) | exact HB.out)⟩
                          · replace c67 := Bool.eq_false_iff.mpr c67
                            subst c67
                            have H1 : (some false) = some r := by rw [if_neg (show ¬ (false = true) by decide)] at H; exact H
                            clear H
                            have H := H1
                            clear H1
                            obtain rfl := Option.some.inj H
                            go_wp2_with (first | ((with_reducible refine gate_callee (f := 8) rfl ?_); refine goesL_ (some 122) rfl rfl Try.func8 (by kernel_rfl) rfl #[.slice A2 l2.length c2, .int .i64 t146] rfl (by (try simp only [List.map_toArray, List.map_cons, List.map_nil]); first | done | rfl | (simp only [List.length_drop, List.length_take]; rfl)) ?_; (with_reducible refine (limit_Rounds.calls kj57 _ _ l2 t146 t149 false _ ?side1 ?side2 A66.out).mono ?_); (case side1 => repeat (first | exact (Kd.C_below HR2.out HB.out) | (with_reducible refine Kd.C_alloc ?_ _) | (with_reducible refine Kd.C_drewN ?_ _) | (with_reducible refine Kd.C_drew ?_))); (case side2 => exact HC2.out); rintro e w83 ⟨rfl, hb⟩; refine ⟨_, rfl, ?_⟩; have n0_ := Aside0.mk (below_step (by repeat (first | (with_reducible first | exact HB.out | apply below_alloc | apply pw_below_drewN | apply below_drew1) | exact HB.out)) hb); clear HB; have HB := n0_; clear n0_; (try clear hb); (try clear hb2); (try clear hk); (try clear hi)))
                            go_ret
                            exact ⟨by first | rfl | (simp [errW_none, errW_some] <;> rfl) | (simp [*, errW_none, errW_some] <;> rfl), by repeat (first | (with_reducible first | exact HB.out | apply below_alloc | apply pw_below_drewN | apply below_drew1) | exact HB.out)⟩
                        · replace c65 := Bool.eq_false_iff.mpr c65
                          subst c65
                          have H1 : (some true) = some r := by rw [if_neg (show ¬ (false = true) by decide)] at H; exact H
                          clear H
                          have H := H1
                          clear H1
                          obtain rfl := Option.some.inj H
                          go_wp2
                          go_ret
                          exact ⟨by first | rfl | (simp [errW_none, errW_some] <;> rfl) | (simp [*, errW_none, errW_some] <;> rfl), by repeat (first | (with_reducible first | exact HB.out | apply below_alloc | apply pw_below_drewN | apply below_drew1) | exact HB.out)⟩
  · replace c6 := Bool.eq_false_iff.mpr c6
    subst c6
    have H1 : (some false) = some r := by rw [if_neg (show ¬ (false = true) by decide)] at H; exact H
    clear H
    have H := H1
    clear H1
    obtain rfl := Option.some.inj H
    go_enter Try.func6, Try.ntmps6
    go_wp2_with (first | ((with_reducible refine gate_callee (f := 7) rfl ?_); refine goesL_ (some 21) rfl rfl Try.func7 (by kernel_rfl) rfl #[] rfl (by (try simp only [List.map_toArray, List.map_cons, List.map_nil]); first | done | rfl | (simp only [List.length_drop, List.length_take]; rfl)) ?_; (with_reducible refine (saleroomlaw22_alive.calls  false _ A5.out).mono ?_); rintro e w84 ⟨rfl, hb⟩; refine ⟨_, rfl, ?_⟩; have n0_ := Aside0.mk (below_step (by repeat (first | (with_reducible first | exact HB.out | apply below_alloc | apply pw_below_drewN | apply below_drew1) | exact HB.out)) hb); clear HB; have HB := n0_; clear n0_; (try clear hb); (try clear hb2); (try clear hk); (try clear hi)))
    go_ret
    exact ⟨by first | rfl | (simp [errW_none, errW_some] <;> rfl) | (simp [*, errW_none, errW_some] <;> rfl), by repeat (first | (with_reducible first | exact HB.out | apply below_alloc | apply pw_below_drewN | apply below_drew1) | exact HB.out)⟩

end Go.Proofs.Ytmmingnkepifoaa.PAll22
