/- Some texts of one seat in one file, in build order. -/
import Derived.Test.YtbicngaanhmabaaG11
import Derived.Test.YtbicngaanhmabaaG12
import Derived.Test.YtbicngaanhmabaaG14
import Derived.Test.YtbicngaanhmabaaG15
-- PRINTED BY A CHANGED COPY OF THE PRINT (wip/tools/patch_print.py), over contracts by hand
namespace Go.Proofs.Ytbicngaanhmabaa.PAll9
open Go.RowKit Go.Proofs.YtbicngaanhmabaaW.PrintWords Go.Proofs.YtbicngaanhmabaaW.PrintLast Go.Proofs.YtbicngaanhmabaaW.PrintMore
attribute [local go_sem] max2_int min2_int max_two min_two max_three min_three max_four min_four   -- for this text's walks alone
set_option linter.unusedVariables false
set_option linter.unusedSimpArgs false

/-! ### saleroomlaw09_AtomValues: function 4 -/
mutual
def saleroomlaw09_AtomValues.j0 : Nat → List (S26) → List Int → Bool → Option (Bool)
  | 0, _, _, _ => none
  | k + 1, x0, x1, x19 => if x19 = true then (some true) else ((atom_Normal.f x0).bind fun t195 => ((atom_IsNormal.f k t195).bind fun t198 => (if t198 = true then (if (t195.length : Int) > (x0.length : Int) then (saleroomlaw09_AtomValues.j1 k x0 x1 t195 true) else ((atom_Normal.f t195).bind fun t199 => ((saleroomref09_Same.f k t199 t195).bind fun t202 => (if t202 = true then ((atom_Most.f t195).bind fun t203 => ((atom_Most.f x0).bind fun t204 => (saleroomlaw09_AtomValues.j1 k x0 x1 t195 (t203 != t204)))) else (saleroomlaw09_AtomValues.j1 k x0 x1 t195 true))))) else (saleroomlaw09_AtomValues.j1 k x0 x1 t195 true))))
def saleroomlaw09_AtomValues.j1 : Nat → List (S26) → List Int → List (S26) → Bool → Option (Bool)
  | 0, _, _, _, _ => none
  | k + 1, x0, x1, x5, x45 => if x45 = true then (some false) else (saleroomlaw09_AtomValues.l0 k x0 x5 x1 (x1.length : Int) 0)
def saleroomlaw09_AtomValues.l0 : Nat → List (S26) → List (S26) → List Int → Int → Int → Option (Bool)
  | 0, _, _, _, _, _ => none
  | k + 1, x0, x5, x46, x47, x48 => if x48 < x47 then (if 0 ≤ x48 then (if x48 < (x46.length : Int) then ((atom_Value.f x5 (rd x46 x48)).bind fun t206 => ((atom_Value.f x0 (rd x46 x48)).bind fun t207 => (if t206 = t207 then (saleroomlaw09_AtomValues.l0 k x0 x5 x46 x47 (wrap64 (x48 + 1))) else (some false)))) else (none)) else (none)) else (saleroomlaw09_AtomValues.l1 k x5 x5 (x5.length : Int) 0)
def saleroomlaw09_AtomValues.l1 : Nat → List (S26) → List (S26) → Int → Int → Option (Bool)
  | 0, _, _, _, _ => none
  | k + 1, x5, x60, x61, x62 => if x62 < x61 then (if 0 ≤ x62 then (if x62 < (x60.length : Int) then ((atom_Value.f x5 ((rd_T26 x60 x62).f0)).bind fun t210 => (if t210 = ((rd_T26 x60 x62).f1) then (saleroomlaw09_AtomValues.l1 k x5 x60 x61 (wrap64 (x62 + 1))) else (some false))) else (none)) else (none)) else (some true)
end
def saleroomlaw09_AtomValues.f (k : Nat) (l0 : List (S26)) (l1 : List Int) : Option (Bool) := (saleroomlaw09_alive.f).bind fun t194 => (if t194 = true then (if (l0.length : Int) > 80 then (saleroomlaw09_AtomValues.j0 k l0 l1 true) else (saleroomlaw09_AtomValues.j0 k l0 l1 (decide ((l1.length : Int) > 40)))) else (some false))
theorem saleroomlaw09_AtomValues.mono_l : ∀ k, (∀ y0 y1 y2, LeO (saleroomlaw09_AtomValues.j0 k y0 y1 y2) (saleroomlaw09_AtomValues.j0 (k + 1) y0 y1 y2)) ∧ (∀ y0 y1 y2 y3, LeO (saleroomlaw09_AtomValues.j1 k y0 y1 y2 y3) (saleroomlaw09_AtomValues.j1 (k + 1) y0 y1 y2 y3)) ∧ (∀ y0 y1 y2 y3 y4, LeO (saleroomlaw09_AtomValues.l0 k y0 y1 y2 y3 y4) (saleroomlaw09_AtomValues.l0 (k + 1) y0 y1 y2 y3 y4)) ∧ (∀ y0 y1 y2 y3, LeO (saleroomlaw09_AtomValues.l1 k y0 y1 y2 y3) (saleroomlaw09_AtomValues.l1 (k + 1) y0 y1 y2 y3))
  | 0 => ⟨fun _ _ _ r h => by simp [saleroomlaw09_AtomValues.j0] at h, fun _ _ _ _ r h => by simp [saleroomlaw09_AtomValues.j1] at h, fun _ _ _ _ _ r h => by simp [saleroomlaw09_AtomValues.l0] at h, fun _ _ _ _ r h => by simp [saleroomlaw09_AtomValues.l1] at h⟩
  | k + 1 => by
    obtain ⟨ih0, ih1, ih2, ih3⟩ := saleroomlaw09_AtomValues.mono_l k
    refine ⟨?_, ?_, ?_, ?_⟩
    · intro y0 y1 y2
      unfold saleroomlaw09_AtomValues.j0
      repeat' first
      | (with_reducible exact ih0 _ _ _)
      | (with_reducible exact ih1 _ _ _ _)
      | (with_reducible exact ih2 _ _ _ _ _)
      | (with_reducible exact ih3 _ _ _ _)
      | (with_reducible exact atom_IsNormal.mono _ _)
      | (with_reducible exact saleroomref09_Same.mono _ _ _)
      | (with_reducible exact LeO.refl _)
      | (with_reducible exact LeO.none _)
      | (with_reducible refine LeO.ite ?_ ?_)
      | (with_reducible refine LeO.bind ?_ (fun _ => ?_))
      | exact ih0 _ _ _
      | exact ih1 _ _ _ _
      | exact ih2 _ _ _ _ _
      | exact ih3 _ _ _ _
      | exact atom_IsNormal.mono _ _
      | exact saleroomref09_Same.mono _ _ _
      | exact LeO.none _
      | refine LeO.ite ?_ ?_
      | refine LeO.bind ?_ (fun _ => ?_)
    · intro y0 y1 y2 y3
      unfold saleroomlaw09_AtomValues.j1
      repeat' first
      | (with_reducible exact ih0 _ _ _)
      | (with_reducible exact ih1 _ _ _ _)
      | (with_reducible exact ih2 _ _ _ _ _)
      | (with_reducible exact ih3 _ _ _ _)
      | (with_reducible exact atom_IsNormal.mono _ _)
      | (with_reducible exact saleroomref09_Same.mono _ _ _)
      | (with_reducible exact LeO.refl _)
      | (with_reducible exact LeO.none _)
      | (with_reducible refine LeO.ite ?_ ?_)
      | (with_reducible refine LeO.bind ?_ (fun _ => ?_))
      | exact ih0 _ _ _
      | exact ih1 _ _ _ _
      | exact ih2 _ _ _ _ _
      | exact ih3 _ _ _ _
      | exact atom_IsNormal.mono _ _
      | exact saleroomref09_Same.mono _ _ _
      | exact LeO.none _
      | refine LeO.ite ?_ ?_
      | refine LeO.bind ?_ (fun _ => ?_)
    · intro y0 y1 y2 y3 y4
      unfold saleroomlaw09_AtomValues.l0
      repeat' first
      | (with_reducible exact ih0 _ _ _)
      | (with_reducible exact ih1 _ _ _ _)
      | (with_reducible exact ih2 _ _ _ _ _)
      | (with_reducible exact ih3 _ _ _ _)
      | (with_reducible exact atom_IsNormal.mono _ _)
      | (with_reducible exact saleroomref09_Same.mono _ _ _)
      | (with_reducible exact LeO.refl _)
      | (with_reducible exact LeO.none _)
      | (with_reducible refine LeO.ite ?_ ?_)
      | (with_reducible refine LeO.bind ?_ (fun _ => ?_))
      | exact ih0 _ _ _
      | exact ih1 _ _ _ _
      | exact ih2 _ _ _ _ _
      | exact ih3 _ _ _ _
      | exact atom_IsNormal.mono _ _
      | exact saleroomref09_Same.mono _ _ _
      | exact LeO.none _
      | refine LeO.ite ?_ ?_
      | refine LeO.bind ?_ (fun _ => ?_)
    · intro y0 y1 y2 y3
      unfold saleroomlaw09_AtomValues.l1
      repeat' first
      | (with_reducible exact ih0 _ _ _)
      | (with_reducible exact ih1 _ _ _ _)
      | (with_reducible exact ih2 _ _ _ _ _)
      | (with_reducible exact ih3 _ _ _ _)
      | (with_reducible exact atom_IsNormal.mono _ _)
      | (with_reducible exact saleroomref09_Same.mono _ _ _)
      | (with_reducible exact LeO.refl _)
      | (with_reducible exact LeO.none _)
      | (with_reducible refine LeO.ite ?_ ?_)
      | (with_reducible refine LeO.bind ?_ (fun _ => ?_))
      | exact ih0 _ _ _
      | exact ih1 _ _ _ _
      | exact ih2 _ _ _ _ _
      | exact ih3 _ _ _ _
      | exact atom_IsNormal.mono _ _
      | exact saleroomref09_Same.mono _ _ _
      | exact LeO.none _
      | refine LeO.ite ?_ ?_
      | refine LeO.bind ?_ (fun _ => ?_)
theorem saleroomlaw09_AtomValues.mono : ∀ a0 a1 k, LeO (saleroomlaw09_AtomValues.f k a0 a1) (saleroomlaw09_AtomValues.f (k + 1) a0 a1) := by
  intro a0 a1 k
  obtain ⟨ih0, ih1, ih2, ih3⟩ := saleroomlaw09_AtomValues.mono_l k
  unfold saleroomlaw09_AtomValues.f
  repeat' first
      | (with_reducible exact ih0 _ _ _)
      | (with_reducible exact ih1 _ _ _ _)
      | (with_reducible exact ih2 _ _ _ _ _)
      | (with_reducible exact ih3 _ _ _ _)
      | (with_reducible exact atom_IsNormal.mono _ _)
      | (with_reducible exact saleroomref09_Same.mono _ _ _)
      | (with_reducible exact LeO.refl _)
      | (with_reducible exact LeO.none _)
      | (with_reducible refine LeO.ite ?_ ?_)
      | (with_reducible refine LeO.bind ?_ (fun _ => ?_))
      | exact ih0 _ _ _
      | exact ih1 _ _ _ _
      | exact ih2 _ _ _ _ _
      | exact ih3 _ _ _ _
      | exact atom_IsNormal.mono _ _
      | exact saleroomref09_Same.mono _ _ _
      | exact LeO.none _
      | refine LeO.ite ?_ ?_
      | refine LeO.bind ?_ (fun _ => ?_)
set_option maxHeartbeats 8000000 in
set_option maxRecDepth 100000 in
theorem saleroomlaw09_AtomValues.calls (k : Nat) (A0 : Option Addr) (c0 : Nat) (l0 : List (S26)) (A1 : Option Addr) (c1 : Nat) (l1 : List Int) (r : Bool) (w : World) (hr0 : Kd.C k26 w A0 l0.length l0) (hc0 : l0.length ≤ c0) (hr1 : Kd.C (Kd.int .u64) w A1 l1.length l1) (hc1 : l1.length ≤ c1) (h : saleroomlaw09_AtomValues.f k l0 l1 = some r) :
    Calls Try.prog 4 #[.slice A0 l0.length c0, .slice A1 l1.length c1] w fun e w' => e = .returned (.bool r) ∧ Below w.heap.size w w' := by
  have hu26 := Try.underlying26
  have HR0 := Aside0.mk hr0
  have HC0 := Aside0.mk hc0
  clear hr0 hc0
  have HR1 := Aside0.mk hr1
  have HC1 := Aside0.mk hc1
  clear hr1 hc1
  have HB := Aside0.mk (Below.refl w.heap.size w)
  have H : ((saleroomlaw09_alive.f).bind fun t194 => (if t194 = true then (if (l0.length : Int) > 80 then (saleroomlaw09_AtomValues.j0 k l0 l1 true) else (saleroomlaw09_AtomValues.j0 k l0 l1 (decide ((l1.length : Int) > 40)))) else (some false))) = some r := h
  clear h
  replace H := Option.bind_eq_some_iff.mp H
  obtain ⟨t194, A30, H⟩ := H
  replace H : (if t194 = true then (if (l0.length : Int) > 80 then (saleroomlaw09_AtomValues.j0 k l0 l1 true) else (saleroomlaw09_AtomValues.j0 k l0 l1 (decide ((l1.length : Int) > 40)))) else (some false)) = some r := H
  have A3 := Aside0.mk A30
  clear A30
  by_cases c4 : t194 = true
  · subst c4
    have H1 : (if (l0.length : Int) > 80 then (saleroomlaw09_AtomValues.j0 k l0 l1 true) else (saleroomlaw09_AtomValues.j0 k l0 l1 (decide ((l1.length : Int) > 40)))) = some r := by rw [if_pos rfl] at H; exact H
    clear H
    have H := H1
    clear H1
    have HC5 := Aside0.mk H
    clear H
    go_enter Try.func4, Try.ntmps4
    go_upto_region 3 with (first | ((with_reducible refine gate_callee (f := 7) rfl ?_); refine goesL_ (some 10) rfl rfl Try.func7 (by kernel_rfl) rfl #[] rfl (by (try simp only [List.map_toArray, List.map_cons, List.map_nil]); first | done | rfl | (simp only [List.length_drop, List.length_take]; rfl)) ?_; (with_reducible refine (saleroomlaw09_alive.calls  true _ A3.out).mono ?_); rintro e w6 ⟨rfl, hb⟩; refine ⟨_, rfl, ?_⟩; have n0_ := Aside0.mk (below_step (by repeat (first | (with_reducible first | exact HB.out | apply below_alloc | apply pw_below_drewN | apply below_drew1) | exact HB.out)) hb); clear HB; have HB := n0_; clear n0_; (try clear hb); (try clear hb2); (try clear hk); (try clear hi)))
    (try simp only [Act.put, List.setIfInBounds_toArray, List.set_cons_zero, List.set_cons_succ])
    go_cut [19] (fun v19 wc => ∃ (kq : Nat) (x19_4 : Bool), v19 = .bool x19_4 ∧ Aside0 (saleroomlaw09_AtomValues.j0 kq l0 l1 x19_4 = some r) ∧ Aside0 (kq ≤ k) ∧ Aside0 (Below w.heap.size w wc))
    case first =>
      have H := HC5.out
      clear HC5
      by_cases c7 : (l0.length : Int) > 80
      · rw [if_pos c7] at H
        have c7b0 : decide (80 < (l0.length : Int)) = true := decide_eq_true c7
        have c7b1 : decide (80 < l0.length) = true := decide_eq_true (by omega)
        clear c7
        (first | rw [c7b0] | (simp only [i64_w, i32_w]; rw [c7b0]) | skip)
        have H' := Aside0.mk H
        clear H
        go_wp2
        go_meet
        case rel => exact ⟨_, (true), (by first | rfl | (simp; done) | (simp [*]; done)), H', ⟨by first | omega | exact Nat.le_refl _⟩, ⟨by repeat (first | (with_reducible first | exact HB.out | apply below_alloc | apply pw_below_drewN | apply below_drew1) | exact HB.out)⟩⟩
      · rw [if_neg c7] at H
        have c7b0 : decide (80 < (l0.length : Int)) = false := decide_eq_false c7
        have c7b1 : decide (80 < l0.length) = false := decide_eq_false (by omega)
        clear c7
        (first | rw [c7b0] | (simp only [i64_w, i32_w]; rw [c7b0]) | skip)
        have H' := Aside0.mk H
        clear H
        go_wp2
        go_meet
        case rel => exact ⟨_, (decide ((l1.length : Int) > 40)), (by first | rfl | (simp; done) | (simp [*]; done)), H', ⟨by first | omega | exact Nat.le_refl _⟩, ⟨by repeat (first | (with_reducible first | exact HB.out | apply below_alloc | apply pw_below_drewN | apply below_drew1) | exact HB.out)⟩⟩
    case rest =>
      clear HC5
      try clear c1
      try clear p2
      try clear c4
      try clear c7
      try clear c7b0
      try clear c7b1
      obtain ⟨kq, x19_4, rfl, HA, HJ4, HB⟩ := hcut
      cases kq with
      | zero => exact absurd HA.out (by simp [saleroomlaw09_AtomValues.j0])
      | succ kj4 =>
        have H := HA.out
        clear HA
        simp only [saleroomlaw09_AtomValues.j0] at H
        by_cases c8 : x19_4 = true
        · subst c8
          have H1 : (some true) = some r := by rw [if_pos rfl] at H; exact H
          clear H
          have H := H1
          clear H1
          obtain rfl := Option.some.inj H
          go_wp2
          go_ret
          exact ⟨by first | rfl | (simp [errW_none, errW_some] <;> rfl) | (simp [*, errW_none, errW_some] <;> rfl), by repeat (first | (with_reducible first | exact HB.out | apply below_alloc | apply pw_below_drewN | apply below_drew1) | exact HB.out)⟩
        · replace c8 := Bool.eq_false_iff.mpr c8
          subst c8
          have H1 : ((atom_Normal.f l0).bind fun t195 => ((atom_IsNormal.f kj4 t195).bind fun t198 => (if t198 = true then (if (t195.length : Int) > (l0.length : Int) then (saleroomlaw09_AtomValues.j1 kj4 l0 l1 t195 true) else ((atom_Normal.f t195).bind fun t199 => ((saleroomref09_Same.f kj4 t199 t195).bind fun t202 => (if t202 = true then ((atom_Most.f t195).bind fun t203 => ((atom_Most.f l0).bind fun t204 => (saleroomlaw09_AtomValues.j1 kj4 l0 l1 t195 (t203 != t204)))) else (saleroomlaw09_AtomValues.j1 kj4 l0 l1 t195 true))))) else (saleroomlaw09_AtomValues.j1 kj4 l0 l1 t195 true)))) = some r := by rw [if_neg (show ¬ (false = true) by decide)] at H; exact H
          clear H
          have H := H1
          clear H1
          replace H := Option.bind_eq_some_iff.mp H
          obtain ⟨t195, A90, H⟩ := H
          replace H : ((atom_IsNormal.f kj4 t195).bind fun t198 => (if t198 = true then (if (t195.length : Int) > (l0.length : Int) then (saleroomlaw09_AtomValues.j1 kj4 l0 l1 t195 true) else ((atom_Normal.f t195).bind fun t199 => ((saleroomref09_Same.f kj4 t199 t195).bind fun t202 => (if t202 = true then ((atom_Most.f t195).bind fun t203 => ((atom_Most.f l0).bind fun t204 => (saleroomlaw09_AtomValues.j1 kj4 l0 l1 t195 (t203 != t204)))) else (saleroomlaw09_AtomValues.j1 kj4 l0 l1 t195 true))))) else (saleroomlaw09_AtomValues.j1 kj4 l0 l1 t195 true))) = some r := H
          have A9 := Aside0.mk A90
          clear A90
          have HC10 := Aside0.mk H
          clear H
          go_upto_region 6 with (first | ((with_reducible refine gate_callee (f := 12) rfl ?_); refine goesL_ (some 21) rfl rfl Try.func12 (by kernel_rfl) rfl #[.slice A0 l0.length c0] rfl (by (try simp only [List.map_toArray, List.map_cons, List.map_nil]); first | done | rfl | (simp only [List.length_drop, List.length_take]; rfl)) ?_; (with_reducible refine (atom_Normal.calls _ _ l0 t195 _ ?side1 ?side2 A9.out).mono ?_); (case side1 => repeat (first | exact (Kd.C_below HR0.out HB.out) | (with_reducible refine Kd.C_alloc ?_ _) | (with_reducible refine Kd.C_drewN ?_ _) | (with_reducible refine Kd.C_drew ?_))); (case side2 => exact HC0.out); rintro e w11 ⟨v196, rfl, ho0, hb⟩; refine ⟨_, rfl, ?_⟩; have n0_ := Aside0.mk (Kd.R_lower ho0 (below_size (by repeat (first | (with_reducible first | exact HB.out | apply below_alloc | apply pw_below_drewN | apply below_drew1) | exact HB.out)))); have n1_ := Aside0.mk (below_step (by repeat (first | (with_reducible first | exact HB.out | apply below_alloc | apply pw_below_drewN | apply below_drew1) | exact HB.out)) hb); clear HB; have HO197 := n0_; have HB := n1_; clear n0_ n1_; (try clear hb); (try clear hb2); (try clear hk); (try clear hi); (try clear ho0)))
          (try simp only [Act.put, List.setIfInBounds_toArray, List.set_cons_zero, List.set_cons_succ])
          go_cut [45] (fun v45 wc => ∃ (kq : Nat) (x45_9 : Bool), v45 = .bool x45_9 ∧ Aside0 (saleroomlaw09_AtomValues.j1 kq l0 l1 t195 x45_9 = some r) ∧ Aside0 (kq ≤ kj4) ∧ Aside0 (Kd.R k26 26 wc w.heap.size (fun _ => True) v196 t195) ∧ Aside0 (Below w.heap.size w wc))
          case first =>
            have H := HC10.out
            clear HC10
            replace H := Option.bind_eq_some_iff.mp H
            obtain ⟨t198, A120, H⟩ := H
            replace H : (if t198 = true then (if (t195.length : Int) > (l0.length : Int) then (saleroomlaw09_AtomValues.j1 kj4 l0 l1 t195 true) else ((atom_Normal.f t195).bind fun t199 => ((saleroomref09_Same.f kj4 t199 t195).bind fun t202 => (if t202 = true then ((atom_Most.f t195).bind fun t203 => ((atom_Most.f l0).bind fun t204 => (saleroomlaw09_AtomValues.j1 kj4 l0 l1 t195 (t203 != t204)))) else (saleroomlaw09_AtomValues.j1 kj4 l0 l1 t195 true))))) else (saleroomlaw09_AtomValues.j1 kj4 l0 l1 t195 true)) = some r := H
            have A12 := Aside0.mk A120
            clear A120
            by_cases c13 : t198 = true
            · subst c13
              have H1 : (if (t195.length : Int) > (l0.length : Int) then (saleroomlaw09_AtomValues.j1 kj4 l0 l1 t195 true) else ((atom_Normal.f t195).bind fun t199 => ((saleroomref09_Same.f kj4 t199 t195).bind fun t202 => (if t202 = true then ((atom_Most.f t195).bind fun t203 => ((atom_Most.f l0).bind fun t204 => (saleroomlaw09_AtomValues.j1 kj4 l0 l1 t195 (t203 != t204)))) else (saleroomlaw09_AtomValues.j1 kj4 l0 l1 t195 true))))) = some r := by rw [if_pos rfl] at H; exact H
              clear H
              have H := H1
              clear H1
              by_cases c14 : (t195.length : Int) > (l0.length : Int)
              · rw [if_pos c14] at H
                have c14b0 : decide ((l0.length : Int) < (t195.length : Int)) = true := decide_eq_true c14
                have c14b1 : decide (l0.length < t195.length) = true := decide_eq_true (Int.ofNat_lt.mp c14)
                clear c14
                (first | rw [c14b0] | (simp only [i64_w, i32_w]; rw [c14b0]) | skip)
                have H' := Aside0.mk H
                clear H
                obtain ⟨Ao15, co15, eo15⟩ := Kd.R_slice HO197.out
                subst eo15
                go_wp2_with (first | ((with_reducible refine gate_callee (f := 13) rfl ?_); refine goesL_ (some 23) rfl rfl Try.func13 (by kernel_rfl) rfl #[.slice Ao15 t195.length co15] rfl (by (try simp only [List.map_toArray, List.map_cons, List.map_nil]); first | done | rfl | (simp only [List.length_drop, List.length_take]; rfl)) ?_; (with_reducible refine (atom_IsNormal.calls kj4 _ _ t195 true _ ?side1 ?side2 A12.out).mono ?_); (case side1 => repeat (first | exact (Kd.R_reads' HO197.out).2.2 | (with_reducible refine Kd.C_alloc ?_ _) | (with_reducible refine Kd.C_drewN ?_ _) | (with_reducible refine Kd.C_drew ?_))); (case side2 => exact (Kd.R_reads' HO197.out).2.1); rintro e w16 ⟨rfl, hb⟩; refine ⟨_, rfl, ?_⟩; have n0_ := Aside0.mk (Kd.R_below (by (with_reducible repeat (first | apply Kd.R_alloc | apply Kd.R_drewN | apply Kd.R_drew)); exact HO197.out) hb); have n1_ := Aside0.mk (below_step (by repeat (first | (with_reducible first | exact HB.out | apply below_alloc | apply pw_below_drewN | apply below_drew1) | exact HB.out)) hb); clear HO197; clear HB; have HO197 := n0_; have HB := n1_; clear n0_ n1_; (try clear hb); (try clear hb2); (try clear hk); (try clear hi)))
                go_meet
                case rel => exact ⟨_, (true), (by first | rfl | (simp; done) | (simp [*]; done)), H', ⟨by have := HJ4.out; first | omega | exact Nat.le_refl _⟩, ⟨by (with_reducible repeat (first | apply Kd.R_alloc | apply Kd.R_drewN | apply Kd.R_drew)); exact HO197.out⟩, ⟨by repeat (first | (with_reducible first | exact HB.out | apply below_alloc | apply pw_below_drewN | apply below_drew1) | exact HB.out)⟩⟩
              · rw [if_neg c14] at H
                have c14b0 : decide ((l0.length : Int) < (t195.length : Int)) = false := decide_eq_false c14
                have c14b1 : decide (l0.length < t195.length) = false := decide_eq_false (fun h => c14 (Int.ofNat_lt.mpr h))
                clear c14
                (first | rw [c14b0] | (simp only [i64_w, i32_w]; rw [c14b0]) | skip)
                replace H := Option.bind_eq_some_iff.mp H
                obtain ⟨t199, A170, H⟩ := H
                replace H : ((saleroomref09_Same.f kj4 t199 t195).bind fun t202 => (if t202 = true then ((atom_Most.f t195).bind fun t203 => ((atom_Most.f l0).bind fun t204 => (saleroomlaw09_AtomValues.j1 kj4 l0 l1 t195 (t203 != t204)))) else (saleroomlaw09_AtomValues.j1 kj4 l0 l1 t195 true))) = some r := H
                have A17 := Aside0.mk A170
                clear A170
                replace H := Option.bind_eq_some_iff.mp H
                obtain ⟨t202, A180, H⟩ := H
                replace H : (if t202 = true then ((atom_Most.f t195).bind fun t203 => ((atom_Most.f l0).bind fun t204 => (saleroomlaw09_AtomValues.j1 kj4 l0 l1 t195 (t203 != t204)))) else (saleroomlaw09_AtomValues.j1 kj4 l0 l1 t195 true)) = some r := H
                have A18 := Aside0.mk A180
                clear A180
                by_cases c19 : t202 = true
                · subst c19
                  have H1 : ((atom_Most.f t195).bind fun t203 => ((atom_Most.f l0).bind fun t204 => (saleroomlaw09_AtomValues.j1 kj4 l0 l1 t195 (t203 != t204)))) = some r := by rw [if_pos rfl] at H; exact H
                  clear H
                  have H := H1
                  clear H1
                  replace H := Option.bind_eq_some_iff.mp H
                  obtain ⟨t203, A200, H⟩ := H
                  replace H : ((atom_Most.f l0).bind fun t204 => (saleroomlaw09_AtomValues.j1 kj4 l0 l1 t195 (t203 != t204))) = some r := H
                  have A20 := Aside0.mk A200
                  clear A200
                  replace H := Option.bind_eq_some_iff.mp H
                  obtain ⟨t204, A210, H⟩ := H
                  replace H : (saleroomlaw09_AtomValues.j1 kj4 l0 l1 t195 (t203 != t204)) = some r := H
                  have A21 := Aside0.mk A210
                  clear A210
                  have H' := Aside0.mk H
                  clear H
                  obtain ⟨Ao22, co22, eo22⟩ := Kd.R_slice HO197.out
                  subst eo22
                  go_wp2_with (first | ((with_reducible refine gate_callee (f := 13) rfl ?_); refine goesL_ (some 23) rfl rfl Try.func13 (by kernel_rfl) rfl #[.slice Ao22 t195.length co22] rfl (by (try simp only [List.map_toArray, List.map_cons, List.map_nil]); first | done | rfl | (simp only [List.length_drop, List.length_take]; rfl)) ?_; (with_reducible refine (atom_IsNormal.calls kj4 _ _ t195 true _ ?side1 ?side2 A12.out).mono ?_); (case side1 => repeat (first | exact (Kd.R_reads' HO197.out).2.2 | (with_reducible refine Kd.C_alloc ?_ _) | (with_reducible refine Kd.C_drewN ?_ _) | (with_reducible refine Kd.C_drew ?_))); (case side2 => exact (Kd.R_reads' HO197.out).2.1); rintro e w23 ⟨rfl, hb⟩; refine ⟨_, rfl, ?_⟩; have n0_ := Aside0.mk (Kd.R_below (by (with_reducible repeat (first | apply Kd.R_alloc | apply Kd.R_drewN | apply Kd.R_drew)); exact HO197.out) hb); have n1_ := Aside0.mk (below_step (by repeat (first | (with_reducible first | exact HB.out | apply below_alloc | apply pw_below_drewN | apply below_drew1) | exact HB.out)) hb); clear HO197; clear HB; have HO197 := n0_; have HB := n1_; clear n0_ n1_; (try clear hb); (try clear hb2); (try clear hk); (try clear hi)) | (go_at_call 12; (with_reducible refine (atom_Normal.calls _ _ t195 t199 _ ?side1 ?side2 A17.out).mono ?_); (case side1 => repeat (first | exact (Kd.R_reads' HO197.out).2.2 | (with_reducible refine Kd.C_alloc ?_ _) | (with_reducible refine Kd.C_drewN ?_ _) | (with_reducible refine Kd.C_drew ?_))); (case side2 => exact (Kd.R_reads' HO197.out).2.1); rintro e w24 ⟨v200, rfl, ho0, hb⟩; have n0_ := Aside0.mk (Kd.R_elder' (by (with_reducible repeat (first | apply Kd.R_alloc | apply Kd.R_drewN | apply Kd.R_drew)); exact HO197.out) (Kd.R_base ho0) hb); have n1_ := Aside0.mk (Kd.R_lower (Kd.R_new' ho0 (Kd.R_lt (by (with_reducible repeat (first | apply Kd.R_alloc | apply Kd.R_drewN | apply Kd.R_drew)); exact HO197.out))) (below_size (by repeat (first | (with_reducible first | exact HB.out | apply below_alloc | apply pw_below_drewN | apply below_drew1) | exact HB.out)))); have n2_ := Aside0.mk (below_step (by repeat (first | (with_reducible first | exact HB.out | apply below_alloc | apply pw_below_drewN | apply below_drew1) | exact HB.out)) hb); clear HO197; clear HB; have HO197 := n0_; have HO201 := n1_; have HB := n2_; clear n0_ n1_ n2_; (try clear hb); (try clear hb2); (try clear hk); (try clear hi); (try clear ho0); obtain ⟨Ao25, co25, eo25⟩ := Kd.R_slice HO201.out; subst eo25) | (go_at_call 11; (with_reducible refine (saleroomref09_Same.calls kj4 _ _ t199 _ _ t195 true _ ?side1 ?side2 ?side3 ?side4 A18.out).mono ?_); (case side1 => repeat (first | exact (Kd.R_reads' HO201.out).2.2 | (with_reducible refine Kd.C_alloc ?_ _) | (with_reducible refine Kd.C_drewN ?_ _) | (with_reducible refine Kd.C_drew ?_))); (case side2 => exact (Kd.R_reads' HO201.out).2.1); (case side3 => repeat (first | exact (Kd.R_reads' HO197.out).2.2 | (with_reducible refine Kd.C_alloc ?_ _) | (with_reducible refine Kd.C_drewN ?_ _) | (with_reducible refine Kd.C_drew ?_))); (case side4 => exact (Kd.R_reads' HO197.out).2.1); rintro e w' ⟨rfl, ⟨nd, rfl⟩⟩) | (go_at_call 18; (with_reducible refine (atom_Most.calls _ _ t195 t203 _ ?side1 ?side2 A20.out).mono ?_); (case side1 => repeat (first | exact (Kd.R_reads' HO197.out).2.2 | (with_reducible refine Kd.C_alloc ?_ _) | (with_reducible refine Kd.C_drewN ?_ _) | (with_reducible refine Kd.C_drew ?_))); (case side2 => exact (Kd.R_reads' HO197.out).2.1); rintro e w26 ⟨rfl, hb⟩; have n0_ := Aside0.mk (Kd.R_below (by (with_reducible repeat (first | apply Kd.R_alloc | apply Kd.R_drewN | apply Kd.R_drew)); exact HO197.out) hb); have n1_ := Aside0.mk (Kd.R_below (by (with_reducible repeat (first | apply Kd.R_alloc | apply Kd.R_drewN | apply Kd.R_drew)); exact HO201.out) hb); have n2_ := Aside0.mk (below_step (by repeat (first | (with_reducible first | exact HB.out | apply below_alloc | apply pw_below_drewN | apply below_drew1) | exact HB.out)) hb); clear HO197; clear HO201; clear HB; have HO197 := n0_; have HO201 := n1_; have HB := n2_; clear n0_ n1_ n2_; (try clear hb); (try clear hb2); (try clear hk); (try clear hi)) | (go_at_call 18; (with_reducible refine (atom_Most.calls _ _ l0 t204 _ ?side1 ?side2 A21.out).mono ?_); (case side1 => repeat (first | exact (Kd.C_below HR0.out HB.out) | (with_reducible refine Kd.C_alloc ?_ _) | (with_reducible refine Kd.C_drewN ?_ _) | (with_reducible refine Kd.C_drew ?_))); (case side2 => exact HC0.out); rintro e w27 ⟨rfl, hb⟩; have n0_ := Aside0.mk (Kd.R_below (by (with_reducible repeat (first | apply Kd.R_alloc | apply Kd.R_drewN | apply Kd.R_drew)); exact HO197.out) hb); have n1_ := Aside0.mk (Kd.R_below (by (with_reducible repeat (first | apply Kd.R_alloc | apply Kd.R_drewN | apply Kd.R_drew)); exact HO201.out) hb); have n2_ := Aside0.mk (below_step (by repeat (first | (with_reducible first | exact HB.out | apply below_alloc | apply pw_below_drewN | apply below_drew1) | exact HB.out)) hb); clear HO197; clear HO201; clear HB; have HO197 := n0_; have HO201 := n1_; have HB := n2_; clear n0_ n1_ n2_; (try clear hb); (try clear hb2); (try clear hk); (try clear hi)))
                  go_meet
                  case rel => exact ⟨_, ((t203 != t204)), (by first | rfl | (simp; done) | (simp [*]; done)), H', ⟨by have := HJ4.out; first | omega | exact Nat.le_refl _⟩, ⟨by (with_reducible repeat (first | apply Kd.R_alloc | apply Kd.R_drewN | apply Kd.R_drew)); exact Kd.R_mono HO197.out (fun _ hk => trivial)⟩, ⟨by repeat (first | (with_reducible first | exact HB.out | apply below_alloc | apply pw_below_drewN | apply below_drew1) | exact HB.out)⟩⟩
                · replace c19 := Bool.eq_false_iff.mpr c19
                  subst c19
                  have H1 : (saleroomlaw09_AtomValues.j1 kj4 l0 l1 t195 true) = some r := by rw [if_neg (show ¬ (false = true) by decide)] at H; exact H
                  clear H
                  have H := H1
                  clear H1
                  have H' := Aside0.mk H
                  clear H
                  obtain ⟨Ao28, co28, eo28⟩ := Kd.R_slice HO197.out
                  subst eo28
                  go_wp2_with (first | ((with_reducible refine gate_callee (f := 13) rfl ?_); refine goesL_ (some 23) rfl rfl Try.func13 (by kernel_rfl) rfl #[.slice Ao28 t195.length co28] rfl (by (try simp only [List.map_toArray, List.map_cons, List.map_nil]); first | done | rfl | (simp only [List.length_drop, List.length_take]; rfl)) ?_; (with_reducible refine (atom_IsNormal.calls kj4 _ _ t195 true _ ?side1 ?side2 A12.out).mono ?_); (case side1 => repeat (first | exact (Kd.R_reads' HO197.out).2.2 | (with_reducible refine Kd.C_alloc ?_ _) | (with_reducible refine Kd.C_drewN ?_ _) | (with_reducible refine Kd.C_drew ?_))); (case side2 => exact (Kd.R_reads' HO197.out).2.1); rintro e w29 ⟨rfl, hb⟩; refine ⟨_, rfl, ?_⟩; have n0_ := Aside0.mk (Kd.R_below (by (with_reducible repeat (first | apply Kd.R_alloc | apply Kd.R_drewN | apply Kd.R_drew)); exact HO197.out) hb); have n1_ := Aside0.mk (below_step (by repeat (first | (with_reducible first | exact HB.out | apply below_alloc | apply pw_below_drewN | apply below_drew1) | exact HB.out)) hb); clear HO197; clear HB; have HO197 := n0_; have HB := n1_; clear n0_ n1_; (try clear hb); (try clear hb2); (try clear hk); (try clear hi)) | (go_at_call 12; (with_reducible refine (atom_Normal.calls _ _ t195 t199 _ ?side1 ?side2 A17.out).mono ?_); (case side1 => repeat (first | exact (Kd.R_reads' HO197.out).2.2 | (with_reducible refine Kd.C_alloc ?_ _) | (with_reducible refine Kd.C_drewN ?_ _) | (with_reducible refine Kd.C_drew ?_))); (case side2 => exact (Kd.R_reads' HO197.out).2.1); rintro e w30 ⟨v200, rfl, ho0, hb⟩; have n0_ := Aside0.mk (Kd.R_elder' (by (with_reducible repeat (first | apply Kd.R_alloc | apply Kd.R_drewN | apply Kd.R_drew)); exact HO197.out) (Kd.R_base ho0) hb); have n1_ := Aside0.mk (Kd.R_lower (Kd.R_new' ho0 (Kd.R_lt (by (with_reducible repeat (first | apply Kd.R_alloc | apply Kd.R_drewN | apply Kd.R_drew)); exact HO197.out))) (below_size (by repeat (first | (with_reducible first | exact HB.out | apply below_alloc | apply pw_below_drewN | apply below_drew1) | exact HB.out)))); have n2_ := Aside0.mk (below_step (by repeat (first | (with_reducible first | exact HB.out | apply below_alloc | apply pw_below_drewN | apply below_drew1) | exact HB.out)) hb); clear HO197; clear HB; have HO197 := n0_; have HO201 := n1_; have HB := n2_; clear n0_ n1_ n2_; (try clear hb); (try clear hb2); (try clear hk); (try clear hi); (try clear ho0); obtain ⟨Ao31, co31, eo31⟩ := Kd.R_slice HO201.out; subst eo31) | (go_at_call 11; (with_reducible refine (saleroomref09_Same.calls kj4 _ _ t199 _ _ t195 false _ ?side1 ?side2 ?side3 ?side4 A18.out).mono ?_); (case side1 => repeat (first | exact (Kd.R_reads' HO201.out).2.2 | (with_reducible refine Kd.C_alloc ?_ _) | (with_reducible refine Kd.C_drewN ?_ _) | (with_reducible refine Kd.C_drew ?_))); (case side2 => exact (Kd.R_reads' HO201.out).2.1); (case side3 => repeat (first | exact (Kd.R_reads' HO197.out).2.2 | (with_reducible refine Kd.C_alloc ?_ _) | (with_reducible refine Kd.C_drewN ?_ _) | (with_reducible refine Kd.C_drew ?_))); (case side4 => exact (Kd.R_reads' HO197.out).2.1); rintro e w' ⟨rfl, ⟨nd, rfl⟩⟩))
                  go_meet
                  case rel => exact ⟨_, (true), (by first | rfl | (simp; done) | (simp [*]; done)), H', ⟨by have := HJ4.out; first | omega | exact Nat.le_refl _⟩, ⟨by (with_reducible repeat (first | apply Kd.R_alloc | apply Kd.R_drewN | apply Kd.R_drew)); exact Kd.R_mono HO197.out (fun _ hk => trivial)⟩, ⟨by repeat (first | (with_reducible first | exact HB.out | apply below_alloc | apply pw_below_drewN | apply below_drew1) | exact HB.out)⟩⟩
            · replace c13 := Bool.eq_false_iff.mpr c13
              subst c13
              have H1 : (saleroomlaw09_AtomValues.j1 kj4 l0 l1 t195 true) = some r := by rw [if_neg (show ¬ (false = true) by decide)] at H; exact H
              clear H
              have H := H1
              clear H1
              have H' := Aside0.mk H
              clear H
              obtain ⟨Ao32, co32, eo32⟩ := Kd.R_slice HO197.out
              subst eo32
              go_wp2_with (first | ((with_reducible refine gate_callee (f := 13) rfl ?_); refine goesL_ (some 23) rfl rfl Try.func13 (by kernel_rfl) rfl #[.slice Ao32 t195.length co32] rfl (by (try simp only [List.map_toArray, List.map_cons, List.map_nil]); first | done | rfl | (simp only [List.length_drop, List.length_take]; rfl)) ?_; (with_reducible refine (atom_IsNormal.calls kj4 _ _ t195 false _ ?side1 ?side2 A12.out).mono ?_); (case side1 => repeat (first | exact (Kd.R_reads' HO197.out).2.2 | (with_reducible refine Kd.C_alloc ?_ _) | (with_reducible refine Kd.C_drewN ?_ _) | (with_reducible refine Kd.C_drew ?_))); (case side2 => exact (Kd.R_reads' HO197.out).2.1); rintro e w33 ⟨rfl, hb⟩; refine ⟨_, rfl, ?_⟩; have n0_ := Aside0.mk (Kd.R_below (by (with_reducible repeat (first | apply Kd.R_alloc | apply Kd.R_drewN | apply Kd.R_drew)); exact HO197.out) hb); have n1_ := Aside0.mk (below_step (by repeat (first | (with_reducible first | exact HB.out | apply below_alloc | apply pw_below_drewN | apply below_drew1) | exact HB.out)) hb); clear HO197; clear HB; have HO197 := n0_; have HB := n1_; clear n0_ n1_; (try clear hb); (try clear hb2); (try clear hk); (try clear hi)))
              go_meet
              case rel => exact ⟨_, (true), (by first | rfl | (simp; done) | (simp [*]; done)), H', ⟨by have := HJ4.out; first | omega | exact Nat.le_refl _⟩, ⟨by (with_reducible repeat (first | apply Kd.R_alloc | apply Kd.R_drewN | apply Kd.R_drew)); exact HO197.out⟩, ⟨by repeat (first | (with_reducible first | exact HB.out | apply below_alloc | apply pw_below_drewN | apply below_drew1) | exact HB.out)⟩⟩
          case rest =>
            clear HC10
            try clear c1
            try clear p2
            try clear c4
            try clear c7
            try clear c7b0
            try clear c7b1
            try clear c8
            try clear c12
            try clear c13
            try clear c14
            try clear c14b0
            try clear c14b1
            try clear c19
            try clear p2
            obtain ⟨kq, x45_9, rfl, HA, HJ9, HO_5, HB⟩ := hcut
            cases kq with
            | zero => exact absurd HA.out (by simp [saleroomlaw09_AtomValues.j1])
            | succ kj9 =>
              have H := HA.out
              clear HA
              simp only [saleroomlaw09_AtomValues.j1] at H
              by_cases c34 : x45_9 = true
              · subst c34
                have H1 : (some false) = some r := by rw [if_pos rfl] at H; exact H
                clear H
                have H := H1
                clear H1
                obtain rfl := Option.some.inj H
                go_wp2
                go_ret
                exact ⟨by first | rfl | (simp [errW_none, errW_some] <;> rfl) | (simp [*, errW_none, errW_some] <;> rfl), by repeat (first | (with_reducible first | exact HB.out | apply below_alloc | apply pw_below_drewN | apply below_drew1) | exact HB.out)⟩
              · replace c34 := Bool.eq_false_iff.mpr c34
                subst c34
                have H1 : (saleroomlaw09_AtomValues.l0 kj9 l0 t195 l1 (l1.length : Int) 0) = some r := by rw [if_neg (show ¬ (false = true) by decide)] at H; exact H
                clear H
                have H := H1
                clear H1
                have H' := Aside0.mk H
                clear H
                go_wp2
                go_loopg [48] kj9 (fun kq v48 w' => ∃ (x48_3 : Int), v48 = .int .i64 x48_3 ∧ Aside0 (saleroomlaw09_AtomValues.l0 kq l0 t195 l1 (l1.length : Int) x48_3 = some r) ∧ Aside0 (kq ≤ kj9) ∧ Aside0 (Kd.R k26 26 w' w.heap.size (fun _ => True) v196 t195) ∧ Aside0 (Below w.heap.size w w'))
                case atStart => exact ⟨(0), (by first | rfl | (simp; done) | (simp [*]; done)), H', ⟨Nat.le_refl _⟩, ⟨by (with_reducible repeat (first | apply Kd.R_alloc | apply Kd.R_drewN | apply Kd.R_drew)); exact HO_5.out⟩, ⟨by repeat (first | (with_reducible first | exact HB.out | apply below_alloc | apply pw_below_drewN | apply below_drew1) | exact HB.out)⟩⟩
                case round =>
                  clear H'
                  try clear c1
                  try clear p2
                  try clear c3
                  try clear c4
                  try clear c7
                  try clear c7b0
                  try clear c7b1
                  try clear c8
                  try clear c12
                  try clear c13
                  try clear c14
                  try clear c14b0
                  try clear c14b1
                  try clear c19
                  try clear c34
                  try clear p2
                  obtain ⟨x48_3, rfl, HA, HK3, HO_5, HB⟩ := hrel
                  cases gk with
                  | zero => exact absurd HA.out (by simp [saleroomlaw09_AtomValues.l0])
                  | succ k3 =>
                    have H := HA.out
                    clear HA
                    simp only [saleroomlaw09_AtomValues.l0] at H
                    by_cases c35 : x48_3 < (l1.length : Int)
                    · rw [if_pos c35] at H
                      have c35b0 : decide (x48_3 < (l1.length : Int)) = true := decide_eq_true c35
                      clear c35
                      by_cases c36 : 0 ≤ x48_3
                      · rw [if_pos c36] at H
                        have c36b0 : decide (0 ≤ x48_3) = true := decide_eq_true c36
                        clear c36
                        by_cases c37 : x48_3 < (l1.length : Int)
                        · rw [if_pos c37] at H
                          have c37b0 : decide (x48_3 < (l1.length : Int)) = true := decide_eq_true c37
                          clear c37
                          replace H := Option.bind_eq_some_iff.mp H
                          obtain ⟨t206, A380, H⟩ := H
                          replace H : ((atom_Value.f l0 (rd l1 x48_3)).bind fun t207 => (if t206 = t207 then (saleroomlaw09_AtomValues.l0 k3 l0 t195 l1 (l1.length : Int) (wrap64 (x48_3 + 1))) else (some false))) = some r := H
                          have A38 := Aside0.mk A380
                          clear A380
                          replace H := Option.bind_eq_some_iff.mp H
                          obtain ⟨t207, A390, H⟩ := H
                          replace H : (if t206 = t207 then (saleroomlaw09_AtomValues.l0 k3 l0 t195 l1 (l1.length : Int) (wrap64 (x48_3 + 1))) else (some false)) = some r := H
                          have A39 := Aside0.mk A390
                          clear A390
                          by_cases c40 : t206 = t207
                          · rw [if_pos c40] at H
                            have c40b0 : (t206 == t207) = true := beq_iff_eq.mpr c40
                            have c40b1 : (t206 != t207) = false := bne_eq_false_iff_eq.mpr c40
                            clear c40
                            have H' := Aside0.mk H
                            clear H
                            have p205 : 0 ≤ (x48_3 : Int) := of_decide_eq_true (by first | (with_reducible assumption) | assumption)
                            have q205 : x48_3 < (l1.length : Int) := of_decide_eq_true (by first | (with_reducible assumption) | assumption)
                            obtain ⟨ad205, e205, hx205_0⟩ := Kd.at_int HR1.out x48_3 p205 q205
                            cases e205
                            replace hx205_0 := (HB.out.cell (World.block_lt_of_cell? w _ hx205_0)).trans hx205_0
                            replace p205 := eq_true p205
                            replace q205 := eq_true q205
                            obtain ⟨Ao41, co41, eo41⟩ := Kd.R_slice HO_5.out
                            subst eo41
                            go_wp2_with (first | ((with_reducible refine gate_callee (f := 16) rfl ?_); refine goesL_ (some 54) rfl rfl Try.func16 (by kernel_rfl) rfl #[.slice Ao41 t195.length co41, .int .u64 (rd l1 x48_3)] rfl (by (try simp only [List.map_toArray, List.map_cons, List.map_nil]); first | done | rfl | (simp only [List.length_drop, List.length_take]; rfl)) ?_; (with_reducible refine (atom_Value.calls _ _ t195 (rd l1 x48_3) t206 _ ?side1 ?side2 A38.out).mono ?_); (case side1 => repeat (first | exact (Kd.R_reads' HO_5.out).2.2 | (with_reducible refine Kd.C_alloc ?_ _) | (with_reducible refine Kd.C_drewN ?_ _) | (with_reducible refine Kd.C_drew ?_))); (case side2 => exact (Kd.R_reads' HO_5.out).2.1); rintro e w42 ⟨rfl, hb⟩; refine ⟨_, rfl, ?_⟩; have n0_ := Aside0.mk (Kd.R_below (by (with_reducible repeat (first | apply Kd.R_alloc | apply Kd.R_drewN | apply Kd.R_drew)); exact HO_5.out) hb); have n1_ := Aside0.mk (below_step (by repeat (first | (with_reducible first | exact HB.out | apply below_alloc | apply pw_below_drewN | apply below_drew1) | exact HB.out)) hb); clear HO_5; clear HB; have HO_5 := n0_; have HB := n1_; clear n0_ n1_; (try clear hb); (try clear hb2); (try clear hk); (try clear hi)) | ((with_reducible refine gate_callee (f := 16) rfl ?_); refine goesL_ (some 57) rfl rfl Try.func16 (by kernel_rfl) rfl #[.slice A0 l0.length c0, .int .u64 (rd l1 x48_3)] rfl (by (try simp only [List.map_toArray, List.map_cons, List.map_nil]); first | done | rfl | (simp only [List.length_drop, List.length_take]; rfl)) ?_; (with_reducible refine (atom_Value.calls _ _ l0 (rd l1 x48_3) t207 _ ?side1 ?side2 A39.out).mono ?_); (case side1 => repeat (first | exact (Kd.C_below HR0.out HB.out) | (with_reducible refine Kd.C_alloc ?_ _) | (with_reducible refine Kd.C_drewN ?_ _) | (with_reducible refine Kd.C_drew ?_))); (case side2 => exact HC0.out); rintro e w43 ⟨rfl, hb⟩; refine ⟨_, rfl, ?_⟩; have n0_ := Aside0.mk (Kd.R_below (by (with_reducible repeat (first | apply Kd.R_alloc | apply Kd.R_drewN | apply Kd.R_drew)); exact HO_5.out) hb); have n1_ := Aside0.mk (below_step (by repeat (first | (with_reducible first | exact HB.out | apply below_alloc | apply pw_below_drewN | apply below_drew1) | exact HB.out)) hb); clear HO_5; clear HB; have HO_5 := n0_; have HB := n1_; clear n0_ n1_; (try clear hb); (try clear hb2); (try clear hk); (try clear hi)))
                            go_roundg k3
                            case measure => have := HJ4.out; have := HJ9.out; have := HK3.out; omega
                            case rel => exact ⟨(wrap64 (x48_3 + 1)), (by first | rfl | (simp; done) | (simp [*]; done)), H', ⟨by have := HJ4.out; have := HJ9.out; have := HK3.out; omega⟩, ⟨by (with_reducible repeat (first | apply Kd.R_alloc | apply Kd.R_drewN | apply Kd.R_drew)); exact HO_5.out⟩, ⟨by repeat (first | (with_reducible first | exact HB.out | apply below_alloc | apply pw_below_drewN | apply below_drew1) | exact HB.out)⟩⟩
                          · rw [if_neg c40] at H
                            have c40b0 : (t206 == t207) = false := beq_eq_false_iff_ne.mpr c40
                            have c40b1 : (t206 != t207) = true := bne_iff_ne.mpr c40
                            obtain rfl := Option.some.inj H
                            have p205 : 0 ≤ (x48_3 : Int) := of_decide_eq_true (by first | (with_reducible assumption) | assumption)
                            have q205 : x48_3 < (l1.length : Int) := of_decide_eq_true (by first | (with_reducible assumption) | assumption)
                            obtain ⟨ad205, e205, hx205_0⟩ := Kd.at_int HR1.out x48_3 p205 q205
                            cases e205
                            replace hx205_0 := (HB.out.cell (World.block_lt_of_cell? w _ hx205_0)).trans hx205_0
                            replace p205 := eq_true p205
                            replace q205 := eq_true q205
                            obtain ⟨Ao44, co44, eo44⟩ := Kd.R_slice HO_5.out
                            subst eo44
                            go_wp2_with (first | ((with_reducible refine gate_callee (f := 16) rfl ?_); refine goesL_ (some 54) rfl rfl Try.func16 (by kernel_rfl) rfl #[.slice Ao44 t195.length co44, .int .u64 (rd l1 x48_3)] rfl (by (try simp only [List.map_toArray, List.map_cons, List.map_nil]); first | done | rfl | (simp only [List.length_drop, List.length_take]; rfl)) ?_; (with_reducible refine (atom_Value.calls _ _ t195 (rd l1 x48_3) t206 _ ?side1 ?side2 A38.out).mono ?_); (case side1 => repeat (first | exact (Kd.R_reads' HO_5.out).2.2 | (with_reducible refine Kd.C_alloc ?_ _) | (with_reducible refine Kd.C_drewN ?_ _) | (with_reducible refine Kd.C_drew ?_))); (case side2 => exact (Kd.R_reads' HO_5.out).2.1); rintro e w45 ⟨rfl, hb⟩; refine ⟨_, rfl, ?_⟩; have n0_ := Aside0.mk (Kd.R_below (by (with_reducible repeat (first | apply Kd.R_alloc | apply Kd.R_drewN | apply Kd.R_drew)); exact HO_5.out) hb); have n1_ := Aside0.mk (below_step (by repeat (first | (with_reducible first | exact HB.out | apply below_alloc | apply pw_below_drewN | apply below_drew1) | exact HB.out)) hb); clear HO_5; clear HB; have HO_5 := n0_; have HB := n1_; clear n0_ n1_; (try clear hb); (try clear hb2); (try clear hk); (try clear hi)) | ((with_reducible refine gate_callee (f := 16) rfl ?_); refine goesL_ (some 57) rfl rfl Try.func16 (by kernel_rfl) rfl #[.slice A0 l0.length c0, .int .u64 (rd l1 x48_3)] rfl (by (try simp only [List.map_toArray, List.map_cons, List.map_nil]); first | done | rfl | (simp only [List.length_drop, List.length_take]; rfl)) ?_; (with_reducible refine (atom_Value.calls _ _ l0 (rd l1 x48_3) t207 _ ?side1 ?side2 A39.out).mono ?_); (case side1 => repeat (first | exact (Kd.C_below HR0.out HB.out) | (with_reducible refine Kd.C_alloc ?_ _) | (with_reducible refine Kd.C_drewN ?_ _) | (with_reducible refine Kd.C_drew ?_))); (case side2 => exact HC0.out); rintro e w46 ⟨rfl, hb⟩; refine ⟨_, rfl, ?_⟩; have n0_ := Aside0.mk (Kd.R_below (by (with_reducible repeat (first | apply Kd.R_alloc | apply Kd.R_drewN | apply Kd.R_drew)); exact HO_5.out) hb); have n1_ := Aside0.mk (below_step (by repeat (first | (with_reducible first | exact HB.out | apply below_alloc | apply pw_below_drewN | apply below_drew1) | exact HB.out)) hb); clear HO_5; clear HB; have HO_5 := n0_; have HB := n1_; clear n0_ n1_; (try clear hb); (try clear hb2); (try clear hk); (try clear hi)))
                            go_ret
                            exact ⟨by first | rfl | (simp [errW_none, errW_some] <;> rfl) | (simp [*, errW_none, errW_some] <;> rfl), by repeat (first | (with_reducible first | exact HB.out | apply below_alloc | apply pw_below_drewN | apply below_drew1) | exact HB.out)⟩
                        · rw [if_neg c37] at H
                          exact absurd H (by simp)
                      · rw [if_neg c36] at H
                        exact absurd H (by simp)
                    · rw [if_neg c35] at H
                      have c35b0 : decide (x48_3 < (l1.length : Int)) = false := decide_eq_false c35
                      clear c35
                      have H' := Aside0.mk H
                      clear H
                      obtain ⟨Ao47, co47, eo47⟩ := Kd.R_slice HO_5.out
                      subst eo47
                      go_wp2
                      go_loopg [62] k3 (fun kq v62 w' => ∃ (x62_4 : Int), v62 = .int .i64 x62_4 ∧ Aside0 (saleroomlaw09_AtomValues.l1 kq t195 t195 (t195.length : Int) x62_4 = some r) ∧ Aside0 (kq ≤ k3) ∧ Aside0 (Kd.R k26 26 w' w.heap.size (fun _ => True) (.slice Ao47 t195.length co47) t195) ∧ Aside0 (Kd.R k26 26 w' w.heap.size (fun _ => True) (.slice Ao47 t195.length co47) t195) ∧ Aside0 (Below w.heap.size w w'))
                      case atStart => exact ⟨(0), (by first | rfl | (simp; done) | (simp [*]; done)), H', ⟨Nat.le_refl _⟩, ⟨by (with_reducible repeat (first | apply Kd.R_alloc | apply Kd.R_drewN | apply Kd.R_drew)); exact HO_5.out⟩, ⟨by (with_reducible repeat (first | apply Kd.R_alloc | apply Kd.R_drewN | apply Kd.R_drew)); exact HO_5.out⟩, ⟨by repeat (first | (with_reducible first | exact HB.out | apply below_alloc | apply pw_below_drewN | apply below_drew1) | exact HB.out)⟩⟩
                      case round =>
                        clear H'
                        try clear c1
                        try clear p2
                        try clear q2
                        try clear hx2
                        try clear c3
                        try clear c4
                        try clear p6
                        try clear c7
                        try clear c7b0
                        try clear c7b1
                        try clear c8
                        try clear c12
                        try clear c13
                        try clear c14
                        try clear c14b0
                        try clear c14b1
                        try clear c16
                        try clear c19
                        try clear p20
                        try clear q20
                        try clear hx20
                        try clear c34
                        try clear c35
                        try clear c35b0
                        try clear c36
                        try clear c36b0
                        try clear c37
                        try clear c37b0
                        try clear c40
                        try clear c40b0
                        try clear c40b1
                        try clear hx205_0
                        try clear p2
                        try clear p205
                        try clear q205
                        obtain ⟨x62_4, rfl, HA, HK4, HO_5, HO_60, HB⟩ := hrel
                        cases gk with
                        | zero => exact absurd HA.out (by simp [saleroomlaw09_AtomValues.l1])
                        | succ k4 =>
                          have H := HA.out
                          clear HA
                          simp only [saleroomlaw09_AtomValues.l1] at H
                          by_cases c48 : x62_4 < (t195.length : Int)
                          · rw [if_pos c48] at H
                            have c48b0 : decide (x62_4 < (t195.length : Int)) = true := decide_eq_true c48
                            clear c48
                            by_cases c49 : 0 ≤ x62_4
                            · rw [if_pos c49] at H
                              have c49b0 : decide (0 ≤ x62_4) = true := decide_eq_true c49
                              clear c49
                              by_cases c50 : x62_4 < (t195.length : Int)
                              · rw [if_pos c50] at H
                                have c50b0 : decide (x62_4 < (t195.length : Int)) = true := decide_eq_true c50
                                clear c50
                                replace H := Option.bind_eq_some_iff.mp H
                                obtain ⟨t210, A510, H⟩ := H
                                replace H : (if t210 = ((rd_T26 t195 x62_4).f1) then (saleroomlaw09_AtomValues.l1 k4 t195 t195 (t195.length : Int) (wrap64 (x62_4 + 1))) else (some false)) = some r := H
                                have A51 := Aside0.mk A510
                                clear A510
                                by_cases c52 : t210 = ((rd_T26 t195 x62_4).f1)
                                · rw [if_pos c52] at H
                                  have c52b0 : (t210 == ((rd_T26 t195 x62_4).f1)) = true := beq_iff_eq.mpr c52
                                  have c52b1 : (t210 != ((rd_T26 t195 x62_4).f1)) = false := bne_eq_false_iff_eq.mpr c52
                                  clear c52
                                  have H' := Aside0.mk H
                                  clear H
                                  have p208 : 0 ≤ (x62_4 : Int) := of_decide_eq_true (by first | (with_reducible assumption) | assumption)
                                  have q208 : x62_4 < (t195.length : Int) := of_decide_eq_true (by first | (with_reducible assumption) | assumption)
                                  obtain ⟨ad208, e208, hx208_0, hx208_1⟩ := at_T26 (Kd.R_reads' HO_60.out).2.2 x62_4 p208 q208
                                  cases e208
                                  replace p208 := eq_true p208
                                  replace q208 := eq_true q208
                                  try go_wp2_with (first | ((with_reducible refine gate_dst (N := 9) rfl ?_); (try (refine gate_guard (by rfl) ?_; dsimp only)); refine box_event ?hg (N := 9) ?hd (cs := #[.int .u64 0, .int .i64 0]) (t := 26) ?hr ?_; (case hd => rfl); (case hg => rfl); (case hr => first | (go_simp; done) | (go_simp; rfl)); intro gb209 hg w53 hbox hb; have n0_ := Aside0.mk (Kd.R_below (Kd.R_elderB (by (with_reducible repeat (first | apply Kd.R_alloc | apply Kd.R_drewN | apply Kd.R_drew)); exact HO_5.out) gb209 (Nat.le_of_eq hg.symm)) hb); have n1_ := Aside0.mk (Kd.R_below (Kd.R_elderB (by (with_reducible repeat (first | apply Kd.R_alloc | apply Kd.R_drewN | apply Kd.R_drew)); exact HO_60.out) gb209 (Nat.le_of_eq hg.symm)) hb); have n2_ := Aside0.mk (below_step (by repeat (first | (with_reducible first | exact HB.out | apply below_alloc | apply pw_below_drewN | apply below_drew1) | exact HB.out)) hb); have n3_ := Aside0.mk (hbox); have n4_ := Aside0.mk ((by rw [hg]; exact (below_size (by repeat (first | (with_reducible first | exact HB.out | apply below_alloc | apply pw_below_drewN | apply below_drew1) | exact HB.out))) : w.heap.size ≤ gb209)); have n5_ := Aside0.mk ((by rw [hg]; exact (below_size (by repeat (first | (with_reducible first | exact HB.out | apply below_alloc | apply pw_below_drewN | apply below_drew1) | exact HB.out))) : w.heap.size ≤ gb209)); clear HO_5; clear HO_60; clear HB; have HO_5 := n0_; have HO_60 := n1_; have HB := n2_; have BK209 := n3_; have GW209 := n4_; have GE209 := n5_; clear n0_ n1_ n2_ n3_ n4_ n5_; clear hb hbox hg; have hcz54_0 : w53.cell? ⟨gb209, 0, none⟩ = some (.int .u64 0) := (blk_cell BK209.out 0).trans rfl; have hcz54_1 : w53.cell? ⟨gb209, 1, none⟩ = some (.int .i64 0) := (blk_cell BK209.out 1).trans rfl; have hfz54_0 := blk_frozen BK209.out 0; have hfz54_1 := blk_frozen BK209.out 1))
                                  have n0_ : Aside0 (Kd.R k26 26 ((w53.setCell ⟨gb209, 0, none⟩ (.int .u64 ((rd_T26 t195 x62_4).f0))).setCell ⟨gb209, 1, none⟩ (.int .i64 ((rd_T26 t195 x62_4).f1))) w.heap.size (fun k_ => k_ ≠ gb209) (.slice (some ad208) t195.length co47) t195) := ⟨by (with_reducible repeat (first | apply Kd.R_alloc | apply Kd.R_drewN | apply Kd.R_drew)); exact Kd.R_mono (Kd.R_far (p := ⟨gb209, 1, none⟩) (Kd.R_far (p := ⟨gb209, 0, none⟩) (Kd.R_mono HO_5.out (fun k_ hk => (⟨hk, hk.2⟩ : _ ∧ k_ ≠ gb209))) (fun _ hk => hk.2) (.int .u64 ((rd_T26 t195 x62_4).f0))) (fun _ hk => hk.2) (.int .i64 ((rd_T26 t195 x62_4).f1))) (fun _ hk => hk.1.2)⟩
                                  have n1_ : Aside0 (Kd.R k26 26 ((w53.setCell ⟨gb209, 0, none⟩ (.int .u64 ((rd_T26 t195 x62_4).f0))).setCell ⟨gb209, 1, none⟩ (.int .i64 ((rd_T26 t195 x62_4).f1))) w.heap.size (fun k_ => k_ ≠ gb209) (.slice (some ad208) t195.length co47) t195) := ⟨by (with_reducible repeat (first | apply Kd.R_alloc | apply Kd.R_drewN | apply Kd.R_drew)); exact Kd.R_mono (Kd.R_far (p := ⟨gb209, 1, none⟩) (Kd.R_far (p := ⟨gb209, 0, none⟩) (Kd.R_mono HO_60.out (fun k_ hk => (⟨hk, hk.2⟩ : _ ∧ k_ ≠ gb209))) (fun _ hk => hk.2) (.int .u64 ((rd_T26 t195 x62_4).f0))) (fun _ hk => hk.2) (.int .i64 ((rd_T26 t195 x62_4).f1))) (fun _ hk => hk.1.2)⟩
                                  have n2_ : Aside0 (((w53.setCell ⟨gb209, 0, none⟩ (.int .u64 ((rd_T26 t195 x62_4).f0))).setCell ⟨gb209, 1, none⟩ (.int .i64 ((rd_T26 t195 x62_4).f1))).heap[gb209]? = some (.cells #[.int .u64 ((rd_T26 t195 x62_4).f0), .int .i64 ((rd_T26 t195 x62_4).f1)] 26 (0, 0))) := ⟨by (with_reducible repeat (first | refine blk_drewN ?_ _ | refine blk_drew ?_ | refine blk_alloc ?_ _)); refine blk_put (cs := #[.int .u64 ((rd_T26 t195 x62_4).f0), .int .i64 0]) ?_ 1 _ rfl; (with_reducible repeat (first | refine blk_drewN ?_ _ | refine blk_drew ?_ | refine blk_alloc ?_ _)); refine blk_put (cs := #[.int .u64 0, .int .i64 0]) ?_ 0 _ rfl; (with_reducible repeat (first | refine blk_drewN ?_ _ | refine blk_drew ?_ | refine blk_alloc ?_ _)); exact BK209.out⟩
                                  have n3_ : Aside0 (Below w.heap.size w ((w53.setCell ⟨gb209, 0, none⟩ (.int .u64 ((rd_T26 t195 x62_4).f0))).setCell ⟨gb209, 1, none⟩ (.int .i64 ((rd_T26 t195 x62_4).f1)))) := ⟨by repeat (first | (with_reducible first | exact HB.out | apply below_alloc | apply pw_below_drewN | apply below_drew1 | refine below_set ?_ GE209.out) | exact HB.out)⟩
                                  (try clear HO_5)
                                  (try clear HO_60)
                                  (try clear BK209)
                                  (try clear HB)
                                  generalize ((w53.setCell ⟨gb209, 0, none⟩ (.int .u64 ((rd_T26 t195 x62_4).f0))).setCell ⟨gb209, 1, none⟩ (.int .i64 ((rd_T26 t195 x62_4).f1))) = w55 at n0_ n1_ n2_ n3_ ⊢
                                  have HO_5 := n0_
                                  have HO_60 := n1_
                                  have BK209 := n2_
                                  have HB := n3_
                                  clear n0_ n1_ n2_ n3_
                                  have n0_ := Aside0.mk (Kd.R_drew HO_5.out)
                                  have n1_ := Aside0.mk (Kd.R_drew HO_60.out)
                                  have n2_ := Aside0.mk (blk_drew BK209.out)
                                  have n3_ := Aside0.mk (below_drew1 HB.out)
                                  clear HO_5
                                  clear HO_60
                                  clear BK209
                                  clear HB
                                  have HO_5 := n0_
                                  have HO_60 := n1_
                                  have BK209 := n2_
                                  have HB := n3_
                                  clear n0_ n1_ n2_ n3_
                                  refine start_ (n := 7) (S := fun w' => w'.cell? ⟨gb209, 0, none⟩ = some (.int .u64 ((rd_T26 t195 x62_4).f0)) ∧ w'.cell? ⟨gb209, 1, none⟩ = some (.int .i64 ((rd_T26 t195 x62_4).f1))) (ds := []) #[false, false, false, false, false, false, false] (by kernel_rfl) rfl rfl ⟨(blk_cell BK209.out 0).trans rfl, (blk_cell BK209.out 1).trans rfl⟩ (fun hHeld => ?_)
                                  generalize w55.drew = w56 at HO_5 HO_60 BK209 HB hHeld ⊢
                                  refine pure_ (i := 0) (N := some 66) (v := ?_) (a' := ?_) #[true, false, false, false, false, false, false] rfl rfl (by kernel_rfl) (fun _ _ _ h => h) (Or.inl ⟨by rfl, ?_⟩) ?_ ?_
                                  rotate_left
                                  · intro w'
                                    go_simp
                                    with_reducible rfl
                                  rotate_left
                                  · simp only [Act.put, List.setIfInBounds_toArray, List.set_cons_zero, List.set_cons_succ, i64_w, i32_w]
                                    rfl
                                  refine pure_ (i := 1) (N := some 67) (v := ?_) (a' := ?_) #[true, true, false, false, false, false, false] rfl rfl (by kernel_rfl) (fun _ _ _ h => h) (Or.inl ⟨by rfl, ?_⟩) ?_ ?_
                                  rotate_left
                                  · intro w'
                                    go_simp
                                    with_reducible rfl
                                  rotate_left
                                  · simp only [Act.put, List.setIfInBounds_toArray, List.set_cons_zero, List.set_cons_succ, i64_w, i32_w]
                                    rfl
                                  refine pure_ (i := 4) (N := some 70) (v := ?_) (a' := ?_) #[true, true, false, false, true, false, false] rfl rfl (by kernel_rfl) (fun _ _ _ h => h) (Or.inl ⟨by rfl, ?_⟩) ?_ ?_
                                  rotate_left
                                  · intro w'
                                    go_simp
                                    with_reducible rfl
                                  rotate_left
                                  · simp only [Act.put, List.setIfInBounds_toArray, List.set_cons_zero, List.set_cons_succ, i64_w, i32_w]
                                    rfl
                                  refine take_ (i := 2) (N := some 68) (v := ?_) (a' := ?_) #[true, true, true, false, true, false, false] rfl rfl (by kernel_rfl) (fun _ _ _ h => h) (Or.inl ⟨by rfl, ?_⟩) hHeld ?_ ?_
                                  rotate_left
                                  · rintro w' ⟨s0, s1⟩
                                    go_simp
                                    with_reducible rfl
                                  rotate_left
                                  · simp only [Act.put, List.setIfInBounds_toArray, List.set_cons_zero, List.set_cons_succ, i64_w, i32_w]
                                    rfl
                                  refine take_ (i := 5) (N := some 71) (v := ?_) (a' := ?_) #[true, true, true, false, true, true, false] rfl rfl (by kernel_rfl) (fun _ _ _ h => h) (Or.inl ⟨by rfl, ?_⟩) hHeld ?_ ?_
                                  rotate_left
                                  · rintro w' ⟨s0, s1⟩
                                    go_simp
                                    with_reducible rfl
                                  rotate_left
                                  · simp only [Act.put, List.setIfInBounds_toArray, List.set_cons_zero, List.set_cons_succ, i64_w, i32_w]
                                    rfl
                                  refine one_ (i := 3) (N := some 69) #[true, true, true, true, true, true, false] rfl rfl (by kernel_rfl) (by decide) (fun K hK => ?_)
                                  refine goes_ Try.func16 (by kernel_rfl) rfl #[.slice (some ad208) t195.length co47, .int .u64 ((rd_T26 t195 x62_4).f0)] (by rfl) rfl rfl (by (try simp only [List.map_toArray, List.map_cons, List.map_nil]); first | done | rfl | (simp only [List.length_drop, List.length_take]; rfl)) ?_
                                  with_reducible refine (atom_Value.calls _ _ t195 ((rd_T26 t195 x62_4).f0) t210 _ ?side1 ?side2 A51.out).mono ?_
                                  (case side1 => repeat (first | exact (Kd.R_reads' HO_5.out).2.2 | (with_reducible refine Kd.C_alloc ?_ _) | (with_reducible refine Kd.C_drewN ?_ _) | (with_reducible refine Kd.C_drew ?_)))
                                  (case side2 => exact (Kd.R_reads' HO_5.out).2.1)
                                  rintro e w57 ⟨rfl, hb⟩
                                  refine ⟨_, rfl, ?_⟩
                                  have n0_ := Aside0.mk (Kd.R_below (by (with_reducible repeat (first | apply Kd.R_alloc | apply Kd.R_drewN | apply Kd.R_drew)); exact HO_5.out) hb)
                                  have n1_ := Aside0.mk (Kd.R_below (by (with_reducible repeat (first | apply Kd.R_alloc | apply Kd.R_drewN | apply Kd.R_drew)); exact HO_60.out) hb)
                                  have n2_ := Aside0.mk (blk_below (g := gb209) (o := .cells #[.int .u64 ((rd_T26 t195 x62_4).f0), .int .i64 ((rd_T26 t195 x62_4).f1)] 26 (0, 0)) (by (with_reducible repeat (first | refine blk_drewN ?_ _ | refine blk_drew ?_ | refine blk_alloc ?_ _)); exact BK209.out) hb)
                                  have n3_ := Aside0.mk (below_step (by repeat (first | (with_reducible first | exact HB.out | apply below_alloc | apply pw_below_drewN | apply below_drew1 | refine below_set ?_ GE209.out) | exact HB.out)) hb)
                                  clear HO_5
                                  clear HO_60
                                  clear BK209
                                  clear HB
                                  have HO_5 := n0_
                                  have HO_60 := n1_
                                  have BK209 := n2_
                                  have HB := n3_
                                  clear n0_ n1_ n2_ n3_
                                  (try clear hb)
                                  (try clear hb2)
                                  (try clear hk)
                                  (try clear hi)
                                  refine hK.out _ _ ⟨(blk_cell BK209.out 0).trans rfl, (blk_cell BK209.out 1).trans rfl⟩ (fun hHeld => ?_)
                                  clear hK K
                                  refine norm_ (a' := ?_) ?_ ?_
                                  rotate_left
                                  · show Act.put _ (some 69) _ = _
                                    simp only [Act.put, List.setIfInBounds_toArray, List.set_cons_zero, List.set_cons_succ, i64_w, i32_w]
                                    rfl
                                  refine pure_ (i := 6) (N := some 72) (v := ?_) (a' := ?_) #[true, true, true, true, true, true, true] rfl rfl (by kernel_rfl) (fun _ _ _ h => h) (Or.inl ⟨by rfl, ?_⟩) ?_ ?_
                                  rotate_left
                                  · intro w'
                                    go_simp
                                    with_reducible rfl
                                  rotate_left
                                  · simp only [Act.put, List.setIfInBounds_toArray, List.set_cons_zero, List.set_cons_succ, i64_w, i32_w]
                                    rfl
                                  refine done_ (by kernel_rfl) ?_
                                  try go_wp2
                                  go_roundg k4
                                  case measure => have := HJ4.out; have := HJ9.out; have := HK3.out; have := HK4.out; omega
                                  case rel => exact ⟨(wrap64 (x62_4 + 1)), (by first | rfl | (simp; done) | (simp [*]; done)), H', ⟨by have := HJ4.out; have := HJ9.out; have := HK3.out; have := HK4.out; omega⟩, ⟨by (with_reducible repeat (first | apply Kd.R_alloc | apply Kd.R_drewN | apply Kd.R_drew)); exact Kd.R_mono HO_5.out (fun _ hk => trivial)⟩, ⟨by (with_reducible repeat (first | apply Kd.R_alloc | apply Kd.R_drewN | apply Kd.R_drew)); exact Kd.R_mono HO_60.out (fun _ hk => trivial)⟩, ⟨by repeat (first | (with_reducible first | exact HB.out | apply below_alloc | apply pw_below_drewN | apply below_drew1 | refine below_set ?_ GE209.out) | exact HB.out)⟩⟩
                                · rw [if_neg c52] at H
                                  have c52b0 : (t210 == ((rd_T26 t195 x62_4).f1)) = false := beq_eq_false_iff_ne.mpr c52
                                  have c52b1 : (t210 != ((rd_T26 t195 x62_4).f1)) = true := bne_iff_ne.mpr c52
                                  obtain rfl := Option.some.inj H
                                  have p208 : 0 ≤ (x62_4 : Int) := of_decide_eq_true (by first | (with_reducible assumption) | assumption)
                                  have q208 : x62_4 < (t195.length : Int) := of_decide_eq_true (by first | (with_reducible assumption) | assumption)
                                  obtain ⟨ad208, e208, hx208_0, hx208_1⟩ := at_T26 (Kd.R_reads' HO_60.out).2.2 x62_4 p208 q208
                                  cases e208
                                  replace p208 := eq_true p208
                                  replace q208 := eq_true q208
                                  try go_wp2_with (first | ((with_reducible refine gate_dst (N := 9) rfl ?_); (try (refine gate_guard (by rfl) ?_; dsimp only)); refine box_event ?hg (N := 9) ?hd (cs := #[.int .u64 0, .int .i64 0]) (t := 26) ?hr ?_; (case hd => rfl); (case hg => rfl); (case hr => first | (go_simp; done) | (go_simp; rfl)); intro gb209 hg w58 hbox hb; have n0_ := Aside0.mk (Kd.R_below (Kd.R_elderB (by (with_reducible repeat (first | apply Kd.R_alloc | apply Kd.R_drewN | apply Kd.R_drew)); exact HO_5.out) gb209 (Nat.le_of_eq hg.symm)) hb); have n1_ := Aside0.mk (Kd.R_below (Kd.R_elderB (by (with_reducible repeat (first | apply Kd.R_alloc | apply Kd.R_drewN | apply Kd.R_drew)); exact HO_60.out) gb209 (Nat.le_of_eq hg.symm)) hb); have n2_ := Aside0.mk (below_step (by repeat (first | (with_reducible first | exact HB.out | apply below_alloc | apply pw_below_drewN | apply below_drew1) | exact HB.out)) hb); have n3_ := Aside0.mk (hbox); have n4_ := Aside0.mk ((by rw [hg]; exact (below_size (by repeat (first | (with_reducible first | exact HB.out | apply below_alloc | apply pw_below_drewN | apply below_drew1) | exact HB.out))) : w.heap.size ≤ gb209)); have n5_ := Aside0.mk ((by rw [hg]; exact (below_size (by repeat (first | (with_reducible first | exact HB.out | apply below_alloc | apply pw_below_drewN | apply below_drew1) | exact HB.out))) : w.heap.size ≤ gb209)); clear HO_5; clear HO_60; clear HB; have HO_5 := n0_; have HO_60 := n1_; have HB := n2_; have BK209 := n3_; have GW209 := n4_; have GE209 := n5_; clear n0_ n1_ n2_ n3_ n4_ n5_; clear hb hbox hg; have hcz59_0 : w58.cell? ⟨gb209, 0, none⟩ = some (.int .u64 0) := (blk_cell BK209.out 0).trans rfl; have hcz59_1 : w58.cell? ⟨gb209, 1, none⟩ = some (.int .i64 0) := (blk_cell BK209.out 1).trans rfl; have hfz59_0 := blk_frozen BK209.out 0; have hfz59_1 := blk_frozen BK209.out 1))
                                  have n0_ : Aside0 (Kd.R k26 26 ((w58.setCell ⟨gb209, 0, none⟩ (.int .u64 ((rd_T26 t195 x62_4).f0))).setCell ⟨gb209, 1, none⟩ (.int .i64 ((rd_T26 t195 x62_4).f1))) w.heap.size (fun k_ => k_ ≠ gb209) (.slice (some ad208) t195.length co47) t195) := ⟨by (with_reducible repeat (first | apply Kd.R_alloc | apply Kd.R_drewN | apply Kd.R_drew)); exact Kd.R_mono (Kd.R_far (p := ⟨gb209, 1, none⟩) (Kd.R_far (p := ⟨gb209, 0, none⟩) (Kd.R_mono HO_5.out (fun k_ hk => (⟨hk, hk.2⟩ : _ ∧ k_ ≠ gb209))) (fun _ hk => hk.2) (.int .u64 ((rd_T26 t195 x62_4).f0))) (fun _ hk => hk.2) (.int .i64 ((rd_T26 t195 x62_4).f1))) (fun _ hk => hk.1.2)⟩
                                  have n1_ : Aside0 (Kd.R k26 26 ((w58.setCell ⟨gb209, 0, none⟩ (.int .u64 ((rd_T26 t195 x62_4).f0))).setCell ⟨gb209, 1, none⟩ (.int .i64 ((rd_T26 t195 x62_4).f1))) w.heap.size (fun k_ => k_ ≠ gb209) (.slice (some ad208) t195.length co47) t195) := ⟨by (with_reducible repeat (first | apply Kd.R_alloc | apply Kd.R_drewN | apply Kd.R_drew)); exact Kd.R_mono (Kd.R_far (p := ⟨gb209, 1, none⟩) (Kd.R_far (p := ⟨gb209, 0, none⟩) (Kd.R_mono HO_60.out (fun k_ hk => (⟨hk, hk.2⟩ : _ ∧ k_ ≠ gb209))) (fun _ hk => hk.2) (.int .u64 ((rd_T26 t195 x62_4).f0))) (fun _ hk => hk.2) (.int .i64 ((rd_T26 t195 x62_4).f1))) (fun _ hk => hk.1.2)⟩
                                  have n2_ : Aside0 (((w58.setCell ⟨gb209, 0, none⟩ (.int .u64 ((rd_T26 t195 x62_4).f0))).setCell ⟨gb209, 1, none⟩ (.int .i64 ((rd_T26 t195 x62_4).f1))).heap[gb209]? = some (.cells #[.int .u64 ((rd_T26 t195 x62_4).f0), .int .i64 ((rd_T26 t195 x62_4).f1)] 26 (0, 0))) := ⟨by (with_reducible repeat (first | refine blk_drewN ?_ _ | refine blk_drew ?_ | refine blk_alloc ?_ _)); refine blk_put (cs := #[.int .u64 ((rd_T26 t195 x62_4).f0), .int .i64 0]) ?_ 1 _ rfl; (with_reducible repeat (first | refine blk_drewN ?_ _ | refine blk_drew ?_ | refine blk_alloc ?_ _)); refine blk_put (cs := #[.int .u64 0, .int .i64 0]) ?_ 0 _ rfl; (with_reducible repeat (first | refine blk_drewN ?_ _ | refine blk_drew ?_ | refine blk_alloc ?_ _)); exact BK209.out⟩
                                  have n3_ : Aside0 (Below w.heap.size w ((w58.setCell ⟨gb209, 0, none⟩ (.int .u64 ((rd_T26 t195 x62_4).f0))).setCell ⟨gb209, 1, none⟩ (.int .i64 ((rd_T26 t195 x62_4).f1)))) := ⟨by repeat (first | (with_reducible first | exact HB.out | apply below_alloc | apply pw_below_drewN | apply below_drew1 | refine below_set ?_ GE209.out) | exact HB.out)⟩
                                  (try clear HO_5)
                                  (try clear HO_60)
                                  (try clear BK209)
                                  (try clear HB)
                                  generalize ((w58.setCell ⟨gb209, 0, none⟩ (.int .u64 ((rd_T26 t195 x62_4).f0))).setCell ⟨gb209, 1, none⟩ (.int .i64 ((rd_T26 t195 x62_4).f1))) = w60 at n0_ n1_ n2_ n3_ ⊢
                                  have HO_5 := n0_
                                  have HO_60 := n1_
                                  have BK209 := n2_
                                  have HB := n3_
                                  clear n0_ n1_ n2_ n3_
                                  have n0_ := Aside0.mk (Kd.R_drew HO_5.out)
                                  have n1_ := Aside0.mk (Kd.R_drew HO_60.out)
                                  have n2_ := Aside0.mk (blk_drew BK209.out)
                                  have n3_ := Aside0.mk (below_drew1 HB.out)
                                  clear HO_5
                                  clear HO_60
                                  clear BK209
                                  clear HB
                                  have HO_5 := n0_
                                  have HO_60 := n1_
                                  have BK209 := n2_
                                  have HB := n3_
                                  clear n0_ n1_ n2_ n3_
                                  refine start_ (n := 7) (S := fun w' => w'.cell? ⟨gb209, 0, none⟩ = some (.int .u64 ((rd_T26 t195 x62_4).f0)) ∧ w'.cell? ⟨gb209, 1, none⟩ = some (.int .i64 ((rd_T26 t195 x62_4).f1))) (ds := []) #[false, false, false, false, false, false, false] (by kernel_rfl) rfl rfl ⟨(blk_cell BK209.out 0).trans rfl, (blk_cell BK209.out 1).trans rfl⟩ (fun hHeld => ?_)
                                  generalize w60.drew = w61 at HO_5 HO_60 BK209 HB hHeld ⊢
                                  refine pure_ (i := 0) (N := some 66) (v := ?_) (a' := ?_) #[true, false, false, false, false, false, false] rfl rfl (by kernel_rfl) (fun _ _ _ h => h) (Or.inl ⟨by rfl, ?_⟩) ?_ ?_
                                  rotate_left
                                  · intro w'
                                    go_simp
                                    with_reducible rfl
                                  rotate_left
                                  · simp only [Act.put, List.setIfInBounds_toArray, List.set_cons_zero, List.set_cons_succ, i64_w, i32_w]
                                    rfl
                                  refine pure_ (i := 1) (N := some 67) (v := ?_) (a' := ?_) #[true, true, false, false, false, false, false] rfl rfl (by kernel_rfl) (fun _ _ _ h => h) (Or.inl ⟨by rfl, ?_⟩) ?_ ?_
                                  rotate_left
                                  · intro w'
                                    go_simp
                                    with_reducible rfl
                                  rotate_left
                                  · simp only [Act.put, List.setIfInBounds_toArray, List.set_cons_zero, List.set_cons_succ, i64_w, i32_w]
                                    rfl
                                  refine pure_ (i := 4) (N := some 70) (v := ?_) (a' := ?_) #[true, true, false, false, true, false, false] rfl rfl (by kernel_rfl) (fun _ _ _ h => h) (Or.inl ⟨by rfl, ?_⟩) ?_ ?_
                                  rotate_left
                                  · intro w'
                                    go_simp
                                    with_reducible rfl
                                  rotate_left
                                  · simp only [Act.put, List.setIfInBounds_toArray, List.set_cons_zero, List.set_cons_succ, i64_w, i32_w]
                                    rfl
                                  refine take_ (i := 2) (N := some 68) (v := ?_) (a' := ?_) #[true, true, true, false, true, false, false] rfl rfl (by kernel_rfl) (fun _ _ _ h => h) (Or.inl ⟨by rfl, ?_⟩) hHeld ?_ ?_
                                  rotate_left
                                  · rintro w' ⟨s0, s1⟩
                                    go_simp
                                    with_reducible rfl
                                  rotate_left
                                  · simp only [Act.put, List.setIfInBounds_toArray, List.set_cons_zero, List.set_cons_succ, i64_w, i32_w]
                                    rfl
                                  refine take_ (i := 5) (N := some 71) (v := ?_) (a' := ?_) #[true, true, true, false, true, true, false] rfl rfl (by kernel_rfl) (fun _ _ _ h => h) (Or.inl ⟨by rfl, ?_⟩) hHeld ?_ ?_
                                  rotate_left
                                  · rintro w' ⟨s0, s1⟩
                                    go_simp
                                    with_reducible rfl
                                  rotate_left
                                  · simp only [Act.put, List.setIfInBounds_toArray, List.set_cons_zero, List.set_cons_succ, i64_w, i32_w]
                                    rfl
                                  refine one_ (i := 3) (N := some 69) #[true, true, true, true, true, true, false] rfl rfl (by kernel_rfl) (by decide) (fun K hK => ?_)
                                  refine goes_ Try.func16 (by kernel_rfl) rfl #[.slice (some ad208) t195.length co47, .int .u64 ((rd_T26 t195 x62_4).f0)] (by rfl) rfl rfl (by (try simp only [List.map_toArray, List.map_cons, List.map_nil]); first | done | rfl | (simp only [List.length_drop, List.length_take]; rfl)) ?_
                                  with_reducible refine (atom_Value.calls _ _ t195 ((rd_T26 t195 x62_4).f0) t210 _ ?side1 ?side2 A51.out).mono ?_
                                  (case side1 => repeat (first | exact (Kd.R_reads' HO_5.out).2.2 | (with_reducible refine Kd.C_alloc ?_ _) | (with_reducible refine Kd.C_drewN ?_ _) | (with_reducible refine Kd.C_drew ?_)))
                                  (case side2 => exact (Kd.R_reads' HO_5.out).2.1)
                                  rintro e w62 ⟨rfl, hb⟩
                                  refine ⟨_, rfl, ?_⟩
                                  have n0_ := Aside0.mk (Kd.R_below (by (with_reducible repeat (first | apply Kd.R_alloc | apply Kd.R_drewN | apply Kd.R_drew)); exact HO_5.out) hb)
                                  have n1_ := Aside0.mk (Kd.R_below (by (with_reducible repeat (first | apply Kd.R_alloc | apply Kd.R_drewN | apply Kd.R_drew)); exact HO_60.out) hb)
                                  have n2_ := Aside0.mk (blk_below (g := gb209) (o := .cells #[.int .u64 ((rd_T26 t195 x62_4).f0), .int .i64 ((rd_T26 t195 x62_4).f1)] 26 (0, 0)) (by (with_reducible repeat (first | refine blk_drewN ?_ _ | refine blk_drew ?_ | refine blk_alloc ?_ _)); exact BK209.out) hb)
                                  have n3_ := Aside0.mk (below_step (by repeat (first | (with_reducible first | exact HB.out | apply below_alloc | apply pw_below_drewN | apply below_drew1 | refine below_set ?_ GE209.out) | exact HB.out)) hb)
                                  clear HO_5
                                  clear HO_60
                                  clear BK209
                                  clear HB
                                  have HO_5 := n0_
                                  have HO_60 := n1_
                                  have BK209 := n2_
                                  have HB := n3_
                                  clear n0_ n1_ n2_ n3_
                                  (try clear hb)
                                  (try clear hb2)
                                  (try clear hk)
                                  (try clear hi)
                                  refine hK.out _ _ ⟨(blk_cell BK209.out 0).trans rfl, (blk_cell BK209.out 1).trans rfl⟩ (fun hHeld => ?_)
                                  clear hK K
                                  refine norm_ (a' := ?_) ?_ ?_
                                  rotate_left
                                  · show Act.put _ (some 69) _ = _
                                    simp only [Act.put, List.setIfInBounds_toArray, List.set_cons_zero, List.set_cons_succ, i64_w, i32_w]
                                    rfl
                                  refine pure_ (i := 6) (N := some 72) (v := ?_) (a' := ?_) #[true, true, true, true, true, true, true] rfl rfl (by kernel_rfl) (fun _ _ _ h => h) (Or.inl ⟨by rfl, ?_⟩) ?_ ?_
                                  rotate_left
                                  · intro w'
                                    go_simp
                                    with_reducible rfl
                                  rotate_left
                                  · simp only [Act.put, List.setIfInBounds_toArray, List.set_cons_zero, List.set_cons_succ, i64_w, i32_w]
                                    rfl
                                  refine done_ (by kernel_rfl) ?_
                                  try go_wp2
                                  go_ret
                                  exact ⟨by first | rfl | (simp [errW_none, errW_some] <;> rfl) | (simp [*, errW_none, errW_some] <;> rfl), by repeat (first | (with_reducible first | exact HB.out | apply below_alloc | apply pw_below_drewN | apply below_drew1 | refine below_set ?_ GE209.out) | exact HB.out)⟩
                              · rw [if_neg c50] at H
                                exact absurd H (by simp)
                            · rw [if_neg c49] at H
                              exact absurd H (by simp)
                          · rw [if_neg c48] at H
                            have c48b0 : decide (x62_4 < (t195.length : Int)) = false := decide_eq_false c48
                            clear c48
                            obtain rfl := Option.some.inj H
                            go_wp2
                            go_ret
                            exact ⟨by first | rfl | (simp [errW_none, errW_some] <;> rfl) | (simp [*, errW_none, errW_some] <;> rfl), by repeat (first | (with_reducible first | exact HB.out | apply below_alloc | apply pw_below_drewN | apply below_drew1) | exact HB.out)⟩
  · replace c4 := Bool.eq_false_iff.mpr c4
    subst c4
    have H1 : (some false) = some r := by rw [if_neg (show ¬ (false = true) by decide)] at H; exact H
    clear H
    have H := H1
    clear H1
    obtain rfl := Option.some.inj H
    go_enter Try.func4, Try.ntmps4
    go_wp2_with (first | ((with_reducible refine gate_callee (f := 7) rfl ?_); refine goesL_ (some 10) rfl rfl Try.func7 (by kernel_rfl) rfl #[] rfl (by (try simp only [List.map_toArray, List.map_cons, List.map_nil]); first | done | rfl | (simp only [List.length_drop, List.length_take]; rfl)) ?_; (with_reducible refine (saleroomlaw09_alive.calls  false _ A3.out).mono ?_); rintro e w63 ⟨rfl, hb⟩; refine ⟨_, rfl, ?_⟩; have n0_ := Aside0.mk (below_step (by repeat (first | (with_reducible first | exact HB.out | apply below_alloc | apply pw_below_drewN | apply below_drew1) | exact HB.out)) hb); clear HB; have HB := n0_; clear n0_; (try clear hb); (try clear hb2); (try clear hk); (try clear hi)))
    go_ret
    exact ⟨by first | rfl | (simp [errW_none, errW_some] <;> rfl) | (simp [*, errW_none, errW_some] <;> rfl), by repeat (first | (with_reducible first | exact HB.out | apply below_alloc | apply pw_below_drewN | apply below_drew1) | exact HB.out)⟩

end Go.Proofs.Ytbicngaanhmabaa.PAll9
