/- Some texts of one seat in one file, in build order. -/
import Derived.Test.YtmcapemlfplcgaaDoorG9
import Derived.Test.YtmcapemlfplcgaaDoorG10
-- PRINTED BY A CHANGED COPY OF THE PRINT (wip/tools/patch_print.py), over contracts by hand
namespace Go.Proofs.YtmcapemlfplcgaaDoor.PAll2
open Go.RowKit Go.Proofs.YtmcapemlfplcgaaDoorW.PrintWords Go.Proofs.YtmcapemlfplcgaaDoorW.PrintLast Go.Proofs.YtmcapemlfplcgaaDoorW.PrintMore
attribute [local go_sem] max2_int min2_int max_two min_two max_three min_three max_four min_four   -- for this text's walks alone
set_option linter.unusedVariables false
set_option linter.unusedSimpArgs false

/-! ### saleroomref02_Read: function 26 -/
mutual
def saleroomref02_Read.j0 : Nat → ByteArray → Bool → Option (Int × Int)
  | 0, _, _ => none
  | k + 1, x0, x24 => if x24 = true then (some (0, 20)) else (saleroomref02_Read.l0 k x0 (([] : List Int)) 0 0 1)
def saleroomref02_Read.l0 : Nat → ByteArray → List Int → Int → Int → Int → Option (Int × Int)
  | 0, _, _, _, _, _ => none
  | k + 1, x0, x4, x5, x6, x7 => if x7 < (x0.size : Int) then (if 0 ≤ x7 then (if (bt x0 x7) ≥ 48 then (if (bt x0 x7) ≤ 57 then (saleroomref02_Read.j2 k x0 x4 x5 x6 x7 (bt x0 x7) (decide (x6 < 2))) else (saleroomref02_Read.j2 k x0 x4 x5 x6 x7 (bt x0 x7) false)) else (saleroomref02_Read.j2 k x0 x4 x5 x6 x7 (bt x0 x7) false)) else (none)) else ((saleroomref02_Of.f k x4).bind fun t142 => (some (t142, 0)))
def saleroomref02_Read.j2 : Nat → ByteArray → List Int → Int → Int → Int → Int → Bool → Option (Int × Int)
  | 0, _, _, _, _, _, _, _ => none
  | k + 1, x0, x4, x5, x6, x7, x8, x44 => if x44 = true then (saleroomref02_Read.l0 k x0 x4 (wrap64 ((wrap64 (x5 * 10)) + ((x8 - 48) % 256))) (wrap64 (x6 + 1)) (wrap64 (x7 + 1))) else (if x8 = 125 then (if x7 = (wrap64 ((x0.size : Int) - 1)) then (if x6 = 0 then (saleroomref02_Read.j3 k x0 x4 x5 x6 x7 x8 ((x4.length : Int) == 0)) else (saleroomref02_Read.j3 k x0 x4 x5 x6 x7 x8 false)) else (saleroomref02_Read.j3 k x0 x4 x5 x6 x7 x8 false)) else (saleroomref02_Read.j3 k x0 x4 x5 x6 x7 x8 false))
def saleroomref02_Read.j3 : Nat → ByteArray → List Int → Int → Int → Int → Int → Bool → Option (Int × Int)
  | 0, _, _, _, _, _, _, _ => none
  | k + 1, x0, x4, x5, x6, x7, x8, x70 => if x70 = true then (some (0, 0)) else (if x8 = 44 then (if x6 = 0 then (some (0, 20)) else (if x5 > 63 then (some (0, 20)) else (if x6 = 2 then (if x5 < 10 then (some (0, 20)) else (if (x4.length : Int) > 0 then (if 0 ≤ (wrap64 ((x4.length : Int) - 1)) then (if (wrap64 ((x4.length : Int) - 1)) < (x4.length : Int) then (if (rd x4 (wrap64 ((x4.length : Int) - 1))) ≥ x5 then (some (0, 20)) else (if x4.length < 17592186044416 then (saleroomref02_Read.l0 k x0 (x4 ++ [x5]) 0 0 (wrap64 (x7 + 1))) else (none))) else (none)) else (none)) else (if x4.length < 17592186044416 then (saleroomref02_Read.l0 k x0 (x4 ++ [x5]) 0 0 (wrap64 (x7 + 1))) else (none)))) else (if (x4.length : Int) > 0 then (if 0 ≤ (wrap64 ((x4.length : Int) - 1)) then (if (wrap64 ((x4.length : Int) - 1)) < (x4.length : Int) then (if (rd x4 (wrap64 ((x4.length : Int) - 1))) ≥ x5 then (some (0, 20)) else (if x4.length < 17592186044416 then (saleroomref02_Read.l0 k x0 (x4 ++ [x5]) 0 0 (wrap64 (x7 + 1))) else (none))) else (none)) else (none)) else (if x4.length < 17592186044416 then (saleroomref02_Read.l0 k x0 (x4 ++ [x5]) 0 0 (wrap64 (x7 + 1))) else (none)))))) else (if x8 = 125 then (if x7 = (wrap64 ((x0.size : Int) - 1)) then (if x6 = 0 then (some (0, 20)) else (if x5 > 63 then (some (0, 20)) else (if x6 = 2 then (if x5 < 10 then (some (0, 20)) else (if (x4.length : Int) > 0 then (if 0 ≤ (wrap64 ((x4.length : Int) - 1)) then (if (wrap64 ((x4.length : Int) - 1)) < (x4.length : Int) then (if (rd x4 (wrap64 ((x4.length : Int) - 1))) ≥ x5 then (some (0, 20)) else (if x4.length < 17592186044416 then (saleroomref02_Read.l0 k x0 (x4 ++ [x5]) 0 0 (wrap64 (x7 + 1))) else (none))) else (none)) else (none)) else (if x4.length < 17592186044416 then (saleroomref02_Read.l0 k x0 (x4 ++ [x5]) 0 0 (wrap64 (x7 + 1))) else (none)))) else (if (x4.length : Int) > 0 then (if 0 ≤ (wrap64 ((x4.length : Int) - 1)) then (if (wrap64 ((x4.length : Int) - 1)) < (x4.length : Int) then (if (rd x4 (wrap64 ((x4.length : Int) - 1))) ≥ x5 then (some (0, 20)) else (if x4.length < 17592186044416 then (saleroomref02_Read.l0 k x0 (x4 ++ [x5]) 0 0 (wrap64 (x7 + 1))) else (none))) else (none)) else (none)) else (if x4.length < 17592186044416 then (saleroomref02_Read.l0 k x0 (x4 ++ [x5]) 0 0 (wrap64 (x7 + 1))) else (none)))))) else (some (0, 20))) else (some (0, 20))))
end
def saleroomref02_Read.f (k : Nat) (a0 : ByteArray) : Option (Int × Int) := if (a0.size : Int) < 2 then (saleroomref02_Read.j0 k a0 true) else (if 0 < (a0.size : Int) then (if (bt a0 0) = 123 then (if 0 ≤ (wrap64 ((a0.size : Int) - 1)) then (if (wrap64 ((a0.size : Int) - 1)) < (a0.size : Int) then (saleroomref02_Read.j0 k a0 ((bt a0 (wrap64 ((a0.size : Int) - 1))) != 125)) else (none)) else (none)) else (saleroomref02_Read.j0 k a0 true)) else (none))
theorem saleroomref02_Read.mono_l : ∀ k, (∀ y0 y1, LeO (saleroomref02_Read.j0 k y0 y1) (saleroomref02_Read.j0 (k + 1) y0 y1)) ∧ (∀ y0 y1 y2 y3 y4, LeO (saleroomref02_Read.l0 k y0 y1 y2 y3 y4) (saleroomref02_Read.l0 (k + 1) y0 y1 y2 y3 y4)) ∧ (∀ y0 y1 y2 y3 y4 y5 y6, LeO (saleroomref02_Read.j2 k y0 y1 y2 y3 y4 y5 y6) (saleroomref02_Read.j2 (k + 1) y0 y1 y2 y3 y4 y5 y6)) ∧ (∀ y0 y1 y2 y3 y4 y5 y6, LeO (saleroomref02_Read.j3 k y0 y1 y2 y3 y4 y5 y6) (saleroomref02_Read.j3 (k + 1) y0 y1 y2 y3 y4 y5 y6))
  | 0 => ⟨fun _ _ r h => by simp [saleroomref02_Read.j0] at h, fun _ _ _ _ _ r h => by simp [saleroomref02_Read.l0] at h, fun _ _ _ _ _ _ _ r h => by simp [saleroomref02_Read.j2] at h, fun _ _ _ _ _ _ _ r h => by simp [saleroomref02_Read.j3] at h⟩
  | k + 1 => by
    obtain ⟨ih0, ih1, ih2, ih3⟩ := saleroomref02_Read.mono_l k
    refine ⟨?_, ?_, ?_, ?_⟩
    · intro y0 y1
      unfold saleroomref02_Read.j0
      repeat' first
      | (with_reducible exact ih0 _ _)
      | (with_reducible exact ih1 _ _ _ _ _)
      | (with_reducible exact ih2 _ _ _ _ _ _ _)
      | (with_reducible exact ih3 _ _ _ _ _ _ _)
      | (with_reducible exact saleroomref02_Of.mono _ _)
      | (with_reducible exact LeO.refl _)
      | (with_reducible exact LeO.none _)
      | (with_reducible refine LeO.ite ?_ ?_)
      | (with_reducible refine LeO.bind ?_ (fun _ => ?_))
      | exact ih0 _ _
      | exact ih1 _ _ _ _ _
      | exact ih2 _ _ _ _ _ _ _
      | exact ih3 _ _ _ _ _ _ _
      | exact saleroomref02_Of.mono _ _
      | exact LeO.none _
      | refine LeO.ite ?_ ?_
      | refine LeO.bind ?_ (fun _ => ?_)
    · intro y0 y1 y2 y3 y4
      unfold saleroomref02_Read.l0
      repeat' first
      | (with_reducible exact ih0 _ _)
      | (with_reducible exact ih1 _ _ _ _ _)
      | (with_reducible exact ih2 _ _ _ _ _ _ _)
      | (with_reducible exact ih3 _ _ _ _ _ _ _)
      | (with_reducible exact saleroomref02_Of.mono _ _)
      | (with_reducible exact LeO.refl _)
      | (with_reducible exact LeO.none _)
      | (with_reducible refine LeO.ite ?_ ?_)
      | (with_reducible refine LeO.bind ?_ (fun _ => ?_))
      | exact ih0 _ _
      | exact ih1 _ _ _ _ _
      | exact ih2 _ _ _ _ _ _ _
      | exact ih3 _ _ _ _ _ _ _
      | exact saleroomref02_Of.mono _ _
      | exact LeO.none _
      | refine LeO.ite ?_ ?_
      | refine LeO.bind ?_ (fun _ => ?_)
    · intro y0 y1 y2 y3 y4 y5 y6
      unfold saleroomref02_Read.j2
      repeat' first
      | (with_reducible exact ih0 _ _)
      | (with_reducible exact ih1 _ _ _ _ _)
      | (with_reducible exact ih2 _ _ _ _ _ _ _)
      | (with_reducible exact ih3 _ _ _ _ _ _ _)
      | (with_reducible exact saleroomref02_Of.mono _ _)
      | (with_reducible exact LeO.refl _)
      | (with_reducible exact LeO.none _)
      | (with_reducible refine LeO.ite ?_ ?_)
      | (with_reducible refine LeO.bind ?_ (fun _ => ?_))
      | exact ih0 _ _
      | exact ih1 _ _ _ _ _
      | exact ih2 _ _ _ _ _ _ _
      | exact ih3 _ _ _ _ _ _ _
      | exact saleroomref02_Of.mono _ _
      | exact LeO.none _
      | refine LeO.ite ?_ ?_
      | refine LeO.bind ?_ (fun _ => ?_)
    · intro y0 y1 y2 y3 y4 y5 y6
      unfold saleroomref02_Read.j3
      repeat' first
      | (with_reducible exact ih0 _ _)
      | (with_reducible exact ih1 _ _ _ _ _)
      | (with_reducible exact ih2 _ _ _ _ _ _ _)
      | (with_reducible exact ih3 _ _ _ _ _ _ _)
      | (with_reducible exact saleroomref02_Of.mono _ _)
      | (with_reducible exact LeO.refl _)
      | (with_reducible exact LeO.none _)
      | (with_reducible refine LeO.ite ?_ ?_)
      | (with_reducible refine LeO.bind ?_ (fun _ => ?_))
      | exact ih0 _ _
      | exact ih1 _ _ _ _ _
      | exact ih2 _ _ _ _ _ _ _
      | exact ih3 _ _ _ _ _ _ _
      | exact saleroomref02_Of.mono _ _
      | exact LeO.none _
      | refine LeO.ite ?_ ?_
      | refine LeO.bind ?_ (fun _ => ?_)
theorem saleroomref02_Read.mono : ∀ a0 k, LeO (saleroomref02_Read.f k a0) (saleroomref02_Read.f (k + 1) a0) := by
  intro a0 k
  obtain ⟨ih0, ih1, ih2, ih3⟩ := saleroomref02_Read.mono_l k
  unfold saleroomref02_Read.f
  repeat' first
      | (with_reducible exact ih0 _ _)
      | (with_reducible exact ih1 _ _ _ _ _)
      | (with_reducible exact ih2 _ _ _ _ _ _ _)
      | (with_reducible exact ih3 _ _ _ _ _ _ _)
      | (with_reducible exact saleroomref02_Of.mono _ _)
      | (with_reducible exact LeO.refl _)
      | (with_reducible exact LeO.none _)
      | (with_reducible refine LeO.ite ?_ ?_)
      | (with_reducible refine LeO.bind ?_ (fun _ => ?_))
      | exact ih0 _ _
      | exact ih1 _ _ _ _ _
      | exact ih2 _ _ _ _ _ _ _
      | exact ih3 _ _ _ _ _ _ _
      | exact saleroomref02_Of.mono _ _
      | exact LeO.none _
      | refine LeO.ite ?_ ?_
      | refine LeO.bind ?_ (fun _ => ?_)
set_option maxHeartbeats 8000000 in
set_option maxRecDepth 100000 in
theorem saleroomref02_Read.calls (k : Nat) (a0 : ByteArray) (r1 : Int) (r2 : Int) (w : World) (h : saleroomref02_Read.f k a0 = some (r1, r2)) :
    Calls Tryd.prog 26 #[.string a0] w fun e w' => e = .returned (.tuple #[.int .u64 r1, .int .i64 r2]) ∧ Below w.heap.size w w' := by
  have HB := Aside0.mk (Below.refl w.heap.size w)
  have H : (if (a0.size : Int) < 2 then (saleroomref02_Read.j0 k a0 true) else (if 0 < (a0.size : Int) then (if (bt a0 0) = 123 then (if 0 ≤ (wrap64 ((a0.size : Int) - 1)) then (if (wrap64 ((a0.size : Int) - 1)) < (a0.size : Int) then (saleroomref02_Read.j0 k a0 ((bt a0 (wrap64 ((a0.size : Int) - 1))) != 125)) else (none)) else (none)) else (saleroomref02_Read.j0 k a0 true)) else (none))) = some (r1, r2) := h
  clear h
  have HC2 := Aside0.mk H
  clear H
  go_enter Tryd.func26, Tryd.ntmps26
  go_upto_region 1 with (fail)
  go_cut [24] (fun v24 wc => ∃ (kq : Nat) (x24_1 : Bool), v24 = .bool x24_1 ∧ Aside0 (saleroomref02_Read.j0 kq a0 x24_1 = some (r1, r2)) ∧ Aside0 (kq ≤ k) ∧ Aside0 (Below w.heap.size w wc))
  case first =>
    have H := HC2.out
    clear HC2
    by_cases c3 : (a0.size : Int) < 2
    · rw [if_pos c3] at H
      have c3b0 : decide ((a0.size : Int) < 2) = true := decide_eq_true c3
      have c3b1 : decide (a0.size < 2) = true := decide_eq_true (by omega)
      clear c3
      (first | rw [c3b0] | (simp only [i64_w, i32_w]; rw [c3b0]) | skip)
      have H' := Aside0.mk H
      clear H
      go_wp2
      go_meet
      case rel => exact ⟨_, (true), (by first | rfl | (simp; done) | (simp [*]; done)), H', ⟨by first | omega | exact Nat.le_refl _⟩, ⟨by repeat (first | (with_reducible first | exact HB.out | apply below_alloc | apply pw_below_drewN | apply below_drew1) | exact HB.out)⟩⟩
    · rw [if_neg c3] at H
      have c3b0 : decide ((a0.size : Int) < 2) = false := decide_eq_false c3
      have c3b1 : decide (a0.size < 2) = false := decide_eq_false (by omega)
      clear c3
      (first | rw [c3b0] | (simp only [i64_w, i32_w]; rw [c3b0]) | skip)
      by_cases c4 : 0 < (a0.size : Int)
      · rw [if_pos c4] at H
        have c4b0 : decide (0 < (a0.size : Int)) = true := decide_eq_true c4
        have c4b1 : decide (0 < a0.size) = true := decide_eq_true (by omega)
        clear c4
        by_cases c6 : (bt a0 0) = 123
        · rw [if_pos c6] at H
          have c6b0 : ((bt a0 0) == 123) = true := beq_iff_eq.mpr c6
          have c6b1 : ((bt a0 0) != 123) = false := bne_eq_false_iff_eq.mpr c6
          clear c6
          obtain ⟨ji7, hji7⟩ : ∃ j_ : Int, (wrap64 ((a0.size : Int) - 1)) = j_ := ⟨_, rfl⟩
          replace H : (if 0 ≤ (ji7) then (if (ji7) < (a0.size : Int) then (saleroomref02_Read.j0 k a0 ((bt a0 (ji7)) != 125)) else (none)) else (none)) = some (r1, r2) := by first | (rw [hji7] at H; exact H) | (simp only [hji7] at H ⊢; exact H)
          have hji7w : (IntKind.i64.wrap ((a0.size : Int) - 1)) = ji7 := (i64_w _).trans hji7
          by_cases c8 : 0 ≤ (ji7)
          · rw [if_pos c8] at H
            have c8b0 : decide (0 ≤ (ji7)) = true := decide_eq_true c8
            clear c8
            by_cases c9 : (ji7) < (a0.size : Int)
            · rw [if_pos c9] at H
              have c9b0 : decide ((ji7) < (a0.size : Int)) = true := decide_eq_true c9
              clear c9
              have H' := Aside0.mk H
              clear H
              have p5 : 0 ≤ (0 : Int) := (by omega)
              have q5 : 0 < a0.size := (by have : (0 : Int) < (a0.size : Int) := of_decide_eq_true (by first | (with_reducible assumption) | assumption); omega)
              have hx5 : ∀ h : 0 < a0.size, ((a0[0]'h).toNat : Int) = bt a0 0 := bt_at a0 0
              clear p5
              have qi5 : (0 < (a0.size : Int)) = True := eq_true (of_decide_eq_true (by first | (with_reducible assumption) | assumption))
              replace q5 := eq_true q5
              have p10 : 0 ≤ ((ji7) : Int) := of_decide_eq_true (by first | (with_reducible assumption) | assumption)
              have q10 : (ji7) < (a0.size : Int) := of_decide_eq_true (by first | (with_reducible assumption) | assumption)
              have hx10 := bt_at a0 (ji7)
              replace p10 := eq_true p10
              replace q10 := eq_true q10
              go_wp2
              go_meet
              case rel => exact ⟨_, (((bt a0 (ji7)) != 125)), (by first | rfl | (simp; done) | (simp only [← hji7] <;> (first | rfl | simp)) | (simp [*]; done)), H', ⟨by first | omega | exact Nat.le_refl _⟩, ⟨by repeat (first | (with_reducible first | exact HB.out | apply below_alloc | apply pw_below_drewN | apply below_drew1) | exact HB.out)⟩⟩
            · rw [if_neg c9] at H
              exact absurd H (by simp)
          · rw [if_neg c8] at H
            exact absurd H (by simp)
        · rw [if_neg c6] at H
          have c6b0 : ((bt a0 0) == 123) = false := beq_eq_false_iff_ne.mpr c6
          have c6b1 : ((bt a0 0) != 123) = true := bne_iff_ne.mpr c6
          have H' := Aside0.mk H
          clear H
          have p5 : 0 ≤ (0 : Int) := (by omega)
          have q5 : 0 < a0.size := (by have : (0 : Int) < (a0.size : Int) := of_decide_eq_true (by first | (with_reducible assumption) | assumption); omega)
          have hx5 : ∀ h : 0 < a0.size, ((a0[0]'h).toNat : Int) = bt a0 0 := bt_at a0 0
          clear p5
          have qi5 : (0 < (a0.size : Int)) = True := eq_true (of_decide_eq_true (by first | (with_reducible assumption) | assumption))
          replace q5 := eq_true q5
          go_wp2
          go_meet
          case rel => exact ⟨_, (true), (by first | rfl | (simp; done) | (simp [*]; done)), H', ⟨by first | omega | exact Nat.le_refl _⟩, ⟨by repeat (first | (with_reducible first | exact HB.out | apply below_alloc | apply pw_below_drewN | apply below_drew1) | exact HB.out)⟩⟩
      · rw [if_neg c4] at H
        exact absurd H (by simp)
  case rest =>
    clear HC2
    try clear p1
    try clear q1
    try clear hx1
    try clear c2
    try clear p2
    try clear c3
    try clear c3b0
    try clear c3b1
    try clear c4
    try clear c4b0
    try clear c4b1
    try clear p5
    try clear q5
    try clear hx5
    try clear qi5
    try clear c6
    try clear c6b0
    try clear c6b1
    try clear p6
    try clear c8
    try clear c8b0
    try clear c9
    try clear c9b0
    try clear p10
    try clear q10
    try clear hx10
    try clear p10
    try clear p5
    try clear q10
    try clear q5
    obtain ⟨kq, x24_1, rfl, HA, HJ1, HB⟩ := hcut
    cases kq with
    | zero => exact absurd HA.out (by simp [saleroomref02_Read.j0])
    | succ kj1 =>
      have H := HA.out
      clear HA
      simp only [saleroomref02_Read.j0] at H
      by_cases c11 : x24_1 = true
      · subst c11
        have H1 : (some (0, 20)) = some (r1, r2) := by rw [if_pos rfl] at H; exact H
        clear H
        have H := H1
        clear H1
        simp only [Option.some.injEq, Prod.mk.injEq] at H
        obtain ⟨rfl, rfl⟩ := H
        go_wp2
        go_ret2
        exact ⟨by first | rfl | (simp [errW_none, errW_some] <;> rfl) | (simp [*, errW_none, errW_some] <;> rfl), by repeat (first | (with_reducible first | exact HB.out | apply below_alloc | apply pw_below_drewN | apply below_drew1) | exact HB.out)⟩
      · replace c11 := Bool.eq_false_iff.mpr c11
        subst c11
        have H1 : (saleroomref02_Read.l0 kj1 a0 (([] : List Int)) 0 0 1) = some (r1, r2) := by rw [if_neg (show ¬ (false = true) by decide)] at H; exact H
        clear H
        have H := H1
        clear H1
        obtain ⟨y139, hy139⟩ : ∃ y_ : List Int, y_ = (([] : List Int)) := ⟨_, rfl⟩
        replace H : (saleroomref02_Read.l0 kj1 a0 y139 0 0 1) = some (r1, r2) := by first | (rw [hy139]; with_reducible exact H) | (have H2_ := (Option.bind_some _ _).symm.trans H; rw [hy139]; with_reducible exact H2_) | (have H2_ := (Option.bind_some _ _).symm.trans H; with_reducible exact H2_) | with_reducible exact H | (rw [hy139]; exact H) | exact H
        have Ny139 := Aside0.mk hy139
        clear hy139
        have H' := Aside0.mk H
        clear H
        go_wp2_with (first | ((with_reducible refine gate_dst (N := 25) rfl ?_); (try (refine gate_guard (by rfl) ?_; dsimp only)); refine Kd.R_lit (Kd.int .i64) _ 3 ?hg (N := 25) ?hd (xs := ([] : List Int)) (inner := []) (ok := fun _ => True) (okp := fun _ => True) ?hr ?hp (fun _ hk => hk) trivial (Below.refl _ _) (Nat.le_refl _) (by simp) ?_; (case hd => rfl); (case hg => rfl); (case hr => first | (go_simp; done) | (go_simp; rfl)); (case hp => exact (Reps.none _ _)); intro v140 w12 ho13 hb hg_ hnew_; clear hg_ hnew_; (first | rw [← Ny139.out] at ho13 | (simp only [Int.reduceToNat] at ho13; rw [← Ny139.out] at ho13)); have n0_ := Aside0.mk (Kd.R_lower ho13 (below_size (by repeat (first | (with_reducible first | exact HB.out | apply below_alloc | apply pw_below_drewN | apply below_drew1) | exact HB.out)))); have n1_ := Aside0.mk (below_step (by repeat (first | (with_reducible first | exact HB.out | apply below_alloc | apply pw_below_drewN | apply below_drew1) | exact HB.out)) hb); clear HB; have HO141 := n0_; have HB := n1_; clear n0_ n1_; clear hb ho13))
        go_loopg [4, 5, 6, 7] kj1 (fun kq v4 v5 v6 v7 w' => ∃ (x4_2 : List Int) (x5_2 : Int) (x6_2 : Int) (x7_2 : Int), v5 = .int .i64 x5_2 ∧ v6 = .int .i64 x6_2 ∧ v7 = .int .i64 x7_2 ∧ Aside0 (saleroomref02_Read.l0 kq a0 x4_2 x5_2 x6_2 x7_2 = some (r1, r2)) ∧ Aside0 (kq ≤ kj1) ∧ Aside0 (Kd.R (Kd.int .i64) 3 w' w.heap.size (fun _ => True) v4 x4_2) ∧ Aside0 (Below w.heap.size w w'))
        case atStart => exact ⟨(y139), (0), (0), (1), (by first | rfl | (simp; done) | (simp [*]; done)), (by first | rfl | (simp; done) | (simp [*]; done)), (by first | rfl | (simp; done) | (simp [*]; done)), H', ⟨Nat.le_refl _⟩, ⟨by (with_reducible repeat (first | apply Kd.R_alloc | apply Kd.R_drewN | apply Kd.R_drew)); exact HO141.out⟩, ⟨by repeat (first | (with_reducible first | exact HB.out | apply below_alloc | apply pw_below_drewN | apply below_drew1) | exact HB.out)⟩⟩
        case round =>
          clear H'
          try clear c1
          try clear p1
          try clear q1
          try clear hx1
          try clear c2
          try clear p2
          try clear c3
          try clear c3b0
          try clear c3b1
          try clear c4
          try clear c4b0
          try clear c4b1
          try clear p5
          try clear q5
          try clear hx5
          try clear qi5
          try clear c6
          try clear c6b0
          try clear c6b1
          try clear p6
          try clear c8
          try clear c8b0
          try clear c9
          try clear c9b0
          try clear p10
          try clear q10
          try clear hx10
          try clear c11
          try clear p1
          try clear p10
          try clear p2
          try clear p5
          try clear p6
          try clear q1
          try clear q10
          try clear q5
          obtain ⟨x4_2, x5_2, x6_2, x7_2, rfl, rfl, rfl, HA, HK2, HO_4, HB⟩ := hrel
          cases gk with
          | zero => exact absurd HA.out (by simp [saleroomref02_Read.l0])
          | succ k2 =>
            have H := HA.out
            clear HA
            simp only [saleroomref02_Read.l0] at H
            by_cases c14 : x7_2 < (a0.size : Int)
            · rw [if_pos c14] at H
              have c14b0 : decide (x7_2 < (a0.size : Int)) = true := decide_eq_true c14
              clear c14
              by_cases c15 : 0 ≤ x7_2
              · rw [if_pos c15] at H
                have c15b0 : decide (0 ≤ x7_2) = true := decide_eq_true c15
                clear c15
                have HC17 := Aside0.mk H
                clear H
                have p16 : 0 ≤ (x7_2 : Int) := of_decide_eq_true (by first | (with_reducible assumption) | assumption)
                have q16 : x7_2 < (a0.size : Int) := of_decide_eq_true (by first | (with_reducible assumption) | assumption)
                have hx16 := bt_at a0 x7_2
                replace p16 := eq_true p16
                replace q16 := eq_true q16
                go_upto_region 9 with (fail)
                go_cut [44] (fun v44 wc => ∃ (kq : Nat) (x44_16 : Bool), v44 = .bool x44_16 ∧ Aside0 (saleroomref02_Read.j2 kq a0 x4_2 x5_2 x6_2 x7_2 (bt a0 x7_2) x44_16 = some (r1, r2)) ∧ Aside0 (kq ≤ k2) ∧ Aside0 (Kd.R (Kd.int .i64) 3 wc w.heap.size (fun _ => True) u4 x4_2) ∧ Aside0 (Below w.heap.size w wc))
                case first =>
                  have H := HC17.out
                  clear HC17
                  by_cases c18 : (bt a0 x7_2) ≥ 48
                  · rw [if_pos c18] at H
                    have c18b0 : decide (48 ≤ (bt a0 x7_2)) = true := decide_eq_true c18
                    clear c18
                    (first | rw [c18b0] | (simp only [i64_w, i32_w]; rw [c18b0]) | skip)
                    by_cases c19 : (bt a0 x7_2) ≤ 57
                    · rw [if_pos c19] at H
                      have c19b0 : decide ((bt a0 x7_2) ≤ 57) = true := decide_eq_true c19
                      clear c19
                      have H' := Aside0.mk H
                      clear H
                      go_wp2
                      go_meet
                      case rel => exact ⟨_, (decide (x6_2 < 2)), (by first | rfl | (simp; done) | (simp [*]; done)), H', ⟨by have := HJ1.out; have := HK2.out; first | omega | exact Nat.le_refl _⟩, ⟨by (with_reducible repeat (first | apply Kd.R_alloc | apply Kd.R_drewN | apply Kd.R_drew)); exact HO_4.out⟩, ⟨by repeat (first | (with_reducible first | exact HB.out | apply below_alloc | apply pw_below_drewN | apply below_drew1) | exact HB.out)⟩⟩
                    · rw [if_neg c19] at H
                      have c19b0 : decide ((bt a0 x7_2) ≤ 57) = false := decide_eq_false c19
                      clear c19
                      have H' := Aside0.mk H
                      clear H
                      go_wp2
                      go_meet
                      case rel => exact ⟨_, (false), (by first | rfl | (simp; done) | (simp [*]; done)), H', ⟨by have := HJ1.out; have := HK2.out; first | omega | exact Nat.le_refl _⟩, ⟨by (with_reducible repeat (first | apply Kd.R_alloc | apply Kd.R_drewN | apply Kd.R_drew)); exact HO_4.out⟩, ⟨by repeat (first | (with_reducible first | exact HB.out | apply below_alloc | apply pw_below_drewN | apply below_drew1) | exact HB.out)⟩⟩
                  · rw [if_neg c18] at H
                    have c18b0 : decide (48 ≤ (bt a0 x7_2)) = false := decide_eq_false c18
                    clear c18
                    (first | rw [c18b0] | (simp only [i64_w, i32_w]; rw [c18b0]) | skip)
                    have H' := Aside0.mk H
                    clear H
                    go_wp2
                    go_meet
                    case rel => exact ⟨_, (false), (by first | rfl | (simp; done) | (simp [*]; done)), H', ⟨by have := HJ1.out; have := HK2.out; first | omega | exact Nat.le_refl _⟩, ⟨by (with_reducible repeat (first | apply Kd.R_alloc | apply Kd.R_drewN | apply Kd.R_drew)); exact HO_4.out⟩, ⟨by repeat (first | (with_reducible first | exact HB.out | apply below_alloc | apply pw_below_drewN | apply below_drew1) | exact HB.out)⟩⟩
                case rest =>
                  clear HC17
                  try clear c1
                  try clear p1
                  try clear q1
                  try clear hx1
                  try clear c2
                  try clear p2
                  try clear c3
                  try clear c3b0
                  try clear c3b1
                  try clear c4
                  try clear c4b0
                  try clear c4b1
                  try clear p5
                  try clear q5
                  try clear hx5
                  try clear qi5
                  try clear c6
                  try clear c6b0
                  try clear c6b1
                  try clear p6
                  try clear c8
                  try clear c8b0
                  try clear c9
                  try clear c9b0
                  try clear p10
                  try clear q10
                  try clear hx10
                  try clear c11
                  try clear c14
                  try clear c14b0
                  try clear c15
                  try clear c15b0
                  try clear p16
                  try clear q16
                  try clear hx16
                  try clear c18
                  try clear c18b0
                  try clear c19
                  try clear c19b0
                  try clear p1
                  try clear p10
                  try clear p16
                  try clear p2
                  try clear p5
                  try clear p6
                  try clear q1
                  try clear q10
                  try clear q16
                  try clear q5
                  obtain ⟨kq, x44_16, rfl, HA, HJ16, HO_4, HB⟩ := hcut
                  cases kq with
                  | zero => exact absurd HA.out (by simp [saleroomref02_Read.j2])
                  | succ kj16 =>
                    have H := HA.out
                    clear HA
                    simp only [saleroomref02_Read.j2] at H
                    by_cases c20 : x44_16 = true
                    · subst c20
                      have H1 : (saleroomref02_Read.l0 kj16 a0 x4_2 (wrap64 ((wrap64 (x5_2 * 10)) + (((bt a0 x7_2) - 48) % 256))) (wrap64 (x6_2 + 1)) (wrap64 (x7_2 + 1))) = some (r1, r2) := by rw [if_pos rfl] at H; exact H
                      clear H
                      have H := H1
                      clear H1
                      have H' := Aside0.mk H
                      clear H
                      go_wp2
                      go_roundg kj16
                      case measure => have := HJ1.out; have := HK2.out; have := HJ16.out; omega
                      case rel => exact ⟨(x4_2), (wrap64 ((wrap64 (x5_2 * 10)) + (((bt a0 x7_2) - 48) % 256))), (wrap64 (x6_2 + 1)), (wrap64 (x7_2 + 1)), (by first | rfl | (simp; done) | (simp [*]; done)), (by first | rfl | (simp; done) | (simp [*]; done)), (by first | rfl | (simp; done) | (simp [*]; done)), H', ⟨by have := HJ1.out; have := HK2.out; have := HJ16.out; omega⟩, ⟨by (with_reducible repeat (first | apply Kd.R_alloc | apply Kd.R_drewN | apply Kd.R_drew)); exact HO_4.out⟩, ⟨by repeat (first | (with_reducible first | exact HB.out | apply below_alloc | apply pw_below_drewN | apply below_drew1) | exact HB.out)⟩⟩
                    · replace c20 := Bool.eq_false_iff.mpr c20
                      subst c20
                      have H1 : (if (bt a0 x7_2) = 125 then (if x7_2 = (wrap64 ((a0.size : Int) - 1)) then (if x6_2 = 0 then (saleroomref02_Read.j3 kj16 a0 x4_2 x5_2 x6_2 x7_2 (bt a0 x7_2) ((x4_2.length : Int) == 0)) else (saleroomref02_Read.j3 kj16 a0 x4_2 x5_2 x6_2 x7_2 (bt a0 x7_2) false)) else (saleroomref02_Read.j3 kj16 a0 x4_2 x5_2 x6_2 x7_2 (bt a0 x7_2) false)) else (saleroomref02_Read.j3 kj16 a0 x4_2 x5_2 x6_2 x7_2 (bt a0 x7_2) false)) = some (r1, r2) := by rw [if_neg (show ¬ (false = true) by decide)] at H; exact H
                      clear H
                      have H := H1
                      clear H1
                      have HC21 := Aside0.mk H
                      clear H
                      go_upto_region 12 with (fail)
                      go_cut [70] (fun v70 wc => ∃ (kq : Nat) (x70_20 : Bool), v70 = .bool x70_20 ∧ Aside0 (saleroomref02_Read.j3 kq a0 x4_2 x5_2 x6_2 x7_2 (bt a0 x7_2) x70_20 = some (r1, r2)) ∧ Aside0 (kq ≤ kj16) ∧ Aside0 (Kd.R (Kd.int .i64) 3 wc w.heap.size (fun _ => True) u4 x4_2) ∧ Aside0 (Below w.heap.size w wc))
                      case first =>
                        have H := HC21.out
                        clear HC21
                        by_cases c22 : (bt a0 x7_2) = 125
                        · rw [if_pos c22] at H
                          have c22b0 : ((bt a0 x7_2) == 125) = true := beq_iff_eq.mpr c22
                          have c22b1 : ((bt a0 x7_2) != 125) = false := bne_eq_false_iff_eq.mpr c22
                          clear c22
                          (first | rw [c22b0] | (simp only [i64_w, i32_w]; rw [c22b0]) | skip)
                          by_cases c23 : x7_2 = (wrap64 ((a0.size : Int) - 1))
                          · rw [if_pos c23] at H
                            have c23b0 : (x7_2 == (wrap64 ((a0.size : Int) - 1))) = true := beq_iff_eq.mpr c23
                            have c23b1 : (x7_2 != (wrap64 ((a0.size : Int) - 1))) = false := bne_eq_false_iff_eq.mpr c23
                            clear c23
                            by_cases c24 : x6_2 = 0
                            · rw [if_pos c24] at H
                              have c24b0 : (x6_2 == 0) = true := beq_iff_eq.mpr c24
                              have c24b1 : (x6_2 != 0) = false := bne_eq_false_iff_eq.mpr c24
                              clear c24
                              have H' := Aside0.mk H
                              clear H
                              obtain ⟨Ao25, co25, eo25⟩ := Kd.R_slice HO_4.out
                              subst eo25
                              go_wp2
                              go_meet
                              case rel => exact ⟨_, (((x4_2.length : Int) == 0)), (by first | rfl | (simp; done) | (simp [*]; done)), H', ⟨by have := HJ1.out; have := HK2.out; have := HJ16.out; first | omega | exact Nat.le_refl _⟩, ⟨by (with_reducible repeat (first | apply Kd.R_alloc | apply Kd.R_drewN | apply Kd.R_drew)); exact HO_4.out⟩, ⟨by repeat (first | (with_reducible first | exact HB.out | apply below_alloc | apply pw_below_drewN | apply below_drew1) | exact HB.out)⟩⟩
                            · rw [if_neg c24] at H
                              have c24b0 : (x6_2 == 0) = false := beq_eq_false_iff_ne.mpr c24
                              have c24b1 : (x6_2 != 0) = true := bne_iff_ne.mpr c24
                              have H' := Aside0.mk H
                              clear H
                              go_wp2
                              go_meet
                              case rel => exact ⟨_, (false), (by first | rfl | (simp; done) | (simp [*]; done)), H', ⟨by have := HJ1.out; have := HK2.out; have := HJ16.out; first | omega | exact Nat.le_refl _⟩, ⟨by (with_reducible repeat (first | apply Kd.R_alloc | apply Kd.R_drewN | apply Kd.R_drew)); exact HO_4.out⟩, ⟨by repeat (first | (with_reducible first | exact HB.out | apply below_alloc | apply pw_below_drewN | apply below_drew1) | exact HB.out)⟩⟩
                          · rw [if_neg c23] at H
                            have c23b0 : (x7_2 == (wrap64 ((a0.size : Int) - 1))) = false := beq_eq_false_iff_ne.mpr c23
                            have c23b1 : (x7_2 != (wrap64 ((a0.size : Int) - 1))) = true := bne_iff_ne.mpr c23
                            have H' := Aside0.mk H
                            clear H
                            go_wp2
                            go_meet
                            case rel => exact ⟨_, (false), (by first | rfl | (simp; done) | (simp [*]; done)), H', ⟨by have := HJ1.out; have := HK2.out; have := HJ16.out; first | omega | exact Nat.le_refl _⟩, ⟨by (with_reducible repeat (first | apply Kd.R_alloc | apply Kd.R_drewN | apply Kd.R_drew)); exact HO_4.out⟩, ⟨by repeat (first | (with_reducible first | exact HB.out | apply below_alloc | apply pw_below_drewN | apply below_drew1) | exact HB.out)⟩⟩
                        · rw [if_neg c22] at H
                          have c22b0 : ((bt a0 x7_2) == 125) = false := beq_eq_false_iff_ne.mpr c22
                          have c22b1 : ((bt a0 x7_2) != 125) = true := bne_iff_ne.mpr c22
                          (first | rw [c22b0] | (simp only [i64_w, i32_w]; rw [c22b0]) | skip)
                          have H' := Aside0.mk H
                          clear H
                          go_wp2
                          go_meet
                          case rel => exact ⟨_, (false), (by first | rfl | (simp; done) | (simp [*]; done)), H', ⟨by have := HJ1.out; have := HK2.out; have := HJ16.out; first | omega | exact Nat.le_refl _⟩, ⟨by (with_reducible repeat (first | apply Kd.R_alloc | apply Kd.R_drewN | apply Kd.R_drew)); exact HO_4.out⟩, ⟨by repeat (first | (with_reducible first | exact HB.out | apply below_alloc | apply pw_below_drewN | apply below_drew1) | exact HB.out)⟩⟩
                      case rest =>
                        clear HC21
                        try clear c1
                        try clear p1
                        try clear q1
                        try clear hx1
                        try clear c2
                        try clear p2
                        try clear c3
                        try clear c3b0
                        try clear c3b1
                        try clear c4
                        try clear c4b0
                        try clear c4b1
                        try clear p5
                        try clear q5
                        try clear hx5
                        try clear qi5
                        try clear c6
                        try clear c6b0
                        try clear c6b1
                        try clear p6
                        try clear c8
                        try clear c8b0
                        try clear c9
                        try clear c9b0
                        try clear p10
                        try clear q10
                        try clear hx10
                        try clear c11
                        try clear c14
                        try clear c14b0
                        try clear c15
                        try clear c15b0
                        try clear p16
                        try clear q16
                        try clear hx16
                        try clear c18
                        try clear c18b0
                        try clear c19
                        try clear c19b0
                        try clear c20
                        try clear c22
                        try clear c22b0
                        try clear c22b1
                        try clear c23
                        try clear c23b0
                        try clear c23b1
                        try clear c24
                        try clear c24b0
                        try clear c24b1
                        try clear p1
                        try clear p10
                        try clear p16
                        try clear p2
                        try clear p5
                        try clear p6
                        try clear q1
                        try clear q10
                        try clear q16
                        try clear q5
                        obtain ⟨kq, x70_20, rfl, HA, HJ20, HO_4, HB⟩ := hcut
                        cases kq with
                        | zero => exact absurd HA.out (by simp [saleroomref02_Read.j3])
                        | succ kj20 =>
                          have H := HA.out
                          clear HA
                          simp only [saleroomref02_Read.j3] at H
                          by_cases c26 : x70_20 = true
                          · subst c26
                            have H1 : (some (0, 0)) = some (r1, r2) := by rw [if_pos rfl] at H; exact H
                            clear H
                            have H := H1
                            clear H1
                            simp only [Option.some.injEq, Prod.mk.injEq] at H
                            obtain ⟨rfl, rfl⟩ := H
                            go_wp2
                            go_ret2
                            exact ⟨by first | rfl | (simp [errW_none, errW_some] <;> rfl) | (simp [*, errW_none, errW_some] <;> rfl), by repeat (first | (with_reducible first | exact HB.out | apply below_alloc | apply pw_below_drewN | apply below_drew1) | exact HB.out)⟩
                          · replace c26 := Bool.eq_false_iff.mpr c26
                            subst c26
                            have H1 : (if (bt a0 x7_2) = 44 then (if x6_2 = 0 then (some (0, 20)) else (if x5_2 > 63 then (some (0, 20)) else (if x6_2 = 2 then (if x5_2 < 10 then (some (0, 20)) else (if (x4_2.length : Int) > 0 then (if 0 ≤ (wrap64 ((x4_2.length : Int) - 1)) then (if (wrap64 ((x4_2.length : Int) - 1)) < (x4_2.length : Int) then (if (rd x4_2 (wrap64 ((x4_2.length : Int) - 1))) ≥ x5_2 then (some (0, 20)) else (if x4_2.length < 17592186044416 then (saleroomref02_Read.l0 kj20 a0 (x4_2 ++ [x5_2]) 0 0 (wrap64 (x7_2 + 1))) else (none))) else (none)) else (none)) else (if x4_2.length < 17592186044416 then (saleroomref02_Read.l0 kj20 a0 (x4_2 ++ [x5_2]) 0 0 (wrap64 (x7_2 + 1))) else (none)))) else (if (x4_2.length : Int) > 0 then (if 0 ≤ (wrap64 ((x4_2.length : Int) - 1)) then (if (wrap64 ((x4_2.length : Int) - 1)) < (x4_2.length : Int) then (if (rd x4_2 (wrap64 ((x4_2.length : Int) - 1))) ≥ x5_2 then (some (0, 20)) else (if x4_2.length < 17592186044416 then (saleroomref02_Read.l0 kj20 a0 (x4_2 ++ [x5_2]) 0 0 (wrap64 (x7_2 + 1))) else (none))) else (none)) else (none)) else (if x4_2.length < 17592186044416 then (saleroomref02_Read.l0 kj20 a0 (x4_2 ++ [x5_2]) 0 0 (wrap64 (x7_2 + 1))) else (none)))))) else (if (bt a0 x7_2) = 125 then (if x7_2 = (wrap64 ((a0.size : Int) - 1)) then (if x6_2 = 0 then (some (0, 20)) else (if x5_2 > 63 then (some (0, 20)) else (if x6_2 = 2 then (if x5_2 < 10 then (some (0, 20)) else (if (x4_2.length : Int) > 0 then (if 0 ≤ (wrap64 ((x4_2.length : Int) - 1)) then (if (wrap64 ((x4_2.length : Int) - 1)) < (x4_2.length : Int) then (if (rd x4_2 (wrap64 ((x4_2.length : Int) - 1))) ≥ x5_2 then (some (0, 20)) else (if x4_2.length < 17592186044416 then (saleroomref02_Read.l0 kj20 a0 (x4_2 ++ [x5_2]) 0 0 (wrap64 (x7_2 + 1))) else (none))) else (none)) else (none)) else (if x4_2.length < 17592186044416 then (saleroomref02_Read.l0 kj20 a0 (x4_2 ++ [x5_2]) 0 0 (wrap64 (x7_2 + 1))) else (none)))) else (if (x4_2.length : Int) > 0 then (if 0 ≤ (wrap64 ((x4_2.length : Int) - 1)) then (if (wrap64 ((x4_2.length : Int) - 1)) < (x4_2.length : Int) then (if (rd x4_2 (wrap64 ((x4_2.length : Int) - 1))) ≥ x5_2 then (some (0, 20)) else (if x4_2.length < 17592186044416 then (saleroomref02_Read.l0 kj20 a0 (x4_2 ++ [x5_2]) 0 0 (wrap64 (x7_2 + 1))) else (none))) else (none)) else (none)) else (if x4_2.length < 17592186044416 then (saleroomref02_Read.l0 kj20 a0 (x4_2 ++ [x5_2]) 0 0 (wrap64 (x7_2 + 1))) else (none)))))) else (some (0, 20))) else (some (0, 20)))) = some (r1, r2) := by rw [if_neg (show ¬ (false = true) by decide)] at H; exact H
                            clear H
                            have H := H1
                            clear H1
                            by_cases c27 : (bt a0 x7_2) = 44
                            · rw [if_pos c27] at H
                              have c27b0 : ((bt a0 x7_2) == 44) = true := beq_iff_eq.mpr c27
                              have c27b1 : ((bt a0 x7_2) != 44) = false := bne_eq_false_iff_eq.mpr c27
                              clear c27
                              by_cases c28 : x6_2 = 0
                              · rw [if_pos c28] at H
                                have c28b0 : (x6_2 == 0) = true := beq_iff_eq.mpr c28
                                have c28b1 : (x6_2 != 0) = false := bne_eq_false_iff_eq.mpr c28
                                clear c28
                                simp only [Option.some.injEq, Prod.mk.injEq] at H
                                obtain ⟨rfl, rfl⟩ := H
                                go_wp2
                                go_ret2
                                exact ⟨by first | rfl | (simp [errW_none, errW_some] <;> rfl) | (simp [*, errW_none, errW_some] <;> rfl), by repeat (first | (with_reducible first | exact HB.out | apply below_alloc | apply pw_below_drewN | apply below_drew1) | exact HB.out)⟩
                              · rw [if_neg c28] at H
                                have c28b0 : (x6_2 == 0) = false := beq_eq_false_iff_ne.mpr c28
                                have c28b1 : (x6_2 != 0) = true := bne_iff_ne.mpr c28
                                by_cases c29 : x5_2 > 63
                                · rw [if_pos c29] at H
                                  have c29b0 : decide (63 < x5_2) = true := decide_eq_true c29
                                  clear c29
                                  simp only [Option.some.injEq, Prod.mk.injEq] at H
                                  obtain ⟨rfl, rfl⟩ := H
                                  go_wp2
                                  go_ret2
                                  exact ⟨by first | rfl | (simp [errW_none, errW_some] <;> rfl) | (simp [*, errW_none, errW_some] <;> rfl), by repeat (first | (with_reducible first | exact HB.out | apply below_alloc | apply pw_below_drewN | apply below_drew1) | exact HB.out)⟩
                                · rw [if_neg c29] at H
                                  have c29b0 : decide (63 < x5_2) = false := decide_eq_false c29
                                  clear c29
                                  by_cases c30 : x6_2 = 2
                                  · rw [if_pos c30] at H
                                    have c30b0 : (x6_2 == 2) = true := beq_iff_eq.mpr c30
                                    have c30b1 : (x6_2 != 2) = false := bne_eq_false_iff_eq.mpr c30
                                    clear c30
                                    by_cases c31 : x5_2 < 10
                                    · rw [if_pos c31] at H
                                      have c31b0 : decide (x5_2 < 10) = true := decide_eq_true c31
                                      clear c31
                                      simp only [Option.some.injEq, Prod.mk.injEq] at H
                                      obtain ⟨rfl, rfl⟩ := H
                                      go_wp2
                                      go_ret2
                                      exact ⟨by first | rfl | (simp [errW_none, errW_some] <;> rfl) | (simp [*, errW_none, errW_some] <;> rfl), by repeat (first | (with_reducible first | exact HB.out | apply below_alloc | apply pw_below_drewN | apply below_drew1) | exact HB.out)⟩
                                    · rw [if_neg c31] at H
                                      have c31b0 : decide (x5_2 < 10) = false := decide_eq_false c31
                                      clear c31
                                      by_cases c32 : (x4_2.length : Int) > 0
                                      · rw [if_pos c32] at H
                                        have c32b0 : decide (0 < (x4_2.length : Int)) = true := decide_eq_true c32
                                        have c32b1 : decide (0 < x4_2.length) = true := decide_eq_true (by omega)
                                        clear c32
                                        obtain ⟨ji33, hji33⟩ : ∃ j_ : Int, (wrap64 ((x4_2.length : Int) - 1)) = j_ := ⟨_, rfl⟩
                                        replace H : (if 0 ≤ (ji33) then (if (ji33) < (x4_2.length : Int) then (if (rd x4_2 (ji33)) ≥ x5_2 then (some (0, 20)) else (if x4_2.length < 17592186044416 then (saleroomref02_Read.l0 kj20 a0 (x4_2 ++ [x5_2]) 0 0 (wrap64 (x7_2 + 1))) else (none))) else (none)) else (none)) = some (r1, r2) := by first | (rw [hji33] at H; exact H) | (simp only [hji33] at H ⊢; exact H)
                                        have hji33w : (IntKind.i64.wrap ((x4_2.length : Int) - 1)) = ji33 := (i64_w _).trans hji33
                                        by_cases c34 : 0 ≤ (ji33)
                                        · rw [if_pos c34] at H
                                          have c34b0 : decide (0 ≤ (ji33)) = true := decide_eq_true c34
                                          clear c34
                                          by_cases c35 : (ji33) < (x4_2.length : Int)
                                          · rw [if_pos c35] at H
                                            have c35b0 : decide ((ji33) < (x4_2.length : Int)) = true := decide_eq_true c35
                                            clear c35
                                            by_cases c36 : (rd x4_2 (ji33)) ≥ x5_2
                                            · rw [if_pos c36] at H
                                              have c36b0 : decide (x5_2 ≤ (rd x4_2 (ji33))) = true := decide_eq_true c36
                                              clear c36
                                              simp only [Option.some.injEq, Prod.mk.injEq] at H
                                              obtain ⟨rfl, rfl⟩ := H
                                              obtain ⟨Ao37, co37, eo37⟩ := Kd.R_slice HO_4.out
                                              subst eo37
                                              have p143 : 0 ≤ ((ji33) : Int) := of_decide_eq_true (by first | (with_reducible assumption) | assumption)
                                              have q143 : (ji33) < (x4_2.length : Int) := of_decide_eq_true (by first | (with_reducible assumption) | assumption)
                                              obtain ⟨ad143, e143, hx143_0⟩ := Kd.at_int (Kd.R_reads' HO_4.out).2.2 (ji33) p143 q143
                                              cases e143
                                              replace p143 := eq_true p143
                                              replace q143 := eq_true q143
                                              go_wp2
                                              go_ret2
                                              exact ⟨by first | rfl | (simp [errW_none, errW_some] <;> rfl) | (simp only [← hji33]; first | rfl | (simp [errW_none, errW_some] <;> rfl)) | (simp [*, errW_none, errW_some] <;> rfl), by repeat (first | (with_reducible first | exact HB.out | apply below_alloc | apply pw_below_drewN | apply below_drew1) | exact HB.out)⟩
                                            · rw [if_neg c36] at H
                                              have c36b0 : decide (x5_2 ≤ (rd x4_2 (ji33))) = false := decide_eq_false c36
                                              clear c36
                                              by_cases c38 : x4_2.length < 17592186044416
                                              · rw [if_pos c38] at H
                                                have LMc38 := Aside0.mk c38
                                                clear c38
                                                obtain ⟨y144, hy144⟩ : ∃ y_ : List Int, y_ = (x4_2 ++ [x5_2]) := ⟨_, rfl⟩
                                                replace H : (saleroomref02_Read.l0 kj20 a0 y144 0 0 (wrap64 (x7_2 + 1))) = some (r1, r2) := by first | (rw [hy144]; with_reducible exact H) | (have H2_ := (Option.bind_some _ _).symm.trans H; rw [hy144]; with_reducible exact H2_) | (have H2_ := (Option.bind_some _ _).symm.trans H; with_reducible exact H2_) | with_reducible exact H | (rw [hy144]; exact H) | exact H
                                                have Ny144 := Aside0.mk hy144
                                                clear hy144
                                                have H' := Aside0.mk H
                                                clear H
                                                obtain ⟨Ao39, co39, eo39⟩ := Kd.R_slice HO_4.out
                                                subst eo39
                                                have p143 : 0 ≤ ((ji33) : Int) := of_decide_eq_true (by first | (with_reducible assumption) | assumption)
                                                have q143 : (ji33) < (x4_2.length : Int) := of_decide_eq_true (by first | (with_reducible assumption) | assumption)
                                                obtain ⟨ad143, e143, hx143_0⟩ := Kd.at_int (Kd.R_reads' HO_4.out).2.2 (ji33) p143 q143
                                                cases e143
                                                replace p143 := eq_true p143
                                                replace q143 := eq_true q143
                                                go_wp2_with (first | ((with_reducible refine gate_builtin (b := .append) (xs := #[.tmp 115, .tmp 117]) rfl ?_); (try (refine gate_guard (by rfl) ?_; dsimp only)); at_builtin; refine Kd.R_append (Kd.int .i64) (w0 := w) w.heap.size rfl (.tmp 115) (.tmp 117) 27 3 (.int .i64 0) 8 rfl Tryd.underlying27 info3 rfl (by decide) (by omega) (.slice (some ad143) x4_2.length co39) x4_2 x5_2 [.int .i64 x5_2] (fun _ => True) (fun _ => False) rfl rfl ?aP (fun _ hk => hk.elim) ?aF ?aO ?aB ?aS ?aL ?_; (case aP => exact rfl); (case aB => exact (by repeat (first | (with_reducible first | exact HB.out | apply below_alloc | apply pw_below_drewN | apply below_drew1) | exact HB.out))); (case aF => exact (fun _ _ => trivial)); (case aO => exact (by (with_reducible repeat (first | apply Kd.R_alloc | apply Kd.R_drewN | apply Kd.R_drew)); exact HO_4.out)); (case aS => exact (below_size (by repeat (first | (with_reducible first | exact HB.out | apply below_alloc | apply pw_below_drewN | apply below_drew1) | exact HB.out)))); (case aL => have := LMc38.out; omega); intro v145 w40 ho hb hg hat; rw [← Ny144.out] at ho; have n0_ := Aside0.mk (hb); have n1_ := Aside0.mk (ho); clear HB; clear HO_4; have HB := n0_; have HO146 := n1_; clear n0_ n1_; clear ho hb hg hat))
                                                go_roundg kj20
                                                case measure => have := HJ1.out; have := HK2.out; have := HJ16.out; have := HJ20.out; omega
                                                case rel => exact ⟨(y144), (0), (0), (wrap64 (x7_2 + 1)), (by first | rfl | (simp; done) | (simp [*]; done)), (by first | rfl | (simp; done) | (simp [*]; done)), (by first | rfl | (simp; done) | (simp [*]; done)), H', ⟨by have := HJ1.out; have := HK2.out; have := HJ16.out; have := HJ20.out; omega⟩, ⟨by (with_reducible repeat (first | apply Kd.R_alloc | apply Kd.R_drewN | apply Kd.R_drew)); exact HO146.out⟩, ⟨by repeat (first | (with_reducible first | exact HB.out | apply below_alloc | apply pw_below_drewN | apply below_drew1) | exact HB.out)⟩⟩
                                              · rw [if_neg c38] at H
                                                exact absurd H (by simp)
                                          · rw [if_neg c35] at H
                                            exact absurd H (by simp)
                                        · rw [if_neg c34] at H
                                          exact absurd H (by simp)
                                      · rw [if_neg c32] at H
                                        have c32b0 : decide (0 < (x4_2.length : Int)) = false := decide_eq_false c32
                                        have c32b1 : decide (0 < x4_2.length) = false := decide_eq_false (by omega)
                                        clear c32
                                        by_cases c41 : x4_2.length < 17592186044416
                                        · rw [if_pos c41] at H
                                          have LMc41 := Aside0.mk c41
                                          clear c41
                                          obtain ⟨y147, hy147⟩ : ∃ y_ : List Int, y_ = (x4_2 ++ [x5_2]) := ⟨_, rfl⟩
                                          replace H : (saleroomref02_Read.l0 kj20 a0 y147 0 0 (wrap64 (x7_2 + 1))) = some (r1, r2) := by first | (rw [hy147]; with_reducible exact H) | (have H2_ := (Option.bind_some _ _).symm.trans H; rw [hy147]; with_reducible exact H2_) | (have H2_ := (Option.bind_some _ _).symm.trans H; with_reducible exact H2_) | with_reducible exact H | (rw [hy147]; exact H) | exact H
                                          have Ny147 := Aside0.mk hy147
                                          clear hy147
                                          have H' := Aside0.mk H
                                          clear H
                                          obtain ⟨Ao42, co42, eo42⟩ := Kd.R_slice HO_4.out
                                          subst eo42
                                          go_wp2_with (first | ((with_reducible refine gate_builtin (b := .append) (xs := #[.tmp 115, .tmp 117]) rfl ?_); (try (refine gate_guard (by rfl) ?_; dsimp only)); at_builtin; refine Kd.R_append (Kd.int .i64) (w0 := w) w.heap.size rfl (.tmp 115) (.tmp 117) 27 3 (.int .i64 0) 8 rfl Tryd.underlying27 info3 rfl (by decide) (by omega) (.slice Ao42 x4_2.length co42) x4_2 x5_2 [.int .i64 x5_2] (fun _ => True) (fun _ => False) rfl rfl ?aP (fun _ hk => hk.elim) ?aF ?aO ?aB ?aS ?aL ?_; (case aP => exact rfl); (case aB => exact (by repeat (first | (with_reducible first | exact HB.out | apply below_alloc | apply pw_below_drewN | apply below_drew1) | exact HB.out))); (case aF => exact (fun _ _ => trivial)); (case aO => exact (by (with_reducible repeat (first | apply Kd.R_alloc | apply Kd.R_drewN | apply Kd.R_drew)); exact HO_4.out)); (case aS => exact (below_size (by repeat (first | (with_reducible first | exact HB.out | apply below_alloc | apply pw_below_drewN | apply below_drew1) | exact HB.out)))); (case aL => have := LMc41.out; omega); intro v148 w43 ho hb hg hat; rw [← Ny147.out] at ho; have n0_ := Aside0.mk (hb); have n1_ := Aside0.mk (ho); clear HB; clear HO_4; have HB := n0_; have HO149 := n1_; clear n0_ n1_; clear ho hb hg hat))
                                          go_roundg kj20
                                          case measure => have := HJ1.out; have := HK2.out; have := HJ16.out; have := HJ20.out; omega
                                          case rel => exact ⟨(y147), (0), (0), (wrap64 (x7_2 + 1)), (by first | rfl | (simp; done) | (simp [*]; done)), (by first | rfl | (simp; done) | (simp [*]; done)), (by first | rfl | (simp; done) | (simp [*]; done)), H', ⟨by have := HJ1.out; have := HK2.out; have := HJ16.out; have := HJ20.out; omega⟩, ⟨by (with_reducible repeat (first | apply Kd.R_alloc | apply Kd.R_drewN | apply Kd.R_drew)); exact HO149.out⟩, ⟨by repeat (first | (with_reducible first | exact HB.out | apply below_alloc | apply pw_below_drewN | apply below_drew1) | exact HB.out)⟩⟩
                                        · rw [if_neg c41] at H
                                          exact absurd H (by simp)
                                  · rw [if_neg c30] at H
                                    have c30b0 : (x6_2 == 2) = false := beq_eq_false_iff_ne.mpr c30
                                    have c30b1 : (x6_2 != 2) = true := bne_iff_ne.mpr c30
                                    by_cases c44 : (x4_2.length : Int) > 0
                                    · rw [if_pos c44] at H
                                      have c44b0 : decide (0 < (x4_2.length : Int)) = true := decide_eq_true c44
                                      have c44b1 : decide (0 < x4_2.length) = true := decide_eq_true (by omega)
                                      clear c44
                                      obtain ⟨ji45, hji45⟩ : ∃ j_ : Int, (wrap64 ((x4_2.length : Int) - 1)) = j_ := ⟨_, rfl⟩
                                      replace H : (if 0 ≤ (ji45) then (if (ji45) < (x4_2.length : Int) then (if (rd x4_2 (ji45)) ≥ x5_2 then (some (0, 20)) else (if x4_2.length < 17592186044416 then (saleroomref02_Read.l0 kj20 a0 (x4_2 ++ [x5_2]) 0 0 (wrap64 (x7_2 + 1))) else (none))) else (none)) else (none)) = some (r1, r2) := by first | (rw [hji45] at H; exact H) | (simp only [hji45] at H ⊢; exact H)
                                      have hji45w : (IntKind.i64.wrap ((x4_2.length : Int) - 1)) = ji45 := (i64_w _).trans hji45
                                      by_cases c46 : 0 ≤ (ji45)
                                      · rw [if_pos c46] at H
                                        have c46b0 : decide (0 ≤ (ji45)) = true := decide_eq_true c46
                                        clear c46
                                        by_cases c47 : (ji45) < (x4_2.length : Int)
                                        · rw [if_pos c47] at H
                                          have c47b0 : decide ((ji45) < (x4_2.length : Int)) = true := decide_eq_true c47
                                          clear c47
                                          by_cases c48 : (rd x4_2 (ji45)) ≥ x5_2
                                          · rw [if_pos c48] at H
                                            have c48b0 : decide (x5_2 ≤ (rd x4_2 (ji45))) = true := decide_eq_true c48
                                            clear c48
                                            simp only [Option.some.injEq, Prod.mk.injEq] at H
                                            obtain ⟨rfl, rfl⟩ := H
                                            obtain ⟨Ao49, co49, eo49⟩ := Kd.R_slice HO_4.out
                                            subst eo49
                                            have p150 : 0 ≤ ((ji45) : Int) := of_decide_eq_true (by first | (with_reducible assumption) | assumption)
                                            have q150 : (ji45) < (x4_2.length : Int) := of_decide_eq_true (by first | (with_reducible assumption) | assumption)
                                            obtain ⟨ad150, e150, hx150_0⟩ := Kd.at_int (Kd.R_reads' HO_4.out).2.2 (ji45) p150 q150
                                            cases e150
                                            replace p150 := eq_true p150
                                            replace q150 := eq_true q150
                                            go_wp2
                                            go_ret2
                                            exact ⟨by first | rfl | (simp [errW_none, errW_some] <;> rfl) | (simp only [← hji45]; first | rfl | (simp [errW_none, errW_some] <;> rfl)) | (simp [*, errW_none, errW_some] <;> rfl), by repeat (first | (with_reducible first | exact HB.out | apply below_alloc | apply pw_below_drewN | apply below_drew1) | exact HB.out)⟩
                                          · rw [if_neg c48] at H
                                            have c48b0 : decide (x5_2 ≤ (rd x4_2 (ji45))) = false := decide_eq_false c48
                                            clear c48
                                            by_cases c50 : x4_2.length < 17592186044416
                                            · rw [if_pos c50] at H
                                              have LMc50 := Aside0.mk c50
                                              clear c50
                                              obtain ⟨y151, hy151⟩ : ∃ y_ : List Int, y_ = (x4_2 ++ [x5_2]) := ⟨_, rfl⟩
                                              replace H : (saleroomref02_Read.l0 kj20 a0 y151 0 0 (wrap64 (x7_2 + 1))) = some (r1, r2) := by first | (rw [hy151]; with_reducible exact H) | (have H2_ := (Option.bind_some _ _).symm.trans H; rw [hy151]; with_reducible exact H2_) | (have H2_ := (Option.bind_some _ _).symm.trans H; with_reducible exact H2_) | with_reducible exact H | (rw [hy151]; exact H) | exact H
                                              have Ny151 := Aside0.mk hy151
                                              clear hy151
                                              have H' := Aside0.mk H
                                              clear H
                                              obtain ⟨Ao51, co51, eo51⟩ := Kd.R_slice HO_4.out
                                              subst eo51
                                              have p150 : 0 ≤ ((ji45) : Int) := of_decide_eq_true (by first | (with_reducible assumption) | assumption)
                                              have q150 : (ji45) < (x4_2.length : Int) := of_decide_eq_true (by first | (with_reducible assumption) | assumption)
                                              obtain ⟨ad150, e150, hx150_0⟩ := Kd.at_int (Kd.R_reads' HO_4.out).2.2 (ji45) p150 q150
                                              cases e150
                                              replace p150 := eq_true p150
                                              replace q150 := eq_true q150
                                              go_wp2_with (first | ((with_reducible refine gate_builtin (b := .append) (xs := #[.tmp 115, .tmp 117]) rfl ?_); (try (refine gate_guard (by rfl) ?_; dsimp only)); at_builtin; refine Kd.R_append (Kd.int .i64) (w0 := w) w.heap.size rfl (.tmp 115) (.tmp 117) 27 3 (.int .i64 0) 8 rfl Tryd.underlying27 info3 rfl (by decide) (by omega) (.slice (some ad150) x4_2.length co51) x4_2 x5_2 [.int .i64 x5_2] (fun _ => True) (fun _ => False) rfl rfl ?aP (fun _ hk => hk.elim) ?aF ?aO ?aB ?aS ?aL ?_; (case aP => exact rfl); (case aB => exact (by repeat (first | (with_reducible first | exact HB.out | apply below_alloc | apply pw_below_drewN | apply below_drew1) | exact HB.out))); (case aF => exact (fun _ _ => trivial)); (case aO => exact (by (with_reducible repeat (first | apply Kd.R_alloc | apply Kd.R_drewN | apply Kd.R_drew)); exact HO_4.out)); (case aS => exact (below_size (by repeat (first | (with_reducible first | exact HB.out | apply below_alloc | apply pw_below_drewN | apply below_drew1) | exact HB.out)))); (case aL => have := LMc50.out; omega); intro v152 w52 ho hb hg hat; rw [← Ny151.out] at ho; have n0_ := Aside0.mk (hb); have n1_ := Aside0.mk (ho); clear HB; clear HO_4; have HB := n0_; have HO153 := n1_; clear n0_ n1_; clear ho hb hg hat))
                                              go_roundg kj20
                                              case measure => have := HJ1.out; have := HK2.out; have := HJ16.out; have := HJ20.out; omega
                                              case rel => exact ⟨(y151), (0), (0), (wrap64 (x7_2 + 1)), (by first | rfl | (simp; done) | (simp [*]; done)), (by first | rfl | (simp; done) | (simp [*]; done)), (by first | rfl | (simp; done) | (simp [*]; done)), H', ⟨by have := HJ1.out; have := HK2.out; have := HJ16.out; have := HJ20.out; omega⟩, ⟨by (with_reducible repeat (first | apply Kd.R_alloc | apply Kd.R_drewN | apply Kd.R_drew)); exact HO153.out⟩, ⟨by repeat (first | (with_reducible first | exact HB.out | apply below_alloc | apply pw_below_drewN | apply below_drew1) | exact HB.out)⟩⟩
                                            · rw [if_neg c50] at H
                                              exact absurd H (by simp)
                                        · rw [if_neg c47] at H
                                          exact absurd H (by simp)
                                      · rw [if_neg c46] at H
                                        exact absurd H (by simp)
                                    · rw [if_neg c44] at H
                                      have c44b0 : decide (0 < (x4_2.length : Int)) = false := decide_eq_false c44
                                      have c44b1 : decide (0 < x4_2.length) = false := decide_eq_false (by omega)
                                      clear c44
                                      by_cases c53 : x4_2.length < 17592186044416
                                      · rw [if_pos c53] at H
                                        have LMc53 := Aside0.mk c53
                                        clear c53
                                        obtain ⟨y154, hy154⟩ : ∃ y_ : List Int, y_ = (x4_2 ++ [x5_2]) := ⟨_, rfl⟩
                                        replace H : (saleroomref02_Read.l0 kj20 a0 y154 0 0 (wrap64 (x7_2 + 1))) = some (r1, r2) := by first | (rw [hy154]; with_reducible exact H) | (have H2_ := (Option.bind_some _ _).symm.trans H; rw [hy154]; with_reducible exact H2_) | (have H2_ := (Option.bind_some _ _).symm.trans H; with_reducible exact H2_) | with_reducible exact H | (rw [hy154]; exact H) | exact H
                                        have Ny154 := Aside0.mk hy154
                                        clear hy154
                                        have H' := Aside0.mk H
                                        clear H
                                        obtain ⟨Ao54, co54, eo54⟩ := Kd.R_slice HO_4.out
                                        subst eo54
                                        go_wp2_with (first | ((with_reducible refine gate_builtin (b := .append) (xs := #[.tmp 115, .tmp 117]) rfl ?_); (try (refine gate_guard (by rfl) ?_; dsimp only)); at_builtin; refine Kd.R_append (Kd.int .i64) (w0 := w) w.heap.size rfl (.tmp 115) (.tmp 117) 27 3 (.int .i64 0) 8 rfl Tryd.underlying27 info3 rfl (by decide) (by omega) (.slice Ao54 x4_2.length co54) x4_2 x5_2 [.int .i64 x5_2] (fun _ => True) (fun _ => False) rfl rfl ?aP (fun _ hk => hk.elim) ?aF ?aO ?aB ?aS ?aL ?_; (case aP => exact rfl); (case aB => exact (by repeat (first | (with_reducible first | exact HB.out | apply below_alloc | apply pw_below_drewN | apply below_drew1) | exact HB.out))); (case aF => exact (fun _ _ => trivial)); (case aO => exact (by (with_reducible repeat (first | apply Kd.R_alloc | apply Kd.R_drewN | apply Kd.R_drew)); exact HO_4.out)); (case aS => exact (below_size (by repeat (first | (with_reducible first | exact HB.out | apply below_alloc | apply pw_below_drewN | apply below_drew1) | exact HB.out)))); (case aL => have := LMc53.out; omega); intro v155 w55 ho hb hg hat; rw [← Ny154.out] at ho; have n0_ := Aside0.mk (hb); have n1_ := Aside0.mk (ho); clear HB; clear HO_4; have HB := n0_; have HO156 := n1_; clear n0_ n1_; clear ho hb hg hat))
                                        go_roundg kj20
                                        case measure => have := HJ1.out; have := HK2.out; have := HJ16.out; have := HJ20.out; omega
                                        case rel => exact ⟨(y154), (0), (0), (wrap64 (x7_2 + 1)), (by first | rfl | (simp; done) | (simp [*]; done)), (by first | rfl | (simp; done) | (simp [*]; done)), (by first | rfl | (simp; done) | (simp [*]; done)), H', ⟨by have := HJ1.out; have := HK2.out; have := HJ16.out; have := HJ20.out; omega⟩, ⟨by (with_reducible repeat (first | apply Kd.R_alloc | apply Kd.R_drewN | apply Kd.R_drew)); exact HO156.out⟩, ⟨by repeat (first | (with_reducible first | exact HB.out | apply below_alloc | apply pw_below_drewN | apply below_drew1) | exact HB.out)⟩⟩
                                      · rw [if_neg c53] at H
                                        exact absurd H (by simp)
                            · rw [if_neg c27] at H
                              have c27b0 : ((bt a0 x7_2) == 44) = false := beq_eq_false_iff_ne.mpr c27
                              have c27b1 : ((bt a0 x7_2) != 44) = true := bne_iff_ne.mpr c27
                              by_cases c56 : (bt a0 x7_2) = 125
                              · rw [if_pos c56] at H
                                have c56b0 : ((bt a0 x7_2) == 125) = true := beq_iff_eq.mpr c56
                                have c56b1 : ((bt a0 x7_2) != 125) = false := bne_eq_false_iff_eq.mpr c56
                                clear c56
                                by_cases c57 : x7_2 = (wrap64 ((a0.size : Int) - 1))
                                · rw [if_pos c57] at H
                                  have c57b0 : (x7_2 == (wrap64 ((a0.size : Int) - 1))) = true := beq_iff_eq.mpr c57
                                  have c57b1 : (x7_2 != (wrap64 ((a0.size : Int) - 1))) = false := bne_eq_false_iff_eq.mpr c57
                                  clear c57
                                  by_cases c58 : x6_2 = 0
                                  · rw [if_pos c58] at H
                                    have c58b0 : (x6_2 == 0) = true := beq_iff_eq.mpr c58
                                    have c58b1 : (x6_2 != 0) = false := bne_eq_false_iff_eq.mpr c58
                                    clear c58
                                    simp only [Option.some.injEq, Prod.mk.injEq] at H
                                    obtain ⟨rfl, rfl⟩ := H
                                    go_wp2
                                    go_ret2
                                    exact ⟨by first | rfl | (simp [errW_none, errW_some] <;> rfl) | (simp [*, errW_none, errW_some] <;> rfl), by repeat (first | (with_reducible first | exact HB.out | apply below_alloc | apply pw_below_drewN | apply below_drew1) | exact HB.out)⟩
                                  · rw [if_neg c58] at H
                                    have c58b0 : (x6_2 == 0) = false := beq_eq_false_iff_ne.mpr c58
                                    have c58b1 : (x6_2 != 0) = true := bne_iff_ne.mpr c58
                                    by_cases c59 : x5_2 > 63
                                    · rw [if_pos c59] at H
                                      have c59b0 : decide (63 < x5_2) = true := decide_eq_true c59
                                      clear c59
                                      simp only [Option.some.injEq, Prod.mk.injEq] at H
                                      obtain ⟨rfl, rfl⟩ := H
                                      go_wp2
                                      go_ret2
                                      exact ⟨by first | rfl | (simp [errW_none, errW_some] <;> rfl) | (simp [*, errW_none, errW_some] <;> rfl), by repeat (first | (with_reducible first | exact HB.out | apply below_alloc | apply pw_below_drewN | apply below_drew1) | exact HB.out)⟩
                                    · rw [if_neg c59] at H
                                      have c59b0 : decide (63 < x5_2) = false := decide_eq_false c59
                                      clear c59
                                      by_cases c60 : x6_2 = 2
                                      · rw [if_pos c60] at H
                                        have c60b0 : (x6_2 == 2) = true := beq_iff_eq.mpr c60
                                        have c60b1 : (x6_2 != 2) = false := bne_eq_false_iff_eq.mpr c60
                                        clear c60
                                        by_cases c61 : x5_2 < 10
                                        · rw [if_pos c61] at H
                                          have c61b0 : decide (x5_2 < 10) = true := decide_eq_true c61
                                          clear c61
                                          simp only [Option.some.injEq, Prod.mk.injEq] at H
                                          obtain ⟨rfl, rfl⟩ := H
                                          go_wp2
                                          go_ret2
                                          exact ⟨by first | rfl | (simp [errW_none, errW_some] <;> rfl) | (simp [*, errW_none, errW_some] <;> rfl), by repeat (first | (with_reducible first | exact HB.out | apply below_alloc | apply pw_below_drewN | apply below_drew1) | exact HB.out)⟩
                                        · rw [if_neg c61] at H
                                          have c61b0 : decide (x5_2 < 10) = false := decide_eq_false c61
                                          clear c61
                                          by_cases c62 : (x4_2.length : Int) > 0
                                          · rw [if_pos c62] at H
                                            have c62b0 : decide (0 < (x4_2.length : Int)) = true := decide_eq_true c62
                                            have c62b1 : decide (0 < x4_2.length) = true := decide_eq_true (by omega)
                                            clear c62
                                            obtain ⟨ji63, hji63⟩ : ∃ j_ : Int, (wrap64 ((x4_2.length : Int) - 1)) = j_ := ⟨_, rfl⟩
                                            replace H : (if 0 ≤ (ji63) then (if (ji63) < (x4_2.length : Int) then (if (rd x4_2 (ji63)) ≥ x5_2 then (some (0, 20)) else (if x4_2.length < 17592186044416 then (saleroomref02_Read.l0 kj20 a0 (x4_2 ++ [x5_2]) 0 0 (wrap64 (x7_2 + 1))) else (none))) else (none)) else (none)) = some (r1, r2) := by first | (rw [hji63] at H; exact H) | (simp only [hji63] at H ⊢; exact H)
                                            have hji63w : (IntKind.i64.wrap ((x4_2.length : Int) - 1)) = ji63 := (i64_w _).trans hji63
                                            by_cases c64 : 0 ≤ (ji63)
                                            · rw [if_pos c64] at H
                                              have c64b0 : decide (0 ≤ (ji63)) = true := decide_eq_true c64
                                              clear c64
                                              by_cases c65 : (ji63) < (x4_2.length : Int)
                                              · rw [if_pos c65] at H
                                                have c65b0 : decide ((ji63) < (x4_2.length : Int)) = true := decide_eq_true c65
                                                clear c65
                                                by_cases c66 : (rd x4_2 (ji63)) ≥ x5_2
                                                · rw [if_pos c66] at H
                                                  have c66b0 : decide (x5_2 ≤ (rd x4_2 (ji63))) = true := decide_eq_true c66
                                                  clear c66
                                                  simp only [Option.some.injEq, Prod.mk.injEq] at H
                                                  obtain ⟨rfl, rfl⟩ := H
                                                  obtain ⟨Ao67, co67, eo67⟩ := Kd.R_slice HO_4.out
                                                  subst eo67
                                                  have p157 : 0 ≤ ((ji63) : Int) := of_decide_eq_true (by first | (with_reducible assumption) | assumption)
                                                  have q157 : (ji63) < (x4_2.length : Int) := of_decide_eq_true (by first | (with_reducible assumption) | assumption)
                                                  obtain ⟨ad157, e157, hx157_0⟩ := Kd.at_int (Kd.R_reads' HO_4.out).2.2 (ji63) p157 q157
                                                  cases e157
                                                  replace p157 := eq_true p157
                                                  replace q157 := eq_true q157
                                                  go_wp2
                                                  go_ret2
                                                  exact ⟨by first | rfl | (simp [errW_none, errW_some] <;> rfl) | (simp only [← hji63]; first | rfl | (simp [errW_none, errW_some] <;> rfl)) | (simp [*, errW_none, errW_some] <;> rfl), by repeat (first | (with_reducible first | exact HB.out | apply below_alloc | apply pw_below_drewN | apply below_drew1) | exact HB.out)⟩
                                                · rw [if_neg c66] at H
                                                  have c66b0 : decide (x5_2 ≤ (rd x4_2 (ji63))) = false := decide_eq_false c66
                                                  clear c66
                                                  by_cases c68 : x4_2.length < 17592186044416
                                                  · rw [if_pos c68] at H
                                                    have LMc68 := Aside0.mk c68
                                                    clear c68
                                                    obtain ⟨y158, hy158⟩ : ∃ y_ : List Int, y_ = (x4_2 ++ [x5_2]) := ⟨_, rfl⟩
                                                    replace H : (saleroomref02_Read.l0 kj20 a0 y158 0 0 (wrap64 (x7_2 + 1))) = some (r1, r2) := by first | (rw [hy158]; with_reducible exact H) | (have H2_ := (Option.bind_some _ _).symm.trans H; rw [hy158]; with_reducible exact H2_) | (have H2_ := (Option.bind_some _ _).symm.trans H; with_reducible exact H2_) | with_reducible exact H | (rw [hy158]; exact H) | exact H
                                                    have Ny158 := Aside0.mk hy158
                                                    clear hy158
                                                    have H' := Aside0.mk H
                                                    clear H
                                                    obtain ⟨Ao69, co69, eo69⟩ := Kd.R_slice HO_4.out
                                                    subst eo69
                                                    have p157 : 0 ≤ ((ji63) : Int) := of_decide_eq_true (by first | (with_reducible assumption) | assumption)
                                                    have q157 : (ji63) < (x4_2.length : Int) := of_decide_eq_true (by first | (with_reducible assumption) | assumption)
                                                    obtain ⟨ad157, e157, hx157_0⟩ := Kd.at_int (Kd.R_reads' HO_4.out).2.2 (ji63) p157 q157
                                                    cases e157
                                                    replace p157 := eq_true p157
                                                    replace q157 := eq_true q157
                                                    go_wp2_with (first | ((with_reducible refine gate_builtin (b := .append) (xs := #[.tmp 115, .tmp 117]) rfl ?_); (try (refine gate_guard (by rfl) ?_; dsimp only)); at_builtin; refine Kd.R_append (Kd.int .i64) (w0 := w) w.heap.size rfl (.tmp 115) (.tmp 117) 27 3 (.int .i64 0) 8 rfl Tryd.underlying27 info3 rfl (by decide) (by omega) (.slice (some ad157) x4_2.length co69) x4_2 x5_2 [.int .i64 x5_2] (fun _ => True) (fun _ => False) rfl rfl ?aP (fun _ hk => hk.elim) ?aF ?aO ?aB ?aS ?aL ?_; (case aP => exact rfl); (case aB => exact (by repeat (first | (with_reducible first | exact HB.out | apply below_alloc | apply pw_below_drewN | apply below_drew1) | exact HB.out))); (case aF => exact (fun _ _ => trivial)); (case aO => exact (by (with_reducible repeat (first | apply Kd.R_alloc | apply Kd.R_drewN | apply Kd.R_drew)); exact HO_4.out)); (case aS => exact (below_size (by repeat (first | (with_reducible first | exact HB.out | apply below_alloc | apply pw_below_drewN | apply below_drew1) | exact HB.out)))); (case aL => have := LMc68.out; omega); intro v159 w70 ho hb hg hat; rw [← Ny158.out] at ho; have n0_ := Aside0.mk (hb); have n1_ := Aside0.mk (ho); clear HB; clear HO_4; have HB := n0_; have HO160 := n1_; clear n0_ n1_; clear ho hb hg hat))
                                                    go_roundg kj20
                                                    case measure => have := HJ1.out; have := HK2.out; have := HJ16.out; have := HJ20.out; omega
                                                    case rel => exact ⟨(y158), (0), (0), (wrap64 (x7_2 + 1)), (by first | rfl | (simp; done) | (simp [*]; done)), (by first | rfl | (simp; done) | (simp [*]; done)), (by first | rfl | (simp; done) | (simp [*]; done)), H', ⟨by have := HJ1.out; have := HK2.out; have := HJ16.out; have := HJ20.out; omega⟩, ⟨by (with_reducible repeat (first | apply Kd.R_alloc | apply Kd.R_drewN | apply Kd.R_drew)); exact HO160.out⟩, ⟨by repeat (first | (with_reducible first | exact HB.out | apply below_alloc | apply pw_below_drewN | apply below_drew1) | exact HB.out)⟩⟩
                                                  · rw [if_neg c68] at H
                                                    exact absurd H (by simp)
                                              · rw [if_neg c65] at H
                                                exact absurd H (by simp)
                                            · rw [if_neg c64] at H
                                              exact absurd H (by simp)
                                          · rw [if_neg c62] at H
                                            have c62b0 : decide (0 < (x4_2.length : Int)) = false := decide_eq_false c62
                                            have c62b1 : decide (0 < x4_2.length) = false := decide_eq_false (by omega)
                                            clear c62
                                            by_cases c71 : x4_2.length < 17592186044416
                                            · rw [if_pos c71] at H
                                              have LMc71 := Aside0.mk c71
                                              clear c71
                                              obtain ⟨y161, hy161⟩ : ∃ y_ : List Int, y_ = (x4_2 ++ [x5_2]) := ⟨_, rfl⟩
                                              replace H : (saleroomref02_Read.l0 kj20 a0 y161 0 0 (wrap64 (x7_2 + 1))) = some (r1, r2) := by first | (rw [hy161]; with_reducible exact H) | (have H2_ := (Option.bind_some _ _).symm.trans H; rw [hy161]; with_reducible exact H2_) | (have H2_ := (Option.bind_some _ _).symm.trans H; with_reducible exact H2_) | with_reducible exact H | (rw [hy161]; exact H) | exact H
                                              have Ny161 := Aside0.mk hy161
                                              clear hy161
                                              have H' := Aside0.mk H
                                              clear H
                                              obtain ⟨Ao72, co72, eo72⟩ := Kd.R_slice HO_4.out
                                              subst eo72
                                              go_wp2_with (first | ((with_reducible refine gate_builtin (b := .append) (xs := #[.tmp 115, .tmp 117]) rfl ?_); (try (refine gate_guard (by rfl) ?_; dsimp only)); at_builtin; refine Kd.R_append (Kd.int .i64) (w0 := w) w.heap.size rfl (.tmp 115) (.tmp 117) 27 3 (.int .i64 0) 8 rfl Tryd.underlying27 info3 rfl (by decide) (by omega) (.slice Ao72 x4_2.length co72) x4_2 x5_2 [.int .i64 x5_2] (fun _ => True) (fun _ => False) rfl rfl ?aP (fun _ hk => hk.elim) ?aF ?aO ?aB ?aS ?aL ?_; (case aP => exact rfl); (case aB => exact (by repeat (first | (with_reducible first | exact HB.out | apply below_alloc | apply pw_below_drewN | apply below_drew1) | exact HB.out))); (case aF => exact (fun _ _ => trivial)); (case aO => exact (by (with_reducible repeat (first | apply Kd.R_alloc | apply Kd.R_drewN | apply Kd.R_drew)); exact HO_4.out)); (case aS => exact (below_size (by repeat (first | (with_reducible first | exact HB.out | apply below_alloc | apply pw_below_drewN | apply below_drew1) | exact HB.out)))); (case aL => have := LMc71.out; omega); intro v162 w73 ho hb hg hat; rw [← Ny161.out] at ho; have n0_ := Aside0.mk (hb); have n1_ := Aside0.mk (ho); clear HB; clear HO_4; have HB := n0_; have HO163 := n1_; clear n0_ n1_; clear ho hb hg hat))
                                              go_roundg kj20
                                              case measure => have := HJ1.out; have := HK2.out; have := HJ16.out; have := HJ20.out; omega
                                              case rel => exact ⟨(y161), (0), (0), (wrap64 (x7_2 + 1)), (by first | rfl | (simp; done) | (simp [*]; done)), (by first | rfl | (simp; done) | (simp [*]; done)), (by first | rfl | (simp; done) | (simp [*]; done)), H', ⟨by have := HJ1.out; have := HK2.out; have := HJ16.out; have := HJ20.out; omega⟩, ⟨by (with_reducible repeat (first | apply Kd.R_alloc | apply Kd.R_drewN | apply Kd.R_drew)); exact HO163.out⟩, ⟨by repeat (first | (with_reducible first | exact HB.out | apply below_alloc | apply pw_below_drewN | apply below_drew1) | exact HB.out)⟩⟩
                                            · rw [if_neg c71] at H
                                              exact absurd H (by simp)
                                      · rw [if_neg c60] at H
                                        have c60b0 : (x6_2 == 2) = false := beq_eq_false_iff_ne.mpr c60
                                        have c60b1 : (x6_2 != 2) = true := bne_iff_ne.mpr c60
                                        by_cases c74 : (x4_2.length : Int) > 0
                                        · rw [if_pos c74] at H
                                          have c74b0 : decide (0 < (x4_2.length : Int)) = true := decide_eq_true c74
                                          have c74b1 : decide (0 < x4_2.length) = true := decide_eq_true (by omega)
                                          clear c74
                                          obtain ⟨ji75, hji75⟩ : ∃ j_ : Int, (wrap64 ((x4_2.length : Int) - 1)) = j_ := ⟨_, rfl⟩
                                          replace H : (if 0 ≤ (ji75) then (if (ji75) < (x4_2.length : Int) then (if (rd x4_2 (ji75)) ≥ x5_2 then (some (0, 20)) else (if x4_2.length < 17592186044416 then (saleroomref02_Read.l0 kj20 a0 (x4_2 ++ [x5_2]) 0 0 (wrap64 (x7_2 + 1))) else (none))) else (none)) else (none)) = some (r1, r2) := by first | (rw [hji75] at H; exact H) | (simp only [hji75] at H ⊢; exact H)
                                          have hji75w : (IntKind.i64.wrap ((x4_2.length : Int) - 1)) = ji75 := (i64_w _).trans hji75
                                          by_cases c76 : 0 ≤ (ji75)
                                          · rw [if_pos c76] at H
                                            have c76b0 : decide (0 ≤ (ji75)) = true := decide_eq_true c76
                                            clear c76
                                            by_cases c77 : (ji75) < (x4_2.length : Int)
                                            · rw [if_pos c77] at H
                                              have c77b0 : decide ((ji75) < (x4_2.length : Int)) = true := decide_eq_true c77
                                              clear c77
                                              by_cases c78 : (rd x4_2 (ji75)) ≥ x5_2
                                              · rw [if_pos c78] at H
                                                have c78b0 : decide (x5_2 ≤ (rd x4_2 (ji75))) = true := decide_eq_true c78
                                                clear c78
                                                simp only [Option.some.injEq, Prod.mk.injEq] at H
                                                obtain ⟨rfl, rfl⟩ := H
                                                obtain ⟨Ao79, co79, eo79⟩ := Kd.R_slice HO_4.out
                                                subst eo79
                                                have p164 : 0 ≤ ((ji75) : Int) := of_decide_eq_true (by first | (with_reducible assumption) | assumption)
                                                have q164 : (ji75) < (x4_2.length : Int) := of_decide_eq_true (by first | (with_reducible assumption) | assumption)
                                                obtain ⟨ad164, e164, hx164_0⟩ := Kd.at_int (Kd.R_reads' HO_4.out).2.2 (ji75) p164 q164
                                                cases e164
                                                replace p164 := eq_true p164
                                                replace q164 := eq_true q164
                                                go_wp2
                                                go_ret2
                                                exact ⟨by first | rfl | (simp [errW_none, errW_some] <;> rfl) | (simp only [← hji75]; first | rfl | (simp [errW_none, errW_some] <;> rfl)) | (simp [*, errW_none, errW_some] <;> rfl), by repeat (first | (with_reducible first | exact HB.out | apply below_alloc | apply pw_below_drewN | apply below_drew1) | exact HB.out)⟩
                                              · rw [if_neg c78] at H
                                                have c78b0 : decide (x5_2 ≤ (rd x4_2 (ji75))) = false := decide_eq_false c78
                                                clear c78
                                                by_cases c80 : x4_2.length < 17592186044416
                                                · rw [if_pos c80] at H
                                                  have LMc80 := Aside0.mk c80
                                                  clear c80
                                                  obtain ⟨y165, hy165⟩ : ∃ y_ : List Int, y_ = (x4_2 ++ [x5_2]) := ⟨_, rfl⟩
                                                  replace H : (saleroomref02_Read.l0 kj20 a0 y165 0 0 (wrap64 (x7_2 + 1))) = some (r1, r2) := by first | (rw [hy165]; with_reducible exact H) | (have H2_ := (Option.bind_some _ _).symm.trans H; rw [hy165]; with_reducible exact H2_) | (have H2_ := (Option.bind_some _ _).symm.trans H; with_reducible exact H2_) | with_reducible exact H | (rw [hy165]; exact H) | exact H
                                                  have Ny165 := Aside0.mk hy165
                                                  clear hy165
                                                  have H' := Aside0.mk H
                                                  clear H
                                                  obtain ⟨Ao81, co81, eo81⟩ := Kd.R_slice HO_4.out
                                                  subst eo81
                                                  have p164 : 0 ≤ ((ji75) : Int) := of_decide_eq_true (by first | (with_reducible assumption) | assumption)
                                                  have q164 : (ji75) < (x4_2.length : Int) := of_decide_eq_true (by first | (with_reducible assumption) | assumption)
                                                  obtain ⟨ad164, e164, hx164_0⟩ := Kd.at_int (Kd.R_reads' HO_4.out).2.2 (ji75) p164 q164
                                                  cases e164
                                                  replace p164 := eq_true p164
                                                  replace q164 := eq_true q164
                                                  go_wp2_with (first | ((with_reducible refine gate_builtin (b := .append) (xs := #[.tmp 115, .tmp 117]) rfl ?_); (try (refine gate_guard (by rfl) ?_; dsimp only)); at_builtin; refine Kd.R_append (Kd.int .i64) (w0 := w) w.heap.size rfl (.tmp 115) (.tmp 117) 27 3 (.int .i64 0) 8 rfl Tryd.underlying27 info3 rfl (by decide) (by omega) (.slice (some ad164) x4_2.length co81) x4_2 x5_2 [.int .i64 x5_2] (fun _ => True) (fun _ => False) rfl rfl ?aP (fun _ hk => hk.elim) ?aF ?aO ?aB ?aS ?aL ?_; (case aP => exact rfl); (case aB => exact (by repeat (first | (with_reducible first | exact HB.out | apply below_alloc | apply pw_below_drewN | apply below_drew1) | exact HB.out))); (case aF => exact (fun _ _ => trivial)); (case aO => exact (by (with_reducible repeat (first | apply Kd.R_alloc | apply Kd.R_drewN | apply Kd.R_drew)); exact HO_4.out)); (case aS => exact (below_size (by repeat (first | (with_reducible first | exact HB.out | apply below_alloc | apply pw_below_drewN | apply below_drew1) | exact HB.out)))); (case aL => have := LMc80.out; omega); intro v166 w82 ho hb hg hat; rw [← Ny165.out] at ho; have n0_ := Aside0.mk (hb); have n1_ := Aside0.mk (ho); clear HB; clear HO_4; have HB := n0_; have HO167 := n1_; clear n0_ n1_; clear ho hb hg hat))
                                                  go_roundg kj20
                                                  case measure => have := HJ1.out; have := HK2.out; have := HJ16.out; have := HJ20.out; omega
                                                  case rel => exact ⟨(y165), (0), (0), (wrap64 (x7_2 + 1)), (by first | rfl | (simp; done) | (simp [*]; done)), (by first | rfl | (simp; done) | (simp [*]; done)), (by first | rfl | (simp; done) | (simp [*]; done)), H', ⟨by have := HJ1.out; have := HK2.out; have := HJ16.out; have := HJ20.out; omega⟩, ⟨by (with_reducible repeat (first | apply Kd.R_alloc | apply Kd.R_drewN | apply Kd.R_drew)); exact HO167.out⟩, ⟨by repeat (first | (with_reducible first | exact HB.out | apply below_alloc | apply pw_below_drewN | apply below_drew1) | exact HB.out)⟩⟩
                                                · rw [if_neg c80] at H
                                                  exact absurd H (by simp)
                                            · rw [if_neg c77] at H
                                              exact absurd H (by simp)
                                          · rw [if_neg c76] at H
                                            exact absurd H (by simp)
                                        · rw [if_neg c74] at H
                                          have c74b0 : decide (0 < (x4_2.length : Int)) = false := decide_eq_false c74
                                          have c74b1 : decide (0 < x4_2.length) = false := decide_eq_false (by omega)
                                          clear c74
                                          by_cases c83 : x4_2.length < 17592186044416
                                          · rw [if_pos c83] at H
                                            have LMc83 := Aside0.mk c83
                                            clear c83
                                            obtain ⟨y168, hy168⟩ : ∃ y_ : List Int, y_ = (x4_2 ++ [x5_2]) := ⟨_, rfl⟩
                                            replace H : (saleroomref02_Read.l0 kj20 a0 y168 0 0 (wrap64 (x7_2 + 1))) = some (r1, r2) := by first | (rw [hy168]; with_reducible exact H) | (have H2_ := (Option.bind_some _ _).symm.trans H; rw [hy168]; with_reducible exact H2_) | (have H2_ := (Option.bind_some _ _).symm.trans H; with_reducible exact H2_) | with_reducible exact H | (rw [hy168]; exact H) | exact H
                                            have Ny168 := Aside0.mk hy168
                                            clear hy168
                                            have H' := Aside0.mk H
                                            clear H
                                            obtain ⟨Ao84, co84, eo84⟩ := Kd.R_slice HO_4.out
                                            subst eo84
                                            go_wp2_with (first | ((with_reducible refine gate_builtin (b := .append) (xs := #[.tmp 115, .tmp 117]) rfl ?_); (try (refine gate_guard (by rfl) ?_; dsimp only)); at_builtin; refine Kd.R_append (Kd.int .i64) (w0 := w) w.heap.size rfl (.tmp 115) (.tmp 117) 27 3 (.int .i64 0) 8 rfl Tryd.underlying27 info3 rfl (by decide) (by omega) (.slice Ao84 x4_2.length co84) x4_2 x5_2 [.int .i64 x5_2] (fun _ => True) (fun _ => False) rfl rfl ?aP (fun _ hk => hk.elim) ?aF ?aO ?aB ?aS ?aL ?_; (case aP => exact rfl); (case aB => exact (by repeat (first | (with_reducible first | exact HB.out | apply below_alloc | apply pw_below_drewN | apply below_drew1) | exact HB.out))); (case aF => exact (fun _ _ => trivial)); (case aO => exact (by (with_reducible repeat (first | apply Kd.R_alloc | apply Kd.R_drewN | apply Kd.R_drew)); exact HO_4.out)); (case aS => exact (below_size (by repeat (first | (with_reducible first | exact HB.out | apply below_alloc | apply pw_below_drewN | apply below_drew1) | exact HB.out)))); (case aL => have := LMc83.out; omega); intro v169 w85 ho hb hg hat; rw [← Ny168.out] at ho; have n0_ := Aside0.mk (hb); have n1_ := Aside0.mk (ho); clear HB; clear HO_4; have HB := n0_; have HO170 := n1_; clear n0_ n1_; clear ho hb hg hat))
                                            go_roundg kj20
                                            case measure => have := HJ1.out; have := HK2.out; have := HJ16.out; have := HJ20.out; omega
                                            case rel => exact ⟨(y168), (0), (0), (wrap64 (x7_2 + 1)), (by first | rfl | (simp; done) | (simp [*]; done)), (by first | rfl | (simp; done) | (simp [*]; done)), (by first | rfl | (simp; done) | (simp [*]; done)), H', ⟨by have := HJ1.out; have := HK2.out; have := HJ16.out; have := HJ20.out; omega⟩, ⟨by (with_reducible repeat (first | apply Kd.R_alloc | apply Kd.R_drewN | apply Kd.R_drew)); exact HO170.out⟩, ⟨by repeat (first | (with_reducible first | exact HB.out | apply below_alloc | apply pw_below_drewN | apply below_drew1) | exact HB.out)⟩⟩
                                          · rw [if_neg c83] at H
                                            exact absurd H (by simp)
                                · rw [if_neg c57] at H
                                  have c57b0 : (x7_2 == (wrap64 ((a0.size : Int) - 1))) = false := beq_eq_false_iff_ne.mpr c57
                                  have c57b1 : (x7_2 != (wrap64 ((a0.size : Int) - 1))) = true := bne_iff_ne.mpr c57
                                  simp only [Option.some.injEq, Prod.mk.injEq] at H
                                  obtain ⟨rfl, rfl⟩ := H
                                  go_wp2
                                  go_ret2
                                  exact ⟨by first | rfl | (simp [errW_none, errW_some] <;> rfl) | (simp [*, errW_none, errW_some] <;> rfl), by repeat (first | (with_reducible first | exact HB.out | apply below_alloc | apply pw_below_drewN | apply below_drew1) | exact HB.out)⟩
                              · rw [if_neg c56] at H
                                have c56b0 : ((bt a0 x7_2) == 125) = false := beq_eq_false_iff_ne.mpr c56
                                have c56b1 : ((bt a0 x7_2) != 125) = true := bne_iff_ne.mpr c56
                                simp only [Option.some.injEq, Prod.mk.injEq] at H
                                obtain ⟨rfl, rfl⟩ := H
                                go_wp2
                                go_ret2
                                exact ⟨by first | rfl | (simp [errW_none, errW_some] <;> rfl) | (simp [*, errW_none, errW_some] <;> rfl), by repeat (first | (with_reducible first | exact HB.out | apply below_alloc | apply pw_below_drewN | apply below_drew1) | exact HB.out)⟩
              · rw [if_neg c15] at H
                exact absurd H (by simp)
            · rw [if_neg c14] at H
              have c14b0 : decide (x7_2 < (a0.size : Int)) = false := decide_eq_false c14
              clear c14
              replace H := Option.bind_eq_some_iff.mp H
              obtain ⟨t142, A860, H⟩ := H
              replace H : (some (t142, 0)) = some (r1, r2) := H
              have A86 := Aside0.mk A860
              clear A860
              simp only [Option.some.injEq, Prod.mk.injEq] at H
              obtain ⟨rfl, rfl⟩ := H
              obtain ⟨Ao87, co87, eo87⟩ := Kd.R_slice HO_4.out
              subst eo87
              go_wp2_with (first | ((with_reducible refine gate_callee (f := 28) rfl ?_); refine goesL_ (some 120) rfl rfl Tryd.func28 (by kernel_rfl) rfl #[.slice Ao87 x4_2.length co87] rfl (by (try simp only [List.map_toArray, List.map_cons, List.map_nil]); first | done | rfl | (simp only [List.length_drop, List.length_take]; rfl)) ?_; (with_reducible refine (saleroomref02_Of.calls k2 _ _ x4_2 t142 _ ?side1 ?side2 A86.out).mono ?_); (case side1 => repeat (first | exact (Kd.R_reads' HO_4.out).2.2 | (with_reducible refine Kd.C_alloc ?_ _) | (with_reducible refine Kd.C_drewN ?_ _) | (with_reducible refine Kd.C_drew ?_))); (case side2 => exact (Kd.R_reads' HO_4.out).2.1); rintro e w' ⟨rfl, ⟨nd, rfl⟩⟩; refine ⟨_, rfl, ?_⟩))
              go_ret2
              exact ⟨by first | rfl | (simp [errW_none, errW_some] <;> rfl) | (simp [*, errW_none, errW_some] <;> rfl), by repeat (first | (with_reducible first | exact HB.out | apply below_alloc | apply pw_below_drewN | apply below_drew1) | exact HB.out)⟩

end Go.Proofs.YtmcapemlfplcgaaDoor.PAll2
