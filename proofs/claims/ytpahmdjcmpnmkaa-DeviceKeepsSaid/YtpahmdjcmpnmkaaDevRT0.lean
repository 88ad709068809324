/- The document's device: Truncate of region 0. -/
import Derived.Test.YtpahmdjcmpnmkaaDevRef
namespace Go.Proofs.Ytpahmdjcmpnmkaa.H
open Go.RowKit Go.Proofs.YtpahmdjcmpnmkaaW.PrintWords Go.Proofs.YtpahmdjcmpnmkaaW.PrintLast Go.Proofs.YtpahmdjcmpnmkaaW.PrintMore
set_option linter.unusedVariables false
set_option linter.unusedSimpArgs false

set_option maxHeartbeats 1600000 in
theorem RTrunc0 [Pl] (A0 : Option Addr) (c0 : Nat) (A1 : Option Addr) (c1 : Nat) (d : Dv) (n : Int) (W : World) (hR : RvOf W A0 c0 A1 c1 d) (hf : d.fit 500000 1000000000000) :
    Calls Try.prog 27 #[.agg (rvCells A0 c0 A1 c1 d), .int .i64 0, .int .i64 n] W fun e W' => ∃ A0' c0' A1' c1', e = .returned (.tuple #[.agg (rvCells A0' c0' A1' c1' (truncD d 0 n).1), .int .i64 (truncD d 0 n).2]) ∧ RvOf W' A0' c0' A1' c1' (truncD d 0 n).1 ∧ Below W.heap.size W W' := by
  obtain ⟨q1, q2, q3, q4, q5, q6, q7, q8⟩ := hf
  have HR := Aside0.mk hR
  clear hR
  obtain ⟨a, b, cap, left, down, turned⟩ := d
  simp only at q1 q2 q3 q4 q5 q6 q7 q8
  cases down
  case true =>
    rw [show truncD ⟨a, b, cap, left, true, turned⟩ 0 n = (⟨a, b, cap, left, true, turned⟩, 30) from rfl]
    go_enter Try.func27, Try.ntmps27
    go_wp2
    refine bodyPost_ret (results_list (rs := [.cell 6 29, .tmp 7]) rfl (by simp) (.cell (W.heap.size + 1) _ _ _ _ rfl (blk_new2 W _ _) Try.underlying29 rfl info_rv (.tmp .nil))) rfl ?_
    exact ⟨A0, c0, A1, c1, rfl, HR.out.below (below_alloc (below_alloc (Below.refl _ _) _) _), below_alloc (below_alloc (Below.refl _ _) _) _⟩
  case false =>
    by_cases hbad : n < 0 ∨ n > a.length
    · rw [show truncD ⟨a, b, cap, left, false, turned⟩ 0 n = (⟨a, b, cap, left, false, turned⟩, 1) by unfold truncD; rw [if_neg (by simp), if_pos (show ¬((0 : Int) = 0 ∨ (0 : Int) = 1) ∨ n < 0 ∨ n > ((⟨a, b, cap, left, false, turned⟩ : Dv).row 0).length from .inr hbad)]]
      by_cases hn : n < 0
      · have b0 : decide (n < 0) = true := decide_eq_true hn
        skip
        clear hbad hn
        go_enter Try.func27, Try.ntmps27
        go_wp2_with (fail)
        have hk : RvB ((W.alloc (.cells (rvCells A0 c0 A1 c1 ⟨a, b, cap, left, false, turned⟩) 29)).alloc (.cells #[.slice none 0 0, .slice none 0 0, .int .i64 0, .int .i64 0, .bool false, .int .i64 0] 29)) W.heap.size A0 c0 A1 c1 ⟨a, b, cap, left, false, turned⟩ := blk_alloc (blk_new W _) _
        have hr := blk_new2 W (.cells (rvCells A0 c0 A1 c1 ⟨a, b, cap, left, false, turned⟩) 29) (.cells #[.slice none 0 0, .slice none 0 0, .int .i64 0, .int .i64 0, .bool false, .int .i64 0] 29)
        have hB : Below W.heap.size W ((W.alloc (.cells (rvCells A0 c0 A1 c1 ⟨a, b, cap, left, false, turned⟩) 29)).alloc (.cells #[.slice none 0 0, .slice none 0 0, .int .i64 0, .int .i64 0, .bool false, .int .i64 0] 29)) := below_alloc (below_alloc (Below.refl _ _) _) _
        generalize ((W.alloc (.cells (rvCells A0 c0 A1 c1 ⟨a, b, cap, left, false, turned⟩) 29)).alloc (.cells #[.slice none 0 0, .slice none 0 0, .int .i64 0, .int .i64 0, .bool false, .int .i64 0] 29)) = W1 at *
        obtain ⟨k0, k1, k2, k3, k4, k5⟩ := hk.cells
        have H1 := Aside0.mk (And.intro hk (And.intro hr hB))
        clear hk hr hB
        go_wp2_with (first
          | (go_at_call 25; (with_reducible refine (RRow_calls A0 c0 A1 c1 ⟨a, b, cap, left, false, turned⟩ 0 (.slice A0 a.length c0) _ ?s1).mono ?_); (case s1 => exact if_pos rfl); rintro e w2 ⟨rfl, hb2⟩; have hk2 : RvB w2 W.heap.size A0 c0 A1 c1 ⟨a, b, cap, left, false, turned⟩ := blk_belowX H1.out.1 hb2; obtain ⟨z0, z1, z2, z3, z4, z5⟩ := hk2.cells; have H2 := Aside0.mk (And.intro hk2 (And.intro (blk_belowX H1.out.2.1 hb2) (below_step H1.out.2.2 hb2))); clear hk2 hb2)
          | ((with_reducible refine gate_store (t := 29) (p := 6) (v := .tmp 32) rfl ?_); refine wpList_store_agg rfl rfl 29 (.tmp 6) (.tmp 32) rfl (W.heap.size + 1) 29 _ (rvCells A0 c0 A1 c1 ⟨a, b, cap, left, false, turned⟩) rfl rfl H2.out.2.1 info_rv rfl (by intro q hq; simp at hq; rcases hq with rfl | rfl | rfl | rfl | rfl | rfl <;> rfl) ?_; intro w3 hr3 hf3 hz3 ho3 ht3 hu3; have H3 := Aside0.mk (And.intro hr3 (oth_of hf3 hz3 ho3 ht3 hu3)); clear hr3 hf3 hz3 ho3 ht3 hu3))
        refine bodyPost_ret (results_list (rs := [.cell 6 29, .tmp 7]) rfl (by simp) (.cell (W.heap.size + 1) _ _ _ _ rfl H3.out.1 Try.underlying29 rfl info_rv (.tmp .nil))) rfl ?_
        exact ⟨A0, c0, A1, c1, rfl, (HR.out.below H2.out.2.2).oth H2.out.2.1 (by decide) H3.out.2, H3.out.2.below H2.out.2.2 (by omega)⟩
      · have b0 : decide (n < 0) = false := decide_eq_false hn
        have b1 : decide ((a.length : Int) < n) = true := decide_eq_true (by omega)
        skip
        clear hbad hn
        go_enter Try.func27, Try.ntmps27
        go_wp2_with (fail)
        have hk : RvB ((W.alloc (.cells (rvCells A0 c0 A1 c1 ⟨a, b, cap, left, false, turned⟩) 29)).alloc (.cells #[.slice none 0 0, .slice none 0 0, .int .i64 0, .int .i64 0, .bool false, .int .i64 0] 29)) W.heap.size A0 c0 A1 c1 ⟨a, b, cap, left, false, turned⟩ := blk_alloc (blk_new W _) _
        have hr := blk_new2 W (.cells (rvCells A0 c0 A1 c1 ⟨a, b, cap, left, false, turned⟩) 29) (.cells #[.slice none 0 0, .slice none 0 0, .int .i64 0, .int .i64 0, .bool false, .int .i64 0] 29)
        have hB : Below W.heap.size W ((W.alloc (.cells (rvCells A0 c0 A1 c1 ⟨a, b, cap, left, false, turned⟩) 29)).alloc (.cells #[.slice none 0 0, .slice none 0 0, .int .i64 0, .int .i64 0, .bool false, .int .i64 0] 29)) := below_alloc (below_alloc (Below.refl _ _) _) _
        generalize ((W.alloc (.cells (rvCells A0 c0 A1 c1 ⟨a, b, cap, left, false, turned⟩) 29)).alloc (.cells #[.slice none 0 0, .slice none 0 0, .int .i64 0, .int .i64 0, .bool false, .int .i64 0] 29)) = W1 at *
        obtain ⟨k0, k1, k2, k3, k4, k5⟩ := hk.cells
        have H1 := Aside0.mk (And.intro hk (And.intro hr hB))
        clear hk hr hB
        go_wp2_with (first
          | (go_at_call 25; (with_reducible refine (RRow_calls A0 c0 A1 c1 ⟨a, b, cap, left, false, turned⟩ 0 (.slice A0 a.length c0) _ ?s1).mono ?_); (case s1 => exact if_pos rfl); rintro e w2 ⟨rfl, hb2⟩; have hk2 : RvB w2 W.heap.size A0 c0 A1 c1 ⟨a, b, cap, left, false, turned⟩ := blk_belowX H1.out.1 hb2; obtain ⟨z0, z1, z2, z3, z4, z5⟩ := hk2.cells; have H2 := Aside0.mk (And.intro hk2 (And.intro (blk_belowX H1.out.2.1 hb2) (below_step H1.out.2.2 hb2))); clear hk2 hb2)
          | ((with_reducible refine gate_store (t := 29) (p := 6) (v := .tmp 32) rfl ?_); refine wpList_store_agg rfl rfl 29 (.tmp 6) (.tmp 32) rfl (W.heap.size + 1) 29 _ (rvCells A0 c0 A1 c1 ⟨a, b, cap, left, false, turned⟩) rfl rfl H2.out.2.1 info_rv rfl (by intro q hq; simp at hq; rcases hq with rfl | rfl | rfl | rfl | rfl | rfl <;> rfl) ?_; intro w3 hr3 hf3 hz3 ho3 ht3 hu3; have H3 := Aside0.mk (And.intro hr3 (oth_of hf3 hz3 ho3 ht3 hu3)); clear hr3 hf3 hz3 ho3 ht3 hu3))
        refine bodyPost_ret (results_list (rs := [.cell 6 29, .tmp 7]) rfl (by simp) (.cell (W.heap.size + 1) _ _ _ _ rfl H3.out.1 Try.underlying29 rfl info_rv (.tmp .nil))) rfl ?_
        exact ⟨A0, c0, A1, c1, rfl, (HR.out.below H2.out.2.2).oth H2.out.2.1 (by decide) H3.out.2, H3.out.2.below H2.out.2.2 (by omega)⟩
    · obtain ⟨n, rfl⟩ := Int.eq_ofNat_of_zero_le (by omega : 0 ≤ n)
      have hnl : n ≤ a.length := by omega
      have b0 : decide ((n : Int) < 0) = false := decide_eq_false (by omega)
      have b1 : decide ((a.length : Int) < (n : Int)) = false := decide_eq_false (by omega)
      have b2 : decide (a.length < n) = false := decide_eq_false (by omega)
      have hap : truncD ⟨a, b, cap, left, false, turned⟩ 0 n = ((turnD ⟨a, b, cap, left, false, turned⟩ (a.length - n)).set 0 (a.take (a.length - turnN ⟨a, b, cap, left, false, turned⟩ (a.length - n))), if (turnD ⟨a, b, cap, left, false, turned⟩ (a.length - n)).down = true then 30 else 0) := by
        unfold truncD
        rw [if_neg (by simp), if_neg (show ¬(¬((0 : Int) = 0 ∨ (0 : Int) = 1) ∨ (n : Int) < 0 ∨ (n : Int) > ((⟨a, b, cap, left, false, turned⟩ : Dv).row 0).length) from fun h => by rcases h with h | h; exact h (.inl rfl); exact hbad h)]
        rw [Int.toNat_natCast]
        rfl
      have hkn : turnN ⟨a, b, cap, left, false, turned⟩ (a.length - n) ≤ a.length - n := by unfold turnN; split <;> simp only at * <;> omega
      obtain ⟨L, Dn, T1, hD1⟩ : ∃ L Dn T1, turnD ⟨a, b, cap, left, false, turned⟩ (a.length - n) = ⟨a, b, cap, L, Dn, T1⟩ := ⟨_, _, _, rfl⟩
      generalize hk : turnN ⟨a, b, cap, left, false, turned⟩ (a.length - n) = k at hap hkn
      rw [hD1] at hap
      have hap2 : truncD ⟨a, b, cap, left, false, turned⟩ 0 n = ((⟨a, b, cap, L, Dn, T1⟩ : Dv).set 0 (a.take (a.length - k)), if Dn = true then 30 else 0) := hap
      obtain ⟨i0, hi0, _, hsz, _⟩ := info_parts info_u8
      have hlx := HR.out.l0
      have hcut := (print_take_of (P := Try.prog) (Value.int .u8) 0 27 5 .i64 Try.underlying27 hi0 hsz A0 c0 a ((a.length : Int) - (k : Int)) (by omega) (by omega) hlx).1
      rw [show ((a.length : Int) - (k : Int)).toNat = a.length - k by omega] at hcut
      generalize hnr : a.take (a.length - k) = nr at hap2 hcut
      have hap3 : truncD ⟨a, b, cap, left, false, turned⟩ 0 n = ((⟨nr, b, cap, L, Dn, T1⟩ : Dv), if Dn = true then 30 else 0) := hap2
      have hnl2 : nr.length ≤ a.length := by rw [← hnr, List.length_take]; omega
      have hCn : ∀ w, Kd.C (Kd.int .u8) w A0 a.length a → Kd.C (Kd.int .u8) w A0 nr.length nr := fun w h => by rw [← hnr]; exact Kd.C_take h (by omega)
      have HX := Aside0.mk (And.intro hap3 (And.intro hD1 (And.intro hk hCn)))
      clear hap hap2 hap3 hD1 hk hi0 hsz hbad hCn hnr hlx
      go_enter Try.func27, Try.ntmps27
      go_wp2_with (fail)
      have hk : RvB ((W.alloc (.cells (rvCells A0 c0 A1 c1 ⟨a, b, cap, left, false, turned⟩) 29)).alloc (.cells #[.slice none 0 0, .slice none 0 0, .int .i64 0, .int .i64 0, .bool false, .int .i64 0] 29)) W.heap.size A0 c0 A1 c1 ⟨a, b, cap, left, false, turned⟩ := blk_alloc (blk_new W _) _
      have hr := blk_new2 W (.cells (rvCells A0 c0 A1 c1 ⟨a, b, cap, left, false, turned⟩) 29) (.cells #[.slice none 0 0, .slice none 0 0, .int .i64 0, .int .i64 0, .bool false, .int .i64 0] 29)
      have hB : Below W.heap.size W ((W.alloc (.cells (rvCells A0 c0 A1 c1 ⟨a, b, cap, left, false, turned⟩) 29)).alloc (.cells #[.slice none 0 0, .slice none 0 0, .int .i64 0, .int .i64 0, .bool false, .int .i64 0] 29)) := below_alloc (below_alloc (Below.refl _ _) _) _
      generalize ((W.alloc (.cells (rvCells A0 c0 A1 c1 ⟨a, b, cap, left, false, turned⟩) 29)).alloc (.cells #[.slice none 0 0, .slice none 0 0, .int .i64 0, .int .i64 0, .bool false, .int .i64 0] 29)) = W1 at *
      obtain ⟨k0, k1, k2, k3, k4, k5⟩ := hk.cells
      have H1 := Aside0.mk (And.intro hk (And.intro hr hB))
      clear hk hr hB
      go_wp2_with (first
        | (go_at_call 25; (with_reducible refine (RRow_calls A0 c0 A1 c1 ⟨a, b, cap, left, false, turned⟩ 0 (.slice A0 a.length c0) _ ?s1).mono ?_); (case s1 => exact if_pos rfl); rintro e w2 ⟨rfl, hb2⟩; have hk2 : RvB w2 W.heap.size A0 c0 A1 c1 ⟨a, b, cap, left, false, turned⟩ := blk_belowX H1.out.1 hb2; obtain ⟨z0, z1, z2, z3, z4, z5⟩ := hk2.cells; have H2 := Aside0.mk (And.intro hk2 (And.intro (blk_belowX H1.out.2.1 hb2) (below_step H1.out.2.2 hb2))); clear hk2 hb2)
        | (go_at_call 34; (with_reducible refine (RTurn_eq A0 c0 A1 c1 ⟨a, b, cap, left, false, turned⟩ ⟨a, b, cap, L, Dn, T1⟩ (a.length - n) k _ _ ?s0 ?s1 ?s2 ?s3 ?s4 ?s5 ?s6).mono ?_); (case s0 => omega); (case s1 => exact HX.out.2.1); (case s2 => exact HX.out.2.2.1); (case s3 => omega); (case s4 => exact q7); (case s5 => exact q8); (case s6 => exact q6); rintro e w3 ⟨rfl, hb3⟩; have H3 := Aside0.mk (And.intro (blk_belowX H2.out.1 hb3) (And.intro (blk_belowX H2.out.2.1 hb3) (below_step H2.out.2.2 hb3))); clear hb3)
        | ((with_reducible refine gate_store (t := 29) (p := 3) (v := .tmp 40) rfl ?_); refine wpList_store_agg rfl rfl 29 (.tmp 3) (.tmp 40) rfl W.heap.size 29 _ (rvCells A0 c0 A1 c1 ⟨a, b, cap, L, Dn, T1⟩) rfl rfl H3.out.1 info_rv rfl (by intro q hq; simp at hq; rcases hq with rfl | rfl | rfl | rfl | rfl | rfl <;> rfl) ?_; intro w4 hr3 hf3 hz3 ho3 ht3 hu3; have hot := oth_of hf3 hz3 ho3 ht3 hu3; have hq4 : RvB w4 W.heap.size A0 c0 A1 c1 ⟨a, b, cap, L, Dn, T1⟩ := hr3; have H4 := Aside0.mk (And.intro hq4 (And.intro (hot.blk H3.out.2.1 (by omega)) (hot.below H3.out.2.2 (Nat.le_refl _)))); clear hot hq4; clear hr3 hf3 hz3 ho3 ht3 hu3))
      clear k0 k1 k2 k3 k4 k5 z0 z1 z2 z3 z4 z5
      obtain ⟨y0, y1, y2, y3, y4, y5⟩ := H4.out.1.cells
      have hlt4 : W.heap.size < w4.heap.size := lt_of_some H4.out.1
      have hww : IntKind.i64.wrap ((a.length : Int) - (k : Int)) = (a.length : Int) - (k : Int) := by rw [IntKind.wrap_i64]; omega
      go_region_with (first
          | (go_at_call 15; refine (Copy_calls _ _ nr _ ?s1 (by omega)).mono ?_; (case s1 => repeat (first | exact HX.out.2.2.2 _ (HR.out.r0.below H4.out.2.2).1 | (with_reducible refine Kd.C_drewN ?_ _) | (with_reducible refine Kd.C_drew ?_))); rintro e w7 ⟨v7, rfl, ho7, hb7'⟩; obtain ⟨A7, c7, e7, hc7, hr7⟩ := Rd.of_R ho7 (Nat.le_trans HR.out.r0.lo H4.out.2.2.size) hb7'.size; subst e7; have hb7 : Below w4.heap.size w4 w7 := ⟨hb7'.os, hb7'.tape, hb7'.output, hb7'.size, hb7'.block⟩; have hq7 : RvB w7 W.heap.size A0 c0 A1 c1 ⟨a, b, cap, L, Dn, T1⟩ := blk_belowX H4.out.1 hb7; obtain ⟨x0, x1, x2, x3, x4, x5⟩ := hq7.cells; have H7 := Aside0.mk (And.intro hq7 (And.intro (blk_belowX H4.out.2.1 hb7) (And.intro (below_step H4.out.2.2 hb7) hr7))); clear hb7 hb7' hq7 ho7 hr7)
          | (go_at_call 35; (with_reducible refine (RSet0_eq A0 c0 A1 c1 ⟨a, b, cap, L, Dn, T1⟩ ⟨nr, b, cap, L, Dn, T1⟩ A7 nr.length c7 nr _ ?s1 ?s2).mono ?_); (case s1 => rfl); (case s2 => rfl); rintro e w8 ⟨rfl, hb8'⟩; have hb8 : Below w7.heap.size w7 w8 := ⟨hb8'.os, hb8'.tape, hb8'.output, hb8'.size, hb8'.block⟩; have hq8 : RvB w8 W.heap.size A0 c0 A1 c1 ⟨a, b, cap, L, Dn, T1⟩ := blk_belowX H7.out.1 hb8; obtain ⟨x0, x1, x2, x3, x4, x5⟩ := hq8.cells; have g0 := blk_frozen hq8 0; have g1 := blk_frozen hq8 1; have g2 := blk_frozen hq8 2; have g3 := blk_frozen hq8 3; have g4 := blk_frozen hq8 4; have g5 := blk_frozen hq8 5; have H8 := Aside0.mk (And.intro hq8 (And.intro (blk_belowX H7.out.2.1 hb8) (And.intro (below_step H7.out.2.2.1 hb8) (H7.out.2.2.2.below hb8)))); clear hb8 hb8' hq8))
      all_goals
        have hB9 := blk_put (blk_put (blk_put (blk_put (blk_put (blk_put H8.out.1 0 (.slice A7 nr.length c7) rfl) 1 (.slice A1 b.length c1) rfl) 2 (.int .i64 cap) rfl) 3 (.int .i64 L) rfl) 4 (.bool Dn) rfl) 5 (.int .i64 T1) rfl
        have hO9 : Oth W.heap.size w8 ((((((w8.setCell ⟨W.heap.size, 0, none⟩ (.slice A7 nr.length c7)).setCell ⟨W.heap.size, 1, none⟩ (.slice A1 b.length c1)).setCell ⟨W.heap.size, 2, none⟩ (.int .i64 cap)).setCell ⟨W.heap.size, 3, none⟩ (.int .i64 L)).setCell ⟨W.heap.size, 4, none⟩ (.bool Dn)).setCell ⟨W.heap.size, 5, none⟩ (.int .i64 T1)) := ((((((Oth.set w8 ⟨W.heap.size, 0, none⟩ _).trans (Oth.set _ ⟨W.heap.size, 1, none⟩ _)).trans (Oth.set _ ⟨W.heap.size, 2, none⟩ _)).trans (Oth.set _ ⟨W.heap.size, 3, none⟩ _)).trans (Oth.set _ ⟨W.heap.size, 4, none⟩ _)).trans (Oth.set _ ⟨W.heap.size, 5, none⟩ _))
        generalize ((((((w8.setCell ⟨W.heap.size, 0, none⟩ (.slice A7 nr.length c7)).setCell ⟨W.heap.size, 1, none⟩ (.slice A1 b.length c1)).setCell ⟨W.heap.size, 2, none⟩ (.int .i64 cap)).setCell ⟨W.heap.size, 3, none⟩ (.int .i64 L)).setCell ⟨W.heap.size, 4, none⟩ (.bool Dn)).setCell ⟨W.heap.size, 5, none⟩ (.int .i64 T1)) = w9 at hB9 hO9 ⊢
        have hB9' : RvB w9 W.heap.size A7 c7 A1 c1 ⟨nr, b, cap, L, Dn, T1⟩ := hB9
        have H9 := Aside0.mk (And.intro hB9' (And.intro (hO9.blk H8.out.2.1 (by omega)) (And.intro (hO9.below H8.out.2.2.1 (Nat.le_refl _)) (H8.out.2.2.2.oth H8.out.1 (by decide) hO9))))
        clear hB9 hO9 x0 x1 x2 x3 x4 x5 g0 g1 g2 g3 g4 g5 y0 y1 y2 y3 y4 y5
        obtain ⟨x0, x1, x2, x3, x4, x5⟩ := hB9'.cells
        clear hB9' H8 H7 H4
        cases Dn
        · go_wp2_with (first
            | ((with_reducible refine gate_store (t := 29) (p := 6) (v := .tmp 55) rfl ?_); refine wpList_store_agg rfl rfl 29 (.tmp 6) (.tmp 55) rfl (W.heap.size + 1) 29 _ (rvCells A7 c7 A1 c1 ⟨nr, b, cap, L, false, T1⟩) rfl rfl H9.out.2.1 info_rv rfl (by intro q hq; simp at hq; rcases hq with rfl | rfl | rfl | rfl | rfl | rfl <;> rfl) ?_; intro w10 hr3 hf3 hz3 ho3 ht3 hu3; have hot := oth_of hf3 hz3 ho3 ht3 hu3; have H10 := Aside0.mk (And.intro hr3 hot); clear hot; clear hr3 hf3 hz3 ho3 ht3 hu3))
          refine bodyPost_ret (results_list (rs := [.cell 6 29, .tmp 7]) rfl (by simp) (.cell (W.heap.size + 1) _ _ _ _ rfl H10.out.1 Try.underlying29 rfl info_rv (.tmp .nil))) rfl ?_
          have hbf := H10.out.2.below H9.out.2.2.1 (by omega)
          exact ⟨A7, c7, A1, c1, by rw [HX.out.1]; rfl, by rw [HX.out.1]; exact ⟨hc7, HR.out.l1, H9.out.2.2.2.oth H9.out.2.1 (by decide) H10.out.2, HR.out.r1.below hbf⟩, hbf⟩
        · go_wp2_with (first
            | ((with_reducible refine gate_store (t := 29) (p := 6) (v := .tmp 54) rfl ?_); refine wpList_store_agg rfl rfl 29 (.tmp 6) (.tmp 54) rfl (W.heap.size + 1) 29 _ (rvCells A7 c7 A1 c1 ⟨nr, b, cap, L, true, T1⟩) rfl rfl H9.out.2.1 info_rv rfl (by intro q hq; simp at hq; rcases hq with rfl | rfl | rfl | rfl | rfl | rfl <;> rfl) ?_; intro w10 hr3 hf3 hz3 ho3 ht3 hu3; have hot := oth_of hf3 hz3 ho3 ht3 hu3; have H10 := Aside0.mk (And.intro hr3 hot); clear hot; clear hr3 hf3 hz3 ho3 ht3 hu3))
          refine bodyPost_ret (results_list (rs := [.cell 6 29, .tmp 7]) rfl (by simp) (.cell (W.heap.size + 1) _ _ _ _ rfl H10.out.1 Try.underlying29 rfl info_rv (.tmp .nil))) rfl ?_
          have hbf := H10.out.2.below H9.out.2.2.1 (by omega)
          exact ⟨A7, c7, A1, c1, by rw [HX.out.1]; rfl, by rw [HX.out.1]; exact ⟨hc7, HR.out.l1, H9.out.2.2.2.oth H9.out.2.1 (by decide) H10.out.2, HR.out.r1.below hbf⟩, hbf⟩
end Go.Proofs.Ytpahmdjcmpnmkaa.H
