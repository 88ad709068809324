/- The document's device: Append of region 0. -/
import Derived.Test.YtpahmdjcmpnmkaaDevRef
namespace Go.Proofs.Ytpahmdjcmpnmkaa.H
open Go.RowKit Go.Proofs.YtpahmdjcmpnmkaaW.PrintWords Go.Proofs.YtpahmdjcmpnmkaaW.PrintLast Go.Proofs.YtpahmdjcmpnmkaaW.PrintMore
set_option linter.unusedVariables false
set_option linter.unusedSimpArgs false
attribute [local go_sem] cellV_drew

set_option maxHeartbeats 1600000 in
theorem RApp0 [Pl] (A0 : Option Addr) (c0 : Nat) (A1 : Option Addr) (c1 : Nat) (d : Dv) (A : Option Addr) (c : Nat) (l : List Int) (W : World) (hR : RvOf W A0 c0 A1 c1 d) (hl : Kd.C (Kd.int .u8) W A l.length l) (hc : l.length ≤ c) (hf : d.fit 500000 1000000000000) (hn : l.length ≤ 500000) :
    Calls Try.prog 26 #[.agg (rvCells A0 c0 A1 c1 d), .int .i64 0, .slice A l.length c] W fun e W' => ∃ A0' c0' A1' c1', e = .returned (.tuple #[.agg (rvCells A0' c0' A1' c1' (appendD d 0 l).1), .int .i64 (appendD d 0 l).2]) ∧ RvOf W' A0' c0' A1' c1' (appendD d 0 l).1 ∧ Below W.heap.size W W' := by
  obtain ⟨q1, q2, q3, q4, q5, q6, q7, q8⟩ := hf
  have HR := Aside0.mk (And.intro hR hl)
  clear hR hl
  obtain ⟨a, b, cap, left, down, turned⟩ := d
  simp only at q1 q2 q3 q4 q5 q6 q7 q8
  cases down
  case true =>
    rw [show appendD ⟨a, b, cap, left, true, turned⟩ 0 l = (⟨a, b, cap, left, true, turned⟩, 30) from rfl]
    go_enter Try.func26, Try.ntmps26
    go_wp2
    refine bodyPost_ret (results_list (rs := [.cell 6 29, .tmp 7]) rfl (by simp) (.cell (W.heap.size + 1) _ _ _ _ rfl (blk_new2 W _ _) Try.underlying29 rfl info_rv (.tmp .nil))) rfl ?_
    exact ⟨A0, c0, A1, c1, rfl, HR.out.1.below (below_alloc (below_alloc (Below.refl _ _) _) _), below_alloc (below_alloc (Below.refl _ _) _) _⟩
  case false =>
    have hw : IntKind.i64.wrap (cap - (a.length : Int)) = cap - (a.length : Int) := by rw [IntKind.wrap_i64]; omega
    by_cases hroom : (l.length : Int) > cap - a.length
    · have b1 : decide (cap - (a.length : Int) < (l.length : Int)) = true := decide_eq_true hroom
      rw [show appendD ⟨a, b, cap, left, false, turned⟩ 0 l = (⟨a, b, cap, left, false, turned⟩, 6) by unfold appendD; rw [if_neg (by simp), if_neg (by omega), if_pos (show (l.length : Int) > cap - ((⟨a, b, cap, left, false, turned⟩ : Dv).row 0).length from hroom)]]
      clear hroom
      go_enter Try.func26, Try.ntmps26
      go_wp2
      have hk : RvB ((W.alloc (.cells (rvCells A0 c0 A1 c1 ⟨a, b, cap, left, false, turned⟩) 29)).alloc (.cells #[.slice none 0 0, .slice none 0 0, .int .i64 0, .int .i64 0, .bool false, .int .i64 0] 29)) W.heap.size A0 c0 A1 c1 ⟨a, b, cap, left, false, turned⟩ := blk_alloc (blk_new W _) _
      have hr := blk_new2 W (.cells (rvCells A0 c0 A1 c1 ⟨a, b, cap, left, false, turned⟩) 29) (.cells #[.slice none 0 0, .slice none 0 0, .int .i64 0, .int .i64 0, .bool false, .int .i64 0] 29)
      have hB : Below W.heap.size W ((W.alloc (.cells (rvCells A0 c0 A1 c1 ⟨a, b, cap, left, false, turned⟩) 29)).alloc (.cells #[.slice none 0 0, .slice none 0 0, .int .i64 0, .int .i64 0, .bool false, .int .i64 0] 29)) := below_alloc (below_alloc (Below.refl _ _) _) _
      generalize ((W.alloc (.cells (rvCells A0 c0 A1 c1 ⟨a, b, cap, left, false, turned⟩) 29)).alloc (.cells #[.slice none 0 0, .slice none 0 0, .int .i64 0, .int .i64 0, .bool false, .int .i64 0] 29)) = W1 at *
      obtain ⟨k0, k1, k2, k3, k4, k5⟩ := hk.cells
      have H1 := Aside0.mk (And.intro hk (And.intro hr hB))
      clear hk hr hB
      go_region_held3 (fun w' => w'.cell? ⟨W.heap.size, 0, none⟩ = some (.slice A0 a.length c0) ∧ w'.cell? ⟨W.heap.size, 1, none⟩ = some (.slice A1 b.length c1) ∧ w'.cell? ⟨W.heap.size, 2, none⟩ = some (.int .i64 cap) ∧ w'.cell? ⟨W.heap.size, 3, none⟩ = some (.int .i64 left) ∧ w'.cell? ⟨W.heap.size, 4, none⟩ = some (.bool false) ∧ w'.cell? ⟨W.heap.size, 5, none⟩ = some (.int .i64 turned)) (first | exact KK.out | go_keep)
        (first
          | (go_at_call 25; refine (RRow_calls A0 c0 A1 c1 ⟨a, b, cap, left, false, turned⟩ 0 _ _ (if_pos rfl)).mono ?_; rintro e w2 ⟨rfl, hb2'⟩; have hb2 : Below W1.heap.size W1 w2 := ⟨hb2'.os, hb2'.tape, hb2'.output, hb2'.size, hb2'.block⟩; have hk2 : RvB w2 W.heap.size A0 c0 A1 c1 ⟨a, b, cap, left, false, turned⟩ := blk_belowX H1.out.1 hb2; have KK := Aside0.mk hk2.cells; have H2 := Aside0.mk (And.intro hk2 (And.intro (blk_belowX H1.out.2.1 hb2) (below_step H1.out.2.2 hb2))); clear hk2 hb2 hb2'))
      obtain ⟨z0, z1, z2, z3, z4, z5⟩ := KK.out
      go_wp2_with (first
        | ((with_reducible refine gate_store (t := 29) (p := 6) (v := .tmp 29) rfl ?_); refine wpList_store_agg rfl rfl 29 (.tmp 6) (.tmp 29) rfl (W.heap.size + 1) 29 _ (rvCells A0 c0 A1 c1 ⟨a, b, cap, left, false, turned⟩) rfl rfl H2.out.2.1 info_rv rfl (by intro q hq; simp at hq; rcases hq with rfl | rfl | rfl | rfl | rfl | rfl <;> rfl) ?_; intro w3 hr3 hf3 hz3 ho3 ht3 hu3; have H3 := Aside0.mk (And.intro hr3 (oth_of hf3 hz3 ho3 ht3 hu3)); clear hr3 hf3 hz3 ho3 ht3 hu3))
      refine bodyPost_ret (results_list (rs := [.cell 6 29, .tmp 7]) rfl (by simp) (.cell (W.heap.size + 1) _ _ _ _ rfl H3.out.1 Try.underlying29 rfl info_rv (.tmp .nil))) rfl ?_
      exact ⟨A0, c0, A1, c1, rfl, (HR.out.1.below H2.out.2.2).oth H2.out.2.1 (by decide) H3.out.2, H3.out.2.below H2.out.2.2 (by omega)⟩
    · have b1 : decide (cap - (a.length : Int) < (l.length : Int)) = false := decide_eq_false hroom
      have hap : appendD ⟨a, b, cap, left, false, turned⟩ 0 l = ((turnD ⟨a, b, cap, left, false, turned⟩ l.length).set 0 (a ++ l.take (turnN ⟨a, b, cap, left, false, turned⟩ l.length)), if (turnD ⟨a, b, cap, left, false, turned⟩ l.length).down = true then 30 else 0) := by
        unfold appendD
        rw [if_neg (by simp), if_neg (by omega), if_neg (show ¬ (l.length : Int) > cap - ((⟨a, b, cap, left, false, turned⟩ : Dv).row 0).length from hroom)]
        rfl
      have hkn : turnN ⟨a, b, cap, left, false, turned⟩ l.length ≤ l.length := by unfold turnN; split <;> simp only at * <;> omega
      obtain ⟨L, Dn, T1, hD1⟩ : ∃ L Dn T1, turnD ⟨a, b, cap, left, false, turned⟩ l.length = ⟨a, b, cap, L, Dn, T1⟩ := ⟨_, _, _, rfl⟩
      generalize hk : turnN ⟨a, b, cap, left, false, turned⟩ l.length = k at hap hkn
      rw [hD1] at hap
      have hap2 : appendD ⟨a, b, cap, left, false, turned⟩ 0 l = ((⟨a ++ l.take k, b, cap, L, Dn, T1⟩ : Dv), if Dn = true then 30 else 0) := hap
      obtain ⟨i0, hi0, _, hsz, _⟩ := info_parts info_u8
      have hcut := (print_take_of (P := Try.prog) (Value.int .u8) 0 27 5 .i64 Try.underlying27 hi0 hsz A c l (k : Int) (by omega) (by omega) hc).1
      rw [Int.toNat_natCast] at hcut
      have htl : (l.take k).length = k := by rw [List.length_take]; omega
      rw [htl] at hcut
      have hfl : ([a, l.take k] : List (List Int)).flatten = a ++ l.take k := by simp
      have hjl : ([a, l.take k] : List (List Int)).flatten.length ≤ 1000000 := by rw [hfl, List.length_append, htl]; omega
      have hck : k ≤ c := by omega
      have hjo := fun (A : Option Addr) (c : Nat) (w : World) (h : Kd.C (Kd.slice 5 (Kd.int .u8)) w A 2 [a, l.take k]) => Join_calls A c [a, l.take k] w h hjl
      rw [hfl] at hjo
      generalize hnr : a ++ l.take k = nr at hap2 hjo
      have HX := Aside0.mk (And.intro hap2 (And.intro hD1 (And.intro hk (And.intro htl hjo))))
      clear hap hap2 hD1 hk htl hfl hjl hi0 hsz hroom hjo hnr
      go_enter Try.func26, Try.ntmps26
      go_wp2
      have hk : RvB ((W.alloc (.cells (rvCells A0 c0 A1 c1 ⟨a, b, cap, left, false, turned⟩) 29)).alloc (.cells #[.slice none 0 0, .slice none 0 0, .int .i64 0, .int .i64 0, .bool false, .int .i64 0] 29)) W.heap.size A0 c0 A1 c1 ⟨a, b, cap, left, false, turned⟩ := blk_alloc (blk_new W _) _
      have hr := blk_new2 W (.cells (rvCells A0 c0 A1 c1 ⟨a, b, cap, left, false, turned⟩) 29) (.cells #[.slice none 0 0, .slice none 0 0, .int .i64 0, .int .i64 0, .bool false, .int .i64 0] 29)
      have hB : Below W.heap.size W ((W.alloc (.cells (rvCells A0 c0 A1 c1 ⟨a, b, cap, left, false, turned⟩) 29)).alloc (.cells #[.slice none 0 0, .slice none 0 0, .int .i64 0, .int .i64 0, .bool false, .int .i64 0] 29)) := below_alloc (below_alloc (Below.refl _ _) _) _
      generalize ((W.alloc (.cells (rvCells A0 c0 A1 c1 ⟨a, b, cap, left, false, turned⟩) 29)).alloc (.cells #[.slice none 0 0, .slice none 0 0, .int .i64 0, .int .i64 0, .bool false, .int .i64 0] 29)) = W1 at *
      obtain ⟨k0, k1, k2, k3, k4, k5⟩ := hk.cells
      have H1 := Aside0.mk (And.intro hk (And.intro hr hB))
      clear hk hr hB
      go_region_held3 (fun w' => w'.cell? ⟨W.heap.size, 0, none⟩ = some (.slice A0 a.length c0) ∧ w'.cell? ⟨W.heap.size, 1, none⟩ = some (.slice A1 b.length c1) ∧ w'.cell? ⟨W.heap.size, 2, none⟩ = some (.int .i64 cap) ∧ w'.cell? ⟨W.heap.size, 3, none⟩ = some (.int .i64 left) ∧ w'.cell? ⟨W.heap.size, 4, none⟩ = some (.bool false) ∧ w'.cell? ⟨W.heap.size, 5, none⟩ = some (.int .i64 turned)) (first | exact KK.out | go_keep)
        (first
          | (go_at_call 25; refine (RRow_calls A0 c0 A1 c1 ⟨a, b, cap, left, false, turned⟩ 0 _ _ (if_pos rfl)).mono ?_; rintro e w2 ⟨rfl, hb2'⟩; have hb2 : Below W1.heap.size W1 w2 := ⟨hb2'.os, hb2'.tape, hb2'.output, hb2'.size, hb2'.block⟩; have hk2 : RvB w2 W.heap.size A0 c0 A1 c1 ⟨a, b, cap, left, false, turned⟩ := blk_belowX H1.out.1 hb2; have KK := Aside0.mk hk2.cells; have H2 := Aside0.mk (And.intro hk2 (And.intro (blk_belowX H1.out.2.1 hb2) (below_step H1.out.2.2 hb2))); clear hk2 hb2 hb2'))
      clear k0 k1 k2 k3 k4 k5
      obtain ⟨z0, z1, z2, z3, z4, z5⟩ := KK.out
      go_wp2_with (first
        | (go_at_call 34; (with_reducible refine (RTurn_calls A0 c0 A1 c1 ⟨a, b, cap, left, false, turned⟩ ⟨a, b, cap, L, Dn, T1⟩ l.length k _ ?s1 ?s2 ?s3 ?s4 ?s5 ?s6).mono ?_); (case s1 => exact HX.out.2.1); (case s2 => exact HX.out.2.2.1); (case s3 => omega); (case s4 => exact q7); (case s5 => exact q8); (case s6 => exact q6); rintro e w3 ⟨rfl, hb3⟩; have H3 := Aside0.mk (And.intro (blk_belowX H2.out.1 hb3) (And.intro (blk_belowX H2.out.2.1 hb3) (below_step H2.out.2.2 hb3))); clear hb3)
        | ((with_reducible refine gate_store (t := 29) (p := 3) (v := .tmp 35) rfl ?_); refine wpList_store_agg rfl rfl 29 (.tmp 3) (.tmp 35) rfl W.heap.size 29 _ (rvCells A0 c0 A1 c1 ⟨a, b, cap, L, Dn, T1⟩) rfl rfl H3.out.1 info_rv rfl (by intro q hq; simp at hq; rcases hq with rfl | rfl | rfl | rfl | rfl | rfl <;> rfl) ?_; intro w4 hr3 hf3 hz3 ho3 ht3 hu3; have hot := oth_of hf3 hz3 ho3 ht3 hu3; have hq4 : RvB w4 W.heap.size A0 c0 A1 c1 ⟨a, b, cap, L, Dn, T1⟩ := hr3; have H4 := Aside0.mk (And.intro hq4 (And.intro (hot.blk H3.out.2.1 (by omega)) (hot.below H3.out.2.2 (Nat.le_refl _)))); clear hot hq4; clear hr3 hf3 hz3 ho3 ht3 hu3))
      clear z0 z1 z2 z3 z4 z5
      obtain ⟨y0, y1, y2, y3, y4, y5⟩ := H4.out.1.cells
      have hlt4 : W.heap.size < w4.heap.size := lt_of_some H4.out.1
      have fr0 := blk_frozen H4.out.1 0
      have fr1 := blk_frozen H4.out.1 1
      have fr2 := blk_frozen H4.out.1 2
      have fr3 := blk_frozen H4.out.1 3
      have fr4 := blk_frozen H4.out.1 4
      have fr5 := blk_frozen H4.out.1 5
      go_region_with (first
          | (go_at_call 25; (with_reducible refine (RRow_calls A0 c0 A1 c1 ⟨a, b, cap, L, Dn, T1⟩ 0 (.slice A0 a.length c0) _ ?s1).mono ?_); (case s1 => exact if_pos rfl); rintro e w5 ⟨rfl, hb5'⟩; have hb5 : Below w4.heap.size w4 w5 := ⟨hb5'.os, hb5'.tape, hb5'.output, hb5'.size, hb5'.block⟩; have hq5 : RvB w5 W.heap.size A0 c0 A1 c1 ⟨a, b, cap, L, Dn, T1⟩ := blk_belowX H4.out.1 hb5; obtain ⟨x0, x1, x2, x3, x4, x5⟩ := hq5.cells; have hlt5 : W.heap.size < w5.heap.size := lt_of_some hq5; have H5 := Aside0.mk (And.intro hq5 (And.intro (blk_belowX H4.out.2.1 hb5) (below_step H4.out.2.2 hb5))); clear hb5 hb5' hq5)
          | (go_at_call 36; refine (HX.out.2.2.2.2 _ _ _ ?s1).mono ?_; (case s1 => repeat (first | exact C_two_k _ _ HR.out.1.l0 (HR.out.1.r0.below H5.out.2.2).1 hck HX.out.2.2.2.1 (Kd.C_take (Kd.C_below HR.out.2 H5.out.2.2) hkn) | (with_reducible refine Kd.C_drewN ?_ _) | (with_reducible refine Kd.C_drew ?_))); rintro e w7 ⟨v7, rfl, ho7, hb7'⟩; obtain ⟨A7, c7, e7, hc7, hr7⟩ := Rd.of_R ho7 (Nat.le_trans (Nat.le_trans HR.out.1.r0.lo H5.out.2.2.size) (below_alloc (Below.refl w5.heap.size w5) _).size) hb7'.size; subst e7; have hb7 : Below w5.heap.size w5 w7 := below_step (below_alloc (Below.refl w5.heap.size w5) (.cells #[.slice A0 a.length c0, .slice A k c] 27)) ⟨hb7'.os, hb7'.tape, hb7'.output, hb7'.size, hb7'.block⟩; have hq7 : RvB w7 W.heap.size A0 c0 A1 c1 ⟨a, b, cap, L, Dn, T1⟩ := blk_belowX H5.out.1 hb7; obtain ⟨x0, x1, x2, x3, x4, x5⟩ := hq7.cells; have H7 := Aside0.mk (And.intro hq7 (And.intro (blk_belowX H5.out.2.1 hb7) (And.intro (below_step H5.out.2.2 hb7) hr7))); clear hb7 hb7' hq7 ho7 hr7)
          | (go_at_call 35; (with_reducible refine (RSet0_eq A0 c0 A1 c1 ⟨a, b, cap, L, Dn, T1⟩ ⟨nr, b, cap, L, Dn, T1⟩ A7 nr.length c7 nr _ ?s1 ?s2).mono ?_); (case s1 => rfl); (case s2 => rfl); rintro e w8 ⟨rfl, hb8'⟩; have hb8 : Below w7.heap.size w7 w8 := ⟨hb8'.os, hb8'.tape, hb8'.output, hb8'.size, hb8'.block⟩; have hq8 : RvB w8 W.heap.size A0 c0 A1 c1 ⟨a, b, cap, L, Dn, T1⟩ := blk_belowX H7.out.1 hb8; obtain ⟨x0, x1, x2, x3, x4, x5⟩ := hq8.cells; have g0 := blk_frozen hq8 0; have g1 := blk_frozen hq8 1; have g2 := blk_frozen hq8 2; have g3 := blk_frozen hq8 3; have g4 := blk_frozen hq8 4; have g5 := blk_frozen hq8 5; have H8 := Aside0.mk (And.intro hq8 (And.intro (blk_belowX H7.out.2.1 hb8) (And.intro (below_step H7.out.2.2.1 hb8) (H7.out.2.2.2.below hb8)))); clear hb8 hb8' hq8))
      all_goals
        have hB9 := blk_put (blk_put (blk_put (blk_put (blk_put (blk_put H8.out.1 0 (.slice A7 nr.length c7) rfl) 1 (.slice A1 b.length c1) rfl) 2 (.int .i64 cap) rfl) 3 (.int .i64 L) rfl) 4 (.bool Dn) rfl) 5 (.int .i64 T1) rfl
        have hO9 : Oth W.heap.size w8 ((((((w8.setCell ⟨W.heap.size, 0, none⟩ (.slice A7 nr.length c7)).setCell ⟨W.heap.size, 1, none⟩ (.slice A1 b.length c1)).setCell ⟨W.heap.size, 2, none⟩ (.int .i64 cap)).setCell ⟨W.heap.size, 3, none⟩ (.int .i64 L)).setCell ⟨W.heap.size, 4, none⟩ (.bool Dn)).setCell ⟨W.heap.size, 5, none⟩ (.int .i64 T1)) := ((((((Oth.set w8 ⟨W.heap.size, 0, none⟩ _).trans (Oth.set _ ⟨W.heap.size, 1, none⟩ _)).trans (Oth.set _ ⟨W.heap.size, 2, none⟩ _)).trans (Oth.set _ ⟨W.heap.size, 3, none⟩ _)).trans (Oth.set _ ⟨W.heap.size, 4, none⟩ _)).trans (Oth.set _ ⟨W.heap.size, 5, none⟩ _))
        generalize ((((((w8.setCell ⟨W.heap.size, 0, none⟩ (.slice A7 nr.length c7)).setCell ⟨W.heap.size, 1, none⟩ (.slice A1 b.length c1)).setCell ⟨W.heap.size, 2, none⟩ (.int .i64 cap)).setCell ⟨W.heap.size, 3, none⟩ (.int .i64 L)).setCell ⟨W.heap.size, 4, none⟩ (.bool Dn)).setCell ⟨W.heap.size, 5, none⟩ (.int .i64 T1)) = w9 at hB9 hO9 ⊢
        have hB9' : RvB w9 W.heap.size A7 c7 A1 c1 ⟨nr, b, cap, L, Dn, T1⟩ := hB9
        have H9 := Aside0.mk (And.intro hB9' (And.intro (hO9.blk H8.out.2.1 (by omega)) (And.intro (hO9.below H8.out.2.2.1 (Nat.le_refl _)) (H8.out.2.2.2.oth H8.out.1 (by decide) hO9))))
        clear hB9 hO9 x0 x1 x2 x3 x4 x5 g0 g1 g2 g3 g4 g5 y0 y1 y2 y3 y4 y5 fr0 fr1 fr2 fr3 fr4 fr5
        obtain ⟨x0, x1, x2, x3, x4, x5⟩ := hB9'.cells
        clear hB9' H8 H7 H5 H4
        cases Dn
        · go_wp2_with (first
            | ((with_reducible refine gate_store (t := 29) (p := 6) (v := .tmp 51) rfl ?_); refine wpList_store_agg rfl rfl 29 (.tmp 6) (.tmp 51) rfl (W.heap.size + 1) 29 _ (rvCells A7 c7 A1 c1 ⟨nr, b, cap, L, false, T1⟩) rfl rfl H9.out.2.1 info_rv rfl (by intro q hq; simp at hq; rcases hq with rfl | rfl | rfl | rfl | rfl | rfl <;> rfl) ?_; intro w10 hr3 hf3 hz3 ho3 ht3 hu3; have hot := oth_of hf3 hz3 ho3 ht3 hu3; have H10 := Aside0.mk (And.intro hr3 hot); clear hot; clear hr3 hf3 hz3 ho3 ht3 hu3))
          refine bodyPost_ret (results_list (rs := [.cell 6 29, .tmp 7]) rfl (by simp) (.cell (W.heap.size + 1) _ _ _ _ rfl H10.out.1 Try.underlying29 rfl info_rv (.tmp .nil))) rfl ?_
          have hbf := H10.out.2.below H9.out.2.2.1 (by omega)
          exact ⟨A7, c7, A1, c1, by rw [HX.out.1]; rfl, by rw [HX.out.1]; exact ⟨hc7, HR.out.1.l1, H9.out.2.2.2.oth H9.out.2.1 (by decide) H10.out.2, HR.out.1.r1.below hbf⟩, hbf⟩
        · go_wp2_with (first
            | ((with_reducible refine gate_store (t := 29) (p := 6) (v := .tmp 50) rfl ?_); refine wpList_store_agg rfl rfl 29 (.tmp 6) (.tmp 50) rfl (W.heap.size + 1) 29 _ (rvCells A7 c7 A1 c1 ⟨nr, b, cap, L, true, T1⟩) rfl rfl H9.out.2.1 info_rv rfl (by intro q hq; simp at hq; rcases hq with rfl | rfl | rfl | rfl | rfl | rfl <;> rfl) ?_; intro w10 hr3 hf3 hz3 ho3 ht3 hu3; have hot := oth_of hf3 hz3 ho3 ht3 hu3; have H10 := Aside0.mk (And.intro hr3 hot); clear hot; clear hr3 hf3 hz3 ho3 ht3 hu3))
          refine bodyPost_ret (results_list (rs := [.cell 6 29, .tmp 7]) rfl (by simp) (.cell (W.heap.size + 1) _ _ _ _ rfl H10.out.1 Try.underlying29 rfl info_rv (.tmp .nil))) rfl ?_
          have hbf := H10.out.2.below H9.out.2.2.1 (by omega)
          exact ⟨A7, c7, A1, c1, by rw [HX.out.1]; rfl, by rw [HX.out.1]; exact ⟨hc7, HR.out.1.l1, H9.out.2.2.2.oth H9.out.2.1 (by decide) H10.out.2, HR.out.1.r1.below hbf⟩, hbf⟩
end Go.Proofs.Ytpahmdjcmpnmkaa.H
