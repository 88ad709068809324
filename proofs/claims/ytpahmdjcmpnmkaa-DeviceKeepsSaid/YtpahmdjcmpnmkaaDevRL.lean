/- The document's device: Load. -/
import Derived.Test.YtpahmdjcmpnmkaaDevRef
namespace Go.Proofs.Ytpahmdjcmpnmkaa.H
open Go.RowKit Go.Proofs.YtpahmdjcmpnmkaaW.PrintWords Go.Proofs.YtpahmdjcmpnmkaaW.PrintLast Go.Proofs.YtpahmdjcmpnmkaaW.PrintMore
set_option linter.unusedVariables false
set_option linter.unusedSimpArgs false

set_option maxHeartbeats 1600000 in
theorem RLoad0 [Pl] (A0 : Option Addr) (c0 : Nat) (A1 : Option Addr) (c1 : Nat) (d : Dv) (A : Option Addr) (c : Nat) (l : List Int) (W : World) (hR : RvOf W A0 c0 A1 c1 d) (hl : Kd.C (Kd.int .u8) W A l.length l) (hc : l.length ≤ c) (hcap : 0 ≤ d.cap ∧ d.cap ≤ 1048576) (hn : l.length ≤ 500000) :
    Calls Try.prog 30 #[.agg (rvCells A0 c0 A1 c1 d), .int .i64 0, .slice A l.length c] W fun e W' => ∃ A0' c0' A1' c1', e = .returned (.agg (rvCells A0' c0' A1' c1' (d.set 0 (l.take d.cap.toNat)))) ∧ RvOf W' A0' c0' A1' c1' (d.set 0 (l.take d.cap.toNat)) ∧ Below W.heap.size W W' := by
  have HR := Aside0.mk (And.intro hR hl)
  clear hR hl
  obtain ⟨a, b, cap, left, down, turned⟩ := d
  simp only at hcap
  obtain ⟨q1, q2⟩ := hcap
  rw [show (⟨a, b, cap, left, down, turned⟩ : Dv).set 0 (l.take (⟨a, b, cap, left, down, turned⟩ : Dv).cap.toNat) = (⟨(l.take cap.toNat), b, cap, left, down, turned⟩ : Dv) from rfl]
  generalize hnr : l.take cap.toNat = nr
  have hnl : nr.length ≤ 500000 ∧ nr.length ≤ c := by rw [← hnr, List.length_take]; omega
  have hCn : ∀ w, Kd.C (Kd.int .u8) w A l.length l → Kd.C (Kd.int .u8) w A nr.length nr := fun w h => by
    rw [← hnr]
    by_cases h2 : cap.toNat ≤ l.length
    · exact Kd.C_take h h2
    · rw [List.take_of_length_le (by omega)]; exact h
  have HC := Aside0.mk hCn
  clear hCn
  obtain ⟨i0, hi0, _, hsz, _⟩ := info_parts info_u8
  by_cases hbig : (l.length : Int) > cap
  · have b0 : decide (cap < (l.length : Int)) = true := decide_eq_true hbig
    have hcut := (print_take_of (P := Try.prog) (Value.int .u8) 0 27 5 .i64 Try.underlying27 hi0 hsz A c l cap q1 (by omega) hc).1
    rw [hnr] at hcut
    clear hi0 hsz hnr hbig
    go_enter Try.func30, Try.ntmps30
    go_wp2
    have hk : RvB ((W.alloc (.cells (rvCells A0 c0 A1 c1 ⟨a, b, cap, left, down, turned⟩) 29)).alloc (.cells #[.slice none 0 0, .slice none 0 0, .int .i64 0, .int .i64 0, .bool false, .int .i64 0] 29)) W.heap.size A0 c0 A1 c1 ⟨a, b, cap, left, down, turned⟩ := blk_alloc (blk_new W _) _
    have hr := blk_new2 W (.cells (rvCells A0 c0 A1 c1 ⟨a, b, cap, left, down, turned⟩) 29) (.cells #[.slice none 0 0, .slice none 0 0, .int .i64 0, .int .i64 0, .bool false, .int .i64 0] 29)
    have hB : Below W.heap.size W ((W.alloc (.cells (rvCells A0 c0 A1 c1 ⟨a, b, cap, left, down, turned⟩) 29)).alloc (.cells #[.slice none 0 0, .slice none 0 0, .int .i64 0, .int .i64 0, .bool false, .int .i64 0] 29)) := below_alloc (below_alloc (Below.refl _ _) _) _
    generalize ((W.alloc (.cells (rvCells A0 c0 A1 c1 ⟨a, b, cap, left, down, turned⟩) 29)).alloc (.cells #[.slice none 0 0, .slice none 0 0, .int .i64 0, .int .i64 0, .bool false, .int .i64 0] 29)) = W1 at *
    obtain ⟨k0, k1, k2, k3, k4, k5⟩ := hk.cells
    have hlt1 : W.heap.size + 1 < W1.heap.size := lt_of_some hr
    have H1 := Aside0.mk (And.intro hk (And.intro hr hB))
    clear hk hr hB
    go_region_with (first
        | (go_at_call 15; refine (Copy_calls _ _ nr _ ?s1 (by omega)).mono ?_; (case s1 => repeat (first | exact HC.out _ (Kd.C_below HR.out.2 H1.out.2.2) | (with_reducible refine Kd.C_drewN ?_ _) | (with_reducible refine Kd.C_drew ?_))); rintro e w7 ⟨v7, rfl, ho7, hb7'⟩; obtain ⟨A7, c7, e7, hc7, hr7⟩ := Rd.of_R ho7 (Nat.le_trans HR.out.1.r0.lo H1.out.2.2.size) hb7'.size; subst e7; have hb7 : Below W1.heap.size W1 w7 := ⟨hb7'.os, hb7'.tape, hb7'.output, hb7'.size, hb7'.block⟩; have hq7 : RvB w7 W.heap.size A0 c0 A1 c1 ⟨a, b, cap, left, down, turned⟩ := blk_belowX H1.out.1 hb7; obtain ⟨x0, x1, x2, x3, x4, x5⟩ := hq7.cells; have H7 := Aside0.mk (And.intro (blk_belowX H1.out.2.1 hb7) (And.intro (below_step H1.out.2.2 hb7) hr7)); clear hb7 hb7' hq7 ho7 hr7)
        | (go_at_call 35; (with_reducible refine (RSet0_eq A0 c0 A1 c1 ⟨a, b, cap, left, down, turned⟩ ⟨nr, b, cap, left, down, turned⟩ A7 nr.length c7 nr _ ?s1 ?s2).mono ?_); (case s1 => rfl); (case s2 => rfl); rintro e w8 ⟨rfl, hb8'⟩; have hb8 : Below w7.heap.size w7 w8 := ⟨hb8'.os, hb8'.tape, hb8'.output, hb8'.size, hb8'.block⟩; have hq8 := blk_belowX H7.out.1 hb8; have g0 := blk_frozen hq8 0; have g1 := blk_frozen hq8 1; have g2 := blk_frozen hq8 2; have g3 := blk_frozen hq8 3; have g4 := blk_frozen hq8 4; have g5 := blk_frozen hq8 5; have z0 := blk_cell hq8 0; have z1 := blk_cell hq8 1; have z2 := blk_cell hq8 2; have z3 := blk_cell hq8 3; have z4 := blk_cell hq8 4; have z5 := blk_cell hq8 5; simp at z0 z1 z2 z3 z4 z5; have H8 := Aside0.mk (And.intro hq8 (And.intro (below_step H7.out.2.1 hb8) (H7.out.2.2.below hb8))); clear hb8 hb8' hq8))
    all_goals
      have hB9 := (blk_put (blk_put (blk_put (blk_put (blk_put (blk_put H8.out.1 0 (.slice A7 nr.length c7) rfl) 1 (.slice A1 b.length c1) rfl) 2 (.int .i64 cap) rfl) 3 (.int .i64 left) rfl) 4 (.bool down) rfl) 5 (.int .i64 turned) rfl)
      have hO9 : Oth (W.heap.size + 1) w8 ((((((w8.setCell ⟨W.heap.size + 1, 0, none⟩ (.slice A7 nr.length c7)).setCell ⟨W.heap.size + 1, 1, none⟩ (.slice A1 b.length c1)).setCell ⟨W.heap.size + 1, 2, none⟩ (.int .i64 cap)).setCell ⟨W.heap.size + 1, 3, none⟩ (.int .i64 left)).setCell ⟨W.heap.size + 1, 4, none⟩ (.bool down)).setCell ⟨W.heap.size + 1, 5, none⟩ (.int .i64 turned)) := ((((((Oth.set w8 ⟨W.heap.size + 1, 0, none⟩ _).trans (Oth.set _ ⟨W.heap.size + 1, 1, none⟩ _)).trans (Oth.set _ ⟨W.heap.size + 1, 2, none⟩ _)).trans (Oth.set _ ⟨W.heap.size + 1, 3, none⟩ _)).trans (Oth.set _ ⟨W.heap.size + 1, 4, none⟩ _)).trans (Oth.set _ ⟨W.heap.size + 1, 5, none⟩ _))
      generalize ((((((w8.setCell ⟨W.heap.size + 1, 0, none⟩ (.slice A7 nr.length c7)).setCell ⟨W.heap.size + 1, 1, none⟩ (.slice A1 b.length c1)).setCell ⟨W.heap.size + 1, 2, none⟩ (.int .i64 cap)).setCell ⟨W.heap.size + 1, 3, none⟩ (.int .i64 left)).setCell ⟨W.heap.size + 1, 4, none⟩ (.bool down)).setCell ⟨W.heap.size + 1, 5, none⟩ (.int .i64 turned)) = w9 at hB9 hO9 ⊢
      have hbf := hO9.below H8.out.2.1 (by omega)
      have hr9 := H8.out.2.2.oth H8.out.1 (by decide) hO9
      have H9 := Aside0.mk (And.intro hB9 (And.intro hbf hr9))
      clear g0 g1 g2 g3 g4 g5 z0 z1 z2 z3 z4 z5 hB9 hO9 hbf hr9 H8 H7
      go_wp2
      have hbf := H9.out.2.1
      have hr9 := H9.out.2.2
      refine bodyPost_ret (results_single rfl (.cell (W.heap.size + 1) _ _ _ _ rfl H9.out.1 Try.underlying29 rfl info_rv .nil)) rfl ?_
      exact ⟨A7, c7, A1, c1, rfl, ⟨hc7, HR.out.1.l1, hr9, HR.out.1.r1.below hbf⟩, hbf⟩
  · have b0 : decide (cap < (l.length : Int)) = false := decide_eq_false hbig
    obtain rfl : l = nr := by rw [← hnr, List.take_of_length_le (by omega)]
    clear hi0 hsz hnr hbig
    go_enter Try.func30, Try.ntmps30
    go_wp2
    have hk : RvB ((W.alloc (.cells (rvCells A0 c0 A1 c1 ⟨a, b, cap, left, down, turned⟩) 29)).alloc (.cells #[.slice none 0 0, .slice none 0 0, .int .i64 0, .int .i64 0, .bool false, .int .i64 0] 29)) W.heap.size A0 c0 A1 c1 ⟨a, b, cap, left, down, turned⟩ := blk_alloc (blk_new W _) _
    have hr := blk_new2 W (.cells (rvCells A0 c0 A1 c1 ⟨a, b, cap, left, down, turned⟩) 29) (.cells #[.slice none 0 0, .slice none 0 0, .int .i64 0, .int .i64 0, .bool false, .int .i64 0] 29)
    have hB : Below W.heap.size W ((W.alloc (.cells (rvCells A0 c0 A1 c1 ⟨a, b, cap, left, down, turned⟩) 29)).alloc (.cells #[.slice none 0 0, .slice none 0 0, .int .i64 0, .int .i64 0, .bool false, .int .i64 0] 29)) := below_alloc (below_alloc (Below.refl _ _) _) _
    generalize ((W.alloc (.cells (rvCells A0 c0 A1 c1 ⟨a, b, cap, left, down, turned⟩) 29)).alloc (.cells #[.slice none 0 0, .slice none 0 0, .int .i64 0, .int .i64 0, .bool false, .int .i64 0] 29)) = W1 at *
    obtain ⟨k0, k1, k2, k3, k4, k5⟩ := hk.cells
    have hlt1 : W.heap.size + 1 < W1.heap.size := lt_of_some hr
    have H1 := Aside0.mk (And.intro hk (And.intro hr hB))
    clear hk hr hB
    go_region_with (first
        | (go_at_call 15; refine (Copy_calls _ _ l _ ?s1 (by omega)).mono ?_; (case s1 => repeat (first | exact HC.out _ (Kd.C_below HR.out.2 H1.out.2.2) | (with_reducible refine Kd.C_drewN ?_ _) | (with_reducible refine Kd.C_drew ?_))); rintro e w7 ⟨v7, rfl, ho7, hb7'⟩; obtain ⟨A7, c7, e7, hc7, hr7⟩ := Rd.of_R ho7 (Nat.le_trans HR.out.1.r0.lo H1.out.2.2.size) hb7'.size; subst e7; have hb7 : Below W1.heap.size W1 w7 := ⟨hb7'.os, hb7'.tape, hb7'.output, hb7'.size, hb7'.block⟩; have hq7 : RvB w7 W.heap.size A0 c0 A1 c1 ⟨a, b, cap, left, down, turned⟩ := blk_belowX H1.out.1 hb7; obtain ⟨x0, x1, x2, x3, x4, x5⟩ := hq7.cells; have H7 := Aside0.mk (And.intro (blk_belowX H1.out.2.1 hb7) (And.intro (below_step H1.out.2.2 hb7) hr7)); clear hb7 hb7' hq7 ho7 hr7)
        | (go_at_call 35; (with_reducible refine (RSet0_eq A0 c0 A1 c1 ⟨a, b, cap, left, down, turned⟩ ⟨l, b, cap, left, down, turned⟩ A7 l.length c7 l _ ?s1 ?s2).mono ?_); (case s1 => rfl); (case s2 => rfl); rintro e w8 ⟨rfl, hb8'⟩; have hb8 : Below w7.heap.size w7 w8 := ⟨hb8'.os, hb8'.tape, hb8'.output, hb8'.size, hb8'.block⟩; have hq8 := blk_belowX H7.out.1 hb8; have g0 := blk_frozen hq8 0; have g1 := blk_frozen hq8 1; have g2 := blk_frozen hq8 2; have g3 := blk_frozen hq8 3; have g4 := blk_frozen hq8 4; have g5 := blk_frozen hq8 5; have z0 := blk_cell hq8 0; have z1 := blk_cell hq8 1; have z2 := blk_cell hq8 2; have z3 := blk_cell hq8 3; have z4 := blk_cell hq8 4; have z5 := blk_cell hq8 5; simp at z0 z1 z2 z3 z4 z5; have H8 := Aside0.mk (And.intro hq8 (And.intro (below_step H7.out.2.1 hb8) (H7.out.2.2.below hb8))); clear hb8 hb8' hq8))
    all_goals
      have hB9 := (blk_put (blk_put (blk_put (blk_put (blk_put (blk_put H8.out.1 0 (.slice A7 l.length c7) rfl) 1 (.slice A1 b.length c1) rfl) 2 (.int .i64 cap) rfl) 3 (.int .i64 left) rfl) 4 (.bool down) rfl) 5 (.int .i64 turned) rfl)
      have hO9 : Oth (W.heap.size + 1) w8 ((((((w8.setCell ⟨W.heap.size + 1, 0, none⟩ (.slice A7 l.length c7)).setCell ⟨W.heap.size + 1, 1, none⟩ (.slice A1 b.length c1)).setCell ⟨W.heap.size + 1, 2, none⟩ (.int .i64 cap)).setCell ⟨W.heap.size + 1, 3, none⟩ (.int .i64 left)).setCell ⟨W.heap.size + 1, 4, none⟩ (.bool down)).setCell ⟨W.heap.size + 1, 5, none⟩ (.int .i64 turned)) := ((((((Oth.set w8 ⟨W.heap.size + 1, 0, none⟩ _).trans (Oth.set _ ⟨W.heap.size + 1, 1, none⟩ _)).trans (Oth.set _ ⟨W.heap.size + 1, 2, none⟩ _)).trans (Oth.set _ ⟨W.heap.size + 1, 3, none⟩ _)).trans (Oth.set _ ⟨W.heap.size + 1, 4, none⟩ _)).trans (Oth.set _ ⟨W.heap.size + 1, 5, none⟩ _))
      generalize ((((((w8.setCell ⟨W.heap.size + 1, 0, none⟩ (.slice A7 l.length c7)).setCell ⟨W.heap.size + 1, 1, none⟩ (.slice A1 b.length c1)).setCell ⟨W.heap.size + 1, 2, none⟩ (.int .i64 cap)).setCell ⟨W.heap.size + 1, 3, none⟩ (.int .i64 left)).setCell ⟨W.heap.size + 1, 4, none⟩ (.bool down)).setCell ⟨W.heap.size + 1, 5, none⟩ (.int .i64 turned)) = w9 at hB9 hO9 ⊢
      have hbf := hO9.below H8.out.2.1 (by omega)
      have hr9 := H8.out.2.2.oth H8.out.1 (by decide) hO9
      have H9 := Aside0.mk (And.intro hB9 (And.intro hbf hr9))
      clear g0 g1 g2 g3 g4 g5 z0 z1 z2 z3 z4 z5 hB9 hO9 hbf hr9 H8 H7
      go_wp2
      have hbf := H9.out.2.1
      have hr9 := H9.out.2.2
      refine bodyPost_ret (results_single rfl (.cell (W.heap.size + 1) _ _ _ _ rfl H9.out.1 Try.underlying29 rfl info_rv .nil)) rfl ?_
      exact ⟨A7, c7, A1, c1, rfl, ⟨hc7, HR.out.1.l1, hr9, HR.out.1.r1.below hbf⟩, hbf⟩
set_option maxHeartbeats 1600000 in
theorem RLoad1 [Pl] (A0 : Option Addr) (c0 : Nat) (A1 : Option Addr) (c1 : Nat) (d : Dv) (A : Option Addr) (c : Nat) (l : List Int) (W : World) (hR : RvOf W A0 c0 A1 c1 d) (hl : Kd.C (Kd.int .u8) W A l.length l) (hc : l.length ≤ c) (hcap : 0 ≤ d.cap ∧ d.cap ≤ 1048576) (hn : l.length ≤ 500000) :
    Calls Try.prog 30 #[.agg (rvCells A0 c0 A1 c1 d), .int .i64 1, .slice A l.length c] W fun e W' => ∃ A0' c0' A1' c1', e = .returned (.agg (rvCells A0' c0' A1' c1' (d.set 1 (l.take d.cap.toNat)))) ∧ RvOf W' A0' c0' A1' c1' (d.set 1 (l.take d.cap.toNat)) ∧ Below W.heap.size W W' := by
  have HR := Aside0.mk (And.intro hR hl)
  clear hR hl
  obtain ⟨a, b, cap, left, down, turned⟩ := d
  simp only at hcap
  obtain ⟨q1, q2⟩ := hcap
  rw [show (⟨a, b, cap, left, down, turned⟩ : Dv).set 1 (l.take (⟨a, b, cap, left, down, turned⟩ : Dv).cap.toNat) = (⟨a, (l.take cap.toNat), cap, left, down, turned⟩ : Dv) from rfl]
  generalize hnr : l.take cap.toNat = nr
  have hnl : nr.length ≤ 500000 ∧ nr.length ≤ c := by rw [← hnr, List.length_take]; omega
  have hCn : ∀ w, Kd.C (Kd.int .u8) w A l.length l → Kd.C (Kd.int .u8) w A nr.length nr := fun w h => by
    rw [← hnr]
    by_cases h2 : cap.toNat ≤ l.length
    · exact Kd.C_take h h2
    · rw [List.take_of_length_le (by omega)]; exact h
  have HC := Aside0.mk hCn
  clear hCn
  obtain ⟨i0, hi0, _, hsz, _⟩ := info_parts info_u8
  by_cases hbig : (l.length : Int) > cap
  · have b0 : decide (cap < (l.length : Int)) = true := decide_eq_true hbig
    have hcut := (print_take_of (P := Try.prog) (Value.int .u8) 0 27 5 .i64 Try.underlying27 hi0 hsz A c l cap q1 (by omega) hc).1
    rw [hnr] at hcut
    clear hi0 hsz hnr hbig
    go_enter Try.func30, Try.ntmps30
    go_wp2
    have hk : RvB ((W.alloc (.cells (rvCells A0 c0 A1 c1 ⟨a, b, cap, left, down, turned⟩) 29)).alloc (.cells #[.slice none 0 0, .slice none 0 0, .int .i64 0, .int .i64 0, .bool false, .int .i64 0] 29)) W.heap.size A0 c0 A1 c1 ⟨a, b, cap, left, down, turned⟩ := blk_alloc (blk_new W _) _
    have hr := blk_new2 W (.cells (rvCells A0 c0 A1 c1 ⟨a, b, cap, left, down, turned⟩) 29) (.cells #[.slice none 0 0, .slice none 0 0, .int .i64 0, .int .i64 0, .bool false, .int .i64 0] 29)
    have hB : Below W.heap.size W ((W.alloc (.cells (rvCells A0 c0 A1 c1 ⟨a, b, cap, left, down, turned⟩) 29)).alloc (.cells #[.slice none 0 0, .slice none 0 0, .int .i64 0, .int .i64 0, .bool false, .int .i64 0] 29)) := below_alloc (below_alloc (Below.refl _ _) _) _
    generalize ((W.alloc (.cells (rvCells A0 c0 A1 c1 ⟨a, b, cap, left, down, turned⟩) 29)).alloc (.cells #[.slice none 0 0, .slice none 0 0, .int .i64 0, .int .i64 0, .bool false, .int .i64 0] 29)) = W1 at *
    obtain ⟨k0, k1, k2, k3, k4, k5⟩ := hk.cells
    have hlt1 : W.heap.size + 1 < W1.heap.size := lt_of_some hr
    have H1 := Aside0.mk (And.intro hk (And.intro hr hB))
    clear hk hr hB
    go_region_with (first
        | (go_at_call 15; refine (Copy_calls _ _ nr _ ?s1 (by omega)).mono ?_; (case s1 => repeat (first | exact HC.out _ (Kd.C_below HR.out.2 H1.out.2.2) | (with_reducible refine Kd.C_drewN ?_ _) | (with_reducible refine Kd.C_drew ?_))); rintro e w7 ⟨v7, rfl, ho7, hb7'⟩; obtain ⟨A7, c7, e7, hc7, hr7⟩ := Rd.of_R ho7 (Nat.le_trans HR.out.1.r0.lo H1.out.2.2.size) hb7'.size; subst e7; have hb7 : Below W1.heap.size W1 w7 := ⟨hb7'.os, hb7'.tape, hb7'.output, hb7'.size, hb7'.block⟩; have hq7 : RvB w7 W.heap.size A0 c0 A1 c1 ⟨a, b, cap, left, down, turned⟩ := blk_belowX H1.out.1 hb7; obtain ⟨x0, x1, x2, x3, x4, x5⟩ := hq7.cells; have H7 := Aside0.mk (And.intro (blk_belowX H1.out.2.1 hb7) (And.intro (below_step H1.out.2.2 hb7) hr7)); clear hb7 hb7' hq7 ho7 hr7)
        | (go_at_call 35; (with_reducible refine (RSet1_eq A0 c0 A1 c1 ⟨a, b, cap, left, down, turned⟩ ⟨a, nr, cap, left, down, turned⟩ A7 nr.length c7 nr _ ?s1 ?s2).mono ?_); (case s1 => rfl); (case s2 => rfl); rintro e w8 ⟨rfl, hb8'⟩; have hb8 : Below w7.heap.size w7 w8 := ⟨hb8'.os, hb8'.tape, hb8'.output, hb8'.size, hb8'.block⟩; have hq8 := blk_belowX H7.out.1 hb8; have g0 := blk_frozen hq8 0; have g1 := blk_frozen hq8 1; have g2 := blk_frozen hq8 2; have g3 := blk_frozen hq8 3; have g4 := blk_frozen hq8 4; have g5 := blk_frozen hq8 5; have z0 := blk_cell hq8 0; have z1 := blk_cell hq8 1; have z2 := blk_cell hq8 2; have z3 := blk_cell hq8 3; have z4 := blk_cell hq8 4; have z5 := blk_cell hq8 5; simp at z0 z1 z2 z3 z4 z5; have H8 := Aside0.mk (And.intro hq8 (And.intro (below_step H7.out.2.1 hb8) (H7.out.2.2.below hb8))); clear hb8 hb8' hq8))
    all_goals
      have hB9 := (blk_put (blk_put (blk_put (blk_put (blk_put (blk_put H8.out.1 0 (.slice A0 a.length c0) rfl) 1 (.slice A7 nr.length c7) rfl) 2 (.int .i64 cap) rfl) 3 (.int .i64 left) rfl) 4 (.bool down) rfl) 5 (.int .i64 turned) rfl)
      have hO9 : Oth (W.heap.size + 1) w8 ((((((w8.setCell ⟨W.heap.size + 1, 0, none⟩ (.slice A0 a.length c0)).setCell ⟨W.heap.size + 1, 1, none⟩ (.slice A7 nr.length c7)).setCell ⟨W.heap.size + 1, 2, none⟩ (.int .i64 cap)).setCell ⟨W.heap.size + 1, 3, none⟩ (.int .i64 left)).setCell ⟨W.heap.size + 1, 4, none⟩ (.bool down)).setCell ⟨W.heap.size + 1, 5, none⟩ (.int .i64 turned)) := ((((((Oth.set w8 ⟨W.heap.size + 1, 0, none⟩ _).trans (Oth.set _ ⟨W.heap.size + 1, 1, none⟩ _)).trans (Oth.set _ ⟨W.heap.size + 1, 2, none⟩ _)).trans (Oth.set _ ⟨W.heap.size + 1, 3, none⟩ _)).trans (Oth.set _ ⟨W.heap.size + 1, 4, none⟩ _)).trans (Oth.set _ ⟨W.heap.size + 1, 5, none⟩ _))
      generalize ((((((w8.setCell ⟨W.heap.size + 1, 0, none⟩ (.slice A0 a.length c0)).setCell ⟨W.heap.size + 1, 1, none⟩ (.slice A7 nr.length c7)).setCell ⟨W.heap.size + 1, 2, none⟩ (.int .i64 cap)).setCell ⟨W.heap.size + 1, 3, none⟩ (.int .i64 left)).setCell ⟨W.heap.size + 1, 4, none⟩ (.bool down)).setCell ⟨W.heap.size + 1, 5, none⟩ (.int .i64 turned)) = w9 at hB9 hO9 ⊢
      have hbf := hO9.below H8.out.2.1 (by omega)
      have hr9 := H8.out.2.2.oth H8.out.1 (by decide) hO9
      have H9 := Aside0.mk (And.intro hB9 (And.intro hbf hr9))
      clear g0 g1 g2 g3 g4 g5 z0 z1 z2 z3 z4 z5 hB9 hO9 hbf hr9 H8 H7
      go_wp2
      have hbf := H9.out.2.1
      have hr9 := H9.out.2.2
      refine bodyPost_ret (results_single rfl (.cell (W.heap.size + 1) _ _ _ _ rfl H9.out.1 Try.underlying29 rfl info_rv .nil)) rfl ?_
      exact ⟨A0, c0, A7, c7, rfl, ⟨HR.out.1.l0, hc7, HR.out.1.r0.below hbf, hr9⟩, hbf⟩
  · have b0 : decide (cap < (l.length : Int)) = false := decide_eq_false hbig
    obtain rfl : l = nr := by rw [← hnr, List.take_of_length_le (by omega)]
    clear hi0 hsz hnr hbig
    go_enter Try.func30, Try.ntmps30
    go_wp2
    have hk : RvB ((W.alloc (.cells (rvCells A0 c0 A1 c1 ⟨a, b, cap, left, down, turned⟩) 29)).alloc (.cells #[.slice none 0 0, .slice none 0 0, .int .i64 0, .int .i64 0, .bool false, .int .i64 0] 29)) W.heap.size A0 c0 A1 c1 ⟨a, b, cap, left, down, turned⟩ := blk_alloc (blk_new W _) _
    have hr := blk_new2 W (.cells (rvCells A0 c0 A1 c1 ⟨a, b, cap, left, down, turned⟩) 29) (.cells #[.slice none 0 0, .slice none 0 0, .int .i64 0, .int .i64 0, .bool false, .int .i64 0] 29)
    have hB : Below W.heap.size W ((W.alloc (.cells (rvCells A0 c0 A1 c1 ⟨a, b, cap, left, down, turned⟩) 29)).alloc (.cells #[.slice none 0 0, .slice none 0 0, .int .i64 0, .int .i64 0, .bool false, .int .i64 0] 29)) := below_alloc (below_alloc (Below.refl _ _) _) _
    generalize ((W.alloc (.cells (rvCells A0 c0 A1 c1 ⟨a, b, cap, left, down, turned⟩) 29)).alloc (.cells #[.slice none 0 0, .slice none 0 0, .int .i64 0, .int .i64 0, .bool false, .int .i64 0] 29)) = W1 at *
    obtain ⟨k0, k1, k2, k3, k4, k5⟩ := hk.cells
    have hlt1 : W.heap.size + 1 < W1.heap.size := lt_of_some hr
    have H1 := Aside0.mk (And.intro hk (And.intro hr hB))
    clear hk hr hB
    go_region_with (first
        | (go_at_call 15; refine (Copy_calls _ _ l _ ?s1 (by omega)).mono ?_; (case s1 => repeat (first | exact HC.out _ (Kd.C_below HR.out.2 H1.out.2.2) | (with_reducible refine Kd.C_drewN ?_ _) | (with_reducible refine Kd.C_drew ?_))); rintro e w7 ⟨v7, rfl, ho7, hb7'⟩; obtain ⟨A7, c7, e7, hc7, hr7⟩ := Rd.of_R ho7 (Nat.le_trans HR.out.1.r0.lo H1.out.2.2.size) hb7'.size; subst e7; have hb7 : Below W1.heap.size W1 w7 := ⟨hb7'.os, hb7'.tape, hb7'.output, hb7'.size, hb7'.block⟩; have hq7 : RvB w7 W.heap.size A0 c0 A1 c1 ⟨a, b, cap, left, down, turned⟩ := blk_belowX H1.out.1 hb7; obtain ⟨x0, x1, x2, x3, x4, x5⟩ := hq7.cells; have H7 := Aside0.mk (And.intro (blk_belowX H1.out.2.1 hb7) (And.intro (below_step H1.out.2.2 hb7) hr7)); clear hb7 hb7' hq7 ho7 hr7)
        | (go_at_call 35; (with_reducible refine (RSet1_eq A0 c0 A1 c1 ⟨a, b, cap, left, down, turned⟩ ⟨a, l, cap, left, down, turned⟩ A7 l.length c7 l _ ?s1 ?s2).mono ?_); (case s1 => rfl); (case s2 => rfl); rintro e w8 ⟨rfl, hb8'⟩; have hb8 : Below w7.heap.size w7 w8 := ⟨hb8'.os, hb8'.tape, hb8'.output, hb8'.size, hb8'.block⟩; have hq8 := blk_belowX H7.out.1 hb8; have g0 := blk_frozen hq8 0; have g1 := blk_frozen hq8 1; have g2 := blk_frozen hq8 2; have g3 := blk_frozen hq8 3; have g4 := blk_frozen hq8 4; have g5 := blk_frozen hq8 5; have z0 := blk_cell hq8 0; have z1 := blk_cell hq8 1; have z2 := blk_cell hq8 2; have z3 := blk_cell hq8 3; have z4 := blk_cell hq8 4; have z5 := blk_cell hq8 5; simp at z0 z1 z2 z3 z4 z5; have H8 := Aside0.mk (And.intro hq8 (And.intro (below_step H7.out.2.1 hb8) (H7.out.2.2.below hb8))); clear hb8 hb8' hq8))
    all_goals
      have hB9 := (blk_put (blk_put (blk_put (blk_put (blk_put (blk_put H8.out.1 0 (.slice A0 a.length c0) rfl) 1 (.slice A7 l.length c7) rfl) 2 (.int .i64 cap) rfl) 3 (.int .i64 left) rfl) 4 (.bool down) rfl) 5 (.int .i64 turned) rfl)
      have hO9 : Oth (W.heap.size + 1) w8 ((((((w8.setCell ⟨W.heap.size + 1, 0, none⟩ (.slice A0 a.length c0)).setCell ⟨W.heap.size + 1, 1, none⟩ (.slice A7 l.length c7)).setCell ⟨W.heap.size + 1, 2, none⟩ (.int .i64 cap)).setCell ⟨W.heap.size + 1, 3, none⟩ (.int .i64 left)).setCell ⟨W.heap.size + 1, 4, none⟩ (.bool down)).setCell ⟨W.heap.size + 1, 5, none⟩ (.int .i64 turned)) := ((((((Oth.set w8 ⟨W.heap.size + 1, 0, none⟩ _).trans (Oth.set _ ⟨W.heap.size + 1, 1, none⟩ _)).trans (Oth.set _ ⟨W.heap.size + 1, 2, none⟩ _)).trans (Oth.set _ ⟨W.heap.size + 1, 3, none⟩ _)).trans (Oth.set _ ⟨W.heap.size + 1, 4, none⟩ _)).trans (Oth.set _ ⟨W.heap.size + 1, 5, none⟩ _))
      generalize ((((((w8.setCell ⟨W.heap.size + 1, 0, none⟩ (.slice A0 a.length c0)).setCell ⟨W.heap.size + 1, 1, none⟩ (.slice A7 l.length c7)).setCell ⟨W.heap.size + 1, 2, none⟩ (.int .i64 cap)).setCell ⟨W.heap.size + 1, 3, none⟩ (.int .i64 left)).setCell ⟨W.heap.size + 1, 4, none⟩ (.bool down)).setCell ⟨W.heap.size + 1, 5, none⟩ (.int .i64 turned)) = w9 at hB9 hO9 ⊢
      have hbf := hO9.below H8.out.2.1 (by omega)
      have hr9 := H8.out.2.2.oth H8.out.1 (by decide) hO9
      have H9 := Aside0.mk (And.intro hB9 (And.intro hbf hr9))
      clear g0 g1 g2 g3 g4 g5 z0 z1 z2 z3 z4 z5 hB9 hO9 hbf hr9 H8 H7
      go_wp2
      have hbf := H9.out.2.1
      have hr9 := H9.out.2.2
      refine bodyPost_ret (results_single rfl (.cell (W.heap.size + 1) _ _ _ _ rfl H9.out.1 Try.underlying29 rfl info_rv .nil)) rfl ?_
      exact ⟨A0, c0, A7, c7, rfl, ⟨HR.out.1.l0, hc7, HR.out.1.r0.below hbf, hr9⟩, hbf⟩
set_option maxHeartbeats 1600000 in
theorem RLoadn [Pl] (A0 : Option Addr) (c0 : Nat) (A1 : Option Addr) (c1 : Nat) (d : Dv) (A : Option Addr) (c : Nat) (l : List Int) (r : Int) (W : World) (hr : ¬(r = 0 ∨ r = 1)) (hR : RvOf W A0 c0 A1 c1 d) (hl : Kd.C (Kd.int .u8) W A l.length l) (hc : l.length ≤ c) (hcap : 0 ≤ d.cap ∧ d.cap ≤ 1048576) (hn : l.length ≤ 500000) :
    Calls Try.prog 30 #[.agg (rvCells A0 c0 A1 c1 d), .int .i64 r, .slice A l.length c] W fun e W' => ∃ A0' c0' A1' c1', e = .returned (.agg (rvCells A0' c0' A1' c1' d)) ∧ RvOf W' A0' c0' A1' c1' d ∧ Below W.heap.size W W' := by
  have HR := Aside0.mk (And.intro hR hl)
  clear hR hl
  obtain ⟨a, b, cap, left, down, turned⟩ := d
  simp only at hcap
  obtain ⟨q1, q2⟩ := hcap
  have HRR := Lib.hid hr
  clear hr
  generalize hnr : l.take cap.toNat = nr
  have hnl : nr.length ≤ 500000 ∧ nr.length ≤ c := by rw [← hnr, List.length_take]; omega
  have hCn : ∀ w, Kd.C (Kd.int .u8) w A l.length l → Kd.C (Kd.int .u8) w A nr.length nr := fun w h => by
    rw [← hnr]
    by_cases h2 : cap.toNat ≤ l.length
    · exact Kd.C_take h h2
    · rw [List.take_of_length_le (by omega)]; exact h
  have HC := Aside0.mk hCn
  clear hCn
  obtain ⟨i0, hi0, _, hsz, _⟩ := info_parts info_u8
  by_cases hbig : (l.length : Int) > cap
  · have b0 : decide (cap < (l.length : Int)) = true := decide_eq_true hbig
    have hcut := (print_take_of (P := Try.prog) (Value.int .u8) 0 27 5 .i64 Try.underlying27 hi0 hsz A c l cap q1 (by omega) hc).1
    rw [hnr] at hcut
    clear hi0 hsz hnr hbig
    go_enter Try.func30, Try.ntmps30
    go_wp2
    have hk : RvB ((W.alloc (.cells (rvCells A0 c0 A1 c1 ⟨a, b, cap, left, down, turned⟩) 29)).alloc (.cells #[.slice none 0 0, .slice none 0 0, .int .i64 0, .int .i64 0, .bool false, .int .i64 0] 29)) W.heap.size A0 c0 A1 c1 ⟨a, b, cap, left, down, turned⟩ := blk_alloc (blk_new W _) _
    have hr := blk_new2 W (.cells (rvCells A0 c0 A1 c1 ⟨a, b, cap, left, down, turned⟩) 29) (.cells #[.slice none 0 0, .slice none 0 0, .int .i64 0, .int .i64 0, .bool false, .int .i64 0] 29)
    have hB : Below W.heap.size W ((W.alloc (.cells (rvCells A0 c0 A1 c1 ⟨a, b, cap, left, down, turned⟩) 29)).alloc (.cells #[.slice none 0 0, .slice none 0 0, .int .i64 0, .int .i64 0, .bool false, .int .i64 0] 29)) := below_alloc (below_alloc (Below.refl _ _) _) _
    generalize ((W.alloc (.cells (rvCells A0 c0 A1 c1 ⟨a, b, cap, left, down, turned⟩) 29)).alloc (.cells #[.slice none 0 0, .slice none 0 0, .int .i64 0, .int .i64 0, .bool false, .int .i64 0] 29)) = W1 at *
    obtain ⟨k0, k1, k2, k3, k4, k5⟩ := hk.cells
    have hlt1 : W.heap.size + 1 < W1.heap.size := lt_of_some hr
    have H1 := Aside0.mk (And.intro hk (And.intro hr hB))
    clear hk hr hB
    go_region_with (first
        | (go_at_call 15; refine (Copy_calls _ _ nr _ ?s1 (by omega)).mono ?_; (case s1 => repeat (first | exact HC.out _ (Kd.C_below HR.out.2 H1.out.2.2) | (with_reducible refine Kd.C_drewN ?_ _) | (with_reducible refine Kd.C_drew ?_))); rintro e w7 ⟨v7, rfl, ho7, hb7'⟩; obtain ⟨A7, c7, e7, hc7, hr7⟩ := Rd.of_R ho7 (Nat.le_trans HR.out.1.r0.lo H1.out.2.2.size) hb7'.size; subst e7; have hb7 : Below W1.heap.size W1 w7 := ⟨hb7'.os, hb7'.tape, hb7'.output, hb7'.size, hb7'.block⟩; have hq7 : RvB w7 W.heap.size A0 c0 A1 c1 ⟨a, b, cap, left, down, turned⟩ := blk_belowX H1.out.1 hb7; obtain ⟨x0, x1, x2, x3, x4, x5⟩ := hq7.cells; have H7 := Aside0.mk (And.intro (blk_belowX H1.out.2.1 hb7) (And.intro (below_step H1.out.2.2 hb7) hr7)); clear hb7 hb7' hq7 ho7 hr7)
        | (go_at_call 35; (with_reducible refine (RSetn_calls A0 c0 A1 c1 ⟨a, b, cap, left, down, turned⟩ r _ _ ?s1).mono ?_); (case s1 => exact HRR.out); rintro e w8 ⟨rfl, hb8'⟩; have hb8 : Below w7.heap.size w7 w8 := ⟨hb8'.os, hb8'.tape, hb8'.output, hb8'.size, hb8'.block⟩; have hq8 := blk_belowX H7.out.1 hb8; have g0 := blk_frozen hq8 0; have g1 := blk_frozen hq8 1; have g2 := blk_frozen hq8 2; have g3 := blk_frozen hq8 3; have g4 := blk_frozen hq8 4; have g5 := blk_frozen hq8 5; have z0 := blk_cell hq8 0; have z1 := blk_cell hq8 1; have z2 := blk_cell hq8 2; have z3 := blk_cell hq8 3; have z4 := blk_cell hq8 4; have z5 := blk_cell hq8 5; simp at z0 z1 z2 z3 z4 z5; have H8 := Aside0.mk (And.intro hq8 (And.intro (below_step H7.out.2.1 hb8) (H7.out.2.2.below hb8))); clear hb8 hb8' hq8))
    all_goals
      have hB9 := (blk_put (blk_put (blk_put (blk_put (blk_put (blk_put H8.out.1 0 (.slice A0 a.length c0) rfl) 1 (.slice A1 b.length c1) rfl) 2 (.int .i64 cap) rfl) 3 (.int .i64 left) rfl) 4 (.bool down) rfl) 5 (.int .i64 turned) rfl)
      have hO9 : Oth (W.heap.size + 1) w8 ((((((w8.setCell ⟨W.heap.size + 1, 0, none⟩ (.slice A0 a.length c0)).setCell ⟨W.heap.size + 1, 1, none⟩ (.slice A1 b.length c1)).setCell ⟨W.heap.size + 1, 2, none⟩ (.int .i64 cap)).setCell ⟨W.heap.size + 1, 3, none⟩ (.int .i64 left)).setCell ⟨W.heap.size + 1, 4, none⟩ (.bool down)).setCell ⟨W.heap.size + 1, 5, none⟩ (.int .i64 turned)) := ((((((Oth.set w8 ⟨W.heap.size + 1, 0, none⟩ _).trans (Oth.set _ ⟨W.heap.size + 1, 1, none⟩ _)).trans (Oth.set _ ⟨W.heap.size + 1, 2, none⟩ _)).trans (Oth.set _ ⟨W.heap.size + 1, 3, none⟩ _)).trans (Oth.set _ ⟨W.heap.size + 1, 4, none⟩ _)).trans (Oth.set _ ⟨W.heap.size + 1, 5, none⟩ _))
      generalize ((((((w8.setCell ⟨W.heap.size + 1, 0, none⟩ (.slice A0 a.length c0)).setCell ⟨W.heap.size + 1, 1, none⟩ (.slice A1 b.length c1)).setCell ⟨W.heap.size + 1, 2, none⟩ (.int .i64 cap)).setCell ⟨W.heap.size + 1, 3, none⟩ (.int .i64 left)).setCell ⟨W.heap.size + 1, 4, none⟩ (.bool down)).setCell ⟨W.heap.size + 1, 5, none⟩ (.int .i64 turned)) = w9 at hB9 hO9 ⊢
      have hbf := hO9.below H8.out.2.1 (by omega)
      have hr9 := H8.out.2.2.oth H8.out.1 (by decide) hO9
      have H9 := Aside0.mk (And.intro hB9 (And.intro hbf hr9))
      clear g0 g1 g2 g3 g4 g5 z0 z1 z2 z3 z4 z5 hB9 hO9 hbf hr9 H8 H7
      go_wp2
      have hbf := H9.out.2.1
      have hr9 := H9.out.2.2
      refine bodyPost_ret (results_single rfl (.cell (W.heap.size + 1) _ _ _ _ rfl H9.out.1 Try.underlying29 rfl info_rv .nil)) rfl ?_
      exact ⟨A0, c0, A1, c1, rfl, HR.out.1.below hbf, hbf⟩
  · have b0 : decide (cap < (l.length : Int)) = false := decide_eq_false hbig
    obtain rfl : l = nr := by rw [← hnr, List.take_of_length_le (by omega)]
    clear hi0 hsz hnr hbig
    go_enter Try.func30, Try.ntmps30
    go_wp2
    have hk : RvB ((W.alloc (.cells (rvCells A0 c0 A1 c1 ⟨a, b, cap, left, down, turned⟩) 29)).alloc (.cells #[.slice none 0 0, .slice none 0 0, .int .i64 0, .int .i64 0, .bool false, .int .i64 0] 29)) W.heap.size A0 c0 A1 c1 ⟨a, b, cap, left, down, turned⟩ := blk_alloc (blk_new W _) _
    have hr := blk_new2 W (.cells (rvCells A0 c0 A1 c1 ⟨a, b, cap, left, down, turned⟩) 29) (.cells #[.slice none 0 0, .slice none 0 0, .int .i64 0, .int .i64 0, .bool false, .int .i64 0] 29)
    have hB : Below W.heap.size W ((W.alloc (.cells (rvCells A0 c0 A1 c1 ⟨a, b, cap, left, down, turned⟩) 29)).alloc (.cells #[.slice none 0 0, .slice none 0 0, .int .i64 0, .int .i64 0, .bool false, .int .i64 0] 29)) := below_alloc (below_alloc (Below.refl _ _) _) _
    generalize ((W.alloc (.cells (rvCells A0 c0 A1 c1 ⟨a, b, cap, left, down, turned⟩) 29)).alloc (.cells #[.slice none 0 0, .slice none 0 0, .int .i64 0, .int .i64 0, .bool false, .int .i64 0] 29)) = W1 at *
    obtain ⟨k0, k1, k2, k3, k4, k5⟩ := hk.cells
    have hlt1 : W.heap.size + 1 < W1.heap.size := lt_of_some hr
    have H1 := Aside0.mk (And.intro hk (And.intro hr hB))
    clear hk hr hB
    go_region_with (first
        | (go_at_call 15; refine (Copy_calls _ _ l _ ?s1 (by omega)).mono ?_; (case s1 => repeat (first | exact HC.out _ (Kd.C_below HR.out.2 H1.out.2.2) | (with_reducible refine Kd.C_drewN ?_ _) | (with_reducible refine Kd.C_drew ?_))); rintro e w7 ⟨v7, rfl, ho7, hb7'⟩; obtain ⟨A7, c7, e7, hc7, hr7⟩ := Rd.of_R ho7 (Nat.le_trans HR.out.1.r0.lo H1.out.2.2.size) hb7'.size; subst e7; have hb7 : Below W1.heap.size W1 w7 := ⟨hb7'.os, hb7'.tape, hb7'.output, hb7'.size, hb7'.block⟩; have hq7 : RvB w7 W.heap.size A0 c0 A1 c1 ⟨a, b, cap, left, down, turned⟩ := blk_belowX H1.out.1 hb7; obtain ⟨x0, x1, x2, x3, x4, x5⟩ := hq7.cells; have H7 := Aside0.mk (And.intro (blk_belowX H1.out.2.1 hb7) (And.intro (below_step H1.out.2.2 hb7) hr7)); clear hb7 hb7' hq7 ho7 hr7)
        | (go_at_call 35; (with_reducible refine (RSetn_calls A0 c0 A1 c1 ⟨a, b, cap, left, down, turned⟩ r _ _ ?s1).mono ?_); (case s1 => exact HRR.out); rintro e w8 ⟨rfl, hb8'⟩; have hb8 : Below w7.heap.size w7 w8 := ⟨hb8'.os, hb8'.tape, hb8'.output, hb8'.size, hb8'.block⟩; have hq8 := blk_belowX H7.out.1 hb8; have g0 := blk_frozen hq8 0; have g1 := blk_frozen hq8 1; have g2 := blk_frozen hq8 2; have g3 := blk_frozen hq8 3; have g4 := blk_frozen hq8 4; have g5 := blk_frozen hq8 5; have z0 := blk_cell hq8 0; have z1 := blk_cell hq8 1; have z2 := blk_cell hq8 2; have z3 := blk_cell hq8 3; have z4 := blk_cell hq8 4; have z5 := blk_cell hq8 5; simp at z0 z1 z2 z3 z4 z5; have H8 := Aside0.mk (And.intro hq8 (And.intro (below_step H7.out.2.1 hb8) (H7.out.2.2.below hb8))); clear hb8 hb8' hq8))
    all_goals
      have hB9 := (blk_put (blk_put (blk_put (blk_put (blk_put (blk_put H8.out.1 0 (.slice A0 a.length c0) rfl) 1 (.slice A1 b.length c1) rfl) 2 (.int .i64 cap) rfl) 3 (.int .i64 left) rfl) 4 (.bool down) rfl) 5 (.int .i64 turned) rfl)
      have hO9 : Oth (W.heap.size + 1) w8 ((((((w8.setCell ⟨W.heap.size + 1, 0, none⟩ (.slice A0 a.length c0)).setCell ⟨W.heap.size + 1, 1, none⟩ (.slice A1 b.length c1)).setCell ⟨W.heap.size + 1, 2, none⟩ (.int .i64 cap)).setCell ⟨W.heap.size + 1, 3, none⟩ (.int .i64 left)).setCell ⟨W.heap.size + 1, 4, none⟩ (.bool down)).setCell ⟨W.heap.size + 1, 5, none⟩ (.int .i64 turned)) := ((((((Oth.set w8 ⟨W.heap.size + 1, 0, none⟩ _).trans (Oth.set _ ⟨W.heap.size + 1, 1, none⟩ _)).trans (Oth.set _ ⟨W.heap.size + 1, 2, none⟩ _)).trans (Oth.set _ ⟨W.heap.size + 1, 3, none⟩ _)).trans (Oth.set _ ⟨W.heap.size + 1, 4, none⟩ _)).trans (Oth.set _ ⟨W.heap.size + 1, 5, none⟩ _))
      generalize ((((((w8.setCell ⟨W.heap.size + 1, 0, none⟩ (.slice A0 a.length c0)).setCell ⟨W.heap.size + 1, 1, none⟩ (.slice A1 b.length c1)).setCell ⟨W.heap.size + 1, 2, none⟩ (.int .i64 cap)).setCell ⟨W.heap.size + 1, 3, none⟩ (.int .i64 left)).setCell ⟨W.heap.size + 1, 4, none⟩ (.bool down)).setCell ⟨W.heap.size + 1, 5, none⟩ (.int .i64 turned)) = w9 at hB9 hO9 ⊢
      have hbf := hO9.below H8.out.2.1 (by omega)
      have hr9 := H8.out.2.2.oth H8.out.1 (by decide) hO9
      have H9 := Aside0.mk (And.intro hB9 (And.intro hbf hr9))
      clear g0 g1 g2 g3 g4 g5 z0 z1 z2 z3 z4 z5 hB9 hO9 hbf hr9 H8 H7
      go_wp2
      have hbf := H9.out.2.1
      have hr9 := H9.out.2.2
      refine bodyPost_ret (results_single rfl (.cell (W.heap.size + 1) _ _ _ _ rfl H9.out.1 Try.underlying29 rfl info_rv .nil)) rfl ?_
      exact ⟨A0, c0, A1, c1, rfl, HR.out.1.below hbf, hbf⟩
end Go.Proofs.Ytpahmdjcmpnmkaa.H
