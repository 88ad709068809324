/- Some texts of one seat in one file, in build order. -/
import Derived.Test.YtcgefilboefnpaaG3
import Derived.Laws.CopyOwn
/- Package device: Truncate, Cut, Restore, Load. -/
namespace Go.Proofs.Ytcgefilboefnpaa.H
open Go.RowKit Go.Proofs.YtcgefilboefnpaaW.PrintWords Go.Proofs.YtcgefilboefnpaaW.PrintLast Go.Proofs.YtcgefilboefnpaaW.PrintMore
set_option linter.unusedVariables false
set_option linter.unusedSimpArgs false

def cutD (d : Dv) (n : Int) : Dv := { d with left := if n < -1 then -1 else n }
def restD (d : Dv) : Dv := { d with left := -1, down := false }
theorem Cut_calls [Pl] (g : Nat) (d : Dv) (n : Int) (W : World) (h : DevAt W g d) : Calls Try.prog 20 #[.pointer (some ⟨g, 0, none⟩), .int .i64 n] W fun e W' => e = .returned (.tuple #[]) ∧ DevAt W' g (cutD d n) ∧ Oth g W W' := by
  obtain ⟨A0, c0, A1, c1, hB, hc0, hc1, hr0, hr1⟩ := h
  obtain ⟨_, _, _, k3, _, _⟩ := hB.cells
  have f3 := hB.frozen 3
  have fin : ∀ x : Int, (if n < -1 then -1 else n) = x → DevAt (W.setCell ⟨g, 3, none⟩ (.int .i64 x)) g (cutD d n) := fun x hx => by
    have hds := Oth.set W ⟨g, 3, none⟩ (.int .i64 x)
    unfold cutD
    rw [hx]
    exact ⟨A0, c0, A1, c1, blk_put hB 3 _ rfl, hc0, hc1, hr0.oth hB (by decide) hds, hr1.oth hB (by decide) hds⟩
  have F := Aside0.mk fin
  clear fin hB hr0 hr1
  by_cases hn : n < -1
  · have G := Aside0.mk (F.out (-1) (if_pos hn))
    go_enter Try.func20, Try.ntmps20
    go_wp2
    go_end0
    exact ⟨rfl, G.out, Oth.set W ⟨g, 3, none⟩ _⟩
  · have G := Aside0.mk (F.out n (if_neg hn))
    have hn' : -1 ≤ n := by omega
    clear hn
    go_enter Try.func20, Try.ntmps20
    go_wp2
    go_end0
    exact ⟨rfl, G.out, Oth.set W ⟨g, 3, none⟩ _⟩
theorem Restore_calls [Pl] (g : Nat) (d : Dv) (W : World) (h : DevAt W g d) : Calls Try.prog 22 #[.pointer (some ⟨g, 0, none⟩)] W fun e W' => e = .returned (.tuple #[]) ∧ DevAt W' g (restD d) ∧ Oth g W W' := by
  obtain ⟨A0, c0, A1, c1, hB, hc0, hc1, hr0, hr1⟩ := h
  obtain ⟨_, _, _, k3, k4, _⟩ := hB.cells
  have f3 := hB.frozen 3
  have f4 := hB.frozen 4
  have H := Aside0.mk (And.intro hB (And.intro hr0 hr1))
  clear hB hr0 hr1
  go_enter Try.func22, Try.ntmps22
  go_wp2
  have hds := (Oth.set W ⟨g, 3, none⟩ (.int .i64 (-1))).trans (Oth.set _ ⟨g, 4, none⟩ (.bool false))
  go_end0
  exact ⟨rfl, ⟨A0, c0, A1, c1, blk_put (blk_put H.out.1 3 _ rfl) 4 _ rfl, hc0, hc1, H.out.2.1.oth H.out.1 (by decide) hds, H.out.2.2.oth H.out.1 (by decide) hds⟩, hds⟩
set_option maxHeartbeats 1600000 in
theorem DTrunc0 [Pl] (g : Nat) (d : Dv) (n : Int) (W : World) (h : DevAt W g d) (hf : d.fit 1000000 1000000000000) :
    Calls Try.prog 37 #[.pointer (some ⟨g, 0, none⟩), .int .i64 0, .int .i64 n] W fun e W' => e = .returned (.int .i64 (truncD d 0 n).2) ∧ DevAt W' g (truncD d 0 n).1 ∧ Oth g W W' := by
  obtain ⟨A0, c0, A1, c1, hB, hc0, hc1, hr0, hr1⟩ := h
  obtain ⟨q1, q2, q3, q4, q5, q6, q7, q8⟩ := hf
  obtain ⟨k0, k1, k2, k3, k4, k5⟩ := hB.cells
  have f0 := hB.frozen 0
  have HB := Aside0.mk (And.intro hB (And.intro hr0 hr1))
  clear hB hr0 hr1
  by_cases hdn : d.down = true
  · rw [hdn] at k4
    rw [show truncD d 0 n = (d, 30) by unfold truncD; rw [if_pos hdn]]
    clear hdn
    go_enter Try.func37, Try.ntmps37
    go_wp2
    go_ret
    exact ⟨rfl, ⟨A0, c0, A1, c1, HB.out.1, hc0, hc1, HB.out.2.1, HB.out.2.2⟩, Oth.refl _ _⟩
  · have hdn' : d.down = false := by simpa using hdn
    rw [hdn'] at k4
    by_cases hbad : n < 0 ∨ n > d.a.length
    · rw [show truncD d 0 n = (d, 1) by unfold truncD; rw [if_neg hdn, if_pos (show ¬((0 : Int) = 0 ∨ (0 : Int) = 1) ∨ n < 0 ∨ n > (d.row 0).length from .inr hbad)]]
      clear hdn hdn'
      by_cases hn : n < 0
      · have b0 : decide (n < 0) = true := decide_eq_true hn
        clear hbad hn
        go_enter Try.func37, Try.ntmps37
        go_wp2_with (first
          | (go_at_call 44; refine (there_calls _ true _ (there_yes _ (by decide))).mono ?_; rintro e w' ⟨rfl, rfl⟩))
        go_ret
        exact ⟨rfl, ⟨A0, c0, A1, c1, HB.out.1, hc0, hc1, HB.out.2.1, HB.out.2.2⟩, Oth.refl _ _⟩
      · have b0 : decide (n < 0) = false := decide_eq_false hn
        have b1 : decide ((d.a.length : Int) < n) = true := decide_eq_true (by omega)
        clear hbad hn
        go_enter Try.func37, Try.ntmps37
        go_wp2_with (first
          | (go_at_call 44; refine (there_calls _ true _ (there_yes _ (by decide))).mono ?_; rintro e w' ⟨rfl, rfl⟩))
        go_ret
        exact ⟨rfl, ⟨A0, c0, A1, c1, HB.out.1, hc0, hc1, HB.out.2.1, HB.out.2.2⟩, Oth.refl _ _⟩
    · obtain ⟨n, rfl⟩ := Int.eq_ofNat_of_zero_le (by omega : 0 ≤ n)
      have hnl : n ≤ d.a.length := by omega
      have b0 : decide ((n : Int) < 0) = false := decide_eq_false (by omega)
      have b1 : decide ((d.a.length : Int) < (n : Int)) = false := decide_eq_false (by omega)
      have b2 : decide (d.a.length < n) = false := decide_eq_false (by omega)
      have hap : truncD d 0 n = ((turnD d (d.a.length - n)).set 0 (d.a.take (d.a.length - turnN d (d.a.length - n))), if (turnD d (d.a.length - n)).down = true then 30 else 0) := by
        unfold truncD
        rw [if_neg hdn, if_neg (show ¬(¬((0 : Int) = 0 ∨ (0 : Int) = 1) ∨ (n : Int) < 0 ∨ (n : Int) > (d.row 0).length) from fun h => by rcases h with h | h; exact h (.inl rfl); exact hbad h)]
        rw [Int.toNat_natCast]
        rfl
      have HAP := Aside0.mk hap
      clear hap hbad hdn
      go_enter Try.func37, Try.ntmps37
      go_wp2_with (first
        | (go_at_call 44; refine (there_calls _ true _ (there_yes _ (by decide))).mono ?_; rintro e w' ⟨rfl, rfl⟩))
      clear k0 k1 k2 k3 k4 k5 f0 b0 b1 b2
      go_loopw [7] (fun v wr => ∃ m : Nat, n ≤ m ∧ m ≤ d.a.length ∧ v = .slice A0 m c0 ∧ (d.left < 0 ∨ ((d.a.length - m : Nat) : Int) ≤ d.left) ∧ Aside0 (DevB wr g A0 c0 A1 c1 (ranD d (d.a.length - m)) ∧ Oth g W wr)) (fun v _ => match v with | .slice _ m _ => m | _ => 0)
      case atStart => exact ⟨d.a.length, by omega, Nat.le_refl _, rfl, by omega, ⟨by rw [Nat.sub_self, ranD_zero]; exact HB.out.1, Oth.refl _ _⟩⟩
      case round =>
        obtain ⟨m, h1, h2, rfl, hcut, HD⟩ := hrel
        by_cases hlt : n < m
        · have b1 : decide (n < m) = true := decide_eq_true hlt
          have b2 : decide ((n : Int) < (m : Int)) = true := decide_eq_true (by omega)
          by_cases hc : d.left < 0 ∨ ((d.a.length - m : Nat) : Int) < d.left
          · obtain ⟨s1, s2⟩ := step_ran d (d.a.length - m) hc
            rw [show d.a.length - m + 1 = d.a.length - (m - 1) by omega] at s1
            have HS1 := Aside0.mk (And.intro s1 s2)
            have hleft : (ranD d (d.a.length - m)).left ≤ 9223372036854775807 := by unfold ranD; simp only; split <;> omega
            have htur : 0 ≤ (ranD d (d.a.length - m)).turned ∧ (ranD d (d.a.length - m)).turned < 1099511627776 := by unfold ranD; simp only; omega
            have HL := Aside0.mk (And.intro hleft htur)
            obtain ⟨i0, hi0, _, hsz, _⟩ := info_parts info_u8
            have hcut2 := (print_take_of (P := Try.prog) (Value.int .u8) 0 32 5 .i64 Try.underlying32 hi0 hsz A0 c0 (d.a.take m) ((m : Int) - 1) (by omega) (by rw [List.length_take]; omega) (by rw [List.length_take]; omega)).1
            rw [show ((m : Int) - 1).toNat = m - 1 by omega, show (d.a.take m).length = m by rw [List.length_take]; omega, show ((d.a.take m).take (m - 1)).length = m - 1 by rw [List.length_take, List.length_take]; omega] at hcut2
            clear hleft htur s1 s2 hcut hi0 hsz
            go_wp2_with (first
              | (go_at_call 56; refine (step_eq g A0 c0 A1 c1 (ranD d (d.a.length - m)) (ranD d (d.a.length - (m - 1))) true _ HS1.out.1 (left_yes HS1.out.2) HD.out.1 HL.out.2.1 HL.out.2.2 HL.out.1).mono ?_; rintro e w2 ⟨rfl, hB2, ho2⟩; have S2 := Aside0.mk (And.intro hB2 (HD.out.2.trans ho2)); clear hB2 ho2))
            exact ⟨⟨m - 1, by omega, by omega, rfl, by omega, S2⟩, by simp only; omega⟩
          · have hkl : ((d.a.length - m : Nat) : Int) = d.left := by omega
            have hlt2 : d.a.length - m < d.a.length - n := by omega
            obtain ⟨s1, s2⟩ := step_cut d (d.a.length - m) hkl
            obtain ⟨s3, s4⟩ := ran_cut d (d.a.length - m) (d.a.length - n) hkl hlt2
            rw [s3] at s1
            have hdw : (turnD d (d.a.length - n)).down = true := by rw [← s3]
            have hap := HAP.out
            rw [s4, hdw, if_pos rfl, show d.a.length - (d.a.length - m) = m by omega] at hap
            have HS1 := Aside0.mk (And.intro s1 (And.intro s2 (And.intro hap hdw)))
            have hleft : (ranD d (d.a.length - m)).left ≤ 9223372036854775807 := by rw [s2]; decide
            have htur : 0 ≤ (ranD d (d.a.length - m)).turned ∧ (ranD d (d.a.length - m)).turned < 1099511627776 := by unfold ranD; simp only; omega
            have HL := Aside0.mk (And.intro hleft htur)
            clear hleft htur s1 s2 s3 s4 hcut hap hdw hkl
            have htl : (d.a.take m).length = m := by rw [List.length_take]; omega
            generalize htk : d.a.take m = nr at HS1 htl
            have hrn : ∀ w, Rd w A0 d.a → Rd w A0 nr := fun w hw => by rw [← htk]; exact ⟨Kd.C_take hw.1 h2, hw.2⟩
            have HN := Aside0.mk hrn
            clear hrn htk
            subst htl
            go_wp2_with (first
              | (go_at_call 56; refine (step_eq g A0 c0 A1 c1 (ranD d (d.a.length - nr.length)) (turnD d (d.a.length - n)) false _ HS1.out.1 (left_no HS1.out.2.1) HD.out.1 HL.out.2.1 HL.out.2.2 HL.out.1).mono ?_; rintro e w2 ⟨rfl, hB2, ho2⟩; have S2 := Aside0.mk (And.intro hB2 (HD.out.2.trans ho2)); clear hB2 ho2))
            go_region_held3 (fun w' => True) (trivial)
              (first
                | (go_at_call 40; refine (Clone_calls _ _ nr _ ?sd (by omega) (by omega)).mono ?_; (case sd => repeat (first | exact (HN.out _ (HB.out.2.1.oth HB.out.1 (by decide) S2.out.2)).1 | (with_reducible refine Kd.C_drewN ?_ _) | (with_reducible refine Kd.C_drew ?_))); rintro e w3 ⟨v3, rfl, ho3, hb3'⟩; have hb3 : Below w2.heap.size w2 w3 := ⟨hb3'.os, hb3'.tape, hb3'.output, hb3'.size, hb3'.block⟩; obtain ⟨A3, c3, e3, hc3, hr3⟩ := Rd.of_R ho3 (Nat.le_trans HB.out.2.1.lo S2.out.2.size) hb3.size; subst e3; have hB3 : DevB w3 g A0 c0 A1 c1 (turnD d (d.a.length - n)) := blk_belowX S2.out.1 hb3; have z0 := hB3.cells.1; have g0 := hB3.frozen 0; have z4 := hB3.cells.2.2.2.2.1; rw [HS1.out.2.2.2] at z4; have S3 := Aside0.mk (And.intro hB3 (And.intro hr3 (S2.out.2.trans (Oth.of_below hb3)))); clear ho3 hb3 hb3' hr3 hB3))
            go_wp2
            have hds := Oth.set w3 ⟨g, 0, none⟩ (.slice A3 nr.length c3)
            go_ret
            refine ⟨by rw [HS1.out.2.2.1]; rfl, ?_, S3.out.2.2.trans hds⟩
            rw [HS1.out.2.2.1]
            exact ⟨A3, c3, A1, c1, blk_put S3.out.1 0 _ rfl, hc3, hc1, S3.out.2.1.oth S3.out.1 (by decide) hds, (HB.out.2.2.oth HB.out.1 (by decide) S3.out.2.2).oth S3.out.1 (by decide) hds⟩
        · obtain rfl : m = n := by omega
          have b1 : decide (m < m) = false := decide_eq_false (by omega)
          have b2 : decide ((m : Int) < (m : Int)) = false := decide_eq_false (by omega)
          obtain ⟨s3, s4⟩ := ran_all d (d.a.length - m) hdn' hcut
          have hdw : (turnD d (d.a.length - m)).down = false := by rw [← s3]; exact hdn'
          have hap := HAP.out
          rw [s4, hdw, show d.a.length - (d.a.length - m) = m by omega] at hap
          rw [s3] at HD
          have HS1 := Aside0.mk (And.intro trivial (And.intro trivial (And.intro hap hdw)))
          have htl : (d.a.take m).length = m := by rw [List.length_take]; omega
          generalize htk : d.a.take m = nr at HS1 htl
          have hrn : ∀ w, Rd w A0 d.a → Rd w A0 nr := fun w hw => by rw [← htk]; exact ⟨Kd.C_take hw.1 h2, hw.2⟩
          have HN := Aside0.mk hrn
          have hdm : d.a.length - m = d.a.length - m := rfl
          clear hrn htk s3 s4 hcut hap hdw hlt
          subst htl
          go_wp2
          go_region_held3 (fun w' => True) (trivial)
            (first
              | (go_at_call 40; refine (Clone_calls _ _ nr _ ?sd (by omega) (by omega)).mono ?_; (case sd => repeat (first | exact (HN.out _ (HB.out.2.1.oth HB.out.1 (by decide) HD.out.2)).1 | (with_reducible refine Kd.C_drewN ?_ _) | (with_reducible refine Kd.C_drew ?_))); rintro e w3 ⟨v3, rfl, ho3, hb3'⟩; have hb3 : Below wr.heap.size wr w3 := ⟨hb3'.os, hb3'.tape, hb3'.output, hb3'.size, hb3'.block⟩; obtain ⟨A3, c3, e3, hc3, hr3⟩ := Rd.of_R ho3 (Nat.le_trans HB.out.2.1.lo HD.out.2.size) hb3.size; subst e3; have hB3 : DevB w3 g A0 c0 A1 c1 (turnD d (d.a.length - nr.length)) := blk_belowX HD.out.1 hb3; have z0 := hB3.cells.1; have g0 := hB3.frozen 0; have z4 := hB3.cells.2.2.2.2.1; rw [HS1.out.2.2.2] at z4; have S3 := Aside0.mk (And.intro hB3 (And.intro hr3 (HD.out.2.trans (Oth.of_below hb3)))); clear ho3 hb3 hb3' hr3 hB3))
          go_wp2
          have hds := Oth.set w3 ⟨g, 0, none⟩ (.slice A3 nr.length c3)
          go_ret
          refine ⟨by rw [HS1.out.2.2.1]; rfl, ?_, S3.out.2.2.trans hds⟩
          rw [HS1.out.2.2.1]
          exact ⟨A3, c3, A1, c1, blk_put S3.out.1 0 _ rfl, hc3, hc1, S3.out.2.1.oth S3.out.1 (by decide) hds, (HB.out.2.2.oth HB.out.1 (by decide) S3.out.2.2).oth S3.out.1 (by decide) hds⟩
set_option maxHeartbeats 1600000 in
theorem DTrunc1 [Pl] (g : Nat) (d : Dv) (n : Int) (W : World) (h : DevAt W g d) (hf : d.fit 1000000 1000000000000) :
    Calls Try.prog 37 #[.pointer (some ⟨g, 0, none⟩), .int .i64 1, .int .i64 n] W fun e W' => e = .returned (.int .i64 (truncD d 1 n).2) ∧ DevAt W' g (truncD d 1 n).1 ∧ Oth g W W' := by
  obtain ⟨A0, c0, A1, c1, hB, hc0, hc1, hr0, hr1⟩ := h
  obtain ⟨q1, q2, q3, q4, q5, q6, q7, q8⟩ := hf
  obtain ⟨k0, k1, k2, k3, k4, k5⟩ := hB.cells
  have f0 := hB.frozen 1
  have HB := Aside0.mk (And.intro hB (And.intro hr0 hr1))
  clear hB hr0 hr1
  by_cases hdn : d.down = true
  · rw [hdn] at k4
    rw [show truncD d 1 n = (d, 30) by unfold truncD; rw [if_pos hdn]]
    clear hdn
    go_enter Try.func37, Try.ntmps37
    go_wp2
    go_ret
    exact ⟨rfl, ⟨A0, c0, A1, c1, HB.out.1, hc0, hc1, HB.out.2.1, HB.out.2.2⟩, Oth.refl _ _⟩
  · have hdn' : d.down = false := by simpa using hdn
    rw [hdn'] at k4
    by_cases hbad : n < 0 ∨ n > d.b.length
    · rw [show truncD d 1 n = (d, 1) by unfold truncD; rw [if_neg hdn, if_pos (show ¬((1 : Int) = 0 ∨ (1 : Int) = 1) ∨ n < 0 ∨ n > (d.row 1).length from .inr hbad)]]
      clear hdn hdn'
      by_cases hn : n < 0
      · have b0 : decide (n < 0) = true := decide_eq_true hn
        clear hbad hn
        go_enter Try.func37, Try.ntmps37
        go_wp2_with (first
          | (go_at_call 44; refine (there_calls _ true _ (there_yes _ (by decide))).mono ?_; rintro e w' ⟨rfl, rfl⟩))
        go_ret
        exact ⟨rfl, ⟨A0, c0, A1, c1, HB.out.1, hc0, hc1, HB.out.2.1, HB.out.2.2⟩, Oth.refl _ _⟩
      · have b0 : decide (n < 0) = false := decide_eq_false hn
        have b1 : decide ((d.b.length : Int) < n) = true := decide_eq_true (by omega)
        clear hbad hn
        go_enter Try.func37, Try.ntmps37
        go_wp2_with (first
          | (go_at_call 44; refine (there_calls _ true _ (there_yes _ (by decide))).mono ?_; rintro e w' ⟨rfl, rfl⟩))
        go_ret
        exact ⟨rfl, ⟨A0, c0, A1, c1, HB.out.1, hc0, hc1, HB.out.2.1, HB.out.2.2⟩, Oth.refl _ _⟩
    · obtain ⟨n, rfl⟩ := Int.eq_ofNat_of_zero_le (by omega : 0 ≤ n)
      have hnl : n ≤ d.b.length := by omega
      have b0 : decide ((n : Int) < 0) = false := decide_eq_false (by omega)
      have b1 : decide ((d.b.length : Int) < (n : Int)) = false := decide_eq_false (by omega)
      have b2 : decide (d.b.length < n) = false := decide_eq_false (by omega)
      have hap : truncD d 1 n = ((turnD d (d.b.length - n)).set 1 (d.b.take (d.b.length - turnN d (d.b.length - n))), if (turnD d (d.b.length - n)).down = true then 30 else 0) := by
        unfold truncD
        rw [if_neg hdn, if_neg (show ¬(¬((1 : Int) = 0 ∨ (1 : Int) = 1) ∨ (n : Int) < 0 ∨ (n : Int) > (d.row 1).length) from fun h => by rcases h with h | h; exact h (.inr rfl); exact hbad h)]
        rw [Int.toNat_natCast]
        rfl
      have HAP := Aside0.mk hap
      clear hap hbad hdn
      go_enter Try.func37, Try.ntmps37
      go_wp2_with (first
        | (go_at_call 44; refine (there_calls _ true _ (there_yes _ (by decide))).mono ?_; rintro e w' ⟨rfl, rfl⟩))
      clear k0 k1 k2 k3 k4 k5 f0 b0 b1 b2
      go_loopw [7] (fun v wr => ∃ m : Nat, n ≤ m ∧ m ≤ d.b.length ∧ v = .slice A1 m c1 ∧ (d.left < 0 ∨ ((d.b.length - m : Nat) : Int) ≤ d.left) ∧ Aside0 (DevB wr g A0 c0 A1 c1 (ranD d (d.b.length - m)) ∧ Oth g W wr)) (fun v _ => match v with | .slice _ m _ => m | _ => 0)
      case atStart => exact ⟨d.b.length, by omega, Nat.le_refl _, rfl, by omega, ⟨by rw [Nat.sub_self, ranD_zero]; exact HB.out.1, Oth.refl _ _⟩⟩
      case round =>
        obtain ⟨m, h1, h2, rfl, hcut, HD⟩ := hrel
        by_cases hlt : n < m
        · have b1 : decide (n < m) = true := decide_eq_true hlt
          have b2 : decide ((n : Int) < (m : Int)) = true := decide_eq_true (by omega)
          by_cases hc : d.left < 0 ∨ ((d.b.length - m : Nat) : Int) < d.left
          · obtain ⟨s1, s2⟩ := step_ran d (d.b.length - m) hc
            rw [show d.b.length - m + 1 = d.b.length - (m - 1) by omega] at s1
            have HS1 := Aside0.mk (And.intro s1 s2)
            have hleft : (ranD d (d.b.length - m)).left ≤ 9223372036854775807 := by unfold ranD; simp only; split <;> omega
            have htur : 0 ≤ (ranD d (d.b.length - m)).turned ∧ (ranD d (d.b.length - m)).turned < 1099511627776 := by unfold ranD; simp only; omega
            have HL := Aside0.mk (And.intro hleft htur)
            obtain ⟨i0, hi0, _, hsz, _⟩ := info_parts info_u8
            have hcut2 := (print_take_of (P := Try.prog) (Value.int .u8) 0 32 5 .i64 Try.underlying32 hi0 hsz A1 c1 (d.b.take m) ((m : Int) - 1) (by omega) (by rw [List.length_take]; omega) (by rw [List.length_take]; omega)).1
            rw [show ((m : Int) - 1).toNat = m - 1 by omega, show (d.b.take m).length = m by rw [List.length_take]; omega, show ((d.b.take m).take (m - 1)).length = m - 1 by rw [List.length_take, List.length_take]; omega] at hcut2
            clear hleft htur s1 s2 hcut hi0 hsz
            go_wp2_with (first
              | (go_at_call 56; refine (step_eq g A0 c0 A1 c1 (ranD d (d.b.length - m)) (ranD d (d.b.length - (m - 1))) true _ HS1.out.1 (left_yes HS1.out.2) HD.out.1 HL.out.2.1 HL.out.2.2 HL.out.1).mono ?_; rintro e w2 ⟨rfl, hB2, ho2⟩; have S2 := Aside0.mk (And.intro hB2 (HD.out.2.trans ho2)); clear hB2 ho2))
            exact ⟨⟨m - 1, by omega, by omega, rfl, by omega, S2⟩, by simp only; omega⟩
          · have hkl : ((d.b.length - m : Nat) : Int) = d.left := by omega
            have hlt2 : d.b.length - m < d.b.length - n := by omega
            obtain ⟨s1, s2⟩ := step_cut d (d.b.length - m) hkl
            obtain ⟨s3, s4⟩ := ran_cut d (d.b.length - m) (d.b.length - n) hkl hlt2
            rw [s3] at s1
            have hdw : (turnD d (d.b.length - n)).down = true := by rw [← s3]
            have hap := HAP.out
            rw [s4, hdw, if_pos rfl, show d.b.length - (d.b.length - m) = m by omega] at hap
            have HS1 := Aside0.mk (And.intro s1 (And.intro s2 (And.intro hap hdw)))
            have hleft : (ranD d (d.b.length - m)).left ≤ 9223372036854775807 := by rw [s2]; decide
            have htur : 0 ≤ (ranD d (d.b.length - m)).turned ∧ (ranD d (d.b.length - m)).turned < 1099511627776 := by unfold ranD; simp only; omega
            have HL := Aside0.mk (And.intro hleft htur)
            clear hleft htur s1 s2 s3 s4 hcut hap hdw hkl
            have htl : (d.b.take m).length = m := by rw [List.length_take]; omega
            generalize htk : d.b.take m = nr at HS1 htl
            have hrn : ∀ w, Rd w A1 d.b → Rd w A1 nr := fun w hw => by rw [← htk]; exact ⟨Kd.C_take hw.1 h2, hw.2⟩
            have HN := Aside0.mk hrn
            clear hrn htk
            subst htl
            go_wp2_with (first
              | (go_at_call 56; refine (step_eq g A0 c0 A1 c1 (ranD d (d.b.length - nr.length)) (turnD d (d.b.length - n)) false _ HS1.out.1 (left_no HS1.out.2.1) HD.out.1 HL.out.2.1 HL.out.2.2 HL.out.1).mono ?_; rintro e w2 ⟨rfl, hB2, ho2⟩; have S2 := Aside0.mk (And.intro hB2 (HD.out.2.trans ho2)); clear hB2 ho2))
            go_region_held3 (fun w' => True) (trivial)
              (first
                | (go_at_call 40; refine (Clone_calls _ _ nr _ ?sd (by omega) (by omega)).mono ?_; (case sd => repeat (first | exact (HN.out _ (HB.out.2.2.oth HB.out.1 (by decide) S2.out.2)).1 | (with_reducible refine Kd.C_drewN ?_ _) | (with_reducible refine Kd.C_drew ?_))); rintro e w3 ⟨v3, rfl, ho3, hb3'⟩; have hb3 : Below w2.heap.size w2 w3 := ⟨hb3'.os, hb3'.tape, hb3'.output, hb3'.size, hb3'.block⟩; obtain ⟨A3, c3, e3, hc3, hr3⟩ := Rd.of_R ho3 (Nat.le_trans HB.out.2.1.lo S2.out.2.size) hb3.size; subst e3; have hB3 : DevB w3 g A0 c0 A1 c1 (turnD d (d.b.length - n)) := blk_belowX S2.out.1 hb3; have z0 := hB3.cells.2.1; have g0 := hB3.frozen 1; have z4 := hB3.cells.2.2.2.2.1; rw [HS1.out.2.2.2] at z4; have S3 := Aside0.mk (And.intro hB3 (And.intro hr3 (S2.out.2.trans (Oth.of_below hb3)))); clear ho3 hb3 hb3' hr3 hB3))
            go_wp2
            have hds := Oth.set w3 ⟨g, 1, none⟩ (.slice A3 nr.length c3)
            go_ret
            refine ⟨by rw [HS1.out.2.2.1]; rfl, ?_, S3.out.2.2.trans hds⟩
            rw [HS1.out.2.2.1]
            exact ⟨A0, c0, A3, c3, blk_put S3.out.1 1 _ rfl, hc0, hc3, (HB.out.2.1.oth HB.out.1 (by decide) S3.out.2.2).oth S3.out.1 (by decide) hds, S3.out.2.1.oth S3.out.1 (by decide) hds⟩
        · obtain rfl : m = n := by omega
          have b1 : decide (m < m) = false := decide_eq_false (by omega)
          have b2 : decide ((m : Int) < (m : Int)) = false := decide_eq_false (by omega)
          obtain ⟨s3, s4⟩ := ran_all d (d.b.length - m) hdn' hcut
          have hdw : (turnD d (d.b.length - m)).down = false := by rw [← s3]; exact hdn'
          have hap := HAP.out
          rw [s4, hdw, show d.b.length - (d.b.length - m) = m by omega] at hap
          rw [s3] at HD
          have HS1 := Aside0.mk (And.intro trivial (And.intro trivial (And.intro hap hdw)))
          have htl : (d.b.take m).length = m := by rw [List.length_take]; omega
          generalize htk : d.b.take m = nr at HS1 htl
          have hrn : ∀ w, Rd w A1 d.b → Rd w A1 nr := fun w hw => by rw [← htk]; exact ⟨Kd.C_take hw.1 h2, hw.2⟩
          have HN := Aside0.mk hrn
          have hdm : d.b.length - m = d.b.length - m := rfl
          clear hrn htk s3 s4 hcut hap hdw hlt
          subst htl
          go_wp2
          go_region_held3 (fun w' => True) (trivial)
            (first
              | (go_at_call 40; refine (Clone_calls _ _ nr _ ?sd (by omega) (by omega)).mono ?_; (case sd => repeat (first | exact (HN.out _ (HB.out.2.2.oth HB.out.1 (by decide) HD.out.2)).1 | (with_reducible refine Kd.C_drewN ?_ _) | (with_reducible refine Kd.C_drew ?_))); rintro e w3 ⟨v3, rfl, ho3, hb3'⟩; have hb3 : Below wr.heap.size wr w3 := ⟨hb3'.os, hb3'.tape, hb3'.output, hb3'.size, hb3'.block⟩; obtain ⟨A3, c3, e3, hc3, hr3⟩ := Rd.of_R ho3 (Nat.le_trans HB.out.2.1.lo HD.out.2.size) hb3.size; subst e3; have hB3 : DevB w3 g A0 c0 A1 c1 (turnD d (d.b.length - nr.length)) := blk_belowX HD.out.1 hb3; have z0 := hB3.cells.2.1; have g0 := hB3.frozen 1; have z4 := hB3.cells.2.2.2.2.1; rw [HS1.out.2.2.2] at z4; have S3 := Aside0.mk (And.intro hB3 (And.intro hr3 (HD.out.2.trans (Oth.of_below hb3)))); clear ho3 hb3 hb3' hr3 hB3))
          go_wp2
          have hds := Oth.set w3 ⟨g, 1, none⟩ (.slice A3 nr.length c3)
          go_ret
          refine ⟨by rw [HS1.out.2.2.1]; rfl, ?_, S3.out.2.2.trans hds⟩
          rw [HS1.out.2.2.1]
          exact ⟨A0, c0, A3, c3, blk_put S3.out.1 1 _ rfl, hc0, hc3, (HB.out.2.1.oth HB.out.1 (by decide) S3.out.2.2).oth S3.out.1 (by decide) hds, S3.out.2.1.oth S3.out.1 (by decide) hds⟩
theorem Truncate_calls [Pl] (g : Nat) (d : Dv) (r n : Int) (W : World) (h : DevAt W g d) (hf : d.fit 1000000 1000000000000) :
    Calls Try.prog 37 #[.pointer (some ⟨g, 0, none⟩), .int .i64 r, .int .i64 n] W fun e W' => e = .returned (.int .i64 (truncD d r n).2) ∧ DevAt W' g (truncD d r n).1 ∧ Oth g W W' := by
  by_cases hr : r = 0 ∨ r = 1
  · rcases hr with rfl | rfl
    · exact DTrunc0 g d n W h hf
    · exact DTrunc1 g d n W h hf
  · obtain ⟨A0, c0, A1, c1, hB, hrest⟩ := h
    obtain ⟨_, _, _, _, k4, _⟩ := hB.cells
    have HB := Aside0.mk (And.intro hB (And.intro hrest hr))
    by_cases hdn : d.down = true
    · rw [hdn] at k4
      rw [show truncD d r n = (d, 30) by unfold truncD; rw [if_pos hdn]]
      clear hB hrest hr hdn hf
      go_enter Try.func37, Try.ntmps37
      go_wp2
      go_ret
      exact ⟨rfl, ⟨A0, c0, A1, c1, HB.out.1, HB.out.2.1⟩, Oth.refl _ _⟩
    · have hdn' : d.down = false := by simpa using hdn
      rw [hdn'] at k4
      rw [show truncD d r n = (d, 1) by unfold truncD; rw [if_neg hdn, if_pos (.inl hr)]]
      clear hB hrest hr hdn hdn' hf
      go_enter Try.func37, Try.ntmps37
      go_wp2_with (first
        | (go_at_call 44; refine (there_calls _ false _ (there_no _ HB.out.2.2)).mono ?_; rintro e w' ⟨rfl, rfl⟩))
      go_ret
      exact ⟨rfl, ⟨A0, c0, A1, c1, HB.out.1, HB.out.2.1⟩, Oth.refl _ _⟩
end Go.Proofs.Ytcgefilboefnpaa.H
/- Package device: Load and Clone. -/
namespace Go.Proofs.Ytcgefilboefnpaa.H
open Go.RowKit Go.Proofs.YtcgefilboefnpaaW.PrintWords Go.Proofs.YtcgefilboefnpaaW.PrintLast Go.Proofs.YtcgefilboefnpaaW.PrintMore
set_option linter.unusedVariables false
set_option linter.unusedSimpArgs false
attribute [local go_sem] max2_int min2_int

set_option maxHeartbeats 1600000 in
theorem DLoad0 [Pl] (g : Nat) (d : Dv) (A : Option Addr) (c : Nat) (l : List Int) (W : World) (h : DevAt W g d) (hl : Kd.C (Kd.int .u8) W A l.length l) (hc : l.length ≤ c) (hcap : 0 ≤ d.cap ∧ d.cap ≤ 1048576) (hn : l.length ≤ 1000000) :
    Calls Try.prog 23 #[.pointer (some ⟨g, 0, none⟩), .int .i64 0, .slice A l.length c] W fun e W' => e = .returned (.tuple #[]) ∧ DevAt W' g (d.set 0 (l.take d.cap.toNat)) ∧ Oth g W W' := by
  obtain ⟨A0, c0, A1, c1, hB, hc0, hc1, hr0, hr1⟩ := h
  obtain ⟨k0, k1, k2, k3, k4, k5⟩ := hB.cells
  have f0 := hB.frozen 0
  have HB := Aside0.mk (And.intro hB (And.intro hr0 (And.intro hr1 hl)))
  clear hB hr0 hr1 hl
  obtain ⟨q3, q4⟩ := hcap
  obtain ⟨i0, hi0, _, hsz, _⟩ := info_parts info_u8
  have main : ∀ (j : Int) (nr : List Int), 0 ≤ j → j ≤ l.length → l.take j.toNat = nr → nr = l.take d.cap.toNat → (∀ b : Bool, decide (d.cap < (l.length : Int)) = b → True) → (if d.cap < (l.length : Int) then d.cap else (l.length : Int)) = j →
      Calls Try.prog 23 #[.pointer (some ⟨g, 0, none⟩), .int .i64 0, .slice A l.length c] W fun e W' => e = .returned (.tuple #[]) ∧ DevAt W' g (d.set 0 (l.take d.cap.toNat)) ∧ Oth g W W' := by
    intro j nr h1 h2 h3 h4 _ h6
    have hcut := (print_take_of (P := Try.prog) (Value.int .u8) 0 32 5 .i64 Try.underlying32 hi0 hsz A c l j h1 h2 hc).1
    rw [h3] at hcut
    have hrn : ∀ w, Kd.C (Kd.int .u8) w A l.length l → Kd.C (Kd.int .u8) w A nr.length nr := fun w hw => by rw [← h3]; exact Kd.C_take hw (by omega)
    have hnl : nr.length ≤ c ∧ nr.length ≤ 1000000 := by rw [← h3, List.length_take]; omega
    obtain ⟨hnc, hnm⟩ := hnl
    have HN := Aside0.mk hrn
    rw [← h4]
    clear hrn h3 h4 hi0 hsz
    have K2 : Aside0 (∀ w3, DevB w3 g A0 c0 A1 c1 d → w3.cell? ⟨g, 2, none⟩ = some (.int .i64 d.cap)) := ⟨fun w3 h => h.cells.2.2.1⟩
    clear k0 k1 k3 k4 k5
    go_enter Try.func23, Try.ntmps23
    go_wp2_with (first
      | (go_at_call 44; refine (there_calls _ true _ (there_yes _ (by decide))).mono ?_; rintro e w' ⟨rfl, rfl⟩))
    go_region_held3 (fun w' => w'.cell? ⟨g, 2, none⟩ = some (.int .i64 d.cap)) (first | exact z2 | exact (blk_cell (blk_put S3.out.1 0 _ rfl) 2).trans rfl | go_keep)
      (first
        | (go_at_call 40; refine (Clone_calls _ _ nr _ ?sd (by omega) (by omega)).mono ?_; (case sd => repeat (first | exact HN.out _ HB.out.2.2.2 | (with_reducible refine Kd.C_drewN ?_ _) | (with_reducible refine Kd.C_drew ?_))); rintro e w3 ⟨v3, rfl, ho3, hb3'⟩; have hb3 : Below W.heap.size W w3 := ⟨hb3'.os, hb3'.tape, hb3'.output, hb3'.size, hb3'.block⟩; obtain ⟨A3, c3, e3, hc3, hr3⟩ := Rd.of_R ho3 HB.out.2.1.lo hb3.size; subst e3; have hB3 : DevB w3 g A0 c0 A1 c1 d := blk_belowX HB.out.1 hb3; have z0 := hB3.cells.1; have z2 := hB3.cells.2.2.1; have g0 := hB3.frozen 0; have S3 := Aside0.mk (And.intro hB3 (And.intro hr3 hb3)); clear ho3 hb3 hb3' hr3 hB3))
    go_wp2
    have hds := Oth.set w3 ⟨g, 0, none⟩ (.slice A3 nr.length c3)
    have hW3 := Oth.of_below (g := g) S3.out.2.2
    go_end0
    exact ⟨rfl, ⟨A3, c3, A1, c1, blk_put S3.out.1 0 _ rfl, hc3, hc1, S3.out.2.1.oth S3.out.1 (by decide) hds, (HB.out.2.2.1.oth HB.out.1 (by decide) hW3).oth S3.out.1 (by decide) hds⟩, hW3.trans hds⟩
  by_cases hlc : d.cap < (l.length : Int)
  · exact main d.cap _ q3 (by omega) rfl rfl (fun _ _ => trivial) (if_pos hlc)
  · exact main l.length _ (by omega) (Int.le_refl _) rfl (by rw [Int.toNat_natCast, List.take_length, List.take_of_length_le (by omega)]) (fun _ _ => trivial) (if_neg hlc)
set_option maxHeartbeats 1600000 in
theorem DLoad1 [Pl] (g : Nat) (d : Dv) (A : Option Addr) (c : Nat) (l : List Int) (W : World) (h : DevAt W g d) (hl : Kd.C (Kd.int .u8) W A l.length l) (hc : l.length ≤ c) (hcap : 0 ≤ d.cap ∧ d.cap ≤ 1048576) (hn : l.length ≤ 1000000) :
    Calls Try.prog 23 #[.pointer (some ⟨g, 0, none⟩), .int .i64 1, .slice A l.length c] W fun e W' => e = .returned (.tuple #[]) ∧ DevAt W' g (d.set 1 (l.take d.cap.toNat)) ∧ Oth g W W' := by
  obtain ⟨A0, c0, A1, c1, hB, hc0, hc1, hr0, hr1⟩ := h
  obtain ⟨k0, k1, k2, k3, k4, k5⟩ := hB.cells
  have f0 := hB.frozen 1
  have HB := Aside0.mk (And.intro hB (And.intro hr0 (And.intro hr1 hl)))
  clear hB hr0 hr1 hl
  obtain ⟨q3, q4⟩ := hcap
  obtain ⟨i0, hi0, _, hsz, _⟩ := info_parts info_u8
  have main : ∀ (j : Int) (nr : List Int), 0 ≤ j → j ≤ l.length → l.take j.toNat = nr → nr = l.take d.cap.toNat → (∀ b : Bool, decide (d.cap < (l.length : Int)) = b → True) → (if d.cap < (l.length : Int) then d.cap else (l.length : Int)) = j →
      Calls Try.prog 23 #[.pointer (some ⟨g, 0, none⟩), .int .i64 1, .slice A l.length c] W fun e W' => e = .returned (.tuple #[]) ∧ DevAt W' g (d.set 1 (l.take d.cap.toNat)) ∧ Oth g W W' := by
    intro j nr h1 h2 h3 h4 _ h6
    have hcut := (print_take_of (P := Try.prog) (Value.int .u8) 0 32 5 .i64 Try.underlying32 hi0 hsz A c l j h1 h2 hc).1
    rw [h3] at hcut
    have hrn : ∀ w, Kd.C (Kd.int .u8) w A l.length l → Kd.C (Kd.int .u8) w A nr.length nr := fun w hw => by rw [← h3]; exact Kd.C_take hw (by omega)
    have hnl : nr.length ≤ c ∧ nr.length ≤ 1000000 := by rw [← h3, List.length_take]; omega
    obtain ⟨hnc, hnm⟩ := hnl
    have HN := Aside0.mk hrn
    rw [← h4]
    clear hrn h3 h4 hi0 hsz
    have K2 : Aside0 (∀ w3, DevB w3 g A0 c0 A1 c1 d → w3.cell? ⟨g, 2, none⟩ = some (.int .i64 d.cap)) := ⟨fun w3 h => h.cells.2.2.1⟩
    clear k0 k1 k3 k4 k5
    go_enter Try.func23, Try.ntmps23
    go_wp2_with (first
      | (go_at_call 44; refine (there_calls _ true _ (there_yes _ (by decide))).mono ?_; rintro e w' ⟨rfl, rfl⟩))
    go_region_held3 (fun w' => w'.cell? ⟨g, 2, none⟩ = some (.int .i64 d.cap)) (first | exact z2 | exact (blk_cell (blk_put S3.out.1 1 _ rfl) 2).trans rfl | go_keep)
      (first
        | (go_at_call 40; refine (Clone_calls _ _ nr _ ?sd (by omega) (by omega)).mono ?_; (case sd => repeat (first | exact HN.out _ HB.out.2.2.2 | (with_reducible refine Kd.C_drewN ?_ _) | (with_reducible refine Kd.C_drew ?_))); rintro e w3 ⟨v3, rfl, ho3, hb3'⟩; have hb3 : Below W.heap.size W w3 := ⟨hb3'.os, hb3'.tape, hb3'.output, hb3'.size, hb3'.block⟩; obtain ⟨A3, c3, e3, hc3, hr3⟩ := Rd.of_R ho3 HB.out.2.1.lo hb3.size; subst e3; have hB3 : DevB w3 g A0 c0 A1 c1 d := blk_belowX HB.out.1 hb3; have z0 := hB3.cells.2.1; have z2 := hB3.cells.2.2.1; have g0 := hB3.frozen 1; have S3 := Aside0.mk (And.intro hB3 (And.intro hr3 hb3)); clear ho3 hb3 hb3' hr3 hB3))
    go_wp2
    have hds := Oth.set w3 ⟨g, 1, none⟩ (.slice A3 nr.length c3)
    have hW3 := Oth.of_below (g := g) S3.out.2.2
    go_end0
    exact ⟨rfl, ⟨A0, c0, A3, c3, blk_put S3.out.1 1 _ rfl, hc0, hc3, (HB.out.2.1.oth HB.out.1 (by decide) hW3).oth S3.out.1 (by decide) hds, S3.out.2.1.oth S3.out.1 (by decide) hds⟩, hW3.trans hds⟩
  by_cases hlc : d.cap < (l.length : Int)
  · exact main d.cap _ q3 (by omega) rfl rfl (fun _ _ => trivial) (if_pos hlc)
  · exact main l.length _ (by omega) (Int.le_refl _) rfl (by rw [Int.toNat_natCast, List.take_length, List.take_of_length_le (by omega)]) (fun _ _ => trivial) (if_neg hlc)
theorem set_no (d : Dv) (r : Int) (l : List Int) (h : ¬(r = 0 ∨ r = 1)) : d.set r l = d := by unfold Dv.set; rw [if_neg (by omega), if_neg (by omega)]
theorem Load_calls [Pl] (g : Nat) (d : Dv) (r : Int) (A : Option Addr) (c : Nat) (l : List Int) (W : World) (h : DevAt W g d) (hl : Kd.C (Kd.int .u8) W A l.length l) (hc : l.length ≤ c) (hcap : 0 ≤ d.cap ∧ d.cap ≤ 1048576) (hn : l.length ≤ 1000000) :
    Calls Try.prog 23 #[.pointer (some ⟨g, 0, none⟩), .int .i64 r, .slice A l.length c] W fun e W' => e = .returned (.tuple #[]) ∧ DevAt W' g (d.set r (l.take d.cap.toNat)) ∧ Oth g W W' := by
  by_cases hr : r = 0 ∨ r = 1
  · rcases hr with rfl | rfl
    · exact DLoad0 g d A c l W h hl hc hcap hn
    · exact DLoad1 g d A c l W h hl hc hcap hn
  · rw [set_no d r _ hr]
    have H := Aside0.mk (And.intro hr h)
    clear hr h hcap
    go_enter Try.func23, Try.ntmps23
    go_wp2_with (first
      | (go_at_call 44; refine (there_calls _ false _ (there_no _ H.out.1)).mono ?_; rintro e w' ⟨rfl, rfl⟩))
    go_end0
    exact ⟨rfl, H.out.2, Oth.refl _ _⟩
end Go.Proofs.Ytcgefilboefnpaa.H
/- The device's methods' contracts with the answer under a name. -/
namespace Go.Proofs.Ytcgefilboefnpaa.H
open Go.RowKit Go.Proofs.YtcgefilboefnpaaW.PrintWords Go.Proofs.YtcgefilboefnpaaW.PrintLast Go.Proofs.YtcgefilboefnpaaW.PrintMore
set_option linter.unusedVariables false
set_option linter.unusedSimpArgs false

theorem Append_eq [Pl] (g : Nat) (d d' : Dv) (r : Int) (A : Option Addr) (c n : Nat) (l : List Int) (e : Int) (W : World) (hn : l.length = n) (ha : appendD d r l = (d', e)) (h : DevAt W g d) (hl : ∀ W', Oth g W W' → Kd.C (Kd.int .u8) W' A l.length l) (hc : n ≤ c) (hf : d.fit 1000000 1000000000000) (hm : n ≤ 1000000) :
    Calls Try.prog 39 #[.pointer (some ⟨g, 0, none⟩), .int .i64 r, .slice A n c] W fun e' W' => e' = .returned (.int .i64 e) ∧ DevAt W' g d' ∧ Oth g W W' := by
  subst hn
  have := Append_calls g d r A c l W h hl hc hf hm
  rwa [ha] at this
theorem Truncate_eq [Pl] (g : Nat) (d d' : Dv) (r n e : Int) (W : World) (ha : truncD d r n = (d', e)) (h : DevAt W g d) (hf : d.fit 1000000 1000000000000) :
    Calls Try.prog 37 #[.pointer (some ⟨g, 0, none⟩), .int .i64 r, .int .i64 n] W fun e' W' => e' = .returned (.int .i64 e) ∧ DevAt W' g d' ∧ Oth g W W' := by
  have := Truncate_calls g d r n W h hf
  rwa [ha] at this
theorem Load_eq [Pl] (g : Nat) (d d' : Dv) (r : Int) (A : Option Addr) (c n : Nat) (l : List Int) (W : World) (hn : l.length = n) (ha : d.set r (l.take d.cap.toNat) = d') (h : DevAt W g d) (hl : Kd.C (Kd.int .u8) W A l.length l) (hc : n ≤ c) (hcap : 0 ≤ d.cap ∧ d.cap ≤ 1048576) (hm : n ≤ 1000000) :
    Calls Try.prog 23 #[.pointer (some ⟨g, 0, none⟩), .int .i64 r, .slice A n c] W fun e' W' => e' = .returned (.tuple #[]) ∧ DevAt W' g d' ∧ Oth g W W' := by
  subst hn; subst ha
  exact Load_calls g d r A c l W h hl hc hcap hm
theorem Cut_eq [Pl] (g : Nat) (d d' : Dv) (n : Int) (W : World) (ha : cutD d n = d') (h : DevAt W g d) :
    Calls Try.prog 20 #[.pointer (some ⟨g, 0, none⟩), .int .i64 n] W fun e' W' => e' = .returned (.tuple #[]) ∧ DevAt W' g d' ∧ Oth g W W' := by
  subst ha; exact Cut_calls g d n W h
theorem Restore_eq [Pl] (g : Nat) (d d' : Dv) (W : World) (ha : restD d = d') (h : DevAt W g d) :
    Calls Try.prog 22 #[.pointer (some ⟨g, 0, none⟩)] W fun e' W' => e' = .returned (.tuple #[]) ∧ DevAt W' g d' ∧ Oth g W W' := by
  subst ha; exact Restore_calls g d W h
theorem DevAt.lo [Pl] {W : World} {g : Nat} {d : Dv} (h : DevAt W g d) : Pl.lo ≤ W.heap.size := by
  obtain ⟨_, _, _, _, _, _, _, hr, _⟩ := h
  exact hr.lo
theorem Bytes_eq [Pl] (g : Nat) (d : Dv) (r : Int) (l : List Int) (n : Nat) (W : World) (hr : d.row r = l) (hn : l.length = n) (h : DevAt W g d) (ha : d.a.length ≤ 1000000) (hb : d.b.length ≤ 1000000) :
    Calls Try.prog 29 #[.pointer (some ⟨g, 0, none⟩), .int .i64 r] W fun e W' => ∃ A c, e = .returned (.slice A n c) ∧ n ≤ c ∧ Rd W' A l ∧ Below W.heap.size W W' := by
  subst hr; subst hn
  have hlo := h.lo
  refine (Bytes_calls g d r W h (by omega) (by omega)).mono ?_
  rintro e W' ⟨v, rfl, ho, hb⟩
  obtain ⟨A, c, rfl, hc, hr⟩ := Rd.of_R ho hlo hb.size
  exact ⟨A, c, rfl, hc, hr, hb⟩
theorem Len_eq [Pl] (g : Nat) (d : Dv) (r n : Int) (W : World) (hn : ((d.row r).length : Int) = n) (h : DevAt W g d) : Calls Try.prog 59 #[.pointer (some ⟨g, 0, none⟩), .int .i64 r] W fun e W' => e = .returned (.int .i64 n) ∧ W = W' := by
  subst hn; exact Len_calls g d r W h

theorem Down_eq [Pl] (g : Nat) (d : Dv) (b : Bool) (W : World) (hn : d.down = b) (h : DevAt W g d) : Calls Try.prog 34 #[.pointer (some ⟨g, 0, none⟩)] W fun e W' => e = .returned (.bool b) ∧ W = W' := by
  subst hn; exact Down_calls g d W h
theorem Capacity_eq [Pl] (g : Nat) (d : Dv) (b : Int) (W : World) (hn : d.cap = b) (h : DevAt W g d) : Calls Try.prog 11 #[.pointer (some ⟨g, 0, none⟩)] W fun e W' => e = .returned (.int .i64 b) ∧ W = W' := by
  subst hn; exact Capacity_calls g d W h
theorem Turned_eq [Pl] (g : Nat) (d : Dv) (b : Int) (W : World) (hn : d.turned = b) (h : DevAt W g d) : Calls Try.prog 13 #[.pointer (some ⟨g, 0, none⟩)] W fun e W' => e = .returned (.int .i64 b) ∧ W = W' := by
  subst hn; exact Turned_calls g d W h
/-- A row in a block of bytes abides where a device turns. -/
theorem Rd.abides [Pl] {W : World} {A : Option Addr} {l : List Int} {g : Nat} {d : Dv} (h : Rd W A l) (hd : DevAt W g d) : ∀ W', Oth g W W' → Kd.C (Kd.int .u8) W' A l.length l := fun W' ho => by
  obtain ⟨A0, c0, A1, c1, hB, _⟩ := hd
  exact (h.oth hB (by decide) ho).1
/-- What came in abides where what was made turns. -/
theorem C_in {W0 W : World} {A : Option Addr} {l : List Int} {g : Nat} (h : Kd.C (Kd.int .u8) W0 A l.length l) (hb : Below W0.heap.size W0 W) (hg : W0.heap.size ≤ g) : ∀ W', Oth g W W' → Kd.C (Kd.int .u8) W' A l.length l := fun W' ho =>
  C_of_blocks h (fun i hi => (ho.block i (Nat.lt_of_lt_of_le hi hb.size) (by omega)).trans (hb.block i hi))
end Go.Proofs.Ytcgefilboefnpaa.H
