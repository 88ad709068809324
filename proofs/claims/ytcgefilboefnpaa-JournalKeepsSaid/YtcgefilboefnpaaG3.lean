/- Some texts of one seat in one file, in build order. -/
import Derived.Test.YtcgefilboefnpaaG2
/- Package device: Append and Truncate, Cut, Restore. -/
namespace Go.Proofs.Ytcgefilboefnpaa.H
open Go.RowKit Go.Proofs.YtcgefilboefnpaaW.PrintWords Go.Proofs.YtcgefilboefnpaaW.PrintLast Go.Proofs.YtcgefilboefnpaaW.PrintMore
set_option linter.unusedVariables false
set_option linter.unusedSimpArgs false

theorem Oth.then_below {g : Nat} {W w2 w3 : World} (h : Oth g W w2) (hb : Below W.heap.size w2 w3) : Oth g W w3 :=
  ⟨hb.os.trans h.os, hb.tape.trans h.tape, hb.output.trans h.output, Nat.le_trans h.size hb.size, fun k hk hg => (hb.block k hk).trans (h.block k hk hg)⟩
theorem DevB.then_below {n g : Nat} {A0 : Option Addr} {c0 : Nat} {A1 : Option Addr} {c1 : Nat} {d : Dv} {w2 w3 : World} (h : DevB w2 g A0 c0 A1 c1 d) (hg : g < n) (hb : Below n w2 w3) : DevB w3 g A0 c0 A1 c1 d := (hb.block g hg).trans h
/-- How many of n bytes are turned. -/
def turnN (d : Dv) (n : Nat) : Nat := if 0 ≤ d.left ∧ d.left < n then d.left.toNat else n
/-- The device behind n bytes. -/
def turnD (d : Dv) (n : Nat) : Dv := { d with left := if 0 ≤ d.left then d.left - turnN d n else d.left, down := d.down || decide (0 ≤ d.left ∧ d.left < n), turned := d.turned + turnN d n }
/-- .. behind k bytes with no cut met. -/
def ranD (d : Dv) (k : Nat) : Dv := { d with left := if 0 ≤ d.left then d.left - k else d.left, turned := d.turned + k }
theorem ranD_zero (d : Dv) : ranD d 0 = d := by unfold ranD; obtain ⟨a, b, c, l, dn, t⟩ := d; simp
theorem step_ran (d : Dv) (k : Nat) (h : d.left < 0 ∨ (k : Int) < d.left) : stepD (ranD d k) = ranD d (k + 1) ∧ ¬ (ranD d k).left = 0 := by
  obtain ⟨a, b, c, l, dn, t⟩ := d
  simp only [stepD, ranD] at *
  rcases h with h | h
  · rw [if_neg (by omega : ¬ 0 ≤ l)]
    rw [if_neg (by omega), if_neg (by omega)]
    refine ⟨?_, by omega⟩
    congr 1 <;> omega
  · rw [if_pos (by omega : 0 ≤ l)]
    rw [if_neg (by omega), if_pos (by omega)]
    refine ⟨?_, by omega⟩
    congr 1 <;> omega
theorem step_cut (d : Dv) (k : Nat) (h : (k : Int) = d.left) : stepD (ranD d k) = { ranD d k with down := true } ∧ (ranD d k).left = 0 := by
  obtain ⟨a, b, c, l, dn, t⟩ := d
  simp only [stepD, ranD] at *
  rw [if_pos (by omega : 0 ≤ l)]
  rw [if_pos (by omega)]
  exact ⟨rfl, by omega⟩
theorem ran_all (d : Dv) (n : Nat) (hd : d.down = false) (h : d.left < 0 ∨ (n : Int) ≤ d.left) : ranD d n = turnD d n ∧ turnN d n = n := by
  have e : turnN d n = n := by unfold turnN; rw [if_neg (by omega)]
  refine ⟨?_, e⟩
  unfold turnD ranD
  rw [e, hd, show decide (0 ≤ d.left ∧ d.left < (n : Int)) = false from decide_eq_false (by omega)]
  rfl
theorem ran_cut (d : Dv) (k n : Nat) (h : (k : Int) = d.left) (hn : k < n) : { ranD d k with down := true } = turnD d n ∧ turnN d n = k := by
  have e : turnN d n = k := by unfold turnN; rw [if_pos (by omega)]; omega
  refine ⟨?_, e⟩
  unfold turnD ranD
  rw [e, show decide (0 ≤ d.left ∧ d.left < (n : Int)) = true from decide_eq_true (by omega), Bool.or_true]
def appendD (d : Dv) (r : Int) (l : List Int) : Dv × Int :=
  if d.down = true then (d, 30) else if ¬(r = 0 ∨ r = 1) then (d, 1) else if (l.length : Int) > d.cap - (d.row r).length then (d, 6)
  else ((turnD d l.length).set r (d.row r ++ l.take (turnN d l.length)), if (turnD d l.length).down = true then 30 else 0)
def truncD (d : Dv) (r n : Int) : Dv × Int :=
  if d.down = true then (d, 30) else if ¬(r = 0 ∨ r = 1) ∨ n < 0 ∨ n > (d.row r).length then (d, 1)
  else ((turnD d ((d.row r).length - n.toNat)).set r ((d.row r).take ((d.row r).length - turnN d ((d.row r).length - n.toNat))), if (turnD d ((d.row r).length - n.toNat)).down = true then 30 else 0)
theorem step_eq (g : Nat) (A0 : Option Addr) (c0 : Nat) (A1 : Option Addr) (c1 : Nat) (d d' : Dv) (b : Bool) (W : World) (hd : stepD d = d') (hb : (!decide (d.left = 0)) = b) (h : DevB W g A0 c0 A1 c1 d) (h0 : 0 ≤ d.turned) (h1 : d.turned < 1099511627776) (h2 : d.left ≤ 9223372036854775807) :
    Calls Try.prog 56 #[.pointer (some ⟨g, 0, none⟩)] W fun e W' => e = .returned (.bool b) ∧ DevB W' g A0 c0 A1 c1 d' ∧ Oth g W W' := by
  subst hd; subst hb
  exact step_calls g A0 c0 A1 c1 d W h h0 h1 h2
theorem left_yes {d : Dv} (h : ¬ d.left = 0) : (!decide (d.left = 0)) = true := by simp [h]
theorem left_no {d : Dv} (h : d.left = 0) : (!decide (d.left = 0)) = false := by simp [h]
/-- What a device is within. -/
structure Dv.fit (d : Dv) (m t : Int) : Prop where
  a : (d.a.length : Int) ≤ m
  b : (d.b.length : Int) ≤ m
  c0 : 0 ≤ d.cap
  c1 : d.cap ≤ 1048576
  l0 : -1 ≤ d.left
  l1 : d.left ≤ 9223372036854775807
  t0 : 0 ≤ d.turned
  t1 : d.turned ≤ t
set_option maxHeartbeats 1600000 in
theorem DAppend0 [Pl] (g : Nat) (d : Dv) (A : Option Addr) (c : Nat) (l : List Int) (W : World) (h : DevAt W g d) (hl : ∀ W', Oth g W W' → Kd.C (Kd.int .u8) W' A l.length l) (hc : l.length ≤ c) (hf : d.fit 1000000 1000000000000) (hn : l.length ≤ 1000000) :
    Calls Try.prog 39 #[.pointer (some ⟨g, 0, none⟩), .int .i64 0, .slice A l.length c] W fun e W' => e = .returned (.int .i64 (appendD d 0 l).2) ∧ DevAt W' g (appendD d 0 l).1 ∧ Oth g W W' := by
  obtain ⟨A0, c0, A1, c1, hB, hc0, hc1, hr0, hr1⟩ := h
  obtain ⟨q1, q2, q3, q4, q5, q6, q7, q8⟩ := hf
  obtain ⟨k0, k1, k2, k3, k4, k5⟩ := hB.cells
  have f0 := hB.frozen 0
  have HB := Aside0.mk (And.intro hB (And.intro hr0 (And.intro hr1 hl)))
  clear hB hr0 hr1 hl
  by_cases hdn : d.down = true
  · rw [hdn] at k4
    have e : appendD d 0 l = (d, 30) := by unfold appendD; rw [if_pos hdn]
    rw [e]
    have E := Lib.hid hdn
    clear hdn e
    go_enter Try.func39, Try.ntmps39
    go_wp2
    go_ret
    exact ⟨rfl, ⟨A0, c0, A1, c1, HB.out.1, hc0, hc1, HB.out.2.1, HB.out.2.2.1⟩, Oth.refl _ _⟩
  · have hdn : d.down = false := by simpa using hdn
    rw [hdn] at k4
    have hw : IntKind.i64.wrap (d.cap - (d.a.length : Int)) = d.cap - (d.a.length : Int) := by rw [IntKind.wrap_i64]; omega
    by_cases hroom : (l.length : Int) > d.cap - d.a.length
    · have b0 : decide (d.cap - (d.a.length : Int) < (l.length : Int)) = true := decide_eq_true hroom
      have e : appendD d 0 l = (d, 6) := by unfold appendD; rw [if_neg (by rw [hdn]; simp), if_neg (by omega), if_pos (show (l.length : Int) > d.cap - (d.row 0).length from hroom)]
      rw [e]
      clear hdn e hroom
      go_enter Try.func39, Try.ntmps39
      go_wp2_with (first
        | (go_at_call 44; refine (there_calls _ true _ (there_yes _ (by decide))).mono ?_; rintro e w' ⟨rfl, rfl⟩))
      go_quiet (fail)
      go_wp2
      go_ret
      exact ⟨rfl, ⟨A0, c0, A1, c1, HB.out.1, hc0, hc1, HB.out.2.1, HB.out.2.2.1⟩, Oth.of_below (pw_below_drewN (Below.refl _ _) _)⟩
    · have b0 : decide (d.cap - (d.a.length : Int) < (l.length : Int)) = false := decide_eq_false hroom
      have NR := Lib.hid hroom
      clear hroom
      go_enter Try.func39, Try.ntmps39
      go_wp2_with (first
        | (go_at_call 44; refine (there_calls _ true _ (there_yes _ (by decide))).mono ?_; rintro e w' ⟨rfl, rfl⟩))
      go_quiet (fail)
      go_wp2_with (first
        | (go_at_call 40; refine (Clone_calls _ _ _ _ (Kd.C_drewN HB.out.2.1.1 _) hc0 (by omega)).mono ?_; rintro e w1 ⟨v1, rfl, ho1, hb1⟩; have S := Aside0.mk (And.intro ho1 hb1); clear ho1 hb1))
      have hBW := below_step (pw_below_drewN (Below.refl W.heap.size W) nq) S.out.2
      have HS := Aside0.mk (And.intro (show Kd.R (Kd.int .u8) 5 w1 W.heap.size (fun _ => True) v1 d.a from S.out.1) (And.intro (show DevB w1 g A0 c0 A1 c1 d from blk_belowX HB.out.1 hBW) (Oth.of_below (g := g) hBW)))
      have hWw := hBW.size
      clear S hBW k0 k1 k2 k3 k4 k5 f0 b0 hw
      go_loopw [7, 44] (fun v i wr => ∃ k : Nat, k ≤ l.length ∧ i = .int .i64 (k : Int) ∧ (d.left < 0 ∨ (k : Int) ≤ d.left) ∧ Aside0 (Kd.R (Kd.int .u8) 5 wr W.heap.size (fun _ => True) v (d.a ++ l.take k)) ∧ Aside0 (DevB wr g A0 c0 A1 c1 (ranD d k) ∧ Oth g W wr)) (fun _ i _ => l.length - (intOf i).toNat)
      case atStart => exact ⟨0, Nat.zero_le _, rfl, by omega, ⟨by simpa using HS.out.1⟩, ⟨by rw [ranD_zero]; exact HS.out.2.1, HS.out.2.2⟩⟩
      case round =>
        obtain ⟨k, hk, rfl, hcut, HO, HD⟩ := hrel
        by_cases hlt : k < l.length
        · have b1 : decide (k < l.length) = true := decide_eq_true hlt
          obtain ⟨ad0, e0, hx0⟩ := Kd.at_int (HB.out.2.2.2 _ HD.out.2) k (by omega) (by omega)
          subst e0
          simp only [Int.toNat_natCast] at hx0
          by_cases hc : d.left < 0 ∨ (k : Int) < d.left
          · obtain ⟨s1, s2⟩ := step_ran d k hc
            have HS1 := Aside0.mk (And.intro s1 s2)
            have HT := Lib.hid (take_rd l k hlt)
            have hlk : (l.take k).length ≤ k := List.length_take_le _ _
            have hlen : (d.a ++ l.take k).length ≤ 2000000 := by rw [List.length_append]; omega
            have hleft : (ranD d k).left ≤ 9223372036854775807 := by unfold ranD; simp only; split <;> omega
            have htur : 0 ≤ (ranD d k).turned ∧ (ranD d k).turned < 1099511627776 := by unfold ranD; simp only; omega
            have HL := Aside0.mk (And.intro hleft htur)
            clear hleft htur s1 s2 hcut
            go_wp2_with (first
              | (go_at_call 56; refine (step_eq g A0 c0 A1 c1 (ranD d k) (ranD d (k + 1)) true _ HS1.out.1 (left_yes HS1.out.2) HD.out.1 HL.out.2.1 HL.out.2.2 HL.out.1).mono ?_; rintro e w2 ⟨rfl, hB2, ho2⟩; have S2 := Aside0.mk (And.intro hB2 (And.intro (HD.out.2.trans ho2) (R_oth HO.out HD.out.1 (by decide) ho2))); clear hB2 ho2)
              | ((with_reducible refine gate_builtin (b := .append) (xs := #[.tmp 51, .tmp 53]) rfl ?_); at_builtin; refine Kd.R_append (Kd.int .u8) (w0 := w2) W.heap.size rfl (.tmp 51) (.tmp 53) 32 5 (.int .u8 0) 1 rfl Try.underlying32 info_u8 rfl (by decide) (by omega) _ (d.a ++ l.take k) (rd l k) [.int .u8 (rd l k)] (fun _ => True) (fun _ => False) rfl rfl rfl (fun _ hk => hk.elim) (fun _ _ => trivial) S2.out.2.2 (Below.refl _ _) S2.out.2.1.size (by omega) ?_; intro v7 w7 ho7 hb7 hg7 hat7; have HO7 := Aside0.mk ho7; have HB7 := Aside0.mk hb7; clear ho7 hb7 hg7 hat7))
            go_roundw
            case rel => exact ⟨k + 1, by omega, by go_num, by omega, ⟨by rw [HT.out, ← List.append_assoc]; exact HO7.out⟩, ⟨S2.out.1.then_below (lt_of_some HB.out.1) HB7.out, S2.out.2.1.then_below HB7.out⟩⟩
            case measure => simp [intOf]; omega
          · have hkl : (k : Int) = d.left := by omega
            obtain ⟨s1, s2⟩ := step_cut d k hkl
            obtain ⟨s3, s4⟩ := ran_cut d k l.length hkl hlt
            rw [s3] at s1
            obtain ⟨nr, hnr⟩ : ∃ x, d.a ++ l.take k = x := ⟨_, rfl⟩
            rw [hnr] at HO
            have hap : appendD d 0 l = ((turnD d l.length).set 0 nr, 30) := by
              unfold appendD
              rw [if_neg (by rw [hdn]; simp), if_neg (by omega), if_neg (show ¬ (l.length : Int) > d.cap - (d.row 0).length from Int.not_lt.2 NR.out), s4, ← s3, ← hnr]
              rfl
            have hdw : (turnD d l.length).down = true := by rw [← s3]
            have HS1 := Aside0.mk (And.intro s1 (And.intro s2 (And.intro hap hdw)))
            have hleft : (ranD d k).left ≤ 9223372036854775807 := by rw [s2]; decide
            have htur : 0 ≤ (ranD d k).turned ∧ (ranD d k).turned < 1099511627776 := by unfold ranD; simp only; omega
            have HL := Aside0.mk (And.intro hleft htur)
            clear hleft htur s1 s2 s3 s4 hcut hap hdw hkl
            obtain ⟨A2, c2, e2, hc2, hr2⟩ := Rd.of_R HO.out HB.out.2.1.lo HD.out.2.size
            subst e2
            go_wp2_with (first
              | (go_at_call 56; refine (step_eq g A0 c0 A1 c1 (ranD d k) (turnD d l.length) false _ HS1.out.1 (left_no HS1.out.2.1) HD.out.1 HL.out.2.1 HL.out.2.2 HL.out.1).mono ?_; rintro e w2 ⟨rfl, hB2, ho2⟩; obtain ⟨_, _, _, _, y4, _⟩ := hB2.cells; rw [HS1.out.2.2.2] at y4; have g0 := hB2.frozen 0; have y0 := hB2.cells.1; have S2 := Aside0.mk (And.intro hB2 (And.intro (HD.out.2.trans ho2) (hr2.oth HD.out.1 (by decide) ho2))); clear hB2 ho2))
            have hds := Oth.set w2 ⟨g, 0, none⟩ (.slice A2 nr.length c2)
            go_ret
            refine ⟨by rw [HS1.out.2.2.1]; rfl, ?_, S2.out.2.1.trans hds⟩
            rw [HS1.out.2.2.1]
            exact ⟨A2, c2, A1, c1, blk_put S2.out.1 0 _ rfl, hc2, hc1, S2.out.2.2.oth S2.out.1 (by decide) hds, (HB.out.2.2.1.oth HB.out.1 (by decide) S2.out.2.1).oth S2.out.1 (by decide) hds⟩
        · obtain rfl : k = l.length := by omega
          obtain ⟨s3, s4⟩ := ran_all d l.length hdn hcut
          obtain ⟨nr, hnr⟩ : ∃ x, d.a ++ l = x := ⟨_, rfl⟩
          rw [List.take_length, hnr] at HO
          have hdw : (turnD d l.length).down = false := by rw [← s3]; exact hdn
          have hap : appendD d 0 l = ((turnD d l.length).set 0 nr, 0) := by
            unfold appendD
            rw [if_neg (by rw [hdn]; simp), if_neg (by omega), if_neg (show ¬ (l.length : Int) > d.cap - (d.row 0).length from Int.not_lt.2 NR.out), s4, hdw, ← hnr, List.take_length]
            rfl
          rw [s3] at HD
          obtain ⟨A2, c2, e2, hc2, hr2⟩ := Rd.of_R HO.out HB.out.2.1.lo HD.out.2.size
          subst e2
          obtain ⟨y0, _, _, _, y4, _⟩ := HD.out.1.cells
          rw [hdw] at y4
          have g0 := HD.out.1.frozen 0
          have HS1 := Aside0.mk hap
          clear s3 s4 hcut hap hdw hdn
          go_wp2
          have hds := Oth.set wr ⟨g, 0, none⟩ (.slice A2 nr.length c2)
          go_ret
          refine ⟨by rw [HS1.out]; rfl, ?_, HD.out.2.trans hds⟩
          rw [HS1.out]
          exact ⟨A2, c2, A1, c1, blk_put HD.out.1 0 _ rfl, hc2, hc1, hr2.oth HD.out.1 (by decide) hds, (HB.out.2.2.1.oth HB.out.1 (by decide) HD.out.2).oth HD.out.1 (by decide) hds⟩
set_option maxHeartbeats 1600000 in
theorem DAppend1 [Pl] (g : Nat) (d : Dv) (A : Option Addr) (c : Nat) (l : List Int) (W : World) (h : DevAt W g d) (hl : ∀ W', Oth g W W' → Kd.C (Kd.int .u8) W' A l.length l) (hc : l.length ≤ c) (hf : d.fit 1000000 1000000000000) (hn : l.length ≤ 1000000) :
    Calls Try.prog 39 #[.pointer (some ⟨g, 0, none⟩), .int .i64 1, .slice A l.length c] W fun e W' => e = .returned (.int .i64 (appendD d 1 l).2) ∧ DevAt W' g (appendD d 1 l).1 ∧ Oth g W W' := by
  obtain ⟨A0, c0, A1, c1, hB, hc0, hc1, hr0, hr1⟩ := h
  obtain ⟨q1, q2, q3, q4, q5, q6, q7, q8⟩ := hf
  obtain ⟨k0, k1, k2, k3, k4, k5⟩ := hB.cells
  have f0 := hB.frozen 1
  have HB := Aside0.mk (And.intro hB (And.intro hr0 (And.intro hr1 hl)))
  clear hB hr0 hr1 hl
  by_cases hdn : d.down = true
  · rw [hdn] at k4
    have e : appendD d 1 l = (d, 30) := by unfold appendD; rw [if_pos hdn]
    rw [e]
    have E := Lib.hid hdn
    clear hdn e
    go_enter Try.func39, Try.ntmps39
    go_wp2
    go_ret
    exact ⟨rfl, ⟨A0, c0, A1, c1, HB.out.1, hc0, hc1, HB.out.2.1, HB.out.2.2.1⟩, Oth.refl _ _⟩
  · have hdn : d.down = false := by simpa using hdn
    rw [hdn] at k4
    have hw : IntKind.i64.wrap (d.cap - (d.b.length : Int)) = d.cap - (d.b.length : Int) := by rw [IntKind.wrap_i64]; omega
    by_cases hroom : (l.length : Int) > d.cap - d.b.length
    · have b0 : decide (d.cap - (d.b.length : Int) < (l.length : Int)) = true := decide_eq_true hroom
      have e : appendD d 1 l = (d, 6) := by unfold appendD; rw [if_neg (by rw [hdn]; simp), if_neg (by omega), if_pos (show (l.length : Int) > d.cap - (d.row 1).length from hroom)]
      rw [e]
      clear hdn e hroom
      go_enter Try.func39, Try.ntmps39
      go_wp2_with (first
        | (go_at_call 44; refine (there_calls _ true _ (there_yes _ (by decide))).mono ?_; rintro e w' ⟨rfl, rfl⟩))
      go_quiet (fail)
      go_wp2
      go_ret
      exact ⟨rfl, ⟨A0, c0, A1, c1, HB.out.1, hc0, hc1, HB.out.2.1, HB.out.2.2.1⟩, Oth.of_below (pw_below_drewN (Below.refl _ _) _)⟩
    · have b0 : decide (d.cap - (d.b.length : Int) < (l.length : Int)) = false := decide_eq_false hroom
      have NR := Lib.hid hroom
      clear hroom
      go_enter Try.func39, Try.ntmps39
      go_wp2_with (first
        | (go_at_call 44; refine (there_calls _ true _ (there_yes _ (by decide))).mono ?_; rintro e w' ⟨rfl, rfl⟩))
      go_quiet (fail)
      go_wp2_with (first
        | (go_at_call 40; refine (Clone_calls _ _ _ _ (Kd.C_drewN HB.out.2.2.1.1 _) hc1 (by omega)).mono ?_; rintro e w1 ⟨v1, rfl, ho1, hb1⟩; have S := Aside0.mk (And.intro ho1 hb1); clear ho1 hb1))
      have hBW := below_step (pw_below_drewN (Below.refl W.heap.size W) nq) S.out.2
      have HS := Aside0.mk (And.intro (show Kd.R (Kd.int .u8) 5 w1 W.heap.size (fun _ => True) v1 d.b from S.out.1) (And.intro (show DevB w1 g A0 c0 A1 c1 d from blk_belowX HB.out.1 hBW) (Oth.of_below (g := g) hBW)))
      have hWw := hBW.size
      clear S hBW k0 k1 k2 k3 k4 k5 f0 b0 hw
      go_loopw [7, 44] (fun v i wr => ∃ k : Nat, k ≤ l.length ∧ i = .int .i64 (k : Int) ∧ (d.left < 0 ∨ (k : Int) ≤ d.left) ∧ Aside0 (Kd.R (Kd.int .u8) 5 wr W.heap.size (fun _ => True) v (d.b ++ l.take k)) ∧ Aside0 (DevB wr g A0 c0 A1 c1 (ranD d k) ∧ Oth g W wr)) (fun _ i _ => l.length - (intOf i).toNat)
      case atStart => exact ⟨0, Nat.zero_le _, rfl, by omega, ⟨by simpa using HS.out.1⟩, ⟨by rw [ranD_zero]; exact HS.out.2.1, HS.out.2.2⟩⟩
      case round =>
        obtain ⟨k, hk, rfl, hcut, HO, HD⟩ := hrel
        by_cases hlt : k < l.length
        · have b1 : decide (k < l.length) = true := decide_eq_true hlt
          obtain ⟨ad0, e0, hx0⟩ := Kd.at_int (HB.out.2.2.2 _ HD.out.2) k (by omega) (by omega)
          subst e0
          simp only [Int.toNat_natCast] at hx0
          by_cases hc : d.left < 0 ∨ (k : Int) < d.left
          · obtain ⟨s1, s2⟩ := step_ran d k hc
            have HS1 := Aside0.mk (And.intro s1 s2)
            have HT := Lib.hid (take_rd l k hlt)
            have hlk : (l.take k).length ≤ k := List.length_take_le _ _
            have hlen : (d.b ++ l.take k).length ≤ 2000000 := by rw [List.length_append]; omega
            have hleft : (ranD d k).left ≤ 9223372036854775807 := by unfold ranD; simp only; split <;> omega
            have htur : 0 ≤ (ranD d k).turned ∧ (ranD d k).turned < 1099511627776 := by unfold ranD; simp only; omega
            have HL := Aside0.mk (And.intro hleft htur)
            clear hleft htur s1 s2 hcut
            go_wp2_with (first
              | (go_at_call 56; refine (step_eq g A0 c0 A1 c1 (ranD d k) (ranD d (k + 1)) true _ HS1.out.1 (left_yes HS1.out.2) HD.out.1 HL.out.2.1 HL.out.2.2 HL.out.1).mono ?_; rintro e w2 ⟨rfl, hB2, ho2⟩; have S2 := Aside0.mk (And.intro hB2 (And.intro (HD.out.2.trans ho2) (R_oth HO.out HD.out.1 (by decide) ho2))); clear hB2 ho2)
              | ((with_reducible refine gate_builtin (b := .append) (xs := #[.tmp 51, .tmp 53]) rfl ?_); at_builtin; refine Kd.R_append (Kd.int .u8) (w0 := w2) W.heap.size rfl (.tmp 51) (.tmp 53) 32 5 (.int .u8 0) 1 rfl Try.underlying32 info_u8 rfl (by decide) (by omega) _ (d.b ++ l.take k) (rd l k) [.int .u8 (rd l k)] (fun _ => True) (fun _ => False) rfl rfl rfl (fun _ hk => hk.elim) (fun _ _ => trivial) S2.out.2.2 (Below.refl _ _) S2.out.2.1.size (by omega) ?_; intro v7 w7 ho7 hb7 hg7 hat7; have HO7 := Aside0.mk ho7; have HB7 := Aside0.mk hb7; clear ho7 hb7 hg7 hat7))
            go_roundw
            case rel => exact ⟨k + 1, by omega, by go_num, by omega, ⟨by rw [HT.out, ← List.append_assoc]; exact HO7.out⟩, ⟨S2.out.1.then_below (lt_of_some HB.out.1) HB7.out, S2.out.2.1.then_below HB7.out⟩⟩
            case measure => simp [intOf]; omega
          · have hkl : (k : Int) = d.left := by omega
            obtain ⟨s1, s2⟩ := step_cut d k hkl
            obtain ⟨s3, s4⟩ := ran_cut d k l.length hkl hlt
            rw [s3] at s1
            obtain ⟨nr, hnr⟩ : ∃ x, d.b ++ l.take k = x := ⟨_, rfl⟩
            rw [hnr] at HO
            have hap : appendD d 1 l = ((turnD d l.length).set 1 nr, 30) := by
              unfold appendD
              rw [if_neg (by rw [hdn]; simp), if_neg (by omega), if_neg (show ¬ (l.length : Int) > d.cap - (d.row 1).length from Int.not_lt.2 NR.out), s4, ← s3, ← hnr]
              rfl
            have hdw : (turnD d l.length).down = true := by rw [← s3]
            have HS1 := Aside0.mk (And.intro s1 (And.intro s2 (And.intro hap hdw)))
            have hleft : (ranD d k).left ≤ 9223372036854775807 := by rw [s2]; decide
            have htur : 0 ≤ (ranD d k).turned ∧ (ranD d k).turned < 1099511627776 := by unfold ranD; simp only; omega
            have HL := Aside0.mk (And.intro hleft htur)
            clear hleft htur s1 s2 s3 s4 hcut hap hdw hkl
            obtain ⟨A2, c2, e2, hc2, hr2⟩ := Rd.of_R HO.out HB.out.2.1.lo HD.out.2.size
            subst e2
            go_wp2_with (first
              | (go_at_call 56; refine (step_eq g A0 c0 A1 c1 (ranD d k) (turnD d l.length) false _ HS1.out.1 (left_no HS1.out.2.1) HD.out.1 HL.out.2.1 HL.out.2.2 HL.out.1).mono ?_; rintro e w2 ⟨rfl, hB2, ho2⟩; obtain ⟨_, _, _, _, y4, _⟩ := hB2.cells; rw [HS1.out.2.2.2] at y4; have g0 := hB2.frozen 1; have y0 := hB2.cells.2.1; have S2 := Aside0.mk (And.intro hB2 (And.intro (HD.out.2.trans ho2) (hr2.oth HD.out.1 (by decide) ho2))); clear hB2 ho2))
            have hds := Oth.set w2 ⟨g, 1, none⟩ (.slice A2 nr.length c2)
            go_ret
            refine ⟨by rw [HS1.out.2.2.1]; rfl, ?_, S2.out.2.1.trans hds⟩
            rw [HS1.out.2.2.1]
            exact ⟨A0, c0, A2, c2, blk_put S2.out.1 1 _ rfl, hc0, hc2, (HB.out.2.1.oth HB.out.1 (by decide) S2.out.2.1).oth S2.out.1 (by decide) hds, S2.out.2.2.oth S2.out.1 (by decide) hds⟩
        · obtain rfl : k = l.length := by omega
          obtain ⟨s3, s4⟩ := ran_all d l.length hdn hcut
          obtain ⟨nr, hnr⟩ : ∃ x, d.b ++ l = x := ⟨_, rfl⟩
          rw [List.take_length, hnr] at HO
          have hdw : (turnD d l.length).down = false := by rw [← s3]; exact hdn
          have hap : appendD d 1 l = ((turnD d l.length).set 1 nr, 0) := by
            unfold appendD
            rw [if_neg (by rw [hdn]; simp), if_neg (by omega), if_neg (show ¬ (l.length : Int) > d.cap - (d.row 1).length from Int.not_lt.2 NR.out), s4, hdw, ← hnr, List.take_length]
            rfl
          rw [s3] at HD
          obtain ⟨A2, c2, e2, hc2, hr2⟩ := Rd.of_R HO.out HB.out.2.1.lo HD.out.2.size
          subst e2
          obtain ⟨_, y0, _, _, y4, _⟩ := HD.out.1.cells
          rw [hdw] at y4
          have g0 := HD.out.1.frozen 1
          have HS1 := Aside0.mk hap
          clear s3 s4 hcut hap hdw hdn
          go_wp2
          have hds := Oth.set wr ⟨g, 1, none⟩ (.slice A2 nr.length c2)
          go_ret
          refine ⟨by rw [HS1.out]; rfl, ?_, HD.out.2.trans hds⟩
          rw [HS1.out]
          exact ⟨A0, c0, A2, c2, blk_put HD.out.1 1 _ rfl, hc0, hc2, (HB.out.2.1.oth HB.out.1 (by decide) HD.out.2).oth HD.out.1 (by decide) hds, hr2.oth HD.out.1 (by decide) hds⟩
theorem Append_calls [Pl] (g : Nat) (d : Dv) (r : Int) (A : Option Addr) (c : Nat) (l : List Int) (W : World) (h : DevAt W g d) (hl : ∀ W', Oth g W W' → Kd.C (Kd.int .u8) W' A l.length l) (hc : l.length ≤ c) (hf : d.fit 1000000 1000000000000) (hn : l.length ≤ 1000000) :
    Calls Try.prog 39 #[.pointer (some ⟨g, 0, none⟩), .int .i64 r, .slice A l.length c] W fun e W' => e = .returned (.int .i64 (appendD d r l).2) ∧ DevAt W' g (appendD d r l).1 ∧ Oth g W W' := by
  by_cases hr : r = 0 ∨ r = 1
  · rcases hr with rfl | rfl
    · exact DAppend0 g d A c l W h hl hc hf hn
    · exact DAppend1 g d A c l W h hl hc hf hn
  · obtain ⟨A0, c0, A1, c1, hB, hrest⟩ := h
    obtain ⟨_, _, _, _, k4, _⟩ := hB.cells
    have HB := Aside0.mk (And.intro hB (And.intro hrest hr))
    by_cases hdn : d.down = true
    · rw [hdn] at k4
      rw [show appendD d r l = (d, 30) by unfold appendD; rw [if_pos hdn]]
      clear hB hrest hr hdn
      go_enter Try.func39, Try.ntmps39
      go_wp2
      go_ret
      exact ⟨rfl, ⟨A0, c0, A1, c1, HB.out.1, HB.out.2.1⟩, Oth.refl _ _⟩
    · have hdn' : d.down = false := by simpa using hdn
      rw [hdn'] at k4
      rw [show appendD d r l = (d, 1) by unfold appendD; rw [if_neg hdn, if_pos hr]]
      clear hB hrest hr hdn hdn'
      go_enter Try.func39, Try.ntmps39
      go_wp2_with (first
        | (go_at_call 44; refine (there_calls _ false _ (there_no _ HB.out.2.2)).mono ?_; rintro e w' ⟨rfl, rfl⟩))
      go_ret
      exact ⟨rfl, ⟨A0, c0, A1, c1, HB.out.1, HB.out.2.1⟩, Oth.refl _ _⟩
end Go.Proofs.Ytcgefilboefnpaa.H
