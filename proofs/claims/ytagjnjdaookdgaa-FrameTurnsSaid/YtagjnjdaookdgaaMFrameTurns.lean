/- FrameTurns: whatever is given, the statement's function answers true. No condition. -/
import Derived.Test.YtagjnjdaookdgaaFrRef
import Derived.Test.YtagjnjdaookdgaaFrTurn
import Derived.Test.YtagjnjdaookdgaaRow
namespace Go.Proofs.Ytagjnjdaookdgaa.MFrameTurns
open Go.RowKit Go.Proofs.YtagjnjdaookdgaaW.PrintWords Go.Proofs.YtagjnjdaookdgaaW.PrintLast Go.Proofs.YtagjnjdaookdgaaW.PrintMore Go.Proofs.Ytagjnjdaookdgaa.H Go.Proofs.Ytagjnjdaookdgaa.CrcM Go.Proofs.Ytagjnjdaookdgaa.PTurn
set_option linter.unusedVariables false
set_option linter.unusedSimpArgs false

theorem opens : Opens Try.prog 22 (Kd.slice 5 (Kd.int .u8)) (fun l => ∀ x ∈ l, (Lit.int .u8 x).wf = true) := opens_slice 0 Try.underlying22 (by kernel_rfl) (opens_int Try.underlying5)
theorem Same_dr (A0 A1 : Option Addr) (c0 c1 n0 n1 : Nat) (l0 l1 : List Int) (w : World) (h0 : l0.length = n0) (h1 : l1.length = n1) (r : Bool) (hr : decide (l0 = l1) = r) (hr0 : Kd.C (Kd.int .u8) w A0 n0 l0) (hr1 : Kd.C (Kd.int .u8) w A1 n1 l1) :
    Calls Try.prog 11 #[.slice A0 n0 c0, .slice A1 n1 c1] w fun e w' => e = .returned (.bool r) ∧ ∃ m, w' = w.drewN m := by
  subst h0; subst h1; subst hr
  refine (Same_calls A0 c0 l0 A1 c1 l1 w hr0 hr1).mono ?_
  rintro e w' ⟨rfl, h⟩
  exact ⟨rfl, h.out⟩
theorem Turn_eq (A : Option Addr) (c n m : Nat) (l t : List Int) (j a2 : Int) (w : World) (hn : l.length = n) (hm : t.length = m) (h : saleroomref03_Turn.f 40 l j a2 = some t) (hC : Kd.C (Kd.int .u8) w A n l) (hc : n ≤ c) :
    Calls Try.prog 20 #[.slice A n c, .int .i64 j, .int .u32 a2] w fun e w' => ∃ A1 c1, e = .returned (.slice A1 m c1) ∧ m ≤ c1 ∧ Kd.C (Kd.int .u8) w' A1 m t ∧ Below w.heap.size w w' := by
  subst hn; subst hm
  refine (saleroomref03_Turn.calls 40 A c l j a2 t w hC hc h).mono ?_
  rintro e w' ⟨v, rfl, ho, hb⟩
  obtain ⟨A1, c1, rfl, hc1, hr1⟩ := R_C ho
  exact ⟨A1, c1, rfl, hc1, hr1, hb⟩

set_option maxHeartbeats 1600000 in
theorem main (kind : Int) (wf : (Lit.int .i64 kind).wf = true)
    (A : Option Addr) (c : Nat) (l : List Int) (hc : l.length ≤ c) {W0 : World} (m : Kd.C (Kd.int .u8) W0 A l.length l) (g : ∀ x ∈ l, (Lit.int .u8 x).wf = true)
    (at_ : Int) (wfa : (Lit.int .i64 at_).wf = true) (mask : Int) (wfm : (Lit.int .u32 mask).wf = true) (W : World) (hW : W0 = W := by rfl) :
    Calls Try.prog 6 #[.int .i64 kind, .slice A l.length c, .int .i64 at_, .int .u32 mask] W fun e W' => e = .returned (.bool true) ∧ Below W.heap.size W W' := by
  subst hW
  have hB : Bts l := fun x hx => wf_u8 (g x hx)
  have M := Aside0.mk m
  clear m g wf wfa wfm
  by_cases h5 : l.length > 500
  · have b0 : decide (500 < l.length) = true := decide_eq_true h5
    have b1 : decide ((500 : Int) < (l.length : Int)) = true := decide_eq_true (by omega)
    clear hB h5
    go_enter Try.func6, Try.ntmps6
    go_wp2_with (first
      | (go_at_call 8; refine (alive6_calls _).mono ?_; rintro e w1 ⟨rfl, hb1⟩; have S1 := Aside0.mk hb1; clear hb1))
    go_ret
    exact ⟨rfl, S1.out⟩
  · have b0 : decide (500 < l.length) = false := decide_eq_false (by omega)
    have b1 : decide ((500 : Int) < (l.length : Int)) = false := decide_eq_false (by omega)
    have hl : (l.length : Int) ≤ 500 := by omega
    generalize hwf : writeF kind l = wr
    obtain ⟨r, er⟩ := wr
    clear h5
    rcases writeF_err hwf with rfl | ⟨rfl, her⟩
    · obtain ⟨k1, k2, k3, hr, hrl⟩ := writeF_ok hwf
      have hBr := bts_writeF hB hwf
      have hx := and_mask at_ 8191 (by decide)
      rw [show ((8191 : Nat) : Int) = 8191 from rfl] at hx
      generalize hxx : bits .and .i64 at_ 8191 = x at hx
      obtain ⟨hx0, hx1⟩ := hx
      have hr0 : 7 ≤ (r.length : Int) := by omega
      have hr1 : (r.length : Int) ≤ 507 := by omega
      have hj0 : 0 ≤ x % (8 * ((r.length : Int) - 4)) := Int.emod_nonneg _ (by omega)
      have hj1 : x % (8 * ((r.length : Int) - 4)) < 8 * ((r.length : Int) - 4) := Int.emod_lt_of_pos _ (by omega)
      generalize hjj : x % (8 * ((r.length : Int) - 4)) = j at hj0 hj1
      have htm : x.tmod (8 * ((r.length : Int) - 4)) = j := by rw [Int.tmod_eq_emod_of_nonneg hx0, hjj]
      obtain ⟨t, ht, hnear⟩ := turn_f r (by omega) hBr j hj0 (by omega) mask
      have htl : t.length = r.length := hnear.1
      have hBt : Bts t := hnear.2.1
      have hiff := fun hs => turns_read (t := t) (p := j.toNat) hB hwf hnear hs
      obtain ⟨i0, hi0, _, hsz, _⟩ := info_parts info_u8
      have hn4 : ((r.length : Int) - 4).toNat = r.length - 4 := by omega
      have hcutr := fun (A : Option Addr) (c : Nat) (hc : r.length ≤ c) => (print_drop_of (P := Try.prog) (Value.int .u8) 0 22 5 .i64 Try.underlying22 hi0 hsz A c r ((r.length : Int) - 4) (by omega) (by omega) hc)
      have hcutt := fun (A : Option Addr) (c : Nat) (hc : t.length ≤ c) => (print_drop_of (P := Try.prog) (Value.int .u8) 0 22 5 .i64 Try.underlying22 hi0 hsz A c t ((r.length : Int) - 4) (by omega) (by omega) hc)
      rw [hn4] at hcutr hcutt
      have hdr : (r.drop (r.length - 4)).length = 4 := by rw [List.length_drop]; omega
      have hdt : (t.drop (r.length - 4)).length = 4 := by rw [List.length_drop]; omega
      rw [hdr] at hcutr
      rw [hdt, htl] at hcutt
      have h40 : 0 ≤ (r.length : Int) - 4 := by omega
      have H := Aside0.mk (And.intro hwf (And.intro ht (And.intro hBt (And.intro hiff (And.intro hcutr (And.intro hcutt (And.intro hdr (And.intro hdt htl))))))))
      clear hwf ht hBt hiff hcutr hcutt hr hrl hBr hB htl hn4 hdr hdt hnear hi0 hsz
      go_enter Try.func6, Try.ntmps6
      go_wp2_with (first
        | (go_at_call 8; refine (alive6_calls _).mono ?_; rintro e w1 ⟨rfl, hb1⟩; have S1 := Aside0.mk (And.intro hb1 (Kd.C_below M.out hb1)); clear hb1 M)
        | (go_at_call 9; have _t := S1; (with_reducible refine (Write_eq _ _ _ _ r.length l r 0 _ ?s1 ?s2 ?s3 ?s4 ?s5).mono ?_); (case s1 => rfl); (case s2 => rfl); (case s3 => exact H.out.1); (case s4 => exact S1.out.2); (case s5 => exact hc); rintro e w2 ⟨A2, c2, rfl, hc2, hr2, hb2⟩; have S2 := Aside0.mk (And.intro (below_step S1.out.1 hb2) hr2); clear S1 _t hr2 hb2)
        | (go_at_call 20; have _t := S2; (with_reducible refine (Turn_eq _ _ _ r.length r t _ _ _ ?s1 ?s2 ?s3 ?s4 ?s5).mono ?_); (case s1 => rfl); (case s2 => exact H.out.2.2.2.2.2.2.2.2); (case s3 => exact H.out.2.1); (case s4 => exact S2.out.2); (case s5 => exact hc2); rintro e w3 ⟨A3, c3, rfl, hc3, hr3, hb3⟩; have S3 := Aside0.mk (And.intro (below_step S2.out.1 hb3) (And.intro (Kd.C_below S2.out.2 hb3) hr3)); clear S2 _t hr3 hb3))
      have hw4 : IntKind.i64.wrap ((r.length : Int) - 4) = (r.length : Int) - 4 := by rw [IntKind.wrap_i64]; omega
      obtain ⟨AR, hcr, hrr, _⟩ := H.out.2.2.2.2.1 A2 c2 hc2
      obtain ⟨AT, hct, hrt, _⟩ := H.out.2.2.2.2.2.1 A3 c3 hc3
      have HR := Aside0.mk (Kd.C_of_reads (h1 := fun _ => rfl) (hrr _ (Kd.reads_of_C (d := (0 : Int)) S3.out.2.1)))
      have HT := Aside0.mk (Kd.C_of_reads (h1 := fun _ => rfl) (hrt _ (Kd.reads_of_C (d := (0 : Int)) S3.out.2.2)))
      clear hrr hrt
      by_cases hs : t.drop (r.length - 4) = r.drop (r.length - 4)
      · have hdb : decide (t.drop (r.length - 4) = r.drop (r.length - 4)) = true := decide_eq_true hs
        have hiff := H.out.2.2.2.1 hs
        have htl := H.out.2.2.2.2.2.2.2.2
        generalize hrf : readF t = rt at hiff
        obtain ⟨rk, rb, rn, re⟩ := rt
        simp only at hiff
        obtain ⟨b, hb, hbc⟩ : ∃ b : Bool, decide (t = r) = b ∧ ((re = 0 ∧ rn = r.length ∧ b = true) ∨ (re = 0 ∧ rn ≠ r.length ∧ b = false) ∨ (re ≠ 0 ∧ b = false)) := by
          by_cases htr : t = r
          · obtain ⟨e1, e2⟩ := hiff.2 htr
            exact ⟨true, decide_eq_true htr, .inl ⟨e1, e2, rfl⟩⟩
          · refine ⟨false, decide_eq_false htr, .inr ?_⟩
            by_cases e1 : re = 0
            · exact .inl ⟨e1, fun e2 => htr (hiff.1 ⟨e1, e2⟩), rfl⟩
            · exact .inr ⟨e1, rfl⟩
        have HF := Lib.hid hrf
        have HD := Lib.hid (And.intro hdb hb)
        clear hs hdb hiff hrf hb
        go_quiet ((go_at_call 11; exact Calls.quiet_of (Same_dr _ _ _ _ 4 4 _ _ _ H.out.2.2.2.2.2.2.2.1 H.out.2.2.2.2.2.2.1 true HD.out.1 (Kd.C_drewN HT.out _) (Kd.C_drewN HR.out _))))
        have S4 := Aside0.mk (And.intro (pw_below_drewN S3.out.1 nq) (And.intro (Kd.C_drewN S3.out.2.1 nq) (And.intro (Kd.C_drewN S3.out.2.2 nq) htl)))
        generalize w3.drewN nq = w4 at S4
        clear HR HT S3 hcr hct htl
        rcases hbc with ⟨rfl, rfl, rfl⟩ | ⟨rfl, hne, rfl⟩ | ⟨hne, rfl⟩
        · go_wp2_with (first
            | (go_at_call 14; have _t := S4; (with_reducible refine (Read_eq _ _ r.length rb.length t rb rk _ _ _ ?s1 ?s2 HF.out ?s4 ?s5 ?s6 ?s7).mono ?_); (case s1 => exact S4.out.2.2.2); (case s2 => rfl); (case s4 => exact S4.out.2.2.1); (case s5 => exact hc3); (case s6 => exact H.out.2.2.1); (case s7 => omega); rintro e w5 ⟨A5, c5, rfl, hc5, hr5, hb5⟩; have S5 := Aside0.mk (And.intro (below_step S4.out.1 hb5) (And.intro (Kd.C_below S4.out.2.1 hb5) (And.intro (Kd.C_below S4.out.2.2.1 hb5) S4.out.2.2.2))); clear S4 _t hr5 hb5)
            | (go_at_call 11; have _t := S5; (with_reducible refine (Same_eq _ _ _ _ r.length r.length t r _ ?s1 ?s2 _ HD.out.2 ?s4 ?s5).mono ?_); (case s1 => exact S5.out.2.2.2); (case s2 => rfl); (case s4 => exact Kd.C_alloc S5.out.2.2.1 _); (case s5 => exact Kd.C_alloc S5.out.2.1 _); rintro e w7 ⟨rfl, hb7⟩; have S7 := Aside0.mk (below_step (below_alloc S5.out.1 _) hb7); clear S5 _t hb7))
          go_ret
          exact ⟨rfl, S7.out⟩
        · have b5 : (rn == (r.length : Int)) = false := by rw [beq_eq_false_iff_ne]; exact hne
          go_wp2_with (first
            | (go_at_call 14; have _t := S4; (with_reducible refine (Read_eq _ _ r.length rb.length t rb rk _ _ _ ?s1 ?s2 HF.out ?s4 ?s5 ?s6 ?s7).mono ?_); (case s1 => exact S4.out.2.2.2); (case s2 => rfl); (case s4 => exact S4.out.2.2.1); (case s5 => exact hc3); (case s6 => exact H.out.2.2.1); (case s7 => omega); rintro e w5 ⟨A5, c5, rfl, hc5, hr5, hb5⟩; have S5 := Aside0.mk (And.intro (below_step S4.out.1 hb5) (And.intro (Kd.C_below S4.out.2.1 hb5) (And.intro (Kd.C_below S4.out.2.2.1 hb5) S4.out.2.2.2))); clear S4 _t hr5 hb5)
            | (go_at_call 11; have _t := S5; (with_reducible refine (Same_eq _ _ _ _ r.length r.length t r _ ?s1 ?s2 _ HD.out.2 ?s4 ?s5).mono ?_); (case s1 => exact S5.out.2.2.2); (case s2 => rfl); (case s4 => exact Kd.C_alloc S5.out.2.2.1 _); (case s5 => exact Kd.C_alloc S5.out.2.1 _); rintro e w7 ⟨rfl, hb7⟩; have S7 := Aside0.mk (below_step (below_alloc S5.out.1 _) hb7); clear S5 _t hb7))
          go_ret
          exact ⟨rfl, S7.out⟩
        · have b5 : (re == 0) = false := by rw [beq_eq_false_iff_ne]; exact hne
          go_wp2_with (first
            | (go_at_call 14; have _t := S4; (with_reducible refine (Read_eq _ _ r.length rb.length t rb rk _ _ _ ?s1 ?s2 HF.out ?s4 ?s5 ?s6 ?s7).mono ?_); (case s1 => exact S4.out.2.2.2); (case s2 => rfl); (case s4 => exact S4.out.2.2.1); (case s5 => exact hc3); (case s6 => exact H.out.2.2.1); (case s7 => omega); rintro e w5 ⟨A5, c5, rfl, hc5, hr5, hb5⟩; have S5 := Aside0.mk (And.intro (below_step S4.out.1 hb5) (And.intro (Kd.C_below S4.out.2.1 hb5) (And.intro (Kd.C_below S4.out.2.2.1 hb5) S4.out.2.2.2))); clear S4 _t hr5 hb5)
            | (go_at_call 11; have _t := S5; (with_reducible refine (Same_eq _ _ _ _ r.length r.length t r _ ?s1 ?s2 _ HD.out.2 ?s4 ?s5).mono ?_); (case s1 => exact S5.out.2.2.2); (case s2 => rfl); (case s4 => exact Kd.C_alloc S5.out.2.2.1 _); (case s5 => exact Kd.C_alloc S5.out.2.1 _); rintro e w7 ⟨rfl, hb7⟩; have S7 := Aside0.mk (below_step (below_alloc S5.out.1 _) hb7); clear S5 _t hb7))
          go_ret
          exact ⟨rfl, S7.out⟩
      · have hdb : decide (t.drop (r.length - 4) = r.drop (r.length - 4)) = false := decide_eq_false hs
        have HD := Lib.hid hdb
        clear hs hdb
        go_quiet ((go_at_call 11; exact Calls.quiet_of (Same_dr _ _ _ _ 4 4 _ _ _ H.out.2.2.2.2.2.2.2.1 H.out.2.2.2.2.2.2.1 false HD.out (Kd.C_drewN HT.out _) (Kd.C_drewN HR.out _))))
        go_wp2
        go_ret
        exact ⟨rfl, pw_below_drewN S3.out.1 _⟩
    · have H := Aside0.mk hwf
      clear hwf
      have hne : (er == 0) = false := by rcases her with rfl | rfl <;> rfl
      have hne2 : er ≠ 0 := by rcases her with rfl | rfl <;> decide
      clear her
      go_enter Try.func6, Try.ntmps6
      go_wp2_with (first
        | (go_at_call 8; refine (alive6_calls _).mono ?_; rintro e w1 ⟨rfl, hb1⟩; have S1 := Aside0.mk (And.intro hb1 (Kd.C_below M.out hb1)); clear hb1 M)
        | (go_at_call 9; have _t := S1; (with_reducible refine (Write_eq _ _ _ _ 0 l [] er _ ?s1 ?s2 ?s3 ?s4 ?s5).mono ?_); (case s1 => rfl); (case s2 => rfl); (case s3 => exact H.out); (case s4 => exact S1.out.2); (case s5 => exact hc); rintro e w2 ⟨A2, c2, rfl, hc2, hr2, hb2⟩; have S2 := Aside0.mk (below_step S1.out.1 hb2); clear S1 _t hr2 hb2))
      go_ret
      exact ⟨rfl, S2.out⟩
end Go.Proofs.Ytagjnjdaookdgaa.MFrameTurns
