/- FrameBack: whatever is given, the statement's function answers true. No condition. -/
import Derived.Test.YtagjnjdaookdgaaFrRef
import Derived.Test.YtagjnjdaookdgaaFrBack
import Derived.Test.YtagjnjdaookdgaaRow
namespace Go.Proofs.Ytagjnjdaookdgaa.MFrameBack
open Go.RowKit Go.Proofs.YtagjnjdaookdgaaW.PrintWords Go.Proofs.YtagjnjdaookdgaaW.PrintLast Go.Proofs.YtagjnjdaookdgaaW.PrintMore Go.Proofs.Ytagjnjdaookdgaa.H Go.Proofs.Ytagjnjdaookdgaa.CrcM
set_option linter.unusedVariables false
set_option linter.unusedSimpArgs false

theorem opens : Opens Try.prog 22 (Kd.slice 5 (Kd.int .u8)) (fun l => ∀ x ∈ l, (Lit.int .u8 x).wf = true) := opens_slice 0 Try.underlying22 (by kernel_rfl) (opens_int Try.underlying5)

theorem C_take_n {d : Kd Int} {w : World} {A : Option Addr} {l : List Int} {m n : Nat} (h : d.C w A l.length l) (hn : (l.take m).length = n) (hm : m ≤ l.length) : d.C w A n (l.take m) := by
  subst hn; exact Kd.C_take h hm
set_option maxHeartbeats 1600000 in
theorem main (kind : Int) (wf : (Lit.int .i64 kind).wf = true)
    (A : Option Addr) (c : Nat) (l : List Int) (hc : l.length ≤ c) {W0 : World} (m : Kd.C (Kd.int .u8) W0 A l.length l) (g : ∀ x ∈ l, (Lit.int .u8 x).wf = true)
    (A1 : Option Addr) (c1 : Nat) (l1 : List Int) (hc1 : l1.length ≤ c1) (m1 : Kd.C (Kd.int .u8) W0 A1 l1.length l1) (g1 : ∀ x ∈ l1, (Lit.int .u8 x).wf = true)
    (cut : Int) (wfc : (Lit.int .i64 cut).wf = true) (W : World) (hW : W0 = W := by rfl) :
    Calls Try.prog 5 #[.int .i64 kind, .slice A l.length c, .slice A1 l1.length c1, .int .i64 cut] W fun e W' => e = .returned (.bool true) ∧ Below W.heap.size W W' := by
  subst hW
  have hB : Bts l := fun x hx => wf_u8 (g x hx)
  have hB1 : Bts l1 := fun x hx => wf_u8 (g1 x hx)
  have M := Aside0.mk m
  have M1 := Aside0.mk m1
  clear m g m1 g1 wf
  by_cases h5 : l.length > 5000 ∨ l1.length > 100
  · by_cases h6 : l.length > 5000
    · have b0 : decide (5000 < l.length) = true := decide_eq_true h6
      have b1 : decide ((5000 : Int) < (l.length : Int)) = true := decide_eq_true (by omega)
      clear hB h5
      go_enter Try.func5, Try.ntmps5
      go_wp2_with (first
        | (go_at_call 8; refine (alive6_calls _).mono ?_; rintro e w1 ⟨rfl, hb1⟩; have S1 := Aside0.mk hb1; clear hb1))
      go_ret
      exact ⟨rfl, S1.out⟩
    · have h7 : l1.length > 100 := by omega
      have b0 : decide (5000 < l.length) = false := decide_eq_false h6
      have b1 : decide ((5000 : Int) < (l.length : Int)) = false := decide_eq_false (by omega)
      have b2 : decide (100 < l1.length) = true := decide_eq_true h7
      have b3 : decide ((100 : Int) < (l1.length : Int)) = true := decide_eq_true (by omega)
      clear hB h5
      go_enter Try.func5, Try.ntmps5
      go_wp2_with (first
        | (go_at_call 8; refine (alive6_calls _).mono ?_; rintro e w1 ⟨rfl, hb1⟩; have S1 := Aside0.mk hb1; clear hb1))
      go_ret
      exact ⟨rfl, S1.out⟩
  · have b0 : decide (5000 < l.length) = false := decide_eq_false (by omega)
    have b1 : decide ((5000 : Int) < (l.length : Int)) = false := decide_eq_false (by omega)
    have b2 : decide (100 < l1.length) = false := decide_eq_false (by omega)
    have b3 : decide ((100 : Int) < (l1.length : Int)) = false := decide_eq_false (by omega)
    have hl : (l.length : Int) ≤ 5000 := by omega
    have hl1 : l1.length ≤ 100 := by omega
    generalize hwf : writeF kind l = wr
    obtain ⟨r, er⟩ := wr
    clear h5
    rcases writeF_err hwf with rfl | ⟨rfl, her⟩
    · obtain ⟨k1, k2, k3, hr, hrl⟩ := writeF_ok hwf
      have hBr := bts_writeF hB hwf
      have hbk := back (more := l1) hwf
      have hbc := back_cut hwf
      have hx := and_mask cut 8191 (by decide)
      rw [show ((8191 : Nat) : Int) = 8191 from rfl] at hx
      generalize hxx : bits .and .i64 cut 8191 = x at hx
      obtain ⟨hx0, hx1⟩ := hx
      have hr0 : 7 ≤ (r.length : Int) := by omega
      have hr1 : (r.length : Int) ≤ 5000 := by omega
      have hj : [r, l1].flatten = r ++ l1 := by simp
      have hjl : (r ++ l1).length ≤ 1000000 := by rw [List.length_append]; omega
      have hj0 : 0 ≤ x % (r.length : Int) := Int.emod_nonneg _ (by omega)
      have hj1 : x % (r.length : Int) < (r.length : Int) := Int.emod_lt_of_pos _ (by omega)
      generalize hjj : x % (r.length : Int) = j at hj0 hj1
      have htm : x.tmod (r.length : Int) = j := by rw [Int.tmod_eq_emod_of_nonneg hx0, hjj]
      have hbj := hbc j.toNat (by omega)
      clear hbc
      have hBj : Bts (r ++ l1) := bts_append hBr hB1
      have hwt : weightF (l.length : Int) = (r.length : Int) := by unfold weightF; rw [if_neg (by omega)]; omega
      rw [show (l.length : Int) + 7 = (r.length : Int) by omega] at hbk
      obtain ⟨i0, hi0, _, hsz, _⟩ := info_parts info_u8
      have hjo := fun (A : Option Addr) (c : Nat) (w : World) (h : Kd.C (Kd.slice 5 (Kd.int .u8)) w A 2 [r, l1]) => Join_calls A c [r, l1] w h (by rw [hj]; omega)
      rw [hj] at hjo
      have hcut := fun (A : Option Addr) (c : Nat) (hc : r.length ≤ c) => (print_take_of (P := Try.prog) (Value.int .u8) 0 22 5 .i64 Try.underlying22 hi0 hsz A c r j (by omega) (by omega) hc).1
      have htl : (r.take j.toNat).length = j.toNat := by rw [List.length_take]; omega
      generalize hrj : r ++ l1 = rj at hj hjl hbk hBj hjo
      have H := Aside0.mk (And.intro hwf (And.intro hbk (And.intro hbj (And.intro hBj (And.intro (bts_take hBr j.toNat) (And.intro hjo (And.intro hcut (And.intro htl hwt))))))))
      clear hwf hbk hbj hBj hjo hcut htl hwt hr hrl hBr hB hB1 hj hrj
      go_enter Try.func5, Try.ntmps5
      go_wp2_with (first
        | (go_at_call 8; refine (alive6_calls _).mono ?_; rintro e w1 ⟨rfl, hb1⟩; have S1 := Aside0.mk (And.intro hb1 (And.intro (Kd.C_below M.out hb1) (Kd.C_below M1.out hb1))); clear hb1 M M1)
        | (go_at_call 9; have _t := S1; (with_reducible refine (Write_eq _ _ _ _ r.length l r 0 _ ?s1 ?s2 ?s3 ?s4 ?s5).mono ?_); (case s1 => rfl); (case s2 => rfl); (case s3 => exact H.out.1); (case s4 => exact S1.out.2.1); (case s5 => exact hc); rintro e w2 ⟨A2, c2, rfl, hc2, hr2, hb2⟩; have hcut := H.out.2.2.2.2.2.2.1 A2 c2 hc2; rw [H.out.2.2.2.2.2.2.2.1] at hcut; have S2 := Aside0.mk (And.intro (below_step S1.out.1 hb2) (And.intro (Kd.C_below S1.out.2.1 hb2) (And.intro (Kd.C_below S1.out.2.2 hb2) hr2))); clear S1 _t hr2 hb2)
        | (go_at_call 19; have _t := S2; refine (H.out.2.2.2.2.2.1 _ _ _ ?s1).mono ?_; (case s1 => exact C_twog w2.heap.size 22 _ rfl hc2 S2.out.2.2.2 hc1 S2.out.2.2.1); rintro e w3 ⟨v3, rfl, ho3, hb3⟩; obtain ⟨A3, c3, e3, hc3, hr3⟩ := R_C ho3; subst e3; have hq := below_step (below_alloc (Below.refl _ _) _) hb3; have S3 := Aside0.mk (And.intro (below_step S2.out.1 hq) (And.intro (Kd.C_below S2.out.2.1 hq) (And.intro (Kd.C_below S2.out.2.2.2 hq) hr3))); clear S2 _t ho3 hb3 hr3 hq)
        | (go_at_call 14; have _t := S3; (with_reducible refine (Read_eq _ _ rj.length l.length rj l kind r.length 0 _ ?s1 ?s2 ?s3 ?s4 ?s5 ?s6 ?s7).mono ?_); (case s1 => rfl); (case s2 => rfl); (case s3 => exact H.out.2.1); (case s4 => exact S3.out.2.2.2); (case s5 => exact hc3); (case s6 => exact H.out.2.2.2.1); (case s7 => exact hjl); rintro e w4 ⟨A4, c4, rfl, hc4, hr4, hb4⟩; have S4 := Aside0.mk (And.intro (below_step S3.out.1 hb4) (And.intro (Kd.C_below S3.out.2.1 hb4) (And.intro (Kd.C_below S3.out.2.2.1 hb4) hr4))); clear S3 _t hr4 hb4)
        | (go_at_call 14; have _t := S4; (with_reducible refine (Read_eq _ _ j.toNat 0 (r.take j.toNat) [] 0 0 21 _ ?s1 ?s2 ?s3 ?s4 ?s5 ?s6 ?s7).mono ?_); (case s1 => exact H.out.2.2.2.2.2.2.2.1); (case s2 => rfl); (case s3 => exact H.out.2.2.1); (case s4 => exact C_take_n (Kd.C_alloc S4.out.2.2.1 _) H.out.2.2.2.2.2.2.2.1 (by omega)); (case s5 => omega); (case s6 => exact H.out.2.2.2.2.1); (case s7 => omega); rintro e w5 ⟨A5, c5, rfl, hc5, hr5, hb5⟩; have hq := below_step (below_alloc (Below.refl _ _) _) hb5; have hbk := (hb5.block w4.heap.size (by simp)).trans (blk_new w4 (.cells #[.int .i64 kind, .slice A4 l.length c4] 28)); have hs := blk_lt hbk; have d0 := blk_cell hbk 0; have d1 := blk_cell hbk 1; simp at d0 d1; have S5 := Aside0.mk (And.intro (below_step S4.out.1 hq) (And.intro (Kd.C_below S4.out.2.1 hq) (Kd.C_below S4.out.2.2.2 hq))); clear S4 _t hr5 hb5 hq hbk)
        | (go_at_call 12; (with_reducible refine (Weight_eq _ _ _ ?s1 H.out.2.2.2.2.2.2.2.2).mono ?_); (case s1 => omega); rintro e w6 ⟨rfl, rfl⟩)
        | (go_at_call 11; have _t := S5; (with_reducible refine (Same_eq _ _ _ _ l.length l.length l l _ ?s1 ?s2 true ?s3 ?s4 ?s5).mono ?_); (case s1 => rfl); (case s2 => rfl); (case s3 => exact decide_eq_true rfl); (case s4 => exact Kd.C_alloc S5.out.2.2 _); (case s5 => exact Kd.C_alloc S5.out.2.1 _); rintro e w7 ⟨rfl, hb7⟩; have S7 := Aside0.mk (below_step (below_alloc S5.out.1 _) hb7); clear S5 _t hb7))
      go_ret
      exact ⟨rfl, S7.out⟩
    · have H := Aside0.mk hwf
      clear hwf
      rcases her with rfl | rfl
      · go_enter Try.func5, Try.ntmps5
        go_wp2_with (first
          | (go_at_call 8; refine (alive6_calls _).mono ?_; rintro e w1 ⟨rfl, hb1⟩; have S1 := Aside0.mk (And.intro hb1 (And.intro (Kd.C_below M.out hb1) (Kd.C_below M1.out hb1))); clear hb1 M M1)
          | (go_at_call 9; have _t := S1; (with_reducible refine (Write_eq _ _ _ _ 0 l [] 1 _ ?s1 ?s2 ?s3 ?s4 ?s5).mono ?_); (case s1 => rfl); (case s2 => rfl); (case s3 => exact H.out); (case s4 => exact S1.out.2.1); (case s5 => exact hc); rintro e w2 ⟨A2, c2, rfl, hc2, hr2, hb2⟩; have S2 := Aside0.mk (below_step S1.out.1 hb2); clear S1 _t hr2 hb2))
        go_ret
        exact ⟨rfl, S2.out⟩
      · go_enter Try.func5, Try.ntmps5
        go_wp2_with (first
          | (go_at_call 8; refine (alive6_calls _).mono ?_; rintro e w1 ⟨rfl, hb1⟩; have S1 := Aside0.mk (And.intro hb1 (And.intro (Kd.C_below M.out hb1) (Kd.C_below M1.out hb1))); clear hb1 M M1)
          | (go_at_call 9; have _t := S1; (with_reducible refine (Write_eq _ _ _ _ 0 l [] 2 _ ?s1 ?s2 ?s3 ?s4 ?s5).mono ?_); (case s1 => rfl); (case s2 => rfl); (case s3 => exact H.out); (case s4 => exact S1.out.2.1); (case s5 => exact hc); rintro e w2 ⟨A2, c2, rfl, hc2, hr2, hb2⟩; have S2 := Aside0.mk (below_step S1.out.1 hb2); clear S1 _t hr2 hb2))
        go_ret
        exact ⟨rfl, S2.out⟩
end Go.Proofs.Ytagjnjdaookdgaa.MFrameBack
