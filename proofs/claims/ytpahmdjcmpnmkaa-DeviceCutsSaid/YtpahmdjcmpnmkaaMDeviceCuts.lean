/- DeviceCuts: whatever the bytes and the numbers, the statement's function answers true. No condition. -/
import Derived.Test.YtpahmdjcmpnmkaaDevAl
import Derived.Test.YtpahmdjcmpnmkaaRow
namespace Go.Proofs.Ytpahmdjcmpnmkaa.MDeviceCuts
open Go.RowKit Go.Proofs.YtpahmdjcmpnmkaaW.PrintWords Go.Proofs.YtpahmdjcmpnmkaaW.PrintLast Go.Proofs.YtpahmdjcmpnmkaaW.PrintMore Go.Proofs.Ytpahmdjcmpnmkaa.H
set_option linter.unusedVariables false
set_option linter.unusedSimpArgs false
attribute [local go_sem] max2_int min2_int

theorem opens : Opens Try.prog 27 (Kd.slice 5 (Kd.int .u8)) (fun l => ∀ x ∈ l, (Lit.int .u8 x).wf = true) := opens_slice 0 Try.underlying27 (by kernel_rfl) (opens_int Try.underlying5)
theorem and_mask (a : Int) (m : Nat) (hm : m < 9223372036854775808) : 0 ≤ bits .and .i64 a (m : Int) ∧ bits .and .i64 a (m : Int) ≤ m := by
  have e : bits .and .i64 a (m : Int) = IntKind.i64.wrap (((BitVec.ofInt 64 a) &&& (BitVec.ofInt 64 (m : Int))).toNat : Int) := rfl
  have hle : ((BitVec.ofInt 64 a) &&& (BitVec.ofInt 64 (m : Int))).toNat ≤ m := by
    rw [BitVec.ofInt_natCast, BitVec.toNat_and, BitVec.toNat_ofNat, Nat.mod_eq_of_lt (by omega : m < 2 ^ 64)]
    exact Nat.and_le_right
  rw [e, IntKind.wrap_i64]
  generalize ((BitVec.ofInt 64 a) &&& (BitVec.ofInt 64 (m : Int))).toNat = z at hle ⊢
  omega
/-- What an append that may be cut comes to. -/
theorem cuts1 (a b : List Int) (x m : Int) (hx : 0 ≤ x) (ha : a.length ≤ 500) (hb : b.length ≤ 500) (hm : (if (b.length : Int) < x then (b.length : Int) else x) = m) :
    ∃ L D, appendD ⟨a, b, 1000, x, false, 0⟩ 0 b = (⟨a ++ b.take m.toNat, b, 1000, L, D, m⟩, if x < (b.length : Int) then 30 else 0) ∧ 0 ≤ m ∧ m ≤ b.length ∧ -1 ≤ L ∧ L ≤ x := by
  unfold appendD
  rw [if_neg (by simp), if_neg (by omega), if_neg (by simp only [Dv.row, if_true]; omega)]
  unfold turnD Dv.set Dv.row
  simp only [if_true, if_pos hx, Bool.false_or]
  by_cases h : x < (b.length : Int)
  · have e : turnN ⟨a, b, 1000, x, false, 0⟩ b.length = x.toNat := by unfold turnN; rw [if_pos ⟨hx, h⟩]
    rw [if_neg (by omega)] at hm
    subst hm
    rw [e, show decide (0 ≤ x ∧ x < (b.length : Int)) = true from decide_eq_true ⟨hx, h⟩, if_pos rfl, if_pos h]
    refine ⟨x - x.toNat, true, ?_, by omega, by omega, by omega, by omega⟩
    congr 2; omega
  · have e : turnN ⟨a, b, 1000, x, false, 0⟩ b.length = b.length := by unfold turnN; rw [if_neg (by simp only; omega)]
    have hmb : m = b.length := by
      by_cases h2 : (b.length : Int) < x
      · rw [if_pos h2] at hm; exact hm.symm
      · rw [if_neg h2] at hm; omega
    subst hmb
    rw [e, show decide (0 ≤ x ∧ x < (b.length : Int)) = false from decide_eq_false (fun hh => h hh.2), if_neg (by simp), if_neg h]
    refine ⟨x - b.length, false, ?_, by omega, by omega, by omega, by omega⟩
    simp
/-- What a truncation that may be cut comes to. -/
theorem cuts2 (w b : List Int) (x j p t : Int) (hx : 0 ≤ x) (hj0 : 0 ≤ j) (hj1 : j ≤ w.length) (hp : (if j < (w.length : Int) - x then (w.length : Int) - x else j) = p) :
    ∃ L D T, truncD ⟨w, b, 1000, x, false, t⟩ 0 j = (⟨w.take p.toNat, b, 1000, L, D, T⟩, if x < (w.length : Int) - j then 30 else 0) ∧ 0 ≤ p ∧ p ≤ w.length := by
  unfold truncD
  rw [if_neg (by simp), if_neg (fun h => by rcases h with h | h | h; exact h (.inl rfl); omega; exact absurd h (by show ¬ j > (w.length : Int); omega))]
  unfold turnD Dv.set Dv.row
  simp only [if_true, if_pos hx, Bool.false_or]
  generalize hk : w.length - j.toNat = k
  by_cases h : x < (w.length : Int) - j
  · have e : turnN ⟨w, b, 1000, x, false, t⟩ k = x.toNat := by unfold turnN; rw [if_pos ⟨hx, by simp only; omega⟩]
    rw [if_pos (by omega)] at hp
    subst hp
    rw [e, show decide (0 ≤ x ∧ x < (k : Int)) = true from decide_eq_true ⟨hx, by omega⟩, if_pos rfl, if_pos h]
    refine ⟨x - x.toNat, true, t + x.toNat, ?_, by omega, by omega⟩
    rw [show ((w.length : Int) - x).toNat = w.length - x.toNat by omega]
  · have e : turnN ⟨w, b, 1000, x, false, t⟩ k = k := by unfold turnN; rw [if_neg (by simp only; omega)]
    have hpj : p = j := by
      by_cases h2 : j < (w.length : Int) - x
      · rw [if_pos h2] at hp; omega
      · rw [if_neg h2] at hp; exact hp.symm
    subst hpj
    rw [e, show decide (0 ≤ x ∧ x < (k : Int)) = false from decide_eq_false (by omega), if_neg (by simp), if_neg h]
    refine ⟨x - k, false, t + k, ?_, by omega, by omega⟩
    rw [show w.length - k = p.toNat by omega]
theorem Same_eq (A0 A1 : Option Addr) (c0 c1 n0 n1 : Nat) (l0 l1 : List Int) (w : World) (h0 : l0.length = n0) (h1 : l1.length = n1) (r : Bool) (hr : decide (l0 = l1) = r) (hr0 : Kd.C (Kd.int .u8) w A0 n0 l0) (hr1 : Kd.C (Kd.int .u8) w A1 n1 l1) :
    Calls Try.prog 16 #[.slice A0 n0 c0, .slice A1 n1 c1] w fun e w' => e = .returned (.bool r) ∧ Below w.heap.size w w' := by
  subst h0; subst h1; subst hr
  refine (Same_calls A0 c0 l0 A1 c1 l1 w hr0 hr1).mono ?_
  rintro e w' ⟨rfl, h⟩
  exact ⟨rfl, h.below⟩
theorem _root_.Go.Proofs.Ytpahmdjcmpnmkaa.H.Rd.keep {W W' : World} {A : Option Addr} {l : List Int} {g : Nat} {d : Dv} (h : Rd W A l) (hd : DevAt W g d) (ho : Oth g W W') : Rd W' A l := by
  obtain ⟨A0, c0, A1, c1, hB, _⟩ := hd
  exact h.oth hB (by decide) ho
theorem cap1000 : (0 : Int) ≤ 1000 ∧ (1000 : Int) ≤ 1048576 := by decide
set_option maxHeartbeats 3200000 in
theorem main (A : Option Addr) (c : Nat) (l0 : List Int) (hc : l0.length ≤ c) {W0 : World} (m0 : Kd.C (Kd.int .u8) W0 A l0.length l0) (g0 : ∀ x ∈ l0, (Lit.int .u8 x).wf = true)
    (A1 : Option Addr) (c1 : Nat) (l1 : List Int) (hc1 : l1.length ≤ c1) (m1 : Kd.C (Kd.int .u8) W0 A1 l1.length l1) (g1 : ∀ x ∈ l1, (Lit.int .u8 x).wf = true)
    (n : Int) (wfn : (Lit.int .i64 n).wf = true) (cut : Int) (wf : (Lit.int .i64 cut).wf = true) (W : World) (hW : W0 = W := by rfl) :
    Calls Try.prog 4 #[.slice A l0.length c, .slice A1 l1.length c1, .int .i64 n, .int .i64 cut] W fun e W' => e = .returned (.bool true) ∧ Below W.heap.size W W' := by
  subst hW
  have M := Aside0.mk (And.intro m0 m1)
  clear m0 m1 g0 g1 wf wfn
  by_cases h5 : l0.length > 500 ∨ l1.length > 500
  · by_cases h6 : l0.length > 500
    · have b0 : decide (500 < l0.length) = true := decide_eq_true h6
      have b1 : decide ((500 : Int) < (l0.length : Int)) = true := decide_eq_true (by omega)
      clear h5 h6
      go_enter Try.func4, Try.ntmps4
      go_wp2_with (first
        | (go_at_call 6; refine (alive4_calls _).mono ?_; rintro e w1 ⟨rfl, hb1⟩; have S1 := Aside0.mk hb1; clear hb1))
      go_ret
      exact ⟨rfl, S1.out⟩
    · have h7 : l1.length > 500 := by omega
      have b0 : decide (500 < l0.length) = false := decide_eq_false h6
      have b1 : decide ((500 : Int) < (l0.length : Int)) = false := decide_eq_false (by omega)
      have b2 : decide (500 < l1.length) = true := decide_eq_true h7
      have b3 : decide ((500 : Int) < (l1.length : Int)) = true := decide_eq_true (by omega)
      clear h5 h6 h7
      go_enter Try.func4, Try.ntmps4
      go_wp2_with (first
        | (go_at_call 6; refine (alive4_calls _).mono ?_; rintro e w1 ⟨rfl, hb1⟩; have S1 := Aside0.mk hb1; clear hb1))
      go_ret
      exact ⟨rfl, S1.out⟩
  · have b0 : decide (500 < l0.length) = false := decide_eq_false (by omega)
    have b1 : decide ((500 : Int) < (l0.length : Int)) = false := decide_eq_false (by omega)
    have b2 : decide (500 < l1.length) = false := decide_eq_false (by omega)
    have b3 : decide ((500 : Int) < (l1.length : Int)) = false := decide_eq_false (by omega)
    have hl0 : l0.length ≤ 500 := by omega
    have hl1 : l1.length ≤ 500 := by omega
    have hx := and_mask cut 1023 (by decide)
    rw [show ((1023 : Nat) : Int) = 1023 from rfl] at hx
    generalize hxx : bits .and .i64 cut 1023 = x at hx
    obtain ⟨hx0, hx1⟩ := hx
    have hy := and_mask n 1023 (by decide)
    rw [show ((1023 : Nat) : Int) = 1023 from rfl] at hy
    generalize hyy : bits .and .i64 n 1023 = y at hy
    obtain ⟨hy0, hy1⟩ := hy
    clear h5
    obtain ⟨m, hm⟩ : ∃ m, (if (l1.length : Int) < x then (l1.length : Int) else x) = m := ⟨_, rfl⟩
    obtain ⟨L, D, ha1, hm0, hm1, hL0, hL1⟩ := cuts1 l0 l1 x m hx0 hl0 hl1 hm
    generalize he1 : (if x < (l1.length : Int) then (30 : Int) else 0) = e1 at ha1
    obtain ⟨q1, hq1, hq1'⟩ : ∃ q, decide (x < (l1.length : Int)) = q ∧ (e1 == 30) = q := by
      by_cases h : x < (l1.length : Int)
      · exact ⟨true, decide_eq_true h, by rw [← he1, if_pos h]; rfl⟩
      · exact ⟨false, decide_eq_false h, by rw [← he1, if_neg h]; rfl⟩
    have hwl : (l0 ++ l1.take m.toNat).length = l0.length + m.toNat := by rw [List.length_append, List.length_take]; omega
    generalize hwt : l0 ++ l1.take m.toNat = want at ha1 hwl
    have hwl2 : (want.length : Int) ≤ 1000 := by omega
    have hj0 : 0 ≤ y % ((want.length : Int) + 1) := Int.emod_nonneg _ (by omega)
    have hj1 : y % ((want.length : Int) + 1) < (want.length : Int) + 1 := Int.emod_lt_of_pos _ (by omega)
    generalize hjj : y % ((want.length : Int) + 1) = j at hj0 hj1
    have htm : y.tmod ((want.length : Int) + 1) = j := by rw [Int.tmod_eq_emod_of_nonneg hy0, hjj]
    obtain ⟨p, hp⟩ : ∃ p, (if j < (want.length : Int) - x then (want.length : Int) - x else j) = p := ⟨_, rfl⟩
    obtain ⟨L2, D2, T2, ha2, hp0, hp1⟩ := cuts2 want l1 x j p m hx0 hj0 (by omega) hp
    generalize he2 : (if x < (want.length : Int) - j then (30 : Int) else 0) = e2 at ha2
    obtain ⟨q2, hq2, hq2'⟩ : ∃ q, decide (x < (want.length : Int) - j) = q ∧ (e2 == 30) = q := by
      by_cases h : x < (want.length : Int) - j
      · exact ⟨true, decide_eq_true h, by rw [← he2, if_pos h]; rfl⟩
      · exact ⟨false, decide_eq_false h, by rw [← he2, if_neg h]; rfl⟩
    obtain ⟨i0, hi0, _, hsz, _⟩ := info_parts info_u8
    have hcut1 := (print_take_of (P := Try.prog) (Value.int .u8) 0 27 5 .i64 Try.underlying27 hi0 hsz A1 c1 l1 m hm0 hm1 hc1).1
    have hcut2 := fun (A : Option Addr) (c : Nat) (hc : want.length ≤ c) => (print_take_of (P := Try.prog) (Value.int .u8) 0 27 5 .i64 Try.underlying27 hi0 hsz A c want p hp0 hp1 hc).1
    have ht1 : (l1.take m.toNat).length = m.toNat := by rw [List.length_take]; omega
    rw [ht1] at hcut1
    generalize hlf : want.take p.toNat = left at ha2 hcut2
    have hfl : left.length ≤ 1000 := by rw [← hlf, List.length_take]; omega
    have hC2 : ∀ W A, Kd.C (Kd.int .u8) W A want.length want → Kd.C (Kd.int .u8) W A left.length left := fun W A h => by rw [← hlf]; exact Kd.C_take h (by omega)
    have H := Aside0.mk (And.intro ha1 (And.intro ha2 (And.intro hwt (And.intro ht1 (And.intro hcut2 hC2)))))
    clear ha1 ha2 hwt hcut2 hC2 hlf he1 he2 hi0 hsz hjj hwl ht1
    go_enter Try.func4, Try.ntmps4
    go_wp2_with (first
      | (go_at_call 6; refine (alive4_calls _).mono ?_; rintro e w1 ⟨rfl, hb1⟩; have S1 := Aside0.mk hb1; clear hb1)
      | (go_at_call 8; have _t := S1; refine (New_calls _ _).mono ?_; rintro e w2 ⟨rfl, hd2, hb2⟩; have hg2 : W0.heap.size ≤ w1.heap.size := S1.out.size; have S2 := Aside0.mk (And.intro (below_step S1.out hb2) (show DevAt w2 w1.heap.size ⟨[], [], 1000, -1, false, 0⟩ from hd2)); clear S1 _t hb2 hd2)
      | (go_at_call 12; have _t := S2; (with_reducible refine (Load_eq _ ⟨[], [], 1000, -1, false, 0⟩ ⟨l0, [], 1000, -1, false, 0⟩ 0 _ _ l0.length l0 _ ?s1 ?s2 ?s0 ?s3 ?s4 ?s5 ?s6).mono ?_); (case s1 => rfl); (case s2 => show (⟨l0.take 1000, [], 1000, -1, false, 0⟩ : Dv) = _; rw [List.take_of_length_le (by omega)]); (case s0 => exact S2.out.2); (case s3 => exact Kd.C_below M.out.1 S2.out.1); (case s4 => exact hc); (case s5 => exact cap1000); (case s6 => omega); rintro e w3 ⟨rfl, hd3, ho3⟩; have S3 := Aside0.mk (And.intro (ho3.below S2.out.1 hg2) hd3); clear S2 _t hd3 ho3)
      | (go_at_call 12; have _t := S3; (with_reducible refine (Load_eq _ ⟨l0, [], 1000, -1, false, 0⟩ ⟨l0, l1, 1000, -1, false, 0⟩ 1 _ _ l1.length l1 _ ?s1 ?s2 ?s0 ?s3 ?s4 ?s5 ?s6).mono ?_); (case s1 => rfl); (case s2 => show (⟨l0, l1.take 1000, 1000, -1, false, 0⟩ : Dv) = _; rw [List.take_of_length_le (by omega)]); (case s0 => exact S3.out.2); (case s3 => exact Kd.C_below M.out.2 S3.out.1); (case s4 => exact hc1); (case s5 => exact cap1000); (case s6 => omega); rintro e w4 ⟨rfl, hd4, ho4⟩; have S4 := Aside0.mk (And.intro (ho4.below S3.out.1 hg2) hd4); clear S3 _t hd4 ho4)
      | (go_at_call 13; have _t := S4; (with_reducible refine (Cut_eq _ ⟨l0, l1, 1000, -1, false, 0⟩ ⟨l0, l1, 1000, x, false, 0⟩ _ _ ?s1 ?s0).mono ?_); (case s1 => unfold cutD; rw [if_neg (by omega)]); (case s0 => exact S4.out.2); rintro e w5 ⟨rfl, hd5, ho5⟩; have S5 := Aside0.mk (And.intro (ho5.below S4.out.1 hg2) hd5); clear S4 _t hd5 ho5)
      | (go_at_call 14; have _t := S5; (with_reducible refine (Append_eq _ ⟨l0, l1, 1000, x, false, 0⟩ ⟨want, l1, 1000, L, D, m⟩ _ _ _ l1.length l1 e1 _ ?s1 ?s2 ?s0 ?s3 ?s4 ?s5 ?s6).mono ?_); (case s1 => rfl); (case s2 => exact H.out.1); (case s0 => exact S5.out.2); (case s3 => exact C_in M.out.2 S5.out.1 hg2); (case s4 => exact hc1); (case s5 => exact ⟨by simp only; omega, by simp only; omega, cap1000.1, cap1000.2, by simp only; omega, by simp only; omega, by simp only; omega, by simp only; omega⟩); (case s6 => omega); rintro e w6 ⟨rfl, hd6, ho6⟩; have S6 := Aside0.mk (And.intro (ho6.below S5.out.1 hg2) hd6); clear S5 _t hd6 ho6))
    go_region_held3 (fun w' => True) (trivial)
      (first
        | (go_at_call 15; refine (Copy_calls _ _ l0 _ ?sd (by omega)).mono ?_; (case sd => repeat (first | exact Kd.C_below M.out.1 S6.out.1 | (with_reducible refine Kd.C_drewN ?_ _) | (with_reducible refine Kd.C_drew ?_))); rintro e w7 ⟨v7, rfl, ho7, hb7'⟩; have hb7 : Below w6.heap.size w6 w7 := ⟨hb7'.os, hb7'.tape, hb7'.output, hb7'.size, hb7'.block⟩; obtain ⟨A7, c7, e7⟩ := Kd.R_slice ho7; subst e7; have hs7 := hb7.size; have S7 := Aside0.mk (And.intro hb7 (And.intro trivial ho7)); clear ho7 hb7 hb7')
        | (refine Kd.R_append_rows_step (Kd.int .u8) (w0 := w7) w6.heap.size (by rfl) (.tmp 40) (.tmp 46) 27 5 (.int .u8 0) 1 rfl Try.underlying27 info_u8 rfl (by decide) (by omega) (.slice A7 l0.length c7) l0 (l1.take m.toNat) A1 m.toNat c1 (fun _ => True) (fun _ => False) (by rfl) (by rfl) S7.out.2.2 (C_take_n (Kd.C_below M.out.2 (below_step S6.out.1 S7.out.1)) H.out.2.2.2.1 (by omega)) (fun _ _ h => h) (fun _ h => h.elim) (fun _ _ => trivial) (Below.refl _ _) hs7 (by omega) ?_; intro v8 w8 ho8 hb8 hg8 hat8; rw [H.out.2.2.1] at ho8; obtain ⟨A8, c8, e8, hc8, hr8⟩ := Rd.of_R ho8; subst e8; have hx8 : Below w6.heap.size w6 w8 := S7.out.1.trans hb8; have S8 := Aside0.mk (And.intro (below_step S6.out.1 hx8) (And.intro (S6.out.2.below hx8) hr8)); clear S7 ho8 hb8 hg8 hat8 hr8 hx8 hs7))
    all_goals
      have hzz := trivial
      clear S6
      go_wp2_with (first
        | (go_at_call 17; have _t := S8; (with_reducible refine (Bytes_eq _ ⟨want, l1, 1000, L, D, m⟩ 0 want want.length _ ?s1 ?s2 ?s0 ?s3 ?s4).mono ?_); (case s1 => rfl); (case s2 => rfl); (case s0 => exact S8.out.2.1); (case s3 => simp only; omega); (case s4 => simp only; omega); rintro e w9 ⟨A9, c9, rfl, hc9, hr9, hb9⟩; have S9 := Aside0.mk (And.intro (below_step S8.out.1 hb9) (And.intro (S8.out.2.1.below hb9) (And.intro (S8.out.2.2.below hb9) hr9))); clear S8 _t hr9 hb9)
        | (go_at_call 16; have _t := S9; (with_reducible refine (Same_eq _ _ _ _ want.length want.length want want _ ?s1 ?s2 true ?s3 ?s4 ?s5).mono ?_); (case s1 => rfl); (case s2 => rfl); (case s3 => exact decide_eq_true rfl); (case s4 => exact S9.out.2.2.2.1); (case s5 => exact S9.out.2.2.1.1); rintro e w10 ⟨rfl, hb10⟩; have S10 := Aside0.mk (And.intro (below_step S9.out.1 hb10) (And.intro (S9.out.2.1.below hb10) (S9.out.2.2.1.below hb10))); clear S9 _t hb10)
        | (go_at_call 17; have _t := S10; (with_reducible refine (Bytes_eq _ ⟨want, l1, 1000, L, D, m⟩ 1 l1 l1.length _ ?s1 ?s2 ?s0 ?s3 ?s4).mono ?_); (case s1 => rfl); (case s2 => rfl); (case s0 => exact S10.out.2.1); (case s3 => simp only; omega); (case s4 => simp only; omega); rintro e w11 ⟨A11, c11, rfl, hc11, hr11, hb11⟩; have S11 := Aside0.mk (And.intro (below_step S10.out.1 hb11) (And.intro (S10.out.2.1.below hb11) (And.intro (S10.out.2.2.below hb11) hr11))); clear S10 _t hr11 hb11)
        | (go_at_call 16; have _t := S11; (with_reducible refine (Same_eq _ _ _ _ l1.length l1.length l1 l1 _ ?s1 ?s2 true ?s3 ?s4 ?s5).mono ?_); (case s1 => rfl); (case s2 => rfl); (case s3 => exact decide_eq_true rfl); (case s4 => exact S11.out.2.2.2.1); (case s5 => exact Kd.C_below M.out.2 S11.out.1); rintro e w12 ⟨rfl, hb12⟩; have S12 := Aside0.mk (And.intro (below_step S11.out.1 hb12) (And.intro (S11.out.2.1.below hb12) (S11.out.2.2.1.below hb12))); clear S11 _t hb12)
        | (go_at_call 18; have _t := S12; (with_reducible refine (Restore_eq _ ⟨want, l1, 1000, L, D, m⟩ ⟨want, l1, 1000, -1, false, m⟩ _ ?s1 ?s0).mono ?_); (case s1 => rfl); (case s0 => exact S12.out.2.1); rintro e w13 ⟨rfl, hd13, ho13⟩; have S13 := Aside0.mk (And.intro (ho13.below S12.out.1 hg2) (And.intro hd13 (S12.out.2.2.keep S12.out.2.1 ho13))); clear S12 _t hd13 ho13)
        | (go_at_call 13; have _t := S13; (with_reducible refine (Cut_eq _ ⟨want, l1, 1000, -1, false, m⟩ ⟨want, l1, 1000, x, false, m⟩ _ _ ?s1 ?s0).mono ?_); (case s1 => unfold cutD; rw [if_neg (by omega)]); (case s0 => exact S13.out.2.1); rintro e w14 ⟨rfl, hd14, ho14⟩; have S14 := Aside0.mk (And.intro (ho14.below S13.out.1 hg2) (And.intro hd14 (S13.out.2.2.keep S13.out.2.1 ho14))); clear S13 _t hd14 ho14)
        | (go_at_call 19; have _t := S14; (with_reducible refine (Truncate_eq _ ⟨want, l1, 1000, x, false, m⟩ ⟨left, l1, 1000, L2, D2, T2⟩ _ _ e2 _ ?s1 ?s0 ?s2).mono ?_); (case s1 => exact H.out.2.1); (case s0 => exact S14.out.2.1); (case s2 => exact ⟨by simp only; omega, by simp only; omega, cap1000.1, cap1000.2, by simp only; omega, by simp only; omega, by simp only; omega, by simp only; omega⟩); rintro e w15 ⟨rfl, hd15, ho15⟩; have hcut2 := H.out.2.2.2.2.1 A8 c8 hc8; have S15 := Aside0.mk (And.intro (ho15.below S14.out.1 hg2) (And.intro hd15 (S14.out.2.2.keep S14.out.2.1 ho15))); clear S14 _t hd15 ho15)
        | (go_at_call 17; have _t := S15; (with_reducible refine (Bytes_eq _ ⟨left, l1, 1000, L2, D2, T2⟩ 0 left left.length _ ?s1 ?s2 ?s0 ?s3 ?s4).mono ?_); (case s1 => rfl); (case s2 => rfl); (case s0 => exact S15.out.2.1); (case s3 => simp only; omega); (case s4 => simp only; omega); rintro e w16 ⟨A16, c16, rfl, hc16, hr16, hb16⟩; have S16 := Aside0.mk (And.intro (below_step S15.out.1 hb16) (And.intro (S15.out.2.1.below hb16) (And.intro (S15.out.2.2.below hb16) hr16))); clear S15 _t hr16 hb16)
        | (go_at_call 16; have _t := S16; (with_reducible refine (Same_eq _ _ _ _ left.length left.length left left _ ?s1 ?s2 true ?s3 ?s4 ?s5).mono ?_); (case s1 => rfl); (case s2 => rfl); (case s3 => exact decide_eq_true rfl); (case s4 => exact S16.out.2.2.2.1); (case s5 => exact H.out.2.2.2.2.2 _ _ S16.out.2.2.1.1); rintro e w17 ⟨rfl, hb17⟩; have S17 := Aside0.mk (And.intro (below_step S16.out.1 hb17) (S16.out.2.1.below hb17)); clear S16 _t hb17)
        | (go_at_call 17; have _t := S17; (with_reducible refine (Bytes_eq _ ⟨left, l1, 1000, L2, D2, T2⟩ 1 l1 l1.length _ ?s1 ?s2 ?s0 ?s3 ?s4).mono ?_); (case s1 => rfl); (case s2 => rfl); (case s0 => exact S17.out.2); (case s3 => simp only; omega); (case s4 => simp only; omega); rintro e w18 ⟨A18, c18, rfl, hc18, hr18, hb18⟩; have S18 := Aside0.mk (And.intro (below_step S17.out.1 hb18) hr18); clear S17 _t hr18 hb18)
        | (go_at_call 16; have _t := S18; (with_reducible refine (Same_eq _ _ _ _ l1.length l1.length l1 l1 _ ?s1 ?s2 true ?s3 ?s4 ?s5).mono ?_); (case s1 => rfl); (case s2 => rfl); (case s3 => exact decide_eq_true rfl); (case s4 => exact S18.out.2.1); (case s5 => exact Kd.C_below M.out.2 S18.out.1); rintro e w19 ⟨rfl, hb19⟩; have S19 := Aside0.mk (below_step S18.out.1 hb19); clear S18 _t hb19))
      go_ret
      exact ⟨rfl, S19.out⟩
end Go.Proofs.Ytpahmdjcmpnmkaa.MDeviceCuts
