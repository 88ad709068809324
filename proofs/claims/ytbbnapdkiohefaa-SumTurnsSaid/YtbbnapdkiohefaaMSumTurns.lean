/- SumTurns: whatever the bytes, the place and the mask, the statement's function answers true. No condition. -/
import Derived.Test.YtbbnapdkiohefaaPTurnx1
import Derived.Test.YtbbnapdkiohefaaSumAl
import Derived.Test.YtbbnapdkiohefaaRef03
import Derived.Test.YtbbnapdkiohefaaCrcB
import Derived.Test.YtbbnapdkiohefaaRow
namespace Go.Proofs.Ytbbnapdkiohefaa.MSumTurns
open Go.RowKit Go.Proofs.YtbbnapdkiohefaaW.PrintWords Go.Proofs.YtbbnapdkiohefaaW.PrintLast Go.Proofs.YtbbnapdkiohefaaW.PrintMore Go.Proofs.Ytbbnapdkiohefaa.PTurn Go.Proofs.Ytbbnapdkiohefaa.H Go.Proofs.Ytbbnapdkiohefaa.CrcM
set_option linter.unusedVariables false
set_option linter.unusedSimpArgs false

theorem xor_u8 (a m : Nat) (ha : a < 256) (hm : m < 256) : bits .xor .u8 (a : Int) (m : Int) = ((a ^^^ m : Nat) : Int) := by
  have e2 : bits .xor .u8 (a : Int) (m : Int) = IntKind.u8.wrap (((BitVec.ofInt 8 (a : Int)) ^^^ (BitVec.ofInt 8 (m : Int))).toNat : Int) := rfl
  rw [e2, IntKind.wrap_u8, BitVec.ofInt_natCast, BitVec.ofInt_natCast, BitVec.toNat_xor, BitVec.toNat_ofNat, BitVec.toNat_ofNat]
  have m1 : a % 2 ^ 8 = a := Nat.mod_eq_of_lt (by omega)
  have m2 : m % 2 ^ 8 = m := Nat.mod_eq_of_lt (by omega)
  rw [m1, m2]
  have : a ^^^ m < 2 ^ 8 := Nat.xor_lt_two_pow (by omega) (by omega)
  omega
theorem shl_u8 (j : Nat) (hj : j < 8) : shl .u8 1 (j : Int) = ((2 ^ j : Nat) : Int) := by
  unfold shl
  have hb : IntKind.u8.bits = 8 := rfl
  rw [IntKind.wrap_u8, hb, Int.toNat_natCast, Nat.min_eq_left (by omega), Int.one_mul]
  have : (2 : Nat) ^ j < 256 := Nat.lt_of_lt_of_le (Nat.pow_lt_pow_right (by decide) hj) (by decide)
  have e : ((2 ^ j : Nat) : Int) = (2 : Int) ^ j := by simp
  rw [← e]
  clear e
  generalize (2 : Nat) ^ j = z at this ⊢
  omega
/-- What differs lies between two places. -/
def Near (l x : List Int) (p q : Nat) : Prop := x.length = l.length ∧ Byt x ∧ ∀ i, i < 8 * l.length → bitAt x i ≠ bitAt l i → p ≤ i ∧ i < q
theorem c32_bit (a : Nat) (ha : a < 256) (j : Nat) : (c32 (a : Int)).getLsbD j = a.testBit j := by
  have := c32_toNat (a : Int) (by omega) (by omega)
  rw [Int.toNat_natCast] at this
  rw [← BitVec.testBit_toNat, this]
theorem near_set {l x : List Int} {p q i : Nat} (h : Near l x p q) (hp : p ≤ i) (hi : i < 8 * l.length) (hq : i = q) :
    Near l (x.set (i / 8) (bits .xor .u8 (rd x ((i / 8 : Nat) : Int)) (shl .u8 1 ((i % 8 : Nat) : Int)))) p (q + 1) := by
  obtain ⟨h1, h2, h3⟩ := h
  have hlt : i / 8 < x.length := by omega
  have hr : rd x ((i / 8 : Nat) : Int) = x[i / 8] := by unfold rd; rw [Int.toNat_natCast, List.getD_eq_getElem?_getD, List.getElem?_eq_getElem hlt]; rfl
  have hb := h2 _ (List.getElem_mem hlt)
  obtain ⟨a, ha⟩ := Int.eq_ofNat_of_zero_le hb.1
  have hpow : (2 : Nat) ^ (i % 8) < 256 := Nat.lt_of_lt_of_le (Nat.pow_lt_pow_right (by decide) (by omega : i % 8 < 8)) (by decide)
  rw [hr, shl_u8 _ (by omega), ha, xor_u8 a _ (by omega) hpow]
  have hx8 : a ^^^ 2 ^ (i % 8) < 256 := Nat.xor_lt_two_pow (n := 8) (by omega) hpow
  refine ⟨by rw [List.length_set]; exact h1, fun y hy => ?_, fun k hk hne => ?_⟩
  · rcases List.mem_or_eq_of_mem_set hy with hy | hy
    · exact h2 y hy
    · rw [hy]; omega
  · by_cases hki : k = i
    · omega
    · have hsame : bitAt (x.set (i / 8) ((a ^^^ 2 ^ (i % 8) : Nat) : Int)) k = bitAt x k := by
        unfold bitAt
        rw [List.getD_eq_getElem?_getD, List.getD_eq_getElem?_getD, List.getElem?_set]
        by_cases hb8 : i / 8 = k / 8
        · rw [if_pos hb8, if_pos hlt]
          have hx : x[k / 8]? = some (a : Int) := by rw [← hb8, List.getElem?_eq_getElem hlt, ha]
          rw [hx]
          show (c32 ((a ^^^ 2 ^ (i % 8) : Nat) : Int)).getLsbD (k % 8) = (c32 (a : Int)).getLsbD (k % 8)
          rw [c32_bit _ hx8, c32_bit _ (by omega), Nat.testBit_xor, Nat.testBit_two_pow]
          have : ¬ (i % 8 = k % 8) := by omega
          simp [this]
        · rw [if_neg hb8]
      rw [hsame] at hne
      have := h3 k hk hne
      omega
theorem near_step {l x : List Int} {p q : Nat} (h : Near l x p q) : Near l x p (q + 1) := ⟨h.1, h.2.1, fun i hi hne => by have := h.2.2 i hi hne; omega⟩

theorem turn_tells (l : List Int) (hl : l.length ≤ 1000) (at_ : Nat) (hat : at_ ≤ 8000) (mask : Int) (d : Nat) : ∀ (k j : Nat) (x : List Int), j + d = 32 → d < k → Near l x at_ (at_ + j) →
    ∃ r, saleroomref03_Turn.l0 k at_ mask x j = some r ∧ Near l r at_ (at_ + 32) := by
  induction d with
  | zero =>
    intro k j x hj hk hn
    obtain ⟨k, rfl⟩ : ∃ m, k = m + 1 := ⟨k - 1, by omega⟩
    exact ⟨x, by simp only [saleroomref03_Turn.l0]; rw [if_neg (by omega)], by rw [show j = 32 by omega] at hn; exact hn⟩
  | succ d ih =>
    intro k j x hj hk hn
    obtain ⟨k, rfl⟩ : ∃ m, k = m + 1 := ⟨k - 1, by omega⟩
    simp only [saleroomref03_Turn.l0]
    have hlx := hn.1
    have w1 : wrap64 ((at_ : Int) + (j : Int)) = ((at_ + j : Nat) : Int) := by unfold wrap64; omega
    have w2 : wrap64 (8 * (x.length : Int)) = ((8 * x.length : Nat) : Int) := by unfold wrap64; omega
    have w3 : wrap64 ((j : Int) + 1) = ((j + 1 : Nat) : Int) := by unfold wrap64; omega
    have w4 : Int.tdiv ((at_ + j : Nat) : Int) 8 = (((at_ + j) / 8 : Nat) : Int) := by rw [Int.tdiv_eq_ediv_of_nonneg (by omega)]; omega
    have w5 : Int.tmod ((at_ + j : Nat) : Int) 8 = (((at_ + j) % 8 : Nat) : Int) := by rw [Int.tmod_eq_emod_of_nonneg (by omega)]; omega
    have w6 : wrap64 (((at_ + j) / 8 : Nat) : Int) = (((at_ + j) / 8 : Nat) : Int) := by unfold wrap64; omega
    rw [w1, w2, w3, w4, w5, w6, if_pos (by omega), if_pos (by omega)]
    clear w1 w2 w3 w4 w5 w6
    by_cases hc : Go.bits .and .u32 (shr .u32 mask (j : Int)) 1 = 1
    · rw [if_pos hc]
      clear hc
      by_cases hc2 : ((at_ + j : Nat) : Int) < ((8 * x.length : Nat) : Int)
      · have hc3 : at_ + j < 8 * x.length := by omega
        have g1 : (0 : Int) ≤ (((at_ + j) / 8 : Nat) : Int) := Int.natCast_nonneg _
        have g2 : (((at_ + j) / 8 : Nat) : Int) < (x.length : Int) := by omega
        have g3 : (0 : Int) ≤ (((at_ + j) % 8 : Nat) : Int) := Int.natCast_nonneg _
        rw [if_pos hc2, if_pos g1, if_pos g2, if_pos g3, Int.toNat_natCast]
        have := near_set hn (i := at_ + j) (by omega) (by omega) rfl
        exact ih k (j + 1) _ (by omega) (by omega) this
      · rw [if_neg hc2]
        exact ih k (j + 1) _ (by omega) (by omega) (near_step hn)
    · rw [if_neg hc]
      clear hc
      exact ih k (j + 1) _ (by omega) (by omega) (near_step hn)
/-- What Turn tells of few bytes. -/
theorem turn_f (l : List Int) (hl : l.length ≤ 1000) (hb : Byt l) (at_ : Int) (h0 : 0 ≤ at_) (h1 : at_ ≤ 8000) (mask : Int) : ∃ r, saleroomref03_Turn.f 40 l at_ mask = some r ∧ Near l r at_.toNat (at_.toNat + 32) := by
  obtain ⟨a, rfl⟩ := Int.eq_ofNat_of_zero_le h0
  obtain ⟨r, hr, hn⟩ := turn_tells l hl a (by omega) mask 32 40 0 l (by omega) (by omega) ⟨rfl, hb, fun i _ hne => absurd rfl hne⟩
  rw [show ((0 : Nat) : Int) = 0 from rfl] at hr
  refine ⟨r, ?_, by rw [Int.toNat_natCast]; exact hn⟩
  unfold saleroomref03_Turn.f saleroomref01_Copy.f
  rw [if_pos (by omega), Option.bind_some]
  exact hr
theorem sum_eq (l r : List Int) (hb : Byt l) (p : Nat) (hn : Near l r p (p + 32)) : (v32 (ext 0#32 r) == v32 (ext 0#32 l)) = decide (r = l) := by
  by_cases h : r = l
  · subst h; simp
  · have hne : ext 0#32 r ≠ ext 0#32 l := fun he => h (turned_sum r l hn.1 hn.2.1 hb p (fun i hi hd => hn.2.2 i (by rw [← hn.1]; exact hi) hd) _ he)
    have : v32 (ext 0#32 r) ≠ v32 (ext 0#32 l) := fun he => hne (by rw [← bits32 (ext 0#32 r), he, bits32])
    rw [decide_eq_false h, beq_eq_false_iff_ne]; exact this

theorem and_mask (a : Int) (m : Nat) (hm : m < 9223372036854775808) : 0 ≤ bits .and .i64 a (m : Int) ∧ bits .and .i64 a (m : Int) ≤ m := by
  have e : bits .and .i64 a (m : Int) = IntKind.i64.wrap (((BitVec.ofInt 64 a) &&& (BitVec.ofInt 64 (m : Int))).toNat : Int) := rfl
  have hle : ((BitVec.ofInt 64 a) &&& (BitVec.ofInt 64 (m : Int))).toNat ≤ m := by
    rw [BitVec.ofInt_natCast, BitVec.toNat_and, BitVec.toNat_ofNat, Nat.mod_eq_of_lt (by omega : m < 2 ^ 64)]
    exact Nat.and_le_right
  rw [e, IntKind.wrap_i64]
  generalize ((BitVec.ofInt 64 a) &&& (BitVec.ofInt 64 (m : Int))).toNat = z at hle ⊢
  omega
theorem place (a : Int) (n : Nat) (h0 : 0 < n) (h1 : n ≤ 1000) : 0 ≤ (bits .and .i64 a 8191).tmod (8 * (n : Int)) ∧ (bits .and .i64 a 8191).tmod (8 * (n : Int)) ≤ 8000 := by
  have h := and_mask a 8191 (by decide)
  rw [show ((8191 : Nat) : Int) = 8191 from rfl] at h
  generalize bits .and .i64 a 8191 = z at h ⊢
  rw [Int.tmod_eq_emod_of_nonneg h.1]
  have h2 := Int.emod_nonneg z (show (8 * (n : Int)) ≠ 0 by omega)
  have h3 := Int.emod_lt_of_pos z (show 0 < (8 * (n : Int)) by omega)
  omega

set_option maxHeartbeats 1600000 in
theorem law (A0 : Option Addr) (c0 : Nat) (l0 : List Int) (a1 a2 : Int) (w : World) (hr0 : Kd.C (Kd.int .u8) w A0 l0.length l0) (hc0 : l0.length ≤ c0) (hb : Byt l0) :
    Calls Try.prog 5 #[.slice A0 l0.length c0, .int .i64 a1, .int .u32 a2] w fun e w' => e = .returned (.bool true) ∧ Below w.heap.size w w' := by
  have HR0 := Aside0.mk hr0
  clear hr0
  by_cases hbig : l0.length > 1000
  · have b0 : decide (1000 < l0.length) = true := decide_eq_true hbig
    have b1 : decide (1000 < (l0.length : Int)) = true := decide_eq_true (by omega)
    go_enter Try.func5, Try.ntmps5
    go_wp2_with (go_at_call 7; refine (alive_calls _).mono ?_; rintro e w1 ⟨rfl, hb1⟩; have HB1 := Aside0.mk hb1; clear hb1)
    go_ret
    exact ⟨rfl, HB1.out⟩
  · have b0 : decide (1000 < l0.length) = false := decide_eq_false hbig
    have b1 : decide (1000 < (l0.length : Int)) = false := decide_eq_false (by omega)
    by_cases hz : l0.length = 0
    · have b2 : ((l0.length : Int) == 0) = true := by rw [hz]; rfl
      have b3 : (l0.length == 0) = true := by rw [hz]; rfl
      have HZ := Lib.hid hz
      clear hz
      go_enter Try.func5, Try.ntmps5
      go_wp2_with (go_at_call 7; refine (alive_calls _).mono ?_; rintro e w1 ⟨rfl, hb1⟩; have HB1 := Aside0.mk hb1; clear hb1)
      go_ret
      exact ⟨rfl, HB1.out⟩
    · have b2 : ((l0.length : Int) == 0) = false := by rw [beq_eq_false_iff_ne]; omega
      have b3 : (l0.length == 0) = false := by rw [beq_eq_false_iff_ne]; exact hz
      have hlen : l0.length ≤ 1000 := by omega
      have hpos : 0 < l0.length := by omega
      obtain ⟨hp0, hp1⟩ := place a1 l0.length hpos hlen
      obtain ⟨r, hr, hn⟩ := turn_f l0 hlen hb _ hp0 hp1 a2
      have hse := sum_eq l0 r hb _ hn
      have hrl : r.length ≤ 1000 := by rw [hn.1]; exact hlen
      have hx1 : v32 (ext 0#32 ([r] : List (List Int)).flatten) = v32 (ext 0#32 r) := by simp
      have hx2 : v32 (ext 0#32 ([l0] : List (List Int)).flatten) = v32 (ext 0#32 l0) := by simp
      generalize v32 (ext 0#32 r) = x at hse hx1
      generalize v32 (ext 0#32 l0) = y at hse hx2
      have HR := Aside0.mk hr
      have HS := Lib.hid hse
      have HX1 := Lib.hid hx1
      have HX2 := Lib.hid hx2
      clear hz hbig hb hr hn hp0 hp1 hx1 hx2 hse
      go_enter Try.func5, Try.ntmps5
      go_wp2_with (first
        | (go_at_call 7; refine (alive_calls _).mono ?_; rintro e w1 ⟨rfl, hb1⟩; have HB1 := Aside0.mk hb1; clear hb1)
        | (go_at_call 18; (with_reducible refine (saleroomref03_Turn.calls 40 _ _ l0 _ a2 r _ ?s1 ?s2 HR.out).mono ?_); (case s1 => exact Kd.C_below HR0.out HB1.out); (case s2 => exact hc0); rintro e w2 ⟨v2, rfl, ho2, hb2⟩; obtain ⟨A2, c2, rfl, hc2, hr2⟩ := R_C ho2; have HR2 := Aside0.mk hr2; have HB2 := Aside0.mk (below_step HB1.out hb2); clear ho2 hr2 hb2 HB1)
        | (go_at_call 12; have _t := HB2; (with_reducible refine (Of_eq _ _ _ [r] x _ ?s1 HX1.out ?s2 ?s3 ?s4).mono ?_); (case s1 => rfl); (case s2 => exact C_oneg _ _ _ rfl hc2 HR2.out); (case s3 => exact Nat.le_refl _); (case s4 => simp; omega); rintro e w3 ⟨rfl, hb3⟩; have hq := below_step (below_alloc (Below.refl _ _) _) hb3; have HR3 := Aside0.mk (Kd.C_below HR2.out hq); have HB3 := Aside0.mk (below_step HB2.out hq); clear hb3 hq HB2 HR2 _t)
        | (go_at_call 12; have _t := HB3; (with_reducible refine (Of_eq _ _ _ [l0] y _ ?s1 HX2.out ?s2 ?s3 ?s4).mono ?_); (case s1 => rfl); (case s2 => exact C_oneg _ _ _ rfl hc0 (Kd.C_below HR0.out HB3.out)); (case s3 => exact Nat.le_refl _); (case s4 => simp; omega); rintro e w4 ⟨rfl, hb4⟩; have hq := below_step (below_alloc (Below.refl _ _) _) hb4; have HR4 := Aside0.mk (Kd.C_below HR3.out hq); have HB4 := Aside0.mk (below_step HB3.out hq); clear hb4 hq HB3 HR3 _t)
        | (go_at_call 14; refine (Same_calls _ _ r _ _ l0 _ HR4.out (Kd.C_below HR0.out HB4.out)).mono ?_; rw [← HS.out]; rintro e w' ⟨rfl, ⟨nd, rfl⟩⟩))
      go_ret
      exact ⟨by simp, pw_below_drewN HB4.out _⟩

theorem opens : Opens Try.prog 25 (Kd.slice 5 (Kd.int .u8)) (fun l => ∀ x ∈ l, (Lit.int .u8 x).wf = true) := opens_slice 0 Try.underlying25 (by kernel_rfl) (opens_int Try.underlying5)
theorem main (A : Option Addr) (c : Nat) (l : List Int) (e : l.length ≤ c) {W0 : World} (m : Kd.C (Kd.int .u8) W0 A l.length l) (g : ∀ x ∈ l, (Lit.int .u8 x).wf = true)
    (a1 : Int) (w1 : (Lit.int .i64 a1).wf = true) (a2 : Int) (w2 : (Lit.int .u32 a2).wf = true) (W : World) (hW : W0 = W := by rfl) :
    Calls Try.prog 5 #[.slice A l.length c, .int .i64 a1, .int .u32 a2] W fun e W' => e = .returned (.bool true) ∧ Below W.heap.size W W' := by
  subst hW
  exact law A c l a1 a2 W0 m e (fun x hx => wf_u8 (g x hx))
end Go.Proofs.Ytbbnapdkiohefaa.MSumTurns
