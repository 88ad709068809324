/- Frames with bits turned: the plain law, and ref03.Turn under a name. -/
import Derived.Test.YtagjnjdaookdgaaPTurnx1
import Derived.Test.YtagjnjdaookdgaaCrcB
import Derived.Test.YtagjnjdaookdgaaFrBack
namespace Go.Proofs.Ytagjnjdaookdgaa.H
open Go.RowKit Go.Proofs.YtagjnjdaookdgaaW.PrintWords Go.Proofs.YtagjnjdaookdgaaW.PrintLast Go.Proofs.YtagjnjdaookdgaaW.PrintMore Go.Proofs.Ytagjnjdaookdgaa.PTurn Go.Proofs.Ytagjnjdaookdgaa.CrcM
set_option linter.unusedVariables false
set_option linter.unusedSimpArgs false

theorem xor_u8 (a m : Nat) (ha : a < 256) (hm : m < 256) : bits .xor .u8 (a : Int) (m : Int) = ((a ^^^ m : Nat) : Int) := by
  have e2 : bits .xor .u8 (a : Int) (m : Int) = IntKind.u8.wrap (((BitVec.ofInt 8 (a : Int)) ^^^ (BitVec.ofInt 8 (m : Int))).toNat : Int) := rfl
  rw [e2, IntKind.wrap_u8, BitVec.ofInt_natCast, BitVec.ofInt_natCast, BitVec.toNat_xor, BitVec.toNat_ofNat, BitVec.toNat_ofNat]
  have m1 : a % 2 ^ 8 = a := Nat.mod_eq_of_lt (by omega)
  have m2 : m % 2 ^ 8 = m := Nat.mod_eq_of_lt (by omega)
  rw [m1, m2]
  have : a ^^^ m < 2 ^ 8 := Nat.xor_lt_two_pow (by omega) (by omega)
  omega
theorem shl_u8 (j : Nat) (hj : j < 8) : shl .u8 1 (j : Int) = ((2 ^ j : Nat) : Int) := by
  unfold shl
  have hb : IntKind.u8.bits = 8 := rfl
  rw [IntKind.wrap_u8, hb, Int.toNat_natCast, Nat.min_eq_left (by omega), Int.one_mul]
  have : (2 : Nat) ^ j < 256 := Nat.lt_of_lt_of_le (Nat.pow_lt_pow_right (by decide) hj) (by decide)
  have e : ((2 ^ j : Nat) : Int) = (2 : Int) ^ j := by simp
  rw [← e]
  clear e
  generalize (2 : Nat) ^ j = z at this ⊢
  omega
/-- What differs lies between two places. -/
def Near (l x : List Int) (p q : Nat) : Prop := x.length = l.length ∧ Byt x ∧ ∀ i, i < 8 * l.length → bitAt x i ≠ bitAt l i → p ≤ i ∧ i < q
theorem c32_bit (a : Nat) (ha : a < 256) (j : Nat) : (c32 (a : Int)).getLsbD j = a.testBit j := by
  have := c32_toNat (a : Int) (by omega) (by omega)
  rw [Int.toNat_natCast] at this
  rw [← BitVec.testBit_toNat, this]
theorem near_set {l x : List Int} {p q i : Nat} (h : Near l x p q) (hp : p ≤ i) (hi : i < 8 * l.length) (hq : i = q) :
    Near l (x.set (i / 8) (bits .xor .u8 (rd x ((i / 8 : Nat) : Int)) (shl .u8 1 ((i % 8 : Nat) : Int)))) p (q + 1) := by
  obtain ⟨h1, h2, h3⟩ := h
  have hlt : i / 8 < x.length := by omega
  have hr : rd x ((i / 8 : Nat) : Int) = x[i / 8] := by unfold rd; rw [Int.toNat_natCast, List.getD_eq_getElem?_getD, List.getElem?_eq_getElem hlt]; rfl
  have hb := h2 _ (List.getElem_mem hlt)
  obtain ⟨a, ha⟩ := Int.eq_ofNat_of_zero_le hb.1
  have hpow : (2 : Nat) ^ (i % 8) < 256 := Nat.lt_of_lt_of_le (Nat.pow_lt_pow_right (by decide) (by omega : i % 8 < 8)) (by decide)
  rw [hr, shl_u8 _ (by omega), ha, xor_u8 a _ (by omega) hpow]
  have hx8 : a ^^^ 2 ^ (i % 8) < 256 := Nat.xor_lt_two_pow (n := 8) (by omega) hpow
  refine ⟨by rw [List.length_set]; exact h1, fun y hy => ?_, fun k hk hne => ?_⟩
  · rcases List.mem_or_eq_of_mem_set hy with hy | hy
    · exact h2 y hy
    · rw [hy]; omega
  · by_cases hki : k = i
    · omega
    · have hsame : bitAt (x.set (i / 8) ((a ^^^ 2 ^ (i % 8) : Nat) : Int)) k = bitAt x k := by
        unfold bitAt
        rw [List.getD_eq_getElem?_getD, List.getD_eq_getElem?_getD, List.getElem?_set]
        by_cases hb8 : i / 8 = k / 8
        · rw [if_pos hb8, if_pos hlt]
          have hx : x[k / 8]? = some (a : Int) := by rw [← hb8, List.getElem?_eq_getElem hlt, ha]
          rw [hx]
          show (c32 ((a ^^^ 2 ^ (i % 8) : Nat) : Int)).getLsbD (k % 8) = (c32 (a : Int)).getLsbD (k % 8)
          rw [c32_bit _ hx8, c32_bit _ (by omega), Nat.testBit_xor, Nat.testBit_two_pow]
          have : ¬ (i % 8 = k % 8) := by omega
          simp [this]
        · rw [if_neg hb8]
      rw [hsame] at hne
      have := h3 k hk hne
      omega
theorem near_step {l x : List Int} {p q : Nat} (h : Near l x p q) : Near l x p (q + 1) := ⟨h.1, h.2.1, fun i hi hne => by have := h.2.2 i hi hne; omega⟩

theorem turn_tells (l : List Int) (hl : l.length ≤ 1000) (at_ : Nat) (hat : at_ ≤ 8000) (mask : Int) (d : Nat) : ∀ (k j : Nat) (x : List Int), j + d = 32 → d < k → Near l x at_ (at_ + j) →
    ∃ r, saleroomref03_Turn.l0 k at_ mask x j = some r ∧ Near l r at_ (at_ + 32) := by
  induction d with
  | zero =>
    intro k j x hj hk hn
    obtain ⟨k, rfl⟩ : ∃ m, k = m + 1 := ⟨k - 1, by omega⟩
    exact ⟨x, by simp only [saleroomref03_Turn.l0]; rw [if_neg (by omega)], by rw [show j = 32 by omega] at hn; exact hn⟩
  | succ d ih =>
    intro k j x hj hk hn
    obtain ⟨k, rfl⟩ : ∃ m, k = m + 1 := ⟨k - 1, by omega⟩
    simp only [saleroomref03_Turn.l0]
    have hlx := hn.1
    have w1 : wrap64 ((at_ : Int) + (j : Int)) = ((at_ + j : Nat) : Int) := by unfold wrap64; omega
    have w2 : wrap64 (8 * (x.length : Int)) = ((8 * x.length : Nat) : Int) := by unfold wrap64; omega
    have w3 : wrap64 ((j : Int) + 1) = ((j + 1 : Nat) : Int) := by unfold wrap64; omega
    have w4 : Int.tdiv ((at_ + j : Nat) : Int) 8 = (((at_ + j) / 8 : Nat) : Int) := by rw [Int.tdiv_eq_ediv_of_nonneg (by omega)]; omega
    have w5 : Int.tmod ((at_ + j : Nat) : Int) 8 = (((at_ + j) % 8 : Nat) : Int) := by rw [Int.tmod_eq_emod_of_nonneg (by omega)]; omega
    have w6 : wrap64 (((at_ + j) / 8 : Nat) : Int) = (((at_ + j) / 8 : Nat) : Int) := by unfold wrap64; omega
    rw [w1, w2, w3, w4, w5, w6, if_pos (by omega), if_pos (by omega)]
    clear w1 w2 w3 w4 w5 w6
    by_cases hc : Go.bits .and .u32 (shr .u32 mask (j : Int)) 1 = 1
    · rw [if_pos hc]
      clear hc
      by_cases hc2 : ((at_ + j : Nat) : Int) < ((8 * x.length : Nat) : Int)
      · have hc3 : at_ + j < 8 * x.length := by omega
        have g1 : (0 : Int) ≤ (((at_ + j) / 8 : Nat) : Int) := Int.natCast_nonneg _
        have g2 : (((at_ + j) / 8 : Nat) : Int) < (x.length : Int) := by omega
        have g3 : (0 : Int) ≤ (((at_ + j) % 8 : Nat) : Int) := Int.natCast_nonneg _
        rw [if_pos hc2, if_pos g1, if_pos g2, if_pos g3, Int.toNat_natCast]
        have := near_set hn (i := at_ + j) (by omega) (by omega) rfl
        exact ih k (j + 1) _ (by omega) (by omega) this
      · rw [if_neg hc2]
        exact ih k (j + 1) _ (by omega) (by omega) (near_step hn)
    · rw [if_neg hc]
      clear hc
      exact ih k (j + 1) _ (by omega) (by omega) (near_step hn)
/-- What Turn tells of few bytes. -/
theorem turn_f (l : List Int) (hl : l.length ≤ 1000) (hb : Byt l) (at_ : Int) (h0 : 0 ≤ at_) (h1 : at_ ≤ 8000) (mask : Int) : ∃ r, saleroomref03_Turn.f 40 l at_ mask = some r ∧ Near l r at_.toNat (at_.toNat + 32) := by
  obtain ⟨a, rfl⟩ := Int.eq_ofNat_of_zero_le h0
  obtain ⟨r, hr, hn⟩ := turn_tells l hl a (by omega) mask 32 40 0 l (by omega) (by omega) ⟨rfl, hb, fun i _ hne => absurd rfl hne⟩
  rw [show ((0 : Nat) : Int) = 0 from rfl] at hr
  refine ⟨r, ?_, by rw [Int.toNat_natCast]; exact hn⟩
  unfold saleroomref03_Turn.f saleroomref01_Copy.f
  rw [if_pos (by omega), Option.bind_some]
  exact hr
theorem sum_eq (l r : List Int) (hb : Byt l) (p : Nat) (hn : Near l r p (p + 32)) : (v32 (ext 0#32 r) == v32 (ext 0#32 l)) = decide (r = l) := by
  by_cases h : r = l
  · subst h; simp
  · have hne : ext 0#32 r ≠ ext 0#32 l := fun he => h (turned_sum r l hn.1 hn.2.1 hb p (fun i hi hd => hn.2.2 i (by rw [← hn.1]; exact hi) hd) _ he)
    have : v32 (ext 0#32 r) ≠ v32 (ext 0#32 l) := fun he => hne (by rw [← bits32 (ext 0#32 r), he, bits32])
    rw [decide_eq_false h, beq_eq_false_iff_ne]; exact this


theorem le4_inj {a b : BitVec 32} (h : le4 a = le4 b) : a = b := by
  have ha := v32_lo a
  have ha1 := v32_hi a
  have hb := v32_lo b
  have hb1 := v32_hi b
  have : v32 a = v32 b := by
    simp only [le4, List.cons.injEq, and_true] at h
    obtain ⟨h1, h2, h3, h4⟩ := h
    omega
  rw [← bits32 a, this, bits32]
theorem bitAt_take (l : List Int) (n i : Nat) (hi : i < 8 * n) : bitAt (l.take n) i = bitAt l i := by
  unfold bitAt
  rw [List.getD_eq_getElem?_getD, List.getD_eq_getElem?_getD, List.getElem?_take, if_pos (by omega)]
theorem turns_read {kind : Int} {l r t : List Int} {p : Nat} (hB : Bts l) (hw : writeF kind l = (r, 0)) (hn : Near r t p (p + 32)) (hs : t.drop (r.length - 4) = r.drop (r.length - 4)) :
    ((readF t).2.2.2 = 0 ∧ (readF t).2.2.1 = r.length) ↔ t = r := by
  have hbr := bts_writeF hB hw
  obtain ⟨h1, h2, h3, hr, h5⟩ := writeF_ok hw
  constructor
  · rintro ⟨e0, e1⟩
    have hlt : t.length = r.length := hn.1
    revert e0 e1
    unfold readF
    by_cases c1 : t.length < 2
    · rw [if_pos c1]; intro h; cases h
    rw [if_neg c1]
    by_cases c2 : lenF t > 4096
    · rw [if_pos c2]; intro h; cases h
    rw [if_neg c2]
    by_cases c3 : (t.length : Int) < lenF t + 7
    · rw [if_pos c3]; intro h; cases h
    rw [if_neg c3]
    by_cases c4 : (openB (t.take (lenF t + 7).toNat)).2 = false
    · rw [if_pos c4]; intro h; cases h
    rw [if_neg c4]
    by_cases c5 : rd (openB (t.take (lenF t + 7).toNat)).1 2 = 0
    · rw [if_pos c5]; intro h; cases h
    rw [if_neg c5]
    intro _ e1
    simp only at e1
    have e2 : t.take (lenF t + 7).toNat = t := List.take_of_length_le (by omega)
    rw [e2] at c4
    have c6 : (openB t).2 = true := by revert c4; cases (openB t).2 <;> simp
    have hd : r.length - 4 = (bytesF kind l).length := by rw [hr]; simp [le4]
    have hop : t.take (t.length - 4) ++ le4 (ext 0#32 (t.take (t.length - 4))) = t := by
      revert c6
      unfold openB
      rw [if_neg (by omega)]
      by_cases c7 : t.take (t.length - 4) ++ le4 (ext 0#32 (t.take (t.length - 4))) = t
      · intro _; exact c7
      · rw [if_neg c7]; intro h; cases h
    have htd : t.drop (r.length - 4) = le4 (ext 0#32 (t.take (r.length - 4))) := by
      have := congrArg (List.drop (t.length - 4)) hop
      rw [List.drop_left' (by rw [List.length_take]; omega)] at this
      rw [← hlt]
      exact this.symm
    have hrt : r.take (r.length - 4) = bytesF kind l := by rw [hd, hr]; exact List.take_left' rfl
    have hrd : r.drop (r.length - 4) = le4 (ext 0#32 (bytesF kind l)) := by rw [hd, hr]; exact List.drop_left' rfl
    rw [htd, hrd] at hs
    have he := le4_inj hs
    rw [← hrt] at he
    have heq : t.take (r.length - 4) = r.take (r.length - 4) := by
      refine turned_sum _ _ (by rw [List.length_take, List.length_take, hlt]) (fun x hx => hn.2.1 x (List.mem_of_mem_take hx)) (fun x hx => hbr x (List.mem_of_mem_take hx)) p (fun i hi hne => ?_) _ he
      have hi2 : i < 8 * (r.length - 4) := by rw [List.length_take] at hi; omega
      rw [bitAt_take _ _ _ hi2, bitAt_take _ _ _ hi2] at hne
      exact hn.2.2 i (by omega) hne
    calc t = t.take (r.length - 4) ++ t.drop (r.length - 4) := (List.take_append_drop _ _).symm
      _ = r.take (r.length - 4) ++ r.drop (r.length - 4) := by rw [htd, hrd, heq, hrt]
      _ = r := List.take_append_drop _ _
  · rintro rfl
    have := back (more := []) hw
    rw [List.append_nil] at this
    rw [this]
    exact ⟨rfl, by simp only; omega⟩
end Go.Proofs.Ytagjnjdaookdgaa.H
