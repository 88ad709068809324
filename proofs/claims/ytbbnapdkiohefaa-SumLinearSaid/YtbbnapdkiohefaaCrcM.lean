/- Plain mathematics of the check sum: the register's turns, the table, the sum of bytes. No program. -/
import Derived.Laws.BitsLemmas
import Derived.Laws.Entries
namespace Go.Proofs.Ytbbnapdkiohefaa.CrcM
open Go

def poly : BitVec 32 := 0x82F63B78#32
def stp (r : BitVec 32) : BitVec 32 := if r.getLsbD 0 then (r >>> 1) ^^^ poly else r >>> 1
def stps : Nat → BitVec 32 → BitVec 32
  | 0, r => r
  | k + 1, r => stp (stps k r)
def v32 (r : BitVec 32) : Int := (r.toNat : Int)
def tab (i : Nat) : BitVec 32 := stps 8 (BitVec.ofNat 32 i)
/-- The table's place of a byte: both are held against each other, as eight bits. -/
def xb (r : BitVec 32) (c : Int) : Nat := (bits .xor .u8 (v32 r % 256) c).toNat
def byt (r : BitVec 32) (c : Int) : BitVec 32 := tab (xb r c) ^^^ (r >>> 8)
def run (r : BitVec 32) (l : List Int) : BitVec 32 := l.foldl byt r
def ext (s : BitVec 32) (l : List Int) : BitVec 32 := ~~~ (run (~~~ s) l)

theorem v32_lo (r : BitVec 32) : 0 ≤ v32 r := Int.natCast_nonneg _
theorem v32_hi (r : BitVec 32) : v32 r < 4294967296 := by unfold v32; have := r.isLt; omega
theorem v32_ofNat (n : Nat) (h : n < 4294967296) : v32 (BitVec.ofNat 32 n) = n := by
  unfold v32; rw [BitVec.toNat_ofNat, Nat.mod_eq_of_lt (by omega)]

theorem bits32 (r : BitVec 32) : BitVec.ofInt 32 (v32 r) = r := by
  unfold v32; rw [BitVec.ofInt_natCast, BitVec.ofNat_toNat, BitVec.setWidth_eq]
theorem v32_ofInt (n : Int) (h0 : 0 ≤ n) (h1 : n < 4294967296) : v32 (BitVec.ofInt 32 n) = n := by
  obtain ⟨a, rfl⟩ := Int.eq_ofNat_of_zero_le h0
  rw [BitVec.ofInt_natCast]; exact v32_ofNat a (by omega)
theorem wrap_v32 (r : BitVec 32) : IntKind.u32.wrap (v32 r) = v32 r := by
  rw [IntKind.wrap_u32]; have := v32_lo r; have := v32_hi r; omega
theorem and_v32 (a b : BitVec 32) : bits .and .u32 (v32 a) (v32 b) = v32 (a &&& b) := by
  have h := wrap_v32 (a &&& b); unfold v32 at h; simp only [bits, IntKind.bits, bits32]; exact h
theorem xor_v32 (a b : BitVec 32) : bits .xor .u32 (v32 a) (v32 b) = v32 (a ^^^ b) := by
  have h := wrap_v32 (a ^^^ b); unfold v32 at h; simp only [bits, IntKind.bits, bits32]; exact h
theorem shr_v32 (a : BitVec 32) (k : Nat) : v32 a / (2 ^ k : Nat) = v32 (a >>> k) := by
  unfold v32; rw [BitVec.toNat_ushiftRight, Nat.shiftRight_eq_div_pow]; norm_cast

theorem lsb_and (r : BitVec 32) : bits .and .u32 (v32 r) 1 = if r.getLsbD 0 then 1 else 0 := by
  have h : (1 : Int) = v32 1#32 := rfl
  have h2 : r &&& 1#32 = if r.getLsbD 0 then 1#32 else 0#32 := by
    apply BitVec.eq_of_getLsbD_eq; intro i hi
    cases i with
    | zero => rw [BitVec.getLsbD_and]; cases h : r.getLsbD 0 <;> rfl
    | succ n => rw [BitVec.getLsbD_and]; cases h : r.getLsbD 0 <;> simp [BitVec.getLsbD_one]
  rw [h, and_v32, h2]
  cases r.getLsbD 0 <;> rfl
theorem xor_poly (r : BitVec 32) : bits .xor .u32 (v32 r / 2) 2197175160 = v32 ((r >>> 1) ^^^ poly) := by
  have h : (2197175160 : Int) = v32 poly := rfl
  have h2 := shr_v32 r 1
  rw [h, show (2 : Int) = ((2 ^ 1 : Nat) : Int) from rfl, h2, xor_v32]
theorem half (r : BitVec 32) : v32 r / (2 : Int) = v32 (r >>> 1) := shr_v32 r 1
theorem stp_odd (r : BitVec 32) (h : r.getLsbD 0 = true) : bits .xor .u32 (v32 r / 2) 2197175160 = v32 (stp r) := by rw [xor_poly, stp, if_pos h]
theorem stp_even (r : BitVec 32) (h : r.getLsbD 0 = false) : v32 r / 2 = v32 (stp r) := by have := half r; rw [this, stp, if_neg (by rw [h]; decide)]
theorem xb_int (r : BitVec 32) (c : Int) : bits .xor .u8 (v32 r % 256) c = (xb r c : Int) ∧ xb r c < 256 := by
  have h := IntKind.wrap_u8 (((BitVec.ofInt 8 (v32 r % 256)) ^^^ (BitVec.ofInt 8 c)).toNat : Int)
  have e : bits .xor .u8 (v32 r % 256) c = IntKind.u8.wrap (((BitVec.ofInt 8 (v32 r % 256)) ^^^ (BitVec.ofInt 8 c)).toNat : Int) := rfl
  unfold xb
  rw [e, h]
  omega
theorem byt_int (r : BitVec 32) (c : Int) : bits .xor .u32 (v32 (tab (xb r c))) (v32 r / 256) = v32 (byt r c) := by
  have h := shr_v32 r 8
  have h2 : v32 r / (256 : Int) = v32 (r >>> 8) := h
  rw [h2, xor_v32, byt]
theorem not_v32 (r : BitVec 32) : IntKind.u32.wrap (-1 - v32 r) = v32 (~~~ r) := by
  rw [IntKind.wrap_u32]; unfold v32; rw [BitVec.toNat_not]; have := r.isLt; omega
theorem flip_v32 (r : BitVec 32) : bits .xor .u32 IntKind.u32.max (v32 r) = v32 (~~~ r) := by
  have h : IntKind.u32.max = v32 (BitVec.allOnes 32) := by decide
  rw [h, xor_v32]
  congr 1
theorem run_snoc (r : BitVec 32) (l : List Int) (c : Int) : run r (l ++ [c]) = byt (run r l) c := by simp [run]

/-! ### Bit by bit -/
theorem stp_xor (a b : BitVec 32) : stp (a ^^^ b) = stp a ^^^ stp b := by
  unfold stp
  rw [BitVec.getLsbD_xor, BitVec.ushiftRight_xor_distrib]
  cases a.getLsbD 0 <;> cases b.getLsbD 0 <;> simp only [Bool.xor_false, Bool.xor_true, Bool.not_true, Bool.not_false, if_true, Bool.false_eq_true, if_false]
  · rw [BitVec.xor_assoc]
  · rw [BitVec.xor_assoc, BitVec.xor_assoc, BitVec.xor_comm poly]
  · rw [BitVec.xor_assoc, BitVec.xor_comm (b >>> 1) poly, ← BitVec.xor_assoc poly, BitVec.xor_self, BitVec.zero_xor]
theorem stps_xor (k : Nat) (a b : BitVec 32) : stps k (a ^^^ b) = stps k a ^^^ stps k b := by
  induction k with
  | zero => rfl
  | succ k ih => simp only [stps, ih, stp_xor]
theorem stps_zero (k : Nat) : stps k 0#32 = 0#32 := by
  induction k with
  | zero => rfl
  | succ k ih => rw [stps, ih]; rfl
theorem stps_add (j k : Nat) (r : BitVec 32) : stps (j + k) r = stps j (stps k r) := by
  induction j with
  | zero => rw [Nat.zero_add]; rfl
  | succ j ih => rw [Nat.succ_add, stps, ih]; rfl
/-- Where the lowest bits are 0 the turns are shifts. -/
theorem stps_low (k : Nat) (r : BitVec 32) (h : ∀ i, i < k → r.getLsbD i = false) : stps k r = r >>> k := by
  induction k with
  | zero => simp [stps]
  | succ k ih =>
    rw [stps, ih (fun i hi => h i (by omega)), stp, if_neg (by rw [BitVec.getLsbD_ushiftRight, Nat.add_zero, h k (by omega)]; decide), ← BitVec.shiftRight_add]
/-- The register after j bits of c. -/
def ser (r c : BitVec 32) (j : Nat) : BitVec 32 := stps j (r ^^^ c) ^^^ (c >>> j)
theorem ser_zero (r c : BitVec 32) : ser r c 0 = r := by
  simp only [ser, stps, BitVec.ushiftRight_zero]
  rw [BitVec.xor_assoc, BitVec.xor_self, BitVec.xor_zero]
theorem ser_lsb (r c : BitVec 32) (j : Nat) : (ser r c j).getLsbD 0 = ((stps j (r ^^^ c)).getLsbD 0 != c.getLsbD j) := by
  rw [ser, BitVec.getLsbD_xor, BitVec.getLsbD_ushiftRight, Nat.add_zero]
theorem ser_succ (r c : BitVec 32) (j : Nat) : ser r c (j + 1) = if (c.getLsbD j != (ser r c j).getLsbD 0) = true then ((ser r c j) >>> 1) ^^^ poly else (ser r c j) >>> 1 := by
  have hb : (c.getLsbD j != (ser r c j).getLsbD 0) = (stps j (r ^^^ c)).getLsbD 0 := by
    rw [ser_lsb]; cases (stps j (r ^^^ c)).getLsbD 0 <;> cases c.getLsbD j <;> rfl
  have hs : (ser r c j) >>> 1 = (stps j (r ^^^ c)) >>> 1 ^^^ c >>> (j + 1) := by
    rw [ser, BitVec.ushiftRight_xor_distrib, ← BitVec.shiftRight_add]
  rw [hb, hs]
  show stp (stps j (r ^^^ c)) ^^^ c >>> (j + 1) = _
  unfold stp
  cases (stps j (r ^^^ c)).getLsbD 0
  · simp only [Bool.false_eq_true, if_false]
  · simp only [if_true]
    rw [BitVec.xor_assoc, BitVec.xor_assoc, BitVec.xor_comm poly]
def c32 (c : Int) : BitVec 32 := BitVec.ofInt 32 c
theorem c32_toNat (c : Int) (h0 : 0 ≤ c) (h1 : c < 256) : (c32 c).toNat = c.toNat := by
  obtain ⟨n, rfl⟩ := Int.eq_ofNat_of_zero_le h0
  unfold c32; rw [BitVec.ofInt_natCast, BitVec.toNat_ofNat, Int.toNat_natCast, Nat.mod_eq_of_lt (by omega)]
theorem c32_shr (c : Int) (h0 : 0 ≤ c) (h1 : c < 256) (k : Nat) (hk : 8 ≤ k) : c32 c >>> k = 0#32 := by
  apply BitVec.eq_of_toNat_eq
  rw [BitVec.toNat_ushiftRight, c32_toNat c h0 h1, Nat.shiftRight_eq_div_pow]
  have : c.toNat < 2 ^ k := Nat.lt_of_lt_of_le (by omega : c.toNat < 2 ^ 8) (Nat.pow_le_pow_right (by decide) hk)
  rw [Nat.div_eq_of_lt this]; rfl
theorem ser_eight (r : BitVec 32) (c : Int) (h0 : 0 ≤ c) (h1 : c < 256) : ser r (c32 c) 8 = byt r c := by
  have hx : ((xb r c : Nat) : Int) = ((r.toNat % 256) ^^^ c.toNat : Nat) := by
    have := (xb_int r c).1
    rw [← this]
    have e1 : v32 r % 256 = ((r.toNat % 256 : Nat) : Int) := by unfold v32; omega
    obtain ⟨n, rfl⟩ := Int.eq_ofNat_of_zero_le h0
    rw [e1]
    have e2 : bits .xor .u8 ((r.toNat % 256 : Nat) : Int) (n : Int) = IntKind.u8.wrap (((BitVec.ofInt 8 ((r.toNat % 256 : Nat) : Int)) ^^^ (BitVec.ofInt 8 (n : Int))).toNat : Int) := rfl
    rw [e2, IntKind.wrap_u8, BitVec.ofInt_natCast, BitVec.ofInt_natCast, BitVec.toNat_xor, BitVec.toNat_ofNat, BitVec.toNat_ofNat, Int.toNat_natCast]
    have m1 : r.toNat % 256 % 2 ^ 8 = r.toNat % 256 := Nat.mod_eq_of_lt (by omega)
    have m2 : n % 2 ^ 8 = n := Nat.mod_eq_of_lt (by omega)
    rw [m1, m2]
    have : (r.toNat % 256) ^^^ n < 2 ^ 8 := Nat.xor_lt_two_pow (by omega) (by omega)
    omega
  have hxn : xb r c = (r.toNat % 256) ^^^ c.toNat := by exact_mod_cast hx
  rw [ser, c32_shr c h0 h1 8 (by omega), BitVec.xor_zero, byt, tab, hxn]
  -- the register is its low byte and the rest
  have hsp : r ^^^ c32 c = BitVec.ofNat 32 ((r.toNat % 256) ^^^ c.toNat) ^^^ (r >>> 8 <<< 8) := by
    apply BitVec.eq_of_getLsbD_eq
    intro i hi
    rw [BitVec.getLsbD_xor, BitVec.getLsbD_xor, BitVec.getLsbD_shiftLeft, BitVec.getLsbD_ofNat, Nat.testBit_xor]
    have e3 : (c32 c).getLsbD i = c.toNat.testBit i := by
      rw [← c32_toNat c h0 h1]; rfl
    have e4 : (r.toNat % 256).testBit i = (decide (i < 8) && r.getLsbD i) := by
      rw [show (256 : Nat) = 2 ^ 8 from rfl, Nat.testBit_mod_two_pow]; rfl
    rw [e3, e4]
    by_cases h8 : i < 8
    · simp [h8, hi]
    · have hc : c.toNat.testBit i = false := Nat.testBit_lt_two_pow (Nat.lt_of_lt_of_le (by omega : c.toNat < 2 ^ 8) (Nat.pow_le_pow_right (by decide) (by omega)))
      have e5 : (r >>> 8).getLsbD (i - 8) = r.getLsbD i := by rw [BitVec.getLsbD_ushiftRight]; congr 1; omega
      rw [hc, e5]
      simp [h8, hi]
  rw [hsp, stps_xor]
  congr 1
  rw [stps_low 8 _ (fun i hi => by rw [BitVec.getLsbD_shiftLeft]; simp [hi])]
  apply BitVec.eq_of_getLsbD_eq
  intro i hi
  rw [BitVec.getLsbD_ushiftRight, BitVec.getLsbD_shiftLeft]
  by_cases h : 8 + i < 32
  · have e : 8 + i - 8 = i := by omega
    rw [e]; simp [h]
  · simp [h]; rw [BitVec.getLsbD_of_ge]; omega
theorem bit_c (c : Int) (h0 : 0 ≤ c) (h1 : c < 256) (j : Nat) : bits .and .u32 (c / 2 ^ j % 4294967296) 1 = if (c32 c).getLsbD j then 1 else 0 := by
  have e : c / 2 ^ j % 4294967296 = v32 (c32 c >>> j) := by
    have h := shr_v32 (c32 c) j
    have hv : v32 (c32 c) = c := by unfold v32; rw [c32_toNat c h0 h1]; omega
    rw [hv] at h
    have hp : ((2 ^ j : Nat) : Int) = (2 : Int) ^ j := by simp
    rw [hp] at h
    have h2 := v32_lo (c32 c >>> j)
    have h3 := v32_hi (c32 c >>> j)
    rw [h]; omega
  rw [e, lsb_and, BitVec.getLsbD_ushiftRight, Nat.add_zero]
theorem neq_c (c : Int) (h0 : 0 ≤ c) (h1 : c < 256) (j : Nat) (q : BitVec 32) : (bits .and .u32 (c / 2 ^ j % 4294967296) 1 != bits .and .u32 (v32 q) 1) = ((c32 c).getLsbD j != q.getLsbD 0) := by
  rw [bit_c c h0 h1, lsb_and]
  cases (c32 c).getLsbD j <;> cases q.getLsbD 0 <;> rfl
theorem half_t (q : BitVec 32) : (v32 q).tdiv (2 : Int) % (4294967296 : Int) = v32 (q >>> 1) := by
  have h := half q
  have h0 := v32_lo q
  have e : (v32 q).tdiv (2 : Int) = v32 q / (2 : Int) := Int.tdiv_eq_ediv_of_nonneg h0
  rw [e, h]
  exact Int.emod_eq_of_lt (v32_lo _) (v32_hi _)
theorem half_tx (q : BitVec 32) : bits .xor .u32 ((v32 q).tdiv (2 : Int) % (4294967296 : Int)) (2197175160 : Int) = v32 (q >>> 1 ^^^ poly) := by
  rw [half_t, ← xor_poly, half]
theorem xor_all (q : BitVec 32) : bits .xor .u32 (v32 q) 4294967295 = v32 (~~~ q) := by
  have h : (4294967295 : Int) = v32 (BitVec.allOnes 32) := by decide
  rw [h, xor_v32, BitVec.xor_comm]
  congr 1
end Go.Proofs.Ytbbnapdkiohefaa.CrcM
