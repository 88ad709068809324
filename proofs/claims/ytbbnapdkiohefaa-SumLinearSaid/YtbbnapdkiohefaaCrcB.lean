/- Plain mathematics: a run of at most 32 turned bits is never missed by the sum; the sum is linear. -/
import Derived.Test.YtbbnapdkiohefaaCrcM
namespace Go.Proofs.Ytbbnapdkiohefaa.CrcM
open Go

def bstep (d : BitVec 32) (b : Bool) : BitVec 32 := stp (if b = true then d ^^^ 1#32 else d)
def brun (d : BitVec 32) (bs : List Bool) : BitVec 32 := bs.foldl bstep d
theorem brun_append (d : BitVec 32) (a b : List Bool) : brun d (a ++ b) = brun (brun d a) b := by simp [brun]
theorem shr_one (d : BitVec 32) : (d ^^^ 1#32) >>> 1 = d >>> 1 := by
  rw [BitVec.ushiftRight_xor_distrib]
  have : (1#32 : BitVec 32) >>> 1 = 0#32 := by decide
  rw [this, BitVec.xor_zero]
theorem bstep_eq (d : BitVec 32) (b : Bool) : bstep d b = if (b != d.getLsbD 0) = true then (d >>> 1) ^^^ poly else d >>> 1 := by
  have h1 : (d ^^^ 1#32).getLsbD 0 = !d.getLsbD 0 := by rw [BitVec.getLsbD_xor]; simp
  unfold bstep stp
  cases b
  · simp only [Bool.false_eq_true, if_false]
    cases d.getLsbD 0 <;> rfl
  · simp only [if_true]
    rw [h1, shr_one]
    cases d.getLsbD 0 <;> rfl
theorem brun_ser (d c : BitVec 32) (n : Nat) : brun d ((List.range n).map c.getLsbD) = ser d c n := by
  induction n with
  | zero => rw [ser_zero]; rfl
  | succ n ih =>
    rw [List.range_succ, List.map_append, brun_append, ih, ser_succ]
    exact bstep_eq _ _
/-- Eight bits of both bytes, held against each other. -/
def dbits (x y : Int) : List Bool := (List.range 8).map (c32 x ^^^ c32 y).getLsbD
theorem byt_stps (r : BitVec 32) (c : Int) (h0 : 0 ≤ c) (h1 : c < 256) : byt r c = stps 8 (r ^^^ c32 c) := by
  rw [← ser_eight r c h0 h1, ser, c32_shr c h0 h1 8 (by omega), BitVec.xor_zero]
theorem byt_diff (r s : BitVec 32) (x y : Int) (hx : 0 ≤ x ∧ x < 256) (hy : 0 ≤ y ∧ y < 256) : byt r x ^^^ byt s y = brun (r ^^^ s) (dbits x y) := by
  rw [byt_stps r x hx.1 hx.2, byt_stps s y hy.1 hy.2, ← stps_xor, dbits, brun_ser, ser, BitVec.ushiftRight_xor_distrib, c32_shr x hx.1 hx.2 8 (by omega), c32_shr y hy.1 hy.2 8 (by omega)]
  rw [show (0#32 ^^^ 0#32 : BitVec 32) = 0#32 from rfl, BitVec.xor_zero]
  congr 1
  rw [BitVec.xor_assoc, BitVec.xor_assoc, ← BitVec.xor_assoc (c32 x), BitVec.xor_comm (c32 x) s, BitVec.xor_assoc s]
def Byt (l : List Int) : Prop := ∀ x ∈ l, 0 ≤ x ∧ x < 256
def diffs : List Int → List Int → List Bool
  | x :: xs, y :: ys => dbits x y ++ diffs xs ys
  | _, _ => []
theorem run_diff : ∀ (a b : List Int) (r s : BitVec 32), a.length = b.length → Byt a → Byt b → run r a ^^^ run s b = brun (r ^^^ s) (diffs a b)
  | [], [], r, s, _, _, _ => rfl
  | x :: xs, y :: ys, r, s, hl, ha, hb => by
    have h := run_diff xs ys (byt r x) (byt s y) (by simpa using hl) (fun z hz => ha z (List.mem_cons_of_mem _ hz)) (fun z hz => hb z (List.mem_cons_of_mem _ hz))
    rw [byt_diff r s x y (ha x List.mem_cons_self) (hb y List.mem_cons_self)] at h
    rw [diffs, brun_append]
    exact h
  | [], _ :: _, _, _, hl, _, _ => by simp at hl
  | _ :: _, [], _, _, hl, _, _ => by simp at hl
theorem diffs_length : ∀ (a b : List Int), a.length = b.length → (diffs a b).length = 8 * a.length
  | [], [], _ => rfl
  | x :: xs, y :: ys, hl => by
    rw [diffs, List.length_append, diffs_length xs ys (by simpa using hl)]
    simp [dbits]; omega
  | [], _ :: _, hl => by simp at hl
  | _ :: _, [], hl => by simp at hl

theorem stp_zero (x : BitVec 32) (h : stp x = 0#32) : x = 0#32 := by
  unfold stp at h
  cases hb : x.getLsbD 0
  · rw [hb, if_neg (by decide)] at h
    apply BitVec.eq_of_getLsbD_eq
    intro i hi
    rw [BitVec.getLsbD_zero]
    cases i with
    | zero => exact hb
    | succ n =>
      have := congrArg (fun z => z.getLsbD n) h
      simp only [BitVec.getLsbD_ushiftRight, BitVec.getLsbD_zero] at this
      rw [Nat.add_comm] at this; exact this
  · rw [hb, if_pos rfl] at h
    have := congrArg (fun z => z.getLsbD 31) h
    rw [BitVec.getLsbD_xor, BitVec.getLsbD_ushiftRight, BitVec.getLsbD_of_ge x (1 + 31) (by omega)] at this
    exact absurd this (by decide)
theorem stps_inj (k : Nat) (x : BitVec 32) (h : stps k x = 0#32) : x = 0#32 := by
  induction k with
  | zero => exact h
  | succ k ih => exact ih (stp_zero _ h)
theorem brun_false (n : Nat) (d : BitVec 32) : brun d (List.replicate n false) = stps n d := by
  induction n generalizing d with
  | zero => rfl
  | succ n ih =>
    rw [List.replicate_succ]
    show brun (bstep d false) (List.replicate n false) = _
    rw [ih, show bstep d false = stp d by simp [bstep]]
    clear ih
    induction n with
    | zero => rfl
    | succ n ih => rw [stps, ih]; rfl
/-- The word of a row of bits. -/
def word (bs : List Bool) : BitVec 32 := (BitVec.ofBoolListLE bs).setWidth 32
theorem word_bit (bs : List Bool) (i : Nat) (hi : i < 32) : (word bs).getLsbD i = bs.getD i false := by
  unfold word; rw [BitVec.getLsbD_setWidth, BitVec.getLsbD_ofBoolListLE]; simp [hi]
theorem range_word (bs : List Bool) (h : bs.length ≤ 32) : (List.range bs.length).map (word bs).getLsbD = bs := by
  apply List.ext_getElem
  · simp
  · intro i h1 h2
    rw [List.getElem_map, List.getElem_range, word_bit bs i (by omega), List.getD_eq_getElem?_getD, List.getElem?_eq_getElem h2]
    rfl
theorem all_false {bs : List Bool} (h : ∀ i, bs.getD i false = false) : bs = List.replicate bs.length false := by
  apply List.ext_getElem
  · simp
  · intro i h1 h2
    have := h i
    rw [List.getD_eq_getElem?_getD, List.getElem?_eq_getElem h1] at this
    rw [List.getElem_replicate]; exact this
theorem burst (bs : List Bool) (p : Nat) (hw : ∀ i, bs.getD i false = true → p ≤ i ∧ i < p + 32) (h : brun 0#32 bs = 0#32) : ∀ i, bs.getD i false = false := by
  have hget : ∀ (l : List Bool) (k i : Nat), (l.drop k).getD i false = l.getD (k + i) false := by intro l k i; simp [List.getD_eq_getElem?_getD]
  have hf : ∀ i, (i < p ∨ p + 32 ≤ i) → bs.getD i false = false := by
    intro i hi
    cases hb : bs.getD i false
    · rfl
    · have := hw i hb; omega
  have h1 : bs.take p = List.replicate (bs.take p).length false := all_false (fun i => by
    rw [List.getD_eq_getElem?_getD, List.getElem?_take]
    split
    · have := hf i (.inl ‹_›); rw [List.getD_eq_getElem?_getD] at this; exact this
    · rfl)
  have h2 : (bs.drop p).drop 32 = List.replicate ((bs.drop p).drop 32).length false := all_false (fun i => by
    rw [hget, hget]; exact hf _ (.inr (by omega)))
  have hsplit : bs = bs.take p ++ ((bs.drop p).take 32 ++ (bs.drop p).drop 32) := by rw [List.take_append_drop, List.take_append_drop]
  rw [hsplit, brun_append, brun_append, h1, brun_false, stps_zero, h2, brun_false] at h
  have hz := stps_inj _ _ h
  have hl : ((bs.drop p).take 32).length ≤ 32 := List.length_take_le _ _
  have hr := range_word _ hl
  generalize hms : (bs.drop p).take 32 = ms at hz hl hr
  rw [← hr, brun_ser, ser, BitVec.zero_xor] at hz
  have hsh : word ms >>> ms.length = 0#32 := by
    apply BitVec.eq_of_getLsbD_eq
    intro i hi
    rw [BitVec.getLsbD_ushiftRight, BitVec.getLsbD_zero]
    by_cases h32 : ms.length + i < 32
    · rw [word_bit _ _ h32, List.getD_eq_getElem?_getD, List.getElem?_eq_none (by omega)]; rfl
    · rw [BitVec.getLsbD_of_ge]; omega
  rw [hsh, BitVec.xor_zero] at hz
  have hword := stps_inj _ _ hz
  intro i
  by_cases hi : i < p
  · exact hf i (.inl hi)
  · by_cases hi2 : p + 32 ≤ i
    · exact hf i (.inr hi2)
    · have hb := word_bit ms (i - p) (by omega)
      rw [hword, BitVec.getLsbD_zero, ← hms, List.getD_eq_getElem?_getD, List.getElem?_take, if_pos (by omega), List.getElem?_drop, show p + (i - p) = i by omega] at hb
      rw [List.getD_eq_getElem?_getD]; exact hb.symm

/-- Bit p of a row of bytes. -/
def bitAt (l : List Int) (p : Nat) : Bool := (c32 (l.getD (p / 8) 0)).getLsbD (p % 8)
theorem diffs_get : ∀ (a b : List Int), a.length = b.length → ∀ p, p < 8 * a.length → (diffs a b).getD p false = (bitAt a p != bitAt b p)
  | [], [], _, p, hp => by simp at hp
  | x :: xs, y :: ys, hl, p, hp => by
    have hd : (dbits x y).length = 8 := by simp [dbits]
    rw [diffs, List.getD_eq_getElem?_getD]
    by_cases h8 : p < 8
    · rw [List.getElem?_append_left (by omega)]
      have e1 : p / 8 = 0 := by omega
      have e2 : p % 8 = p := by omega
      simp [dbits, h8, bitAt, e1, e2]
    · rw [List.getElem?_append_right (by omega), hd]
      have ih := diffs_get xs ys (by simpa using hl) (p - 8) (by simp at hp; omega)
      rw [List.getD_eq_getElem?_getD] at ih
      rw [ih]
      have e1 : p / 8 = (p - 8) / 8 + 1 := by omega
      have e2 : p % 8 = (p - 8) % 8 := by omega
      simp [bitAt, e1, e2]
  | [], _ :: _, hl, _, _ => by simp at hl
  | _ :: _, [], hl, _, _ => by simp at hl
theorem byte_ext (x y : Int) (hx : 0 ≤ x ∧ x < 256) (hy : 0 ≤ y ∧ y < 256) (h : ∀ j, j < 8 → (c32 x).getLsbD j = (c32 y).getLsbD j) : x = y := by
  have e : c32 x = c32 y := by
    apply BitVec.eq_of_getLsbD_eq
    intro i hi
    by_cases h8 : i < 8
    · exact h i h8
    · have hx8 : (c32 x).getLsbD i = false := by
        have := congrArg (fun z => z.getLsbD (i - 8)) (c32_shr x hx.1 hx.2 8 (by omega))
        simp only [BitVec.getLsbD_ushiftRight, BitVec.getLsbD_zero] at this
        rw [show 8 + (i - 8) = i by omega] at this; exact this
      have hy8 : (c32 y).getLsbD i = false := by
        have := congrArg (fun z => z.getLsbD (i - 8)) (c32_shr y hy.1 hy.2 8 (by omega))
        simp only [BitVec.getLsbD_ushiftRight, BitVec.getLsbD_zero] at this
        rw [show 8 + (i - 8) = i by omega] at this; exact this
      rw [hx8, hy8]
  have := congrArg BitVec.toNat e
  rw [c32_toNat x hx.1 hx.2, c32_toNat y hy.1 hy.2] at this
  omega
/-- Bits turned within a run of 32 turn the sum. -/
theorem turned_sum (a b : List Int) (hl : a.length = b.length) (ha : Byt a) (hb : Byt b) (p : Nat) (hw : ∀ i, i < 8 * a.length → bitAt a i ≠ bitAt b i → p ≤ i ∧ i < p + 32) (s : BitVec 32) (he : ext s a = ext s b) : a = b := by
  have hr : run (~~~ s) a ^^^ run (~~~ s) b = 0#32 := by
    have := congrArg (fun z => ~~~ z) he
    simp only [ext, BitVec.not_not] at this
    rw [this, BitVec.xor_self]
  rw [run_diff a b _ _ hl ha hb, BitVec.xor_self] at hr
  have hall := burst (diffs a b) p (fun i hi => by
    by_cases h8 : i < 8 * a.length
    · rw [diffs_get a b hl i h8] at hi
      exact hw i h8 (by simpa using hi)
    · rw [List.getD_eq_getElem?_getD, List.getElem?_eq_none (by rw [diffs_length a b hl]; omega)] at hi
      cases hi) hr
  apply List.ext_getElem hl
  intro i h1 h2
  apply byte_ext _ _ (ha _ (List.getElem_mem h1)) (hb _ (List.getElem_mem h2))
  intro j hj
  have h := hall (8 * i + j)
  rw [diffs_get a b hl _ (by omega)] at h
  have e1 : (8 * i + j) / 8 = i := by omega
  have e2 : (8 * i + j) % 8 = j := by omega
  have h' : bitAt a (8 * i + j) = bitAt b (8 * i + j) := by simpa using h
  unfold bitAt at h'
  rw [e1, e2, List.getD_eq_getElem?_getD, List.getD_eq_getElem?_getD, List.getElem?_eq_getElem h1, List.getElem?_eq_getElem h2] at h'
  exact h'
end Go.Proofs.Ytbbnapdkiohefaa.CrcM
