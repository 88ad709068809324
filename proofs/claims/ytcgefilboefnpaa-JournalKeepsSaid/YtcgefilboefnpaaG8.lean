/- Some texts of one seat in one file, in build order. -/
import Derived.Test.YtcgefilboefnpaaG6
import Derived.Test.YtcgefilboefnpaaG4
import Derived.Lib.EndianBits
/- Plain mathematics of the codec: whole numbers as bytes, and back. No program. -/
namespace Go.Proofs.Ytcgefilboefnpaa.H
open Go.RowKit Go.Proofs.YtcgefilboefnpaaW.PrintWords Go.Proofs.YtcgefilboefnpaaW.PrintLast Go.Proofs.YtcgefilboefnpaaW.PrintMore Go.Proofs.Ytcgefilboefnpaa.CrcM
set_option linter.unusedVariables false

/-- A whole number as bytes (so many behind the first one at most). -/
def uintL : Nat → Nat → List Int
  | 0, n => [(n : Int)]
  | k + 1, n => if n < 128 then [(n : Int)] else ((n % 128 + 128 : Nat) : Int) :: uintL k (n / 128)
def uintB (n : Nat) : List Int := uintL 9 n
/-- How many bytes a whole number has; the error's number. -/
def lenL : List Int → Nat → Int × Int
  | [], _ => (0, 21)
  | c :: t, i => if i = 10 ∨ i = 9 ∧ c > 1 then (0, 20) else if c ≥ 128 then lenL t (i + 1) else if c = 0 ∧ i > 0 then (0, 20) else ((i : Int) + 1, 0)
/-- The number of bytes. -/
def valL : List Int → Nat → Int
  | [], _ => 0
  | c :: t, i => c % 128 * 2 ^ (7 * i) + valL t (i + 1)
/-- What is left behind a whole number and the error's number; the number. -/
def takeU (s : List Int × Int) : (List Int × Int) × Int :=
  if s.2 ≠ 0 then (s, 0) else if (lenL s.1 0).2 ≠ 0 then (([], (lenL s.1 0).2), 0) else ((s.1.drop (lenL s.1 0).1.toNat, 0), valL (s.1.take (lenL s.1 0).1.toNat) 0)

theorem uintL_len (k : Nat) : ∀ n, 1 ≤ (uintL k n).length ∧ (uintL k n).length ≤ k + 1 := by
  induction k with
  | zero => intro n; simp [uintL]
  | succ k ih =>
    intro n
    unfold uintL
    split
    · simp
    · have := ih (n / 128); simp; omega
theorem uintB_len (n : Nat) : 1 ≤ (uintB n).length ∧ (uintB n).length ≤ 10 := uintL_len 9 n
theorem uintL_succ {k n : Nat} (h : ¬ n < 128) : uintL (k + 1) n = ((n % 128 + 128 : Nat) : Int) :: uintL k (n / 128) := by
  have e : uintL (k + 1) n = if n < 128 then [(n : Int)] else ((n % 128 + 128 : Nat) : Int) :: uintL k (n / 128) := rfl
  rw [e, if_neg h]
theorem uintL_small (k n : Nat) (h : n < 128) : uintL k n = [(n : Int)] := by cases k <;> simp [uintL, h]
theorem uintL_more : ∀ (k n : Nat), n < 128 ^ (k + 1) → uintL (k + 1) n = uintL k n := by
  intro k
  induction k with
  | zero => intro n h; rw [uintL_small _ _ (by simpa using h), uintL_small _ _ (by simpa using h)]
  | succ k ih =>
    intro n h
    have e : uintL (k + 1 + 1) n = if n < 128 then [(n : Int)] else ((n % 128 + 128 : Nat) : Int) :: uintL (k + 1) (n / 128) := rfl
    rw [e]
    conv => rhs; unfold uintL
    rw [ih (n / 128) (by rw [Nat.pow_succ] at h; omega)]
theorem uintB_step (n : Nat) (h : n < 2 ^ 64) (h1 : 128 ≤ n) : uintB n = ((n % 128 + 128 : Nat) : Int) :: uintB (n / 128) := by
  have e : uintB n = if n < 128 then [(n : Int)] else ((n % 128 + 128 : Nat) : Int) :: uintL 8 (n / 128) := rfl
  rw [e, if_neg (by omega)]
  unfold uintB
  rw [uintL_more 8 (n / 128) (by have : (128 : Nat) ^ (8 + 1) = 9223372036854775808 := by decide
                                 rw [this]; omega)]
theorem uintB_small (n : Nat) (h : n < 128) : uintB n = [(n : Int)] := uintL_small 9 n h
theorem bts_uintL (k : Nat) : ∀ n, n < 128 ^ (k + 1) → Bts (uintL k n) := by
  induction k with
  | zero => intro n h x hx; simp [uintL] at hx; omega
  | succ k ih =>
    intro n h
    unfold uintL
    split
    · intro x hx; simp at hx; omega
    · intro x hx
      rcases List.mem_cons.1 hx with rfl | hx
      · omega
      · exact ih (n / 128) (by rw [Nat.pow_succ] at h; omega) x hx
theorem bts_uintB (n : Nat) (h : n < 2 ^ 64) : Bts (uintB n) := bts_uintL 9 n (by have : (128 : Nat) ^ (9 + 1) = 1180591620717411303424 := by decide
                                                                                  rw [this]; omega)
/-- What is written is read as it: the length. -/
theorem lenL_uint (rest : List Int) : ∀ (k n i : Nat), (k = 9 → i = 0) → i + k = 9 → n < 2 ^ (1 + 7 * k) → (0 < i → 0 < n) → lenL (uintL k n ++ rest) i = (((i + (uintL k n).length : Nat) : Int), 0) := by
  intro k
  induction k with
  | zero =>
    intro n i _ hi hn h0
    have hn2 : n < 2 := by simpa using hn
    have : i = 9 := by omega
    subst this
    have := h0 (by omega)
    obtain rfl : n = 1 := by omega
    rfl
  | succ k ih =>
    intro n i hk9 hi hn h0
    by_cases hs : n < 128
    · rw [uintL_small _ _ hs]
      simp only [List.singleton_append, lenL]
      rw [if_neg (by omega), if_neg (by omega), if_neg (by omega)]
      simp
    · have e := uintL_succ hs (k := k)
      rw [e]
      simp only [List.cons_append, lenL]
      rw [if_neg (by omega), if_pos (by omega), ih (n / 128) (i + 1) (by omega) (by omega) ?_ (by omega)]
      · simp; omega
      · have : (2 : Nat) ^ (1 + 7 * (k + 1)) = 2 ^ (1 + 7 * k) * 128 := by rw [show 1 + 7 * (k + 1) = (1 + 7 * k) + 7 by omega, Nat.pow_add]
        rw [this] at hn
        omega
theorem valL_uint : ∀ (k n i : Nat), n < 128 ^ (k + 1) → valL (uintL k n) i = (n : Int) * 2 ^ (7 * i) := by
  intro k
  induction k with
  | zero =>
    intro n i h
    simp only [uintL, valL]
    rw [Int.emod_eq_of_lt (by omega) (by omega)]; omega
  | succ k ih =>
    intro n i h
    by_cases hs : n < 128
    · rw [uintL_small _ _ hs]
      simp only [valL]
      rw [Int.emod_eq_of_lt (by omega) (by omega)]; omega
    · have e := uintL_succ hs (k := k)
      rw [e]
      simp only [valL]
      rw [ih (n / 128) (i + 1) (by rw [Nat.pow_succ] at h; omega)]
      have e2 : ((n % 128 + 128 : Nat) : Int) % 128 = ((n % 128 : Nat) : Int) := by omega
      rw [e2, show (7 * (i + 1)) = 7 * i + 7 by omega, Int.pow_add]
      have e3 : (n : Int) = ((n % 128 : Nat) : Int) + 128 * ((n / 128 : Nat) : Int) := by omega
      conv => rhs; rw [e3]
      rw [Int.add_mul]
      congr 1
      generalize ((n / 128 : Nat) : Int) = q
      rw [show (2 : Int) ^ 7 = 128 by decide, ← Int.mul_assoc, Int.mul_comm 128 q, Int.mul_assoc, Int.mul_assoc, Int.mul_comm 128]
theorem takeU_uint (n : Nat) (h : n < 2 ^ 64) (rest : List Int) : takeU (uintB n ++ rest, 0) = ((rest, 0), (n : Int)) := by
  have hl := lenL_uint rest 9 n 0 (fun _ => rfl) rfl (by simpa using h) (by omega)
  rw [Nat.zero_add] at hl
  unfold takeU
  simp only
  rw [if_neg (by simp)]
  unfold uintB
  rw [hl]
  simp only [ne_eq, not_true, if_false, Int.toNat_natCast, List.take_left, List.drop_left]
  rw [valL_uint 9 n 0 (by have : (128 : Nat) ^ (9 + 1) = 1180591620717411303424 := by decide
                          rw [this]; omega)]
  simp
/-- Where a whole number ends. -/
theorem lenL_ok : ∀ (b : List Int) (i : Nat) (n : Int), i ≤ 10 → lenL b i = (n, 0) → (i : Int) < n ∧ n ≤ i + b.length ∧ n ≤ 10 := by
  intro b
  induction b with
  | nil => intro i n _ h; simp [lenL] at h
  | cons c t ih =>
    intro i n hi0 h
    unfold lenL at h
    split at h
    · simp at h
    · rename_i h10
      split at h
      · have := ih (i + 1) n (by omega) h
        simp only [List.length_cons]; omega
      · split at h
        · simp at h
        · injection h with h _
          simp only [List.length_cons]
          by_cases hi : i ≤ 9
          · omega
          · exfalso; omega
theorem takeU_len (s : List Int × Int) : (takeU s).1.1.length ≤ s.1.length := by
  unfold takeU
  split
  · exact Nat.le_refl _
  · split
    · simp
    · simp
theorem valL_nonneg : ∀ (p : List Int) (i : Nat), 0 ≤ valL p i
  | [], _ => Int.le_refl _
  | c :: t, i => by
    have h1 := valL_nonneg t (i + 1)
    have h2 : (0 : Int) < 2 ^ (7 * i) := Int.pow_pos (by omega)
    have h3 : 0 ≤ c % 128 * 2 ^ (7 * i) := Int.mul_nonneg (Int.emod_nonneg _ (by omega)) (by omega)
    simp only [valL]; omega
theorem takeU_nonneg (s : List Int × Int) : 0 ≤ (takeU s).2 := by
  unfold takeU
  split
  · exact Int.le_refl _
  · split
    · exact Int.le_refl _
    · exact valL_nonneg _ _
theorem lenL_err : ∀ (b : List Int) (i : Nat), (lenL b i).2 = 0 ∨ (lenL b i).2 = 20 ∨ (lenL b i).2 = 21 := by
  intro b
  induction b with
  | nil => intro i; exact .inr (.inr rfl)
  | cons c t ih =>
    intro i
    unfold lenL
    split
    · exact .inr (.inl rfl)
    · split
      · exact ih _
      · split
        · exact .inr (.inl rfl)
        · exact .inl rfl
end Go.Proofs.Ytcgefilboefnpaa.H
/- Package codec: contracts of Out.Uint, Out.Done, From, length, In.Uint, In.fail, In.Err, In.Left. -/
namespace Go.Proofs.Ytcgefilboefnpaa.H
open Go.RowKit Go.Proofs.YtcgefilboefnpaaW.PrintWords Go.Proofs.YtcgefilboefnpaaW.PrintLast Go.Proofs.YtcgefilboefnpaaW.PrintMore Go.Proofs.Ytcgefilboefnpaa.CrcM
set_option linter.unusedVariables false
set_option linter.unusedSimpArgs false

/-- What is written so far, in a box. -/
def OutAt (W : World) (B g : Nat) (l : List Int) : Prop := B ≤ g ∧ ∃ v, W.heap[g]? = some (.cells #[v] 107 (0, 0)) ∧ Kd.R (Kd.int .u8) 5 W B (fun _ => True) v l
theorem OutAt.below {W W' : World} {B g : Nat} {l : List Int} (h : OutAt W B g l) (hb : Below W.heap.size W W') : OutAt W' B g l := by
  obtain ⟨h0, v, h1, h2⟩ := h
  exact ⟨h0, v, blk_belowX h1 hb, Kd.R_below h2 hb⟩
theorem or128 (x : Int) (h0 : 0 ≤ x) (h1 : x < 256) : bits .or .u8 x 128 = x % 128 + 128 := by
  obtain ⟨n, rfl⟩ := Int.eq_ofNat_of_zero_le h0
  have h : ∀ m : Fin 256, bits .or .u8 (m.val : Int) 128 = (m.val : Int) % 128 + 128 := by decide +kernel
  exact h ⟨n, by omega⟩
set_option maxHeartbeats 1600000 in
theorem OUint_calls (g B n : Nat) (l : List Int) (w : World) (h : OutAt w B g l) (hn : n < 2 ^ 64) (hB : B ≤ w.heap.size) (hl : l.length ≤ 1000000) :
    Calls Try.prog 64 #[.pointer (some ⟨g, 0, none⟩), .int .u64 n] w fun e w' => e = .returned (.tuple #[]) ∧ OutAt w' B g (l ++ uintB n) ∧ Below B w w' := by
  have H0 := Aside0.mk h
  have hn' : (n : Int) < 18446744073709551616 := by have := hn; simp at this; omega
  have HN := Aside0.mk hn'
  clear h hn hn'
  go_enter Try.func64, Try.ntmps64
  go_wp2
  go_loopw [1] (fun x wr => ∃ (m : Nat) (pre : List Int), x = .int .u64 (m : Int) ∧ Aside0 ((m : Int) < 18446744073709551616) ∧ pre.length ≤ 10 ∧ Aside0 (uintB n = pre ++ uintB m) ∧ Aside0 (OutAt wr B g (l ++ pre) ∧ Below B w wr)) (fun x _ => (intOf x).toNat)
  case atStart => exact ⟨n, [], rfl, HN, by simp, ⟨rfl⟩, ⟨by simpa using H0.out, Below.refl _ _⟩⟩
  case round =>
    obtain ⟨m, pre, rfl, HM, hpl, HU, HW⟩ := hrel
    obtain ⟨hBg, v, hb, hr⟩ := HW.out.1
    obtain ⟨Av, cv, rfl⟩ := Kd.R_slice hr
    have hl2 : (l ++ pre).length ≤ 1000010 := by rw [List.length_append]; omega
    generalize hLP : l ++ pre = lp at *
    have d0 : wr.cell? ⟨g, 0, none⟩ = some (.slice Av lp.length cv) := (blk_cell hb 0).trans rfl
    have HR := Aside0.mk hr
    have HB := Aside0.mk hb
    have hsz : B ≤ wr.heap.size := Nat.le_trans hB HW.out.2.size
    have HLP := Lib.hid hLP
    have hglt : g < wr.heap.size := lt_of_some hb
    clear hr hb hLP
    by_cases h128 : (128 : Int) ≤ m
    · have b0 : decide ((128 : Int) ≤ (m : Int)) = true := decide_eq_true h128
      have hs := uintB_step m (by have := HM.out; simp; omega) (by omega)
      have HS := Lib.hid hs
      have hlen := (uintB_len n).2
      have hpl2 : pre.length + 1 ≤ 10 := by have h1 := HU.out; rw [hs] at h1; have h2 := congrArg List.length h1; simp at h2; omega
      have hor : bits .or .u8 ((m : Int) % 256) 128 = ((m % 128 + 128 : Nat) : Int) := by rw [or128 _ (by omega) (by omega)]; omega
      clear hs hlen
      go_wp2_with (first
        | ((with_reducible refine gate_builtin (b := .append) (xs := #[.tmp 10, .tmp 14]) rfl ?_); at_builtin; refine Kd.R_append (Kd.int .u8) (w0 := w) B rfl (.tmp 10) (.tmp 14) 32 5 (.int .u8 0) 1 rfl Try.underlying32 info_u8 rfl (by decide) (by omega) _ lp ((m % 128 + 128 : Nat) : Int) [.int .u8 ((m % 128 + 128 : Nat) : Int)] (fun _ => True) (fun _ => False) rfl rfl rfl (fun _ hk => hk.elim) (fun _ _ => trivial) HR.out HW.out.2 hsz (by omega) ?_; intro v7 w7 ho7 hb7 hg7 hat7; obtain ⟨A7, c7, e7⟩ := Kd.R_slice ho7; subst e7; rw [List.length_append, List.length_singleton] at ho7; have hx7 := blk_grown HR.out HB.out (by decide) hg7; have d7 : w7.cell? ⟨g, 0, none⟩ = some (.slice Av lp.length cv) := (blk_cell hx7 0).trans rfl; have f7 := blk_frozen hx7 0; have s7 := blk_lt hx7; have HO7 := Aside0.mk (And.intro ho7 (And.intro hb7 hx7)); clear ho7 hb7 hg7 hat7 hx7))
      have hz := Oth.set w7 ⟨g, 0, none⟩ (.slice A7 (lp.length + 1) c7)
      have hout : OutAt (w7.setCell ⟨g, 0, none⟩ (.slice A7 (lp.length + 1) c7)) B g (lp ++ [((m % 128 + 128 : Nat) : Int)]) := ⟨hBg, _, blk_put HO7.out.2.2 0 _ rfl, R_oth HO7.out.1 HO7.out.2.2 (by decide) hz⟩
      have hbw : Below B w (w7.setCell ⟨g, 0, none⟩ (.slice A7 (lp.length + 1) c7)) := HO7.out.2.1.setCell hBg _
      have hLL : lp ++ [((m % 128 + 128 : Nat) : Int)] = l ++ (pre ++ [((m % 128 + 128 : Nat) : Int)]) := by rw [← HLP.out, List.append_assoc]
      rw [hLL] at hout
      have HX := Aside0.mk (And.intro hout hbw)
      clear hz hout hbw hLL
      go_wp2
      go_roundw
      case rel => exact ⟨m / 128, pre ++ [((m % 128 + 128 : Nat) : Int)], by go_num, ⟨by have := HM.out; omega⟩, by simp; omega, ⟨by rw [HU.out, HS.out, List.append_assoc]; rfl⟩, HX⟩
      case measure => simp [intOf]; omega
    · have b0 : decide ((128 : Int) ≤ (m : Int)) = false := decide_eq_false h128
      have hs := uintB_small m (by omega)
      have HS := Lib.hid hs
      have hmm : (m : Int) % 256 = m := by omega
      clear hs
      go_wp2_with (first
        | ((with_reducible refine gate_builtin (b := .append) (xs := #[.tmp 24, .tmp 27]) rfl ?_); at_builtin; refine Kd.R_append (Kd.int .u8) (w0 := w) B rfl (.tmp 24) (.tmp 27) 32 5 (.int .u8 0) 1 rfl Try.underlying32 info_u8 rfl (by decide) (by omega) _ lp (m : Int) [.int .u8 (m : Int)] (fun _ => True) (fun _ => False) rfl rfl rfl (fun _ hk => hk.elim) (fun _ _ => trivial) HR.out HW.out.2 hsz (by omega) ?_; intro v7 w7 ho7 hb7 hg7 hat7; obtain ⟨A7, c7, e7⟩ := Kd.R_slice ho7; subst e7; rw [List.length_append, List.length_singleton] at ho7; have hx7 := blk_grown HR.out HB.out (by decide) hg7; have d7 : w7.cell? ⟨g, 0, none⟩ = some (.slice Av lp.length cv) := (blk_cell hx7 0).trans rfl; have f7 := blk_frozen hx7 0; have s7 := blk_lt hx7; have HO7 := Aside0.mk (And.intro ho7 (And.intro hb7 hx7)); clear ho7 hb7 hg7 hat7 hx7))
      have hz := Oth.set w7 ⟨g, 0, none⟩ (.slice A7 (lp.length + 1) c7)
      have hout : OutAt (w7.setCell ⟨g, 0, none⟩ (.slice A7 (lp.length + 1) c7)) B g (lp ++ [(m : Int)]) := ⟨hBg, _, blk_put HO7.out.2.2 0 _ rfl, R_oth HO7.out.1 HO7.out.2.2 (by decide) hz⟩
      have hbw : Below B w (w7.setCell ⟨g, 0, none⟩ (.slice A7 (lp.length + 1) c7)) := HO7.out.2.1.setCell hBg _
      have hLL : lp ++ [(m : Int)] = l ++ uintB n := by rw [← HLP.out, List.append_assoc, HU.out, HS.out]
      rw [hLL] at hout
      go_end0
      exact ⟨rfl, hout, hbw⟩
theorem ODone_calls (g B : Nat) (l : List Int) (w : World) (h : OutAt w B g l) (hl : l.length ≤ 1000000) :
    Calls Try.prog 65 #[.pointer (some ⟨g, 0, none⟩)] w fun e w' => ∃ v, e = .returned v ∧ Kd.R (Kd.int .u8) 5 w' w.heap.size (fun _ => True) v l ∧ Below w.heap.size w w' := by
  obtain ⟨hBg, v, hb, hr⟩ := h
  obtain ⟨Av, cv, rfl, hc, hC⟩ := R_C hr
  have d0 : w.cell? ⟨g, 0, none⟩ = some (.slice Av l.length cv) := (blk_cell hb 0).trans rfl
  have HC := Aside0.mk hC
  have hglt : g < w.heap.size := lt_of_some hb
  clear hb hr hC
  go_enter Try.func65, Try.ntmps65
  go_wp2_with (go_at_call 40; refine (Clone_calls _ _ _ _ HC.out hc (by omega)).mono ?_; rintro e w1 ⟨v1, rfl, ho1, hb1⟩; have S := Aside0.mk (And.intro ho1 hb1); clear ho1 hb1)
  go_ret
  exact ⟨_, rfl, S.out⟩

/-- A box of what is read: the bytes that are left, the error's number. -/
def InB (W : World) (g : Nat) (A : Option Addr) (c : Nat) (s : List Int × Int) : Prop := W.heap[g]? = some (.cells #[.slice A s.1.length c, .int .i64 s.2] 132 (0, 0))
def InAt (W : World) (g : Nat) (s : List Int × Int) : Prop := Bts s.1 ∧ ∃ A c, InB W g A c s ∧ s.1.length ≤ c ∧ Kd.C (Kd.int .u8) W A s.1.length s.1 ∧ Ty 5 W A
theorem From_calls (A : Option Addr) (c : Nat) (l : List Int) (w : World) (hC : Kd.C (Kd.int .u8) w A l.length l) (hc : l.length ≤ c) (hl : l.length ≤ 1000000) (hB : Bts l) :
    Calls Try.prog 75 #[.slice A l.length c] w fun e w' => ∃ g, e = .returned (.pointer (some ⟨g, 0, none⟩)) ∧ w.heap.size ≤ g ∧ InAt w' g (l, 0) ∧ Below w.heap.size w w' := by
  have HC := Aside0.mk hC
  clear hC
  go_enter Try.func75, Try.ntmps75
  go_wp2_with (go_at_call 40; refine (Clone_calls _ _ _ _ HC.out hc (by omega)).mono ?_; rintro e w1 ⟨v1, rfl, ho1, hb1⟩; obtain ⟨A1, c1, rfl, hc1, hC1⟩ := R_C ho1; have S := Aside0.mk (And.intro (Ty.of_R ho1) (And.intro hC1 hb1)); clear ho1 hb1 hC1)
  go_ret
  have hbb := below_alloc (Below.refl w1.heap.size w1) (.cells #[.slice A1 l.length c1, .int .i64 0] 132)
  exact ⟨_, rfl, S.out.2.2.size, ⟨hB, A1, c1, blk_new w1 _, hc1, Kd.C_below S.out.2.1 hbb, S.out.1.below hbb⟩, below_step S.out.2.2 hbb⟩
end Go.Proofs.Ytcgefilboefnpaa.H
/- Package codec: contracts of length, In.fail, In.Err, In.Left, In.Uint. -/
namespace Go.Proofs.Ytcgefilboefnpaa.H
open Go.RowKit Go.Proofs.YtcgefilboefnpaaW.PrintWords Go.Proofs.YtcgefilboefnpaaW.PrintLast Go.Proofs.YtcgefilboefnpaaW.PrintMore Go.Proofs.Ytcgefilboefnpaa.CrcM
set_option linter.unusedVariables false
set_option linter.unusedSimpArgs false

theorem drop_rd (l : List Int) (k : Nat) (h : k < l.length) : l.drop k = rd l k :: l.drop (k + 1) := by
  rw [List.drop_eq_getElem_cons h]; simp [rd, h]
theorem lenL_cons (c : Int) (t : List Int) (i : Nat) : lenL (c :: t) i = if i = 10 ∨ i = 9 ∧ c > 1 then (0, 20) else if c ≥ 128 then lenL t (i + 1) else if c = 0 ∧ i > 0 then (0, 20) else ((i : Int) + 1, 0) := rfl
set_option maxHeartbeats 1600000 in
theorem length_calls (A : Option Addr) (c : Nat) (l : List Int) (w : World) (hC : Kd.C (Kd.int .u8) w A l.length l) :
    Calls Try.prog 84 #[.slice A l.length c] w fun e w' => e = .returned (.tuple #[.int .i64 (lenL l 0).1, .int .i64 (lenL l 0).2]) ∧ w = w' := by
  have HC := Aside0.mk hC
  have hm : l.length ≤ 9223372036854775807 := hC.2.1
  clear hC
  obtain ⟨r1, r2, hr⟩ : ∃ r1 r2, lenL l 0 = (r1, r2) := ⟨_, _, rfl⟩
  rw [hr]
  have HR := Lib.hid hr
  clear hr
  go_enter Try.func84, Try.ntmps84
  go_wp2
  go_loop [8] (fun i => ∃ k : Nat, k ≤ l.length ∧ k ≤ 10 ∧ i = .int .i64 (k : Int) ∧ Aside0 (lenL (l.drop k) k = (r1, r2))) (fun i => l.length - (intOf i).toNat)
  case atStart => exact ⟨0, Nat.zero_le _, by omega, rfl, ⟨HR.out⟩⟩
  case round =>
    obtain ⟨k, hk, hk10, rfl, HL⟩ := hrel
    by_cases hlt : k < l.length
    · obtain ⟨ad, e0, hx⟩ := Kd.at_int HC.out (k : Int) (by omega) (by omega)
      subst e0
      rw [Int.toNat_natCast] at hx
      have hd := drop_rd l k hlt
      have h1 := HL.out
      rw [hd, lenL_cons] at h1
      generalize rd l (k : Int) = x at *
      have hllt : (k : Int) < (l.length : Int) := by omega
      clear hd HL
      by_cases hA : k = 10
      · rw [if_pos (.inl hA)] at h1
        cases h1
        have b0 : ((k : Int) == 10) = true := by rw [beq_iff_eq]; omega
        clear hA hk10
        go_wp2
        go_ret2
        exact ⟨rfl, rfl⟩
      · have b0 : ((k : Int) == 10) = false := by rw [beq_eq_false_iff_ne]; omega
        by_cases hB : k = 9 ∧ x > 1
        · rw [if_pos (.inr hB)] at h1
          cases h1
          obtain ⟨h9, hx1⟩ := hB
          have b1 : decide (1 < x) = true := decide_eq_true hx1
          have b3 : ((k : Int) == 9) = true := by rw [beq_iff_eq]; omega
          clear hx1 hA h9
          go_wp2
          go_ret2
          exact ⟨rfl, rfl⟩
        · rw [if_neg (by omega)] at h1
          have HB := Aside0.mk hB
          have b1 : (k = 9) → decide (1 < x) = false := fun h => decide_eq_false (fun h2 => HB.out ⟨h, h2⟩)
          have key : ∀ (b9 : ((k : Int) == 9) = decide (k = 9)), True := fun _ => trivial
          clear hB key
          by_cases hCc : x ≥ 128
          · rw [if_pos hCc] at h1
            have b2 : decide (128 ≤ x) = true := decide_eq_true hCc
            have HL2 := Aside0.mk h1
            by_cases h9 : k = 9
            · have b3 : ((k : Int) == 9) = true := by rw [beq_iff_eq]; omega
              have b4 := b1 h9
              exfalso
              exact HB.out ⟨h9, by omega⟩
            · have b3 : ((k : Int) == 9) = false := by rw [beq_eq_false_iff_ne]; omega
              have hk9 : k + 1 ≤ 10 := by omega
              clear h1 b1 hA h9
              go_wp2
              go_round
              case rel => exact ⟨k + 1, by omega, by omega, by go_num, HL2⟩
              case measure => simp [intOf]; omega
          · rw [if_neg hCc] at h1
            have b2 : decide (128 ≤ x) = false := decide_eq_false hCc
            by_cases hD : x = 0 ∧ k > 0
            · rw [if_pos hD] at h1
              cases h1
              obtain ⟨rfl, hk0⟩ := hD
              have b5 : decide ((0 : Int) < (k : Int)) = true := decide_eq_true (by omega)
              have b6 : decide (0 < k) = true := decide_eq_true (by omega)
              by_cases h9 : k = 9
              · have b3 : ((k : Int) == 9) = true := by rw [beq_iff_eq]; omega
                have b4 := b1 h9
                clear b1 h9 hA hCc hk0
                go_wp2
                go_ret2
                exact ⟨rfl, rfl⟩
              · have b3 : ((k : Int) == 9) = false := by rw [beq_eq_false_iff_ne]; omega
                clear b1 h9 hA hCc hk0
                go_wp2
                go_ret2
                exact ⟨rfl, rfl⟩
            · rw [if_neg hD] at h1
              cases h1
              have hs : (x = 0 ∧ k = 0) ∨ x ≠ 0 := by omega
              clear hD
              rcases hs with ⟨hx0, hk0⟩ | hx0
              · have b7 : (x == 0) = true := by rw [beq_iff_eq]; exact hx0
                have b3 : ((k : Int) == 9) = false := by rw [beq_eq_false_iff_ne]; omega
                have b5 : decide ((0 : Int) < (k : Int)) = false := decide_eq_false (by omega)
                have b6 : decide (0 < k) = false := decide_eq_false (by omega)
                clear b1 hA hCc hx0 hk0
                go_wp2
                go_ret2
                exact ⟨rfl, rfl⟩
              · have b7 : (x == 0) = false := by rw [beq_eq_false_iff_ne]; exact hx0
                by_cases h9 : k = 9
                · have b3 : ((k : Int) == 9) = true := by rw [beq_iff_eq]; omega
                  have b4 := b1 h9
                  clear b1 h9 hA hCc hx0
                  go_wp2
                  go_ret2
                  exact ⟨rfl, rfl⟩
                · have b3 : ((k : Int) == 9) = false := by rw [beq_eq_false_iff_ne]; omega
                  clear b1 h9 hA hCc hx0
                  go_wp2
                  go_ret2
                  exact ⟨rfl, rfl⟩
    · obtain rfl : k = l.length := by omega
      have h1 := HL.out
      rw [List.drop_length] at h1
      cases h1
      go_wp2
      go_ret2
      exact ⟨rfl, rfl⟩
/-- Where what is read lies. -/
theorem InAt.below {W W' : World} {g : Nat} {s : List Int × Int} (h : InAt W g s) (hb : Below W.heap.size W W') : InAt W' g s := by
  obtain ⟨hB, A, c, h1, h2, h3, h4⟩ := h
  exact ⟨hB, A, c, blk_belowX h1 hb, h2, Kd.C_below h3 hb, h4.below hb⟩
theorem InAt.lt {W : World} {g : Nat} {s : List Int × Int} (h : InAt W g s) : g < W.heap.size := by
  obtain ⟨_, _, _, h1, _⟩ := h
  exact lt_of_some h1
theorem InErr_calls (g : Nat) (s : List Int × Int) (w : World) (h : InAt w g s) : Calls Try.prog 77 #[.pointer (some ⟨g, 0, none⟩)] w fun e w' => e = .returned (.int .i64 s.2) ∧ w = w' := by
  obtain ⟨_, A, c, h1, _⟩ := h
  have d1 : w.cell? ⟨g, 1, none⟩ = some (.int .i64 s.2) := (blk_cell h1 1).trans rfl
  clear h1
  go_enter Try.func77, Try.ntmps77
  go_wp2
  go_ret
  exact ⟨rfl, rfl⟩
theorem InLeft_calls (g : Nat) (s : List Int × Int) (w : World) (h : InAt w g s) : Calls Try.prog 78 #[.pointer (some ⟨g, 0, none⟩)] w fun e w' => e = .returned (.int .i64 s.1.length) ∧ w = w' := by
  obtain ⟨_, A, c, h1, _⟩ := h
  have d1 : w.cell? ⟨g, 0, none⟩ = some (.slice A s.1.length c) := (blk_cell h1 0).trans rfl
  clear h1
  go_enter Try.func78, Try.ntmps78
  go_wp2
  go_ret
  exact ⟨rfl, rfl⟩
theorem InFail_calls (g : Nat) (b : List Int) (e : Int) (w : World) (h : InAt w g (b, 0)) : Calls Try.prog 85 #[.pointer (some ⟨g, 0, none⟩), .int .i64 e] w fun e' w' => e' = .returned (.tuple #[]) ∧ InAt w' g ([], e) ∧ Oth g w w' := by
  obtain ⟨_, A, c, h1, _⟩ := h
  have d0 : w.cell? ⟨g, 0, none⟩ = some (.slice A b.length c) := (blk_cell h1 0).trans rfl
  have d1 : w.cell? ⟨g, 1, none⟩ = some (.int .i64 0) := (blk_cell h1 1).trans rfl
  have f0 := blk_frozen h1 0
  have f1 := blk_frozen h1 1
  have hlt : g < w.heap.size := lt_of_some h1
  have H1 := Aside0.mk h1
  clear h1
  go_enter Try.func85, Try.ntmps85
  go_wp2
  go_end0
  exact ⟨rfl, ⟨fun _ hx => (by simp at hx), none, 0, blk_put (blk_put H1.out 1 _ rfl) 0 _ rfl, Nat.le_refl _, C_nil _ _, Ty.nil _ _⟩, (Oth.set w ⟨g, 1, none⟩ _).trans (Oth.set _ ⟨g, 0, none⟩ _)⟩
end Go.Proofs.Ytcgefilboefnpaa.H
/- Package codec: the contract of In.Uint. -/
namespace Go.Proofs.Ytcgefilboefnpaa.H
open Go.RowKit Go.Proofs.YtcgefilboefnpaaW.PrintWords Go.Proofs.YtcgefilboefnpaaW.PrintLast Go.Proofs.YtcgefilboefnpaaW.PrintMore Go.Proofs.Ytcgefilboefnpaa.CrcM
set_option linter.unusedVariables false
set_option linter.unusedSimpArgs false

theorem valL_snoc : ∀ (p : List Int) (i : Nat) (c : Int), valL (p ++ [c]) i = valL p i + c % 128 * 2 ^ (7 * (i + p.length)) := by
  intro p
  induction p with
  | nil => intro i c; simp [valL]
  | cons a t ih =>
    intro i c
    simp only [List.cons_append, valL, List.length_cons, ih]
    rw [show i + 1 + t.length = i + (t.length + 1) by omega, Int.add_assoc]
theorem valL_range : ∀ (p : List Int) (i : Nat), Bts p → 0 ≤ valL p i ∧ valL p i < 2 ^ (7 * (i + p.length)) ∨ p = [] ∧ valL p i = 0 := by
  intro p i h
  suffices hh : 0 ≤ valL p i ∧ valL p i + 2 ^ (7 * i) ≤ 2 ^ (7 * (i + p.length)) by
    have h2 : (0 : Int) < 2 ^ (7 * i) := Int.pow_pos (by omega)
    exact .inl ⟨hh.1, by omega⟩
  induction p generalizing i with
  | nil => simp [valL]
  | cons a t ih =>
    have h1 := ih (i + 1) (fun x hx => h x (List.mem_cons_of_mem _ hx))
    have e : (2 : Int) ^ (7 * (i + 1)) = 2 ^ (7 * i) * 128 := by rw [show 7 * (i + 1) = 7 * i + 7 by omega, Int.pow_add]; rfl
    have e2 : i + 1 + t.length = i + (a :: t).length := by simp; omega
    rw [e, e2] at h1
    simp only [valL]
    have h2 : (0 : Int) < 2 ^ (7 * i) := Int.pow_pos (by omega)
    generalize (2 : Int) ^ (7 * i) = q at *
    generalize (2 : Int) ^ (7 * (i + (a :: t).length)) = z at *
    have h3 : 0 ≤ a % 128 := Int.emod_nonneg _ (by omega)
    have h4 : a % 128 < 128 := Int.emod_lt_of_pos _ (by omega)
    have h5 : 0 ≤ a % 128 * q := Int.mul_nonneg h3 (by omega)
    have h6 : a % 128 * q ≤ 127 * q := Int.mul_le_mul_of_nonneg_right (by omega) (by omega)
    omega
theorem and127 (x : Int) (h0 : 0 ≤ x) (h1 : x < 256) : bits .and .u8 x 127 = x % 128 := by
  obtain ⟨n, rfl⟩ := Int.eq_ofNat_of_zero_le h0
  have h : ∀ m : Fin 256, bits .and .u8 (m.val : Int) 127 = (m.val : Int) % 128 := by decide +kernel
  exact h ⟨n, by omega⟩
theorem lenL_nine : ∀ (b : List Int) (i : Nat) (n : Int), lenL b i = (n, 0) → i ≤ 9 → 9 < n → rd b ((9 - i : Nat) : Int) ≤ 1 := by
  intro b
  induction b with
  | nil => intro i n h; simp [lenL] at h
  | cons c t ih =>
    intro i n h hi hn
    rw [lenL_cons] at h
    split at h
    · simp at h
    · rename_i h10
      by_cases h9 : i = 9
      · subst h9
        show rd (c :: t) 0 ≤ 1
        simp [rd]; omega
      · split at h
        · have h2 := ih (i + 1) n h (by omega) hn
          have e : (9 - i : Nat) = (9 - (i + 1)) + 1 := by omega
          rw [e]
          simp only [rd, Int.toNat_natCast, List.getD_cons_succ] at h2 ⊢
          exact h2
        · split at h
          · simp at h
          · simp only [Prod.mk.injEq] at h; omega
theorem or_step (v x : Int) (k : Nat) (hv0 : 0 ≤ v) (hv1 : v < 2 ^ (7 * k)) (hx0 : 0 ≤ x) (hx1 : x < 256) (hk : k ≤ 9) (h9 : k = 9 → x ≤ 1) :
    bits .or .u64 v (IntKind.u64.wrap (IntKind.u64.wrap (bits .and .u8 x 127) * 2 ^ (7 * k))) = v + x % 128 * 2 ^ (7 * k) := by
  rw [and127 x hx0 hx1, wraps_u64 (x % 128) (by omega) (by have : (2 : Int) ^ 64 = 18446744073709551616 := by decide
                                                           omega)]
  have hq : (0 : Int) < 2 ^ (7 * k) := Int.pow_pos (by omega)
  have hb : x % 128 * 2 ^ (7 * k) < 2 ^ 64 := by
    by_cases h : k = 9
    · subst h
      have := h9 rfl
      have e : x % 128 ≤ 1 := by omega
      have e2 : x % 128 * 2 ^ (7 * 9) ≤ 1 * 2 ^ (7 * 9) := Int.mul_le_mul_of_nonneg_right e (by decide)
      have e3 : (1 : Int) * 2 ^ (7 * 9) < 2 ^ 64 := by decide
      omega
    · have e2 : x % 128 * 2 ^ (7 * k) ≤ 127 * 2 ^ (7 * k) := Int.mul_le_mul_of_nonneg_right (by omega) (by omega)
      have e3 : (2 : Int) ^ (7 * k) ≤ 2 ^ 56 := by
        have : (2 : Nat) ^ (7 * k) ≤ 2 ^ 56 := Nat.pow_le_pow_right (by omega) (by omega)
        exact_mod_cast this
      have e4 : (127 : Int) * 2 ^ 56 < 2 ^ 64 := by decide
      omega
  have h0 : 0 ≤ x % 128 * 2 ^ (7 * k) := Int.mul_nonneg (by omega) (by omega)
  rw [wraps_u64 _ h0 hb]
  have hv2 : v < 2 ^ 64 := by
    have : (2 : Nat) ^ (7 * k) ≤ 2 ^ 63 := Nat.pow_le_pow_right (by omega) (by omega)
    have e : (2 : Int) ^ (7 * k) ≤ 2 ^ 63 := by exact_mod_cast this
    have e4 : (2 : Int) ^ 63 < 2 ^ 64 := by decide
    omega
  exact bits_join_low .u64 64 (by decide) (fun n h0 h1 => wraps_u64 n h0 h1) (7 * k) v _ hv0 hv1 hv2 h0 (by exact Int.mul_emod_left _ _) hb
set_option maxHeartbeats 1600000 in
theorem InUint_yes (g : Nat) (b : List Int) (n : Int) (w : World) (h : InAt w g (b, 0)) (hn : lenL b 0 = (n, 0)) (hl : b.length ≤ 1000000) :
    Calls Try.prog 76 #[.pointer (some ⟨g, 0, none⟩)] w fun e w' => e = .returned (.int .u64 (valL (b.take n.toNat) 0)) ∧ InAt w' g (b.drop n.toNat, 0) ∧ Oth g w w' := by
  obtain ⟨hB, A, c, h1, hc, hC, hT⟩ := h
  have d0 : w.cell? ⟨g, 0, none⟩ = some (.slice A b.length c) := (blk_cell h1 0).trans rfl
  have d1 : w.cell? ⟨g, 1, none⟩ = some (.int .i64 0) := (blk_cell h1 1).trans rfl
  have f0 := blk_frozen h1 0
  have hlt : g < w.heap.size := lt_of_some h1
  obtain ⟨n1, n2, n3⟩ := lenL_ok b 0 n (by omega) hn
  have hnine := lenL_nine b 0 n hn (by omega)
  simp only at hc
  have hlen := length_calls A c b w hC
  rw [hn] at hlen
  obtain ⟨m, rfl⟩ : ∃ m : Nat, n = m := ⟨n.toNat, by omega⟩
  rw [Int.toNat_natCast]
  obtain ⟨i0, hi0, _, hszu, _⟩ := info_parts info_u8
  obtain ⟨A2, hcut, hreads, hld⟩ := print_drop_of (P := Try.prog) (Value.int .u8) 0 32 5 .i64 Try.underlying32 hi0 hszu A c b (m : Int) (by omega) (by omega) hc
  rw [Int.toNat_natCast] at hcut hreads hld
  have hrd := Kd.C_of_reads (h1 := fun _ => rfl) (hreads _ (Kd.reads_of_C (d := (0 : Int)) hC))
  have hty : Ty 5 w A2 := hT.slice Try.underlying32 (hcut w)
  have HL := Aside0.mk hlen
  have HC := Aside0.mk (C_take_n hC (m := m) (n := m) (by rw [List.length_take]; simp only; omega) (by simp only; omega))
  have HX := Aside0.mk (And.intro h1 (And.intro hB (And.intro hrd (And.intro hty hld))))
  have n2' : m ≤ b.length := by omega
  have n2c : m ≤ c := by omega
  have n3' : m ≤ 10 := by omega
  clear hreads hi0 hszu hlen hC hrd hT hB h1 hty hld hn n2 n3
  go_enter Try.func76, Try.ntmps76
  go_wp2_with (go_at_call 84; refine HL.out.mono ?_; rintro e w' ⟨rfl, rfl⟩)
  have hpl : (b.take m).length = m := by rw [List.length_take]; omega
  have hp9 : 9 < m → rd (b.take m) ((9 : Nat) : Int) ≤ 1 := fun h => by
    have h2 := hnine (by omega)
    have e : rd (b.take m) ((9 : Nat) : Int) = rd b ((9 - 0 : Nat) : Int) := by
      unfold rd; simp only [Int.toNat_natCast, List.getD_eq_getElem?_getD]; rw [List.getElem?_take, if_pos (by omega)]
    rw [e]; exact h2
  have hpB : Bts (b.take m) := bts_take HX.out.2.1 m
  generalize hpe : b.take m = p at *
  have HP := Aside0.mk (And.intro hpl (And.intro hpB hp9))
  have HPE := Lib.hid hpe
  clear hpl hpB hpe hp9 hnine
  go_loop [5, 33] (fun o i => ∃ k : Nat, k ≤ m ∧ i = .int .i64 (k : Int) ∧ o = .int .u64 (valL (p.take k) 0)) (fun _ i => m - (intOf i).toNat)
  case atStart => exact ⟨0, Nat.zero_le _, rfl, rfl⟩
  case round =>
    obtain ⟨k, hk, rfl, rfl⟩ := hrel
    by_cases hlk : k < m
    · obtain ⟨ad, e0, hx⟩ := Kd.at_int (by have := HC.out; rwa [← HP.out.1] at this) (k : Int) (by omega) (by rw [HP.out.1]; omega)
      subst e0
      rw [Int.toNat_natCast] at hx
      have hts := take_rd p k (by rw [HP.out.1]; omega)
      have hsn := valL_snoc (p.take k) 0 (rd p k)
      rw [← hts, List.length_take, HP.out.1, Nat.min_eq_left (by omega), Nat.zero_add] at hsn
      have hxr := bts_rd HP.out.2.1 k (by rw [HP.out.1]; omega)
      have hkm : (k : Int) < (m : Int) := by omega
      have hx9 : k = 9 → rd p (k : Int) ≤ 1 := fun h => by subst h; exact HP.out.2.2 (by omega)
      have hvr : 0 ≤ valL (p.take k) 0 ∧ valL (p.take k) 0 < 2 ^ (7 * k) := by
        have h3 : (0 : Int) < 2 ^ (7 * k) := Int.pow_pos (by omega)
        rcases valL_range (p.take k) 0 (bts_take HP.out.2.1 k) with h | h
        · rw [List.length_take, HP.out.1, Nat.min_eq_left (by omega), Nat.zero_add] at h; exact h
        · rw [h.2]; exact ⟨Int.le_refl _, h3⟩
      have HS := Aside0.mk (hsn.trans (or_step _ _ k hvr.1 hvr.2 hxr.1 hxr.2 (by omega) hx9).symm)
      clear hsn hts hx9 hvr
      generalize hv : valL (p.take k) 0 = v at *
      generalize rd p (k : Int) = x at *
      obtain ⟨hx0, hx1⟩ := hxr
      clear hv
      go_wp2
      go_round
      case rel => exact ⟨k + 1, by omega, by go_num, by rw [HS.out]⟩
      case measure => simp [intOf]; omega
    · obtain rfl : k = m := by omega
      rw [List.take_of_length_le (by rw [HP.out.1]; exact Nat.le_refl _)]
      go_wp2
      go_ret
      have ho := Oth.set w ⟨g, 0, none⟩ (.slice A2 (b.length - k) (c - k))
      obtain ⟨q1, q2, q3, q4, q5⟩ := HX.out
      exact ⟨by rw [HPE.out]; rfl, ⟨bts_drop q2 k, A2, c - k, blk_put q1 0 _ (by simp [List.length_drop]), q5, C_ty q4 q3 (ho.tys q1 (by decide)), q4.of_ty (ho.tys q1 (by decide))⟩, ho⟩
theorem InUint_calls (g : Nat) (s : List Int × Int) (w : World) (h : InAt w g s) (hl : s.1.length ≤ 1000000) :
    Calls Try.prog 76 #[.pointer (some ⟨g, 0, none⟩)] w fun e w' => e = .returned (.int .u64 (takeU s).2) ∧ InAt w' g (takeU s).1 ∧ Oth g w w' := by
  obtain ⟨b, er⟩ := s
  by_cases he : er = 0
  · subst he
    obtain ⟨n, e2, hn⟩ : ∃ n e2, lenL b 0 = (n, e2) := ⟨_, _, rfl⟩
    by_cases h2 : e2 = 0
    · subst h2
      have ht : takeU (b, 0) = ((b.drop n.toNat, 0), valL (b.take n.toNat) 0) := by unfold takeU; rw [hn]; simp
      rw [ht]
      exact InUint_yes g b n w h hn hl
    · have ht : takeU (b, 0) = (([], e2), 0) := by unfold takeU; rw [hn]; simp [h2]
      rw [ht]
      obtain ⟨hB, A, c, h1, hc, hC, hT⟩ := h
      have d0 : w.cell? ⟨g, 0, none⟩ = some (.slice A b.length c) := (blk_cell h1 0).trans rfl
      have d1 : w.cell? ⟨g, 1, none⟩ = some (.int .i64 0) := (blk_cell h1 1).trans rfl
      have hlen := length_calls A c b w hC
      rw [hn] at hlen
      have HL := Aside0.mk hlen
      have HI := Aside0.mk (show InAt w g (b, 0) from ⟨hB, A, c, h1, hc, hC, hT⟩)
      have b2 : (e2 == 0) = false := by rw [beq_eq_false_iff_ne]; exact h2
      have b3 : (e2 != 0) = true := by rw [bne_iff_ne]; exact h2
      clear hB h1 hc hC hT hlen hn ht h2
      go_enter Try.func76, Try.ntmps76
      go_wp2_with (first
        | (go_at_call 84; refine HL.out.mono ?_; rintro e w' ⟨rfl, rfl⟩)
        | (go_at_call 85; refine (InFail_calls g b e2 _ HI.out).mono ?_; rintro e w' ⟨rfl, hi, ho⟩; have S := Aside0.mk (And.intro hi ho); clear hi ho))
      go_ret
      exact ⟨rfl, S.out⟩
  · have ht : takeU (b, er) = ((b, er), 0) := by unfold takeU; simp [he]
    rw [ht]
    have HI := Aside0.mk h
    obtain ⟨hB, A, c, h1, hc, hC, hT⟩ := h
    have d1 : w.cell? ⟨g, 1, none⟩ = some (.int .i64 er) := (blk_cell h1 1).trans rfl
    have b2 : (er == 0) = false := by rw [beq_eq_false_iff_ne]; exact he
    have b3 : (er != 0) = true := by rw [bne_iff_ne]; exact he
    clear hB h1 hc hC hT ht he
    go_enter Try.func76, Try.ntmps76
    go_wp2
    go_ret
    exact ⟨rfl, HI.out, Oth.refl _ _⟩
end Go.Proofs.Ytcgefilboefnpaa.H
