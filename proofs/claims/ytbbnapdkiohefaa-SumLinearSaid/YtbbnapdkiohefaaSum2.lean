/- Contracts of sum.Of, sum.Seal, slices.Equal over bytes, sum.Open. -/
import Derived.Test.YtbbnapdkiohefaaSum
import Derived.Test.YtbbnapdkiohefaaRef01
namespace Go.Proofs.Ytbbnapdkiohefaa.H
open Go.RowKit Go.Proofs.YtbbnapdkiohefaaW.PrintWords Go.Proofs.YtbbnapdkiohefaaW.PrintLast Go.Proofs.YtbbnapdkiohefaaW.PrintMore Go.Proofs.Ytbbnapdkiohefaa.CrcM
set_option linter.unusedVariables false
set_option linter.unusedSimpArgs false

/-- The four bytes of a register, the lowest first. -/
def le4 (r : BitVec 32) : List Int := [v32 r % 256, v32 r / 256 % 256, v32 r / 65536 % 256, v32 r / 16777216 % 256]

set_option maxHeartbeats 400000 in
theorem Of_calls (A0 : Option Addr) (c0 : Nat) (l0 : List (List Int)) (w : World) (hr0 : Kd.C (Kd.slice 5 (Kd.int .u8)) w A0 l0.length l0) (hc0 : l0.length ≤ c0) (hl : l0.flatten.length ≤ 1000000) :
    Calls Try.prog 12 #[.slice A0 l0.length c0] w fun e w' => e = .returned (.int .u32 (v32 (ext 0#32 l0.flatten))) ∧ Below w.heap.size w w' := by
  have HR0 := Aside0.mk hr0
  clear hr0
  have hcc := fun w => fun h => Concat_calls A0 c0 l0 w h hc0 hl
  generalize l0.flatten = ls at *
  have HCC := Aside0.mk hcc
  clear hcc
  have hE := fun (A1 : Option Addr) (c1 : Nat) (l1 : List Int) (w1 : World) (h1 : Kd.C (Kd.int .u8) w1 A1 l1.length l1) (h2 : l1.length ≤ c1) => Extend_calls 0#32 A1 c1 l1 w1 h1 h2
  rw [show v32 0#32 = 0 from rfl] at hE
  have HE := Aside0.mk hE
  clear hE
  go_enter Try.func12, Try.ntmps12
  go_wp2_with (first
    | (go_at_call 22; refine (HCC.out _ HR0.out).mono ?_; rintro e w1 ⟨v1, rfl, ho1, hb1⟩; obtain ⟨A1, c1, rfl, hc1, hr1⟩ := R_C ho1; have HR1 := Aside0.mk hr1; have HB1 := Aside0.mk hb1; clear ho1 hr1 hb1)
    | (go_at_call 17; refine (HE.out _ _ ls _ HR1.out hc1).mono ?_; rintro e w2 ⟨rfl, hb2⟩; have HB2 := Aside0.mk hb2; clear hb2))
  go_ret
  exact ⟨rfl, below_step HB1.out HB2.out⟩

set_option maxHeartbeats 800000 in
theorem Seal_calls (A0 : Option Addr) (c0 : Nat) (l0 : List Int) (w : World) (hr0 : Kd.C (Kd.int .u8) w A0 l0.length l0) (hc0 : l0.length ≤ c0) (hl : l0.length ≤ 1000000) :
    Calls Try.prog 15 #[.slice A0 l0.length c0] w fun e w' => ∃ v0_ : Value, e = .returned v0_ ∧ Kd.R (Kd.int .u8) 5 w' w.heap.size (fun _ => True) v0_ (l0 ++ le4 (ext 0#32 l0)) ∧ Below w.heap.size w w' := by
  have HR0 := Aside0.mk hr0
  clear hr0
  have hfl : ([l0] : List (List Int)).flatten = l0 := by simp
  have HL := Lib.hid (show ([l0] : List (List Int)).flatten.length ≤ 1000000 by rw [hfl]; exact hl)
  have HF := Lib.hid hfl
  clear hfl
  have n0 := v32_lo (ext 0#32 l0)
  generalize hn : ext 0#32 l0 = n at n0
  have HN := Lib.hid hn
  clear hn
  go_enter Try.func15, Try.ntmps15
  go_wp2_with (first
    | (go_at_call 12; refine (Of_calls (some ⟨w.heap.size, 0, none⟩) 1 [l0] _ ?cR (Nat.le_refl _) HL.out).mono ?_; (case cR => exact C_row (blk_new _ _) (Reps.one (K_slice hc0 (Kd.C_alloc HR0.out _)) (Reps.none _ _)) (by simp)); rw [HF.out, HN.out]; rintro e w1 ⟨rfl, hb1⟩; have HB1 := Aside0.mk (below_step (below_alloc (Below.refl _ _) _) hb1); clear hb1)
    | (go_at_call 20; refine (Clone_calls _ _ l0 _ (Kd.C_below HR0.out HB1.out) hc0 (by omega)).mono ?_; rintro e w2 ⟨v2, rfl, ho2, hb2⟩; have HO2 := Aside0.mk (Kd.R_lower ho2 HB1.out.size); have HB2 := Aside0.mk (below_step HB1.out hb2); clear ho2 hb2)
    | ((with_reducible refine gate_builtin (b := .append) (xs := #[.tmp 8, .tmp 20]) rfl ?_); at_builtin; refine Kd.R_append_rows (Kd.int .u8) (w0 := w) w.heap.size rfl (.tmp 8) (.tmp 20) 25 5 (.int .u8 0) 1 rfl Try.underlying25 info_u8 rfl (by decide) (by omega) _ _ (le4 n) _ _ _ (fun _ => True) (fun _ => False) rfl rfl (Kd.R_alloc HO2.out _) (C_row (xs := le4 n) (blk_new _ _) ?aR (by simp [le4])) (fun _ _ h => h) (fun _ h => h.elim) (fun _ _ => trivial) (below_alloc HB2.out _) ?aS ?aL ?_; (case aR => exact Reps.one rfl (Reps.one rfl (Reps.one rfl (Reps.one rfl (Reps.none _ _))))); (case aS => have := HB2.out.size; simp; omega); (case aL => simp [le4]; omega); intro v7 w7 ho7 hb7 hg7 hat7; have HO7 := Aside0.mk ho7; have HB7 := Aside0.mk hb7; clear ho7 hb7 hg7 hat7))
  go_ret
  exact ⟨_, rfl, by rw [← HN.out] at HO7; rw [← HN.out]; exact HO7.out, HB7.out⟩

set_option maxHeartbeats 800000 in
theorem Equal_calls (A0 : Option Addr) (c0 : Nat) (l0 : List Int) (A1 : Option Addr) (c1 : Nat) (l1 : List Int) (w : World) (hr0 : Kd.C (Kd.int .u8) w A0 l0.length l0) (hr1 : Kd.C (Kd.int .u8) w A1 l1.length l1) :
    Calls Try.prog 19 #[.slice A0 l0.length c0, .slice A1 l1.length c1] w fun e w' => e = .returned (.bool (decide (l0 = l1))) ∧ Drawn0 w w' := by
  have HR0 := Aside0.mk hr0
  have HR1 := Aside0.mk hr1
  have hm : l0.length ≤ 9223372036854775807 := hr0.2.1
  clear hr0 hr1
  by_cases hle : l0.length = l1.length
  · have b0 : ((l0.length : Int) != (l1.length : Int)) = false := by simp [hle]
    have HLE := Lib.hid hle
    have hle1 : l0.length ≤ l1.length := by omega
    have hle2 : l1.length ≤ l0.length := by omega
    have b00 : (l0.length == l1.length) = true := by simp [hle]
    clear hle
    go_enter Try.func19, Try.ntmps19
    go_wp2
    repeat (go_quiet (fail); try go_wp2)
    go_loopw [13] (fun i wr => ∃ k : Nat, k ≤ l0.length ∧ i = .int .i64 k ∧ Aside0 (l0.take k = l1.take k) ∧ Drawn0 w wr) (fun i _ => l0.length - (intOf i).toNat)
    case atStart => exact ⟨0, Nat.zero_le _, rfl, ⟨by simp⟩, by repeat (first | exact Drawn0.refl _ | apply Drawn0.step)⟩
    case round =>
      obtain ⟨k, hk, rfl, HT, ⟨m1, rfl⟩⟩ := hrel
      by_cases hlt : k < l0.length
      · have b1 : decide (k < l0.length) = true := decide_eq_true hlt
        have b2 : decide ((k : Int) < (l1.length : Int)) = true := decide_eq_true (by omega)
        obtain ⟨ad0, e0, hx0⟩ := Kd.at_int HR0.out k (by omega) (by omega)
        obtain ⟨ad1, e1, hx1⟩ := Kd.at_int HR1.out k (by omega) (by omega)
        subst e0; subst e1
        simp only [Int.toNat_natCast] at hx0 hx1
        by_cases hq : rd l0 k = rd l1 k
        · have hn := take_eq_succ (0 : Int) hlt (by omega) HT.out (by simpa [rd] using hq)
          have HN := Aside0.mk hn
          have b3 : (rd l0 k != rd l1 k) = false := by simp [hq]
          have b4 : (rd l0 k == rd l1 k) = true := by simp [hq]
          clear hn hq
          go_wp2
          repeat (go_quiet (fail); try go_wp2)
          go_roundw
          case rel => exact ⟨k + 1, by omega, by go_num, HN, by repeat (first | exact Drawn0.refl _ | apply Drawn0.step)⟩
          case measure => simp [intOf]; omega
        · have b3 : (rd l0 k != rd l1 k) = true := by simp [hq]
          have b4 : (rd l0 k == rd l1 k) = false := by simp [hq]
          have HQ := Aside0.mk hq
          clear hq
          go_wp2
          repeat (go_quiet (fail); try go_wp2)
          go_ret
          refine ⟨?_, by repeat (first | exact Drawn0.refl _ | apply Drawn0.step)⟩
          have : decide (l0 = l1) = false := decide_eq_false (fun h => HQ.out (by rw [h]))
          rw [this]; rfl
      · obtain rfl : k = l0.length := by omega
        go_wp2
        repeat (go_quiet (fail); try go_wp2)
        go_ret
        refine ⟨?_, by repeat (first | exact Drawn0.refl _ | apply Drawn0.step)⟩
        have h := HT.out
        rw [List.take_length, HLE.out, List.take_length] at h
        have : decide (l0 = l1) = true := decide_eq_true h
        rw [this]; rfl
  · have b0 : ((l0.length : Int) != (l1.length : Int)) = true := by simp; omega
    have b00 : (l0.length == l1.length) = false := by simp [hle]
    have HLE := Lib.hid hle
    clear hle
    go_enter Try.func19, Try.ntmps19
    go_wp2
    repeat (go_quiet (fail); try go_wp2)
    go_ret
    refine ⟨?_, by repeat (first | exact Drawn0.refl _ | apply Drawn0.step)⟩
    have : decide (l0 = l1) = false := decide_eq_false (fun h => HLE.out (by rw [h]))
    rw [this]; rfl

/-- What stands ahead of its sum; is it one? -/
def openB (l : List Int) : List Int × Bool :=
  if l.length < 4 then ([], false)
  else if l.take (l.length - 4) ++ le4 (ext 0#32 (l.take (l.length - 4))) = l then (l.take (l.length - 4), true) else ([], false)

set_option maxHeartbeats 800000 in
theorem Open_calls (A0 : Option Addr) (c0 : Nat) (l0 : List Int) (w : World) (hr0 : Kd.C (Kd.int .u8) w A0 l0.length l0) (hc0 : l0.length ≤ c0) (hl : l0.length ≤ 1000000) :
    Calls Try.prog 10 #[.slice A0 l0.length c0] w fun e w' => ∃ v0_ : Value, e = .returned (.tuple #[v0_, .bool (openB l0).2]) ∧ Kd.R (Kd.int .u8) 5 w' w.heap.size (fun _ => True) v0_ (openB l0).1 ∧ Below w.heap.size w w' := by
  by_cases h4 : l0.length < 4
  · have ho : openB l0 = ([], false) := by rw [openB, if_pos h4]
    rw [ho]
    have b0 : decide ((l0.length : Int) - 4 < 0) = true := decide_eq_true (by omega)
    clear ho
    go_enter Try.func10, Try.ntmps10
    go_wp2
    go_ret2
    exact ⟨_, rfl, Kd.R_nil _ _ _ _ _, Below.refl _ _⟩
  · have b0 : decide ((l0.length : Int) - 4 < 0) = false := decide_eq_false (by omega)
    obtain ⟨i0, hi0, _, hsz, _⟩ := info_parts info_u8
    have hcut := (print_take_of (P := Try.prog) (Value.int .u8) 0 25 5 .i64 Try.underlying25 hi0 hsz A0 c0 l0 ((l0.length : Int) - 4) (by omega) (by omega) hc0).1
    have HR0 := Aside0.mk hr0
    have hrb := Kd.C_take (m := ((l0.length : Int) - 4).toNat) hr0 (by omega)
    have hlb : (l0.take ((l0.length : Int) - 4).toNat).length ≤ 1000000 := by rw [List.length_take]; omega
    have hlc : (l0.take ((l0.length : Int) - 4).toNat).length ≤ c0 := by rw [List.length_take]; omega
    have ho : openB l0 = if l0.take (l0.length - 4) ++ le4 (ext 0#32 (l0.take (l0.length - 4))) = l0 then (l0.take (l0.length - 4), true) else ([], false) := by rw [openB, if_neg h4]
    rw [show l0.length - 4 = ((l0.length : Int) - 4).toNat by omega] at ho
    have h40 : 0 ≤ (l0.length : Int) - 4 := by omega
    have hm : (l0.length : Int) - 4 ≤ 1000000 := by omega
    clear hr0 hsz hi0
    generalize l0.take ((l0.length : Int) - 4).toNat = b at hcut hrb hlb hlc ho
    have HRB := Aside0.mk hrb
    have hsl := fun w h => Seal_calls A0 c0 b w h hlc hlb
    generalize hsb : b ++ le4 (ext 0#32 b) = sb at hsl ho
    have HSL := Aside0.mk hsl
    clear hrb hsl hsb h4
    by_cases hq : sb = l0
    · rw [if_pos hq] at ho
      have hd : decide (sb = l0) = true := decide_eq_true hq
      have HD := Lib.hid hd
      rw [ho]
      clear ho hq hd
      go_enter Try.func10, Try.ntmps10
      go_wp2_with (first
        | (go_at_call 15; refine (HSL.out _ HRB.out).mono ?_; rintro e w1 ⟨v1, rfl, ho1, hb1⟩; obtain ⟨A1, c1, rfl, hc1, hr1⟩ := R_C ho1; have HR1 := Aside0.mk hr1; have HB1 := Aside0.mk hb1; clear ho1 hr1 hb1)
        | (go_at_call 19; refine (Equal_calls _ _ sb _ _ l0 _ HR1.out (Kd.C_below HR0.out HB1.out)).mono ?_; rw [HD.out]; rintro e w' ⟨rfl, ⟨nd, rfl⟩⟩)
        | (go_at_call 20; refine (Clone_calls _ _ b _ (Kd.C_drewN (Kd.C_below HRB.out HB1.out) _) hlc (by omega)).mono ?_; rintro e w2 ⟨v2, rfl, ho2, hb2⟩; have HO2 := Aside0.mk ho2; have HB2 := Aside0.mk hb2; clear ho2 hb2))
      go_ret2
      exact ⟨_, rfl, Kd.R_lower HO2.out (by have := HB1.out.size; simpa using this), below_step (pw_below_drewN HB1.out _) HB2.out⟩
    · rw [if_neg hq] at ho
      have hd : decide (sb = l0) = false := decide_eq_false hq
      have HD := Lib.hid hd
      rw [ho]
      clear ho hq hd
      go_enter Try.func10, Try.ntmps10
      go_wp2_with (first
        | (go_at_call 15; refine (HSL.out _ HRB.out).mono ?_; rintro e w1 ⟨v1, rfl, ho1, hb1⟩; obtain ⟨A1, c1, rfl, hc1, hr1⟩ := R_C ho1; have HR1 := Aside0.mk hr1; have HB1 := Aside0.mk hb1; clear ho1 hr1 hb1)
        | (go_at_call 19; refine (Equal_calls _ _ sb _ _ l0 _ HR1.out (Kd.C_below HR0.out HB1.out)).mono ?_; rw [HD.out]; rintro e w' ⟨rfl, ⟨nd, rfl⟩⟩))
      go_ret2
      exact ⟨_, rfl, Kd.R_nil _ _ _ _ _, pw_below_drewN HB1.out _⟩

/-! The same, the answer under a name. -/
theorem Of_eq (A0 : Option Addr) (c0 n : Nat) (l0 : List (List Int)) (r : Int) (w : World) (hn : l0.length = n) (h : v32 (ext 0#32 l0.flatten) = r) (hr0 : Kd.C (Kd.slice 5 (Kd.int .u8)) w A0 n l0) (hc0 : n ≤ c0) (hl : l0.flatten.length ≤ 1000000) :
    Calls Try.prog 12 #[.slice A0 n c0] w fun e w' => e = .returned (.int .u32 r) ∧ Below w.heap.size w w' := by
  subst h; subst hn; exact Of_calls A0 c0 l0 w hr0 hc0 hl
theorem Seal_eq (A0 : Option Addr) (c0 n : Nat) (l0 s : List Int) (w : World) (hn : l0.length = n) (h : l0 ++ le4 (ext 0#32 l0) = s) (hr0 : Kd.C (Kd.int .u8) w A0 n l0) (hc0 : n ≤ c0) (hl : n ≤ 1000000) :
    Calls Try.prog 15 #[.slice A0 n c0] w fun e w' => ∃ A c, e = .returned (.slice A s.length c) ∧ s.length ≤ c ∧ Kd.C (Kd.int .u8) w' A s.length s ∧ Below w.heap.size w w' := by
  subst h; subst hn
  refine (Seal_calls A0 c0 l0 w hr0 hc0 hl).mono ?_
  rintro e w' ⟨v, rfl, ho, hb⟩
  obtain ⟨A, c, rfl, hc, hr⟩ := R_C ho
  exact ⟨A, c, rfl, hc, hr, hb⟩
theorem Open_eq (A0 : Option Addr) (c0 n : Nat) (l0 b : List Int) (ok : Bool) (w : World) (hn : l0.length = n) (h : openB l0 = (b, ok)) (hr0 : Kd.C (Kd.int .u8) w A0 n l0) (hc0 : n ≤ c0) (hl : n ≤ 1000000) :
    Calls Try.prog 10 #[.slice A0 n c0] w fun e w' => ∃ A c, e = .returned (.tuple #[.slice A b.length c, .bool ok]) ∧ b.length ≤ c ∧ Kd.C (Kd.int .u8) w' A b.length b ∧ Below w.heap.size w w' := by
  subst hn
  have h2 := Open_calls A0 c0 l0 w hr0 hc0 hl
  rw [h] at h2
  refine h2.mono ?_
  rintro e w' ⟨v, rfl, ho, hb⟩
  obtain ⟨A, c, rfl, hc, hr⟩ := R_C ho
  exact ⟨A, c, rfl, hc, hr, hb⟩
theorem Extend_eq (s : Int) (b r : BitVec 32) (A0 : Option Addr) (c0 n : Nat) (l0 : List Int) (w : World) (hn : l0.length = n) (hs : v32 b = s) (h : ext b l0 = r) (hr0 : Kd.C (Kd.int .u8) w A0 n l0) (hc0 : n ≤ c0) :
    Calls Try.prog 17 #[.int .u32 s, .slice A0 n c0] w fun e w' => e = .returned (.int .u32 (v32 r)) ∧ Below w.heap.size w w' := by
  subst hs; subst h; subst hn; exact Extend_calls b A0 c0 l0 w hr0 hc0
end Go.Proofs.Ytbbnapdkiohefaa.H
