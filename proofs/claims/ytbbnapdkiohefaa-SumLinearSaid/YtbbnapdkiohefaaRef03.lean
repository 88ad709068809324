/- Contracts of the reference of the sum: Of, Seal, Open. Conditions: bytes in their range. -/
import Derived.Test.YtbbnapdkiohefaaSum2
namespace Go.Proofs.Ytbbnapdkiohefaa.H
open Go.RowKit Go.Proofs.YtbbnapdkiohefaaW.PrintWords Go.Proofs.YtbbnapdkiohefaaW.PrintLast Go.Proofs.YtbbnapdkiohefaaW.PrintMore Go.Proofs.Ytbbnapdkiohefaa.CrcM
set_option linter.unusedVariables false
set_option linter.unusedSimpArgs false

/-- All are bytes. -/
def Bts (l : List Int) : Prop := ∀ x ∈ l, 0 ≤ x ∧ x < 256
theorem bts_rd {l : List Int} (h : Bts l) (k : Nat) (hk : k < l.length) : 0 ≤ rd l k ∧ rd l k < 256 := by
  have : rd l k = l[k] := by simp [rd, hk]
  rw [this]; exact h _ (List.getElem_mem hk)

set_option maxRecDepth 100000 in
set_option maxHeartbeats 1600000 in
theorem ROf_calls (A0 : Option Addr) (c0 : Nat) (l0 : List Int) (w : World) (hr0 : Kd.C (Kd.int .u8) w A0 l0.length l0) (hB : Bts l0) :
    Calls Try.prog 13 #[.slice A0 l0.length c0] w fun e w' => e = .returned (.int .u32 (v32 (ext 0#32 l0))) ∧ w = w' := by
  have HR0 := Aside0.mk hr0
  have hm : l0.length ≤ 9223372036854775807 := hr0.2.1
  have HBT := Aside0.mk hB
  clear hr0 hB
  go_enter Try.func13, Try.ntmps13
  go_wp2
  go_loop [3, 4] (fun r i => ∃ k : Nat, k ≤ l0.length ∧ i = .int .i64 k ∧ r = .int .u32 (v32 (run (~~~ 0#32) (l0.take k)))) (fun _ i => l0.length - (intOf i).toNat)
  case atStart => exact ⟨0, Nat.zero_le _, rfl, rfl⟩
  case round =>
    obtain ⟨k, hk, rfl, rfl⟩ := hrel
    by_cases hlt : k < l0.length
    · have b1 : decide (k < l0.length) = true := decide_eq_true hlt
      obtain ⟨ad, ea, hx⟩ := Kd.at_int HR0.out k (by omega) (by omega)
      subst ea
      obtain ⟨hc0, hc1⟩ := bts_rd HBT.out k hlt
      have hsn : run (~~~ 0#32) (l0.take (k + 1)) = byt (run (~~~ 0#32) (l0.take k)) (rd l0 k) := by
        rw [take_rd l0 k hlt, run_snoc]
      generalize rd l0 k = c at hx hsn hc0 hc1
      generalize run (~~~ 0#32) (l0.take k) = r at hsn
      simp only [Int.toNat_natCast] at hx
      have HSN := Lib.hid hsn
      clear hsn
      go_wp2
      go_loop [3, 5] (fun q i => ∃ j : Nat, j ≤ 8 ∧ i = .int .i64 j ∧ q = .int .u32 (v32 (ser r (c32 c) j))) (fun _ i => 8 - (intOf i).toNat)
      case atStart => exact ⟨0, by omega, rfl, by rw [ser_zero]⟩
      case round =>
        obtain ⟨j, hj, rfl, rfl⟩ := hrel
        by_cases hj8 : j < 8
        · have b2 : decide ((j : Int) < 8) = true := decide_eq_true (by omega)
          have hss := ser_succ r (c32 c) j
          generalize ser r (c32 c) j = q at hss
          have q0 := v32_lo q
          have hne := neq_c c hc0 hc1 j q
          cases hb : ((c32 c).getLsbD j != q.getLsbD 0)
          all_goals
            rw [hb] at hss hne
            have HSS := Lib.hid hss
            clear hss hb
            go_wp2
            go_round
            case measure => simp [intOf]; omega
            case rel =>
              refine ⟨j + 1, by omega, by go_num, ?_⟩
              rw [HSS.out]
              first
                | rw [half_tx]; rfl
                | rw [half_t]; rfl
        · obtain rfl : j = 8 := by omega
          go_wp2
          go_round
          case measure => simp [intOf]; omega
          case rel => exact ⟨k + 1, by omega, by go_num, by rw [HSN.out, ser_eight r c hc0 hc1]⟩
    · obtain rfl : k = l0.length := by omega
      rw [List.take_length]
      generalize hr : run (~~~ 0#32) l0 = r
      have HR := Lib.hid hr
      clear hr
      have hxa := xor_all r
      go_wp2
      go_ret
      exact ⟨by rw [ext, HR.out]; rfl, rfl⟩

theorem u8_tdiv (n : BitVec 32) (k : Int) : [Value.int .u8 ((v32 n).tdiv k % 256)] = [Value.int .u8 (v32 n / k % 256)] := by
  rw [Int.tdiv_eq_ediv_of_nonneg (v32_lo n)]
set_option maxHeartbeats 800000 in
theorem RSeal_calls (A0 : Option Addr) (c0 : Nat) (l0 : List Int) (w : World) (hr0 : Kd.C (Kd.int .u8) w A0 l0.length l0) (hB : Bts l0) (hl : l0.length ≤ 1000000) :
    Calls Try.prog 16 #[.slice A0 l0.length c0] w fun e w' => ∃ v0_ : Value, e = .returned v0_ ∧ Kd.R (Kd.int .u8) 5 w' w.heap.size (fun _ => True) v0_ (l0 ++ le4 (ext 0#32 l0)) ∧ Below w.heap.size w w' := by
  have HR0 := Aside0.mk hr0
  clear hr0
  have n0 := v32_lo (ext 0#32 l0)
  have hof := fun w h => ROf_calls A0 c0 l0 w h hB
  generalize hn : ext 0#32 l0 = n at n0 hof
  have HN := Lib.hid hn
  have HOF := Aside0.mk hof
  clear hn hof
  go_enter Try.func16, Try.ntmps16
  go_wp2_with (first
    | (go_at_call 13; refine (HOF.out _ HR0.out).mono ?_; rintro e w1 ⟨rfl, rfl⟩)
    | (go_at_call 21; refine (Copy_calls _ _ l0 _ HR0.out hl).mono ?_; rintro e w2 ⟨v2, rfl, ho2, hb2⟩; have HO2 := Aside0.mk ho2; have HB2 := Aside0.mk hb2; clear ho2 hb2)
    | ((with_reducible refine gate_builtin (b := .append) (xs := #[.tmp 7, .tmp 22]) rfl ?_); at_builtin; refine Kd.R_append_rows (Kd.int .u8) (w0 := w) w.heap.size rfl (.tmp 7) (.tmp 22) 25 5 (.int .u8 0) 1 rfl Try.underlying25 info_u8 rfl (by decide) (by omega) _ _ (le4 n) _ _ _ (fun _ => True) (fun _ => False) rfl rfl (Kd.R_alloc HO2.out _) (C_row (xs := le4 n) (blk_new _ _) ?aR (by simp [le4])) (fun _ _ h => h) (fun _ h => h.elim) (fun _ _ => trivial) (below_alloc HB2.out _) ?aS ?aL ?_; (case aR => exact Reps.one rfl (Reps.one (u8_tdiv n 256) (Reps.one (u8_tdiv n 65536) (Reps.one (u8_tdiv n 16777216) (Reps.none _ _))))); (case aS => have := HB2.out.size; simp; omega); (case aL => simp [le4]; omega); intro v7 w7 ho7 hb7 hg7 hat7; have HO7 := Aside0.mk ho7; have HB7 := Aside0.mk hb7; clear ho7 hb7 hg7 hat7))
  go_ret
  exact ⟨_, rfl, by rw [← HN.out] at HO7; rw [← HN.out]; exact HO7.out, HB7.out⟩

set_option maxHeartbeats 800000 in
theorem ROpen_calls (A0 : Option Addr) (c0 : Nat) (l0 : List Int) (w : World) (hr0 : Kd.C (Kd.int .u8) w A0 l0.length l0) (hc0 : l0.length ≤ c0) (hB : Bts l0) (hl : l0.length ≤ 1000000) :
    Calls Try.prog 11 #[.slice A0 l0.length c0] w fun e w' => ∃ v0_ : Value, e = .returned (.tuple #[v0_, .bool (openB l0).2]) ∧ Kd.R (Kd.int .u8) 5 w' w.heap.size (fun _ => True) v0_ (openB l0).1 ∧ Below w.heap.size w w' := by
  by_cases h4 : l0.length < 4
  · have ho : openB l0 = ([], false) := by rw [openB, if_pos h4]
    rw [ho]
    have b0 : decide (l0.length < 4) = true := decide_eq_true h4
    clear ho
    go_enter Try.func11, Try.ntmps11
    go_wp2
    go_ret2
    exact ⟨_, rfl, Kd.R_nil _ _ _ _ _, Below.refl _ _⟩
  · have b0 : decide (l0.length < 4) = false := decide_eq_false h4
    obtain ⟨i0, hi0, _, hsz, _⟩ := info_parts info_u8
    have hcut := (print_take_of (P := Try.prog) (Value.int .u8) 0 25 5 .i64 Try.underlying25 hi0 hsz A0 c0 l0 ((l0.length : Int) - 4) (by omega) (by omega) hc0).1
    have HR0 := Aside0.mk hr0
    have hrb := Kd.C_take (m := ((l0.length : Int) - 4).toNat) hr0 (by omega)
    have hlb : (l0.take ((l0.length : Int) - 4).toNat).length ≤ 1000000 := by rw [List.length_take]; omega
    have hbb : Bts (l0.take ((l0.length : Int) - 4).toNat) := fun x hx => hB x (List.mem_of_mem_take hx)
    have ho : openB l0 = if l0.take (l0.length - 4) ++ le4 (ext 0#32 (l0.take (l0.length - 4))) = l0 then (l0.take (l0.length - 4), true) else ([], false) := by rw [openB, if_neg h4]
    rw [show l0.length - 4 = ((l0.length : Int) - 4).toNat by omega] at ho
    have h40 : 0 ≤ (l0.length : Int) - 4 := by omega
    have hm : (l0.length : Int) - 4 ≤ 1000000 := by omega
    clear hr0 hsz hi0
    generalize l0.take ((l0.length : Int) - 4).toNat = b at hcut hrb hlb hbb ho
    have HRB := Aside0.mk hrb
    have hsl := fun w h => RSeal_calls A0 c0 b w h hbb hlb
    generalize hsb : b ++ le4 (ext 0#32 b) = sb at hsl ho
    have HSL := Aside0.mk hsl
    clear hrb hsl hsb h4 hbb
    by_cases hq : sb = l0
    · rw [if_pos hq] at ho
      have hd : decide (sb = l0) = true := decide_eq_true hq
      have HD := Lib.hid hd
      rw [ho]
      clear ho hq hd
      go_enter Try.func11, Try.ntmps11
      go_wp2_with (first
        | (go_at_call 16; refine (HSL.out _ HRB.out).mono ?_; rintro e w1 ⟨v1, rfl, ho1, hb1⟩; obtain ⟨A1, c1, rfl, hc1, hr1⟩ := R_C ho1; have HR1 := Aside0.mk hr1; have HB1 := Aside0.mk hb1; clear ho1 hr1 hb1)
        | (go_at_call 14; refine (Same_calls _ _ sb _ _ l0 _ HR1.out (Kd.C_below HR0.out HB1.out)).mono ?_; rw [HD.out]; rintro e w' ⟨rfl, ⟨nd, rfl⟩⟩)
        | (go_at_call 21; refine (Copy_calls _ _ b _ (Kd.C_drewN (Kd.C_below HRB.out HB1.out) _) hlb).mono ?_; rintro e w2 ⟨v2, rfl, ho2, hb2⟩; have HO2 := Aside0.mk ho2; have HB2 := Aside0.mk hb2; clear ho2 hb2))
      go_ret2
      exact ⟨_, rfl, Kd.R_lower HO2.out (by have := HB1.out.size; simpa using this), below_step (pw_below_drewN HB1.out _) HB2.out⟩
    · rw [if_neg hq] at ho
      have hd : decide (sb = l0) = false := decide_eq_false hq
      have HD := Lib.hid hd
      rw [ho]
      clear ho hq hd
      go_enter Try.func11, Try.ntmps11
      go_wp2_with (first
        | (go_at_call 16; refine (HSL.out _ HRB.out).mono ?_; rintro e w1 ⟨v1, rfl, ho1, hb1⟩; obtain ⟨A1, c1, rfl, hc1, hr1⟩ := R_C ho1; have HR1 := Aside0.mk hr1; have HB1 := Aside0.mk hb1; clear ho1 hr1 hb1)
        | (go_at_call 14; refine (Same_calls _ _ sb _ _ l0 _ HR1.out (Kd.C_below HR0.out HB1.out)).mono ?_; rw [HD.out]; rintro e w' ⟨rfl, ⟨nd, rfl⟩⟩))
      go_ret2
      exact ⟨_, rfl, Kd.R_nil _ _ _ _ _, pw_below_drewN HB1.out _⟩
end Go.Proofs.Ytbbnapdkiohefaa.H
