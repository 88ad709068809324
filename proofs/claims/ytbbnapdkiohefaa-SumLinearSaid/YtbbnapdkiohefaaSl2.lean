/- Contracts of slices.Clone, Grow, Concat over bytes. Conditions: the argument is read as a list; its length is below the model's bound for what grows. -/
import Derived.Test.YtbbnapdkiohefaaSl
namespace Go.Proofs.Ytbbnapdkiohefaa.H
open Go.RowKit Go.Proofs.YtbbnapdkiohefaaW.PrintWords Go.Proofs.YtbbnapdkiohefaaW.PrintLast Go.Proofs.YtbbnapdkiohefaaW.PrintMore
set_option linter.unusedVariables false
set_option linter.unusedSimpArgs false

set_option maxHeartbeats 800000 in
theorem Grow_nil (n : Int) (w : World) (h0 : 0 ≤ n) (h1 : n ≤ 1000000) :
    Calls Try.prog 24 #[.slice none 0 0, .int .i64 n] w fun e w' => ∃ v0_ : Value, e = .returned v0_ ∧ Kd.R (Kd.int .u8) 5 w' w.heap.size (fun _ => True) v0_ [] ∧ Below w.heap.size w w' := by
  have b0 : decide (n < 0) = false := decide_eq_false (by omega)
  by_cases hz : n = 0
  · subst hz
    go_enter Try.func24, Try.ntmps24
    go_wp2
    go_ret
    exact ⟨_, rfl, Kd.R_nil _ _ _ _ _, Below.refl _ _⟩
  · have b1 : decide (0 < n) = true := decide_eq_true (by omega)
    obtain ⟨i0, hi0, _, hsz, _⟩ := info_parts info_u8
    have hcut0 := fun (W : World) => (print_take_of (P := Try.prog) (Value.int .u8) 0 25 5 .i64 Try.underlying25 hi0 hsz none 0 [] 0 (by omega) (by simp) (by simp)).1 W
    simp only [List.take_nil, List.length_nil] at hcut0
    clear hz
    go_enter Try.func24, Try.ntmps24
    go_wp2_with (first
      | ((with_reducible refine gate_builtin (b := .append) (xs := #[.tmp 20, .tmp 21]) rfl ?_); at_builtin; refine Kd.R_append_zeros (Kd.int .u8) (w0 := w) w.heap.size rfl (.tmp 20) (.tmp 21) 25 3 5 (.int .u8 0) 1 rfl Try.underlying25 Try.underlying3 info_u8 rfl (by decide) (by omega) _ ([] : List Int) 0 n (fun _ => True) rfl rfl rfl (fun _ _ => trivial) (Kd.R_nil _ _ _ _ _) h0 (Below.refl _ _) (Nat.le_refl _) ?aL ?_; (case aL => simp; omega); intro v7 w7 ho7 hb7 hg7 hat7; obtain ⟨A7, c7, e7⟩ := Kd.R_slice ho7; subst e7; have ho8 := Kd.R_take (m := 0) ho7 (Nat.zero_le _); have hcut := fun W => cut_to (P := Try.prog) 25 5 .i64 Try.underlying25 hi0 A7 ([] ++ List.replicate n.toNat (0:Int)).length c7 0 (by omega) (by omega) (Kd.R_reads' ho7).2.1 W; simp only [List.take_zero, Int.toNat_zero] at ho8 hcut; have HO8 := Aside0.mk ho8; have HB8 := Aside0.mk hb7; clear ho8 ho7 hb7 hg7 hat7))
    go_ret
    exact ⟨_, rfl, HO8.out, HB8.out⟩

set_option maxHeartbeats 1600000 in
theorem Concat_calls (A0 : Option Addr) (c0 : Nat) (l0 : List (List Int)) (w : World) (hr0 : Kd.C (Kd.slice 5 (Kd.int .u8)) w A0 l0.length l0) (hc0 : l0.length ≤ c0) (hl : l0.flatten.length ≤ 1000000) :
    Calls Try.prog 22 #[.slice A0 l0.length c0] w fun e w' => ∃ v0_ : Value, e = .returned v0_ ∧ Kd.R (Kd.int .u8) 5 w' w.heap.size (fun _ => True) v0_ l0.flatten ∧ Below w.heap.size w w' := by
  have HR0 := Aside0.mk hr0
  have hm : l0.length ≤ 9223372036854775807 := hr0.2.1
  clear hr0
  go_enter Try.func22, Try.ntmps22
  go_wp2
  go_loop [3, 11] (fun s i => ∃ k : Nat, k ≤ l0.length ∧ i = .int .i64 k ∧ s = .int .i64 (upLen l0 k)) (fun _ i => l0.length - (intOf i).toNat)
  case atStart => exact ⟨0, Nat.zero_le _, rfl, by rw [upLen_zero]; rfl⟩
  case round =>
    obtain ⟨k, hk, rfl, rfl⟩ := hrel
    have hu := upLen_le l0 k
    by_cases hlt : k < l0.length
    · have hs := upLen_succ l0 k hlt
      have hu' := upLen_le l0 (k + 1)
      obtain ⟨ad, A1, c1, e1, hcell, hle, _⟩ := at_slice HR0.out k hlt
      subst e1
      generalize (l0.getD k []).length = m at hs hcell hle
      have b1 : decide (k < l0.length) = true := decide_eq_true hlt
      have hb : upLen l0 k + m ≤ 1000000 := by omega
      have b2 : decide ((upLen l0 k : Int) + (m : Int) < 0) = false := decide_eq_false (by omega)
      have HS := Lib.hid hs
      clear hs
      go_wp2
      go_round
      case rel => exact ⟨k + 1, by omega, by go_num, by rw [HS.out]; go_num⟩
      case measure => simp [intOf]; omega
    · obtain rfl : k = l0.length := by omega
      have hfull : upLen l0 l0.length = l0.flatten.length := by simp [upLen]
      have hb : upLen l0 l0.length ≤ 1000000 := by omega
      have HF := Lib.hid hfull
      clear hlt hk hfull
      go_wp2_with (go_at_call 24; refine (Grow_nil _ _ (by omega) (by omega)).mono ?_; rintro e w1 ⟨v1, rfl, ho1, hb1⟩; have HO1 := Aside0.mk ho1; have HB1 := Aside0.mk hb1; clear ho1 hb1)
      go_loopw [6, 27] (fun v i wr => ∃ k : Nat, k ≤ l0.length ∧ i = .int .i64 k ∧ Aside0 (Kd.R (Kd.int .u8) 5 wr w.heap.size (fun _ => True) v ((l0.take k).flatten)) ∧ Aside0 (Below w.heap.size w wr)) (fun _ i _ => l0.length - (intOf i).toNat)
      case atStart => exact ⟨0, Nat.zero_le _, rfl, ⟨by simpa using HO1.out⟩, HB1⟩
      case round =>
        obtain ⟨k, hk, rfl, HO, HB⟩ := hrel
        by_cases hlt : k < l0.length
        · obtain ⟨ad, A2, c2, e2, hcell, hle, hin⟩ := at_slice (Kd.C_below HR0.out HB.out) k hlt
          subst e2
          have hs := upLen_succ l0 k hlt
          have hu := upLen_le l0 (k + 1)
          have ht := take_flatten_succ l0 k hlt
          have HIN := Aside0.mk hin
          clear hin
          generalize hx : l0.getD k [] = x at hs hcell hle HIN ht
          have hb2 : ((l0.take k).flatten).length + x.length ≤ 1000000 := by unfold upLen at hs hu; omega
          have HT := Lib.hid ht
          clear hs hu hx ht
          have b1 : decide (k < l0.length) = true := decide_eq_true hlt
          go_wp2_with ((with_reducible refine gate_builtin (b := .append) (xs := #[.tmp 31, .tmp 32]) rfl ?_); at_builtin; refine Kd.R_append_rows (Kd.int .u8) (w0 := w) w.heap.size rfl (.tmp 31) (.tmp 32) 25 5 (.int .u8 0) 1 rfl Try.underlying25 info_u8 rfl (by decide) (by omega) _ _ x _ _ _ (fun _ => True) (fun _ => False) rfl rfl HO.out HIN.out (fun _ _ h => h) (fun _ h => h.elim) (fun _ _ => trivial) HB.out HB.out.size ?aL ?_; (case aL => omega); intro v7 w7 ho7 hb7 hg7 hat7; have HO7 := Aside0.mk ho7; have HB7 := Aside0.mk hb7; clear ho7 hb7 hg7 hat7)
          go_roundw
          case rel => exact ⟨k + 1, by omega, by go_num, ⟨by rw [HT.out]; exact HO7.out⟩, HB7⟩
          case measure => simp [intOf]; omega
        · obtain rfl : k = l0.length := by omega
          go_wp2
          go_ret
          exact ⟨_, rfl, by simpa using HO.out, HB.out⟩

end Go.Proofs.Ytbbnapdkiohefaa.H
