/- Some texts of one seat in one file, in build order. -/
import Derived.Test.YtcgefilboefnpaaG5
import Derived.Laws.Rows
import Derived.Laws.MakeOwn
import Derived.Test.YtcgefilboefnpaaG2
/- Contracts of sum.turns and sum.Extend. -/
namespace Go.Proofs.Ytcgefilboefnpaa.H
open Go.RowKit Go.Proofs.YtcgefilboefnpaaW.PrintWords Go.Proofs.YtcgefilboefnpaaW.PrintLast Go.Proofs.YtcgefilboefnpaaW.PrintMore Go.Proofs.Ytcgefilboefnpaa.CrcM
set_option linter.unusedVariables false
set_option linter.unusedSimpArgs false

/-- The table when its first k places are filled. -/
def tabTo (k : Nat) : Array Value := (Array.range 256).map fun i => .int .u32 (if i < k then v32 (tab i) else 0)
theorem tabTo_size (k : Nat) : (tabTo k).size = 256 := by simp [tabTo]
theorem tabTo_set (k : Nat) (hk : k < 256) : (tabTo k).setIfInBounds k (.int .u32 (v32 (tab k))) = tabTo (k + 1) := by
  apply Array.ext
  · simp [tabTo]
  · intro i h1 h2
    have hi : i < 256 := by rw [tabTo_size] at h2; exact h2
    rw [Array.getElem_setIfInBounds (by rw [tabTo_size]; exact hi)]
    by_cases h : k = i
    · subst h; rw [if_pos rfl]; simp [tabTo]
    · rw [if_neg h]
      have e : (i < k) = (i < k + 1) := by apply propext; omega
      simp [tabTo, e]
theorem tabTo_zero : tabTo 0 = Array.replicate 256 (.int .u32 0) := by
  apply Array.ext
  · simp [tabTo]
  · intro i h1 h2; simp [tabTo]
theorem tabTo_full : tabTo 256 = (Array.range 256).map fun i => .int .u32 (v32 (tab i)) := by
  apply Array.ext
  · simp [tabTo]
  · intro i h1 h2
    have : i < 256 := by simpa [tabTo] using h1
    simp [tabTo, this]
theorem zero_row (w : World) : (zeroValue 137).run Try.prog w = .ok (.agg (Array.replicate 256 (.int .u32 0))) w := by kernel_rfl

set_option maxRecDepth 100000 in
set_option maxHeartbeats 1600000 in
theorem turns_calls (w : World) :
    Calls Try.prog 86 #[] w fun e w' => e = .returned (.agg ((Array.range 256).map fun i => .int .u32 (v32 (tab i)))) ∧ Below w.heap.size w w' := by
  have hz := fun w => zero_row w
  rw [← tabTo_zero] at hz
  rw [← tabTo_full]
  have hs0 := Lib.hid (tabTo_size 0)
  generalize hZ : tabTo 0 = Z at hz hs0
  have HZ := Lib.hid hZ
  clear hZ
  go_enter Try.func86, Try.ntmps86
  go_wp2
  go_loopw [5] (fun i wr => ∃ k : Nat, k ≤ 256 ∧ i = .int .i64 k ∧ Aside0 (wr.heap[w.heap.size + 1]? = some (.cells (tabTo k) 137 (0, 0))) ∧ Aside0 (wr.heap[w.heap.size]? = some (.cells Z 137 (0, 0))) ∧ Aside0 (Below w.heap.size w wr)) (fun i _ => 256 - (intOf i).toNat)
  case atStart =>
    refine ⟨0, by omega, rfl, ⟨?_⟩, ⟨?_⟩, ⟨?_⟩⟩
    · rw [HZ.out]; exact heap_alloc2_new w _ _
    · exact heap_alloc2_old w _ _
    · exact below_alloc (below_alloc (Below.refl _ _) _) _
  case round =>
    obtain ⟨k, hk, rfl, HT, HD, HB⟩ := hrel
    by_cases hlt : k < 256
    · have b1 : decide ((k : Int) < 256) = true := decide_eq_true (by omega)
      have hof := v32_ofNat k (by omega)
      have HOF := Lib.hid hof
      clear hof
      go_wp2
      go_loop [3, 10] (fun r i => ∃ j : Nat, j ≤ 8 ∧ i = .int .i64 j ∧ r = .int .u32 (v32 (stps j (BitVec.ofNat 32 k)))) (fun _ i => 8 - (intOf i).toNat)
      case atStart => exact ⟨0, by omega, rfl, by rw [stps, HOF.out]⟩
      case round =>
        obtain ⟨j, hj, rfl, rfl⟩ := hrel
        by_cases hjl : j < 8
        · have b2 : decide ((j : Int) < 8) = true := decide_eq_true (by omega)
          have hst : stps (j + 1) (BitVec.ofNat 32 k) = stp (stps j (BitVec.ofNat 32 k)) := rfl
          generalize stps j (BitVec.ofNat 32 k) = r at hst
          have h1 := v32_lo r
          have h2 := v32_hi r
          cases ho : r.getLsbD 0
          all_goals
            have hb := lsb_and r
            rw [ho] at hb
            have hb2 : (bits .and .u32 (v32 r) 1 == 1) = r.getLsbD 0 := by rw [hb, ho]; rfl
            rw [ho] at hb2
            clear hb
            have HST := Lib.hid hst
            have HO := Lib.hid ho
            clear hst ho
            go_wp2
            go_round
            case measure => simp [intOf]; omega
            case rel => first | exact ⟨j + 1, by omega, by go_num, by rw [HST.out, ← stp_even r HO.out]⟩ | exact ⟨j + 1, by omega, by go_num, by rw [HST.out, ← stp_odd r HO.out]⟩
        · obtain rfl : j = 8 := by omega
          have hc : wr.cell? ⟨w.heap.size + 1, k, none⟩ = some (.int .u32 0) := by rw [blk_cell HT.out]; simp [tabTo, hlt]
          have hf : wr.frozen? ⟨w.heap.size + 1, k, none⟩ = false := blk_frozen HT.out k
          have hinfo : (Try.prog.info? 137).map (·.size) = some 256 := by kernel_rfl
          have HST := Lib.hid (show stps 8 (BitVec.ofNat 32 k) = tab k from rfl)
          go_wp2
          go_roundw
          case measure => simp [intOf]; omega
          case rel =>
            rw [HST.out]
            refine ⟨k + 1, by omega, by go_num, ⟨?_⟩, ⟨?_⟩, ⟨?_⟩⟩
            · exact blk_put HT.out k _ (tabTo_set k hlt)
            · exact blk_far HD.out (by simp) _
            · exact HB.out.setCell (p := ⟨w.heap.size + 1, k, none⟩) (by simp) _
    · obtain rfl : k = 256 := by omega
      have hinfo : (Try.prog.info? 137).map (·.size) = some (tabTo 256).size := by rw [tabTo_size]; kernel_rfl
      have hss : Z.size = (tabTo 256).size := by rw [tabTo_size]; exact hs0.out
      have hone : ∀ q ∈ (tabTo 256).toList, q.oneCell' = true := by
        intro q hq
        simp [tabTo] at hq
        obtain ⟨i, _, rfl⟩ := hq
        rfl
      have HI := Lib.hid (And.intro hinfo (And.intro hss hone))
      clear hinfo hss hone
      generalize hVe : tabTo 256 = V at HT HI
      have HV := Lib.hid hVe
      clear hVe
      go_wp2_with (first
        | ((with_reducible refine gate_dst (N := 25) rfl ?_); refine wpList_load_row rfl 137 (.tmp 1) rfl (w.heap.size + 1) rfl 137 V (0, 0) (.array 256 113) HT.out Try.underlying137 rfl HI.out.1 ?_)
        | ((with_reducible refine gate_store (t := 137) (p := 0) (v := .tmp 25) rfl ?_); refine wpList_store_agg rfl rfl 137 (.tmp 0) (.tmp 25) rfl w.heap.size 137 Z V rfl rfl HD.out HI.out.1 HI.out.2.1 HI.out.2.2 ?_; intro w2 hr2 hf2 hz2 ho2 ht2 hu2; have HR2 := Aside0.mk hr2; have HF2 := Aside0.mk hf2; have HZ2 := Aside0.mk (And.intro hz2 (And.intro ho2 (And.intro ht2 hu2))); clear hr2 hf2 hz2 ho2 ht2 hu2))
      refine bodyPost_ret (results_cell_row rfl _ w2 w.heap.size 137 V (0, 0) (.array 256 113) rfl HR2.out Try.underlying137 rfl HI.out.1) rfl ⟨by rw [HV.out], ?_⟩
      obtain ⟨z1, z2, z3, z4⟩ := HZ2.out
      exact ⟨z2.trans HB.out.os, z3.trans HB.out.tape, z4.trans HB.out.output, by have := HB.out.size; omega, fun i hi => (HF2.out i (by omega)).trans (HB.out.block i hi)⟩

set_option maxRecDepth 100000 in
set_option maxHeartbeats 1600000 in
theorem Extend_calls (s : BitVec 32) (A0 : Option Addr) (c0 : Nat) (l0 : List Int) (w : World) (hr0 : Kd.C (Kd.int .u8) w A0 l0.length l0) (hc0 : l0.length ≤ c0) :
    Calls Try.prog 79 #[.int .u32 (v32 s), .slice A0 l0.length c0] w fun e w' => e = .returned (.int .u32 (v32 (ext s l0))) ∧ Below w.heap.size w w' := by
  have HR0 := Aside0.mk hr0
  have hm : l0.length ≤ 9223372036854775807 := hr0.2.1
  clear hr0
  go_enter Try.func79, Try.ntmps79
  have hz := fun w => zero_row w
  rw [← tabTo_zero] at hz
  have hs0 := Lib.hid (tabTo_size 0)
  generalize tabTo 0 = Z at hz hs0
  have hinfo : (Try.prog.info? 137).map (·.size) = some (tabTo 256).size := by rw [tabTo_size]; kernel_rfl
  have hone : ∀ q ∈ (tabTo 256).toList, q.oneCell' = true := by
    intro q hq
    simp [tabTo] at hq
    obtain ⟨i, _, rfl⟩ := hq
    rfl
  have hget : ∀ i, i < 256 → (tabTo 256)[i]? = some (.int .u32 (v32 (tab i))) := by intro i hi; simp [tabTo, hi]
  have HI := Lib.hid (And.intro hinfo (And.intro (tabTo_size 256) (And.intro hone hget)))
  have hTT := tabTo_full
  generalize tabTo 256 = V at HI hTT
  have HTT := Lib.hid hTT
  clear hinfo hone hget hTT
  go_wp2_with (first
    | (go_at_call 86; refine (turns_calls _).mono ?_; rintro e w1 ⟨rfl, hb1⟩; have HB1 := Aside0.mk hb1; clear hb1; rw [← HTT.out])
    | ((with_reducible refine gate_store (t := 137) (p := 5) (v := .tmp 9) rfl ?_); refine wpList_store_agg rfl rfl 137 (.tmp 5) (.tmp 9) rfl _ 137 Z V rfl rfl (blk_new _ _) HI.out.1 (hs0.out.trans HI.out.2.1.symm) HI.out.2.2.1 ?_; intro w2 hr2 hf2 hz2 ho2 ht2 hu2; have HR2 := Aside0.mk hr2; have HF2 := Aside0.mk hf2; have HZ2 := Aside0.mk (And.intro hz2 (And.intro ho2 (And.intro ht2 hu2))); clear hr2 hf2 hz2 ho2 ht2 hu2))
  rw [flip_v32]
  have HC := Aside0.mk (show Kd.C (Kd.int .u8) w2 A0 l0.length l0 from Kd.C_below HR0.out ⟨HZ2.out.2.1.trans HB1.out.os, HZ2.out.2.2.1.trans HB1.out.tape, HZ2.out.2.2.2.trans HB1.out.output, by have h1 := HZ2.out.1; have h2 := HB1.out.size; rw [World.size_alloc] at h1; omega, fun i hi => (HF2.out i (by have := HB1.out.size; omega)).trans ((Below.heap_alloc _ _ _ (by have := HB1.out.size; omega)).trans (HB1.out.block i hi))⟩)
  go_loop [6, 14] (fun r i => ∃ k : Nat, k ≤ l0.length ∧ i = .int .i64 k ∧ r = .int .u32 (v32 (run (~~~ s) (l0.take k)))) (fun _ i => l0.length - (intOf i).toNat)
  case atStart => exact ⟨0, Nat.zero_le _, rfl, rfl⟩
  case round =>
    obtain ⟨k, hk, rfl, rfl⟩ := hrel
    by_cases hlt : k < l0.length
    · have b1 : decide (k < l0.length) = true := decide_eq_true hlt
      obtain ⟨ad, ea, hx⟩ := Kd.at_int HC.out k (by omega) (by omega)
      subst ea
      have hsn : run (~~~ s) (l0.take (k + 1)) = byt (run (~~~ s) (l0.take k)) (rd l0 k) := by
        rw [List.take_succ_eq_append_getElem hlt, run_snoc]; simp [rd, hlt]
      generalize rd l0 k = c at hx hsn
      generalize run (~~~ s) (l0.take k) = r at hsn
      obtain ⟨hxb, hxl⟩ := xb_int r c
      have hcell : w2.cell? ⟨w1.heap.size, xb r c, none⟩ = some (.int .u32 (v32 (tab (xb r c)))) := by rw [blk_cell HR2.out]; exact HI.out.2.2.2 _ hxl
      have hbi := byt_int r c
      rw [← hsn] at hbi
      clear hsn
      simp only [Int.toNat_natCast] at hx
      go_wp2
      go_round
      case rel => exact ⟨k + 1, by omega, by go_num, rfl⟩
      case measure => simp [intOf]; omega
    · obtain rfl : k = l0.length := by omega
      rw [List.take_length]
      generalize hr : run (~~~ s) l0 = r
      have HR := Lib.hid hr
      clear hr
      go_wp2
      go_ret
      rw [flip_v32]
      refine ⟨by rw [ext, HR.out]; rfl, HZ2.out.2.1.trans HB1.out.os, HZ2.out.2.2.1.trans HB1.out.tape, HZ2.out.2.2.2.trans HB1.out.output, by have h1 := HZ2.out.1; have h2 := HB1.out.size; rw [World.size_alloc] at h1; omega, fun i hi => (HF2.out i (by have := HB1.out.size; omega)).trans ((Below.heap_alloc _ _ _ (by have := HB1.out.size; omega)).trans (HB1.out.block i hi))⟩
end Go.Proofs.Ytcgefilboefnpaa.H
/- Contracts of sum.Of, sum.Seal, slices.Equal over bytes, sum.Open. -/
namespace Go.Proofs.Ytcgefilboefnpaa.H
open Go.RowKit Go.Proofs.YtcgefilboefnpaaW.PrintWords Go.Proofs.YtcgefilboefnpaaW.PrintLast Go.Proofs.YtcgefilboefnpaaW.PrintMore Go.Proofs.Ytcgefilboefnpaa.CrcM
set_option linter.unusedVariables false
set_option linter.unusedSimpArgs false

/-- The four bytes of a register, the lowest first. -/
def le4 (r : BitVec 32) : List Int := [v32 r % 256, v32 r / 256 % 256, v32 r / 65536 % 256, v32 r / 16777216 % 256]

set_option maxHeartbeats 400000 in
theorem Of_calls (A0 : Option Addr) (c0 : Nat) (l0 : List (List Int)) (w : World) (hr0 : Kd.C (Kd.slice 5 (Kd.int .u8)) w A0 l0.length l0) (hc0 : l0.length ≤ c0) (hl : l0.flatten.length ≤ 1000000) :
    Calls Try.prog 69 #[.slice A0 l0.length c0] w fun e w' => e = .returned (.int .u32 (v32 (ext 0#32 l0.flatten))) ∧ Below w.heap.size w w' := by
  have HR0 := Aside0.mk hr0
  clear hr0
  have hcc := fun w => fun h => Concat_calls A0 c0 l0 w h hc0 hl
  generalize l0.flatten = ls at *
  have HCC := Aside0.mk hcc
  clear hcc
  have hE := fun (A1 : Option Addr) (c1 : Nat) (l1 : List Int) (w1 : World) (h1 : Kd.C (Kd.int .u8) w1 A1 l1.length l1) (h2 : l1.length ≤ c1) => Extend_calls 0#32 A1 c1 l1 w1 h1 h2
  rw [show v32 0#32 = 0 from rfl] at hE
  have HE := Aside0.mk hE
  clear hE
  go_enter Try.func69, Try.ntmps69
  go_wp2_with (first
    | (go_at_call 80; refine (HCC.out _ HR0.out).mono ?_; rintro e w1 ⟨v1, rfl, ho1, hb1⟩; obtain ⟨A1, c1, rfl, hc1, hr1⟩ := R_C ho1; have HR1 := Aside0.mk hr1; have HB1 := Aside0.mk hb1; clear ho1 hr1 hb1)
    | (go_at_call 79; refine (HE.out _ _ ls _ HR1.out hc1).mono ?_; rintro e w2 ⟨rfl, hb2⟩; have HB2 := Aside0.mk hb2; clear hb2))
  go_ret
  exact ⟨rfl, below_step HB1.out HB2.out⟩

set_option maxHeartbeats 800000 in
theorem Seal_calls (A0 : Option Addr) (c0 : Nat) (l0 : List Int) (w : World) (hr0 : Kd.C (Kd.int .u8) w A0 l0.length l0) (hc0 : l0.length ≤ c0) (hl : l0.length ≤ 1000000) :
    Calls Try.prog 57 #[.slice A0 l0.length c0] w fun e w' => ∃ v0_ : Value, e = .returned v0_ ∧ Kd.R (Kd.int .u8) 5 w' w.heap.size (fun _ => True) v0_ (l0 ++ le4 (ext 0#32 l0)) ∧ Below w.heap.size w w' := by
  have HR0 := Aside0.mk hr0
  clear hr0
  have hfl : ([l0] : List (List Int)).flatten = l0 := by simp
  have HL := Lib.hid (show ([l0] : List (List Int)).flatten.length ≤ 1000000 by rw [hfl]; exact hl)
  have HF := Lib.hid hfl
  clear hfl
  have n0 := v32_lo (ext 0#32 l0)
  generalize hn : ext 0#32 l0 = n at n0
  have HN := Lib.hid hn
  clear hn
  go_enter Try.func57, Try.ntmps57
  go_wp2_with (first
    | (go_at_call 69; refine (Of_calls (some ⟨w.heap.size, 0, none⟩) 1 [l0] _ ?cR (Nat.le_refl _) HL.out).mono ?_; (case cR => exact C_row (blk_new _ _) (Reps.one (K_slice hc0 (Kd.C_alloc HR0.out _)) (Reps.none _ _)) (by simp)); rw [HF.out, HN.out]; rintro e w1 ⟨rfl, hb1⟩; have HB1 := Aside0.mk (below_step (below_alloc (Below.refl _ _) _) hb1); clear hb1)
    | (go_at_call 40; refine (Clone_calls _ _ l0 _ (Kd.C_below HR0.out HB1.out) hc0 (by omega)).mono ?_; rintro e w2 ⟨v2, rfl, ho2, hb2⟩; have HO2 := Aside0.mk (Kd.R_lower ho2 HB1.out.size); have HB2 := Aside0.mk (below_step HB1.out hb2); clear ho2 hb2)
    | ((with_reducible refine gate_builtin (b := .append) (xs := #[.tmp 8, .tmp 20]) rfl ?_); at_builtin; refine Kd.R_append_rows (Kd.int .u8) (w0 := w) w.heap.size rfl (.tmp 8) (.tmp 20) 32 5 (.int .u8 0) 1 rfl Try.underlying32 info_u8 rfl (by decide) (by omega) _ _ (le4 n) _ _ _ (fun _ => True) (fun _ => False) rfl rfl (Kd.R_alloc HO2.out _) (C_row (xs := le4 n) (blk_new _ _) ?aR (by simp [le4])) (fun _ _ h => h) (fun _ h => h.elim) (fun _ _ => trivial) (below_alloc HB2.out _) ?aS ?aL ?_; (case aR => exact Reps.one rfl (Reps.one rfl (Reps.one rfl (Reps.one rfl (Reps.none _ _))))); (case aS => have := HB2.out.size; simp; omega); (case aL => simp [le4]; omega); intro v7 w7 ho7 hb7 hg7 hat7; have HO7 := Aside0.mk ho7; have HB7 := Aside0.mk hb7; clear ho7 hb7 hg7 hat7))
  go_ret
  exact ⟨_, rfl, by rw [← HN.out] at HO7; rw [← HN.out]; exact HO7.out, HB7.out⟩

set_option maxHeartbeats 800000 in
theorem Equal_calls (A0 : Option Addr) (c0 : Nat) (l0 : List Int) (A1 : Option Addr) (c1 : Nat) (l1 : List Int) (w : World) (hr0 : Kd.C (Kd.int .u8) w A0 l0.length l0) (hr1 : Kd.C (Kd.int .u8) w A1 l1.length l1) :
    Calls Try.prog 83 #[.slice A0 l0.length c0, .slice A1 l1.length c1] w fun e w' => e = .returned (.bool (decide (l0 = l1))) ∧ Drawn0 w w' := by
  have HR0 := Aside0.mk hr0
  have HR1 := Aside0.mk hr1
  have hm : l0.length ≤ 9223372036854775807 := hr0.2.1
  clear hr0 hr1
  by_cases hle : l0.length = l1.length
  · have b0 : ((l0.length : Int) != (l1.length : Int)) = false := by simp [hle]
    have HLE := Lib.hid hle
    have hle1 : l0.length ≤ l1.length := by omega
    have hle2 : l1.length ≤ l0.length := by omega
    have b00 : (l0.length == l1.length) = true := by simp [hle]
    clear hle
    go_enter Try.func83, Try.ntmps83
    go_wp2
    repeat (go_quiet (fail); try go_wp2)
    go_loopw [13] (fun i wr => ∃ k : Nat, k ≤ l0.length ∧ i = .int .i64 k ∧ Aside0 (l0.take k = l1.take k) ∧ Drawn0 w wr) (fun i _ => l0.length - (intOf i).toNat)
    case atStart => exact ⟨0, Nat.zero_le _, rfl, ⟨by simp⟩, by repeat (first | exact Drawn0.refl _ | apply Drawn0.step)⟩
    case round =>
      obtain ⟨k, hk, rfl, HT, ⟨m1, rfl⟩⟩ := hrel
      by_cases hlt : k < l0.length
      · have b1 : decide (k < l0.length) = true := decide_eq_true hlt
        have b2 : decide ((k : Int) < (l1.length : Int)) = true := decide_eq_true (by omega)
        obtain ⟨ad0, e0, hx0⟩ := Kd.at_int HR0.out k (by omega) (by omega)
        obtain ⟨ad1, e1, hx1⟩ := Kd.at_int HR1.out k (by omega) (by omega)
        subst e0; subst e1
        simp only [Int.toNat_natCast] at hx0 hx1
        by_cases hq : rd l0 k = rd l1 k
        · have hn := take_eq_succ (0 : Int) hlt (by omega) HT.out (by simpa [rd] using hq)
          have HN := Aside0.mk hn
          have b3 : (rd l0 k != rd l1 k) = false := by simp [hq]
          have b4 : (rd l0 k == rd l1 k) = true := by simp [hq]
          clear hn hq
          go_wp2
          repeat (go_quiet (fail); try go_wp2)
          go_roundw
          case rel => exact ⟨k + 1, by omega, by go_num, HN, by repeat (first | exact Drawn0.refl _ | apply Drawn0.step)⟩
          case measure => simp [intOf]; omega
        · have b3 : (rd l0 k != rd l1 k) = true := by simp [hq]
          have b4 : (rd l0 k == rd l1 k) = false := by simp [hq]
          have HQ := Aside0.mk hq
          clear hq
          go_wp2
          repeat (go_quiet (fail); try go_wp2)
          go_ret
          refine ⟨?_, by repeat (first | exact Drawn0.refl _ | apply Drawn0.step)⟩
          have : decide (l0 = l1) = false := decide_eq_false (fun h => HQ.out (by rw [h]))
          rw [this]; rfl
      · obtain rfl : k = l0.length := by omega
        go_wp2
        repeat (go_quiet (fail); try go_wp2)
        go_ret
        refine ⟨?_, by repeat (first | exact Drawn0.refl _ | apply Drawn0.step)⟩
        have h := HT.out
        rw [List.take_length, HLE.out, List.take_length] at h
        have : decide (l0 = l1) = true := decide_eq_true h
        rw [this]; rfl
  · have b0 : ((l0.length : Int) != (l1.length : Int)) = true := by simp; omega
    have b00 : (l0.length == l1.length) = false := by simp [hle]
    have HLE := Lib.hid hle
    clear hle
    go_enter Try.func83, Try.ntmps83
    go_wp2
    repeat (go_quiet (fail); try go_wp2)
    go_ret
    refine ⟨?_, by repeat (first | exact Drawn0.refl _ | apply Drawn0.step)⟩
    have : decide (l0 = l1) = false := decide_eq_false (fun h => HLE.out (by rw [h]))
    rw [this]; rfl

/-- What stands ahead of its sum; is it one? -/
def openB (l : List Int) : List Int × Bool :=
  if l.length < 4 then ([], false)
  else if l.take (l.length - 4) ++ le4 (ext 0#32 (l.take (l.length - 4))) = l then (l.take (l.length - 4), true) else ([], false)

set_option maxHeartbeats 800000 in
theorem Open_calls (A0 : Option Addr) (c0 : Nat) (l0 : List Int) (w : World) (hr0 : Kd.C (Kd.int .u8) w A0 l0.length l0) (hc0 : l0.length ≤ c0) (hl : l0.length ≤ 1000000) :
    Calls Try.prog 74 #[.slice A0 l0.length c0] w fun e w' => ∃ v0_ : Value, e = .returned (.tuple #[v0_, .bool (openB l0).2]) ∧ Kd.R (Kd.int .u8) 5 w' w.heap.size (fun _ => True) v0_ (openB l0).1 ∧ Below w.heap.size w w' := by
  by_cases h4 : l0.length < 4
  · have ho : openB l0 = ([], false) := by rw [openB, if_pos h4]
    rw [ho]
    have b0 : decide ((l0.length : Int) - 4 < 0) = true := decide_eq_true (by omega)
    clear ho
    go_enter Try.func74, Try.ntmps74
    go_wp2
    go_ret2
    exact ⟨_, rfl, Kd.R_nil _ _ _ _ _, Below.refl _ _⟩
  · have b0 : decide ((l0.length : Int) - 4 < 0) = false := decide_eq_false (by omega)
    obtain ⟨i0, hi0, _, hsz, _⟩ := info_parts info_u8
    have hcut := (print_take_of (P := Try.prog) (Value.int .u8) 0 32 5 .i64 Try.underlying32 hi0 hsz A0 c0 l0 ((l0.length : Int) - 4) (by omega) (by omega) hc0).1
    have HR0 := Aside0.mk hr0
    have hrb := Kd.C_take (m := ((l0.length : Int) - 4).toNat) hr0 (by omega)
    have hlb : (l0.take ((l0.length : Int) - 4).toNat).length ≤ 1000000 := by rw [List.length_take]; omega
    have hlc : (l0.take ((l0.length : Int) - 4).toNat).length ≤ c0 := by rw [List.length_take]; omega
    have ho : openB l0 = if l0.take (l0.length - 4) ++ le4 (ext 0#32 (l0.take (l0.length - 4))) = l0 then (l0.take (l0.length - 4), true) else ([], false) := by rw [openB, if_neg h4]
    rw [show l0.length - 4 = ((l0.length : Int) - 4).toNat by omega] at ho
    have h40 : 0 ≤ (l0.length : Int) - 4 := by omega
    have hm : (l0.length : Int) - 4 ≤ 1000000 := by omega
    clear hr0 hsz hi0
    generalize l0.take ((l0.length : Int) - 4).toNat = b at hcut hrb hlb hlc ho
    have HRB := Aside0.mk hrb
    have hsl := fun w h => Seal_calls A0 c0 b w h hlc hlb
    generalize hsb : b ++ le4 (ext 0#32 b) = sb at hsl ho
    have HSL := Aside0.mk hsl
    clear hrb hsl hsb h4
    by_cases hq : sb = l0
    · rw [if_pos hq] at ho
      have hd : decide (sb = l0) = true := decide_eq_true hq
      have HD := Lib.hid hd
      rw [ho]
      clear ho hq hd
      go_enter Try.func74, Try.ntmps74
      go_wp2_with (first
        | (go_at_call 57; refine (HSL.out _ HRB.out).mono ?_; rintro e w1 ⟨v1, rfl, ho1, hb1⟩; obtain ⟨A1, c1, rfl, hc1, hr1⟩ := R_C ho1; have HR1 := Aside0.mk hr1; have HB1 := Aside0.mk hb1; clear ho1 hr1 hb1)
        | (go_at_call 83; refine (Equal_calls _ _ sb _ _ l0 _ HR1.out (Kd.C_below HR0.out HB1.out)).mono ?_; rw [HD.out]; rintro e w' ⟨rfl, ⟨nd, rfl⟩⟩)
        | (go_at_call 40; refine (Clone_calls _ _ b _ (Kd.C_drewN (Kd.C_below HRB.out HB1.out) _) hlc (by omega)).mono ?_; rintro e w2 ⟨v2, rfl, ho2, hb2⟩; have HO2 := Aside0.mk ho2; have HB2 := Aside0.mk hb2; clear ho2 hb2))
      go_ret2
      exact ⟨_, rfl, Kd.R_lower HO2.out (by have := HB1.out.size; simpa using this), below_step (pw_below_drewN HB1.out _) HB2.out⟩
    · rw [if_neg hq] at ho
      have hd : decide (sb = l0) = false := decide_eq_false hq
      have HD := Lib.hid hd
      rw [ho]
      clear ho hq hd
      go_enter Try.func74, Try.ntmps74
      go_wp2_with (first
        | (go_at_call 57; refine (HSL.out _ HRB.out).mono ?_; rintro e w1 ⟨v1, rfl, ho1, hb1⟩; obtain ⟨A1, c1, rfl, hc1, hr1⟩ := R_C ho1; have HR1 := Aside0.mk hr1; have HB1 := Aside0.mk hb1; clear ho1 hr1 hb1)
        | (go_at_call 83; refine (Equal_calls _ _ sb _ _ l0 _ HR1.out (Kd.C_below HR0.out HB1.out)).mono ?_; rw [HD.out]; rintro e w' ⟨rfl, ⟨nd, rfl⟩⟩))
      go_ret2
      exact ⟨_, rfl, Kd.R_nil _ _ _ _ _, pw_below_drewN HB1.out _⟩

/-! The same, the answer under a name. -/
theorem Of_eq (A0 : Option Addr) (c0 n : Nat) (l0 : List (List Int)) (r : Int) (w : World) (hn : l0.length = n) (h : v32 (ext 0#32 l0.flatten) = r) (hr0 : Kd.C (Kd.slice 5 (Kd.int .u8)) w A0 n l0) (hc0 : n ≤ c0) (hl : l0.flatten.length ≤ 1000000) :
    Calls Try.prog 69 #[.slice A0 n c0] w fun e w' => e = .returned (.int .u32 r) ∧ Below w.heap.size w w' := by
  subst h; subst hn; exact Of_calls A0 c0 l0 w hr0 hc0 hl
theorem Seal_eq (A0 : Option Addr) (c0 n : Nat) (l0 s : List Int) (w : World) (hn : l0.length = n) (h : l0 ++ le4 (ext 0#32 l0) = s) (hr0 : Kd.C (Kd.int .u8) w A0 n l0) (hc0 : n ≤ c0) (hl : n ≤ 1000000) :
    Calls Try.prog 57 #[.slice A0 n c0] w fun e w' => ∃ A c, e = .returned (.slice A s.length c) ∧ s.length ≤ c ∧ Kd.C (Kd.int .u8) w' A s.length s ∧ Below w.heap.size w w' := by
  subst h; subst hn
  refine (Seal_calls A0 c0 l0 w hr0 hc0 hl).mono ?_
  rintro e w' ⟨v, rfl, ho, hb⟩
  obtain ⟨A, c, rfl, hc, hr⟩ := R_C ho
  exact ⟨A, c, rfl, hc, hr, hb⟩
theorem Open_eq (A0 : Option Addr) (c0 n : Nat) (l0 b : List Int) (ok : Bool) (w : World) (hn : l0.length = n) (h : openB l0 = (b, ok)) (hr0 : Kd.C (Kd.int .u8) w A0 n l0) (hc0 : n ≤ c0) (hl : n ≤ 1000000) :
    Calls Try.prog 74 #[.slice A0 n c0] w fun e w' => ∃ A c, e = .returned (.tuple #[.slice A b.length c, .bool ok]) ∧ b.length ≤ c ∧ Kd.C (Kd.int .u8) w' A b.length b ∧ Below w.heap.size w w' := by
  subst hn
  have h2 := Open_calls A0 c0 l0 w hr0 hc0 hl
  rw [h] at h2
  refine h2.mono ?_
  rintro e w' ⟨v, rfl, ho, hb⟩
  obtain ⟨A, c, rfl, hc, hr⟩ := R_C ho
  exact ⟨A, c, rfl, hc, hr, hb⟩
theorem Extend_eq (s : Int) (b r : BitVec 32) (A0 : Option Addr) (c0 n : Nat) (l0 : List Int) (w : World) (hn : l0.length = n) (hs : v32 b = s) (h : ext b l0 = r) (hr0 : Kd.C (Kd.int .u8) w A0 n l0) (hc0 : n ≤ c0) :
    Calls Try.prog 79 #[.int .u32 s, .slice A0 n c0] w fun e w' => e = .returned (.int .u32 (v32 r)) ∧ Below w.heap.size w w' := by
  subst hs; subst h; subst hn; exact Extend_calls b A0 c0 l0 w hr0 hc0
end Go.Proofs.Ytcgefilboefnpaa.H
/- Contracts of the reference of the sum: Of, Seal, Open. Conditions: bytes in their range. -/
namespace Go.Proofs.Ytcgefilboefnpaa.H
open Go.RowKit Go.Proofs.YtcgefilboefnpaaW.PrintWords Go.Proofs.YtcgefilboefnpaaW.PrintLast Go.Proofs.YtcgefilboefnpaaW.PrintMore Go.Proofs.Ytcgefilboefnpaa.CrcM
set_option linter.unusedVariables false
set_option linter.unusedSimpArgs false

/-- All are bytes. -/
def Bts (l : List Int) : Prop := ∀ x ∈ l, 0 ≤ x ∧ x < 256
theorem bts_rd {l : List Int} (h : Bts l) (k : Nat) (hk : k < l.length) : 0 ≤ rd l k ∧ rd l k < 256 := by
  have : rd l k = l[k] := by simp [rd, hk]
  rw [this]; exact h _ (List.getElem_mem hk)

set_option maxRecDepth 100000 in
set_option maxHeartbeats 1600000 in
theorem ROf_calls (A0 : Option Addr) (c0 : Nat) (l0 : List Int) (w : World) (hr0 : Kd.C (Kd.int .u8) w A0 l0.length l0) (hB : Bts l0) :
    Calls Try.prog 73 #[.slice A0 l0.length c0] w fun e w' => e = .returned (.int .u32 (v32 (ext 0#32 l0))) ∧ w = w' := by
  have HR0 := Aside0.mk hr0
  have hm : l0.length ≤ 9223372036854775807 := hr0.2.1
  have HBT := Aside0.mk hB
  clear hr0 hB
  go_enter Try.func73, Try.ntmps73
  go_wp2
  go_loop [3, 4] (fun r i => ∃ k : Nat, k ≤ l0.length ∧ i = .int .i64 k ∧ r = .int .u32 (v32 (run (~~~ 0#32) (l0.take k)))) (fun _ i => l0.length - (intOf i).toNat)
  case atStart => exact ⟨0, Nat.zero_le _, rfl, rfl⟩
  case round =>
    obtain ⟨k, hk, rfl, rfl⟩ := hrel
    by_cases hlt : k < l0.length
    · have b1 : decide (k < l0.length) = true := decide_eq_true hlt
      obtain ⟨ad, ea, hx⟩ := Kd.at_int HR0.out k (by omega) (by omega)
      subst ea
      obtain ⟨hc0, hc1⟩ := bts_rd HBT.out k hlt
      have hsn : run (~~~ 0#32) (l0.take (k + 1)) = byt (run (~~~ 0#32) (l0.take k)) (rd l0 k) := by
        rw [take_rd l0 k hlt, run_snoc]
      generalize rd l0 k = c at hx hsn hc0 hc1
      generalize run (~~~ 0#32) (l0.take k) = r at hsn
      simp only [Int.toNat_natCast] at hx
      have HSN := Lib.hid hsn
      clear hsn
      go_wp2
      go_loop [3, 5] (fun q i => ∃ j : Nat, j ≤ 8 ∧ i = .int .i64 j ∧ q = .int .u32 (v32 (ser r (c32 c) j))) (fun _ i => 8 - (intOf i).toNat)
      case atStart => exact ⟨0, by omega, rfl, by rw [ser_zero]⟩
      case round =>
        obtain ⟨j, hj, rfl, rfl⟩ := hrel
        by_cases hj8 : j < 8
        · have b2 : decide ((j : Int) < 8) = true := decide_eq_true (by omega)
          have hss := ser_succ r (c32 c) j
          generalize ser r (c32 c) j = q at hss
          have q0 := v32_lo q
          have hne := neq_c c hc0 hc1 j q
          cases hb : ((c32 c).getLsbD j != q.getLsbD 0)
          all_goals
            rw [hb] at hss hne
            have HSS := Lib.hid hss
            clear hss hb
            go_wp2
            go_round
            case measure => simp [intOf]; omega
            case rel =>
              refine ⟨j + 1, by omega, by go_num, ?_⟩
              rw [HSS.out]
              first
                | rw [half_tx]; rfl
                | rw [half_t]; rfl
        · obtain rfl : j = 8 := by omega
          go_wp2
          go_round
          case measure => simp [intOf]; omega
          case rel => exact ⟨k + 1, by omega, by go_num, by rw [HSN.out, ser_eight r c hc0 hc1]⟩
    · obtain rfl : k = l0.length := by omega
      rw [List.take_length]
      generalize hr : run (~~~ 0#32) l0 = r
      have HR := Lib.hid hr
      clear hr
      have hxa := xor_all r
      go_wp2
      go_ret
      exact ⟨by rw [ext, HR.out]; rfl, rfl⟩

theorem u8_tdiv (n : BitVec 32) (k : Int) : [Value.int .u8 ((v32 n).tdiv k % 256)] = [Value.int .u8 (v32 n / k % 256)] := by
  rw [Int.tdiv_eq_ediv_of_nonneg (v32_lo n)]
set_option maxHeartbeats 800000 in
theorem RSeal_calls (A0 : Option Addr) (c0 : Nat) (l0 : List Int) (w : World) (hr0 : Kd.C (Kd.int .u8) w A0 l0.length l0) (hB : Bts l0) (hl : l0.length ≤ 1000000) :
    Calls Try.prog 63 #[.slice A0 l0.length c0] w fun e w' => ∃ v0_ : Value, e = .returned v0_ ∧ Kd.R (Kd.int .u8) 5 w' w.heap.size (fun _ => True) v0_ (l0 ++ le4 (ext 0#32 l0)) ∧ Below w.heap.size w w' := by
  have HR0 := Aside0.mk hr0
  clear hr0
  have n0 := v32_lo (ext 0#32 l0)
  have hof := fun w h => ROf_calls A0 c0 l0 w h hB
  generalize hn : ext 0#32 l0 = n at n0 hof
  have HN := Lib.hid hn
  have HOF := Aside0.mk hof
  clear hn hof
  go_enter Try.func63, Try.ntmps63
  go_wp2_with (first
    | (go_at_call 73; refine (HOF.out _ HR0.out).mono ?_; rintro e w1 ⟨rfl, rfl⟩)
    | (go_at_call 15; refine (Copy_calls _ _ l0 _ HR0.out hl).mono ?_; rintro e w2 ⟨v2, rfl, ho2, hb2⟩; have HO2 := Aside0.mk ho2; have HB2 := Aside0.mk hb2; clear ho2 hb2)
    | ((with_reducible refine gate_builtin (b := .append) (xs := #[.tmp 7, .tmp 22]) rfl ?_); at_builtin; refine Kd.R_append_rows (Kd.int .u8) (w0 := w) w.heap.size rfl (.tmp 7) (.tmp 22) 32 5 (.int .u8 0) 1 rfl Try.underlying32 info_u8 rfl (by decide) (by omega) _ _ (le4 n) _ _ _ (fun _ => True) (fun _ => False) rfl rfl (Kd.R_alloc HO2.out _) (C_row (xs := le4 n) (blk_new _ _) ?aR (by simp [le4])) (fun _ _ h => h) (fun _ h => h.elim) (fun _ _ => trivial) (below_alloc HB2.out _) ?aS ?aL ?_; (case aR => exact Reps.one rfl (Reps.one (u8_tdiv n 256) (Reps.one (u8_tdiv n 65536) (Reps.one (u8_tdiv n 16777216) (Reps.none _ _))))); (case aS => have := HB2.out.size; simp; omega); (case aL => simp [le4]; omega); intro v7 w7 ho7 hb7 hg7 hat7; have HO7 := Aside0.mk ho7; have HB7 := Aside0.mk hb7; clear ho7 hb7 hg7 hat7))
  go_ret
  exact ⟨_, rfl, by rw [← HN.out] at HO7; rw [← HN.out]; exact HO7.out, HB7.out⟩

set_option maxHeartbeats 800000 in
theorem ROpen_calls (A0 : Option Addr) (c0 : Nat) (l0 : List Int) (w : World) (hr0 : Kd.C (Kd.int .u8) w A0 l0.length l0) (hc0 : l0.length ≤ c0) (hB : Bts l0) (hl : l0.length ≤ 1000000) :
    Calls Try.prog 82 #[.slice A0 l0.length c0] w fun e w' => ∃ v0_ : Value, e = .returned (.tuple #[v0_, .bool (openB l0).2]) ∧ Kd.R (Kd.int .u8) 5 w' w.heap.size (fun _ => True) v0_ (openB l0).1 ∧ Below w.heap.size w w' := by
  by_cases h4 : l0.length < 4
  · have ho : openB l0 = ([], false) := by rw [openB, if_pos h4]
    rw [ho]
    have b0 : decide (l0.length < 4) = true := decide_eq_true h4
    clear ho
    go_enter Try.func82, Try.ntmps82
    go_wp2
    go_ret2
    exact ⟨_, rfl, Kd.R_nil _ _ _ _ _, Below.refl _ _⟩
  · have b0 : decide (l0.length < 4) = false := decide_eq_false h4
    obtain ⟨i0, hi0, _, hsz, _⟩ := info_parts info_u8
    have hcut := (print_take_of (P := Try.prog) (Value.int .u8) 0 32 5 .i64 Try.underlying32 hi0 hsz A0 c0 l0 ((l0.length : Int) - 4) (by omega) (by omega) hc0).1
    have HR0 := Aside0.mk hr0
    have hrb := Kd.C_take (m := ((l0.length : Int) - 4).toNat) hr0 (by omega)
    have hlb : (l0.take ((l0.length : Int) - 4).toNat).length ≤ 1000000 := by rw [List.length_take]; omega
    have hbb : Bts (l0.take ((l0.length : Int) - 4).toNat) := fun x hx => hB x (List.mem_of_mem_take hx)
    have ho : openB l0 = if l0.take (l0.length - 4) ++ le4 (ext 0#32 (l0.take (l0.length - 4))) = l0 then (l0.take (l0.length - 4), true) else ([], false) := by rw [openB, if_neg h4]
    rw [show l0.length - 4 = ((l0.length : Int) - 4).toNat by omega] at ho
    have h40 : 0 ≤ (l0.length : Int) - 4 := by omega
    have hm : (l0.length : Int) - 4 ≤ 1000000 := by omega
    clear hr0 hsz hi0
    generalize l0.take ((l0.length : Int) - 4).toNat = b at hcut hrb hlb hbb ho
    have HRB := Aside0.mk hrb
    have hsl := fun w h => RSeal_calls A0 c0 b w h hbb hlb
    generalize hsb : b ++ le4 (ext 0#32 b) = sb at hsl ho
    have HSL := Aside0.mk hsl
    clear hrb hsl hsb h4 hbb
    by_cases hq : sb = l0
    · rw [if_pos hq] at ho
      have hd : decide (sb = l0) = true := decide_eq_true hq
      have HD := Lib.hid hd
      rw [ho]
      clear ho hq hd
      go_enter Try.func82, Try.ntmps82
      go_wp2_with (first
        | (go_at_call 63; refine (HSL.out _ HRB.out).mono ?_; rintro e w1 ⟨v1, rfl, ho1, hb1⟩; obtain ⟨A1, c1, rfl, hc1, hr1⟩ := R_C ho1; have HR1 := Aside0.mk hr1; have HB1 := Aside0.mk hb1; clear ho1 hr1 hb1)
        | (go_at_call 42; refine (Same_calls _ _ sb _ _ l0 _ HR1.out (Kd.C_below HR0.out HB1.out)).mono ?_; rw [HD.out]; rintro e w' ⟨rfl, ⟨nd, rfl⟩⟩)
        | (go_at_call 15; refine (Copy_calls _ _ b _ (Kd.C_drewN (Kd.C_below HRB.out HB1.out) _) hlb).mono ?_; rintro e w2 ⟨v2, rfl, ho2, hb2⟩; have HO2 := Aside0.mk ho2; have HB2 := Aside0.mk hb2; clear ho2 hb2))
      go_ret2
      exact ⟨_, rfl, Kd.R_lower HO2.out (by have := HB1.out.size; simpa using this), below_step (pw_below_drewN HB1.out _) HB2.out⟩
    · rw [if_neg hq] at ho
      have hd : decide (sb = l0) = false := decide_eq_false hq
      have HD := Lib.hid hd
      rw [ho]
      clear ho hq hd
      go_enter Try.func82, Try.ntmps82
      go_wp2_with (first
        | (go_at_call 63; refine (HSL.out _ HRB.out).mono ?_; rintro e w1 ⟨v1, rfl, ho1, hb1⟩; obtain ⟨A1, c1, rfl, hc1, hr1⟩ := R_C ho1; have HR1 := Aside0.mk hr1; have HB1 := Aside0.mk hb1; clear ho1 hr1 hb1)
        | (go_at_call 42; refine (Same_calls _ _ sb _ _ l0 _ HR1.out (Kd.C_below HR0.out HB1.out)).mono ?_; rw [HD.out]; rintro e w' ⟨rfl, ⟨nd, rfl⟩⟩))
      go_ret2
      exact ⟨_, rfl, Kd.R_nil _ _ _ _ _, pw_below_drewN HB1.out _⟩
end Go.Proofs.Ytcgefilboefnpaa.H
/- Plain mathematics of frames: what a frame's bytes are, and what is read. No program. -/
namespace Go.Proofs.Ytcgefilboefnpaa.H
open Go.RowKit Go.Proofs.YtcgefilboefnpaaW.PrintWords Go.Proofs.YtcgefilboefnpaaW.PrintLast Go.Proofs.YtcgefilboefnpaaW.PrintMore Go.Proofs.Ytcgefilboefnpaa.CrcM
set_option linter.unusedVariables false

/-- The length that bytes begin with. -/
def lenF (b : List Int) : Int := rd b 0 + 256 * rd b 1
/-- The frame that bytes begin with: kind, body, how many bytes, the error's number. -/
def readF (b : List Int) : Int × List Int × Int × Int :=
  if b.length < 2 then (0, [], 0, 21)
  else if lenF b > 4096 then (0, [], 0, 2)
  else if (b.length : Int) < lenF b + 7 then (0, [], 0, 21)
  else if (openB (b.take (lenF b + 7).toNat)).2 = false then (0, [], 0, 22)
  else if rd (openB (b.take (lenF b + 7).toNat)).1 2 = 0 then (0, [], 0, 20)
  else (rd (openB (b.take (lenF b + 7).toNat)).1 2, (openB (b.take (lenF b + 7).toNat)).1.drop 3, lenF b + 7, 0)
/-- A frame's bytes. -/
def bytesF (kind : Int) (body : List Int) : List Int := [(body.length : Int) % 256, (body.length : Int) / 256 % 256, kind % 256] ++ body
def writeF (kind : Int) (body : List Int) : List Int × Int :=
  if kind < 1 ∨ kind > 255 then ([], 1) else if body.length > 4096 then ([], 2) else (bytesF kind body ++ le4 (ext 0#32 (bytesF kind body)), 0)
theorem lenF_range {b : List Int} (h : Bts b) (hl : 2 ≤ b.length) : 0 ≤ lenF b ∧ lenF b ≤ 65535 := by
  have h0 := bts_rd h 0 (by omega)
  have h1 := bts_rd h 1 (by omega)
  have e0 : rd b ((0 : Nat) : Int) = rd b 0 := rfl
  have e1 : rd b ((1 : Nat) : Int) = rd b 1 := rfl
  rw [e0] at h0; rw [e1] at h1
  unfold lenF; omega
theorem or_len (x y : Int) (hx : 0 ≤ x ∧ x < 256) (hy : 0 ≤ y ∧ y < 256) : bits .or .i64 x (y * 256) = x + 256 * y := by
  have e : bits .or .i64 x (y * 256) = bits .or .i64 (y * 256) x := by
    unfold bits
    simp only [BitVec.or_comm]
  have h := bits_join .i64 62 (by decide) (fun n h0 h1 => by rw [IntKind.wrap_i64]; omega) 8 (y * 256) x (by omega) (by omega) (by omega) (by omega) (by omega) (by omega)
  rw [e, h]; omega
theorem bts_le4 (r : BitVec 32) : Bts (le4 r) := by
  intro x hx
  have h := v32_lo r
  simp [le4] at hx
  rcases hx with rfl | rfl | rfl | rfl <;> omega
theorem bts_take {l : List Int} (h : Bts l) (n : Nat) : Bts (l.take n) := fun x hx => h x (List.mem_of_mem_take hx)
theorem bts_drop {l : List Int} (h : Bts l) (n : Nat) : Bts (l.drop n) := fun x hx => h x (List.mem_of_mem_drop hx)
theorem bts_append {a b : List Int} (ha : Bts a) (hb : Bts b) : Bts (a ++ b) := fun x hx => by
  rcases List.mem_append.1 hx with h | h
  · exact ha x h
  · exact hb x h
theorem openB_len {b : List Int} : (openB b).2 = true → (openB b).1 = b.take (b.length - 4) ∧ 4 ≤ b.length := by
  unfold openB
  split
  · intro h; cases h
  · split
    · intro _; exact ⟨rfl, by omega⟩
    · intro h; cases h
end Go.Proofs.Ytcgefilboefnpaa.H
