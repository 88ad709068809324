/- Contracts of sum.turns and sum.Extend. -/
import Derived.Test.YtbbnapdkiohefaaSl2
import Derived.Test.YtbbnapdkiohefaaCrcM
import Derived.Laws.Rows
import Derived.Laws.MakeOwn
namespace Go.Proofs.Ytbbnapdkiohefaa.H
open Go.RowKit Go.Proofs.YtbbnapdkiohefaaW.PrintWords Go.Proofs.YtbbnapdkiohefaaW.PrintLast Go.Proofs.YtbbnapdkiohefaaW.PrintMore Go.Proofs.Ytbbnapdkiohefaa.CrcM
set_option linter.unusedVariables false
set_option linter.unusedSimpArgs false

/-- The table when its first k places are filled. -/
def tabTo (k : Nat) : Array Value := (Array.range 256).map fun i => .int .u32 (if i < k then v32 (tab i) else 0)
theorem tabTo_size (k : Nat) : (tabTo k).size = 256 := by simp [tabTo]
theorem tabTo_set (k : Nat) (hk : k < 256) : (tabTo k).setIfInBounds k (.int .u32 (v32 (tab k))) = tabTo (k + 1) := by
  apply Array.ext
  · simp [tabTo]
  · intro i h1 h2
    have hi : i < 256 := by rw [tabTo_size] at h2; exact h2
    rw [Array.getElem_setIfInBounds (by rw [tabTo_size]; exact hi)]
    by_cases h : k = i
    · subst h; rw [if_pos rfl]; simp [tabTo]
    · rw [if_neg h]
      have e : (i < k) = (i < k + 1) := by apply propext; omega
      simp [tabTo, e]
theorem tabTo_zero : tabTo 0 = Array.replicate 256 (.int .u32 0) := by
  apply Array.ext
  · simp [tabTo]
  · intro i h1 h2; simp [tabTo]
theorem tabTo_full : tabTo 256 = (Array.range 256).map fun i => .int .u32 (v32 (tab i)) := by
  apply Array.ext
  · simp [tabTo]
  · intro i h1 h2
    have : i < 256 := by simpa [tabTo] using h1
    simp [tabTo, this]
theorem zero_row (w : World) : (zeroValue 41).run Try.prog w = .ok (.agg (Array.replicate 256 (.int .u32 0))) w := by kernel_rfl

set_option maxRecDepth 100000 in
set_option maxHeartbeats 1600000 in
theorem turns_calls (w : World) :
    Calls Try.prog 23 #[] w fun e w' => e = .returned (.agg ((Array.range 256).map fun i => .int .u32 (v32 (tab i)))) ∧ Below w.heap.size w w' := by
  have hz := fun w => zero_row w
  rw [← tabTo_zero] at hz
  rw [← tabTo_full]
  have hs0 := Lib.hid (tabTo_size 0)
  generalize hZ : tabTo 0 = Z at hz hs0
  have HZ := Lib.hid hZ
  clear hZ
  go_enter Try.func23, Try.ntmps23
  go_wp2
  go_loopw [5] (fun i wr => ∃ k : Nat, k ≤ 256 ∧ i = .int .i64 k ∧ Aside0 (wr.heap[w.heap.size + 1]? = some (.cells (tabTo k) 41 (0, 0))) ∧ Aside0 (wr.heap[w.heap.size]? = some (.cells Z 41 (0, 0))) ∧ Aside0 (Below w.heap.size w wr)) (fun i _ => 256 - (intOf i).toNat)
  case atStart =>
    refine ⟨0, by omega, rfl, ⟨?_⟩, ⟨?_⟩, ⟨?_⟩⟩
    · rw [HZ.out]; exact heap_alloc2_new w _ _
    · exact heap_alloc2_old w _ _
    · exact below_alloc (below_alloc (Below.refl _ _) _) _
  case round =>
    obtain ⟨k, hk, rfl, HT, HD, HB⟩ := hrel
    by_cases hlt : k < 256
    · have b1 : decide ((k : Int) < 256) = true := decide_eq_true (by omega)
      have hof := v32_ofNat k (by omega)
      have HOF := Lib.hid hof
      clear hof
      go_wp2
      go_loop [3, 10] (fun r i => ∃ j : Nat, j ≤ 8 ∧ i = .int .i64 j ∧ r = .int .u32 (v32 (stps j (BitVec.ofNat 32 k)))) (fun _ i => 8 - (intOf i).toNat)
      case atStart => exact ⟨0, by omega, rfl, by rw [stps, HOF.out]⟩
      case round =>
        obtain ⟨j, hj, rfl, rfl⟩ := hrel
        by_cases hjl : j < 8
        · have b2 : decide ((j : Int) < 8) = true := decide_eq_true (by omega)
          have hst : stps (j + 1) (BitVec.ofNat 32 k) = stp (stps j (BitVec.ofNat 32 k)) := rfl
          generalize stps j (BitVec.ofNat 32 k) = r at hst
          have h1 := v32_lo r
          have h2 := v32_hi r
          cases ho : r.getLsbD 0
          all_goals
            have hb := lsb_and r
            rw [ho] at hb
            have hb2 : (bits .and .u32 (v32 r) 1 == 1) = r.getLsbD 0 := by rw [hb, ho]; rfl
            rw [ho] at hb2
            clear hb
            have HST := Lib.hid hst
            have HO := Lib.hid ho
            clear hst ho
            go_wp2
            go_round
            case measure => simp [intOf]; omega
            case rel => first | exact ⟨j + 1, by omega, by go_num, by rw [HST.out, ← stp_even r HO.out]⟩ | exact ⟨j + 1, by omega, by go_num, by rw [HST.out, ← stp_odd r HO.out]⟩
        · obtain rfl : j = 8 := by omega
          have hc : wr.cell? ⟨w.heap.size + 1, k, none⟩ = some (.int .u32 0) := by rw [blk_cell HT.out]; simp [tabTo, hlt]
          have hf : wr.frozen? ⟨w.heap.size + 1, k, none⟩ = false := blk_frozen HT.out k
          have hinfo : (Try.prog.info? 41).map (·.size) = some 256 := by kernel_rfl
          have HST := Lib.hid (show stps 8 (BitVec.ofNat 32 k) = tab k from rfl)
          go_wp2
          go_roundw
          case measure => simp [intOf]; omega
          case rel =>
            rw [HST.out]
            refine ⟨k + 1, by omega, by go_num, ⟨?_⟩, ⟨?_⟩, ⟨?_⟩⟩
            · exact blk_put HT.out k _ (tabTo_set k hlt)
            · exact blk_far HD.out (by simp) _
            · exact HB.out.setCell (p := ⟨w.heap.size + 1, k, none⟩) (by simp) _
    · obtain rfl : k = 256 := by omega
      have hinfo : (Try.prog.info? 41).map (·.size) = some (tabTo 256).size := by rw [tabTo_size]; kernel_rfl
      have hss : Z.size = (tabTo 256).size := by rw [tabTo_size]; exact hs0.out
      have hone : ∀ q ∈ (tabTo 256).toList, q.oneCell' = true := by
        intro q hq
        simp [tabTo] at hq
        obtain ⟨i, _, rfl⟩ := hq
        rfl
      have HI := Lib.hid (And.intro hinfo (And.intro hss hone))
      clear hinfo hss hone
      generalize hVe : tabTo 256 = V at HT HI
      have HV := Lib.hid hVe
      clear hVe
      go_wp2_with (first
        | ((with_reducible refine gate_dst (N := 25) rfl ?_); refine wpList_load_row rfl 41 (.tmp 1) rfl (w.heap.size + 1) rfl 41 V (0, 0) (.array 256 29) HT.out Try.underlying41 rfl HI.out.1 ?_)
        | ((with_reducible refine gate_store (t := 41) (p := 0) (v := .tmp 25) rfl ?_); refine wpList_store_agg rfl rfl 41 (.tmp 0) (.tmp 25) rfl w.heap.size 41 Z V rfl rfl HD.out HI.out.1 HI.out.2.1 HI.out.2.2 ?_; intro w2 hr2 hf2 hz2 ho2 ht2 hu2; have HR2 := Aside0.mk hr2; have HF2 := Aside0.mk hf2; have HZ2 := Aside0.mk (And.intro hz2 (And.intro ho2 (And.intro ht2 hu2))); clear hr2 hf2 hz2 ho2 ht2 hu2))
      refine bodyPost_ret (results_cell_row rfl _ w2 w.heap.size 41 V (0, 0) (.array 256 29) rfl HR2.out Try.underlying41 rfl HI.out.1) rfl ⟨by rw [HV.out], ?_⟩
      obtain ⟨z1, z2, z3, z4⟩ := HZ2.out
      exact ⟨z2.trans HB.out.os, z3.trans HB.out.tape, z4.trans HB.out.output, by have := HB.out.size; omega, fun i hi => (HF2.out i (by omega)).trans (HB.out.block i hi)⟩

set_option maxRecDepth 100000 in
set_option maxHeartbeats 1600000 in
theorem Extend_calls (s : BitVec 32) (A0 : Option Addr) (c0 : Nat) (l0 : List Int) (w : World) (hr0 : Kd.C (Kd.int .u8) w A0 l0.length l0) (hc0 : l0.length ≤ c0) :
    Calls Try.prog 17 #[.int .u32 (v32 s), .slice A0 l0.length c0] w fun e w' => e = .returned (.int .u32 (v32 (ext s l0))) ∧ Below w.heap.size w w' := by
  have HR0 := Aside0.mk hr0
  have hm : l0.length ≤ 9223372036854775807 := hr0.2.1
  clear hr0
  go_enter Try.func17, Try.ntmps17
  have hz := fun w => zero_row w
  rw [← tabTo_zero] at hz
  have hs0 := Lib.hid (tabTo_size 0)
  generalize tabTo 0 = Z at hz hs0
  have hinfo : (Try.prog.info? 41).map (·.size) = some (tabTo 256).size := by rw [tabTo_size]; kernel_rfl
  have hone : ∀ q ∈ (tabTo 256).toList, q.oneCell' = true := by
    intro q hq
    simp [tabTo] at hq
    obtain ⟨i, _, rfl⟩ := hq
    rfl
  have hget : ∀ i, i < 256 → (tabTo 256)[i]? = some (.int .u32 (v32 (tab i))) := by intro i hi; simp [tabTo, hi]
  have HI := Lib.hid (And.intro hinfo (And.intro (tabTo_size 256) (And.intro hone hget)))
  have hTT := tabTo_full
  generalize tabTo 256 = V at HI hTT
  have HTT := Lib.hid hTT
  clear hinfo hone hget hTT
  go_wp2_with (first
    | (go_at_call 23; refine (turns_calls _).mono ?_; rintro e w1 ⟨rfl, hb1⟩; have HB1 := Aside0.mk hb1; clear hb1; rw [← HTT.out])
    | ((with_reducible refine gate_store (t := 41) (p := 5) (v := .tmp 9) rfl ?_); refine wpList_store_agg rfl rfl 41 (.tmp 5) (.tmp 9) rfl _ 41 Z V rfl rfl (blk_new _ _) HI.out.1 (hs0.out.trans HI.out.2.1.symm) HI.out.2.2.1 ?_; intro w2 hr2 hf2 hz2 ho2 ht2 hu2; have HR2 := Aside0.mk hr2; have HF2 := Aside0.mk hf2; have HZ2 := Aside0.mk (And.intro hz2 (And.intro ho2 (And.intro ht2 hu2))); clear hr2 hf2 hz2 ho2 ht2 hu2))
  rw [flip_v32]
  have HC := Aside0.mk (show Kd.C (Kd.int .u8) w2 A0 l0.length l0 from Kd.C_below HR0.out ⟨HZ2.out.2.1.trans HB1.out.os, HZ2.out.2.2.1.trans HB1.out.tape, HZ2.out.2.2.2.trans HB1.out.output, by have h1 := HZ2.out.1; have h2 := HB1.out.size; rw [World.size_alloc] at h1; omega, fun i hi => (HF2.out i (by have := HB1.out.size; omega)).trans ((Below.heap_alloc _ _ _ (by have := HB1.out.size; omega)).trans (HB1.out.block i hi))⟩)
  go_loop [6, 14] (fun r i => ∃ k : Nat, k ≤ l0.length ∧ i = .int .i64 k ∧ r = .int .u32 (v32 (run (~~~ s) (l0.take k)))) (fun _ i => l0.length - (intOf i).toNat)
  case atStart => exact ⟨0, Nat.zero_le _, rfl, rfl⟩
  case round =>
    obtain ⟨k, hk, rfl, rfl⟩ := hrel
    by_cases hlt : k < l0.length
    · have b1 : decide (k < l0.length) = true := decide_eq_true hlt
      obtain ⟨ad, ea, hx⟩ := Kd.at_int HC.out k (by omega) (by omega)
      subst ea
      have hsn : run (~~~ s) (l0.take (k + 1)) = byt (run (~~~ s) (l0.take k)) (rd l0 k) := by
        rw [List.take_succ_eq_append_getElem hlt, run_snoc]; simp [rd, hlt]
      generalize rd l0 k = c at hx hsn
      generalize run (~~~ s) (l0.take k) = r at hsn
      obtain ⟨hxb, hxl⟩ := xb_int r c
      have hcell : w2.cell? ⟨w1.heap.size, xb r c, none⟩ = some (.int .u32 (v32 (tab (xb r c)))) := by rw [blk_cell HR2.out]; exact HI.out.2.2.2 _ hxl
      have hbi := byt_int r c
      rw [← hsn] at hbi
      clear hsn
      simp only [Int.toNat_natCast] at hx
      go_wp2
      go_round
      case rel => exact ⟨k + 1, by omega, by go_num, rfl⟩
      case measure => simp [intOf]; omega
    · obtain rfl : k = l0.length := by omega
      rw [List.take_length]
      generalize hr : run (~~~ s) l0 = r
      have HR := Lib.hid hr
      clear hr
      go_wp2
      go_ret
      rw [flip_v32]
      refine ⟨by rw [ext, HR.out]; rfl, HZ2.out.2.1.trans HB1.out.os, HZ2.out.2.2.1.trans HB1.out.tape, HZ2.out.2.2.2.trans HB1.out.output, by have h1 := HZ2.out.1; have h2 := HB1.out.size; rw [World.size_alloc] at h1; omega, fun i hi => (HF2.out i (by have := HB1.out.size; omega)).trans ((Below.heap_alloc _ _ _ (by have := HB1.out.size; omega)).trans (HB1.out.block i hi))⟩
end Go.Proofs.Ytbbnapdkiohefaa.H
