/- frame.End: a function that goes over a func. -/
import Derived.Test.YtagjnjdaookdgaaScan
namespace Go.Proofs.Ytagjnjdaookdgaa.H
open Go.RowKit Go.Proofs.YtagjnjdaookdgaaW.PrintWords Go.Proofs.YtagjnjdaookdgaaW.PrintLast Go.Proofs.YtagjnjdaookdgaaW.PrintMore Go.Proofs.Ytagjnjdaookdgaa.CrcM
set_option linter.unusedVariables false
set_option linter.unusedSimpArgs false
attribute [local go_sem] Oper.semAt_some wide_fn wide_depth

def endErr (b : List Int) : Int := if endF b = b.length then 0 else (readF (b.drop (endF b))).2.2.2
def foldE (xs : List Fr) : Int := xs.foldl (fun (_ : Int) x => x.1 + ((x.2.2.length : Int) + 7)) 0

set_option maxHeartbeats 1600000 in
theorem End_calls (b : List Int) (hB : Bts b) (hl : b.length ≤ 1000000) (A : Option Addr) (c : Nat) (hc : b.length ≤ c) (w : World) (hC : Kd.C (Kd.int .u8) w A b.length b) :
    Calls Try.prog 17 #[.slice A b.length c] w fun e w' => e = .returned (.tuple #[.int .i64 (endF b), .int .i64 (endErr b)]) ∧ Below w.heap.size w w' := by
  refine (callsIn_wide (n := 5)).1 ?_
  refine callsIn_of_wp_marks Try.func17 rfl trivial ?_ rfl
  simp only [Try.ntmps17, List.size_toArray, List.length_cons, List.length_nil, Nat.reduceAdd, Nat.reduceSub, Array.replicate_succ, Array.replicate_zero, List.push_toArray, List.append_toArray, List.nil_append, List.cons_append]
  have HC := Aside0.mk hC
  clear hC
  gi_wp2_with (gi_at_call 18; refine (callsIn_wide.2 (Scan_calls _ _ _ _)).mono ?_; rintro e w1 ⟨rfl, rfl⟩)
  have hBel : Below w.heap.size w ((w.alloc (.cells #[.int .i64 0] 3)).alloc (.cells #[.slice A b.length c] 22)) := below_alloc (below_alloc (Below.refl _ _) _) _
  have hb1 : ((w.alloc (.cells #[.int .i64 0] 3)).alloc (.cells #[.slice A b.length c] 22)).heap[w.heap.size]? = some (.cells #[.int .i64 (foldE [])] 3 (0, 0)) := blk_alloc (blk_new w _) _
  have hb2 : ((w.alloc (.cells #[.int .i64 0] 3)).alloc (.cells #[.slice A b.length c] 22)).heap[w.heap.size + 1]? = some (.cells #[.slice A b.length c] 22 (0, 0)) := by
    have := blk_new (w.alloc (.cells #[.int .i64 0] 3)) (.cells #[.slice A b.length c] 22)
    rwa [World.size_alloc] at this
  have hsz : ((w.alloc (.cells #[.int .i64 0] 3)).alloc (.cells #[.slice A b.length c] 22)).heap.size = w.heap.size + 2 := by simp
  generalize ((w.alloc (.cells #[.int .i64 0] 3)).alloc (.cells #[.slice A b.length c] 22)) = w2 at hBel hb1 hb2 hsz
  refine rangeX rfl (by omega) (gf := 27) (lb := #[.pointer (some ⟨w.heap.size + 1, 0, none⟩)]) rfl trivial (enters_of Try.func27 (by kernel_rfl) rfl)
    (Y := FrY b) (n₀ := w.heap.size + 2) (Kb := fun k => k ≠ w.heap.size) (S := fun xs => xs = scanF b) (Sp := fun _ => True)
    (Scan1_seq 4 b hB hl A c hc (w.heap.size + 1) (w.heap.size + 2) (fun k => k ≠ w.heap.size) w2
      (fun W hk => by rw [blk_cell ((hk.2 (w.heap.size + 1) (by omega) (by omega)).trans hb2) 0]; rfl)
      (fun W hk => C_of_blocks HC.out (fun i hi => (hk.2 i (by omega) (by omega)).trans (hBel.block i hi))) (by omega)) (by omega)
    (fun _ _ _ _ hy => by obtain ⟨_, A3, c3, rfl, _⟩ := hy; rfl)
    (fun pre W => W.heap[w.heap.size]? = some (.cells #[.int .i64 (foldE pre)] 3 (0, 0)) ∧ Below w.heap.size w W) (fun _ _ _ => False)
    (fun s P Q h hlie => ⟨hlie.blk h.1, hlie.below h.2 (by omega) (Nat.le_refl _)⟩) (fun _ _ _ _ h _ => h) ⟨hb1, hBel⟩ ?round ?done (fun _ _ _ _ _ _ h _ => h.elim)
  case round =>
    rintro l pre ⟨xa, xk, xb⟩ vs W hl2 ⟨hI1, hI2⟩ ⟨hpre, A3, c3, rfl, hc3, hr3⟩ hWs
    obtain ⟨m0, m1, m2, m3, m4, m5⟩ := scanL_mem b hB _ _ _ (hpre.subset (List.mem_append.2 (.inr (List.mem_singleton.2 rfl))) : (xa, xk, xb) ∈ scanL b (b.length + 1) 0) (by omega)
    simp only at m0 m1 m2 m3 m4 m5 hc3 hr3
    have hWt := Weight_calls (xb.length : Int)
    have hwv : weightF (xb.length : Int) = (xb.length : Int) + 7 := by unfold weightF; rw [if_neg (by omega)]
    rw [hwv] at hWt
    have hfold : foldE (pre ++ [(xa, xk, xb)]) = xa + ((xb.length : Int) + 7) := by unfold foldE; rw [List.foldl_append]; rfl
    have HW := Aside0.mk hWt
    have HF := Lib.hid hfold
    clear hfold hwv hWt
    gi_wp2
    refine ⟨KeepsFrom.of_below (below_alloc (Below.refl _ _) _), Kp.of_below (below_alloc (Below.refl _ _) _) (by omega), ?_⟩
    intro Wb hlie
    have g1 := hlie.blk (blk_new W (.cells #[.int .i64 xk, .slice A3 xb.length c3] 28))
    have g2 := hlie.blk (blk_alloc hI1 (.cells #[.int .i64 xk, .slice A3 xb.length c3] 28))
    have gB := hlie.below (below_alloc hI2 (.cells #[.int .i64 xk, .slice A3 xb.length c3] 28)) (by omega) (Nat.le_refl _)
    have gs := hlie.size
    rw [World.size_alloc] at gs
    have hne : w.heap.size ≠ W.heap.size := by omega
    have d0 := blk_cell g1 0
    have d1 := blk_cell g1 1
    have d2 := blk_cell g2 0
    have f2 := blk_frozen g2 0
    simp at d0 d1 d2
    have G1 := Aside0.mk g1
    have G2 := Aside0.mk g2
    clear g1 g2 hI1 hI2 hlie
    gi_wp2_with (gi_at_call 12; refine (CallsIn.inRound l (callsIn_wide.2 (HW.out _ (by omega)))).mono ?_; rintro e w1 ⟨rfl, rfl⟩)
    exact ⟨KeepsFrom.set _ _ _ _, Kp.set (fun h => absurd rfl h) _, by rw [HF.out]; exact blk_set G2.out 0 _, below_set gB (Nat.le_refl _)⟩
  case done =>
    rintro D xs W hD rfl ⟨hI1, hI2⟩ hK
    have hE : foldE (scanF b) = (endF b : Int) := endL_fold b hB _ 0 (by omega)
    have hel : endF b ≤ b.length := endL_le b hB _ 0 (by omega)
    have hee : endErr b = if endF b = b.length then 0 else (readF (b.drop (endF b))).2.2.2 := rfl
    rw [hE] at hI1
    clear hE
    generalize hg1 : endErr b = er at hee
    generalize hg2 : endF b = e at hI1 hel hee
    have HG1 := Lib.hid hg1
    have HG2 := Lib.hid hg2
    clear hg1 hg2
    have d2 := blk_cell hI1 0
    have f2 := blk_frozen hI1 0
    simp at d2
    have hWs := hI2.size
    have G1 := Aside0.mk hI1
    have HB2 := Aside0.mk hI2
    have HK := Aside0.mk hK
    have hDl := lt_of_some hK
    have e0 : (e : Int) ≤ 1000000 := by omega
    have e1 : 0 ≤ (e : Int) := by omega
    have hDw : w.heap.size ≤ D := by omega
    by_cases heq : e = b.length
    · rw [if_pos heq] at hee
      have b0 : ((e : Int) == (b.length : Int)) = true := by rw [beq_iff_eq]; omega
      have HE := Lib.hid hee
      clear hI1 hI2 hK hee
      gi_wp2
      refine ⟨by simp, .inl ⟨_, _, rfl, run_takeDeferred HK.out, ?_⟩⟩
      refine ⟨_, results_list (rs := [.tmp 2, .tmp 3]) rfl (by simp) (.tmp (.tmp .nil)), ?_, belowK_t HB2.out (belowK_b (w := w) (Nat.le_refl _) W D _ _ hDw HK.out rfl rfl)⟩
      rw [HG1.out, HG2.out, HE.out, heq]
      rfl
    · rw [if_neg heq] at hee
      have b0 : ((e : Int) == (b.length : Int)) = false := by rw [beq_eq_false_iff_ne]; omega
      obtain ⟨i0, hi0, _, hszu, _⟩ := info_parts info_u8
      obtain ⟨A2, hcut, hreads, hld⟩ := print_drop_of (P := Try.prog) (Value.int .u8) 0 22 5 .i64 Try.underlying22 hi0 hszu A c b (e : Int) (by omega) (by omega) hc
      rw [Int.toNat_natCast] at hcut hreads hld
      have hrd := Kd.C_of_reads (h1 := fun _ => rfl) (hreads _ (Kd.reads_of_C (d := (0 : Int)) (Kd.C_below HC.out hI2)))
      have hBd : Bts (b.drop e) := bts_drop hB _
      have hdl : (b.drop e).length ≤ 1000000 := by rw [List.length_drop]; omega
      clear hreads hi0 hszu
      generalize b.drop e = d at hcut hrd hBd hdl hld hee
      have hread := Read_calls A2 (c - e) d W hrd hld hBd hdl
      unfold ReadPost at hread
      generalize readF d = r at hread hee
      obtain ⟨rk, rb, rn, re⟩ := r
      simp only at hread hee
      have HR := Aside0.mk hread
      have HE := Lib.hid hee
      clear hI1 hI2 hK hee hread hrd
      gi_wp2_with (gi_at_call 14; refine (callsIn_wide.2 HR.out).mono ?_; rintro e w1 ⟨v1, rfl, ho1, hb1⟩; obtain ⟨A3, c3, e3, hc3, hr3⟩ := R_C ho1; subst e3; have h1 := (hb1.block w.heap.size (by omega)).trans G1.out; have h2 := (hb1.block D hDl).trans HK.out; have h3 := below_step HB2.out hb1; have hs1 := hb1.size; have hs2 := blk_lt h1; have d3 := blk_cell h1 0; have f3 := blk_frozen h1 0; simp at d3; have G3 := Aside0.mk h1; have HK3 := Aside0.mk h2; have HB3 := Aside0.mk h3; clear ho1 hb1 hr3 h1 h2 h3)
      have hK4 := blk_alloc HK3.out (.cells #[.int .i64 rk, .slice A3 rb.length c3] 28)
      refine ⟨by simp, .inl ⟨_, _, rfl, run_takeDeferred hK4, ?_⟩⟩
      refine ⟨_, results_list (rs := [.tmp 2, .tmp 3]) rfl (by simp) (.tmp (.tmp .nil)), ?_, belowK_t (below_alloc HB3.out _) (belowK_b (w := w) (Nat.le_refl _) _ D _ _ hDw hK4 rfl rfl)⟩
      rw [HG1.out, HG2.out, HE.out]
      rfl
end Go.Proofs.Ytagjnjdaookdgaa.H
