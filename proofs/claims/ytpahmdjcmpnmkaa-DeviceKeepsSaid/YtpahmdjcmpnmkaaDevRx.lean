/- The document's device: Append, Truncate, Load of whatever region. -/
import Derived.Test.YtpahmdjcmpnmkaaDevRA0
import Derived.Test.YtpahmdjcmpnmkaaDevRA1
import Derived.Test.YtpahmdjcmpnmkaaDevRT0
import Derived.Test.YtpahmdjcmpnmkaaDevRT1
import Derived.Test.YtpahmdjcmpnmkaaDevRL
namespace Go.Proofs.Ytpahmdjcmpnmkaa.H
open Go.RowKit Go.Proofs.YtpahmdjcmpnmkaaW.PrintWords Go.Proofs.YtpahmdjcmpnmkaaW.PrintLast Go.Proofs.YtpahmdjcmpnmkaaW.PrintMore
set_option linter.unusedVariables false
set_option linter.unusedSimpArgs false

theorem RAppend_calls [Pl] (A0 : Option Addr) (c0 : Nat) (A1 : Option Addr) (c1 : Nat) (d : Dv) (r : Int) (A : Option Addr) (c : Nat) (l : List Int) (W : World) (hR : RvOf W A0 c0 A1 c1 d) (hl : Kd.C (Kd.int .u8) W A l.length l) (hc : l.length ≤ c) (hf : d.fit 500000 1000000000000) (hn : l.length ≤ 500000) :
    Calls Try.prog 26 #[.agg (rvCells A0 c0 A1 c1 d), .int .i64 r, .slice A l.length c] W fun e W' => ∃ A0' c0' A1' c1', e = .returned (.tuple #[.agg (rvCells A0' c0' A1' c1' (appendD d r l).1), .int .i64 (appendD d r l).2]) ∧ RvOf W' A0' c0' A1' c1' (appendD d r l).1 ∧ Below W.heap.size W W' := by
  by_cases hr : r = 0 ∨ r = 1
  · rcases hr with rfl | rfl
    · exact RApp0 A0 c0 A1 c1 d A c l W hR hl hc hf hn
    · exact RApp1 A0 c0 A1 c1 d A c l W hR hl hc hf hn
  · have HR := Aside0.mk hR
    have b0 : (r == 0) = false := by rw [beq_eq_false_iff_ne]; omega
    have b1 : (r == 1) = false := by rw [beq_eq_false_iff_ne]; omega
    have b2 : (r != 0) = true := by rw [bne_iff_ne]; omega
    have b3 : (r != 1) = true := by rw [bne_iff_ne]; omega
    obtain ⟨a, b, cap, left, down, turned⟩ := d
    have e1 : appendD ⟨a, b, cap, left, true, turned⟩ r l = (⟨a, b, cap, left, true, turned⟩, 30) := rfl
    have e2 : appendD ⟨a, b, cap, left, false, turned⟩ r l = (⟨a, b, cap, left, false, turned⟩, 1) := by unfold appendD; rw [if_neg (by simp), if_pos hr]
    clear hr hR hl hf
    cases down
    case true =>
      rw [e1]
      clear e1 e2
      go_enter Try.func26, Try.ntmps26
      go_wp2
      refine bodyPost_ret (results_list (rs := [.cell 6 29, .tmp 7]) rfl (by simp) (.cell (W.heap.size + 1) _ _ _ _ rfl (blk_new2 W _ _) Try.underlying29 rfl info_rv (.tmp .nil))) rfl ?_
      exact ⟨A0, c0, A1, c1, rfl, HR.out.below (below_alloc (below_alloc (Below.refl _ _) _) _), below_alloc (below_alloc (Below.refl _ _) _) _⟩
    case false =>
      rw [e2]
      clear e1 e2
      go_enter Try.func26, Try.ntmps26
      go_wp2
      refine bodyPost_ret (results_list (rs := [.cell 6 29, .tmp 7]) rfl (by simp) (.cell (W.heap.size + 1) _ _ _ _ rfl (blk_new2 W _ _) Try.underlying29 rfl info_rv (.tmp .nil))) rfl ?_
      exact ⟨A0, c0, A1, c1, rfl, HR.out.below (below_alloc (below_alloc (Below.refl _ _) _) _), below_alloc (below_alloc (Below.refl _ _) _) _⟩
theorem RTruncate_calls [Pl] (A0 : Option Addr) (c0 : Nat) (A1 : Option Addr) (c1 : Nat) (d : Dv) (r n : Int) (W : World) (hR : RvOf W A0 c0 A1 c1 d) (hf : d.fit 500000 1000000000000) :
    Calls Try.prog 27 #[.agg (rvCells A0 c0 A1 c1 d), .int .i64 r, .int .i64 n] W fun e W' => ∃ A0' c0' A1' c1', e = .returned (.tuple #[.agg (rvCells A0' c0' A1' c1' (truncD d r n).1), .int .i64 (truncD d r n).2]) ∧ RvOf W' A0' c0' A1' c1' (truncD d r n).1 ∧ Below W.heap.size W W' := by
  by_cases hr : r = 0 ∨ r = 1
  · rcases hr with rfl | rfl
    · exact RTrunc0 A0 c0 A1 c1 d n W hR hf
    · exact RTrunc1 A0 c0 A1 c1 d n W hR hf
  · have HR := Aside0.mk hR
    have b0 : (r == 0) = false := by rw [beq_eq_false_iff_ne]; omega
    have b1 : (r == 1) = false := by rw [beq_eq_false_iff_ne]; omega
    have b2 : (r != 0) = true := by rw [bne_iff_ne]; omega
    have b3 : (r != 1) = true := by rw [bne_iff_ne]; omega
    have hv : (if r = 0 then Value.slice A0 d.a.length c0 else if r = 1 then Value.slice A1 d.b.length c1 else .slice none 0 0) = .slice none 0 0 := by rw [if_neg (by omega), if_neg (by omega)]
    have HV := Lib.hid hv
    clear hv
    obtain ⟨a, b, cap, left, down, turned⟩ := d
    have e1 : truncD ⟨a, b, cap, left, true, turned⟩ r n = (⟨a, b, cap, left, true, turned⟩, 30) := rfl
    have e2 : truncD ⟨a, b, cap, left, false, turned⟩ r n = (⟨a, b, cap, left, false, turned⟩, 1) := by unfold truncD; rw [if_neg (by simp), if_pos (.inl hr)]
    clear hr hR hf
    cases down
    case true =>
      rw [e1]
      clear e1 e2
      go_enter Try.func27, Try.ntmps27
      go_wp2
      refine bodyPost_ret (results_list (rs := [.cell 6 29, .tmp 7]) rfl (by simp) (.cell (W.heap.size + 1) _ _ _ _ rfl (blk_new2 W _ _) Try.underlying29 rfl info_rv (.tmp .nil))) rfl ?_
      exact ⟨A0, c0, A1, c1, rfl, HR.out.below (below_alloc (below_alloc (Below.refl _ _) _) _), below_alloc (below_alloc (Below.refl _ _) _) _⟩
    case false =>
      rw [e2]
      clear e1 e2
      go_enter Try.func27, Try.ntmps27
      go_wp2_with (fail)
      have hk : RvB ((W.alloc (.cells (rvCells A0 c0 A1 c1 ⟨a, b, cap, left, false, turned⟩) 29)).alloc (.cells #[.slice none 0 0, .slice none 0 0, .int .i64 0, .int .i64 0, .bool false, .int .i64 0] 29)) W.heap.size A0 c0 A1 c1 ⟨a, b, cap, left, false, turned⟩ := blk_alloc (blk_new W _) _
      have hr := blk_new2 W (.cells (rvCells A0 c0 A1 c1 ⟨a, b, cap, left, false, turned⟩) 29) (.cells #[.slice none 0 0, .slice none 0 0, .int .i64 0, .int .i64 0, .bool false, .int .i64 0] 29)
      have hB : Below W.heap.size W ((W.alloc (.cells (rvCells A0 c0 A1 c1 ⟨a, b, cap, left, false, turned⟩) 29)).alloc (.cells #[.slice none 0 0, .slice none 0 0, .int .i64 0, .int .i64 0, .bool false, .int .i64 0] 29)) := below_alloc (below_alloc (Below.refl _ _) _) _
      generalize ((W.alloc (.cells (rvCells A0 c0 A1 c1 ⟨a, b, cap, left, false, turned⟩) 29)).alloc (.cells #[.slice none 0 0, .slice none 0 0, .int .i64 0, .int .i64 0, .bool false, .int .i64 0] 29)) = W1 at *
      obtain ⟨k0, k1, k2, k3, k4, k5⟩ := hk.cells
      have H1 := Aside0.mk (And.intro hk (And.intro hr hB))
      clear hk hr hB
      go_wp2_with (first
        | (go_at_call 25; (with_reducible refine (RRow_calls A0 c0 A1 c1 ⟨a, b, cap, left, false, turned⟩ r (.slice none 0 0) _ ?s1).mono ?_); (case s1 => exact HV.out); rintro e w2 ⟨rfl, hb2⟩; have hk2 : RvB w2 W.heap.size A0 c0 A1 c1 ⟨a, b, cap, left, false, turned⟩ := blk_belowX H1.out.1 hb2; obtain ⟨z0, z1, z2, z3, z4, z5⟩ := hk2.cells; have H2 := Aside0.mk (And.intro hk2 (And.intro (blk_belowX H1.out.2.1 hb2) (below_step H1.out.2.2 hb2))); clear hk2 hb2)
        | ((with_reducible refine gate_store (t := 29) (p := 6) (v := .tmp 32) rfl ?_); refine wpList_store_agg rfl rfl 29 (.tmp 6) (.tmp 32) rfl (W.heap.size + 1) 29 _ (rvCells A0 c0 A1 c1 ⟨a, b, cap, left, false, turned⟩) rfl rfl H2.out.2.1 info_rv rfl (by intro q hq; simp at hq; rcases hq with rfl | rfl | rfl | rfl | rfl | rfl <;> rfl) ?_; intro w3 hr3 hf3 hz3 ho3 ht3 hu3; have H3 := Aside0.mk (And.intro hr3 (oth_of hf3 hz3 ho3 ht3 hu3)); clear hr3 hf3 hz3 ho3 ht3 hu3))
      refine bodyPost_ret (results_list (rs := [.cell 6 29, .tmp 7]) rfl (by simp) (.cell (W.heap.size + 1) _ _ _ _ rfl H3.out.1 Try.underlying29 rfl info_rv (.tmp .nil))) rfl ?_
      exact ⟨A0, c0, A1, c1, rfl, (HR.out.below H2.out.2.2).oth H2.out.2.1 (by decide) H3.out.2, H3.out.2.below H2.out.2.2 (by omega)⟩
theorem RLoad_calls [Pl] (A0 : Option Addr) (c0 : Nat) (A1 : Option Addr) (c1 : Nat) (d : Dv) (r : Int) (A : Option Addr) (c : Nat) (l : List Int) (W : World) (hR : RvOf W A0 c0 A1 c1 d) (hl : Kd.C (Kd.int .u8) W A l.length l) (hc : l.length ≤ c) (hcap : 0 ≤ d.cap ∧ d.cap ≤ 1048576) (hn : l.length ≤ 500000) :
    Calls Try.prog 30 #[.agg (rvCells A0 c0 A1 c1 d), .int .i64 r, .slice A l.length c] W fun e W' => ∃ A0' c0' A1' c1', e = .returned (.agg (rvCells A0' c0' A1' c1' (d.set r (l.take d.cap.toNat)))) ∧ RvOf W' A0' c0' A1' c1' (d.set r (l.take d.cap.toNat)) ∧ Below W.heap.size W W' := by
  by_cases hr : r = 0 ∨ r = 1
  · rcases hr with rfl | rfl
    · exact RLoad0 A0 c0 A1 c1 d A c l W hR hl hc hcap hn
    · exact RLoad1 A0 c0 A1 c1 d A c l W hR hl hc hcap hn
  · rw [set_no d r _ hr]
    exact RLoadn A0 c0 A1 c1 d A c l r W hr hR hl hc hcap hn
end Go.Proofs.Ytpahmdjcmpnmkaa.H
