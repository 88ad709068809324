/- law04.same, of a device and the document's device that are alike; law04.small. -/
import Derived.Test.YtpahmdjcmpnmkaaDevDo
namespace Go.Proofs.Ytpahmdjcmpnmkaa.H
open Go.RowKit Go.Proofs.YtpahmdjcmpnmkaaW.PrintWords Go.Proofs.YtpahmdjcmpnmkaaW.PrintLast Go.Proofs.YtpahmdjcmpnmkaaW.PrintMore
set_option linter.unusedVariables false
set_option linter.unusedSimpArgs false

theorem row_value [Pl] (A0 : Option Addr) (c0 : Nat) (A1 : Option Addr) (c1 : Nat) (d : Dv) (r : Int) : ∃ A c, (if r = 0 then Value.slice A0 d.a.length c0 else if r = 1 then Value.slice A1 d.b.length c1 else .slice none 0 0) = .slice A (d.row r).length c ∧ ∀ W, RvOf W A0 c0 A1 c1 d → Kd.C (Kd.int .u8) W A (d.row r).length (d.row r) := by
  unfold Dv.row
  by_cases h0 : r = 0
  · rw [if_pos h0, if_pos h0]; exact ⟨A0, c0, rfl, fun W h => h.r0.1⟩
  · rw [if_neg h0, if_neg h0]
    by_cases h1 : r = 1
    · rw [if_pos h1, if_pos h1]; exact ⟨A1, c1, rfl, fun W h => h.r1.1⟩
    · rw [if_neg h1, if_neg h1]; exact ⟨none, 0, rfl, fun W h => C_nil W none⟩
theorem RvB.of {W W' : World} {g : Nat} {A0 : Option Addr} {c0 : Nat} {A1 : Option Addr} {c1 : Nat} {d : Dv} (h : RvB W g A0 c0 A1 c1 d) (hb : Below W.heap.size W W') : RvB W' g A0 c0 A1 c1 d := blk_belowX h hb
theorem Same4_eq (A0 A1 : Option Addr) (c0 c1 n0 n1 : Nat) (l0 l1 : List Int) (w : World) (h0 : l0.length = n0) (h1 : l1.length = n1) (r : Bool) (hr : decide (l0 = l1) = r) (hr0 : Kd.C (Kd.int .u8) w A0 n0 l0) (hr1 : Kd.C (Kd.int .u8) w A1 n1 l1) :
    Calls Try.prog 16 #[.slice A0 n0 c0, .slice A1 n1 c1] w fun e w' => e = .returned (.bool r) ∧ Below w.heap.size w w' := by
  subst h0; subst h1; subst hr
  refine (Same_calls A0 c0 l0 A1 c1 l1 w hr0 hr1).mono ?_
  rintro e w' ⟨rfl, h⟩
  exact ⟨rfl, h.below⟩
set_option maxHeartbeats 1600000 in
theorem same4_calls [Pl] (g : Nat) (d : Dv) (A0 : Option Addr) (c0 : Nat) (A1 : Option Addr) (c1 : Nat) (W : World) (hD : DevAt W g d) (hR : RvOf W A0 c0 A1 c1 d) (ha : d.a.length ≤ 1000000) (hb : d.b.length ≤ 1000000) :
    Calls Try.prog 10 #[.pointer (some ⟨g, 0, none⟩), .agg (rvCells A0 c0 A1 c1 d)] W fun e W' => e = .returned (.bool true) ∧ Below W.heap.size W W' := by
  have HH := Aside0.mk (And.intro hD hR)
  clear hD hR
  go_enter Try.func10, Try.ntmps10
  go_wp2
  have hx : RvB (W.alloc (.cells (rvCells A0 c0 A1 c1 d) 29)) W.heap.size A0 c0 A1 c1 d := blk_new W _
  have hB : Below W.heap.size W (W.alloc (.cells (rvCells A0 c0 A1 c1 d) 29)) := below_alloc (Below.refl _ _) _
  have HI := Aside0.mk (And.intro hx hB)
  clear hx hB
  go_loopw [5] (fun i wr => ∃ k : Nat, k ≤ 4 ∧ i = .int .i64 ((k : Int) - 1) ∧ Aside0 (RvB wr W.heap.size A0 c0 A1 c1 d ∧ Below W.heap.size W wr)) (fun i _ => 4 - (intOf i + 1).toNat)
  case atStart => exact ⟨0, by omega, rfl, HI⟩
  case round =>
    obtain ⟨k, hk, rfl, HW⟩ := hrel
    generalize hz : (k : Int) - 1 = z at *
    clear HI
    by_cases hlt : k < 4
    · have b0 : decide (z ≤ 2) = true := decide_eq_true (by omega)
      have hz2 : z ≤ 2 := by omega
      obtain ⟨A, c, hv, hC⟩ := row_value A0 c0 A1 c1 d z
      generalize hl : d.row z = l at hv hC
      have hll : (l.length : Int) = (l.length : Int) := rfl
      obtain ⟨k0, k1, k2, k3, k4, k5⟩ := HW.out.1.cells
      have HV := Aside0.mk (And.intro hv (And.intro hC hl))
      clear hv hC hl
      go_wp2_with (fail)
      go_region_held3 (fun w' => w'.cell? ⟨W.heap.size, 0, none⟩ = some (.slice A0 d.a.length c0) ∧ w'.cell? ⟨W.heap.size, 1, none⟩ = some (.slice A1 d.b.length c1) ∧ w'.cell? ⟨W.heap.size, 2, none⟩ = some (.int .i64 d.cap) ∧ w'.cell? ⟨W.heap.size, 3, none⟩ = some (.int .i64 d.left) ∧ w'.cell? ⟨W.heap.size, 4, none⟩ = some (.bool d.down) ∧ w'.cell? ⟨W.heap.size, 5, none⟩ = some (.int .i64 d.turned)) (first | (with_reducible exact KK.out) | go_keep)
        (first
          | (go_at_call 17; refine (Bytes_eq g d z l l.length _ HV.out.2.2 rfl ?q1 ha hb).mono ?_; (case q1 => exact (HH.out.1.below HW.out.2).drew); rintro e w2 ⟨A2, c2, rfl, hc2, hr2, hb2'⟩; have hb2 : Below wr.heap.size wr w2 := ⟨hb2'.os, hb2'.tape, hb2'.output, hb2'.size, hb2'.block⟩; have KK := Aside0.mk (HW.out.1.of hb2).cells; have H2 := Aside0.mk (And.intro (HW.out.1.of hb2) (And.intro (below_step HW.out.2 hb2) hr2)); clear hr2 hb2 hb2')
          | (go_at_call 25; have _t := H2; refine (RRow_calls A0 c0 A1 c1 d z _ _ HV.out.1).mono ?_; rintro e w3 ⟨rfl, hb3⟩; have KK := Aside0.mk (H2.out.1.of hb3).cells; have H3 := Aside0.mk (And.intro (H2.out.1.of hb3) (And.intro (below_step H2.out.2.1 hb3) (H2.out.2.2.below hb3))); clear H2 _t hb3)
          | (go_at_call 21; refine (Len_eq g d z (l.length : Int) _ (by rw [HV.out.2.2]) (HH.out.1.below H4.out.2)).mono ?_; rintro e w5 ⟨rfl, rfl⟩; have KK := Aside0.mk H4.out.1.cells)
          | (go_at_call 25; have _t := H4; refine (RRow_calls A0 c0 A1 c1 d z _ _ HV.out.1).mono ?_; rintro e w6 ⟨rfl, hb6⟩; have KK := Aside0.mk (H4.out.1.of hb6).cells; have H6 := Aside0.mk (And.intro (H4.out.1.of hb6) (below_step H4.out.2 hb6)); clear H4 _t hb6)
          | (go_at_call 16; have _t := H3; (with_reducible refine (Same4_eq _ _ _ _ l.length l.length l l _ ?s1 ?s2 true ?s3 ?s4 ?s5).mono ?_); (case s1 => rfl); (case s2 => rfl); (case s3 => exact decide_eq_true rfl); (case s4 => exact H3.out.2.2.1); (case s5 => exact (HV.out.2.1 _ (HH.out.2.below H3.out.2.1))); rintro e w4 ⟨rfl, hb4⟩; have KK := Aside0.mk (H3.out.1.of hb4).cells; have H4 := Aside0.mk (And.intro (H3.out.1.of hb4) (below_step H3.out.2.1 hb4)); clear H3 _t hb4))
      go_wp2
      go_roundw
      case rel => exact ⟨k + 1, by omega, by rw [← hz]; push_cast; go_num, H6⟩
      case measure => simp [intOf]; omega
    · have b0 : decide (z ≤ 2) = false := decide_eq_false (by omega)
      have hz2 : ¬ z ≤ 2 := by omega
      obtain ⟨k0, k1, k2, k3, k4, k5⟩ := HW.out.1.cells
      go_wp2_with (fail)
      go_region_held3 (fun w' => w'.cell? ⟨W.heap.size, 0, none⟩ = some (.slice A0 d.a.length c0) ∧ w'.cell? ⟨W.heap.size, 1, none⟩ = some (.slice A1 d.b.length c1) ∧ w'.cell? ⟨W.heap.size, 2, none⟩ = some (.int .i64 d.cap) ∧ w'.cell? ⟨W.heap.size, 3, none⟩ = some (.int .i64 d.left) ∧ w'.cell? ⟨W.heap.size, 4, none⟩ = some (.bool d.down) ∧ w'.cell? ⟨W.heap.size, 5, none⟩ = some (.int .i64 d.turned)) (first | (with_reducible exact KK.out) | go_keep)
        (first
          | (go_at_call 23; refine (Down_eq g d d.down _ rfl (HH.out.1.below HW.out.2).drew).mono ?_; rintro e w5 ⟨rfl, rfl⟩)
          | (go_at_call 24; refine (Turned_eq g d d.turned _ rfl (HH.out.1.below HW.out.2).drew).mono ?_; rintro e w5 ⟨rfl, rfl⟩)
          | (go_at_call 22; refine (Capacity_eq g d d.cap _ rfl (HH.out.1.below HW.out.2).drew).mono ?_; rintro e w5 ⟨rfl, rfl⟩))
      go_wp2
      go_ret
      exact ⟨rfl, HW.out.2.os, HW.out.2.tape, HW.out.2.output, HW.out.2.size, HW.out.2.block⟩
end Go.Proofs.Ytpahmdjcmpnmkaa.H
