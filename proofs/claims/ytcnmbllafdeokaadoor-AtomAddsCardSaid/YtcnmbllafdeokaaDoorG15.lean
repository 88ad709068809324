/- Some texts of one seat in one file, in build order. -/
import Derived.Test.YtcnmbllafdeokaaDoorG14
import Derived.Test.YtcnmbllafdeokaaDoorG13
-- PRINTED BY A CHANGED COPY OF THE PRINT (wip/tools/patch_print.py), over contracts by hand
namespace Go.Proofs.YtcnmbllafdeokaaDoor.PCheck
open Go.RowKit Go.Proofs.YtcnmbllafdeokaaDoorW.PrintWords Go.Proofs.YtcnmbllafdeokaaDoorW.PrintLast Go.Proofs.YtcnmbllafdeokaaDoorW.PrintMore
attribute [local go_sem] max2_int min2_int max_two min_two max_three min_three max_four min_four   -- for this text's walks alone
set_option linter.unusedVariables false
set_option linter.unusedSimpArgs false

/-! ### set_Within: function 26 -/
def set_Within.f (a0 : Int) (a1 : Int) : Option (Bool) := some ((Go.bits .andNot .u64 a0 a1) == 0)
set_option maxHeartbeats 8000000 in
set_option maxRecDepth 100000 in
theorem set_Within.calls (a0 : Int) (a1 : Int) (r : Bool) (w : World) (h : set_Within.f a0 a1 = some r) :
    Calls Tryd.prog 26 #[.int .u64 a0, .int .u64 a1] w fun e w' => e = .returned (.bool r) ∧ Drawn0 w w' := by
  have H : (some ((Go.bits .andNot .u64 a0 a1) == 0)) = some r := h
  clear h
  obtain rfl := Option.some.inj H
  go_enter Tryd.func26, Tryd.ntmps26
  go_wp2
  go_ret
  exact ⟨by first | rfl | (simp; done) | (simp [*]; done), by repeat (first | exact Drawn0.refl _ | apply Drawn0.step)⟩

/-! ### atom_Check: function 14 -/
def atom_Check.l0 : Nat → Int → List (S28) → Int → Int → Option (Int)
  | 0, _, _, _, _ => none
  | k + 1, x1, x10, x11, x12 => if x12 < x11 then (if 0 ≤ x12 then (if x12 < (x10.length : Int) then ((set_Within.f ((rd_T28 x10 x12).f0) x1).bind fun t103 => (if t103 = true then (if ((rd_T28 x10 x12).f1) < 0 then (some 1) else (if ((rd_T28 x10 x12).f1) > 1099511627776 then (some 1) else (atom_Check.l0 k x1 x10 x11 (wrap64 (x12 + 1))))) else (some 1))) else (none)) else (none)) else (some 0)
def atom_Check.f (k : Nat) (l0 : List (S28)) (a1 : Int) : Option (Int) := if (l0.length : Int) > 64 then (some 3) else (atom_Check.l0 k a1 l0 (l0.length : Int) 0)
theorem atom_Check.mono_l : ∀ k, (∀ y0 y1 y2 y3, LeO (atom_Check.l0 k y0 y1 y2 y3) (atom_Check.l0 (k + 1) y0 y1 y2 y3))
  | 0 => fun _ _ _ _ r h => by simp [atom_Check.l0] at h
  | k + 1 => by
    have ih0 := atom_Check.mono_l k
    · intro y0 y1 y2 y3
      unfold atom_Check.l0
      repeat' first
      | (with_reducible exact ih0 _ _ _ _)
      | (with_reducible exact LeO.refl _)
      | (with_reducible exact LeO.none _)
      | (with_reducible refine LeO.ite ?_ ?_)
      | (with_reducible refine LeO.bind ?_ (fun _ => ?_))
      | exact ih0 _ _ _ _
      | exact LeO.none _
      | refine LeO.ite ?_ ?_
      | refine LeO.bind ?_ (fun _ => ?_)
theorem atom_Check.mono : ∀ a0 a1 k, LeO (atom_Check.f k a0 a1) (atom_Check.f (k + 1) a0 a1) := by
  intro a0 a1 k
  have ih0 := atom_Check.mono_l k
  unfold atom_Check.f
  repeat' first
      | (with_reducible exact ih0 _ _ _ _)
      | (with_reducible exact LeO.refl _)
      | (with_reducible exact LeO.none _)
      | (with_reducible refine LeO.ite ?_ ?_)
      | (with_reducible refine LeO.bind ?_ (fun _ => ?_))
      | exact ih0 _ _ _ _
      | exact LeO.none _
      | refine LeO.ite ?_ ?_
      | refine LeO.bind ?_ (fun _ => ?_)
set_option maxHeartbeats 8000000 in
set_option maxRecDepth 100000 in
theorem atom_Check.calls (k : Nat) (A0 : Option Addr) (c0 : Nat) (l0 : List (S28)) (a1 : Int) (r : Int) (w : World) (hr0 : Kd.C k28 w A0 l0.length l0) (hc0 : l0.length ≤ c0) (h : atom_Check.f k l0 a1 = some r) :
    Calls Tryd.prog 14 #[.slice A0 l0.length c0, .int .u64 a1] w fun e w' => e = .returned (.int .i64 r) ∧ Below w.heap.size w w' := by
  have hu28 := Tryd.underlying28
  have HR0 := Aside0.mk hr0
  have HC0 := Aside0.mk hc0
  clear hr0 hc0
  have HB := Aside0.mk (Below.refl w.heap.size w)
  have H : (if (l0.length : Int) > 64 then (some 3) else (atom_Check.l0 k a1 l0 (l0.length : Int) 0)) = some r := h
  clear h
  by_cases c3 : (l0.length : Int) > 64
  · rw [if_pos c3] at H
    have c3b0 : decide (64 < (l0.length : Int)) = true := decide_eq_true c3
    have c3b1 : decide (64 < l0.length) = true := decide_eq_true (by omega)
    clear c3
    obtain rfl := Option.some.inj H
    go_enter Tryd.func14, Tryd.ntmps14
    go_wp2
    go_ret
    exact ⟨by first | rfl | (simp [errW_none, errW_some] <;> rfl) | (simp [*, errW_none, errW_some] <;> rfl), by repeat (first | (with_reducible first | exact HB.out | apply below_alloc | apply pw_below_drewN | apply below_drew1) | exact HB.out)⟩
  · rw [if_neg c3] at H
    have c3b0 : decide (64 < (l0.length : Int)) = false := decide_eq_false c3
    have c3b1 : decide (64 < l0.length) = false := decide_eq_false (by omega)
    clear c3
    have H' := Aside0.mk H
    clear H
    go_enter Tryd.func14, Tryd.ntmps14
    go_wp2
    go_loopg [12] k (fun kq v12 w' => ∃ (x12_1 : Int), v12 = .int .i64 x12_1 ∧ Aside0 (atom_Check.l0 kq a1 l0 (l0.length : Int) x12_1 = some r) ∧ Aside0 (kq ≤ k) ∧ Aside0 (Below w.heap.size w w'))
    case atStart => exact ⟨(0), (by first | rfl | (simp; done) | (simp [*]; done)), H', ⟨Nat.le_refl _⟩, ⟨by repeat (first | (with_reducible first | exact HB.out | apply below_alloc | apply pw_below_drewN | apply below_drew1) | exact HB.out)⟩⟩
    case round =>
      clear H'
      try clear c1
      try clear p2
      try clear c3
      try clear c3b0
      try clear c3b1
      obtain ⟨x12_1, rfl, HA, HK1, HB⟩ := hrel
      cases gk with
      | zero => exact absurd HA.out (by simp [atom_Check.l0])
      | succ k1 =>
        have H := HA.out
        clear HA
        simp only [atom_Check.l0] at H
        by_cases c4 : x12_1 < (l0.length : Int)
        · rw [if_pos c4] at H
          have c4b0 : decide (x12_1 < (l0.length : Int)) = true := decide_eq_true c4
          clear c4
          by_cases c5 : 0 ≤ x12_1
          · rw [if_pos c5] at H
            have c5b0 : decide (0 ≤ x12_1) = true := decide_eq_true c5
            clear c5
            by_cases c6 : x12_1 < (l0.length : Int)
            · rw [if_pos c6] at H
              have c6b0 : decide (x12_1 < (l0.length : Int)) = true := decide_eq_true c6
              clear c6
              replace H := Option.bind_eq_some_iff.mp H
              obtain ⟨t103, A70, H⟩ := H
              replace H : (if t103 = true then (if ((rd_T28 l0 x12_1).f1) < 0 then (some 1) else (if ((rd_T28 l0 x12_1).f1) > 1099511627776 then (some 1) else (atom_Check.l0 k1 a1 l0 (l0.length : Int) (wrap64 (x12_1 + 1))))) else (some 1)) = some r := H
              have A7 := Aside0.mk A70
              clear A70
              by_cases c8 : t103 = true
              · subst c8
                have H1 : (if ((rd_T28 l0 x12_1).f1) < 0 then (some 1) else (if ((rd_T28 l0 x12_1).f1) > 1099511627776 then (some 1) else (atom_Check.l0 k1 a1 l0 (l0.length : Int) (wrap64 (x12_1 + 1))))) = some r := by rw [if_pos rfl] at H; exact H
                clear H
                have H := H1
                clear H1
                by_cases c9 : ((rd_T28 l0 x12_1).f1) < 0
                · rw [if_pos c9] at H
                  have c9b0 : decide (((rd_T28 l0 x12_1).f1) < 0) = true := decide_eq_true c9
                  clear c9
                  obtain rfl := Option.some.inj H
                  have p101 : 0 ≤ (x12_1 : Int) := of_decide_eq_true (by first | (with_reducible assumption) | assumption)
                  have q101 : x12_1 < (l0.length : Int) := of_decide_eq_true (by first | (with_reducible assumption) | assumption)
                  obtain ⟨ad101, e101, hx101_0, hx101_1⟩ := at_T28 HR0.out x12_1 p101 q101
                  cases e101
                  replace hx101_0 := (HB.out.cell (World.block_lt_of_cell? w _ hx101_0)).trans hx101_0
                  replace hx101_1 := (HB.out.cell (World.block_lt_of_cell? w _ hx101_1)).trans hx101_1
                  replace p101 := eq_true p101
                  replace q101 := eq_true q101
                  go_wp2_with (first | ((with_reducible refine gate_dst (N := 6) rfl ?_); refine box_event ?hg (N := 6) ?hd (cs := #[.int .u64 0, .int .i64 0]) (t := 28) ?hr ?_; (case hd => rfl); (case hg => rfl); (case hr => first | (go_simp; done) | (go_simp; rfl)); intro gb102 hg w10 hbox hb; have n0_ := Aside0.mk (below_step (by repeat (first | (with_reducible first | exact HB.out | apply below_alloc | apply pw_below_drewN | apply below_drew1) | exact HB.out)) hb); have n1_ := Aside0.mk (hbox); have n2_ := Aside0.mk ((by rw [hg]; exact (below_size (by repeat (first | (with_reducible first | exact HB.out | apply below_alloc | apply pw_below_drewN | apply below_drew1) | exact HB.out))) : w.heap.size ≤ gb102)); have n3_ := Aside0.mk ((by rw [hg]; exact (below_size (by repeat (first | (with_reducible first | exact HB.out | apply below_alloc | apply pw_below_drewN | apply below_drew1) | exact HB.out))) : w.heap.size ≤ gb102)); clear HB; have HB := n0_; have BK102 := n1_; have GW102 := n2_; have GE102 := n3_; clear n0_ n1_ n2_ n3_; clear hb hbox hg; have hcz11_0 : w10.cell? ⟨gb102, 0, none⟩ = some (.int .u64 0) := (blk_cell BK102.out 0).trans rfl; have hcz11_1 : w10.cell? ⟨gb102, 1, none⟩ = some (.int .i64 0) := (blk_cell BK102.out 1).trans rfl; have hfz11_0 := blk_frozen BK102.out 0; have hfz11_1 := blk_frozen BK102.out 1) | ((with_reducible refine gate_callee (f := 26) rfl ?_); refine goesL_ (some 19) rfl rfl Tryd.func26 (by kernel_rfl) rfl #[.int .u64 ((rd_T28 l0 x12_1).f0), .int .u64 a1] rfl (by (try simp only [List.map_toArray, List.map_cons, List.map_nil]); first | done | rfl | (simp only [List.length_drop, List.length_take]; rfl)) ?_; (with_reducible refine (set_Within.calls ((rd_T28 l0 x12_1).f0) a1 true _ A7.out).mono ?_); rintro e w' ⟨rfl, ⟨nd, rfl⟩⟩; refine ⟨_, rfl, ?_⟩))
                  go_ret
                  exact ⟨by first | rfl | (simp [errW_none, errW_some] <;> rfl) | (simp [*, errW_none, errW_some] <;> rfl), by repeat (first | (with_reducible first | exact HB.out | apply below_alloc | apply pw_below_drewN | apply below_drew1 | refine below_set ?_ GE102.out) | exact HB.out)⟩
                · rw [if_neg c9] at H
                  have c9b0 : decide (((rd_T28 l0 x12_1).f1) < 0) = false := decide_eq_false c9
                  clear c9
                  by_cases c12 : ((rd_T28 l0 x12_1).f1) > 1099511627776
                  · rw [if_pos c12] at H
                    have c12b0 : decide (1099511627776 < ((rd_T28 l0 x12_1).f1)) = true := decide_eq_true c12
                    clear c12
                    obtain rfl := Option.some.inj H
                    have p101 : 0 ≤ (x12_1 : Int) := of_decide_eq_true (by first | (with_reducible assumption) | assumption)
                    have q101 : x12_1 < (l0.length : Int) := of_decide_eq_true (by first | (with_reducible assumption) | assumption)
                    obtain ⟨ad101, e101, hx101_0, hx101_1⟩ := at_T28 HR0.out x12_1 p101 q101
                    cases e101
                    replace hx101_0 := (HB.out.cell (World.block_lt_of_cell? w _ hx101_0)).trans hx101_0
                    replace hx101_1 := (HB.out.cell (World.block_lt_of_cell? w _ hx101_1)).trans hx101_1
                    replace p101 := eq_true p101
                    replace q101 := eq_true q101
                    go_wp2_with (first | ((with_reducible refine gate_dst (N := 6) rfl ?_); refine box_event ?hg (N := 6) ?hd (cs := #[.int .u64 0, .int .i64 0]) (t := 28) ?hr ?_; (case hd => rfl); (case hg => rfl); (case hr => first | (go_simp; done) | (go_simp; rfl)); intro gb102 hg w13 hbox hb; have n0_ := Aside0.mk (below_step (by repeat (first | (with_reducible first | exact HB.out | apply below_alloc | apply pw_below_drewN | apply below_drew1) | exact HB.out)) hb); have n1_ := Aside0.mk (hbox); have n2_ := Aside0.mk ((by rw [hg]; exact (below_size (by repeat (first | (with_reducible first | exact HB.out | apply below_alloc | apply pw_below_drewN | apply below_drew1) | exact HB.out))) : w.heap.size ≤ gb102)); have n3_ := Aside0.mk ((by rw [hg]; exact (below_size (by repeat (first | (with_reducible first | exact HB.out | apply below_alloc | apply pw_below_drewN | apply below_drew1) | exact HB.out))) : w.heap.size ≤ gb102)); clear HB; have HB := n0_; have BK102 := n1_; have GW102 := n2_; have GE102 := n3_; clear n0_ n1_ n2_ n3_; clear hb hbox hg; have hcz14_0 : w13.cell? ⟨gb102, 0, none⟩ = some (.int .u64 0) := (blk_cell BK102.out 0).trans rfl; have hcz14_1 : w13.cell? ⟨gb102, 1, none⟩ = some (.int .i64 0) := (blk_cell BK102.out 1).trans rfl; have hfz14_0 := blk_frozen BK102.out 0; have hfz14_1 := blk_frozen BK102.out 1) | ((with_reducible refine gate_callee (f := 26) rfl ?_); refine goesL_ (some 19) rfl rfl Tryd.func26 (by kernel_rfl) rfl #[.int .u64 ((rd_T28 l0 x12_1).f0), .int .u64 a1] rfl (by (try simp only [List.map_toArray, List.map_cons, List.map_nil]); first | done | rfl | (simp only [List.length_drop, List.length_take]; rfl)) ?_; (with_reducible refine (set_Within.calls ((rd_T28 l0 x12_1).f0) a1 true _ A7.out).mono ?_); rintro e w' ⟨rfl, ⟨nd, rfl⟩⟩; refine ⟨_, rfl, ?_⟩))
                    go_ret
                    exact ⟨by first | rfl | (simp [errW_none, errW_some] <;> rfl) | (simp [*, errW_none, errW_some] <;> rfl), by repeat (first | (with_reducible first | exact HB.out | apply below_alloc | apply pw_below_drewN | apply below_drew1 | refine below_set ?_ GE102.out) | exact HB.out)⟩
                  · rw [if_neg c12] at H
                    have c12b0 : decide (1099511627776 < ((rd_T28 l0 x12_1).f1)) = false := decide_eq_false c12
                    clear c12
                    have H' := Aside0.mk H
                    clear H
                    have p101 : 0 ≤ (x12_1 : Int) := of_decide_eq_true (by first | (with_reducible assumption) | assumption)
                    have q101 : x12_1 < (l0.length : Int) := of_decide_eq_true (by first | (with_reducible assumption) | assumption)
                    obtain ⟨ad101, e101, hx101_0, hx101_1⟩ := at_T28 HR0.out x12_1 p101 q101
                    cases e101
                    replace hx101_0 := (HB.out.cell (World.block_lt_of_cell? w _ hx101_0)).trans hx101_0
                    replace hx101_1 := (HB.out.cell (World.block_lt_of_cell? w _ hx101_1)).trans hx101_1
                    replace p101 := eq_true p101
                    replace q101 := eq_true q101
                    go_wp2_with (first | ((with_reducible refine gate_dst (N := 6) rfl ?_); refine box_event ?hg (N := 6) ?hd (cs := #[.int .u64 0, .int .i64 0]) (t := 28) ?hr ?_; (case hd => rfl); (case hg => rfl); (case hr => first | (go_simp; done) | (go_simp; rfl)); intro gb102 hg w15 hbox hb; have n0_ := Aside0.mk (below_step (by repeat (first | (with_reducible first | exact HB.out | apply below_alloc | apply pw_below_drewN | apply below_drew1) | exact HB.out)) hb); have n1_ := Aside0.mk (hbox); have n2_ := Aside0.mk ((by rw [hg]; exact (below_size (by repeat (first | (with_reducible first | exact HB.out | apply below_alloc | apply pw_below_drewN | apply below_drew1) | exact HB.out))) : w.heap.size ≤ gb102)); have n3_ := Aside0.mk ((by rw [hg]; exact (below_size (by repeat (first | (with_reducible first | exact HB.out | apply below_alloc | apply pw_below_drewN | apply below_drew1) | exact HB.out))) : w.heap.size ≤ gb102)); clear HB; have HB := n0_; have BK102 := n1_; have GW102 := n2_; have GE102 := n3_; clear n0_ n1_ n2_ n3_; clear hb hbox hg; have hcz16_0 : w15.cell? ⟨gb102, 0, none⟩ = some (.int .u64 0) := (blk_cell BK102.out 0).trans rfl; have hcz16_1 : w15.cell? ⟨gb102, 1, none⟩ = some (.int .i64 0) := (blk_cell BK102.out 1).trans rfl; have hfz16_0 := blk_frozen BK102.out 0; have hfz16_1 := blk_frozen BK102.out 1) | ((with_reducible refine gate_callee (f := 26) rfl ?_); refine goesL_ (some 19) rfl rfl Tryd.func26 (by kernel_rfl) rfl #[.int .u64 ((rd_T28 l0 x12_1).f0), .int .u64 a1] rfl (by (try simp only [List.map_toArray, List.map_cons, List.map_nil]); first | done | rfl | (simp only [List.length_drop, List.length_take]; rfl)) ?_; (with_reducible refine (set_Within.calls ((rd_T28 l0 x12_1).f0) a1 true _ A7.out).mono ?_); rintro e w' ⟨rfl, ⟨nd, rfl⟩⟩; refine ⟨_, rfl, ?_⟩))
                    go_roundg k1
                    case measure => have := HK1.out; omega
                    case rel => exact ⟨(wrap64 (x12_1 + 1)), (by first | rfl | (simp; done) | (simp [*]; done)), H', ⟨by have := HK1.out; omega⟩, ⟨by repeat (first | (with_reducible first | exact HB.out | apply below_alloc | apply pw_below_drewN | apply below_drew1 | refine below_set ?_ GE102.out) | exact HB.out)⟩⟩
              · replace c8 := Bool.eq_false_iff.mpr c8
                subst c8
                have H1 : (some 1) = some r := by rw [if_neg (show ¬ (false = true) by decide)] at H; exact H
                clear H
                have H := H1
                clear H1
                obtain rfl := Option.some.inj H
                have p101 : 0 ≤ (x12_1 : Int) := of_decide_eq_true (by first | (with_reducible assumption) | assumption)
                have q101 : x12_1 < (l0.length : Int) := of_decide_eq_true (by first | (with_reducible assumption) | assumption)
                obtain ⟨ad101, e101, hx101_0, hx101_1⟩ := at_T28 HR0.out x12_1 p101 q101
                cases e101
                replace hx101_0 := (HB.out.cell (World.block_lt_of_cell? w _ hx101_0)).trans hx101_0
                replace hx101_1 := (HB.out.cell (World.block_lt_of_cell? w _ hx101_1)).trans hx101_1
                replace p101 := eq_true p101
                replace q101 := eq_true q101
                go_wp2_with (first | ((with_reducible refine gate_dst (N := 6) rfl ?_); refine box_event ?hg (N := 6) ?hd (cs := #[.int .u64 0, .int .i64 0]) (t := 28) ?hr ?_; (case hd => rfl); (case hg => rfl); (case hr => first | (go_simp; done) | (go_simp; rfl)); intro gb102 hg w17 hbox hb; have n0_ := Aside0.mk (below_step (by repeat (first | (with_reducible first | exact HB.out | apply below_alloc | apply pw_below_drewN | apply below_drew1) | exact HB.out)) hb); have n1_ := Aside0.mk (hbox); have n2_ := Aside0.mk ((by rw [hg]; exact (below_size (by repeat (first | (with_reducible first | exact HB.out | apply below_alloc | apply pw_below_drewN | apply below_drew1) | exact HB.out))) : w.heap.size ≤ gb102)); have n3_ := Aside0.mk ((by rw [hg]; exact (below_size (by repeat (first | (with_reducible first | exact HB.out | apply below_alloc | apply pw_below_drewN | apply below_drew1) | exact HB.out))) : w.heap.size ≤ gb102)); clear HB; have HB := n0_; have BK102 := n1_; have GW102 := n2_; have GE102 := n3_; clear n0_ n1_ n2_ n3_; clear hb hbox hg; have hcz18_0 : w17.cell? ⟨gb102, 0, none⟩ = some (.int .u64 0) := (blk_cell BK102.out 0).trans rfl; have hcz18_1 : w17.cell? ⟨gb102, 1, none⟩ = some (.int .i64 0) := (blk_cell BK102.out 1).trans rfl; have hfz18_0 := blk_frozen BK102.out 0; have hfz18_1 := blk_frozen BK102.out 1) | ((with_reducible refine gate_callee (f := 26) rfl ?_); refine goesL_ (some 19) rfl rfl Tryd.func26 (by kernel_rfl) rfl #[.int .u64 ((rd_T28 l0 x12_1).f0), .int .u64 a1] rfl (by (try simp only [List.map_toArray, List.map_cons, List.map_nil]); first | done | rfl | (simp only [List.length_drop, List.length_take]; rfl)) ?_; (with_reducible refine (set_Within.calls ((rd_T28 l0 x12_1).f0) a1 false _ A7.out).mono ?_); rintro e w' ⟨rfl, ⟨nd, rfl⟩⟩; refine ⟨_, rfl, ?_⟩))
                go_ret
                exact ⟨by first | rfl | (simp [errW_none, errW_some] <;> rfl) | (simp [*, errW_none, errW_some] <;> rfl), by repeat (first | (with_reducible first | exact HB.out | apply below_alloc | apply pw_below_drewN | apply below_drew1 | refine below_set ?_ GE102.out) | exact HB.out)⟩
            · rw [if_neg c6] at H
              exact absurd H (by simp)
          · rw [if_neg c5] at H
            exact absurd H (by simp)
        · rw [if_neg c4] at H
          have c4b0 : decide (x12_1 < (l0.length : Int)) = false := decide_eq_false c4
          clear c4
          obtain rfl := Option.some.inj H
          go_wp2
          go_ret
          exact ⟨by first | rfl | (simp [errW_none, errW_some] <;> rfl) | (simp [*, errW_none, errW_some] <;> rfl), by repeat (first | (with_reducible first | exact HB.out | apply below_alloc | apply pw_below_drewN | apply below_drew1) | exact HB.out)⟩

end Go.Proofs.YtcnmbllafdeokaaDoor.PCheck
-- PRINTED BY A CHANGED COPY OF THE PRINT (wip/tools/patch_print.py), over contracts by hand
namespace Go.Proofs.YtcnmbllafdeokaaDoor.PCheck
open Go.RowKit Go.Proofs.YtcnmbllafdeokaaDoorW.PrintWords Go.Proofs.YtcnmbllafdeokaaDoorW.PrintLast Go.Proofs.YtcnmbllafdeokaaDoorW.PrintMore
attribute [local go_sem] max2_int min2_int max_two min_two max_three min_three max_four min_four   -- for this text's walks alone
set_option linter.unusedVariables false
set_option linter.unusedSimpArgs false

end Go.Proofs.YtcnmbllafdeokaaDoor.PCheck
/- The example of the statements about atoms: alive() is true. -/
namespace Go.Proofs.YtcnmbllafdeokaaDoor.H
open Go.RowKit Go.Proofs.YtcnmbllafdeokaaDoorW.PrintWords Go.Proofs.YtcnmbllafdeokaaDoorW.PrintLast Go.Proofs.YtcnmbllafdeokaaDoorW.PrintMore Go.Proofs.YtcnmbllafdeokaaDoor.TrM Go.Proofs.YtcnmbllafdeokaaDoor.AtM
set_option linter.unusedVariables false
set_option linter.unusedSimpArgs false
set_option maxRecDepth 100000
attribute [local go_sem] Oper.semAt_some wide_fn wide_depth
theorem reps_at (W : World) : ∀ suf pre : List At, Reps (KAt.K W) 2 pre (pre.flatMap fun x => [.int .u64 x.1, .int .i64 x.2]) → Reps (KAt.K W) 2 (pre ++ suf) ((pre ++ suf).flatMap fun x => [.int .u64 x.1, .int .i64 x.2]) := by
  intro suf
  induction suf with
  | nil => intro pre h; rw [List.append_nil]; exact h
  | cons x suf ih =>
    intro pre h
    have h2 := ih (pre ++ [x]) (by
      rw [List.flatMap_append]
      exact Reps.snoc h ⟨[_], [_], rfl, rfl, rfl⟩ rfl)
    rwa [List.append_assoc, List.singleton_append] at h2
theorem C_lit_at {W : World} {g : Nat} {t : TypeId} {fr : Nat × Nat} {cs : Array Value} {xs : List At} (hg : W.heap[g]? = some (.cells cs t fr)) (h : cs.toList = xs.flatMap fun x => [.int .u64 x.1, .int .i64 x.2]) (hl : xs.length ≤ 9223372036854775807) : Kd.C KAt W (some ⟨g, 0, none⟩) xs.length xs :=
  C_row hg (by rw [h]; exact reps_at W xs [] (Reps.none _ _)) hl
def as9 : List At := [(1, 5), (3, 5), (2, 3), (2, 2)]
def sm9 (xs : List At) : Int := xs.foldl (fun m x => m + x.2) 0
theorem al1 : normL as9 = [(1, 5), (2, 3)] := by decide +kernel
theorem al2 : withinL as9 2 = [(2, 3), (2, 2)] := by decide +kernel
theorem al3 : valueL as9 2 = 3 := by decide +kernel
theorem al4 : valueL as9 18446744073709551615 = 5 := by decide +kernel
theorem al5 : uniL (as9.filter rightA) = 3 := by decide +kernel
theorem al6 : PIsNormal.atom_IsNormal.f 20 (as9.map fun x => ⟨x.1, x.2⟩) = some false := by decide +kernel
theorem al7 : PIsNormal.atom_IsNormal.f 20 ([((1 : Int), (5 : Int)), (2, 3)].map fun x => ⟨x.1, x.2⟩) = some true := by decide +kernel
theorem al8 : PCheck.atom_Check.f 20 (as9.map fun x => ⟨x.1, x.2⟩) 3 = some 0 := by decide +kernel
theorem al9 : PCheck.atom_Check.f 20 (as9.map fun x => ⟨x.1, x.2⟩) 1 = some 1 := by decide +kernel
theorem u9 : ∀ x ∈ as9, U64 x.1 := by unfold as9 U64; decide
theorem pre_two9 {pre : List At} {x a b : At} (h : pre ++ [x] <+: [a, b]) : pre = [] ∧ x = a ∨ pre = [a] ∧ x = b := by
  obtain ⟨r, hr⟩ := h
  match pre with
  | [] => simp at hr; exact .inl ⟨rfl, hr.1⟩
  | [y] => simp at hr; exact .inr ⟨by rw [hr.1], hr.2.1⟩
  | y :: z :: q => simp at hr
theorem own_at {α : Type} {d : Kd α} {e : Nat} {w : World} {base : Nat} {ok : Nat → Prop} {v : Value} {l : List α} (h : Kd.R d e w base ok v l) (hl : l.length ≠ 0) : ∃ g c, v = .slice (some ⟨g, 0, none⟩) l.length c ∧ l.length ≤ c ∧ Kd.C d w (some ⟨g, 0, none⟩) l.length l := by
  obtain ⟨A, c', h1, h2, hC⟩ := Kd.R_reads h
  obtain ⟨_, inner, ho, _⟩ := h
  rcases ho.2 with ⟨_, h0⟩ | ⟨g, cap, cur, h3, _⟩
  · exact absurd h0 hl
  · rw [h1] at h3
    injection h3 with h3 _ _
    subst h3
    exact ⟨g, c', h1, h2, hC⟩
theorem cell_at {w : World} {g n : Nat} {xs : List At} (h : Kd.C KAt w (some ⟨g, 0, none⟩) n xs) {i : Nat} (hi : i < n) {s v : Int} (ho : xs[i]? = some (s, v)) : w.cell? ⟨g, i * 2, none⟩ = some (.int .u64 s) ∧ w.cell? ⟨g, i * 2 + 1, none⟩ = some (.int .i64 v) := by
  obtain ⟨ad, e, h0, h1⟩ := at_atom h hi ho
  injection e with e
  subst e
  rw [add_at, Nat.zero_add] at h0 h1
  exact ⟨h0, h1⟩
theorem isN_eq (xs : List At) (A : Option Addr) (n c : Nat) (r : Bool) (W : World) (hn : xs.length = n) (hC : Kd.C KAt W A n xs) (hc : n ≤ c) (h : PIsNormal.atom_IsNormal.f 20 (xs.map fun x => ⟨x.1, x.2⟩) = some r) :
    Calls Tryd.prog 12 #[.slice A n c] W fun e W' => e = .returned (.bool r) ∧ Below W.heap.size W W' := by
  subst hn
  have hl : (xs.map fun x => (⟨x.1, x.2⟩ : PIsNormal.S28)).length = xs.length := List.length_map _
  have h2 := PIsNormal.atom_IsNormal.calls 20 A c (xs.map fun x => ⟨x.1, x.2⟩) r W (C_iso' (by rw [hl, List.map_map]; simpa [Function.comp_def] using hC)) (by rw [hl]; exact hc) h
  rwa [hl] at h2
theorem chk_eq (xs : List At) (A : Option Addr) (n c : Nat) (s r : Int) (W : World) (hn : xs.length = n) (hC : Kd.C KAt W A n xs) (hc : n ≤ c) (h : PCheck.atom_Check.f 20 (xs.map fun x => ⟨x.1, x.2⟩) s = some r) :
    Calls Tryd.prog 14 #[.slice A n c, .int .u64 s] W fun e W' => e = .returned (.int .i64 r) ∧ Below W.heap.size W W' := by
  subst hn
  have hl : (xs.map fun x => (⟨x.1, x.2⟩ : PCheck.S28)).length = xs.length := List.length_map _
  have h2 := PCheck.atom_Check.calls 20 A c (xs.map fun x => ⟨x.1, x.2⟩) s r W (C_iso' (by rw [hl, List.map_map]; simpa [Function.comp_def] using hC)) (by rw [hl]; exact hc) h
  rwa [hl] at h2
theorem val_eq (xs : List At) (A : Option Addr) (n c : Nat) (s r : Int) (W : World) (hn : xs.length = n) (hC : Kd.C KAt W A n xs) (hs : U64 s) (hu : ∀ x ∈ xs, U64 x.1) (h : valueL xs s = r) :
    Calls Tryd.prog 15 #[.slice A n c, .int .u64 s] W fun e W' => e = .returned (.int .i64 r) ∧ Below W.heap.size W W' := by
  subst hn; subst h; exact Value_calls xs s A c W hC hs hu
theorem most_eq (xs : List At) (A : Option Addr) (n c : Nat) (r : Int) (W : World) (hn : xs.length = n) (hC : Kd.C KAt W A n xs) (hu : ∀ x ∈ xs, U64 x.1) (h : valueL xs 18446744073709551615 = r) :
    Calls Tryd.prog 16 #[.slice A n c] W fun e W' => e = .returned (.int .i64 r) ∧ Below W.heap.size W W' := by
  subst hn; subst h; exact Most_calls xs A c W hC hu
theorem uni_eq (xs : List At) (A : Option Addr) (n c : Nat) (r : Int) (W : World) (hn : xs.length = n) (hC : Kd.C KAt W A n xs) (h : uniL (xs.filter rightA) = r) :
    Calls Tryd.prog 17 #[.slice A n c] W fun e W' => e = .returned (.int .u64 r) ∧ Below W.heap.size W W' := by
  subst hn; subst h; exact Union_calls xs A c W hC
set_option maxHeartbeats 3200000 in
theorem alive9_calls (w : World) : Calls Tryd.prog 4 #[] w fun e w' => e = .returned (.bool true) ∧ Below w.heap.size w w' := by
  refine (callsIn_wide (n := 8)).1 ?_
  refine callsIn_of_wp_marks Tryd.func4 rfl trivial ?_ rfl
  simp only [Tryd.ntmps4, List.size_toArray, List.length_cons, List.length_nil, Nat.reduceAdd, Nat.reduceSub, Array.replicate_succ, Array.replicate_zero, List.push_toArray, List.append_toArray, List.nil_append, List.cons_append]
  have hnil : ∀ (lb : Array Value) (W : World), (binOp .eql 39 (.func (.func 24) #[] lb) .nilFunc).run Tryd.prog W = .ok (.bool false) W := fun _ _ => by kernel_rfl
  have hx1 := blk_new w (.cells #[.int .u64 1, .int .i64 5, .int .u64 3, .int .i64 5, .int .u64 2, .int .i64 3, .int .u64 2, .int .i64 2] 28)
  have hC1 : Kd.C KAt (w.alloc (.cells #[.int .u64 1, .int .i64 5, .int .u64 3, .int .i64 5, .int .u64 2, .int .i64 3, .int .u64 2, .int .i64 2] 28)) (some ⟨w.heap.size, 0, none⟩) 4 as9 := C_lit_at hx1 rfl (by decide)
  have hB1 : Below w.heap.size w (w.alloc (.cells #[.int .u64 1, .int .i64 5, .int .u64 3, .int .i64 5, .int .u64 2, .int .i64 3, .int .u64 2, .int .i64 2] 28)) := below_alloc (Below.refl _ _) _
  have HN := Normal_calls as9 (some ⟨w.heap.size, 0, none⟩) 4 _ hC1 u9 (by decide)
  rw [al1] at HN
  have H1 := Aside0.mk (And.intro hC1 (And.intro hB1 HN))
  clear hx1 hC1 hB1 HN
  gi_wp2_with (fail)
  refine (callsIn_wide.2 H1.out.2.2).mono ?_
  rintro e w2 ⟨v2, rfl, hr2, hb2⟩
  obtain ⟨g2, c2, rfl, hc2, hC2⟩ := own_at hr2 (by decide)
  have H2 := Aside0.mk (And.intro (Kd.C_below H1.out.1 hb2) (And.intro (below_step H1.out.2.1 hb2) (And.intro hC2 hc2)))
  clear H1 hr2 hb2 hC2 hc2
  gi_wp2_with (gi_at_call 11; refine (callsIn_wide.2 (Within_calls _ _ _ _ _)).mono ?_; rintro e w3 ⟨rfl, rfl⟩)
  have hb4 : Below w2.heap.size w2 (((w2.alloc (.cells #[.int .i64 0] 3)).alloc (.cells #[.slice (some ⟨w.heap.size, 0, none⟩) 4 4] 22)).alloc (.cells #[.int .u64 2] 23)) := below_alloc (below_alloc (below_alloc (Below.refl _ _) _) _) _
  have h0 : (((w2.alloc (.cells #[.int .i64 0] 3)).alloc (.cells #[.slice (some ⟨w.heap.size, 0, none⟩) 4 4] 22)).alloc (.cells #[.int .u64 2] 23)).heap[w2.heap.size]? = some (.cells #[.int .i64 (sm9 [])] 3 (0, 0)) := blk_alloc (blk_alloc (blk_new _ _) _) _
  have h1 : (((w2.alloc (.cells #[.int .i64 0] 3)).alloc (.cells #[.slice (some ⟨w.heap.size, 0, none⟩) 4 4] 22)).alloc (.cells #[.int .u64 2] 23)).heap[w2.heap.size + 1]? = some (.cells #[.slice (some ⟨w.heap.size, 0, none⟩) 4 4] 22 (0, 0)) := blk_alloc (blk_new2 w2 _ _) _
  have h2 : (((w2.alloc (.cells #[.int .i64 0] 3)).alloc (.cells #[.slice (some ⟨w.heap.size, 0, none⟩) 4 4] 22)).alloc (.cells #[.int .u64 2] 23)).heap[w2.heap.size + 1 + 1]? = some (.cells #[.int .u64 2] 23 (0, 0)) := by
    have := blk_new ((w2.alloc (.cells #[.int .i64 0] 3)).alloc (.cells #[.slice (some ⟨w.heap.size, 0, none⟩) 4 4] 22)) (.cells #[.int .u64 2] 23)
    rwa [World.size_alloc, World.size_alloc] at this
  have hsz : (((w2.alloc (.cells #[.int .i64 0] 3)).alloc (.cells #[.slice (some ⟨w.heap.size, 0, none⟩) 4 4] 22)).alloc (.cells #[.int .u64 2] 23)).heap.size = w2.heap.size + 3 := by simp
  generalize (((w2.alloc (.cells #[.int .i64 0] 3)).alloc (.cells #[.slice (some ⟨w.heap.size, 0, none⟩) 4 4] 22)).alloc (.cells #[.int .u64 2] 23)) = w4 at hb4 h0 h1 h2 hsz
  have hw2 := H2.out.2.1.size
  refine rangeZ rfl (by omega) (gf := 24) (lb := #[.pointer (some ⟨w2.heap.size + 1, 0, none⟩), .pointer (some ⟨w2.heap.size + 1 + 1, 0, none⟩)]) rfl trivial (enters_of Tryd.func24 (by kernel_rfl) rfl)
    (Y := AtY (withinL as9 2)) (n₀ := w4.heap.size) (Kb := fun k => k ≠ w2.heap.size) (S := fun xs => xs = withinL as9 2) (Sp := fun _ => True)
    (Within1_seq _ as9 2 (some ⟨w.heap.size, 0, none⟩) 4 (w2.heap.size + 1) (w2.heap.size + 1 + 1) w4.heap.size _ w4 (by unfold U64; decide) u9
      (fun X hk => by rw [blk_cell ((hk.2 (w2.heap.size + 1) (by omega) (by omega)).trans h1) 0]; rfl)
      (fun X hk => by rw [blk_cell ((hk.2 (w2.heap.size + 1 + 1) (by omega) (by omega)).trans h2) 0]; rfl)
      (fun X hk => C_blocksA H2.out.1 (fun i hi => (hk.2 i (by omega) (by omega)).trans (hb4.block i hi))) (Nat.le_refl _)) (Nat.le_refl _)
    (fun _ _ _ _ hy => by obtain ⟨_, rfl⟩ := hy; rfl)
    (fun pre X => X.heap[w2.heap.size]? = some (.cells #[.int .i64 (sm9 pre)] 3 (0, 0)) ∧ Below w2.heap.size w2 X) (fun _ _ _ => False)
    (fun _ P Q h hlie => ⟨hlie.blk h.1, hlie.below h.2 (by omega) (Nat.le_refl _)⟩) (fun _ _ _ _ h _ => h) ⟨h0, hb4⟩ ?round ?done (fun _ _ _ _ _ _ h _ => h.elim)
  case round =>
    rintro l pre ⟨xs, xv⟩ vs X hl2 ⟨hI1, hI2⟩ ⟨hpre, rfl⟩ hXs
    have hms : sm9 (pre ++ [(xs, xv)]) = sm9 pre + xv ∧ 0 ≤ sm9 pre ∧ sm9 pre ≤ 100 ∧ 0 ≤ xv ∧ xv ≤ 100 := by
      rw [al2] at hpre
      rcases pre_two9 hpre with ⟨rfl, e⟩ | ⟨rfl, e⟩ <;> (injection e with e1 e2; subst e1; subst e2; decide)
    obtain ⟨m, hm⟩ : ∃ m, sm9 pre = m := ⟨_, rfl⟩
    rw [hm] at hms hI1
    obtain ⟨hms, m0, m1, m2, m3⟩ := hms
    have HM := Lib.hid hms
    clear hms hm hpre
    gi_wp2
    refine ⟨Kin.of_below (below_alloc (Below.refl _ _) _) (Nat.le_refl _), Kp.of_below (below_alloc (Below.refl _ _) _) (by omega), ?_⟩
    intro Wb hlie
    have g3 := hlie.blk (blk_new X (.cells #[.int .u64 xs, .int .i64 xv] 28))
    have g4 := hlie.blk (blk_alloc hI1 (.cells #[.int .u64 xs, .int .i64 xv] 28))
    have gB := hlie.below (below_alloc hI2 (.cells #[.int .u64 xs, .int .i64 xv] 28)) (by omega) (Nat.le_refl _)
    have y1 : Wb.cell? ⟨X.heap.size, 1, none⟩ = some (.int .i64 xv) := by rw [blk_cell g3]; rfl
    have y2 : Wb.cell? ⟨w2.heap.size, 0, none⟩ = some (.int .i64 m) := by rw [blk_cell g4]; rfl
    have f2 := blk_frozen g4 0
    have hgl := lt_of_some g4
    have HG := Aside0.mk (And.intro g4 gB)
    clear g3 g4 gB hI1 hI2 hlie
    gi_wp2
    refine ⟨Kin.set (.inl (by show w2.heap.size < _; omega)) _, Kp.set (fun h => absurd rfl h) _, ?_, below_set HG.out.2 (Nat.le_refl _)⟩
    rw [HM.out]
    exact blk_set HG.out.1 0 _
  case done =>
    rintro D xs X hD rfl ⟨hI1, hI2⟩ hKd
    rw [al2, show sm9 [(2, 3), (2, 2)] = 5 from by decide] at hI1
    have HI := Aside0.mk (And.intro hI1 (And.intro (below_step H2.out.2.1 hI2) (And.intro hKd (And.intro (Kd.C_below H2.out.1 hI2) (And.intro (Kd.C_below H2.out.2.2.1 hI2) H2.out.2.2.2)))))
    clear hI1 hI2 hKd H2 h0 h1 h2 hb4 hnil
    have hg := HI.out.2.2.2.1
    have hg2 := HI.out.2.2.2.2.1
    have e0 := cell_at hg (i := 0) (s := 1) (v := 5) (by decide) rfl
    have e2 := cell_at hg (i := 2) (s := 2) (v := 3) (by decide) rfl
    have n0 := cell_at hg2 (i := 0) (s := 1) (v := 5) (by decide) rfl
    have n1 := cell_at hg2 (i := 1) (s := 2) (v := 3) (by decide) rfl
    have b0 : X.cell? ⟨w2.heap.size, 0, none⟩ = some (.int .i64 5) := by rw [blk_cell HI.out.1]; rfl
    have HS : Aside0 (∀ w', Below X.heap.size X w' → w'.cell? ⟨g2, 0, none⟩ = some (.int .u64 1) ∧ w'.cell? ⟨g2, 1, none⟩ = some (.int .i64 5) ∧ w'.cell? ⟨g2, 2, none⟩ = some (.int .u64 2) ∧ w'.cell? ⟨g2, 3, none⟩ = some (.int .i64 3) ∧ w'.cell? ⟨w.heap.size, 0, none⟩ = some (.int .u64 1) ∧ w'.cell? ⟨w.heap.size, 1, none⟩ = some (.int .i64 5) ∧ w'.cell? ⟨w.heap.size, 4, none⟩ = some (.int .u64 2) ∧ w'.cell? ⟨w.heap.size, 5, none⟩ = some (.int .i64 3) ∧ w'.cell? ⟨w2.heap.size, 0, none⟩ = some (.int .i64 5)) :=
      ⟨fun w' hb => by
        have hcl : ∀ {b o v}, X.cell? ⟨b, o, none⟩ = some v → w'.cell? ⟨b, o, none⟩ = some v := fun h => (hb.cell (World.block_lt_of_cell? X _ h)).trans h
        exact ⟨hcl n0.1, hcl n0.2, hcl n1.1, hcl n1.2, hcl e0.1, hcl e0.2, hcl e2.1, hcl e2.2, hcl b0⟩⟩
    have HI2 : Aside0 (Kd.C KAt X (some ⟨g2, 0, none⟩) 2 [((1 : Int), (5 : Int)), (2, 3)] ∧ 2 ≤ c2) := ⟨HI.out.2.2.2.2⟩
    have B0 : Aside0 (Below X.heap.size X X.drew) := ⟨pw_below_drewN (Below.refl _ _) 1⟩
    have S0 := Aside0.mk (HS.out _ B0.out)
    clear hg hg2 e0 e2 n0 n1 b0
    gi_wp2
    refine wpIn_wide.2 ?_
    go_wp2
    simp only [List.append]
    go_region_held3 (fun w' => w'.cell? ⟨g2, 0, none⟩ = some (.int .u64 1) ∧ w'.cell? ⟨g2, 1, none⟩ = some (.int .i64 5) ∧ w'.cell? ⟨g2, 2, none⟩ = some (.int .u64 2) ∧ w'.cell? ⟨g2, 3, none⟩ = some (.int .i64 3) ∧ w'.cell? ⟨w.heap.size, 0, none⟩ = some (.int .u64 1) ∧ w'.cell? ⟨w.heap.size, 1, none⟩ = some (.int .i64 5) ∧ w'.cell? ⟨w.heap.size, 4, none⟩ = some (.int .u64 2) ∧ w'.cell? ⟨w.heap.size, 5, none⟩ = some (.int .i64 3) ∧ w'.cell? ⟨w2.heap.size, 0, none⟩ = some (.int .i64 5))
      (first | (with_reducible exact S0.out) | (with_reducible exact S1.out) | (with_reducible exact S2.out) | (with_reducible exact S3.out) | (with_reducible exact S4.out) | (with_reducible exact S5.out) | (with_reducible exact S6.out) | (with_reducible exact S7.out) | (with_reducible exact S8.out) | (with_reducible exact S9.out))
      (first
        | (go_at_call_of 12 (Value.slice (some ⟨g2, 0, none⟩) 2 c2); have _t := B0; (with_reducible refine (isN_eq [((1 : Int), (5 : Int)), (2, 3)] _ 2 c2 true _ rfl (Kd.C_below HI2.out.1 B0.out) HI2.out.2 al7).mono ?_); rintro e w5 ⟨rfl, hb⟩; have S1 := Aside0.mk (HS.out _ (below_step B0.out hb)); have B1 := Aside0.mk (below_step B0.out hb); clear hb _t B0)
        | (go_at_call_of 12 (Value.slice (some ⟨w.heap.size, 0, none⟩) 4 4); have _t := B1; (with_reducible refine (isN_eq as9 _ 4 4 false _ rfl (Kd.C_below HI.out.2.2.2.1 B1.out) (Nat.le_refl _) al6).mono ?_); rintro e w6 ⟨rfl, hb⟩; have S2 := Aside0.mk (HS.out _ (below_step B1.out hb)); have B2 := Aside0.mk (below_step B1.out hb); clear hb _t B1)
        | (go_at_call_of 13 (Value.agg #[Value.int IntKind.u64 1, Value.int IntKind.i64 5]); have _t := B2; (with_reducible refine (Right_eq 1 5 true _ (by decide)).mono ?_); rintro e w7 ⟨rfl, hb⟩; have S3 := Aside0.mk (HS.out _ (below_step B2.out hb)); have B3 := Aside0.mk (below_step B2.out hb); clear hb _t B2)
        | (go_at_call_of 13 (Value.agg #[Value.int IntKind.u64 1, Value.int IntKind.i64 0]); have _t := B3; (with_reducible refine (Right_eq 1 0 false _ (by decide)).mono ?_); rintro e w8 ⟨rfl, hb⟩; have S4 := Aside0.mk (HS.out _ (below_step B3.out hb)); have B4 := Aside0.mk (below_step B3.out hb); clear hb _t B3)
        | (go_at_call 14; have _t := B4; (with_reducible refine (chk_eq as9 _ 4 4 3 0 _ rfl (Kd.C_below HI.out.2.2.2.1 B4.out) (Nat.le_refl _) al8).mono ?_); rintro e w9 ⟨rfl, hb⟩; have S5 := Aside0.mk (HS.out _ (below_step B4.out hb)); have B5 := Aside0.mk (below_step B4.out hb); clear hb _t B4)
        | (go_at_call 14; have _t := B5; (with_reducible refine (chk_eq as9 _ 4 4 1 1 _ rfl (Kd.C_below HI.out.2.2.2.1 B5.out) (Nat.le_refl _) al9).mono ?_); rintro e w10 ⟨rfl, hb⟩; have S6 := Aside0.mk (HS.out _ (below_step B5.out hb)); have B6 := Aside0.mk (below_step B5.out hb); clear hb _t B5)
        | (go_at_call 15; have _t := B6; (with_reducible refine (val_eq as9 _ 4 4 2 3 _ rfl (Kd.C_below HI.out.2.2.2.1 B6.out) (by unfold U64; decide) u9 al3).mono ?_); rintro e w11 ⟨rfl, hb⟩; have S7 := Aside0.mk (HS.out _ (below_step B6.out hb)); have B7 := Aside0.mk (below_step B6.out hb); clear hb _t B6)
        | (go_at_call 16; have _t := B7; (with_reducible refine (most_eq as9 _ 4 4 5 _ rfl (Kd.C_below HI.out.2.2.2.1 B7.out) u9 al4).mono ?_); rintro e w12 ⟨rfl, hb⟩; have S8 := Aside0.mk (HS.out _ (below_step B7.out hb)); have B8 := Aside0.mk (below_step B7.out hb); clear hb _t B7)
        | (go_at_call 17; have _t := B8; (with_reducible refine (uni_eq as9 _ 4 4 3 _ rfl (Kd.C_below HI.out.2.2.2.1 B8.out) al5).mono ?_); rintro e w13 ⟨rfl, hb⟩; have S9 := Aside0.mk (HS.out _ (below_step B8.out hb)); have B9 := Aside0.mk (below_step B8.out hb); clear hb _t B8))
    gi_wp2
    have hK' := blk_belowX HI.out.2.2.1 B9.out
    refine ⟨by simp, .inl ⟨_, _, rfl, run_takeDeferred hK', ?_⟩⟩
    exact ⟨_, results_tmp rfl _ _ _, rfl, belowK_t (below_step HI.out.2.1 B9.out) (belowK_b (w := w) (Nat.le_refl _) _ D _ _ (by omega) hK' rfl rfl)⟩
end Go.Proofs.YtcnmbllafdeokaaDoor.H
