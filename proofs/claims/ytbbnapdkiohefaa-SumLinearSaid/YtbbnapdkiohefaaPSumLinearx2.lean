-- PRINTED BY A CHANGED COPY OF THE PRINT (wip/tools/patch_print.py), over contracts by hand
import Derived.Test.YtbbnapdkiohefaaPSumLinearx0
import Derived.Test.YtbbnapdkiohefaaPSumLinearx1
namespace Go.Proofs.Ytbbnapdkiohefaa.PSumLinear
open Go.RowKit Go.Proofs.YtbbnapdkiohefaaW.PrintWords Go.Proofs.YtbbnapdkiohefaaW.PrintLast Go.Proofs.YtbbnapdkiohefaaW.PrintMore
attribute [local go_sem] max2_int min2_int max_two min_two max_three min_three max_four min_four   -- for this text's walks alone
set_option linter.unusedVariables false
set_option linter.unusedSimpArgs false

/-- A row of one row of bytes, as it is read; a row of bytes. -/
def Lit1 (w : World) (v : Value) (l : List Int) : Prop := ∃ A c, v = .slice A 1 c ∧ 1 ≤ c ∧ Kd.C (Kd.slice 5 (Kd.int .u8)) w A 1 [l]
def Row1 (w : World) (v : Value) (l : List Int) : Prop := ∃ A c, v = .slice A l.length c ∧ l.length ≤ c ∧ Kd.C (Kd.int .u8) w A l.length l
theorem Lit1.below {w w1 : World} {v : Value} {l : List Int} (h : Lit1 w v l) (hb : Below w.heap.size w w1) : Lit1 w1 v l := by
  obtain ⟨A, c, e, hc, hC⟩ := h
  exact ⟨A, c, e, hc, Kd.C_below hC hb⟩
theorem Row1.below {w w1 : World} {v : Value} {l : List Int} (h : Row1 w v l) (hb : Below w.heap.size w w1) : Row1 w1 v l := by
  obtain ⟨A, c, e, hc, hC⟩ := h
  exact ⟨A, c, e, hc, Kd.C_below hC hb⟩
theorem Lit1.of {w : World} {v : Value} {l : List Int} {base : Nat} {ok : Nat → Prop} (h : Kd.N (Kd.slice 5 (Kd.int .u8)) 25 w base ok v ([l] : List (List Int))) : Lit1 w v l := by
  obtain ⟨A, c, rfl⟩ := Kd.N_slice h
  exact ⟨A, c, rfl, (Kd.N_reads' h).2.1, (Kd.N_reads' h).2.2⟩
theorem Row1.of {w : World} {v : Value} {l k : List Int} {base : Nat} {ok : Nat → Prop} (e : l = k) (h : Kd.R (Kd.int .u8) 5 w base ok v k) : Row1 w v l := by
  subst e
  obtain ⟨A, c, rfl⟩ := Kd.R_slice h
  exact ⟨A, c, rfl, (Kd.R_reads' h).2.1, (Kd.R_reads' h).2.2⟩

/-! ### saleroomlaw03_SumLinear: function 6 -/
def saleroomlaw03_SumLinear.l0 : Nat → List Int → List Int → Int → List Int → Int → Int → Option (Bool)
  | 0, _, _, _, _, _, _ => none
  | k + 1, x0, x1, x5, x6, x20, x21 => if x21 < x20 then (if 0 ≤ x21 then (if x21 < (x0.length : Int) then (if x21 < (x1.length : Int) then (if x21 < (x6.length : Int) then (saleroomlaw03_SumLinear.l0 k x0 x1 x5 (x6.set (x21 : Int).toNat (Go.bits .xor .u8 (rd x0 x21) (rd x1 x21))) x20 (wrap64 (x21 + 1))) else (none)) else (none)) else (none)) else (none)) else ((sum_Of.f (([x6] : List (List Int)))).bind fun t111 => (if 0 ≤ x5 then (if x5 ≤ (x0.length : Int) then ((sum_Of.f (([(x0.take (x5 : Int).toNat)] : List (List Int)))).bind fun t120 => (if x5 ≤ (x1.length : Int) then ((sum_Of.f (([(x1.take (x5 : Int).toNat)] : List (List Int)))).bind fun t129 => (if (x5 : Int).toNat ≤ 281474976710656 then ((sum_Of.f (([(List.replicate (x5 : Int).toNat 0)] : List (List Int)))).bind fun t136 => (some (t111 == (Go.bits .xor .u32 (Go.bits .xor .u32 t120 t129) t136)))) else (none))) else (none))) else (none)) else (none)))
def saleroomlaw03_SumLinear.f (k : Nat) (l0 : List Int) (l1 : List Int) : Option (Bool) := (saleroomlaw03_alive.f).bind fun t101 => (if t101 = true then (if (mn (l0.length : Int) (l1.length : Int)) > 1000 then (some true) else (if 0 ≤ (mn (l0.length : Int) (l1.length : Int)) then (if (mn (l0.length : Int) (l1.length : Int) : Int).toNat ≤ 281474976710656 then ((some (List.replicate (mn (l0.length : Int) (l1.length : Int) : Int).toNat 0 : List Int)).bind fun y102 => (saleroomlaw03_SumLinear.l0 k l0 l1 (mn (l0.length : Int) (l1.length : Int)) y102 (y102.length : Int) 0)) else (none)) else (none))) else (some false))
theorem saleroomlaw03_SumLinear.mono_l : ∀ k, (∀ y0 y1 y2 y3 y4 y5, LeO (saleroomlaw03_SumLinear.l0 k y0 y1 y2 y3 y4 y5) (saleroomlaw03_SumLinear.l0 (k + 1) y0 y1 y2 y3 y4 y5))
  | 0 => fun _ _ _ _ _ _ r h => by simp [saleroomlaw03_SumLinear.l0] at h
  | k + 1 => by
    have ih0 := saleroomlaw03_SumLinear.mono_l k
    · intro y0 y1 y2 y3 y4 y5
      unfold saleroomlaw03_SumLinear.l0
      repeat' first
      | (with_reducible exact ih0 _ _ _ _ _ _)
      | (with_reducible exact LeO.refl _)
      | (with_reducible exact LeO.none _)
      | (with_reducible refine LeO.ite ?_ ?_)
      | (with_reducible refine LeO.bind ?_ (fun _ => ?_))
      | exact ih0 _ _ _ _ _ _
      | exact LeO.none _
      | refine LeO.ite ?_ ?_
      | refine LeO.bind ?_ (fun _ => ?_)
theorem saleroomlaw03_SumLinear.mono : ∀ a0 a1 k, LeO (saleroomlaw03_SumLinear.f k a0 a1) (saleroomlaw03_SumLinear.f (k + 1) a0 a1) := by
  intro a0 a1 k
  have ih0 := saleroomlaw03_SumLinear.mono_l k
  unfold saleroomlaw03_SumLinear.f
  repeat' first
      | (with_reducible exact ih0 _ _ _ _ _ _)
      | (with_reducible exact LeO.refl _)
      | (with_reducible exact LeO.none _)
      | (with_reducible refine LeO.ite ?_ ?_)
      | (with_reducible refine LeO.bind ?_ (fun _ => ?_))
      | exact ih0 _ _ _ _ _ _
      | exact LeO.none _
      | refine LeO.ite ?_ ?_
      | refine LeO.bind ?_ (fun _ => ?_)
def saleroomlaw03_SumLinear.T10 : Bool × List (List Nat × List Nat) := (true, [([], []), ([], []), ([], []), ([], []), ([2, 3], [2, 3]), ([4], [4]), ([], []), ([], []), ([6, 7], [6, 7]), ([8], [8]), ([5, 9], [5, 9]), ([0, 1, 0, 1, 2, 3, 4, 5, 6, 7, 8, 9, 10], [0, 1]), ([11, 10, 0, 1, 2, 3, 4, 5, 6, 7, 8, 9, 10], [10, 11])])
def saleroomlaw03_SumLinear.B10 : List Nat := [0, 0, 0, 0, 12, 28, 0, 0, 192, 448, 1020, 2047, 4095]
theorem saleroomlaw03_SumLinear.tab10 : rtab .any (opsOf Try.f6 10) = saleroomlaw03_SumLinear.T10 := by kernel_rfl
theorem saleroomlaw03_SumLinear.bits10 : waitsOk saleroomlaw03_SumLinear.T10.2 saleroomlaw03_SumLinear.B10 = true := by kernel_rfl
def saleroomlaw03_SumLinear.T12 : Bool × List (List Nat × List Nat) := (true, [([], []), ([0], [0]), ([1], [1]), ([], []), ([], []), ([3, 4], [3, 4]), ([5], [5]), ([6, 2], [6]), ([], []), ([], []), ([8, 9], [8, 9]), ([10], [10]), ([11, 7], [11]), ([7, 12], [7, 12]), ([], []), ([14, 14], [14]), ([15], [15]), ([16, 12], [16]), ([13, 17], [13, 17]), ([2, 18], [2, 18]), ([19, 17, 0, 1, 2, 3, 4, 5, 6, 7, 8, 9, 10, 11, 12, 13, 14, 15, 16, 17, 18, 19], [19])])
def saleroomlaw03_SumLinear.B12 : List Nat := [0, 1, 3, 0, 0, 24, 56, 127, 0, 0, 768, 1792, 4095, 8191, 0, 16384, 49152, 122879, 262143, 524287, 1048575]
theorem saleroomlaw03_SumLinear.tab12 : rtab .any (opsOf Try.f6 12) = saleroomlaw03_SumLinear.T12 := by kernel_rfl
theorem saleroomlaw03_SumLinear.bits12 : waitsOk saleroomlaw03_SumLinear.T12.2 saleroomlaw03_SumLinear.B12 = true := by kernel_rfl
set_option maxHeartbeats 8000000 in
set_option maxRecDepth 100000 in
theorem saleroomlaw03_SumLinear.calls (k : Nat) (P0_ : Nat → Prop) (A0 : Option Addr) (c0 : Nat) (l0 : List Int) (P1_ : Nat → Prop) (A1 : Option Addr) (c1 : Nat) (l1 : List Int) (r : Bool) (w : World) (hs0 : Kd.V (Kd.int .u8) 5 w w.heap.size (fun k_ => P0_ k_) (.slice A0 l0.length c0) l0) (hs1 : Kd.V (Kd.int .u8) 5 w w.heap.size (fun k_ => P1_ k_) (.slice A1 l1.length c1) l1) (h : saleroomlaw03_SumLinear.f k l0 l1 = some r) :
    Calls Try.prog 6 #[.slice A0 l0.length c0, .slice A1 l1.length c1] w fun e w' => e = .returned (.bool r) ∧ Below w.heap.size w w' := by
  have HO0 := Aside0.mk (show Kd.V (Kd.int .u8) 5 w w.heap.size (fun k_ => ((P0_ k_ ∨ P1_ k_) ∨ w.heap.size ≤ k_)) (.slice A0 l0.length c0) l0 from Kd.V_mono hs0 (fun k_ hk => .inl (.inl hk)))
  have HO1 := Aside0.mk (show Kd.V (Kd.int .u8) 5 w w.heap.size (fun k_ => ((P0_ k_ ∨ P1_ k_) ∨ w.heap.size ≤ k_)) (.slice A1 l1.length c1) l1 from Kd.V_mono hs1 (fun k_ hk => .inl (.inr hk)))
  have HB := Aside0.mk (Below.refl w.heap.size w)
  have H : ((saleroomlaw03_alive.f).bind fun t101 => (if t101 = true then (if (mn (l0.length : Int) (l1.length : Int)) > 1000 then (some true) else (if 0 ≤ (mn (l0.length : Int) (l1.length : Int)) then (if (mn (l0.length : Int) (l1.length : Int) : Int).toNat ≤ 281474976710656 then ((some (List.replicate (mn (l0.length : Int) (l1.length : Int) : Int).toNat 0 : List Int)).bind fun y102 => (saleroomlaw03_SumLinear.l0 k l0 l1 (mn (l0.length : Int) (l1.length : Int)) y102 (y102.length : Int) 0)) else (none)) else (none))) else (some false))) = some r := h
  clear h
  replace H := Option.bind_eq_some_iff.mp H
  obtain ⟨t101, A30, H⟩ := H
  replace H : (if t101 = true then (if (mn (l0.length : Int) (l1.length : Int)) > 1000 then (some true) else (if 0 ≤ (mn (l0.length : Int) (l1.length : Int)) then (if (mn (l0.length : Int) (l1.length : Int) : Int).toNat ≤ 281474976710656 then ((some (List.replicate (mn (l0.length : Int) (l1.length : Int) : Int).toNat 0 : List Int)).bind fun y102 => (saleroomlaw03_SumLinear.l0 k l0 l1 (mn (l0.length : Int) (l1.length : Int)) y102 (y102.length : Int) 0)) else (none)) else (none))) else (some false)) = some r := H
  have A3 := Aside0.mk A30
  clear A30
  by_cases c4 : t101 = true
  · subst c4
    have H1 : (if (mn (l0.length : Int) (l1.length : Int)) > 1000 then (some true) else (if 0 ≤ (mn (l0.length : Int) (l1.length : Int)) then (if (mn (l0.length : Int) (l1.length : Int) : Int).toNat ≤ 281474976710656 then ((some (List.replicate (mn (l0.length : Int) (l1.length : Int) : Int).toNat 0 : List Int)).bind fun y102 => (saleroomlaw03_SumLinear.l0 k l0 l1 (mn (l0.length : Int) (l1.length : Int)) y102 (y102.length : Int) 0)) else (none)) else (none))) = some r := by rw [if_pos rfl] at H; exact H
    clear H
    have H := H1
    clear H1
    obtain ⟨ji5, hji5⟩ : ∃ j_ : Int, (mn (l0.length : Int) (l1.length : Int)) = j_ := ⟨_, rfl⟩
    replace H : (if (ji5) > 1000 then (some true) else (if 0 ≤ (ji5) then (if (ji5 : Int).toNat ≤ 281474976710656 then ((some (List.replicate (ji5 : Int).toNat 0 : List Int)).bind fun y102 => (saleroomlaw03_SumLinear.l0 k l0 l1 ji5 y102 (y102.length : Int) 0)) else (none)) else (none))) = some r := by first | (rw [hji5] at H; exact H) | (simp only [hji5] at H ⊢; exact H)
    (try rw [hji5] at A3)
    (try (have hji5l : 0 ≤ ji5 := by (rw [← hji5]; unfold mn; (repeat' split) <;> omega)))
    (try (have hji5m : 0 ≤ ji5 := by omega))
    have hji5_ : (if (l1.length : Int) < (l0.length : Int) then (l1.length : Int) else (l0.length : Int)) = ji5 := hji5
    have hji5n_ : (if l1.length < l0.length then (l1.length : Int) else (l0.length : Int)) = ji5 := by rw [← hji5_]; by_cases h_ : l1.length < l0.length <;> simp [h_]
    by_cases c6 : (ji5) > 1000
    · rw [if_pos c6] at H
      have c6b0 : decide (1000 < (ji5)) = true := decide_eq_true c6
      clear c6
      obtain rfl := Option.some.inj H
      go_enter Try.func6, Try.ntmps6
      go_wp2_with (first | ((with_reducible refine gate_callee (f := 7) rfl ?_); refine goesL_ (some 8) rfl rfl Try.func7 (by kernel_rfl) rfl #[] rfl (by (try simp only [List.map_toArray, List.map_cons, List.map_nil]); first | done | rfl | (simp only [List.length_drop, List.length_take]; rfl)) ?_; (with_reducible refine (saleroomlaw03_alive.calls  true _ A3.out).mono ?_); rintro e w7 ⟨rfl, hb⟩; refine ⟨_, rfl, ?_⟩; have n0_ := Aside0.mk (Kd.V_below (by (with_reducible repeat (first | apply Kd.V_alloc | apply Kd.V_drewN | apply Kd.V_drew)); exact HO0.out) hb); have n1_ := Aside0.mk (Kd.V_below (by (with_reducible repeat (first | apply Kd.V_alloc | apply Kd.V_drewN | apply Kd.V_drew)); exact HO1.out) hb); have n2_ := Aside0.mk (below_step (by repeat (first | (with_reducible first | exact HB.out | apply below_alloc | apply pw_below_drewN | apply below_drew1) | exact HB.out)) hb); clear HO0; clear HO1; clear HB; have HO0 := n0_; have HO1 := n1_; have HB := n2_; clear n0_ n1_ n2_; (try clear hb); (try clear hb2); (try clear hk); (try clear hi)))
      go_ret
      exact ⟨by first | rfl | (simp [errW_none, errW_some] <;> rfl) | (simp only [← hji5]; first | rfl | (simp [errW_none, errW_some] <;> rfl)) | (simp [*, errW_none, errW_some] <;> rfl), by repeat (first | (with_reducible first | exact HB.out | apply below_alloc | apply pw_below_drewN | apply below_drew1) | exact HB.out)⟩
    · rw [if_neg c6] at H
      have c6b0 : decide (1000 < (ji5)) = false := decide_eq_false c6
      clear c6
      by_cases c8 : 0 ≤ (ji5)
      · rw [if_pos c8] at H
        have c8b0 := eq_true c8
        have c8b1 : decide (0 ≤ (ji5)) = true := decide_eq_true c8
        clear c8
        by_cases c9 : (ji5 : Int).toNat ≤ 281474976710656
        · rw [if_pos c9] at H
          have c9b0 := eq_true c9
          have c9b1 : decide ((ji5 : Int).toNat ≤ 281474976710656) = true := decide_eq_true c9
          clear c9
          obtain ⟨y102, hy102⟩ : ∃ y_ : List Int, y_ = (List.replicate (ji5 : Int).toNat 0) := ⟨_, rfl⟩
          replace H : (saleroomlaw03_SumLinear.l0 k l0 l1 ji5 y102 (y102.length : Int) 0) = some r := by first | (rw [hy102]; with_reducible exact H) | (have H2_ := (Option.bind_some _ _).symm.trans H; rw [hy102]; with_reducible exact H2_) | (have H2_ := (Option.bind_some _ _).symm.trans H; with_reducible exact H2_) | with_reducible exact H | (rw [hy102]; exact H) | exact H
          have Ny102 := Aside0.mk hy102
          clear hy102
          have H' := Aside0.mk H
          clear H
          go_enter Try.func6, Try.ntmps6
          go_wp2_with (first | ((with_reducible refine gate_callee (f := 7) rfl ?_); refine goesL_ (some 8) rfl rfl Try.func7 (by kernel_rfl) rfl #[] rfl (by (try simp only [List.map_toArray, List.map_cons, List.map_nil]); first | done | rfl | (simp only [List.length_drop, List.length_take]; rfl)) ?_; (with_reducible refine (saleroomlaw03_alive.calls  true _ A3.out).mono ?_); rintro e w10 ⟨rfl, hb⟩; refine ⟨_, rfl, ?_⟩; have n0_ := Aside0.mk (Kd.V_below (by (with_reducible repeat (first | apply Kd.V_alloc | apply Kd.V_drewN | apply Kd.V_drew)); exact HO0.out) hb); have n1_ := Aside0.mk (Kd.V_below (by (with_reducible repeat (first | apply Kd.V_alloc | apply Kd.V_drewN | apply Kd.V_drew)); exact HO1.out) hb); have n2_ := Aside0.mk (below_step (by repeat (first | (with_reducible first | exact HB.out | apply below_alloc | apply pw_below_drewN | apply below_drew1) | exact HB.out)) hb); clear HO0; clear HO1; clear HB; have HO0 := n0_; have HO1 := n1_; have HB := n2_; clear n0_ n1_ n2_; (try clear hb); (try clear hb2); (try clear hk); (try clear hi)) | ((with_reducible refine gate_dst (N := 18) rfl ?_); refine Kd.R_make (Kd.int .u8) _ 5 rfl (N := 18) rfl 25 _ _ rfl ji5 rfl rfl Try.underlying25 (.int .u8 0) 1 info5 rfl (by decide) (by omega) 0 (ok := fun _ => True) (okp := fun _ => True) rfl (fun _ hk => hk) trivial (of_decide_eq_true (by first | (with_reducible assumption) | assumption)) (Nat.le_trans (Nat.mul_le_mul_right _ (of_decide_eq_true (by first | (with_reducible assumption) | assumption) : ji5.toNat ≤ 281474976710656)) (by omega)) (Below.refl _ _) (Nat.le_refl _) ?_; intro v103 w11 ho12 hb hg_ hnew_; clear hg_ hnew_; (first | rw [← Ny102.out] at ho12 | (simp only [Int.reduceToNat] at ho12; rw [← Ny102.out] at ho12)); have n0_ := Aside0.mk (Kd.V_elder' (by (with_reducible repeat (first | apply Kd.V_alloc | apply Kd.V_drewN | apply Kd.V_drew)); exact HO0.out) (Kd.R_base ho12) hb); have n1_ := Aside0.mk (Kd.V_elder' (by (with_reducible repeat (first | apply Kd.V_alloc | apply Kd.V_drewN | apply Kd.V_drew)); exact HO1.out) (Kd.R_base ho12) hb); have n2_ := Aside0.mk (Kd.R_lower (Kd.R_newM (M := fun k_ => (w.heap.size ≤ k_)) ho12 (below_size (by repeat (first | (with_reducible first | exact HB.out | apply below_alloc | apply pw_below_drewN | apply below_drew1) | exact HB.out))) (fun k_ h_ => h_)) (below_size (by repeat (first | (with_reducible first | exact HB.out | apply below_alloc | apply pw_below_drewN | apply below_drew1) | exact HB.out)))); have n3_ := Aside0.mk (below_step (by repeat (first | (with_reducible first | exact HB.out | apply below_alloc | apply pw_below_drewN | apply below_drew1) | exact HB.out)) hb); clear HO0; clear HO1; clear HB; have HO0 := n0_; have HO1 := n1_; have HO104 := n2_; have HB := n3_; clear n0_ n1_ n2_ n3_; clear hb ho12; obtain ⟨Ao13, co13, eo13⟩ := Kd.R_slice HO104.out; subst eo13))
          go_loopg [21] k (fun kq v21 w' => ∃ (x6_1 : List Int) (x21_1 : Int), v21 = .int .i64 x21_1 ∧ Aside0 (saleroomlaw03_SumLinear.l0 kq l0 l1 ji5 x6_1 (y102.length : Int) x21_1 = some r) ∧ Aside0 (kq ≤ k) ∧ Aside0 (Kd.V (Kd.int .u8) 5 w' w.heap.size (fun k_ => ((P0_ k_ ∨ P1_ k_) ∨ w.heap.size ≤ k_) ∧ some k_ ≠ ((.slice Ao13 y102.length co13) : Value).ownBlock) (.slice A0 l0.length c0) l0) ∧ Aside0 (Kd.V (Kd.int .u8) 5 w' w.heap.size (fun k_ => ((P0_ k_ ∨ P1_ k_) ∨ w.heap.size ≤ k_) ∧ some k_ ≠ ((.slice Ao13 y102.length co13) : Value).ownBlock) (.slice A1 l1.length c1) l1) ∧ Aside0 (Kd.R (Kd.int .u8) 5 w' w.heap.size (fun k_ => (w.heap.size ≤ k_)) (.slice Ao13 y102.length co13) x6_1) ∧ Aside0 (Below w.heap.size w w'))
          case atStart => exact ⟨(y102), (0), (by first | rfl | (simp; done) | (simp [*]; done)), H', ⟨Nat.le_refl _⟩, ⟨by (with_reducible repeat (first | apply Kd.V_alloc | apply Kd.V_drewN | apply Kd.V_drew)); exact HO0.out⟩, ⟨by (with_reducible repeat (first | apply Kd.V_alloc | apply Kd.V_drewN | apply Kd.V_drew)); exact HO1.out⟩, ⟨by (with_reducible repeat (first | apply Kd.R_alloc | apply Kd.R_drewN | apply Kd.R_drew)); exact Kd.R_mono HO104.out (fun _ hk => hk.1)⟩, ⟨by repeat (first | (with_reducible first | exact HB.out | apply below_alloc | apply pw_below_drewN | apply below_drew1) | exact HB.out)⟩⟩
          case round =>
            clear H'
            try clear c1
            try clear p2
            try clear c4
            try clear c6
            try clear c6b0
            try clear c7
            try clear c8
            try clear c8b0
            try clear c8b1
            try clear c9
            try clear c9b0
            try clear c9b1
            obtain ⟨x6_1, x21_1, rfl, HA, HK1, HO_0, HO_1, HO_6, HB⟩ := hrel
            have hl6_1 := (Kd.R_reads' HO_6.out).1
            rw [hl6_1] at HO_6
            (try simp only [hl6_1])
            (try simp only [hl6_1] at HO_0)
            (try simp only [hl6_1] at HO_1)
            cases gk with
            | zero => exact absurd HA.out (by simp [saleroomlaw03_SumLinear.l0])
            | succ k1 =>
              have H := HA.out
              clear HA
              simp only [saleroomlaw03_SumLinear.l0] at H
              by_cases c14 : x21_1 < (y102.length : Int)
              · rw [if_pos c14] at H
                have c14b0 : decide (x21_1 < (y102.length : Int)) = true := decide_eq_true c14
                clear c14
                by_cases c15 : 0 ≤ x21_1
                · rw [if_pos c15] at H
                  have c15b0 : decide (0 ≤ x21_1) = true := decide_eq_true c15
                  clear c15
                  by_cases c16 : x21_1 < (l0.length : Int)
                  · rw [if_pos c16] at H
                    have c16b0 : decide (x21_1 < (l0.length : Int)) = true := decide_eq_true c16
                    clear c16
                    by_cases c17 : x21_1 < (l1.length : Int)
                    · rw [if_pos c17] at H
                      have c17b0 : decide (x21_1 < (l1.length : Int)) = true := decide_eq_true c17
                      clear c17
                      by_cases c18 : x21_1 < (x6_1.length : Int)
                      · rw [if_pos c18] at H
                        have c18b0 : decide (x21_1 < (x6_1.length : Int)) = true := decide_eq_true c18
                        clear c18
                        obtain ⟨y107, hy107⟩ : ∃ y_ : List Int, y_ = (x6_1.set (x21_1 : Int).toNat (Go.bits .xor .u8 (rd l0 x21_1) (rd l1 x21_1))) := ⟨_, rfl⟩
                        replace H : (saleroomlaw03_SumLinear.l0 k1 l0 l1 ji5 y107 (y102.length : Int) (wrap64 (x21_1 + 1))) = some r := by first | (rw [hy107]; with_reducible exact H) | (have H2_ := (Option.bind_some _ _).symm.trans H; rw [hy107]; with_reducible exact H2_) | (have H2_ := (Option.bind_some _ _).symm.trans H; with_reducible exact H2_) | with_reducible exact H | (rw [hy107]; exact H) | exact H
                        have Ny107 := Aside0.mk hy107
                        clear hy107
                        have H' := Aside0.mk H
                        clear H
                        try go_wp2
                        have n0_ := Aside0.mk (Kd.V_drew HO_0.out)
                        have n1_ := Aside0.mk (Kd.V_drew HO_1.out)
                        have n2_ := Aside0.mk (Kd.R_drew HO_6.out)
                        have n3_ := Aside0.mk (below_drew1 HB.out)
                        clear HO_0
                        clear HO_1
                        clear HO_6
                        clear HB
                        have HO_0 := n0_
                        have HO_1 := n1_
                        have HO_6 := n2_
                        have HB := n3_
                        clear n0_ n1_ n2_ n3_
                        have p105 : 0 ≤ (x21_1 : Int) := of_decide_eq_true (by first | (with_reducible assumption) | assumption)
                        have q105 : x21_1 < (l0.length : Int) := of_decide_eq_true (by first | (with_reducible assumption) | assumption)
                        obtain ⟨ad105, e105, hx105_0⟩ := Kd.at_int (Kd.V_reads' HO_0.out).2.2 x21_1 p105 q105
                        cases e105
                        replace p105 := eq_true p105
                        replace q105 := eq_true q105
                        have p106 : 0 ≤ (x21_1 : Int) := of_decide_eq_true (by first | (with_reducible assumption) | assumption)
                        have q106 : x21_1 < (l1.length : Int) := of_decide_eq_true (by first | (with_reducible assumption) | assumption)
                        obtain ⟨ad106, e106, hx106_0⟩ := Kd.at_int (Kd.V_reads' HO_1.out).2.2 x21_1 p106 q106
                        cases e106
                        replace p106 := eq_true p106
                        replace q106 := eq_true q106
                        have p19 : 0 ≤ (x21_1 : Int) := of_decide_eq_true (by first | (with_reducible assumption) | assumption)
                        have q19 : (x21_1 : Int) < ((x6_1.length : Int) : Int) := of_decide_eq_true (by first | (with_reducible assumption) | assumption)
                        obtain ⟨go19, co19, eo19, gb19, gl19, cl19, HG19⟩ := Kd.R_form HO_6.out (by omega)
                        (first | cases eo19 | (injection eo19 with ea_ en_ ec_; (first | subst ea_ | (injection ea_ with ea_; subst ea_)); subst ec_; clear en_))
                        have GB19 := Aside0.mk gb19
                        have GG19 := Aside0.mk HG19
                        clear gb19 gl19 HG19
                        obtain ⟨hx19_0, hf19_0⟩ := Kd.R_celln 0 HO_6.out (x21_1 : Int) p19 q19
                        replace p19 := eq_true p19
                        replace q19 := eq_true q19
                        have HP21 := Kd.R_putn HO_6.out (x21_1 : Int) (Go.bits .xor .u8 (rd l0 x21_1) (rd l1 x21_1))
                        rw [← Ny107.out] at HP21
                        have HQ21 := Aside0.mk HP21
                        clear HP21
                        refine start_ (n := 13) (S := fun w' => w'.cell? (ad105.add (x21_1).toNat) = some (.int .u8 (rd l0 x21_1)) ∧ w'.cell? (ad106.add (x21_1).toNat) = some (.int .u8 (rd l1 x21_1))) (ds := [12]) #[false, false, false, false, false, false, false, false, false, false, false, false, false] (by kernel_rfl) rfl rfl ⟨hx105_0, hx106_0⟩ (fun hHeld => ?_); refine with_tabW saleroomlaw03_SumLinear.tab10 saleroomlaw03_SumLinear.bits10 (fun HT_ HW_ => ?_)
                        generalize wr.drew = w20 at HO_0 HO_1 HO_6 HB GG19 HQ21 hf19_0 hx105_0 hx106_0 hx19_0 hHeld ⊢
                        refine pure_ (i := 0) (N := some 24) (v := ?_) (a' := ?_) #[true, false, false, false, false, false, false, false, false, false, false, false, false] rfl rfl (any_of HT_.out (by kernel_rfl)) (fun _ _ _ h => h) (Or.inl ⟨by rfl, ?_⟩) ?_ ?_
                        rotate_left
                        · intro w'
                          go_simp
                          with_reducible rfl
                        rotate_left
                        · simp only [Act.put, List.setIfInBounds_toArray, List.set_cons_zero, List.set_cons_succ, i64_w, i32_w]
                          rfl
                        refine pure_ (i := 1) (N := some 25) (v := ?_) (a' := ?_) #[true, true, false, false, false, false, false, false, false, false, false, false, false] rfl rfl (any_of HT_.out (by kernel_rfl)) (fun _ _ _ h => h) (Or.inl ⟨by rfl, ?_⟩) ?_ ?_
                        rotate_left
                        · intro w'
                          go_simp
                          with_reducible rfl
                        rotate_left
                        · simp only [Act.put, List.setIfInBounds_toArray, List.set_cons_zero, List.set_cons_succ, i64_w, i32_w]
                          rfl
                        refine pure_ (i := 2) (N := some 26) (v := ?_) (a' := ?_) #[true, true, true, false, false, false, false, false, false, false, false, false, false] rfl rfl (any_of HT_.out (by kernel_rfl)) (fun _ _ _ h => h) (Or.inl ⟨by rfl, ?_⟩) ?_ ?_
                        rotate_left
                        · intro w'
                          go_simp
                          with_reducible rfl
                        rotate_left
                        · simp only [Act.put, List.setIfInBounds_toArray, List.set_cons_zero, List.set_cons_succ, i64_w, i32_w]
                          rfl
                        refine pure_ (i := 3) (N := some 27) (v := ?_) (a' := ?_) #[true, true, true, true, false, false, false, false, false, false, false, false, false] rfl rfl (any_of HT_.out (by kernel_rfl)) (fun _ _ _ h => h) (Or.inl ⟨by rfl, ?_⟩) ?_ ?_
                        rotate_left
                        · intro w'
                          go_simp
                          with_reducible rfl
                        rotate_left
                        · simp only [Act.put, List.setIfInBounds_toArray, List.set_cons_zero, List.set_cons_succ, i64_w, i32_w]
                          rfl
                        refine pure_ (i := 4) (N := some 28) (v := ?_) (a' := ?_) #[true, true, true, true, true, false, false, false, false, false, false, false, false] rfl rfl (any_of HT_.out (by kernel_rfl)) (fun _ _ _ h => h) (Or.inl ⟨by rfl, ?_⟩) ?_ ?_
                        rotate_left
                        · intro w'
                          go_simp
                          with_reducible rfl
                        rotate_left
                        · simp only [Act.put, List.setIfInBounds_toArray, List.set_cons_zero, List.set_cons_succ, i64_w, i32_w]
                          rfl
                        refine pure_ (i := 6) (N := some 30) (v := ?_) (a' := ?_) #[true, true, true, true, true, false, true, false, false, false, false, false, false] rfl rfl (any_of HT_.out (by kernel_rfl)) (fun _ _ _ h => h) (Or.inl ⟨by rfl, ?_⟩) ?_ ?_
                        rotate_left
                        · intro w'
                          go_simp
                          with_reducible rfl
                        rotate_left
                        · simp only [Act.put, List.setIfInBounds_toArray, List.set_cons_zero, List.set_cons_succ, i64_w, i32_w]
                          rfl
                        refine pure_ (i := 7) (N := some 31) (v := ?_) (a' := ?_) #[true, true, true, true, true, false, true, true, false, false, false, false, false] rfl rfl (any_of HT_.out (by kernel_rfl)) (fun _ _ _ h => h) (Or.inl ⟨by rfl, ?_⟩) ?_ ?_
                        rotate_left
                        · intro w'
                          go_simp
                          with_reducible rfl
                        rotate_left
                        · simp only [Act.put, List.setIfInBounds_toArray, List.set_cons_zero, List.set_cons_succ, i64_w, i32_w]
                          rfl
                        refine pure_ (i := 8) (N := some 32) (v := ?_) (a' := ?_) #[true, true, true, true, true, false, true, true, true, false, false, false, false] rfl rfl (any_of HT_.out (by kernel_rfl)) (fun _ _ _ h => h) (Or.inl ⟨by rfl, ?_⟩) ?_ ?_
                        rotate_left
                        · intro w'
                          go_simp
                          with_reducible rfl
                        rotate_left
                        · simp only [Act.put, List.setIfInBounds_toArray, List.set_cons_zero, List.set_cons_succ, i64_w, i32_w]
                          rfl
                        refine take_ (i := 5) (N := some 29) (v := ?_) (a' := ?_) #[true, true, true, true, true, true, true, true, true, false, false, false, false] rfl rfl (take_ofW HT_.out HW_.out (by kernel_rfl)) (fun _ _ _ h => h) (Or.inl ⟨by rfl, ?_⟩) hHeld ?_ ?_
                        rotate_left
                        · rintro w' ⟨s0, s1⟩
                          go_simp
                          with_reducible rfl
                        rotate_left
                        · simp only [Act.put, List.setIfInBounds_toArray, List.set_cons_zero, List.set_cons_succ, i64_w, i32_w]
                          rfl
                        refine take_ (i := 9) (N := some 33) (v := ?_) (a' := ?_) #[true, true, true, true, true, true, true, true, true, true, false, false, false] rfl rfl (take_ofW HT_.out HW_.out (by kernel_rfl)) (fun _ _ _ h => h) (Or.inl ⟨by rfl, ?_⟩) hHeld ?_ ?_
                        rotate_left
                        · rintro w' ⟨s0, s1⟩
                          go_simp
                          with_reducible rfl
                        rotate_left
                        · simp only [Act.put, List.setIfInBounds_toArray, List.set_cons_zero, List.set_cons_succ, i64_w, i32_w]
                          rfl
                        refine pure_ (i := 10) (N := some 34) (v := ?_) (a' := ?_) #[true, true, true, true, true, true, true, true, true, true, true, false, false] rfl rfl (any_of HT_.out (by kernel_rfl)) (fun _ _ _ h => h) (Or.inl ⟨by rfl, ?_⟩) ?_ ?_
                        rotate_left
                        · intro w'
                          go_simp
                          with_reducible rfl
                        rotate_left
                        · simp only [Act.put, List.setIfInBounds_toArray, List.set_cons_zero, List.set_cons_succ, i64_w, i32_w]
                          rfl
                        refine pure_ (i := 11) (N := some 35) (v := ?_) (a' := ?_) #[true, true, true, true, true, true, true, true, true, true, true, true, false] rfl rfl (any_of HT_.out (by kernel_rfl)) (fun _ _ _ h => h) (Or.inl ⟨by rfl, ?_⟩) ?_ ?_
                        rotate_left
                        · intro w'
                          go_simp
                          with_reducible rfl
                        rotate_left
                        · simp only [Act.put, List.setIfInBounds_toArray, List.set_cons_zero, List.set_cons_succ, i64_w, i32_w]
                          rfl
                        refine last_ (i := 12) (N := none) #[true, true, true, true, true, true, true, true, true, true, true, true, true] rfl rfl (one_of HT_.out (by kernel_rfl)) (by decide) (fun K hK => ?_)
                        refine skip_ (w1 := ?_) (by rfl) rfl ?_ ?_
                        rotate_left
                        · go_simp
                          rfl
                        refine hK.out _ _ ?_
                        clear hK K
                        refine done_ (done_of HT_.out (by kernel_rfl)) ?_
                        try go_wp2
                        (try simp only [← hl6_1])
                        go_roundg k1
                        case measure => have := HK1.out; omega
                        case rel => exact ⟨(y107), (wrap64 (x21_1 + 1)), (by first | rfl | (simp; done) | (simp [*]; done)), H', ⟨by have := HK1.out; omega⟩, ⟨by (try simp only [hl6_1]); (with_reducible repeat (first | apply Kd.V_alloc | apply Kd.V_drewN | apply Kd.V_drew)); exact Kd.V_mono (Kd.V_far (p := ⟨go19, (x21_1 : Int).toNat, none⟩) (Kd.V_mono HO_0.out (fun k_ hk => (⟨hk, fun e_ => hk.2 (by rw [e_]; rfl)⟩ : _ ∧ k_ ≠ go19))) (fun _ hk => hk.2) (.int .u8 (Go.bits .xor .u8 (rd l0 x21_1) (rd l1 x21_1)))) (fun _ hk => ⟨hk.1.1, hk.1.2⟩)⟩, ⟨by (try simp only [hl6_1]); (with_reducible repeat (first | apply Kd.V_alloc | apply Kd.V_drewN | apply Kd.V_drew)); exact Kd.V_mono (Kd.V_far (p := ⟨go19, (x21_1 : Int).toNat, none⟩) (Kd.V_mono HO_1.out (fun k_ hk => (⟨hk, fun e_ => hk.2 (by rw [e_]; rfl)⟩ : _ ∧ k_ ≠ go19))) (fun _ hk => hk.2) (.int .u8 (Go.bits .xor .u8 (rd l0 x21_1) (rd l1 x21_1)))) (fun _ hk => ⟨hk.1.1, hk.1.2⟩)⟩, ⟨by (try simp only [hl6_1]); (with_reducible repeat (first | apply Kd.R_alloc | apply Kd.R_drewN | apply Kd.R_drew)); exact HQ21.out⟩, ⟨by repeat (first | (with_reducible first | exact HB.out | apply below_alloc | apply pw_below_drewN | apply below_drew1 | refine below_set ?_ GB19.out) | exact HB.out)⟩⟩
                      · rw [if_neg c18] at H
                        exact absurd H (by simp)
                    · rw [if_neg c17] at H
                      exact absurd H (by simp)
                  · rw [if_neg c16] at H
                    exact absurd H (by simp)
                · rw [if_neg c15] at H
                  exact absurd H (by simp)
              · rw [if_neg c14] at H
                have c14b0 : decide (x21_1 < (y102.length : Int)) = false := decide_eq_false c14
                have c14b2 : decide (x21_1 < (x6_1.length : Int)) = false := by first | (rw [← hl6_1]; exact c14b0) | (rw [hl6_1]; exact c14b0)
                clear c14
                obtain ⟨y108, hy108⟩ : ∃ y_ : List (List Int), y_ = (([x6_1] : List (List Int))) := ⟨_, rfl⟩
                replace H : ((sum_Of.f y108).bind fun t111 => (if 0 ≤ ji5 then (if ji5 ≤ (l0.length : Int) then ((sum_Of.f (([(l0.take (ji5 : Int).toNat)] : List (List Int)))).bind fun t120 => (if ji5 ≤ (l1.length : Int) then ((sum_Of.f (([(l1.take (ji5 : Int).toNat)] : List (List Int)))).bind fun t129 => (if (ji5 : Int).toNat ≤ 281474976710656 then ((sum_Of.f (([(List.replicate (ji5 : Int).toNat 0)] : List (List Int)))).bind fun t136 => (some (t111 == (Go.bits .xor .u32 (Go.bits .xor .u32 t120 t129) t136)))) else (none))) else (none))) else (none)) else (none))) = some r := by first | (rw [hy108]; with_reducible exact H) | (have H2_ := (Option.bind_some _ _).symm.trans H; rw [hy108]; with_reducible exact H2_) | (have H2_ := (Option.bind_some _ _).symm.trans H; with_reducible exact H2_) | with_reducible exact H | (rw [hy108]; exact H) | exact H
                have Ny108 := Aside0.mk hy108
                clear hy108
                replace H := Option.bind_eq_some_iff.mp H
                obtain ⟨t111, A220, H⟩ := H
                replace H : (if 0 ≤ ji5 then (if ji5 ≤ (l0.length : Int) then ((sum_Of.f (([(l0.take (ji5 : Int).toNat)] : List (List Int)))).bind fun t120 => (if ji5 ≤ (l1.length : Int) then ((sum_Of.f (([(l1.take (ji5 : Int).toNat)] : List (List Int)))).bind fun t129 => (if (ji5 : Int).toNat ≤ 281474976710656 then ((sum_Of.f (([(List.replicate (ji5 : Int).toNat 0)] : List (List Int)))).bind fun t136 => (some (t111 == (Go.bits .xor .u32 (Go.bits .xor .u32 t120 t129) t136)))) else (none))) else (none))) else (none)) else (none)) = some r := H
                have A22 := Aside0.mk A220
                clear A220
                by_cases c23 : 0 ≤ ji5
                · rw [if_pos c23] at H
                  have c23b0 := eq_true c23
                  have c23b1 : decide (0 ≤ ji5) = true := decide_eq_true c23
                  clear c23
                  by_cases c24 : ji5 ≤ (l0.length : Int)
                  · rw [if_pos c24] at H
                    have c24b0 := eq_true c24
                    have c24b1 : decide (ji5 ≤ (l0.length : Int)) = true := decide_eq_true c24
                    clear c24
                    obtain ⟨y112, hy112⟩ : ∃ y_ : List Int, y_ = (l0.take (ji5 : Int).toNat) := ⟨_, rfl⟩
                    replace H : ((sum_Of.f (([y112] : List (List Int)))).bind fun t120 => (if ji5 ≤ (l1.length : Int) then ((sum_Of.f (([(l1.take (ji5 : Int).toNat)] : List (List Int)))).bind fun t129 => (if (ji5 : Int).toNat ≤ 281474976710656 then ((sum_Of.f (([(List.replicate (ji5 : Int).toNat 0)] : List (List Int)))).bind fun t136 => (some (t111 == (Go.bits .xor .u32 (Go.bits .xor .u32 t120 t129) t136)))) else (none))) else (none))) = some r := by first | (rw [hy112]; with_reducible exact H) | (have H2_ := (Option.bind_some _ _).symm.trans H; rw [hy112]; with_reducible exact H2_) | (have H2_ := (Option.bind_some _ _).symm.trans H; with_reducible exact H2_) | with_reducible exact H | (rw [hy112]; exact H) | exact H
                    have Ny112 := Aside0.mk hy112
                    clear hy112
                    obtain ⟨y117, hy117⟩ : ∃ y_ : List (List Int), y_ = (([y112] : List (List Int))) := ⟨_, rfl⟩
                    replace H : ((sum_Of.f y117).bind fun t120 => (if ji5 ≤ (l1.length : Int) then ((sum_Of.f (([(l1.take (ji5 : Int).toNat)] : List (List Int)))).bind fun t129 => (if (ji5 : Int).toNat ≤ 281474976710656 then ((sum_Of.f (([(List.replicate (ji5 : Int).toNat 0)] : List (List Int)))).bind fun t136 => (some (t111 == (Go.bits .xor .u32 (Go.bits .xor .u32 t120 t129) t136)))) else (none))) else (none))) = some r := by first | (rw [hy117]; with_reducible exact H) | (have H2_ := (Option.bind_some _ _).symm.trans H; rw [hy117]; with_reducible exact H2_) | (have H2_ := (Option.bind_some _ _).symm.trans H; with_reducible exact H2_) | with_reducible exact H | (rw [hy117]; exact H) | exact H
                    have Ny117 := Aside0.mk hy117
                    clear hy117
                    replace H := Option.bind_eq_some_iff.mp H
                    obtain ⟨t120, A250, H⟩ := H
                    replace H : (if ji5 ≤ (l1.length : Int) then ((sum_Of.f (([(l1.take (ji5 : Int).toNat)] : List (List Int)))).bind fun t129 => (if (ji5 : Int).toNat ≤ 281474976710656 then ((sum_Of.f (([(List.replicate (ji5 : Int).toNat 0)] : List (List Int)))).bind fun t136 => (some (t111 == (Go.bits .xor .u32 (Go.bits .xor .u32 t120 t129) t136)))) else (none))) else (none)) = some r := H
                    have A25 := Aside0.mk A250
                    clear A250
                    have c26b0 := eq_true (of_decide_eq_true (by first | (with_reducible assumption) | assumption) : 0 ≤ ji5)
                    by_cases c27 : ji5 ≤ (l1.length : Int)
                    · rw [if_pos c27] at H
                      have c27b0 := eq_true c27
                      have c27b1 : decide (ji5 ≤ (l1.length : Int)) = true := decide_eq_true c27
                      clear c27
                      obtain ⟨y121, hy121⟩ : ∃ y_ : List Int, y_ = (l1.take (ji5 : Int).toNat) := ⟨_, rfl⟩
                      replace H : ((sum_Of.f (([y121] : List (List Int)))).bind fun t129 => (if (ji5 : Int).toNat ≤ 281474976710656 then ((sum_Of.f (([(List.replicate (ji5 : Int).toNat 0)] : List (List Int)))).bind fun t136 => (some (t111 == (Go.bits .xor .u32 (Go.bits .xor .u32 t120 t129) t136)))) else (none))) = some r := by first | (rw [hy121]; with_reducible exact H) | (have H2_ := (Option.bind_some _ _).symm.trans H; rw [hy121]; with_reducible exact H2_) | (have H2_ := (Option.bind_some _ _).symm.trans H; with_reducible exact H2_) | with_reducible exact H | (rw [hy121]; exact H) | exact H
                      have Ny121 := Aside0.mk hy121
                      clear hy121
                      obtain ⟨y126, hy126⟩ : ∃ y_ : List (List Int), y_ = (([y121] : List (List Int))) := ⟨_, rfl⟩
                      replace H : ((sum_Of.f y126).bind fun t129 => (if (ji5 : Int).toNat ≤ 281474976710656 then ((sum_Of.f (([(List.replicate (ji5 : Int).toNat 0)] : List (List Int)))).bind fun t136 => (some (t111 == (Go.bits .xor .u32 (Go.bits .xor .u32 t120 t129) t136)))) else (none))) = some r := by first | (rw [hy126]; with_reducible exact H) | (have H2_ := (Option.bind_some _ _).symm.trans H; rw [hy126]; with_reducible exact H2_) | (have H2_ := (Option.bind_some _ _).symm.trans H; with_reducible exact H2_) | with_reducible exact H | (rw [hy126]; exact H) | exact H
                      have Ny126 := Aside0.mk hy126
                      clear hy126
                      replace H := Option.bind_eq_some_iff.mp H
                      obtain ⟨t129, A280, H⟩ := H
                      replace H : (if (ji5 : Int).toNat ≤ 281474976710656 then ((sum_Of.f (([(List.replicate (ji5 : Int).toNat 0)] : List (List Int)))).bind fun t136 => (some (t111 == (Go.bits .xor .u32 (Go.bits .xor .u32 t120 t129) t136)))) else (none)) = some r := H
                      have A28 := Aside0.mk A280
                      clear A280
                      by_cases c29 : (ji5 : Int).toNat ≤ 281474976710656
                      · rw [if_pos c29] at H
                        have c29b0 := eq_true c29
                        have c29b1 : decide ((ji5 : Int).toNat ≤ 281474976710656) = true := decide_eq_true c29
                        clear c29
                        obtain ⟨y130, hy130⟩ : ∃ y_ : List Int, y_ = (List.replicate (ji5 : Int).toNat 0) := ⟨_, rfl⟩
                        replace H : ((sum_Of.f (([y130] : List (List Int)))).bind fun t136 => (some (t111 == (Go.bits .xor .u32 (Go.bits .xor .u32 t120 t129) t136)))) = some r := by first | (rw [hy130]; with_reducible exact H) | (have H2_ := (Option.bind_some _ _).symm.trans H; rw [hy130]; with_reducible exact H2_) | (have H2_ := (Option.bind_some _ _).symm.trans H; with_reducible exact H2_) | with_reducible exact H | (rw [hy130]; exact H) | exact H
                        have Ny130 := Aside0.mk hy130
                        clear hy130
                        obtain ⟨y133, hy133⟩ : ∃ y_ : List (List Int), y_ = (([y130] : List (List Int))) := ⟨_, rfl⟩
                        replace H : ((sum_Of.f y133).bind fun t136 => (some (t111 == (Go.bits .xor .u32 (Go.bits .xor .u32 t120 t129) t136)))) = some r := by first | (rw [hy133]; with_reducible exact H) | (have H2_ := (Option.bind_some _ _).symm.trans H; rw [hy133]; with_reducible exact H2_) | (have H2_ := (Option.bind_some _ _).symm.trans H; with_reducible exact H2_) | with_reducible exact H | (rw [hy133]; exact H) | exact H
                        have Ny133 := Aside0.mk hy133
                        clear hy133
                        replace H := Option.bind_eq_some_iff.mp H
                        obtain ⟨t136, A300, H⟩ := H
                        replace H : (some (t111 == (Go.bits .xor .u32 (Go.bits .xor .u32 t120 t129) t136))) = some r := H
                        have A30 := Aside0.mk A300
                        clear A300
                        obtain rfl := Option.some.inj H
                        try go_wp2
                        have n0_ := Aside0.mk (Kd.V_drew HO_0.out)
                        have n1_ := Aside0.mk (Kd.V_drew HO_1.out)
                        have n2_ := Aside0.mk (Kd.R_drew HO_6.out)
                        have n3_ := Aside0.mk (below_drew1 HB.out)
                        clear HO_0
                        clear HO_1
                        clear HO_6
                        clear HB
                        have HO_0 := n0_
                        have HO_1 := n1_
                        have HO_6 := n2_
                        have HB := n3_
                        clear n0_ n1_ n2_ n3_
                        have q32 : (ji5 : Int) ≤ ((l0.length : Int) : Int) := of_decide_eq_true (by first | (with_reducible assumption) | assumption)
                        obtain ⟨i032, hi032, _, hsz32, _⟩ := info_parts info5
                        have hroom32 : l0.length ≤ c0 := (Kd.V_reads' HO_0.out).2.1
                        have hC32 : Kd.F (Kd.int .u8) _ _ A0 l0.length l0 := (Kd.V_at (base := w.heap.size) HO_0.out).2.2
                        have hcut32 := cut_to (P := Try.prog) 25 5 .i64 Try.underlying25 hi032 A0 l0.length c0 ji5 (of_decide_eq_true (by first | (with_reducible assumption) | assumption)) q32 hroom32
                        have hr32 := Kd.F_take (m := (ji5 : Int).toNat) hC32 (by omega)
                        have hy32 : y112.length = (ji5 : Int).toNat := (by rw [Ny112.out, List.length_take]; omega)
                        rw [← Ny112.out] at hr32
                        rw [← hy32] at hcut32
                        have HO116 := Aside0.mk (show Kd.V (Kd.int .u8) 5 _ w.heap.size _ (.slice A0 y112.length c0) y112 from Kd.V_mk (by omega) hr32)
                        have HC116 := Aside0.mk (show y112.length ≤ c0 from by omega)
                        clear hr32 hC32 hroom32 hi032 hsz32
                        have KY32 := Aside0.mk hy32
                        clear hy32
                        replace q32 := eq_true q32
                        have q33 : (ji5 : Int) ≤ ((l1.length : Int) : Int) := of_decide_eq_true (by first | (with_reducible assumption) | assumption)
                        obtain ⟨i033, hi033, _, hsz33, _⟩ := info_parts info5
                        have hroom33 : l1.length ≤ c1 := (Kd.V_reads' HO_1.out).2.1
                        have hC33 : Kd.F (Kd.int .u8) _ _ A1 l1.length l1 := (Kd.V_at (base := w.heap.size) HO_1.out).2.2
                        have hcut33 := cut_to (P := Try.prog) 25 5 .i64 Try.underlying25 hi033 A1 l1.length c1 ji5 (of_decide_eq_true (by first | (with_reducible assumption) | assumption)) q33 hroom33
                        have hr33 := Kd.F_take (m := (ji5 : Int).toNat) hC33 (by omega)
                        have hy33 : y121.length = (ji5 : Int).toNat := (by rw [Ny121.out, List.length_take]; omega)
                        rw [← Ny121.out] at hr33
                        rw [← hy33] at hcut33
                        have HO125 := Aside0.mk (show Kd.V (Kd.int .u8) 5 _ w.heap.size _ (.slice A1 y121.length c1) y121 from Kd.V_mk (by omega) hr33)
                        have HC125 := Aside0.mk (show y121.length ≤ c1 from by omega)
                        clear hr33 hC33 hroom33 hi033 hsz33
                        have KY33 := Aside0.mk hy33
                        clear hy33
                        replace q33 := eq_true q33
                        refine start_ (n := 21) (S := fun w' => True) (ds := []) #[false, false, false, false, false, false, false, false, false, false, false, false, false, false, false, false, false, false, false, false, false] (by kernel_rfl) rfl rfl trivial (fun hHeld => ?_); refine with_tabW saleroomlaw03_SumLinear.tab12 saleroomlaw03_SumLinear.bits12 (fun HT_ HW_ => ?_)
                        generalize wr.drew = w31 at HO_0 HO_1 HO_6 HB HO116 HO125 hHeld ⊢
                        refine pure_ (i := 0) (N := some 37) (v := ?_) (a' := ?_) #[true, false, false, false, false, false, false, false, false, false, false, false, false, false, false, false, false, false, false, false, false] rfl rfl (any_of HT_.out (by kernel_rfl)) (fun _ _ _ h => h) (Or.inl ⟨by rfl, ?_⟩) ?_ ?_
                        rotate_left
                        · intro w'
                          go_simp
                          with_reducible rfl
                        rotate_left
                        · simp only [Act.put, List.setIfInBounds_toArray, List.set_cons_zero, List.set_cons_succ, i64_w, i32_w]
                          rfl
                        refine pure_ (i := 3) (N := some 40) (v := ?_) (a' := ?_) #[true, false, false, true, false, false, false, false, false, false, false, false, false, false, false, false, false, false, false, false, false] rfl rfl (any_of HT_.out (by kernel_rfl)) (fun _ _ _ h => h) (Or.inl ⟨by rfl, ?_⟩) ?_ ?_
                        rotate_left
                        · intro w'
                          go_simp
                          with_reducible rfl
                        rotate_left
                        · simp only [Act.put, List.setIfInBounds_toArray, List.set_cons_zero, List.set_cons_succ, i64_w, i32_w]
                          rfl
                        refine pure_ (i := 4) (N := some 41) (v := ?_) (a' := ?_) #[true, false, false, true, true, false, false, false, false, false, false, false, false, false, false, false, false, false, false, false, false] rfl rfl (any_of HT_.out (by kernel_rfl)) (fun _ _ _ h => h) (Or.inl ⟨by rfl, ?_⟩) ?_ ?_
                        rotate_left
                        · intro w'
                          go_simp
                          with_reducible rfl
                        rotate_left
                        · simp only [Act.put, List.setIfInBounds_toArray, List.set_cons_zero, List.set_cons_succ, i64_w, i32_w]
                          rfl
                        refine pure_ (i := 5) (N := some 42) (v := ?_) (a' := ?_) #[true, false, false, true, true, true, false, false, false, false, false, false, false, false, false, false, false, false, false, false, false] rfl rfl (any_of HT_.out (by kernel_rfl)) (fun _ _ _ h => h) (Or.inl ⟨by rfl, ?_⟩) ?_ ?_
                        rotate_left
                        · intro w'
                          go_simp
                          with_reducible rfl
                        rotate_left
                        · simp only [Act.put, List.setIfInBounds_toArray, List.set_cons_zero, List.set_cons_succ, i64_w, i32_w]
                          rfl
                        refine pure_ (i := 8) (N := some 45) (v := ?_) (a' := ?_) #[true, false, false, true, true, true, false, false, true, false, false, false, false, false, false, false, false, false, false, false, false] rfl rfl (any_of HT_.out (by kernel_rfl)) (fun _ _ _ h => h) (Or.inl ⟨by rfl, ?_⟩) ?_ ?_
                        rotate_left
                        · intro w'
                          go_simp
                          with_reducible rfl
                        rotate_left
                        · simp only [Act.put, List.setIfInBounds_toArray, List.set_cons_zero, List.set_cons_succ, i64_w, i32_w]
                          rfl
                        refine pure_ (i := 9) (N := some 46) (v := ?_) (a' := ?_) #[true, false, false, true, true, true, false, false, true, true, false, false, false, false, false, false, false, false, false, false, false] rfl rfl (any_of HT_.out (by kernel_rfl)) (fun _ _ _ h => h) (Or.inl ⟨by rfl, ?_⟩) ?_ ?_
                        rotate_left
                        · intro w'
                          go_simp
                          with_reducible rfl
                        rotate_left
                        · simp only [Act.put, List.setIfInBounds_toArray, List.set_cons_zero, List.set_cons_succ, i64_w, i32_w]
                          rfl
                        refine pure_ (i := 10) (N := some 47) (v := ?_) (a' := ?_) #[true, false, false, true, true, true, false, false, true, true, true, false, false, false, false, false, false, false, false, false, false] rfl rfl (any_of HT_.out (by kernel_rfl)) (fun _ _ _ h => h) (Or.inl ⟨by rfl, ?_⟩) ?_ ?_
                        rotate_left
                        · intro w'
                          go_simp
                          with_reducible rfl
                        rotate_left
                        · simp only [Act.put, List.setIfInBounds_toArray, List.set_cons_zero, List.set_cons_succ, i64_w, i32_w]
                          rfl
                        refine pure_ (i := 14) (N := some 51) (v := ?_) (a' := ?_) #[true, false, false, true, true, true, false, false, true, true, true, false, false, false, true, false, false, false, false, false, false] rfl rfl (any_of HT_.out (by kernel_rfl)) (fun _ _ _ h => h) (Or.inl ⟨by rfl, ?_⟩) ?_ ?_
                        rotate_left
                        · intro w'
                          go_simp
                          with_reducible rfl
                        rotate_left
                        · simp only [Act.put, List.setIfInBounds_toArray, List.set_cons_zero, List.set_cons_succ, i64_w, i32_w]
                          rfl
                        have FX := Aside0.mk (show Kd.C (Kd.int .u8) w31 Ao13 x6_1.length x6_1 from (Kd.R_reads' HO_6.out).2.2)
                        have FA := Aside0.mk (show Kd.C (Kd.int .u8) w31 A0 y112.length y112 from (Kd.V_reads' HO116.out).2.2)
                        have FB := Aside0.mk (show Kd.C (Kd.int .u8) w31 A1 y121.length y121 from (Kd.V_reads' HO125.out).2.2)
                        have hx6c : x6_1.length ≤ co13 := (Kd.R_reads' HO_6.out).2.1
                        have hyc0 : y112.length ≤ c0 := HC116.out
                        have hyc1 : y121.length ≤ c1 := HC125.out
                        have hji0 : 0 ≤ ji5 := of_decide_eq_true (by first | (with_reducible assumption) | assumption)
                        have hjiB : ji5.toNat * 1 ≤ 281474976710656 := by have h_ : ji5.toNat ≤ 281474976710656 := of_decide_eq_true (by first | (with_reducible assumption) | assumption); omega
                        clear HO_0 HO_1 HO_6 HO116 HO125
                        refine inv_at [1, 2, 6, 7, 11, 12, 13, 15, 16, 17, 18, 19, 20] (fun a0_ b a w' => ∃ (v38 : Value) (v43 : Value) (v48 : Value) (v52 : Value) (v53 : Value), a = putSel a0_ b [(1, 38, v38), (2, 39, .int .u32 t111), (6, 43, v43), (7, 44, .int .u32 t120), (11, 48, v48), (12, 49, .int .u32 t129), (13, 50, .int .u32 (Go.bits .xor .u32 t120 t129)), (15, 52, v52), (16, 53, v53), (17, 54, .int .u32 t136), (18, 55, .int .u32 (Go.bits .xor .u32 (Go.bits .xor .u32 t120 t129) t136)), (19, 56, .bool (t111 == (Go.bits .xor .u32 (Go.bits .xor .u32 t120 t129) t136))), (20, 4, .bool (t111 == (Go.bits .xor .u32 (Go.bits .xor .u32 t120 t129) t136)))] ∧ (Kd.C (Kd.int .u8) w' Ao13 x6_1.length x6_1) ∧ (Kd.C (Kd.int .u8) w' A0 y112.length y112) ∧ (Kd.C (Kd.int .u8) w' A1 y121.length y121) ∧ (Below w.heap.size w w') ∧ (b 1 = true → Lit1 w' v38 x6_1) ∧ (b 6 = true → Lit1 w' v43 y112) ∧ (b 11 = true → Lit1 w' v48 y121) ∧ (b 16 = true → Lit1 w' v53 y130) ∧ (b 15 = true → Row1 w' v52 y130)) HT_.out HW_.out (by kernel_rfl) (by kernel_rfl) ?_ ?_ ?_
                        · exact ⟨.bool false, .bool false, .bool false, .bool false, .bool false, by simp only [putSel, Bool.false_eq_true, if_false], FX.out, FA.out, FB.out, HB.out, fun h_ => absurd h_ (by decide), fun h_ => absurd h_ (by decide), fun h_ => absurd h_ (by decide), fun h_ => absurd h_ (by decide), fun h_ => absurd h_ (by decide)⟩
                        · skip
                          clear FA FB FX HB
                          refine steps_cons ?_ ?_
                          · rintro b a w' ⟨v38, v43, v48, v52, v53, ha, Q_FX, Q_FA, Q_FB, Q_HB, Q_F1, Q_F6, Q_F11, Q_F16, Q_F15⟩ hb_ hon hoff
                            refine ⟨_, rfl, fun K hK => ?_⟩
                            have e37 : a.tmps[37]? = some (.slice Ao13 x6_1.length co13) := by rw [ha]; exact (putSel_off rfl).trans rfl
                            replace ha := Aside0.mk ha
                            have FX := Aside0.mk Q_FX
                            have FA := Aside0.mk Q_FA
                            have FB := Aside0.mk Q_FB
                            have HB := Aside0.mk Q_HB
                            refine Kd.N_lit_step (Kd.slice 5 (Kd.int .u8)) w'.heap.size 25 ?hg (N' := 38) ?hd (xs := ([x6_1] : List (List Int))) (inner := [.slice Ao13 x6_1.length co13]) (ok := fun _ => True) (okp := fun k_ => k_ < w'.heap.size) ?hr ?hp (fun _ _ => trivial) trivial (Below.refl _ _) (Nat.le_refl _) (by simp) ?_; (case hd => rfl); (case hg => rfl); (case hr => first | (go_simp; done) | (go_simp; rfl)); (case hp => exact (Reps.one (show Kd.FK (Kd.slice 5 (Kd.int .u8)) _ _ x6_1 [.slice Ao13 x6_1.length co13] from (Kd.FK_slice_mk (by omega) (Kd.C_F (Kd.heap_int .u8) FX.out))) (Reps.none _ _)))
                            intro z_ w1_ ho_ hb hg_ hn_
                            refine hK.out _ _ ⟨z_, v43, v48, v52, v53, (by rw [ha.out]; exact putSel_upk 0 hb_ rfl rfl rfl), Kd.C_below FX.out hb, Kd.C_below FA.out hb, Kd.C_below FB.out hb, below_step HB.out hb, fun _ => Lit1.of ho_, fun h0_ => ((Q_F6 h0_)).below hb, fun h0_ => ((Q_F11 h0_)).below hb, fun h0_ => ((Q_F16 h0_)).below hb, fun h0_ => ((Q_F15 h0_)).below hb⟩
                          refine steps_cons ?_ ?_
                          · rintro b a w' ⟨v38, v43, v48, v52, v53, ha, Q_FX, Q_FA, Q_FB, Q_HB, Q_F1, Q_F6, Q_F11, Q_F16, Q_F15⟩ hb_ hon hoff
                            refine ⟨_, rfl, fun K hK => ?_⟩
                            have e38 : a.tmps[38]? = some (v38) := by rw [ha]; exact putSel_on (e := (1, 38, v38)) 0 rfl rfl (hon 1 (by kernel_rfl)) rfl
                            replace ha := Aside0.mk ha
                            have FX := Aside0.mk Q_FX
                            have FA := Aside0.mk Q_FA
                            have FB := Aside0.mk Q_FB
                            have HB := Aside0.mk Q_HB
                            have F1 := Aside0.mk (Q_F1 (hon 1 (by kernel_rfl)))
                            obtain ⟨A_, c_, ev, hc_, hC_⟩ := F1.out
                            have hs_ : sum_Of.f [x6_1] = some t111 := by rw [← Ny108.out]; exact A22.out
                            refine goes_ Try.func12 (by kernel_rfl) rfl #[.slice A_ 1 c_] (by rfl) rfl rfl (by simp only [List.map_toArray, List.map_cons, List.map_nil, Act.eval, Array.getD_eq_getD_getElem?, Option.getD_some, e38, ev]) ?_
                            refine (sum_Of.calls _ _ [x6_1] t111 _ hC_ hc_ hs_).mono ?_
                            rintro e w1_ ⟨rfl, hb⟩
                            refine ⟨_, rfl, ?_⟩
                            refine hK.out _ _ ⟨v38, v43, v48, v52, v53, (by rw [ha.out]; exact putSel_upk 1 hb_ rfl rfl rfl), Kd.C_below FX.out hb, Kd.C_below FA.out hb, Kd.C_below FB.out hb, below_step HB.out hb, fun _ => (F1.out).below hb, fun h0_ => ((Q_F6 h0_)).below hb, fun h0_ => ((Q_F11 h0_)).below hb, fun h0_ => ((Q_F16 h0_)).below hb, fun h0_ => ((Q_F15 h0_)).below hb⟩
                          refine steps_cons ?_ ?_
                          · rintro b a w' ⟨v38, v43, v48, v52, v53, ha, Q_FX, Q_FA, Q_FB, Q_HB, Q_F1, Q_F6, Q_F11, Q_F16, Q_F15⟩ hb_ hon hoff
                            refine ⟨_, rfl, fun K hK => ?_⟩
                            have e42 : a.tmps[42]? = some (.slice A0 y112.length c0) := by rw [ha]; exact (putSel_off rfl).trans rfl
                            replace ha := Aside0.mk ha
                            have FX := Aside0.mk Q_FX
                            have FA := Aside0.mk Q_FA
                            have FB := Aside0.mk Q_FB
                            have HB := Aside0.mk Q_HB
                            refine Kd.N_lit_step (Kd.slice 5 (Kd.int .u8)) w'.heap.size 25 ?hg (N' := 43) ?hd (xs := ([y112] : List (List Int))) (inner := [.slice A0 y112.length c0]) (ok := fun _ => True) (okp := fun k_ => k_ < w'.heap.size) ?hr ?hp (fun _ _ => trivial) trivial (Below.refl _ _) (Nat.le_refl _) (by simp) ?_; (case hd => rfl); (case hg => rfl); (case hr => first | (go_simp; done) | (go_simp; rfl)); (case hp => exact (Reps.one (show Kd.FK (Kd.slice 5 (Kd.int .u8)) _ _ y112 [.slice A0 y112.length c0] from (Kd.FK_slice_mk (by omega) (Kd.C_F (Kd.heap_int .u8) FA.out))) (Reps.none _ _)))
                            intro z_ w1_ ho_ hb hg_ hn_
                            refine hK.out _ _ ⟨v38, z_, v48, v52, v53, (by rw [ha.out]; exact putSel_upk 2 hb_ rfl rfl rfl), Kd.C_below FX.out hb, Kd.C_below FA.out hb, Kd.C_below FB.out hb, below_step HB.out hb, fun h0_ => ((Q_F1 h0_)).below hb, fun _ => Lit1.of ho_, fun h0_ => ((Q_F11 h0_)).below hb, fun h0_ => ((Q_F16 h0_)).below hb, fun h0_ => ((Q_F15 h0_)).below hb⟩
                          refine steps_cons ?_ ?_
                          · rintro b a w' ⟨v38, v43, v48, v52, v53, ha, Q_FX, Q_FA, Q_FB, Q_HB, Q_F1, Q_F6, Q_F11, Q_F16, Q_F15⟩ hb_ hon hoff
                            refine ⟨_, rfl, fun K hK => ?_⟩
                            have e43 : a.tmps[43]? = some (v43) := by rw [ha]; exact putSel_on (e := (6, 43, v43)) 2 rfl rfl (hon 6 (by kernel_rfl)) rfl
                            replace ha := Aside0.mk ha
                            have FX := Aside0.mk Q_FX
                            have FA := Aside0.mk Q_FA
                            have FB := Aside0.mk Q_FB
                            have HB := Aside0.mk Q_HB
                            have F1 := Aside0.mk (Q_F1 (hon 1 (by kernel_rfl)))
                            have F6 := Aside0.mk (Q_F6 (hon 6 (by kernel_rfl)))
                            obtain ⟨A_, c_, ev, hc_, hC_⟩ := F6.out
                            have hs_ : sum_Of.f [y112] = some t120 := by rw [← Ny117.out]; exact A25.out
                            refine goes_ Try.func12 (by kernel_rfl) rfl #[.slice A_ 1 c_] (by rfl) rfl rfl (by simp only [List.map_toArray, List.map_cons, List.map_nil, Act.eval, Array.getD_eq_getD_getElem?, Option.getD_some, e43, ev]) ?_
                            refine (sum_Of.calls _ _ [y112] t120 _ hC_ hc_ hs_).mono ?_
                            rintro e w1_ ⟨rfl, hb⟩
                            refine ⟨_, rfl, ?_⟩
                            refine hK.out _ _ ⟨v38, v43, v48, v52, v53, (by rw [ha.out]; exact putSel_upk 3 hb_ rfl rfl rfl), Kd.C_below FX.out hb, Kd.C_below FA.out hb, Kd.C_below FB.out hb, below_step HB.out hb, fun _ => (F1.out).below hb, fun _ => (F6.out).below hb, fun h0_ => ((Q_F11 h0_)).below hb, fun h0_ => ((Q_F16 h0_)).below hb, fun h0_ => ((Q_F15 h0_)).below hb⟩
                          refine steps_cons ?_ ?_
                          · rintro b a w' ⟨v38, v43, v48, v52, v53, ha, Q_FX, Q_FA, Q_FB, Q_HB, Q_F1, Q_F6, Q_F11, Q_F16, Q_F15⟩ hb_ hon hoff
                            refine ⟨_, rfl, fun K hK => ?_⟩
                            have e47 : a.tmps[47]? = some (.slice A1 y121.length c1) := by rw [ha]; exact (putSel_off rfl).trans rfl
                            replace ha := Aside0.mk ha
                            have FX := Aside0.mk Q_FX
                            have FA := Aside0.mk Q_FA
                            have FB := Aside0.mk Q_FB
                            have HB := Aside0.mk Q_HB
                            refine Kd.N_lit_step (Kd.slice 5 (Kd.int .u8)) w'.heap.size 25 ?hg (N' := 48) ?hd (xs := ([y121] : List (List Int))) (inner := [.slice A1 y121.length c1]) (ok := fun _ => True) (okp := fun k_ => k_ < w'.heap.size) ?hr ?hp (fun _ _ => trivial) trivial (Below.refl _ _) (Nat.le_refl _) (by simp) ?_; (case hd => rfl); (case hg => rfl); (case hr => first | (go_simp; done) | (go_simp; rfl)); (case hp => exact (Reps.one (show Kd.FK (Kd.slice 5 (Kd.int .u8)) _ _ y121 [.slice A1 y121.length c1] from (Kd.FK_slice_mk (by omega) (Kd.C_F (Kd.heap_int .u8) FB.out))) (Reps.none _ _)))
                            intro z_ w1_ ho_ hb hg_ hn_
                            refine hK.out _ _ ⟨v38, v43, z_, v52, v53, (by rw [ha.out]; exact putSel_upk 4 hb_ rfl rfl rfl), Kd.C_below FX.out hb, Kd.C_below FA.out hb, Kd.C_below FB.out hb, below_step HB.out hb, fun h0_ => ((Q_F1 h0_)).below hb, fun h0_ => ((Q_F6 h0_)).below hb, fun _ => Lit1.of ho_, fun h0_ => ((Q_F16 h0_)).below hb, fun h0_ => ((Q_F15 h0_)).below hb⟩
                          refine steps_cons ?_ ?_
                          · rintro b a w' ⟨v38, v43, v48, v52, v53, ha, Q_FX, Q_FA, Q_FB, Q_HB, Q_F1, Q_F6, Q_F11, Q_F16, Q_F15⟩ hb_ hon hoff
                            refine ⟨_, rfl, fun K hK => ?_⟩
                            have e48 : a.tmps[48]? = some (v48) := by rw [ha]; exact putSel_on (e := (11, 48, v48)) 4 rfl rfl (hon 11 (by kernel_rfl)) rfl
                            replace ha := Aside0.mk ha
                            have FX := Aside0.mk Q_FX
                            have FA := Aside0.mk Q_FA
                            have FB := Aside0.mk Q_FB
                            have HB := Aside0.mk Q_HB
                            have F1 := Aside0.mk (Q_F1 (hon 1 (by kernel_rfl)))
                            have F6 := Aside0.mk (Q_F6 (hon 6 (by kernel_rfl)))
                            have F11 := Aside0.mk (Q_F11 (hon 11 (by kernel_rfl)))
                            obtain ⟨A_, c_, ev, hc_, hC_⟩ := F11.out
                            have hs_ : sum_Of.f [y121] = some t129 := by rw [← Ny126.out]; exact A28.out
                            refine goes_ Try.func12 (by kernel_rfl) rfl #[.slice A_ 1 c_] (by rfl) rfl rfl (by simp only [List.map_toArray, List.map_cons, List.map_nil, Act.eval, Array.getD_eq_getD_getElem?, Option.getD_some, e48, ev]) ?_
                            refine (sum_Of.calls _ _ [y121] t129 _ hC_ hc_ hs_).mono ?_
                            rintro e w1_ ⟨rfl, hb⟩
                            refine ⟨_, rfl, ?_⟩
                            refine hK.out _ _ ⟨v38, v43, v48, v52, v53, (by rw [ha.out]; exact putSel_upk 5 hb_ rfl rfl rfl), Kd.C_below FX.out hb, Kd.C_below FA.out hb, Kd.C_below FB.out hb, below_step HB.out hb, fun _ => (F1.out).below hb, fun _ => (F6.out).below hb, fun _ => (F11.out).below hb, fun h0_ => ((Q_F16 h0_)).below hb, fun h0_ => ((Q_F15 h0_)).below hb⟩
                          refine steps_cons ?_ ?_
                          · rintro b a w' ⟨v38, v43, v48, v52, v53, ha, Q_FX, Q_FA, Q_FB, Q_HB, Q_F1, Q_F6, Q_F11, Q_F16, Q_F15⟩ hb_ hon hoff
                            refine ⟨_, rfl, fun K hK => ?_⟩
                            have e44 : a.tmps[44]? = some (.int .u32 t120) := by rw [ha]; exact putSel_on (e := (7, 44, .int .u32 t120)) 3 rfl rfl (hon 7 (by kernel_rfl)) rfl
                            have e49 : a.tmps[49]? = some (.int .u32 t129) := by rw [ha]; exact putSel_on (e := (12, 49, .int .u32 t129)) 5 rfl rfl (hon 12 (by kernel_rfl)) rfl
                            replace ha := Aside0.mk ha
                            have FX := Aside0.mk Q_FX
                            have FA := Aside0.mk Q_FA
                            have FB := Aside0.mk Q_FB
                            have HB := Aside0.mk Q_HB
                            have F1 := Aside0.mk (Q_F1 (hon 1 (by kernel_rfl)))
                            have F6 := Aside0.mk (Q_F6 (hon 6 (by kernel_rfl)))
                            have F11 := Aside0.mk (Q_F11 (hon 11 (by kernel_rfl)))
                            refine value_ (w1 := w') (v := .int .u32 (Go.bits .xor .u32 t120 t129)) (by rfl) rfl ?_ ?_
                            · go_simp
                              (try simp only [i64_w])
                              try rfl
                            refine hK.out _ _ ⟨v38, v43, v48, v52, v53, (by rw [ha.out]; exact putSel_upk 6 hb_ rfl rfl rfl), Q_FX, Q_FA, Q_FB, Q_HB, Q_F1, Q_F6, Q_F11, Q_F16, Q_F15⟩
                          refine steps_cons ?_ ?_
                          · rintro b a w' ⟨v38, v43, v48, v52, v53, ha, Q_FX, Q_FA, Q_FB, Q_HB, Q_F1, Q_F6, Q_F11, Q_F16, Q_F15⟩ hb_ hon hoff
                            refine ⟨_, rfl, fun K hK => ?_⟩
                            have e51 : a.tmps[51]? = some (.int .i64 ji5) := by rw [ha]; exact (putSel_off rfl).trans rfl
                            replace ha := Aside0.mk ha
                            have FX := Aside0.mk Q_FX
                            have FA := Aside0.mk Q_FA
                            have FB := Aside0.mk Q_FB
                            have HB := Aside0.mk Q_HB
                            refine Kd.R_make_step (Kd.int .u8) w'.heap.size 5 (by rfl) (N := 52) rfl 25 _ _ rfl ji5 (eval_of e51) (eval_of e51) Try.underlying25 (.int .u8 0) 1 info5 rfl (by decide) (by omega) 0 (ok := fun _ => True) (okp := fun _ => True) rfl (fun _ hk => hk) trivial hji0 hjiB (Below.refl _ _) (Nat.le_refl _) ?_
                            intro z_ w1_ ho_ hb hg_ hn_
                            refine hK.out _ _ ⟨v38, v43, v48, z_, v53, (by rw [ha.out]; exact putSel_upk 7 hb_ rfl rfl rfl), Kd.C_below FX.out hb, Kd.C_below FA.out hb, Kd.C_below FB.out hb, below_step HB.out hb, fun h0_ => ((Q_F1 h0_)).below hb, fun h0_ => ((Q_F6 h0_)).below hb, fun h0_ => ((Q_F11 h0_)).below hb, fun h0_ => absurd ((hoff 16 (by kernel_rfl)).symm.trans h0_) (by decide), fun _ => Row1.of Ny130.out ho_⟩
                          refine steps_cons ?_ ?_
                          · rintro b a w' ⟨v38, v43, v48, v52, v53, ha, Q_FX, Q_FA, Q_FB, Q_HB, Q_F1, Q_F6, Q_F11, Q_F16, Q_F15⟩ hb_ hon hoff
                            refine ⟨_, rfl, fun K hK => ?_⟩
                            have e52 : a.tmps[52]? = some (v52) := by rw [ha]; exact putSel_on (e := (15, 52, v52)) 7 rfl rfl (hon 15 (by kernel_rfl)) rfl
                            replace ha := Aside0.mk ha
                            have FX := Aside0.mk Q_FX
                            have FA := Aside0.mk Q_FA
                            have FB := Aside0.mk Q_FB
                            have HB := Aside0.mk Q_HB
                            have F15 := Aside0.mk (Q_F15 (hon 15 (by kernel_rfl)))
                            obtain ⟨Aq_, cq_, eq_, hcq_, hCq_⟩ := F15.out
                            rw [eq_] at e52
                            refine Kd.N_lit_step (Kd.slice 5 (Kd.int .u8)) w'.heap.size 25 ?hg (N' := 53) ?hd (xs := ([y130] : List (List Int))) (inner := [.slice Aq_ y130.length cq_]) (ok := fun _ => True) (okp := fun k_ => k_ < w'.heap.size) ?hr ?hp (fun _ _ => trivial) trivial (Below.refl _ _) (Nat.le_refl _) (by simp) ?_; (case hd => rfl); (case hg => rfl); (case hr => first | (go_simp; done) | (go_simp; rfl)); (case hp => exact (Reps.one (show Kd.FK (Kd.slice 5 (Kd.int .u8)) _ _ y130 [.slice Aq_ y130.length cq_] from (Kd.FK_slice_mk (by omega) (Kd.C_F (Kd.heap_int .u8) hCq_))) (Reps.none _ _)))
                            intro z_ w1_ ho_ hb hg_ hn_
                            refine hK.out _ _ ⟨v38, v43, v48, v52, z_, (by rw [ha.out]; exact putSel_upk 8 hb_ rfl rfl rfl), Kd.C_below FX.out hb, Kd.C_below FA.out hb, Kd.C_below FB.out hb, below_step HB.out hb, fun h0_ => ((Q_F1 h0_)).below hb, fun h0_ => ((Q_F6 h0_)).below hb, fun h0_ => ((Q_F11 h0_)).below hb, fun _ => Lit1.of ho_, fun _ => (F15.out).below hb⟩
                          refine steps_cons ?_ ?_
                          · rintro b a w' ⟨v38, v43, v48, v52, v53, ha, Q_FX, Q_FA, Q_FB, Q_HB, Q_F1, Q_F6, Q_F11, Q_F16, Q_F15⟩ hb_ hon hoff
                            refine ⟨_, rfl, fun K hK => ?_⟩
                            have e53 : a.tmps[53]? = some (v53) := by rw [ha]; exact putSel_on (e := (16, 53, v53)) 8 rfl rfl (hon 16 (by kernel_rfl)) rfl
                            replace ha := Aside0.mk ha
                            have FX := Aside0.mk Q_FX
                            have FA := Aside0.mk Q_FA
                            have FB := Aside0.mk Q_FB
                            have HB := Aside0.mk Q_HB
                            have F1 := Aside0.mk (Q_F1 (hon 1 (by kernel_rfl)))
                            have F6 := Aside0.mk (Q_F6 (hon 6 (by kernel_rfl)))
                            have F11 := Aside0.mk (Q_F11 (hon 11 (by kernel_rfl)))
                            have F16 := Aside0.mk (Q_F16 (hon 16 (by kernel_rfl)))
                            have F15 := Aside0.mk (Q_F15 (hon 15 (by kernel_rfl)))
                            obtain ⟨A_, c_, ev, hc_, hC_⟩ := F16.out
                            have hs_ : sum_Of.f [y130] = some t136 := by rw [← Ny133.out]; exact A30.out
                            refine goes_ Try.func12 (by kernel_rfl) rfl #[.slice A_ 1 c_] (by rfl) rfl rfl (by simp only [List.map_toArray, List.map_cons, List.map_nil, Act.eval, Array.getD_eq_getD_getElem?, Option.getD_some, e53, ev]) ?_
                            refine (sum_Of.calls _ _ [y130] t136 _ hC_ hc_ hs_).mono ?_
                            rintro e w1_ ⟨rfl, hb⟩
                            refine ⟨_, rfl, ?_⟩
                            refine hK.out _ _ ⟨v38, v43, v48, v52, v53, (by rw [ha.out]; exact putSel_upk 9 hb_ rfl rfl rfl), Kd.C_below FX.out hb, Kd.C_below FA.out hb, Kd.C_below FB.out hb, below_step HB.out hb, fun _ => (F1.out).below hb, fun _ => (F6.out).below hb, fun _ => (F11.out).below hb, fun _ => (F16.out).below hb, fun _ => (F15.out).below hb⟩
                          refine steps_cons ?_ ?_
                          · rintro b a w' ⟨v38, v43, v48, v52, v53, ha, Q_FX, Q_FA, Q_FB, Q_HB, Q_F1, Q_F6, Q_F11, Q_F16, Q_F15⟩ hb_ hon hoff
                            refine ⟨_, rfl, fun K hK => ?_⟩
                            have e50 : a.tmps[50]? = some (.int .u32 (Go.bits .xor .u32 t120 t129)) := by rw [ha]; exact putSel_on (e := (13, 50, .int .u32 (Go.bits .xor .u32 t120 t129))) 6 rfl rfl (hon 13 (by kernel_rfl)) rfl
                            have e54 : a.tmps[54]? = some (.int .u32 t136) := by rw [ha]; exact putSel_on (e := (17, 54, .int .u32 t136)) 9 rfl rfl (hon 17 (by kernel_rfl)) rfl
                            replace ha := Aside0.mk ha
                            have FX := Aside0.mk Q_FX
                            have FA := Aside0.mk Q_FA
                            have FB := Aside0.mk Q_FB
                            have HB := Aside0.mk Q_HB
                            have F1 := Aside0.mk (Q_F1 (hon 1 (by kernel_rfl)))
                            have F6 := Aside0.mk (Q_F6 (hon 6 (by kernel_rfl)))
                            have F11 := Aside0.mk (Q_F11 (hon 11 (by kernel_rfl)))
                            have F16 := Aside0.mk (Q_F16 (hon 16 (by kernel_rfl)))
                            have F15 := Aside0.mk (Q_F15 (hon 15 (by kernel_rfl)))
                            refine value_ (w1 := w') (v := .int .u32 (Go.bits .xor .u32 (Go.bits .xor .u32 t120 t129) t136)) (by rfl) rfl ?_ ?_
                            · go_simp
                              (try simp only [i64_w])
                              try rfl
                            refine hK.out _ _ ⟨v38, v43, v48, v52, v53, (by rw [ha.out]; exact putSel_upk 10 hb_ rfl rfl rfl), Q_FX, Q_FA, Q_FB, Q_HB, Q_F1, Q_F6, Q_F11, Q_F16, Q_F15⟩
                          refine steps_cons ?_ ?_
                          · rintro b a w' ⟨v38, v43, v48, v52, v53, ha, Q_FX, Q_FA, Q_FB, Q_HB, Q_F1, Q_F6, Q_F11, Q_F16, Q_F15⟩ hb_ hon hoff
                            refine ⟨_, rfl, fun K hK => ?_⟩
                            have e39 : a.tmps[39]? = some (.int .u32 t111) := by rw [ha]; exact putSel_on (e := (2, 39, .int .u32 t111)) 1 rfl rfl (hon 2 (by kernel_rfl)) rfl
                            have e55 : a.tmps[55]? = some (.int .u32 (Go.bits .xor .u32 (Go.bits .xor .u32 t120 t129) t136)) := by rw [ha]; exact putSel_on (e := (18, 55, .int .u32 (Go.bits .xor .u32 (Go.bits .xor .u32 t120 t129) t136))) 10 rfl rfl (hon 18 (by kernel_rfl)) rfl
                            replace ha := Aside0.mk ha
                            have FX := Aside0.mk Q_FX
                            have FA := Aside0.mk Q_FA
                            have FB := Aside0.mk Q_FB
                            have HB := Aside0.mk Q_HB
                            have F1 := Aside0.mk (Q_F1 (hon 1 (by kernel_rfl)))
                            have F6 := Aside0.mk (Q_F6 (hon 6 (by kernel_rfl)))
                            have F11 := Aside0.mk (Q_F11 (hon 11 (by kernel_rfl)))
                            have F16 := Aside0.mk (Q_F16 (hon 16 (by kernel_rfl)))
                            have F15 := Aside0.mk (Q_F15 (hon 15 (by kernel_rfl)))
                            refine value_ (w1 := w') (v := .bool (t111 == (Go.bits .xor .u32 (Go.bits .xor .u32 t120 t129) t136))) (by rfl) rfl ?_ ?_
                            · go_simp
                              (try simp only [i64_w])
                              try rfl
                            refine hK.out _ _ ⟨v38, v43, v48, v52, v53, (by rw [ha.out]; exact putSel_upk 11 hb_ rfl rfl rfl), Q_FX, Q_FA, Q_FB, Q_HB, Q_F1, Q_F6, Q_F11, Q_F16, Q_F15⟩
                          refine steps_cons ?_ ?_
                          · rintro b a w' ⟨v38, v43, v48, v52, v53, ha, Q_FX, Q_FA, Q_FB, Q_HB, Q_F1, Q_F6, Q_F11, Q_F16, Q_F15⟩ hb_ hon hoff
                            refine ⟨_, rfl, fun K hK => ?_⟩
                            have e56 : a.tmps[56]? = some (.bool (t111 == (Go.bits .xor .u32 (Go.bits .xor .u32 t120 t129) t136))) := by rw [ha]; exact putSel_on (e := (19, 56, .bool (t111 == (Go.bits .xor .u32 (Go.bits .xor .u32 t120 t129) t136)))) 11 rfl rfl (hon 19 (by kernel_rfl)) rfl
                            replace ha := Aside0.mk ha
                            have FX := Aside0.mk Q_FX
                            have FA := Aside0.mk Q_FA
                            have FB := Aside0.mk Q_FB
                            have HB := Aside0.mk Q_HB
                            have F1 := Aside0.mk (Q_F1 (hon 1 (by kernel_rfl)))
                            have F6 := Aside0.mk (Q_F6 (hon 6 (by kernel_rfl)))
                            have F11 := Aside0.mk (Q_F11 (hon 11 (by kernel_rfl)))
                            have F16 := Aside0.mk (Q_F16 (hon 16 (by kernel_rfl)))
                            have F15 := Aside0.mk (Q_F15 (hon 15 (by kernel_rfl)))
                            refine value_ (w1 := w') (v := .bool (t111 == (Go.bits .xor .u32 (Go.bits .xor .u32 t120 t129) t136))) (by rfl) rfl ?_ ?_
                            · go_simp
                              (try simp only [i64_w])
                              try rfl
                            refine hK.out _ _ ⟨v38, v43, v48, v52, v53, (by rw [ha.out]; exact putSel_upk 12 hb_ rfl rfl rfl), Q_FX, Q_FA, Q_FB, Q_HB, Q_F1, Q_F6, Q_F11, Q_F16, Q_F15⟩
                          exact steps_nil
                        rintro b a w' hall ⟨v38, v43, v48, v52, v53, ha, Q_FX, Q_FA, Q_FB, Q_HB, Q_F1, Q_F6, Q_F11, Q_F16, Q_F15⟩
                        clear FA FB FX HB
                        have hb1_ := hall 1 (by kernel_rfl)
                        have hb2_ := hall 2 (by kernel_rfl)
                        have hb6_ := hall 6 (by kernel_rfl)
                        have hb7_ := hall 7 (by kernel_rfl)
                        have hb11_ := hall 11 (by kernel_rfl)
                        have hb12_ := hall 12 (by kernel_rfl)
                        have hb13_ := hall 13 (by kernel_rfl)
                        have hb15_ := hall 15 (by kernel_rfl)
                        have hb16_ := hall 16 (by kernel_rfl)
                        have hb17_ := hall 17 (by kernel_rfl)
                        have hb18_ := hall 18 (by kernel_rfl)
                        have hb19_ := hall 19 (by kernel_rfl)
                        have hb20_ := hall 20 (by kernel_rfl)
                        subst ha
                        simp only [putSel, hb1_, hb2_, hb6_, hb7_, hb11_, hb12_, hb13_, hb15_, hb16_, hb17_, hb18_, hb19_, hb20_, if_true, Act.put, List.setIfInBounds_toArray, List.set_cons_zero, List.set_cons_succ]
                        have FX := Aside0.mk Q_FX
                        clear Q_FX
                        have FA := Aside0.mk Q_FA
                        clear Q_FA
                        have FB := Aside0.mk Q_FB
                        clear Q_FB
                        have HB := Aside0.mk Q_HB
                        clear Q_HB
                        have F1 := Aside0.mk (Q_F1 hb1_)
                        clear Q_F1
                        have F6 := Aside0.mk (Q_F6 hb6_)
                        clear Q_F6
                        have F11 := Aside0.mk (Q_F11 hb11_)
                        clear Q_F11
                        have F16 := Aside0.mk (Q_F16 hb16_)
                        clear Q_F16
                        have F15 := Aside0.mk (Q_F15 hb15_)
                        clear Q_F15
                        clear hall hb1_ hb2_ hb6_ hb7_ hb11_ hb12_ hb13_ hb15_ hb16_ hb17_ hb18_ hb19_ hb20_
                        try go_wp2
                        go_ret
                        exact ⟨by first | rfl | (simp [errW_none, errW_some] <;> rfl) | (simp only [← hji5]; first | rfl | (simp [errW_none, errW_some] <;> rfl)) | (simp [*, errW_none, errW_some] <;> rfl), by repeat (first | (with_reducible first | exact HB.out | apply below_alloc | apply pw_below_drewN | apply below_drew1) | exact HB.out)⟩
                      · rw [if_neg c29] at H
                        exact absurd H (by simp)
                    · rw [if_neg c27] at H
                      exact absurd H (by simp)
                  · rw [if_neg c24] at H
                    exact absurd H (by simp)
                · rw [if_neg c23] at H
                  exact absurd H (by simp)
        · rw [if_neg c9] at H
          exact absurd H (by simp)
      · rw [if_neg c8] at H
        exact absurd H (by simp)
  · replace c4 := Bool.eq_false_iff.mpr c4
    subst c4
    have H1 : (some false) = some r := by rw [if_neg (show ¬ (false = true) by decide)] at H; exact H
    clear H
    have H := H1
    clear H1
    obtain rfl := Option.some.inj H
    go_enter Try.func6, Try.ntmps6
    go_wp2_with (first | ((with_reducible refine gate_callee (f := 7) rfl ?_); refine goesL_ (some 8) rfl rfl Try.func7 (by kernel_rfl) rfl #[] rfl (by (try simp only [List.map_toArray, List.map_cons, List.map_nil]); first | done | rfl | (simp only [List.length_drop, List.length_take]; rfl)) ?_; (with_reducible refine (saleroomlaw03_alive.calls  false _ A3.out).mono ?_); rintro e w54 ⟨rfl, hb⟩; refine ⟨_, rfl, ?_⟩; have n0_ := Aside0.mk (Kd.V_below (by (with_reducible repeat (first | apply Kd.V_alloc | apply Kd.V_drewN | apply Kd.V_drew)); exact HO0.out) hb); have n1_ := Aside0.mk (Kd.V_below (by (with_reducible repeat (first | apply Kd.V_alloc | apply Kd.V_drewN | apply Kd.V_drew)); exact HO1.out) hb); have n2_ := Aside0.mk (below_step (by repeat (first | (with_reducible first | exact HB.out | apply below_alloc | apply pw_below_drewN | apply below_drew1) | exact HB.out)) hb); clear HO0; clear HO1; clear HB; have HO0 := n0_; have HO1 := n1_; have HB := n2_; clear n0_ n1_ n2_; (try clear hb); (try clear hb2); (try clear hk); (try clear hi)))
    go_ret
    exact ⟨by first | rfl | (simp [errW_none, errW_some] <;> rfl) | (simp [*, errW_none, errW_some] <;> rfl), by repeat (first | (with_reducible first | exact HB.out | apply below_alloc | apply pw_below_drewN | apply below_drew1) | exact HB.out)⟩

end Go.Proofs.Ytbbnapdkiohefaa.PSumLinear
