/- The example of the statements about frames: alive() is true. -/
import Derived.Test.YtagjnjdaookdgaaFrEq
import Derived.Lib.ConvBytes
namespace Go.Proofs.Ytagjnjdaookdgaa.H
open Go.RowKit Go.Proofs.YtagjnjdaookdgaaW.PrintWords Go.Proofs.YtagjnjdaookdgaaW.PrintLast Go.Proofs.YtagjnjdaookdgaaW.PrintMore Go.Proofs.Ytagjnjdaookdgaa.CrcM
set_option linter.unusedVariables false
set_option linter.unusedSimpArgs false
attribute [local go_sem] Oper.semAt_some wide_fn wide_depth

def B9 : List Int := [2, 0, 7, 97, 98, 224, 147, 99, 82]
def B10 : List Int := [2, 0, 7, 97, 98, 224, 147, 99, 82, 1]
def B18 : List Int := [2, 0, 7, 97, 98, 224, 147, 99, 82, 2, 0, 7, 97, 98, 224, 147, 99, 82]
theorem fa1 : writeF 7 [97, 98] = (B9, 0) := by decide +kernel
theorem fa2 : readF B10 = (7, [97, 98], 9, 0) := by decide +kernel
theorem fa3 : readF (B9.take 8) = (0, [], 0, 21) := by decide +kernel
theorem fa4 : scanF B18 = [(0, 7, [97, 98]), (9, 7, [97, 98])] := by decide +kernel
theorem fa5 : (endF B10 : Int) = 9 := by decide +kernel
theorem fa6 : endErr B10 = 21 := by decide +kernel
theorem fa7 : weightF 2 = 9 := by decide +kernel
theorem bB10 : Bts B10 := by unfold Bts; decide +kernel
theorem bB18 : Bts B18 := by unfold Bts; decide +kernel
theorem bB8 : Bts (B9.take 8) := by unfold Bts; decide +kernel

theorem blk_new2 (W : World) (o o' : Obj) : ((W.alloc o).alloc o').heap[W.heap.size + 1]? = some o' := by
  have := blk_new (W.alloc o) o'
  rwa [World.size_alloc] at this
theorem size_two (W : World) (o o' : Obj) : W.heap.size + 2 ≤ ((W.alloc o).alloc o').heap.size := by
  rw [World.size_alloc, World.size_alloc]
  omega
theorem blk_belowX {W W' : World} {k : Nat} {o : Obj} (h : W.heap[k]? = some o) (hb : Below W.heap.size W W') : W'.heap[k]? = some o := (hb.block k (lt_of_some h)).trans h
def sumF (xs : List Fr) : Int := xs.foldl (fun s x => s + (x.1 + x.2.1)) 0
theorem pre_two {pre : List Fr} {x a b : Fr} (h : pre ++ [x] <+: [a, b]) : pre = [] ∧ x = a ∨ pre = [a] ∧ x = b := by
  obtain ⟨r, hr⟩ := h
  match pre with
  | [] => simp at hr; exact .inl ⟨rfl, hr.1⟩
  | [y] => simp at hr; exact .inr ⟨by rw [hr.1], hr.2.1⟩
  | y :: z :: q => simp at hr
set_option maxHeartbeats 3200000 in
theorem alive6_calls (w : World) : Calls Try.prog 8 #[] w fun e w' => e = .returned (.bool true) ∧ Below w.heap.size w w' := by
  have kc := fun (W : World) (C : Array Value) (n c : Nat) => Lib.run_convert_bytes_const (P := Try.prog) W 22 5 C n c Try.underlying22 Try.underlying5
  refine (callsIn_wide (n := 5)).1 ?_
  refine callsIn_of_wp_marks Try.func8 rfl trivial ?_ rfl
  simp only [Try.ntmps8, List.size_toArray, List.length_cons, List.length_nil, Nat.reduceAdd, Nat.reduceSub, Array.replicate_succ, Array.replicate_zero, List.push_toArray, List.append_toArray, List.nil_append, List.cons_append]
  refine wpIn_wide.2 ?_
  obtain ⟨i0, hi0, _, hsz, _⟩ := info_parts info_u8
  have T0 := trivial
  go_wp2_with (first
    | (go_at_call 9; (with_reducible refine (Write_eq _ _ _ _ 9 [97, 98] B9 0 _ ?s1 ?s2 ?s3 ?s4 ?s5).mono ?_); (case s1 => rfl); (case s2 => rfl); (case s3 => exact fa1); (case s4 => exact C_lit _ [97, 98] _ _ (by simp)); (case s5 => exact Nat.le_refl _); rintro e w1 ⟨A1, c1, rfl, hc1, hr1, hb1⟩; have hct5 : ∀ W, (Instr.slice 22 (.slice A1 9 c1) none (some (.int .i64 5)) none).run Try.prog W = .ok (.slice A1 5 c1) W := (print_take_of (P := Try.prog) (Value.int .u8) 0 22 5 .i64 Try.underlying22 hi0 hsz A1 c1 B9 5 (by decide) (by decide) hc1).1; have hct8 : ∀ W, (Instr.slice 22 (.slice A1 9 c1) none (some (.int .i64 8)) none).run Try.prog W = .ok (.slice A1 8 c1) W := (print_take_of (P := Try.prog) (Value.int .u8) 0 22 5 .i64 Try.underlying22 hi0 hsz A1 c1 B9 8 (by decide) (by decide) hc1).1; have hstr : (convert 22 9 (.slice A1 5 c1)).run Try.prog w1 = .ok (.string ⟨#[2, 0, 7, 97, 98]⟩) w1 := Kd.C_string (P := Try.prog) (xs := [2, 0, 7, 97, 98]) Try.underlying22 Try.underlying5 Try.underlying9 (Kd.C_take (m := 5) hr1 (by decide)); have S1 := Aside0.mk (And.intro (below_step (below_alloc (Below.refl _ _) _) hb1) hr1); clear hr1 hb1)
    | (go_at_call 21; have _t := S1; (with_reducible refine (Copy_eq _ _ 9 B9 _ ?s1 ?s2 ?s3).mono ?_); (case s1 => rfl); (case s2 => exact S1.out.2); (case s3 => decide); rintro e w2 ⟨A2, c2, rfl, ho2, hb2⟩; have S2 := Aside0.mk (And.intro S1.out (And.intro hb2 ho2)); clear S1 _t ho2 hb2)
    | ((with_reducible refine gate_builtin (b := .append) (xs := #[.tmp 36, .tmp 37]) rfl ?_); at_builtin; refine Kd.R_append_rows (Kd.int .u8) (w0 := w1) w1.heap.size rfl (.tmp 36) (.tmp 37) 22 5 (.int .u8 0) 1 rfl Try.underlying22 info_u8 rfl (by decide) (by omega) (.slice A2 9 c2) B9 [1] (some ⟨w2.heap.size, 0, none⟩) 1 1 (fun _ => True) (fun _ => False) rfl rfl (Kd.R_below S2.out.2.2 (below_alloc (Below.refl _ _) _)) (C_lit w2 [1] _ _ (by simp)) (fun _ _ h => h) (fun _ h => h.elim) (fun _ _ => trivial) (below_alloc S2.out.2.1 _) (below_alloc S2.out.2.1 _).size (by decide) ?_; intro v3 w3 ho3 hb3 hg3 hat3; obtain ⟨A3, c3, e3, hc3, hr3⟩ := R_C ho3; replace e3 : v3 = .slice A3 10 c3 := e3; replace hc3 : 10 ≤ c3 := hc3; subst e3; have S3 := Aside0.mk (And.intro (below_step S2.out.1.1 hb3) (And.intro (Kd.C_below S2.out.1.2 hb3) (show Kd.C (Kd.int .u8) w3 A3 10 B10 from hr3))); clear S2 ho3 hb3 hg3 hat3 hr3)
    | (go_at_call 14; have _t := S3; (with_reducible refine (Read_eq _ _ 10 2 B10 [97, 98] 7 9 0 _ ?s1 ?s2 ?s3 ?s4 ?s5 ?s6 ?s7).mono ?_); (case s1 => rfl); (case s2 => rfl); (case s3 => exact fa2); (case s4 => exact S3.out.2.2); (case s5 => exact hc3); (case s6 => exact bB10); (case s7 => decide); rintro e w4 ⟨A4, c4, rfl, hc4, hr4, hb4⟩; have S4 := Aside0.mk (And.intro (below_step S3.out.1 hb4) (And.intro (Kd.C_below S3.out.2.1 hb4) hr4)); clear S3 _t hr4 hb4)
    | (go_at_call 14; have _t := S4; (with_reducible refine (Read_eq _ _ 8 0 (B9.take 8) [] 0 0 21 _ ?s1 ?s2 ?s3 ?s4 ?s5 ?s6 ?s7).mono ?_); (case s1 => rfl); (case s2 => rfl); (case s3 => exact fa3); (case s4 => exact Kd.C_take (m := 8) (Kd.C_alloc S4.out.2.1 _) (by decide)); (case s5 => omega); (case s6 => exact bB8); (case s7 => decide); rintro e w5 ⟨A5, c5, rfl, hc5, hr5, hb5⟩; have hq5 := below_step (below_alloc (Below.refl _ _) _) hb5; have S5 := Aside0.mk (And.intro (below_step S4.out.1 hq5) (And.intro (Kd.C_below S4.out.2.1 hq5) (And.intro (Kd.C_below S4.out.2.2 hq5) ((hb5.block w4.heap.size (by simp)).trans (blk_new w4 (.cells #[.int .i64 7, .slice A4 2 c4] 28)))))); clear S4 _t hr5 hb5 hq5)
    | (go_at_call 21; have _t := S5; (with_reducible refine (Copy_eq _ _ 9 B9 _ ?s1 ?s2 ?s3).mono ?_); (case s1 => rfl); (case s2 => exact Kd.C_alloc (Kd.C_alloc S5.out.2.1 _) _); (case s3 => decide); rintro e w6 ⟨A6, c6, rfl, ho6, hb6⟩; have S6 := Aside0.mk (And.intro S5.out (And.intro hb6 ho6)); clear S5 _t ho6 hb6)
    | ((with_reducible refine gate_builtin (b := .append) (xs := #[.tmp 51, .tmp 52]) rfl ?_); at_builtin; have hb5 : Below w5.heap.size w5 ((w5.alloc (.cells #[.int .i64 0, .slice A5 0 c5] 28)).alloc (.cells #[.int .i64 0] 3)) := below_alloc (below_alloc (Below.refl _ _) _) _; refine Kd.R_append_rows (Kd.int .u8) (w0 := ((w5.alloc (.cells #[.int .i64 0, .slice A5 0 c5] 28)).alloc (.cells #[.int .i64 0] 3))) (((w5.alloc (.cells #[.int .i64 0, .slice A5 0 c5] 28)).alloc (.cells #[.int .i64 0] 3))).heap.size rfl (.tmp 51) (.tmp 52) 22 5 (.int .u8 0) 1 rfl Try.underlying22 info_u8 rfl (by decide) (by omega) (.slice A6 9 c6) B9 B9 A1 9 c1 (fun _ => True) (fun _ => False) rfl rfl S6.out.2.2 (Kd.C_below (Kd.C_below S6.out.1.2.1 hb5) S6.out.2.1) (fun _ _ h => h) (fun _ h => h.elim) (fun _ _ => trivial) S6.out.2.1 S6.out.2.1.size (by decide) ?_; intro v7 w7 ho7 hb7 hg7 hat7; obtain ⟨A7, c7, e7, hc7, hr7⟩ := R_C ho7; replace e7 : v7 = .slice A7 18 c7 := e7; replace hc7 : 18 ≤ c7 := hc7; subst e7; have hbx := below_step hb5 hb7; have S7 := Aside0.mk (And.intro (below_step S6.out.1.1 hbx) (And.intro (Kd.C_below S6.out.1.2.2.1 hbx) (And.intro ((hbx.block w4.heap.size (blk_lt S6.out.1.2.2.2)).trans S6.out.1.2.2.2) (And.intro ((hb7.block (w5.heap.size + 1) (by simp)).trans (blk_new2 w5 _ _)) (And.intro (show Kd.C (Kd.int .u8) w7 A7 18 B18 from hr7) (And.intro (show w5.heap.size + 2 ≤ w7.heap.size from Nat.le_trans (size_two w5 _ _) hb7.size) (And.intro (Kd.C_below S6.out.1.2.1 hbx) (show w.heap.size ≤ w5.heap.size from S6.out.1.1.size)))))))); clear S6 ho7 hb7 hg7 hat7 hr7 hbx hb5)
    | (go_at_call 18; refine (Scan_calls _ _ _ _).mono ?_; rintro e w8 ⟨rfl, rfl⟩))
  have hw8 : Below w7.heap.size w7 (w7.alloc (.cells #[.slice A7 18 c7] 22)) := below_alloc (Below.refl _ _) _
  obtain ⟨s1, s2, s3, s4, s5, s6, s7, s8⟩ := S7.out
  have hsb : (w7.alloc (.cells #[.slice A7 18 c7] 22)).heap[w7.heap.size]? = some (.cells #[.slice A7 18 c7] 22 (0, 0)) := blk_new _ _
  have hsz8 : (w7.alloc (.cells #[.slice A7 18 c7] 22)).heap.size = w7.heap.size + 1 := World.size_alloc _ _
  generalize w7.alloc (.cells #[.slice A7 18 c7] 22) = w8 at hw8 hsb hsz8
  replace s1 := below_step s1 hw8
  replace s2 := Kd.C_below s2 hw8
  replace s3 := blk_belowX s3 hw8
  replace s4 := blk_belowX s4 hw8
  replace s5 := Kd.C_below s5 hw8
  replace s7 := Kd.C_below s7 hw8
  have hne1 : w7.heap.size ≠ w5.heap.size + 1 := by omega
  have hne2 : w4.heap.size ≠ w5.heap.size + 1 := fun e => by rw [e] at s3; rw [s3] at s4; injection s4 with s4; injection s4 with _ s4 _; exact absurd s4 (by decide)
  have hcs : ∀ v ∈ (#[Value.int .i64 0] : Array Value).toList, ∀ i, v ≠ .int .u8 i := by intro v hv i; simp at hv; subst hv; intro h; cases h
  have hcx : w8.heap[w5.heap.size + 1]? = some (.cells #[.int .i64 (sumF [])] 3 (0, 0)) := s4
  clear hw8 S7
  refine (wpIn_wide (n := 5)).1 (rangeX rfl (by omega) (gf := 27) (lb := #[.pointer (some ⟨w7.heap.size, 0, none⟩)]) rfl trivial (enters_of Try.func27 (by kernel_rfl) rfl)
    (Y := FrY B18) (n₀ := w8.heap.size) (Kb := fun k => k ≠ w5.heap.size + 1) (S := fun xs => xs = scanF B18) (Sp := fun _ => True)
    (Scan1_seq 4 B18 bB18 (by decide) A7 c7 hc7 w7.heap.size w8.heap.size (fun k => k ≠ w5.heap.size + 1) w8
      (fun W hk => by rw [blk_cell ((hk.2 w7.heap.size (by omega) hne1).trans hsb) 0]; rfl)
      (fun W hk => (C_but (g := w5.heap.size + 1) (W := w8) hk.2 s4 hcs s5)) (Nat.le_refl _)) (Nat.le_refl _)
    (fun _ _ _ _ hy => by obtain ⟨_, A3, c3, rfl, _⟩ := hy; rfl)
    (fun pre W => W.heap[w5.heap.size + 1]? = some (.cells #[.int .i64 (sumF pre)] 3 (0, 0)) ∧ Oth (w5.heap.size + 1) w8 W) (fun _ _ _ => False)
    (fun s P Q h hlie => ⟨hlie.blk h.1, h.2.lies hlie (Nat.le_refl _)⟩) (fun _ _ _ _ h _ => h) ⟨hcx, Oth.refl _ _⟩ ?round ?done (fun _ _ _ _ _ _ h _ => h.elim))
  case round =>
    rintro l pre ⟨xa, xk, xb⟩ vs W hl2 ⟨hI1, hI2⟩ ⟨hpre, A8, c8, rfl, hc8, hr8⟩ hWs
    have hpx : pre = [] ∧ (xa, xk, xb) = ((0 : Int), (7 : Int), ([97, 98] : List Int)) ∨ pre = [(0, 7, [97, 98])] ∧ (xa, xk, xb) = ((9 : Int), (7 : Int), ([97, 98] : List Int)) := by
      rw [fa4] at hpre
      exact pre_two hpre
    obtain ⟨v0, v1, hv, hv0, hv1⟩ : ∃ v0 v1 : Int, sumF pre = v0 ∧ xa + xk = v1 ∧ (sumF (pre ++ [(xa, xk, xb)]) = v0 + v1 ∧ 0 ≤ v0 ∧ v0 ≤ 100 ∧ 0 ≤ xa ∧ xa ≤ 100 ∧ xk = 7) := by
      rcases hpx with ⟨rfl, e⟩ | ⟨rfl, e⟩ <;> (injection e with e1 e2; injection e2 with e2 e3; subst e1; subst e2; subst e3)
      · exact ⟨0, 7, by decide, by decide, by decide, by decide, by decide, by decide, by decide, rfl⟩
      · exact ⟨7, 16, by decide, by decide, by decide, by decide, by decide, by decide, by decide, rfl⟩
    obtain ⟨hs, m0, m1, m2, m3, m4⟩ := hv1
    rw [hv] at hI1
    subst hv0
    have HSF := Lib.hid hs
    clear hs hv hpx hpre
    subst m4
    gi_wp2
    refine ⟨KeepsFrom.of_below (below_alloc (Below.refl _ _) _), Kp.of_below (below_alloc (Below.refl _ _) _) (by omega), ?_⟩
    intro Wb hlie
    have g1 := hlie.blk (blk_new W (.cells #[.int .i64 7, .slice A8 xb.length c8] 28))
    have g2 := hlie.blk (blk_alloc hI1 (.cells #[.int .i64 7, .slice A8 xb.length c8] 28))
    have gO := (hI2.trans (Oth.of_below (below_alloc (Below.refl _ _) (.cells #[.int .i64 7, .slice A8 xb.length c8] 28)))).lies hlie (by omega)
    have d0 := blk_cell g1 0
    have d2 := blk_cell g2 0
    have f2 := blk_frozen g2 0
    simp at d0 d2
    have G2 := Aside0.mk g2
    have GO := Aside0.mk gO
    clear g1 g2 hI1 hI2 hlie gO s1 s2 s3 s4 s5 s6 s7 hcx hcs hsb kc
    gi_wp2
    refine And.intro ?_ (And.intro ?_ (And.intro ?_ ?_))
    · exact KeepsFrom.set _ _ _ _
    · exact Kp.set (fun h => absurd rfl h) _
    · rw [HSF.out]; exact blk_set G2.out 0 _
    · exact GO.out.trans (Oth.set Wb ⟨w5.heap.size + 1, 0, none⟩ _)
  case done =>
    rintro D xs W hD hS ⟨hI1, hI2⟩ hK
    rw [hS, fa4, show sumF [(0, 7, [97, 98]), (9, 7, [97, 98])] = 23 from by decide] at hI1
    have hb := hI2.C s4 hcs s7
    have hbd := hI2.C s4 hcs s2
    have hf := hI2.blk s3 hne2
    have hB := hI2.below s1 (by omega)
    have hDl := lt_of_some hK
    have hDw : w.heap.size ≤ D := by omega
    have R1 := Aside0.mk (And.intro hB (And.intro hb (And.intro hbd (And.intro hf (And.intro hI1 hK)))))
    clear hS s1 s2 s3 s4 s5 s6 s7 hcx hcs hsb hI1 hI2 hK hb hbd hf hB hD hsz8
    go_wp2_with (first
      | (go_at_call 21; have _t := R1; (with_reducible refine (Copy_eq _ _ 9 B9 _ ?s1 ?s2 ?s3).mono ?_); (case s1 => rfl); (case s2 => exact R1.out.2.1); (case s3 => decide); rintro e w2' ⟨A2', c2', rfl, ho2, hb2⟩; have R2 := Aside0.mk (And.intro R1.out (And.intro hb2 ho2)); clear R1 _t ho2 hb2)
      | ((with_reducible refine gate_builtin (b := .append) (xs := #[.tmp 65, .tmp 66]) rfl ?_); at_builtin; refine Kd.R_append_rows (Kd.int .u8) (w0 := W) W.heap.size rfl (.tmp 65) (.tmp 66) 22 5 (.int .u8 0) 1 rfl Try.underlying22 info_u8 rfl (by decide) (by omega) (.slice A2' 9 c2') B9 [1] (some ⟨w2'.heap.size, 0, none⟩) 1 1 (fun _ => True) (fun _ => False) rfl rfl (Kd.R_below R2.out.2.2 (below_alloc (Below.refl _ _) _)) (C_lit w2' [1] _ _ (by simp)) (fun _ _ h => h) (fun _ h => h.elim) (fun _ _ => trivial) (below_alloc R2.out.2.1 _) (below_alloc R2.out.2.1 _).size (by decide) ?_; intro v3' w3' ho3 hb3 hg3 hat3; obtain ⟨A3', c3', e3, hc3', hr3⟩ := R_C ho3; replace e3 : v3' = .slice A3' 10 c3' := e3; replace hc3' : 10 ≤ c3' := hc3'; subst e3; have R3 := Aside0.mk (And.intro R2.out.1 (And.intro hb3 (show Kd.C (Kd.int .u8) w3' A3' 10 B10 from hr3))); clear R2 ho3 hb3 hg3 hat3 hr3)
      | (go_at_call 17; have _t := R3; (with_reducible refine (End_eq _ _ 10 B10 9 21 _ ?s1 ?s2 ?s3 ?s4 ?s5 ?s6 ?s7).mono ?_); (case s1 => rfl); (case s2 => exact fa5); (case s3 => exact fa6); (case s4 => exact R3.out.2.2); (case s5 => exact hc3'); (case s6 => exact bB10); (case s7 => decide); rintro e w4' ⟨rfl, hb4⟩; have hbx := below_step R3.out.2.1 hb4; have hf := blk_belowX R3.out.1.2.2.2.1 hbx; have hc := blk_belowX R3.out.1.2.2.2.2.1 hbx; have hstr2 : (convert 22 9 (.slice A4 2 c4)).run Try.prog w4' = .ok (.string ⟨#[97, 98]⟩) w4' := Kd.C_string (P := Try.prog) (xs := [97, 98]) Try.underlying22 Try.underlying5 Try.underlying9 (Kd.C_below R3.out.1.2.2.1 hbx); have d0 := blk_cell hf 0; have d1 := blk_cell hf 1; have d2 := blk_cell hc 0; simp at d0 d1 d2; have R4 := Aside0.mk (And.intro (below_step R3.out.1.1 hbx) (blk_belowX R3.out.1.2.2.2.2.2 hbx)); clear R3 _t hb4 hbx hf hc)
      | (go_at_call 12; refine (Weight_eq 2 9 _ (by decide) fa7).mono ?_; rintro e w9 ⟨rfl, rfl⟩))
    refine ⟨by simp, .inl ⟨_, _, rfl, run_takeDeferred R4.out.2, ?_⟩⟩
    exact ⟨_, results_tmp rfl _ _ _, rfl, belowK_t R4.out.1 (belowK_b (w := w) (Nat.le_refl _) _ D _ _ hDw R4.out.2 rfl rfl)⟩
end Go.Proofs.Ytagjnjdaookdgaa.H
