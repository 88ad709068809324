/- The document's frames: ref06.Weight, Write. -/
import Derived.Test.YtagjnjdaookdgaaFrAl
namespace Go.Proofs.Ytagjnjdaookdgaa.H
open Go.RowKit Go.Proofs.YtagjnjdaookdgaaW.PrintWords Go.Proofs.YtagjnjdaookdgaaW.PrintLast Go.Proofs.YtagjnjdaookdgaaW.PrintMore Go.Proofs.Ytagjnjdaookdgaa.CrcM
set_option linter.unusedVariables false
set_option linter.unusedSimpArgs false
attribute [local go_sem] max2_int min2_int

theorem RWeight_eq (n r : Int) (w : World) (h : n ≤ 4611686018427387904) (hr : weightF n = r) : Calls Try.prog 13 #[.int .i64 n] w fun e w' => e = .returned (.int .i64 r) ∧ w = w' := by
  subst hr
  by_cases hn : n < 0
  · have hw : weightF n = 7 := by unfold weightF; rw [if_pos hn]
    rw [hw]
    clear hw
    go_enter Try.func13, Try.ntmps13
    go_wp2
    go_ret
    exact ⟨rfl, rfl⟩
  · have hw : weightF n = n + 7 := by unfold weightF; rw [if_neg hn]
    have h0 : 0 ≤ n := by omega
    rw [hw]
    clear hw
    go_enter Try.func13, Try.ntmps13
    go_wp2
    go_ret
    exact ⟨rfl, rfl⟩

set_option maxHeartbeats 1600000 in
theorem RWrite_calls (kind : Int) (A0 : Option Addr) (c0 : Nat) (l0 : List Int) (w : World) (hr0 : Kd.C (Kd.int .u8) w A0 l0.length l0) (hc0 : l0.length ≤ c0) (hB : Bts l0) :
    Calls Try.prog 10 #[.int .i64 kind, .slice A0 l0.length c0] w fun e w' => ∃ v0_ : Value, e = .returned (.tuple #[v0_, .int .i64 (writeF kind l0).2]) ∧ Kd.R (Kd.int .u8) 5 w' w.heap.size (fun _ => True) v0_ (writeF kind l0).1 ∧ Below w.heap.size w w' := by
  have HR0 := Aside0.mk hr0
  clear hr0
  by_cases hk : kind < 1 ∨ kind > 255
  · have hw : writeF kind l0 = ([], 1) := by unfold writeF; rw [if_pos hk]
    rw [hw]
    clear hw
    by_cases h1 : kind < 1
    · have b0 : decide (kind < 1) = true := decide_eq_true h1
      clear hk h1
      go_enter Try.func10, Try.ntmps10
      go_wp2
      go_ret2
      exact ⟨_, rfl, Kd.R_nil _ _ _ _ _, Below.refl _ _⟩
    · have b0 : decide (kind < 1) = false := decide_eq_false h1
      have b1 : decide (255 < kind) = true := decide_eq_true (by omega)
      clear hk
      go_enter Try.func10, Try.ntmps10
      go_wp2
      go_ret2
      exact ⟨_, rfl, Kd.R_nil _ _ _ _ _, Below.refl _ _⟩
  · have b0 : decide (kind < 1) = false := decide_eq_false (by omega)
    have b1 : decide (255 < kind) = false := decide_eq_false (by omega)
    by_cases hl : l0.length > 4096
    · have hw : writeF kind l0 = ([], 2) := by unfold writeF; rw [if_neg hk, if_pos hl]
      rw [hw]
      have b2 : decide (4096 < l0.length) = true := decide_eq_true hl
      have b3 : decide (4096 < (l0.length : Int)) = true := decide_eq_true (by omega)
      clear hw hk
      go_enter Try.func10, Try.ntmps10
      go_wp2
      go_ret2
      exact ⟨_, rfl, Kd.R_nil _ _ _ _ _, Below.refl _ _⟩
    · have hw : writeF kind l0 = (bytesF kind l0 ++ le4 (ext 0#32 (bytesF kind l0)), 0) := by unfold writeF; rw [if_neg hk, if_neg hl]
      rw [hw]
      have b2 : decide (4096 < l0.length) = false := decide_eq_false hl
      have b3 : decide (4096 < (l0.length : Int)) = false := decide_eq_false (by omega)
      have hlb : (bytesF kind l0).length = l0.length + 3 := by simp [bytesF]
      have hl2 : l0.length ≤ 4096 := by omega
      have hl3 : (l0.length : Int) ≤ 4096 := by omega
      have hk0 : 0 ≤ kind := by omega
      have hk1 : kind ≤ 255 := by omega
      have hbb : Bts (bytesF kind l0) := by
        unfold bytesF
        refine bts_append ?_ hB
        intro x hx
        simp at hx
        rcases hx with rfl | rfl | rfl <;> omega
      have hj : [[(l0.length : Int) % 256, (l0.length : Int) / 256, kind], l0].flatten = bytesF kind l0 := by unfold bytesF; rw [show kind % 256 = kind by omega, show (l0.length : Int) / 256 % 256 = (l0.length : Int) / 256 by omega]; simp
      have hse := fun (A : Option Addr) (c : Nat) (w : World) (h : Kd.C (Kd.int .u8) w A (bytesF kind l0).length (bytesF kind l0)) => RSeal_calls A c (bytesF kind l0) w h hbb (by omega)
      have hjo := fun (A : Option Addr) (c : Nat) (w : World) (h : Kd.C (Kd.slice 5 (Kd.int .u8)) w A 2 [[(l0.length : Int) % 256, (l0.length : Int) / 256, kind], l0]) => Join_calls A c [[(l0.length : Int) % 256, (l0.length : Int) / 256, kind], l0] w h (by rw [hj]; omega)
      rw [hj] at hjo
      generalize hfb : bytesF kind l0 = fb at hlb hse hjo hj
      generalize hsd : fb ++ le4 (ext 0#32 fb) = sd at hse
      have HS := Aside0.mk hse
      have HJ := Aside0.mk hjo
      clear hw hk hse hjo hbb hsd hfb hlb hj hB
      go_enter Try.func10, Try.ntmps10
      go_wp2_with (first
        | (go_at_call 19; refine (HJ.out _ _ _ (C_twog (w.heap.size + 1) 22 _ (World.size_alloc _ _) (Nat.le_refl 3) (C_lit w [(l0.length : Int) % 256, (l0.length : Int) / 256, kind] _ _ (by simp)) hc0 (Kd.C_alloc HR0.out _))).mono ?_; rintro e w1 ⟨v1, rfl, ho1, hb1⟩; obtain ⟨A1, c1, e1, hc1, hr1⟩ := R_C ho1; subst e1; have HR1 := Aside0.mk hr1; have HB1 := Aside0.mk (below_step (below_alloc (below_alloc (Below.refl _ _) _) _) hb1); clear ho1 hr1 hb1)
        | (go_at_call 23; refine (HS.out _ _ _ HR1.out).mono ?_; rintro e w2 ⟨v2, rfl, ho2, hb2⟩; have HO2 := Aside0.mk (Kd.R_lower ho2 HB1.out.size); have HB2 := Aside0.mk (below_step HB1.out hb2); clear ho2 hb2))
      go_ret2
      exact ⟨_, rfl, HO2.out, HB2.out⟩
theorem RWrite_eq (kind : Int) (A : Option Addr) (c n m : Nat) (l r : List Int) (e : Int) (w : World) (hn : l.length = n) (hm : r.length = m) (hw : writeF kind l = (r, e)) (hC : Kd.C (Kd.int .u8) w A n l) (hc : n ≤ c) (hB : Bts l) :
    Calls Try.prog 10 #[.int .i64 kind, .slice A n c] w fun e' w' => ∃ A1 c1, e' = .returned (.tuple #[.slice A1 m c1, .int .i64 e]) ∧ m ≤ c1 ∧ Kd.C (Kd.int .u8) w' A1 m r ∧ Below w.heap.size w w' := by
  subst hn; subst hm
  refine (RWrite_calls kind A c l w hC hc hB).mono ?_
  rintro e' w' ⟨v, rfl, ho, hb⟩
  rw [hw] at ho ⊢
  obtain ⟨A1, c1, rfl, hc1, hr1⟩ := R_C ho
  exact ⟨A1, c1, rfl, hc1, hr1, hb⟩
theorem Same_eq (A0 A1 : Option Addr) (c0 c1 n0 n1 : Nat) (l0 l1 : List Int) (w : World) (h0 : l0.length = n0) (h1 : l1.length = n1) (r : Bool) (hr : decide (l0 = l1) = r) (hr0 : Kd.C (Kd.int .u8) w A0 n0 l0) (hr1 : Kd.C (Kd.int .u8) w A1 n1 l1) :
    Calls Try.prog 11 #[.slice A0 n0 c0, .slice A1 n1 c1] w fun e w' => e = .returned (.bool r) ∧ Below w.heap.size w w' := by
  subst h0; subst h1; subst hr
  refine (Same_calls A0 c0 l0 A1 c1 l1 w hr0 hr1).mono ?_
  rintro e w' ⟨rfl, h⟩
  exact ⟨rfl, h.below⟩
theorem Same_dr (A0 A1 : Option Addr) (c0 c1 n0 n1 : Nat) (l0 l1 : List Int) (w : World) (h0 : l0.length = n0) (h1 : l1.length = n1) (r : Bool) (hr : decide (l0 = l1) = r) (hr0 : Kd.C (Kd.int .u8) w A0 n0 l0) (hr1 : Kd.C (Kd.int .u8) w A1 n1 l1) :
    Calls Try.prog 11 #[.slice A0 n0 c0, .slice A1 n1 c1] w fun e w' => e = .returned (.bool r) ∧ ∃ m, w' = w.drewN m := by
  subst h0; subst h1; subst hr
  refine (Same_calls A0 c0 l0 A1 c1 l1 w hr0 hr1).mono ?_
  rintro e w' ⟨rfl, h⟩
  exact ⟨rfl, h.out⟩
end Go.Proofs.Ytagjnjdaookdgaa.H
