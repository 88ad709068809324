/- Some texts of one seat in one file, in build order. -/
import Derived.Test.YtmmingnkepifoaaG3
import Derived.Test.YtmmingnkepifoaaG2
import Derived.OwnWalkIn
import Derived.Maps.AppendAt
-- PRINTED BY A CHANGED COPY OF THE PRINT (wip/tools/patch_print.py), over contracts by hand
namespace Go.Proofs.Ytmmingnkepifoaa.PHas
open Go.RowKit Go.Proofs.YtmmingnkepifoaaW.PrintWords Go.Proofs.YtmmingnkepifoaaW.PrintLast Go.Proofs.YtmmingnkepifoaaW.PrintMore
attribute [local go_sem] max2_int min2_int max_two min_two max_three min_three max_four min_four   -- for this text's walks alone
set_option linter.unusedVariables false
set_option linter.unusedSimpArgs false

/-! ### set_item: function 40 -/
def set_item.f (a0 : Int) : Option (Bool) := if a0 ≥ 0 then (some (decide (a0 < 64))) else (some false)
set_option maxHeartbeats 8000000 in
set_option maxRecDepth 100000 in
theorem set_item.calls (a0 : Int) (r : Bool) (w : World) (h : set_item.f a0 = some r) :
    Calls Try.prog 40 #[.int .i64 a0] w fun e w' => e = .returned (.bool r) ∧ Drawn0 w w' := by
  have H : (if a0 ≥ 0 then (some (decide (a0 < 64))) else (some false)) = some r := h
  clear h
  by_cases c2 : a0 ≥ 0
  · rw [if_pos c2] at H
    have c2b0 : decide (0 ≤ a0) = true := decide_eq_true c2
    clear c2
    obtain rfl := Option.some.inj H
    go_enter Try.func40, Try.ntmps40
    go_wp2
    go_ret
    exact ⟨by first | rfl | (simp; done) | (simp [*]; done), by repeat (first | exact Drawn0.refl _ | apply Drawn0.step)⟩
  · rw [if_neg c2] at H
    have c2b0 : decide (0 ≤ a0) = false := decide_eq_false c2
    clear c2
    obtain rfl := Option.some.inj H
    go_enter Try.func40, Try.ntmps40
    go_wp2
    go_ret
    exact ⟨by first | rfl | (simp; done) | (simp [*]; done), by repeat (first | exact Drawn0.refl _ | apply Drawn0.step)⟩

/-! ### set_Has: function 34 -/
def set_Has.f (a0 : Int) (a1 : Int) : Option (Bool) := (set_item.f a1).bind fun t101 => (if t101 = true then (if 0 ≤ a1 then (some ((Go.bits .and .u64 (shr .u64 a0 a1) 1) == 1)) else (none)) else (some false))
set_option maxHeartbeats 8000000 in
set_option maxRecDepth 100000 in
theorem set_Has.calls (a0 : Int) (a1 : Int) (r : Bool) (w : World) (h : set_Has.f a0 a1 = some r) :
    Calls Try.prog 34 #[.int .u64 a0, .int .i64 a1] w fun e w' => e = .returned (.bool r) ∧ Drawn0 w w' := by
  have H : ((set_item.f a1).bind fun t101 => (if t101 = true then (if 0 ≤ a1 then (some ((Go.bits .and .u64 (shr .u64 a0 a1) 1) == 1)) else (none)) else (some false))) = some r := h
  clear h
  replace H := Option.bind_eq_some_iff.mp H
  obtain ⟨t101, A30, H⟩ := H
  replace H : (if t101 = true then (if 0 ≤ a1 then (some ((Go.bits .and .u64 (shr .u64 a0 a1) 1) == 1)) else (none)) else (some false)) = some r := H
  have A3 := Aside0.mk A30
  clear A30
  by_cases c4 : t101 = true
  · subst c4
    have H1 : (if 0 ≤ a1 then (some ((Go.bits .and .u64 (shr .u64 a0 a1) 1) == 1)) else (none)) = some r := by rw [if_pos rfl] at H; exact H
    clear H
    have H := H1
    clear H1
    by_cases c5 : 0 ≤ a1
    · rw [if_pos c5] at H
      have c5b0 := eq_true c5
      have c5b1 : decide (0 ≤ a1) = true := decide_eq_true c5
      clear c5
      obtain ⟨ji6, hji6⟩ : ∃ j_ : Int, (shr .u64 a0 a1) = j_ := ⟨_, rfl⟩
      replace H : (some ((Go.bits .and .u64 (ji6) 1) == 1)) = some r := by first | (rw [hji6] at H; exact H) | (simp only [hji6] at H ⊢; exact H)
      (try rw [hji6] at A3)
      have hji6_ : (a0 / 2 ^ min a1.toNat 64) = ji6 := hji6
      have hji6z : a1 ≤ 64 → (a0 / 2 ^ a1.toNat) = ji6 := shr_small hji6
      obtain rfl := Option.some.inj H
      go_enter Try.func34, Try.ntmps34
      go_wp2_with (first | ((with_reducible refine gate_callee (f := 40) rfl ?_); refine goesL_ (some 6) rfl rfl Try.func40 (by kernel_rfl) rfl #[.int .i64 a1] rfl (by (try simp only [List.map_toArray, List.map_cons, List.map_nil]); first | done | rfl | (simp only [List.length_drop, List.length_take]; rfl)) ?_; (with_reducible refine (set_item.calls a1 true _ A3.out).mono ?_); rintro e w' ⟨rfl, ⟨nd, rfl⟩⟩; refine ⟨_, rfl, ?_⟩))
      go_ret
      exact ⟨by first | rfl | (simp; done) | (simp only [← hji6] <;> (first | rfl | simp)) | (simp [*]; done), by repeat (first | exact Drawn0.refl _ | apply Drawn0.step)⟩
    · rw [if_neg c5] at H
      exact absurd H (by simp)
  · replace c4 := Bool.eq_false_iff.mpr c4
    subst c4
    have H1 : (some false) = some r := by rw [if_neg (show ¬ (false = true) by decide)] at H; exact H
    clear H
    have H := H1
    clear H1
    obtain rfl := Option.some.inj H
    go_enter Try.func34, Try.ntmps34
    go_wp2_with (first | ((with_reducible refine gate_callee (f := 40) rfl ?_); refine goesL_ (some 6) rfl rfl Try.func40 (by kernel_rfl) rfl #[.int .i64 a1] rfl (by (try simp only [List.map_toArray, List.map_cons, List.map_nil]); first | done | rfl | (simp only [List.length_drop, List.length_take]; rfl)) ?_; (with_reducible refine (set_item.calls a1 false _ A3.out).mono ?_); rintro e w' ⟨rfl, ⟨nd, rfl⟩⟩; refine ⟨_, rfl, ?_⟩))
    go_ret
    exact ⟨by first | rfl | (simp; done) | (simp [*]; done), by repeat (first | exact Drawn0.refl _ | apply Drawn0.step)⟩

/-- THE ONE PURE STATEMENT of set_Has: yours. -/
def set_Has.Pure : Prop := ∀ (a0 : Int) (a1 : Int), (Lit.int .u64 a0).wf = true → (Lit.int .i64 a1).wf = true → set_Has.f a0 a1 = some true
theorem set_Has.walk (P : set_Has.Pure) (a0 : Int) (a1 : Int) (w : World) (w0 : (Lit.int .u64 a0).wf = true) (w1 : (Lit.int .i64 a1).wf = true) :
    Calls Try.prog 34 #[.int .u64 a0, .int .i64 a1] w fun e w' => e = .returned (.bool true) ∧ Below w.heap.size w w' := by
  have h := P a0 a1 w0 w1
  refine (set_Has.calls a0 a1 true w h).mono ?_
  rintro e w' ⟨rfl, hd⟩
  exact ⟨rfl, hd.below⟩

/-! ### set_Of: function 31 -/
def set_Of.l0 : Nat → Int → List Int → Int → Int → Option (Int)
  | 0, _, _, _, _ => none
  | k + 1, x3, x6, x7, x8 => if x8 < x7 then (if 0 ≤ x8 then (if x8 < (x6.length : Int) then ((set_item.f (rd x6 x8)).bind fun t103 => (if t103 = true then (if 0 ≤ (rd x6 x8) then (set_Of.l0 k (Go.bits .or .u64 x3 (shl .u64 1 (rd x6 x8))) x6 x7 (wrap64 (x8 + 1))) else (none)) else (set_Of.l0 k x3 x6 x7 (wrap64 (x8 + 1))))) else (none)) else (none)) else (some x3)
def set_Of.f (k : Nat) (l0 : List Int) : Option (Int) := set_Of.l0 k 0 l0 (l0.length : Int) 0
theorem set_Of.mono_l : ∀ k, (∀ y0 y1 y2 y3, LeO (set_Of.l0 k y0 y1 y2 y3) (set_Of.l0 (k + 1) y0 y1 y2 y3))
  | 0 => fun _ _ _ _ r h => by simp [set_Of.l0] at h
  | k + 1 => by
    have ih0 := set_Of.mono_l k
    · intro y0 y1 y2 y3
      unfold set_Of.l0
      repeat' first
      | (with_reducible exact ih0 _ _ _ _)
      | (with_reducible exact LeO.refl _)
      | (with_reducible exact LeO.none _)
      | (with_reducible refine LeO.ite ?_ ?_)
      | (with_reducible refine LeO.bind ?_ (fun _ => ?_))
      | exact ih0 _ _ _ _
      | exact LeO.none _
      | refine LeO.ite ?_ ?_
      | refine LeO.bind ?_ (fun _ => ?_)
theorem set_Of.mono : ∀ a0 k, LeO (set_Of.f k a0) (set_Of.f (k + 1) a0) := by
  intro a0 k
  have ih0 := set_Of.mono_l k
  unfold set_Of.f
  repeat' first
      | (with_reducible exact ih0 _ _ _ _)
      | (with_reducible exact LeO.refl _)
      | (with_reducible exact LeO.none _)
      | (with_reducible refine LeO.ite ?_ ?_)
      | (with_reducible refine LeO.bind ?_ (fun _ => ?_))
      | exact ih0 _ _ _ _
      | exact LeO.none _
      | refine LeO.ite ?_ ?_
      | refine LeO.bind ?_ (fun _ => ?_)
set_option maxHeartbeats 8000000 in
set_option maxRecDepth 100000 in
theorem set_Of.calls (k : Nat) (A0 : Option Addr) (c0 : Nat) (l0 : List Int) (r : Int) (w : World) (hr0 : Kd.C (Kd.int .i64) w A0 l0.length l0) (hc0 : l0.length ≤ c0) (h : set_Of.f k l0 = some r) :
    Calls Try.prog 31 #[.slice A0 l0.length c0] w fun e w' => e = .returned (.int .u64 r) ∧ Drawn0 w w' := by
  have HR0 := Aside0.mk hr0
  have HC0 := Aside0.mk hc0
  clear hr0 hc0
  have H : (set_Of.l0 k 0 l0 (l0.length : Int) 0) = some r := h
  clear h
  have H' := Aside0.mk H
  clear H
  go_enter Try.func31, Try.ntmps31
  go_wp2
  go_loopg [3, 8] k (fun kq v3 v8 w' => ∃ (x3_1 : Int) (x8_1 : Int), v3 = .int .u64 x3_1 ∧ v8 = .int .i64 x8_1 ∧ Aside0 (set_Of.l0 kq x3_1 l0 (l0.length : Int) x8_1 = some r) ∧ Aside0 (kq ≤ k) ∧ Drawn0 w w')
  case atStart => exact ⟨(0), (0), (by first | rfl | (simp; done) | (simp [*]; done)), (by first | rfl | (simp; done) | (simp [*]; done)), H', ⟨Nat.le_refl _⟩, by repeat (first | exact Drawn0.refl _ | apply Drawn0.step)⟩
  case round =>
    clear H'
    obtain ⟨x3_1, x8_1, rfl, rfl, HA, HK1, ⟨m1, rfl⟩⟩ := hrel
    cases gk with
    | zero => exact absurd HA.out (by simp [set_Of.l0])
    | succ k1 =>
      have H := HA.out
      clear HA
      simp only [set_Of.l0] at H
      by_cases c2 : x8_1 < (l0.length : Int)
      · rw [if_pos c2] at H
        have c2b0 : decide (x8_1 < (l0.length : Int)) = true := decide_eq_true c2
        clear c2
        by_cases c3 : 0 ≤ x8_1
        · rw [if_pos c3] at H
          have c3b0 : decide (0 ≤ x8_1) = true := decide_eq_true c3
          clear c3
          by_cases c4 : x8_1 < (l0.length : Int)
          · rw [if_pos c4] at H
            have c4b0 : decide (x8_1 < (l0.length : Int)) = true := decide_eq_true c4
            clear c4
            replace H := Option.bind_eq_some_iff.mp H
            obtain ⟨t103, A50, H⟩ := H
            replace H : (if t103 = true then (if 0 ≤ (rd l0 x8_1) then (set_Of.l0 k1 (Go.bits .or .u64 x3_1 (shl .u64 1 (rd l0 x8_1))) l0 (l0.length : Int) (wrap64 (x8_1 + 1))) else (none)) else (set_Of.l0 k1 x3_1 l0 (l0.length : Int) (wrap64 (x8_1 + 1)))) = some r := H
            have A5 := Aside0.mk A50
            clear A50
            by_cases c6 : t103 = true
            · subst c6
              have H1 : (if 0 ≤ (rd l0 x8_1) then (set_Of.l0 k1 (Go.bits .or .u64 x3_1 (shl .u64 1 (rd l0 x8_1))) l0 (l0.length : Int) (wrap64 (x8_1 + 1))) else (none)) = some r := by rw [if_pos rfl] at H; exact H
              clear H
              have H := H1
              clear H1
              by_cases c7 : 0 ≤ (rd l0 x8_1)
              · rw [if_pos c7] at H
                have c7b0 := eq_true c7
                have c7b1 : decide (0 ≤ (rd l0 x8_1)) = true := decide_eq_true c7
                clear c7
                obtain ⟨ji8, hji8⟩ : ∃ j_ : Int, (shl .u64 1 (rd l0 x8_1)) = j_ := ⟨_, rfl⟩
                replace H : (set_Of.l0 k1 (Go.bits .or .u64 x3_1 (ji8)) l0 (l0.length : Int) (wrap64 (x8_1 + 1))) = some r := by first | (rw [hji8] at H; exact H) | (simp only [hji8] at H ⊢; exact H)
                (try rw [hji8] at A5)
                have hji8_ : (IntKind.u64.wrap (1 * 2 ^ min (rd l0 x8_1).toNat 64)) = ji8 := hji8
                have hji8z : (rd l0 x8_1) ≤ 64 → (IntKind.u64.wrap (1 * 2 ^ (rd l0 x8_1).toNat)) = ji8 := shl_small hji8
                have hji8u : (IntKind.u64.wrap (2 ^ min (rd l0 x8_1).toNat 64)) = ji8 := by have h_ := hji8_; rw [Int.one_mul] at h_; exact h_
                have hji8v : (rd l0 x8_1) ≤ 64 → (IntKind.u64.wrap (2 ^ (rd l0 x8_1).toNat)) = ji8 := fun hle_ => by have h_ := hji8z hle_; rw [Int.one_mul] at h_; exact h_
                have H' := Aside0.mk H
                clear H
                have p102 : 0 ≤ (x8_1 : Int) := of_decide_eq_true (by first | (with_reducible assumption) | assumption)
                have q102 : x8_1 < (l0.length : Int) := of_decide_eq_true (by first | (with_reducible assumption) | assumption)
                obtain ⟨ad102, e102, hx102_0⟩ := Kd.at_int HR0.out x8_1 p102 q102
                cases e102
                replace p102 := eq_true p102
                replace q102 := eq_true q102
                go_wp2_with (first | ((with_reducible refine gate_callee (f := 40) rfl ?_); refine goesL_ (some 13) rfl rfl Try.func40 (by kernel_rfl) rfl #[.int .i64 (rd l0 x8_1)] rfl (by (try simp only [List.map_toArray, List.map_cons, List.map_nil]); first | done | rfl | (simp only [List.length_drop, List.length_take]; rfl)) ?_; (with_reducible refine (set_item.calls (rd l0 x8_1) true _ A5.out).mono ?_); rintro e w' ⟨rfl, ⟨nd, rfl⟩⟩; refine ⟨_, rfl, ?_⟩))
                go_roundg k1
                case measure => have := HK1.out; omega
                case rel => exact ⟨(Go.bits .or .u64 x3_1 (ji8)), (wrap64 (x8_1 + 1)), (by first | rfl | (simp; done) | (simp only [← hji8] <;> (first | rfl | simp)) | (simp [*]; done)), (by first | rfl | (simp; done) | (simp [*]; done)), H', ⟨by have := HK1.out; omega⟩, by repeat (first | exact Drawn0.refl _ | apply Drawn0.step)⟩
              · rw [if_neg c7] at H
                exact absurd H (by simp)
            · replace c6 := Bool.eq_false_iff.mpr c6
              subst c6
              have H1 : (set_Of.l0 k1 x3_1 l0 (l0.length : Int) (wrap64 (x8_1 + 1))) = some r := by rw [if_neg (show ¬ (false = true) by decide)] at H; exact H
              clear H
              have H := H1
              clear H1
              have H' := Aside0.mk H
              clear H
              have p102 : 0 ≤ (x8_1 : Int) := of_decide_eq_true (by first | (with_reducible assumption) | assumption)
              have q102 : x8_1 < (l0.length : Int) := of_decide_eq_true (by first | (with_reducible assumption) | assumption)
              obtain ⟨ad102, e102, hx102_0⟩ := Kd.at_int HR0.out x8_1 p102 q102
              cases e102
              replace p102 := eq_true p102
              replace q102 := eq_true q102
              go_wp2_with (first | ((with_reducible refine gate_callee (f := 40) rfl ?_); refine goesL_ (some 13) rfl rfl Try.func40 (by kernel_rfl) rfl #[.int .i64 (rd l0 x8_1)] rfl (by (try simp only [List.map_toArray, List.map_cons, List.map_nil]); first | done | rfl | (simp only [List.length_drop, List.length_take]; rfl)) ?_; (with_reducible refine (set_item.calls (rd l0 x8_1) false _ A5.out).mono ?_); rintro e w' ⟨rfl, ⟨nd, rfl⟩⟩; refine ⟨_, rfl, ?_⟩))
              go_roundg k1
              case measure => have := HK1.out; omega
              case rel => exact ⟨(x3_1), (wrap64 (x8_1 + 1)), (by first | rfl | (simp; done) | (simp [*]; done)), (by first | rfl | (simp; done) | (simp [*]; done)), H', ⟨by have := HK1.out; omega⟩, by repeat (first | exact Drawn0.refl _ | apply Drawn0.step)⟩
          · rw [if_neg c4] at H
            exact absurd H (by simp)
        · rw [if_neg c3] at H
          exact absurd H (by simp)
      · rw [if_neg c2] at H
        have c2b0 : decide (x8_1 < (l0.length : Int)) = false := decide_eq_false c2
        clear c2
        obtain rfl := Option.some.inj H
        go_wp2
        go_ret
        exact ⟨by first | rfl | (simp; done) | (simp [*]; done), by repeat (first | exact Drawn0.refl _ | apply Drawn0.step)⟩

end Go.Proofs.Ytmmingnkepifoaa.PHas
-- PRINTED BY A CHANGED COPY OF THE PRINT (wip/tools/patch_print.py), over contracts by hand
namespace Go.Proofs.Ytmmingnkepifoaa.PHas
open Go.RowKit Go.Proofs.YtmmingnkepifoaaW.PrintWords Go.Proofs.YtmmingnkepifoaaW.PrintLast Go.Proofs.YtmmingnkepifoaaW.PrintMore
attribute [local go_sem] max2_int min2_int max_two min_two max_three min_three max_four min_four   -- for this text's walks alone
set_option linter.unusedVariables false
set_option linter.unusedSimpArgs false

end Go.Proofs.Ytmmingnkepifoaa.PHas
/- Worlds that differ in some blocks alone; an append to a row of one's own inside a fence. -/
namespace Go.Proofs.Ytmmingnkepifoaa.H
open Go.RowKit Go.Proofs.YtmmingnkepifoaaW.PrintWords Go.Proofs.YtmmingnkepifoaaW.PrintLast Go.Proofs.YtmmingnkepifoaaW.PrintMore
set_option linter.unusedVariables false
set_option linter.unusedSimpArgs false


theorem Lies.R {α : Type} {d : Kd α} {e : Nat} {B base : Nat} {ok : Nat → Prop} {W W' : World} {v : Value} {xs : List α} (h : Lies B W W') (hr : d.R e W base ok v xs) : d.R e W' base ok v xs :=
  Kd.R_mono (Kd.R_move (Kd.R_bound hr) (fun k hk => by obtain ⟨_, _, _, q, _, cells, hc⟩ := hk; rw [hc]; exact h.blk hc)) (fun _ hk => hk.1)
theorem Lies.Ty {t : TypeId} {B : Nat} {W W' : World} {A : Option Addr} (h : Lies B W W') (ht : Ty t W A) : Ty t W' A := fun ad e => by
  obtain ⟨cs, z, hc⟩ := ht ad e
  exact ⟨cs, z, h.blk hc⟩
/-- W' is W but for the blocks of P, and new ones. -/
structure But (P : Nat → Prop) (W W' : World) : Prop where
  os : W'.os = W.os
  tape : W'.tape = W.tape
  output : W'.output = W.output
  size : W.heap.size ≤ W'.heap.size
  block : ∀ k, k < W.heap.size → ¬ P k → W'.heap[k]? = W.heap[k]?
theorem But.refl (P : Nat → Prop) (W : World) : But P W W := ⟨rfl, rfl, rfl, Nat.le_refl _, fun _ _ _ => rfl⟩
theorem But.trans {P : Nat → Prop} {X Y Z : World} (h : But P X Y) (k : But P Y Z) : But P X Z := ⟨k.os.trans h.os, k.tape.trans h.tape, k.output.trans h.output, Nat.le_trans h.size k.size, fun i hi hp => (k.block i (Nat.lt_of_lt_of_le hi h.size) hp).trans (h.block i hi hp)⟩
/-- The second step may turn what the first one made, too. -/
theorem But.then {P Q : Nat → Prop} {X Y Z : World} (h : But P X Y) (k : But Q Y Z) (hq : ∀ i, i < X.heap.size → Q i → P i) : But P X Z := ⟨k.os.trans h.os, k.tape.trans h.tape, k.output.trans h.output, Nat.le_trans h.size k.size, fun i hi hp => (k.block i (Nat.lt_of_lt_of_le hi h.size) (fun h2 => hp (hq i hi h2))).trans (h.block i hi hp)⟩
theorem But.mono {P Q : Nat → Prop} {W W' : World} (h : But P W W') (hq : ∀ k, k < W.heap.size → P k → Q k) : But Q W W' := ⟨h.os, h.tape, h.output, h.size, fun k hk hp => h.block k hk (fun h2 => hp (hq k hk h2))⟩
theorem But.of_below {P : Nat → Prop} {W W' : World} (h : Below W.heap.size W W') : But P W W' := ⟨h.os, h.tape, h.output, h.size, fun k hk _ => h.block k hk⟩
theorem But.of_oth {P : Nat → Prop} {g : Nat} {W W' : World} (h : Oth g W W') (hg : P g) : But P W W' := ⟨h.os, h.tape, h.output, h.size, fun k hk hp => h.block k hk (fun e => hp (e ▸ hg))⟩
theorem But.of_grown {P : Nat → Prop} {W W' : World} {r : Option Nat} (h : W.grownBy W' r) (hr : ∀ k, r = some k → P k) : But P W W' := ⟨h.os, h.tape, h.output, h.size, fun k hk hp => h.block k hk (fun e => hp (hr k e.symm))⟩
theorem But.below {P : Nat → Prop} {B : Nat} {w W W' : World} (h : But P W W') (hb : Below B w W) (hB : B ≤ W.heap.size) (hP : ∀ k, P k → B ≤ k) : Below B w W' :=
  ⟨h.os.trans hb.os, h.tape.trans hb.tape, h.output.trans hb.output, Nat.le_trans hb.size h.size, fun k hk => (h.block k (by omega) (fun hp => by have := hP k hp; omega)).trans (hb.block k hk)⟩
theorem But.blk {P : Nat → Prop} {W W' : World} (h : But P W W') {k : Nat} {o : Obj} (hb : W.heap[k]? = some o) (hp : ¬ P k) : W'.heap[k]? = some o := (h.block k (lt_of_some hb) hp).trans hb
theorem But.cell {P : Nat → Prop} {W W' : World} (h : But P W W') {a : Addr} {v : Value} (hc : W.cell? a = some v) (hp : ¬ P a.block) : W'.cell? a = some v :=
  (World.cell?_of_block (h.block _ (World.block_lt_of_cell? W a hc) hp)).trans hc
theorem But.C {P : Nat → Prop} {W W' : World} {t : TypeId} {k : IntKind} {A : Option Addr} {n : Nat} {xs : List Int} (h : But P W W') (hT : Ty t W A) (hc : Kd.C (Kd.int k) W A n xs) (hp : ∀ i cs z, W.heap[i]? = some (Obj.cells cs t z) → ¬ P i) : Kd.C (Kd.int k) W' A n xs :=
  C_ty hT hc (fun i cs z hi => h.block i (lt_of_some hi) (hp i cs z hi))
theorem But.Ty {P : Nat → Prop} {W W' : World} {t : TypeId} {A : Option Addr} (h : But P W W') (hT : Ty t W A) (hp : ∀ i cs z, W.heap[i]? = some (Obj.cells cs t z) → ¬ P i) : Ty t W' A :=
  hT.of_ty (fun i cs z hi => h.block i (lt_of_some hi) (hp i cs z hi))
theorem But.R {α : Type} {d : Kd α} {e : Nat} {P : Nat → Prop} {base : Nat} {ok : Nat → Prop} {W W' : World} {v : Value} {xs : List α} (h : But P W W') (hr : d.R e W base ok v xs) (hp : ∀ k, ok k → base ≤ k → (∃ q, q ∈ e :: d.E ∧ ∃ cells, W.heap[k]? = some (.cells cells q (0, 0))) → ¬ P k) : d.R e W' base ok v xs :=
  Kd.R_mono (Kd.R_move (Kd.R_bound hr) (fun k hk => h.block k hk.2.2.1 (hp k hk.1 hk.2.1 hk.2.2.2))) (fun _ hk => hk.1)
theorem ne_block' {w : World} {g : Nat} {cs cs' : Array Value} {t t' : TypeId} {z z' : Nat × Nat} {k : Nat} (h : w.heap[g]? = some (.cells cs t z)) (h' : w.heap[k]? = some (.cells cs' t' z')) (hne : t ≠ t') : g ≠ k := fun e => by
  subst e; rw [h] at h'; injection h' with h'; injection h' with _ h' _; exact hne h'
/-- A row of one's own of a kind whose cells tell all: its block alone counts. -/
theorem R_sharp {α : Type} {enc : α → Value} {h1 : ∀ x, (enc x).oneCell' = true} {e : Nat} {w : World} {base : Nat} {ok : Nat → Prop} {v : Value} {xs : List α} (h : (Kd.scalar enc h1).R e w base ok v xs) : (Kd.scalar enc h1).R e w base (fun k => v.ownBlock = some k) v xs := ⟨fun k hk => hk, h.2⟩
/-- A slice as a cell has it. -/
abbrev Sl := Option Addr × Nat × Nat
def KSl : Kd Sl := Kd.scalar (fun x => .slice x.1 x.2.1 x.2.2) (fun _ => rfl)
/-- A literal of one element. -/
theorem R_one {α : Type} {d : Kd α} {e base g : Nat} {W : World} {cs : List Value} {x : α} (hg : W.heap[g]? = some (.cells cs.toArray e (0, 0))) (hb : base ≤ g) (hM : ∀ ok, d.M W base ok x cs) : d.R e W base (fun _ => True) (.slice (some ⟨g, 0, none⟩) 1 1) [x] := by
  have hl : cs.length = d.sz := d.K_len (d.K_of_M (hM (fun _ => True)))
  refine ⟨fun _ _ => trivial, cs, ⟨by simp [hl], .inr ⟨g, 1, cs.toArray, rfl, hb, hg, Nat.le_refl _, by decide, by simp [hl], by simp [← hl]⟩⟩, ?_⟩
  exact Reps.snoc (Reps.none _ _) (hM _) hl
theorem Kp.of_grown {n₀ : Nat} {Kb : Nat → Prop} {A A' : World} {r : Option Nat} (h : A.grownBy A' r) (hr : ∀ k, r = some k → ¬ Kb k) (hn : n₀ ≤ A.heap.size) : Kp n₀ Kb A A' := ⟨h.size, fun k hk hb => h.block k (by omega) (fun e => hr k e.symm hb)⟩
theorem RIn_append {F : Fence} {n : Nat} {P : Program} {α : Type} {ops : Array Oper} {rest : List Oper} {o : Oper} {a : Act} {Q : Exit → Act → World → Prop} (d : Kd α) {w0 W : World} (base : Nat) (hgd : o.guard = none) (s x : Operand) (t e : TypeId) (z : Value) (bytes : Nat)
    (ho : o.op = .call { callee := .builtin .append, args := #[s, x], argTypes := #[t, t] })
    (ht : P.underlying t = some (.slice e)) (hinfo : (P.info? e).map (fun i => (i.zero, i.size, i.bytes)) = some (some z, d.sz, bytes)) (hz : z.cells.size = d.sz) (hs0 : 0 < d.sz) (hb0 : 0 < bytes)
    (v : Value) (xs : List α) (p : α) (cs : List Value) (ok okp : Nat → Prop) (hs : a.eval s = v) (hx : a.eval x = .slice (some ⟨W.heap.size, 0, none⟩) 1 1) (hp : d.M W base okp p cs) (hokp : ∀ k, okp k → ok k ∧ some k ≠ v.ownBlock) (hfresh : ∀ k, W.heap.size ≤ k → ok k)
    (HO : d.R e W base ok v xs) (HB : Below base w0 W) (hbase : base ≤ W.heap.size) (hl : (xs.length + 1) * bytes ≤ 140737488355328)
    (h : ∀ v1 w1, d.R e w1 base ok v1 (xs ++ [p]) → Below base w0 w1 → W.grownBy w1 v.ownBlock → (v1.ownBlock = v.ownBlock ∨ ∃ b, v1.ownBlock = some b ∧ W.heap.size ≤ b) → wpListIn F n P ops Q rest (a.put o.dst v1) w1) :
    wpListIn F n P ops Q (o :: rest) a (W.alloc (.cells cs.toArray e)) := by
  obtain ⟨h0, inner, hown, hr⟩ := HO
  obtain ⟨i0, hi, hzz⟩ := Option.map_eq_some_iff.1 hinfo
  simp only [Prod.mk.injEq] at hzz
  obtain ⟨hz0, hz1, hz2⟩ := hzz
  have hlen : xs.length + 1 ≤ 140737488355328 := Nat.le_trans (Nat.le_mul_of_pos_right _ hb0) hl
  have hys : cs.length = d.sz := d.K_len (d.K_of_M hp)
  refine wpListIn_plain hgd fun K hK' => ?_
  obtain ⟨v1, w1, hrun, r1, r2, r3, r4⟩ := run_append_own_at (P := P) (W.alloc (.cells cs.toArray e)) base t o.type e i0 z d.sz bytes ht hi hz0 hz1 hz2 hz hs0 v xs.length inner (hown.alloc _) ⟨W.heap.size, 0, none⟩ 1 1 cs (by rw [hys]; simp)
    (by simpa using World.news_of_block (cs := cs.toArray) (t := e) (fr := (0, 0)) (heap_alloc_new W (.cells cs.toArray e))) (d.K_one (d.K_of_M hp)) (by simp only [maxLen]; omega) hl (by simp; omega)
  have hat : v1.ownBlock = v.ownBlock ∨ ∃ b, v1.ownBlock = some b ∧ W.heap.size ≤ b := by
    rcases r4 with r4 | r4
    · exact .inl r4
    · exact .inr ⟨_, r4, by simp⟩
  have hg1 : W.grownBy w1 v.ownBlock := World.grownBy.trans (World.grownBy_alloc W _ _) r2
  have hfin := h v1 w1 (Kd.R_appended h0 hr hp hokp hfresh r1 hg1 hat) ((HB.alloc hbase _).grown r2 (by simp; omega) (own_base hown)) hg1 hat
  unfold Oper.wpIn
  refine ⟨?_, ?_⟩
  · simp [Oper.about, ho, resolve, Target.leads, Sem.run_pure]
  · rw [Oper.semAt_plain F _ _ (by rw [ho]; intro c hc'; cases hc')]
    simp [execOp, ho, resolve, invoke, builtin, hs, hx, hrun, Result.andThen]
    exact hK' _ _ hfin
theorem wpListIn_store_agg {F : Fence} {n : Nat} {P : Program} {ops : Array Oper} {rest : List Oper} {o : Oper} {a : Act} {Q : Exit → Act → World → Prop} {W : World} (hN : o.dst = none) (hgd : o.guard = none) (t : TypeId) (p x : Operand) (ho : o.op = .store t p x) (g : Nat) (e : TypeId) (cur V : Array Value)
    (hp : a.eval p = .pointer (some ⟨g, 0, none⟩)) (hx : a.eval x = .agg V) (hh : W.heap[g]? = some (.cells cur e (0, 0))) (ht : (P.info? t).map (·.size) = some V.size) (hs : cur.size = V.size)
    (h1 : ∀ q ∈ V.toList, q.oneCell' = true)
    (h : ∀ w1, w1.heap[g]? = some (.cells V e (0, 0)) → (∀ k, k ≠ g → w1.heap[k]? = W.heap[k]?) → w1.heap.size = W.heap.size → w1.os = W.os → w1.tape = W.tape → w1.output = W.output → wpListIn F n P ops Q rest a w1) : wpListIn F n P ops Q (o :: rest) a W := by
  have hl : V.toList.length = V.size := Array.length_toList
  have hrun : (Instr.storeAt t (.pointer (some ⟨g, 0, none⟩)) (.agg V)).run P W = .ok () (W.setCells g 0 V.toList) :=
    run_store_run t (.agg V) V.toList hh rfl (by rw [ht, hl]) (by omega) h1
  obtain ⟨cur', h3, h4, h5⟩ := setCells_row (g := g) V.toList 0 W cur hh (by omega)
  obtain ⟨s1, s2, s3, s4⟩ := setCells_same g V.toList 0 W
  have e2 : cur' = V := by
    apply Array.toList_inj.mp
    rw [h5, List.take_zero, List.nil_append, List.drop_of_length_le (by rw [Array.length_toList]; omega), List.append_nil]
  subst e2
  have hfin := h _ h3 (fun k hk => setCells_far _ 0 k hk) s4 s1 s2 s3
  refine wpListIn_plain hgd fun K hK => ?_
  unfold Oper.wpIn
  refine ⟨?_, ?_⟩
  · simp [Oper.about, ho]
  · rw [Oper.semAt_plain F _ _ (by rw [ho]; intro c hc'; cases hc')]
    unfold execOp
    simp only [ho, hp, hx, Sem.run_bind, Sem.run_pure, Result.andThen_ok, hrun]
    show K (a.put o.dst undef) _
    rw [hN]
    exact hK a _ hfin
theorem oth_of2 {g : Nat} {w w1 : World} (hf : ∀ k, k ≠ g → w1.heap[k]? = w.heap[k]?) (hz : w1.heap.size = w.heap.size) (ho : w1.os = w.os) (ht : w1.tape = w.tape) (hu : w1.output = w.output) : Oth g w w1 := ⟨ho, ht, hu, Nat.le_of_eq hz.symm, fun k _ hk => hf k hk⟩
theorem KeepsFrom.of_but {B : Nat} {P : Nat → Prop} {W W' : World} (h : But P W W') (hP : ∀ k o, P k → W.heap[k]? = some o → o.isCells = true) : KeepsFrom B W W' :=
  ⟨h.size, fun k o _ hk ho => h.blk hk (fun hp => by have := hP k o hp hk; rw [ho] at this; cases this)⟩
theorem Kp.of_but {n₀ : Nat} {Kb P : Nat → Prop} {A A' : World} (h : But P A A') (hr : ∀ k, k < n₀ → Kb k → ¬ P k) (hn : n₀ ≤ A.heap.size) : Kp n₀ Kb A A' := ⟨h.size, fun k hk hb => h.block k (by omega) (hr k hk hb)⟩
end Go.Proofs.Ytmmingnkepifoaa.H
