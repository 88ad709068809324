-- PRINTED BY A CHANGED COPY OF THE PRINT (wip/tools/patch_print.py), over contracts by hand
import Derived.Test.YtbbnapdkiohefaaPSumLinearx0
namespace Go.Proofs.Ytbbnapdkiohefaa.PSumLinear
open Go.RowKit Go.Proofs.YtbbnapdkiohefaaW.PrintWords Go.Proofs.YtbbnapdkiohefaaW.PrintLast Go.Proofs.YtbbnapdkiohefaaW.PrintMore
attribute [local go_sem] max2_int min2_int max_two min_two max_three min_three max_four min_four   -- for this text's walks alone
set_option linter.unusedVariables false
set_option linter.unusedSimpArgs false

-- NOT PRINTED: function 23 (sum_turns)

/-! ### sum_Extend: function 17 (by hand) -/
def sum_Extend.f (a0 : Int) (l1 : List Int) : Option Int := if 0 ≤ a0 ∧ a0 < 4294967296 then some (CrcM.v32 (CrcM.ext (BitVec.ofInt 32 a0) l1)) else none
theorem sum_Extend.calls (a0 : Int) (A1 : Option Addr) (c1 : Nat) (l1 : List Int) (r : Int) (w : World) (hr1 : Kd.C (Kd.int .u8) w A1 l1.length l1) (hc1 : l1.length ≤ c1) (h : sum_Extend.f a0 l1 = some r) :
    Calls Try.prog 17 #[.int .u32 a0, .slice A1 l1.length c1] w fun e w' => e = .returned (.int .u32 r) ∧ Below w.heap.size w w' := by
  unfold sum_Extend.f at h
  split at h
  · rename_i hh
    injection h with h; subst h
    have e := CrcM.v32_ofInt a0 hh.1 hh.2
    have h2 := H.Extend_calls (BitVec.ofInt 32 a0) A1 c1 l1 w hr1 hc1
    rw [e] at h2
    exact h2
  · cases h

-- NOT PRINTED: function 24 (slices_Grow_byte_byte)

/-! ### slices_Concat_byte_byte: function 22 (by hand) -/
def slices_Concat_byte_byte.f (l0 : List (List Int)) : Option (List Int) := if l0.flatten.length ≤ 1000000 then some l0.flatten else none
theorem slices_Concat_byte_byte.calls (A0 : Option Addr) (c0 : Nat) (l0 : List (List Int)) (r : List Int) (w : World) (hr0 : Kd.C (Kd.slice 5 (Kd.int .u8)) w A0 l0.length l0) (hc0 : l0.length ≤ c0) (h : slices_Concat_byte_byte.f l0 = some r) :
    Calls Try.prog 22 #[.slice A0 l0.length c0] w fun e w' => ∃ v0_ : Value, e = .returned (v0_) ∧ Kd.R (Kd.int .u8) 5 w' w.heap.size (fun _ => True) v0_ r ∧ Below w.heap.size w w' := by
  unfold slices_Concat_byte_byte.f at h
  split at h
  · injection h with h; subst h; exact H.Concat_calls A0 c0 l0 w hr0 hc0 ‹_›
  · cases h

/-! ### sum_Of: function 12 (by hand) -/
def sum_Of.f (l0 : List (List Int)) : Option Int := if l0.flatten.length ≤ 1000000 then some (CrcM.v32 (CrcM.ext 0#32 l0.flatten)) else none
theorem sum_Of.calls (A0 : Option Addr) (c0 : Nat) (l0 : List (List Int)) (r : Int) (w : World) (hr0 : Kd.C (Kd.slice 5 (Kd.int .u8)) w A0 l0.length l0) (hc0 : l0.length ≤ c0) (h : sum_Of.f l0 = some r) :
    Calls Try.prog 12 #[.slice A0 l0.length c0] w fun e w' => e = .returned (.int .u32 r) ∧ Below w.heap.size w w' := by
  unfold sum_Of.f at h
  split at h
  · injection h with h; subst h; exact H.Of_calls A0 c0 l0 w hr0 hc0 ‹_›
  · cases h

/-! ### slices_Clone_byte_byte: function 20 (by hand) -/
def slices_Clone_byte_byte.f (l0 : List Int) : Option (List Int) := if l0.length ≤ 140737488355328 then some l0 else none
theorem slices_Clone_byte_byte.calls (A0 : Option Addr) (c0 : Nat) (l0 : List Int) (r : List Int) (w : World) (hr0 : Kd.C (Kd.int .u8) w A0 l0.length l0) (hc0 : l0.length ≤ c0) (h : slices_Clone_byte_byte.f l0 = some r) :
    Calls Try.prog 20 #[.slice A0 l0.length c0] w fun e w' => ∃ v0_ : Value, e = .returned (v0_) ∧ Kd.R (Kd.int .u8) 5 w' w.heap.size (fun _ => True) v0_ r ∧ Below w.heap.size w w' := by
  unfold slices_Clone_byte_byte.f at h
  split at h
  · injection h with h; subst h; exact H.Clone_calls A0 c0 l0 w hr0 hc0 ‹_›
  · cases h

/-! ### sum_Seal: function 15 (by hand) -/
def sum_Seal.f (l0 : List Int) : Option (List Int) := if l0.length ≤ 1000000 then some (l0 ++ H.le4 (CrcM.ext 0#32 l0)) else none
theorem sum_Seal.calls (A0 : Option Addr) (c0 : Nat) (l0 : List Int) (r : List Int) (w : World) (hr0 : Kd.C (Kd.int .u8) w A0 l0.length l0) (hc0 : l0.length ≤ c0) (h : sum_Seal.f l0 = some r) :
    Calls Try.prog 15 #[.slice A0 l0.length c0] w fun e w' => ∃ v0_ : Value, e = .returned (v0_) ∧ Kd.R (Kd.int .u8) 5 w' w.heap.size (fun _ => True) v0_ r ∧ Below w.heap.size w w' := by
  unfold sum_Seal.f at h
  split at h
  · injection h with h; subst h; exact H.Seal_calls A0 c0 l0 w hr0 hc0 ‹_›
  · cases h

/-! ### slices_Equal_byte_byte: function 19 (by hand) -/
def slices_Equal_byte_byte.f (l0 : List Int) (l1 : List Int) : Option Bool := some (decide (l0 = l1))
theorem slices_Equal_byte_byte.calls (A0 : Option Addr) (c0 : Nat) (l0 : List Int) (A1 : Option Addr) (c1 : Nat) (l1 : List Int) (r : Bool) (w : World) (hr0 : Kd.C (Kd.int .u8) w A0 l0.length l0) (hc0 : l0.length ≤ c0) (hr1 : Kd.C (Kd.int .u8) w A1 l1.length l1) (hc1 : l1.length ≤ c1) (h : slices_Equal_byte_byte.f l0 l1 = some r) :
    Calls Try.prog 19 #[.slice A0 l0.length c0, .slice A1 l1.length c1] w fun e w' => e = .returned (.bool r) ∧ Drawn0 w w' := by
  injection h with h; subst h; exact H.Equal_calls A0 c0 l0 A1 c1 l1 w hr0 hr1

/-! ### sum_Open: function 10 (by hand) -/
def sum_Open.f (l0 : List Int) : Option (List Int × Bool) := if l0.length ≤ 1000000 then some ((H.openB l0).1, (H.openB l0).2) else none
theorem sum_Open.calls (A0 : Option Addr) (c0 : Nat) (l0 : List Int) (r1 : List Int) (r2 : Bool) (w : World) (hr0 : Kd.C (Kd.int .u8) w A0 l0.length l0) (hc0 : l0.length ≤ c0) (h : sum_Open.f l0 = some (r1, r2)) :
    Calls Try.prog 10 #[.slice A0 l0.length c0] w fun e w' => ∃ v0_ : Value, e = .returned (.tuple #[v0_, .bool r2]) ∧ Kd.R (Kd.int .u8) 5 w' w.heap.size (fun _ => True) v0_ r1 ∧ Below w.heap.size w w' := by
  unfold sum_Open.f at h
  split at h
  · simp only [Option.some.injEq, Prod.mk.injEq] at h; obtain ⟨rfl, rfl⟩ := h; exact H.Open_calls A0 c0 l0 w hr0 hc0 ‹_›
  · cases h

/-! ### saleroomlaw03_alive: function 7 (by hand) -/
def saleroomlaw03_alive.f : Option Bool := some true
theorem saleroomlaw03_alive.calls (r : Bool) (w : World) (h : saleroomlaw03_alive.f = some r) : Calls Try.prog 7 #[] w fun e w' => e = .returned (.bool r) ∧ Below w.heap.size w w' := by
  injection h with h; subst h; exact H.alive_calls w

end Go.Proofs.Ytbbnapdkiohefaa.PSumLinear
