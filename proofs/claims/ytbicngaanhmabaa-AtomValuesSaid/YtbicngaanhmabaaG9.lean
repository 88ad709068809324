/- Some texts of one seat in one file, in build order. -/
import Derived.Test.YtbicngaanhmabaaG1
import Derived.Test.YtbicngaanhmabaaG8
import Derived.Test.YtbicngaanhmabaaProg
import Derived.Below
import Derived.Deep.Draws
import Derived.Deep.AppendLies
import Derived.Maps.AppendAt
import Derived.OwnWalk
import Derived.Laws.BytesArg
import Derived.Laws.MakeOwn
import Derived.Laws.OwnMore
import Derived.Deep.OwnRows
import Derived.Tactics
import Derived.Lib.ConvBytes
import Derived.Laws.Slices
import Derived.WalkKit
import Derived.KernelRfl
import Derived.RowKit3
import Derived.Deep.LoopGhost
import Derived.Deep.QuietTactic
import Derived.BigQuiet
import Derived.WideLaws
import Derived.Deep.DeepCutAuto
import Derived.Deep.CutBlock
import Derived.Deep.RegionHeld3
import Derived.Laws.Rows
import Derived.Lib.AppendStr
import Derived.ArgAppend
import Derived.Laws.IdiomCopy
import Derived.OrdersHeld
import Derived.Laws.BitsLemmas
import Derived.RowKit
import Derived.Test.YtbicngaanhmabaaWWords
import Derived.Test.YtbicngaanhmabaaWLast
import Derived.Test.YtbicngaanhmabaaWTab
import Derived.Test.YtbicngaanhmabaaWFour
import Derived.Test.YtbicngaanhmabaaWQPut
import Derived.Test.YtbicngaanhmabaaWApart
import Derived.Test.YtbicngaanhmabaaWArr
import Derived.Test.YtbicngaanhmabaaWZeros
import Derived.Test.YtbicngaanhmabaaWFoot
import Derived.Test.YtbicngaanhmabaaWKept
import Derived.Test.YtbicngaanhmabaaWShare
import Derived.Test.YtbicngaanhmabaaWN
import Derived.Test.YtbicngaanhmabaaWFootNe
import Derived.Test.YtbicngaanhmabaaWAt
import Derived.Test.YtbicngaanhmabaaWEqStruct
import Derived.Test.YtbicngaanhmabaaWRepsOne
import Derived.Test.YtbicngaanhmabaaWInv
import Derived.Test.YtbicngaanhmabaaWInvWords
import Derived.Test.YtbicngaanhmabaaWGuard
import Derived.Test.YtbicngaanhmabaaWNEv
import Derived.Test.YtbicngaanhmabaaWMore
/- Kinds by a Lean structure: rows of structures as rows of pairs. -/
namespace Go.Proofs.Ytbicngaanhmabaa.H
open Go.RowKit Go.Proofs.YtbicngaanhmabaaW.PrintWords Go.Proofs.YtbicngaanhmabaaW.PrintLast Go.Proofs.YtbicngaanhmabaaW.PrintMore
set_option linter.unusedVariables false
section
variable {α β : Type} {d : Kd α} {f : β → α} {w : World}
theorem C_iso {A : Option Addr} {n : Nat} {xs : List β} (h : Kd.C (Kd.iso d f) w A n xs) : Kd.C d w A n (xs.map f) :=
  ⟨by rw [List.length_map]; exact h.1, h.2.1, fun hn => by
    obtain ⟨ad, e, hr⟩ := h.2.2 hn
    refine ⟨ad, e, fun j p hj => ?_⟩
    rw [List.getElem?_map] at hj
    obtain ⟨q, hq, rfl⟩ := Option.map_eq_some_iff.1 hj
    exact hr j q hq⟩
theorem C_iso' {A : Option Addr} {n : Nat} {xs : List β} (h : Kd.C d w A n (xs.map f)) : Kd.C (Kd.iso d f) w A n xs :=
  ⟨by have := h.1; rwa [List.length_map] at this, h.2.1, fun hn => by
    obtain ⟨ad, e, hr⟩ := h.2.2 hn
    refine ⟨ad, e, fun j p hj => ?_⟩
    exact hr j (f p) (by rw [List.getElem?_map, hj]; rfl)⟩
theorem reps_iso {R : α → List Value → Prop} {sz : Nat} {xs : List β} {cs : List Value} (h : Reps (fun x c => R (f x) c) sz xs cs) : Reps R sz (xs.map f) cs :=
  ⟨by rw [List.length_map]; exact h.1, fun j p hj => by
    rw [List.getElem?_map] at hj
    obtain ⟨q, hq, rfl⟩ := Option.map_eq_some_iff.1 hj
    exact h.2 j q hq⟩
theorem reps_iso' {R : α → List Value → Prop} {sz : Nat} {xs : List β} {cs : List Value} (h : Reps R sz (xs.map f) cs) : Reps (fun x c => R (f x) c) sz xs cs :=
  ⟨by have := h.1; rwa [List.length_map] at this, fun j p hj => h.2 j (f p) (by rw [List.getElem?_map, hj]; rfl)⟩
theorem R_iso {e : Nat} {base : Nat} {ok : Nat → Prop} {v : Value} {xs : List β} (h : Kd.R (Kd.iso d f) e w base ok v xs) : Kd.R d e w base ok v (xs.map f) := by
  obtain ⟨h0, inner, ho, hr⟩ := h
  refine ⟨h0, inner, ?_, reps_iso hr⟩
  rw [List.length_map]; exact ho
theorem R_iso' {e : Nat} {base : Nat} {ok : Nat → Prop} {v : Value} {xs : List β} (h : Kd.R d e w base ok v (xs.map f)) : Kd.R (Kd.iso d f) e w base ok v xs := by
  obtain ⟨h0, inner, ho, hr⟩ := h
  refine ⟨h0, inner, ?_, reps_iso' (R := d.M w base fun k => ok k ∧ some k ≠ v.ownBlock) (f := f) hr⟩
  rw [List.length_map] at ho; exact ho
end
end Go.Proofs.Ytbicngaanhmabaa.H
/- What the changed print is told of package atom. -/
namespace Go.Proofs.Ytbicngaanhmabaa.H
open Go.RowKit Go.Proofs.YtbicngaanhmabaaW.PrintWords Go.Proofs.YtbicngaanhmabaaW.PrintLast Go.Proofs.YtbicngaanhmabaaW.PrintMore Go.Proofs.Ytbicngaanhmabaa.TrM Go.Proofs.Ytbicngaanhmabaa.AtM
set_option linter.unusedVariables false
def uB (l : List At) : Bool := l.all fun x => decide (0 ≤ x.1 ∧ x.1 < 18446744073709551616)
theorem uB_iff (l : List At) : uB l = true ↔ ∀ x ∈ l, U64 x.1 := by
  unfold uB U64
  rw [List.all_eq_true]
  constructor
  · intro h x hx; exact of_decide_eq_true (h x hx)
  · intro h x hx; exact decide_eq_true (h x hx)
end Go.Proofs.Ytbicngaanhmabaa.H
-- PRINTED BY A CHANGED COPY OF THE PRINT (wip/tools/patch_print.py), over contracts by hand
namespace Go.Proofs.Ytbicngaanhmabaa.PIsNormal
open Go.RowKit Go.Proofs.YtbicngaanhmabaaW.PrintWords Go.Proofs.YtbicngaanhmabaaW.PrintLast Go.Proofs.YtbicngaanhmabaaW.PrintMore
attribute [local go_sem] max2_int min2_int max_two min_two max_three min_three max_four min_four   -- for this text's walks alone
set_option linter.unusedVariables false
set_option linter.unusedSimpArgs false



def errW : Option Int → Value
  | none => .nilIface
  | some c => .iface 0 (.int .i64 c)
theorem errW_none : errW none = .nilIface := rfl
theorem errW_some (c : Int) : errW (some c) = .iface 0 (.int .i64 c) := rfl

-- the values' own types
/-! #### struct type 26 -/
structure S26 where
  f0 : Int
  f1 : Int
def z26 : S26 := ⟨(0 : Int), (0 : Int)⟩
def k26 : Kd S26 := Kd.iso (Kd.pair (Kd.int .u64) (Kd.int .i64)) (fun x : S26 => (x.f0, x.f1))
theorem k26_open {w : World} {x : S26} {cs : List Value} (h : k26.K w x cs) : cs = [.int .u64 x.f0, .int .i64 x.f1] := by
  obtain ⟨_, _, rfl, rfl, rfl⟩ := h
  exact rfl
theorem k26_openM {w : World} {base : Nat} {ok : Nat → Prop} {x : S26} {cs : List Value} (h : k26.M w base ok x cs) : cs = [.int .u64 x.f0, .int .i64 x.f1] := by
  obtain ⟨_, _, rfl, rfl, rfl⟩ := h
  exact rfl
theorem k26_mk (w : World) (x : S26)  : k26.K w x [.int .u64 x.f0, .int .i64 x.f1] := ⟨[.int .u64 x.f0], [.int .i64 x.f1], rfl, rfl, rfl⟩
theorem k26_mkM (w : World) (base : Nat) (ok : Nat → Prop) (x : S26)  : k26.M w base ok x [.int .u64 x.f0, .int .i64 x.f1] := ⟨[.int .u64 x.f0], [.int .i64 x.f1], rfl, rfl, rfl⟩
def rd_T26 (xs : List S26) (i : Int) : S26 := xs.getD i.toNat z26
theorem at_T26 {w : World} {A : Option Addr} {n : Nat} {xs : List S26} (h : Kd.C k26 w A n xs) (i : Int) (h0 : 0 ≤ i) (h1 : i < n) : ∃ ad , A = some ad ∧ w.cell? (ad.add (i.toNat * 2)) = some (.int .u64 (rd_T26 xs i).f0) ∧ w.cell? ⟨(ad.add (i.toNat * 2)).block, (ad.add (i.toNat * 2)).off + 1, none⟩ = some (.int .i64 (rd_T26 xs i).f1) := by
  obtain ⟨ad, c, e, _, hK, hc0⟩ := Kd.C_get h z26 i h0 h1
  have hc : ∀ j u, c[j]? = some u → w.cell? (ad.add (i.toNat * 2 + j)) = some u := hc0
  obtain rfl := k26_open hK
  exact ⟨ad, e, hc 0 _ rfl, by rw [← add_field _ _ 1 (by omega)]; exact hc 1 _ rfl⟩

end Go.Proofs.Ytbicngaanhmabaa.PIsNormal
-- PRINTED BY A CHANGED COPY OF THE PRINT (wip/tools/patch_print.py), over contracts by hand
namespace Go.Proofs.Ytbicngaanhmabaa.PIsNormal
open Go.RowKit Go.Proofs.YtbicngaanhmabaaW.PrintWords Go.Proofs.YtbicngaanhmabaaW.PrintLast Go.Proofs.YtbicngaanhmabaaW.PrintMore
attribute [local go_sem] max2_int min2_int max_two min_two max_three min_three max_four min_four   -- for this text's walks alone
set_option linter.unusedVariables false
set_option linter.unusedSimpArgs false

theorem eqA26 (d : Nat) (w : World) (x0 y0 : Int) (x1 y1 : Int) :
    (Op.equalIn (d + 2) 26 (.agg #[.int .u64 x0, .int .i64 x1]) (.agg #[.int .u64 y0, .int .i64 y1])).run Try.prog w = .ok (x0 == y0 && (x1 == y1)) w := by
  refine eqA_of Try.underlying26 (by kernel_rfl) ?_
  refine eqf_cons (by rfl) (by go_simp; rfl) (by go_simp; rfl) (by go_simp) ?_
  exact eqf_last (by rfl) (by go_simp; rfl) (by go_simp; rfl) (by go_simp)
end Go.Proofs.Ytbicngaanhmabaa.PIsNormal
-- PRINTED BY A CHANGED COPY OF THE PRINT (wip/tools/patch_print.py), over contracts by hand
namespace Go.Proofs.Ytbicngaanhmabaa.PIsNormal
open Go.RowKit Go.Proofs.YtbicngaanhmabaaW.PrintWords Go.Proofs.YtbicngaanhmabaaW.PrintLast Go.Proofs.YtbicngaanhmabaaW.PrintMore
attribute [local go_sem] max2_int min2_int max_two min_two max_three min_three max_four min_four   -- for this text's walks alone
set_option linter.unusedVariables false
set_option linter.unusedSimpArgs false

attribute [local go_sem high] eqA26
/-! ### atom_Normal: function 12 (by hand) -/
def atom_Normal.f (l0 : List (S26)) : Option (List (S26)) := if H.uB (l0.map fun x => (x.f0, x.f1)) = true ∧ l0.length ≤ 600000 then some ((AtM.normL (l0.map fun x => (x.f0, x.f1))).map fun y => (⟨y.1, y.2⟩ : S26)) else none
theorem atom_Normal.calls (A0 : Option Addr) (c0 : Nat) (l0 : List (S26)) (r : List (S26)) (w : World) (hr0 : Kd.C k26 w A0 l0.length l0) (hc0 : l0.length ≤ c0) (h : atom_Normal.f l0 = some r) :
    Calls Try.prog 12 #[.slice A0 l0.length c0] w fun e w' => ∃ v0_ : Value, e = .returned (v0_) ∧ Kd.R k26 26 w' w.heap.size (fun _ => True) v0_ r ∧ Below w.heap.size w w' := by
  unfold atom_Normal.f at h
  split at h
  · rename_i hh
    injection h with h; subst h
    have hc := H.C_iso hr0
    have hl : (l0.map fun x : S26 => (x.f0, x.f1)).length = l0.length := List.length_map _
    rw [← hl] at hc ⊢
    refine (H.Normal_calls _ A0 c0 w hc ((H.uB_iff _).1 hh.1) (by rw [hl]; exact hh.2)).mono ?_
    rintro e w' ⟨v, h1, h2, h3⟩
    refine ⟨v, h1, H.R_iso' ?_, h3⟩
    rw [List.map_map]
    have : ((fun x : S26 => (x.f0, x.f1)) ∘ fun y : Int × Int => (⟨y.1, y.2⟩ : S26)) = id := rfl
    rw [this, List.map_id]
    exact h2
  · cases h

/-! ### api_Atom: function 26 -/
def api_Atom.l0 : Nat → List (S26) → List (S26) → Int → Int → Option (Bool)
  | 0, _, _, _, _ => none
  | k + 1, x0, x1, x12, x13 => if x13 < x12 then (if 0 ≤ x13 then (if x13 < (x0.length : Int) then (if x13 < (x1.length : Int) then (if (!(((rd_T26 x0 x13).f0) == ((rd_T26 x1 x13).f0)) || (!(((rd_T26 x0 x13).f1) == ((rd_T26 x1 x13).f1)))) = true then (some false) else (api_Atom.l0 k x0 x1 x12 (wrap64 (x13 + 1)))) else (none)) else (none)) else (none)) else (some true)
def api_Atom.f (k : Nat) (l0 : List (S26)) (l1 : List (S26)) : Option (Bool) := if (l0.length : Int) = (l1.length : Int) then (api_Atom.l0 k l0 l1 (l0.length : Int) 0) else (some false)
theorem api_Atom.mono_l : ∀ k, (∀ y0 y1 y2 y3, LeO (api_Atom.l0 k y0 y1 y2 y3) (api_Atom.l0 (k + 1) y0 y1 y2 y3))
  | 0 => fun _ _ _ _ r h => by simp [api_Atom.l0] at h
  | k + 1 => by
    have ih0 := api_Atom.mono_l k
    · intro y0 y1 y2 y3
      unfold api_Atom.l0
      repeat' first
      | (with_reducible exact ih0 _ _ _ _)
      | (with_reducible exact LeO.refl _)
      | (with_reducible exact LeO.none _)
      | (with_reducible refine LeO.ite ?_ ?_)
      | (with_reducible refine LeO.bind ?_ (fun _ => ?_))
      | exact ih0 _ _ _ _
      | exact LeO.none _
      | refine LeO.ite ?_ ?_
      | refine LeO.bind ?_ (fun _ => ?_)
theorem api_Atom.mono : ∀ a0 a1 k, LeO (api_Atom.f k a0 a1) (api_Atom.f (k + 1) a0 a1) := by
  intro a0 a1 k
  have ih0 := api_Atom.mono_l k
  unfold api_Atom.f
  repeat' first
      | (with_reducible exact ih0 _ _ _ _)
      | (with_reducible exact LeO.refl _)
      | (with_reducible exact LeO.none _)
      | (with_reducible refine LeO.ite ?_ ?_)
      | (with_reducible refine LeO.bind ?_ (fun _ => ?_))
      | exact ih0 _ _ _ _
      | exact LeO.none _
      | refine LeO.ite ?_ ?_
      | refine LeO.bind ?_ (fun _ => ?_)
set_option maxHeartbeats 8000000 in
set_option maxRecDepth 100000 in
theorem api_Atom.calls (k : Nat) (A0 : Option Addr) (c0 : Nat) (l0 : List (S26)) (A1 : Option Addr) (c1 : Nat) (l1 : List (S26)) (r : Bool) (w : World) (hr0 : Kd.C k26 w A0 l0.length l0) (hc0 : l0.length ≤ c0) (hr1 : Kd.C k26 w A1 l1.length l1) (hc1 : l1.length ≤ c1) (h : api_Atom.f k l0 l1 = some r) :
    Calls Try.prog 26 #[.slice A0 l0.length c0, .slice A1 l1.length c1] w fun e w' => e = .returned (.bool r) ∧ Drawn0 w w' := by
  have hu26 := Try.underlying26
  have HR0 := Aside0.mk hr0
  have HC0 := Aside0.mk hc0
  clear hr0 hc0
  have HR1 := Aside0.mk hr1
  have HC1 := Aside0.mk hc1
  clear hr1 hc1
  have H : (if (l0.length : Int) = (l1.length : Int) then (api_Atom.l0 k l0 l1 (l0.length : Int) 0) else (some false)) = some r := h
  clear h
  by_cases c3 : (l0.length : Int) = (l1.length : Int)
  · rw [if_pos c3] at H
    have c3b0 : ((l0.length : Int) == (l1.length : Int)) = true := beq_iff_eq.mpr c3
    have c3b1 : ((l0.length : Int) != (l1.length : Int)) = false := bne_eq_false_iff_eq.mpr c3
    have c3b2 : (l0.length == l1.length) = true := by first | simpa using c3 | (simp at c3 ⊢; omega)
    clear c3
    have H' := Aside0.mk H
    clear H
    go_enter Try.func26, Try.ntmps26
    go_wp2
    repeat (go_quiet (fail); try go_wp2)
    go_loopg [13] k (fun kq v13 w' => ∃ (x13_1 : Int), v13 = .int .i64 x13_1 ∧ Aside0 (api_Atom.l0 kq l0 l1 (l0.length : Int) x13_1 = some r) ∧ Aside0 (kq ≤ k) ∧ Drawn0 w w')
    case atStart => exact ⟨(0), (by first | rfl | (simp; done) | (simp [*]; done)), H', ⟨Nat.le_refl _⟩, by repeat (first | exact Drawn0.refl _ | apply Drawn0.step)⟩
    case round =>
      clear H'
      try clear c1
      try clear c2
      try clear p2
      try clear c3
      try clear c3b0
      try clear c3b1
      try clear c3b2
      obtain ⟨x13_1, rfl, HA, HK1, ⟨m1, rfl⟩⟩ := hrel
      cases gk with
      | zero => exact absurd HA.out (by simp [api_Atom.l0])
      | succ k1 =>
        have H := HA.out
        clear HA
        simp only [api_Atom.l0] at H
        by_cases c4 : x13_1 < (l0.length : Int)
        · rw [if_pos c4] at H
          have c4b0 : decide (x13_1 < (l0.length : Int)) = true := decide_eq_true c4
          clear c4
          by_cases c5 : 0 ≤ x13_1
          · rw [if_pos c5] at H
            have c5b0 : decide (0 ≤ x13_1) = true := decide_eq_true c5
            clear c5
            by_cases c6 : x13_1 < (l0.length : Int)
            · rw [if_pos c6] at H
              have c6b0 : decide (x13_1 < (l0.length : Int)) = true := decide_eq_true c6
              clear c6
              by_cases c7 : x13_1 < (l1.length : Int)
              · rw [if_pos c7] at H
                have c7b0 : decide (x13_1 < (l1.length : Int)) = true := decide_eq_true c7
                clear c7
                by_cases c8 : (!(((rd_T26 l0 x13_1).f0) == ((rd_T26 l1 x13_1).f0)) || (!(((rd_T26 l0 x13_1).f1) == ((rd_T26 l1 x13_1).f1)))) = true
                · rw [if_pos c8] at H
                  have c8b0 : (!(((rd_T26 l0 x13_1).f0) == ((rd_T26 l1 x13_1).f0)) || (!(((rd_T26 l0 x13_1).f1) == ((rd_T26 l1 x13_1).f1)))) = true := c8
                  clear c8
                  obtain rfl := Option.some.inj H
                  have p101 : 0 ≤ (x13_1 : Int) := of_decide_eq_true (by first | (with_reducible assumption) | assumption)
                  have q101 : x13_1 < (l0.length : Int) := of_decide_eq_true (by first | (with_reducible assumption) | assumption)
                  obtain ⟨ad101, e101, hx101_0, hx101_1⟩ := at_T26 HR0.out x13_1 p101 q101
                  cases e101
                  replace p101 := eq_true p101
                  replace q101 := eq_true q101
                  have p102 : 0 ≤ (x13_1 : Int) := of_decide_eq_true (by first | (with_reducible assumption) | assumption)
                  have q102 : x13_1 < (l1.length : Int) := of_decide_eq_true (by first | (with_reducible assumption) | assumption)
                  obtain ⟨ad102, e102, hx102_0, hx102_1⟩ := at_T26 HR1.out x13_1 p102 q102
                  cases e102
                  replace p102 := eq_true p102
                  replace q102 := eq_true q102
                  go_wp2
                  repeat (go_quiet (fail); try go_wp2)
                  go_ret
                  exact ⟨by first | rfl | (simp; done) | (simp [*]; done), by repeat (first | exact Drawn0.refl _ | apply Drawn0.step)⟩
                · rw [if_neg c8] at H
                  have c8b0 : (!(((rd_T26 l0 x13_1).f0) == ((rd_T26 l1 x13_1).f0)) || (!(((rd_T26 l0 x13_1).f1) == ((rd_T26 l1 x13_1).f1)))) = false := by simpa using c8
                  clear c8
                  have H' := Aside0.mk H
                  clear H
                  have p101 : 0 ≤ (x13_1 : Int) := of_decide_eq_true (by first | (with_reducible assumption) | assumption)
                  have q101 : x13_1 < (l0.length : Int) := of_decide_eq_true (by first | (with_reducible assumption) | assumption)
                  obtain ⟨ad101, e101, hx101_0, hx101_1⟩ := at_T26 HR0.out x13_1 p101 q101
                  cases e101
                  replace p101 := eq_true p101
                  replace q101 := eq_true q101
                  have p102 : 0 ≤ (x13_1 : Int) := of_decide_eq_true (by first | (with_reducible assumption) | assumption)
                  have q102 : x13_1 < (l1.length : Int) := of_decide_eq_true (by first | (with_reducible assumption) | assumption)
                  obtain ⟨ad102, e102, hx102_0, hx102_1⟩ := at_T26 HR1.out x13_1 p102 q102
                  cases e102
                  replace p102 := eq_true p102
                  replace q102 := eq_true q102
                  go_wp2
                  repeat (go_quiet (fail); try go_wp2)
                  go_roundg k1
                  case measure => have := HK1.out; omega
                  case rel => exact ⟨(wrap64 (x13_1 + 1)), (by first | rfl | (simp; done) | (simp [*]; done)), H', ⟨by have := HK1.out; omega⟩, by repeat (first | exact Drawn0.refl _ | apply Drawn0.step)⟩
              · rw [if_neg c7] at H
                exact absurd H (by simp)
            · rw [if_neg c6] at H
              exact absurd H (by simp)
          · rw [if_neg c5] at H
            exact absurd H (by simp)
        · rw [if_neg c4] at H
          have c4b0 : decide (x13_1 < (l0.length : Int)) = false := decide_eq_false c4
          clear c4
          obtain rfl := Option.some.inj H
          go_wp2
          repeat (go_quiet (fail); try go_wp2)
          go_ret
          exact ⟨by first | rfl | (simp; done) | (simp [*]; done), by repeat (first | exact Drawn0.refl _ | apply Drawn0.step)⟩
  · rw [if_neg c3] at H
    have c3b0 : ((l0.length : Int) == (l1.length : Int)) = false := beq_eq_false_iff_ne.mpr c3
    have c3b1 : ((l0.length : Int) != (l1.length : Int)) = true := bne_iff_ne.mpr c3
    have c3b2 : (l0.length == l1.length) = false := by first | simpa using c3 | (simp at c3 ⊢; omega)
    obtain rfl := Option.some.inj H
    go_enter Try.func26, Try.ntmps26
    go_wp2
    repeat (go_quiet (fail); try go_wp2)
    go_ret
    exact ⟨by first | rfl | (simp; done) | (simp [*]; done), by repeat (first | exact Drawn0.refl _ | apply Drawn0.step)⟩

/-! ### atom_IsNormal: function 13 -/
def atom_IsNormal.f (k : Nat) (l0 : List (S26)) : Option (Bool) := (atom_Normal.f l0).bind fun t103 => ((api_Atom.f k t103 l0).bind fun t106 => (some t106))
theorem atom_IsNormal.mono : ∀ a0 k, LeO (atom_IsNormal.f k a0) (atom_IsNormal.f (k + 1) a0) := by
  intro a0 k
  unfold atom_IsNormal.f
  repeat' first
      | (with_reducible exact api_Atom.mono _ _ _)
      | (with_reducible exact LeO.refl _)
      | (with_reducible exact LeO.none _)
      | (with_reducible refine LeO.ite ?_ ?_)
      | (with_reducible refine LeO.bind ?_ (fun _ => ?_))
      | exact api_Atom.mono _ _ _
      | exact LeO.none _
      | refine LeO.ite ?_ ?_
      | refine LeO.bind ?_ (fun _ => ?_)
set_option maxHeartbeats 8000000 in
set_option maxRecDepth 100000 in
theorem atom_IsNormal.calls (k : Nat) (A0 : Option Addr) (c0 : Nat) (l0 : List (S26)) (r : Bool) (w : World) (hr0 : Kd.C k26 w A0 l0.length l0) (hc0 : l0.length ≤ c0) (h : atom_IsNormal.f k l0 = some r) :
    Calls Try.prog 13 #[.slice A0 l0.length c0] w fun e w' => e = .returned (.bool r) ∧ Below w.heap.size w w' := by
  have HR0 := Aside0.mk hr0
  have HC0 := Aside0.mk hc0
  clear hr0 hc0
  have HB := Aside0.mk (Below.refl w.heap.size w)
  have H : ((atom_Normal.f l0).bind fun t103 => ((api_Atom.f k t103 l0).bind fun t106 => (some t106))) = some r := h
  clear h
  replace H := Option.bind_eq_some_iff.mp H
  obtain ⟨t103, A20, H⟩ := H
  replace H : ((api_Atom.f k t103 l0).bind fun t106 => (some t106)) = some r := H
  have A2 := Aside0.mk A20
  clear A20
  replace H := Option.bind_eq_some_iff.mp H
  obtain ⟨t106, A30, H⟩ := H
  replace H : (some t106) = some r := H
  have A3 := Aside0.mk A30
  clear A30
  obtain rfl := Option.some.inj H
  go_enter Try.func13, Try.ntmps13
  go_wp2_with (first | ((with_reducible refine gate_callee (f := 12) rfl ?_); refine goesL_ (some 4) rfl rfl Try.func12 (by kernel_rfl) rfl #[.slice A0 l0.length c0] rfl (by (try simp only [List.map_toArray, List.map_cons, List.map_nil]); first | done | rfl | (simp only [List.length_drop, List.length_take]; rfl)) ?_; (with_reducible refine (atom_Normal.calls _ _ l0 t103 _ ?side1 ?side2 A2.out).mono ?_); (case side1 => repeat (first | exact HR0.out | (with_reducible refine Kd.C_alloc ?_ _) | (with_reducible refine Kd.C_drewN ?_ _) | (with_reducible refine Kd.C_drew ?_))); (case side2 => exact HC0.out); rintro e w4 ⟨v104, rfl, ho0, hb⟩; refine ⟨_, rfl, ?_⟩; have n0_ := Aside0.mk (Kd.R_lower ho0 (below_size (by repeat (first | (with_reducible first | exact HB.out | apply below_alloc | apply pw_below_drewN | apply below_drew1) | exact HB.out)))); have n1_ := Aside0.mk (below_step (by repeat (first | (with_reducible first | exact HB.out | apply below_alloc | apply pw_below_drewN | apply below_drew1) | exact HB.out)) hb); clear HB; have HO105 := n0_; have HB := n1_; clear n0_ n1_; (try clear hb); (try clear hb2); (try clear hk); (try clear hi); (try clear ho0); obtain ⟨Ao5, co5, eo5⟩ := Kd.R_slice HO105.out; subst eo5) | ((with_reducible refine gate_callee (f := 26) rfl ?_); refine goesL_ (some 6) rfl rfl Try.func26 (by kernel_rfl) rfl #[.slice Ao5 t103.length co5, .slice A0 l0.length c0] rfl (by (try simp only [List.map_toArray, List.map_cons, List.map_nil]); first | done | rfl | (simp only [List.length_drop, List.length_take]; rfl)) ?_; (with_reducible refine (api_Atom.calls k _ _ t103 _ _ l0 t106 _ ?side1 ?side2 ?side3 ?side4 A3.out).mono ?_); (case side1 => repeat (first | exact (Kd.R_reads' HO105.out).2.2 | (with_reducible refine Kd.C_alloc ?_ _) | (with_reducible refine Kd.C_drewN ?_ _) | (with_reducible refine Kd.C_drew ?_))); (case side2 => exact (Kd.R_reads' HO105.out).2.1); (case side3 => repeat (first | exact (Kd.C_below HR0.out HB.out) | (with_reducible refine Kd.C_alloc ?_ _) | (with_reducible refine Kd.C_drewN ?_ _) | (with_reducible refine Kd.C_drew ?_))); (case side4 => exact HC0.out); rintro e w' ⟨rfl, ⟨nd, rfl⟩⟩; refine ⟨_, rfl, ?_⟩))
  go_ret
  exact ⟨by first | rfl | (simp [errW_none, errW_some] <;> rfl) | (simp [*, errW_none, errW_some] <;> rfl), by repeat (first | (with_reducible first | exact HB.out | apply below_alloc | apply pw_below_drewN | apply below_drew1) | exact HB.out)⟩

end Go.Proofs.Ytbicngaanhmabaa.PIsNormal
-- PRINTED BY A CHANGED COPY OF THE PRINT (wip/tools/patch_print.py), over contracts by hand
namespace Go.Proofs.Ytbicngaanhmabaa.PIsNormal
open Go.RowKit Go.Proofs.YtbicngaanhmabaaW.PrintWords Go.Proofs.YtbicngaanhmabaaW.PrintLast Go.Proofs.YtbicngaanhmabaaW.PrintMore
attribute [local go_sem] max2_int min2_int max_two min_two max_three min_three max_four min_four   -- for this text's walks alone
set_option linter.unusedVariables false
set_option linter.unusedSimpArgs false

end Go.Proofs.Ytbicngaanhmabaa.PIsNormal
-- PRINTED BY A CHANGED COPY OF THE PRINT (wip/tools/patch_print.py), over contracts by hand
namespace Go.Proofs.Ytbicngaanhmabaa.PCheck
open Go.RowKit Go.Proofs.YtbicngaanhmabaaW.PrintWords Go.Proofs.YtbicngaanhmabaaW.PrintLast Go.Proofs.YtbicngaanhmabaaW.PrintMore
attribute [local go_sem] max2_int min2_int max_two min_two max_three min_three max_four min_four   -- for this text's walks alone
set_option linter.unusedVariables false
set_option linter.unusedSimpArgs false



def errW : Option Int → Value
  | none => .nilIface
  | some c => .iface 0 (.int .i64 c)
theorem errW_none : errW none = .nilIface := rfl
theorem errW_some (c : Int) : errW (some c) = .iface 0 (.int .i64 c) := rfl

-- the values' own types
/-! #### struct type 26 -/
structure S26 where
  f0 : Int
  f1 : Int
def z26 : S26 := ⟨(0 : Int), (0 : Int)⟩
def k26 : Kd S26 := Kd.iso (Kd.pair (Kd.int .u64) (Kd.int .i64)) (fun x : S26 => (x.f0, x.f1))
theorem k26_open {w : World} {x : S26} {cs : List Value} (h : k26.K w x cs) : cs = [.int .u64 x.f0, .int .i64 x.f1] := by
  obtain ⟨_, _, rfl, rfl, rfl⟩ := h
  exact rfl
theorem k26_openM {w : World} {base : Nat} {ok : Nat → Prop} {x : S26} {cs : List Value} (h : k26.M w base ok x cs) : cs = [.int .u64 x.f0, .int .i64 x.f1] := by
  obtain ⟨_, _, rfl, rfl, rfl⟩ := h
  exact rfl
theorem k26_mk (w : World) (x : S26)  : k26.K w x [.int .u64 x.f0, .int .i64 x.f1] := ⟨[.int .u64 x.f0], [.int .i64 x.f1], rfl, rfl, rfl⟩
theorem k26_mkM (w : World) (base : Nat) (ok : Nat → Prop) (x : S26)  : k26.M w base ok x [.int .u64 x.f0, .int .i64 x.f1] := ⟨[.int .u64 x.f0], [.int .i64 x.f1], rfl, rfl, rfl⟩
def rd_T26 (xs : List S26) (i : Int) : S26 := xs.getD i.toNat z26
theorem at_T26 {w : World} {A : Option Addr} {n : Nat} {xs : List S26} (h : Kd.C k26 w A n xs) (i : Int) (h0 : 0 ≤ i) (h1 : i < n) : ∃ ad , A = some ad ∧ w.cell? (ad.add (i.toNat * 2)) = some (.int .u64 (rd_T26 xs i).f0) ∧ w.cell? ⟨(ad.add (i.toNat * 2)).block, (ad.add (i.toNat * 2)).off + 1, none⟩ = some (.int .i64 (rd_T26 xs i).f1) := by
  obtain ⟨ad, c, e, _, hK, hc0⟩ := Kd.C_get h z26 i h0 h1
  have hc : ∀ j u, c[j]? = some u → w.cell? (ad.add (i.toNat * 2 + j)) = some u := hc0
  obtain rfl := k26_open hK
  exact ⟨ad, e, hc 0 _ rfl, by rw [← add_field _ _ 1 (by omega)]; exact hc 1 _ rfl⟩

end Go.Proofs.Ytbicngaanhmabaa.PCheck
