/- Some texts of one seat in one file, in build order. -/
import Derived.Test.YtcnmbllafdeokaaG6
import Derived.Test.YtcnmbllafdeokaaG7
import Derived.Shelf.SlGeneric
import Derived.Shelf.SlSortCmp.PivotK
import Derived.Ground.SlsfProg
import Derived.Test.YtcnmbllafdeokaaProg
import Derived.Test.YtcnmbllafdeokaaG4
import Derived.OwnWalkIn
import Derived.Maps.AppendAt
import Derived.Test.YtcnmbllafdeokaaG3
import Derived.Shelf.SlSortCmp.NoneTotal
/- cmp.Compare[int], set.Count. -/
namespace Go.Proofs.Ytcnmbllafdeokaa.H
open Go.RowKit Go.Proofs.YtcnmbllafdeokaaW.PrintWords Go.Proofs.YtcnmbllafdeokaaW.PrintLast Go.Proofs.YtcnmbllafdeokaaW.PrintMore Go.Proofs.Ytcnmbllafdeokaa.TrM Go.Proofs.Ytcnmbllafdeokaa.AtM
set_option linter.unusedVariables false
set_option linter.unusedSimpArgs false
set_option maxRecDepth 100000
theorem isNaN_int (x : Int) (W : World) : Calls Try.prog 56 #[.int .i64 x] W fun e W' => e = .returned (.bool false) ∧ W = W' := by
  go_enter Try.func56, Try.ntmps56
  go_wp2
  go_ret
  simp
theorem cmp_int (x y : Int) (W : World) : Calls Try.prog 40 #[.int .i64 x, .int .i64 y] W fun e W' => e = .returned (.int .i64 (cmpN x y)) ∧ W = W' := by
  by_cases c1 : x < y
  · have e : cmpN x y = -1 := by unfold cmpN; rw [if_pos c1]
    rw [e]
    have b0 : decide (x < y) = true := decide_eq_true c1
    clear c1 e
    go_enter Try.func40, Try.ntmps40
    go_wp2_with (go_at_call 56; refine (isNaN_int _ _).mono ?_; rintro e w' ⟨rfl, rfl⟩)
    go_ret
    exact ⟨rfl, rfl⟩
  · by_cases c2 : y < x
    · have e : cmpN x y = 1 := by unfold cmpN; rw [if_neg c1, if_pos c2]
      rw [e]
      have b0 : decide (x < y) = false := decide_eq_false c1
      have b1 : decide (y < x) = true := decide_eq_true c2
      clear c1 c2 e
      go_enter Try.func40, Try.ntmps40
      go_wp2_with (go_at_call 56; refine (isNaN_int _ _).mono ?_; rintro e w' ⟨rfl, rfl⟩)
      go_ret
      exact ⟨rfl, rfl⟩
    · have e : cmpN x y = 0 := by unfold cmpN; rw [if_neg c1, if_neg c2]
      rw [e]
      have b0 : decide (x < y) = false := decide_eq_false c1
      have b1 : decide (y < x) = false := decide_eq_false c2
      clear c1 c2 e
      go_enter Try.func40, Try.ntmps40
      go_wp2_with (go_at_call 56; refine (isNaN_int _ _).mono ?_; rintro e w' ⟨rfl, rfl⟩)
      go_ret
      exact ⟨rfl, rfl⟩
theorem Count_calls (x : Int) (W : World) (hx : U64 x) : Calls Try.prog 41 #[.int .u64 x] W fun e W' => e = .returned (.int .i64 (pcS x)) ∧ W = W' := by
  go_enter Try.func41, Try.ntmps41
  go_wp2_with (go_at_call 57; refine (ones_calls _ _ hx).mono ?_; rintro e w' ⟨rfl, rfl⟩)
  go_ret
  exact ⟨rfl, rfl⟩
end Go.Proofs.Ytcnmbllafdeokaa.H
/- cmp.Or[int], set.Cmp. -/
namespace Go.Proofs.Ytcnmbllafdeokaa.H
open Go.RowKit Go.Proofs.YtcnmbllafdeokaaW.PrintWords Go.Proofs.YtcnmbllafdeokaaW.PrintLast Go.Proofs.YtcnmbllafdeokaaW.PrintMore Go.Proofs.Ytcnmbllafdeokaa.TrM Go.Proofs.Ytcnmbllafdeokaa.AtM
set_option linter.unusedVariables false
set_option linter.unusedSimpArgs false
set_option maxRecDepth 100000
theorem Or_calls (p q : Int) (b : Nat) (W : World) (r0 : W.cell? { block := b, off := 0 } = some (.int .i64 p)) (r1 : W.cell? { block := b, off := 1 } = some (.int .i64 q)) : Calls Try.prog 39 #[.slice (some { block := b, off := 0 }) 2 2] W fun e W' => e = .returned (.int .i64 (if p = 0 then q else p)) ∧ W = W' := by
  go_enter Try.func39, Try.ntmps39
  go_wp2
  go_loop [8] (fun i => ∃ k : Int, 0 ≤ k ∧ k ≤ 2 ∧ i = .int .i64 k ∧ (1 ≤ k → p = 0) ∧ (2 ≤ k → q = 0)) (fun i => 2 - (intOf i).toNat)
  case atStart => exact ⟨0, by omega, by omega, rfl, by omega, by omega⟩
  case round =>
    obtain ⟨k, h1, h2, rfl, h3, h4⟩ := hrel
    rcases (by omega : k = 0 ∨ k = 1 ∨ k = 2) with rfl | rfl | rfl
    · by_cases c : p = 0
      · have b2 : (p != 0) = false := by simp [c]
        have HC := Lib.hid c
        clear c h3 h4
        go_wp2
        go_round
        case rel => exact ⟨1, by omega, by omega, rfl, fun _ => HC.out, by omega⟩
        case measure => simp [intOf]
      · have b2 : (p != 0) = true := by simp [c]
        have HC := Lib.hid c
        clear c h3 h4
        go_wp2
        go_ret
        exact ⟨by have h := HC.out; simp [h], rfl⟩
    · have HP := Lib.hid (h3 (by omega))
      by_cases c : q = 0
      · have b2 : (q != 0) = false := by simp [c]
        have HC := Lib.hid c
        clear c h3 h4
        go_wp2
        go_round
        case rel => exact ⟨2, by omega, by omega, rfl, fun _ => HP.out, fun _ => HC.out⟩
        case measure => simp [intOf]
      · have b2 : (q != 0) = true := by simp [c]
        have HC := Lib.hid c
        clear c h3 h4
        go_wp2
        go_ret
        exact ⟨by have h := HP.out; simp [h], rfl⟩
    · have HP := Lib.hid (h3 (by omega))
      have HC := Lib.hid (h4 (by omega))
      clear h3 h4
      go_wp2
      go_ret
      exact ⟨by have h := HP.out; have h2 := HC.out; simp [h, h2], rfl⟩
theorem cell_new0 (W : World) (p q : Value) (t : Nat) : (W.alloc (.cells #[p, q] t)).cell? { block := W.heap.size, off := 0 } = some p := by
  unfold World.cell? World.alloc
  simp only [Array.getElem?_push_size]
  rfl
theorem cell_new1 (W : World) (p q : Value) (t : Nat) : (W.alloc (.cells #[p, q] t)).cell? { block := W.heap.size, off := 1 } = some q := by
  unfold World.cell? World.alloc
  simp only [Array.getElem?_push_size]
  rfl
theorem Cmp_calls (x y : Int) (W : World) (hx : U64 x) (hy : U64 y) : Calls Try.prog 30 #[.int .u64 x, .int .u64 y] W fun e W' => e = .returned (.int .i64 (cmpS x y)) ∧ ∃ o, W' = W.alloc o := by
  go_enter Try.func30, Try.ntmps30
  go_wp2_with first
    | (go_at_call 41; refine (Count_calls _ _ (by assumption)).mono ?_; rintro e w' ⟨rfl, rfl⟩)
    | (go_at_call 40; refine (cmp_int _ _ _).mono ?_; rintro e w' ⟨rfl, rfl⟩)
    | (go_at_call 42; refine (cmp_u64 _ _ _).mono ?_; rintro e w' ⟨rfl, rfl⟩)
  refine (Or_calls _ _ _ _ (cell_new0 _ _ _ _) (cell_new1 _ _ _ _)).mono ?_
  rintro e w' ⟨rfl, rfl⟩
  have hs : cmpS x y = if cmpN (pcS x) (pcS y) = 0 then cmpN x y else cmpN (pcS x) (pcS y) := by
    unfold cmpS cmpN; repeat' split
    all_goals first | rfl | omega
  rw [← hs]
  clear hs
  go_wp2
  go_ret
  exact ⟨rfl, _, rfl⟩
end Go.Proofs.Ytcnmbllafdeokaa.H
/-
  DERIVED: THE SHELF's CONTRACTS AT THIS DUMP, IN PLAIN WORDS (tools/lay-plain.mjs out of 'YtcnmbllafdeokaaShl.lean', which tools/lay-shelf.mjs wrote): THE SAME DECLARATIONS UNDER THE SAME NAMES: 'import', 'namespace', 'open', 'def', 'theorem' AND NOTHING ELSE: no command of the shelf's: FOR A HAND-IN. Each laying: the table of numbers ('.._ren') and one theorem, a field a fact of the dump's own or the kernel's comparison; each contract: ONE APPLICATION.
-/
namespace Go.Proofs
open Go.Shelf
def Try.sortIv_ren : Go.Shelf.Ren := ⟨fun | 6 => 28 | 15 => 38 | 14 => 37 | 28 => 54 | 29 => 55 | 20 => 46 | 21 => 47 | 22 => 48 | 23 => 49 | 24 => 50 | 25 => 51 | 26 => 52 | 27 => 53 | 46 => 64 | 47 => 65 | 48 => 66 | 49 => 67 | 50 => 68 | 57 => 69 | n => n, fun | 22 => 22 | 24 => 29 | 25 => 56 | 3 => 3 | 39 => 66 | 0 => 0 | 53 => 82 | 55 => 23 | 4 => 4 | 46 => 75 | 45 => 74 | 50 => 79 | 5 => 5 | 9 => 9 | 66 => 88 | 70 => 92 | 76 => 94 | 77 => 95 | n => n, fun | n => n⟩
theorem Try.sortIv : Go.Proofs.SlLaysF0.n6 Try.prog Try.sortIv_ren := {
  mixed := by kernel_rfl
  f6 := ⟨Try.f28.name, by decide, Try.func28.trans (congrArg some (by kernel_rfl))⟩
  f14 := ⟨Try.f37.name, by decide, Try.func37.trans (congrArg some (by kernel_rfl))⟩
  f15 := Try.func38.trans (congrArg some (by kernel_rfl))
  f20 := ⟨Try.f46.name, by decide, Try.func46.trans (congrArg some (by kernel_rfl))⟩
  f21 := ⟨Try.f47.name, by decide, Try.func47.trans (congrArg some (by kernel_rfl))⟩
  f22 := ⟨Try.f48.name, by decide, Try.func48.trans (congrArg some (by kernel_rfl))⟩
  f23 := ⟨Try.f49.name, by decide, Try.func49.trans (congrArg some (by kernel_rfl))⟩
  f24 := ⟨Try.f50.name, by decide, Try.func50.trans (congrArg some (by kernel_rfl))⟩
  f25 := ⟨Try.f51.name, by decide, Try.func51.trans (congrArg some (by kernel_rfl))⟩
  f26 := ⟨Try.f52.name, by decide, Try.func52.trans (congrArg some (by kernel_rfl))⟩
  f27 := ⟨Try.f53.name, by decide, Try.func53.trans (congrArg some (by kernel_rfl))⟩
  f28 := Try.func54.trans (congrArg some (by kernel_rfl))
  f29 := Try.func55.trans (congrArg some (by kernel_rfl))
  f46 := ⟨Try.f64.name, by decide, Try.func64.trans (congrArg some (by kernel_rfl))⟩
  f47 := Try.func65.trans (congrArg some (by kernel_rfl))
  f48 := Try.func66.trans (congrArg some (by kernel_rfl))
  f49 := ⟨Try.f67.name, by decide, Try.func67.trans (congrArg some (by kernel_rfl))⟩
  f50 := ⟨Try.f68.name, by decide, Try.func68.trans (congrArg some (by kernel_rfl))⟩
  f57 := ⟨Try.f69.name, by decide, Try.func69.trans (congrArg some (by kernel_rfl))⟩
  t0 := Try.underlying0
  a0 := Try.isAgg0
  z0 := Try.sizeOf0
  v0 := Try.zeroValue0
  t3 := Try.underlying3
  a3 := Try.isAgg3
  z3 := Try.sizeOf3
  v3 := Try.zeroValue3
  t4 := Try.underlying4
  a4 := Try.isAgg4
  z4 := Try.sizeOf4
  v4 := Try.zeroValue4
  t5 := Try.underlying5
  a5 := Try.isAgg5
  z5 := Try.sizeOf5
  v5 := Try.zeroValue5
  t9 := Try.underlying9
  a9 := Try.isAgg9
  z9 := Try.sizeOf9
  v9 := Try.zeroValue9
  t22 := Try.underlying22
  a22 := Try.isAgg22
  z22 := Try.sizeOf22
  v22 := Try.zeroValue22
  t25 := Try.underlying56
  a25 := Try.isAgg56
  z25 := Try.sizeOf56
  v25 := Try.zeroValue56
  t39 := Try.underlying66
  a39 := Try.isAgg66
  z39 := Try.sizeOf66
  v39 := Try.zeroValue66
  t45 := Try.underlying74
  a45 := Try.isAgg74
  z45 := Try.sizeOf74
  v45 := Try.zeroValue74
  t46 := Try.underlying75
  a46 := Try.isAgg75
  z46 := Try.sizeOf75
  v46 := Try.zeroValue75
  t50 := Try.underlying79
  a50 := Try.isAgg79
  z50 := Try.sizeOf79
  v50 := Try.zeroValue79
  t53 := Try.underlying82
  a53 := Try.isAgg82
  z53 := Try.sizeOf82
  v53 := Try.zeroValue82
  t55 := Try.underlying23
  a55 := Try.isAgg23
  z55 := Try.sizeOf23
  v55 := Try.zeroValue23
  t66 := Try.underlying88
  a66 := Try.isAgg88
  z66 := Try.sizeOf88
  v66 := Try.zeroValue88
  t70 := Try.underlying92
  a70 := Try.isAgg92
  z70 := Try.sizeOf92
  v70 := Try.zeroValue92
  t76 := Try.underlying94
  a76 := Try.isAgg94
  z76 := Try.sizeOf94
  v76 := Try.zeroValue94
  t77 := Try.underlying95
  a77 := Try.isAgg95
  z77 := Try.sizeOf95
  v77 := Try.zeroValue95 }
end Go.Proofs
/- slices.SortFunc at atoms: the laying, the order's func. -/
namespace Go.Proofs
set_option linter.unusedVariables false
set_option linter.unusedSimpArgs false
open Go.Shelf Go.RowKit Go.Lib Go.Sort
open Go.Proofs.YtcnmbllafdeokaaW.PrintWords Go.Proofs.YtcnmbllafdeokaaW.PrintLast Go.Proofs.YtcnmbllafdeokaaW.PrintMore Go.Proofs.Ytcnmbllafdeokaa.TrM Go.Proofs.Ytcnmbllafdeokaa.AtM
def Ytcnmbllafdeokaa.encA (x : Int × Int) : List Value := [.int .u64 x.1, .int .i64 x.2]
theorem Ytcnmbllafdeokaa.normCmp (x y : Int × Int) (W : World) (hx : U64 x.1) (hy : U64 y.1) : Calls Try.prog 29 #[.agg #[.int .u64 x.1, .int .i64 x.2], .agg #[.int .u64 y.1, .int .i64 y.2]] W fun e w' => e = .returned (.int .i64 (cmpS x.1 y.1)) ∧ ∃ q os', w' = grow (W.drewN q) os' := by
  have hcon := fun W' => Ytcnmbllafdeokaa.H.Cmp_calls x.1 y.1 W' hx hy
  generalize cmpS x.1 y.1 = r at hcon ⊢
  go_enter Try.func29, Try.ntmps29
  go_wp2_with (go_at_call 30; refine (hcon _).mono ?_; rintro e w' ⟨rfl, o, rfl⟩)
  go_ret
  exact ⟨rfl, 0, _, by rw [alloc_eq_grow, alloc_eq_grow, alloc_eq_grow, grow_grow, grow_grow]; rfl⟩
end Go.Proofs
/- Worlds that differ in some blocks alone; an append to a row of one's own inside a fence. -/
namespace Go.Proofs.Ytcnmbllafdeokaa.H
open Go.RowKit Go.Proofs.YtcnmbllafdeokaaW.PrintWords Go.Proofs.YtcnmbllafdeokaaW.PrintLast Go.Proofs.YtcnmbllafdeokaaW.PrintMore
set_option linter.unusedVariables false
set_option linter.unusedSimpArgs false


theorem Lies.R {α : Type} {d : Kd α} {e : Nat} {B base : Nat} {ok : Nat → Prop} {W W' : World} {v : Value} {xs : List α} (h : Lies B W W') (hr : d.R e W base ok v xs) : d.R e W' base ok v xs :=
  Kd.R_mono (Kd.R_move (Kd.R_bound hr) (fun k hk => by obtain ⟨_, _, _, q, _, cells, hc⟩ := hk; rw [hc]; exact h.blk hc)) (fun _ hk => hk.1)
theorem Lies.Ty {t : TypeId} {B : Nat} {W W' : World} {A : Option Addr} (h : Lies B W W') (ht : Ty t W A) : Ty t W' A := fun ad e => by
  obtain ⟨cs, z, hc⟩ := ht ad e
  exact ⟨cs, z, h.blk hc⟩
/-- W' is W but for the blocks of P, and new ones. -/
structure But (P : Nat → Prop) (W W' : World) : Prop where
  os : W'.os = W.os
  tape : W'.tape = W.tape
  output : W'.output = W.output
  size : W.heap.size ≤ W'.heap.size
  block : ∀ k, k < W.heap.size → ¬ P k → W'.heap[k]? = W.heap[k]?
theorem But.refl (P : Nat → Prop) (W : World) : But P W W := ⟨rfl, rfl, rfl, Nat.le_refl _, fun _ _ _ => rfl⟩
theorem But.trans {P : Nat → Prop} {X Y Z : World} (h : But P X Y) (k : But P Y Z) : But P X Z := ⟨k.os.trans h.os, k.tape.trans h.tape, k.output.trans h.output, Nat.le_trans h.size k.size, fun i hi hp => (k.block i (Nat.lt_of_lt_of_le hi h.size) hp).trans (h.block i hi hp)⟩
/-- The second step may turn what the first one made, too. -/
theorem But.then {P Q : Nat → Prop} {X Y Z : World} (h : But P X Y) (k : But Q Y Z) (hq : ∀ i, i < X.heap.size → Q i → P i) : But P X Z := ⟨k.os.trans h.os, k.tape.trans h.tape, k.output.trans h.output, Nat.le_trans h.size k.size, fun i hi hp => (k.block i (Nat.lt_of_lt_of_le hi h.size) (fun h2 => hp (hq i hi h2))).trans (h.block i hi hp)⟩
theorem But.mono {P Q : Nat → Prop} {W W' : World} (h : But P W W') (hq : ∀ k, k < W.heap.size → P k → Q k) : But Q W W' := ⟨h.os, h.tape, h.output, h.size, fun k hk hp => h.block k hk (fun h2 => hp (hq k hk h2))⟩
theorem But.of_below {P : Nat → Prop} {W W' : World} (h : Below W.heap.size W W') : But P W W' := ⟨h.os, h.tape, h.output, h.size, fun k hk _ => h.block k hk⟩
theorem But.of_oth {P : Nat → Prop} {g : Nat} {W W' : World} (h : Oth g W W') (hg : P g) : But P W W' := ⟨h.os, h.tape, h.output, h.size, fun k hk hp => h.block k hk (fun e => hp (e ▸ hg))⟩
theorem But.of_grown {P : Nat → Prop} {W W' : World} {r : Option Nat} (h : W.grownBy W' r) (hr : ∀ k, r = some k → P k) : But P W W' := ⟨h.os, h.tape, h.output, h.size, fun k hk hp => h.block k hk (fun e => hp (hr k e.symm))⟩
theorem But.below {P : Nat → Prop} {B : Nat} {w W W' : World} (h : But P W W') (hb : Below B w W) (hB : B ≤ W.heap.size) (hP : ∀ k, P k → B ≤ k) : Below B w W' :=
  ⟨h.os.trans hb.os, h.tape.trans hb.tape, h.output.trans hb.output, Nat.le_trans hb.size h.size, fun k hk => (h.block k (by omega) (fun hp => by have := hP k hp; omega)).trans (hb.block k hk)⟩
theorem But.blk {P : Nat → Prop} {W W' : World} (h : But P W W') {k : Nat} {o : Obj} (hb : W.heap[k]? = some o) (hp : ¬ P k) : W'.heap[k]? = some o := (h.block k (lt_of_some hb) hp).trans hb
theorem But.cell {P : Nat → Prop} {W W' : World} (h : But P W W') {a : Addr} {v : Value} (hc : W.cell? a = some v) (hp : ¬ P a.block) : W'.cell? a = some v :=
  (World.cell?_of_block (h.block _ (World.block_lt_of_cell? W a hc) hp)).trans hc
theorem But.C {P : Nat → Prop} {W W' : World} {t : TypeId} {k : IntKind} {A : Option Addr} {n : Nat} {xs : List Int} (h : But P W W') (hT : Ty t W A) (hc : Kd.C (Kd.int k) W A n xs) (hp : ∀ i cs z, W.heap[i]? = some (Obj.cells cs t z) → ¬ P i) : Kd.C (Kd.int k) W' A n xs :=
  C_ty hT hc (fun i cs z hi => h.block i (lt_of_some hi) (hp i cs z hi))
theorem But.Ty {P : Nat → Prop} {W W' : World} {t : TypeId} {A : Option Addr} (h : But P W W') (hT : Ty t W A) (hp : ∀ i cs z, W.heap[i]? = some (Obj.cells cs t z) → ¬ P i) : Ty t W' A :=
  hT.of_ty (fun i cs z hi => h.block i (lt_of_some hi) (hp i cs z hi))
theorem But.R {α : Type} {d : Kd α} {e : Nat} {P : Nat → Prop} {base : Nat} {ok : Nat → Prop} {W W' : World} {v : Value} {xs : List α} (h : But P W W') (hr : d.R e W base ok v xs) (hp : ∀ k, ok k → base ≤ k → (∃ q, q ∈ e :: d.E ∧ ∃ cells, W.heap[k]? = some (.cells cells q (0, 0))) → ¬ P k) : d.R e W' base ok v xs :=
  Kd.R_mono (Kd.R_move (Kd.R_bound hr) (fun k hk => h.block k hk.2.2.1 (hp k hk.1 hk.2.1 hk.2.2.2))) (fun _ hk => hk.1)
theorem ne_block' {w : World} {g : Nat} {cs cs' : Array Value} {t t' : TypeId} {z z' : Nat × Nat} {k : Nat} (h : w.heap[g]? = some (.cells cs t z)) (h' : w.heap[k]? = some (.cells cs' t' z')) (hne : t ≠ t') : g ≠ k := fun e => by
  subst e; rw [h] at h'; injection h' with h'; injection h' with _ h' _; exact hne h'
/-- A row of one's own of a kind whose cells tell all: its block alone counts. -/
theorem R_sharp {α : Type} {enc : α → Value} {h1 : ∀ x, (enc x).oneCell' = true} {e : Nat} {w : World} {base : Nat} {ok : Nat → Prop} {v : Value} {xs : List α} (h : (Kd.scalar enc h1).R e w base ok v xs) : (Kd.scalar enc h1).R e w base (fun k => v.ownBlock = some k) v xs := ⟨fun k hk => hk, h.2⟩
/-- A slice as a cell has it. -/
abbrev Sl := Option Addr × Nat × Nat
def KSl : Kd Sl := Kd.scalar (fun x => .slice x.1 x.2.1 x.2.2) (fun _ => rfl)
/-- A literal of one element. -/
theorem R_one {α : Type} {d : Kd α} {e base g : Nat} {W : World} {cs : List Value} {x : α} (hg : W.heap[g]? = some (.cells cs.toArray e (0, 0))) (hb : base ≤ g) (hM : ∀ ok, d.M W base ok x cs) : d.R e W base (fun _ => True) (.slice (some ⟨g, 0, none⟩) 1 1) [x] := by
  have hl : cs.length = d.sz := d.K_len (d.K_of_M (hM (fun _ => True)))
  refine ⟨fun _ _ => trivial, cs, ⟨by simp [hl], .inr ⟨g, 1, cs.toArray, rfl, hb, hg, Nat.le_refl _, by decide, by simp [hl], by simp [← hl]⟩⟩, ?_⟩
  exact Reps.snoc (Reps.none _ _) (hM _) hl
theorem Kp.of_grown {n₀ : Nat} {Kb : Nat → Prop} {A A' : World} {r : Option Nat} (h : A.grownBy A' r) (hr : ∀ k, r = some k → ¬ Kb k) (hn : n₀ ≤ A.heap.size) : Kp n₀ Kb A A' := ⟨h.size, fun k hk hb => h.block k (by omega) (fun e => hr k e.symm hb)⟩
theorem RIn_append {F : Fence} {n : Nat} {P : Program} {α : Type} {ops : Array Oper} {rest : List Oper} {o : Oper} {a : Act} {Q : Exit → Act → World → Prop} (d : Kd α) {w0 W : World} (base : Nat) (hgd : o.guard = none) (s x : Operand) (t e : TypeId) (z : Value) (bytes : Nat)
    (ho : o.op = .call { callee := .builtin .append, args := #[s, x], argTypes := #[t, t] })
    (ht : P.underlying t = some (.slice e)) (hinfo : (P.info? e).map (fun i => (i.zero, i.size, i.bytes)) = some (some z, d.sz, bytes)) (hz : z.cells.size = d.sz) (hs0 : 0 < d.sz) (hb0 : 0 < bytes)
    (v : Value) (xs : List α) (p : α) (cs : List Value) (ok okp : Nat → Prop) (hs : a.eval s = v) (hx : a.eval x = .slice (some ⟨W.heap.size, 0, none⟩) 1 1) (hp : d.M W base okp p cs) (hokp : ∀ k, okp k → ok k ∧ some k ≠ v.ownBlock) (hfresh : ∀ k, W.heap.size ≤ k → ok k)
    (HO : d.R e W base ok v xs) (HB : Below base w0 W) (hbase : base ≤ W.heap.size) (hl : (xs.length + 1) * bytes ≤ 140737488355328)
    (h : ∀ v1 w1, d.R e w1 base ok v1 (xs ++ [p]) → Below base w0 w1 → W.grownBy w1 v.ownBlock → (v1.ownBlock = v.ownBlock ∨ ∃ b, v1.ownBlock = some b ∧ W.heap.size ≤ b) → wpListIn F n P ops Q rest (a.put o.dst v1) w1) :
    wpListIn F n P ops Q (o :: rest) a (W.alloc (.cells cs.toArray e)) := by
  obtain ⟨h0, inner, hown, hr⟩ := HO
  obtain ⟨i0, hi, hzz⟩ := Option.map_eq_some_iff.1 hinfo
  simp only [Prod.mk.injEq] at hzz
  obtain ⟨hz0, hz1, hz2⟩ := hzz
  have hlen : xs.length + 1 ≤ 140737488355328 := Nat.le_trans (Nat.le_mul_of_pos_right _ hb0) hl
  have hys : cs.length = d.sz := d.K_len (d.K_of_M hp)
  refine wpListIn_plain hgd fun K hK' => ?_
  obtain ⟨v1, w1, hrun, r1, r2, r3, r4⟩ := run_append_own_at (P := P) (W.alloc (.cells cs.toArray e)) base t o.type e i0 z d.sz bytes ht hi hz0 hz1 hz2 hz hs0 v xs.length inner (hown.alloc _) ⟨W.heap.size, 0, none⟩ 1 1 cs (by rw [hys]; simp)
    (by simpa using World.news_of_block (cs := cs.toArray) (t := e) (fr := (0, 0)) (heap_alloc_new W (.cells cs.toArray e))) (d.K_one (d.K_of_M hp)) (by simp only [maxLen]; omega) hl (by simp; omega)
  have hat : v1.ownBlock = v.ownBlock ∨ ∃ b, v1.ownBlock = some b ∧ W.heap.size ≤ b := by
    rcases r4 with r4 | r4
    · exact .inl r4
    · exact .inr ⟨_, r4, by simp⟩
  have hg1 : W.grownBy w1 v.ownBlock := World.grownBy.trans (World.grownBy_alloc W _ _) r2
  have hfin := h v1 w1 (Kd.R_appended h0 hr hp hokp hfresh r1 hg1 hat) ((HB.alloc hbase _).grown r2 (by simp; omega) (own_base hown)) hg1 hat
  unfold Oper.wpIn
  refine ⟨?_, ?_⟩
  · simp [Oper.about, ho, resolve, Target.leads, Sem.run_pure]
  · rw [Oper.semAt_plain F _ _ (by rw [ho]; intro c hc'; cases hc')]
    simp [execOp, ho, resolve, invoke, builtin, hs, hx, hrun, Result.andThen]
    exact hK' _ _ hfin
theorem wpListIn_store_agg {F : Fence} {n : Nat} {P : Program} {ops : Array Oper} {rest : List Oper} {o : Oper} {a : Act} {Q : Exit → Act → World → Prop} {W : World} (hN : o.dst = none) (hgd : o.guard = none) (t : TypeId) (p x : Operand) (ho : o.op = .store t p x) (g : Nat) (e : TypeId) (cur V : Array Value)
    (hp : a.eval p = .pointer (some ⟨g, 0, none⟩)) (hx : a.eval x = .agg V) (hh : W.heap[g]? = some (.cells cur e (0, 0))) (ht : (P.info? t).map (·.size) = some V.size) (hs : cur.size = V.size)
    (h1 : ∀ q ∈ V.toList, q.oneCell' = true)
    (h : ∀ w1, w1.heap[g]? = some (.cells V e (0, 0)) → (∀ k, k ≠ g → w1.heap[k]? = W.heap[k]?) → w1.heap.size = W.heap.size → w1.os = W.os → w1.tape = W.tape → w1.output = W.output → wpListIn F n P ops Q rest a w1) : wpListIn F n P ops Q (o :: rest) a W := by
  have hl : V.toList.length = V.size := Array.length_toList
  have hrun : (Instr.storeAt t (.pointer (some ⟨g, 0, none⟩)) (.agg V)).run P W = .ok () (W.setCells g 0 V.toList) :=
    run_store_run t (.agg V) V.toList hh rfl (by rw [ht, hl]) (by omega) h1
  obtain ⟨cur', h3, h4, h5⟩ := setCells_row (g := g) V.toList 0 W cur hh (by omega)
  obtain ⟨s1, s2, s3, s4⟩ := setCells_same g V.toList 0 W
  have e2 : cur' = V := by
    apply Array.toList_inj.mp
    rw [h5, List.take_zero, List.nil_append, List.drop_of_length_le (by rw [Array.length_toList]; omega), List.append_nil]
  subst e2
  have hfin := h _ h3 (fun k hk => setCells_far _ 0 k hk) s4 s1 s2 s3
  refine wpListIn_plain hgd fun K hK => ?_
  unfold Oper.wpIn
  refine ⟨?_, ?_⟩
  · simp [Oper.about, ho]
  · rw [Oper.semAt_plain F _ _ (by rw [ho]; intro c hc'; cases hc')]
    unfold execOp
    simp only [ho, hp, hx, Sem.run_bind, Sem.run_pure, Result.andThen_ok, hrun]
    show K (a.put o.dst undef) _
    rw [hN]
    exact hK a _ hfin
theorem oth_of2 {g : Nat} {w w1 : World} (hf : ∀ k, k ≠ g → w1.heap[k]? = w.heap[k]?) (hz : w1.heap.size = w.heap.size) (ho : w1.os = w.os) (ht : w1.tape = w.tape) (hu : w1.output = w.output) : Oth g w w1 := ⟨ho, ht, hu, Nat.le_of_eq hz.symm, fun k _ hk => hf k hk⟩
theorem KeepsFrom.of_but {B : Nat} {P : Nat → Prop} {W W' : World} (h : But P W W') (hP : ∀ k o, P k → W.heap[k]? = some o → o.isCells = true) : KeepsFrom B W W' :=
  ⟨h.size, fun k o _ hk ho => h.blk hk (fun hp => by have := hP k o hp hk; rw [ho] at this; cases this)⟩
theorem Kp.of_but {n₀ : Nat} {Kb P : Nat → Prop} {A A' : World} (h : But P A A') (hr : ∀ k, k < n₀ → Kb k → ¬ P k) (hn : n₀ ≤ A.heap.size) : Kp n₀ Kb A A' := ⟨h.size, fun k hk hb => h.block k (by omega) (hr k hk hb)⟩
end Go.Proofs.Ytcnmbllafdeokaa.H
/- slices.SortFunc at atoms whose sets are apart: the row then holds them as sets stand. -/
--NT
namespace Go.Proofs.Ytcnmbllafdeokaa.AtM
open Go Go.Proofs Go.Shelf Go.Sort Go.Proofs.Ytcnmbllafdeokaa.TrM
/-- The atoms of a list, for the order's func speaks of all of a type. -/
abbrev AtIn (L : List At) := {x : At // x ∈ L}
def cfIn (L : List At) (x y : AtIn L) : Int := cmpS x.1.1 y.1.1
theorem ltOf_in (L : List At) (x y : AtIn L) : ltOf (cfIn L) x y = ltS x.1.1 y.1.1 := by
  unfold ltOf cfIn; exact cmp_lt _ _
theorem swoIn (L : List At) : SWO (ltOf (cfIn L)) where
  irrefl x := Sw.swoS.irrefl x.1
  trans x y z h1 h2 := Sw.swoS.trans x.1 y.1 z.1 h1 h2
  ntrans x y z h1 h2 := Sw.swoS.ntrans x.1 y.1 z.1 h1 h2
theorem apart_inj : ∀ {L : List At}, L.Pairwise (fun x y => x.1 ≠ y.1) → ∀ x ∈ L, ∀ y ∈ L, x.1 = y.1 → x = y := by
  intro L
  induction L with
  | nil => intro _ x hx; simp at hx
  | cons a L ih =>
    intro h x hx y hy e
    obtain ⟨h1, h2⟩ := List.pairwise_cons.1 h
    rcases List.mem_cons.1 hx with hxa | hx
    · rcases List.mem_cons.1 hy with hya | hy
      · rw [hxa, hya]
      · exact absurd (hxa ▸ e) (h1 y hy)
    · rcases List.mem_cons.1 hy with hya | hy
      · exact absurd (hya ▸ e).symm (h1 x hx)
      · exact ih h2 x hx y hy e
theorem totIn {L : List At} (hd : L.Pairwise (fun x y => x.1 ≠ y.1)) (x y : AtIn L) (h : ltOf (cfIn L) x y = false) (k : ltOf (cfIn L) y x = false) : x = y := by
  rw [ltOf_in] at h k
  exact Subtype.ext (apart_inj hd _ x.2 _ y.2 (ordS.tot _ _ h k))
theorem merged {L : List At} (hd : L.Pairwise (fun x y => x.1 ≠ y.1)) : (L.attach.mergeSort fun x y => !(ltOf (cfIn L)) y x).map Subtype.val = sortS L := by
  have hp : ((L.attach.mergeSort fun x y => !(ltOf (cfIn L)) y x).map Subtype.val).Perm L := by
    have h := (List.mergeSort_perm L.attach (fun x y => !(ltOf (cfIn L)) y x)).map Subtype.val
    rwa [List.attach_map_subtype_val] at h
  have hs : (L.attach.mergeSort fun x y => !(ltOf (cfIn L)) y x).Pairwise (fun x y => (!(ltOf (cfIn L)) y x) = true) := by
    refine List.pairwise_mergeSort ?_ ?_ _
    · intro a b c h1 h2
      simp only [Bool.not_eq_true'] at *
      exact (swoIn L).ntrans _ _ _ h2 h1
    · intro a b
      simp only [Bool.or_eq_true, Bool.not_eq_true']
      rw [ltOf_in, ltOf_in]
      cases h : ltS b.1.1 a.1.1 with
      | false => exact .inl rfl
      | true => exact .inr (ordS.asym h)
  have hne : ((L.attach.mergeSort fun x y => !(ltOf (cfIn L)) y x).map Subtype.val).Pairwise (fun x y : At => x.1 ≠ y.1) :=
    (hp.pairwise_iff (fun {a b} h => fun e => h e.symm)).2 hd
  refine risesS_ext ?_ (sortS_rises L hd) (fun a => by rw [hp.mem_iff, sortS_mem])
  unfold RisesS
  rw [List.pairwise_map] at hne ⊢
  refine (hs.and hne).imp (fun {a b} h => ?_)
  have h1 := h.1
  simp only [Bool.not_eq_true', ltOf_in] at h1
  cases h2 : ltS a.1.1 b.1.1 with
  | true => rfl
  | false => exact absurd (ordS.tot _ _ h2 h1) h.2
end Go.Proofs.Ytcnmbllafdeokaa.AtM
namespace Go.Proofs.Ytcnmbllafdeokaa.H
open Go.Shelf Go.Lib Go.Sort Go.RowKit Go.Proofs.YtcnmbllafdeokaaW.PrintWords Go.Proofs.YtcnmbllafdeokaaW.PrintLast Go.Proofs.YtcnmbllafdeokaaW.PrintMore Go.Proofs.Ytcnmbllafdeokaa.TrM Go.Proofs.Ytcnmbllafdeokaa.AtM
set_option linter.unusedVariables false
set_option linter.unusedSimpArgs false
theorem oth_sortK {α : Type} [Inhabited α] (enc : α → List Value) (k : Nat) (w : World) (blk off m : Nat) (dk : Array α) (os : Array Obj) : Oth blk w (sortWorldK enc k w blk off m dk os) := by
  have hs : (mapBlock (Sort.ahead w m) blk (putCells id off (flatK enc k dk))).heap.size = w.heap.size := by
    show (w.heap.modify _ _).size = _
    rw [Array.size_modify]
  refine ⟨rfl, rfl, rfl, ?_, fun i hi hne => ?_⟩
  · show w.heap.size ≤ ((mapBlock (Sort.ahead w m) blk (putCells id off (flatK enc k dk))).heap ++ os).size
    rw [Array.size_append, hs]; omega
  · show ((mapBlock (Sort.ahead w m) blk (putCells id off (flatK enc k dk))).heap ++ os)[i]? = _
    rw [Array.getElem?_append_left (by rw [hs]; exact hi)]
    show (w.heap.modify _ _)[i]? = _
    rw [Array.getElem?_modify, if_neg (fun e => hne e.symm)]
theorem add_at (g o n : Nat) : (⟨g, o, none⟩ : Addr).add n = ⟨g, o + n, none⟩ := by
  unfold Addr.add
  split
  · rename_i h; subst h; rfl
  · rfl
theorem C_holds {L : List At} [Inhabited (AtIn L)] {w : World} {blk off : Nat} {d : Array (AtIn L)} (h : HoldsK (fun x : AtIn L => Ytcnmbllafdeokaa.encA x.1) 2 w blk off d) (hl : d.size ≤ 9223372036854775807) : Kd.C KAt w (some ⟨blk, off, none⟩) d.size (d.toList.map Subtype.val) := by
  refine ⟨by simp, hl, fun _ => ⟨_, rfl, fun j p hj => ?_⟩⟩
  rw [List.getElem?_map] at hj
  obtain ⟨q, hq, rfl⟩ := Option.map_eq_some_iff.1 hj
  obtain ⟨hjl, hjq⟩ := List.getElem?_eq_some_iff.1 hq
  have hjs : j < d.size := by simpa using hjl
  have e : d[j]! = q := by
    rw [getElem!_pos d j hjs]; simpa using hjq
  refine ⟨[.int .u64 q.1.1, .int .i64 q.1.2], rfl, ⟨[_], [_], rfl, rfl, rfl⟩, fun i u hu => ?_⟩
  have hi : i < 2 := by have := (List.getElem?_eq_some_iff.1 hu).1; simpa using this
  have := (h.cell hjs hi).1
  rw [e] at this
  show w.cell? ((⟨blk, off, none⟩ : Addr).add (j * 2 + i)) = _
  rw [add_at, ← Nat.add_assoc, this]
  obtain ⟨hi2, hu2⟩ := List.getElem?_eq_some_iff.1 hu
  rcases i with _ | _ | i
  · simpa [Ytcnmbllafdeokaa.encA] using hu2
  · simpa [Ytcnmbllafdeokaa.encA] using hu2
  · omega
theorem holds_R {L : List At} [Inhabited (AtIn L)] {e : Nat} {w : World} {base g c : Nat} {ok : Nat → Prop} (h : Kd.R KAt e w base ok (.slice (some ⟨g, 0, none⟩) L.length c) L) : HoldsK (fun x : AtIn L => Ytcnmbllafdeokaa.encA x.1) 2 w g 0 L.attach.toArray := by
  obtain ⟨A, c', h1, _, hC⟩ := Kd.R_reads h
  injection h1 with h1 _ _
  subst h1
  have hz : ∀ off, w.frozen? ⟨g, off, none⟩ = false := by
    obtain ⟨_, inner, ho, _⟩ := h
    rcases ho.2 with ⟨h1, _⟩ | ⟨g', cap, cur, h1, _, hh, _⟩
    · cases h1
    · injection h1 with h1 _ _
      injection h1 with h1
      injection h1 with h1
      subst h1
      exact fun off => blk_frozen hh off
  intro t ht
  rw [size_flatK] at ht
  rw [get_flatK _ _ _ _ ht]
  have hj : t / 2 < L.length := by simp at ht; omega
  have hja : L.attach.toArray[t / 2]! = ⟨L[t / 2], List.getElem_mem hj⟩ := by
    rw [getElem!_pos _ _ (by simpa using hj)]
    simp
  rw [hja]
  obtain ⟨ad, e1, hx0, hx1⟩ := at_atom (i := t / 2) hC hj (s := (L[t / 2]).1) (v := (L[t / 2]).2) (List.getElem?_eq_getElem hj)
  injection e1 with e1
  subst e1
  refine ⟨?_, hz _⟩
  rw [add_at] at hx0 hx1
  have hm := Nat.div_add_mod t 2
  have hm2 : t % 2 < 2 := Nat.mod_lt _ (by omega)
  rcases hq : t % 2 with _ | _ | q
  · rw [show 0 + t = 0 + t / 2 * 2 by omega, hx0]; rfl
  · rw [show 0 + t = 0 + t / 2 * 2 + 1 by omega, hx1]; rfl
  · omega
theorem sortK_blk {α : Type} [Inhabited α] (enc : α → List Value) (k : Nat) (w : World) (blk m : Nat) (dk : Array α) (os : Array Obj) {cur : Array Value} {e : Nat} {fr : Nat × Nat} (h : w.heap[blk]? = some (.cells cur e fr)) :
    (sortWorldK enc k w blk 0 m dk os).heap[blk]? = some (.cells (putCells id 0 (flatK enc k dk) cur) e fr) := by
  have hs : (mapBlock (Sort.ahead w m) blk (putCells id 0 (flatK enc k dk))).heap.size = w.heap.size := by
    show (w.heap.modify _ _).size = _
    rw [Array.size_modify]
  show ((mapBlock (Sort.ahead w m) blk (putCells id 0 (flatK enc k dk))).heap ++ os)[blk]? = _
  rw [Array.getElem?_append_left (by rw [hs]; exact lt_of_some h)]
  show (w.heap.modify _ _)[blk]? = _
  rw [Array.getElem?_modify, if_pos rfl, h]
  rfl
theorem put_take (F cur : Array Value) (h : F.size ≤ cur.size) : (putCells id 0 F cur).toList.take F.size = F.toList := by
  apply List.ext_getElem?
  intro i
  unfold putCells
  rw [List.getElem?_take]
  by_cases hi : i < F.size
  · rw [if_pos hi, Array.getElem?_toList, Array.getElem?_mapIdx, Array.getElem?_eq_getElem (by omega), Option.map_some, if_pos (by omega), Array.getElem?_toList, Array.getElem?_eq_getElem hi, Nat.sub_zero, id, getElem!_pos F i hi]
  · rw [if_neg hi, Array.getElem?_toList, Array.getElem?_eq_none (by omega)]
theorem two_at {l : List Value} {i : Nat} (h : i + 1 < l.length) : (l.drop i).take 2 = [l[i], l[i + 1]] := by
  rw [List.drop_eq_getElem_cons (by omega), List.drop_eq_getElem_cons (by omega)]
  rfl
theorem R_sorted {L : List At} [Inhabited (AtIn L)] {e : Nat} {w : World} {base g c : Nat} {ok : Nat → Prop} (h : Kd.R KAt e w base ok (.slice (some ⟨g, 0, none⟩) L.length c) L) (m : Nat) (dk : Array (AtIn L)) (os : Array Obj) (hd : dk.size = L.length) :
    Kd.R KAt e (sortWorldK (fun x : AtIn L => Ytcnmbllafdeokaa.encA x.1) 2 w g 0 m dk os) base ok (.slice (some ⟨g, 0, none⟩) L.length c) (dk.toList.map Subtype.val) := by
  obtain ⟨h0, inner, ho, hr⟩ := h
  rcases ho.2 with ⟨h1, _⟩ | ⟨g', cap, cur, h1, h2, hh, h3, h4, h5, h6⟩
  · cases h1
  · injection h1 with h1 _ hcap
    injection h1 with h1
    injection h1 with h1
    subst h1; subst hcap
    have hF : (flatK (fun x : AtIn L => Ytcnmbllafdeokaa.encA x.1) 2 dk).size = L.length * 2 := by rw [size_flatK, hd]
    have hFc : (flatK (fun x : AtIn L => Ytcnmbllafdeokaa.encA x.1) 2 dk).size ≤ cur.size := by rw [hF, h5]; exact Nat.mul_le_mul_right _ h3
    have hlm : (dk.toList.map Subtype.val).length = L.length := by simp [hd]
    refine ⟨h0, (flatK (fun x : AtIn L => Ytcnmbllafdeokaa.encA x.1) 2 dk).toList, ⟨?_, .inr ⟨g, c, _, by rw [hlm], h2, sortK_blk _ _ _ _ _ _ _ hh, by rw [hlm]; exact h3, h4, ?_, ?_⟩⟩, ?_, ?_⟩
    · rw [Array.length_toList, hF, hlm]; rfl
    · unfold putCells; rw [Array.size_mapIdx]; exact h5
    · have := put_take _ _ hFc
      rw [hF] at this
      rw [hlm]; exact this
    · rw [Array.length_toList, hF, hlm]; rfl
    · intro j p hj
      rw [List.getElem?_map] at hj
      obtain ⟨q, hq, rfl⟩ := Option.map_eq_some_iff.1 hj
      obtain ⟨hjl, hjq⟩ := List.getElem?_eq_some_iff.1 hq
      have hjs : j < dk.size := by simpa using hjl
      have e1 : dk[j]! = q := by rw [getElem!_pos dk j hjs]; simpa using hjq
      have hl2 : j * 2 + 1 < (flatK (fun x : AtIn L => Ytcnmbllafdeokaa.encA x.1) 2 dk).toList.length := by rw [Array.length_toList, hF]; omega
      have e2 : ∀ t (ht : t < (flatK (fun x : AtIn L => Ytcnmbllafdeokaa.encA x.1) 2 dk).toList.length), (flatK (fun x : AtIn L => Ytcnmbllafdeokaa.encA x.1) 2 dk).toList[t] = (Ytcnmbllafdeokaa.encA dk[t / 2]!.1)[t % 2]! := fun t ht => by
        have h7 := get_flatK (fun x : AtIn L => Ytcnmbllafdeokaa.encA x.1) 2 dk t (by rw [Array.length_toList, size_flatK] at ht; exact ht)
        rw [getElem!_pos _ t (by rw [Array.length_toList] at ht; exact ht)] at h7
        rw [Array.getElem_toList]; exact h7
      show KAt.M _ _ _ _ (List.take 2 (List.drop (j * 2) _))
      rw [two_at hl2, e2, e2, show j * 2 / 2 = j by omega, show (j * 2 + 1) / 2 = j by omega, show j * 2 % 2 = 0 by omega, show (j * 2 + 1) % 2 = 1 by omega, e1]
      exact ⟨[_], [_], rfl, rfl, rfl⟩
end Go.Proofs.Ytcnmbllafdeokaa.H
/- slices.SortFunc at atoms whose sets are apart: the call. -/
namespace Go.Proofs.Ytcnmbllafdeokaa.H
open Go.Shelf Go.Lib Go.Sort Go.RowKit Go.Proofs.YtcnmbllafdeokaaW.PrintWords Go.Proofs.YtcnmbllafdeokaaW.PrintLast Go.Proofs.YtcnmbllafdeokaaW.PrintMore Go.Proofs.Ytcnmbllafdeokaa.TrM Go.Proofs.Ytcnmbllafdeokaa.AtM
set_option linter.unusedVariables false
set_option linter.unusedSimpArgs false
theorem Sort_calls (L : List At) (hu : ∀ x ∈ L, U64 x.1) (hd : L.Pairwise (fun x y => x.1 ≠ y.1)) (hl : L.length ≤ 600000) (v : Value) {base : Nat} {ok : Nat → Prop} (W : World) (h : Kd.R KAt 29 W base ok v L) :
    Calls Try.prog 28 #[v, .func (.func 29) #[] #[]] W fun e W' => e = .returned (.tuple #[]) ∧ Kd.R KAt 29 W' base ok v (sortS L) ∧ But (fun k => v.ownBlock = some k) W W' := by
  have hR := h
  obtain ⟨_, inner, ho, _⟩ := h
  rcases ho.2 with ⟨rfl, hn⟩ | ⟨g, cap, cur, rfl, hb, hh, hcl, hcap, _, _⟩
  · obtain rfl : L = [] := List.eq_nil_of_length_eq_zero hn
    have hcon := AnyF.slices_SortFunc_none Try.sortIv none 0 (.func (.func 29) #[] #[]) W
    exact hcon.mono fun e W' ⟨h1, h2⟩ => ⟨h1, by rw [h2]; exact hR, by rw [h2]; exact But.refl _ _⟩
  · cases hL : L with
    | nil =>
      subst hL
      have hcon := AnyF.slices_SortFunc_none Try.sortIv (some ⟨g, 0, none⟩) cap (.func (.func 29) #[] #[]) W
      exact hcon.mono fun e W' ⟨h1, h2⟩ => ⟨h1, by rw [h2]; exact hR, by rw [h2]; exact But.refl _ _⟩
    | cons a0 L0 =>
      rw [← hL]
      have ha : a0 ∈ L := by rw [hL]; simp
      clear hL L0
      haveI : Inhabited (AtIn L) := ⟨⟨a0, ha⟩⟩
      have hH := holds_R hR
      have hsz : L.attach.toArray.size = L.length := by simp
      have eg : ∀ args w, (callFunc 29 args).run Try.prog w = .ok (.enter 29 args) w := enters_of Try.func29 (by kernel_rfl) rfl
      have hcmp : CmpLays Try.prog 29 #[] (fun x : AtIn L => Ytcnmbllafdeokaa.encA x.1) 2 (cfIn L) g 0 L.attach.toArray.size W :=
        fun _ _ _ _ x y => Ytcnmbllafdeokaa.normCmp x.1 y.1 _ (hu _ x.2) (hu _ y.2)
      have hcon := AnyQ.slices_SortFunc_total Try.sortIv 2 Try.isAgg29 Try.sizeOf29 (fun x : AtIn L => Ytcnmbllafdeokaa.encA x.1) (fun _ => rfl) (fun x v hv => by simp [Ytcnmbllafdeokaa.encA] at hv; rcases hv with rfl | rfl <;> rfl) (cfIn L) (swoIn L) 29 #[] g 0 cap L.attach.toArray W eg hcmp hH (lt_of_some hh) (by rw [hsz]; omega) (totIn hd)
      change Calls Try.prog 28 _ _ _ at hcon
      rw [hsz] at hcon
      refine hcon.mono ?_
      rintro e W' ⟨h1, n, os, rfl⟩
      have hm : (L.attach.mergeSort fun x y => !(ltOf (cfIn L)) y x).toArray.size = L.length := by simp [List.length_mergeSort, List.length_attach]
      have h3 := R_sorted hR n (L.attach.mergeSort fun x y => !(ltOf (cfIn L)) y x).toArray os hm
      have h4 := merged hd
      simp only [h4] at h3
      exact ⟨h1, h3, .of_oth (oth_sortK _ _ _ _ _ _ _ _) rfl⟩
end Go.Proofs.Ytcnmbllafdeokaa.H
