/- Some texts of one seat in one file, in build order. -/
import Derived.Test.YtcnmbllafdeokaaDoorG3
import Derived.Test.YtcnmbllafdeokaaDoorG2
import Derived.Lib.TrailingZeros
import Derived.Laws.Bits64b
import Derived.Laws.BitsAllLaws
/- package atom: Value, Most. -/
namespace Go.Proofs.YtcnmbllafdeokaaDoor.H
open Go.RowKit Go.Proofs.YtcnmbllafdeokaaDoorW.PrintWords Go.Proofs.YtcnmbllafdeokaaDoorW.PrintLast Go.Proofs.YtcnmbllafdeokaaDoorW.PrintMore Go.Proofs.YtcnmbllafdeokaaDoor.TrM Go.Proofs.YtcnmbllafdeokaaDoor.AtM
set_option linter.unusedVariables false
set_option linter.unusedSimpArgs false
set_option maxRecDepth 100000
attribute [local go_sem] Oper.semAt_some wide_fn wide_depth

theorem C_blocksA {W W' : World} {A : Option Addr} {n : Nat} {xs : List At} (hc : Kd.C KAt W A n xs) (h : ∀ i, i < W.heap.size → W'.heap[i]? = W.heap[i]?) : Kd.C KAt W' A n xs :=
  ⟨hc.1, hc.2.1, fun hn => by
    obtain ⟨ad, e, hr⟩ := hc.2.2 hn
    refine ⟨ad, e, fun j p hj => ?_⟩
    obtain ⟨c, hs, hR, hcell⟩ := hr j p hj
    exact ⟨c, hs, hR, fun i u hu => (World.cell?_of_block (h _ (World.block_lt_of_cell? W _ (hcell i u hu)))).trans (hcell i u hu)⟩⟩
theorem maxL_snoc (xs : List At) (x : At) : maxL (xs ++ [x]) = max (maxL xs) x.2 := by unfold maxL; rw [List.foldl_append]; rfl
set_option maxHeartbeats 1600000 in
theorem Value_calls (al : List At) (s : Int) (A : Option Addr) (c : Nat) (W : World) (hC : Kd.C KAt W A al.length al) (hs : U64 s) (hu : ∀ x ∈ al, U64 x.1) :
    Calls Tryd.prog 15 #[.slice A al.length c, .int .u64 s] W fun e W' => e = .returned (.int .i64 (valueL al s)) ∧ Below W.heap.size W W' := by
  refine (callsIn_wide (n := 5)).1 ?_
  refine callsIn_of_wp_marks Tryd.func15 rfl trivial ?_ rfl
  simp only [Tryd.ntmps15, List.size_toArray, List.length_cons, List.length_nil, Nat.reduceAdd, Nat.reduceSub, Array.replicate_succ, Array.replicate_zero, List.push_toArray, List.append_toArray, List.nil_append, List.cons_append]
  have HC := Aside0.mk hC
  clear hC
  gi_wp2_with (gi_at_call 11; refine (callsIn_wide.2 (Within_calls _ _ _ _ _)).mono ?_; rintro e w1 ⟨rfl, rfl⟩)
  have hB : Below W.heap.size W (((W.alloc (.cells #[.int .i64 0] 2)).alloc (.cells #[.slice A al.length c] 22)).alloc (.cells #[.int .u64 s] 23)) := below_alloc (below_alloc (below_alloc (Below.refl _ _) _) _) _
  have g0 : (((W.alloc (.cells #[.int .i64 0] 2)).alloc (.cells #[.slice A al.length c] 22)).alloc (.cells #[.int .u64 s] 23)).heap[W.heap.size]? = some (.cells #[.int .i64 (maxL [])] 2 (0, 0)) := blk_alloc (blk_alloc (blk_new W _) _) _
  have g1 : (((W.alloc (.cells #[.int .i64 0] 2)).alloc (.cells #[.slice A al.length c] 22)).alloc (.cells #[.int .u64 s] 23)).heap[W.heap.size + 1]? = some (.cells #[.slice A al.length c] 22 (0, 0)) := blk_alloc (blk_new2 W _ _) _
  have g2 : (((W.alloc (.cells #[.int .i64 0] 2)).alloc (.cells #[.slice A al.length c] 22)).alloc (.cells #[.int .u64 s] 23)).heap[W.heap.size + 1 + 1]? = some (.cells #[.int .u64 s] 23 (0, 0)) := by
    have := blk_new ((W.alloc (.cells #[.int .i64 0] 2)).alloc (.cells #[.slice A al.length c] 22)) (.cells #[.int .u64 s] 23)
    rwa [World.size_alloc, World.size_alloc] at this
  have hsz : (((W.alloc (.cells #[.int .i64 0] 2)).alloc (.cells #[.slice A al.length c] 22)).alloc (.cells #[.int .u64 s] 23)).heap.size = W.heap.size + 3 := by simp
  generalize (((W.alloc (.cells #[.int .i64 0] 2)).alloc (.cells #[.slice A al.length c] 22)).alloc (.cells #[.int .u64 s] 23)) = w2 at hB g0 g1 g2 hsz
  refine rangeZ rfl (by omega) (gf := 24) (lb := #[.pointer (some ⟨W.heap.size + 1, 0, none⟩), .pointer (some ⟨W.heap.size + 1 + 1, 0, none⟩)]) rfl trivial (enters_of Tryd.func24 (by kernel_rfl) rfl)
    (Y := AtY (withinL al s)) (n₀ := w2.heap.size) (Kb := fun k => k ≠ W.heap.size) (S := fun xs => xs = withinL al s) (Sp := fun _ => True)
    (Within1_seq 4 al s A c (W.heap.size + 1) (W.heap.size + 1 + 1) w2.heap.size _ w2 hs hu
      (fun X hk => by rw [blk_cell ((hk.2 (W.heap.size + 1) (by omega) (by omega)).trans g1) 0]; rfl)
      (fun X hk => by rw [blk_cell ((hk.2 (W.heap.size + 1 + 1) (by omega) (by omega)).trans g2) 0]; rfl)
      (fun X hk => C_blocksA HC.out (fun i hi => (hk.2 i (by omega) (by omega)).trans (hB.block i hi))) (Nat.le_refl _)) (Nat.le_refl _)
    (fun _ _ _ _ hy => by obtain ⟨_, rfl⟩ := hy; rfl)
    (fun pre X => X.heap[W.heap.size]? = some (.cells #[.int .i64 (maxL pre)] 2 (0, 0)) ∧ Below W.heap.size W X) (fun _ _ _ => False)
    (fun _ P Q h hlie => ⟨hlie.blk h.1, hlie.below h.2 (by omega) (Nat.le_refl _)⟩) (fun _ _ _ _ h _ => h) ⟨g0, hB⟩ ?round ?done (fun _ _ _ _ _ _ h _ => h.elim)
  case round =>
    rintro l pre ⟨xs, xv⟩ vs X hl2 ⟨hI1, hI2⟩ ⟨hpre, rfl⟩ hXs
    have hms := maxL_snoc pre (xs, xv)
    have HM := Lib.hid hms
    obtain ⟨m, hm⟩ : ∃ m, maxL pre = m := ⟨_, rfl⟩
    rw [hm] at hI1
    have HMM := Lib.hid hm
    clear hms hm hpre
    gi_wp2
    refine ⟨Kin.of_below (below_alloc (Below.refl _ _) _) (Nat.le_refl _), Kp.of_below (below_alloc (Below.refl _ _) _) (by omega), ?_⟩
    intro Wb hlie
    have g3 := hlie.blk (blk_new X (.cells #[.int .u64 xs, .int .i64 xv] 28))
    have g4 := hlie.blk (blk_alloc hI1 (.cells #[.int .u64 xs, .int .i64 xv] 28))
    have gB := hlie.below (below_alloc hI2 (.cells #[.int .u64 xs, .int .i64 xv] 28)) (by omega) (Nat.le_refl _)
    have y1 : Wb.cell? ⟨X.heap.size, 1, none⟩ = some (.int .i64 xv) := by rw [blk_cell g3]; rfl
    have y2 : Wb.cell? ⟨W.heap.size, 0, none⟩ = some (.int .i64 m) := by rw [blk_cell g4]; rfl
    have f2 := blk_frozen g4 0
    have hgl := lt_of_some g4
    have HG := Aside0.mk (And.intro g4 gB)
    clear g3 g4 gB hI1 hI2 hlie
    gi_wp2
    all_goals
      refine ⟨Kin.set (.inl (by show W.heap.size < _; omega)) _, Kp.set (fun h => absurd rfl h) _, ?_, below_set HG.out.2 (Nat.le_refl _)⟩
      have e := HM.out
      rw [HMM.out] at e
      rw [e]
      first
        | (rw [show max m xv = m by omega]; exact blk_set HG.out.1 0 _)
        | (rw [show max m xv = xv by omega]; exact blk_set HG.out.1 0 _)
  case done =>
    rintro D xs X hD rfl ⟨hI1, hI2⟩ hKd
    have d2 := blk_cell hI1 0
    simp at d2
    have HF := Aside0.mk (And.intro hI2 hKd)
    clear hI1 hI2 hKd
    gi_wp2
    refine ⟨by simp, .inl ⟨_, _, rfl, run_takeDeferred HF.out.2, ?_⟩⟩
    refine ⟨_, results_tmp rfl _ _ _, ?_, belowK_t HF.out.1 (belowK_b (w := W) (Nat.le_refl _) X D _ _ (by omega) HF.out.2 rfl rfl)⟩
    rfl
end Go.Proofs.YtcnmbllafdeokaaDoor.H
/- package atom: Most, Union. -/
namespace Go.Proofs.YtcnmbllafdeokaaDoor.H
open Go.RowKit Go.Proofs.YtcnmbllafdeokaaDoorW.PrintWords Go.Proofs.YtcnmbllafdeokaaDoorW.PrintLast Go.Proofs.YtcnmbllafdeokaaDoorW.PrintMore Go.Proofs.YtcnmbllafdeokaaDoor.TrM Go.Proofs.YtcnmbllafdeokaaDoor.AtM
set_option linter.unusedVariables false
set_option linter.unusedSimpArgs false
set_option maxRecDepth 100000
attribute [local go_sem] Oper.semAt_some wide_fn wide_depth

theorem Most_calls (al : List At) (A : Option Addr) (c : Nat) (W : World) (hC : Kd.C KAt W A al.length al) (hu : ∀ x ∈ al, U64 x.1) :
    Calls Tryd.prog 16 #[.slice A al.length c] W fun e W' => e = .returned (.int .i64 (valueL al 18446744073709551615)) ∧ Below W.heap.size W W' := by
  have HV := Aside0.mk (Value_calls al 18446744073709551615 A c W hC (by unfold U64; omega) hu)
  obtain ⟨v, hv⟩ : ∃ v, valueL al 18446744073709551615 = v := ⟨_, rfl⟩
  rw [hv] at HV
  rw [hv]
  clear hC hu hv
  go_enter Tryd.func16, Tryd.ntmps16
  go_wp2_with (fail)
  refine HV.out.mono ?_
  rintro e w1 ⟨rfl, hb⟩
  have HB := Aside0.mk hb
  clear hb
  go_wp2
  go_ret
  exact ⟨rfl, HB.out⟩
/-- All items, as the walk adds them up. -/
def uniL (xs : List At) : Int := xs.foldl (fun m x => bits .or .u64 m x.1) 0
theorem uniL_snoc (xs : List At) (x : At) : uniL (xs ++ [x]) = bits .or .u64 (uniL xs) x.1 := by unfold uniL; rw [List.foldl_append]; rfl
set_option maxHeartbeats 1600000 in
theorem Union_calls (al : List At) (A : Option Addr) (c : Nat) (W : World) (hC : Kd.C KAt W A al.length al) :
    Calls Tryd.prog 17 #[.slice A al.length c] W fun e W' => e = .returned (.int .u64 (uniL (al.filter rightA))) ∧ Below W.heap.size W W' := by
  refine (callsIn_wide (n := 5)).1 ?_
  refine callsIn_of_wp_marks Tryd.func17 rfl trivial ?_ rfl
  simp only [Tryd.ntmps17, List.size_toArray, List.length_cons, List.length_nil, Nat.reduceAdd, Nat.reduceSub, Array.replicate_succ, Array.replicate_zero, List.push_toArray, List.append_toArray, List.nil_append, List.cons_append]
  have HC := Aside0.mk hC
  clear hC
  gi_wp2_with (gi_at_call 25; refine (callsIn_wide.2 (right_calls _ _ _ _)).mono ?_; rintro e w1 ⟨rfl, rfl⟩)
  have hB : Below W.heap.size W ((W.alloc (.cells #[.int .u64 0] 23)).alloc (.cells #[.slice A al.length c] 22)) := below_alloc (below_alloc (Below.refl _ _) _) _
  have g0 : ((W.alloc (.cells #[.int .u64 0] 23)).alloc (.cells #[.slice A al.length c] 22)).heap[W.heap.size]? = some (.cells #[.int .u64 (uniL [])] 23 (0, 0)) := blk_alloc (blk_new W _) _
  have g1 : ((W.alloc (.cells #[.int .u64 0] 23)).alloc (.cells #[.slice A al.length c] 22)).heap[W.heap.size + 1]? = some (.cells #[.slice A al.length c] 22 (0, 0)) := blk_new2 W _ _
  have hsz : ((W.alloc (.cells #[.int .u64 0] 23)).alloc (.cells #[.slice A al.length c] 22)).heap.size = W.heap.size + 2 := by simp
  generalize ((W.alloc (.cells #[.int .u64 0] 23)).alloc (.cells #[.slice A al.length c] 22)) = w2 at hB g0 g1 hsz
  refine rangeZ rfl (by omega) (gf := 39) (lb := #[.pointer (some ⟨W.heap.size + 1, 0, none⟩)]) rfl trivial (enters_of Tryd.func39 (by kernel_rfl) rfl)
    (Y := AtY (al.filter rightA)) (n₀ := w2.heap.size) (Kb := fun k => k ≠ W.heap.size) (S := fun xs => xs = al.filter rightA) (Sp := fun _ => True)
    (SeqX.z (T := TA) (right1_seq 4 al A c (W.heap.size + 1) w2.heap.size _ w2
      (fun X hk => by rw [blk_cell ((hk.2 (W.heap.size + 1) (by omega) (by omega)).trans g1) 0]; rfl)
      (fun X hk => C_blocksA HC.out (fun i hi => (hk.2 i (by omega) (by omega)).trans (hB.block i hi))) (Nat.le_refl _))) (Nat.le_refl _)
    (fun _ _ _ _ hy => by obtain ⟨_, rfl⟩ := hy; rfl)
    (fun pre X => X.heap[W.heap.size]? = some (.cells #[.int .u64 (uniL pre)] 23 (0, 0)) ∧ Below W.heap.size W X) (fun _ _ _ => False)
    (fun _ P Q h hlie => ⟨hlie.blk h.1, hlie.below h.2 (by omega) (Nat.le_refl _)⟩) (fun _ _ _ _ h _ => h) ⟨g0, hB⟩ ?round ?done (fun _ _ _ _ _ _ h _ => h.elim)
  case round =>
    rintro l pre ⟨xs, xv⟩ vs X hl2 ⟨hI1, hI2⟩ ⟨hpre, rfl⟩ hXs
    have hms := uniL_snoc pre (xs, xv)
    obtain ⟨m, hm⟩ : ∃ m, uniL pre = m := ⟨_, rfl⟩
    obtain ⟨m2, hm2⟩ : ∃ m2, bits .or .u64 m xs = m2 := ⟨_, rfl⟩
    rw [hm] at hms hI1
    have hms2 : uniL (pre ++ [(xs, xv)]) = m2 := hms.trans hm2
    have HM := Lib.hid hms2
    clear hms hm hpre hms2
    gi_wp2
    refine ⟨Kin.of_below (below_alloc (Below.refl _ _) _) (Nat.le_refl _), Kp.of_below (below_alloc (Below.refl _ _) _) (by omega), ?_⟩
    intro Wb hlie
    have g3 := hlie.blk (blk_new X (.cells #[.int .u64 xs, .int .i64 xv] 28))
    have g4 := hlie.blk (blk_alloc hI1 (.cells #[.int .u64 xs, .int .i64 xv] 28))
    have gB := hlie.below (below_alloc hI2 (.cells #[.int .u64 xs, .int .i64 xv] 28)) (by omega) (Nat.le_refl _)
    have y1 : Wb.cell? ⟨X.heap.size, 0, none⟩ = some (.int .u64 xs) := by rw [blk_cell g3]; rfl
    have y2 : Wb.cell? ⟨W.heap.size, 0, none⟩ = some (.int .u64 m) := by rw [blk_cell g4]; rfl
    have f2 := blk_frozen g4 0
    have hgl := lt_of_some g4
    have HG := Aside0.mk (And.intro g4 gB)
    clear g3 g4 gB hI1 hI2 hlie
    gi_wp2
    refine ⟨Kin.set (.inl (by show W.heap.size < _; omega)) _, Kp.set (fun h => absurd rfl h) _, ?_, below_set HG.out.2 (Nat.le_refl _)⟩
    rw [HM.out]
    exact blk_set HG.out.1 0 _
  case done =>
    rintro D xs X hD rfl ⟨hI1, hI2⟩ hKd
    have d2 := blk_cell hI1 0
    simp at d2
    have HF := Aside0.mk (And.intro hI2 hKd)
    clear hI1 hI2 hKd
    gi_wp2
    refine ⟨by simp, .inl ⟨_, _, rfl, run_takeDeferred HF.out.2, ?_⟩⟩
    refine ⟨_, results_tmp rfl _ _ _, ?_, belowK_t HF.out.1 (belowK_b (w := W) (Nat.le_refl _) X D _ _ (by omega) HF.out.2 rfl rfl)⟩
    rfl
end Go.Proofs.YtcnmbllafdeokaaDoor.H
/- math/bits.TrailingZeros64, over the table that its variable holds. -/
namespace Go.Proofs.YtcnmbllafdeokaaDoor.H
open Go.RowKit Go.Proofs.YtcnmbllafdeokaaDoorW.PrintWords Go.Proofs.YtcnmbllafdeokaaDoorW.PrintLast Go.Proofs.YtcnmbllafdeokaaDoorW.PrintMore Go.Proofs.YtcnmbllafdeokaaDoor.AtM
set_option linter.unusedVariables false
set_option linter.unusedSimpArgs false
set_option maxRecDepth 100000
/-- The table in its variable. -/
def TabG (w : World) : Prop := ∀ j, j < 64 → w.cell? ⟨0, j, none⟩ = some (.int .u8 (Lib.deBruijn64tab.getD j 0 : Nat))
theorem TabG.below {w w' : World} (h : TabG w) (hb : Below w.heap.size w w') : TabG w' := fun j hj => (hb.cell (World.block_lt_of_cell? _ _ (h j hj))).trans (h j hj)
theorem TabG.lies {B : Nat} {w w' : World} (h : TabG w) (hl : Lies B w w') : TabG w' := fun j hj => hl.cell (h j hj)
theorem TabG.pos {w : World} (h : TabG w) : 0 < w.heap.size := World.block_lt_of_cell? _ _ (h 0 (by decide))
theorem TabG.same {w w' : World} (h : TabG w) (hb : w'.heap[0]? = w.heap[0]?) : TabG w' := fun j hj => (World.cell?_of_block hb).trans (h j hj)
theorem tz_key (x a : Nat) (hx : x < 18446744073709551616) (hx0 : x ≠ 0) (hlow : x &&& (18446744073709551616 - x) = a) :
    IntKind.u64.wrap (bits BinOp.and IntKind.u64 (x : Int) (IntKind.u64.wrap (-(x : Int))) * 285870213051353865) / 288230376151711744 = ((a * 285870213051353865 % 18446744073709551616 / 288230376151711744 : Nat) : Int) := by
  have e1 : IntKind.u64.wrap (-(x : Int)) = ((18446744073709551616 - x : Nat) : Int) := by rw [IntKind.wrap_u64]; omega
  rw [e1, bits_and_u64_nat x _ hx (by omega), hlow, IntKind.wrap_u64]
  omega
theorem TZ_core (x k idx : Nat) (w : World) (hx0 : ((x : Int) == 0) = false)
    (key : IntKind.u64.wrap (bits BinOp.and IntKind.u64 (x : Int) (IntKind.u64.wrap (-(x : Int))) * 285870213051353865) / 288230376151711744 = (idx : Int))
    (hi : idx < 64) (hk : k < 64) (hcell : w.cell? ⟨0, idx, none⟩ = some (.int .u8 k)) :
    Calls Tryd.prog 29 #[.int .u64 x] w fun e w' => e = .returned (.int .i64 k) ∧ w' = w := by
  go_enter Tryd.func29, Tryd.ntmps29
  go_wp2_with (simp only [key])
  go_ret
  exact ⟨rfl, rfl⟩
/-- Of a number that is not 0. -/
theorem TZ_calls (x : Int) (hx : U64 x) (h0 : x ≠ 0) (w : World) (hT : TabG w) :
    Calls Tryd.prog 29 #[.int .u64 x] w fun e w' => e = .returned (.int .i64 (Lib.ctz 64 x.toNat : Nat)) ∧ w' = w := by
  obtain ⟨n, rfl⟩ : ∃ n : Nat, x = n := ⟨x.toNat, by have := hx.1; omega⟩
  have hn : n < 18446744073709551616 := by have := hx.2; omega
  have hn0 : n ≠ 0 := by omega
  obtain ⟨hlow, hk⟩ := Lib.lowest_bit 64 n hn0 hn
  obtain ⟨hi, htab⟩ := Lib.deBruijn64_at _ hk
  have hcell := hT _ hi
  rw [htab] at hcell
  rw [Int.toNat_natCast]
  exact TZ_core n _ _ w (by simp; omega) (tz_key n _ hn hn0 hlow) hi hk hcell
end Go.Proofs.YtcnmbllafdeokaaDoor.H
/- Plain: a set's items, one after the other, from the least on. No program. -/
namespace Go.Proofs.YtcnmbllafdeokaaDoor.R02
open Go.Proofs.YtcnmbllafdeokaaDoor.AtM
set_option linter.unusedVariables false
set_option linter.unusedSimpArgs false
/-- A set's items. -/
def listS (x : Int) : List Int := ((List.range 64).filter fun i => x.toNat.testBit i).map fun (i : Nat) => (i : Int)
theorem listS_len (x : Int) : (listS x).length = pcS x := by
  unfold listS pcS pcN
  rw [List.length_map, List.countP_eq_length_filter]
theorem listS_zero : listS 0 = [] := by decide
theorem listS_mem (x i : Int) : i ∈ listS x ↔ 0 ≤ i ∧ i ≤ 63 ∧ x.toNat.testBit i.toNat = true := by
  unfold listS
  simp only [List.mem_map, List.mem_filter, List.mem_range]
  constructor
  · rintro ⟨j, ⟨h1, h2⟩, rfl⟩
    exact ⟨by omega, by omega, by rw [Int.toNat_natCast]; exact h2⟩
  · rintro ⟨h1, h2, h3⟩
    exact ⟨i.toNat, ⟨by omega, h3⟩, by omega⟩
theorem listS_le (x : Int) : (listS x).length ≤ 64 := by
  unfold listS
  rw [List.length_map]
  have := List.length_filter_le (fun i => x.toNat.testBit i) (List.range 64)
  rw [List.length_range] at this
  exact this
/-- What is left of a number without its lowest bit. -/
theorem drop_low {x k m : Nat} (h : x = 2 ^ k * (2 * m + 1)) (i : Nat) : (x &&& (x - 1)).testBit i = (decide (k < i) && x.testBit i) := by
  have hp : 0 < 2 ^ k := Nat.pow_pos (by decide)
  have e1 : x - 1 = 2 ^ k * (2 * m) + (2 ^ k - 1) := by
    rw [h, Nat.mul_add, Nat.mul_one]; omega
  have hd : ∀ j, x.testBit (k + j) = (2 * m + 1).testBit j := fun j => by
    rw [Nat.add_comm, ← Nat.testBit_div_two_pow, h, Nat.mul_div_cancel_left _ hp]
  have hd1 : ∀ j, (x - 1).testBit (k + j) = (2 * m).testBit j := fun j => by
    rw [Nat.add_comm, ← Nat.testBit_div_two_pow, e1, Nat.add_comm, Nat.add_mul_div_left _ _ hp, Nat.div_eq_of_lt (by omega), Nat.zero_add]
  have hlow : ∀ j, j < k → x.testBit j = false := fun j hj => by
    rw [h, Nat.mul_comm, Nat.testBit_mul_two_pow]
    simp; omega
  rw [Nat.testBit_and]
  by_cases hik : i < k
  · rw [hlow i hik]; simp
  · obtain ⟨j, rfl⟩ : ∃ j, i = k + j := ⟨i - k, by omega⟩
    rw [hd, hd1]
    cases j with
    | zero =>
      rw [Nat.testBit_zero]
      have : (2 * m).testBit 0 = false := by rw [Nat.testBit_zero]; simp
      rw [this]; simp
    | succ j =>
      rw [Nat.testBit_succ, Nat.testBit_succ, show (2 * m + 1) / 2 = m by omega, show 2 * m / 2 = m by omega]
      have : k < k + (j + 1) := by omega
      simp [this]
theorem ctz_low {x : Nat} (h0 : x ≠ 0) (hx : x < 2 ^ 64) : Lib.ctz 64 x < 64 ∧ ∃ m, x = 2 ^ Lib.ctz 64 x * (2 * m + 1) := by
  unfold Lib.ctz
  rw [if_neg h0]
  obtain ⟨m, h1, h2⟩ := Lib.ctzFrom_spec 64 x (by omega) hx
  exact ⟨h2, m, h1⟩
theorem range_split (k : Nat) (hk : k < 64) : List.range 64 = List.range k ++ k :: List.range' (k + 1) (63 - k) := by
  rw [List.range_eq_range', List.range_eq_range', show (64 : Nat) = k + (63 - k + 1) by omega, ← List.range'_append_1, Nat.zero_add, List.range'_succ]
theorem listS_step (x : Int) (hx : U64 x) (h0 : x ≠ 0) : listS x = ((Lib.ctz 64 x.toNat : Nat) : Int) :: listS ((x.toNat &&& (x.toNat - 1) : Nat) : Int) := by
  obtain ⟨hk, m, hm⟩ := ctz_low (x := x.toNat) (by have := hx.1; omega) (nat_lt hx)
  generalize Lib.ctz 64 x.toNat = k at hk hm ⊢
  have hb := fun i => drop_low hm i
  have hp : 0 < 2 ^ k := Nat.pow_pos (by decide)
  have hself : x.toNat.testBit k = true := by
    rw [show k = 0 + k from (Nat.zero_add k).symm, ← Nat.testBit_div_two_pow, hm, Nat.mul_div_cancel_left _ hp, Nat.testBit_zero]
    simp
  have hlow : ∀ j, j < k → x.toNat.testBit j = false := fun j hj => by
    rw [hm, Nat.mul_comm, Nat.testBit_mul_two_pow]
    simp; omega
  unfold listS
  rw [Int.toNat_natCast, range_split k hk, List.filter_append, List.filter_append, List.filter_cons, List.filter_cons]
  have e1 : (List.range k).filter (fun i => x.toNat.testBit i) = [] := List.filter_eq_nil_iff.2 fun i hi => by
    rw [hlow i (List.mem_range.1 hi)]; simp
  have e2 : (List.range k).filter (fun i => (x.toNat &&& (x.toNat - 1)).testBit i) = [] := List.filter_eq_nil_iff.2 fun i hi => by
    rw [hb, hlow i (List.mem_range.1 hi)]; simp
  have e3 : (x.toNat &&& (x.toNat - 1)).testBit k = false := by rw [hb]; simp
  have e4 : (List.range' (k + 1) (63 - k)).filter (fun i => (x.toNat &&& (x.toNat - 1)).testBit i) = (List.range' (k + 1) (63 - k)).filter (fun i => x.toNat.testBit i) := by
    refine List.filter_congr fun i hi => ?_
    have := (List.mem_range'_1.1 hi).1
    rw [hb, decide_eq_true (by omega), Bool.true_and]
  rw [e1, e2, e3, e4, if_pos hself]
  simp
theorem and_pred_lt {x : Int} (hx : U64 x) (h0 : x ≠ 0) : U64 ((x.toNat &&& (x.toNat - 1) : Nat) : Int) ∧ ((x.toNat &&& (x.toNat - 1) : Nat) : Int) < x := by
  have h1 : x.toNat &&& (x.toNat - 1) ≤ x.toNat - 1 := Nat.and_le_right
  have := hx.1; have := hx.2
  unfold U64
  omega
end Go.Proofs.YtcnmbllafdeokaaDoor.R02
/- package set: Items, as an iterator. -/
namespace Go.Proofs.YtcnmbllafdeokaaDoor.H
open Go.RowKit Go.Proofs.YtcnmbllafdeokaaDoorW.PrintWords Go.Proofs.YtcnmbllafdeokaaDoorW.PrintLast Go.Proofs.YtcnmbllafdeokaaDoorW.PrintMore Go.Proofs.YtcnmbllafdeokaaDoor.AtM Go.Proofs.YtcnmbllafdeokaaDoor.R02
set_option linter.unusedVariables false
set_option linter.unusedSimpArgs false
set_option maxRecDepth 100000
attribute [local go_sem] Oper.semAt_some wide_fn wide_depth
theorem Items_calls (s : Int) (w : World) : Calls Tryd.prog 20 #[.int .u64 s] w fun e w' =>
    e = .returned (.func (.func 28) #[] #[.pointer (some ⟨w.heap.size, 0, none⟩)]) ∧ w' = w.alloc (.cells #[.int .u64 s] 23) := by
  go_enter Tryd.func20, Tryd.ntmps20
  go_wp2
  go_ret
  exact ⟨rfl, rfl⟩
/-- What a func over items tells a round. -/
def ItY (xs : List Int) (pre : List Int) (x : Int) (vs : Array Value) (W : World) : Prop := pre ++ [x] <+: xs ∧ vs = #[.int .i64 x]
theorem and_low {x : Int} (hx : U64 x) (h0 : x ≠ 0) : bits BinOp.and IntKind.u64 x (IntKind.u64.wrap (x - 1)) = ((x.toNat &&& (x.toNat - 1) : Nat) : Int) := by
  obtain ⟨n, rfl⟩ : ∃ n : Nat, x = n := ⟨x.toNat, by have := hx.1; omega⟩
  have hn : n < 18446744073709551616 := by have := hx.2; omega
  rw [show IntKind.u64.wrap ((n : Int) - 1) = ((n - 1 : Nat) : Int) by rw [IntKind.wrap_u64]; omega, Int.toNat_natCast]
  exact bits_and_u64_nat n (n - 1) hn (by omega)
set_option maxHeartbeats 1600000 in
theorem Items1_seq (n : Nat) (s : Int) (bb n₀ : Nat) (Kb : Nat → Prop) (w : World) (hs : U64 s)
    (hbox : ∀ W, Kp n₀ Kb w W → W.cell? ⟨bb, 0, none⟩ = some (.int .u64 s)) (hT : ∀ W, Kp n₀ Kb w W → TabG W) (hn : n₀ ≤ w.heap.size) :
    SeqX Fence.wide n Tryd.prog 28 #[.pointer (some ⟨bb, 0, none⟩)] (ItY (listS s)) n₀ Kb (fun ys => ys = listS s) (fun _ => True) w := by
  intro l J Jx W hK hJ hJx hY h0
  have hcell := hbox W hK
  refine callsIn_of_wp Tryd.func28 rfl trivial ?_ rfl
  simp only [Tryd.ntmps28, List.size_toArray, List.length_cons, List.length_nil, Nat.reduceAdd, Nat.reduceSub, Array.replicate_succ, Array.replicate_zero, List.push_toArray, List.append_toArray, List.nil_append, List.cons_append]
  gi_wp2
  gi_loopw [3] (fun p wr => ∃ (pre : List Int) (x : Int), p = .int .u64 x ∧ U64 x ∧ listS s = pre ++ listS x ∧ J pre wr ∧ Kp n₀ Kb w wr) (fun p _ => (intOf p).toNat)
  case atStart => exact ⟨[], s, rfl, hs, rfl, h0, hK⟩
  case round =>
    obtain ⟨pre, x, rfl, hx, hl, h4, h5⟩ := hrel
    by_cases hx0 : x = 0
    · subst hx0
      rw [listS_zero, List.append_nil] at hl
      gi_wp2
      go_end0
      exact ⟨⟨_, rfl⟩, .inl ⟨_, hl.symm, h4⟩⟩
    · have hxb : (x == 0) = false := by simp [hx0]
      have hst := listS_step x hx hx0
      rw [hst] at hl
      have hnx := and_pred_lt hx hx0
      have hal := and_low hx hx0
      obtain ⟨c, hc⟩ : ∃ c : Int, ((Lib.ctz 64 x.toNat : Nat) : Int) = c := ⟨_, rfl⟩
      obtain ⟨y, hy⟩ : ∃ y : Int, ((x.toNat &&& (x.toNat - 1) : Nat) : Int) = y := ⟨_, rfl⟩
      have HC := Aside0.mk (TZ_calls x hx hx0 wr (hT wr h5))
      rw [hc] at hl HC
      rw [hy] at hl hnx hal
      have hpre : pre ++ [c] <+: listS s := ⟨listS y, by rw [hl]; simp⟩
      obtain ⟨fn, tmps, asg, body, hyy, hR⟩ := hY _ c _ wr h4 ⟨hpre, rfl⟩
      have HL := Lib.hid hl
      clear hl hc hy hpre hst
      gi_wp2_with (fail)
      refine (callsIn_wide.2 HC.out).mono ?_
      rintro e w1 ⟨rfl, rfl⟩
      clear HC
      gi_wp2
      refine hR.mono ?_
      rintro e W3 (⟨rfl, hJ3, hk3⟩ | ⟨rfl, hJx3⟩)
      · gi_wp2
        go_roundw
        case rel => exact ⟨pre ++ [c], y, by first | rfl | rw [hal], hnx.1, by rw [HL.out]; simp, hJ3, h5.trans hk3⟩
        case measure => (try rw [hal]); have := hnx.1.1; have := hnx.2; simp [intOf]; omega
      · gi_wp2
        refine bodyPost_ret (results_none rfl _ _ _) rfl ?_
        exact ⟨⟨_, rfl⟩, .inr ⟨_, trivial, hJx3⟩⟩
end Go.Proofs.YtcnmbllafdeokaaDoor.H
