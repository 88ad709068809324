/- Some texts of one seat in one file, in build order. -/
import Derived.Test.YtcgefilboefnpaaG12
import Derived.Test.YtcgefilboefnpaaG15
import Derived.Lib.ConvBytes
/- The document's frames: ref06.Weight, Write. -/
namespace Go.Proofs.Ytcgefilboefnpaa.H
open Go.RowKit Go.Proofs.YtcgefilboefnpaaW.PrintWords Go.Proofs.YtcgefilboefnpaaW.PrintLast Go.Proofs.YtcgefilboefnpaaW.PrintMore Go.Proofs.Ytcgefilboefnpaa.CrcM
set_option linter.unusedVariables false
set_option linter.unusedSimpArgs false
attribute [local go_sem] max2_int min2_int

theorem RWeight_eq (n r : Int) (w : World) (h : n ≤ 4611686018427387904) (hr : weightF n = r) : Calls Try.prog 18 #[.int .i64 n] w fun e w' => e = .returned (.int .i64 r) ∧ w = w' := by
  subst hr
  by_cases hn : n < 0
  · have hw : weightF n = 7 := by unfold weightF; rw [if_pos hn]
    rw [hw]
    clear hw
    go_enter Try.func18, Try.ntmps18
    go_wp2
    go_ret
    exact ⟨rfl, rfl⟩
  · have hw : weightF n = n + 7 := by unfold weightF; rw [if_neg hn]
    have h0 : 0 ≤ n := by omega
    rw [hw]
    clear hw
    go_enter Try.func18, Try.ntmps18
    go_wp2
    go_ret
    exact ⟨rfl, rfl⟩

set_option maxHeartbeats 1600000 in
theorem RWrite_calls (kind : Int) (A0 : Option Addr) (c0 : Nat) (l0 : List Int) (w : World) (hr0 : Kd.C (Kd.int .u8) w A0 l0.length l0) (hc0 : l0.length ≤ c0) (hB : Bts l0) :
    Calls Try.prog 49 #[.int .i64 kind, .slice A0 l0.length c0] w fun e w' => ∃ v0_ : Value, e = .returned (.tuple #[v0_, .int .i64 (writeF kind l0).2]) ∧ Kd.R (Kd.int .u8) 5 w' w.heap.size (fun _ => True) v0_ (writeF kind l0).1 ∧ Below w.heap.size w w' := by
  have HR0 := Aside0.mk hr0
  clear hr0
  by_cases hk : kind < 1 ∨ kind > 255
  · have hw : writeF kind l0 = ([], 1) := by unfold writeF; rw [if_pos hk]
    rw [hw]
    clear hw
    by_cases h1 : kind < 1
    · have b0 : decide (kind < 1) = true := decide_eq_true h1
      clear hk h1
      go_enter Try.func49, Try.ntmps49
      go_wp2
      go_ret2
      exact ⟨_, rfl, Kd.R_nil _ _ _ _ _, Below.refl _ _⟩
    · have b0 : decide (kind < 1) = false := decide_eq_false h1
      have b1 : decide (255 < kind) = true := decide_eq_true (by omega)
      clear hk
      go_enter Try.func49, Try.ntmps49
      go_wp2
      go_ret2
      exact ⟨_, rfl, Kd.R_nil _ _ _ _ _, Below.refl _ _⟩
  · have b0 : decide (kind < 1) = false := decide_eq_false (by omega)
    have b1 : decide (255 < kind) = false := decide_eq_false (by omega)
    by_cases hl : l0.length > 4096
    · have hw : writeF kind l0 = ([], 2) := by unfold writeF; rw [if_neg hk, if_pos hl]
      rw [hw]
      have b2 : decide (4096 < l0.length) = true := decide_eq_true hl
      have b3 : decide (4096 < (l0.length : Int)) = true := decide_eq_true (by omega)
      clear hw hk
      go_enter Try.func49, Try.ntmps49
      go_wp2
      go_ret2
      exact ⟨_, rfl, Kd.R_nil _ _ _ _ _, Below.refl _ _⟩
    · have hw : writeF kind l0 = (bytesF kind l0 ++ le4 (ext 0#32 (bytesF kind l0)), 0) := by unfold writeF; rw [if_neg hk, if_neg hl]
      rw [hw]
      have b2 : decide (4096 < l0.length) = false := decide_eq_false hl
      have b3 : decide (4096 < (l0.length : Int)) = false := decide_eq_false (by omega)
      have hlb : (bytesF kind l0).length = l0.length + 3 := by simp [bytesF]
      have hl2 : l0.length ≤ 4096 := by omega
      have hl3 : (l0.length : Int) ≤ 4096 := by omega
      have hk0 : 0 ≤ kind := by omega
      have hk1 : kind ≤ 255 := by omega
      have hbb : Bts (bytesF kind l0) := by
        unfold bytesF
        refine bts_append ?_ hB
        intro x hx
        simp at hx
        rcases hx with rfl | rfl | rfl <;> omega
      have hj : [[(l0.length : Int) % 256, (l0.length : Int) / 256, kind], l0].flatten = bytesF kind l0 := by unfold bytesF; rw [show kind % 256 = kind by omega, show (l0.length : Int) / 256 % 256 = (l0.length : Int) / 256 by omega]; simp
      have hse := fun (A : Option Addr) (c : Nat) (w : World) (h : Kd.C (Kd.int .u8) w A (bytesF kind l0).length (bytesF kind l0)) => RSeal_calls A c (bytesF kind l0) w h hbb (by omega)
      have hjo := fun (A : Option Addr) (c : Nat) (w : World) (h : Kd.C (Kd.slice 5 (Kd.int .u8)) w A 2 [[(l0.length : Int) % 256, (l0.length : Int) / 256, kind], l0]) => Join_calls A c [[(l0.length : Int) % 256, (l0.length : Int) / 256, kind], l0] w h (by rw [hj]; omega)
      rw [hj] at hjo
      generalize hfb : bytesF kind l0 = fb at hlb hse hjo hj
      generalize hsd : fb ++ le4 (ext 0#32 fb) = sd at hse
      have HS := Aside0.mk hse
      have HJ := Aside0.mk hjo
      clear hw hk hse hjo hbb hsd hfb hlb hj hB
      go_enter Try.func49, Try.ntmps49
      go_wp2_with (first
        | (go_at_call 50; refine (HJ.out _ _ _ (C_twog (w.heap.size + 1) 32 _ (World.size_alloc _ _) (Nat.le_refl 3) (C_lit w [(l0.length : Int) % 256, (l0.length : Int) / 256, kind] _ _ (by simp)) hc0 (Kd.C_alloc HR0.out _))).mono ?_; rintro e w1 ⟨v1, rfl, ho1, hb1⟩; obtain ⟨A1, c1, e1, hc1, hr1⟩ := R_C ho1; subst e1; have HR1 := Aside0.mk hr1; have HB1 := Aside0.mk (below_step (below_alloc (below_alloc (Below.refl _ _) _) _) hb1); clear ho1 hr1 hb1)
        | (go_at_call 63; refine (HS.out _ _ _ HR1.out).mono ?_; rintro e w2 ⟨v2, rfl, ho2, hb2⟩; have HO2 := Aside0.mk (Kd.R_lower ho2 HB1.out.size); have HB2 := Aside0.mk (below_step HB1.out hb2); clear ho2 hb2))
      go_ret2
      exact ⟨_, rfl, HO2.out, HB2.out⟩
theorem RWrite_eq (kind : Int) (A : Option Addr) (c n m : Nat) (l r : List Int) (e : Int) (w : World) (hn : l.length = n) (hm : r.length = m) (hw : writeF kind l = (r, e)) (hC : Kd.C (Kd.int .u8) w A n l) (hc : n ≤ c) (hB : Bts l) :
    Calls Try.prog 49 #[.int .i64 kind, .slice A n c] w fun e' w' => ∃ A1 c1, e' = .returned (.tuple #[.slice A1 m c1, .int .i64 e]) ∧ m ≤ c1 ∧ Kd.C (Kd.int .u8) w' A1 m r ∧ Below w.heap.size w w' := by
  subst hn; subst hm
  refine (RWrite_calls kind A c l w hC hc hB).mono ?_
  rintro e' w' ⟨v, rfl, ho, hb⟩
  rw [hw] at ho ⊢
  obtain ⟨A1, c1, rfl, hc1, hr1⟩ := R_C ho
  exact ⟨A1, c1, rfl, hc1, hr1, hb⟩
theorem Same_eq (A0 A1 : Option Addr) (c0 c1 n0 n1 : Nat) (l0 l1 : List Int) (w : World) (h0 : l0.length = n0) (h1 : l1.length = n1) (r : Bool) (hr : decide (l0 = l1) = r) (hr0 : Kd.C (Kd.int .u8) w A0 n0 l0) (hr1 : Kd.C (Kd.int .u8) w A1 n1 l1) :
    Calls Try.prog 42 #[.slice A0 n0 c0, .slice A1 n1 c1] w fun e w' => e = .returned (.bool r) ∧ Below w.heap.size w w' := by
  subst h0; subst h1; subst hr
  refine (Same_calls A0 c0 l0 A1 c1 l1 w hr0 hr1).mono ?_
  rintro e w' ⟨rfl, h⟩
  exact ⟨rfl, h.below⟩
theorem Same_dr (A0 A1 : Option Addr) (c0 c1 n0 n1 : Nat) (l0 l1 : List Int) (w : World) (h0 : l0.length = n0) (h1 : l1.length = n1) (r : Bool) (hr : decide (l0 = l1) = r) (hr0 : Kd.C (Kd.int .u8) w A0 n0 l0) (hr1 : Kd.C (Kd.int .u8) w A1 n1 l1) :
    Calls Try.prog 42 #[.slice A0 n0 c0, .slice A1 n1 c1] w fun e w' => e = .returned (.bool r) ∧ ∃ m, w' = w.drewN m := by
  subst h0; subst h1; subst hr
  refine (Same_calls A0 c0 l0 A1 c1 l1 w hr0 hr1).mono ?_
  rintro e w' ⟨rfl, h⟩
  exact ⟨rfl, h.out⟩
end Go.Proofs.Ytcgefilboefnpaa.H
/- ref07.Same: the same snapshot and records? -/
namespace Go.Proofs.Ytcgefilboefnpaa.H
open Go.RowKit Go.Proofs.YtcgefilboefnpaaW.PrintWords Go.Proofs.YtcgefilboefnpaaW.PrintLast Go.Proofs.YtcgefilboefnpaaW.PrintMore Go.Proofs.Ytcgefilboefnpaa.CrcM
set_option linter.unusedVariables false
set_option linter.unusedSimpArgs false

/-- A document's journal as its cells have it. -/
structure Xv where
  a0 : Option Addr
  n0 : Nat
  c0 : Nat
  a1 : Option Addr
  n1 : Nat
  c1 : Nat
  cap : Int
  region : Int
  age : Int
  As : Option Addr
  ns : Nat
  cs : Nat
  Ar : Option Addr
  nr : Nat
  cr : Nat
  fin : Int
abbrev Xv.cells (x : Xv) : Array Value := #[.slice x.a0 x.n0 x.c0, .slice x.a1 x.n1 x.c1, .int .i64 x.cap, .int .i64 x.region, .int .u64 x.age, .slice x.As x.ns x.cs, .slice x.Ar x.nr x.cr, .int .i64 x.fin]
theorem Xv.get {W : World} {g : Nat} {x : Xv} {t : TypeId} (h : W.heap[g]? = some (.cells x.cells t (0, 0))) : W.cell? ⟨g, 5, none⟩ = some (.slice x.As x.ns x.cs) ∧ W.cell? ⟨g, 6, none⟩ = some (.slice x.Ar x.nr x.cr) := by
  refine ⟨?_, ?_⟩ <;> · rw [blk_cell h]; rfl
set_option maxHeartbeats 3200000 in
theorem Same7_calls (x y : Xv) (sx sy : List Int) (rx ry : List (List Int)) (W : World) (b : Bool) (hb : decide (sx = sy ∧ rx = ry) = b) (hx1 : Kd.C (Kd.int .u8) W x.As x.ns sx) (hy1 : Kd.C (Kd.int .u8) W y.As y.ns sy)
    (hx2 : Kd.C (Kd.slice 5 (Kd.int .u8)) W x.Ar x.nr rx) (hy2 : Kd.C (Kd.slice 5 (Kd.int .u8)) W y.Ar y.nr ry) :
    Calls Try.prog 19 #[.agg x.cells, .agg y.cells] W fun e W' => e = .returned (.bool b) ∧ Below W.heap.size W W' := by
  obtain ⟨b1, hb1⟩ : ∃ b1, decide (sx = sy) = b1 := ⟨_, rfl⟩
  have hxl : sx.length = x.ns := hx1.1
  have hyl : sy.length = y.ns := hy1.1
  have hxr : rx.length = x.nr := hx2.1
  have hyr : ry.length = y.nr := hy2.1
  have hxm := hx2.2.1
  have hym := hy2.2.1
  have H := Aside0.mk (And.intro hx1 (And.intro hy1 (And.intro hx2 (And.intro hy2 (And.intro hb (And.intro hb1 (And.intro hxl (And.intro hyl (And.intro hxr hyr)))))))))
  clear hx1 hy1 hx2 hy2 hb hb1 hxl hyl hxr hyr
  go_enter Try.func19, Try.ntmps19
  go_wp2_with (fail)
  have h1 : ((W.alloc (.cells x.cells 38)).alloc (.cells y.cells 38)).heap[W.heap.size]? = some (.cells x.cells 38 (0, 0)) := blk_alloc (blk_new W _) _
  have h2 := blk_new2 W (.cells x.cells 38) (.cells y.cells 38)
  have h3 : Below W.heap.size W ((W.alloc (.cells x.cells 38)).alloc (.cells y.cells 38)) := below_alloc (below_alloc (Below.refl _ _) _) _
  generalize ((W.alloc (.cells x.cells 38)).alloc (.cells y.cells 38)) = w1 at *
  refine (Same_eq _ _ _ _ x.ns y.ns sx sy _ H.out.2.2.2.2.2.2.1 H.out.2.2.2.2.2.2.2.1 b1 H.out.2.2.2.2.2.1 (Kd.C_below H.out.1 h3) (Kd.C_below H.out.2.1 h3)).mono ?_
  rintro e w2 ⟨rfl, hb2⟩
  have H2 := Aside0.mk (And.intro (blk_belowX h1 hb2) (And.intro (blk_belowX h2 hb2) (below_step h3 hb2)))
  clear h1 h2 h3 hb2
  obtain ⟨z5, z6⟩ := Xv.get H2.out.1
  obtain ⟨y5, y6⟩ := Xv.get H2.out.2.1
  cases b1 with
  | false =>
    have hbf : b = false := by rw [← H.out.2.2.2.2.1, decide_eq_false_iff_not]; rintro ⟨h, _⟩; have := H.out.2.2.2.2.2.1; rw [decide_eq_false_iff_not] at this; exact this h
    subst hbf
    go_wp2
    go_ret
    exact ⟨rfl, H2.out.2.2⟩
  | true =>
    have hse : sx = sy := of_decide_eq_true H.out.2.2.2.2.2.1
    by_cases hnn : x.nr = y.nr
    · have a1 : ((x.nr : Int) != (y.nr : Int)) = false := by rw [bne_eq_false_iff_eq]; omega
      have HN := Lib.hid hnn
      have HSE := Lib.hid hse
      clear hnn hse
      go_wp2
      go_loopw [5] (fun i wr => ∃ k : Nat, k ≤ x.nr ∧ i = .int .i64 (k : Int) ∧ Aside0 (rx.take k = ry.take k) ∧ Aside0 (wr.heap[W.heap.size]? = some (.cells x.cells 38 (0, 0)) ∧ wr.heap[W.heap.size + 1]? = some (.cells y.cells 38 (0, 0)) ∧ Below W.heap.size W wr)) (fun i _ => x.nr - (intOf i).toNat)
      case atStart => exact ⟨0, Nat.zero_le _, rfl, ⟨rfl⟩, H2⟩
      case round =>
        obtain ⟨k, hk, rfl, HE, HW⟩ := hrel
        clear z5 z6 y5 y6
        obtain ⟨z5, z6⟩ := Xv.get HW.out.1
        obtain ⟨y5, y6⟩ := Xv.get HW.out.2.1
        by_cases hlt : k < x.nr
        · obtain ⟨ad, A0, c0, e0, u0, u1, u2⟩ := at_slice (Kd.C_below H.out.2.2.1 HW.out.2.2) k hlt
          obtain ⟨ad', A1, c1, e1, v0, v1, v2⟩ := at_slice (Kd.C_below H.out.2.2.2.1 HW.out.2.2) k (by rw [← HN.out]; exact hlt)
          rw [e0] at z6
          rw [e1] at y6
          have hltx : k < rx.length := by rw [H.out.2.2.2.2.2.2.2.2.1]; exact hlt
          have hlty : k < ry.length := by rw [H.out.2.2.2.2.2.2.2.2.2, ← HN.out]; exact hlt
          have hts := fun (h : rx.getD k [] = ry.getD k []) => take_eq_succ [] hltx hlty HE.out h
          have hne : rx.getD k [] ≠ ry.getD k [] → ¬ rx = ry := fun h h2 => h (by rw [h2])
          obtain ⟨n0, hn0⟩ : ∃ n, (rx.getD k []).length = n := ⟨_, rfl⟩
          obtain ⟨n1, hn1⟩ : ∃ n, (ry.getD k []).length = n := ⟨_, rfl⟩
          rw [hn0] at u0 u1 u2
          rw [hn1] at v0 v1 v2
          generalize rx.getD k [] = l0 at *
          generalize ry.getD k [] = l1 at *
          obtain ⟨bk, hbk⟩ : ∃ bk, decide (l0 = l1) = bk := ⟨_, rfl⟩
          have hkx : (k : Int) < (x.nr : Int) := by omega
          have hky : (k : Int) < (y.nr : Int) := by have := HN.out; omega
          have hky' : k < y.nr := by omega
          have HR := Aside0.mk (And.intro u2 (And.intro v2 (And.intro hn0 (And.intro hn1 (And.intro hbk (And.intro hts hne))))))
          clear u2 v2 hn0 hn1 hbk hts hne hltx hlty e0 e1
          go_wp2_with (fail)
          go_region_held3 (fun w' => w'.cell? ⟨W.heap.size, 6, none⟩ = some (.slice (some ad) x.nr x.cr) ∧ w'.cell? ⟨W.heap.size + 1, 6, none⟩ = some (.slice (some ad') y.nr y.cr) ∧ w'.cell? (ad.add k) = some (.slice A0 n0 c0) ∧ w'.cell? (ad'.add k) = some (.slice A1 n1 c1)) (first | (with_reducible exact KK.out) | go_keep)
            ((go_at_call 42; refine (Same_dr _ _ _ _ n0 n1 l0 l1 _ HR.out.2.2.1 HR.out.2.2.2.1 bk HR.out.2.2.2.2.1 (Kd.C_drew HR.out.1) (Kd.C_drew HR.out.2.1)).mono ?_; rintro e w3 ⟨rfl, m3, rfl⟩))
          have hbq : Below wr.heap.size wr (wr.drewN (1 + m3)) := ⟨rfl, rfl, rfl, Nat.le_refl _, fun _ _ => rfl⟩
          have H4 : Aside0 ((wr.drewN (1 + m3)).heap[W.heap.size]? = some (.cells x.cells 38 (0, 0)) ∧ (wr.drewN (1 + m3)).heap[W.heap.size + 1]? = some (.cells y.cells 38 (0, 0)) ∧ Below W.heap.size W (wr.drewN (1 + m3))) := ⟨HW.out.1, HW.out.2.1, below_step HW.out.2.2 hbq⟩
          clear hbq
          cases bk with
          | true =>
            have H5 := Aside0.mk (HR.out.2.2.2.2.2.1 (of_decide_eq_true HR.out.2.2.2.2.1))
            go_wp2
            go_roundw
            case rel => exact ⟨k + 1, by omega, by go_num, H5, H4⟩
            case measure => simp [intOf]; omega
          | false =>
            have hbf : b = false := by rw [← H.out.2.2.2.2.1, decide_eq_false_iff_not]; rintro ⟨_, h⟩; exact HR.out.2.2.2.2.2.2 (of_decide_eq_false HR.out.2.2.2.2.1) h
            subst hbf
            go_wp2
            go_ret
            exact ⟨rfl, H4.out.2.2⟩
        · obtain rfl : k = x.nr := by omega
          have hre : rx = ry := by
            have h1 := HE.out
            rw [List.take_of_length_le (by rw [H.out.2.2.2.2.2.2.2.2.1]; exact Nat.le_refl _), List.take_of_length_le (by rw [H.out.2.2.2.2.2.2.2.2.2, ← HN.out]; exact Nat.le_refl _)] at h1
            exact h1
          have hbt : b = true := by rw [← H.out.2.2.2.2.1, decide_eq_true_iff]; exact ⟨HSE.out, hre⟩
          subst hbt
          clear hre
          go_wp2
          go_ret
          exact ⟨rfl, HW.out.2.2⟩
    · have a1 : ((x.nr : Int) != (y.nr : Int)) = true := by rw [bne_iff_ne]; omega
      have hbf : b = false := by rw [← H.out.2.2.2.2.1, decide_eq_false_iff_not]; rintro ⟨_, h⟩; exact hnn (by rw [← H.out.2.2.2.2.2.2.2.2.1, ← H.out.2.2.2.2.2.2.2.2.2, h])
      subst hbf
      clear hnn hse
      go_wp2
      go_ret
      exact ⟨rfl, H2.out.2.2⟩
end Go.Proofs.Ytcgefilboefnpaa.H
/- The example of the statements about journals: alive() is true. -/
namespace Go.Proofs.Ytcgefilboefnpaa.H
open Go.RowKit Go.Proofs.YtcgefilboefnpaaW.PrintWords Go.Proofs.YtcgefilboefnpaaW.PrintLast Go.Proofs.YtcgefilboefnpaaW.PrintMore Go.Proofs.Ytcgefilboefnpaa.CrcM
set_option linter.unusedVariables false
set_option linter.unusedSimpArgs false
attribute [local go_sem] Oper.semAt_some wide_fn wide_depth

def a16 : List Int := [2, 0, 1, 1, 0, 100, 163, 179, 131, 0, 0, 3, 142, 80, 52, 115]
def a25 : List Int := [2, 0, 1, 1, 0, 100, 163, 179, 131, 0, 0, 3, 142, 80, 52, 115, 2, 0, 4, 97, 98, 147, 83, 77, 184]
def b26 : List Int := [2, 0, 1, 2, 1, 254, 136, 63, 69, 3, 0, 2, 120, 121, 122, 46, 95, 182, 153, 0, 0, 3, 142, 80, 52, 115]
def d07 : Dv := ⟨[], [], 200, -1, false, 0⟩
def d17 : Dv := ⟨a16, [], 200, -1, false, 16⟩
def d27 : Dv := ⟨a25, [], 200, -1, false, 25⟩
def d37 : Dv := ⟨a25, b26, 200, -1, false, 51⟩
def j17 : Jn := ⟨0, 1, [], [], 16⟩
def j27 : Jn := ⟨0, 1, [], [[97, 98]], 25⟩
def j37 : Jn := ⟨1, 2, [120, 121, 122], [], 26⟩
theorem jl1 : openJ d07 = (d17, j17, 0) := by kernel_rfl
theorem jl2 : appendJ d17 j17 [97, 98] = (d27, j27, 0) := by kernel_rfl
theorem jl3 : compactJ d27 j27 [120, 121, 122] = (d37, j37, 0) := by kernel_rfl
theorem jl4 : openJ d37 = (d37, j37, 0) := by kernel_rfl
theorem bt7 : Bts a25 ∧ Bts b26 := by unfold Bts; decide +kernel
theorem DevAt.lies [Pl] {W W' : World} {B g : Nat} {d : Dv} (h : DevAt W g d) (hb : Lies B W W') : DevAt W' g d := by
  obtain ⟨A0, c0, A1, c1, h1, h2, h3, h4, h5⟩ := h
  exact ⟨A0, c0, A1, c1, hb.blk h1, h2, h3, hb.Rd h4, hb.Rd h5⟩
theorem JAt.lies [Pl] {W W' : World} {B B' gj gd : Nat} {Ar : Option Addr} {cr : Nat} {j : Jn} (h : JAt W B gj gd Ar cr j) (hb : Lies B' W W') : JAt W' B gj gd Ar cr j := by
  obtain ⟨h0, As, cs, os, ⟨rest, t, ht, h1⟩, h2, h3, h4, h5⟩ := h
  exact ⟨h0, As, cs, os, ⟨rest, t, ht, hb.blk h1⟩, h2, hb.Rd h3, hb.R h4, h5.imp (fun A l hr => hb.Rd hr)⟩
theorem Rd.lit7 [Pl] (W : World) (l : List Int) (fr : Nat × Nat) (h : l.length ≤ 9223372036854775807) (hlo : Pl.lo ≤ W.heap.size) : Rd (W.alloc (.cells (l.map (Value.int .u8)).toArray 5 fr)) (some ⟨W.heap.size, 0, none⟩) l :=
  ⟨C_lit W l _ _ h, fun ad e => by injection e with e; subst e; exact ⟨_, _, blk_new W _⟩, by rw [World.size_alloc]; omega, fun ad e => by injection e with e; subst e; exact Pl.up _ hlo⟩
/-- A row of bytes abides where a journal turns. -/
theorem JAt.abides [Pl] {W : World} {B gj gd : Nat} {Ar : Option Addr} {cr : Nat} {j : Jn} {d : Dv} {A : Option Addr} {l : List Int} (h : JAt W B gj gd Ar cr j) (hd : DevAt W gd d) (hr : Rd W A l) : ∀ W', But (JP gj gd Ar) W W' → Kd.C (Kd.int .u8) W' A l.length l := fun W' hb => (hb.Rd hr (h.no8 hd)).1
theorem OPost.ok [Pl] {gd : Nat} {d : Dv} {j : Jn} {W W' : World} {e : Ending} (h : OPost gd (d, j, 0) W e W') : DevAt W' gd d ∧ But (fun k => k = gd) W W' ∧ ∃ gj Ar cr, e = .returned (.tuple #[.pointer (some ⟨gj, 0, none⟩), .int .i64 0]) ∧ JAt W' W.heap.size gj gd Ar cr j := by
  obtain ⟨h1, h2, ⟨_, h3⟩ | ⟨h3, _⟩⟩ := h
  · exact ⟨h1, h2, h3⟩
  · exact absurd rfl h3
theorem JAt.oth [Pl] {W W' : World} {B gj gd g t : Nat} {Ar : Option Addr} {cr : Nat} {j : Jn} {cs : Array Value} (h : JAt W B gj gd Ar cr j) (hg : W.heap[g]? = some (.cells cs t (0, 0))) (h8 : 5 ≠ t) (h9 : 32 ≠ t) (hne : gj ≠ g) (ho : Oth g W W') : JAt W' B gj gd Ar cr j := by
  obtain ⟨h0, As, cs, os, h1, h2, h3, h4, h5⟩ := h
  exact ⟨h0, As, cs, os, h1.blk (ho.block _ h1.lt hne), h2, h3.oth hg h8 ho, R_oth h4 hg (by intro q hq; simp [KSl, Kd.scalar] at hq; rw [hq]; exact h9) ho, h5.imp (fun A l hr => hr.oth hg h8 ho)⟩
theorem JAt.noD [Pl] {W : World} {B gj gd D : Nat} {Ar : Option Addr} {cr : Nat} {j : Jn} {d : Dv} {ds : Option (List Deferred)} (h : JAt W B gj gd Ar cr j) (hd : DevAt W gd d) (hD : W.heap[D]? = some (.deferred ds)) : ¬ JP gj gd Ar D := by
  obtain ⟨h0, As, cs, os, h1, h2, h3, h4, h5⟩ := h
  obtain ⟨_, _, _, _, hB, _⟩ := hd
  rintro (rfl | rfl | ⟨ad, rfl, rfl⟩)
  · obtain ⟨cells, t, h6, _⟩ := h1.some
    rw [h6] at hD; cases hD
  · rw [hB] at hD; cases hD
  · obtain ⟨_, ho⟩ := Kd.R_own h4
    obtain ⟨cells, hc⟩ := own_typed ho ad.block rfl
    rw [hc] at hD; cases hD
theorem JAt.lt7 [Pl] {W : World} {B gj gd : Nat} {Ar : Option Addr} {cr : Nat} {j : Jn} (h : JAt W B gj gd Ar cr j) : B < W.heap.size := by
  obtain ⟨h0, As, cs, os, h1, _⟩ := h
  exact Nat.lt_of_le_of_lt h0 h1.lt
theorem JAt.from7 [Pl] {W : World} {B gj gd : Nat} {Ar : Option Addr} {cr : Nat} {j : Jn} (h : JAt W B gj gd Ar cr j) : ∀ k, (∃ ad, Ar = some ad ∧ k = ad.block) → B ≤ k := by
  obtain ⟨h0, As, cs, os, h1, h2, h3, h4, h5⟩ := h
  rintro k ⟨ad, rfl, rfl⟩
  obtain ⟨_, ho⟩ := Kd.R_own h4
  exact own_base ho ad.block rfl
set_option maxHeartbeats 6400000 in
set_option maxRecDepth 100000 in
theorem alive7_calls [Pl] (w : World) (hlo : Pl.lo ≤ w.heap.size) : Calls Try.prog 7 #[] w fun e w' => e = .returned (.bool true) ∧ Below w.heap.size w w' := by
  have kc := fun (W : World) (C : Array Value) (n c : Nat) => Lib.run_convert_bytes_const (P := Try.prog) W 32 5 C n c Try.underlying32 Try.underlying5
  refine (callsIn_wide (n := 5)).1 ?_
  refine callsIn_of_wp_marks Try.func7 rfl trivial ?_ rfl
  simp only [Try.ntmps7, List.size_toArray, List.length_cons, List.length_nil, Nat.reduceAdd, Nat.reduceSub, Array.replicate_succ, Array.replicate_zero, List.push_toArray, List.append_toArray, List.nil_append, List.cons_append]
  gi_wp2_with (fail)
  refine (callsIn_wide.2 (New_calls 200 _ hlo)).mono ?_
  rintro e w1 ⟨rfl, hd1, hb1⟩
  have hd1' : DevAt w1 w.heap.size d07 := hd1
  have hs1 : w.heap.size < w1.heap.size := hd1.lt
  have H1 := Aside0.mk (And.intro hd1' hb1)
  clear hd1 hd1' hb1
  gi_wp2_with (fail)
  refine (callsIn_wide.2 (JOpen_calls w.heap.size d07 (d17, j17, 0) _ jl1 H1.out.1 (by constructor <;> simp [d07]) (fun _ h => by simp [d07] at h) (fun _ h => by simp [d07] at h))).mono ?_
  rintro e w2 ho
  obtain ⟨hd2, hb2, gj, Ar, cr, rfl, hj2⟩ := ho.ok
  have hB2 : Below w.heap.size w w2 := hb2.below H1.out.2 H1.out.2.size (fun k hk => by rw [hk]; exact Nat.le_refl _)
  have H2 := Aside0.mk (And.intro hd2 (And.intro hj2 hB2))
  clear hd2 hb2 hj2 hB2 ho
  gi_wp2_with (fail)
  refine (callsIn_wide.2 (Bytes_eq w.heap.size d17 0 a16 16 _ rfl rfl H2.out.1 (by decide) (by decide))).mono ?_
  rintro e w3 ⟨A3, c3, rfl, hc3, hr3, hb3⟩
  have hstr : (convert 32 9 (.slice A3 5 c3)).run Try.prog w3 = .ok (.string ⟨#[2, 0, 1, 1, 0]⟩) w3 := Kd.C_string (P := Try.prog) (xs := [2, 0, 1, 1, 0]) Try.underlying32 Try.underlying5 Try.underlying9 (C_take_n (m := 5) (n := 5) hr3.1 rfl (by decide))
  have h5 : (5 : Nat) ≤ c3 := by omega
  have H3 := Aside0.mk (And.intro (H2.out.1.below hb3) (And.intro (H2.out.2.1.below hb3) (below_step H2.out.2.2 hb3)))
  clear hr3 hb3
  gi_wp2_with (gi_at_call 28; refine (callsIn_wide.2 (Age_eq gj w.heap.size _ Ar cr j17 1 _ H3.out.2.1 rfl)).mono ?_; rintro e w' ⟨rfl, rfl⟩)
  have hb4 : Below w3.heap.size w3 (w3.alloc (.cells #[.int .u8 97, .int .u8 98] 5 (2, 3))) := below_alloc (Below.refl _ _) _
  have hr4 : Rd (w3.alloc (.cells #[.int .u8 97, .int .u8 98] 5 (2, 3))) (some ⟨w3.heap.size, 0, none⟩) [97, 98] := Rd.lit7 w3 [97, 98] (2, 3) (by decide) (by have := H3.out.2.2.size; omega)
  have H4 := Aside0.mk (And.intro (H3.out.1.below hb4) (And.intro (H3.out.2.1.below hb4) (And.intro (below_step H3.out.2.2 hb4) hr4)))
  clear hb4 hr4 H3 hstr
  generalize w3.alloc (.cells #[.int .u8 97, .int .u8 98] 5 (2, 3)) = w4 at *
  refine (callsIn_wide.2 (JAppend_calls gj w.heap.size w1.heap.size Ar cr j17 d17 _ 2 [97, 98] (d27, j27, 0) _ jl2 H4.out.2.1 H4.out.1 (by have := H4.out.2.1.lt7; omega) (H4.out.2.1.abides H4.out.1 H4.out.2.2.2) (by decide) (by decide) (by constructor <;> simp [d17, a16]) (by decide) (by decide) (by decide))).mono ?_
  rintro e w5 ⟨rfl, hd5, ⟨Ar5, cr5, hj5, _⟩, hbut5⟩
  have hB5 : Below w.heap.size w w5 := hbut5.below H4.out.2.2.1 H4.out.2.2.1.size (by
    intro k hk
    have h6 := H4.out.2.1.from7
    rcases hk with rfl | rfl | hk
    · have := H4.out.2.1.1; omega
    · exact Nat.le_refl _
    · have := h6 k hk; omega)
  have H5 := Aside0.mk (And.intro hd5 (And.intro hj5 hB5))
  clear hd5 hj5 hB5 hbut5 H4
  gi_wp2_with (gi_at_call 30; refine (callsIn_wide.2 (Count_eq gj w.heap.size _ Ar5 cr5 j27 1 _ H5.out.2.1 rfl)).mono ?_; rintro e w' ⟨rfl, rfl⟩)
  have hx6 : (w5.alloc (.cells #[.int .i64 0] 3)).heap[w5.heap.size]? = some (.cells #[.int .i64 0] 3 (0, 0)) := blk_new w5 _
  have hb6 : Below w5.heap.size w5 (w5.alloc (.cells #[.int .i64 0] 3)) := below_alloc (Below.refl _ _) _
  have H6 := Aside0.mk (And.intro (H5.out.1.below hb6) (And.intro (H5.out.2.1.below hb6) (And.intro (below_step H5.out.2.2 hb6) hx6)))
  have hs6 : w5.heap.size < (w5.alloc (.cells #[.int .i64 0] 3)).heap.size := lt_of_some hx6
  have hs5 := H5.out.2.2.size
  clear hb6 hx6
  generalize w5.alloc (.cells #[.int .i64 0] 3) = w6 at *
  refine (callsIn_wide.2 (Records_calls gj _)).mono ?_
  rintro e w7 ⟨rfl, rfl⟩
  have hx7 : (w6.alloc (.cells #[.pointer (some ⟨gj, 0, none⟩)] 27)).heap[w6.heap.size]? = some (.cells #[.pointer (some ⟨gj, 0, none⟩)] 27 (0, 0)) := blk_new w6 _
  have hb7 : Below w6.heap.size w6 (w6.alloc (.cells #[.pointer (some ⟨gj, 0, none⟩)] 27)) := below_alloc (Below.refl _ _) _
  have hs7 : w6.heap.size < (w6.alloc (.cells #[.pointer (some ⟨gj, 0, none⟩)] 27)).heap.size := lt_of_some hx7
  have H7 := Aside0.mk (And.intro (H6.out.1.below hb7) (And.intro (H6.out.2.1.below hb7) (And.intro (below_step H6.out.2.2.1 hb7) (blk_belowX H6.out.2.2.2 hb7))))
  clear hb7
  generalize w6.alloc (.cells #[.pointer (some ⟨gj, 0, none⟩)] 27) = w7 at *
  obtain ⟨gn, hgn⟩ : ∃ g, w5.heap.size = g := ⟨_, rfl⟩
  rw [hgn] at H7 hs6 hs5
  have hgdn : w.heap.size < gn := by rw [← hgn]; exact H5.out.1.lt
  have hgjn : gj < gn := by
    rw [← hgn]
    obtain ⟨_, As, cs, os, q1, _⟩ := H5.out.2.1
    exact q1.lt
  rw [hgn]
  clear H6 hgn
  gi_wp2
  refine rangeX rfl (by omega) (gf := 51) (lb := #[.pointer (some ⟨w6.heap.size, 0, none⟩)]) rfl trivial (enters_of Try.func51 (by kernel_rfl) rfl)
    (Y := RecY [[97, 98]]) (n₀ := w7.heap.size) (Kb := fun k => k ≠ gn) (S := fun xs => xs = [[97, 98]]) (Sp := fun _ => True)
    (Records1_seq 4 [[97, 98]] (by simp) Ar5 cr5 gj w6.heap.size w7.heap.size (fun k => k ≠ gn) w7
      (fun W hk => by rw [blk_cell ((hk.2 w6.heap.size (by omega) (by omega)).trans hx7) 0]; rfl)
      (fun W hk => by
        obtain ⟨_, As, cs, os, q1, _⟩ := H7.out.2.1
        exact (q1.blk (hk.2 gj q1.lt (by omega))).cells.2.2.2.2.1)
      (fun W hk => by
        obtain ⟨_, As, cs, os, q1, q2, q3, q4, q5⟩ := H7.out.2.1
        have h6 := rows_keep hk.1 (fun k cs t z hc ht => hk.2 k (lt_of_some hc) (ne_block' hc H7.out.2.2.2 (by rcases ht with rfl | rfl <;> decide))) q4 q5
        exact C_rows h6.1 h6.2) (Nat.le_refl _) (by omega)) (Nat.le_refl _)
    (fun _ _ _ _ hy => by obtain ⟨_, A3, c3, rfl, _⟩ := hy; rfl)
    (fun pre W => W.heap[gn]? = some (.cells #[.int .i64 (if pre = [] then 0 else 2)] 3 (0, 0)) ∧ DevAt W w.heap.size d27 ∧ JAt W w1.heap.size gj w.heap.size Ar5 cr5 j27 ∧ Below w.heap.size w W) (fun _ _ _ => False)
    (fun s P Q h hlie => ⟨hlie.blk h.1, h.2.1.lies hlie, h.2.2.1.lies hlie, hlie.below h.2.2.2 (by omega) (Nat.le_refl _)⟩) (fun _ _ _ _ h _ => h) ⟨H7.out.2.2.2, H7.out.1, H7.out.2.1, H7.out.2.2.1⟩ ?round ?done (fun _ _ _ _ _ _ h _ => h.elim)
  case round =>
    rintro l pre x vs W hl2 ⟨hI1, hI2, hI3, hI4⟩ ⟨hpre, A8, c8, rfl, hc8, hr8⟩ hWs
    obtain ⟨rfl, rfl⟩ : pre = [] ∧ x = [97, 98] := by
      cases pre with
      | nil => obtain ⟨t, ht⟩ := hpre; simp at ht; exact ⟨rfl, ht.1⟩
      | cons y p => have := hpre.length_le; simp at this
    simp only [if_true] at hI1
    gi_wp2
    refine ⟨KeepsFrom.of_below (Below.refl _ _), Kp.refl _ _ _, ?_⟩
    intro Wb hlie
    have k1 := hlie.blk hI1
    have I := Aside0.mk (And.intro k1 (And.intro (hI2.lies hlie) (And.intro (hI3.lies hlie) (hlie.below hI4 (by omega) (Nat.le_refl _)))))
    have d0 : Wb.cell? ⟨gn, 0, none⟩ = some (.int .i64 0) := (blk_cell k1 0).trans rfl
    have f0 := blk_frozen k1 0
    have hgl := lt_of_some k1
    clear hI1 hI2 hI3 hI4 k1 hlie hr8
    gi_wp2
    have ho : Oth gn Wb (Wb.setCell ⟨gn, 0, none⟩ (.int .i64 2)) := Oth.set Wb ⟨gn, 0, none⟩ _
    exact ⟨KeepsFrom.set _ _ _ _, Kp.set (fun h => absurd rfl h) _, blk_put I.out.1 0 _ rfl, I.out.2.1.oth I.out.1 (by decide) (by omega) ho, I.out.2.2.1.oth I.out.1 (by decide) (by decide) (by omega) ho, I.out.2.2.2.setCell (by show w.heap.size ≤ gn; omega) _⟩
  case done =>
    rintro D xs W hD rfl ⟨hI1, hI2, hI3, hI4⟩ hK
    simp only [reduceCtorEq, if_false] at hI1
    have hgl := lt_of_some hI1
    have I := Aside0.mk (And.intro hI1 (And.intro hI2 (And.intro hI3 (And.intro hI4 hK))))
    clear hI1 hI2 hI3 hI4 hK
    gi_wp2_with (fail)
    refine (callsIn_wide.2 (Room_eq gj w.heap.size w1.heap.size Ar5 cr5 j27 d27 175 _ I.out.2.2.1 I.out.2.1 rfl (by decide) (by decide) (by decide) (by decide))).mono ?_
    rintro e w8 ⟨rfl, hb8⟩
    have H8 := Aside0.mk (And.intro (I.out.2.1.below hb8) (And.intro (I.out.2.2.1.below hb8) (And.intro (below_step I.out.2.2.2.1 hb8) (And.intro (blk_belowX I.out.1 hb8) (blk_belowX I.out.2.2.2.2 hb8)))))
    clear hb8 I
    gi_wp2_with (fail)
    have hb9 : Below w8.heap.size w8 (w8.alloc (.cells #[.int .u8 120, .int .u8 121, .int .u8 122] 5 (3, 4))) := below_alloc (Below.refl _ _) _
    have hr9 : Rd (w8.alloc (.cells #[.int .u8 120, .int .u8 121, .int .u8 122] 5 (3, 4))) (some ⟨w8.heap.size, 0, none⟩) [120, 121, 122] := Rd.lit7 w8 [120, 121, 122] (3, 4) (by decide) (by have := H8.out.2.2.1.size; omega)
    have H9 := Aside0.mk (And.intro (H8.out.1.below hb9) (And.intro (H8.out.2.1.below hb9) (And.intro (below_step H8.out.2.2.1 hb9) (And.intro (blk_belowX H8.out.2.2.2.1 hb9) (And.intro (blk_belowX H8.out.2.2.2.2 hb9) hr9)))))
    clear hb9 hr9 H8
    generalize w8.alloc (.cells #[.int .u8 120, .int .u8 121, .int .u8 122] 5 (3, 4)) = w9 at *
    refine (callsIn_wide.2 (JCompact_calls gj w.heap.size w1.heap.size Ar5 cr5 j27 d27 _ 3 3 [120, 121, 122] (d37, j37, 0) _ jl3 rfl H9.out.2.1 H9.out.1 (by have := H9.out.2.1.lt7; omega) (H9.out.2.1.abides H9.out.1 H9.out.2.2.2.2.2) (Nat.le_refl _) (by decide) (by decide) (by decide) (.inl rfl) (by constructor <;> simp [d27, a25]))).mono ?_
    rintro e w10 ⟨rfl, hd10, ⟨Ar10, cr10, hj10, _⟩, hbut10⟩
    have hfr : ∀ k, JP gj w.heap.size Ar5 k → w.heap.size ≤ k := by
      have h6 := H9.out.2.1.from7
      rintro k (rfl | rfl | hk)
      · have := H9.out.2.1.1; omega
      · exact Nat.le_refl _
      · have := h6 k hk; omega
    have hB10 : Below w.heap.size w w10 := hbut10.below H9.out.2.2.1 H9.out.2.2.1.size hfr
    have hD10 := hbut10.blk H9.out.2.2.2.2.1 (H9.out.2.1.noD H9.out.1 H9.out.2.2.2.2.1)
    have hn10 := hbut10.blk H9.out.2.2.2.1 (by
      rintro (h | h | ⟨ad, h, h2⟩)
      · omega
      · omega
      · obtain ⟨h0, As, cs, os, q1, q2, q3, q4, q5⟩ := H9.out.2.1
        subst h
        obtain ⟨_, ho⟩ := Kd.R_own q4
        obtain ⟨cells, hc⟩ := own_typed ho ad.block rfl
        exact ne_block' H9.out.2.2.2.1 hc (by decide) h2)
    have H10 := Aside0.mk (And.intro hd10 (And.intro hj10 (And.intro hB10 (And.intro hn10 hD10))))
    clear hd10 hj10 hB10 hn10 hD10 hbut10 hfr H9
    gi_wp2_with (fail)
    refine (callsIn_wide.2 (JOpen_calls w.heap.size d37 (d37, j37, 0) _ jl4 H10.out.1 (by constructor <;> simp [d37, a25, b26]) bt7.1 bt7.2)).mono ?_
    rintro e w11 ho
    obtain ⟨hd11, hb11, gk, Ark, crk, rfl, hj11⟩ := ho.ok
    have hB11 : Below w.heap.size w w11 := hb11.below H10.out.2.2.1 H10.out.2.2.1.size (fun k hk => by rw [hk]; exact Nat.le_refl _)
    have hn11 := hb11.blk H10.out.2.2.2.1 (by omega)
    have hD11 := hb11.blk H10.out.2.2.2.2 (by omega)
    have d0 : w11.cell? ⟨gn, 0, none⟩ = some (.int .i64 2) := (blk_cell hn11 0).trans rfl
    have H11 := Aside0.mk (And.intro hj11 (And.intro hB11 (And.intro hD11 hn11)))
    clear hd11 hb11 hj11 hB11 hD11 hn11 ho
    gi_wp2_with (first
      | (gi_at_call 28; refine (callsIn_wide.2 (Age_eq gk w.heap.size _ Ark crk j37 2 _ H11.out.1 rfl)).mono ?_; rintro e w' ⟨rfl, rfl⟩))
    refine (callsIn_wide.2 (Snapshot_calls gk w.heap.size _ Ark crk j37 [120, 121, 122] 3 _ H11.out.1 rfl rfl (by decide))).mono ?_
    rintro e w12 ⟨A12, c12, rfl, hc12, hr12, hb12⟩
    have hstr2 : (convert 32 9 (.slice A12 3 c12)).run Try.prog w12 = .ok (.string ⟨#[120, 121, 122]⟩) w12 := Kd.C_string (P := Try.prog) (xs := [120, 121, 122]) Try.underlying32 Try.underlying5 Try.underlying9 hr12.1
    have H12 := Aside0.mk (And.intro (H11.out.1.below hb12) (And.intro (below_step H11.out.2.1 hb12) (blk_belowX H11.out.2.2.1 hb12)))
    clear hr12 hb12
    gi_wp2_with (first
      | (gi_at_call 30; refine (callsIn_wide.2 (Count_eq gk w.heap.size _ Ark crk j37 0 _ H12.out.1 rfl)).mono ?_; rintro e w' ⟨rfl, rfl⟩)
      | (gi_at_call 17; refine (callsIn_wide.2 (JWeight_eq 2 9 _ (by decide) (by decide))).mono ?_; rintro e w' ⟨rfl, rfl⟩))
    refine (callsIn_wide.2 (Heavy_calls 2 3 26 _ (by decide) (by decide) (by decide))).mono ?_
    rintro e w13 ⟨rfl, hb13⟩
    have H13 := Aside0.mk (And.intro (below_step H12.out.2.1 hb13) (blk_belowX H12.out.2.2 hb13))
    clear hb13 H12
    gi_wp2_with (fail)
    refine (callsIn_wide.2 (Heavy_calls 1 0 16 _ (by decide) (by decide) (by decide))).mono ?_
    rintro e w14 ⟨rfl, hb14⟩
    have H14 := Aside0.mk (And.intro (below_step H13.out.1 hb14) (blk_belowX H13.out.2 hb14))
    clear hb14 H13
    gi_wp2
    have hlies : Lies w.heap.size w14 (w14.putObj D (.deferred none)) := .put (by omega) H14.out.2 rfl _
    refine ⟨by simp, .inl ⟨_, _, rfl, run_takeDeferred H14.out.2, ?_⟩⟩
    exact ⟨_, results_tmp rfl _ _ _, rfl, hlies.below H14.out.1 (Nat.le_refl _) (Nat.le_refl _)⟩
end Go.Proofs.Ytcgefilboefnpaa.H
