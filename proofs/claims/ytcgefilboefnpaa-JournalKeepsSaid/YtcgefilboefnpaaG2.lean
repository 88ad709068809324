/- Some texts of one seat in one file, in build order. -/
import Derived.Test.YtcgefilboefnpaaG1
import Derived.Deep.RegionHeld3
import Derived.Deep.RegionWith
/- Contracts of the references' helpers Copy, Same, Join over bytes. -/
namespace Go.Proofs.Ytcgefilboefnpaa.H
open Go.RowKit Go.Proofs.YtcgefilboefnpaaW.PrintWords Go.Proofs.YtcgefilboefnpaaW.PrintLast Go.Proofs.YtcgefilboefnpaaW.PrintMore
set_option linter.unusedVariables false
set_option linter.unusedSimpArgs false

theorem take_eq_succ {α : Type} (z : α) {a b : List α} {k : Nat} (ha : k < a.length) (hb : k < b.length) (h : a.take k = b.take k) (e : a.getD k z = b.getD k z) : a.take (k + 1) = b.take (k + 1) := by
  rw [List.take_succ_eq_append_getElem ha, List.take_succ_eq_append_getElem hb, h]
  simp [List.getD_eq_getElem?_getD, List.getElem?_eq_getElem ha, List.getElem?_eq_getElem hb] at e
  rw [e]
theorem take_rd (l : List Int) (k : Nat) (h : k < l.length) : l.take (k + 1) = l.take k ++ [rd l k] := by
  rw [List.take_succ_eq_append_getElem h]; simp [rd, h]

set_option maxHeartbeats 800000 in
theorem Copy_calls (A0 : Option Addr) (c0 : Nat) (l0 : List Int) (w : World) (hr0 : Kd.C (Kd.int .u8) w A0 l0.length l0) (hl : l0.length ≤ 1000000) :
    Calls Try.prog 15 #[.slice A0 l0.length c0] w fun e w' => ∃ v0_ : Value, e = .returned v0_ ∧ Kd.R (Kd.int .u8) 5 w' w.heap.size (fun _ => True) v0_ l0 ∧ Below w.heap.size w w' := by
  have HR0 := Aside0.mk hr0
  clear hr0
  go_enter Try.func15, Try.ntmps15
  go_wp2_with (first
    | ((with_reducible refine gate_dst (N := 5) rfl ?_); refine Kd.R_lit (Kd.int .u8) (w0 := w) w.heap.size 5 ?hg (N := 5) ?hd (xs := ([] : List Int)) (inner := []) (ok := fun _ => True) (okp := fun _ => True) ?hr ?hp (fun _ hk => hk) trivial (Below.refl _ _) (Nat.le_refl _) (by simp) ?_; (case hd => rfl); (case hg => rfl); (case hr => first | (go_simp; done) | (go_simp; rfl)); (case hp => exact Reps.none _ _); intro v5 w5 ho5 hb5 hg5 hn5; have HO5 := Aside0.mk ho5; have HB5 := Aside0.mk hb5; clear ho5 hb5 hg5 hn5))
  go_loopw [3, 4] (fun v i wr => ∃ k : Nat, k ≤ l0.length ∧ i = .int .i64 k ∧ Aside0 (Kd.R (Kd.int .u8) 5 wr w.heap.size (fun _ => True) v (l0.take k)) ∧ Aside0 (Below w.heap.size w wr)) (fun _ i _ => l0.length - (intOf i).toNat)
  case atStart => exact ⟨0, Nat.zero_le _, rfl, ⟨by simpa using HO5.out⟩, HB5⟩
  case round =>
    obtain ⟨k, hk, rfl, HO, HB⟩ := hrel
    by_cases hlt : k < l0.length
    · have b1 : decide (k < l0.length) = true := decide_eq_true hlt
      obtain ⟨ad0, e0, hx0⟩ := Kd.at_int (Kd.C_below HR0.out HB.out) k (by omega) (by omega)
      subst e0
      simp only [Int.toNat_natCast] at hx0
      have HT := Lib.hid (take_rd l0 k hlt)
      have hlk : (l0.take k).length ≤ k := List.length_take_le _ _
      go_wp2_with ((with_reducible refine gate_builtin (b := .append) (xs := #[.tmp 12, .tmp 17]) rfl ?_); at_builtin; refine Kd.R_append (Kd.int .u8) (w0 := w) w.heap.size rfl (.tmp 12) (.tmp 17) 32 5 (.int .u8 0) 1 rfl Try.underlying32 info_u8 rfl (by decide) (by omega) _ (l0.take k) (rd l0 k) [.int .u8 (rd l0 k)] (fun _ => True) (fun _ => False) rfl rfl rfl (fun _ hk => hk.elim) (fun _ _ => trivial) HO.out HB.out HB.out.size (by omega) ?_; intro v7 w7 ho7 hb7 hg7 hat7; have HO7 := Aside0.mk ho7; have HB7 := Aside0.mk hb7; clear ho7 hb7 hg7 hat7)
      go_roundw
      case rel => exact ⟨k + 1, by omega, by go_num, ⟨by rw [HT.out]; exact HO7.out⟩, HB7⟩
      case measure => simp [intOf]; omega
    · obtain rfl : k = l0.length := by omega
      go_wp2
      go_ret
      exact ⟨_, rfl, by simpa using HO.out, HB.out⟩

set_option maxHeartbeats 800000 in
theorem Same_calls (A0 : Option Addr) (c0 : Nat) (l0 : List Int) (A1 : Option Addr) (c1 : Nat) (l1 : List Int) (w : World) (hr0 : Kd.C (Kd.int .u8) w A0 l0.length l0) (hr1 : Kd.C (Kd.int .u8) w A1 l1.length l1) :
    Calls Try.prog 42 #[.slice A0 l0.length c0, .slice A1 l1.length c1] w fun e w' => e = .returned (.bool (decide (l0 = l1))) ∧ Drawn0 w w' := by
  have HR0 := Aside0.mk hr0
  have HR1 := Aside0.mk hr1
  have hm : l0.length ≤ 9223372036854775807 := hr0.2.1
  clear hr0 hr1
  by_cases hle : l0.length = l1.length
  · have b0 : ((l0.length : Int) != (l1.length : Int)) = false := by simp [hle]
    have HLE := Lib.hid hle
    have hle1 : l0.length ≤ l1.length := by omega
    have hle2 : l1.length ≤ l0.length := by omega
    have b00 : (l0.length == l1.length) = true := by simp [hle]
    clear hle
    go_enter Try.func42, Try.ntmps42
    go_wp2
    repeat (go_quiet (fail); try go_wp2)
    go_loopw [5] (fun i wr => ∃ k : Nat, k ≤ l0.length ∧ i = .int .i64 k ∧ Aside0 (l0.take k = l1.take k) ∧ Drawn0 w wr) (fun i _ => l0.length - (intOf i).toNat)
    case atStart => exact ⟨0, Nat.zero_le _, rfl, ⟨by simp⟩, by repeat (first | exact Drawn0.refl _ | apply Drawn0.step)⟩
    case round =>
      obtain ⟨k, hk, rfl, HT, ⟨m1, rfl⟩⟩ := hrel
      by_cases hlt : k < l0.length
      · have b1 : decide (k < l0.length) = true := decide_eq_true hlt
        have b2 : decide ((k : Int) < (l1.length : Int)) = true := decide_eq_true (by omega)
        obtain ⟨ad0, e0, hx0⟩ := Kd.at_int HR0.out k (by omega) (by omega)
        obtain ⟨ad1, e1, hx1⟩ := Kd.at_int HR1.out k (by omega) (by omega)
        subst e0; subst e1
        simp only [Int.toNat_natCast] at hx0 hx1
        by_cases hq : rd l0 k = rd l1 k
        · have hn := take_eq_succ (0 : Int) hlt (by omega) HT.out (by simpa [rd] using hq)
          have HN := Aside0.mk hn
          have b3 : (rd l0 k != rd l1 k) = false := by simp [hq]
          have b4 : (rd l0 k == rd l1 k) = true := by simp [hq]
          clear hn hq
          go_wp2
          repeat (go_quiet (fail); try go_wp2)
          go_roundw
          case rel => exact ⟨k + 1, by omega, by go_num, HN, by repeat (first | exact Drawn0.refl _ | apply Drawn0.step)⟩
          case measure => simp [intOf]; omega
        · have b3 : (rd l0 k != rd l1 k) = true := by simp [hq]
          have b4 : (rd l0 k == rd l1 k) = false := by simp [hq]
          have HQ := Aside0.mk hq
          clear hq
          go_wp2
          repeat (go_quiet (fail); try go_wp2)
          go_ret
          refine ⟨?_, by repeat (first | exact Drawn0.refl _ | apply Drawn0.step)⟩
          have : decide (l0 = l1) = false := decide_eq_false (fun h => HQ.out (by rw [h]))
          rw [this]; rfl
      · obtain rfl : k = l0.length := by omega
        go_wp2
        repeat (go_quiet (fail); try go_wp2)
        go_ret
        refine ⟨?_, by repeat (first | exact Drawn0.refl _ | apply Drawn0.step)⟩
        have h := HT.out
        rw [List.take_length, HLE.out, List.take_length] at h
        have : decide (l0 = l1) = true := decide_eq_true h
        rw [this]; rfl
  · have b0 : ((l0.length : Int) != (l1.length : Int)) = true := by simp; omega
    have b00 : (l0.length == l1.length) = false := by simp [hle]
    have HLE := Lib.hid hle
    clear hle
    go_enter Try.func42, Try.ntmps42
    go_wp2
    repeat (go_quiet (fail); try go_wp2)
    go_ret
    refine ⟨?_, by repeat (first | exact Drawn0.refl _ | apply Drawn0.step)⟩
    have : decide (l0 = l1) = false := decide_eq_false (fun h => HLE.out (by rw [h]))
    rw [this]; rfl

set_option maxHeartbeats 1600000 in
theorem Join_calls (A0 : Option Addr) (c0 : Nat) (l0 : List (List Int)) (w : World) (hr0 : Kd.C (Kd.slice 5 (Kd.int .u8)) w A0 l0.length l0) (hl : l0.flatten.length ≤ 1000000) :
    Calls Try.prog 50 #[.slice A0 l0.length c0] w fun e w' => ∃ v0_ : Value, e = .returned v0_ ∧ Kd.R (Kd.int .u8) 5 w' w.heap.size (fun _ => True) v0_ l0.flatten ∧ Below w.heap.size w w' := by
  have HR0 := Aside0.mk hr0
  have hm : l0.length ≤ 9223372036854775807 := hr0.2.1
  clear hr0
  go_enter Try.func50, Try.ntmps50
  go_wp2_with (first
    | ((with_reducible refine gate_dst (N := 6) rfl ?_); refine Kd.R_lit (Kd.int .u8) (w0 := w) w.heap.size 5 ?hg (N := 6) ?hd (xs := ([] : List Int)) (inner := []) (ok := fun _ => True) (okp := fun _ => True) ?hr ?hp (fun _ hk => hk) trivial (Below.refl _ _) (Nat.le_refl _) (by simp) ?_; (case hd => rfl); (case hg => rfl); (case hr => first | (go_simp; done) | (go_simp; rfl)); (case hp => exact Reps.none _ _); intro v5 w5 ho5 hb5 hg5 hn5; have HO5 := Aside0.mk ho5; have HB5 := Aside0.mk hb5; clear ho5 hb5 hg5 hn5))
  go_loopw [3, 4] (fun v i wr => ∃ k : Nat, k ≤ l0.length ∧ i = .int .i64 k ∧ Aside0 (Kd.R (Kd.int .u8) 5 wr w.heap.size (fun _ => True) v ((l0.take k).flatten)) ∧ Aside0 (Below w.heap.size w wr)) (fun _ i _ => l0.length - (intOf i).toNat)
  case atStart => exact ⟨0, Nat.zero_le _, rfl, ⟨by simpa using HO5.out⟩, HB5⟩
  case round =>
    obtain ⟨k, hk, rfl, HO, HB⟩ := hrel
    by_cases hlt : k < l0.length
    · have b1 : decide (k < l0.length) = true := decide_eq_true hlt
      have hs := upLen_succ l0 k hlt
      have hu := upLen_le l0 (k + 1)
      have ht := take_flatten_succ l0 k hlt
      have HAT := Aside0.mk (fun (wr : World) (hb : Below w.heap.size w wr) => at_slice (Kd.C_below HR0.out hb) k hlt)
      generalize hx : l0.getD k [] = x at hs ht HAT
      have hb2 : ((l0.take k).flatten).length + x.length ≤ 1000000 := by unfold upLen at hs hu; omega
      generalize hp : (l0.take k).flatten = p at HO ht hb2
      have HT := Lib.hid ht
      clear hs hu hx ht hp
      obtain ⟨wo, hwo⟩ : ∃ wo : World, wo = wr := ⟨_, rfl⟩
      subst hwo
      go_wp2
      go_loopw [3, 5] (fun v i wr => ∃ j : Nat, j ≤ x.length ∧ i = .int .i64 j ∧ Aside0 (Kd.R (Kd.int .u8) 5 wr w.heap.size (fun _ => True) v (p ++ x.take j)) ∧ Aside0 (Below w.heap.size w wr)) (fun _ i _ => x.length - (intOf i).toNat)
      case atStart => exact ⟨0, Nat.zero_le _, rfl, ⟨by simpa using HO.out⟩, HB⟩
      case round =>
        obtain ⟨j, hj, rfl, HO2, HB2⟩ := hrel
        obtain ⟨ad, A2, c2, e2, hcell, hle, hin⟩ := HAT.out _ HB2.out
        subst e2
        have hmx : x.length ≤ 9223372036854775807 := hin.2.1
        have HIN := Aside0.mk hin
        clear hin
        by_cases hjt : j < x.length
        · have b2 : decide (j < x.length) = true := decide_eq_true hjt
          obtain ⟨ad0, e0, hx0⟩ := Kd.at_int HIN.out j (by omega) (by omega)
          subst e0
          simp only [Int.toNat_natCast] at hx0
          have HT2 := Lib.hid (take_rd x j hjt)
          have hlk : (p ++ x.take j).length ≤ 1000000 := by rw [List.length_append, List.length_take]; omega
          generalize hpx : p ++ x.take j = px at HO2 hlk
          have HPX := Lib.hid hpx
          clear hpx
          go_wp2_with ((with_reducible refine gate_builtin (b := .append) (xs := #[.tmp 22, .tmp 30]) rfl ?_); at_builtin; refine Kd.R_append (Kd.int .u8) (w0 := w) w.heap.size rfl (.tmp 22) (.tmp 30) 32 5 (.int .u8 0) 1 rfl Try.underlying32 info_u8 rfl (by decide) (by omega) _ px (rd x j) [.int .u8 (rd x j)] (fun _ => True) (fun _ => False) rfl rfl rfl (fun _ hk => hk.elim) (fun _ _ => trivial) HO2.out HB2.out HB2.out.size (by omega) ?_; intro v7 w7 ho7 hb7 hg7 hat7; have HO7 := Aside0.mk ho7; have HB7 := Aside0.mk hb7; clear ho7 hb7 hg7 hat7)
          go_roundw
          case rel => exact ⟨j + 1, by omega, by go_num, ⟨by rw [HT2.out, ← List.append_assoc, HPX.out]; exact HO7.out⟩, HB7⟩
          case measure => simp [intOf]; omega
        · obtain rfl : j = x.length := by omega
          go_wp2
          go_roundw
          case rel => exact ⟨k + 1, by omega, by go_num, ⟨by rw [HT.out]; simpa using HO2.out⟩, HB2⟩
          case measure => simp [intOf]; omega
    · obtain rfl : k = l0.length := by omega
      go_wp2
      go_ret
      exact ⟨_, rfl, by simpa using HO.out, HB.out⟩
end Go.Proofs.Ytcgefilboefnpaa.H
/- Package device: the state that a device's cells tell; contracts of its small methods and of step. -/
namespace Go.Proofs.Ytcgefilboefnpaa.H
open Go.RowKit Go.Proofs.YtcgefilboefnpaaW.PrintWords Go.Proofs.YtcgefilboefnpaaW.PrintLast Go.Proofs.YtcgefilboefnpaaW.PrintMore
set_option linter.unusedVariables false
set_option linter.unusedSimpArgs false

structure Dv where
  a : List Int
  b : List Int
  cap : Int
  left : Int
  down : Bool
  turned : Int
def Dv.row (d : Dv) (r : Int) : List Int := if r = 0 then d.a else if r = 1 then d.b else []
def Dv.set (d : Dv) (r : Int) (l : List Int) : Dv := if r = 0 then { d with a := l } else if r = 1 then { d with b := l } else d
/-- Where rows may lie: wherever is made from lo on, and where P says. -/
class Pl where
  P : Nat → Prop
  lo : Nat
  up : ∀ k, lo ≤ k → P k
/-- A row of bytes that is read, in a block of bytes, where rows may lie. -/
def Rd [Pl] (W : World) (A : Option Addr) (l : List Int) : Prop := Kd.C (Kd.int .u8) W A l.length l ∧ Ty 5 W A ∧ Pl.lo ≤ W.heap.size ∧ ∀ ad, A = some ad → Pl.P ad.block
theorem Rd.lo [Pl] {W : World} {A : Option Addr} {l : List Int} (h : Rd W A l) : Pl.lo ≤ W.heap.size := h.2.2.1
theorem Oth.tys {g t : Nat} {W W' : World} {cs : Array Value} {z : Nat × Nat} (h : Oth g W W') (hb : W.heap[g]? = some (.cells cs t z)) {t' : TypeId} (hne : t' ≠ t) (i : Nat) (cs' : Array Value) (z' : Nat × Nat) (hi : W.heap[i]? = some (Obj.cells cs' t' z')) : W'.heap[i]? = W.heap[i]? :=
  h.block i (lt_of_some hi) (fun e => by subst e; rw [hb] at hi; injection hi with hi; injection hi with _ hi _; exact hne hi.symm)
theorem Rd.oth [Pl] {g t : Nat} {W W' : World} {A : Option Addr} {l : List Int} {cs : Array Value} {z : Nat × Nat} (h : Rd W A l) (hb : W.heap[g]? = some (.cells cs t z)) (hne : 5 ≠ t) (ho : Oth g W W') : Rd W' A l :=
  ⟨C_ty h.2.1 h.1 (ho.tys hb hne), h.2.1.of_ty (ho.tys hb hne), Nat.le_trans h.2.2.1 ho.size, h.2.2.2⟩
theorem Rd.below [Pl] {W W' : World} {A : Option Addr} {l : List Int} (h : Rd W A l) (hb : Below W.heap.size W W') : Rd W' A l := ⟨Kd.C_below h.1 hb, h.2.1.below hb, Nat.le_trans h.2.2.1 hb.size, h.2.2.2⟩
theorem R_from {W : World} {base : Nat} {ok : Nat → Prop} {ad : Addr} {n c : Nat} {l : List Int} (h : Kd.R (Kd.int .u8) 5 W base ok (.slice (some ad) n c) l) : base ≤ ad.block := by
  obtain ⟨inner, ho⟩ := Kd.R_own h
  rcases ho.2 with ⟨h1, h2⟩ | ⟨g, cap, cur, h1, h2, h3, h4⟩
  · cases h1
  · cases h1; exact h2
theorem Rd.of_R [Pl] {W : World} {base : Nat} {ok : Nat → Prop} {v : Value} {l : List Int} (h : Kd.R (Kd.int .u8) 5 W base ok v l) (hlo : Pl.lo ≤ base) (hs : base ≤ W.heap.size) : ∃ A c, v = .slice A l.length c ∧ l.length ≤ c ∧ Rd W A l := by
  obtain ⟨A, c, rfl, hc, hr⟩ := R_C h
  refine ⟨A, c, rfl, hc, hr, Ty.of_R h, Nat.le_trans hlo hs, fun ad e => ?_⟩
  subst e
  exact Pl.up _ (Nat.le_trans hlo (R_from h))
theorem Rd.nil [Pl] (W : World) (h : Pl.lo ≤ W.heap.size) : Rd W none [] := ⟨C_nil W none, Ty.nil _ _, h, fun ad e => by cases e⟩
theorem R_oth {α : Type} {d : Kd α} {e : Nat} {W W' : World} {base : Nat} {ok : Nat → Prop} {v : Value} {xs : List α} {g t : Nat} {cs : Array Value} (h : d.R e W base ok v xs) (hb : W.heap[g]? = some (.cells cs t (0, 0))) (ht : ∀ q, q ∈ e :: d.E → q ≠ t) (ho : Oth g W W') : d.R e W' base ok v xs :=
  Kd.R_mono (Kd.R_step (Kd.R_types h hb ht) (fun k hk hlt => ho.block k hlt hk.2)) (fun _ hk => hk.1)
/-- A device's block. -/
def DevB (W : World) (g : Nat) (A0 : Option Addr) (c0 : Nat) (A1 : Option Addr) (c1 : Nat) (d : Dv) : Prop :=
  W.heap[g]? = some (.cells #[.slice A0 d.a.length c0, .slice A1 d.b.length c1, .int .i64 d.cap, .int .i64 d.left, .bool d.down, .int .i64 d.turned] 63 (0, 0))
/-- What the walk reads of a device's block. -/
theorem DevB.cells {W : World} {g : Nat} {A0 : Option Addr} {c0 : Nat} {A1 : Option Addr} {c1 : Nat} {d : Dv} (h : DevB W g A0 c0 A1 c1 d) :
    W.cell? ⟨g, 0, none⟩ = some (.slice A0 d.a.length c0) ∧ W.cell? ⟨g, 1, none⟩ = some (.slice A1 d.b.length c1) ∧ W.cell? ⟨g, 2, none⟩ = some (.int .i64 d.cap) ∧ W.cell? ⟨g, 3, none⟩ = some (.int .i64 d.left) ∧ W.cell? ⟨g, 4, none⟩ = some (.bool d.down) ∧ W.cell? ⟨g, 5, none⟩ = some (.int .i64 d.turned) := by
  unfold DevB at h
  refine ⟨?_, ?_, ?_, ?_, ?_, ?_⟩ <;> · rw [blk_cell h]; rfl
theorem DevB.frozen {W : World} {g : Nat} {A0 : Option Addr} {c0 : Nat} {A1 : Option Addr} {c1 : Nat} {d : Dv} (h : DevB W g A0 c0 A1 c1 d) (i : Nat) : W.frozen? ⟨g, i, none⟩ = false := blk_frozen h i
def DevAt [Pl] (W : World) (g : Nat) (d : Dv) : Prop := ∃ A0 c0 A1 c1, DevB W g A0 c0 A1 c1 d ∧ d.a.length ≤ c0 ∧ d.b.length ≤ c1 ∧ Rd W A0 d.a ∧ Rd W A1 d.b
theorem DevAt.below [Pl] {W W' : World} {g : Nat} {d : Dv} (h : DevAt W g d) (hb : Below W.heap.size W W') : DevAt W' g d := by
  obtain ⟨A0, c0, A1, c1, h1, h2, h3, h4, h5⟩ := h
  exact ⟨A0, c0, A1, c1, blk_belowX h1 hb, h2, h3, h4.below hb, h5.below hb⟩
theorem DevAt.lt [Pl] {W : World} {g : Nat} {d : Dv} (h : DevAt W g d) : g < W.heap.size := by
  obtain ⟨A0, c0, A1, c1, h1, _⟩ := h
  exact lt_of_some h1
/-- Another device abides. -/
theorem DevAt.oth [Pl] {W W' : World} {g g' t : Nat} {d : Dv} {cs : Array Value} {z : Nat × Nat} (h : DevAt W g d) (hb : W.heap[g']? = some (.cells cs t z)) (hne : 5 ≠ t) (hg : g ≠ g') (ho : Oth g' W W') : DevAt W' g d := by
  obtain ⟨A0, c0, A1, c1, h1, h2, h3, h4, h5⟩ := h
  exact ⟨A0, c0, A1, c1, ho.blk h1 hg, h2, h3, h4.oth hb hne ho, h5.oth hb hne ho⟩
theorem DevAt.other [Pl] {W W' : World} {g g' : Nat} {d d' : Dv} (h : DevAt W g d) (h' : DevAt W g' d') (hg : g ≠ g') (ho : Oth g' W W') : DevAt W' g d := by
  obtain ⟨A0, c0, A1, c1, h1, _⟩ := h'
  exact h.oth h1 (by decide) hg ho

theorem there_calls (r : Int) (b : Bool) (w : World) (hb : decide (0 ≤ r ∧ r < 2) = b) : Calls Try.prog 44 #[.int .i64 r] w fun e w' => e = .returned (.bool b) ∧ w = w' := by
  subst hb
  by_cases h0 : 0 ≤ r
  · by_cases h1 : r < 2
    · have b0 : decide (0 ≤ r) = true := decide_eq_true h0
      have b1 : decide (r < 2) = true := decide_eq_true h1
      rw [show decide (0 ≤ r ∧ r < 2) = true from decide_eq_true ⟨h0, h1⟩]
      clear h0 h1
      go_enter Try.func44, Try.ntmps44
      go_wp2
      go_ret
      exact ⟨rfl, rfl⟩
    · have b0 : decide (0 ≤ r) = true := decide_eq_true h0
      have b1 : decide (r < 2) = false := decide_eq_false h1
      rw [show decide (0 ≤ r ∧ r < 2) = false from decide_eq_false (fun h => h1 h.2)]
      clear h0 h1
      go_enter Try.func44, Try.ntmps44
      go_wp2
      go_ret
      exact ⟨rfl, rfl⟩
  · have b0 : decide (0 ≤ r) = false := decide_eq_false h0
    rw [show decide (0 ≤ r ∧ r < 2) = false from decide_eq_false (fun h => h0 h.1)]
    clear h0
    go_enter Try.func44, Try.ntmps44
    go_wp2
    go_ret
    exact ⟨rfl, rfl⟩
theorem there_yes (r : Int) (h : r = 0 ∨ r = 1) : decide (0 ≤ r ∧ r < 2) = true := decide_eq_true (by omega)
theorem there_no (r : Int) (h : ¬(r = 0 ∨ r = 1)) : decide (0 ≤ r ∧ r < 2) = false := decide_eq_false (by omega)

theorem Capacity_calls [Pl] (g : Nat) (d : Dv) (W : World) (h : DevAt W g d) : Calls Try.prog 11 #[.pointer (some ⟨g, 0, none⟩)] W fun e W' => e = .returned (.int .i64 d.cap) ∧ W = W' := by
  obtain ⟨A0, c0, A1, c1, h1, _⟩ := h
  obtain ⟨_, _, c, _⟩ := h1.cells
  clear h1
  go_enter Try.func11, Try.ntmps11
  go_wp2
  go_ret
  exact ⟨rfl, rfl⟩
theorem Down_calls [Pl] (g : Nat) (d : Dv) (W : World) (h : DevAt W g d) : Calls Try.prog 34 #[.pointer (some ⟨g, 0, none⟩)] W fun e W' => e = .returned (.bool d.down) ∧ W = W' := by
  obtain ⟨A0, c0, A1, c1, h1, _⟩ := h
  obtain ⟨_, _, _, _, c, _⟩ := h1.cells
  clear h1
  go_enter Try.func34, Try.ntmps34
  go_wp2
  go_ret
  exact ⟨rfl, rfl⟩
theorem Turned_calls [Pl] (g : Nat) (d : Dv) (W : World) (h : DevAt W g d) : Calls Try.prog 13 #[.pointer (some ⟨g, 0, none⟩)] W fun e W' => e = .returned (.int .i64 d.turned) ∧ W = W' := by
  obtain ⟨A0, c0, A1, c1, h1, _⟩ := h
  obtain ⟨_, _, _, _, _, c⟩ := h1.cells
  clear h1
  go_enter Try.func13, Try.ntmps13
  go_wp2
  go_ret
  exact ⟨rfl, rfl⟩
theorem row_no (d : Dv) (r : Int) (h : ¬(r = 0 ∨ r = 1)) : d.row r = [] := by unfold Dv.row; rw [if_neg (by omega), if_neg (by omega)]
theorem Len_calls [Pl] (g : Nat) (d : Dv) (r : Int) (W : World) (h : DevAt W g d) : Calls Try.prog 59 #[.pointer (some ⟨g, 0, none⟩), .int .i64 r] W fun e W' => e = .returned (.int .i64 (d.row r).length) ∧ W = W' := by
  obtain ⟨A0, c0, A1, c1, h1, _⟩ := h
  obtain ⟨k0, k1, _⟩ := h1.cells
  clear h1
  by_cases hr : r = 0 ∨ r = 1
  · rcases hr with rfl | rfl
    · go_enter Try.func59, Try.ntmps59
      go_wp2_with (go_at_call 44; refine (there_calls _ true _ (there_yes _ (by decide))).mono ?_; rintro e w' ⟨rfl, rfl⟩)
      go_ret
      exact ⟨rfl, rfl⟩
    · go_enter Try.func59, Try.ntmps59
      go_wp2_with (go_at_call 44; refine (there_calls _ true _ (there_yes _ (by decide))).mono ?_; rintro e w' ⟨rfl, rfl⟩)
      go_ret
      exact ⟨rfl, rfl⟩
  · have H := Lib.hid hr
    clear hr
    go_enter Try.func59, Try.ntmps59
    go_wp2_with (go_at_call 44; refine (there_calls _ false _ (there_no _ H.out)).mono ?_; rintro e w' ⟨rfl, rfl⟩)
    go_ret
    exact ⟨by rw [row_no _ _ H.out]; rfl, rfl⟩
theorem Bytes_calls [Pl] (g : Nat) (d : Dv) (r : Int) (W : World) (h : DevAt W g d) (ha : d.a.length ≤ 140737488355328) (hb : d.b.length ≤ 140737488355328) : Calls Try.prog 29 #[.pointer (some ⟨g, 0, none⟩), .int .i64 r] W fun e W' => ∃ v, e = .returned v ∧ Kd.R (Kd.int .u8) 5 W' W.heap.size (fun _ => True) v (d.row r) ∧ Below W.heap.size W W' := by
  obtain ⟨A0, c0, A1, c1, h1, l0, l1, r0, r1⟩ := h
  obtain ⟨k0, k1, _⟩ := h1.cells
  have H0 := Aside0.mk r0
  have H1 := Aside0.mk r1
  clear h1 r0 r1
  by_cases hr : r = 0 ∨ r = 1
  · rcases hr with rfl | rfl
    · go_enter Try.func29, Try.ntmps29
      go_wp2_with (first
        | (go_at_call 44; refine (there_calls _ true _ (there_yes _ (by decide))).mono ?_; rintro e w' ⟨rfl, rfl⟩)
        | (go_at_call 40; refine (Clone_calls _ _ _ _ H0.out.1 l0 ha).mono ?_; rintro e w1 ⟨v1, rfl, ho1, hb1⟩; have S := Aside0.mk (And.intro ho1 hb1); clear ho1 hb1))
      go_ret
      exact ⟨_, rfl, S.out⟩
    · go_enter Try.func29, Try.ntmps29
      go_wp2_with (first
        | (go_at_call 44; refine (there_calls _ true _ (there_yes _ (by decide))).mono ?_; rintro e w' ⟨rfl, rfl⟩)
        | (go_at_call 40; refine (Clone_calls _ _ _ _ H1.out.1 l1 hb).mono ?_; rintro e w1 ⟨v1, rfl, ho1, hb1⟩; have S := Aside0.mk (And.intro ho1 hb1); clear ho1 hb1))
      go_ret
      exact ⟨_, rfl, S.out⟩
  · have H := Lib.hid hr
    clear hr
    go_enter Try.func29, Try.ntmps29
    go_wp2_with (go_at_call 44; refine (there_calls _ false _ (there_no _ H.out)).mono ?_; rintro e w' ⟨rfl, rfl⟩)
    go_ret
    exact ⟨_, rfl, by rw [row_no _ _ H.out]; exact Kd.R_nil _ _ _ _ _, Below.refl _ _⟩

/-- The capacity that a device gets. -/
def capC (n : Int) : Int := if n < 0 then 0 else if 1048576 < n then 1048576 else n
theorem New_calls [Pl] (n : Int) (W : World) (hlo : Pl.lo ≤ W.heap.size) : Calls Try.prog 9 #[.int .i64 n] W fun e W' => e = .returned (.pointer (some ⟨W.heap.size, 0, none⟩)) ∧ DevAt W' W.heap.size ⟨[], [], capC n, -1, false, 0⟩ ∧ Below W.heap.size W W' := by
  have fin : ∀ c : Int, capC n = c → DevAt (W.alloc (.cells #[.slice none 0 0, .slice none 0 0, .int .i64 c, .int .i64 (-1), .bool false, .int .i64 0] 63)) W.heap.size ⟨[], [], capC n, -1, false, 0⟩ := fun c hc => by
    rw [hc]
    exact ⟨none, 0, none, 0, blk_new W _, Nat.le_refl _, Nat.le_refl _, Rd.nil _ (by rw [World.size_alloc]; omega), Rd.nil _ (by rw [World.size_alloc]; omega)⟩
  have F := Aside0.mk fin
  clear fin
  have c1 : n < 0 → capC n = 0 := fun h => by unfold capC; rw [if_pos h]
  have c2 : 0 ≤ n → 1048576 < n → capC n = 1048576 := fun h h2 => by unfold capC; rw [if_neg (by omega), if_pos h2]
  have c3 : 0 ≤ n → n ≤ 1048576 → capC n = n := fun h h2 => by unfold capC; rw [if_neg (by omega), if_neg (by omega)]
  have C := Aside0.mk (And.intro c1 (And.intro c2 c3))
  clear c1 c2 c3
  go_enter Try.func9, Try.ntmps9
  go_wp2
  · go_ret
    exact ⟨rfl, F.out _ (C.out.1 (by assumption)), below_alloc (Below.refl _ _) _⟩
  · go_ret
    exact ⟨rfl, F.out _ (C.out.2.1 (by assumption) (by assumption)), below_alloc (Below.refl _ _) _⟩
  · go_ret
    exact ⟨rfl, F.out _ (C.out.2.2 (by assumption) (by assumption)), below_alloc (Below.refl _ _) _⟩
/-- step: a byte is turned. -/
def stepD (d : Dv) : Dv := if d.left = 0 then { d with down := true } else { d with left := if d.left > 0 then d.left - 1 else d.left, turned := d.turned + 1 }
theorem step_calls (g : Nat) (A0 : Option Addr) (c0 : Nat) (A1 : Option Addr) (c1 : Nat) (d : Dv) (W : World) (h : DevB W g A0 c0 A1 c1 d) (h0 : 0 ≤ d.turned) (h1 : d.turned < 1099511627776) (h2 : d.left ≤ 9223372036854775807) :
    Calls Try.prog 56 #[.pointer (some ⟨g, 0, none⟩)] W fun e W' => e = .returned (.bool (!decide (d.left = 0))) ∧ DevB W' g A0 c0 A1 c1 (stepD d) ∧ Oth g W W' := by
  obtain ⟨k0, k1, k2, k3, k4, k5⟩ := h.cells
  have f3 := h.frozen 3
  have f4 := h.frozen 4
  have f5 := h.frozen 5
  obtain ⟨da, db, cap, left, down, turned⟩ := d
  simp only at k0 k1 k2 k3 k4 k5 h0 h1 h2
  have HB := Aside0.mk h
  clear h
  rcases Int.lt_trichotomy left 0 with hl | rfl | hl
  · have b0 : (left == 0) = false := by rw [beq_eq_false_iff_ne]; omega
    have b1 : decide (left = 0) = false := decide_eq_false (by omega)
    have b2 : decide (0 < left) = false := decide_eq_false (by omega)
    go_enter Try.func56, Try.ntmps56
    go_wp2
    have e : stepD ⟨da, db, cap, left, down, turned⟩ = ⟨da, db, cap, left, down, turned + 1⟩ := by unfold stepD; simp only; rw [if_neg (by omega), if_neg (by omega)]
    go_ret
    exact ⟨by rw [b1]; rfl, by rw [e]; exact blk_put HB.out 5 _ rfl, Oth.set W ⟨g, 5, none⟩ _⟩
  · go_enter Try.func56, Try.ntmps56
    go_wp2
    go_ret
    exact ⟨rfl, blk_put HB.out 4 (.bool true) rfl, Oth.set W ⟨g, 4, none⟩ _⟩
  · have b0 : (left == 0) = false := by rw [beq_eq_false_iff_ne]; omega
    have b1 : decide (left = 0) = false := decide_eq_false (by omega)
    have b2 : decide (0 < left) = true := decide_eq_true hl
    go_enter Try.func56, Try.ntmps56
    go_wp2
    have e : stepD ⟨da, db, cap, left, down, turned⟩ = ⟨da, db, cap, left - 1, down, turned + 1⟩ := by unfold stepD; simp only; rw [if_neg (by omega), if_pos (by omega)]
    go_ret
    exact ⟨by rw [b1]; rfl, by rw [e]; exact blk_put (blk_put HB.out 3 _ rfl) 5 _ rfl, (Oth.set W ⟨g, 3, none⟩ _).trans (Oth.set _ ⟨g, 5, none⟩ _)⟩
end Go.Proofs.Ytcgefilboefnpaa.H
