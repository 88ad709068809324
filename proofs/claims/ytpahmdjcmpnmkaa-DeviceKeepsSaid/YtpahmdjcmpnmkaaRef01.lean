/- Contracts of the references' helpers Copy, Same, Join over bytes. -/
import Derived.Test.YtpahmdjcmpnmkaaSl
namespace Go.Proofs.Ytpahmdjcmpnmkaa.H
open Go.RowKit Go.Proofs.YtpahmdjcmpnmkaaW.PrintWords Go.Proofs.YtpahmdjcmpnmkaaW.PrintLast Go.Proofs.YtpahmdjcmpnmkaaW.PrintMore
set_option linter.unusedVariables false
set_option linter.unusedSimpArgs false

theorem take_eq_succ {α : Type} (z : α) {a b : List α} {k : Nat} (ha : k < a.length) (hb : k < b.length) (h : a.take k = b.take k) (e : a.getD k z = b.getD k z) : a.take (k + 1) = b.take (k + 1) := by
  rw [List.take_succ_eq_append_getElem ha, List.take_succ_eq_append_getElem hb, h]
  simp [List.getD_eq_getElem?_getD, List.getElem?_eq_getElem ha, List.getElem?_eq_getElem hb] at e
  rw [e]
theorem take_rd (l : List Int) (k : Nat) (h : k < l.length) : l.take (k + 1) = l.take k ++ [rd l k] := by
  rw [List.take_succ_eq_append_getElem h]; simp [rd, h]

set_option maxHeartbeats 800000 in
theorem Copy_calls (A0 : Option Addr) (c0 : Nat) (l0 : List Int) (w : World) (hr0 : Kd.C (Kd.int .u8) w A0 l0.length l0) (hl : l0.length ≤ 1000000) :
    Calls Try.prog 15 #[.slice A0 l0.length c0] w fun e w' => ∃ v0_ : Value, e = .returned v0_ ∧ Kd.R (Kd.int .u8) 5 w' w.heap.size (fun _ => True) v0_ l0 ∧ Below w.heap.size w w' := by
  have HR0 := Aside0.mk hr0
  clear hr0
  go_enter Try.func15, Try.ntmps15
  go_wp2_with (first
    | ((with_reducible refine gate_dst (N := 5) rfl ?_); refine Kd.R_lit (Kd.int .u8) (w0 := w) w.heap.size 5 ?hg (N := 5) ?hd (xs := ([] : List Int)) (inner := []) (ok := fun _ => True) (okp := fun _ => True) ?hr ?hp (fun _ hk => hk) trivial (Below.refl _ _) (Nat.le_refl _) (by simp) ?_; (case hd => rfl); (case hg => rfl); (case hr => first | (go_simp; done) | (go_simp; rfl)); (case hp => exact Reps.none _ _); intro v5 w5 ho5 hb5 hg5 hn5; have HO5 := Aside0.mk ho5; have HB5 := Aside0.mk hb5; clear ho5 hb5 hg5 hn5))
  go_loopw [3, 4] (fun v i wr => ∃ k : Nat, k ≤ l0.length ∧ i = .int .i64 k ∧ Aside0 (Kd.R (Kd.int .u8) 5 wr w.heap.size (fun _ => True) v (l0.take k)) ∧ Aside0 (Below w.heap.size w wr)) (fun _ i _ => l0.length - (intOf i).toNat)
  case atStart => exact ⟨0, Nat.zero_le _, rfl, ⟨by simpa using HO5.out⟩, HB5⟩
  case round =>
    obtain ⟨k, hk, rfl, HO, HB⟩ := hrel
    by_cases hlt : k < l0.length
    · have b1 : decide (k < l0.length) = true := decide_eq_true hlt
      obtain ⟨ad0, e0, hx0⟩ := Kd.at_int (Kd.C_below HR0.out HB.out) k (by omega) (by omega)
      subst e0
      simp only [Int.toNat_natCast] at hx0
      have HT := Lib.hid (take_rd l0 k hlt)
      have hlk : (l0.take k).length ≤ k := List.length_take_le _ _
      go_wp2_with ((with_reducible refine gate_builtin (b := .append) (xs := #[.tmp 12, .tmp 17]) rfl ?_); at_builtin; refine Kd.R_append (Kd.int .u8) (w0 := w) w.heap.size rfl (.tmp 12) (.tmp 17) 27 5 (.int .u8 0) 1 rfl Try.underlying27 info_u8 rfl (by decide) (by omega) _ (l0.take k) (rd l0 k) [.int .u8 (rd l0 k)] (fun _ => True) (fun _ => False) rfl rfl rfl (fun _ hk => hk.elim) (fun _ _ => trivial) HO.out HB.out HB.out.size (by omega) ?_; intro v7 w7 ho7 hb7 hg7 hat7; have HO7 := Aside0.mk ho7; have HB7 := Aside0.mk hb7; clear ho7 hb7 hg7 hat7)
      go_roundw
      case rel => exact ⟨k + 1, by omega, by go_num, ⟨by rw [HT.out]; exact HO7.out⟩, HB7⟩
      case measure => simp [intOf]; omega
    · obtain rfl : k = l0.length := by omega
      go_wp2
      go_ret
      exact ⟨_, rfl, by simpa using HO.out, HB.out⟩

set_option maxHeartbeats 800000 in
theorem Same_calls (A0 : Option Addr) (c0 : Nat) (l0 : List Int) (A1 : Option Addr) (c1 : Nat) (l1 : List Int) (w : World) (hr0 : Kd.C (Kd.int .u8) w A0 l0.length l0) (hr1 : Kd.C (Kd.int .u8) w A1 l1.length l1) :
    Calls Try.prog 16 #[.slice A0 l0.length c0, .slice A1 l1.length c1] w fun e w' => e = .returned (.bool (decide (l0 = l1))) ∧ Drawn0 w w' := by
  have HR0 := Aside0.mk hr0
  have HR1 := Aside0.mk hr1
  have hm : l0.length ≤ 9223372036854775807 := hr0.2.1
  clear hr0 hr1
  by_cases hle : l0.length = l1.length
  · have b0 : ((l0.length : Int) != (l1.length : Int)) = false := by simp [hle]
    have HLE := Lib.hid hle
    have hle1 : l0.length ≤ l1.length := by omega
    have hle2 : l1.length ≤ l0.length := by omega
    have b00 : (l0.length == l1.length) = true := by simp [hle]
    clear hle
    go_enter Try.func16, Try.ntmps16
    go_wp2
    repeat (go_quiet (fail); try go_wp2)
    go_loopw [5] (fun i wr => ∃ k : Nat, k ≤ l0.length ∧ i = .int .i64 k ∧ Aside0 (l0.take k = l1.take k) ∧ Drawn0 w wr) (fun i _ => l0.length - (intOf i).toNat)
    case atStart => exact ⟨0, Nat.zero_le _, rfl, ⟨by simp⟩, by repeat (first | exact Drawn0.refl _ | apply Drawn0.step)⟩
    case round =>
      obtain ⟨k, hk, rfl, HT, ⟨m1, rfl⟩⟩ := hrel
      by_cases hlt : k < l0.length
      · have b1 : decide (k < l0.length) = true := decide_eq_true hlt
        have b2 : decide ((k : Int) < (l1.length : Int)) = true := decide_eq_true (by omega)
        obtain ⟨ad0, e0, hx0⟩ := Kd.at_int HR0.out k (by omega) (by omega)
        obtain ⟨ad1, e1, hx1⟩ := Kd.at_int HR1.out k (by omega) (by omega)
        subst e0; subst e1
        simp only [Int.toNat_natCast] at hx0 hx1
        by_cases hq : rd l0 k = rd l1 k
        · have hn := take_eq_succ (0 : Int) hlt (by omega) HT.out (by simpa [rd] using hq)
          have HN := Aside0.mk hn
          have b3 : (rd l0 k != rd l1 k) = false := by simp [hq]
          have b4 : (rd l0 k == rd l1 k) = true := by simp [hq]
          clear hn hq
          go_wp2
          repeat (go_quiet (fail); try go_wp2)
          go_roundw
          case rel => exact ⟨k + 1, by omega, by go_num, HN, by repeat (first | exact Drawn0.refl _ | apply Drawn0.step)⟩
          case measure => simp [intOf]; omega
        · have b3 : (rd l0 k != rd l1 k) = true := by simp [hq]
          have b4 : (rd l0 k == rd l1 k) = false := by simp [hq]
          have HQ := Aside0.mk hq
          clear hq
          go_wp2
          repeat (go_quiet (fail); try go_wp2)
          go_ret
          refine ⟨?_, by repeat (first | exact Drawn0.refl _ | apply Drawn0.step)⟩
          have : decide (l0 = l1) = false := decide_eq_false (fun h => HQ.out (by rw [h]))
          rw [this]; rfl
      · obtain rfl : k = l0.length := by omega
        go_wp2
        repeat (go_quiet (fail); try go_wp2)
        go_ret
        refine ⟨?_, by repeat (first | exact Drawn0.refl _ | apply Drawn0.step)⟩
        have h := HT.out
        rw [List.take_length, HLE.out, List.take_length] at h
        have : decide (l0 = l1) = true := decide_eq_true h
        rw [this]; rfl
  · have b0 : ((l0.length : Int) != (l1.length : Int)) = true := by simp; omega
    have b00 : (l0.length == l1.length) = false := by simp [hle]
    have HLE := Lib.hid hle
    clear hle
    go_enter Try.func16, Try.ntmps16
    go_wp2
    repeat (go_quiet (fail); try go_wp2)
    go_ret
    refine ⟨?_, by repeat (first | exact Drawn0.refl _ | apply Drawn0.step)⟩
    have : decide (l0 = l1) = false := decide_eq_false (fun h => HLE.out (by rw [h]))
    rw [this]; rfl

set_option maxHeartbeats 1600000 in
theorem Join_calls (A0 : Option Addr) (c0 : Nat) (l0 : List (List Int)) (w : World) (hr0 : Kd.C (Kd.slice 5 (Kd.int .u8)) w A0 l0.length l0) (hl : l0.flatten.length ≤ 1000000) :
    Calls Try.prog 36 #[.slice A0 l0.length c0] w fun e w' => ∃ v0_ : Value, e = .returned v0_ ∧ Kd.R (Kd.int .u8) 5 w' w.heap.size (fun _ => True) v0_ l0.flatten ∧ Below w.heap.size w w' := by
  have HR0 := Aside0.mk hr0
  have hm : l0.length ≤ 9223372036854775807 := hr0.2.1
  clear hr0
  go_enter Try.func36, Try.ntmps36
  go_wp2_with (first
    | ((with_reducible refine gate_dst (N := 6) rfl ?_); refine Kd.R_lit (Kd.int .u8) (w0 := w) w.heap.size 5 ?hg (N := 6) ?hd (xs := ([] : List Int)) (inner := []) (ok := fun _ => True) (okp := fun _ => True) ?hr ?hp (fun _ hk => hk) trivial (Below.refl _ _) (Nat.le_refl _) (by simp) ?_; (case hd => rfl); (case hg => rfl); (case hr => first | (go_simp; done) | (go_simp; rfl)); (case hp => exact Reps.none _ _); intro v5 w5 ho5 hb5 hg5 hn5; have HO5 := Aside0.mk ho5; have HB5 := Aside0.mk hb5; clear ho5 hb5 hg5 hn5))
  go_loopw [3, 4] (fun v i wr => ∃ k : Nat, k ≤ l0.length ∧ i = .int .i64 k ∧ Aside0 (Kd.R (Kd.int .u8) 5 wr w.heap.size (fun _ => True) v ((l0.take k).flatten)) ∧ Aside0 (Below w.heap.size w wr)) (fun _ i _ => l0.length - (intOf i).toNat)
  case atStart => exact ⟨0, Nat.zero_le _, rfl, ⟨by simpa using HO5.out⟩, HB5⟩
  case round =>
    obtain ⟨k, hk, rfl, HO, HB⟩ := hrel
    by_cases hlt : k < l0.length
    · have b1 : decide (k < l0.length) = true := decide_eq_true hlt
      have hs := upLen_succ l0 k hlt
      have hu := upLen_le l0 (k + 1)
      have ht := take_flatten_succ l0 k hlt
      have HAT := Aside0.mk (fun (wr : World) (hb : Below w.heap.size w wr) => at_slice (Kd.C_below HR0.out hb) k hlt)
      generalize hx : l0.getD k [] = x at hs ht HAT
      have hb2 : ((l0.take k).flatten).length + x.length ≤ 1000000 := by unfold upLen at hs hu; omega
      generalize hp : (l0.take k).flatten = p at HO ht hb2
      have HT := Lib.hid ht
      clear hs hu hx ht hp
      obtain ⟨wo, hwo⟩ : ∃ wo : World, wo = wr := ⟨_, rfl⟩
      subst hwo
      go_wp2
      go_loopw [3, 5] (fun v i wr => ∃ j : Nat, j ≤ x.length ∧ i = .int .i64 j ∧ Aside0 (Kd.R (Kd.int .u8) 5 wr w.heap.size (fun _ => True) v (p ++ x.take j)) ∧ Aside0 (Below w.heap.size w wr)) (fun _ i _ => x.length - (intOf i).toNat)
      case atStart => exact ⟨0, Nat.zero_le _, rfl, ⟨by simpa using HO.out⟩, HB⟩
      case round =>
        obtain ⟨j, hj, rfl, HO2, HB2⟩ := hrel
        obtain ⟨ad, A2, c2, e2, hcell, hle, hin⟩ := HAT.out _ HB2.out
        subst e2
        have hmx : x.length ≤ 9223372036854775807 := hin.2.1
        have HIN := Aside0.mk hin
        clear hin
        by_cases hjt : j < x.length
        · have b2 : decide (j < x.length) = true := decide_eq_true hjt
          obtain ⟨ad0, e0, hx0⟩ := Kd.at_int HIN.out j (by omega) (by omega)
          subst e0
          simp only [Int.toNat_natCast] at hx0
          have HT2 := Lib.hid (take_rd x j hjt)
          have hlk : (p ++ x.take j).length ≤ 1000000 := by rw [List.length_append, List.length_take]; omega
          generalize hpx : p ++ x.take j = px at HO2 hlk
          have HPX := Lib.hid hpx
          clear hpx
          go_wp2_with ((with_reducible refine gate_builtin (b := .append) (xs := #[.tmp 22, .tmp 30]) rfl ?_); at_builtin; refine Kd.R_append (Kd.int .u8) (w0 := w) w.heap.size rfl (.tmp 22) (.tmp 30) 27 5 (.int .u8 0) 1 rfl Try.underlying27 info_u8 rfl (by decide) (by omega) _ px (rd x j) [.int .u8 (rd x j)] (fun _ => True) (fun _ => False) rfl rfl rfl (fun _ hk => hk.elim) (fun _ _ => trivial) HO2.out HB2.out HB2.out.size (by omega) ?_; intro v7 w7 ho7 hb7 hg7 hat7; have HO7 := Aside0.mk ho7; have HB7 := Aside0.mk hb7; clear ho7 hb7 hg7 hat7)
          go_roundw
          case rel => exact ⟨j + 1, by omega, by go_num, ⟨by rw [HT2.out, ← List.append_assoc, HPX.out]; exact HO7.out⟩, HB7⟩
          case measure => simp [intOf]; omega
        · obtain rfl : j = x.length := by omega
          go_wp2
          go_roundw
          case rel => exact ⟨k + 1, by omega, by go_num, ⟨by rw [HT.out]; simpa using HO2.out⟩, HB2⟩
          case measure => simp [intOf]; omega
    · obtain rfl : k = l0.length := by omega
      go_wp2
      go_ret
      exact ⟨_, rfl, by simpa using HO.out, HB.out⟩
end Go.Proofs.Ytpahmdjcmpnmkaa.H
