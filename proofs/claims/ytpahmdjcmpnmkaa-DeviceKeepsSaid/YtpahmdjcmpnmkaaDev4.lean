/- Package device: Load and Clone. -/
import Derived.Test.YtpahmdjcmpnmkaaDev3
import Derived.Laws.CopyOwn
namespace Go.Proofs.Ytpahmdjcmpnmkaa.H
open Go.RowKit Go.Proofs.YtpahmdjcmpnmkaaW.PrintWords Go.Proofs.YtpahmdjcmpnmkaaW.PrintLast Go.Proofs.YtpahmdjcmpnmkaaW.PrintMore
set_option linter.unusedVariables false
set_option linter.unusedSimpArgs false
attribute [local go_sem] max2_int min2_int

set_option maxHeartbeats 1600000 in
theorem DLoad0 [Pl] (g : Nat) (d : Dv) (A : Option Addr) (c : Nat) (l : List Int) (W : World) (h : DevAt W g d) (hl : Kd.C (Kd.int .u8) W A l.length l) (hc : l.length ≤ c) (hcap : 0 ≤ d.cap ∧ d.cap ≤ 1048576) (hn : l.length ≤ 1000000) :
    Calls Try.prog 12 #[.pointer (some ⟨g, 0, none⟩), .int .i64 0, .slice A l.length c] W fun e W' => e = .returned (.tuple #[]) ∧ DevAt W' g (d.set 0 (l.take d.cap.toNat)) ∧ Oth g W W' := by
  obtain ⟨A0, c0, A1, c1, hB, hc0, hc1, hr0, hr1⟩ := h
  obtain ⟨k0, k1, k2, k3, k4, k5⟩ := hB.cells
  have f0 := hB.frozen 0
  have HB := Aside0.mk (And.intro hB (And.intro hr0 (And.intro hr1 hl)))
  clear hB hr0 hr1 hl
  obtain ⟨q3, q4⟩ := hcap
  obtain ⟨i0, hi0, _, hsz, _⟩ := info_parts info_u8
  have main : ∀ (j : Int) (nr : List Int), 0 ≤ j → j ≤ l.length → l.take j.toNat = nr → nr = l.take d.cap.toNat → (∀ b : Bool, decide (d.cap < (l.length : Int)) = b → True) → (if d.cap < (l.length : Int) then d.cap else (l.length : Int)) = j →
      Calls Try.prog 12 #[.pointer (some ⟨g, 0, none⟩), .int .i64 0, .slice A l.length c] W fun e W' => e = .returned (.tuple #[]) ∧ DevAt W' g (d.set 0 (l.take d.cap.toNat)) ∧ Oth g W W' := by
    intro j nr h1 h2 h3 h4 _ h6
    have hcut := (print_take_of (P := Try.prog) (Value.int .u8) 0 27 5 .i64 Try.underlying27 hi0 hsz A c l j h1 h2 hc).1
    rw [h3] at hcut
    have hrn : ∀ w, Kd.C (Kd.int .u8) w A l.length l → Kd.C (Kd.int .u8) w A nr.length nr := fun w hw => by rw [← h3]; exact Kd.C_take hw (by omega)
    have hnl : nr.length ≤ c ∧ nr.length ≤ 1000000 := by rw [← h3, List.length_take]; omega
    obtain ⟨hnc, hnm⟩ := hnl
    have HN := Aside0.mk hrn
    rw [← h4]
    clear hrn h3 h4 hi0 hsz
    have K2 : Aside0 (∀ w3, DevB w3 g A0 c0 A1 c1 d → w3.cell? ⟨g, 2, none⟩ = some (.int .i64 d.cap)) := ⟨fun w3 h => h.cells.2.2.1⟩
    clear k0 k1 k3 k4 k5
    go_enter Try.func12, Try.ntmps12
    go_wp2_with (first
      | (go_at_call 31; refine (there_calls _ true _ (there_yes _ (by decide))).mono ?_; rintro e w' ⟨rfl, rfl⟩))
    go_region_held3 (fun w' => w'.cell? ⟨g, 2, none⟩ = some (.int .i64 d.cap)) (first | exact z2 | exact (blk_cell (blk_put S3.out.1 0 _ rfl) 2).trans rfl | go_keep)
      (first
        | (go_at_call 32; refine (Clone_calls _ _ nr _ ?sd (by omega) (by omega)).mono ?_; (case sd => repeat (first | exact HN.out _ HB.out.2.2.2 | (with_reducible refine Kd.C_drewN ?_ _) | (with_reducible refine Kd.C_drew ?_))); rintro e w3 ⟨v3, rfl, ho3, hb3'⟩; have hb3 : Below W.heap.size W w3 := ⟨hb3'.os, hb3'.tape, hb3'.output, hb3'.size, hb3'.block⟩; obtain ⟨A3, c3, e3, hc3, hr3⟩ := Rd.of_R ho3 HB.out.2.1.lo hb3.size; subst e3; have hB3 : DevB w3 g A0 c0 A1 c1 d := blk_belowX HB.out.1 hb3; have z0 := hB3.cells.1; have z2 := hB3.cells.2.2.1; have g0 := hB3.frozen 0; have S3 := Aside0.mk (And.intro hB3 (And.intro hr3 hb3)); clear ho3 hb3 hb3' hr3 hB3))
    go_wp2
    have hds := Oth.set w3 ⟨g, 0, none⟩ (.slice A3 nr.length c3)
    have hW3 := Oth.of_below (g := g) S3.out.2.2
    go_end0
    exact ⟨rfl, ⟨A3, c3, A1, c1, blk_put S3.out.1 0 _ rfl, hc3, hc1, S3.out.2.1.oth S3.out.1 (by decide) hds, (HB.out.2.2.1.oth HB.out.1 (by decide) hW3).oth S3.out.1 (by decide) hds⟩, hW3.trans hds⟩
  by_cases hlc : d.cap < (l.length : Int)
  · exact main d.cap _ q3 (by omega) rfl rfl (fun _ _ => trivial) (if_pos hlc)
  · exact main l.length _ (by omega) (Int.le_refl _) rfl (by rw [Int.toNat_natCast, List.take_length, List.take_of_length_le (by omega)]) (fun _ _ => trivial) (if_neg hlc)
set_option maxHeartbeats 1600000 in
theorem DLoad1 [Pl] (g : Nat) (d : Dv) (A : Option Addr) (c : Nat) (l : List Int) (W : World) (h : DevAt W g d) (hl : Kd.C (Kd.int .u8) W A l.length l) (hc : l.length ≤ c) (hcap : 0 ≤ d.cap ∧ d.cap ≤ 1048576) (hn : l.length ≤ 1000000) :
    Calls Try.prog 12 #[.pointer (some ⟨g, 0, none⟩), .int .i64 1, .slice A l.length c] W fun e W' => e = .returned (.tuple #[]) ∧ DevAt W' g (d.set 1 (l.take d.cap.toNat)) ∧ Oth g W W' := by
  obtain ⟨A0, c0, A1, c1, hB, hc0, hc1, hr0, hr1⟩ := h
  obtain ⟨k0, k1, k2, k3, k4, k5⟩ := hB.cells
  have f0 := hB.frozen 1
  have HB := Aside0.mk (And.intro hB (And.intro hr0 (And.intro hr1 hl)))
  clear hB hr0 hr1 hl
  obtain ⟨q3, q4⟩ := hcap
  obtain ⟨i0, hi0, _, hsz, _⟩ := info_parts info_u8
  have main : ∀ (j : Int) (nr : List Int), 0 ≤ j → j ≤ l.length → l.take j.toNat = nr → nr = l.take d.cap.toNat → (∀ b : Bool, decide (d.cap < (l.length : Int)) = b → True) → (if d.cap < (l.length : Int) then d.cap else (l.length : Int)) = j →
      Calls Try.prog 12 #[.pointer (some ⟨g, 0, none⟩), .int .i64 1, .slice A l.length c] W fun e W' => e = .returned (.tuple #[]) ∧ DevAt W' g (d.set 1 (l.take d.cap.toNat)) ∧ Oth g W W' := by
    intro j nr h1 h2 h3 h4 _ h6
    have hcut := (print_take_of (P := Try.prog) (Value.int .u8) 0 27 5 .i64 Try.underlying27 hi0 hsz A c l j h1 h2 hc).1
    rw [h3] at hcut
    have hrn : ∀ w, Kd.C (Kd.int .u8) w A l.length l → Kd.C (Kd.int .u8) w A nr.length nr := fun w hw => by rw [← h3]; exact Kd.C_take hw (by omega)
    have hnl : nr.length ≤ c ∧ nr.length ≤ 1000000 := by rw [← h3, List.length_take]; omega
    obtain ⟨hnc, hnm⟩ := hnl
    have HN := Aside0.mk hrn
    rw [← h4]
    clear hrn h3 h4 hi0 hsz
    have K2 : Aside0 (∀ w3, DevB w3 g A0 c0 A1 c1 d → w3.cell? ⟨g, 2, none⟩ = some (.int .i64 d.cap)) := ⟨fun w3 h => h.cells.2.2.1⟩
    clear k0 k1 k3 k4 k5
    go_enter Try.func12, Try.ntmps12
    go_wp2_with (first
      | (go_at_call 31; refine (there_calls _ true _ (there_yes _ (by decide))).mono ?_; rintro e w' ⟨rfl, rfl⟩))
    go_region_held3 (fun w' => w'.cell? ⟨g, 2, none⟩ = some (.int .i64 d.cap)) (first | exact z2 | exact (blk_cell (blk_put S3.out.1 1 _ rfl) 2).trans rfl | go_keep)
      (first
        | (go_at_call 32; refine (Clone_calls _ _ nr _ ?sd (by omega) (by omega)).mono ?_; (case sd => repeat (first | exact HN.out _ HB.out.2.2.2 | (with_reducible refine Kd.C_drewN ?_ _) | (with_reducible refine Kd.C_drew ?_))); rintro e w3 ⟨v3, rfl, ho3, hb3'⟩; have hb3 : Below W.heap.size W w3 := ⟨hb3'.os, hb3'.tape, hb3'.output, hb3'.size, hb3'.block⟩; obtain ⟨A3, c3, e3, hc3, hr3⟩ := Rd.of_R ho3 HB.out.2.1.lo hb3.size; subst e3; have hB3 : DevB w3 g A0 c0 A1 c1 d := blk_belowX HB.out.1 hb3; have z0 := hB3.cells.2.1; have z2 := hB3.cells.2.2.1; have g0 := hB3.frozen 1; have S3 := Aside0.mk (And.intro hB3 (And.intro hr3 hb3)); clear ho3 hb3 hb3' hr3 hB3))
    go_wp2
    have hds := Oth.set w3 ⟨g, 1, none⟩ (.slice A3 nr.length c3)
    have hW3 := Oth.of_below (g := g) S3.out.2.2
    go_end0
    exact ⟨rfl, ⟨A0, c0, A3, c3, blk_put S3.out.1 1 _ rfl, hc0, hc3, (HB.out.2.1.oth HB.out.1 (by decide) hW3).oth S3.out.1 (by decide) hds, S3.out.2.1.oth S3.out.1 (by decide) hds⟩, hW3.trans hds⟩
  by_cases hlc : d.cap < (l.length : Int)
  · exact main d.cap _ q3 (by omega) rfl rfl (fun _ _ => trivial) (if_pos hlc)
  · exact main l.length _ (by omega) (Int.le_refl _) rfl (by rw [Int.toNat_natCast, List.take_length, List.take_of_length_le (by omega)]) (fun _ _ => trivial) (if_neg hlc)
theorem set_no (d : Dv) (r : Int) (l : List Int) (h : ¬(r = 0 ∨ r = 1)) : d.set r l = d := by unfold Dv.set; rw [if_neg (by omega), if_neg (by omega)]
theorem Load_calls [Pl] (g : Nat) (d : Dv) (r : Int) (A : Option Addr) (c : Nat) (l : List Int) (W : World) (h : DevAt W g d) (hl : Kd.C (Kd.int .u8) W A l.length l) (hc : l.length ≤ c) (hcap : 0 ≤ d.cap ∧ d.cap ≤ 1048576) (hn : l.length ≤ 1000000) :
    Calls Try.prog 12 #[.pointer (some ⟨g, 0, none⟩), .int .i64 r, .slice A l.length c] W fun e W' => e = .returned (.tuple #[]) ∧ DevAt W' g (d.set r (l.take d.cap.toNat)) ∧ Oth g W W' := by
  by_cases hr : r = 0 ∨ r = 1
  · rcases hr with rfl | rfl
    · exact DLoad0 g d A c l W h hl hc hcap hn
    · exact DLoad1 g d A c l W h hl hc hcap hn
  · rw [set_no d r _ hr]
    have H := Aside0.mk (And.intro hr h)
    clear hr h hcap
    go_enter Try.func12, Try.ntmps12
    go_wp2_with (first
      | (go_at_call 31; refine (there_calls _ false _ (there_no _ H.out.1)).mono ?_; rintro e w' ⟨rfl, rfl⟩))
    go_end0
    exact ⟨rfl, H.out.2, Oth.refl _ _⟩
theorem info_sl : (Try.prog.info? 27).map (fun i => (i.zero, i.size, i.bytes)) = some (some (.slice none 0 0), 1, 24) := by kernel_rfl
theorem idx0 (A : Option Addr) (n c : Nat) (v1 : Value) (W : World) : Sem.run Try.prog (Instr.index 49 (.agg #[.slice A n c, v1]) (.int .i64 0)) W = .ok (.slice A n c) W := by
  obtain ⟨i0, hi0, h1, h2, h3⟩ := info_parts info_sl
  unfold Instr.index
  simp [go_sem, Try.underlying49, sizeOf, typeInfo, hi0, h2, part, Try.underlying27]
theorem idx1 (A : Option Addr) (n c : Nat) (v1 : Value) (W : World) : Sem.run Try.prog (Instr.index 49 (.agg #[v1, .slice A n c]) (.int .i64 1)) W = .ok (.slice A n c) W := by
  obtain ⟨i0, hi0, h1, h2, h3⟩ := info_parts info_sl
  unfold Instr.index
  simp [go_sem, Try.underlying49, sizeOf, typeInfo, hi0, h2, part, Try.underlying27]
/-- A row of one's own, its block whole. -/
theorem own_block {W : World} {base b : Nat} {ok : Nat → Prop} {v : Value} {l : List Int} (h : Kd.R (Kd.int .u8) 5 W base ok v l) (hv : v.ownBlock = some b) : ∃ cap cur, v = .slice (some ⟨b, 0, none⟩) l.length cap ∧ W.heap[b]? = some (.cells cur 5 (0, 0)) ∧ cur.size = cap ∧ l.length ≤ cap := by
  obtain ⟨inner, ho⟩ := Kd.R_own h
  rcases ho.2 with ⟨h1, h2⟩ | ⟨g, cap, cur, h1, h2, h3, h4⟩
  · subst h1; simp [Value.ownBlock] at hv
  · subst h1
    have hg : g = b := by simpa [Value.ownBlock] using hv
    subst hg
    have hz : cur.size = cap := by have := h4.2.2.1; rw [this]; exact Nat.mul_one cap
    exact ⟨cap, cur, rfl, h3, hz, h4.1⟩
theorem C_pre {W : World} {b t : Nat} {l : List Int} {rest : List Value} (h : W.heap[b]? = some (.cells (l.map (Value.int .u8) ++ rest).toArray t (0, 0))) (hl : l.length ≤ 9223372036854775807) : (Kd.int .u8).C W (some ⟨b, 0, none⟩) l.length l :=
  ⟨rfl, hl, fun _ => ⟨_, rfl, fun j p hj => ⟨[.int .u8 p], rfl, rfl, fun i u hu => by
    have hi : i < 1 := (List.getElem?_eq_some_iff.1 hu).1
    obtain rfl : i = 0 := by omega
    have hu' : Value.int .u8 p = u := by simpa using hu
    subst hu'
    have hjl := (List.getElem?_eq_some_iff.1 hj).1
    rw [add_plain, cell_of_row _ _ _ _ _ _ h]
    rw [List.getElem?_toArray, show j * (Kd.int .u8).sz + 0 = j from Nat.mul_one j, List.getElem?_append_left (by simpa using hjl), List.getElem?_map, hj]
    rfl⟩⟩⟩
theorem C_src {W : World} {A : Option Addr} {l : List Int} (h : (Kd.int .u8).C W A l.length l) (hp : 0 < l.length) : ∃ ad, A = some ad ∧ ∀ j v, (l.map (Value.int .u8))[j]? = some v → W.cell? (ad.add j) = some v := by
  obtain ⟨ad, e, hr⟩ := h.2.2 hp
  refine ⟨ad, e, fun j v hj => ?_⟩
  rw [List.getElem?_map] at hj
  cases hq : l[j]? with
  | none => rw [hq] at hj; cases hj
  | some p =>
    rw [hq] at hj
    have hv : Value.int .u8 p = v := by simpa using hj
    subst hv
    obtain ⟨c, _, hK, hc⟩ := hr j p hq
    have hK' : c = [.int .u8 p] := hK
    subst hK'
    have h0 := hc 0 _ rfl
    replace h0 : W.cell? (ad.add (j * 1 + 0)) = some (.int .u8 p) := h0
    rwa [Nat.mul_one, Nat.add_zero] at h0
set_option maxHeartbeats 1600000 in
theorem DClone_calls [Pl] (g : Nat) (d : Dv) (W : World) (h : DevAt W g d) (ha : d.a.length ≤ 1000000) (hb : d.b.length ≤ 1000000) :
    Calls Try.prog 20 #[.pointer (some ⟨g, 0, none⟩)] W fun e W' => ∃ g', e = .returned (.pointer (some ⟨g', 0, none⟩)) ∧ W.heap.size ≤ g' ∧ DevAt W' g' d ∧ Below W.heap.size W W' := by
  obtain ⟨A0, c0, A1, c1, hB, hc0, hc1, hr0, hr1⟩ := h
  obtain ⟨k0, k1, k2, k3, k4, k5⟩ := hB.cells
  have hB' : DevB (W.alloc (.cells #[.slice A0 d.a.length c0, .slice A1 d.b.length c1, .int .i64 d.cap, .int .i64 d.left, .bool d.down, .int .i64 d.turned] 51)) g A0 c0 A1 c1 d := blk_alloc hB _
  obtain ⟨k0', k1', _⟩ := hB'.cells
  have HB := Aside0.mk (And.intro hB (And.intro hr0 hr1))
  clear hB hr0 hr1 hB'
  go_enter Try.func20, Try.ntmps20
  go_wp2
  clear k0 k1 k2 k3 k4 k5 k0' k1'
  have x0 := idx0 A0 d.a.length c0 (.slice A1 d.b.length c1)
  have x1 := idx1 A1 d.b.length c1 (.slice A0 d.a.length c0)
  have hbW : Below W.heap.size W (W.alloc (.cells #[.slice A0 d.a.length c0, .slice A1 d.b.length c1, .int .i64 d.cap, .int .i64 d.left, .bool d.down, .int .i64 d.turned] 51)) := below_alloc (Below.refl _ _) _
  have hD : DevAt (W.alloc (.cells #[.slice A0 d.a.length c0, .slice A1 d.b.length c1, .int .i64 d.cap, .int .i64 d.left, .bool d.down, .int .i64 d.turned] 51)) W.heap.size d := ⟨A0, c0, A1, c1, blk_new W _, hc0, hc1, HB.out.2.1.below hbW, HB.out.2.2.below hbW⟩
  have HD := Aside0.mk (And.intro hD hbW)
  clear hbW hD
  go_loopw [13] (fun i wr => ∃ k : Nat, k ≤ 2 ∧ i = .int .i64 (k : Int) ∧ Aside0 (DevAt wr W.heap.size d ∧ Below W.heap.size W wr)) (fun i _ => 2 - (intOf i).toNat)
  case atStart => exact ⟨0, by omega, rfl, HD⟩
  case round =>
    obtain ⟨k, hk, rfl, HW⟩ := hrel
    obtain ⟨A0', c0', A1', c1', hB', hc0', hc1', hr0', hr1'⟩ := HW.out.1
    have HG := Aside0.mk (And.intro hB' (And.intro hr0' hr1'))
    clear hB' hr0' hr1'
    have hlt : W.heap.size < wr.heap.size := lt_of_some HG.out.1
    have hsz1 : (Try.prog.info? 5).map (·.size) = some 1 := by kernel_rfl
    have SRC : Aside0 (∀ w1, DevB w1 W.heap.size A0' c0' A1' c1' d → Below wr.heap.size wr w1 → (∀ v, Kd.C (Kd.int .u8) (w1.setCell ⟨W.heap.size, 0, none⟩ v) A0 d.a.length d.a) ∧ (∀ v, Kd.C (Kd.int .u8) (w1.setCell ⟨W.heap.size, 1, none⟩ v) A1 d.b.length d.b)) :=
      ⟨fun w1 hd hb => ⟨fun v => ((HB.out.2.1.below (below_step HW.out.2 hb)).oth hd (by decide) (Oth.set w1 ⟨W.heap.size, 0, none⟩ v)).1, fun v => ((HB.out.2.2.below (below_step HW.out.2 hb)).oth hd (by decide) (Oth.set w1 ⟨W.heap.size, 1, none⟩ v)).1⟩⟩
    rcases (show k = 0 ∨ k = 1 ∨ k = 2 by omega) with rfl | rfl | rfl
    · go_wp2_with (first
        | ((with_reducible refine gate_dst (N := 20) rfl ?_); refine Kd.R_make (Kd.int .u8) (w0 := wr) wr.heap.size 5 rfl (N := 20) rfl 27 (.tmp 19) (.tmp 19) rfl (d.a.length : Int) rfl rfl Try.underlying27 (.int .u8 0) 1 info_u8 rfl (by decide) (by decide) 0 (ok := fun _ => True) (okp := fun _ => True) rfl (fun _ h => h) trivial (by omega) (by omega) (Below.refl _ _) (Nat.le_refl _) ?_; intro v1 w1 ho1 hb1 hg1 hn1; obtain ⟨b, hvb, hbw⟩ := hn1; obtain ⟨cap, cur, ev, hcur, hcz, hnc⟩ := own_block ho1 hvb; subst ev; rw [Int.toNat_natCast, List.length_replicate] at hnc; rw [Int.toNat_natCast] at ho1; have hD1 : DevB w1 W.heap.size A0' c0' A1' c1' d := blk_belowX HG.out.1 hb1; have z0 := hD1.cells.1; have z1 := hD1.cells.2.1; have fz0 := hD1.frozen 0; have S1 := Aside0.mk (And.intro hD1 (And.intro hb1 hcur)); clear ho1 hb1 hg1 hvb hD1 hcur)
        | ((with_reducible refine gate_builtin (b := .copy) (xs := #[.tmp 26, .tmp 27]) rfl ?_); refine wpList_copy_splice rfl (.tmp 26) (.tmp 27) 27 27 rfl 5 Try.underlying27 hsz1 (some ⟨b, 0, none⟩) A0 d.a.length cap d.a.length c0 rfl rfl b 0 cur.toList 5 ?k1 (d.a.map (Value.int .u8)) ?k2 ?k3 ?k4 ?k5 wr.heap.size (w1.setCell ⟨W.heap.size, 0, none⟩ (.slice (some ⟨b, 0, none⟩) d.a.length cap)) (Below.refl _ _) hbw ?_; (case k1 => rw [Array.toArray_toList]; exact blk_far (p := ⟨W.heap.size, 0, none⟩) S1.out.2.2 (by show b ≠ W.heap.size; omega) _); (case k2 => rw [List.length_map]; exact (Nat.min_self _).symm); (case k3 => intro hp; rw [List.length_map] at hp; exact ⟨rfl, C_src ((SRC.out _ S1.out.1 S1.out.2.1).1 _) hp⟩); (case k4 => rw [List.length_map, Array.length_toList, hcz]; omega); (case k5 => intro v hv; obtain ⟨p, _, rfl⟩ := List.mem_map.1 hv; rfl); intro w3 h3 hb3; have S3 := Aside0.mk (And.intro h3.out hb3); clear h3 hb3))
      have hb3 := S3.out.2
      have h3 := S3.out.1
      unfold splice at h3
      rw [List.take_zero, List.nil_append] at h3
      have hds := Oth.set w1 ⟨W.heap.size, 0, none⟩ (.slice (some ⟨b, 0, none⟩) d.a.length cap)
      have ho3 : Oth W.heap.size wr w3 := ((Oth.of_below S1.out.2.1).trans hds).then_below hb3
      have hdb3 := (hb3.block _ hlt).trans (blk_put S1.out.1 0 (.slice (some ⟨b, 0, none⟩) d.a.length cap) rfl)
      have hBf : Below W.heap.size W w3 := ho3.below HW.out.2 (Nat.le_refl _)
      refine ⟨⟨1, by omega, rfl, ⟨⟨some ⟨b, 0, none⟩, cap, A1', c1', hdb3, hnc, hc1', ⟨C_pre h3 (by omega), fun ad e => by injection e with e; subst e; exact ⟨_, _, h3⟩, Nat.le_trans HG.out.2.1.lo ho3.size, fun ad e => by injection e with e; subst e; exact Pl.up _ (Nat.le_trans HG.out.2.1.lo hbw)⟩, HG.out.2.2.oth HG.out.1 (by decide) ho3⟩, hBf⟩⟩, by simp [intOf]⟩
    · go_wp2_with (first
        | ((with_reducible refine gate_dst (N := 20) rfl ?_); refine Kd.R_make (Kd.int .u8) (w0 := wr) wr.heap.size 5 rfl (N := 20) rfl 27 (.tmp 19) (.tmp 19) rfl (d.b.length : Int) rfl rfl Try.underlying27 (.int .u8 0) 1 info_u8 rfl (by decide) (by decide) 0 (ok := fun _ => True) (okp := fun _ => True) rfl (fun _ h => h) trivial (by omega) (by omega) (Below.refl _ _) (Nat.le_refl _) ?_; intro v1 w1 ho1 hb1 hg1 hn1; obtain ⟨b, hvb, hbw⟩ := hn1; obtain ⟨cap, cur, ev, hcur, hcz, hnc⟩ := own_block ho1 hvb; subst ev; rw [Int.toNat_natCast, List.length_replicate] at hnc; rw [Int.toNat_natCast] at ho1; have hD1 : DevB w1 W.heap.size A0' c0' A1' c1' d := blk_belowX HG.out.1 hb1; have z0 := hD1.cells.1; have z1 := hD1.cells.2.1; have fz0 := hD1.frozen 1; have S1 := Aside0.mk (And.intro hD1 (And.intro hb1 hcur)); clear ho1 hb1 hg1 hvb hD1 hcur)
        | ((with_reducible refine gate_builtin (b := .copy) (xs := #[.tmp 26, .tmp 27]) rfl ?_); refine wpList_copy_splice rfl (.tmp 26) (.tmp 27) 27 27 rfl 5 Try.underlying27 hsz1 (some ⟨b, 0, none⟩) A1 d.b.length cap d.b.length c1 rfl rfl b 0 cur.toList 5 ?k1 (d.b.map (Value.int .u8)) ?k2 ?k3 ?k4 ?k5 wr.heap.size (w1.setCell ⟨W.heap.size, 1, none⟩ (.slice (some ⟨b, 0, none⟩) d.b.length cap)) (Below.refl _ _) hbw ?_; (case k1 => rw [Array.toArray_toList]; exact blk_far (p := ⟨W.heap.size, 1, none⟩) S1.out.2.2 (by show b ≠ W.heap.size; omega) _); (case k2 => rw [List.length_map]; exact (Nat.min_self _).symm); (case k3 => intro hp; rw [List.length_map] at hp; exact ⟨rfl, C_src ((SRC.out _ S1.out.1 S1.out.2.1).2 _) hp⟩); (case k4 => rw [List.length_map, Array.length_toList, hcz]; omega); (case k5 => intro v hv; obtain ⟨p, _, rfl⟩ := List.mem_map.1 hv; rfl); intro w3 h3 hb3; have S3 := Aside0.mk (And.intro h3.out hb3); clear h3 hb3))
      have hb3 := S3.out.2
      have h3 := S3.out.1
      unfold splice at h3
      rw [List.take_zero, List.nil_append] at h3
      have hds := Oth.set w1 ⟨W.heap.size, 1, none⟩ (.slice (some ⟨b, 0, none⟩) d.b.length cap)
      have ho3 : Oth W.heap.size wr w3 := ((Oth.of_below S1.out.2.1).trans hds).then_below hb3
      have hdb3 := (hb3.block _ hlt).trans (blk_put S1.out.1 1 (.slice (some ⟨b, 0, none⟩) d.b.length cap) rfl)
      have hBf : Below W.heap.size W w3 := ho3.below HW.out.2 (Nat.le_refl _)
      refine ⟨⟨2, by omega, rfl, ⟨⟨A0', c0', some ⟨b, 0, none⟩, cap, hdb3, hc0', hnc, HG.out.2.1.oth HG.out.1 (by decide) ho3, ⟨C_pre h3 (by omega), fun ad e => by injection e with e; subst e; exact ⟨_, _, h3⟩, Nat.le_trans HG.out.2.1.lo ho3.size, fun ad e => by injection e with e; subst e; exact Pl.up _ (Nat.le_trans HG.out.2.1.lo hbw)⟩⟩, hBf⟩⟩, by simp [intOf]⟩
    · go_wp2
      go_ret
      exact ⟨_, rfl, Nat.le_refl _, HW.out.1, HW.out.2⟩
end Go.Proofs.Ytpahmdjcmpnmkaa.H
