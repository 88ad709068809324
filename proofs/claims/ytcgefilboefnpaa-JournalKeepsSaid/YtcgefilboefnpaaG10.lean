/- Some texts of one seat in one file, in build order. -/
import Derived.Test.YtcgefilboefnpaaG6
import Derived.Deep.RegionHeld3
import Derived.Test.YtcgefilboefnpaaG7
/- Contracts of frame.Weight, frame.Write, frame.Read. -/
namespace Go.Proofs.Ytcgefilboefnpaa.H
open Go.RowKit Go.Proofs.YtcgefilboefnpaaW.PrintWords Go.Proofs.YtcgefilboefnpaaW.PrintLast Go.Proofs.YtcgefilboefnpaaW.PrintMore Go.Proofs.Ytcgefilboefnpaa.CrcM
set_option linter.unusedVariables false
set_option linter.unusedSimpArgs false
attribute [local go_sem] max2_int min2_int

def weightF (n : Int) : Int := if n < 0 then 7 else n + 7
set_option maxHeartbeats 400000 in
theorem Weight_calls (n : Int) (w : World) (h : n ≤ 4611686018427387904) : Calls Try.prog 41 #[.int .i64 n] w fun e w' => e = .returned (.int .i64 (weightF n)) ∧ w = w' := by
  by_cases hn : n < 0
  · have hw : weightF n = 7 := by unfold weightF; rw [if_pos hn]
    rw [hw]
    clear hw
    go_enter Try.func41, Try.ntmps41
    go_wp2
    go_ret
    exact ⟨rfl, rfl⟩
  · have hw : weightF n = 3 + n + 4 := by unfold weightF; rw [if_neg hn]; omega
    have h0 : 0 ≤ n := by omega
    rw [hw]
    clear hw hn
    go_enter Try.func41, Try.ntmps41
    go_wp2
    go_ret
    exact ⟨rfl, rfl⟩

set_option maxHeartbeats 1600000 in
theorem Write_calls (kind : Int) (A0 : Option Addr) (c0 : Nat) (l0 : List Int) (w : World) (hr0 : Kd.C (Kd.int .u8) w A0 l0.length l0) (hc0 : l0.length ≤ c0) :
    Calls Try.prog 38 #[.agg #[.int .i64 kind, .slice A0 l0.length c0]] w fun e w' => ∃ v0_ : Value, e = .returned (.tuple #[v0_, .int .i64 (writeF kind l0).2]) ∧ Kd.R (Kd.int .u8) 5 w' w.heap.size (fun _ => True) v0_ (writeF kind l0).1 ∧ Below w.heap.size w w' := by
  have HR0 := Aside0.mk hr0
  clear hr0
  by_cases hk : kind < 1 ∨ kind > 255
  · have hw : writeF kind l0 = ([], 1) := by unfold writeF; rw [if_pos hk]
    rw [hw]
    clear hw
    by_cases h1 : kind < 1
    · have b0 : decide (kind < 1) = true := decide_eq_true h1
      go_enter Try.func38, Try.ntmps38
      go_wp2
      go_ret2
      exact ⟨_, rfl, Kd.R_nil _ _ _ _ _, below_alloc (Below.refl _ _) _⟩
    · have b0 : decide (kind < 1) = false := decide_eq_false h1
      have b1 : decide (255 < kind) = true := decide_eq_true (by omega)
      clear hk
      go_enter Try.func38, Try.ntmps38
      go_wp2
      go_ret2
      exact ⟨_, rfl, Kd.R_nil _ _ _ _ _, below_alloc (Below.refl _ _) _⟩
  · have b0 : decide (kind < 1) = false := decide_eq_false (by omega)
    have b1 : decide (255 < kind) = false := decide_eq_false (by omega)
    by_cases hl : l0.length > 4096
    · have hw : writeF kind l0 = ([], 2) := by unfold writeF; rw [if_neg hk, if_pos hl]
      rw [hw]
      have b2 : decide (4096 < l0.length) = true := decide_eq_true hl
      have b3 : decide (4096 < (l0.length : Int)) = true := decide_eq_true (by omega)
      clear hw hk
      go_enter Try.func38, Try.ntmps38
      go_wp2
      go_ret2
      exact ⟨_, rfl, Kd.R_nil _ _ _ _ _, below_alloc (Below.refl _ _) _⟩
    · have hw : writeF kind l0 = (bytesF kind l0 ++ le4 (ext 0#32 (bytesF kind l0)), 0) := by unfold writeF; rw [if_neg hk, if_neg hl]
      rw [hw]
      have b2 : decide (4096 < l0.length) = false := decide_eq_false hl
      have b3 : decide (4096 < (l0.length : Int)) = false := decide_eq_false (by omega)
      have hlb : (bytesF kind l0).length = l0.length + 3 := by simp [bytesF]
      have hl2 : l0.length ≤ 4096 := by omega
      have hk0 : 0 ≤ kind := by omega
      have hk1 : kind ≤ 255 := by omega
      have hbf : bytesF kind l0 = [(l0.length : Int) % 256, (l0.length : Int) / 256, kind] ++ l0 := by unfold bytesF; rw [show kind % 256 = kind by omega, show (l0.length : Int) / 256 % 256 = (l0.length : Int) / 256 by omega]
      have hsl := fun (A : Option Addr) (c : Nat) (w : World) (h : Kd.C (Kd.int .u8) w A (bytesF kind l0).length (bytesF kind l0)) (hc : (bytesF kind l0).length ≤ c) => Seal_calls A c (bytesF kind l0) w h hc (by omega)
      generalize hfb : bytesF kind l0 = fb at hlb hsl hbf
      generalize hsd : fb ++ le4 (ext 0#32 fb) = sd at hsl
      have HS := Aside0.mk hsl
      have HB := Lib.hid hbf
      clear hw hk hsl hbf hsd hfb hlb
      go_enter Try.func38, Try.ntmps38
      go_wp2_with (first
        | ((with_reducible refine gate_dst (N := 30) rfl ?_); refine Kd.R_lit (Kd.int .u8) (w0 := w) w.heap.size 5 ?hg (N := 30) ?hd (xs := [(l0.length : Int) % 256, (l0.length : Int) / 256, kind]) (inner := [.int .u8 ((l0.length : Int) % 256), .int .u8 ((l0.length : Int) / 256), .int .u8 kind]) (ok := fun _ => True) (okp := fun _ => True) ?hr ?hp (fun _ hk => hk) trivial (below_alloc (Below.refl _ _) _) (by simp) (by simp) ?_; (case hd => rfl); (case hg => rfl); (case hr => first | (go_simp; done) | (go_simp; rfl)); (case hp => exact Reps.one rfl (Reps.one rfl (Reps.one rfl (Reps.none _ _)))); intro v5 w5 ho5 hb5 hg5 hn5; obtain ⟨A5, c5, e5⟩ := Kd.R_slice ho5; subst e5; have HO5 := Aside0.mk ho5; have HB5 := Aside0.mk hb5; have hcell5 : w5.cell? ⟨w.heap.size, 1, none⟩ = some (.slice A0 l0.length c0) := (World.cell?_of_block (hg5.block w.heap.size (by simp) (by simp))).trans (by rw [blk_cell (blk_new w (.cells #[.int .i64 kind, .slice A0 l0.length c0] 72))]; rfl); clear ho5 hb5 hg5 hn5)
        | ((with_reducible refine gate_builtin (b := .append) (xs := #[.tmp 30, .tmp 32]) rfl ?_); at_builtin; refine Kd.R_append_rows (Kd.int .u8) (w0 := w) w.heap.size rfl (.tmp 30) (.tmp 32) 32 5 (.int .u8 0) 1 rfl Try.underlying32 info_u8 rfl (by decide) (by omega) _ _ l0 _ _ _ (fun _ => True) (fun _ => False) rfl rfl HO5.out (Kd.C_below HR0.out HB5.out) (fun _ _ h => h) (fun _ h => h.elim) (fun _ _ => trivial) HB5.out HB5.out.size ?aL ?_; (case aL => simp; omega); intro v7 w7 ho7 hb7 hg7 hat7; rw [← HB.out] at ho7; obtain ⟨A7, c7, e7, hc7, hr7⟩ := R_C ho7; subst e7; have HR7 := Aside0.mk hr7; have HB7 := Aside0.mk hb7; clear ho7 hb7 hg7 hat7 hr7)
        | (go_at_call 57; refine (HS.out _ _ _ HR7.out hc7).mono ?_; rintro e w8 ⟨v8, rfl, ho8, hb8⟩; have HO8 := Aside0.mk (Kd.R_lower ho8 HB7.out.size); have HB8 := Aside0.mk (below_step HB7.out hb8); clear ho8 hb8))
      go_ret2
      exact ⟨_, rfl, HO8.out, HB8.out⟩

/-- What Read hands back, at a world. -/
def ReadPost (b : List Int) (w : World) (e : Ending) (w' : World) : Prop :=
  ∃ v0_ : Value, e = .returned (.tuple #[.agg #[.int .i64 (readF b).1, v0_], .int .i64 (readF b).2.2.1, .int .i64 (readF b).2.2.2]) ∧ Kd.R (Kd.int .u8) 5 w' w.heap.size (fun _ => True) v0_ (readF b).2.1 ∧ Below w.heap.size w w'
theorem info_frame : (Try.prog.info? 72).map (·.size) = some 2 := by kernel_rfl

set_option maxHeartbeats 1600000 in
theorem Read_calls (A0 : Option Addr) (c0 : Nat) (l0 : List Int) (w : World) (hr0 : Kd.C (Kd.int .u8) w A0 l0.length l0) (hc0 : l0.length ≤ c0) (hB : Bts l0) (hl : l0.length ≤ 1000000) :
    Calls Try.prog 67 #[.slice A0 l0.length c0] w (ReadPost l0 w) := by
  have HR0 := Aside0.mk hr0
  clear hr0
  by_cases h2 : l0.length < 2
  · have hs : readF l0 = (0, [], 0, 21) := by unfold readF; rw [if_pos h2]
    have HS := Lib.hid hs
    have b0 : decide (l0.length < 2) = true := decide_eq_true h2
    have b1 : decide ((l0.length : Int) < 2) = true := decide_eq_true (by omega)
    clear hs
    go_enter Try.func67, Try.ntmps67
    go_wp2
    refine bodyPost_ret (results_list (rs := [.cell 2 72, .tmp 3, .tmp 4]) rfl (by simp) (.cell w.heap.size _ _ _ _ rfl (blk_new w _) Try.underlying72 rfl info_frame (.tmp (.tmp .nil)))) rfl ?_
    refine ⟨.slice none 0 0, by rw [HS.out]; rfl, by rw [HS.out]; exact Kd.R_nil _ _ _ _ _, ?_⟩
    exact below_alloc (Below.refl _ _) _
  · have b0 : decide (l0.length < 2) = false := decide_eq_false h2
    have b1 : decide ((l0.length : Int) < 2) = false := decide_eq_false (by omega)
    have hm : (l0.length : Int) ≤ 1000000 := by omega
    have hlo : 2 ≤ l0.length := by omega
    have q1 : 0 < l0.length := by omega
    have q2 : 1 < l0.length := by omega
    have q3 : (0 : Int) < (l0.length : Int) := by omega
    have q4 : (1 : Int) < (l0.length : Int) := by omega
    obtain ⟨ad, ea, hx0⟩ := Kd.at_int (Kd.C_alloc HR0.out (.cells #[.int .i64 0, .slice none 0 0] 72)) 0 (by omega) (by omega)
    obtain ⟨ad', ea', hx1⟩ := Kd.at_int (Kd.C_alloc HR0.out (.cells #[.int .i64 0, .slice none 0 0] 72)) 1 (by omega) (by omega)
    subst ea
    injection ea' with ea'
    subst ea'
    rw [show (0 : Int).toNat = 0 from rfl, show ad.add 0 = ad by simp [Addr.add]] at hx0
    rw [show (1 : Int).toNat = 1 from rfl, show ad.add 1 = ⟨ad.block, ad.off + 1, none⟩ by simp [Addr.add]] at hx1
    have r0 := bts_rd hB 0 (by omega)
    have r1 := bts_rd hB 1 (by omega)
    have hor := or_len (rd l0 0) (rd l0 1) r0 r1
    have hln := lenF_range hB hlo
    have hle : lenF l0 = rd l0 0 + 256 * rd l0 1 := rfl
    rw [← hle] at hor
    have hr00 : 0 ≤ rd l0 0 := r0.1
    have hr01 : rd l0 0 < 256 := r0.2
    have hr10 : 0 ≤ rd l0 1 := r1.1
    have hr11 : rd l0 1 < 256 := r1.2
    clear r0 r1 hle
    have hr : ∀ m, 2 ≤ l0.length → readF l0 = m → True := fun _ _ _ => trivial
    clear hr
    have hread : readF l0 = if lenF l0 > 4096 then (0, [], 0, 2) else if (l0.length : Int) < lenF l0 + 7 then (0, [], 0, 21) else if (openB (l0.take (lenF l0 + 7).toNat)).2 = false then (0, [], 0, 22)
        else if rd (openB (l0.take (lenF l0 + 7).toNat)).1 2 = 0 then (0, [], 0, 20) else (rd (openB (l0.take (lenF l0 + 7).toNat)).1 2, (openB (l0.take (lenF l0 + 7).toNat)).1.drop 3, lenF l0 + 7, 0) := by
      unfold readF; rw [if_neg h2]
    generalize hnn : lenF l0 = n at hor hln hread
    obtain ⟨hn0, hn1⟩ := hln
    generalize rd l0 0 = x0 at hx0 hor hr00 hr01
    generalize rd l0 1 = x1 at hx1 hor hr10 hr11
    have hw0 : IntKind.i64.wrap x0 = x0 := by rw [IntKind.wrap_i64]; omega
    have hw1 : IntKind.i64.wrap x1 = x1 := by rw [IntKind.wrap_i64]; omega
    have hw2 : IntKind.i64.wrap (x1 * 256) = x1 * 256 := by rw [IntKind.wrap_i64]; omega
    clear hnn h2
    by_cases hbig : n > 4096
    · rw [if_pos hbig] at hread
      have HS := Lib.hid hread
      have b2 : decide (4096 < n) = true := decide_eq_true hbig
      clear hread
      go_enter Try.func67, Try.ntmps67
      go_wp2
      go_quiet (fail)
      go_wp2
      refine bodyPost_ret (results_list (rs := [.cell 2 72, .tmp 3, .tmp 4]) rfl (by simp) (.cell w.heap.size _ _ _ _ rfl (blk_put (blk_put (w := (w.alloc (.cells #[.int .i64 0, .slice none 0 0] 72)).drewN _) (blk_new w _) 0 _ rfl) 1 _ rfl) Try.underlying72 rfl info_frame (.tmp (.tmp .nil)))) rfl ?_
      exact ⟨.slice none 0 0, by rw [HS.out]; rfl, by rw [HS.out]; exact Kd.R_nil _ _ _ _ _, below_set (below_set (pw_below_drewN (below_alloc (Below.refl _ _) _) _) (Nat.le_refl _)) (Nat.le_refl _)⟩
    · rw [if_neg hbig] at hread
      have b2 : decide (4096 < n) = false := decide_eq_false hbig
      have hwt := fun (w : World) => Weight_calls n w (by omega)
      rw [show weightF n = n + 7 by unfold weightF; rw [if_neg (by omega)]] at hwt
      have HW := Aside0.mk hwt
      have hn2 : n ≤ 4096 := by omega
      clear hwt hbig
      by_cases hsh : (l0.length : Int) < n + 7
      · rw [if_pos hsh] at hread
        have HS := Lib.hid hread
        have b3 : decide ((l0.length : Int) < n + 7) = true := decide_eq_true hsh
        clear hread
        go_enter Try.func67, Try.ntmps67
        go_wp2
        go_quiet (fail)
        go_wp2_with (go_at_call 41; refine (HW.out _).mono ?_; rintro e w1 ⟨rfl, rfl⟩)
        refine bodyPost_ret (results_list (rs := [.cell 2 72, .tmp 3, .tmp 4]) rfl (by simp) (.cell w.heap.size _ _ _ _ rfl (blk_put (blk_put (w := (w.alloc (.cells #[.int .i64 0, .slice none 0 0] 72)).drewN _) (blk_new w _) 0 _ rfl) 1 _ rfl) Try.underlying72 rfl info_frame (.tmp (.tmp .nil)))) rfl ?_
        exact ⟨.slice none 0 0, by rw [HS.out]; rfl, by rw [HS.out]; exact Kd.R_nil _ _ _ _ _, below_set (below_set (pw_below_drewN (below_alloc (Below.refl _ _) _) _) (Nat.le_refl _)) (Nat.le_refl _)⟩
      · rw [if_neg hsh] at hread
        have b3 : decide ((l0.length : Int) < n + 7) = false := decide_eq_false hsh
        obtain ⟨i0, hi0, _, hsz, _⟩ := info_parts info_u8
        have hcut := (print_take_of (P := Try.prog) (Value.int .u8) 0 32 5 .i64 Try.underlying32 hi0 hsz (some ad) c0 l0 (n + 7) (by omega) (by omega) hc0).1
        have hrb := Kd.C_take (m := (n + 7).toNat) HR0.out (by omega)
        have hlb : (l0.take (n + 7).toNat).length ≤ 1000000 := by rw [List.length_take]; omega
        have hlc : (l0.take (n + 7).toNat).length ≤ c0 := by rw [List.length_take]; omega
        have hlx : (l0.take (n + 7).toNat).length = (n + 7).toNat := by rw [List.length_take]; omega
        have hbb : Bts (l0.take (n + 7).toNat) := bts_take hB _
        generalize l0.take (n + 7).toNat = b at hcut hrb hlb hlc hlx hbb hread
        have hop := fun w h => Open_calls (some ad) c0 b w h hlc hlb
        have hol := openB_len (b := b)
        generalize hoo : openB b = o at hop hol hread
        obtain ⟨o1, o2⟩ := o
        have HRB := Aside0.mk hrb
        have HOP := Aside0.mk hop
        clear hrb hop hi0 hsz hlb hlc hsh
        cases o2 with
        | false =>
          rw [if_pos rfl] at hread
          have HS := Lib.hid hread
          clear hread hol hlx
          go_enter Try.func67, Try.ntmps67
          go_wp2
          go_quiet (fail)
          go_wp2_with (first
            | (go_at_call 41; refine (HW.out _).mono ?_; rintro e w1 ⟨rfl, rfl⟩)
            | (go_at_call 74; refine (HOP.out _ (Kd.C_drewN (Kd.C_alloc HRB.out _) _)).mono ?_; rintro e w1 ⟨v1, rfl, ho1, hb1⟩; have hblk := (hb1.block w.heap.size (by simp)).trans (blk_new w (.cells #[.int .i64 0, .slice none 0 0] 72)); have hcl0 := blk_cell hblk 0; have hcl1 := blk_cell hblk 1; simp at hcl0 hcl1; have hfz0 := blk_frozen hblk 0; have hfz1 := blk_frozen hblk 1; have HB1 := Aside0.mk (below_step (pw_below_drewN (below_alloc (Below.refl _ _) _) _) hb1); have HK := Aside0.mk hblk; clear ho1 hb1 hblk))
          refine bodyPost_ret (results_list (rs := [.cell 2 72, .tmp 3, .tmp 4]) rfl (by simp) (.cell w.heap.size _ _ _ _ rfl (blk_put (blk_put HK.out 0 _ rfl) 1 _ rfl) Try.underlying72 rfl info_frame (.tmp (.tmp .nil)))) rfl ?_
          exact ⟨.slice none 0 0, by rw [HS.out]; rfl, by rw [HS.out]; exact Kd.R_nil _ _ _ _ _, below_set (below_set HB1.out (Nat.le_refl _)) (Nat.le_refl _)⟩
        | true =>
          rw [if_neg (by intro h; cases h)] at hread
          obtain ⟨ho1, hb4⟩ := hol rfl
          have hl1 : o1.length = (n + 3).toNat := by
            have : o1.length = (b.take (b.length - 4)).length := by rw [← ho1]
            rw [this, List.length_take]; omega
          have hl3 : 3 ≤ o1.length := by omega
          have hl4 : o1.length ≤ 5000 := by omega
          have hbo : Bts o1 := by
            have : o1 = b.take (b.length - 4) := ho1
            rw [this]; exact bts_take hbb _
          clear ho1 hol hlx hl1 hb4
          generalize hx2 : rd o1 2 = x2 at hread
          have q5 : 2 < o1.length := by omega
          have q6 : (2 : Int) < (o1.length : Int) := by omega
          by_cases hz : x2 = 0
          · rw [if_pos hz] at hread
            have HS := Lib.hid hread
            have b4 : (x2 == 0) = true := by rw [hz]; rfl
            have HX := Lib.hid hx2
            clear hread hx2 hz
            go_enter Try.func67, Try.ntmps67
            go_wp2
            go_quiet (fail)
            go_wp2_with (first
              | (go_at_call 41; refine (HW.out _).mono ?_; rintro e w1 ⟨rfl, rfl⟩)
              | (go_at_call 74; refine (HOP.out _ (Kd.C_drewN (Kd.C_alloc HRB.out _) _)).mono ?_; rintro e w1 ⟨v1, rfl, ho1, hb1⟩; have hblk := (hb1.block w.heap.size (by simp)).trans (blk_new w (.cells #[.int .i64 0, .slice none 0 0] 72)); have hcl0 := blk_cell hblk 0; have hcl1 := blk_cell hblk 1; simp at hcl0 hcl1; have hfz0 := blk_frozen hblk 0; have hfz1 := blk_frozen hblk 1; have HB1 := Aside0.mk (below_step (pw_below_drewN (below_alloc (Below.refl _ _) _) _) hb1); have HK := Aside0.mk hblk; obtain ⟨A1, c1, e1, hc1, hr1⟩ := R_C ho1; subst e1; obtain ⟨ad1, ea1, hx1c⟩ := Kd.at_int hr1 2 (by omega) (by omega); subst ea1; have hx1d := hx1c; rw [HX.out, show (2 : Int).toNat = 2 from rfl, show ad1.add 2 = ⟨ad1.block, ad1.off + 2, none⟩ by simp [Addr.add]] at hx1d; clear hx1c ho1 hb1 hblk hr1))
            refine bodyPost_ret (results_list (rs := [.cell 2 72, .tmp 3, .tmp 4]) rfl (by simp) (.cell w.heap.size _ _ _ _ rfl (blk_put (blk_put HK.out 0 _ rfl) 1 _ rfl) Try.underlying72 rfl info_frame (.tmp (.tmp .nil)))) rfl ?_
            exact ⟨.slice none 0 0, by rw [HS.out]; rfl, by rw [HS.out]; exact Kd.R_nil _ _ _ _ _, below_set (below_set HB1.out (Nat.le_refl _)) (Nat.le_refl _)⟩
          · rw [if_neg hz] at hread
            have HS := Lib.hid hread
            have b4 : (x2 == 0) = false := by rw [beq_eq_false_iff_ne]; exact hz
            obtain ⟨hx20, hx21⟩ : 0 ≤ x2 ∧ x2 < 256 := by rw [← hx2]; exact bts_rd hbo 2 q5
            have HX := Lib.hid hx2
            obtain ⟨i0, hi0, _, hsz, _⟩ := info_parts info_u8
            have hcd := fun (A1 : Option Addr) (c1 : Nat) (hc1 : o1.length ≤ c1) => (print_drop_of (P := Try.prog) (Value.int .u8) 0 32 5 .i64 Try.underlying32 hi0 hsz A1 c1 o1 3 (by omega) (by omega) hc1)
            have HCD := Aside0.mk hcd
            clear hread hx2 hz hi0 hsz hcd
            go_enter Try.func67, Try.ntmps67
            go_wp2
            go_quiet (fail)
            go_wp2_with (first
              | (go_at_call 41; refine (HW.out _).mono ?_; rintro e w1 ⟨rfl, rfl⟩)
              | (go_at_call 74; refine (HOP.out _ (Kd.C_drewN (Kd.C_alloc HRB.out _) _)).mono ?_; rintro e w1 ⟨v1, rfl, ho1, hb1⟩; have hblk := (hb1.block w.heap.size (by simp)).trans (blk_new w (.cells #[.int .i64 0, .slice none 0 0] 72)); have HB1 := Aside0.mk (below_step (pw_below_drewN (below_alloc (Below.refl _ _) _) _) hb1); have HK := Aside0.mk hblk; obtain ⟨A1, c1, e1, hc1, hr1⟩ := R_C ho1; subst e1; obtain ⟨ad1, ea1, hx1c⟩ := Kd.at_int hr1 2 (by omega) (by omega); subst ea1; have hx1d := hx1c; rw [HX.out, show (2 : Int).toNat = 2 from rfl, show ad1.add 2 = ⟨ad1.block, ad1.off + 2, none⟩ by simp [Addr.add]] at hx1d; have HR1 := Aside0.mk hr1; have HNE := Aside0.mk (Kd.own_blk (Kd.R_ne ho1 hblk (by decide))); clear hx1c ho1 hb1 hblk hr1))
            obtain ⟨A2, hcutd, hreadd, hld⟩ := HCD.out (some ad1) c1 hc1
            rw [show (3 : Int).toNat = 3 from rfl] at hcutd hreadd hld
            have hrd := Kd.C_of_reads (h1 := fun _ => rfl) (hreadd _ (Kd.reads_of_C (d := (0 : Int)) HR1.out))
            have hdl : (o1.drop 3).length ≤ 5000 := by rw [List.length_drop]; omega
            generalize hbd : o1.drop 3 = bd at hcutd hrd hld hdl
            have HRD := Aside0.mk hrd
            have HBD := Lib.hid hbd
            clear hreadd hrd hbd
            have hnb := blk_lt HK.out
            have hw3 : IntKind.i64.wrap x2 = x2 := by rw [IntKind.wrap_i64]; omega
            have hfz0 := blk_frozen HK.out 0
            have hfz1 := blk_frozen HK.out 1
            have hcl0 := blk_cell HK.out 0
            have hcl1 := blk_cell HK.out 1
            simp at hcl0 hcl1
            go_region_held3 (fun w' => w'.cell? ⟨ad1.block, ad1.off + 2, none⟩ = some (.int .u8 x2))
              (first | go_keep | exact pw_cell_below hb2 (by assumption) | (rw [cell_far HNE.out _, cell_far HNE.out _]; assumption))
              (first
                | (go_at_call 41; refine (HW.out _).mono ?_; rintro e w3 ⟨rfl, rfl⟩)
                | (go_at_call 40; refine (Clone_calls _ _ bd _ ?sd hld (by omega)).mono ?_; (case sd => repeat (first | exact HRD.out | (with_reducible refine Kd.C_alloc ?_ _) | (with_reducible refine Kd.C_drewN ?_ _) | (with_reducible refine Kd.C_drew ?_))); rintro e w2 ⟨v2, rfl, ho2, hb2⟩; obtain ⟨A3, c3, e3⟩ := Kd.R_slice ho2; subst e3; have hk2 := (hb2.block w.heap.size (by simpa using hnb)).trans HK.out; have HK2 := Aside0.mk hk2; have g0 := blk_cell hk2 0; have g1 := blk_cell hk2 1; simp at g0 g1; have f0 := blk_frozen hk2 0; have f1 := blk_frozen hk2 1; clear hk2))
            go_wp2
            refine bodyPost_ret (results_list (rs := [.cell 2 72, .tmp 3, .tmp 4]) rfl (by simp) (.cell w.heap.size _ _ _ _ rfl (blk_put (blk_put HK2.out 0 _ rfl) 1 _ rfl) Try.underlying72 rfl info_frame (.tmp (.tmp .nil)))) rfl ?_
            have hb2w := below_step (below_drew1 HB1.out) hb2
            exact ⟨.slice A3 bd.length c3, by rw [HS.out]; rfl, by rw [HS.out, HBD.out]; exact Kd.R_set (Kd.R_set (Kd.R_lower ho2 (HB1.out.size)) HK2.out (by decide) 0 _) (blk_put HK2.out 0 _ rfl) (by decide) 1 _, below_set (below_set hb2w (Nat.le_refl _)) (Nat.le_refl _)⟩
end Go.Proofs.Ytcgefilboefnpaa.H
/- frame.Scan's func, whose rounds are told where the bodies lie. -/
namespace Go.Proofs.Ytcgefilboefnpaa.H
open Go.RowKit Go.Proofs.YtcgefilboefnpaaW.PrintWords Go.Proofs.YtcgefilboefnpaaW.PrintLast Go.Proofs.YtcgefilboefnpaaW.PrintMore Go.Proofs.Ytcgefilboefnpaa.CrcM
set_option linter.unusedVariables false
set_option linter.unusedSimpArgs false
attribute [local go_sem] Oper.semAt_some wide_fn wide_depth

/-- What the func tells a round. -/
def FrT [Pl] (b : List Int) (pre : List Fr) (x : Fr) (vs : Array Value) (W : World) : Prop :=
  pre ++ [x] <+: scanF b ∧ ∃ A c, vs = #[.int .i64 x.1, .agg #[.int .i64 x.2.1, .slice A x.2.2.length c]] ∧ x.2.2.length ≤ c ∧ Rd W A x.2.2

set_option maxHeartbeats 1600000 in
theorem Scan1_seqT [Pl] (n : Nat) (b : List Int) (hB : Bts b) (hl : b.length ≤ 1000000) (A : Option Addr) (c : Nat) (hc : b.length ≤ c) (bb n₀ : Nat) (Kb : Nat → Prop) (w : World)
    (hbox : ∀ W, Kp n₀ Kb w W → W.cell? ⟨bb, 0, none⟩ = some (.slice A b.length c)) (hC : ∀ W, Kp n₀ Kb w W → Kd.C (Kd.int .u8) W A b.length b) (hn : n₀ ≤ w.heap.size) (hlo : Pl.lo ≤ w.heap.size) :
    SeqX Fence.wide n Try.prog 66 #[.pointer (some ⟨bb, 0, none⟩)] (FrT b) n₀ Kb (fun xs => xs = scanF b) (fun _ => True) w := by
  intro l J Jx W hK hJ hJx hY h0
  refine callsIn_of_wp Try.func66 rfl trivial ?_ rfl
  simp only [Try.ntmps66, List.size_toArray, List.length_cons, List.length_nil, Nat.reduceAdd, Nat.reduceSub, Array.replicate_succ, Array.replicate_zero, List.push_toArray, List.append_toArray, List.nil_append, List.cons_append]
  gi_wp2
  gi_loopw [3] (fun p wr => ∃ (pre : List Fr) (at_ k : Nat), p = .int .i64 (at_ : Int) ∧ at_ ≤ b.length ∧ b.length + 1 ≤ k + at_ ∧ scanF b = pre ++ scanL b k at_ ∧ J pre wr ∧ Kp n₀ Kb w wr)
    (fun p wr => match p with | .int _ v => b.length + 1 - v.toNat | _ => 0)
  case atStart => exact ⟨[], 0, b.length + 1, rfl, by omega, by omega, rfl, h0, hK⟩
  case round =>
    obtain ⟨pre, at_, k, rfl, h1, h2, h3, h4, h5⟩ := hrel
    have hcell := hbox wr h5
    have hcw := hC wr h5
    have hsz5 := h5.1
    obtain ⟨i0, hi0, _, hsz, _⟩ := info_parts info_u8
    obtain ⟨A2, hcut, hreads, hld⟩ := print_drop_of (P := Try.prog) (Value.int .u8) 0 32 5 .i64 Try.underlying32 hi0 hsz A c b (at_ : Int) (by omega) (by omega) hc
    rw [Int.toNat_natCast] at hcut hreads hld
    have hrd := Kd.C_of_reads (h1 := fun _ => rfl) (hreads _ (Kd.reads_of_C (d := (0 : Int)) hcw))
    have hBd : Bts (b.drop at_) := bts_drop hB _
    have hdl : (b.drop at_).length ≤ 1000000 := by rw [List.length_drop]; omega
    have hok := readF_ok hBd
    have hsc : scanL b k at_ = [] ∨ (∃ k', k = k' + 1) := by cases k with | zero => exact .inl rfl | succ k' => exact .inr ⟨k', rfl⟩
    have hun : ∀ k', k = k' + 1 → scanL b k at_ = if (readF (b.drop at_)).2.2.2 = 0 then ((at_ : Int), (readF (b.drop at_)).1, (readF (b.drop at_)).2.1) :: scanL b k' (at_ + (readF (b.drop at_)).2.2.1.toNat) else [] := by
      intro k' e; subst e; rfl
    have hdle : (b.drop at_).length = b.length - at_ := List.length_drop
    rw [hdle] at hok
    clear hdle hreads hi0 hsz
    generalize b.drop at_ = d at hcut hrd hBd hdl hok hun hld
    have hread := fun (W : World) (h : Kd.C (Kd.int .u8) W A2 d.length d) => Read_calls A2 (c - at_) d W h hld hBd hdl
    unfold ReadPost at hread
    generalize readF d = r at hread hok hun
    obtain ⟨rk, rb, rn, re⟩ := r
    simp only at hread hok hun
    have HR := Aside0.mk hread
    have HRD := Aside0.mk hrd
    have HCW := Aside0.mk hcw
    have HU := Aside0.mk hun
    have H3 := Lib.hid h3
    have HLO := Aside0.mk (Nat.le_trans hlo hsz5)
    have hp1 : (at_ : Int) ≤ 1000000 := by omega
    have hp0 : 0 ≤ (at_ : Int) := by omega
    clear hread hrd hcw hun h3
    obtain ⟨k', hk'⟩ : ∃ k', k = k' + 1 := by cases k with | zero => omega | succ k' => exact ⟨k', rfl⟩
    have hU := HU.out k' hk'
    clear hsc HU
    by_cases he : re = 0
    · obtain ⟨q1, q2, q3, q4, q5, q6⟩ := hok he
      rw [if_pos he] at hU
      subst he
      have hr0 : 7 ≤ rn := by omega
      have hr1 : rn ≤ 1000000 := by omega
      have HU := Lib.hid hU
      have HQ1 := Lib.hid q1
      clear q1 hok hU
      gi_wp2_with (gi_at_call 67; refine (callsIn_wide.2 (HR.out _ HRD.out)).mono ?_; rintro e w1 ⟨v1, rfl, ho1, hb1⟩; obtain ⟨A3, c3, e3, hc3, hr3⟩ := Rd.of_R ho1 HLO.out hb1.size; subst e3; have HR3 := Aside0.mk hr3; have HB1 := Aside0.mk hb1; clear ho1 hb1 hr3)
      have hbw := below_alloc HB1.out (.cells #[.int .i64 rk, .slice A3 rb.length c3] 72)
      have hpre : pre ++ [((at_ : Int), rk, rb)] ++ scanL b k' (at_ + rn.toNat) = scanF b := by rw [H3.out, HU.out, List.append_assoc, List.singleton_append]
      obtain ⟨fn, tmps, asg, body, hy, hR⟩ := hY pre (at_, rk, rb) _ _ (hJ _ _ _ h4 hbw) ⟨⟨_, hpre⟩, A3, c3, rfl, hc3, HR3.out.below (below_alloc (Below.refl _ _) _)⟩
      have HPRE := Lib.hid hpre.symm
      clear hpre
      gi_wp2
      refine hR.mono ?_
      rintro e W3 (⟨rfl, hJ3, hk3⟩ | ⟨rfl, hJx3⟩)
      · gi_wp2
        go_roundw
        case rel => exact ⟨pre ++ [((at_ : Int), rk, rb)], at_ + rn.toNat, k', by rw [show ((at_ + rn.toNat : Nat) : Int) = at_ + rn by omega], by have := HQ1.out; omega, by have := HQ1.out; omega, HPRE.out, hJ3, (h5.trans (.of_below hbw (by omega))).trans hk3⟩
        case measure => have := HQ1.out; simp; omega
      · gi_wp2
        refine bodyPost_ret (results_none rfl _ _ _) rfl ?_
        exact ⟨⟨_, rfl⟩, .inr ⟨_, trivial, hJx3⟩⟩
    · rw [if_neg he] at hU
      have HU := Lib.hid hU
      have b1 : (re == 0) = false := by rw [beq_eq_false_iff_ne]; exact he
      have b2 : decide (re = 0) = false := decide_eq_false he
      clear hok hU
      gi_wp2_with (gi_at_call 67; refine (callsIn_wide.2 (HR.out _ HRD.out)).mono ?_; rintro e w1 ⟨v1, rfl, ho1, hb1⟩; obtain ⟨A3, c3, e3, hc3, hr3⟩ := Rd.of_R ho1 HLO.out hb1.size; subst e3; have HR3 := Aside0.mk hr3; have HB1 := Aside0.mk hb1; clear ho1 hb1 hr3)
      have hbw := below_alloc HB1.out (.cells #[.int .i64 rk, .slice A3 rb.length c3] 72)
      refine bodyPost_ret (results_none rfl _ _ _) rfl ?_
      exact ⟨⟨_, rfl⟩, .inl ⟨pre, by rw [H3.out, HU.out, List.append_nil], hJ _ _ _ h4 hbw⟩⟩

theorem Scan_callsT (A : Option Addr) (n c : Nat) (w : World) : Calls Try.prog 54 #[.slice A n c] w fun e w' =>
    e = .returned (.func (.func 66) #[] #[.pointer (some ⟨w.heap.size, 0, none⟩)]) ∧ w' = w.alloc (.cells #[.slice A n c] 32) := by
  go_enter Try.func54, Try.ntmps54
  go_wp2
  go_ret
  exact ⟨rfl, rfl⟩
end Go.Proofs.Ytcgefilboefnpaa.H
