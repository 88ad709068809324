/- The document's reading of a frame: ref06.Read. -/
import Derived.Test.YtagjnjdaookdgaaFrRef
import Derived.Test.YtagjnjdaookdgaaFrBack
import Derived.Test.YtagjnjdaookdgaaTy
namespace Go.Proofs.Ytagjnjdaookdgaa.H
open Go.RowKit Go.Proofs.YtagjnjdaookdgaaW.PrintWords Go.Proofs.YtagjnjdaookdgaaW.PrintLast Go.Proofs.YtagjnjdaookdgaaW.PrintMore Go.Proofs.Ytagjnjdaookdgaa.CrcM
set_option linter.unusedVariables false
set_option linter.unusedSimpArgs false

/-- What ref06.Read hands back of the frame at a place. -/
def RPost (a : Int) (r : Int × List Int × Int × Int) (w : World) (e : Ending) (w' : World) : Prop :=
  ∃ A1 c1, e = .returned (.tuple #[.agg #[.int .i64 (if r.2.2.2 = 0 then a else 0), .int .i64 r.1, .slice A1 r.2.1.length c1], .int .i64 r.2.2.1, .int .i64 r.2.2.2]) ∧ r.2.1.length ≤ c1 ∧ Kd.C (Kd.int .u8) w' A1 r.2.1.length r.2.1 ∧ Ty 5 w' A1 ∧ Below w.heap.size w w'
theorem info_rframe : (Try.prog.info? 37).map (·.size) = some 3 := by kernel_rfl
theorem C_nil8 (W : World) : Kd.C (Kd.int .u8) W none 0 [] := ⟨rfl, by decide, fun h => absurd h (by decide)⟩

theorem keep3' {W : World} {a : Addr} {v x y z : Value} {g : Nat} (h : a.block ≠ g) (hc : W.cell? a = some v) : (((W.setCell ⟨g, 0, none⟩ x).setCell ⟨g, 1, none⟩ y).setCell ⟨g, 2, none⟩ z).cell? a = some v := by
  rw [cell_far h, cell_far h, cell_far h]; exact hc
theorem keep3 {W : World} {a : Addr} {v x y z : Value} {g : Nat} (h : a.block ≠ g) (hc : W.cell? a = some v) : (((W.setCell ⟨g, 0, none⟩ x).setCell ⟨g, 1, none⟩ y).setCell ⟨g, 2, none⟩ z).drew.cell? a = some v := keep3' h hc
theorem C_set3 {W : World} {k : IntKind} {A : Option Addr} {n g : Nat} {xs : List Int} {cs : Array Value} {t : Nat} {q : Nat × Nat} (hg : W.heap[g]? = some (.cells cs t q)) (hcs : ∀ v ∈ cs.toList, ∀ i, v ≠ .int k i) (hc : Kd.C (Kd.int k) W A n xs) (x y z : Value) :
    Kd.C (Kd.int k) (((W.setCell ⟨g, 0, none⟩ x).setCell ⟨g, 1, none⟩ y).setCell ⟨g, 2, none⟩ z).drew A n xs :=
  C_but (fun i _ hne => (Below.heap_setCell ((W.setCell ⟨g, 0, none⟩ x).setCell ⟨g, 1, none⟩ y) ⟨g, 2, none⟩ z i hne).trans ((Below.heap_setCell (W.setCell ⟨g, 0, none⟩ x) ⟨g, 1, none⟩ y i hne).trans (Below.heap_setCell W ⟨g, 0, none⟩ x i hne))) hg hcs hc
theorem blk_new_drew (w : World) (o : Obj) (n : Nat) : ((w.alloc o).drewN n).heap[w.heap.size]? = some o := blk_new w o
set_option maxHeartbeats 1600000 in
theorem RRead_calls (A0 : Option Addr) (c0 : Nat) (l : List Int) (at_ : Nat) (w : World) (hr0 : Kd.C (Kd.int .u8) w A0 l.length l) (hc0 : l.length ≤ c0) (hB : Bts l) (hl : l.length ≤ 1000000) (hat : at_ ≤ l.length) :
    Calls Try.prog 15 #[.slice A0 l.length c0, .int .i64 at_] w (RPost at_ (readF (l.drop at_)) w) := by
  have HR0 := Aside0.mk hr0
  have hdl : (l.drop at_).length = l.length - at_ := List.length_drop
  clear hr0
  have t0 : (at_ : Int) ≤ 1000000 := by omega
  have t1 : 0 ≤ (at_ : Int) := by omega
  have t2 : (l.length : Int) ≤ 1000000 := by omega
  by_cases h2 : l.length - at_ < 2
  · have hs : readF (l.drop at_) = (0, [], 0, 21) := by unfold readF; rw [if_pos (by omega)]
    have HS := Lib.hid hs
    have b0 : decide ((l.length : Int) - (at_ : Int) < 2) = true := decide_eq_true (by omega)
    have t3 : 0 ≤ (l.length : Int) - (at_ : Int) := by omega
    clear hs hdl
    go_enter Try.func15, Try.ntmps15
    go_wp2
    refine bodyPost_ret (results_list (rs := [.cell 4 37, .tmp 5, .tmp 6]) rfl (by simp) (.cell w.heap.size _ _ _ _ rfl (blk_new w _) Try.underlying37 rfl info_rframe (.tmp (.tmp .nil)))) rfl ?_
    exact ⟨none, 0, by rw [HS.out]; rfl, by rw [HS.out]; exact Nat.le_refl _, by rw [HS.out]; exact C_nil8 _, Ty.nil _ _, below_alloc (Below.refl _ _) _⟩
  · have b0 : decide ((l.length : Int) - (at_ : Int) < 2) = false := decide_eq_false (by omega)
    have hlo : 2 ≤ (l.drop at_).length := by omega
    have q1 : at_ < l.length := by omega
    have q2 : at_ + 1 < l.length := by omega
    have q3 : (at_ : Int) < (l.length : Int) := by omega
    have q4 : (at_ : Int) + 1 < (l.length : Int) := by omega
    have q5 : (0 : Int) ≤ (at_ : Int) + 1 := by omega
    have q6 : ((at_ : Int) + 1).toNat = at_ + 1 := by omega
    have q7 : ¬ ((at_ : Int) + 1 < 0) := by omega
    have t3 : 0 ≤ (l.length : Int) - (at_ : Int) := by omega
    have hBd : Bts (l.drop at_) := bts_drop hB _
    have e0 : rd (l.drop at_) 0 = rd l (at_ : Int) := by unfold rd; simp [List.getD_eq_getElem?_getD]
    have e1 : rd (l.drop at_) 1 = rd l ((at_ : Int) + 1) := by unfold rd; rw [show ((at_ : Int) + 1).toNat = at_ + 1 by omega]; simp [List.getD_eq_getElem?_getD]
    obtain ⟨ad, ea, hx0⟩ := Kd.at_int (Kd.C_alloc HR0.out (.cells #[.int .i64 0, .int .i64 0, .slice none 0 0] 37)) (at_ : Int) (by omega) (by omega)
    obtain ⟨ad', ea', hx1⟩ := Kd.at_int (Kd.C_alloc HR0.out (.cells #[.int .i64 0, .int .i64 0, .slice none 0 0] 37)) ((at_ : Int) + 1) (by omega) (by omega)
    subst ea
    injection ea' with ea'
    subst ea'
    rw [Int.toNat_natCast] at hx0
    rw [show ((at_ : Int) + 1).toNat = at_ + 1 by omega, show ad.add (at_ + 1) = ⟨ad.block, ad.off + (at_ + 1), none⟩ by simp [Addr.add]] at hx1
    have r0 := bts_rd hBd 0 (by omega)
    have r1 := bts_rd hBd 1 (by omega)
    rw [show ((0 : Nat) : Int) = 0 from rfl] at r0
    rw [show ((1 : Nat) : Int) = 1 from rfl] at r1
    have hln := lenF_range hBd hlo
    have hle : lenF (l.drop at_) = rd (l.drop at_) 0 + 256 * rd (l.drop at_) 1 := rfl
    rw [← e0] at hx0
    rw [← e1] at hx1
    have hread : readF (l.drop at_) = if lenF (l.drop at_) > 4096 then (0, [], 0, 2) else if ((l.drop at_).length : Int) < lenF (l.drop at_) + 7 then (0, [], 0, 21) else if (openB ((l.drop at_).take (lenF (l.drop at_) + 7).toNat)).2 = false then (0, [], 0, 22)
        else if rd (openB ((l.drop at_).take (lenF (l.drop at_) + 7).toNat)).1 2 = 0 then (0, [], 0, 20) else (rd (openB ((l.drop at_).take (lenF (l.drop at_) + 7).toNat)).1 2, (openB ((l.drop at_).take (lenF (l.drop at_) + 7).toNat)).1.drop 3, lenF (l.drop at_) + 7, 0) := by
      unfold readF; rw [if_neg (by omega)]
    have hdI : ((l.drop at_).length : Int) = (l.length : Int) - (at_ : Int) := by omega
    rw [hdI] at hread
    have hdt : ∀ k : Nat, (l.drop at_).take k = (l.take (at_ + k)).drop at_ := fun k => by rw [List.drop_take]; simp
    generalize hnn : lenF (l.drop at_) = n at hln hread hle
    obtain ⟨hn0, hn1⟩ := hln
    generalize rd (l.drop at_) 0 = x0 at hx0 hle r0
    generalize rd (l.drop at_) 1 = x1 at hx1 hle r1
    obtain ⟨r00, r01⟩ := r0
    obtain ⟨r10, r11⟩ := r1
    have hw0 : IntKind.i64.wrap x0 = x0 := by rw [IntKind.wrap_i64]; omega
    have hw1 : IntKind.i64.wrap x1 = x1 := by rw [IntKind.wrap_i64]; omega
    have hw2 : IntKind.i64.wrap (256 * x1) = 256 * x1 := by rw [IntKind.wrap_i64]; omega
    have hw3 : IntKind.i64.wrap (x0 + 256 * x1) = n := by rw [IntKind.wrap_i64]; omega
    have hw4 : IntKind.i64.wrap ((at_ : Int) + 1) = (at_ : Int) + 1 := by rw [IntKind.wrap_i64]; omega
    have hle2 : x0 + 256 * x1 = n := hle.symm
    clear hnn h2 hle hdI e0 e1 hlo hBd
    have HDT := Aside0.mk hdt
    clear hdt
    by_cases hbig : n > 4096
    · rw [if_pos hbig] at hread
      have HS := Lib.hid hread
      have b2 : decide (4096 < n) = true := decide_eq_true hbig
      clear hread hdl
      go_enter Try.func15, Try.ntmps15
      go_wp2
      go_quiet (fail)
      go_wp2
      refine bodyPost_ret (results_list (rs := [.cell 4 37, .tmp 5, .tmp 6]) rfl (by simp) (.cell w.heap.size _ _ _ _ rfl (blk_put (blk_put (blk_put (blk_new_drew w _ _) 0 _ rfl) 1 _ rfl) 2 _ rfl) Try.underlying37 rfl info_rframe (.tmp (.tmp .nil)))) rfl ?_
      exact ⟨none, 0, by rw [HS.out]; rfl, by rw [HS.out]; exact Nat.le_refl _, by rw [HS.out]; exact C_nil8 _, Ty.nil _ _, below_set (below_set (below_set (pw_below_drewN (below_alloc (Below.refl _ _) _) _) (Nat.le_refl _)) (Nat.le_refl _)) (Nat.le_refl _)⟩
    · rw [if_neg hbig] at hread
      have b2 : decide (4096 < n) = false := decide_eq_false hbig
      have hn2 : n ≤ 4096 := by omega
      clear hbig
      by_cases hsh : (l.length : Int) - (at_ : Int) < n + 7
      · rw [if_pos hsh] at hread
        have HS := Lib.hid hread
        have b3 : decide ((l.length : Int) - (at_ : Int) < n + 7) = true := decide_eq_true hsh
        clear hread hdl
        go_enter Try.func15, Try.ntmps15
        go_wp2
        go_quiet (fail)
        go_wp2
        refine bodyPost_ret (results_list (rs := [.cell 4 37, .tmp 5, .tmp 6]) rfl (by simp) (.cell w.heap.size _ _ _ _ rfl (blk_put (blk_put (blk_put (blk_new_drew w _ _) 0 _ rfl) 1 _ rfl) 2 _ rfl) Try.underlying37 rfl info_rframe (.tmp (.tmp .nil)))) rfl ?_
        exact ⟨none, 0, by rw [HS.out]; rfl, by rw [HS.out]; exact Nat.le_refl _, by rw [HS.out]; exact C_nil8 _, Ty.nil _ _, below_set (below_set (below_set (pw_below_drewN (below_alloc (Below.refl _ _) _) _) (Nat.le_refl _)) (Nat.le_refl _)) (Nat.le_refl _)⟩
      · rw [if_neg hsh] at hread
        have b3 : decide ((l.length : Int) - (at_ : Int) < n + 7) = false := decide_eq_false hsh
        obtain ⟨i0, hi0, _, hsz, _⟩ := info_parts info_u8
        obtain ⟨A2, hcut, hreads, hlc⟩ := print_mid_of (P := Try.prog) (Value.int .u8) 0 22 5 .i64 .i64 Try.underlying22 hi0 hsz (some ad) c0 l (at_ : Int) ((at_ : Int) + n + 7) (by omega) (by omega) (by omega) hc0
        rw [Int.toNat_natCast, show ((at_ : Int) + n + 7).toNat = at_ + (n + 7).toNat by omega, ← HDT.out] at hcut hreads hlc
        have hrb := Kd.C_of_reads (h1 := fun _ => rfl) (hreads _ (Kd.reads_of_C (d := (0 : Int)) HR0.out))
        have hlx : ((l.drop at_).take (n + 7).toNat).length = (n + 7).toNat := by rw [List.length_take]; omega
        have hbb : Bts ((l.drop at_).take (n + 7).toNat) := bts_take (bts_drop hB _) _
        have hm5 : (at_ : Int) + n + 7 ≤ (l.length : Int) := by omega
        generalize (l.drop at_).take (n + 7).toNat = b at hcut hrb hlx hbb hread hlc
        clear hreads hdl
        have hop := fun (A : Option Addr) (c : Nat) w h (hc : b.length ≤ c) => ROpen_calls A c b w h hc hbb (by omega)
        have hol := openB_len (b := b)
        generalize hoo : openB b = o at hop hol hread
        obtain ⟨o1, o2⟩ := o
        have HRB := Aside0.mk hrb
        have HOP := Aside0.mk hop
        clear hrb hop hi0 hsz hsh
        cases o2 with
        | false =>
          rw [if_pos rfl] at hread
          have HS := Lib.hid hread
          clear hread hol hlx
          go_enter Try.func15, Try.ntmps15
          go_wp2
          go_quiet (fail)
          go_wp2_with (first
            | (go_at_call 26; refine (HOP.out _ _ _ (Kd.C_drewN (Kd.C_alloc HRB.out _) _) hlc).mono ?_; rintro e w1 ⟨v1, rfl, ho1, hb1⟩; have hblk := (hb1.block w.heap.size (by simp)).trans (blk_new w (.cells #[.int .i64 0, .int .i64 0, .slice none 0 0] 37)); have hcl0 := blk_cell hblk 0; have hcl1 := blk_cell hblk 1; have hcl2 := blk_cell hblk 2; simp at hcl0 hcl1 hcl2; have hfz0 := blk_frozen hblk 0; have hfz1 := blk_frozen hblk 1; have hfz2 := blk_frozen hblk 2; have HB1 := Aside0.mk (below_step (pw_below_drewN (below_alloc (Below.refl _ _) _) _) hb1); have HK := Aside0.mk hblk; clear ho1 hb1 hblk))
          refine bodyPost_ret (results_list (rs := [.cell 4 37, .tmp 5, .tmp 6]) rfl (by simp) (.cell w.heap.size _ _ _ _ rfl (blk_put (blk_put (blk_put HK.out 0 _ rfl) 1 _ rfl) 2 _ rfl) Try.underlying37 rfl info_rframe (.tmp (.tmp .nil)))) rfl ?_
          exact ⟨none, 0, by rw [HS.out]; rfl, by rw [HS.out]; exact Nat.le_refl _, by rw [HS.out]; exact C_nil8 _, Ty.nil _ _, below_set (below_set (below_set HB1.out (Nat.le_refl _)) (Nat.le_refl _)) (Nat.le_refl _)⟩
        | true =>
          rw [if_neg (by intro h; cases h)] at hread
          obtain ⟨ho1, hb4⟩ := hol rfl
          have hl1 : o1.length = (n + 3).toNat := by
            have : o1.length = (b.take (b.length - 4)).length := by rw [← ho1]
            rw [this, List.length_take]; omega
          have hl3 : 3 ≤ o1.length := by omega
          have hl4 : o1.length ≤ 5000 := by omega
          have hbo : Bts o1 := by
            have : o1 = b.take (b.length - 4) := ho1
            rw [this]; exact bts_take hbb _
          clear ho1 hol hlx hl1 hb4
          generalize hx2 : rd o1 2 = x2 at hread
          have q5' : 2 < o1.length := by omega
          have q6' : (2 : Int) < (o1.length : Int) := by omega
          by_cases hz : x2 = 0
          · rw [if_pos hz] at hread
            have HS := Lib.hid hread
            have b4 : (x2 == 0) = true := by rw [hz]; rfl
            have HX := Lib.hid hx2
            clear hread hx2 hz
            go_enter Try.func15, Try.ntmps15
            go_wp2
            go_quiet (fail)
            go_wp2_with (first
              | (go_at_call 26; refine (HOP.out _ _ _ (Kd.C_drewN (Kd.C_alloc HRB.out _) _) hlc).mono ?_; rintro e w1 ⟨v1, rfl, ho1, hb1⟩; have hblk := (hb1.block w.heap.size (by simp)).trans (blk_new w (.cells #[.int .i64 0, .int .i64 0, .slice none 0 0] 37)); have hcl0 := blk_cell hblk 0; have hcl1 := blk_cell hblk 1; have hcl2 := blk_cell hblk 2; simp at hcl0 hcl1 hcl2; have hfz0 := blk_frozen hblk 0; have hfz1 := blk_frozen hblk 1; have hfz2 := blk_frozen hblk 2; have HB1 := Aside0.mk (below_step (pw_below_drewN (below_alloc (Below.refl _ _) _) _) hb1); have HK := Aside0.mk hblk; obtain ⟨A1, c1, e1, hc1, hr1⟩ := R_C ho1; subst e1; obtain ⟨ad1, ea1, hx1c⟩ := Kd.at_int hr1 2 (by omega) (by omega); subst ea1; have hx1d := hx1c; rw [HX.out, show (2 : Int).toNat = 2 from rfl, show ad1.add 2 = ⟨ad1.block, ad1.off + 2, none⟩ by simp [Addr.add]] at hx1d; have HR1 := Aside0.mk hr1; clear hx1c ho1 hb1 hblk hr1))
            refine bodyPost_ret (results_list (rs := [.cell 4 37, .tmp 5, .tmp 6]) rfl (by simp) (.cell w.heap.size _ _ _ _ rfl (blk_put (blk_put (blk_put HK.out 0 _ rfl) 1 _ rfl) 2 _ rfl) Try.underlying37 rfl info_rframe (.tmp (.tmp .nil)))) rfl ?_
            exact ⟨none, 0, by rw [HS.out]; rfl, by rw [HS.out]; exact Nat.le_refl _, by rw [HS.out]; exact C_nil8 _, Ty.nil _ _, below_set (below_set (below_set HB1.out (Nat.le_refl _)) (Nat.le_refl _)) (Nat.le_refl _)⟩
          · rw [if_neg hz] at hread
            have HS := Lib.hid hread
            have b4 : (x2 == 0) = false := by rw [beq_eq_false_iff_ne]; exact hz
            obtain ⟨hx20, hx21⟩ : 0 ≤ x2 ∧ x2 < 256 := by rw [← hx2]; exact bts_rd hbo 2 q5'
            have HX := Lib.hid hx2
            obtain ⟨i0, hi0, _, hsz, _⟩ := info_parts info_u8
            have hcd := fun (A1 : Option Addr) (c1 : Nat) (hc1 : o1.length ≤ c1) => (print_drop_of (P := Try.prog) (Value.int .u8) 0 22 5 .i64 Try.underlying22 hi0 hsz A1 c1 o1 3 (by omega) (by omega) hc1)
            have HCD := Aside0.mk hcd
            clear hread hx2 hz hi0 hsz hcd
            go_enter Try.func15, Try.ntmps15
            go_wp2
            go_quiet (fail)
            go_wp2_with (first
              | (go_at_call 26; refine (HOP.out _ _ _ (Kd.C_drewN (Kd.C_alloc HRB.out _) _) hlc).mono ?_; rintro e w1 ⟨v1, rfl, ho1, hb1⟩; have hblk := (hb1.block w.heap.size (by simp)).trans (blk_new w (.cells #[.int .i64 0, .int .i64 0, .slice none 0 0] 37)); have hcl0 := blk_cell hblk 0; have hcl1 := blk_cell hblk 1; have hcl2 := blk_cell hblk 2; simp at hcl0 hcl1 hcl2; have hfz0 := blk_frozen hblk 0; have hfz1 := blk_frozen hblk 1; have hfz2 := blk_frozen hblk 2; have HB1 := Aside0.mk (below_step (pw_below_drewN (below_alloc (Below.refl _ _) _) _) hb1); have HK := Aside0.mk hblk; obtain ⟨A1, c1, e1, hc1, hr1⟩ := R_C ho1; subst e1; obtain ⟨ad1, ea1, hx1c⟩ := Kd.at_int hr1 2 (by omega) (by omega); subst ea1; have hx1d := hx1c; rw [HX.out, show (2 : Int).toNat = 2 from rfl, show ad1.add 2 = ⟨ad1.block, ad1.off + 2, none⟩ by simp [Addr.add]] at hx1d; have HR1 := Aside0.mk hr1; have HTY := Aside0.mk (Ty.of_R ho1); have HNE := Aside0.mk (Kd.own_blk (Kd.R_ne ho1 hblk (by decide))); clear hx1c ho1 hb1 hblk hr1))
            obtain ⟨A2', hcutd, hreadd, hld⟩ := HCD.out (some ad1) c1 hc1
            rw [show (3 : Int).toNat = 3 from rfl] at hcutd hreadd hld
            have hrd := Kd.C_of_reads (h1 := fun _ => rfl) (hreadd _ (Kd.reads_of_C (d := (0 : Int)) HR1.out))
            have hdl' : (o1.drop 3).length ≤ 5000 := by rw [List.length_drop]; omega
            generalize hbd : o1.drop 3 = bd at hcutd hrd hld hdl'
            have HRD := Aside0.mk hrd
            have HBD := Lib.hid hbd
            clear hreadd hrd hbd
            have hnb := blk_lt HK.out
            have hw7 : IntKind.i64.wrap x2 = x2 := by rw [IntKind.wrap_i64]; omega
            have hw8 : IntKind.i64.wrap (n + 7) = n + 7 := by rw [IntKind.wrap_i64]; omega
            have hfz0 := blk_frozen HK.out 0
            have hfz1 := blk_frozen HK.out 1
            have hfz2 := blk_frozen HK.out 2
            have hcl0 := blk_cell HK.out 0
            have hcl1 := blk_cell HK.out 1
            have hcl2 := blk_cell HK.out 2
            simp at hcl0 hcl1 hcl2
            go_region_held3 (fun w' => w'.cell? ⟨ad1.block, ad1.off + 2, none⟩ = some (.int .u8 x2))
              (first | exact keep3 HNE.out (by assumption) | exact keep3' HNE.out (by assumption) | go_keep)
              (first | fail)
            go_wp2
            refine bodyPost_ret (results_list (rs := [.cell 4 37, .tmp 5, .tmp 6]) rfl (by simp) (.cell w.heap.size _ _ _ _ rfl (blk_put (blk_put (blk_put HK.out 0 _ rfl) 1 _ rfl) 2 _ rfl) Try.underlying37 rfl info_rframe (.tmp (.tmp .nil)))) rfl ?_
            refine ⟨A2', c1 - 3, by rw [HS.out, HBD.out]; rfl, by rw [HS.out, HBD.out]; exact hld, ?_, Ty.set3 (Ty.slice Try.underlying22 HTY.out (hcutd w1)) HK.out (by decide) _ _ _, below_drew (below_set (below_set (below_set HB1.out (Nat.le_refl _)) (Nat.le_refl _)) (Nat.le_refl _))⟩
            rw [HS.out, HBD.out]
            exact C_set3 HK.out (by intro v hv i; simp at hv; rcases hv with rfl | rfl | rfl <;> (intro h; cases h)) HRD.out _ _ _
end Go.Proofs.Ytagjnjdaookdgaa.H
