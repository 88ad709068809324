/- Some texts of one seat in one file, in build order. -/
import Derived.Test.YtcgefilboefnpaaG17
/- JournalFull. -/
namespace Go.Proofs.Ytcgefilboefnpaa.MJournalFull
open Go.RowKit Go.Proofs.YtcgefilboefnpaaW.PrintWords Go.Proofs.YtcgefilboefnpaaW.PrintLast Go.Proofs.YtcgefilboefnpaaW.PrintMore Go.Proofs.Ytcgefilboefnpaa.H Go.Proofs.Ytcgefilboefnpaa.CrcM
set_option linter.unusedVariables false
set_option linter.unusedSimpArgs false

theorem opens : Opens Try.prog 22 (Kd.slice 34 (Kd.pair (Kd.int .i64) (Kd.slice 5 (Kd.int .u8)))) (fun l => ∀ x ∈ l, (Lit.int .i64 x.1).wf = true ∧ ∀ y ∈ x.2, (Lit.int .u8 y).wf = true) := opens_ops7
set_option maxHeartbeats 6400000 in
set_option maxRecDepth 100000 in
theorem main (cap : Int) (wf : (Lit.int .i64 cap).wf = true)
    (A : Option Addr) (c : Nat) (os : List (Int × List Int)) (hc : os.length ≤ c) {W0 : World} (m : Kd.C (Kd.pair (Kd.int .i64) (Kd.slice 5 (Kd.int .u8))) W0 A os.length os) (g : ∀ x ∈ os, (Lit.int .i64 x.1).wf = true ∧ ∀ y ∈ x.2, (Lit.int .u8 y).wf = true) (W : World) (hW : W0 = W := by rfl) :
    Calls Try.prog 3 #[.int .i64 cap, .slice A os.length c] W fun e W' => e = .returned (.bool true) ∧ Below W.heap.size W W' := by
  subst hW
  letI : Pl := ⟨fun _ => True, 0, fun _ _ => trivial⟩
  have M := Aside0.mk m
  clear m g wf
  by_cases hs : os.length ≤ 30 ∧ tot7 os ≤ 20000
  · obtain ⟨hl40, ht⟩ := hs
    obtain ⟨cc, hcc⟩ : ∃ z, capC cap = z := ⟨_, rfl⟩
    have hc0 : 0 ≤ cc ∧ cc ≤ 1048576 := by rw [← hcc]; exact capC_le7 cap
    have HT := Lib.hid ht
    have HC := Aside0.mk (And.intro hcc hc0)
    clear ht hcc hc0
    have hfit0 : (dE7 cc).fit 90000 90000000000 := by
      have := HC.out.2
      constructor <;> simp [dE7] <;> omega
    have HF := Aside0.mk hfit0
    clear hfit0
    go_enter Try.func3, Try.ntmps3
    go_wp2_with (first
      | (go_at_call 7; refine (alive7_calls _ (Nat.zero_le _)).mono ?_; rintro e w1 ⟨rfl, hb1⟩; have S1 := Aside0.mk hb1; clear hb1)
      | (go_at_call 8; refine (small7_eq A c os true _ (decide_eq_true ⟨hl40, HT.out⟩) (Kd.C_below M.out S1.out) hc).mono ?_; rintro e w2 ⟨rfl, hb2⟩; have S2 := Aside0.mk (below_step S1.out hb2); clear S1 hb2)
      | (go_at_call 9; refine (New_calls _ _ (Nat.zero_le _)).mono ?_; rintro e w3 ⟨rfl, hd3, hb3⟩; rw [HC.out.1] at hd3; have hlt3 := hd3.lt; have hge3 : W0.heap.size ≤ w2.heap.size := below_size S2.out; have S3 := Aside0.mk (And.intro (below_step S2.out hb3) hd3); clear S2 hd3 hb3))
    generalize w2.heap.size = gd at *
    go_wp2_with (fail)
    by_cases h16 : cc < 16
    · refine (JOpen_calls gd (dE7 cc) _ _ (open_new_no cc HC.out.2.1 h16) S3.out.2 HF.out (fun _ h => by simp [dE7] at h) (fun _ h => by simp [dE7] at h)).mono ?_
      rintro e w4 ⟨hd4, hb4, ⟨h4, _⟩ | ⟨_, rfl⟩⟩
      · exact absurd h4 (by show ¬ ((6 : Int) = 0); decide)
      have hB4 : Below W0.heap.size W0 w4 := hb4.below S3.out.1 S3.out.1.size (fun k hk => by rw [hk]; exact hge3)
      have S4 := Aside0.mk (And.intro hd4 hB4)
      have b0 : decide (cc < 16) = true := decide_eq_true h16
      clear hd4 hb4 hB4 h16
      go_wp2_with (first
        | (go_at_call 11; refine (Capacity_eq gd (dE7 cc) cc _ rfl S4.out.1).mono ?_; rintro e w' ⟨rfl, rfl⟩))
      go_ret
      exact ⟨rfl, S4.out.2⟩
    refine (JOpen_calls gd (dE7 cc) _ _ (open_new_yes cc (by omega)) S3.out.2 HF.out (fun _ h => by simp [dE7] at h) (fun _ h => by simp [dE7] at h)).mono ?_
    intro e w4 ho
    obtain ⟨hd4, hb4, gj, Ar0, cr0, rfl, hj4⟩ := ho.ok
    have hB4 : Below W0.heap.size W0 w4 := hb4.below S3.out.1 S3.out.1.size (fun k hk => by rw [hk]; exact hge3)
    obtain ⟨B, hB⟩ : ∃ B, w3.heap.size = B := ⟨_, rfl⟩
    have hWB : W0.heap.size ≤ B := by rw [← hB]; exact S3.out.1.size
    rw [hB] at hj4
    have S4 := Aside0.mk (And.intro hd4 (And.intro hB4 hj4))
    clear hd4 hb4 hB4 hj4 ho hB
    go_wp2_with (fail)
    go_loopw [37] (fun i wr => ∃ (k : Nat) (a : List Int) (recs : List (List Int)) (Ar : Option Addr) (cr : Nat), i = .int .i64 (k : Int) ∧ k ≤ os.length ∧ Aside0 (a.length ≤ 16 + tot7 (os.take k) + 7 * k ∧ recs.length ≤ k ∧ ∀ x ∈ recs, x.length ≤ 20000) ∧ Aside0 (DevAt wr gd ⟨a, [], cc, -1, false, a.length⟩ ∧ JAt wr B gj gd Ar cr ⟨0, 1, [], recs, a.length⟩ ∧ Below W0.heap.size W0 wr)) (fun i _ => os.length - (intOf i).toNat)
    case atStart => exact ⟨0, a16, [], Ar0, cr0, rfl, Nat.zero_le _, ⟨by simp [a16], by simp, fun x hx => by simp at hx⟩, ⟨S4.out.1, S4.out.2.2, S4.out.2.1⟩⟩
    case round =>
      obtain ⟨k, a, recs, Ar, cr, rfl, hk, HD, HW⟩ := hrel
      by_cases hlt : k < os.length
      · obtain ⟨o, ho⟩ : ∃ o, os[k]? = some o := ⟨_, List.getElem?_eq_getElem hlt⟩
        obtain ⟨q, l⟩ := o
        obtain ⟨ad, A3, c3, eA, e0, e3, hc3, hC3⟩ := op7_at M.out hlt ho
        subst eA
        replace e0 := (HW.out.2.2.cell (World.block_lt_of_cell? W0 _ e0)).trans e0
        replace e3 := (HW.out.2.2.cell (World.block_lt_of_cell? W0 _ e3)).trans e3
        have hllt : (k : Int) < (os.length : Int) := by omega
        have htt := tot7_take ho
        simp only at htt
        have hl5 : l.length ≤ 20000 := by
          have h1 := tot7_le os (k + 1)
          have h2 := HT.out
          omega
        obtain ⟨d, hd⟩ : ∃ d, (⟨a, [], cc, -1, false, a.length⟩ : Dv) = d := ⟨_, rfl⟩
        obtain ⟨j, hj⟩ : ∃ j, (⟨0, 1, [], recs, a.length⟩ : Jn) = j := ⟨_, rfl⟩
        have ha : a.length ≤ 100000 := by
          have h1 := tot7_le os k
          have h2 := HT.out
          have h3 := HD.out.1
          omega
        have HX := Aside0.mk (And.intro hd (And.intro hj (And.intro htt (And.intro hC3 ha))))
        obtain ⟨T, hT⟩ : ∃ T, (a.length : Int) = T := ⟨_, rfl⟩
        obtain ⟨rm, hrm⟩ : ∃ z, cc - (a.length : Int) = z := ⟨_, rfl⟩
        have HV := Aside0.mk (And.intro hT hrm)
        have hW1 := HW.out
        rw [hd, hj] at hW1
        have hq8 : Below wr.heap.size wr (wr.alloc (.cells (op7Cells q A3 l.length c3) 34)) := below_alloc (Below.refl _ _) _
        have hx8 : (wr.alloc (.cells (op7Cells q A3 l.length c3) 34)).heap[wr.heap.size]? = some (.cells (op7Cells q A3 l.length c3) 34 (0, 0)) := blk_new wr _
        have H8 := Aside0.mk (And.intro hx8 (And.intro (hW1.1.below hq8) (And.intro (hW1.2.1.below hq8) (below_step hW1.2.2 hq8))))
        have hs8 : W0.heap.size ≤ wr.heap.size := HW.out.2.2.size
        clear ho hC3 hd hj htt hq8 hx8 ha hT hrm hW1
        go_wp2_with (fail)
        generalize hG8 : wr.alloc (.cells (op7Cells q A3 l.length c3) 34) = w8 at *
        have hs88 : w8.heap.size = wr.heap.size + 1 := by rw [← hG8, World.size_alloc]
        generalize wr.heap.size = go at *
        have H88 := Lib.hid hs88
        clear hG8 hs88
        refine (Room_eq gj gd B Ar cr j d rm _ H8.out.2.2.1 H8.out.2.1 (by rw [← HX.out.1, ← HX.out.2.1]; exact HV.out.2) (by rw [← HX.out.1]; exact HC.out.2.1) (by rw [← HX.out.1]; exact HC.out.2.2) (by rw [← HX.out.2.1]; exact Int.natCast_nonneg _) (by rw [← HX.out.2.1]; have := HX.out.2.2.2.2; simp only; omega)).mono ?_
        rintro e w9 ⟨rfl, hb9⟩
        have H9 := Aside0.mk (And.intro (blk_belowX H8.out.1 hb9) (And.intro (H8.out.2.1.below hb9) (And.intro (H8.out.2.2.1.below hb9) (below_step H8.out.2.2.2 hb9))))
        clear hb9
        go_wp2_with (go_at_call 13; refine (Turned_eq gd d T _ (by rw [← HX.out.1]; exact HV.out.1) H9.out.2.1).mono ?_; rintro e w' ⟨rfl, rfl⟩)
        refine (has_calls gj gd B Ar cr j [] recs _ H9.out.2.2.1 (by rw [← HX.out.2.1]) (by rw [← HX.out.2.1]) (by simp) (by have := HD.out.2.1; omega) (fun x hx => by have := HD.out.2.2 x hx; omega)).mono ?_
        rintro e w10 ⟨As, cs, A1, c1, rfl, hh10, hb10⟩
        have hJP10 : ∀ k, JP gj gd Ar k → k < w9.heap.size := H9.out.2.2.1.JP_lt H9.out.2.1.lt
        have hgo9 : go < w9.heap.size := lt_of_some H9.out.1
        have H10 := Aside0.mk (And.intro (blk_belowX H9.out.1 hb10) (And.intro (H9.out.2.1.below hb10) (And.intro (H9.out.2.2.1.below hb10) (And.intro (below_step H9.out.2.2.2 hb10) (And.intro hh10 (And.intro hJP10 (And.intro hb10.size H9.out.2.2.2.size)))))))
        obtain ⟨rn, hrn⟩ : ∃ n, recs.length = n := ⟨_, rfl⟩
        have HRN := Lib.hid hrn
        rw [hrn]
        clear hh10 hb10 hJP10 hrn
        generalize w9.heap.size = B1 at *
        obtain ⟨m0, m1⟩ := op7_cells H10.out.1
        have hgo10 : go < w10.heap.size := lt_of_some H10.out.1
        go_wp2_with (fail)
        have hx11 : (w10.alloc (.cells (xjCells As 0 cs A1 rn c1) 38)).heap[w10.heap.size]? = some (.cells (xjCells As 0 cs A1 rn c1) 38 (0, 0)) := blk_new w10 _
        have hb11 : Below w10.heap.size w10 (w10.alloc (.cells (xjCells As 0 cs A1 rn c1) 38)) := below_alloc (Below.refl _ _) _
        have H11 := Aside0.mk (And.intro hx11 (And.intro hb11 (And.intro (below_step H10.out.2.2.2.1 hb11) (blk_belowX H10.out.1 hb11))))
        have hgt : B1 ≤ w10.heap.size := H10.out.2.2.2.2.2.2.1
        clear m0 m1 hx11 hb11
        generalize w10.alloc (.cells (xjCells As 0 cs A1 rn c1) 38) = w11 at *
        obtain ⟨gt, hgte⟩ : ∃ z, w10.heap.size = z := ⟨_, rfl⟩
        have HGT := Lib.hid hgte
        rw [hgte] at hgt
        rw [hgte]
        clear hgte
        refine (Copy_own A3 c3 l l.length _ rfl (Kd.C_below HX.out.2.2.2.1 H11.out.2.2.1) (by omega)).mono ?_
        rintro e w12 ⟨Am, cm, rfl, hcm, ho12, hb12⟩
        have hap : ∀ ad ad', Ar = some ad → A1 = some ad' → ad.block ≠ ad'.block := fun ad ad' e1 e2 => by
          have h1 := (H10.out.2.2.2.2.1.blk ad' e2).1
          have h2 := H10.out.2.2.2.2.2.1 ad.block (.inr (.inr ⟨ad, e1, rfl⟩))
          omega
        obtain ⟨p', hp'⟩ : ∃ p' : Pl, p' = ⟨fun k => (∀ ad, Am = some ad → k ≠ ad.block), w12.heap.size, fun k hk => fun ad e he => by
            obtain ⟨_, cs, hcs⟩ := Ro.block ⟨l, rfl, ho12⟩ e
            have := lt_of_some hcs
            omega⟩ := ⟨_, rfl⟩
        have hPk : ∀ k, k < w11.heap.size → p'.P k := fun k hk => by
          rw [hp']
          intro ad e he
          have h1 := (Ro.block ⟨l, rfl, ho12⟩ e).1
          omega
        have hBl : Below w10.heap.size w10 w12 := below_step H11.out.2.1 hb12
        have hs11 : w10.heap.size ≤ w11.heap.size := H11.out.2.1.size
        have FB12 : @FB p' W0 B gd gj go gt B1 Ar cr As cs A1 c1 (op7Cells q A3 l.length c3) [] recs Am l.length cm w11.heap.size d j w12 :=
          { below := below_step H10.out.2.2.2.1 hBl, dd := H10.out.2.1.conv hBl (by rw [hp']; exact Nat.le_refl _) (fun k hk => hPk k (Nat.lt_of_lt_of_le hk hs11)), jj := H10.out.2.2.1.conv hBl (by rw [hp']; exact Nat.le_refl _) (fun k hk => hPk k (Nat.lt_of_lt_of_le hk hs11)), ob := blk_belowX H11.out.2.2.2 hb12, tb := by rw [HRN.out, ← HGT.out]; exact blk_belowX H11.out.1 hb12, hh := H10.out.2.2.2.2.1.conv hBl (by rw [hp']; exact Nat.le_refl _) (fun k hk => hPk k (Nat.lt_of_lt_of_le hk hs11)), rm := ⟨l, rfl, ho12⟩, h0 := hWB, h1 := H11.out.2.2.1.size, hd := hge3, h2 := H10.out.2.2.2.2.2.2.2, h3 := by have := H10.out.2.2.2.2.2.2.2; omega, ap := hap, pm := fun ad e h => by rw [hp'] at h; exact h ad e rfl }
        have J12 := Aside0.mk (And.intro FB12 ho12)
        have HJP := Aside0.mk H10.out.2.2.2.2.2.1
        clear FB12 ho12 hb12 hBl hPk hp' H8 H9 H10 H11 HW hap
        obtain ⟨⟨d', j', e'⟩, hx⟩ : ∃ x, appendJ d j l = x := ⟨_, rfl⟩
        have HA := Lib.hid hx
        obtain ⟨wt, hwt⟩ : ∃ z, weightF (l.length : Int) = z := ⟨_, rfl⟩
        have HWT := Lib.hid hwt
        clear hwt
        go_wp2_with (fail)
        refine (JAppend_calls gj gd B Ar cr j d Am cm l _ _ hx J12.out.1.jj J12.out.1.dd (Nat.le_of_lt J12.out.1.jj.lt7) (J12.out.1.abides J12.out.2) hcm (by omega) (by rw [← HX.out.1]; have h1 := HX.out.2.2.2.2; have h2 := HC.out.2; constructor <;> simp <;> omega) (by rw [← HX.out.2.1]; have := HD.out.2.1; simp only; omega) (by rw [← HX.out.2.1]; exact Int.natCast_nonneg _) (by rw [← HX.out.2.1]; have := HX.out.2.2.2.2; simp only; omega)).mono ?_
        rintro e w13 hp
        obtain ⟨Ar', cr', F13⟩ := J12.out.1.app HJP.out hp
        have he := hp.1
        simp only at he
        subst he
        have J13 := Aside0.mk F13
        clear F13 hx hp
        go_wp2_with (fail)
        go_loopw [55] (fun i w => ∃ n : Nat, n ≤ l.length ∧ i = .int .i64 (n : Int) ∧ Aside0 (FB W0 B gd gj go gt B1 Ar' cr' As cs A1 c1 (op7Cells q A3 l.length c3) [] recs Am l.length cm w11.heap.size d' j' w)) (fun i _ => l.length - (intOf i).toNat)
        case atStart => exact ⟨0, Nat.zero_le _, rfl, J13⟩
        case round =>
          obtain ⟨n, hn, rfl, HJ⟩ := hrel
          clear J13 J12
          by_cases hjl : n < l.length
          · obtain ⟨gm, x, eA, hgb, hnc, hcell, hfr⟩ := HJ.out.rm.at hjl
            subst eA
            have hjj : (n : Int) < (l.length : Int) := by omega
            go_wp2
            go_roundw
            case rel => exact ⟨n + 1, by omega, by go_num, ⟨HJ.out.row n _⟩⟩
            case measure => simp [intOf]; omega
          · obtain rfl : n = l.length := by omega
            obtain ⟨m0, m1⟩ := op7_cells HJ.out.ob
            rcases full_cases HX.out.1 HX.out.2.1 HA.out with ⟨h4, rfl, rfl, rfl⟩ | ⟨h4, h5, rfl, rfl, rfl⟩ | ⟨h4, h5, rfl, a', ha', hd', hj'⟩
            · have b0 : decide (4096 < (l.length : Int)) = true := decide_eq_true (by omega)
              clear h4
              have HT := Aside0.mk HJ.out.drew
              clear hn
              go_wp2_with (first
                | (go_at_call 17; refine (JWeight_eq (l.length : Int) wt _ (by omega) HWT.out).mono ?_; rintro e w' ⟨rfl, rfl⟩)
                | (go_at_call 18; refine (RWeight_eq (l.length : Int) wt _ (by omega) HWT.out).mono ?_; rintro e w' ⟨rfl, rfl⟩))
              obtain ⟨z0, z1, z2, z3, z4, z5, z6, z7⟩ := xj_at (HJ.out.tbn HRN.out)
              go_region_held3 (fun w' => w'.cell? ⟨gt, 0, none⟩ = some (.slice none 0 0) ∧ w'.cell? ⟨gt, 1, none⟩ = some (.slice none 0 0) ∧ w'.cell? ⟨gt, 2, none⟩ = some (.int .i64 0) ∧ w'.cell? ⟨gt, 3, none⟩ = some (.int .i64 0) ∧ w'.cell? ⟨gt, 4, none⟩ = some (.int .u64 0) ∧ w'.cell? ⟨gt, 5, none⟩ = some (.slice As 0 cs) ∧ w'.cell? ⟨gt, 6, none⟩ = some (.slice A1 rn c1) ∧ w'.cell? ⟨gt, 7, none⟩ = some (.int .i64 0)) (first | (with_reducible exact KK.out) | go_keep)
                (first
                  | (go_at_call 13; refine (Turned_eq gd d T _ (by rw [← HX.out.1]; exact HV.out.1) HT.out.dd).mono ?_; rintro e w' ⟨rfl, rfl⟩)
                  | (go_at_call 14; have _t := HT; refine (has7_eq gj gd B Ar' cr' j recs rn _ HT.out.jj (by rw [← HX.out.2.1]) (by rw [← HX.out.2.1]) HRN.out (by have := HD.out.2.1; have := HRN.out; omega) (fun x hx => by have := HD.out.2.2 x hx; omega)).mono ?_; rintro e w16 ⟨As2, cs2, A2, c2, rfl, hh16, hb16⟩; have J16 := Aside0.mk (And.intro (HT.out.step hb16) hh16); have KK := Aside0.mk (xj_at (J16.out.1.tbn HRN.out)); clear hb16 hh16 HT _t)
                  | (go_at_call 19; have _t := J16; refine (Same7_xj As2 cs2 A2 rn c2 As cs A1 c1 recs _ ?q1 ?q2 ?q3 ?q4).mono ?_; (case q1 => exact J16.out.2.C.1); (case q2 => exact J16.out.1.hh.C.1); (case q3 => have h := J16.out.2.C.2; rw [HRN.out] at h; exact h); (case q4 => have h := J16.out.1.hh.C.2; rw [HRN.out] at h; exact h); rintro e w17 ⟨rfl, hb17⟩; have J17 := Aside0.mk (J16.out.1.step hb17); have KK := Aside0.mk (xj_at (J17.out.tbn HRN.out)); clear hb17 J16 _t))
              all_goals
                go_wp2
                go_roundw
                case rel => exact ⟨k + 1, a, recs, Ar', cr', by go_num, by omega, ⟨by rw [HX.out.2.2.1]; have := HD.out.1; omega, by have := HD.out.2.1; omega, HD.out.2.2⟩, ⟨by rw [HX.out.1]; exact J17.out.dd.conv (Below.refl _ _) (Nat.zero_le _) (fun _ _ => trivial), by rw [HX.out.2.1]; exact J17.out.jj.conv (Below.refl _ _) (Nat.zero_le _) (fun _ _ => trivial), J17.out.below⟩⟩
                case measure => simp [intOf]; omega
            · have b0 : decide (4096 < (l.length : Int)) = false := decide_eq_false (by omega)
              have b1 : decide (rm < wt) = true := decide_eq_true (by rw [← HV.out.2, ← HWT.out, weight7]; omega)
              clear h4 h5
              have HT := Aside0.mk HJ.out.drew
              clear hn
              go_wp2_with (first
                | (go_at_call 17; refine (JWeight_eq (l.length : Int) wt _ (by omega) HWT.out).mono ?_; rintro e w' ⟨rfl, rfl⟩)
                | (go_at_call 18; refine (RWeight_eq (l.length : Int) wt _ (by omega) HWT.out).mono ?_; rintro e w' ⟨rfl, rfl⟩))
              obtain ⟨z0, z1, z2, z3, z4, z5, z6, z7⟩ := xj_at (HJ.out.tbn HRN.out)
              go_region_held3 (fun w' => w'.cell? ⟨gt, 0, none⟩ = some (.slice none 0 0) ∧ w'.cell? ⟨gt, 1, none⟩ = some (.slice none 0 0) ∧ w'.cell? ⟨gt, 2, none⟩ = some (.int .i64 0) ∧ w'.cell? ⟨gt, 3, none⟩ = some (.int .i64 0) ∧ w'.cell? ⟨gt, 4, none⟩ = some (.int .u64 0) ∧ w'.cell? ⟨gt, 5, none⟩ = some (.slice As 0 cs) ∧ w'.cell? ⟨gt, 6, none⟩ = some (.slice A1 rn c1) ∧ w'.cell? ⟨gt, 7, none⟩ = some (.int .i64 0)) (first | (with_reducible exact KK.out) | go_keep)
                (first
                  | (go_at_call 13; refine (Turned_eq gd d T _ (by rw [← HX.out.1]; exact HV.out.1) HT.out.dd).mono ?_; rintro e w' ⟨rfl, rfl⟩)
                  | (go_at_call 14; have _t := HT; refine (has7_eq gj gd B Ar' cr' j recs rn _ HT.out.jj (by rw [← HX.out.2.1]) (by rw [← HX.out.2.1]) HRN.out (by have := HD.out.2.1; have := HRN.out; omega) (fun x hx => by have := HD.out.2.2 x hx; omega)).mono ?_; rintro e w16 ⟨As2, cs2, A2, c2, rfl, hh16, hb16⟩; have J16 := Aside0.mk (And.intro (HT.out.step hb16) hh16); have KK := Aside0.mk (xj_at (J16.out.1.tbn HRN.out)); clear hb16 hh16 HT _t)
                  | (go_at_call 19; have _t := J16; refine (Same7_xj As2 cs2 A2 rn c2 As cs A1 c1 recs _ ?q1 ?q2 ?q3 ?q4).mono ?_; (case q1 => exact J16.out.2.C.1); (case q2 => exact J16.out.1.hh.C.1); (case q3 => have h := J16.out.2.C.2; rw [HRN.out] at h; exact h); (case q4 => have h := J16.out.1.hh.C.2; rw [HRN.out] at h; exact h); rintro e w17 ⟨rfl, hb17⟩; have J17 := Aside0.mk (J16.out.1.step hb17); have KK := Aside0.mk (xj_at (J17.out.tbn HRN.out)); clear hb17 J16 _t))
              all_goals
                go_wp2
                go_roundw
                case rel => exact ⟨k + 1, a, recs, Ar', cr', by go_num, by omega, ⟨by rw [HX.out.2.2.1]; have := HD.out.1; omega, by have := HD.out.2.1; omega, HD.out.2.2⟩, ⟨by rw [HX.out.1]; exact J17.out.dd.conv (Below.refl _ _) (Nat.zero_le _) (fun _ _ => trivial), by rw [HX.out.2.1]; exact J17.out.jj.conv (Below.refl _ _) (Nat.zero_le _) (fun _ _ => trivial), J17.out.below⟩⟩
                case measure => simp [intOf]; omega
            · have b0 : decide (4096 < (l.length : Int)) = false := decide_eq_false (by omega)
              have b1 : decide (rm < wt) = false := decide_eq_false (by rw [← HV.out.2, ← HWT.out, weight7]; omega)
              obtain ⟨rm', hrm'⟩ : ∃ z, cc - (a'.length : Int) = z := ⟨_, rfl⟩
              have hw : IntKind.i64.wrap (rm - wt) = rm' := by
                have h1 := HC.out.2
                have h2 := HX.out.2.2.2.2
                rw [← HV.out.2, ← HWT.out, weight7, ← hrm', IntKind.wrap_i64]
                omega
              have ha'' : a'.length ≤ 200000 := by have h2 := HX.out.2.2.2.2; omega
              have HC3 := Aside0.mk (And.intro ha' (And.intro hd' (And.intro hj' (And.intro hrm' ha''))))
              obtain ⟨z0, z1, z2, z3, z4, z5, z6, z7⟩ := xj_at (HJ.out.tbn HRN.out)
              have f6 := blk_frozen HJ.out.tb 6
              have hgl := lt_of_some HJ.out.tb
              obtain ⟨hs1, hs2, os1, hs3, hs4⟩ := HJ.out.hh
              have hlo1 : os1.length = rn := by rw [hs4.1]; exact HRN.out
              rw [HRN.out] at hs3
              have hB1w : B1 ≤ wr.heap.size := by
                have := hgl
                omega
              have hrn30 : rn ≤ 30 := by have := HD.out.2.1; have := HRN.out; omega
              have HQ := Aside0.mk (And.intro hs3 (And.intro hs4 hlo1))
              clear h4 h5 ha' hd' hj' hrm' ha'' hn hs1 hs2 hs3 hs4 hlo1
              go_wp2_with (first
                | (go_at_call 17; refine (JWeight_eq (l.length : Int) wt _ (by omega) HWT.out).mono ?_; rintro e w' ⟨rfl, rfl⟩)
                | (go_at_call 18; refine (RWeight_eq (l.length : Int) wt _ (by omega) HWT.out).mono ?_; rintro e w' ⟨rfl, rfl⟩)
                | ((with_reducible refine gate_builtin (b := .append) (xs := #[.tmp 105, .tmp 108]) rfl ?_); at_builtin; refine Kd.R_append KSl (w0 := wr) B1 rfl (.tmp 105) (.tmp 108) 36 32 (.slice none 0 0) 24 rfl Try.underlying36 info_sl36 rfl (by decide) (by omega) (.slice A1 rn c1) os1 (A3, l.length, c3) [.slice A3 l.length c3] (fun _ => True) (fun _ => False) rfl rfl rfl (fun _ hk => hk.elim) (fun _ _ => trivial) HQ.out.1 (Below.refl _ _) hB1w (by rw [HQ.out.2.2]; omega) ?_; intro v8 w8 ho8 hb8 hg8 hat8; obtain ⟨A8, c8, e8⟩ := Kd.R_slice ho8; subst e8; rw [List.length_append, List.length_singleton, HQ.out.2.2] at ho8; have hx8 := blk_grown HQ.out.1 (HJ.out.tbn HRN.out) (by decide) hg8; have d8 : w8.cell? ⟨gt, 6, none⟩ = some (.slice A1 rn c1) := (blk_cell hx8 6).trans rfl; have f8 := blk_frozen hx8 6; have s8 := blk_lt hx8; have F9 := Aside0.mk (HJ.out.put HRN.out HQ.out.2.1 HQ.out.1 ho8 hg8 HX.out.2.2.2.1 hc3); rw [List.length_append, List.length_singleton, HQ.out.2.2]; clear ho8 hb8 hg8 hat8 hx8))
              have HT := Aside0.mk F9.out.drew
              clear z0 z1 z2 z3 z4 z5 z6 z7 f6 hgl m0 m1 d8 f8 s8
              generalize w8.setCell ⟨gt, 6, none⟩ (.slice A8 (rn + 1) c8) = w9 at *
              obtain ⟨z0, z1, z2, z3, z4, z5, z6, z7⟩ := xj_at F9.out.tb
              have hrl : (recs ++ [l]).length = rn + 1 := by rw [List.length_append, List.length_singleton, HRN.out]
              have HRL := Lib.hid hrl
              clear hrl
              go_region_held3 (fun w' => w'.cell? ⟨gt, 0, none⟩ = some (.slice none 0 0) ∧ w'.cell? ⟨gt, 1, none⟩ = some (.slice none 0 0) ∧ w'.cell? ⟨gt, 2, none⟩ = some (.int .i64 0) ∧ w'.cell? ⟨gt, 3, none⟩ = some (.int .i64 0) ∧ w'.cell? ⟨gt, 4, none⟩ = some (.int .u64 0) ∧ w'.cell? ⟨gt, 5, none⟩ = some (.slice As 0 cs) ∧ w'.cell? ⟨gt, 6, none⟩ = some (.slice A8 (rn + 1) c8) ∧ w'.cell? ⟨gt, 7, none⟩ = some (.int .i64 0)) (first | (with_reducible exact KK.out) | go_keep)
                (first
                  | (go_at_call 12; have _t := HT; refine (Room_eq gj gd B Ar' cr' j' d' rm' _ HT.out.jj HT.out.dd (by rw [HC3.out.2.1, HC3.out.2.2.1]; exact HC3.out.2.2.2.1) (by rw [HC3.out.2.1]; exact HC.out.2.1) (by rw [HC3.out.2.1]; exact HC.out.2.2) (by rw [HC3.out.2.2.1]; exact Int.natCast_nonneg _) (by rw [HC3.out.2.2.1]; have := HC3.out.2.2.2.2; simp only; omega)).mono ?_; rintro e w16 ⟨rfl, hb16⟩; have J15 := Aside0.mk (HT.out.step hb16); have KK := Aside0.mk (xj_at J15.out.tb); clear hb16 HT _t)
                  | (go_at_call 14; have _t := J15; refine (has7_eq gj gd B Ar' cr' j' (recs ++ [l]) (rn + 1) _ J15.out.jj (by rw [HC3.out.2.2.1]) (by rw [HC3.out.2.2.1]) HRL.out (by omega) (snoc_le7 (fun x hx => by have := HD.out.2.2 x hx; omega) (by omega))).mono ?_; rintro e w16 ⟨As2, cs2, A2, c2, rfl, hh16, hb16⟩; have J16 := Aside0.mk (And.intro (J15.out.step hb16) hh16); have KK := Aside0.mk (xj_at J16.out.1.tb); clear hb16 hh16 J15 _t)
                  | (go_at_call 19; have _t := J16; refine (Same7_xj As2 cs2 A2 (rn + 1) c2 As cs A8 c8 (recs ++ [l]) _ ?q1 ?q2 ?q3 ?q4).mono ?_; (case q1 => exact J16.out.2.C.1); (case q2 => exact J16.out.1.k1); (case q3 => have h := J16.out.2.C.2; rw [HRL.out] at h; exact h); (case q4 => exact J16.out.1.k2); rintro e w17 ⟨rfl, hb17⟩; have J17 := Aside0.mk (J16.out.1.step hb17); have KK := Aside0.mk (xj_at J17.out.tb); clear hb17 J16 _t))
              all_goals
                go_wp2
                go_roundw
                case rel => exact ⟨k + 1, a', recs ++ [l], Ar', cr', by go_num, by omega, ⟨by rw [HX.out.2.2.1, HC3.out.1]; have := HD.out.1; omega, by rw [HRL.out]; have := HD.out.2.1; have := HRN.out; omega, snoc_le7 HD.out.2.2 hl5⟩, ⟨by rw [← HC3.out.2.1]; exact J17.out.dd.conv (Below.refl _ _) (Nat.zero_le _) (fun _ _ => trivial), by rw [← HC3.out.2.2.1]; exact J17.out.jj.conv (Below.refl _ _) (Nat.zero_le _) (fun _ _ => trivial), J17.out.below⟩⟩
                case measure => simp [intOf]; omega
      · obtain rfl : k = os.length := by omega
        go_wp2
        go_ret
        exact ⟨rfl, HW.out.2.2⟩
  · have hb := decide_eq_false hs
    have HS := Aside0.mk hb
    clear hs hb
    go_enter Try.func3, Try.ntmps3
    go_wp2_with (first
      | (go_at_call 7; refine (alive7_calls _ (Nat.zero_le _)).mono ?_; rintro e w1 ⟨rfl, hb1⟩; have S1 := Aside0.mk hb1; clear hb1)
      | (go_at_call 8; refine (small7_eq A c os false _ HS.out (Kd.C_below M.out S1.out) hc).mono ?_; rintro e w2 ⟨rfl, hb2⟩; have S2 := Aside0.mk (below_step S1.out hb2); clear S1 hb2))
    go_ret
    exact ⟨rfl, S2.out⟩
end Go.Proofs.Ytcgefilboefnpaa.MJournalFull
