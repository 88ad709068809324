/- DeviceKeeps (UNDER WAY: the round is left). -/
import Derived.Test.YtpahmdjcmpnmkaaDevKj
namespace Go.Proofs.Ytpahmdjcmpnmkaa.MDeviceKeeps
open Go.RowKit Go.Proofs.YtpahmdjcmpnmkaaW.PrintWords Go.Proofs.YtpahmdjcmpnmkaaW.PrintLast Go.Proofs.YtpahmdjcmpnmkaaW.PrintMore Go.Proofs.Ytpahmdjcmpnmkaa.H
set_option linter.unusedVariables false
set_option linter.unusedSimpArgs false

theorem opens : Opens Try.prog 22 (Kd.slice 33 (Kd.pair (Kd.int .i64) (Kd.pair (Kd.int .i64) (Kd.pair (Kd.int .i64) (Kd.slice 5 (Kd.int .u8)))))) (fun l => ∀ x ∈ l, (Lit.int .i64 x.1).wf = true ∧ (Lit.int .i64 x.2.1).wf = true ∧ (Lit.int .i64 x.2.2.1).wf = true ∧ ∀ y ∈ x.2.2.2, (Lit.int .u8 y).wf = true) := opens_ops
set_option maxHeartbeats 3200000 in
set_option maxRecDepth 100000 in
theorem main (cap : Int) (wf : (Lit.int .i64 cap).wf = true)
    (A : Option Addr) (c : Nat) (os : List (Int × Int × Int × List Int)) (hc : os.length ≤ c) {W0 : World} (m : Kd.C (Kd.pair (Kd.int .i64) (Kd.pair (Kd.int .i64) (Kd.pair (Kd.int .i64) (Kd.slice 5 (Kd.int .u8))))) W0 A os.length os) (g : ∀ x ∈ os, (Lit.int .i64 x.1).wf = true ∧ (Lit.int .i64 x.2.1).wf = true ∧ (Lit.int .i64 x.2.2.1).wf = true ∧ ∀ y ∈ x.2.2.2, (Lit.int .u8 y).wf = true) (W : World) (hW : W0 = W := by rfl) :
    Calls Try.prog 5 #[.int .i64 cap, .slice A os.length c] W fun e W' => e = .returned (.bool true) ∧ Below W.heap.size W W' := by
  subst hW
  letI : Pl := ⟨fun _ => True, 0, fun _ _ => trivial⟩
  have hN : ∀ o ∈ os, o.2.2.1 ≤ 9223372036854775807 := fun o ho => (wf_i64 (g o ho).2.2.1).2
  have M := Aside0.mk m
  clear m g wf
  by_cases hs : os.length ≤ 40 ∧ tot os ≤ 3000
  · obtain ⟨hl40, ht⟩ := hs
    obtain ⟨d0, hd0⟩ : ∃ d, (⟨[], [], capC cap, -1, false, 0⟩ : Dv) = d := ⟨_, rfl⟩
    have hfit : ∀ k, k ≤ os.length → (playD d0 (os.take k)).fit 500000 1000000000000 := fun k hk => by
      have h1 := tot_le os k
      exact (fit_play (fit_new hd0) hN ht k hk).wide (by omega) (by omega)
    have HF := Aside0.mk (And.intro hd0 (And.intro hfit ht))
    clear hN hfit hd0 ht
    go_enter Try.func5, Try.ntmps5
    go_wp2_with (first
      | (go_at_call 6; refine (alive4_calls _).mono ?_; rintro e w1 ⟨rfl, hb1⟩; have S1 := Aside0.mk hb1; clear hb1)
      | (go_at_call 7; refine (small4_eq A c os true _ (decide_eq_true ⟨hl40, HF.out.2.2⟩) (Kd.C_below M.out S1.out) hc).mono ?_; rintro e w2 ⟨rfl, hb2⟩; have S2 := Aside0.mk (below_step S1.out hb2); clear S1 hb2)
      | (go_at_call 8; refine (New_calls _ _ (Nat.zero_le _)).mono ?_; rintro e w3 ⟨rfl, hd3, hb3⟩; rw [HF.out.1] at hd3; have hlt3 := hd3.lt; have hge3 : W0.heap.size ≤ w2.heap.size := below_size S2.out; have S3 := Aside0.mk (And.intro (below_step S2.out hb3) hd3); clear S2 hd3 hb3))
    generalize w2.heap.size = gd at *
    have hroom : d0.room := by rw [← HF.out.1]; have := (capC_le cap).1; exact ⟨by simpa using this, by simpa using this⟩
    have hcap0 : 0 ≤ d0.cap := by rw [← HF.out.1]; exact (capC_le cap).1
    have HRM := Aside0.mk (And.intro hroom hcap0)
    clear hroom hcap0
    go_wp2_with (fail)
    go_loopw [23] (fun i wr => ∃ (k : Nat) (d : Dv), i = .int .i64 (k : Int) ∧ k ≤ os.length ∧ Aside0 (playD d0 (os.take k) = d ∧ d.room ∧ 0 ≤ d.cap) ∧ Aside0 (DevAt wr gd d ∧ Below W0.heap.size W0 wr)) (fun i _ => os.length - (intOf i).toNat)
    case atStart => exact ⟨0, d0, rfl, Nat.zero_le _, ⟨rfl, HRM.out⟩, ⟨S3.out.2, S3.out.1⟩⟩
    case round =>
      obtain ⟨k, d, rfl, hk, HD, HW⟩ := hrel
      by_cases hlt : k < os.length
      · obtain ⟨o, ho⟩ : ∃ o, os[k]? = some o := ⟨_, List.getElem?_eq_getElem hlt⟩
        obtain ⟨q, r, z, l⟩ := o
        obtain ⟨ad, A3, c3, eA, e0, e1, e2, e3, hc3, hC3⟩ := op_at M.out hlt ho
        subst eA
        replace e0 := (HW.out.2.cell (World.block_lt_of_cell? W0 _ e0)).trans e0
        replace e1 := (HW.out.2.cell (World.block_lt_of_cell? W0 _ e1)).trans e1
        replace e2 := (HW.out.2.cell (World.block_lt_of_cell? W0 _ e2)).trans e2
        replace e3 := (HW.out.2.cell (World.block_lt_of_cell? W0 _ e3)).trans e3
        have hllt : (k : Int) < (os.length : Int) := by omega
        have hpt := play_take (d := d0) ho
        rw [HD.out.1] at hpt
        have hrm' : (doD d (q, r, z, l)).room := room_do HD.out.2.1 HD.out.2.2 _
        have hcp' : 0 ≤ (doD d (q, r, z, l)).cap := by rw [cap_do]; exact HD.out.2.2
        generalize hd' : doD d (q, r, z, l) = d' at hpt hrm' hcp'
        have hf := HF.out.2.1 k hk
        rw [HD.out.1] at hf
        have hf' := HF.out.2.1 (k + 1) hlt
        rw [hpt] at hf'
        have ha : d.a.length ≤ 1000000 := by have := hf.a; omega
        have hb : d.b.length ≤ 1000000 := by have := hf.b; omega
        have ha' : d'.a.length ≤ 140737488355328 := by have := hf'.a; omega
        have hb' : d'.b.length ≤ 140737488355328 := by have := hf'.b; omega
        have hl5 : l.length ≤ 500000 := by
          have h1 := tot_le os (k + 1)
          rw [tot_take ho] at h1
          have h2 := HF.out.2.2
          simp only at h1; omega
        have hgx : gd < wr.heap.size := HW.out.1.lt
        have hq8 : Below wr.heap.size wr (wr.alloc (.cells (opCells q r z A3 l.length c3) 33)) := below_alloc (Below.refl _ _) _
        have hx8 : (wr.alloc (.cells (opCells q r z A3 l.length c3) 33)).heap[wr.heap.size]? = some (.cells (opCells q r z A3 l.length c3) 33 (0, 0)) := blk_new wr _
        have H8 := Aside0.mk (And.intro hx8 (And.intro (HW.out.1.below hq8) (below_step HW.out.2 hq8)))
        have HO := Aside0.mk (And.intro hC3 (And.intro hpt (And.intro hd' (And.intro hf (And.intro hrm' hcp')))))
        have HN := Aside0.mk (And.intro (And.intro ha hb) (And.intro ha' hb'))
        have hs8 : W0.heap.size ≤ wr.heap.size := HW.out.2.size
        clear ho hC3 hpt hd' hf hf' hq8 hx8 hrm' hcp' ha hb ha' hb'
        go_wp2_with (fail)
        generalize hG8 : wr.alloc (.cells (opCells q r z A3 l.length c3) 33) = w8 at *
        have hs88 : w8.heap.size = wr.heap.size + 1 := by rw [← hG8, World.size_alloc]
        have hgx8 : gd < w8.heap.size := by omega
        generalize wr.heap.size = go at *
        have H88 := Lib.hid hs88
        clear hG8 hs88
        go_wp2_with (first
          | (go_at_call 20; refine (DClone_calls gd d _ H8.out.2.1 HN.out.1.1 HN.out.1.2).mono ?_; rintro e w9 ⟨gc, rfl, hgc, hdc, hb9⟩; obtain ⟨m0, m1, m2, m3⟩ := op_cells (blk_belowX H8.out.1 hb9); have H9 := Aside0.mk (And.intro (blk_belowX H8.out.1 hb9) (And.intro (H8.out.2.1.below hb9) (And.intro hdc (And.intro (below_step H8.out.2.2 hb9) (And.intro hgc hb9.size))))); have hlt9 : go < w9.heap.size := lt_of_some H9.out.1; clear hgc hdc hb9))
        have hx10 : (w9.alloc (.cells (opCells q r z A3 l.length c3) 33)).heap[w9.heap.size]? = some (.cells (opCells q r z A3 l.length c3) 33 (0, 0)) := blk_new w9 _
        have hB10 : Below w9.heap.size w9 (w9.alloc (.cells (opCells q r z A3 l.length c3) 33)) := below_alloc (Below.refl _ _) _
        have hg9 : w9.heap.size < (w9.alloc (.cells (opCells q r z A3 l.length c3) 33)).heap.size := by rw [World.size_alloc]; omega
        generalize w9.alloc (.cells (opCells q r z A3 l.length c3) 33) = w10 at *
        obtain ⟨gm, hgm⟩ : ∃ g, w9.heap.size = g := ⟨_, rfl⟩
        have HGM := Lib.hid hgm
        rw [hgm] at hlt9 hx10 hg9
        rw [hgm]
        clear hgm
        obtain ⟨m0, m1, m2, m3⟩ := op_cells (blk_belowX H9.out.1 hB10)
        have H10 := Aside0.mk (And.intro hx10 (And.intro (blk_belowX H9.out.1 hB10) hB10))
        clear hx10 hB10
        refine (Copy_own A3 c3 l l.length _ rfl (Kd.C_below HO.out.1 (below_step H9.out.2.2.2.1 H10.out.2.2)) (by omega)).mono ?_
        rintro e w11 ⟨Am, cm, rfl, hcm, ho11, hb11⟩
        obtain ⟨p0, p1, p2, p3⟩ := op_cells (blk_belowX H10.out.2.1 hb11)
        obtain ⟨n0, n1, n2, n3⟩ := op_cells (blk_belowX H10.out.1 hb11)
        have f3 := blk_frozen (blk_belowX H10.out.1 hb11) 3
        have hneg : go ≠ gm := by omega
        have hg11 : gm < w11.heap.size := lt_of_some (blk_belowX H10.out.1 hb11)
        have H11 := Aside0.mk (And.intro (blk_belowX H10.out.1 hb11) (And.intro (blk_belowX H10.out.2.1 hb11) (And.intro (below_step H10.out.2.2 hb11) (And.intro ho11 H10.out.2.2.size))))
        clear ho11 hb11 m0 m1 m2 m3
        go_wp2_with (fail)
        have ho12 : Oth gm w11 (w11.setCell ⟨gm, 3, none⟩ (.slice Am l.length cm)) := Oth.set w11 ⟨gm, 3, none⟩ _
        have hx12 : (w11.setCell ⟨gm, 3, none⟩ (.slice Am l.length cm)).heap[gm]? = some (.cells (opCells q r z Am l.length cm) 33 (0, 0)) := blk_put H11.out.1 3 _ rfl
        have H12 := Aside0.mk (And.intro hx12 (And.intro ho12 (And.intro (R_oth H11.out.2.2.2.1 H11.out.1 (by decide) ho12) (And.intro (ho12.below H11.out.2.2.1 (by rw [HGM.out]; exact Nat.le_refl _)) ((H9.out.2.1.below H11.out.2.2.1).oth H11.out.1 (by decide) (by omega) ho12)))))
        clear ho12 hx12 p0 p1 p2 p3 n0 n1 n2 n3 f3
        generalize w11.setCell ⟨gm, 3, none⟩ (.slice Am l.length cm) = w12 at *
        obtain ⟨nb, hnb⟩ : ∃ n, (d.row r).length = n := ⟨_, rfl⟩
        have hnb5 : nb ≤ 500000 := by have := fit_row HO.out.2.2.2.1 (by omega) r; omega
        refine (Bytes_own gd d r nb _ hnb H12.out.2.2.2.2 (by have := HN.out.1.1; omega) (by have := HN.out.1.2; omega)).mono ?_
        rintro e w13 ⟨Ab, cb, rfl, hcb, ho13, hb13⟩
        obtain ⟨p', hp'⟩ : ∃ p' : Pl, p' = ⟨fun k => (∀ ad, Am = some ad → k ≠ ad.block) ∧ (∀ ad, Ab = some ad → k ≠ ad.block), w13.heap.size, fun k hk => ⟨fun ad e he => by
            obtain ⟨_, cs, hcs⟩ := (Ro.below ⟨l, rfl, H12.out.2.2.1⟩ hb13).block e
            have := lt_of_some hcs
            omega, fun ad e he => by
            obtain ⟨_, cs, hcs⟩ := ho13.block e
            have := lt_of_some hcs
            omega⟩⟩ := ⟨_, rfl⟩
        have hPk : ∀ k, k < w9.heap.size → p'.P k := fun k hk => by
          rw [hp']
          refine ⟨fun ad e he => ?_, fun ad e he => ?_⟩
          · have h1 := (Ro.block ⟨l, rfl, H12.out.2.2.1⟩ e).1
            have h2 := H11.out.2.2.2.2
            omega
          · have h1 := (ho13.block e).1
            have h2 := H12.out.2.2.2.1.size
            omega
        have hBl : Below w9.heap.size w9 w13 := below_step H12.out.2.2.2.1 hb13
        have KJ13 : @KJ p' W0 gd gc go gm d d (opCells q r z A3 l.length c3) (opCells q r z Am l.length cm) Am l.length cm w10.heap.size Ab nb cb w12.heap.size w13 := by
          have hs9 := H9.out.2.2.2.1.size
          have hs10 := H11.out.2.2.2.2
          have hs12 := H12.out.2.2.2.1.size
          have hgc := H9.out.2.2.2.2.1
          have q1 : ∀ ad ad', Am = some ad → Ab = some ad' → ad.block ≠ ad'.block := fun ad ad' e e' he => by
            obtain ⟨_, cs, hcs⟩ := Ro.block ⟨l, rfl, H12.out.2.2.1⟩ e
            have h1 := lt_of_some hcs
            have h2 := (ho13.block e').1
            omega
          have q2 : ∀ ad, Am = some ad → ¬ p'.P ad.block := fun ad e h => by rw [hp'] at h; exact h.1 ad e rfl
          have q3 : ∀ ad, Ab = some ad → ¬ p'.P ad.block := fun ad e h => by rw [hp'] at h; exact h.2 ad e rfl
          exact { below := below_step H9.out.2.2.2.1 hBl, dd := H9.out.2.1.conv hBl (by rw [hp']; exact Nat.le_refl _) hPk, dc := H9.out.2.2.1.conv hBl (by rw [hp']; exact Nat.le_refl _) hPk, ob := blk_belowX H9.out.1 hBl, mb := blk_belowX H12.out.1 hb13, rm := Ro.below ⟨l, rfl, H12.out.2.2.1⟩ hb13, rb := ho13, ne := by omega, h1 := by omega, h2 := by omega, hd := hge3, hc := by omega, nmb := q1, pm := q2, pb := q3 }
        have hR13 := Kd.R_below H12.out.2.2.1 hb13
        obtain ⟨n0, n1, n2, n3⟩ := op_cells KJ13.mb
        have J13 := Aside0.mk (And.intro KJ13 hR13)
        clear KJ13 hR13 hBl hPk hp' hb13 ho13 hcb hnb
        go_wp2_with (fail)
        refine (do_one gd d d' q r z Am cm l _ HO.out.2.2.1 J13.out.1.dd (R_in J13.out.2 J13.out.1.dd) hcm hl5 HO.out.2.2.2.1).mono ?_
        rintro e w14 ⟨⟨v14, rfl⟩, hD14, ho14⟩
        have J14 := Aside0.mk (J13.out.1.dev ho14 hD14)
        clear n0 n1 n2 n3 hD14 ho14
        obtain ⟨n0, n1, n2, n3⟩ := op_cells J14.out.mb
        go_wp2_with (fail)
        go_loopw [45] (fun i w => ∃ j : Nat, j ≤ l.length ∧ i = .int .i64 (j : Int) ∧ Aside0 (KJ W0 gd gc go gm d' d (opCells q r z A3 l.length c3) (opCells q r z Am l.length cm) Am l.length cm w10.heap.size Ab nb cb w12.heap.size w)) (fun i _ => l.length - (intOf i).toNat)
        case atStart => exact ⟨0, Nat.zero_le _, rfl, J14⟩
        case round =>
          obtain ⟨j, hj, rfl, HJ⟩ := hrel
          clear n0 n1 n2 n3 J14
          by_cases hjl : j < l.length
          · obtain ⟨g, x, eA, hgb, hnc, hcell, hfr⟩ := HJ.out.rm.at hjl
            subst eA
            obtain ⟨n0, n1, n2, n3⟩ := op_cells HJ.out.mb
            have hjj : (j : Int) < (l.length : Int) := by omega
            go_wp2
            go_roundw
            case rel => exact ⟨j + 1, by omega, by go_num, ⟨HJ.out.rowm j _⟩⟩
            case measure => simp [intOf]; omega
          · obtain rfl : j = l.length := by omega
            obtain ⟨n0, n1, n2, n3⟩ := op_cells HJ.out.ob
            go_wp2_with (fail)
            refine (do_one gc d d' q r z A3 c3 l _ HO.out.2.2.1 HJ.out.dc (C_in HO.out.1 HJ.out.below HJ.out.hc) hc3 hl5 HO.out.2.2.2.1).mono ?_
            rintro e w15 ⟨⟨v15, rfl⟩, hD15, ho15⟩
            have J15 := Aside0.mk (HJ.out.devc ho15 hD15)
            clear n0 n1 n2 n3 hD15 ho15 HJ
            go_wp2_with (fail)
            go_loopw [12] (fun i w => ∃ j : Nat, j ≤ 2 ∧ i = .int .i64 (j : Int) ∧ Aside0 (KJ W0 gd gc go gm d' d' (opCells q r z A3 l.length c3) (opCells q r z Am l.length cm) Am l.length cm w10.heap.size Ab nb cb w12.heap.size w)) (fun i _ => 2 - (intOf i).toNat)
            case atStart => exact ⟨0, by omega, rfl, J15⟩
            case round =>
              obtain ⟨j, hj, rfl, HJ⟩ := hrel
              clear J15
              by_cases hjl : j < 2
              · have b0 : decide ((j : Int) < 2) = true := decide_eq_true (by omega)
                have b1 : decide (d'.cap < ((d'.row (j : Int)).length : Int)) = false := decide_eq_false (by have := room_row HO.out.2.2.2.2.1 HO.out.2.2.2.2.2 (j : Int); omega)
                obtain ⟨lj, hlj⟩ : ∃ lj, d'.row (j : Int) = lj := ⟨_, rfl⟩
                rw [hlj] at b1
                have HLJ := Lib.hid hlj
                clear hlj
                obtain ⟨nj, hnj⟩ : ∃ n, lj.length = n := ⟨_, rfl⟩
                have HNJ := Lib.hid hnj
                rw [hnj] at b1
                clear hnj
                go_wp2_with (fail)
                refine (Len_eq gd d' (j : Int) (nj : Int) _ (by rw [HLJ.out, HNJ.out]) HJ.out.dd).mono ?_
                rintro e w16 ⟨rfl, rfl⟩
                go_wp2_with (fail)
                refine (Capacity_eq gd d' d'.cap _ rfl HJ.out.dd).mono ?_
                rintro e w16 ⟨rfl, rfl⟩
                go_wp2_with (fail)
                refine (Bytes_two gd gc gd d' (j : Int) lj nj _ HLJ.out HNJ.out (.inl rfl) HJ.out.dd HJ.out.dc HN.out.2.1 HN.out.2.2).mono ?_
                rintro e w16 ⟨A4, c4, rfl, hc4, hC4, hb16⟩
                have J16 := Aside0.mk (And.intro (HJ.out.step hb16) hC4)
                clear hb16 hC4
                go_wp2_with (fail)
                refine (Bytes_two gd gc gc d' (j : Int) lj nj _ HLJ.out HNJ.out (.inr rfl) J16.out.1.dd J16.out.1.dc HN.out.2.1 HN.out.2.2).mono ?_
                rintro e w17 ⟨A5, c5, rfl, hc5, hC5, hb17⟩
                have J17 := Aside0.mk (And.intro (J16.out.1.step hb17) (And.intro (Kd.C_below J16.out.2 hb17) hC5))
                clear hb17 hC5 J16
                go_wp2_with (fail)
                refine (Same4_eq _ _ _ _ nj nj lj lj _ HNJ.out HNJ.out true (decide_eq_true rfl) J17.out.2.1 J17.out.2.2).mono ?_
                rintro e w18 ⟨rfl, hb18⟩
                have J18 := Aside0.mk (J17.out.1.step hb18)
                clear hb18 J17
                go_wp2
                go_roundw
                case rel => exact ⟨j + 1, by omega, by go_num, J18⟩
                case measure => simp [intOf]; omega
              · obtain rfl : j = 2 := by omega
                go_wp2_with (fail)
                go_loopw [82] (fun i w => ∃ j : Nat, j ≤ nb ∧ i = .int .i64 (j : Int) ∧ Aside0 (KJ W0 gd gc go gm d' d' (opCells q r z A3 l.length c3) (opCells q r z Am l.length cm) Am l.length cm w10.heap.size Ab nb cb w12.heap.size w)) (fun i _ => nb - (intOf i).toNat)
                case atStart => exact ⟨0, Nat.zero_le _, rfl, HJ⟩
                case round =>
                  obtain ⟨j, hj, rfl, HJ⟩ := hrel
                  by_cases hjl : j < nb
                  · obtain ⟨g, x, eA, hgb, hnc, hcell, hfr⟩ := HJ.out.rb.at hjl
                    subst eA
                    have hjj : (j : Int) < (nb : Int) := by omega
                    go_wp2
                    go_roundw
                    case rel => exact ⟨j + 1, by omega, by go_num, ⟨HJ.out.rowb j _⟩⟩
                    case measure => simp [intOf]; omega
                  · obtain rfl : j = nb := by omega
                    obtain ⟨n0, n1, n2, n3⟩ := op_cells HJ.out.ob
                    obtain ⟨lj, hlj⟩ : ∃ lj, d'.row r = lj := ⟨_, rfl⟩
                    have HLJ := Lib.hid hlj
                    clear hlj
                    obtain ⟨nj, hnj⟩ : ∃ n, lj.length = n := ⟨_, rfl⟩
                    have HNJ := Lib.hid hnj
                    clear hnj
                    have HT := Aside0.mk HJ.out.drew
                    go_wp2_with (fail)
                    go_region_held3 (fun w' => w'.cell? ⟨go, 1, none⟩ = some (.int .i64 r)) (first | (with_reducible exact KK.out) | go_keep)
                      (first
                        | (go_at_call 17; have _t := HT; refine (Bytes_two gd gc _ d' r lj nj _ HLJ.out HNJ.out ?q1 HT.out.dd HT.out.dc HN.out.2.1 HN.out.2.2).mono ?_; (case q1 => first | exact .inl rfl | exact .inr rfl); rintro e w16 ⟨A4, c4, rfl, hc4, hC4, hb16⟩; have J16 := Aside0.mk (And.intro (HT.out.step hb16) hC4); have KK := Aside0.mk (op_cells J16.out.1.ob).2.1; clear hb16 hC4 HT _t)
                        | (go_at_call 17; have _t := J16; refine (Bytes_two gd gc _ d' r lj nj _ HLJ.out HNJ.out ?q1 J16.out.1.dd J16.out.1.dc HN.out.2.1 HN.out.2.2).mono ?_; (case q1 => first | exact .inl rfl | exact .inr rfl); rintro e w17 ⟨A5, c5, rfl, hc5, hC5, hb17⟩; have J17 := Aside0.mk (And.intro (J16.out.1.step hb17) (And.intro (Kd.C_below J16.out.2 hb17) hC5)); have KK := Aside0.mk (op_cells J17.out.1.ob).2.1; clear hb17 hC5 J16 _t)
                        | (go_at_call 16; have _t := J17; (with_reducible refine (Same4_eq _ _ _ _ nj nj lj lj _ HNJ.out HNJ.out true (decide_eq_true rfl) ?s4 ?s5).mono ?_); (case s4 => first | exact J17.out.2.1 | exact J17.out.2.2); (case s5 => first | exact J17.out.2.2 | exact J17.out.2.1); rintro e w18 ⟨rfl, hb18⟩; have J18 := Aside0.mk (J17.out.1.step hb18); have KK := Aside0.mk (op_cells J18.out.ob).2.1; clear hb18 J17 _t))
                    all_goals
                      go_wp2
                      go_roundw
                      case rel => exact ⟨k + 1, d', by go_num, by omega, ⟨HO.out.2.1, HO.out.2.2.2.2⟩, ⟨J18.out.dd.conv (Below.refl _ _) (Nat.zero_le _) (fun _ _ => trivial), J18.out.below⟩⟩
                      case measure => simp [intOf]; omega
      · obtain rfl : k = os.length := by omega
        go_wp2
        go_ret
        exact ⟨rfl, HW.out.2⟩
  · have hb := decide_eq_false hs
    have HS := Aside0.mk hb
    clear hs hb
    go_enter Try.func5, Try.ntmps5
    go_wp2_with (first
      | (go_at_call 6; refine (alive4_calls _).mono ?_; rintro e w1 ⟨rfl, hb1⟩; have S1 := Aside0.mk hb1; clear hb1)
      | (go_at_call 7; refine (small4_eq A c os false _ HS.out (Kd.C_below M.out S1.out) hc).mono ?_; rintro e w2 ⟨rfl, hb2⟩; have S2 := Aside0.mk (below_step S1.out hb2); clear S1 hb2))
    go_ret
    exact ⟨rfl, S2.out⟩
end Go.Proofs.Ytpahmdjcmpnmkaa.MDeviceKeeps
