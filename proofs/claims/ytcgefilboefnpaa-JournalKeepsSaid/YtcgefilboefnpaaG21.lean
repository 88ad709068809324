/- Some texts of one seat in one file, in build order. -/
import Derived.Test.YtcgefilboefnpaaG20
import Derived.Deep.CutBlock
import Derived.Deep.DeepCutAuto
/- JournalKeeps (UNDER WAY). -/
namespace Go.Proofs.Ytcgefilboefnpaa.MJournalKeeps
open Go.RowKit Go.Proofs.YtcgefilboefnpaaW.PrintWords Go.Proofs.YtcgefilboefnpaaW.PrintLast Go.Proofs.YtcgefilboefnpaaW.PrintMore Go.Proofs.Ytcgefilboefnpaa.H Go.Proofs.Ytcgefilboefnpaa.CrcM
set_option linter.unusedVariables false
set_option linter.unusedSimpArgs false

theorem bts_a16 : Bts a16 := by unfold Bts; decide +kernel
theorem opens : Opens Try.prog 22 (Kd.slice 34 (Kd.pair (Kd.int .i64) (Kd.slice 5 (Kd.int .u8)))) (fun l => ∀ x ∈ l, (Lit.int .i64 x.1).wf = true ∧ ∀ y ∈ x.2, (Lit.int .u8 y).wf = true) := opens_ops7
set_option maxHeartbeats 6400000 in
set_option maxRecDepth 100000 in
theorem main (A : Option Addr) (c : Nat) (os : List (Int × List Int)) (hc : os.length ≤ c) {W0 : World} (m : Kd.C (Kd.pair (Kd.int .i64) (Kd.slice 5 (Kd.int .u8))) W0 A os.length os) (g : ∀ x ∈ os, (Lit.int .i64 x.1).wf = true ∧ ∀ y ∈ x.2, (Lit.int .u8 y).wf = true)
    (cut : Int) (wfc : (Lit.int .i64 cut).wf = true) (again : Int) (wfa : (Lit.int .i64 again).wf = true) (W : World) (hW : W0 = W := by rfl) :
    Calls Try.prog 4 #[.slice A os.length c, .int .i64 cut, .int .i64 again] W fun e W' => e = .returned (.bool true) ∧ Below W.heap.size W W' := by
  subst hW
  letI : Pl := ⟨fun _ => True, 0, fun _ _ => trivial⟩
  have M := Aside0.mk m
  have G := Aside0.mk (show ∀ x ∈ os, Bts x.2 from fun x hx y hy => wf_u8 ((g x hx).2 y hy))
  clear m g wfc wfa
  by_cases hs : os.length ≤ 30 ∧ tot7 os ≤ 20000
  · obtain ⟨hl40, ht⟩ := hs
    have HT := Lib.hid ht
    have hm1 := and_mask cut 16383 (by decide)
    obtain ⟨x1, hx1⟩ : ∃ x, bits .and .i64 cut 16383 = x := ⟨_, rfl⟩
    have hm2 := and_mask again 63 (by decide)
    obtain ⟨x2, hx2⟩ : ∃ x, bits .and .i64 again 63 = x := ⟨_, rfl⟩
    have hx1b : 0 ≤ x1 ∧ x1 ≤ 16383 := by rw [← hx1]; exact hm1
    have hx2b : 0 ≤ x2 ∧ x2 ≤ 63 := by rw [← hx2]; exact hm2
    have HM := Aside0.mk (And.intro hx1b hx2b)
    have hcp : capC 30000 = 30000 := by decide
    clear ht hm1 hm2 hx1b hx2b
    have hfit0 : (dE7 30000).fit 90000 90000000000 := by constructor <;> simp [dE7]
    have HF := Aside0.mk (And.intro hcp hfit0)
    clear hcp hfit0
    go_enter Try.func4, Try.ntmps4
    go_wp2_with (first
      | (go_at_call 7; refine (alive7_calls _ (Nat.zero_le _)).mono ?_; rintro e w1 ⟨rfl, hb1⟩; have S1 := Aside0.mk hb1; clear hb1)
      | (go_at_call 8; refine (small7_eq A c os true _ (decide_eq_true ⟨hl40, HT.out⟩) (Kd.C_below M.out S1.out) hc).mono ?_; rintro e w2 ⟨rfl, hb2⟩; have S2 := Aside0.mk (below_step S1.out hb2); clear S1 hb2)
      | (go_at_call 9; refine (New_calls _ _ (Nat.zero_le _)).mono ?_; rintro e w3 ⟨rfl, hd3, hb3⟩; rw [HF.out.1] at hd3; have hlt3 := hd3.lt; have hge3 : W0.heap.size ≤ w2.heap.size := below_size S2.out; have S3 := Aside0.mk (And.intro (below_step S2.out hb3) hd3); clear S2 hd3 hb3))
    generalize w2.heap.size = gd at *
    go_wp2_with (fail)
    refine (JOpen_calls gd (dE7 30000) _ _ (open_new_yes 30000 (by decide)) S3.out.2 HF.out.2 (fun _ h => by simp [dE7] at h) (fun _ h => by simp [dE7] at h)).mono ?_
    intro e w4 ho
    obtain ⟨hd4, hb4, gj, Ar0, cr0, rfl, hj4⟩ := ho.ok
    have hB4 : Below W0.heap.size W0 w4 := hb4.below S3.out.1 S3.out.1.size (fun k hk => by rw [hk]; exact hge3)
    obtain ⟨B, hB⟩ : ∃ B, w3.heap.size = B := ⟨_, rfl⟩
    have hWB : W0.heap.size ≤ B := by rw [← hB]; exact S3.out.1.size
    rw [hB] at hj4
    have S4 := Aside0.mk (And.intro hd4 (And.intro hB4 hj4))
    clear hd4 hb4 hB4 hj4 ho hB
    go_wp2_with (fail)
    refine (Cut_eq gd _ ⟨a16, [], 30000, x1, false, 16⟩ x1 _ (by show (⟨a16, [], 30000, if x1 < -1 then -1 else x1, false, 16⟩ : Dv) = _; rw [if_neg (by have := HM.out.1; omega)]) S4.out.1).mono ?_
    rintro e w5 ⟨rfl, hd5, ho5⟩
    have S5 := Aside0.mk (And.intro (ho5.below S4.out.2.1 hge3) (And.intro hd5 (S4.out.2.2.dev S4.out.1 ho5)))
    clear hd5 ho5
    go_upto_block 0 with (fail)
    have hbx : Below w5.heap.size w5 ((w5.alloc (.cells (xjCells none 0 0 none 0 0) 38)).alloc (.cells (xjCells none 0 0 none 0 0) 38)) := below_alloc (below_alloc (Below.refl _ _) _) _
    have hbx1 := below_alloc (Below.refl _ (w5.alloc (.cells (xjCells none 0 0 none 0 0) 38))) (.cells (xjCells none 0 0 none 0 0) 38)
    have hn6 := blk_belowX (blk_new w5 (.cells (xjCells none 0 0 none 0 0) 38)) hbx1
    have hx6 := blk_new (w5.alloc (.cells (xjCells none 0 0 none 0 0) 38)) (.cells (xjCells none 0 0 none 0 0) 38)
    rw [World.size_alloc] at hx6
    have hs5 : W0.heap.size ≤ w5.heap.size := S5.out.1.size
    generalize (w5.alloc (.cells (xjCells none 0 0 none 0 0) 38)).alloc (.cells (xjCells none 0 0 none 0 0) 38) = w6 at *
    have S6 := Aside0.mk (And.intro (S5.out.2.1.below hbx) (And.intro (S5.out.2.2.below hbx) (And.intro (below_step S5.out.1 hbx) (And.intro hn6 hx6))))
    clear hbx hbx1 hn6 hx6
    obtain ⟨gn, hgn⟩ : ∃ z, w5.heap.size = z := ⟨_, rfl⟩
    rw [hgn] at S6 hs5
    rw [hgn]
    obtain ⟨gx, hgx⟩ : ∃ z, gn + 1 = z := ⟨_, rfl⟩
    have hnx : gn ≠ gx := by omega
    have hsx : W0.heap.size ≤ gx := by omega
    rw [hgx] at S6
    rw [hgx]
    clear hgn hgx
    go_cut [] (fun wx => ∃ (age : Nat) (d : Dv) (j : Jn) (bn bx : Bx) (tail : List Int), Aside0 (Stand d j age tail ∧ Fk d (16 + 200000 * 31) ∧ BtD d ∧ bn.snap = j.snap ∧ bn.recs = j.recs ∧ j.recs.length ≤ 30) ∧ Aside0 (KD W0 gd gn gx bn bx d wx))
    case first =>
      go_wp2_with (fail)
      go_loopw [41] (fun i wr => ∃ (k age : Nat) (d : Dv) (j : Jn) (bn bx : Bx) (Ar : Option Addr) (cr : Nat), i = .int .i64 (k : Int) ∧ k ≤ os.length ∧ Aside0 (Stand d j age [] ∧ age ≤ k + 1 ∧ d.down = false ∧ Fk d (16 + 200000 * k) ∧ BtD d ∧ bn.snap = j.snap ∧ bn.recs = j.recs ∧ j.recs.length ≤ k) ∧ Aside0 (KB W0 B gd gj gn gx Ar cr bn bx d j wr)) (fun i _ => os.length - (intOf i).toNat)
      case atStart => exact ⟨0, 1, ⟨a16, [], 30000, x1, false, 16⟩, j17, ⟨none, 0, none, 0, [], [], []⟩, ⟨none, 0, none, 0, [], [], []⟩, Ar0, cr0, rfl, Nat.zero_le _, ⟨stand_new _ _ _ _, by decide, rfl, { cap := rfl, row := fun r => by unfold Dv.row; (repeat' split) <;> simp [a16], l0 := by have := HM.out.1; show -1 ≤ x1; omega, l1 := by have := HM.out.1; show x1 ≤ 16383; omega, t0 := by show (0 : Int) ≤ 16; decide, t1 := by show (16 : Int) ≤ 16 + 200000 * 0; decide }, ⟨bts_a16, bts_nil⟩, rfl, rfl, Nat.zero_le _⟩, ⟨{ below := S6.out.2.2.1, dd := S6.out.1, jj := S6.out.2.1, kn := ⟨S6.out.2.2.2.1, Kd.C_nil _ _, Kd.R_nil _ _ _ _ _, rfl, fun i o x ho => by simp at ho⟩, kx := ⟨S6.out.2.2.2.2, Kd.C_nil _ _, Kd.R_nil _ _ _ _ _, rfl, fun i o x ho => by simp at ho⟩, h0 := hWB, hd := hge3, hn := hs5, hx := hsx, ne := hnx, an := fun ad ad' _ e => by simp at e, ax := fun ad ad' _ e => by simp at e }⟩⟩
      case round =>
        obtain ⟨k, age, d, j, bn, bx, Ar, cr, rfl, hk, HD, HW⟩ := hrel
        by_cases hlt : k < os.length
        · obtain ⟨o, ho⟩ : ∃ o, os[k]? = some o := ⟨_, List.getElem?_eq_getElem hlt⟩
          obtain ⟨q, l⟩ := o
          have hBl : Bts l := G.out (q, l) (List.mem_of_getElem? ho)
          obtain ⟨ad, A3, c3, eA, e0, e3, hc3, hC3⟩ := op7_at M.out hlt ho
          subst eA
          replace e0 := (HW.out.below.cell (World.block_lt_of_cell? W0 _ e0)).trans e0
          replace e3 := (HW.out.below.cell (World.block_lt_of_cell? W0 _ e3)).trans e3
          have hllt : (k : Int) < (os.length : Int) := by omega
          have htt := tot7_take ho
          simp only at htt
          have hl5 : l.length ≤ 20000 := by
            have h1 := tot7_le os (k + 1)
            have h2 := HT.out
            omega
          have HX := Aside0.mk (And.intro hBl hC3)
          have hs8 : W0.heap.size ≤ wr.heap.size := HW.out.below.size
          clear ho hC3 htt hBl
          obtain ⟨z0, z1, z2, z3, z4, z5, z6, z7⟩ := xj_cells HW.out.kn.box
          have hgnl := lt_of_some HW.out.kn.box
          have hgxl := lt_of_some HW.out.kx.box
          have hb8 : Below wr.heap.size wr (wr.alloc (.cells (op7Cells q A3 l.length c3) 34)) := below_alloc (Below.refl _ _) _
          have hx8 : (wr.alloc (.cells (op7Cells q A3 l.length c3) 34)).heap[wr.heap.size]? = some (.cells (op7Cells q A3 l.length c3) 34 (0, 0)) := blk_new wr _
          have H8 := Aside0.mk (And.intro hx8 (HW.out.step hb8))
          clear hx8 hb8
          go_upto_block 2 with ((with_reducible refine gate_store (t := 38) (p := 11) (v := .tmp 45) rfl ?_); refine wpList_store_agg rfl rfl 38 (.tmp 11) (.tmp 45) rfl gx 38 _ (xjCells bn.A bn.snap.length bn.c bn.Ar bn.recs.length bn.cr) rfl rfl H8.out.2.kx.box info_xj rfl (by intro v hv; simp at hv; rcases hv with rfl | rfl | rfl | rfl | rfl | rfl | rfl | rfl <;> rfl) ?_; intro w9 hr9 hf9 hz9 ho9 ht9 hu9; have m9 : w9.heap[wr.heap.size]? = some (.cells (op7Cells q A3 l.length c3) 34 (0, 0)) := (hf9 _ (by omega)).trans H8.out.1; obtain ⟨m0, m1⟩ := op7_cells m9; have S9 := Aside0.mk (And.intro m9 (H8.out.2.store (b := bn) hr9 (oth_of2 hf9 hz9 ho9 ht9 hu9) H8.out.2.kn.snap H8.out.2.kn.row H8.out.2.kn.rows H8.out.2.an)); clear hr9 hf9 hz9 ho9 ht9 hu9 m9)
          go_cut [14] (fun s14 wx => ∃ (g : Int) (age' : Nat) (d' : Dv) (j' : Jn) (bz : Bx) (Ar' : Option Addr) (cr' : Nat) (tail : List Int), s14 = .int .i64 g ∧ Aside0 (Fk d' (16 + 200000 * (k + 1)) ∧ BtD d' ∧ ((g ≠ 30 ∧ Stand d' j' age' [] ∧ age' ≤ k + 2 ∧ d'.down = false ∧ bz.snap = j'.snap ∧ bz.recs = j'.recs ∧ j'.recs.length ≤ k + 1) ∨ (g = 30 ∧ Stand d' j' age' tail ∧ bn.snap = j'.snap ∧ bn.recs = j'.recs ∧ j'.recs.length ≤ k))) ∧ Aside0 (KB W0 B gd gj gn gx Ar' cr' bn bz d' j' wx))
          case first =>
            have hq : (q = 0 ∨ q = 1 ∨ q = 2) ∨ q = 3 ∨ (q ≠ 0 ∧ q ≠ 1 ∧ q ≠ 2 ∧ q ≠ 3) := by omega
            rcases hq with hq | rfl | ⟨n0, n1, n2, n3⟩
            · have hfk := HD.out.2.2.2.1.appendJ j l
              have hbt := HD.out.2.2.2.2.1.appendJ j HX.out.1
              obtain ⟨⟨d', j', e'⟩, hx⟩ : ∃ x, appendJ d j l = x := ⟨_, rfl⟩
              have hst := HD.out.1.append HD.out.2.2.1 l hx
              rw [hx] at hfk hbt
              have hfin := HD.out.1.fin_le HD.out.2.2.2.1
              have HP := Aside0.mk (And.intro hfk (And.intro hbt (And.intro hst (And.intro hx hfin))))
              clear hfk hbt hst hx hfin
              go_step
              go_step
              go_cut [48] (fun s48 wx => s48 = .bool true ∧ w9 = wx)
              case first =>
                rcases hq with rfl | rfl | rfl
                all_goals
                  go_wp2_with (fail)
                  go_meet
                  exact ⟨rfl, rfl⟩
              case rest =>
                obtain ⟨rfl, rfl⟩ := hcut
                go_wp2_with (fail)
                refine (JAppend_calls gj gd B Ar cr j d A3 c3 l _ _ HP.out.2.2.2.1 S9.out.2.jj S9.out.2.dd (Nat.le_of_lt S9.out.2.jj.lt7) (S9.out.2.given HX.out.2) hc3 (by omega) (HD.out.2.2.2.1.fit (by omega) (by omega)) (by have := HD.out.2.2.2.2.2.2.2; omega) HP.out.2.2.2.2.1 (by have := HP.out.2.2.2.2.2; omega)).mono ?_
                rintro e w10 hp
                obtain ⟨Ar', cr', K10⟩ := S9.out.2.app hp
                have m10 := hp.2.2.2.blk S9.out.1 (no_JP S9.out.2.jj S9.out.2.dd S9.out.1 (by decide) (by decide) (by decide) (.inl (by decide)))
                obtain ⟨p0, p1⟩ := op7_cells m10
                have he := hp.1
                simp only at he
                subst he
                have S10 := Aside0.mk (And.intro m10 K10)
                clear m10 K10 hp S9
                rcases HP.out.2.2.1 with ⟨h1, h2, h3⟩ | h3
                · have HE := Aside0.mk (And.intro h1 h2)
                  clear h1 h2
                  rcases h3 with rfl | rfl
                  all_goals
                    go_wp2_with (fail)
                    go_meet
                    exact ⟨_, age, d', j', bn, Ar', cr', [], rfl, ⟨HP.out.1.wide (by omega), HP.out.2.1, .inl ⟨by decide, by rw [HE.out.1, HE.out.2]; exact HD.out.1, by have := HD.out.2.1; omega, by rw [HE.out.1]; exact HD.out.2.2.1, by rw [HE.out.2]; exact HD.out.2.2.2.2.2.1, by rw [HE.out.2]; exact HD.out.2.2.2.2.2.2.1, by rw [HE.out.2]; have := HD.out.2.2.2.2.2.2.2; omega⟩⟩, ⟨S10.out.2⟩⟩
                · have ha : (e' != 2) = true ∧ (e' != 6) = true := by rcases h3 with ⟨rfl, _⟩ | ⟨rfl, _⟩ <;> decide
                  obtain ⟨a1, a2⟩ := ha
                  have hq3 : ∃ age' tail, (e' ≠ 30 ∧ Stand d' j' age' [] ∧ age' ≤ k + 2 ∧ d'.down = false ∧ bn.snap = j'.snap ∧ bn.recs ++ [l] = j'.recs ∧ j'.recs.length ≤ k + 1) ∨ (e' = 30 ∧ Stand d' j' age' tail ∧ bn.snap = j'.snap ∧ bn.recs = j'.recs ∧ j'.recs.length ≤ k) := by
                    obtain ⟨q1, q2, q3, q4, q5, q6, q7, q8⟩ := HD.out
                    rcases h3 with ⟨r1, r2, r3, r4, r5, r6, r7⟩ | ⟨r1, r2, r3, r4, r5, tail, r6⟩
                    · exact ⟨age, [], .inl ⟨by omega, r7, by omega, r2, q6.trans r5.symm, by rw [r6, q7], by rw [r6, List.length_append, List.length_singleton]; omega⟩⟩
                    · refine ⟨age, tail, Or.inr ?_⟩
                      rw [r5]
                      exact ⟨r1, r6, q6, q7, q8⟩
                  have H3 := Aside0.mk hq3
                  clear hq3
                  obtain ⟨y0, y1, y2, y3, y4, y5, y6, y7⟩ := xj_cells S10.out.2.kn.box
                  have hg1 := lt_of_some S10.out.2.kn.box
                  have hg2 := lt_of_some S10.out.2.kx.box
                  have hg3 := lt_of_some S10.out.1
                  have f6 := blk_frozen S10.out.2.kx.box 6
                  have d6 := (xj_cells S10.out.2.kx.box).2.2.2.2.2.2.1
                  clear h3
                  have D6 := Aside0.mk (And.intro d6 f6)
                  go_upto_region 22 with (fail)
                  have BB : Aside0 (Below w10.heap.size w10 w10.drew) := ⟨⟨rfl, rfl, rfl, Nat.le_refl _, fun _ _ => rfl⟩⟩
                  have hn1 : ([] ++ bn.os ++ [((A3, l.length, c3) : Sl)]).length = bn.recs.length + 1 := by simp [S10.out.2.kn.rows.1]
                  have HM9 := Lib.hid hn1
                  have hrl : bn.recs.length ≤ 30 := by rw [HD.out.2.2.2.2.2.2.1]; have := HD.out.2.2.2.2.2.2.2; omega
                  have hn2 : (([] : List Sl).length + bn.recs.length) * 24 ≤ 140737488355328 := by simp; omega
                  have hn3 : (([] ++ bn.os : List Sl).length + 1) * 24 ≤ 140737488355328 := by simp [S10.out.2.kn.rows.1]; omega
                  have HN := Lib.hid hn2
                  have HN1 := Lib.hid hn3
                  clear hn1 hn2 hn3 hrl
                  go_region_law (first
                    | (refine Kd.R_append_rows_step KSl (w0 := w10) w10.heap.size (by rfl) (.tmp 62) (.tmp 64) 36 32 (.slice none 0 0) 24 rfl Try.underlying36 info_sl36 rfl (by decide) (by omega) (.slice (some ⟨w10.heap.size, 0, none⟩) 0 0) [] bn.os bn.Ar bn.recs.length bn.cr (fun _ => True) (fun _ => False) (by rfl) (by rfl) ?HO (R_C7 (Kd.R_below S10.out.2.kn.row ?HB)) (fun _ _ h => h) (fun _ h => h.elim) (fun _ _ => trivial) ?HB (below_size ?HB) ?hl ?_; (case HB => first | exact bd1 _ | exact bd2 _ _); (case HO => first | exact R_empty7 (blk_new w10 _) (Nat.le_refl _) | exact R_empty7 (blk_alloc (blk_new w10 _) _) (Nat.le_refl _) | exact R_empty7 (blk_new2 w10 _ _) (Nat.le_succ _)); (case hl => exact HN.out); intro v65 x65 ho65 hb65 hg65 hat65; have V65 := Aside0.mk ho65; have BB := Aside0.mk hb65; have d6 := (BB.out.cell (p := ⟨gx, 6, none⟩) hg2).trans d6; have p1 := (BB.out.cell (p := ⟨wr.heap.size, 1, none⟩) hg3).trans p1; have hg3' : wr.heap.size < x65.heap.size := (Nat.lt_of_lt_of_le hg3 BB.out.size); have G65 := Aside0.mk hg65; clear ho65 hb65 hg65 hat65)
                    | (refine Kd.R_append_rows_step KSl (w0 := w10) w10.heap.size (by rfl) (.tmp 62) (.tmp 64) 36 32 (.slice none 0 0) 24 rfl Try.underlying36 info_sl36 rfl (by decide) (by omega) (.slice (some ⟨w10.heap.size + 1, 0, none⟩) 0 0) [] bn.os bn.Ar bn.recs.length bn.cr (fun _ => True) (fun _ => False) (by rfl) (by rfl) ?HO (R_C7 (Kd.R_below S10.out.2.kn.row ?HB)) (fun _ _ h => h) (fun _ h => h.elim) (fun _ _ => trivial) ?HB (below_size ?HB) ?hl ?_; (case HB => first | exact bd1 _ | exact bd2 _ _); (case HO => first | exact R_empty7 (blk_new w10 _) (Nat.le_refl _) | exact R_empty7 (blk_alloc (blk_new w10 _) _) (Nat.le_refl _) | exact R_empty7 (blk_new2 w10 _ _) (Nat.le_succ _)); (case hl => exact HN.out); intro v65 x65 ho65 hb65 hg65 hat65; have V65 := Aside0.mk ho65; have BB := Aside0.mk hb65; have d6 := (BB.out.cell (p := ⟨gx, 6, none⟩) hg2).trans d6; have p1 := (BB.out.cell (p := ⟨wr.heap.size, 1, none⟩) hg3).trans p1; have hg3' : wr.heap.size < x65.heap.size := (Nat.lt_of_lt_of_le hg3 BB.out.size); have G65 := Aside0.mk hg65; clear ho65 hb65 hg65 hat65)
                    | (refine Kd.R_append_step KSl (w0 := w10) (W := x65) w10.heap.size (by rfl) (.tmp 65) (.tmp 68) 36 32 (.slice none 0 0) 24 rfl Try.underlying36 info_sl36 rfl (by decide) (by omega) v65 ([] ++ bn.os) (A3, l.length, c3) [.slice A3 l.length c3] (fun _ => True) (fun _ => False) (by rfl) (by rfl) rfl (fun _ hk => hk.elim) (fun _ _ => trivial) V65.out BB.out ?hs1 ?hs2 ?_; (case hs1 => exact BB.out.size); (case hs2 => exact HN1.out); intro v69 x69 ho69 hb69 hg69 hat69; obtain ⟨A69, c69, e69⟩ := Kd.R_slice ho69; subst e69; rw [HM9.out] at ho69; rw [HM9.out]; have V69 := Aside0.mk ho69; have BX := Aside0.mk hb69; have d6 := (BX.out.cell (p := ⟨gx, 6, none⟩) hg2).trans D6.out.1; have f6 := (BX.out.frozen (p := ⟨gx, 6, none⟩) hg2).trans D6.out.2; have hg2' : gx < x69.heap.size := (Nat.lt_of_lt_of_le hg2 BX.out.size); clear ho69 hb69 hg69 hat69)
                    | (refine Kd.R_append_rows_step KSl (w0 := w10) (W := x65) w10.heap.size (by rfl) (.tmp 65) (.tmp 68) 36 32 (.slice none 0 0) 24 rfl Try.underlying36 info_sl36 rfl (by decide) (by omega) v65 ([] ++ bn.os) [((A3, l.length, c3) : Sl)] (some ⟨w10.heap.size + 1, 0, none⟩) 1 1 (fun _ => True) (fun _ => False) (by rfl) (by rfl) V65.out (C_row (d := KSl) (xs := [((A3, l.length, c3) : Sl)]) (keep_lit (k := w10.heap.size + 1) G65.out (blk_new2 w10 _ _) (Nat.succ_ne_self _)) (Reps.one rfl (Reps.none _ _)) (by simp)) (fun _ _ h => h) (fun _ h => h.elim) (fun _ _ => trivial) BB.out ?hs1 ?hs2 ?_; (case hs1 => exact BB.out.size); (case hs2 => exact HN1.out); intro v69 x69 ho69 hb69 hg69 hat69; obtain ⟨A69, c69, e69⟩ := Kd.R_slice ho69; subst e69; rw [HM9.out] at ho69; rw [HM9.out]; have V69 := Aside0.mk ho69; have BX := Aside0.mk hb69; have d6 := (BX.out.cell (p := ⟨gx, 6, none⟩) hg2).trans D6.out.1; have f6 := (BX.out.frozen (p := ⟨gx, 6, none⟩) hg2).trans D6.out.2; have hg2' : gx < x69.heap.size := (Nat.lt_of_lt_of_le hg2 BX.out.size); clear ho69 hb69 hg69 hat69)
                    | (refine Kd.R_append_rows_step KSl (w0 := w10) (W := x65) w10.heap.size (by rfl) (.tmp 65) (.tmp 68) 36 32 (.slice none 0 0) 24 rfl Try.underlying36 info_sl36 rfl (by decide) (by omega) v65 ([] ++ bn.os) [((A3, l.length, c3) : Sl)] (some ⟨w10.heap.size, 0, none⟩) 1 1 (fun _ => True) (fun _ => False) (by rfl) (by rfl) V65.out (C_row (d := KSl) (xs := [((A3, l.length, c3) : Sl)]) (keep_lit (k := w10.heap.size) G65.out (blk_alloc (blk_new w10 _) _) (Nat.succ_ne_self _).symm) (Reps.one rfl (Reps.none _ _)) (by simp)) (fun _ _ h => h) (fun _ h => h.elim) (fun _ _ => trivial) BB.out ?hs1 ?hs2 ?_; (case hs1 => exact BB.out.size); (case hs2 => exact HN1.out); intro v69 x69 ho69 hb69 hg69 hat69; obtain ⟨A69, c69, e69⟩ := Kd.R_slice ho69; subst e69; rw [HM9.out] at ho69; rw [HM9.out]; have V69 := Aside0.mk ho69; have BX := Aside0.mk hb69; have d6 := (BX.out.cell (p := ⟨gx, 6, none⟩) hg2).trans D6.out.1; have f6 := (BX.out.frozen (p := ⟨gx, 6, none⟩) hg2).trans D6.out.2; have hg2' : gx < x69.heap.size := (Nat.lt_of_lt_of_le hg2 BX.out.size); clear ho69 hb69 hg69 hat69))
                  all_goals
                    have K11 := Aside0.mk (S10.out.2.more BX.out rfl V69.out HX.out.2 hc3)
                    go_wp2_with (fail)
                    go_meet
                    obtain ⟨age', tail, h3⟩ := H3.out
                    exact ⟨_, age', d', j', _, Ar', cr', tail, rfl, ⟨HP.out.1.wide (by omega), HP.out.2.1, h3⟩, K11⟩
            · have hfk := HD.out.2.2.2.1.compactJ j l hl5
              have hag := HD.out.1.ag
              have hag1 := HD.out.2.1
              have hbt := HD.out.2.2.2.2.1.compactJ j HX.out.1 (by omega) (by omega) (by omega)
              have hrg := HD.out.1.reg
              obtain ⟨⟨d', j', e'⟩, hx⟩ : ∃ x, compactJ d j l = x := ⟨_, rfl⟩
              have hst := HD.out.1.compact (by omega) HD.out.2.2.1 l hl5 hx
              rw [hx] at hfk hbt
              have HP := Aside0.mk (And.intro hfk (And.intro hbt (And.intro hst (And.intro hx (And.intro hag (And.intro hag1 hrg))))))
              clear hfk hbt hst hx hag hag1 hrg
              go_wp2_with (fail)
              refine (JCompact_calls gj gd B Ar cr j d A3 c3 l.length l _ _ HP.out.2.2.2.1 rfl S9.out.2.jj S9.out.2.dd (Nat.le_of_lt S9.out.2.jj.lt7) (S9.out.2.given HX.out.2) hc3 (by omega) (by have := HP.out.2.2.2.2; omega) (by have := HP.out.2.2.2.2; omega) HP.out.2.2.2.2.2.2 (HD.out.2.2.2.1.fit (by omega) (by omega))).mono ?_
              rintro e w10 hp
              obtain ⟨Ar', cr', K10⟩ := S9.out.2.app hp
              have m10 := hp.2.2.2.blk S9.out.1 (no_JP S9.out.2.jj S9.out.2.dd S9.out.1 (by decide) (by decide) (by decide) (.inl (by decide)))
              obtain ⟨p0, p1⟩ := op7_cells m10
              have he := hp.1
              simp only at he
              subst he
              have S10 := Aside0.mk (And.intro m10 K10)
              clear m10 K10 hp S9
              rcases HP.out.2.2.1 with ⟨h1, h2, rfl⟩ | h3
              · have HE := Aside0.mk (And.intro h1 h2)
                clear h1 h2
                go_wp2_with (fail)
                go_meet
                exact ⟨_, age, d', j', bn, Ar', cr', [], rfl, ⟨HP.out.1.wide (by omega), HP.out.2.1, .inl ⟨by decide, by rw [HE.out.1, HE.out.2]; exact HD.out.1, by have := HD.out.2.1; omega, by rw [HE.out.1]; exact HD.out.2.2.1, by rw [HE.out.2]; exact HD.out.2.2.2.2.2.1, by rw [HE.out.2]; exact HD.out.2.2.2.2.2.2.1, by rw [HE.out.2]; have := HD.out.2.2.2.2.2.2.2; omega⟩⟩, ⟨S10.out.2⟩⟩
              · have a1 : (e' != 6) = true := by rcases h3 with ⟨rfl, _⟩ | ⟨rfl, _⟩ <;> decide
                have hq3 : ∃ age' tail, (e' ≠ 30 ∧ Stand d' j' age' [] ∧ age' ≤ k + 2 ∧ d'.down = false ∧ l = j'.snap ∧ [] = j'.recs ∧ j'.recs.length ≤ k + 1) ∨ (e' = 30 ∧ Stand d' j' age' tail ∧ bn.snap = j'.snap ∧ bn.recs = j'.recs ∧ j'.recs.length ≤ k) := by
                  obtain ⟨q1, q2, q3, q4, q5, q6, q7, q8⟩ := HD.out
                  rcases h3 with ⟨r1, r2, r3, r4, r5, r6⟩ | ⟨r1, r2, r3, r4, r5⟩
                  · exact ⟨age + 1, [], Or.inl ⟨by omega, r6, by omega, r2, r4.symm, r5.symm, by rw [r5]; simp⟩⟩
                  · refine ⟨age, [], Or.inr ?_⟩
                    rw [r4]
                    exact ⟨r1, r5, q6, q7, q8⟩
                have H3 := Aside0.mk hq3
                clear hq3 h3
                go_wp2_with ((with_reducible refine gate_store (t := 38) (p := 11) (v := .tmp 81) rfl ?_); refine wpList_store_agg rfl rfl 38 (.tmp 11) (.tmp 81) rfl gx 38 _ (xjCells A3 l.length c3 none 0 0) rfl rfl S10.out.2.kx.box info_xj rfl (by intro v hv; simp at hv; rcases hv with rfl | rfl | rfl | rfl | rfl | rfl | rfl | rfl <;> rfl) ?_; intro w11 hr9 hf9 hz9 ho9 ht9 hu9; have S11 := Aside0.mk (S10.out.2.store (b := ⟨A3, c3, none, 0, [], l, []⟩) hr9 (oth_of2 hf9 hz9 ho9 ht9 hu9) HX.out.2 (Kd.R_nil _ _ _ _ _) ⟨rfl, fun i o x ho => by simp at ho⟩ (fun _ _ _ e => by simp at e)); clear hr9 hf9 hz9 ho9 ht9 hu9)
                go_meet
                obtain ⟨age', tail, h3⟩ := H3.out
                exact ⟨_, age', d', j', _, Ar', cr', tail, rfl, ⟨HP.out.1.wide (by omega), HP.out.2.1, h3⟩, S11⟩
            · go_wp2_with (fail)
              go_meet
              exact ⟨0, age, d, j, bn, Ar, cr, [], rfl, ⟨HD.out.2.2.2.1.wide (by omega), HD.out.2.2.2.2.1, .inl ⟨by decide, HD.out.1, by have := HD.out.2.1; omega, HD.out.2.2.1, HD.out.2.2.2.2.2.1, HD.out.2.2.2.2.2.2.1, by have := HD.out.2.2.2.2.2.2.2; omega⟩⟩, ⟨S9.out.2⟩⟩
          case rest =>
            obtain ⟨g, age', d', j', bz, Ar', cr', tail, rfl, HD', HW'⟩ := hcut
            rcases HD'.out.2.2 with ⟨g30, q1, q2, q3, q4, q5, q6⟩ | ⟨rfl, q1, q2, q3, q4⟩
            · obtain ⟨bA, bc, bAr, bcr, bos, bsn, brc⟩ := bz
              simp only at q4 q5
              subst q4
              subst q5
              obtain ⟨ns, hns⟩ : ∃ n, j'.snap.length = n := ⟨_, rfl⟩
              obtain ⟨nr, hnr⟩ : ∃ n, j'.recs.length = n := ⟨_, rfl⟩
              have a1 : (g == 30) = false := by rw [beq_eq_false_iff_ne]; exact g30
              have HQ := Aside0.mk (And.intro q1 (And.intro q2 (And.intro q3 (And.intro q6 (And.intro hns hnr)))))
              have hbx := HW'.out.kx.box
              simp only [hns, hnr] at hbx
              obtain ⟨z0, z1, z2, z3, z4, z5, z6, z7⟩ := xj_cells hbx
              clear hbx q1 q2 q3 q6 hns hnr g30
              go_upto_region 29 with ((with_reducible refine gate_store (t := 38) (p := 10) (v := .tmp 84) rfl ?_); refine wpList_store_agg rfl rfl 38 (.tmp 10) (.tmp 84) rfl gn 38 _ (xjCells bA ns bc bAr nr bcr) rfl rfl HW'.out.kn.box info_xj rfl (by intro v hv; simp at hv; rcases hv with rfl | rfl | rfl | rfl | rfl | rfl | rfl | rfl <;> rfl) ?_; intro w12 hr9 hf9 hz9 ho9 ht9 hu9; have S12 := Aside0.mk (And.intro hr9 (HW'.out.storeN (b := ⟨bA, bc, bAr, bcr, bos, j'.snap, j'.recs⟩) (by simp only [HQ.out.2.2.2.2.1, HQ.out.2.2.2.2.2]; exact hr9) (oth_of2 hf9 hz9 ho9 ht9 hu9) HW'.out.kx.snap HW'.out.kx.row HW'.out.kx.rows HW'.out.ax)); clear hr9 hf9 hz9 ho9 ht9 hu9)
              clear z0 z1 z2 z3 z4 z5 z6 z7
              obtain ⟨z0, z1, z2, z3, z4, z5, z6, z7⟩ := xj_cells S12.out.1
              go_region_held3 (fun w' => w'.cell? ⟨gn, 0, none⟩ = some (.slice none 0 0) ∧ w'.cell? ⟨gn, 1, none⟩ = some (.slice none 0 0) ∧ w'.cell? ⟨gn, 2, none⟩ = some (.int .i64 0) ∧ w'.cell? ⟨gn, 3, none⟩ = some (.int .i64 0) ∧ w'.cell? ⟨gn, 4, none⟩ = some (.int .u64 0) ∧ w'.cell? ⟨gn, 5, none⟩ = some (.slice bA ns bc) ∧ w'.cell? ⟨gn, 6, none⟩ = some (.slice bAr nr bcr) ∧ w'.cell? ⟨gn, 7, none⟩ = some (.int .i64 0)) (first | (with_reducible exact KK.out) | go_keep)
                (first
                  | (go_at_call 14; refine (has_eq gj gd B Ar' cr' j' ns nr _ S12.out.2.drew.jj HQ.out.2.2.2.2.1 HQ.out.2.2.2.2.2 (by have := HQ.out.1.sn; have := HQ.out.2.2.2.2.1; omega) (by have := HQ.out.2.2.2.1; have := HQ.out.2.2.2.2.2; omega) (fun x hx => by have := HQ.out.1.rc x hx; omega)).mono ?_; rintro e w13 ⟨As, cs, A1, c1, rfl, hh, hb⟩; have K13 := S12.out.2.drew.step hb; have hbn := K13.kn.box; simp only [HQ.out.2.2.2.2.1, HQ.out.2.2.2.2.2] at hbn; have S13 := Aside0.mk (And.intro hh K13); have KK := Aside0.mk (xj_cells hbn); clear hh hb hbn K13)
                  | (go_at_call 19; refine (Same7_xs As cs A1 c1 bA bc bAr bcr j'.snap j'.recs ns nr HQ.out.2.2.2.2.1 HQ.out.2.2.2.2.2 _ S13.out.1.C.1 (S13.out.2.kn.C S13.out.2.below).1 S13.out.1.C.2 (S13.out.2.kn.C S13.out.2.below).2).mono ?_; rintro e w14 ⟨rfl, hb⟩; have K14 := S13.out.2.step hb; have hbn := K14.kn.box; simp only [HQ.out.2.2.2.2.1, HQ.out.2.2.2.2.2] at hbn; have S14 := Aside0.mk K14; have KK := Aside0.mk (xj_cells hbn); clear hb hbn K14))
              all_goals
                go_wp2_with (fail)
                exact ⟨⟨k + 1, age', d', j', ⟨bA, bc, bAr, bcr, bos, j'.snap, j'.recs⟩, ⟨bA, bc, bAr, bcr, bos, j'.snap, j'.recs⟩, Ar', cr', by go_num, by omega, ⟨HQ.out.1, by have := HQ.out.2.1; omega, HQ.out.2.2.1, HD'.out.1.wide (by push_cast; omega), HD'.out.2.1, rfl, rfl, HQ.out.2.2.2.1⟩, S14⟩, by simp [intOf]; omega⟩
            · go_wp2_with (fail)
              go_meet
              exact ⟨age', d', j', bn, bz, tail, ⟨q1, HD'.out.1.wide (by omega), HD'.out.2.1, q2, q3, by omega⟩, ⟨HW'.out.kd⟩⟩
        · obtain rfl : k = os.length := by omega
          go_wp2_with (fail)
          go_meet
          exact ⟨age, d, j, bn, bx, [], ⟨HD.out.1, HD.out.2.2.2.1.wide (by omega), HD.out.2.2.2.2.1, HD.out.2.2.2.2.2.1, HD.out.2.2.2.2.2.2.1, by have := HD.out.2.2.2.2.2.2.2; omega⟩, ⟨HW.out.kd⟩⟩
    case rest =>
      obtain ⟨age, d, j, bn, bx, tail, HD, HW⟩ := hcut
      obtain ⟨bA, bc, bAr, bcr, bos, bsn, brc⟩ := bn
      obtain ⟨q1, q2, q3, q4, q5, q6⟩ := HD.out
      simp only at q4 q5
      subst q4
      subst q5
      obtain ⟨ns, hns⟩ : ∃ n, j.snap.length = n := ⟨_, rfl⟩
      obtain ⟨nr, hnr⟩ : ∃ n, j.recs.length = n := ⟨_, rfl⟩
      have HQ := Aside0.mk (And.intro hns (And.intro hnr (And.intro q6 (And.intro q1.sn q1.rc))))
      obtain ⟨d1, e1, ho1⟩ := (q1.same (d' := cutD (restD d) x2) (fun r => rfl)).opn (T := 16 + 200000 * 31) rfl (q2.rest.cut HM.out.2.1 (by have := HM.out.2.2; omega)) (q3.rest.cut _)
      have HO := Aside0.mk (And.intro ho1 (And.intro (q2.rest.cut HM.out.2.1 (by have := HM.out.2.2; omega)) (q3.rest.cut x2)))
      clear HD q1 q2 q3 q6 hns hnr ho1
      go_wp2_with (fail)
      refine (Restore_eq gd d _ _ rfl HW.out.dd).mono ?_
      rintro e w20 ⟨rfl, hd20, ho20⟩
      have S20 := Aside0.mk (HW.out.dev hd20 ho20)
      clear hd20 ho20
      go_wp2_with (fail)
      refine (Cut_eq gd (restD d) _ x2 _ rfl S20.out.dd).mono ?_
      rintro e w21 ⟨rfl, hd21, ho21⟩
      have S21 := Aside0.mk (S20.out.dev hd21 ho21)
      clear hd21 ho21
      go_wp2_with (fail)
      refine (JOpen_calls gd _ _ _ HO.out.1.run S21.out.dd (HO.out.2.1.fit (by omega) (by omega)) HO.out.2.2.a HO.out.2.2.b).mono ?_
      intro e w22 ho
      obtain ⟨hd22, hb22, p, rfl, hp⟩ := ho.two
      have S22 := Aside0.mk (And.intro (S21.out.but hd22 hb22) hp)
      clear hd22 hb22 ho hp
      go_upto_if 103 with (fail)
      go_cut [15, 16] (fun s15 s16 wx => ∃ (d2 : Dv) (gk Bk : Nat) (Ark : Option Addr) (crk : Nat), s15 = .pointer (some ⟨gk, 0, none⟩) ∧ s16 = .int .i64 0 ∧ Aside0 (Stand d2 j age [] ∧ Fk d2 (16 + 200000 * 32) ∧ BtD d2) ∧ Aside0 (KD W0 gd gn gx ⟨bA, bc, bAr, bcr, bos, j.snap, j.recs⟩ bx d2 wx ∧ JAt wx Bk gk gd Ark crk j))
      case first =>
        rcases HO.out.1.res with ⟨rfl, r1, r2⟩ | ⟨rfl, r1, tail', r2⟩
        · obtain ⟨gk, Ark, crk, rfl, hj⟩ := S22.out.2 rfl
          go_wp2_with (fail)
          go_meet
          exact ⟨d1, gk, _, Ark, crk, rfl, rfl, ⟨r2, HO.out.1.fk.wide (by omega), HO.out.1.bt⟩, ⟨S22.out.1, hj⟩⟩
        · have hf1 := HO.out.1.fk.rest
          obtain ⟨d2, e2, ho2⟩ := (r2.same (d' := restD d1) (fun r => rfl)).opn rfl hf1 HO.out.1.bt.rest
          obtain ⟨_, rfl⟩ := ho2.up (by show (-1 : Int) < 0; decide)
          have HO2 := Aside0.mk (And.intro ho2 hf1)
          clear ho2 hf1 r1 r2
          go_wp2_with (fail)
          refine (Restore_eq gd d1 _ _ rfl S22.out.1.dd).mono ?_
          rintro e w23 ⟨rfl, hd23, ho23⟩
          have S23 := Aside0.mk (S22.out.1.dev hd23 ho23)
          clear hd23 ho23
          go_wp2_with (fail)
          refine (JOpen_calls gd _ _ _ HO2.out.1.run S23.out.dd (HO2.out.2.fit (by omega) (by omega)) HO.out.1.bt.a HO.out.1.bt.b).mono ?_
          intro e w24 ho
          obtain ⟨hd24, hb24, gk, Ark, crk, rfl, hj⟩ := ho.ok
          have S24 := Aside0.mk (And.intro (S23.out.but hd24 hb24) hj)
          clear hd24 hb24 ho hj
          go_wp2_with (fail)
          go_meet
          exact ⟨d2, gk, _, Ark, crk, rfl, rfl, ⟨by
            rcases HO2.out.1.res with ⟨_, _, h⟩ | ⟨h, _⟩
            · exact h
            · exact absurd h (by decide), HO2.out.1.fk.wide (by omega), HO2.out.1.bt⟩, S24⟩
      case rest =>
        obtain ⟨d2, gk, Bk, Ark, crk, rfl, rfl, HD2, HW2⟩ := hcut
        have hf3 := HD2.out.2.1.rest
        obtain ⟨d3, e3, ho3⟩ := (HD2.out.1.same (d' := restD d2) (fun r => rfl)).opn rfl hf3 HD2.out.2.2.rest
        obtain ⟨_, rfl⟩ := ho3.up (by show (-1 : Int) < 0; decide)
        have HO3 := Aside0.mk (And.intro ho3 hf3)
        clear ho3 hf3
        go_wp2_with (fail)
        refine (Restore_eq gd d2 _ _ rfl HW2.out.1.dd).mono ?_
        rintro e w30 ⟨rfl, hd30, ho30⟩
        have S30 := Aside0.mk (HW2.out.1.jdev HW2.out.2 hd30 ho30)
        clear hd30 ho30
        go_wp2_with (fail)
        refine (has_eq gk gd Bk Ark crk j ns nr _ S30.out.2 HQ.out.1 HQ.out.2.1 (by have := HQ.out; omega) (by have := HQ.out; omega) (fun x hx => by have := HQ.out.2.2.2.2 x hx; omega)).mono ?_
        rintro e w31 ⟨As, cs, A1, c1, rfl, hh31, hb31⟩
        have hgd30 := S30.out.1.dd.lt
        have S31 := Aside0.mk (And.intro (S30.out.1.step hb31) hh31)
        clear hh31 hb31
        generalize w30.heap.size = B1 at *
        go_wp2_with (fail)
        have hbx := below_alloc (Below.refl _ w31) (.cells (xjCells As ns cs A1 nr c1) 38)
        have hnx := blk_new w31 (.cells (xjCells As ns cs A1 nr c1) 38)
        have K32 := S31.out.1.step hbx
        have S32 := Aside0.mk (And.intro K32 (And.intro (S31.out.2.below hbx) hnx))
        clear hbx hnx K32
        generalize w31.alloc (.cells (xjCells As ns cs A1 nr c1) 38) = w32 at *
        generalize w31.heap.size = gg at *
        refine (JOpen_calls gd _ _ _ HO3.out.1.run S32.out.1.dd (HO3.out.2.fit (by omega) (by omega)) HD2.out.2.2.a HD2.out.2.2.b).mono ?_
        intro e w33 ho
        obtain ⟨hd33, hb33, gl, Arl, crl, rfl, hj⟩ := ho.ok
        have hgg : ¬ gg = gd := by
          obtain ⟨_, _, _, _, hB, _⟩ := S32.out.1.dd
          exact ne_block' S32.out.2.2 hB (by decide)
        have S33 := Aside0.mk (And.intro (S32.out.1.but hd33 hb33) (And.intro (HasOf.dev S32.out.1.dd S32.out.2.1 hb33 hgd30) (And.intro (hb33.blk S32.out.2.2 hgg) hj)))
        clear hd33 hb33 ho hj hgg
        have hbn := S33.out.1.kn.box
        simp only [HQ.out.1, HQ.out.2.1] at hbn
        obtain ⟨y0, y1, y2, y3, y4, y5, y6, y7⟩ := xj_cells hbn
        obtain ⟨z0, z1, z2, z3, z4, z5, z6, z7⟩ := xj_cells S33.out.2.2.1
        clear hbn
        go_upto_region 43 with (fail)
        go_region_with
          (first
            | (go_at_call 19; have _t := S33; refine (Same7_xs As cs A1 c1 bA bc bAr bcr j.snap j.recs ns nr HQ.out.1 HQ.out.2.1 _ (Kd.C_drew S33.out.2.1.C.1) (Kd.C_drew (S33.out.1.kn.C S33.out.1.below).1) (Kd.C_drew S33.out.2.1.C.2) (Kd.C_drew (S33.out.1.kn.C S33.out.1.below).2)).mono ?_; rintro e w34 ⟨rfl, hb'⟩; have hb : Below w33.heap.size w33 w34 := ⟨hb'.os, hb'.tape, hb'.output, hb'.size, hb'.block⟩; have K34 := S33.out.1.step hb; have hbn := K34.kn.box; simp only [HQ.out.1, HQ.out.2.1] at hbn; have hbg := blk_belowX S33.out.2.2.1 hb; have S34 := Aside0.mk (And.intro K34 (And.intro (S33.out.2.1.below hb) (And.intro hbg (S33.out.2.2.2.below hb)))); obtain ⟨z0, z1, z2, z3, z4, z5, z6, z7⟩ := xj_cells hbg; obtain ⟨y0, y1, y2, y3, y4, y5, y6, y7⟩ := xj_cells hbn; clear hb hb' hbn hbg K34 S33 _t)
            | (go_at_call 14; have _t := S34; refine (has_eq gl gd _ Arl crl j ns nr _ S34.out.2.2.2 HQ.out.1 HQ.out.2.1 (by have := HQ.out; omega) (by have := HQ.out; omega) (fun x hx => by have := HQ.out.2.2.2.2 x hx; omega)).mono ?_; rintro e w35 ⟨As2, cs2, A2, c2, rfl, hh, hb⟩; have K35 := S34.out.1.step hb; have hbn := K35.kn.box; simp only [HQ.out.1, HQ.out.2.1] at hbn; have hbg := blk_belowX S34.out.2.2.1 hb; have S35 := Aside0.mk (And.intro K35 (And.intro (S34.out.2.1.below hb) (And.intro hbg hh))); obtain ⟨z0, z1, z2, z3, z4, z5, z6, z7⟩ := xj_cells hbg; obtain ⟨y0, y1, y2, y3, y4, y5, y6, y7⟩ := xj_cells hbn; clear hh hb hbn hbg K35 S34 _t)
            | (go_at_call 19; have _t := S35; refine (Same7_xs As2 cs2 A2 c2 As cs A1 c1 j.snap j.recs ns nr HQ.out.1 HQ.out.2.1 _ S35.out.2.2.2.C.1 S35.out.2.1.C.1 S35.out.2.2.2.C.2 S35.out.2.1.C.2).mono ?_; rintro e w36 ⟨rfl, hb⟩; have K36 := S35.out.1.step hb; have hbn := K36.kn.box; simp only [HQ.out.1, HQ.out.2.1] at hbn; have hbg := blk_belowX S35.out.2.2.1 hb; have S36 := Aside0.mk K36; obtain ⟨z0, z1, z2, z3, z4, z5, z6, z7⟩ := xj_cells hbg; obtain ⟨y0, y1, y2, y3, y4, y5, y6, y7⟩ := xj_cells hbn; clear hb hbn hbg K36 S35 _t))
        all_goals
          go_wp2
          go_ret
          exact ⟨rfl, S36.out.below⟩
  · have hb := decide_eq_false hs
    have HS := Aside0.mk hb
    clear hs hb
    go_enter Try.func4, Try.ntmps4
    go_wp2_with (first
      | (go_at_call 7; refine (alive7_calls _ (Nat.zero_le _)).mono ?_; rintro e w1 ⟨rfl, hb1⟩; have S1 := Aside0.mk hb1; clear hb1)
      | (go_at_call 8; refine (small7_eq A c os false _ HS.out (Kd.C_below M.out S1.out) hc).mono ?_; rintro e w2 ⟨rfl, hb2⟩; have S2 := Aside0.mk (below_step S1.out hb2); clear S1 hb2))
    go_ret
    exact ⟨rfl, S2.out⟩
end Go.Proofs.Ytcgefilboefnpaa.MJournalKeeps
