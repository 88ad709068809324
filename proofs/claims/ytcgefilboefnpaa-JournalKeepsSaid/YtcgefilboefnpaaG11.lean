/- Some texts of one seat in one file, in build order. -/
import Derived.Test.YtcgefilboefnpaaG9
import Derived.Test.YtcgefilboefnpaaG10
import Derived.Sort.QuietIn
/- journal.read. -/
namespace Go.Proofs.Ytcgefilboefnpaa.H
open Go.RowKit Go.Proofs.YtcgefilboefnpaaW.PrintWords Go.Proofs.YtcgefilboefnpaaW.PrintLast Go.Proofs.YtcgefilboefnpaaW.PrintMore Go.Proofs.Ytcgefilboefnpaa.CrcM
set_option linter.unusedVariables false
set_option linter.unusedSimpArgs false
attribute [local go_sem] Oper.semAt_some wide_fn wide_depth

/-- The reader behind frames that all belong. -/
def stepR (r : Rr) (x : Fr) : Rr := { (takeR r x.2.1 x.2.2).1 with j := { (takeR r x.2.1 x.2.2).1.j with fin := x.1 + ((x.2.2.length : Int) + 7) } }
def stR (fs : List Fr) (r : Rr) : Rr := fs.foldl stepR r
theorem runR_cons (x : Fr) (fs : List Fr) (r : Rr) : runR (x :: fs) r = if (takeR r x.2.1 x.2.2).2 = true then runR fs (stepR r x) else (takeR r x.2.1 x.2.2).1 := rfl
theorem stR_snoc (fs : List Fr) (x : Fr) (r : Rr) : stR (fs ++ [x]) r = stepR (stR fs r) x := by simp [stR]
theorem takeU_hi (r : Rr) (k : Int) (b : List Int) : (takeR r k b).1.left ≤ max r.left 1048576 ∧ (takeR r k b).1.j.snap.length ≤ r.j.snap.length + b.length ∧ (takeR r k b).1.j.recs.length ≤ r.j.recs.length + 1 := by
  unfold takeR
  split
  · unfold firstR
    simp only
    split
    · exact (by refine ⟨?_, ?_, ?_⟩ <;> (dsimp only; omega))
    · exact ⟨by simp only; omega, by simp only; omega, by simp only; omega⟩
  · split
    · split
      · simp; omega
      · exact (by refine ⟨?_, ?_, ?_⟩ <;> (dsimp only; omega))
    · split
      · simp; omega
      · exact ⟨by simp only; omega, by simp only; omega, by simp only; omega⟩
theorem stR_bound (b : List Int) (hB : Bts b) : ∀ (k at_ : Nat) (pre rest : List Fr) (r : Rr), scanL b k at_ = pre ++ rest → at_ ≤ b.length → r.j.snap.length ≤ at_ → r.j.recs.length ≤ at_ → r.left ≤ 1048576 →
    (stR pre r).j.snap.length ≤ b.length ∧ (stR pre r).j.recs.length ≤ b.length ∧ (stR pre r).left ≤ 1048576 := by
  intro k
  induction k with
  | zero =>
    intro at_ pre rest r h h1 h2 h3 h4
    have : pre = [] := by
      have h5 := congrArg List.length h
      simp only [scanL, List.length_nil, List.length_append] at h5
      exact List.length_eq_zero_iff.1 (by omega)
    subst this
    exact ⟨by show r.j.snap.length ≤ _; omega, by show r.j.recs.length ≤ _; omega, h4⟩
  | succ k ih =>
    intro at_ pre rest r h h1 h2 h3 h4
    cases pre with
    | nil => exact ⟨by show r.j.snap.length ≤ _; omega, by show r.j.recs.length ≤ _; omega, h4⟩
    | cons x pre =>
      unfold scanL at h
      by_cases he : (readF (b.drop at_)).2.2.2 = 0
      · rw [if_pos he] at h
        obtain ⟨q1, q2, q3, q4, q5, q6⟩ := readF_ok (bts_drop hB at_) he
        rw [List.length_drop] at q2
        simp only [List.cons_append, List.cons.injEq] at h
        obtain ⟨hx, hr⟩ := h
        subst hx
        have ht := takeU_hi r (readF (b.drop at_)).1 (readF (b.drop at_)).2.1
        refine ih (at_ + (readF (b.drop at_)).2.2.1.toNat) pre rest _ hr (by omega) ?_ ?_ ?_
        · show (takeR r _ _).1.j.snap.length ≤ _; simp only at *; omega
        · show (takeR r _ _).1.j.recs.length ≤ _; simp only at *; omega
        · show (takeR r _ _).1.left ≤ _; simp only at *; omega
      · rw [if_neg he] at h; simp at h
theorem RdrAt.lower [Pl] {W : World} {B B' gr gd : Nat} {r : Rr} (h : RdrAt W B gr gd r) (hb : B' ≤ B) : RdrAt W B' gr gd r := by
  obtain ⟨h0, As, cs, Ar, cr, os, h1, h2, h3, h4⟩ := h
  exact ⟨h0, As, cs, Ar, cr, os, h1, Kd.R_lower h2 hb, Kd.R_lower h3 hb, h4⟩
/-- The place is stored. -/
theorem RdrAt.fin [Pl] {W : World} {B gr gd : Nat} {r : Rr} (h : RdrAt W B gr gd r) (x : Int) : RdrAt (W.setCell ⟨gr, 5, none⟩ (.int .i64 x)) B gr gd { r with j := { r.j with fin := x } } := by
  obtain ⟨h0, As, cs, Ar, cr, os, h1, h2, h3, h4⟩ := h
  have ho : Oth gr W (W.setCell ⟨gr, 5, none⟩ (.int .i64 x)) := Oth.set W ⟨gr, 5, none⟩ _
  exact ⟨h0, As, cs, Ar, cr, os, blk_put h1 5 _ rfl, R_oth h2 h1 (by decide) ho, R_oth h3 h1 (by decide) ho, h4.imp (fun A l hr => hr.oth h1 (by decide) ho)⟩
def RdPost [Pl] (W : World) (gd : Nat) (r : Rr) (e : Ending) (W' : World) : Prop := ∃ gr, e = .returned (.tuple #[.pointer (some ⟨gr, 0, none⟩), .bool r.ok]) ∧ RdrAt W' W.heap.size gr gd r ∧ W.heap.size ≤ gr ∧ Below W.heap.size W W'
set_option maxHeartbeats 3200000 in
theorem read_calls [Pl] (gd : Nat) (d : Dv) (region : Int) (b : List Int) (w : World) (hd : DevAt w gd d) (hb : d.row region = b) (ha : d.a.length ≤ 1000000) (hb' : d.b.length ≤ 1000000) (hl : b.length ≤ 1000000) (hB : Bts b) :
    Calls Try.prog 35 #[.pointer (some ⟨gd, 0, none⟩), .int .i64 region] w (RdPost w gd (readJ region b)) := by
  refine (callsIn_wide (n := 5)).1 ?_
  refine callsIn_of_wp_marks Try.func35 rfl trivial ?_ rfl
  simp only [Try.ntmps35, List.size_toArray, List.length_cons, List.length_nil, Nat.reduceAdd, Nat.reduceSub, Array.replicate_succ, Array.replicate_zero, List.push_toArray, List.append_toArray, List.nil_append, List.cons_append]
  have H := Aside0.mk (And.intro hd (And.intro hb (And.intro hB (And.intro ha hb'))))
  clear hd hb hB ha hb'
  gi_wp2_with (fail)
  have hx1 : (w.alloc (.cells (rdrCells gd none 0 0 none 0 0 region 0 0 (-1) false) 88)).heap[w.heap.size]? = some (.cells (rdrCells gd none 0 0 none 0 0 region 0 0 (-1) false) 88 (0, 0)) := blk_new w _
  have hb1 : Below w.heap.size w (w.alloc (.cells (rdrCells gd none 0 0 none 0 0 region 0 0 (-1) false) 88)) := below_alloc (Below.refl _ _) _
  generalize w.alloc (.cells (rdrCells gd none 0 0 none 0 0 region 0 0 (-1) false) 88) = w1 at *
  refine (callsIn_wide.2 (Bytes_eq gd d region b b.length _ H.out.2.1 rfl (H.out.1.below hb1) H.out.2.2.2.1 H.out.2.2.2.2)).mono ?_
  rintro e w2 ⟨A2, c2, rfl, hc2, hC2, hb2⟩
  have hgr : w.heap.size < w1.heap.size := lt_of_some hx1
  have hs2 := hb2.size
  obtain ⟨gr, hg⟩ : ∃ g, w.heap.size = g := ⟨_, rfl⟩
  have HG := Lib.hid hg
  rw [hg] at hx1 hgr
  rw [hg]
  clear hg
  have H2 := Aside0.mk (And.intro (blk_belowX hx1 hb2) (And.intro hC2 (below_step hb1 hb2)))
  clear hx1 hb1 hC2 hb2
  gi_wp2_with (fail)
  refine (callsIn_wide.2 (Scan_callsT A2 b.length c2 _)).mono ?_
  rintro e w3 ⟨rfl, rfl⟩
  have hx3 : (w2.alloc (.cells #[.slice A2 b.length c2] 32)).heap[w2.heap.size]? = some (.cells #[.slice A2 b.length c2] 32 (0, 0)) := blk_new w2 _
  have hb3 : Below w2.heap.size w2 (w2.alloc (.cells #[.slice A2 b.length c2] 32)) := below_alloc (Below.refl _ _) _
  have hz3 : w2.heap.size < (w2.alloc (.cells #[.slice A2 b.length c2] 32)).heap.size := by rw [World.size_alloc]; omega
  have hz4 : (w2.alloc (.cells #[.slice A2 b.length c2] 32)).heap.size ≤ w2.heap.size + 1 := by rw [World.size_alloc]; omega
  generalize w2.alloc (.cells #[.slice A2 b.length c2] 32) = w3 at *
  have hC3 := H2.out.2.1.below hb3
  have hR3 : RdrAt w3 w3.heap.size gr gd ⟨⟨region, 0, [], [], 0⟩, -1, false⟩ := ⟨fun _ => rfl, none, 0, none, 0, [], blk_belowX H2.out.1 hb3, Kd.R_nil _ _ _ _ _, Kd.R_nil _ _ _ _ _, SlsOf.nil _⟩
  have hB3 := below_step H2.out.2.2 hb3
  obtain ⟨r0, hr0⟩ : ∃ r0 : Rr, (⟨⟨region, 0, [], [], 0⟩, -1, false⟩ : Rr) = r0 := ⟨_, rfl⟩
  obtain ⟨R, hR⟩ : ∃ R, readJ region b = R := ⟨_, rfl⟩
  have hRr : runR (scanF b) r0 = R := by rw [← hr0, ← hR]; rfl
  rw [hr0] at hR3
  have hbd : ∀ pre rest, scanF b = pre ++ rest → (stR pre r0).j.snap.length ≤ b.length ∧ (stR pre r0).j.recs.length ≤ b.length ∧ (stR pre r0).left ≤ 1048576 := fun pre rest h => stR_bound b H.out.2.2.1 _ 0 pre rest r0 h (by omega) (by rw [← hr0]; simp) (by rw [← hr0]; simp) (by rw [← hr0]; dsimp only; omega)
  have HRJ := Lib.hid hR
  have HR := Aside0.mk (And.intro hRr hbd)
  have hlo := H2.out.2.1.lo
  clear hRr hbd hr0 hR
  gi_wp2
  refine rangeX rfl (by omega) (gf := 66) (lb := #[.pointer (some ⟨w2.heap.size, 0, none⟩)]) rfl trivial (enters_of Try.func66 (by kernel_rfl) rfl)
    (Y := FrT b) (n₀ := w3.heap.size) (Kb := fun k => k ≠ gr) (S := fun xs => xs = scanF b) (Sp := fun _ => True)
    (Scan1_seqT 4 b H.out.2.2.1 hl A2 c2 hc2 w2.heap.size w3.heap.size (fun k => k ≠ gr) w3
      (fun W hk => by rw [blk_cell ((hk.2 w2.heap.size (by omega) (by omega)).trans hx3) 0]; rfl)
      (fun W hk => C_at hC3.1 (fun ad e => by
        obtain ⟨cs, z, hcs⟩ := hC3.2.1 ad e
        exact hk.2 _ (lt_of_some hcs) (ne_block' hcs (blk_belowX H2.out.1 hb3) (by decide)))) (Nat.le_refl _) (by omega)) (Nat.le_refl _)
    (fun _ _ _ _ hy => by obtain ⟨_, A3, c3, rfl, _⟩ := hy; rfl)
    (fun pre W => RdrAt W w3.heap.size gr gd (stR pre r0) ∧ (∀ rest, scanF b = pre ++ rest → runR rest (stR pre r0) = R) ∧ Below w.heap.size w W)
    (fun c _ W => c = .exit 0 ∧ RdrAt W w3.heap.size gr gd R ∧ Below w.heap.size w W)
    (fun s P Q h hlie => ⟨h.1.lies hlie, h.2.1, hlie.below h.2.2 (by have := hB3.size; omega) (Nat.le_refl _)⟩) (fun _ _ _ _ h hlie => ⟨h.1, h.2.1.lies hlie, hlie.below h.2.2 (by have := hB3.size; omega) (Nat.le_refl _)⟩)
    ⟨hR3, fun rest h => by rw [← HR.out.1, h]; rfl, hB3⟩ ?round ?done ?stop
  case round =>
    rintro l pre ⟨xa, xk, xb⟩ vs W hl2 ⟨hI1, hI2, hI3⟩ ⟨hpre, A3, c3, rfl, hc3, hr3⟩ hWs
    simp only at hc3 hr3
    obtain ⟨rest, hrest⟩ := hpre
    have hsc : scanF b = pre ++ ((xa, xk, xb) :: rest) := by rw [← hrest]; simp
    have hmem : (xa, xk, xb) ∈ scanL b (b.length + 1) 0 := by have h5 : (xa, xk, xb) ∈ scanF b := by { rw [hsc]; simp }; exact h5
    obtain ⟨m0, m1, m2, m3, m4, m5⟩ := scanL_mem b H.out.2.2.1 (b.length + 1) 0 (xa, xk, xb) hmem (by omega)
    simp only at m0 m1 m2 m3 m4 m5
    have hrun := hI2 _ hsc
    rw [runR_cons] at hrun
    simp only at hrun
    obtain ⟨bd1, bd2, bd3⟩ := HR.out.2 pre _ hsc
    have hWt := Weight_calls (xb.length : Int)
    have hwv : weightF (xb.length : Int) = (xb.length : Int) + 7 := by unfold weightF; rw [if_neg (by omega)]
    rw [hwv] at hWt
    have HWt := Aside0.mk hWt
    have HX := Aside0.mk (And.intro hI1 (And.intro hr3 (And.intro m5 (And.intro hrun (And.intro hI3 (And.intro hsc hI2))))))
    have hxl : xb.length ≤ 1000000 := by omega
    have hgl := hI1.lt
    clear hwv hWt hI1 hI2 hI3 hr3 m5 hrun hrest hsc
    gi_wp2
    refine ⟨KeepsFrom.of_below (below_alloc (Below.refl _ _) _), Kp.of_below (below_alloc (Below.refl _ _) _) (by omega), ?_⟩
    intro Wb hlie
    have g1 := hlie.blk (blk_new W (.cells #[.int .i64 xk, .slice A3 xb.length c3] 72))
    have hbA : Below W.heap.size W (W.alloc (.cells #[.int .i64 xk, .slice A3 xb.length c3] 72)) := below_alloc (Below.refl _ _) _
    have hrb := (HX.out.1.below hbA).lies hlie
    have hr3b := hlie.Rd (HX.out.2.1.below hbA)
    have hI3b := hlie.below (below_step HX.out.2.2.2.2.1 hbA) (by have := hB3.size; omega) (Nat.le_refl _)
    have hszb := hlie.size
    rw [World.size_alloc] at hszb
    have d0 : Wb.cell? ⟨W.heap.size, 0, none⟩ = some (.int .i64 xk) := (blk_cell g1 0).trans rfl
    have d1 : Wb.cell? ⟨W.heap.size, 1, none⟩ = some (.slice A3 xb.length c3) := (blk_cell g1 1).trans rfl
    have HB := Aside0.mk (And.intro g1 (And.intro hrb (And.intro hr3b hI3b)))
    clear g1 hbA hrb hr3b hI3b hlie
    gi_wp2_with (fail)
    refine (CallsIn.inRound l (callsIn_wide.2 (take_calls gr gd w3.heap.size (stR pre r0) xk A3 c3 xb _ HB.out.2.1 HB.out.2.2.1 hc3 hxl HX.out.2.2.1 bd3 (by omega) (by omega) (by omega)))).mono ?_
    rintro e w4 ⟨rfl, hr4, hbut4⟩
    have hK4 : KeepsFrom w3.heap.size Wb w4 := KeepsFrom.of_but hbut4 (fun k o hp ho => by
      rcases hp with rfl | ⟨_, cs, t, z, hc, _⟩
      · obtain ⟨_, As, cs, Ar, cr, os, q1, _⟩ := HB.out.2.1
        rw [q1] at ho; cases ho; rfl
      · rw [hc] at ho; cases ho; rfl)
    have hKp4 : Kp w3.heap.size (fun k => k ≠ gr) Wb w4 := Kp.of_but hbut4 (fun i hi hk hp => by
      rcases hp with rfl | ⟨h5, _⟩
      · exact hk rfl
      · omega) (by omega)
    have hb4 : Below w.heap.size w w4 := hbut4.below HB.out.2.2.2 HB.out.2.2.2.size (fun k hp => by
      rcases hp with rfl | ⟨h5, _⟩
      · rw [HG.out]; exact Nat.le_refl _
      · have := hB3.size; omega)
    have g4 := hbut4.blk HB.out.1 (fun hp => by
      rcases hp with h5 | ⟨_, cs, t, z, hc, ht⟩
      · omega
      · rw [HB.out.1] at hc; injection hc with hc; injection hc with _ hc _; subst hc; revert ht; decide)
    have hrun := HX.out.2.2.2.1
    obtain ⟨r', ok, hto⟩ : ∃ r' ok, takeR (stR pre r0) xk xb = (r', ok) := ⟨_, _, rfl⟩
    have hst : stepR (stR pre r0) (xa, xk, xb) = { r' with j := { r'.j with fin := xa + ((xb.length : Int) + 7) } } := by unfold stepR; simp only [hto]
    rw [hst, hto] at hrun
    rw [hto] at hr4 ⊢
    simp only at hrun hr4 ⊢
    have H4 := Aside0.mk (And.intro hr4 (And.intro hK4 (And.intro hKp4 (And.intro hb4 (And.intro g4 (And.intro hrun (And.intro hto hst)))))))
    clear hr4 hK4 hKp4 hb4 g4 hrun hto hst hbut4 d0 d1
    have d1 : w4.cell? ⟨W.heap.size, 1, none⟩ = some (.slice A3 xb.length c3) := (blk_cell H4.out.2.2.2.2.1 1).trans rfl
    have hw4 : W.heap.size < w4.heap.size := lt_of_some H4.out.2.2.2.2.1
    obtain ⟨q5, q6, q7⟩ : ∃ v, w4.cell? ⟨gr, 5, none⟩ = some v ∧ w4.frozen? ⟨gr, 5, none⟩ = false := by
      obtain ⟨_, As, cs, Ar, cr, os, q1, _⟩ := H4.out.1
      exact ⟨_, q1.cells.2.2.2.2.2.1, q1.frozen 5⟩
    have hg4 := H4.out.1.lt
    have hxa : 0 ≤ xa + ((xb.length : Int) + 7) ∧ xa + ((xb.length : Int) + 7) ≤ 2000000 := by omega
    obtain ⟨hxa0, hxa1⟩ := hxa
    cases ok with
    | false =>
      have hrun := H4.out.2.2.2.2.2.1
      simp only [Bool.false_eq_true, if_false] at hrun
      have HRN := Aside0.mk hrun
      clear hrun
      gi_wp2
      exact ⟨H4.out.2.1, rfl, by rw [← HRN.out]; exact H4.out.1, H4.out.2.2.2.1⟩
    | true =>
      have hrun := H4.out.2.2.2.2.2.1
      simp only [if_true] at hrun
      have HRN := Aside0.mk hrun
      clear hrun
      gi_wp2_with (gi_at_call 41; refine (CallsIn.inRound l (callsIn_wide.2 (HWt.out _ (by omega)))).mono ?_; rintro e w5 ⟨rfl, rfl⟩)
      obtain ⟨j1, j2, j3, j4, j5, j6, j7, j8⟩ := H4.out
      exact ⟨j2.trans (KeepsFrom.set _ _ _ _), j3.trans (Kp.set (fun h => absurd rfl h) _), by rw [stR_snoc, j8]; exact j1.fin _, fun rest' h' => by
        have h6 := HX.out.2.2.2.2.2.2 ((xa, xk, xb) :: rest') (by rw [h']; simp)
        rw [runR_cons] at h6
        simp only [j7, if_true] at h6
        rw [stR_snoc]; exact h6, j4.setCell (by rw [HG.out]; exact Nat.le_refl _) _⟩
  case done =>
    rintro D xs W hD rfl ⟨hI1, hI2, hI3⟩ hK
    have hfin : stR (scanF b) r0 = R := hI2 [] (by simp)
    rw [hfin] at hI1
    have HE := Aside0.mk (And.intro hI1 (And.intro hI3 hK))
    clear hI1 hI2 hI3 hK hfin
    obtain ⟨q1, q2, q3⟩ : W.cell? ⟨gr, 7, none⟩ = some (.bool R.ok) ∧ W.frozen? ⟨gr, 7, none⟩ = false ∧ gr < W.heap.size := by
      obtain ⟨_, As, cs, Ar, cr, os, q1, _⟩ := HE.out.1
      exact ⟨q1.cells.2.2.2.2.2.2.2, q1.frozen 7, lt_of_some q1⟩
    gi_wp2
    gi_quiet (fail)
    have hbq : Below W.heap.size W (W.drewN nq) := ⟨rfl, rfl, rfl, Nat.le_refl _, fun _ _ => rfl⟩
    have hKq : (W.drewN nq).heap[D]? = some (.deferred (some [])) := HE.out.2.2
    have hlies : Lies w.heap.size (W.drewN nq) ((W.drewN nq).putObj D (.deferred none)) := .put (by have := hB3.size; omega) hKq rfl _
    gi_wp2
    refine ⟨by simp, .inl ⟨_, _, rfl, run_takeDeferred hKq, ?_⟩⟩
    refine ⟨_, results_list (rs := [.tmp 4, .tmp 5]) rfl (by simp) (.tmp (.tmp .nil)), ?_⟩
    rw [HRJ.out]
    refine ⟨gr, rfl, ((HE.out.1.below hbq).lies hlies).lower (by have := hB3.size; omega), by rw [HG.out]; exact Nat.le_refl _, hlies.below (below_step HE.out.2.1 hbq) (Nat.le_refl _) (Nat.le_refl _)⟩
  case stop =>
    rintro D c pre W hD _ ⟨rfl, hI1, hI3⟩ hK
    have HE := Aside0.mk (And.intro hI1 (And.intro hI3 hK))
    clear hI1 hI3 hK
    obtain ⟨q1, q2, q3⟩ : W.cell? ⟨gr, 7, none⟩ = some (.bool R.ok) ∧ W.frozen? ⟨gr, 7, none⟩ = false ∧ gr < W.heap.size := by
      obtain ⟨_, As, cs, Ar, cr, os, q1, _⟩ := HE.out.1
      exact ⟨q1.cells.2.2.2.2.2.2.2, q1.frozen 7, lt_of_some q1⟩
    gi_wp2
    gi_quiet (fail)
    have hbq : Below W.heap.size W (W.drewN nq) := ⟨rfl, rfl, rfl, Nat.le_refl _, fun _ _ => rfl⟩
    have hKq : (W.drewN nq).heap[D]? = some (.deferred (some [])) := HE.out.2.2
    have hlies : Lies w.heap.size (W.drewN nq) ((W.drewN nq).putObj D (.deferred none)) := .put (by have := hB3.size; omega) hKq rfl _
    gi_wp2
    refine ⟨by simp, .inl ⟨_, _, rfl, run_takeDeferred hKq, ?_⟩⟩
    refine ⟨_, results_list (rs := [.tmp 4, .tmp 5]) rfl (by simp) (.tmp (.tmp .nil)), ?_⟩
    rw [HRJ.out]
    refine ⟨gr, rfl, ((HE.out.1.below hbq).lies hlies).lower (by have := hB3.size; omega), by rw [HG.out]; exact Nat.le_refl _, hlies.below (below_step HE.out.2.1 hbq) (Nat.le_refl _) (Nat.le_refl _)⟩
end Go.Proofs.Ytcgefilboefnpaa.H
/- A journal in memory; contracts of its small methods. -/
namespace Go.Proofs.Ytcgefilboefnpaa.H
open Go.RowKit Go.Proofs.YtcgefilboefnpaaW.PrintWords Go.Proofs.YtcgefilboefnpaaW.PrintLast Go.Proofs.YtcgefilboefnpaaW.PrintMore Go.Proofs.Ytcgefilboefnpaa.CrcM
set_option linter.unusedVariables false
set_option linter.unusedSimpArgs false

abbrev jCells (gd : Nat) (As : Option Addr) (ns cs : Nat) (Ar : Option Addr) (nr cr : Nat) (region age fin : Int) (rest : List Value) : Array Value :=
  (.pointer (some ⟨gd, 0, none⟩) :: .int .i64 region :: .int .u64 age :: .slice As ns cs :: .slice Ar nr cr :: .int .i64 fin :: rest).toArray
/-- A journal's block, alone or the first part of a reader's. -/
def JB (W : World) (gj gd : Nat) (As : Option Addr) (cs : Nat) (Ar : Option Addr) (cr : Nat) (j : Jn) : Prop :=
  ∃ (rest : List Value) (t : TypeId), (t = 67 ∨ t = 88) ∧ W.heap[gj]? = some (.cells (jCells gd As j.snap.length cs Ar j.recs.length cr j.region j.age j.fin rest) t (0, 0))
theorem JB.cells {W : World} {gj gd : Nat} {As : Option Addr} {cs : Nat} {Ar : Option Addr} {cr : Nat} {j : Jn} (h : JB W gj gd As cs Ar cr j) :
    W.cell? ⟨gj, 0, none⟩ = some (.pointer (some ⟨gd, 0, none⟩)) ∧ W.cell? ⟨gj, 1, none⟩ = some (.int .i64 j.region) ∧ W.cell? ⟨gj, 2, none⟩ = some (.int .u64 j.age) ∧ W.cell? ⟨gj, 3, none⟩ = some (.slice As j.snap.length cs) ∧ W.cell? ⟨gj, 4, none⟩ = some (.slice Ar j.recs.length cr) ∧ W.cell? ⟨gj, 5, none⟩ = some (.int .i64 j.fin) := by
  obtain ⟨rest, t, _, h⟩ := h
  refine ⟨?_, ?_, ?_, ?_, ?_, ?_⟩ <;> · rw [blk_cell h]; rfl
theorem JB.frozen {W : World} {gj gd : Nat} {As : Option Addr} {cs : Nat} {Ar : Option Addr} {cr : Nat} {j : Jn} (h : JB W gj gd As cs Ar cr j) (i : Nat) : W.frozen? ⟨gj, i, none⟩ = false := by
  obtain ⟨rest, t, _, h⟩ := h; exact blk_frozen h i
theorem JB.lt {W : World} {gj gd : Nat} {As : Option Addr} {cs : Nat} {Ar : Option Addr} {cr : Nat} {j : Jn} (h : JB W gj gd As cs Ar cr j) : gj < W.heap.size := by
  obtain ⟨rest, t, _, h⟩ := h; exact lt_of_some h
theorem JB.some {W : World} {gj gd : Nat} {As : Option Addr} {cs : Nat} {Ar : Option Addr} {cr : Nat} {j : Jn} (h : JB W gj gd As cs Ar cr j) : ∃ cells t, W.heap[gj]? = some (.cells cells t (0, 0)) ∧ 5 ≠ t ∧ 32 ≠ t ∧ 63 ≠ t := by
  obtain ⟨rest, t, ht, h⟩ := h
  exact ⟨_, t, h, by rcases ht with rfl | rfl <;> decide, by rcases ht with rfl | rfl <;> decide, by rcases ht with rfl | rfl <;> decide⟩
theorem JB.blk {W W' : World} {gj gd : Nat} {As : Option Addr} {cs : Nat} {Ar : Option Addr} {cr : Nat} {j : Jn} (h : JB W gj gd As cs Ar cr j) (hw : W'.heap[gj]? = W.heap[gj]?) : JB W' gj gd As cs Ar cr j := by
  obtain ⟨rest, t, ht, h⟩ := h
  exact ⟨rest, t, ht, hw.trans h⟩
/-- A journal, whose rows of records is its own from B on. -/
def JAt [Pl] (W : World) (B gj gd : Nat) (Ar : Option Addr) (cr : Nat) (j : Jn) : Prop :=
  B ≤ gj ∧ ∃ As cs os, JB W gj gd As cs Ar cr j ∧ j.snap.length ≤ cs ∧ Rd W As j.snap ∧ KSl.R 32 W B (fun _ => True) (.slice Ar j.recs.length cr) os ∧ SlsOf W os j.recs
theorem JAt.of_rdr [Pl] {W : World} {B gj gd : Nat} {r : Rr} (h : RdrAt W B gj gd r) (hB : B ≤ gj) (hlo : Pl.lo ≤ B) (hBs : B ≤ W.heap.size) : ∃ Ar cr, JAt W B gj gd Ar cr r.j := by
  obtain ⟨h0, As, cs, Ar, cr, os, h1, h2, h3, h4⟩ := h
  obtain ⟨A', c', e, hc, hr⟩ := Rd.of_R h2 hlo hBs
  cases e
  exact ⟨Ar, cr, hB, As, cs, os, ⟨[.int .i64 r.left, .bool r.ok], _, .inr rfl, h1⟩, hc, hr, h3, h4⟩
/-- What a journal's methods may turn. -/
def JP (gj gd : Nat) (Ar : Option Addr) (k : Nat) : Prop := k = gj ∨ k = gd ∨ ∃ ad, Ar = some ad ∧ k = ad.block
theorem JAt.below [Pl] {W W' : World} {B gj gd : Nat} {Ar : Option Addr} {cr : Nat} {j : Jn} (h : JAt W B gj gd Ar cr j) (hb : Below W.heap.size W W') : JAt W' B gj gd Ar cr j := by
  obtain ⟨h0, As, cs, os, h1, h2, h3, h4, h5⟩ := h
  exact ⟨h0, As, cs, os, h1.blk (hb.block _ h1.lt), h2, h3.below hb, Kd.R_below h4 hb, h5.below hb⟩
theorem JAt.lo [Pl] {W : World} {B gj gd : Nat} {Ar : Option Addr} {cr : Nat} {j : Jn} (h : JAt W B gj gd Ar cr j) : Pl.lo ≤ W.heap.size := by
  obtain ⟨_, _, _, _, _, _, h3, _⟩ := h; exact h3.lo
/-- The blocks that a journal may turn are no bytes. -/
theorem JAt.no8 [Pl] {W : World} {B gj gd : Nat} {Ar : Option Addr} {cr : Nat} {j : Jn} {d : Dv} (h : JAt W B gj gd Ar cr j) (hd : DevAt W gd d) : ∀ i cs z, W.heap[i]? = some (Obj.cells cs 5 z) → ¬ JP gj gd Ar i := by
  obtain ⟨h0, As, cs, os, h1, h2, h3, h4, h5⟩ := h
  obtain ⟨_, _, _, _, hB, _⟩ := hd
  rintro i cs z hi (rfl | rfl | ⟨ad, rfl, rfl⟩)
  · obtain ⟨cells, t, h6, h7, _⟩ := h1.some
    exact ne_block' hi h6 h7 rfl
  · exact ne_block' hi hB (by decide) rfl
  · obtain ⟨_, ho⟩ := Kd.R_own h4
    obtain ⟨cells, hc⟩ := own_typed ho ad.block rfl
    exact ne_block' hi hc (by decide) rfl
theorem JAt.from [Pl] {W : World} {B gj gd : Nat} {Ar : Option Addr} {cr : Nat} {j : Jn} (h : JAt W B gj gd Ar cr j) (hd : B ≤ gd) : ∀ k, JP gj gd Ar k → B ≤ k := by
  obtain ⟨h0, As, cs, os, h1, h2, h3, h4, h5⟩ := h
  rintro k (rfl | rfl | ⟨ad, rfl, rfl⟩)
  · exact h0
  · exact hd
  · obtain ⟨_, ho⟩ := Kd.R_own h4
    exact own_base ho ad.block rfl
theorem Age_eq [Pl] (gj gd B : Nat) (Ar : Option Addr) (cr : Nat) (j : Jn) (n : Int) (W : World) (h : JAt W B gj gd Ar cr j) (hn : j.age = n) : Calls Try.prog 28 #[.pointer (some ⟨gj, 0, none⟩)] W fun e W' => e = .returned (.int .u64 n) ∧ W = W' := by
  subst hn
  obtain ⟨_, As, cs, os, h1, _⟩ := h
  obtain ⟨z0, z1, z2, z3, z4, z5⟩ := h1.cells
  clear h1
  go_enter Try.func28, Try.ntmps28
  go_wp2
  go_ret
  exact ⟨rfl, rfl⟩
theorem Count_eq [Pl] (gj gd B : Nat) (Ar : Option Addr) (cr : Nat) (j : Jn) (n : Nat) (W : World) (h : JAt W B gj gd Ar cr j) (hn : j.recs.length = n) : Calls Try.prog 30 #[.pointer (some ⟨gj, 0, none⟩)] W fun e W' => e = .returned (.int .i64 n) ∧ W = W' := by
  subst hn
  obtain ⟨_, As, cs, os, h1, _⟩ := h
  obtain ⟨z0, z1, z2, z3, z4, z5⟩ := h1.cells
  clear h1
  go_enter Try.func30, Try.ntmps30
  go_wp2
  go_ret
  exact ⟨rfl, rfl⟩
theorem Room_eq [Pl] (gj gd B : Nat) (Ar : Option Addr) (cr : Nat) (j : Jn) (d : Dv) (n : Int) (W : World) (h : JAt W B gj gd Ar cr j) (hd : DevAt W gd d) (hn : d.cap - j.fin = n) (h0 : 0 ≤ d.cap) (h1 : d.cap ≤ 1048576) (h2 : 0 ≤ j.fin) (h3 : j.fin ≤ 10000000) :
    Calls Try.prog 12 #[.pointer (some ⟨gj, 0, none⟩)] W fun e W' => e = .returned (.int .i64 n) ∧ Below W.heap.size W W' := by
  subst hn
  obtain ⟨_, As, cs, os, hb, _⟩ := h
  obtain ⟨z0, z1, z2, z3, z4, z5⟩ := hb.cells
  have HD := Aside0.mk hd
  have hw : IntKind.i64.wrap (d.cap - j.fin) = d.cap - j.fin := by rw [IntKind.wrap_i64]; omega
  clear hb hd
  go_enter Try.func12, Try.ntmps12
  go_wp2
  go_region_held3 (fun w' => w'.cell? ⟨gj, 0, none⟩ = some (.pointer (some ⟨gd, 0, none⟩)) ∧ w'.cell? ⟨gj, 5, none⟩ = some (.int .i64 j.fin)) (go_keep)
    ((go_at_call 11; refine (Capacity_calls gd d _ ?s0).mono ?_; (case s0 => exact HD.out.below ⟨rfl, rfl, rfl, Nat.le_refl _, fun _ _ => rfl⟩); rintro e w' ⟨rfl, rfl⟩))
  go_wp2
  go_ret
  exact ⟨rfl, rfl, rfl, rfl, Nat.le_refl _, fun _ _ => rfl⟩
theorem Snapshot_calls [Pl] (gj gd B : Nat) (Ar : Option Addr) (cr : Nat) (j : Jn) (l : List Int) (n : Nat) (W : World) (h : JAt W B gj gd Ar cr j) (hs : j.snap = l) (hn : l.length = n) (hl : n ≤ 1000000) :
    Calls Try.prog 32 #[.pointer (some ⟨gj, 0, none⟩)] W fun e W' => ∃ A c, e = .returned (.slice A n c) ∧ n ≤ c ∧ Rd W' A l ∧ Below W.heap.size W W' := by
  subst hs; subst hn
  have hlo := h.lo
  obtain ⟨_, As, cs, os, hb, hc, hr, _⟩ := h
  obtain ⟨z0, z1, z2, z3, z4, z5⟩ := hb.cells
  have HR := Aside0.mk hr
  clear hb hr
  go_enter Try.func32, Try.ntmps32
  go_wp2_with (go_at_call 40; refine (Clone_calls _ _ _ _ HR.out.1 hc (by omega)).mono ?_; rintro e w1 ⟨v1, rfl, ho1, hb1⟩; have S := Aside0.mk (And.intro ho1 hb1); clear ho1 hb1)
  go_ret
  obtain ⟨A, c, rfl, hc1, hr1⟩ := Rd.of_R S.out.1 hlo S.out.2.size
  exact ⟨A, c, rfl, hc1, hr1, S.out.2⟩
end Go.Proofs.Ytcgefilboefnpaa.H
/- journal.Records and its func. -/
namespace Go.Proofs.Ytcgefilboefnpaa.H
open Go.RowKit Go.Proofs.YtcgefilboefnpaaW.PrintWords Go.Proofs.YtcgefilboefnpaaW.PrintLast Go.Proofs.YtcgefilboefnpaaW.PrintMore Go.Proofs.Ytcgefilboefnpaa.CrcM
set_option linter.unusedVariables false
set_option linter.unusedSimpArgs false
attribute [local go_sem] Oper.semAt_some wide_fn wide_depth

/-- What the func tells a round. -/
def RecY [Pl] (recs : List (List Int)) (pre : List (List Int)) (x : List Int) (vs : Array Value) (W : World) : Prop :=
  pre ++ [x] <+: recs ∧ ∃ A c, vs = #[.int .i64 (pre.length : Int), .slice A x.length c] ∧ x.length ≤ c ∧ Rd W A x
theorem Records_calls (gj : Nat) (w : World) : Calls Try.prog 31 #[.pointer (some ⟨gj, 0, none⟩)] w fun e w' =>
    e = .returned (.func (.func 51) #[] #[.pointer (some ⟨w.heap.size, 0, none⟩)]) ∧ w' = w.alloc (.cells #[.pointer (some ⟨gj, 0, none⟩)] 27) := by
  go_enter Try.func31, Try.ntmps31
  go_wp2
  go_ret
  exact ⟨rfl, rfl⟩
set_option maxHeartbeats 1600000 in
theorem Records1_seq [Pl] (n : Nat) (recs : List (List Int)) (hl : ∀ x ∈ recs, x.length ≤ 1000000) (Ar : Option Addr) (cr gj bb n₀ : Nat) (Kb : Nat → Prop) (w : World)
    (hbox : ∀ W, Kp n₀ Kb w W → W.cell? ⟨bb, 0, none⟩ = some (.pointer (some ⟨gj, 0, none⟩))) (hrec : ∀ W, Kp n₀ Kb w W → W.cell? ⟨gj, 4, none⟩ = some (.slice Ar recs.length cr))
    (hC : ∀ W, Kp n₀ Kb w W → Kd.C (Kd.slice 5 (Kd.int .u8)) W Ar recs.length recs) (hn : n₀ ≤ w.heap.size) (hlo : Pl.lo ≤ w.heap.size) :
    SeqX Fence.wide n Try.prog 51 #[.pointer (some ⟨bb, 0, none⟩)] (RecY recs) n₀ Kb (fun xs => xs = recs) (fun _ => True) w := by
  intro l J Jx W hK hJ hJx hY h0
  refine callsIn_of_wp Try.func51 rfl trivial ?_ rfl
  simp only [Try.ntmps51, List.size_toArray, List.length_cons, List.length_nil, Nat.reduceAdd, Nat.reduceSub, Array.replicate_succ, Array.replicate_zero, List.push_toArray, List.append_toArray, List.nil_append, List.cons_append]
  have hcell := hbox W hK
  have hrc := hrec W hK
  have hm : recs.length ≤ 9223372036854775807 := (hC W hK).2.1
  gi_wp2
  gi_loopw [10] (fun p wr => ∃ k : Nat, p = .int .i64 (k : Int) ∧ k ≤ recs.length ∧ J (recs.take k) wr ∧ Kp n₀ Kb w wr) (fun p wr => recs.length - (intOf p).toNat)
  case atStart => exact ⟨0, rfl, Nat.zero_le _, h0, hK⟩
  case round =>
    obtain ⟨k, rfl, hk, h4, h5⟩ := hrel
    by_cases hlt : k < recs.length
    · obtain ⟨ad, A0, c0, e0, hx, hcc, hrow⟩ := at_slice (hC wr h5) k hlt
      subst e0
      have hts : recs.take (k + 1) = recs.take k ++ [recs.getD k []] := by rw [List.take_succ_eq_append_getElem hlt]; simp [hlt]
      have hxl : (recs.getD k []).length ≤ 1000000 := hl _ (by simp [List.getD_eq_getElem?_getD, hlt])
      have hpl : (recs.take k).length = k := by rw [List.length_take]; omega
      generalize recs.getD k [] = x at *
      have hllt : (k : Int) < (recs.length : Int) := by omega
      have HT := Lib.hid hts
      have HR := Aside0.mk (And.intro hrow (Nat.le_trans hlo h5.1))
      have HP := Lib.hid hpl
      clear hts hrow hpl
      gi_wp2_with (fail)
      refine (callsIn_wide.2 (Clone_calls A0 c0 x _ HR.out.1 hcc (by omega))).mono ?_
      rintro e w1 ⟨v1, rfl, ho1, hb1⟩
      obtain ⟨A1, c1, e1, hc1, hr1⟩ := Rd.of_R ho1 HR.out.2 hb1.size
      subst e1
      obtain ⟨fn, tmps, asg, body, hy, hR⟩ := hY (recs.take k) x #[.int .i64 (k : Int), .slice A1 x.length c1] _ (hJ _ _ _ h4 hb1) ⟨by rw [← HT.out]; exact List.take_prefix _ _, A1, c1, by rw [HP.out], hc1, hr1⟩
      have hK1 := h5.trans (.of_below hb1 (by have := h5.1; omega))
      clear ho1 hr1
      gi_wp2
      refine hR.mono ?_
      rintro e W3 (⟨rfl, hJ3, hk3⟩ | ⟨rfl, hJx3⟩)
      · gi_wp2
        go_roundw
        case rel => exact ⟨k + 1, by go_num, by omega, by rw [HT.out]; exact hJ3, hK1.trans hk3⟩
        case measure => simp [intOf]; omega
      · gi_wp2
        refine bodyPost_ret (results_none rfl _ _ _) rfl ?_
        exact ⟨⟨_, rfl⟩, .inr ⟨_, trivial, hJx3⟩⟩
    · obtain rfl : k = recs.length := by omega
      rw [List.take_length] at h4
      gi_wp2
      go_end0
      exact ⟨⟨_, rfl⟩, .inl ⟨_, rfl, h4⟩⟩
end Go.Proofs.Ytcgefilboefnpaa.H
