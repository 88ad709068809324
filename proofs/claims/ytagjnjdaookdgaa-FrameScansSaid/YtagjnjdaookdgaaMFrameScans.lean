/- FrameScans: whatever the bytes and how many are asked for, the statement's function answers true. No condition. -/
import Derived.Test.YtagjnjdaookdgaaFrScan
import Derived.Test.YtagjnjdaookdgaaFrAl
import Derived.Test.YtagjnjdaookdgaaRq
import Derived.Test.YtagjnjdaookdgaaRow
namespace Go.Proofs.Ytagjnjdaookdgaa.MFrameScans
open Go.RowKit Go.Proofs.YtagjnjdaookdgaaW.PrintWords Go.Proofs.YtagjnjdaookdgaaW.PrintLast Go.Proofs.YtagjnjdaookdgaaW.PrintMore Go.Proofs.Ytagjnjdaookdgaa.H Go.Proofs.Ytagjnjdaookdgaa.CrcM
set_option linter.unusedVariables false
set_option linter.unusedSimpArgs false
attribute [local go_sem] Oper.semAt_some wide_fn wide_depth max2_int min2_int

theorem opens : Opens Try.prog 22 (Kd.slice 5 (Kd.int .u8)) (fun l => ∀ x ∈ l, (Lit.int .u8 x).wf = true) := opens_slice 0 Try.underlying22 (by kernel_rfl) (opens_int Try.underlying5)
theorem RRead0_eq (A : Option Addr) (c n m : Nat) (l rb : List Int) (rk rn re : Int) (w : World) (hn : l.length = n) (hm : rb.length = m) (hr : readF l = (rk, rb, rn, re)) (hC : Kd.C (Kd.int .u8) w A n l) (hc : n ≤ c) (hB : Bts l) (hl : n ≤ 1000000) :
    Calls Try.prog 15 #[.slice A n c, .int .i64 0] w fun e' w' => ∃ A1 c1, e' = .returned (.tuple #[.agg #[.int .i64 0, .int .i64 rk, .slice A1 m c1], .int .i64 rn, .int .i64 re]) ∧ m ≤ c1 ∧ Kd.C (Kd.int .u8) w' A1 m rb ∧ Below w.heap.size w w' := by
  subst hn; subst hm
  have h := RRead_calls A c l 0 w hC hc hB hl (Nat.zero_le _)
  rw [List.drop_zero, hr] at h
  refine h.mono ?_
  rintro e' w' ⟨A1, c1, rfl, h1, h2, _, h3⟩
  exact ⟨A1, c1, by simp, h1, h2, h3⟩
theorem RScan_eq (A : Option Addr) (c n : Nat) (l : List Int) (w : World) (e er : Int) (hn : l.length = n) (he : (endF l : Int) = e) (her : endErr l = er) (hC : Kd.C (Kd.int .u8) w A n l) (hc : n ≤ c) (hB : Bts l) (hl : n ≤ 1000000) :
    Calls Try.prog 16 #[.slice A n c] w fun e' w' => ∃ A1 c1 os, e' = .returned (.tuple #[.slice A1 os.length c1, .int .i64 e, .int .i64 er]) ∧ os.length ≤ c1 ∧ Kd.C KRaw w' A1 os.length os ∧ Ty 37 w' A1 ∧ RawsOf w' os (scanF l) ∧ Below w.heap.size w w' := by
  subst hn; subst he; subst her
  exact RScan_calls A c l w hC hc hB hl

theorem addr_add_add (a : Addr) (i j : Nat) : (a.add i).add j = a.add (i + j) := by
  unfold Addr.add
  by_cases hi : i = 0 <;> by_cases hj : j = 0 <;> simp [hi, hj, Nat.add_assoc]
/-- A function whose one result lies in a box. -/
theorem results_one_cell {fn : Func} {tmps : Array Value} {w : World} {k : Tmp} {ty : TypeId} {g : Nat} {v : Value} (h : fn.results = #[.cell k 4]) (hb : w.heap[g]? = some (.cells #[v] ty (0, 0))) (hp : tmps.getD k undef = .pointer (some ⟨g, 0, none⟩)) :
    (results fn tmps).run Try.prog w = .ok v w := by
  have hc : w.cell? ⟨g, 0, none⟩ = some v := by rw [blk_cell hb 0]; rfl
  have hp2 : tmps[k]?.getD undef = .pointer (some ⟨g, 0, none⟩) := by simpa using hp
  unfold results
  rw [h]
  simp [go_sem, hp2, hc, Try.underlying4]
set_option maxHeartbeats 3200000 in
theorem main (A : Option Addr) (c : Nat) (l : List Int) (hc : l.length ≤ c) {W0 : World} (m : Kd.C (Kd.int .u8) W0 A l.length l) (g : ∀ x ∈ l, (Lit.int .u8 x).wf = true)
    (most : Int) (wf : (Lit.int .i64 most).wf = true) (W : World) (hW : W0 = W := by rfl) :
    Calls Try.prog 4 #[.slice A l.length c, .int .i64 most] W fun e W' => e = .returned (.bool true) ∧ Below W.heap.size W W' := by
  subst hW
  have hB : Bts l := fun x hx => wf_u8 (g x hx)
  have M := Aside0.mk m
  have M0 := M
  clear m g wf
  by_cases h5 : l.length > 2000
  · have b0 : decide (2000 < l.length) = true := decide_eq_true h5
    have b1 : decide ((2000 : Int) < (l.length : Int)) = true := decide_eq_true (by omega)
    clear hB h5
    go_enter Try.func4, Try.ntmps4
    go_wp2_with (first
      | (go_at_call 8; refine (alive6_calls _).mono ?_; rintro e w1 ⟨rfl, hb1⟩; have hbk := (hb1.block (W0.heap.size + 1) (by simp)).trans (blk_new2 W0 (.cells #[.int .i64 most] 3) (.cells #[.bool false] 4)); have d0 := blk_cell hbk 0; have f0 := blk_frozen hbk 0; simp at d0; have S1 := Aside0.mk (And.intro (below_step (below_alloc (below_alloc (Below.refl _ _) _) _) hb1) hbk); clear hb1 hbk))
    refine bodyPost_ret (results_one_cell rfl (blk_put S1.out.2 0 (.bool true) rfl) rfl) rfl ?_
    exact ⟨rfl, below_set S1.out.1 (by simp)⟩
  · have b0 : decide (2000 < l.length) = false := decide_eq_false h5
    have b1 : decide ((2000 : Int) < (l.length : Int)) = false := decide_eq_false (by omega)
    have hl : l.length ≤ 2000 := by omega
    have HBB := Aside0.mk hB
    generalize hrf : readF l = rf
    obtain ⟨rk, rb, rn, re⟩ := rf
    generalize hef : (endF l : Int) = ef
    generalize her : endErr l = eer
    have H := Aside0.mk (And.intro hrf (And.intro hef her))
    have hx := and_mask most 1023 (by decide)
    rw [show ((1023 : Nat) : Int) = 1023 from rfl] at hx
    generalize hxx : bits .and .i64 most 1023 = x at hx
    obtain ⟨hx0, hx1⟩ := hx
    clear hB h5 hrf hef her
    refine (callsIn_wide (n := 5)).1 ?_
    refine callsIn_of_wp_marks Try.func4 rfl trivial ?_ rfl
    simp only [Try.ntmps4, List.size_toArray, List.length_cons, List.length_nil, Nat.reduceAdd, Nat.reduceSub, Array.replicate_succ, Array.replicate_zero, List.push_toArray, List.append_toArray, List.nil_append, List.cons_append]
    refine wpIn_wide.2 ?_
    go_wp2_with (first
      | (go_at_call 8; refine (alive6_calls _).mono ?_; rintro e w1 ⟨rfl, hb1⟩; have hq := below_step (below_alloc (below_alloc (Below.refl _ _) _) _) hb1; have hm := (hb1.block W0.heap.size (by simp; omega)).trans (blk_alloc (blk_new W0 (.cells #[.int .i64 most] 3)) (.cells #[.bool false] 4)); have hr := (hb1.block (W0.heap.size + 1) (by simp)).trans (blk_new2 W0 (.cells #[.int .i64 most] 3) (.cells #[.bool false] 4)); have S1 := Aside0.mk (And.intro hq (And.intro (Kd.C_below M.out hq) (And.intro hm hr))); clear hb1 hq hm hr M)
      | (go_at_call 14; have _t := S1; (with_reducible refine (Read_eq _ _ l.length rb.length l rb rk rn re _ ?s1 ?s2 ?s3 ?s4 ?s5 ?s6 ?s7).mono ?_); (case s1 => rfl); (case s2 => rfl); (case s3 => exact H.out.1); (case s4 => exact S1.out.2.1); (case s5 => exact hc); (case s6 => exact HBB.out); (case s7 => omega); rintro e w2 ⟨A2, c2, rfl, hc2, hr2, hb2⟩; have S2 := Aside0.mk (And.intro (below_step S1.out.1 hb2) (And.intro (Kd.C_below S1.out.2.1 hb2) (And.intro (blk_belowX S1.out.2.2.1 hb2) (And.intro (blk_belowX S1.out.2.2.2 hb2) hr2)))); clear S1 _t hr2 hb2)
      | (go_at_call 15; have _t := S2; (with_reducible refine (RRead0_eq _ _ l.length rb.length l rb rk rn re _ ?s1 ?s2 ?s3 ?s4 ?s5 ?s6 ?s7).mono ?_); (case s1 => rfl); (case s2 => rfl); (case s3 => exact H.out.1); (case s4 => exact Kd.C_alloc S2.out.2.1 _); (case s5 => exact hc); (case s6 => exact HBB.out); (case s7 => omega); rintro e w3 ⟨A3, c3, rfl, hc3, hr3, hb3⟩; have hq := below_step (below_alloc (Below.refl _ _) _) hb3; have hbf := (hb3.block w2.heap.size (by simp)).trans (blk_new w2 (.cells #[.int .i64 rk, .slice A2 rb.length c2] 28)); have hs := blk_lt hbf; have d0 := blk_cell hbf 0; have d1 := blk_cell hbf 1; simp at d0 d1; have S3 := Aside0.mk (And.intro (below_step S2.out.1 hq) (And.intro (Kd.C_below S2.out.2.1 hq) (And.intro (blk_belowX S2.out.2.2.1 hq) (And.intro (blk_belowX S2.out.2.2.2.1 hq) (And.intro (Kd.C_below S2.out.2.2.2.2 hq) hr3))))); clear S2 _t hr3 hb3 hq hbf)
      | (go_at_call 11; have _t := S3; (with_reducible refine (Same_eq _ _ _ _ rb.length rb.length rb rb _ ?s1 ?s2 true ?s3 ?s4 ?s5).mono ?_); (case s1 => rfl); (case s2 => rfl); (case s3 => exact decide_eq_true rfl); (case s4 => exact Kd.C_alloc S3.out.2.2.2.2.1 _); (case s5 => exact Kd.C_alloc S3.out.2.2.2.2.2 _); rintro e w4 ⟨rfl, hb4⟩; have hq := below_step (below_alloc (Below.refl _ _) _) hb4; have S4 := Aside0.mk (And.intro (below_step S3.out.1 hq) (And.intro (Kd.C_below S3.out.2.1 hq) (And.intro (blk_belowX S3.out.2.2.1 hq) (blk_belowX S3.out.2.2.2.1 hq)))); clear S3 _t hb4 hq)
      | (go_at_call 16; have _t := S4; (with_reducible refine (RScan_eq _ _ l.length l _ ef eer ?s1 ?s2 ?s3 ?s4 ?s5 ?s6 ?s7).mono ?_); (case s1 => rfl); (case s2 => exact H.out.2.1); (case s3 => exact H.out.2.2); (case s4 => exact S4.out.2.1); (case s5 => exact hc); (case s6 => exact HBB.out); (case s7 => omega); rintro e w5 ⟨A5, c5, os, rfl, hc5, hr5, hty5, hraw, hb5⟩; have S5 := Aside0.mk (And.intro (below_step S4.out.1 hb5) (And.intro (Kd.C_below S4.out.2.1 hb5) (And.intro (blk_belowX S4.out.2.2.1 hb5) (And.intro (blk_belowX S4.out.2.2.2 hb5) (And.intro hr5 (And.intro hty5 hraw)))))); clear S4 _t hb5 hr5 hty5 hraw)
      | (go_at_call 17; have _t := S5; (with_reducible refine (End_eq _ _ l.length l ef eer _ ?s1 ?s2 ?s3 ?s4 ?s5 ?s6 ?s7).mono ?_); (case s1 => rfl); (case s2 => exact H.out.2.1); (case s3 => exact H.out.2.2); (case s4 => exact Kd.C_alloc S5.out.2.1 _); (case s5 => exact hc); (case s6 => exact HBB.out); (case s7 => omega); rintro e w6 ⟨rfl, hb6⟩; have hq := below_step (below_alloc (Below.refl _ _) _) hb6; have hal := (hb6.block w5.heap.size (by simp)).trans (blk_new w5 (.cells #[.slice A5 os.length c5] 40)); have hm := blk_belowX S5.out.2.2.1 hq; have d0 := blk_cell hm 0; have f0 := blk_frozen hm 0; simp at d0; have hs6 := blk_lt hm; have S6 := Aside0.mk (And.intro (below_step S5.out.1 hq) (And.intro (Kd.C_below S5.out.2.1 hq) (And.intro hm (And.intro (blk_belowX S5.out.2.2.2.1 hq) (And.intro (Kd.C_below S5.out.2.2.2.2.1 hq) (And.intro (S5.out.2.2.2.2.2.1.below hq) (And.intro (S5.out.2.2.2.2.2.2.below hq) hal))))))); clear S5 _t hb6 hq hal hm)
      | (go_at_call 18; refine (Scan_calls _ _ _ _).mono ?_; rintro e w8 ⟨rfl, rfl⟩))
    obtain ⟨s1, s2, s3, s4, s5, s6, s7, s8⟩ := S6.out
    have n1 : W0.heap.size + 1 ≠ W0.heap.size := by omega
    have n2 : w5.heap.size ≠ W0.heap.size := fun e => by rw [e, s3] at s8; injection s8 with s8; injection s8 with _ s8 _; exact absurd s8 (by decide)
    have hmW := blk_alloc (blk_alloc (blk_put s3 0 (.int .i64 (1 + x)) rfl) (.cells #[.int .i64 0] 3)) (.cells #[.slice A l.length c] 22)
    have hty : ∀ (t : TypeId), t ≠ 3 → ∀ (i : Nat) (cs : Array Value) (z : Nat × Nat), w6.heap[i]? = some (Obj.cells cs t z) → (((w6.setCell ⟨W0.heap.size, 0, none⟩ (.int .i64 (1 + x))).alloc (.cells #[.int .i64 0] 3)).alloc (.cells #[.slice A l.length c] 22)).heap[i]? = w6.heap[i]? := fun t ht i cs z hi => by
      have hne : i ≠ W0.heap.size := fun e => by rw [e, s3] at hi; injection hi with hi; injection hi with _ hi _; exact ht hi.symm
      have h1 := (Below.heap_setCell w6 ⟨W0.heap.size, 0, none⟩ (.int .i64 (1 + x)) i hne).trans hi
      exact (blk_alloc (blk_alloc h1 _) _).trans hi.symm
    have hre := blk_alloc (blk_alloc (blk_far (p := ⟨W0.heap.size, 0, none⟩) s4 n1 (.int .i64 (1 + x))) (.cells #[.int .i64 0] 3)) (.cells #[.slice A l.length c] 22)
    have hal := (hty 40 (by decide) _ _ _ s8).trans s8
    have hz : (w6.setCell ⟨W0.heap.size, 0, none⟩ (.int .i64 (1 + x))).heap.size = w6.heap.size := by show (w6.heap.modify _ _).size = _; rw [Array.size_modify]
    have hbi := blk_alloc (blk_new (w6.setCell ⟨W0.heap.size, 0, none⟩ (.int .i64 (1 + x))) (.cells #[.int .i64 0] 3)) (.cells #[.slice A l.length c] 22)
    have hsc := blk_new2 (w6.setCell ⟨W0.heap.size, 0, none⟩ (.int .i64 (1 + x))) (.cells #[.int .i64 0] 3) (.cells #[.slice A l.length c] 22)
    rw [hz] at hbi hsc
    have hB9 : Below W0.heap.size W0 (((w6.setCell ⟨W0.heap.size, 0, none⟩ (.int .i64 (1 + x))).alloc (.cells #[.int .i64 0] 3)).alloc (.cells #[.slice A l.length c] 22)) := below_alloc (below_alloc (below_set s1 (Nat.le_refl _)) _) _
    have hsz : ((((w6.setCell ⟨W0.heap.size, 0, none⟩ (.int .i64 (1 + x))).alloc (.cells #[.int .i64 0] 3)).alloc (.cells #[.slice A l.length c] 22))).heap.size = w6.heap.size + 2 := by rw [World.size_alloc, World.size_alloc, hz]
    have hkr := KRaw_ty s6 s5 (hty _ (by decide))
    have htk := s6.of_ty (hty _ (by decide))
    have hrw := s7.of_ty (hty _ (by decide))
    have hw56 : w5.heap.size < w6.heap.size := blk_lt s8
    have hw06 : W0.heap.size + 1 < w6.heap.size := blk_lt s4
    clear hty s1 s2 s3 s4 s5 s6 s7 s8 S6 hz
    generalize (((w6.setCell ⟨W0.heap.size, 0, none⟩ (.int .i64 (1 + x))).alloc (.cells #[.int .i64 0] 3)).alloc (.cells #[.slice A l.length c] 22)) = w9 at hmW hre hal hbi hsc hB9 hsz hkr htk hrw
    have hCl := Kd.C_below M0.out hB9
    refine (wpIn_wide (n := 5)).1 (rangeX rfl (by omega) (gf := 27) (lb := #[.pointer (some ⟨w6.heap.size + 1, 0, none⟩)]) rfl trivial (enters_of Try.func27 (by kernel_rfl) rfl)
      (Y := FrY l) (n₀ := w9.heap.size) (Kb := fun k => k ≠ w6.heap.size) (S := fun xs => xs = scanF l) (Sp := fun _ => True)
      (Scan1_seq 4 l HBB.out (by omega) A c hc (w6.heap.size + 1) w9.heap.size (fun k => k ≠ w6.heap.size) w9
        (fun W hk => by rw [blk_cell ((hk.2 (w6.heap.size + 1) (by omega) (by omega)).trans hsc) 0]; rfl)
        (fun W hk => C_of_blocks M0.out (fun i hi => (hk.2 i (by omega) (by omega)).trans (hB9.block i hi))) (Nat.le_refl _)) (Nat.le_refl _)
      (fun _ _ _ _ hy => by obtain ⟨_, A3, c3, rfl, _⟩ := hy; rfl)
      (fun pre W => W.heap[w6.heap.size]? = some (.cells #[.int .i64 (pre.length : Int)] 3 (0, 0)) ∧ Oth w6.heap.size w9 W ∧ (pre.length : Int) < 1 + x ∧ pre <+: scanF l)
      (fun cd pre W => cd = .exit 0 ∧ W.heap[w6.heap.size]? = some (.cells #[.int .i64 (pre.length : Int)] 3 (0, 0)) ∧ Oth w6.heap.size w9 W ∧ (pre.length : Int) = 1 + x ∧ pre <+: scanF l)
      (fun s P Q h hlie => ⟨hlie.blk h.1, h.2.1.lies hlie (Nat.le_refl _), h.2.2⟩) (fun cd s P Q h hlie => ⟨h.1, hlie.blk h.2.1, h.2.2.1.lies hlie (Nat.le_refl _), h.2.2.2⟩)
      ⟨hbi, Oth.refl _ _, by simp; omega, List.nil_prefix⟩ ?round ?done ?stop)
    case round =>
      rintro l' pre ⟨xa, xk, xb⟩ vs W hl2 ⟨hI1, hI2, hI3, hI4⟩ ⟨hpre, A8, c8, rfl, hc8, hr8⟩ hWs
      simp only at hc8 hr8
      gi_wp2
      refine ⟨KeepsFrom.of_below (below_alloc (Below.refl _ _) _), Kp.of_below (below_alloc (Below.refl _ _) _) (by omega), ?_⟩
      intro Wb hlie
      have g1 := hlie.blk (blk_new W (.cells #[.int .i64 xk, .slice A8 xb.length c8] 28))
      have g2 := hlie.blk (blk_alloc hI1 (.cells #[.int .i64 xk, .slice A8 xb.length c8] 28))
      have gO := (hI2.trans (Oth.of_below (below_alloc (Below.refl _ _) (.cells #[.int .i64 xk, .slice A8 xb.length c8] 28)))).lies hlie (Nat.le_refl _)
      have hCb := hlie.C (Kd.C_alloc hr8 (.cells #[.int .i64 xk, .slice A8 xb.length c8] 28))
      have hidx : (scanF l)[pre.length]? = some (xa, xk, xb) := by
        obtain ⟨r, hr⟩ := hpre
        rw [← hr, List.append_assoc, List.getElem?_append_right (Nat.le_refl _), Nat.sub_self]; rfl
      have hlt : pre.length < os.length := by rw [hrw.1]; exact (List.getElem?_eq_some_iff.1 hidx).1
      have htw : ∀ (t : TypeId), t ≠ 3 → ∀ (i : Nat) (cs : Array Value) (z : Nat × Nat), w9.heap[i]? = some (Obj.cells cs t z) → Wb.heap[i]? = w9.heap[i]? := fun t ht i cs z hi => gO.block i (lt_of_some hi) (fun e => by rw [e, hbi] at hi; injection hi with hi; injection hi with _ hi _; exact ht hi.symm)
      obtain ⟨⟨oa, ok, oA, on, oc⟩, hoe⟩ : ∃ o, os[pre.length]? = some o := ⟨_, List.getElem?_eq_getElem hlt⟩
      obtain ⟨o1, o2, o3, o4, o5, _⟩ := (hrw.2 pre.length _ _ hoe hidx).of_ty (htw _ (by decide))
      simp only at o1 o2 o3 o4 o5
      subst o1; subst o2; subst o3
      have hK := KRaw_ty htk hkr (htw _ (by decide))
      have g3 := gO.blk hal (by omega)
      have g4 := gO.blk hmW (by omega)
      obtain ⟨ad, ea, hr⟩ := hK.2.2 (by omega)
      subst ea
      obtain ⟨cc, _, hcc, hcell⟩ := hr pre.length _ hoe
      have hcc' : cc = rawCells (oa, ok, oA, xb.length, oc) := hcc
      subst hcc'
      have e0 := hcell 0 _ rfl
      have e1 := hcell 1 _ rfl
      have e2 := hcell 2 _ rfl
      replace e0 : Wb.cell? (ad.add (pre.length * 3 + 0)) = some (.int .i64 oa) := e0
      replace e1 : Wb.cell? (ad.add (pre.length * 3 + 1)) = some (.int .i64 ok) := e1
      replace e2 : Wb.cell? (ad.add (pre.length * 3 + 2)) = some (.slice oA xb.length oc) := e2
      rw [Nat.add_zero] at e0
      rw [← addr_add_add] at e1 e2
      replace e1 : Wb.cell? ⟨(ad.add (pre.length * 3)).block, (ad.add (pre.length * 3)).off + 1, none⟩ = some (.int .i64 ok) := e1
      replace e2 : Wb.cell? ⟨(ad.add (pre.length * 3)).block, (ad.add (pre.length * 3)).off + 2, none⟩ = some (.slice oA xb.length oc) := e2
      have d1 := blk_cell g1 0
      have d1' := blk_cell g1 1
      have d2 := blk_cell g2 0
      have f2 := blk_frozen g2 0
      have d3 := blk_cell g3 0
      have d4 := blk_cell g4 0
      simp at d1 d1' d2 d3 d4
      have hll : (pre.length : Int) < (os.length : Int) := by omega
      have bge : decide ((os.length : Int) ≤ (pre.length : Int)) = false := decide_eq_false (by omega)
      have bge' : decide (os.length ≤ pre.length) = false := decide_eq_false (by omega)
      have GG := Aside0.mk (And.intro g1 (And.intro g2 (And.intro gO (And.intro hCb o5))))
      clear g1 g2 g3 g4 gO hCb o5 hI1 hI2 hlie htw hK hcell hr hkr htk hrw hoe hidx hmW hre hal hbi hsc hCl hB9
      refine wpIn_block ?_
      refine wpIn_seq_k ?_
      intro K1 hK1
      refine wpIn_seq_k ?_
      intro K2 hK2
      rq_quiet ((gi_at_call 11; exact CallsIn.quiet_of (callsIn_wide.2 (Same_dr _ _ _ _ xb.length xb.length xb xb _ rfl rfl true (decide_eq_true rfl) (Kd.C_drewN GG.out.2.2.2.2 _) (Kd.C_drewN GG.out.2.2.2.1 _)))))
      have HSZ := Aside0.mk hsz
      clear hsz
      by_cases hm : (pre.length : Int) + 1 = 1 + x
      · have b4 : ((pre.length : Int) + 1 == 1 + x) = true := beq_iff_eq.2 hm
        have b5 : decide ((pre.length : Int) + 1 = 1 + x) = true := decide_eq_true hm
        have HM := Aside0.mk hm
        clear hm
        gi_wp2
        have hK0 : KeepsFrom w9.heap.size Wb ((Wb.drewN nq).setCell ⟨w6.heap.size, 0, none⟩ (.int .i64 ((pre.length : Int) + 1))) := (KeepsFrom.of_below (pw_below_drewN (Below.refl _ _) nq)).trans (KeepsFrom.set _ _ _ _)
        have hset : ((Wb.drewN nq).setCell ⟨w6.heap.size, 0, none⟩ (.int .i64 ((pre.length : Int) + 1))).heap[w6.heap.size]? = some (.cells #[.int .i64 (((pre ++ [(oa, ok, xb)]).length : Nat) : Int)] 3 (0, 0)) := by
          rw [show (((pre ++ [(oa, ok, xb)]).length : Nat) : Int) = (pre.length : Int) + 1 by simp]
          exact blk_put (w := Wb.drewN nq) GG.out.2.1 0 (.int .i64 ((pre.length : Int) + 1)) rfl
        have hoth := (GG.out.2.2.1.trans (Oth.of_below (pw_below_drewN (Below.refl _ _) nq))).trans (Oth.set (Wb.drewN nq) ⟨w6.heap.size, 0, none⟩ (.int .i64 ((pre.length : Int) + 1)))
        exact And.intro hK0 (And.intro rfl (And.intro hset (And.intro hoth (And.intro (by rw [show (((pre ++ [(oa, ok, xb)]).length : Nat) : Int) = (pre.length : Int) + 1 by simp]; exact HM.out) hpre))))
      · have b4 : ((pre.length : Int) + 1 == 1 + x) = false := by rw [beq_eq_false_iff_ne]; exact hm
        have b5 : decide ((pre.length : Int) + 1 = 1 + x) = false := decide_eq_false hm
        gi_wp2
        have hK0 : KeepsFrom w9.heap.size Wb ((Wb.drewN nq).setCell ⟨w6.heap.size, 0, none⟩ (.int .i64 ((pre.length : Int) + 1))) := (KeepsFrom.of_below (pw_below_drewN (Below.refl _ _) nq)).trans (KeepsFrom.set _ _ _ _)
        have hset : ((Wb.drewN nq).setCell ⟨w6.heap.size, 0, none⟩ (.int .i64 ((pre.length : Int) + 1))).heap[w6.heap.size]? = some (.cells #[.int .i64 (((pre ++ [(oa, ok, xb)]).length : Nat) : Int)] 3 (0, 0)) := by
          rw [show (((pre ++ [(oa, ok, xb)]).length : Nat) : Int) = (pre.length : Int) + 1 by simp]
          exact blk_put (w := Wb.drewN nq) GG.out.2.1 0 (.int .i64 ((pre.length : Int) + 1)) rfl
        have hoth := (GG.out.2.2.1.trans (Oth.of_below (pw_below_drewN (Below.refl _ _) nq))).trans (Oth.set (Wb.drewN nq) ⟨w6.heap.size, 0, none⟩ (.int .i64 ((pre.length : Int) + 1)))
        exact And.intro hK0 (And.intro ((Kp.of_below (pw_below_drewN (Below.refl _ _) nq) (by have := HSZ.out; have := GG.out.2.2.1.size; omega)).trans (Kp.set (fun h => absurd rfl h) _)) (And.intro hset (And.intro hoth (And.intro (by rw [show (((pre ++ [(oa, ok, xb)]).length : Nat) : Int) = (pre.length : Int) + 1 by simp]; omega) hpre))))
    case done =>
      rintro D xs W hD hS ⟨hI1, hI2, hI3, hI4⟩ hK
      have hlen : os.length = (scanF l).length := hrw.1
      rw [hS, ← hlen] at hI1 hI3
      have g1 := hI2.blk hmW (by omega)
      have g2 := hI2.blk hre (by omega)
      have g3 := hI2.blk hal (by omega)
      have hDr := hI2.below hB9 (by omega)
      have d0 := blk_cell g1 0
      have d1 := blk_cell g2 0
      have d2 := blk_cell g3 0
      have d3 := blk_cell hI1 0
      have f1 := blk_frozen g2 0
      simp at d0 d1 d2 d3
      have hDl := lt_of_some hK
      have hlt : (os.length : Int) < 1 + x := hI3
      have G := Aside0.mk (And.intro g2 (And.intro hDr hK))
      have hDw : W0.heap.size + 1 < D := by omega
      clear g1 g2 g3 hI1 hI2 hI3 hI4 hmW hre hal hbi hsc hkr htk hrw hK hS hDr hCl hB9
      go_wp2
      have hK' := (Below.heap_setCell W ⟨W0.heap.size + 1, 0, none⟩ (.bool true) D (by show D ≠ W0.heap.size + 1; omega)).trans G.out.2.2
      refine ⟨by simp, .inl ⟨_, _, rfl, run_takeDeferred hK', ?_⟩⟩
      exact ⟨_, results_one_cell rfl ((World.putObj_heap_other (by omega)).trans (blk_put G.out.1 0 (.bool true) rfl)) rfl, rfl, belowK_t (below_set G.out.2.1 (by simp)) (belowK_b (w := W0) (Nat.le_refl _) _ D _ _ (by omega) hK' rfl rfl)⟩
    case stop =>
      rintro D cd pre W hD hS ⟨rfl, hI1, hI2, hI3, hI4⟩ hK
      have hlen : os.length = (scanF l).length := hrw.1
      have hple : pre.length ≤ os.length := by rw [hlen]; exact hI4.length_le
      rw [hI3] at hI1
      have g1 := hI2.blk hmW (by omega)
      have g2 := hI2.blk hre (by omega)
      have g3 := hI2.blk hal (by omega)
      have hDr := hI2.below hB9 (by omega)
      have d0 := blk_cell g1 0
      have d1 := blk_cell g2 0
      have d2 := blk_cell g3 0
      have d3 := blk_cell hI1 0
      have f1 := blk_frozen g2 0
      simp at d0 d1 d2 d3
      have hDl := lt_of_some hK
      have hlt : 1 + x ≤ (os.length : Int) := by omega
      have G := Aside0.mk (And.intro g2 (And.intro hDr hK))
      have hDw : W0.heap.size + 1 < D := by omega
      clear hple g1 g2 g3 hI1 hI2 hI3 hI4 hmW hre hal hbi hsc hkr htk hrw hK hS hDr hCl hB9
      refine wpIn_wide.2 ?_
      go_wp2
      have hK' := (Below.heap_setCell W ⟨W0.heap.size + 1, 0, none⟩ (.bool true) D (by show D ≠ W0.heap.size + 1; omega)).trans G.out.2.2
      refine ⟨by simp, .inl ⟨_, _, rfl, run_takeDeferred hK', ?_⟩⟩
      exact ⟨_, results_one_cell rfl ((World.putObj_heap_other (by omega)).trans (blk_put G.out.1 0 (.bool true) rfl)) rfl, rfl, belowK_t (below_set G.out.2.1 (by simp)) (belowK_b (w := W0) (Nat.le_refl _) _ D _ _ (by omega) hK' rfl rfl)⟩
end Go.Proofs.Ytagjnjdaookdgaa.MFrameScans
