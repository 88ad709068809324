/- Some texts of one seat in one file, in build order. -/
import Derived.Test.YtmcapemlfplcgaaDoorG17
import Derived.Test.YtmcapemlfplcgaaDoorG1
import Derived.Deep.RegionHeld3
/- SetPairs: of each item with a place what stands there is told. No condition but what the row lists of the variables. -/
namespace Go.Proofs.YtmcapemlfplcgaaDoor.MSetPairs
open Go.RowKit Go.Proofs.YtmcapemlfplcgaaDoorW.PrintWords Go.Proofs.YtmcapemlfplcgaaDoorW.PrintLast Go.Proofs.YtmcapemlfplcgaaDoorW.PrintMore Go.Proofs.YtmcapemlfplcgaaDoor.AtM Go.Proofs.YtmcapemlfplcgaaDoor.R02 Go.Proofs.YtmcapemlfplcgaaDoor.H Go.Proofs.YtmcapemlfplcgaaDoor.Ult
set_option linter.unusedVariables false
set_option linter.unusedSimpArgs false
set_option maxRecDepth 100000
attribute [local go_sem] Oper.semAt_some wide_fn wide_depth
theorem opens : Opens Tryd.prog 49 (Kd.slice 2 (Kd.int .i64)) (fun l => ∀ x ∈ l, (Lit.int .i64 x).wf = true) := opens_slice 0 Tryd.underlying49 (by kernel_rfl) (opens_int Tryd.underlying2)
theorem C_blocksK {k : IntKind} {W W' : World} {A : Option Addr} {n : Nat} {xs : List Int} (hc : Kd.C (Kd.int k) W A n xs) (h : ∀ i, i < W.heap.size → W'.heap[i]? = W.heap[i]?) : Kd.C (Kd.int k) W' A n xs :=
  ⟨hc.1, hc.2.1, fun hn => by
    obtain ⟨ad, e, hr⟩ := hc.2.2 hn
    refine ⟨ad, e, fun j p hj => ?_⟩
    obtain ⟨c, hs, hR, hcell⟩ := hr j p hj
    exact ⟨c, hs, hR, fun i u hu => (World.cell?_of_block (h _ (World.block_lt_of_cell? W _ (hcell i u hu)))).trans (hcell i u hu)⟩⟩
def TT : TypeId → Prop := fun t => t = 3 ∨ t = 2
/-- What holds between two rounds. -/
structure GP (w X : World) (N : Nat) (ps : List (Int × Int)) : Prop where
  row : ∃ A1 c1 A2 c2, X.heap[N + 2]? = some (.cells #[.slice A1 ps.length c1] 27 (0, 0)) ∧ X.heap[N + 3]? = some (.cells #[.slice A2 ps.length c2] 49 (0, 0)) ∧
    Tw w X N N (N + 1) (N + 2) (N + 3) (.slice A1 ps.length c1) (.slice A2 ps.length c2) (ps.map Prod.fst) (ps.map Prod.snd)
theorem Rl.lies {w X Y : World} {e1 e2 b1 b2 B : Nat} (h : Rl w w X e1 e2 b1 b2) (hl : Lies B X Y) (hB : w.heap.size ≤ B) : Rl w w Y e1 e2 b1 b2 :=
  ⟨hl.os.trans h.os, hl.tape.trans h.tape, hl.output.trans h.output, Nat.le_trans h.size hl.size, fun k h1 h2 h3 h4 h5 h6 => by
    have e := h.old k h1 h2 h3 h4 h5 h6
    obtain ⟨o, ho⟩ : ∃ o, w.heap[k]? = some o := ⟨_, Array.getElem?_eq_getElem h2⟩
    rw [ho] at e ⊢
    exact hl.same k o e (.inl (by omega)), fun k h1 h2 h3 h4 => by
    have e := h.typ k h1 h2 h3 h4
    obtain ⟨o, ho⟩ : ∃ o, w.heap[k]? = some o := ⟨_, Array.getElem?_eq_getElem h1⟩
    rw [ho] at e ⊢
    exact hl.same k o e (.inl (by omega))⟩
theorem GP.lies {w X Y : World} {N B : Nat} {ps : List (Int × Int)} (h : GP w X N ps) (hl : Lies B X Y) (hB : w.heap.size ≤ B) : GP w Y N ps := by
  obtain ⟨A1, c1, A2, c2, h1, h2, h3⟩ := h.row
  exact ⟨A1, c1, A2, c2, hl.blk h1, hl.blk h2, ⟨hl.R h3.r1, hl.R h3.r2, Rl.lies h3.rl hl hB⟩⟩
theorem RList_R (s : Int) (n : Nat) (W : World) (hs : U64 s) (h : (listS s).length = n) : Calls Tryd.prog 15 #[.int .u64 s] W fun e W' =>
    ∃ A c, e = .returned (.slice A n c) ∧ Kd.R (Kd.int .i64) 3 W' W.heap.size (fun _ => True) (.slice A n c) (listS s) ∧ Below W.heap.size W W' := by
  subst h
  obtain ⟨k, hk⟩ := (list_ev s hs).get
  refine (PAll2.saleroomref02_List.calls k s _ W hk).mono ?_
  rintro e w' ⟨v, rfl, hR, hb⟩
  obtain ⟨A, c, rfl, hc, hC⟩ := R_C hR
  exact ⟨A, c, rfl, hR, hb⟩
theorem Rl.toBut {w X : World} {e1 e2 b1 b2 : Nat} (h : Rl w w X e1 e2 b1 b2) : But (fun k => k = e1 ∨ k = e2 ∨ k = b1 ∨ k = b2) w X :=
  ⟨h.os, h.tape, h.output, h.size, fun k hk hp => h.old k hk hk (fun e => hp (.inl e)) (fun e => hp (.inr (.inl e))) (fun e => hp (.inr (.inr (.inl e)))) (fun e => hp (.inr (.inr (.inr e))))⟩
theorem pairs_take (xs all : List Int) (m k : Nat) (i : Int) (hi : xs[k]? = some i) : (pairsOf (xs.take (k + 1)) all).take m = if i < (all.length : Int) ∧ ((pairsOf (xs.take k) all).take m).length < m then (pairsOf (xs.take k) all).take m ++ [(i, all.getD i.toNat 0)] else (pairsOf (xs.take k) all).take m := by
  have hk : k < xs.length := by
    rcases Nat.lt_or_ge k xs.length with h | h
    · exact h
    · rw [List.getElem?_eq_none h] at hi; cases hi
  have e : xs.take (k + 1) = xs.take k ++ [i] := by
    rw [List.take_succ_eq_append_getElem hk]
    rw [List.getElem?_eq_getElem hk] at hi
    injection hi with hi; rw [hi]
  rw [e, pairs_snoc]
  generalize pairsOf (xs.take k) all = P
  by_cases h1 : i < (all.length : Int)
  · rw [if_pos h1]
    by_cases h2 : (P.take m).length < m
    · rw [if_pos ⟨h1, h2⟩]
      rw [List.length_take] at h2
      rw [List.take_of_length_le (by rw [List.length_append, List.length_singleton]; omega), List.take_of_length_le (by omega)]
    · rw [if_neg (fun h => h2 h.2)]
      rw [List.length_take] at h2
      rw [List.take_append_of_le_length (by omega)]
  · rw [if_neg h1, if_neg (fun h => h1 h.1), List.append_nil]
/-- What holds between two rounds of the second loop. -/
def RelW (x2 : World) (M : Nat) (xs l : List Int) (m n0 : Nat) (v1 v2 p : Value) (wr : World) : Prop :=
  ∃ (k n : Nat) (B1 B2 : Option Addr) (d1 d2 : Nat), v1 = .slice B1 n d1 ∧ v2 = .slice B2 n d2 ∧ p = .int .i64 (k : Int) ∧ k ≤ n0 ∧ n ≤ m ∧ Aside0 (((pairsOf (xs.take k) l).take m).length = n) ∧
    Aside0 (Tw x2 wr M M (M + 1) M M (.slice B1 n d1) (.slice B2 n d2) (((pairsOf (xs.take k) l).take m).map Prod.fst) (((pairsOf (xs.take k) l).take m).map Prod.snd))
set_option maxHeartbeats 3200000 in
theorem main (a : Int) (wa : (Lit.int .u64 a).wf = true) (A : Option Addr) (c : Nat) (l : List Int) (hc : l.length ≤ c) {W : World} (hm : Kd.C (Kd.int .i64) W A l.length l) (hg : ∀ x ∈ l, (Lit.int .i64 x).wf = true)
    (most : Int) (wm : (Lit.int .i64 most).wf = true) (W' : World) (hT : TabE W') (hW : W = W' := by rfl) :
    Calls Tryd.prog 6 #[.int .u64 a, .slice A l.length c, .int .i64 most] W' fun e W'' => e = .returned (.bool true) ∧ Below W'.heap.size W' W'' := by
  subst hW
  have ha := wf2_u64 wa
  have hmm := and_mask2 most 127 (by decide)
  rw [show ((127 : Nat) : Int) = 127 from rfl] at hmm
  have HU := Aside0.mk (And.intro ha (And.intro hT hm))
  clear wa wm ha hT hm hg
  refine (callsIn_wide (n := 8)).1 ?_
  refine callsIn_of_wp_marks Tryd.func6 rfl trivial ?_ rfl
  simp only [Tryd.ntmps6, List.size_toArray, List.length_cons, List.length_nil, Nat.reduceAdd, Nat.reduceSub, Array.replicate_succ, Array.replicate_zero, List.push_toArray, List.append_toArray, List.nil_append, List.cons_append]
  refine wpIn_wide.2 ?_
  have hb0 : Below W.heap.size W (W.alloc (.cells #[.int .i64 most] 3)) := below_alloc (Below.refl _ _) _
  have m0 := blk_new W (.cells #[.int .i64 most] 3)
  go_wp2_with (fail)
  refine (alive2_calls _ (HU.out.2.1.below hb0)).mono ?_
  rintro e w1 ⟨rfl, hb1⟩
  have m1 := blk_belowX m0 hb1
  have B := Aside0.mk (And.intro (below_step hb0 hb1) m1)
  have d1 := blk_cell m1 0
  have f1 := blk_frozen m1 0
  simp at d1
  clear hb0 m0 hb1 m1
  by_cases h100 : l.length > 100
  · have g1 : decide ((l.length : Int) > 100) = true := decide_eq_true (by omega)
    have g2 : decide ((100 : Int) < (l.length : Int)) = true := decide_eq_true (by omega)
    have g3 : decide (100 < l.length) = true := decide_eq_true (by omega)
    go_wp2
    exact ⟨_, results_tmp rfl _ _ _, rfl, B.out.1⟩
  · have g1 : decide ((l.length : Int) > 100) = false := decide_eq_false (by omega)
    have g2 : decide ((100 : Int) < (l.length : Int)) = false := decide_eq_false (by omega)
    have g3 : decide (100 < l.length) = false := decide_eq_false (by omega)
    go_wp2_with (fail)
    obtain ⟨m, hm⟩ : ∃ m : Nat, 1 + bits BinOp.and IntKind.i64 most 127 = (m : Int) := ⟨(1 + bits BinOp.and IntKind.i64 most 127).toNat, by omega⟩
    have hm0 : 1 ≤ m ∧ m ≤ 128 := by omega
    rw [hm]
    have hW5 : W.heap.size < w1.heap.size := lt_of_some B.out.2
    have e1 : (w1.setCell ⟨W.heap.size, 0, none⟩ (.int .i64 (m : Int))).heap.size = w1.heap.size := by
      show (w1.heap.modify _ _).size = _; rw [Array.size_modify]
    have hb6 : Below W.heap.size W (((((w1.setCell ⟨W.heap.size, 0, none⟩ (.int .i64 (m : Int))).alloc (.cells #[] 3)).alloc (.cells #[] 2)).alloc (.cells #[.slice (some ⟨w1.heap.size, 0, none⟩) 0 0] 27)).alloc (.cells #[.slice (some ⟨w1.heap.size + 1, 0, none⟩) 0 0] 49)) := below_alloc (below_alloc (below_alloc (below_alloc (below_set B.out.1 (Nat.le_refl _)) _) _) _) _
    have q0 : (((((w1.setCell ⟨W.heap.size, 0, none⟩ (.int .i64 (m : Int))).alloc (.cells #[] 3)).alloc (.cells #[] 2)).alloc (.cells #[.slice (some ⟨w1.heap.size, 0, none⟩) 0 0] 27)).alloc (.cells #[.slice (some ⟨w1.heap.size + 1, 0, none⟩) 0 0] 49)).heap[w1.heap.size]? = some (.cells #[] 3 (0, 0)) := by rw [← e1]; exact blk_alloc (blk_alloc (blk_alloc (blk_new _ _) _) _) _
    have q1 : (((((w1.setCell ⟨W.heap.size, 0, none⟩ (.int .i64 (m : Int))).alloc (.cells #[] 3)).alloc (.cells #[] 2)).alloc (.cells #[.slice (some ⟨w1.heap.size, 0, none⟩) 0 0] 27)).alloc (.cells #[.slice (some ⟨w1.heap.size + 1, 0, none⟩) 0 0] 49)).heap[w1.heap.size + 1]? = some (.cells #[] 2 (0, 0)) := by
      refine blk_alloc (blk_alloc ?_ _) _
      have := blk_new2 (w1.setCell ⟨W.heap.size, 0, none⟩ (.int .i64 (m : Int))) (.cells #[] 3) (.cells #[] 2)
      rwa [e1] at this
    have q2 : (((((w1.setCell ⟨W.heap.size, 0, none⟩ (.int .i64 (m : Int))).alloc (.cells #[] 3)).alloc (.cells #[] 2)).alloc (.cells #[.slice (some ⟨w1.heap.size, 0, none⟩) 0 0] 27)).alloc (.cells #[.slice (some ⟨w1.heap.size + 1, 0, none⟩) 0 0] 49)).heap[w1.heap.size + 1 + 1]? = some (.cells #[.slice (some ⟨w1.heap.size, 0, none⟩) 0 0] 27 (0, 0)) := by
      refine blk_alloc ?_ _
      rw [show w1.heap.size + 1 + 1 = (((w1.setCell ⟨W.heap.size, 0, none⟩ (.int .i64 (m : Int))).alloc (.cells #[] 3)).alloc (.cells #[] 2)).heap.size by rw [World.size_alloc, World.size_alloc, e1]]
      exact blk_new _ _
    have q3 : (((((w1.setCell ⟨W.heap.size, 0, none⟩ (.int .i64 (m : Int))).alloc (.cells #[] 3)).alloc (.cells #[] 2)).alloc (.cells #[.slice (some ⟨w1.heap.size, 0, none⟩) 0 0] 27)).alloc (.cells #[.slice (some ⟨w1.heap.size + 1, 0, none⟩) 0 0] 49)).heap[w1.heap.size + 1 + 1 + 1]? = some (.cells #[.slice (some ⟨w1.heap.size + 1, 0, none⟩) 0 0] 49 (0, 0)) := by
      rw [show w1.heap.size + 1 + 1 + 1 = ((((w1.setCell ⟨W.heap.size, 0, none⟩ (.int .i64 (m : Int))).alloc (.cells #[] 3)).alloc (.cells #[] 2)).alloc (.cells #[.slice (some ⟨w1.heap.size, 0, none⟩) 0 0] 27)).heap.size by rw [World.size_alloc, World.size_alloc, World.size_alloc, e1]]
      exact blk_new _ _
    have q4 : (((((w1.setCell ⟨W.heap.size, 0, none⟩ (.int .i64 (m : Int))).alloc (.cells #[] 3)).alloc (.cells #[] 2)).alloc (.cells #[.slice (some ⟨w1.heap.size, 0, none⟩) 0 0] 27)).alloc (.cells #[.slice (some ⟨w1.heap.size + 1, 0, none⟩) 0 0] 49)).heap[W.heap.size]? = some (.cells #[.int .i64 (m : Int)] 3 (0, 0)) := blk_alloc (blk_alloc (blk_alloc (blk_alloc (blk_set B.out.2 0 _) _) _) _) _
    have q5 : (((((w1.setCell ⟨W.heap.size, 0, none⟩ (.int .i64 (m : Int))).alloc (.cells #[] 3)).alloc (.cells #[] 2)).alloc (.cells #[.slice (some ⟨w1.heap.size, 0, none⟩) 0 0] 27)).alloc (.cells #[.slice (some ⟨w1.heap.size + 1, 0, none⟩) 0 0] 49)).heap.size = w1.heap.size + 4 := by simp only [World.size_alloc]; rw [e1]
    generalize (((((w1.setCell ⟨W.heap.size, 0, none⟩ (.int .i64 (m : Int))).alloc (.cells #[] 3)).alloc (.cells #[] 2)).alloc (.cells #[.slice (some ⟨w1.heap.size, 0, none⟩) 0 0] 27)).alloc (.cells #[.slice (some ⟨w1.heap.size + 1, 0, none⟩) 0 0] 49)) = w6 at hb6 q0 q1 q2 q3 q4 q5 ⊢
    refine (Pairs_callsi64 a A l.length c w6).mono ?_
    rintro e w7 ⟨rfl, hw7⟩
    have hb7 : Below w6.heap.size w6 w7 := by rw [hw7]; exact below_alloc (below_alloc (Below.refl _ _) _) _
    have p0 : w7.heap[w6.heap.size]? = some (.cells #[.int .u64 a] 22 (0, 0)) := by rw [hw7]; exact blk_alloc (blk_new _ _) _
    have p1 : w7.heap[w6.heap.size + 1]? = some (.cells #[.slice A l.length c] 49 (0, 0)) := by rw [hw7]; exact blk_new2 _ _ _
    have p2 : w7.heap.size = w6.heap.size + 2 := by rw [hw7]; simp
    have q0 := blk_belowX q0 hb7
    have q1 := blk_belowX q1 hb7
    have q2 := blk_belowX q2 hb7
    have q3 := blk_belowX q3 hb7
    have q4 := blk_belowX q4 hb7
    have hb8 := below_step hb6 hb7
    have hT7 := HU.out.2.1.below hb8
    generalize w1.heap.size = N at *
    rw [q5] at p0 p1 p2 ⊢
    have hI0 : GP w7 w7 N [] := ⟨_, _, _, _, q2, q3, ⟨R_zero2 (Kd.int .i64) q0 (Nat.le_refl _) (.inl rfl), R_zero2 (Kd.int .i64) q1 (Nat.le_succ _) (.inl rfl), Rl.refl _ _ _ _ _ _⟩⟩
    have G := Aside0.mk (And.intro hb8 (And.intro q4 (And.intro p0 (And.intro p1 hT7))))
    clear e1 hb6 hb7 hw7 q0 q1 q2 q3 q4 p0 p1 hb8 hT7 B f1 d1 hmm g1 g2 g3
    go_wp2_with (fail)
    refine (wpIn_wide (n := 8)).1 (rangeK (T := TT) rfl (by omega) (gf := 57) (lb := #[.pointer (some ⟨N + 4, 0, none⟩), .pointer (some ⟨N + 4 + 1, 0, none⟩)]) rfl trivial (enters_of Tryd.func57 (by kernel_rfl) rfl)
      (Y := PaY .i64 (pairsL a l)) (n₀ := w7.heap.size) (Kb := fun k => k ≠ N ∧ k ≠ N + 1 ∧ k ≠ N + 2 ∧ k ≠ N + 3) (S := fun ys => ys = pairsL a l) (Sp := fun _ => True)
      (Pairs1_seqi64 TT (by unfold TT; decide) (by unfold TT; decide) 7 a l A c (N + 4) (N + 4 + 1) w7.heap.size _ w7 HU.out.1
        (fun X hk => by rw [blk_cell ((hk.2 (N + 4) (by omega) (by omega)).trans G.out.2.2.1) 0]; rfl)
        (fun X hk => by rw [blk_cell ((hk.2 (N + 4 + 1) (by omega) (by omega)).trans G.out.2.2.2.1) 0]; rfl)
        (fun X hk => C_blocksK HU.out.2.2 (fun i hi => (hk.2 i (by omega) (by omega)).trans (G.out.1.block i hi)))
        (fun X hk => G.out.2.2.2.2.tab.same (hk.2 _ (by have := HU.out.2.1.tab.pos; omega) (by have := HU.out.2.1.tab.pos; omega))) (Nat.le_refl _)) (Nat.le_refl _)
      (fun _ _ _ _ hy => by obtain ⟨_, rfl⟩ := hy; rfl)
      (fun pre X => GP w7 X N pre ∧ pre.length < m) (fun cd pre X => cd = .exit 0 ∧ GP w7 X N pre ∧ pre = (pairsL a l).take m)
      (fun _ P Q h hlie => ⟨h.1.lies hlie (Nat.le_refl _), h.2⟩) (fun _ _ P Q h hlie => ⟨h.1, h.2.1.lies hlie (Nat.le_refl _), h.2.2⟩)
      (fun _ _ X h => by
        obtain ⟨_, _, _, _, _, _, ht⟩ := h.2.1.row
        exact ⟨ht.rl.size, fun k h1 h2 => ht.rl.old k h1 h1 h2.1 h2.2.1 h2.2.2.1 h2.2.2.2⟩)
      ⟨hI0, by simp; omega⟩ ?round ?done ?stop)
    case round =>
      rintro lp pre ⟨yi, yv⟩ vs Y hl2 ⟨hI, hlt⟩ ⟨hpre, rfl⟩ hYs
      have HP := Aside0.mk hpre
      clear hpre
      gi_wp2
      refine ⟨Kin.refl _ _ _, Kp.refl _ _ _, ?_⟩
      intro Wb hlie
      have hI2 := hI.lies hlie (Nat.le_refl _)
      obtain ⟨A1, c1, A2, c2, i1, i2, i3⟩ := hI2.row
      have hWbs : w7.heap.size ≤ Wb.heap.size := i3.rl.size
      have hYW : Y.heap.size ≤ Wb.heap.size := hlie.size
      have i4 : Wb.heap[W.heap.size]? = some (.cells #[.int .i64 (m : Int)] 3 (0, 0)) := (i3.rl.old _ (by omega) (by omega) (by omega) (by omega) (by omega) (by omega)).trans G.out.2.1
      obtain ⟨pn, hpn⟩ : ∃ n, pre.length = n := ⟨_, rfl⟩
      rw [hpn] at i1 i2 i3 hlt
      have hp1 : (pre.map Prod.fst).length = pn := by rw [List.length_map]; exact hpn
      have hp2 : (pre.map Prod.snd).length = pn := by rw [List.length_map]; exact hpn
      obtain ⟨l1, hl1⟩ : ∃ o : Obj, o = .cells #[.int .i64 yi] 3 := ⟨_, rfl⟩
      obtain ⟨l2, hl2'⟩ : ∃ o : Obj, o = .cells #[.int .i64 yv] 2 := ⟨_, rfl⟩
      have I := Aside0.mk (And.intro i3 (And.intro i1 (And.intro i2 (And.intro i4 (And.intro hp1 (And.intro hp2 hpn))))))
      have hS : ∀ V : World, V.heap[N + 2]? = some (.cells #[.slice A1 pn c1] 27 (0, 0)) → V.heap[N + 3]? = some (.cells #[.slice A2 pn c2] 49 (0, 0)) → V.cell? ⟨N + 1 + 1, 0, none⟩ = some (.slice A1 pn c1) ∧ V.cell? ⟨N + 1 + 1 + 1, 0, none⟩ = some (.slice A2 pn c2) := fun V h1 h2 => ⟨by rw [show N + 1 + 1 = N + 2 from rfl, blk_cell h1]; rfl, by rw [show N + 1 + 1 + 1 = N + 3 from rfl, blk_cell h2]; rfl⟩
      have hSb : ∀ V : World, Below Wb.heap.size Wb V → V.cell? ⟨N + 1 + 1, 0, none⟩ = some (.slice A1 pn c1) ∧ V.cell? ⟨N + 1 + 1 + 1, 0, none⟩ = some (.slice A2 pn c2) := fun V hb => hS V (blk_belowX I.out.2.1 hb) (blk_belowX I.out.2.2.1 hb)
      have HS := Aside0.mk (And.intro hS hSb)
      have s0 := Aside0.mk (hSb Wb.drew (pw_below_drewN (Below.refl _ _) 1))
      clear i1 i2 i3 i4 hI2 hI hlie hpn hp1 hp2 hS hSb hl1 hl2' l1 l2
      have hmix : Tryd.prog.follows .mixedOrders = true := by kernel_rfl
      gi_wp2
      refine wpIn_region_any hmix ?_
      refine anyIn_round lp (by intro o ho c; simp at ho; rcases ho with rfl | rfl | rfl | rfl | rfl | rfl | rfl | rfl | rfl | rfl <;> simp) _ _ _ _ ?_
      change wpAnyIn _ _ _ _ _ _ _ _ _ (World.drew _)
      refine anyN_any (S := fun w' => w'.cell? ⟨N + 1 + 1, 0, none⟩ = some (.slice A1 pn c1) ∧ w'.cell? ⟨N + 1 + 1 + 1, 0, none⟩ = some (.slice A2 pn c2)) (N := fun j => j == 8 || j == 9) _ _ _ _ ?_
      refine anyB_take (fun j => j == 8 || j == 9) (i := 0) (v := .slice A1 pn c1) rfl rfl (by kernel_rfl) (by kernel_rfl) (by kernel_rfl) (by kernel_rfl) (by intro j hj; have e : j = 8 ∨ j = 9 := (by simpa [or_assoc] using hj); rcases e with rfl | rfl <;> decide) (by kernel_rfl) (by intro j hj; simp at hj ⊢; omega) (fun _ _ _ h => h) ⟨Or.inl ⟨by kernel_rfl, ?tk⟩, fun _ => rfl⟩ s0.out ?_
      case tk => intro w' hw; obtain ⟨y0, y1⟩ := hw; first | (go_simp; done) | (go_simp; rfl)
      refine anyB_take (fun j => j == 8 || j == 9) (i := 1) (v := .int .i64 yi) rfl rfl (by kernel_rfl) (by kernel_rfl) (by kernel_rfl) (by kernel_rfl) (by intro j hj; have e : j = 8 ∨ j = 9 := (by simpa [or_assoc] using hj); rcases e with rfl | rfl <;> decide) (by kernel_rfl) (by intro j hj; simp at hj ⊢; omega) (fun _ _ _ h => h) ⟨Or.inl ⟨by kernel_rfl, ?tk⟩, fun _ => rfl⟩ s0.out ?_
      case tk => intro w' hw; obtain ⟨y0, y1⟩ := hw; first | (go_simp; done) | (go_simp; rfl)
      refine anyB_take (fun j => j == 7 || j == 8 || j == 9) (i := 4) (v := .slice A2 pn c2) rfl rfl (by kernel_rfl) (by kernel_rfl) (by kernel_rfl) (by kernel_rfl) (by intro j hj; have e : j = 7 ∨ j = 8 ∨ j = 9 := (by simpa [or_assoc] using hj); rcases e with rfl | rfl | rfl <;> decide) (by kernel_rfl) (by intro j hj; simp at hj ⊢; omega) (fun _ _ _ h => h) ⟨Or.inl ⟨by kernel_rfl, ?tk⟩, fun _ => rfl⟩ s0.out ?_
      case tk => intro w' hw; obtain ⟨y0, y1⟩ := hw; first | (go_simp; done) | (go_simp; rfl)
      refine anyB_take (fun j => j == 6 || j == 7 || j == 8 || j == 9) (i := 5) (v := .int .i64 yv) rfl rfl (by kernel_rfl) (by kernel_rfl) (by kernel_rfl) (by kernel_rfl) (by intro j hj; have e : j = 6 ∨ j = 7 ∨ j = 8 ∨ j = 9 := (by simpa [or_assoc] using hj); rcases e with rfl | rfl | rfl | rfl <;> decide) (by kernel_rfl) (by intro j hj; simp at hj ⊢; omega) (fun _ _ _ h => h) ⟨Or.inl ⟨by kernel_rfl, ?tk⟩, fun _ => rfl⟩ s0.out ?_
      case tk => intro w' hw; obtain ⟨y0, y1⟩ := hw; first | (go_simp; done) | (go_simp; rfl)
      refine anyN_two (i := 2) (i' := 6) (by kernel_rfl) (wpOpIn_step rfl fun K hK => ?_) (wpOpIn_step rfl fun K hK => ?_)
      case' refine_1 =>
        go_simp
        refine hK _ _ ⟨fun _ => HS.out.2 _ (below_drew (below_alloc (Below.refl _ _) _)), ?_⟩
        clear hK K
        refine anyN_two (i := 3) (i' := 6) (by kernel_rfl) (wpOpIn_step rfl fun K hK => ?_) (wpOpIn_step rfl fun K hK => ?_)
        case' refine_1 =>
          have bV : Below Wb.heap.size Wb ((Wb.alloc (.cells #[.int .i64 yi] 3)).drew) := below_drew (below_alloc (Below.refl _ _) _)
          obtain ⟨A3, c3, y1, run1, t1, rl1, k1⟩ := (I.out.1.below bV).app1 27 (by omega) I.out.2.2.2.2.1 (by omega) (show ((Wb.alloc (.cells #[.int .i64 yi] 3)).drew).heap[Wb.heap.size]? = _ from blk_new Wb (.cells #[.int .i64 yi] 3))
          have u1 := k1 _ _ _ (blk_belowX I.out.2.1 bV) (by decide)
          have u2 := k1 _ _ _ (blk_belowX I.out.2.2.1 bV) (by decide)
          have bY : Below y1.heap.size y1 (y1.alloc (.cells #[.int .i64 yv] 2)) := below_alloc (Below.refl _ _) _
          obtain ⟨A4, c4, y2, run2, t2, rl2, k2⟩ := (t1.below bY).app2 49 (by omega) I.out.2.2.2.2.2.1 (by omega) (blk_new y1 (.cells #[.int .i64 yv] 2))
          have z1 := k2 _ _ _ (blk_belowX u1 bY) (by decide)
          have z2 := k2 _ _ _ (blk_belowX u2 bY) (by decide)
          have rl := ((Rl.of_below (w := w7) (e1 := N) (e2 := N + 1) (b1 := N + 2) (b2 := N + 3) bV).trans rl1).trans ((Rl.of_below bY).trans rl2)
          have S1 := Aside0.mk (HS.out.1 _ u1 u2)
          have S2 := Aside0.mk (HS.out.1 _ (blk_belowX u1 bY) (blk_belowX u2 bY))
          have S3 := Aside0.mk (HS.out.1 _ z1 z2)
          have R1 := Aside0.mk run1
          have R2 := Aside0.mk run2
          have z3 : y2.heap[W.heap.size]? = some (.cells #[.int .i64 (m : Int)] 3 (0, 0)) := (rl.old _ (by omega) (by omega) (by omega) (by omega) (by omega) (by omega)).trans I.out.2.2.2.1
          have Z := Aside0.mk (And.intro t2 (And.intro rl (And.intro z1 (And.intro z2 z3))))
          have za := blk_cell z1 0
          have zb := blk_cell z2 0
          have fa := blk_frozen z1 0
          have fb := blk_frozen z2 0
          have la := lt_of_some z1
          have lb := lt_of_some z2
          simp at za zb
          clear run1 run2 t1 t2 rl1 rl2 k1 k2 u1 u2 rl z1 z2 z3 bV bY
          refine ite_yes (by rfl) ?_
          refine op_append (s := .tmp 30) (x := .tmp 32) (t := 27) rfl rfl rfl R1.out ?_
          refine hK _ _ ⟨fun _ => S1.out, ?_⟩
          clear hK K
          refine anyN_one (i := 6) (by kernel_rfl) (wpOpIn_step rfl fun K hK => ?_)
          go_simp
          refine hK _ _ ⟨fun _ => S2.out, ?_⟩
          clear hK K
          refine anyN_one (i := 7) (by kernel_rfl) (wpOpIn_step rfl fun K hK => ?_)
          refine ite_yes (by rfl) ?_
          refine op_append (s := .tmp 34) (x := .tmp 36) (t := 49) rfl rfl rfl R2.out ?_
          refine hK _ _ ⟨fun _ => S3.out, ?_⟩
          clear hK K
        case' refine_2 =>
          have bV : Below Wb.heap.size Wb (((Wb.alloc (.cells #[.int .i64 yi] 3)).alloc (.cells #[.int .i64 yv] 2)).drew) := below_drew (below_alloc (below_alloc (Below.refl _ _) _) _)
          obtain ⟨A3, c3, y1, run1, t1, rl1, k1⟩ := (I.out.1.below bV).app1 27 (by omega) I.out.2.2.2.2.1 (by omega) (show (((Wb.alloc (.cells #[.int .i64 yi] 3)).alloc (.cells #[.int .i64 yv] 2)).drew).heap[Wb.heap.size]? = _ from blk_alloc (blk_new Wb (.cells #[.int .i64 yi] 3)) (.cells #[.int .i64 yv] 2))
          have u1 := k1 _ _ _ (blk_belowX I.out.2.1 bV) (by decide)
          have u2 := k1 _ _ _ (blk_belowX I.out.2.2.1 bV) (by decide)
          have u3 := k1 _ _ _ (show (((Wb.alloc (.cells #[.int .i64 yi] 3)).alloc (.cells #[.int .i64 yv] 2)).drew).heap[Wb.heap.size + 1]? = _ from blk_new2 Wb (.cells #[.int .i64 yi] 3) (.cells #[.int .i64 yv] 2)) (by decide)
          obtain ⟨A4, c4, y2, run2, t2, rl2, k2⟩ := (t1).app2 49 (by omega) I.out.2.2.2.2.2.1 (by omega) u3
          have z1 := k2 _ _ _ u1 (by decide)
          have z2 := k2 _ _ _ u2 (by decide)
          have rl := ((Rl.of_below (w := w7) (e1 := N) (e2 := N + 1) (b1 := N + 2) (b2 := N + 3) bV).trans rl1).trans rl2
          have S1 := Aside0.mk (HS.out.1 _ u1 u2)
          have S2 := Aside0.mk (HS.out.2 _ bV)
          have S3 := Aside0.mk (HS.out.1 _ z1 z2)
          have R1 := Aside0.mk run1
          have R2 := Aside0.mk run2
          have z3 : y2.heap[W.heap.size]? = some (.cells #[.int .i64 (m : Int)] 3 (0, 0)) := (rl.old _ (by omega) (by omega) (by omega) (by omega) (by omega) (by omega)).trans I.out.2.2.2.1
          have Z := Aside0.mk (And.intro t2 (And.intro rl (And.intro z1 (And.intro z2 z3))))
          have za := blk_cell z1 0
          have zb := blk_cell z2 0
          have fa := blk_frozen z1 0
          have fb := blk_frozen z2 0
          have la := lt_of_some z1
          have lb := lt_of_some z2
          simp at za zb
          clear run1 run2 t1 t2 rl1 rl2 k1 k2 u1 u2 rl z1 z2 z3 bV u3
          go_simp
          refine hK _ _ ⟨fun _ => S2.out, ?_⟩
          clear hK K
          refine anyN_one (i := 3) (by kernel_rfl) (wpOpIn_step rfl fun K hK => ?_)
          refine ite_yes (by rfl) ?_
          refine op_append (s := .tmp 30) (x := .tmp 32) (t := 27) rfl rfl rfl R1.out ?_
          refine hK _ _ ⟨fun _ => S1.out, ?_⟩
          clear hK K
          refine anyN_one (i := 7) (by kernel_rfl) (wpOpIn_step rfl fun K hK => ?_)
          refine ite_yes (by rfl) ?_
          refine op_append (s := .tmp 34) (x := .tmp 36) (t := 49) rfl rfl rfl R2.out ?_
          refine hK _ _ ⟨fun _ => S3.out, ?_⟩
          clear hK K
      case' refine_2 =>
        go_simp
        refine hK _ _ ⟨fun _ => HS.out.2 _ (below_drew (below_alloc (Below.refl _ _) _)), ?_⟩
        clear hK K
        have bV : Below Wb.heap.size Wb (((Wb.alloc (.cells #[.int .i64 yv] 2)).alloc (.cells #[.int .i64 yi] 3)).drew) := below_drew (below_alloc (below_alloc (Below.refl _ _) _) _)
        obtain ⟨A3, c3, y1, run1, t1, rl1, k1⟩ := (I.out.1.below bV).app1 27 (by omega) I.out.2.2.2.2.1 (by omega) (show (((Wb.alloc (.cells #[.int .i64 yv] 2)).alloc (.cells #[.int .i64 yi] 3)).drew).heap[Wb.heap.size + 1]? = _ from blk_new2 Wb (.cells #[.int .i64 yv] 2) (.cells #[.int .i64 yi] 3))
        have u1 := k1 _ _ _ (blk_belowX I.out.2.1 bV) (by decide)
        have u2 := k1 _ _ _ (blk_belowX I.out.2.2.1 bV) (by decide)
        have u3 := k1 _ _ _ (show (((Wb.alloc (.cells #[.int .i64 yv] 2)).alloc (.cells #[.int .i64 yi] 3)).drew).heap[Wb.heap.size]? = _ from blk_alloc (blk_new Wb (.cells #[.int .i64 yv] 2)) (.cells #[.int .i64 yi] 3)) (by decide)
        obtain ⟨A4, c4, y2, run2, t2, rl2, k2⟩ := (t1).app2 49 (by omega) I.out.2.2.2.2.2.1 (by omega) u3
        have z1 := k2 _ _ _ u1 (by decide)
        have z2 := k2 _ _ _ u2 (by decide)
        have rl := ((Rl.of_below (w := w7) (e1 := N) (e2 := N + 1) (b1 := N + 2) (b2 := N + 3) bV).trans rl1).trans rl2
        have S1 := Aside0.mk (HS.out.1 _ u1 u2)
        have S2 := Aside0.mk (HS.out.2 _ bV)
        have S3 := Aside0.mk (HS.out.1 _ z1 z2)
        have R1 := Aside0.mk run1
        have R2 := Aside0.mk run2
        have z3 : y2.heap[W.heap.size]? = some (.cells #[.int .i64 (m : Int)] 3 (0, 0)) := (rl.old _ (by omega) (by omega) (by omega) (by omega) (by omega) (by omega)).trans I.out.2.2.2.1
        have Z := Aside0.mk (And.intro t2 (And.intro rl (And.intro z1 (And.intro z2 z3))))
        have za := blk_cell z1 0
        have zb := blk_cell z2 0
        have fa := blk_frozen z1 0
        have fb := blk_frozen z2 0
        have la := lt_of_some z1
        have lb := lt_of_some z2
        simp at za zb
        clear run1 run2 t1 t2 rl1 rl2 k1 k2 u1 u2 rl z1 z2 z3 bV u3
        refine anyN_one (i := 2) (by kernel_rfl) (wpOpIn_step rfl fun K hK => ?_)
        go_simp
        refine hK _ _ ⟨fun _ => S2.out, ?_⟩
        clear hK K
        refine anyN_one (i := 3) (by kernel_rfl) (wpOpIn_step rfl fun K hK => ?_)
        refine ite_yes (by rfl) ?_
        refine op_append (s := .tmp 30) (x := .tmp 32) (t := 27) rfl rfl rfl R1.out ?_
        refine hK _ _ ⟨fun _ => S1.out, ?_⟩
        clear hK K
        refine anyN_one (i := 7) (by kernel_rfl) (wpOpIn_step rfl fun K hK => ?_)
        refine ite_yes (by rfl) ?_
        refine op_append (s := .tmp 34) (x := .tmp 36) (t := 49) rfl rfl rfl R2.out ?_
        refine hK _ _ ⟨fun _ => S3.out, ?_⟩
        clear hK K
      all_goals
        have za : y2.cell? ⟨N + 1 + 1, 0, none⟩ = some (.slice A1 pn c1) := za
        have fa : y2.frozen? ⟨N + 1 + 1, 0, none⟩ = false := fa
        refine anyN_one (i := 8) (by kernel_rfl) (wpOpIn_step rfl fun K hK => ?_)
        go_simp
        have o3 : Oth (N + 2) y2 (y2.setCell ⟨N + 1 + 1, 0, none⟩ (.slice A3 (pn + 1) c3)) := Oth.set y2 ⟨N + 2, 0, none⟩ _
        have t3 : Tw w7 (y2.setCell ⟨N + 1 + 1, 0, none⟩ (.slice A3 (pn + 1) c3)) N N (N + 1) (N + 2) (N + 3) (.slice A3 (pn + 1) c3) (.slice A4 (pn + 1) c4) (pre.map Prod.fst ++ [yi]) (pre.map Prod.snd ++ [yv]) := Z.out.1.set (v := .slice A3 (pn + 1) c3) Z.out.2.2.1 (by decide) (by decide) (.inl rfl)
        have r3 : Rl w7 Wb (y2.setCell ⟨N + 1 + 1, 0, none⟩ (.slice A3 (pn + 1) c3)) N (N + 1) (N + 2) (N + 3) := Z.out.2.1.trans (Rl.of_oth o3 (.inl rfl))
        have x1 : (y2.setCell ⟨N + 1 + 1, 0, none⟩ (.slice A3 (pn + 1) c3)).heap[N + 2]? = some (.cells #[.slice A3 (pn + 1) c3] 27 (0, 0)) := blk_put Z.out.2.2.1 0 (.slice A3 (pn + 1) c3) rfl
        have x2 := o3.blk Z.out.2.2.2.1 (by omega)
        have x3 := o3.blk Z.out.2.2.2.2 (by omega)
        refine hK _ _ ⟨fun h => absurd h (by decide), ?_⟩
        generalize (y2.setCell ⟨N + 1 + 1, 0, none⟩ (.slice A3 (pn + 1) c3)) = y3 at o3 t3 r3 x1 x2 x3 ⊢
        have za3 := blk_cell x2 0
        have zb3 : y3.frozen? ⟨N + 1 + 1 + 1, 0, none⟩ = false := blk_frozen x2 0
        have zc3 : N + 1 + 1 + 1 < y3.heap.size := lt_of_some x2
        simp at za3
        have za3 : y3.cell? ⟨N + 1 + 1 + 1, 0, none⟩ = some (.slice A2 pn c2) := za3
        clear hK K za fa zb fb la lb o3
        refine anyN_one (i := 9) (by kernel_rfl) (wpOpIn_step rfl fun K hK => ?_)
        go_simp
        have o4 : Oth (N + 3) y3 (y3.setCell ⟨N + 1 + 1 + 1, 0, none⟩ (.slice A4 (pn + 1) c4)) := Oth.set y3 ⟨N + 3, 0, none⟩ _
        have t4 : Tw w7 (y3.setCell ⟨N + 1 + 1 + 1, 0, none⟩ (.slice A4 (pn + 1) c4)) N N (N + 1) (N + 2) (N + 3) (.slice A3 (pn + 1) c3) (.slice A4 (pn + 1) c4) (pre.map Prod.fst ++ [yi]) (pre.map Prod.snd ++ [yv]) := t3.set (v := .slice A4 (pn + 1) c4) x2 (by decide) (by decide) (.inr rfl)
        have r4 : Rl w7 Wb (y3.setCell ⟨N + 1 + 1 + 1, 0, none⟩ (.slice A4 (pn + 1) c4)) N (N + 1) (N + 2) (N + 3) := r3.trans (Rl.of_oth o4 (.inr rfl))
        have x5 : (y3.setCell ⟨N + 1 + 1 + 1, 0, none⟩ (.slice A4 (pn + 1) c4)).heap[N + 3]? = some (.cells #[.slice A4 (pn + 1) c4] 49 (0, 0)) := blk_put x2 0 (.slice A4 (pn + 1) c4) rfl
        have x4 := o4.blk x1 (by omega)
        have x6 := o4.blk x3 (by omega)
        refine hK _ _ ⟨fun h => absurd h (by decide), ?_⟩
        generalize (y3.setCell ⟨N + 1 + 1 + 1, 0, none⟩ (.slice A4 (pn + 1) c4)) = y4 at o4 t4 r4 x4 x5 x6 ⊢
        have xa := blk_cell x4 0
        have xb := blk_cell x6 0
        simp at xa xb
        have xa : y4.cell? ⟨N + 1 + 1, 0, none⟩ = some (.slice A3 (pn + 1) c3) := xa
        have Z4 := Aside0.mk (And.intro t4 (And.intro r4 (And.intro x4 x5)))
        clear hK K t3 r3 x1 x2 x3 za3 zb3 zc3 o4 t4 r4 x4 x5 x6 Z
        refine anyN_done (by kernel_rfl) ?_ _
        gi_wp2
        all_goals
          rename_i hcm
          have hpn := I.out.2.2.2.2.2.2
          have hGP : GP w7 y4 N (pre ++ [(yi, yv)]) := ⟨A3, c3, A4, c4, by rw [List.length_append, List.length_singleton, hpn]; exact Z4.out.2.2.1, by rw [List.length_append, List.length_singleton, hpn]; exact Z4.out.2.2.2, by
            rw [List.length_append, List.length_singleton, hpn, List.map_append, List.map_append]; exact Z4.out.1⟩
          have hKin : Kin TT w7.heap.size Y.heap.size Wb y4 := ⟨Z4.out.2.1.size, fun k h1 h2 h3 => Z4.out.2.1.typ k (by omega) (by omega) (by omega) h3⟩
          have hKp : Kp w7.heap.size (fun k => k ≠ N ∧ k ≠ N + 1 ∧ k ≠ N + 2 ∧ k ≠ N + 3) Wb y4 := ⟨Z4.out.2.1.size, fun k h1 h2 => Z4.out.2.1.old k h1 (by omega) h2.1 h2.2.1 h2.2.2.1 h2.2.2.2⟩
          have hpl := HP.out.length_le
          rw [List.length_append, List.length_singleton, hpn] at hpl
          first
            | (refine ⟨hKin, rfl, hGP, ?_⟩
               have e := beq_iff_eq.1 hcm
               rw [List.prefix_iff_eq_take.1 HP.out, List.length_append, List.length_singleton, hpn]
               congr 1; omega)
            | (refine ⟨hKin, hKp, hGP, ?_⟩
               have e : ¬ ((pn : Int) + 1 = (m : Int)) := fun h => by rw [h] at hcm; simp at hcm
               rw [List.length_append, List.length_singleton, hpn]; omega)
    case' done =>
      rintro D ys X hD hys ⟨hI, hlt⟩ hKd
      rw [hys] at hlt hI
      have hys2 : pairsL a l = (pairsL a l).take m := (List.take_of_length_le (by omega)).symm
      have hI : GP w7 X N ((pairsL a l).take m) := by rw [← hys2]; exact hI
      clear hlt hys hys2
    case' stop =>
      rintro D cd ys X hD - ⟨rfl, hI, rfl⟩ hKd
      refine wpIn_wide.2 ?_
    all_goals
      obtain ⟨A1, c1, A2, c2, i1, i2, i3⟩ := hI.row
      have hXs := i3.rl.size
      have hbX : Below W.heap.size W X := ⟨i3.rl.os.trans G.out.1.os, i3.rl.tape.trans G.out.1.tape, i3.rl.output.trans G.out.1.output, Nat.le_trans G.out.1.size hXs, fun k hk => (i3.rl.old k (by omega) (by omega) (by omega) (by omega) (by omega) (by omega)).trans (G.out.1.block k hk)⟩
      have i4 : X.heap[W.heap.size]? = some (.cells #[.int .i64 (m : Int)] 3 (0, 0)) := (i3.rl.old _ (by omega) (by omega) (by omega) (by omega) (by omega) (by omega)).trans G.out.2.1
      obtain ⟨a1, b1, q1, hc1, hC1⟩ := R_C i3.r1
      obtain ⟨a2, b2, q2, hc2, hC2⟩ := R_C i3.r2
      injection q1 with e1 e2 e3
      injection q2 with e4 e5 e6
      subst e1; subst e3; subst e4; subst e6
      rw [List.length_map] at hc1 hC1 hc2 hC2
      have P := Aside0.mk (And.intro i1 (And.intro i2 (And.intro i4 (And.intro hbX (And.intro hKd (And.intro hC1 (And.intro hc1 (And.intro hC2 hc2))))))))
      have hDX := lt_of_some hKd
      clear i1 i2 i3 i4 hbX hKd hI e2 e5 hC1 hC2 hc1 hc2 hI0
      go_wp2_with (fail)
      have k0 : ((X.alloc (.cells #[] 3)).alloc (.cells #[] 2)).heap[X.heap.size]? = some (.cells #[] 3 (0, 0)) := blk_alloc (blk_new _ _) _
      have k1 : ((X.alloc (.cells #[] 3)).alloc (.cells #[] 2)).heap[X.heap.size + 1]? = some (.cells #[] 2 (0, 0)) := blk_new2 _ _ _
      have kb : Below X.heap.size X ((X.alloc (.cells #[] 3)).alloc (.cells #[] 2)) := below_alloc (below_alloc (Below.refl _ _) _) _
      generalize ((X.alloc (.cells #[] 3)).alloc (.cells #[] 2)) = x1 at k0 k1 kb ⊢
      obtain ⟨n0, hn0⟩ : ∃ n, (listS a).length = n := ⟨_, rfl⟩
      have hn64 : n0 ≤ 64 := by have := listS_le a; omega
      refine (RList_R a n0 x1 HU.out.1 hn0).mono ?_
      rintro e x2 ⟨A5, c5, rfl, hR5, hb5⟩
      have h1s : X.heap.size + 1 < x1.heap.size := lt_of_some k1
      have k0 := blk_belowX k0 hb5
      have k1 := blk_belowX k1 hb5
      have kb := below_step kb hb5
      have h2s : X.heap.size + 1 < x2.heap.size := lt_of_some k1
      have T0 : Tw x2 x2 X.heap.size X.heap.size (X.heap.size + 1) X.heap.size X.heap.size (.slice (some ⟨X.heap.size, 0, none⟩) 0 0) (.slice (some ⟨X.heap.size + 1, 0, none⟩) 0 0) [] [] :=
        ⟨R_zero2 (Kd.int .i64) k0 (Nat.le_refl _) (.inl rfl), R_zero2 (Kd.int .i64) k1 (Nat.le_succ _) (.inl rfl), Rl.refl _ _ _ _ _ _⟩
      have L := Aside0.mk (And.intro hR5 (And.intro kb (And.intro T0 hn0)))
      clear hR5 kb T0 hn0 hb5 k0 k1
      go_wp2_with (fail)
      go_loopw [11, 12, 47] (fun v1 v2 p wr => RelW x2 X.heap.size (listS a) l m n0 v1 v2 p wr) (fun _ _ p _ => n0 - (intOf p).toNat)
      case atStart => exact ⟨0, 0, _, _, _, _, rfl, rfl, rfl, by omega, by omega, ⟨by simp [pairsOf]⟩, ⟨by simpa [pairsOf] using L.out.2.2.1⟩⟩
      case round =>
        obtain ⟨k, n, B1, B2, d1, d2, rfl, rfl, rfl, hk, hnm, HL, HR⟩ := hrel
        have hrl := HR.out.rl
        have hbL := Rl.toBut hrl
        have hRL := hbL.R L.out.1 (fun j _ h1 _ h2 => by omega)
        obtain ⟨Aq, cq, eq, hc5, hCL⟩ := R_C hRL
        injection eq with q1 q2 q3
        subst q1; subst q3
        rw [L.out.2.2.2] at hc5 hCL
        have hwr : ∀ j, j < X.heap.size → wr.heap[j]? = X.heap[j]? := fun j hj => (hrl.old j (by omega) (by omega) (by omega) (by omega) (by omega) (by omega)).trans (L.out.2.1.block j hj)
        have dm : wr.cell? ⟨W.heap.size, 0, none⟩ = some (.int .i64 m) := by rw [blk_cell ((hwr _ (lt_of_some P.out.2.2.1)).trans P.out.2.2.1)]; rfl
        by_cases hlt : k < n0
        · obtain ⟨ad, e0, hx0⟩ := at_elem hCL hlt
          subst e0
          have hkl : k < (listS a).length := by rw [L.out.2.2.2]; exact hlt
          have hgk : (listS a)[k]? = some ((listS a).getD k 0) := by rw [List.getD_eq_getElem?_getD, List.getElem?_eq_getElem hkl]; rfl
          have him := (listS_mem a _).1 (List.mem_of_getElem? hgk)
          have hsn := pairs_take (listS a) l m k _ hgk
          obtain ⟨i, hi⟩ : ∃ i, (listS a).getD k 0 = i := ⟨_, rfl⟩
          rw [hi] at hx0 him hsn
          obtain ⟨i, rfl⟩ : ∃ j : Nat, i = (j : Int) := ⟨i.toNat, by omega⟩
          rw [HL.out, Int.toNat_natCast] at hsn
          have hg0 : decide ((k : Int) < (n0 : Int)) = true := decide_eq_true (by omega)
          have HN := Aside0.mk (And.intro hrl (And.intro hRL (And.intro hsn hwr)))
          have hlt' : (k : Int) < (n0 : Int) := by omega
          have hk0 : ¬ ((k : Int) < 0) := by omega
          clear hgk hi hrl hbL hRL hCL hsn hwr
          by_cases hil : i < l.length
          · have hg1 : decide ((i : Int) < (l.length : Int)) = true := decide_eq_true (by omega)
            by_cases hnl : n < m
            · have hg2 : decide ((n : Int) < (m : Int)) = true := decide_eq_true (by omega)
              go_wp2_with (fail)
              have hxW : ∀ j, j < W.heap.size → x2.heap[j]? = W.heap[j]? := fun j hj => (L.out.2.1.block j (by have := P.out.2.2.2.1.size; omega)).trans (P.out.2.2.2.1.block j hj)
              have hwW : ∀ j, j < W.heap.size → wr.heap[j]? = W.heap[j]? := fun j hj => (HN.out.2.2.2 j (by have := P.out.2.2.2.1.size; omega)).trans (P.out.2.2.2.1.block j hj)
              obtain ⟨adA, eA, hxA⟩ := at_elem HU.out.2.2 hil
              subst eA
              obtain ⟨v, hv⟩ : ∃ v, l.getD i 0 = v := ⟨_, rfl⟩
              rw [hv] at hxA
              have HS : Aside0 (∀ V : World, (∀ j, j < W.heap.size → V.heap[j]? = W.heap[j]?) → V.cell? (adA.add i) = some (.int .i64 v)) := ⟨fun V hV => (World.cell?_of_block (hV _ (World.block_lt_of_cell? W _ hxA))).trans hxA⟩
              have s0 : Aside0 (wr.drew.cell? (adA.add i) = some (.int .i64 v)) := ⟨HS.out wr.drew hwW⟩
              have hXW := P.out.2.2.2.1.size
              have hxs := HN.out.1.size
              have hlen1 : (((pairsOf ((listS a).take k) l).take m).map Prod.fst).length = n := by rw [List.length_map]; exact HL.out
              have hlen2 : (((pairsOf ((listS a).take k) l).take m).map Prod.snd).length = n := by rw [List.length_map]; exact HL.out
              have hm128 : n ≤ 100000 := by omega
              have E := Aside0.mk (And.intro hlen1 (And.intro hlen2 (And.intro hxW (And.intro hwW hv))))
              clear hlen1 hlen2 hxW hwW hv hxA hx0 dm
              have hi0 : ¬ ((i : Int) < 0) := by omega
              have hil2 : (i : Int) < (l.length : Int) := by omega
              have hmix : Tryd.prog.follows .mixedOrders = true := by kernel_rfl
              refine wp_region_noPanic ?_
              refine (wpIn_wide (n := 8)).1 ?_
              refine wpIn_region_any hmix ?_
              change wpAnyIn _ _ _ _ _ _ _ _ _ (World.drew _)
              refine anyS_any (S := fun w' => w'.cell? (adA.add i) = some (.int .i64 v)) _ _ _ _ ?_
              refine anyS_take (i := 0) (v := .slice B1 n d1) rfl rfl (by kernel_rfl) (by kernel_rfl) (by kernel_rfl) (fun _ _ _ h => h) ⟨Or.inl ⟨by kernel_rfl, ?tk⟩, fun _ => rfl⟩ s0.out ?_
              case tk => intro w' hw; first | (go_simp; done) | (go_simp; rfl) | (go_simp; simp [*]; done)
              refine anyS_take (i := 1) (v := .int .i64 i) rfl rfl (by kernel_rfl) (by kernel_rfl) (by kernel_rfl) (fun _ _ _ h => h) ⟨Or.inl ⟨by kernel_rfl, ?tk⟩, fun _ => rfl⟩ s0.out ?_
              case tk => intro w' hw; first | (go_simp; done) | (go_simp; rfl) | (go_simp; simp [*]; done)
              refine anyS_take (i := 4) (v := .slice B2 n d2) rfl rfl (by kernel_rfl) (by kernel_rfl) (by kernel_rfl) (fun _ _ _ h => h) ⟨Or.inl ⟨by kernel_rfl, ?tk⟩, fun _ => rfl⟩ s0.out ?_
              case tk => intro w' hw; first | (go_simp; done) | (go_simp; rfl) | (go_simp; simp [*]; done)
              refine anyS_take (i := 5) (v := .slice (some adA) l.length c) rfl rfl (by kernel_rfl) (by kernel_rfl) (by kernel_rfl) (fun _ _ _ h => h) ⟨Or.inl ⟨by kernel_rfl, ?tk⟩, fun _ => rfl⟩ s0.out ?_
              case tk => intro w' hw; first | (go_simp; done) | (go_simp; rfl) | (go_simp; simp [*]; done)
              refine anyS_take (i := 6) (v := .int .i64 i) rfl rfl (by kernel_rfl) (by kernel_rfl) (by kernel_rfl) (fun _ _ _ h => h) ⟨Or.inl ⟨by kernel_rfl, ?tk⟩, fun _ => rfl⟩ s0.out ?_
              case tk => intro w' hw; first | (go_simp; done) | (go_simp; rfl) | (go_simp; simp [*]; done)
              refine anyS_take (i := 7) (v := .pointer (some (adA.add i))) rfl rfl (by kernel_rfl) (by kernel_rfl) (by kernel_rfl) (fun _ _ _ h => h) ⟨Or.inl ⟨by kernel_rfl, ?tk⟩, fun _ => rfl⟩ s0.out ?_
              case tk => intro w' hw; first | (go_simp; done) | (go_simp; rfl) | (go_simp; simp [*]; done)
              refine anyS_take (i := 8) (v := .int .i64 v) rfl rfl (by kernel_rfl) (by kernel_rfl) (by kernel_rfl) (fun _ _ _ h => h) ⟨Or.inl ⟨by kernel_rfl, ?tk⟩, fun _ => rfl⟩ s0.out ?_
              case tk => intro w' hw; first | (go_simp; done) | (go_simp; rfl) | (go_simp; simp [*]; done)
              refine anyN_two (i := 2) (i' := 9) (by kernel_rfl) (wpOpIn_step rfl fun K hK => ?_) (wpOpIn_step rfl fun K hK => ?_)
              case' refine_1 =>
                go_simp
                refine hK _ _ ⟨fun _ => HS.out _ (fun j hj => ((below_drew (below_alloc (Below.refl wr.heap.size wr) _)).block j (by omega)).trans (E.out.2.2.2.1 j hj)), ?_⟩
                clear hK K
                refine anyN_two (i := 3) (i' := 9) (by kernel_rfl) (wpOpIn_step rfl fun K hK => ?_) (wpOpIn_step rfl fun K hK => ?_)
                case' refine_1 =>
                  have bV : Below wr.heap.size wr ((wr.alloc (.cells #[.int .i64 (i : Int)] 3)).drew) := below_drew (below_alloc (Below.refl _ _) _)
                  obtain ⟨B3, d3, y1, run1, t1, rl1, k1⟩ := Tw.app1 27 (Tw.below HR.out bV) (by omega) E.out.1 (by omega) (show ((wr.alloc (.cells #[.int .i64 (i : Int)] 3)).drew).heap[wr.heap.size]? = _ from blk_new wr (.cells #[.int .i64 (i : Int)] 3))
                  have bY : Below y1.heap.size y1 (y1.alloc (.cells #[.int .i64 v] 2)) := below_alloc (Below.refl _ _) _
                  obtain ⟨B4, d4, y2, run2, t2, rl2, k2⟩ := Tw.app2 49 (t1.below bY) (by omega) E.out.2.1 (by omega) (blk_new y1 (.cells #[.int .i64 v] 2))
                  have S1 := Aside0.mk (HS.out y1 (fun j hj => (t1.rl.old j (by omega) (by omega) (by omega) (by omega) (by omega) (by omega)).trans (E.out.2.2.1 j hj)))
                  have S2 := Aside0.mk (HS.out (y1.alloc (.cells #[.int .i64 v] 2)) (fun j hj => (bY.block j (by have := t1.rl.size; omega)).trans ((t1.rl.old j (by omega) (by omega) (by omega) (by omega) (by omega) (by omega)).trans (E.out.2.2.1 j hj))))
                  have S3 := Aside0.mk (HS.out y2 (fun j hj => (t2.rl.old j (by omega) (by omega) (by omega) (by omega) (by omega) (by omega)).trans (E.out.2.2.1 j hj)))
                  have R1 := Aside0.mk run1
                  have R2 := Aside0.mk run2
                  have Z := Aside0.mk t2
                  clear run1 run2 t1 t2 rl1 rl2 k1 k2 bV bY
                  refine ite_yes (by rfl) ?_
                  refine op_append (s := .tmp 61) (x := .tmp 63) (t := 27) rfl rfl rfl R1.out ?_
                  refine hK _ _ ⟨fun _ => S1.out, ?_⟩
                  clear hK K
                  refine anyS_one (i := 9) (by kernel_rfl) (wpOpIn_step rfl fun K hK => ?_)
                  go_simp
                  refine hK _ _ ⟨S2.out, ?_⟩
                  clear hK K
                  refine anyS_one (i := 10) (by kernel_rfl) (wpOpIn_step rfl fun K hK => ?_)
                  refine ite_yes (by rfl) ?_
                  refine op_append (s := .tmp 65) (x := .tmp 70) (t := 49) rfl rfl rfl R2.out ?_
                  refine hK _ _ ⟨S3.out, ?_⟩
                  clear hK K
                case' refine_2 =>
                  have bV : Below wr.heap.size wr (((wr.alloc (.cells #[.int .i64 (i : Int)] 3)).alloc (.cells #[.int .i64 v] 2)).drew) := below_drew (below_alloc (below_alloc (Below.refl _ _) _) _)
                  obtain ⟨B3, d3, y1, run1, t1, rl1, k1⟩ := Tw.app1 27 (Tw.below HR.out bV) (by omega) E.out.1 (by omega) (show (((wr.alloc (.cells #[.int .i64 (i : Int)] 3)).alloc (.cells #[.int .i64 v] 2)).drew).heap[wr.heap.size]? = _ from blk_alloc (blk_new wr (.cells #[.int .i64 (i : Int)] 3)) (.cells #[.int .i64 v] 2))
                  have u3 := k1 _ _ _ (show (((wr.alloc (.cells #[.int .i64 (i : Int)] 3)).alloc (.cells #[.int .i64 v] 2)).drew).heap[wr.heap.size + 1]? = _ from blk_new2 wr (.cells #[.int .i64 (i : Int)] 3) (.cells #[.int .i64 v] 2)) (by decide)
                  obtain ⟨B4, d4, y2, run2, t2, rl2, k2⟩ := Tw.app2 49 (t1) (by omega) E.out.2.1 (by omega) u3
                  have S1 := Aside0.mk (HS.out y1 (fun j hj => (t1.rl.old j (by omega) (by omega) (by omega) (by omega) (by omega) (by omega)).trans (E.out.2.2.1 j hj)))
                  have S2 := Aside0.mk (HS.out (((wr.alloc (.cells #[.int .i64 (i : Int)] 3)).alloc (.cells #[.int .i64 v] 2)).drew) (fun j hj => (bV.block j (by omega)).trans (E.out.2.2.2.1 j hj)))
                  have S3 := Aside0.mk (HS.out y2 (fun j hj => (t2.rl.old j (by omega) (by omega) (by omega) (by omega) (by omega) (by omega)).trans (E.out.2.2.1 j hj)))
                  have R1 := Aside0.mk run1
                  have R2 := Aside0.mk run2
                  have Z := Aside0.mk t2
                  clear run1 run2 t1 t2 rl1 rl2 k1 k2 bV u3
                  go_simp
                  refine hK _ _ ⟨fun _ => S2.out, ?_⟩
                  clear hK K
                  refine anyS_one (i := 3) (by kernel_rfl) (wpOpIn_step rfl fun K hK => ?_)
                  refine ite_yes (by rfl) ?_
                  refine op_append (s := .tmp 61) (x := .tmp 63) (t := 27) rfl rfl rfl R1.out ?_
                  refine hK _ _ ⟨S1.out, ?_⟩
                  clear hK K
                  refine anyS_one (i := 10) (by kernel_rfl) (wpOpIn_step rfl fun K hK => ?_)
                  refine ite_yes (by rfl) ?_
                  refine op_append (s := .tmp 65) (x := .tmp 70) (t := 49) rfl rfl rfl R2.out ?_
                  refine hK _ _ ⟨S3.out, ?_⟩
                  clear hK K
              case' refine_2 =>
                go_simp
                refine hK _ _ ⟨fun _ => HS.out _ (fun j hj => ((below_drew (below_alloc (Below.refl wr.heap.size wr) _)).block j (by omega)).trans (E.out.2.2.2.1 j hj)), ?_⟩
                clear hK K
                have bV : Below wr.heap.size wr (((wr.alloc (.cells #[.int .i64 v] 2)).alloc (.cells #[.int .i64 (i : Int)] 3)).drew) := below_drew (below_alloc (below_alloc (Below.refl _ _) _) _)
                obtain ⟨B3, d3, y1, run1, t1, rl1, k1⟩ := Tw.app1 27 (Tw.below HR.out bV) (by omega) E.out.1 (by omega) (show (((wr.alloc (.cells #[.int .i64 v] 2)).alloc (.cells #[.int .i64 (i : Int)] 3)).drew).heap[wr.heap.size + 1]? = _ from blk_new2 wr (.cells #[.int .i64 v] 2) (.cells #[.int .i64 (i : Int)] 3))
                have u3 := k1 _ _ _ (show (((wr.alloc (.cells #[.int .i64 v] 2)).alloc (.cells #[.int .i64 (i : Int)] 3)).drew).heap[wr.heap.size]? = _ from blk_alloc (blk_new wr (.cells #[.int .i64 v] 2)) (.cells #[.int .i64 (i : Int)] 3)) (by decide)
                obtain ⟨B4, d4, y2, run2, t2, rl2, k2⟩ := Tw.app2 49 (t1) (by omega) E.out.2.1 (by omega) u3
                have S1 := Aside0.mk (HS.out y1 (fun j hj => (t1.rl.old j (by omega) (by omega) (by omega) (by omega) (by omega) (by omega)).trans (E.out.2.2.1 j hj)))
                have S2 := Aside0.mk (HS.out (((wr.alloc (.cells #[.int .i64 v] 2)).alloc (.cells #[.int .i64 (i : Int)] 3)).drew) (fun j hj => (bV.block j (by omega)).trans (E.out.2.2.2.1 j hj)))
                have S3 := Aside0.mk (HS.out y2 (fun j hj => (t2.rl.old j (by omega) (by omega) (by omega) (by omega) (by omega) (by omega)).trans (E.out.2.2.1 j hj)))
                have R1 := Aside0.mk run1
                have R2 := Aside0.mk run2
                have Z := Aside0.mk t2
                clear run1 run2 t1 t2 rl1 rl2 k1 k2 bV u3
                refine anyS_one (i := 2) (by kernel_rfl) (wpOpIn_step rfl fun K hK => ?_)
                go_simp
                refine hK _ _ ⟨S2.out, ?_⟩
                clear hK K
                refine anyS_one (i := 3) (by kernel_rfl) (wpOpIn_step rfl fun K hK => ?_)
                refine ite_yes (by rfl) ?_
                refine op_append (s := .tmp 61) (x := .tmp 63) (t := 27) rfl rfl rfl R1.out ?_
                refine hK _ _ ⟨S1.out, ?_⟩
                clear hK K
                refine anyS_one (i := 10) (by kernel_rfl) (wpOpIn_step rfl fun K hK => ?_)
                refine ite_yes (by rfl) ?_
                refine op_append (s := .tmp 65) (x := .tmp 70) (t := 49) rfl rfl rfl R2.out ?_
                refine hK _ _ ⟨S3.out, ?_⟩
                clear hK K
              all_goals
                refine anyS_one (i := 11) (by kernel_rfl) (wpOpIn_step rfl fun K hK => ?_)
                go_simp
                refine hK _ _ ⟨S3.out, ?_⟩
                clear hK K
                refine anyS_one (i := 12) (by kernel_rfl) (wpOpIn_step rfl fun K hK => ?_)
                go_simp
                refine hK _ _ ⟨S3.out, ?_⟩
                clear hK K
                refine anyS_done (by kernel_rfl) ?_ _
                refine NoPanic.normal ?_
                go_wp2
                go_roundw
                case rel =>
                  refine ⟨_, _, _, _, ?_, rfl, rfl, rfl, rfl⟩
                  refine ⟨k + 1, n + 1, B3, B4, d3, d4, rfl, rfl, by go_num, by omega, by omega, ⟨?_⟩, ⟨?_⟩⟩
                  · rw [HN.out.2.2.1, if_pos ⟨by omega, hnl⟩, List.length_append, HL.out]; rfl
                  · rw [HN.out.2.2.1, if_pos ⟨by omega, hnl⟩, E.out.2.2.2.2, List.map_append, List.map_append]; exact Z.out
                case measure => simp [intOf]; omega
            · have hg2 : decide ((n : Int) < (m : Int)) = false := decide_eq_false (by omega)
              go_wp2
              go_roundw
              case rel => exact ⟨k + 1, n, B1, B2, d1, d2, rfl, rfl, by go_num, by omega, hnm, ⟨by rw [HN.out.2.2.1, if_neg (by omega)]; exact HL.out⟩, ⟨by rw [HN.out.2.2.1, if_neg (by omega)]; exact HR.out⟩⟩
              case measure => simp [intOf]; omega
          · have hg1 : decide ((i : Int) < (l.length : Int)) = false := decide_eq_false (by omega)
            go_wp2
            go_roundw
            case rel => exact ⟨k + 1, n, B1, B2, d1, d2, rfl, rfl, by go_num, by omega, hnm, ⟨by rw [HN.out.2.2.1, if_neg (by omega)]; exact HL.out⟩, ⟨by rw [HN.out.2.2.1, if_neg (by omega)]; exact HR.out⟩⟩
            case measure => simp [intOf]; omega
        · have hg0 : decide ((k : Int) < (n0 : Int)) = false := decide_eq_false (by omega)
          have hTk : (pairsOf ((listS a).take k) l).take m = (pairsL a l).take m := by
            have e : (listS a).take k = listS a := List.take_of_length_le (by have := L.out.2.2.2; omega)
            rw [e]; rfl
          have hR := HR.out
          have hL := HL.out
          rw [hTk] at hR hL
          obtain ⟨a3, b3, q4, hc3, hC3⟩ := R_C hR.r1
          obtain ⟨a4, b4, q5, hc4, hC4⟩ := R_C hR.r2
          injection q4 with e1 e2 e3
          injection q5 with e4 e5 e6
          subst e1; subst e3; subst e4; subst e6
          rw [List.length_map, hL] at hc3 hC3 hc4 hC4
          obtain ⟨T, hT⟩ : ∃ T, (pairsL a l).take m = T := ⟨_, rfl⟩
          have PP := P.out
          rw [hT] at PP hL hC3 hC4
          rw [hL] at PP
          have j1 := (hwr _ (lt_of_some PP.1)).trans PP.1
          have j2 := (hwr _ (lt_of_some PP.2.1)).trans PP.2.1
          have dd1 : wr.cell? ⟨N + 1 + 1, 0, none⟩ = some (.slice A1 n c1) := by rw [show N + 1 + 1 = N + 2 from rfl, blk_cell j1]; rfl
          have F1 := Aside0.mk (C_blocksK PP.2.2.2.2.2.1 hwr)
          have F2 := Aside0.mk (C_blocksK PP.2.2.2.2.2.2.2.1 hwr)
          have F3 := Aside0.mk (And.intro hC3 hC4)
          have hl1 : (T.map Prod.fst).length = n := by rw [List.length_map]; exact hL
          have hl2 : (T.map Prod.snd).length = n := by rw [List.length_map]; exact hL
          have hcc1 := PP.2.2.2.2.2.2.1
          have hcc2 := PP.2.2.2.2.2.2.2.2
          have hbw : Below W.heap.size W wr := ⟨(hrl.os.trans L.out.2.1.os).trans PP.2.2.2.1.os, (hrl.tape.trans L.out.2.1.tape).trans PP.2.2.2.1.tape, (hrl.output.trans L.out.2.1.output).trans PP.2.2.2.1.output, by have := PP.2.2.2.1.size; have := hrl.size; omega, fun j hj => (hwr j (by have := PP.2.2.2.1.size; omega)).trans (PP.2.2.2.1.block j hj)⟩
          have hKw := (hwr _ (lt_of_some PP.2.2.2.2.1)).trans PP.2.2.2.2.1
          have F4 := Aside0.mk (And.intro hbw (And.intro hKw (And.intro j2 (And.intro hl1 hl2))))
          have hlt' : ¬ ((k : Int) < (n0 : Int)) := by omega
          clear hR hL hC3 hC4 PP j1 j2 hbw hKw hl1 hl2 e2 e5 hRL hCL hrl hbL hwr hTk hT
          go_wp2_with (fail)
          refine (SameInts_eq (T.map Prod.fst) (T.map Prod.fst) n n _ _ _ _ _ rfl F4.out.2.2.2.1 F4.out.2.2.2.1 F1.out hcc1 F3.out.1 hc3 (by omega)).mono ?_
          rintro e z1 ⟨rfl, hbz⟩
          have dd2 : z1.cell? ⟨N + 1 + 1 + 1, 0, none⟩ = some (.slice A2 n c2) := by rw [show N + 1 + 1 + 1 = N + 3 from rfl, blk_cell (blk_belowX F4.out.2.2.1 hbz)]; rfl
          have F5 := Aside0.mk hbz
          clear hbz
          go_wp2_with (fail)
          refine (SameNums_eq (T.map Prod.snd) (T.map Prod.snd) n n _ _ _ _ _ rfl F4.out.2.2.2.2 F4.out.2.2.2.2 (Kd.C_below F2.out F5.out) hcc2 (Kd.C_below F3.out.2 F5.out) hc4 (by omega)).mono ?_
          rintro e z2 ⟨rfl, hbz⟩
          have F6 := Aside0.mk (below_step F5.out hbz)
          clear hbz
          go_wp2
          have hK' := blk_belowX F4.out.2.1 F6.out
          have hw1 := F4.out.1.size
          have hl1 : Lies W.heap.size z2 (z2.putObj D (.deferred none)) := .put (by have := G.out.1.size; omega) hK' rfl _
          refine ⟨by simp, .inl ⟨_, _, rfl, run_takeDeferred hK', ?_⟩⟩
          exact ⟨_, results_tmp rfl _ _ _, rfl, hl1.below (below_step F4.out.1 F6.out) (Nat.le_refl _) (Nat.le_refl _)⟩
end Go.Proofs.YtmcapemlfplcgaaDoor.MSetPairs
