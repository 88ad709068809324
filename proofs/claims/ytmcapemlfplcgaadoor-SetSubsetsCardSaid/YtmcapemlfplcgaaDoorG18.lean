/- Some texts of one seat in one file, in build order. -/
import Derived.Test.YtmcapemlfplcgaaDoorG4
import Derived.Test.YtmcapemlfplcgaaDoorG14
import Derived.Test.YtmcapemlfplcgaaDoorG17
import Derived.Test.YtmcapemlfplcgaaDoorG1
import Derived.Deep.RegionHeld3
import Derived.Test.YtmcapemlfplcgaaDoorRows
import Derived.Test.YtmcapemlfplcgaaDoorG7
import Derived.ProofKit
import Derived.LaidMore
import Derived.OpenShut
import Derived.Stop.Joined
/- A list that the rounds of a range over a func fill, one append a round. -/
namespace Go.Proofs.YtmcapemlfplcgaaDoor.H
open Go.RowKit Go.Proofs.YtmcapemlfplcgaaDoorW.PrintWords Go.Proofs.YtmcapemlfplcgaaDoorW.PrintLast Go.Proofs.YtmcapemlfplcgaaDoorW.PrintMore Go.Proofs.YtmcapemlfplcgaaDoor.AtM
set_option linter.unusedVariables false
set_option linter.unusedSimpArgs false
set_option maxRecDepth 100000
theorem and_mask2 (a : Int) (m : Nat) (hm : m < 9223372036854775808) : 0 ≤ bits .and .i64 a (m : Int) ∧ bits .and .i64 a (m : Int) ≤ m := by
  have e : bits .and .i64 a (m : Int) = IntKind.i64.wrap (((BitVec.ofInt 64 a) &&& (BitVec.ofInt 64 (m : Int))).toNat : Int) := rfl
  have hle : ((BitVec.ofInt 64 a) &&& (BitVec.ofInt 64 (m : Int))).toNat ≤ m := by
    rw [BitVec.ofInt_natCast, BitVec.toNat_and, BitVec.toNat_ofNat, Nat.mod_eq_of_lt (by omega : m < 2 ^ 64)]
    exact Nat.and_le_right
  rw [e, IntKind.wrap_i64]
  generalize ((BitVec.ofInt 64 a) &&& (BitVec.ofInt 64 (m : Int))).toNat = z at hle ⊢
  omega
theorem R_zero2 {α : Type} (d : Kd α) {e base g : Nat} {W : World} {ok : Nat → Prop} (hg : W.heap[g]? = some (.cells #[] e (0, 0))) (hb : base ≤ g) (hok : ok g) : d.R e W base ok (.slice (some ⟨g, 0, none⟩) 0 0) [] :=
  ⟨fun k hk => by have e : some g = some k := hk; injection e with e; exact e ▸ hok, [], ⟨by simp, .inr ⟨g, 0, #[], rfl, hb, hg, Nat.le_refl _, by decide, by simp, by simp⟩⟩, Reps.none _ _⟩
/-- What holds of the list between two rounds: w the world ahead of the range, gb the list's box, eb the block of the empty literal. -/
structure Got (k : IntKind) (t tS : TypeId) (w X : World) (gb eb : Nat) (pre : List Int) : Prop where
  row : ∃ A c, X.heap[gb]? = some (.cells #[.slice A pre.length c] tS (0, 0)) ∧ Kd.R (Kd.int k) t X eb (fun i => i = eb ∨ w.heap.size ≤ i) (.slice A pre.length c) pre
  but : But (fun i => i = eb ∨ i = gb) w X
theorem But.lies2 {P : Nat → Prop} {w X Y : World} {B : Nat} (h : But P w X) (hl : Lies B X Y) (hB : w.heap.size ≤ B) : But P w Y :=
  ⟨hl.os.trans h.os, hl.tape.trans h.tape, hl.output.trans h.output, Nat.le_trans h.size hl.size, fun k hk hp => by
    have e := h.block k hk hp
    obtain ⟨o, ho⟩ : ∃ o, w.heap[k]? = some o := ⟨_, Array.getElem?_eq_getElem hk⟩
    rw [ho] at e ⊢
    exact hl.same k o e (.inl (by omega))⟩
theorem Got.lies {k : IntKind} {t tS : TypeId} {w X Y : World} {gb eb B : Nat} {pre : List Int} (h : Got k t tS w X gb eb pre) (hl : Lies B X Y) (hB : w.heap.size ≤ B) : Got k t tS w Y gb eb pre := by
  obtain ⟨A, c, h1, h2⟩ := h.row
  exact ⟨⟨A, c, hl.blk h1, hl.R h2⟩, h.but.lies2 hl hB⟩
/-- A round. -/
theorem Got.step {k : IntKind} {t tS : TypeId} {w Wb w7 : World} {gb eb s : Nat} {pre : List Int} {x : Int} {Ap A7 : Option Addr} {n cp c7 : Nat} (h : Got k t tS w Wb gb eb pre) (hn : pre.length = n)
    (j1 : Wb.heap[gb]? = some (.cells #[.slice Ap n cp] tS (0, 0))) (j2 : Kd.R (Kd.int k) t Wb eb (fun i => i = eb ∨ w.heap.size ≤ i) (.slice Ap n cp) pre)
    (r1 : Kd.R (Kd.int k) t w7 eb (fun i => i = eb ∨ w.heap.size ≤ i) (.slice A7 (n + 1) c7) (pre ++ [x])) (r3 : Wb.grownBy w7 (Value.slice Ap n cp).ownBlock) (r4 : w7.heap[gb]? = some (.cells #[.slice Ap n cp] tS (0, 0))) (htt : tS ≠ t) (htt2 : ∀ q ∈ t :: (Kd.int k).E, q ≠ tS) (hgb : gb < w.heap.size) (hs : s ≤ Wb.heap.size) (he : eb < w.heap.size) :
    Got k t tS w (w7.setCell ⟨gb, 0, none⟩ (.slice A7 (n + 1) c7)) gb eb (pre ++ [x]) ∧ KeepsFrom w.heap.size Wb (w7.setCell ⟨gb, 0, none⟩ (.slice A7 (n + 1) c7)) ∧
    Kin (fun q => q = t) w.heap.size s Wb (w7.setCell ⟨gb, 0, none⟩ (.slice A7 (n + 1) c7)) ∧ Kp w.heap.size (fun i => i ≠ eb ∧ i ≠ gb) Wb (w7.setCell ⟨gb, 0, none⟩ (.slice A7 (n + 1) c7)) := by
  have hWbs := h.but.size
  have hbut : But (fun i => i = gb ∨ some i = (Value.slice Ap n cp).ownBlock) Wb (w7.setCell ⟨gb, 0, none⟩ (.slice A7 (n + 1) c7)) := (But.of_grown r3 (fun i hi => .inr hi.symm)).trans (.of_oth (Oth.set w7 ⟨gb, 0, none⟩ _) (.inl rfl))
  have hown : ∀ i, some i = (Value.slice Ap n cp).ownBlock → (i = eb ∨ w.heap.size ≤ i) ∧ ∃ cells, Wb.heap[i]? = some (.cells cells t (0, 0)) := fun i hi => by
    obtain ⟨_, ho'⟩ := Kd.R_own j2
    exact ⟨j2.1 i hi.symm, own_typed ho' i hi.symm⟩
  refine ⟨⟨⟨A7, c7, ?_, ?_⟩, h.but.then hbut (fun i hi h => ?_)⟩, KeepsFrom.of_but hbut ?_, ⟨hbut.size, fun i h1 h2 h3 => hbut.block i (by omega) ?_⟩, Kp.of_but hbut (fun i hi hb => ?_) hWbs⟩
  · simp only [List.length_append, List.length_singleton, hn]
    exact blk_put r4 0 (.slice A7 (n + 1) c7) rfl
  · simp only [List.length_append, List.length_singleton, hn]
    exact Kd.R_set r1 r4 htt2 0 _
  · rcases h with h | h
    · exact .inr h
    · rcases (hown i h).1 with h | h
      · exact .inl h
      · omega
  · rintro i o (rfl | hi) ho
    · rw [j1] at ho; cases ho; rfl
    · obtain ⟨_, cells, hc⟩ := hown i hi
      rw [hc] at ho; cases ho; rfl
  · rintro (h | h)
    · omega
    · obtain ⟨_, cells, hc⟩ := hown i h
      exact h3 _ _ _ hc rfl
  · rintro (h | h)
    · exact hb.2 h
    · rcases (hown i h).1 with h | h
      · exact hb.1 h
      · omega
end Go.Proofs.YtmcapemlfplcgaaDoor.H
/- SetSubsets: the subsets are those that are said, and no more are made. No condition but what the row lists of the variables. -/
namespace Go.Proofs.YtmcapemlfplcgaaDoor.MSetSubsets
open Go.RowKit Go.Proofs.YtmcapemlfplcgaaDoorW.PrintWords Go.Proofs.YtmcapemlfplcgaaDoorW.PrintLast Go.Proofs.YtmcapemlfplcgaaDoorW.PrintMore Go.Proofs.YtmcapemlfplcgaaDoor.AtM Go.Proofs.YtmcapemlfplcgaaDoor.R02 Go.Proofs.YtmcapemlfplcgaaDoor.H Go.Proofs.YtmcapemlfplcgaaDoor.Ult
set_option linter.unusedVariables false
set_option linter.unusedSimpArgs false
set_option maxRecDepth 100000
attribute [local go_sem] Oper.semAt_some wide_fn wide_depth
theorem RSubsets_eq (s : Int) (n : Nat) (W : World) (hs : U64 s) (hc : pcS s ≤ 10) (h : (subsS s).length = n) : Calls Tryd.prog 31 #[.int .u64 s] W fun e W' =>
    ∃ g c, e = .returned (.slice (some ⟨g, 0, none⟩) n c) ∧ n ≤ c ∧ Kd.C (Kd.int .u64) W' (some ⟨g, 0, none⟩) n (subsS s) ∧ Ty 22 W' (some ⟨g, 0, none⟩) ∧ Below W.heap.size W W' := by
  subst h
  obtain ⟨k, hk⟩ := (subsets_ev s hs hc).get
  refine (PAll2.saleroomref02_Subsets.calls k s _ W hk).mono ?_
  rintro e w' ⟨v, rfl, hR, hb⟩
  obtain ⟨g, c, rfl, hc, hC⟩ := own_at2 hR (by rw [subsS_len]; exact Nat.ne_of_gt (Nat.pow_pos (by decide)))
  exact ⟨g, c, rfl, hc, hC, Ty.of_R hR, hb⟩
set_option maxHeartbeats 3200000 in
theorem main (a : Int) (wa : (Lit.int .u64 a).wf = true) (most : Int) (wm : (Lit.int .i64 most).wf = true) (W : World) (hT : TabE W) :
    Calls Tryd.prog 5 #[.int .u64 a, .int .i64 most] W fun e W' => e = .returned (.bool true) ∧ Below W.heap.size W W' := by
  have ha := wf2_u64 wa
  have hmm := and_mask2 most 1023 (by decide)
  rw [show ((1023 : Nat) : Int) = 1023 from rfl] at hmm
  have HU := Aside0.mk (And.intro ha hT)
  clear wa wm ha hT
  refine (callsIn_wide (n := 8)).1 ?_
  refine callsIn_of_wp_marks Tryd.func5 rfl trivial ?_ rfl
  simp only [Tryd.ntmps5, List.size_toArray, List.length_cons, List.length_nil, Nat.reduceAdd, Nat.reduceSub, Array.replicate_succ, Array.replicate_zero, List.push_toArray, List.append_toArray, List.nil_append, List.cons_append]
  refine wpIn_wide.2 ?_
  have hb0 : Below W.heap.size W (W.alloc (.cells #[.int .i64 most] 3)) := below_alloc (Below.refl _ _) _
  have m0 := blk_new W (.cells #[.int .i64 most] 3)
  go_wp2_with (fail)
  refine (alive2_calls _ (HU.out.2.below hb0)).mono ?_
  rintro e w1 ⟨rfl, hb1⟩
  have m1 := blk_belowX m0 hb1
  have B := Aside0.mk (And.intro (below_step hb0 hb1) m1)
  clear hb0 m0 hb1 m1
  go_wp2_with (fail)
  go_loopw [0] (fun v wr => ∃ x : Int, v = .int .u64 x ∧ Aside0 (U64 x) ∧ wr = w1) (fun v _ => (intOf v).toNat)
  case atStart => exact ⟨a, rfl, ⟨HU.out.1⟩, rfl⟩
  case round =>
    obtain ⟨x, rfl, HX, rfl⟩ := hrel
    by_cases h10 : 10 < pcS x
    · have g1 : decide ((10 : Int) < (pcS x : Int)) = true := decide_eq_true (by omega)
      have g2 : decide ((pcS x : Int) > 10) = true := decide_eq_true (by omega)
      have hx0 : x ≠ 0 := fun e => by subst e; revert h10; decide
      have hlow := and_low HX.out hx0
      obtain ⟨q1, q2⟩ := and_pred_lt HX.out hx0
      obtain ⟨y, hy⟩ : ∃ y, ((x.toNat &&& (x.toNat - 1) : Nat) : Int) = y := ⟨_, rfl⟩
      rw [hy] at hlow q1 q2
      have HY := Aside0.mk q1
      have hx1 := HX.out.1
      have hy1 := q1.1
      clear q1 hy
      go_wp2_with (fail)
      refine (Count_calls x _ HX.out).mono ?_
      rintro e w2 ⟨rfl, rfl⟩
      go_wp2
      go_roundw
      case rel => exact ⟨y, by first | rfl | rw [hlow], HY, by trivial⟩
      case measure => (try rw [hlow]); simp [intOf]; omega
    · have g1 : decide ((10 : Int) < (pcS x : Int)) = false := decide_eq_false (by omega)
      have g2 : decide ((pcS x : Int) > 10) = false := decide_eq_false (by omega)
      go_wp2_with (fail)
      refine (Count_calls x _ HX.out).mono ?_
      rintro e w2 ⟨rfl, rfl⟩
      go_wp2_with (fail)
      obtain ⟨xs, hxs⟩ : ∃ l, subsS x = l := ⟨_, rfl⟩
      have hlen := subsS_len x
      have hp10 : 2 ^ pcS x ≤ 2 ^ 10 := Nat.pow_le_pow_right (by decide) (by omega)
      have hp1 : 1 ≤ 2 ^ pcS x := Nat.pow_pos (by decide)
      have hch := chain_subs HX.out
      have hRS := RSubsets_eq x xs.length wr HX.out (by omega) (by rw [hxs])
      rw [hxs] at hlen hch hRS
      have hn1 : 1 ≤ xs.length ∧ xs.length ≤ 1024 := by omega
      have HC := Aside0.mk hch
      clear hlen hp10 hp1 hch hxs h10 g1 g2
      refine hRS.mono ?_
      rintro e w2 ⟨g2, c2, rfl, hc2, hC2, hY2, hb2⟩
      have B2 := Aside0.mk (And.intro (below_step B.out.1 hb2) (blk_belowX B.out.2 hb2))
      have C2 := Aside0.mk (And.intro hC2 hY2)
      have T2 := Aside0.mk ((HU.out.2.below B.out.1).below hb2)
      clear hRS hb2 hC2 hY2
      go_wp2_with (fail)
      refine (Subsets_calls x w2).mono ?_
      rintro e w3 ⟨rfl, hw3⟩
      have hb3 : Below w2.heap.size w2 w3 := by rw [hw3]; exact below_alloc (Below.refl _ _) _
      have s3 : w3.heap[w2.heap.size]? = some (.cells #[.int .u64 x] 22 (0, 0)) := by rw [hw3]; exact blk_new _ _
      have B3 := Aside0.mk (And.intro (below_step B2.out.1 hb3) (blk_belowX B2.out.2 hb3))
      have C3 := Aside0.mk (And.intro (Kd.C_below C2.out.1 hb3) (C2.out.2.below hb3))
      have hl3 : w2.heap.size < w3.heap.size := lt_of_some s3
      clear hw3 hb3 B2 C2
      go_wp2_with (fail)
      refine (Collectu64 56 #[.pointer (some ⟨w2.heap.size, 0, none⟩)] (enters_of Tryd.func56 (by kernel_rfl) rfl) xs w3 (by omega)
        (Subsets1_seq 7 x xs w2.heap.size (w3.heap.size + 1) _ _ HC.out
          (fun X hk => by rw [blk_cell ((hk.2 w2.heap.size (by omega) (by omega)).trans (blk_alloc s3 _)) 0]; rfl) (by simp))).mono ?_
      rintro e w4 ⟨v4, rfl, hr4, hb4⟩
      obtain ⟨A4, c4, rfl, hc4, hC4⟩ := R_C hr4
      have B4 := Aside0.mk (And.intro (below_step B3.out.1 hb4) (blk_belowX B3.out.2 hb4))
      have C4 := Aside0.mk (And.intro (Kd.C_below C3.out.1 hb4) (And.intro hC4 (C3.out.2.below hb4)))
      clear hr4 hC4 hb4 s3 B3 C3
      go_wp2_with (fail)
      refine (SameSets_eq xs xs _ _ _ _ _ _ _ rfl rfl rfl C4.out.2.1 hc4 C4.out.1 hc2 (by omega)).mono ?_
      rintro e w5 ⟨rfl, hb5⟩
      have B5 := Aside0.mk (And.intro (below_step B4.out.1 hb5) (blk_belowX B4.out.2 hb5))
      have C5 := Aside0.mk (And.intro (Kd.C_below C4.out.1 hb5) (C4.out.2.2.below hb5))
      clear B4 C4 hb5
      have d5 := blk_cell B5.out.2 0
      have f5 := blk_frozen B5.out.2 0
      simp at d5
      go_wp2_with (fail)
      obtain ⟨m, hm⟩ : ∃ m : Nat, 1 + bits BinOp.and IntKind.i64 most 1023 = (m : Int) := ⟨(1 + bits BinOp.and IntKind.i64 most 1023).toNat, by omega⟩
      have hm0 : 1 ≤ m ∧ m ≤ 1024 := by omega
      rw [hm]
      have hW5 : W.heap.size < w5.heap.size := lt_of_some B5.out.2
      have e1 : (w5.setCell ⟨W.heap.size, 0, none⟩ (.int .i64 (m : Int))).heap.size = w5.heap.size := by
        show (w5.heap.modify _ _).size = _; rw [Array.size_modify]
      have hb6 : Below W.heap.size W (((w5.setCell ⟨W.heap.size, 0, none⟩ (.int .i64 (m : Int))).alloc (.cells #[] 22)).alloc (.cells #[.slice (some ⟨w5.heap.size, 0, none⟩) 0 0] 42)) := below_alloc (below_alloc (below_set B5.out.1 (Nat.le_refl _)) _) _
      have q0 : (((w5.setCell ⟨W.heap.size, 0, none⟩ (.int .i64 (m : Int))).alloc (.cells #[] 22)).alloc (.cells #[.slice (some ⟨w5.heap.size, 0, none⟩) 0 0] 42)).heap[w5.heap.size]? = some (.cells #[] 22 (0, 0)) := by rw [← e1]; exact blk_alloc (blk_new _ _) _
      have q1 : (((w5.setCell ⟨W.heap.size, 0, none⟩ (.int .i64 (m : Int))).alloc (.cells #[] 22)).alloc (.cells #[.slice (some ⟨w5.heap.size, 0, none⟩) 0 0] 42)).heap[w5.heap.size + 1]? = some (.cells #[.slice (some ⟨w5.heap.size, 0, none⟩) 0 0] 42 (0, 0)) := by
        have := blk_new2 (w5.setCell ⟨W.heap.size, 0, none⟩ (.int .i64 (m : Int))) (.cells #[] 22) (.cells #[.slice (some ⟨w5.heap.size, 0, none⟩) 0 0] 42)
        rwa [e1] at this
      have q2 : (((w5.setCell ⟨W.heap.size, 0, none⟩ (.int .i64 (m : Int))).alloc (.cells #[] 22)).alloc (.cells #[.slice (some ⟨w5.heap.size, 0, none⟩) 0 0] 42)).heap[W.heap.size]? = some (.cells #[.int .i64 (m : Int)] 3 (0, 0)) := blk_alloc (blk_alloc (blk_set B5.out.2 0 _) _) _
      have q3 : (((w5.setCell ⟨W.heap.size, 0, none⟩ (.int .i64 (m : Int))).alloc (.cells #[] 22)).alloc (.cells #[.slice (some ⟨w5.heap.size, 0, none⟩) 0 0] 42)).heap.size = w5.heap.size + 2 := by simp only [World.size_alloc]; rw [e1]
      have hK6 : ∀ i, i < w5.heap.size → i ≠ W.heap.size → (((w5.setCell ⟨W.heap.size, 0, none⟩ (.int .i64 (m : Int))).alloc (.cells #[] 22)).alloc (.cells #[.slice (some ⟨w5.heap.size, 0, none⟩) 0 0] 42)).heap[i]? = w5.heap[i]? := fun i hi hne =>
        ((below_alloc (below_alloc (Below.refl (w5.setCell ⟨W.heap.size, 0, none⟩ (.int .i64 (m : Int))).heap.size _) _) _).block i (by rw [e1]; exact hi)).trans ((Oth.set w5 ⟨W.heap.size, 0, none⟩ (.int .i64 (m : Int))).block i hi hne)
      generalize (((w5.setCell ⟨W.heap.size, 0, none⟩ (.int .i64 (m : Int))).alloc (.cells #[] 22)).alloc (.cells #[.slice (some ⟨w5.heap.size, 0, none⟩) 0 0] 42)) = w6 at hb6 q0 q1 q2 q3 hK6 ⊢
      refine (Subsets_calls x w6).mono ?_
      rintro e w7 ⟨rfl, hw7⟩
      have hb7 : Below w6.heap.size w6 w7 := by rw [hw7]; exact below_alloc (Below.refl _ _) _
      have q4 : w7.heap[w6.heap.size]? = some (.cells #[.int .u64 x] 22 (0, 0)) := by rw [hw7]; exact blk_new _ _
      have q5 : w7.heap.size = w6.heap.size + 1 := by rw [hw7]; simp
      have q0 := blk_belowX q0 hb7
      have q1 := blk_belowX q1 hb7
      have q2 := blk_belowX q2 hb7
      have hC7 : ∀ X, (∀ i, i < w5.heap.size → i ≠ W.heap.size → X.heap[i]? = w7.heap[i]?) → Kd.C (Kd.int .u64) X (some ⟨g2, 0, none⟩) xs.length xs := fun X hX =>
        C_ty C5.out.2 C5.out.1 (fun i cs z hi => by
          have h1 := lt_of_some hi
          have h2 : i ≠ W.heap.size := fun e => by subst e; rw [B5.out.2] at hi; injection hi with hi; injection hi with _ hi _; exact absurd hi (by decide)
          exact (hX i h1 h2).trans ((hb7.block i (by omega)).trans (hK6 i h1 h2)))
      have G := Aside0.mk (And.intro (below_step hb6 hb7) (And.intro hC7 (And.intro q0 (And.intro q1 q2))))
      rw [q3] at q4 q5 ⊢
      generalize w5.heap.size = N at *
      clear e1 hb6 hb7 hw7 hC7 hK6 q0 q1 q2 q3 B5 C5 T2 f5 d5 hmm B
      go_wp2_with (fail)
      have hI0 : Got .u64 22 42 w7 w7 (N + 1) N [] := ⟨⟨_, _, G.out.2.2.2.1, R_zero2 (Kd.int .u64) G.out.2.2.1 (Nat.le_refl _) (.inl rfl)⟩, But.refl _ _⟩
      refine (wpIn_wide (n := 8)).1 (rangeX rfl (by omega) (gf := 56) (lb := #[.pointer (some ⟨N + 2, 0, none⟩)]) rfl trivial (enters_of Tryd.func56 (by kernel_rfl) rfl)
        (Y := SuY xs) (n₀ := w7.heap.size) (Kb := fun k => k ≠ N ∧ k ≠ N + 1) (S := fun ys => ys = xs) (Sp := fun _ => True)
        (Subsets1_seq 7 x xs (N + 2) w7.heap.size _ w7 HC.out
          (fun X hk => by rw [blk_cell ((hk.2 (N + 2) (by omega) (by omega)).trans q4) 0]; rfl) (Nat.le_refl _)) (Nat.le_refl _)
        (fun _ _ _ _ hy => by obtain ⟨_, rfl⟩ := hy; rfl)
        (fun pre X => Got .u64 22 42 w7 X (N + 1) N pre ∧ pre.length < m) (fun cd pre X => cd = .exit 2 ∧ Got .u64 22 42 w7 X (N + 1) N pre ∧ pre = xs.take m)
        (fun _ P Q h hlie => ⟨h.1.lies hlie (Nat.le_refl _), h.2⟩) (fun _ _ P Q h hlie => ⟨h.1, h.2.1.lies hlie (Nat.le_refl _), h.2.2⟩) ⟨hI0, by simp; omega⟩ ?round ?done ?stop)
      case round =>
        rintro lp pre y vs Y hl2 ⟨hI, hlt⟩ ⟨hpre, rfl⟩ hYs
        have HP := Aside0.mk hpre
        clear hpre
        gi_wp2
        refine ⟨KeepsFrom.of_below (Below.refl _ _), Kp.refl _ _ _, ?_⟩
        intro Wb hlie
        have hI2 := hI.lies hlie (Nat.le_refl _)
        obtain ⟨Ap, cp, i1, i2⟩ := hI2.row
        have i3 := hI2.but.blk G.out.2.2.2.2 (by omega)
        have d0 : Wb.cell? ⟨N + 1, 0, none⟩ = some (.slice Ap pre.length cp) := by rw [blk_cell i1]; rfl
        have d3 : Wb.cell? ⟨W.heap.size, 0, none⟩ = some (.int .i64 m) := by rw [blk_cell i3]; rfl
        have hWbs : w7.heap.size ≤ Wb.heap.size := hI2.but.size
        obtain ⟨pn, hpn⟩ : ∃ n, pre.length = n := ⟨_, rfl⟩
        rw [hpn] at i1 i2 d0 hlt
        have I := Aside0.mk (And.intro i1 (And.intro i2 (And.intro hI2 (And.intro hpn i3))))
        clear i1 i2 i3 hI2 hI hlie hpn
        gi_wp2_with (gi_at_builtin; refine RIn_append (Kd.int .u64) (w0 := Wb) N rfl (.tmp 32) (.tmp 34) 42 22 (.int .u64 0) 8 rfl Tryd.underlying42 info_collu64 rfl (by decide) (by omega) _ pre y [.int .u64 y] (fun k => k = N ∨ w7.heap.size ≤ k) (fun _ => False) rfl rfl rfl (fun _ hk => hk.elim) (fun k hk => .inr (by omega)) I.out.2.1 (Below.refl _ _) (by omega) (by rw [I.out.2.2.2.1]; omega) ?_; intro v7 w8 ho7 hb7 hg7 hat7; obtain ⟨A7, c7, e7⟩ := Kd.R_slice ho7; subst e7; rw [List.length_append, List.length_singleton, I.out.2.2.2.1] at ho7; rw [List.length_append, List.length_singleton, I.out.2.2.2.1]; have hx7 := blk_grown I.out.2.1 I.out.1 (by decide) hg7; have hy7 := blk_grown I.out.2.1 I.out.2.2.2.2 (by decide) hg7; have d7 := blk_cell hx7 0; have f7 := blk_frozen hx7 0; have s7 := blk_lt hx7; have d8 := blk_cell hy7 0; simp at d8; have HO7 := Aside0.mk (And.intro ho7 (And.intro hb7 (And.intro hg7 hx7))); clear ho7 hb7 hg7 hat7 hx7 hy7)
        all_goals
          rename_i hcm
          have r3 : Wb.grownBy w8 (Value.slice Ap pn cp).ownBlock := HO7.out.2.2.1
          obtain ⟨s1, s2, s3, s4⟩ := Got.step (s := 0) I.out.2.2.1 I.out.2.2.2.1 I.out.1 I.out.2.1 HO7.out.1 r3 HO7.out.2.2.2 (by decide) (by decide) (by omega) (Nat.zero_le _) (by omega)
          have j4 := I.out.2.2.2.1
          have hpl := HP.out.length_le
          rw [List.length_append, List.length_singleton, j4] at hpl
          first
            | (refine ⟨s2, rfl, s1, ?_⟩
               have e := beq_iff_eq.1 hcm
               rw [List.prefix_iff_eq_take.1 HP.out, List.length_append, List.length_singleton, j4]
               congr 1; omega)
            | (refine ⟨s2, s4, s1, ?_⟩
               have e : ¬ ((pn : Int) + 1 = (m : Int)) := fun h => by rw [h] at hcm; simp at hcm
               rw [List.length_append, List.length_singleton, j4]; omega)
      case' done =>
        rintro D ys X hD hys ⟨hI, hlt⟩ hKd
        rw [hys] at hlt hI
        have hys2 : xs = xs.take m := (List.take_of_length_le (by omega)).symm
        have hI : Got .u64 22 42 w7 X (N + 1) N (xs.take m) := by rw [← hys2]; exact hI
        clear hlt hys hys2
      case' stop =>
        rintro D cd ys X hD - ⟨rfl, hI, rfl⟩ hKd
        refine wpIn_wide.2 ?_
      all_goals
        obtain ⟨Ap, cp, i1, i2⟩ := hI.row
        have i3 := hI.but.blk G.out.2.2.2.2 (by omega)
        obtain ⟨j, hj⟩ : ∃ j, (xs.take m).length = j := ⟨_, rfl⟩
        rw [hj] at i1 i2
        have hjl := hj
        rw [List.length_take] at hjl
        have hjm : min (m : Int) (xs.length : Int) = (j : Int) := by omega
        have hjx : j ≤ xs.length := by omega
        have hjc : j ≤ c2 := by omega
        have htj : xs.take m = xs.take j := by
          rw [← hjl, List.take_eq_take_iff]; omega
        have hCX := G.out.2.1 X (fun i h1 h2 => hI.but.block i (by omega) (by omega))
        have hCT : Kd.C (Kd.int .u64) X (some ⟨g2, 0, none⟩) j (xs.take j) := by
          have h := Kd.C_take hCX hjx
          rwa [show (xs.take j).length = j by rw [List.length_take]; omega] at h
        have hbX : Below W.heap.size W X := hI.but.below G.out.1 (by omega) (by rintro k (rfl | rfl) <;> omega)
        obtain ⟨Aq, cq, eq, hcq, hCq⟩ := R_C i2
        injection eq with e1 e2 e3
        subst e1; subst e3
        rw [hj] at hcq hCq
        have d0 : X.cell? ⟨N + 1, 0, none⟩ = some (.slice Ap j cp) := by rw [blk_cell i1]; rfl
        have d1 : X.cell? ⟨W.heap.size, 0, none⟩ = some (.int .i64 m) := by rw [blk_cell i3]; rfl
        have B0 : Aside0 (Below X.heap.size X X.drew) := ⟨pw_below_drewN (Below.refl _ _) 1⟩
        have HS : Aside0 (∀ w', Below X.heap.size X w' → w'.cell? ⟨N + 1, 0, none⟩ = some (.slice Ap j cp) ∧ w'.cell? ⟨W.heap.size, 0, none⟩ = some (.int .i64 m)) :=
          ⟨fun w' hb => by
            have hcl : ∀ {b o v}, X.cell? ⟨b, o, none⟩ = some v → w'.cell? ⟨b, o, none⟩ = some v := fun h => (hb.cell (World.block_lt_of_cell? X _ h)).trans h
            exact ⟨hcl d0, hcl d1⟩⟩
        have S0 := Aside0.mk (HS.out _ B0.out)
        have HZ := Aside0.mk (And.intro hbX (And.intro hKd (And.intro hCq (And.intro hcq (And.intro hCT (And.intro hj htj))))))
        clear hI i1 i2 i3 hj hjl hCT hCX hbX hCq hcq d0 d1 hKd e2 htj hI0 q0 q1 q2 q4
        go_wp2_with (fail)
        go_region_held3 (fun w' => w'.cell? ⟨N + 1, 0, none⟩ = some (.slice Ap j cp) ∧ w'.cell? ⟨W.heap.size, 0, none⟩ = some (.int .i64 m))
          (first | (with_reducible exact S0.out) | (with_reducible exact S1.out))
          (first
            | (go_at_call 32; have _t := B0; (with_reducible refine (SameSets_eq (xs.take m) (xs.take j) j j _ _ _ _ _ HZ.out.2.2.2.2.2.2 HZ.out.2.2.2.2.2.1 (by rw [List.length_take]; omega) (Kd.C_below HZ.out.2.2.1 B0.out) HZ.out.2.2.2.1 (Kd.C_below HZ.out.2.2.2.2.1 B0.out) hjc (by omega)).mono ?_); rintro e w9 ⟨rfl, hb⟩; have S1 := Aside0.mk (HS.out _ (below_step B0.out hb)); have B1 := Aside0.mk (below_step B0.out hb); clear hb _t B0))
        go_wp2
        have hK' := blk_belowX HZ.out.2.1 B1.out
        have hw1 := HZ.out.1.size
        have hl1 : Lies W.heap.size w9 (w9.putObj D (.deferred none)) := .put (by omega) hK' rfl _
        refine ⟨by simp, .inl ⟨_, _, rfl, run_takeDeferred hK', ?_⟩⟩
        exact ⟨_, results_tmp rfl _ _ _, rfl, hl1.below (below_step HZ.out.1 B1.out) (Nat.le_refl _) (Nat.le_refl _)⟩
end Go.Proofs.YtmcapemlfplcgaaDoor.MSetSubsets
/- What a row of folder 02 gives the walks: the table of math/bits, the errors of strconv. -/
namespace Go.Proofs.YtmcapemlfplcgaaDoor.H
open Go.ChangeShapes Go.WideShapes Go.ChangeAt Go.RowKit
set_option linter.unusedVariables false
set_option maxRecDepth 100000
theorem gTab : Tryd.prog.globalNamed "math/bits.deBruijn64tab" = some 0 := by kernel_rfl
theorem tTab : (Tryd.prog.globals[0]?).map (·.type) = some 99 := by kernel_rfl
theorem cTab : Tryd.prog.cellsOf 5 = 1 := by kernel_rfl
theorem lTab : (Rows.laid_math_bits_deBruijn64tab : DataW Unit) = .agg ((List.range 64).map fun j => .lit (.int .u8 (Lib.deBruijn64tab.getD j 0 : Nat))) := by rfl
/-- The list that the row lists. -/
theorem tab_of_vars {W : World} {cs : Array Value} {fuel : Nat} {q : List MemPlace} {base : Nat} {sp : Nat → Bool} {enc : TypeId × Value → Unit} {held : Bool} (hv : W.var? Tryd.prog "math/bits.deBruijn64tab" = some cs)
    (hd : DataW.trod enc Tryd.prog W base sp held fuel 99 cs.toList = some (Rows.laid_math_bits_deBruijn64tab, q)) : TabG W := by
  obtain ⟨xs, m, rfl, hx, hlen, hn, hel⟩ := DataW.trod_array Tryd.underlying99 hd
  rw [lTab] at hx
  simp only [Prod.mk.injEq, DataW.agg.injEq] at hx
  intro j hj
  have h1 := hel j hj
  rw [cTab, Nat.mul_one, List.getElem?_eq_getElem (by omega)] at h1
  obtain ⟨n, e1, e2, _⟩ := DataW.trod_int Tryd.underlying5 h1
  have h2 := congrArg (fun l => l[j]?) hx.1
  simp only [List.getElem?_map, List.getElem?_range hj, Option.map_some, List.getElem?_eq_getElem (show j < xs.length by omega), e2] at h2
  injection h2 with h2
  injection h2 with h2
  injection h2 with _ h2
  have h3 := World.var?_cell gTab hv j
  rw [h3, h2]
  have h4 : cs.toList[j]? = some (.int .u8 n) := by
    have := congrArg (fun l => l[0]?) e1
    simpa using this
  simpa using h4
theorem err_of_vars {W : World} {n : String} {g t : Nat} {d : DataW Unit} {cs : Array Value} {fuel : Nat} {q : List MemPlace} {base : Nat} {sp : Nat → Bool} {enc : TypeId × Value → Unit} {held : Bool} (hg : Tryd.prog.globalNamed n = some g) (hv : W.var? Tryd.prog n = some cs)
    {u : TypeDesc} (ht : Tryd.prog.underlying t = some u) (hu : (match u with | .interface _ => true | _ => false) = true) (hd : DataW.trod enc Tryd.prog W base sp held fuel t cs.toList = some (d, q)) : ErC g W := by
  have h3 := World.var?_cell hg hv 0
  cases u <;> simp at hu
  have hc : ∃ ev, cs.toList = [ev] ∧ (ev = .nilIface ∨ ∃ te pe, ev = .iface te pe) := by
    cases fuel with
    | zero => unfold DataW.trod at hd; cases hd
    | succ m =>
      unfold DataW.trod at hd
      rw [ht] at hd
      split at hd <;> first | (rename_i h1 h2; exact ⟨_, h2, .inl rfl⟩) | (rename_i h1 h2; exact ⟨_, h2, .inr ⟨_, _, rfl⟩⟩) | simp_all
  obtain ⟨ev, h1, h2⟩ := hc
  refine ⟨ev, ?_, h2⟩
  have h4 : cs.toList[0]? = some ev := by rw [h1]; rfl
  rw [h3]; simpa using h4
theorem tabE_of_laid {W : World} (h : laidMetH Tryd.prog [("math/bits.deBruijn32tab", Rows.laid_math_bits_deBruijn32tab), ("math/bits.deBruijn64tab", Rows.laid_math_bits_deBruijn64tab), ("internal/strconv.uint64pow10", Rows.laid_internal_strconv_uint64pow10), ("unicode/utf8.acceptRanges", Rows.laid_unicode_utf8_acceptRanges), ("strconv.ErrRange", Rows.laid_strconv_ErrRange), ("strconv.ErrSyntax", Rows.laid_strconv_ErrSyntax), ("unicode/utf8.first", Rows.laid_unicode_utf8_first)] W) : TabE W := by
  rw [MakeChecks.laidMetH_plain _ _ _ (by kernel_rfl)] at h
  obtain ⟨ps, ⟨_, _, _, _, _, _, _, _, _, _, ⟨g0, t0, cs0, f0, p0, q0, hg0, ht0, hv0, hd0, ⟨_, _, _, _, _, _, _, _, _, _, ⟨_, _, _, _, _, _, _, _, _, _, ⟨g4, t4, cs4, f4, p4, q4, hg4, ht4, hv4, hd4, ⟨g5, t5, cs5, f5, p5, q5, hg5, ht5, hv5, hd5, _, _⟩, _⟩, _⟩, _⟩, _⟩, _⟩, _⟩ := h
  refine ⟨?_, ?_, ?_⟩
  · obtain rfl := Option.some.inj (tTab.symm.trans (by
      obtain rfl := Option.some.inj (gTab.symm.trans hg0)
      exact ht0))
    exact tab_of_vars hv0 hd0
  · have e1 : Tryd.prog.globalNamed "strconv.ErrSyntax" = some 4 := by kernel_rfl
    obtain rfl := Option.some.inj (e1.symm.trans hg5)
    have e2 : (Tryd.prog.globals[4]?).map (·.type) = some 84 := by kernel_rfl
    obtain rfl := Option.some.inj (e2.symm.trans ht5)
    exact err_of_vars e1 hv5 Tryd.underlying84 rfl hd5
  · have e1 : Tryd.prog.globalNamed "strconv.ErrRange" = some 5 := by kernel_rfl
    obtain rfl := Option.some.inj (e1.symm.trans hg4)
    have e2 : (Tryd.prog.globals[5]?).map (·.type) = some 84 := by kernel_rfl
    obtain rfl := Option.some.inj (e2.symm.trans ht4)
    exact err_of_vars e1 hv4 Tryd.underlying84 rfl hd4
end Go.Proofs.YtmcapemlfplcgaaDoor.H
