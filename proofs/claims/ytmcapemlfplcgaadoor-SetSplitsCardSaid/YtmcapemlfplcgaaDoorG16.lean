/- Some texts of one seat in one file, in build order. -/
import Derived.Test.YtmcapemlfplcgaaDoorG13
import Derived.Lib.SmallJoins
import Derived.Test.YtmcapemlfplcgaaDoorG15
import Derived.Test.YtmcapemlfplcgaaDoorG4
import Derived.Test.YtmcapemlfplcgaaDoorG9
import Derived.Test.YtmcapemlfplcgaaDoorG3
/- Folder 02's alive. -/
namespace Go.Proofs.YtmcapemlfplcgaaDoor.H
open Go.RowKit Go.Proofs.YtmcapemlfplcgaaDoorW.PrintWords Go.Proofs.YtmcapemlfplcgaaDoorW.PrintLast Go.Proofs.YtmcapemlfplcgaaDoorW.PrintMore Go.Proofs.YtmcapemlfplcgaaDoor.AtM Go.Proofs.YtmcapemlfplcgaaDoor.R02
set_option linter.unusedVariables false
set_option linter.unusedSimpArgs false
set_option maxRecDepth 100000
attribute [local go_sem] Oper.semAt_some wide_fn wide_depth
theorem al2_1 : readS [123, 48, 44, 50, 125] = (5, 0) := by decide +kernel
theorem al2_2 : readS [123, 50, 44, 48, 125] = (0, 20) := by decide +kernel
theorem al2_3 : chainS 5 0 [0, 1, 4, 5] := by
  refine ⟨rfl, by decide, by decide, by decide +kernel, ?_⟩
  rw [show nextS 5 0 = 1 by decide +kernel]
  refine ⟨rfl, by decide, by decide, by decide +kernel, ?_⟩
  rw [show nextS 5 1 = 4 by decide +kernel]
  refine ⟨rfl, by decide, by decide, by decide +kernel, ?_⟩
  rw [show nextS 5 4 = 5 by decide +kernel]
  exact ⟨rfl, by decide, rfl⟩
theorem al2_5 : textS 5 = [123, 48, 44, 50, 125] := by
  have : txtB (listS 5) = [123, 48, 44, 50] := by
    rw [show listS 5 = [0, 2] by decide +kernel]
    simp only [txtB, digB, sgn, List.foldl_cons, List.foldl_nil, List.nil_append]
    rw [dec_dig2 (by decide), dec_dig2 (by decide)]
    decide
  unfold textS
  rw [this]
  decide
theorem al2_6 : PAll2.set_Of.f 20 [0, 2, 64, -1] = some 5 := by decide +kernel
theorem al2_7 : PAll2.set_Has.f 5 2 = some true := by decide +kernel
theorem al2_8 : PAll2.set_Has.f 5 1 = some false := by decide +kernel
theorem al2_9 : (pcS 5 : Int) = 2 := by decide +kernel
theorem al2_10 : PAll2.set_Full.f 2 = some 3 := by decide +kernel
theorem al2_11 : PAll2.set_Within.f 1 5 = some true := by decide +kernel
theorem al2_12 : PAll2.set_Apart.f 2 5 = some true := by decide +kernel
theorem al2_13 : cmpS 4 3 = -1 := by decide +kernel
theorem al2_14 : (listS 5).length = 2 := by decide +kernel
theorem al2_4 : pairsL 5 [97, 98, 99] = [(0, 97), (2, 99)] := by decide +kernel
theorem own_at2 {α : Type} {d : Kd α} {e : Nat} {w : World} {base : Nat} {ok : Nat → Prop} {v : Value} {l : List α} (h : Kd.R d e w base ok v l) (hl : l.length ≠ 0) : ∃ g c, v = .slice (some ⟨g, 0, none⟩) l.length c ∧ l.length ≤ c ∧ Kd.C d w (some ⟨g, 0, none⟩) l.length l := by
  obtain ⟨A, c', h1, h2, hC⟩ := Kd.R_reads h
  obtain ⟨_, inner, ho, _⟩ := h
  rcases ho.2 with ⟨_, h0⟩ | ⟨g, cap, cur, h3, _⟩
  · exact absurd h0 hl
  · rw [h1] at h3
    injection h3 with h3 _ _
    subst h3
    exact ⟨g, c', h1, h2, hC⟩
theorem at_elem {k : IntKind} {w : World} {A : Option Addr} {n : Nat} {xs : List Int} (h : Kd.C (Kd.int k) w A n xs) {i : Nat} (hi : i < n) : ∃ ad, A = some ad ∧ w.cell? (ad.add i) = some (.int k (xs.getD i 0)) := by
  obtain ⟨ad, c, e, _, hK, hc0⟩ := Kd.C_get h (0 : Int) (i : Int) (by omega) (by omega)
  rw [Int.toNat_natCast] at hK hc0
  have hK : c = [.int k (xs.getD i 0)] := hK
  subst hK
  have h1 := hc0 0 (.int k (xs.getD i 0)) rfl
  refine ⟨ad, e, ?_⟩
  have e2 : i * (Kd.int k).sz + 0 = i := by show i * 1 + 0 = i; omega
  rw [e2] at h1
  exact h1
def smP (xs : List (Int × Int)) : Int := xs.foldl (fun m x => m + (x.1 + x.2)) 0
theorem pre_two {α : Type} {a b : α} {pre : List α} {x : α} (h : pre ++ [x] <+: [a, b]) : (pre = [] ∧ x = a) ∨ (pre = [a] ∧ x = b) := by
  obtain ⟨t, ht⟩ := h
  match pre, ht with
  | [], ht => injection ht with h1 h2; exact .inl ⟨rfl, h1⟩
  | [p], ht => injection ht with h1 h2; injection h2 with h2 h3; exact .inr ⟨by rw [h1], h2⟩
  | p :: q :: r, ht =>
    have := congrArg List.length ht
    simp at this
set_option maxHeartbeats 3200000 in
theorem alive2_calls (w : World) (hT : TabE w) : Calls Tryd.prog 10 #[] w fun e w' => e = .returned (.bool true) ∧ Below w.heap.size w w' := by
  refine (callsIn_wide (n := 8)).1 ?_
  refine callsIn_of_wp_marks Tryd.func10 rfl trivial ?_ rfl
  simp only [Tryd.ntmps10, List.size_toArray, List.length_cons, List.length_nil, Nat.reduceAdd, Nat.reduceSub, Array.replicate_succ, Array.replicate_zero, List.push_toArray, List.append_toArray, List.nil_append, List.cons_append]
  have HT := Aside0.mk hT
  clear hT
  gi_wp2_with (fail)
  refine (callsIn_wide.2 (Read_eq ⟨#[123, 48, 44, 50, 125]⟩ 5 0 w (by decide) al2_1 HT.out)).mono ?_
  rintro e w1 ⟨rfl, hb1⟩
  have hT1 := HT.out.below hb1
  gi_wp2_with (fail)
  refine (callsIn_wide.2 (Read_eq ⟨#[123, 50, 44, 48, 125]⟩ 0 20 w1 (by decide) al2_2 hT1)).mono ?_
  rintro e w2 ⟨rfl, hb2⟩
  have hT2 := hT1.below hb2
  have hb2 := below_step hb1 hb2
  clear hb1 hT1
  have H2 := Aside0.mk (And.intro hT2 hb2)
  clear hT2 hb2
  have hnS : ∀ (lb : Array Value) (W : World), (binOp .eql 47 (.func (.func 56) #[] lb) .nilFunc).run Tryd.prog W = .ok (.bool false) W := fun _ _ => by kernel_rfl
  have hnP : ∀ (lb : Array Value) (W : World), (binOp .eql 67 (.func (.func 64) #[] lb) .nilFunc).run Tryd.prog W = .ok (.bool false) W := fun _ _ => by kernel_rfl
  have hcv := fun (C : Array Value) (n c : Nat) => Go.Joins.run_convert_bytes_const_at (P := Tryd.prog) (w2.alloc (.cells #[.int .u64 5] 22)) 69 5 C n c (w2.heap.size + 1) (by simp) Tryd.underlying69 Tryd.underlying5
  gi_wp2_with (first
    | (gi_at_call 34; refine (callsIn_wide.2 (Subsets_calls _ _)).mono ?_; rintro e w3 ⟨rfl, rfl⟩)
    | (gi_at_call 41; refine (callsIn_wide.2 (Pairs_callsu8 _ _ _ _ _)).mono ?_; rintro e w3 ⟨rfl, rfl⟩))
  have k0 : ((((w2.alloc (.cells #[.int .u64 5] 22)).alloc (.cells #[.int .u8 97, .int .u8 98, .int .u8 99] 5 (3, 4))).alloc (.cells #[.int .u64 5] 22)).alloc (.cells #[.slice (some ⟨w2.heap.size + 1, 0, none⟩) 3 3] 69)).heap[w2.heap.size]? = some (.cells #[.int .u64 5] 22 (0, 0)) := blk_alloc (blk_alloc (blk_alloc (blk_new _ _) _) _) _
  have k1 : ((((w2.alloc (.cells #[.int .u64 5] 22)).alloc (.cells #[.int .u8 97, .int .u8 98, .int .u8 99] 5 (3, 4))).alloc (.cells #[.int .u64 5] 22)).alloc (.cells #[.slice (some ⟨w2.heap.size + 1, 0, none⟩) 3 3] 69)).heap[w2.heap.size + 1]? = some (.cells #[.int .u8 97, .int .u8 98, .int .u8 99] 5 (3, 4)) := blk_alloc (blk_alloc (blk_new2 _ _ _) _) _
  have k2 : ((((w2.alloc (.cells #[.int .u64 5] 22)).alloc (.cells #[.int .u8 97, .int .u8 98, .int .u8 99] 5 (3, 4))).alloc (.cells #[.int .u64 5] 22)).alloc (.cells #[.slice (some ⟨w2.heap.size + 1, 0, none⟩) 3 3] 69)).heap[w2.heap.size + 1 + 1]? = some (.cells #[.int .u64 5] 22 (0, 0)) := by
    have := blk_new2 (w2.alloc (.cells #[.int .u64 5] 22)) (.cells #[.int .u8 97, .int .u8 98, .int .u8 99] 5 (3, 4)) (.cells #[.int .u64 5] 22)
    exact blk_alloc (by simpa using this) _
  have k3 : ((((w2.alloc (.cells #[.int .u64 5] 22)).alloc (.cells #[.int .u8 97, .int .u8 98, .int .u8 99] 5 (3, 4))).alloc (.cells #[.int .u64 5] 22)).alloc (.cells #[.slice (some ⟨w2.heap.size + 1, 0, none⟩) 3 3] 69)).heap[w2.heap.size + 1 + 1 + 1]? = some (.cells #[.slice (some ⟨w2.heap.size + 1, 0, none⟩) 3 3] 69 (0, 0)) := by
    have := blk_new2 ((w2.alloc (.cells #[.int .u64 5] 22)).alloc (.cells #[.int .u8 97, .int .u8 98, .int .u8 99] 5 (3, 4))) (.cells #[.int .u64 5] 22) (.cells #[.slice (some ⟨w2.heap.size + 1, 0, none⟩) 3 3] 69)
    simpa using this
  have kb : Below w2.heap.size w2 ((((w2.alloc (.cells #[.int .u64 5] 22)).alloc (.cells #[.int .u8 97, .int .u8 98, .int .u8 99] 5 (3, 4))).alloc (.cells #[.int .u64 5] 22)).alloc (.cells #[.slice (some ⟨w2.heap.size + 1, 0, none⟩) 3 3] 69)) := below_alloc (below_alloc (below_alloc (below_alloc (Below.refl _ _) _) _) _) _
  have ks : ((((w2.alloc (.cells #[.int .u64 5] 22)).alloc (.cells #[.int .u8 97, .int .u8 98, .int .u8 99] 5 (3, 4))).alloc (.cells #[.int .u64 5] 22)).alloc (.cells #[.slice (some ⟨w2.heap.size + 1, 0, none⟩) 3 3] 69)).heap.size = w2.heap.size + 4 := by simp
  generalize ((((w2.alloc (.cells #[.int .u64 5] 22)).alloc (.cells #[.int .u8 97, .int .u8 98, .int .u8 99] 5 (3, 4))).alloc (.cells #[.int .u64 5] 22)).alloc (.cells #[.slice (some ⟨w2.heap.size + 1, 0, none⟩) 3 3] 69)) = w3 at k0 k1 k2 k3 kb ks ⊢
  have hT3 := H2.out.1.below kb
  have hb3 := below_step H2.out.2 kb
  have hc3 : Kd.C (Kd.int .u8) w3 (some ⟨w2.heap.size + 1, 0, none⟩) 3 [97, 98, 99] := C_row (xs := [97, 98, 99]) k1 (reps_map (enc := Value.int .u8) [97, 98, 99]) (by decide)
  refine (callsIn_wide.2 (Collectu64 56 #[.pointer (some ⟨w2.heap.size, 0, none⟩)] (enters_of Tryd.func56 (by kernel_rfl) rfl) [0, 1, 4, 5] w3 (by decide)
    (Subsets1_seq 7 5 [0, 1, 4, 5] w2.heap.size (w3.heap.size + 1) _ _ al2_3
      (fun X hk => by rw [blk_cell ((hk.2 w2.heap.size (by omega) (by omega)).trans (blk_alloc k0 _)) 0]; rfl) (by simp)))).mono ?_
  rintro e w4 ⟨v4, rfl, hr4, hb4⟩
  obtain ⟨g4, c4, rfl, hc4, hC4⟩ := own_at2 hr4 (by decide)
  have hT4 := hT3.below hb4
  have k1 := (hb4.block _ (by omega)).trans k1
  have k2 := (hb4.block _ (by omega)).trans k2
  have k3 := (hb4.block _ (by omega)).trans k3
  have hc3 := Kd.C_below hc3 hb4
  have hbb4 := below_step hb3 hb4
  have hs4 := hb4.size
  have H4 := Aside0.mk (And.intro hT4 (And.intro hbb4 (And.intro hc3 (And.intro hC4 hc4))))
  clear hT3 hT4 hb3 hc3 hr4 hC4 hc4 hb4 hbb4 k0 kb hb2 hcv
  gi_wp2_with (fail)
  have hb5 : Below w4.heap.size w4 (w4.alloc (.cells #[.int .i64 0] 3)) := below_alloc (Below.refl _ _) _
  have j0 : (w4.alloc (.cells #[.int .i64 0] 3)).heap[w4.heap.size]? = some (.cells #[.int .i64 (smP [])] 3 (0, 0)) := blk_new _ _
  have hs5 : (w4.alloc (.cells #[.int .i64 0] 3)).heap.size = w4.heap.size + 1 := by simp
  have k1 := (hb5.block _ (by omega)).trans k1
  have k2 := (hb5.block _ (by omega)).trans k2
  have k3 := (hb5.block _ (by omega)).trans k3
  generalize (w4.alloc (.cells #[.int .i64 0] 3)) = w5 at hb5 j0 hs5 k1 k2 k3 ⊢
  have hT5 := H4.out.1.below hb5
  have hc5 := Kd.C_below H4.out.2.2.1 hb5
  refine rangeK rfl (by omega) (gf := 64) (lb := #[.pointer (some ⟨w2.heap.size + 1 + 1, 0, none⟩), .pointer (some ⟨w2.heap.size + 1 + 1 + 1, 0, none⟩)]) rfl trivial (enters_of Tryd.func64 (by kernel_rfl) rfl)
    (Y := PaY .u8 (pairsL 5 [97, 98, 99])) (n₀ := w5.heap.size) (Kb := fun k => k ≠ w4.heap.size) (S := fun xs => xs = pairsL 5 [97, 98, 99]) (Sp := fun _ => True)
    (Pairs1_sequ8 TNp (fun h => h) (fun h => h) _ 5 [97, 98, 99] (some ⟨w2.heap.size + 1, 0, none⟩) 3 (w2.heap.size + 1 + 1) (w2.heap.size + 1 + 1 + 1) w5.heap.size _ w5 (by unfold U64; decide)
      (fun X hk => by rw [blk_cell ((hk.2 (w2.heap.size + 1 + 1) (by omega) (by omega)).trans k2) 0]; rfl)
      (fun X hk => by rw [blk_cell ((hk.2 (w2.heap.size + 1 + 1 + 1) (by omega) (by omega)).trans k3) 0]; rfl)
      (fun X hk => C_row (xs := [97, 98, 99]) ((hk.2 (w2.heap.size + 1) (by omega) (by omega)).trans k1) (reps_map (enc := Value.int .u8) [97, 98, 99]) (by decide))
      (fun X hk => hT5.tab.same (hk.2 _ hT5.tab.pos (by have := H2.out.1.tab.pos; omega))) (Nat.le_refl _)) (Nat.le_refl _)
    (fun _ _ _ _ hy => by obtain ⟨_, rfl⟩ := hy; rfl)
    (fun pre X => X.heap[w4.heap.size]? = some (.cells #[.int .i64 (smP pre)] 3 (0, 0)) ∧ Below w4.heap.size w4 X) (fun _ _ _ => False)
    (fun _ P Q h hlie => ⟨hlie.blk h.1, hlie.below h.2 (by omega) (Nat.le_refl _)⟩) (fun _ _ _ _ h _ => h) (fun _ _ _ h => h.elim) ⟨j0, hb5⟩ ?round ?done (fun _ _ _ _ _ _ h _ => h.elim)
  case round =>
    rintro l pre ⟨xs, xv⟩ vs X hl2 ⟨hI1, hI2⟩ ⟨hpre, rfl⟩ hXs
    have hms : smP (pre ++ [(xs, xv)]) = smP pre + (xs + xv) ∧ 0 ≤ smP pre ∧ smP pre ≤ 1000 ∧ 0 ≤ xs ∧ xs ≤ 100 ∧ 0 ≤ xv ∧ xv ≤ 100 := by
      rw [al2_4] at hpre
      rcases pre_two hpre with ⟨rfl, e⟩ | ⟨rfl, e⟩ <;> (injection e with e1 e2; subst e1; subst e2; decide)
    obtain ⟨m, hm⟩ : ∃ m, smP pre = m := ⟨_, rfl⟩
    rw [hm] at hms hI1
    obtain ⟨hms, m0, m1, m2, m3, m4, m5⟩ := hms
    have HM := Lib.hid hms
    clear hms hm hpre
    gi_wp2
    refine ⟨Kin.of_below (Below.refl _ _) (Nat.le_refl _), Kp.refl _ _ _, ?_⟩
    intro Wb hlie
    have g4' := hlie.blk hI1
    have gB := hlie.below hI2 (by omega) (Nat.le_refl _)
    have y2 : Wb.cell? ⟨w4.heap.size, 0, none⟩ = some (.int .i64 m) := by rw [blk_cell g4']; rfl
    have f2 := blk_frozen g4' 0
    have hgl := lt_of_some g4'
    have HG := Aside0.mk (And.intro g4' gB)
    clear g4' gB hI1 hI2 hlie
    gi_wp2
    refine ⟨Kin.set (.inl (by show w4.heap.size < _; omega)) _, Kp.set (fun h => absurd rfl h) _, ?_, below_set HG.out.2 (Nat.le_refl _)⟩
    rw [HM.out]
    exact blk_set HG.out.1 0 _
  case done =>
    rintro D xs X hD rfl ⟨hI1, hI2⟩ hKd
    rw [al2_4, show smP [(0, 97), (2, 99)] = 198 from by decide] at hI1
    have hbX : Below w.heap.size w X := below_step H4.out.2.1 hI2
    have hTX := H4.out.1.below hI2
    have hCX := Kd.C_below H4.out.2.2.2.1 hI2
    have n0 : X.cell? ⟨w4.heap.size, 0, none⟩ = some (.int .i64 198) := by rw [blk_cell hI1]; rfl
    have n1 : X.cell? ⟨g4, 2, none⟩ = some (.int .u64 4) := by
      obtain ⟨ad, e1, e2⟩ := at_elem hCX (i := 2) (by decide)
      injection e1 with e1; subst e1
      exact e2
    have HS : Aside0 (∀ w', Below X.heap.size X w' → w'.cell? ⟨w4.heap.size, 0, none⟩ = some (.int .i64 198) ∧ w'.cell? ⟨g4, 2, none⟩ = some (.int .u64 4)) :=
      ⟨fun w' hb => by
        have hcl : ∀ {b o v}, X.cell? ⟨b, o, none⟩ = some v → w'.cell? ⟨b, o, none⟩ = some v := fun h => (hb.cell (World.block_lt_of_cell? X _ h)).trans h
        exact ⟨hcl n0, hcl n1⟩⟩
    have HI := Aside0.mk (And.intro hbX (And.intro hTX hKd))
    clear hbX hTX hCX n0 n1 hI1 hI2 hKd
    have B0 : Aside0 (Below X.heap.size X X) := ⟨Below.refl _ _⟩
    gi_wp2_with (first
      | (gi_at_call 27; have _t := B0; (with_reducible refine (callsIn_wide.2 (Of_eq 20 [0, 2, 64, -1] _ 4 4 5 _ rfl (C_row (xs := [0, 2, 64, -1]) (blk_new _ _) (reps_map (enc := Value.int .i64) [0, 2, 64, -1]) (by decide)) (Nat.le_refl _) al2_6)).mono ?_); rintro e w6 ⟨rfl, hb⟩; have B1 : Aside0 (Below X.heap.size X w6) := Aside0.mk (below_step (below_alloc (Below.refl _ _) _) hb); obtain ⟨n0_0, n1_0⟩ := HS.out _ B1.out; clear hb _t B0)
      | (gi_at_call 29; have _t := B1; (with_reducible refine (callsIn_wide.2 (Text_eqL 5 [123, 48, 44, 50, 125] _ (by unfold U64; decide) (HI.out.2.1.below B1.out).tab al2_5)).mono ?_); rintro e w7 ⟨rfl, hb⟩; have B2 : Aside0 (Below X.heap.size X w7) := Aside0.mk (below_step B1.out hb); obtain ⟨n0_1, n1_1⟩ := HS.out _ B2.out; clear hb _t B1)
      | (gi_at_call 12; have _t := B2; (with_reducible refine (callsIn_wide.2 (Has_eq 5 2 true _ al2_7)).mono ?_); rintro e w8 ⟨rfl, hb⟩; have B3 : Aside0 (Below X.heap.size X w8) := Aside0.mk (below_step B2.out hb); obtain ⟨n0_2, n1_2⟩ := HS.out _ B3.out; clear hb _t B2)
      | (gi_at_call 12; have _t := B3; (with_reducible refine (callsIn_wide.2 (Has_eq 5 1 false _ al2_8)).mono ?_); rintro e w9 ⟨rfl, hb⟩; have B4 : Aside0 (Below X.heap.size X w9) := Aside0.mk (below_step B3.out hb); obtain ⟨n0_3, n1_3⟩ := HS.out _ B4.out; clear hb _t B3)
      | (gi_at_call 14; have _t := B4; (with_reducible refine (callsIn_wide.2 (Count_eq 5 2 _ (by unfold U64; decide) al2_9)).mono ?_); rintro e w10 ⟨rfl, hb⟩; have B5 : Aside0 (Below X.heap.size X w10) := Aside0.mk (below_step B4.out hb); obtain ⟨n0_4, n1_4⟩ := HS.out _ B5.out; clear hb _t B4)
      | (gi_at_call 22; have _t := B5; (with_reducible refine (callsIn_wide.2 (Full_eq 2 3 _ al2_10)).mono ?_); rintro e w11 ⟨rfl, hb⟩; have B6 : Aside0 (Below X.heap.size X w11) := Aside0.mk (below_step B5.out hb); obtain ⟨n0_5, n1_5⟩ := HS.out _ B6.out; clear hb _t B5)
      | (gi_at_call 16; have _t := B6; (with_reducible refine (callsIn_wide.2 (Within_eq 1 5 true _ al2_11)).mono ?_); rintro e w12 ⟨rfl, hb⟩; have B7 : Aside0 (Below X.heap.size X w12) := Aside0.mk (below_step B6.out hb); obtain ⟨n0_6, n1_6⟩ := HS.out _ B7.out; clear hb _t B6)
      | (gi_at_call 18; have _t := B7; (with_reducible refine (callsIn_wide.2 (Apart_eq 2 5 true _ al2_12)).mono ?_); rintro e w13 ⟨rfl, hb⟩; have B8 : Aside0 (Below X.heap.size X w13) := Aside0.mk (below_step B7.out hb); obtain ⟨n0_7, n1_7⟩ := HS.out _ B8.out; clear hb _t B7)
      | (gi_at_call 20; have _t := B8; (with_reducible refine (callsIn_wide.2 (Cmp_eq 4 3 (-1) _ (by unfold U64; decide) (by unfold U64; decide) al2_13)).mono ?_); rintro e w14 ⟨rfl, hb⟩; have B9 : Aside0 (Below X.heap.size X w14) := Aside0.mk (below_step B8.out hb); obtain ⟨n0_8, n1_8⟩ := HS.out _ B9.out; clear hb _t B8)
      | (gi_at_call 24; have _t := B9; (with_reducible refine (callsIn_wide.2 (List_eq 5 2 _ (by unfold U64; decide) (HI.out.2.1.below B9.out).tab al2_14)).mono ?_); rintro e w15 ⟨A10, c10, rfl, hc10, hC10, hb⟩; have B10 : Aside0 (Below X.heap.size X w15) := Aside0.mk (below_step B9.out hb); obtain ⟨n0_9, n1_9⟩ := HS.out _ B10.out; clear hb _t B9))
    have hK' := blk_belowX HI.out.2.2 B10.out
    have hw := HI.out.1.size
    have hx := H4.out.2.1.size
    have hl1 : Lies w.heap.size w15 (w15.putObj D (.deferred none)) := .put (by omega) hK' rfl _
    refine ⟨by simp, .inl ⟨_, _, rfl, run_takeDeferred hK', ?_⟩⟩
    exact ⟨_, results_tmp rfl _ _ _, rfl, hl1.below (below_step HI.out.1 B10.out) (Nat.le_refl _) (Nat.le_refl _)⟩
end Go.Proofs.YtmcapemlfplcgaaDoor.H
/- What a function with rounds comes to, given enough of them. No program. -/
namespace Go.Proofs.YtmcapemlfplcgaaDoor.Ult
set_option linter.unusedVariables false
variable {α β : Type}
def Ult (g : Nat → Option α) (r : α) : Prop := ∃ k0, ∀ k, k0 ≤ k → g k = some r
theorem Ult.get {g : Nat → Option α} {r : α} (h : Ult g r) : ∃ k, g k = some r := by obtain ⟨k, h⟩ := h; exact ⟨k, h k (Nat.le_refl _)⟩
theorem Ult.pure (r : α) : Ult (fun _ => some r) r := ⟨0, fun _ _ => rfl⟩
theorem Ult.const {o : Option α} {r : α} (h : o = some r) : Ult (fun _ => o) r := ⟨0, fun _ _ => h⟩
theorem Ult.succ {g : Nat → Option α} {r : α} (h : Ult (fun k => g (k + 1)) r) : Ult g r := by
  obtain ⟨k0, h⟩ := h
  refine ⟨k0 + 1, fun k hk => ?_⟩
  have h1 : g (k - 1 + 1) = some r := h (k - 1) (by omega)
  rwa [show k - 1 + 1 = k by omega] at h1
theorem Ult.bind {g : Nat → Option β} {h : Nat → β → Option α} {x : β} {r : α} (hg : Ult g x) (hh : Ult (fun k => h k x) r) : Ult (fun k => (g k).bind (h k)) r := by
  obtain ⟨k0, hg⟩ := hg
  obtain ⟨k1, hh⟩ := hh
  refine ⟨max k0 k1, fun k hk => ?_⟩
  show (g k).bind (h k) = some r
  rw [hg k (by omega)]
  exact hh k (by omega)
/-- What is told at once. -/
theorem Ult.bind0 {o : Option β} {h : Nat → β → Option α} {x : β} {r : α} (ho : o = some x) (hh : Ult (fun k => h k x) r) : Ult (fun k => o.bind (h k)) r := Ult.bind (.const ho) hh
theorem Ult.pos {c : Prop} [Decidable c] {a b : Nat → Option α} {r : α} (hc : c) (h : Ult a r) : Ult (fun k => if c then a k else b k) r := by
  simp only [if_pos hc]; exact h
theorem Ult.neg {c : Prop} [Decidable c] {a b : Nat → Option α} {r : α} (hc : ¬ c) (h : Ult b r) : Ult (fun k => if c then a k else b k) r := by
  simp only [if_neg hc]; exact h
theorem Ult.ite {c : Prop} [Decidable c] {a b : Nat → Option α} {r : α} (h1 : c → Ult a r) (h2 : ¬ c → Ult b r) : Ult (fun k => if c then a k else b k) r := by
  by_cases hc : c
  · exact .pos hc (h1 hc)
  · exact .neg hc (h2 hc)
/-- Told once, and told the same with more rounds. -/
theorem Ult.of_mono {g : Nat → Option α} {r : α} (hm : ∀ k r, g k = some r → g (k + 1) = some r) {k0 : Nat} (h : g k0 = some r) : Ult g r := by
  refine ⟨k0, fun k hk => ?_⟩
  obtain ⟨d, rfl⟩ : ∃ d, k = k0 + d := ⟨k - k0, by omega⟩
  clear hk
  induction d with
  | zero => exact h
  | succ d ih => exact hm _ _ ih
theorem Ult.eq {g : Nat → Option α} {r r' : α} (h : Ult g r) (e : r = r') : Ult g r' := e ▸ h
end Go.Proofs.YtmcapemlfplcgaaDoor.Ult
/- The document's answers about sets, as the print has them: what they come to (Has, Within). -/
namespace Go.Proofs.YtmcapemlfplcgaaDoor.R02
open Go.RowKit Go.Proofs.YtmcapemlfplcgaaDoor.Ult Go.Proofs.YtmcapemlfplcgaaDoor.AtM Go.Proofs.YtmcapemlfplcgaaDoor.PAll2
set_option linter.unusedVariables false
set_option linter.unusedSimpArgs false
theorem w64 {n : Int} (h0 : -9223372036854775808 ≤ n) (h1 : n ≤ 9223372036854775807) : wrap64 n = n := by
  unfold wrap64; omega
theorem tdiv2 {x : Int} (h : U64 x) : IntKind.u64.wrap (Int.tdiv x 2) = x / 2 ∧ U64 (x / 2) := by
  unfold U64 at *
  rw [Int.tdiv_eq_ediv_of_nonneg h.1]
  refine ⟨?_, by omega⟩
  simp [IntKind.wrap, IntKind.bits, IntKind.signed]; omega
theorem has_l0 (n : Int) : ∀ (d : Nat) (x i : Int), U64 x → i + d = n → 0 ≤ i → n ≤ 64 → Ult (fun k => saleroomref02_Has.l0 k x n i) (x.toNat.testBit d) := by
  intro d
  induction d with
  | zero =>
    intro x i hx hi h0 hn
    refine Ult.succ ?_
    simp only [saleroomref02_Has.l0]
    refine Ult.neg (by omega) (Ult.const ?_)
    congr 1
    rw [Int.tmod_eq_emod_of_nonneg hx.1, Nat.testBit_zero]
    apply Bool.eq_iff_iff.2
    simp only [beq_iff_eq, decide_eq_true_iff]
    have := hx.1
    omega
  | succ d ih =>
    intro x i hx hi h0 hn
    refine Ult.succ ?_
    simp only [saleroomref02_Has.l0]
    refine Ult.pos (by omega) ?_
    obtain ⟨h1, h2⟩ := tdiv2 hx
    rw [h1, w64 (by omega) (by omega)]
    refine (ih (x / 2) (i + 1) h2 (by omega) (by omega) hn).eq ?_
    rw [Nat.testBit_succ, show x.toNat / 2 = (x / 2).toNat from by have := hx.1; omega]
theorem has_ev (x n : Int) (hx : U64 x) : Ult (fun k => saleroomref02_Has.f k x n) (decide (0 ≤ n ∧ n ≤ 63) && x.toNat.testBit n.toNat) := by
  unfold saleroomref02_Has.f
  refine Ult.ite (fun h => ?_) (fun h => ?_)
  · refine Ult.succ ?_
    simp only [saleroomref02_Has.j0, if_true]
    refine Ult.const ?_
    rw [decide_eq_false (by omega)]; rfl
  · refine Ult.succ ?_
    simp only [saleroomref02_Has.j0]
    refine Ult.ite (fun h2 => Ult.const ?_) (fun h2 => ?_)
    · have := of_decide_eq_true h2
      rw [decide_eq_false (by omega)]; rfl
    · have h3 : ¬ n > 63 := fun h3 => h2 (decide_eq_true h3)
      rw [decide_eq_true (show 0 ≤ n ∧ n ≤ 63 by omega), Bool.true_and]
      exact has_l0 n n.toNat x 0 hx (by omega) (Int.le_refl _) (by omega)
/-- Of an item. -/
theorem has_item (x : Int) (i : Nat) (hx : U64 x) (hi : i < 64) : Ult (fun k => saleroomref02_Has.f k x (i : Int)) (x.toNat.testBit i) :=
  (has_ev x i hx).eq (by rw [decide_eq_true (by omega), Bool.true_and, Int.toNat_natCast])
/-- From an item on. -/
theorem within_l0 (x y : Int) (hx : U64 x) (hy : U64 y) : ∀ (d i : Nat), i + d = 64 → (∀ j, j < i → x.toNat.testBit j = true → y.toNat.testBit j = true) → Ult (fun k => saleroomref02_Within.l0 k x y (i : Int)) (wthB x y) := by
  intro d
  induction d with
  | zero =>
    intro i hi hall
    refine Ult.succ ?_
    simp only [saleroomref02_Within.l0]
    refine Ult.neg (by omega) (Ult.const ?_)
    congr 1
    symm
    rw [wth_iff]
    intro j hj
    exact hall j (by have := testBit_big (nat_lt hx) hj; omega) hj
  | succ d ih =>
    intro i hi hall
    refine Ult.succ ?_
    simp only [saleroomref02_Within.l0]
    refine Ult.pos (by omega) ?_
    refine Ult.bind (has_item x i hx (by omega)) ?_
    rw [show wrap64 ((i : Int) + 1) = ((i + 1 : Nat) : Int) by rw [w64 (by omega) (by omega)]; rfl]
    refine Ult.ite (fun h => Ult.bind (has_item y i hy (by omega)) (Ult.ite (fun h2 => ih (i + 1) (by omega) (fun j hj hjx => ?_)) (fun h2 => Ult.const ?_))) (fun h => ih (i + 1) (by omega) (fun j hj hjx => ?_))
    · by_cases e : j = i
      · rw [e]; exact h2
      · exact hall j (by omega) hjx
    · congr 1
      symm
      cases hw : wthB x y with
      | false => rfl
      | true => exact absurd ((wth_iff x y).1 hw i h) h2
    · by_cases e : j = i
      · rw [e] at hjx; exact absurd hjx h
      · exact hall j (by omega) hjx
theorem within_ev (x y : Int) (hx : U64 x) (hy : U64 y) : Ult (fun k => saleroomref02_Within.f k x y) (wthB x y) :=
  within_l0 x y hx hy 64 0 rfl (fun j hj => by omega)
end Go.Proofs.YtmcapemlfplcgaaDoor.R02
/- The document's answers about sets, as the print has them: what they come to. -/
namespace Go.Proofs.YtmcapemlfplcgaaDoor.R02
open Go.RowKit Go.Proofs.YtmcapemlfplcgaaDoor.Ult Go.Proofs.YtmcapemlfplcgaaDoor.AtM Go.Proofs.YtmcapemlfplcgaaDoor.PAll2
set_option linter.unusedVariables false
set_option linter.unusedSimpArgs false
theorem list_l0 (x : Int) (hx : U64 x) : ∀ (d i : Nat) (out : List Int), i + d = 64 → out = ((List.range i).filter fun i => x.toNat.testBit i).map (fun (i : Nat) => (i : Int)) → Ult (fun k => saleroomref02_List.l0 k x out (i : Int)) (listS x) := by
  intro d
  induction d with
  | zero =>
    intro i out hi ho
    refine Ult.succ ?_
    simp only [saleroomref02_List.l0]
    refine Ult.neg (by omega) (Ult.const ?_)
    rw [ho, show i = 64 by omega]; rfl
  | succ d ih =>
    intro i out hi ho
    refine Ult.succ ?_
    simp only [saleroomref02_List.l0]
    refine Ult.pos (by omega) ?_
    refine Ult.bind (has_item x i hx (by omega)) ?_
    rw [show wrap64 ((i : Int) + 1) = ((i + 1 : Nat) : Int) by rw [w64 (by omega) (by omega)]; rfl]
    have hlen : out.length ≤ 64 := by
      rw [ho, List.length_map]
      have := List.length_filter_le (fun i => x.toNat.testBit i) (List.range i)
      rw [List.length_range] at this
      omega
    refine Ult.ite (fun h => Ult.pos (by omega) (ih (i + 1) _ (by omega) ?_)) (fun h => ih (i + 1) _ (by omega) ?_)
    · rw [List.range_succ, List.filter_append, List.map_append, ← ho]
      simp [h]
    · rw [List.range_succ, List.filter_append, List.map_append, ← ho]
      simp [h]
theorem list_ev (x : Int) (hx : U64 x) : Ult (fun k => saleroomref02_List.f k x) (listS x) := list_l0 x hx 64 0 [] rfl rfl
theorem cmp_ev (x y : Int) (hx : U64 x) (hy : U64 y) : Ult (fun k => saleroomref02_Cmp.f k x y) (cmpS x y) := by
  unfold saleroomref02_Cmp.f
  refine Ult.bind (list_ev x hx) (Ult.bind (list_ev y hy) ?_)
  rw [listS_len, listS_len]
  have hj : ∀ b : Bool, b = decide (pcS x < pcS y ∨ (pcS x = pcS y ∧ x < y)) → Ult (fun k => saleroomref02_Cmp.j0 k x y (pcS x : Int) (pcS y : Int) b) (cmpS x y) := by
    intro b hb
    refine Ult.succ ?_
    simp only [saleroomref02_Cmp.j0]
    unfold cmpS
    refine Ult.ite (fun h => Ult.const ?_) (fun h => ?_)
    · rw [h] at hb
      have hb := of_decide_eq_true hb.symm
      congr 1
      repeat' split
      all_goals omega
    · have hb : ¬ (pcS x < pcS y ∨ (pcS x = pcS y ∧ x < y)) := fun h2 => h (by rw [hb]; exact decide_eq_true h2)
      refine Ult.ite (fun h2 => Ult.const ?_) (fun h2 => Ult.ite (fun h3 => Ult.const ?_) (fun h3 => Ult.const ?_))
      all_goals
        congr 1
        repeat' split
        all_goals omega
  refine Ult.ite (fun h => hj true ?_) (fun h => Ult.ite (fun h2 => hj _ ?_) (fun h2 => hj false ?_))
  · symm; apply decide_eq_true; omega
  · congr 1; apply propext; omega
  · symm; apply decide_eq_false; omega
end Go.Proofs.YtmcapemlfplcgaaDoor.R02
/- Folder 02, plain: what the set's own functions and the document's come to. -/
namespace Go.Proofs.YtmcapemlfplcgaaDoor.R02
open Go.RowKit Go.Proofs.YtmcapemlfplcgaaDoor.Ult Go.Proofs.YtmcapemlfplcgaaDoor.AtM Go.Proofs.YtmcapemlfplcgaaDoor.PAll2 Go.Proofs.YtmcapemlfplcgaaDoorW.PrintWords Go.Proofs.YtmcapemlfplcgaaDoorW.PrintLast Go.Proofs.YtmcapemlfplcgaaDoorW.PrintMore
set_option linter.unusedVariables false
set_option linter.unusedSimpArgs false
set_option maxRecDepth 100000
def oneN (i : Nat) : Int := ((2 ^ i : Nat) : Int)
theorem pow63 {i : Nat} (h : i ≤ 63) : 2 ^ i ≤ 9223372036854775808 := by
  have := Nat.pow_le_pow_right (n := 2) (by decide) h
  rwa [show (2 : Nat) ^ 63 = 9223372036854775808 from rfl] at this
theorem oneN_u {i : Nat} (h : i ≤ 63) : U64 (oneN i) := by
  unfold oneN U64
  have := pow63 h
  generalize 2 ^ i = p at this ⊢
  omega
theorem one_l0 (n : Nat) (hn : n ≤ 63) : ∀ (d i : Nat), i + d = n → Ult (fun k => saleroomref02_One.l0 k (n : Int) (oneN i) (i : Int)) (oneN n) := by
  intro d
  induction d with
  | zero =>
    intro i hi
    refine Ult.succ ?_
    simp only [saleroomref02_One.l0]
    refine Ult.neg (by omega) (Ult.const ?_)
    rw [show i = n by omega]
  | succ d ih =>
    intro i hi
    refine Ult.succ ?_
    simp only [saleroomref02_One.l0]
    refine Ult.pos (by omega) ?_
    have e : IntKind.u64.wrap (oneN i * 2) = oneN (i + 1) := by
      have hp : (2 : Nat) ^ i ≤ 2 ^ 62 := Nat.pow_le_pow_right (by decide) (by omega)
      have h62 : (2 : Nat) ^ 62 = 4611686018427387904 := by decide
      unfold oneN
      rw [Nat.pow_succ, IntKind.wrap_u64]
      omega
    rw [e, show wrap64 ((i : Int) + 1) = ((i + 1 : Nat) : Int) by rw [w64 (by omega) (by omega)]; rfl]
    exact ih (i + 1) (by omega)
theorem one_ev (n : Nat) (hn : n ≤ 63) : Ult (fun k => saleroomref02_One.f k (n : Int)) (oneN n) := one_l0 n hn n 0 (by omega)
/-- To add an item is to join it in. -/
theorem or_add {s i : Nat} (hsl : s < 2 ^ 64) (hi : i < 64) (h : s.testBit i = false) : s + 2 ^ i = s ||| 2 ^ i := by
  have hp : (2 : Nat) ^ i ≤ 2 ^ 63 := Nat.pow_le_pow_right (by decide) (by omega)
  have h63 : (2 : Nat) ^ 63 = 9223372036854775808 := by decide
  have h64 : (2 : Nat) ^ 64 = 18446744073709551616 := by decide
  have hand : BitVec.ofNat 64 s &&& BitVec.ofNat 64 (2 ^ i) = 0#64 := by
    apply BitVec.eq_of_toNat_eq
    rw [BitVec.toNat_and, BitVec.toNat_ofNat, BitVec.toNat_ofNat, Nat.mod_eq_of_lt hsl, Nat.mod_eq_of_lt (by omega)]
    apply Nat.eq_of_testBit_eq
    intro j
    rw [Nat.testBit_and, Nat.testBit_two_pow]
    by_cases hj : i = j
    · subst hj; rw [h]; simp
    · simp [hj]
  have hadd := BitVec.add_eq_or_of_and_eq_zero _ _ hand
  have hn := congrArg BitVec.toNat hadd
  rw [BitVec.toNat_add, BitVec.toNat_or, BitVec.toNat_ofNat, BitVec.toNat_ofNat, Nat.mod_eq_of_lt hsl, Nat.mod_eq_of_lt (show 2 ^ i < 2 ^ 64 by omega)] at hn
  have hge : s ≤ s ||| 2 ^ i := Nat.left_le_or
  by_cases hlt : s + 2 ^ i < 2 ^ 64
  · rw [Nat.mod_eq_of_lt hlt] at hn; exact hn
  · exfalso
    have : (s + 2 ^ i) % 2 ^ 64 = s + 2 ^ i - 2 ^ 64 := by
      rw [Nat.mod_eq_sub_mod (by omega), Nat.mod_eq_of_lt (by omega)]
    omega
theorem or_has {s i : Nat} (h : s.testBit i = true) : s ||| 2 ^ i = s := by
  apply Nat.eq_of_testBit_eq
  intro j
  rw [Nat.testBit_or, Nat.testBit_two_pow]
  by_cases hj : i = j
  · subst hj; rw [h]; simp
  · simp [hj]
theorem or_lt {s i : Nat} (hsl : s < 2 ^ 64) (hi : i < 64) : s ||| 2 ^ i < 2 ^ 64 := Nat.or_lt_two_pow hsl (Nat.pow_lt_pow_right (by decide) hi)
/-- One item more. -/
def ofStep (o : Nat) (n : Int) : Nat := if 0 ≤ n ∧ n ≤ 63 then o ||| 2 ^ n.toNat else o
theorem ofStep_lt {o : Nat} (n : Int) (h : o < 2 ^ 64) : ofStep o n < 2 ^ 64 := by
  unfold ofStep; split
  · exact or_lt h (by omega)
  · exact h
/-- The set of items. -/
def ofN (o : Nat) (l : List Int) : Nat := l.foldl ofStep o
theorem ofN_lt (l : List Int) : ∀ o, o < 2 ^ 64 → ofN o l < 2 ^ 64 := by
  induction l with
  | nil => intro o h; exact h
  | cons x xs ih => intro o h; exact ih _ (ofStep_lt x h)
theorem item_f (n : Int) : set_item.f n = some (decide (0 ≤ n ∧ n ≤ 63)) := by
  unfold set_item.f
  by_cases h : n ≥ 0
  · rw [if_pos h]; congr 1; apply Bool.eq_iff_iff.2; simp; omega
  · rw [if_neg h]; congr 1; symm; apply decide_eq_false; omega
theorem shl_one {n : Int} (h : 0 ≤ n ∧ n ≤ 63) : shl .u64 1 n = ((2 ^ n.toNat : Nat) : Int) := by
  unfold shl
  have hp := pow63 (i := n.toNat) (by omega)
  rw [show min n.toNat IntKind.u64.bits = n.toNat by simp [IntKind.bits]; omega, Int.one_mul, IntKind.wrap_u64, show ((2 : Int) ^ n.toNat) = ((2 ^ n.toNat : Nat) : Int) by norm_cast]
  generalize 2 ^ n.toNat = p at hp ⊢
  omega
theorem of_l0 (l : List Int) (hl : l.length ≤ 600000) : ∀ (d i : Nat) (o : Nat), i + d = l.length → o < 2 ^ 64 → Ult (fun k => set_Of.l0 k (o : Int) l (l.length : Int) (i : Int)) ((ofN o (l.drop i) : Nat) : Int) := by
  intro d
  induction d with
  | zero =>
    intro i o hi ho
    refine Ult.succ ?_
    simp only [set_Of.l0]
    refine Ult.neg (by omega) (Ult.const ?_)
    rw [List.drop_of_length_le (by omega)]; rfl
  | succ d ih =>
    intro i o hi ho
    have hil : i < l.length := by omega
    refine Ult.succ ?_
    simp only [set_Of.l0]
    refine Ult.pos (by omega) (Ult.pos (by omega) (Ult.pos (by omega) ?_))
    have hrd : rd l (i : Int) = l[i] := by unfold rd; simp [List.getD_eq_getElem?_getD, List.getElem?_eq_getElem hil]
    rw [hrd, List.drop_eq_getElem_cons hil]
    generalize l[i] = n
    rw [show wrap64 ((i : Int) + 1) = ((i + 1 : Nat) : Int) by rw [w64 (by omega) (by omega)]; rfl]
    refine Ult.bind0 (item_f n) ?_
    have hst := ofStep_lt n ho
    have e : ofN o (n :: l.drop (i + 1)) = ofN (ofStep o n) (l.drop (i + 1)) := rfl
    rw [e]
    refine Ult.ite (fun h => ?_) (fun h => ?_)
    · have h := of_decide_eq_true h
      refine Ult.pos h.1 ?_
      have e2 : bits .or .u64 (o : Int) (shl .u64 1 n) = ((ofStep o n : Nat) : Int) := by
        have hp := pow63 (i := n.toNat) (by omega)
        rw [shl_one h, u64_or_nat _ _ ho (by omega)]
        unfold ofStep; rw [if_pos h]
      rw [e2]
      exact ih (i + 1) _ (by omega) hst
    · have h : ¬ (0 ≤ n ∧ n ≤ 63) := fun h2 => h (decide_eq_true h2)
      have e2 : ofStep o n = o := by unfold ofStep; rw [if_neg h]
      rw [e2]
      exact ih (i + 1) _ (by omega) ho
theorem of_ev (l : List Int) (hl : l.length ≤ 600000) : Ult (fun k => set_Of.f k l) ((ofN 0 l : Nat) : Int) := of_l0 l hl l.length 0 0 (by omega) (by decide)
theorem rof_l0 (l : List Int) (hl : l.length ≤ 600000) : ∀ (d i : Nat) (o : Nat), i + d = l.length → o < 2 ^ 64 → Ult (fun k => saleroomref02_Of.l0 k l (o : Int) (i : Int)) ((ofN o (l.drop i) : Nat) : Int) := by
  intro d
  induction d with
  | zero =>
    intro i o hi ho
    refine Ult.succ ?_
    simp only [saleroomref02_Of.l0]
    refine Ult.neg (by omega) (Ult.const ?_)
    rw [List.drop_of_length_le (by omega)]; rfl
  | succ d ih =>
    intro i o hi ho
    have hil : i < l.length := by omega
    refine Ult.succ ?_
    simp only [saleroomref02_Of.l0]
    refine Ult.pos (by omega) (Ult.pos (by omega) ?_)
    have hrd : rd l (i : Int) = l[i] := by unfold rd; simp [List.getD_eq_getElem?_getD, List.getElem?_eq_getElem hil]
    rw [hrd, List.drop_eq_getElem_cons hil]
    generalize l[i] = n
    rw [show wrap64 ((i : Int) + 1) = ((i + 1 : Nat) : Int) by rw [w64 (by omega) (by omega)]; rfl]
    have hst := ofStep_lt n ho
    have e : ofN o (n :: l.drop (i + 1)) = ofN (ofStep o n) (l.drop (i + 1)) := rfl
    rw [e]
    have hno : ¬ (0 ≤ n ∧ n ≤ 63) → Ult (fun k => saleroomref02_Of.l0 k l (o : Int) ((i + 1 : Nat) : Int)) ((ofN (ofStep o n) (l.drop (i + 1)) : Nat) : Int) := fun h => by
      have e2 : ofStep o n = o := by unfold ofStep; rw [if_neg h]
      rw [e2]
      exact ih (i + 1) _ (by omega) ho
    refine Ult.ite (fun h1 => ?_) (fun h1 => hno (by omega))
    refine Ult.ite (fun h2 => ?_) (fun h2 => hno (by omega))
    obtain ⟨m, rfl⟩ : ∃ m : Nat, n = m := ⟨n.toNat, by omega⟩
    have hm : m < 64 := by omega
    have hou : U64 (o : Int) := by unfold U64; have h64 : (2 : Nat) ^ 64 = 18446744073709551616 := by decide
                                   omega
    have hsv : ofStep o (m : Int) = o ||| 2 ^ m := by unfold ofStep; rw [if_pos (by omega), Int.toNat_natCast]
    refine Ult.bind (has_item (o : Int) m hou hm) ?_
    rw [Int.toNat_natCast]
    refine Ult.ite (fun h => ?_) (fun h => ?_)
    · rw [hsv, or_has h]
      exact ih (i + 1) _ (by omega) ho
    · have h : o.testBit m = false := by simpa using h
      refine Ult.bind (one_ev m (by omega)) ?_
      have h3 := or_add ho hm h
      have h4 := or_lt ho hm
      have e2 : IntKind.u64.wrap ((o : Int) + oneN m) = ((ofStep o (m : Int) : Nat) : Int) := by
        unfold oneN
        rw [hsv, IntKind.wrap_u64, ← h3]
        rw [← h3] at h4
        have h64 : (2 : Nat) ^ 64 = 18446744073709551616 := by decide
        omega
      rw [e2]
      exact ih (i + 1) _ (by omega) hst
theorem rof_ev (l : List Int) (hl : l.length ≤ 600000) : Ult (fun k => saleroomref02_Of.f k l) ((ofN 0 l : Nat) : Int) := rof_l0 l hl l.length 0 0 (by omega) (by decide)
end Go.Proofs.YtmcapemlfplcgaaDoor.R02
