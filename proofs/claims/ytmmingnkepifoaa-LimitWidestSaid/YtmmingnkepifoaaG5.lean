/- Some texts of one seat in one file, in build order. -/
import Derived.Test.YtmmingnkepifoaaG3
import Derived.Test.YtmmingnkepifoaaG4
/- package limit: the reserved items, what is kept; set.Has. -/
namespace Go.Proofs.Ytmmingnkepifoaa.H
open Go.RowKit Go.Proofs.YtmmingnkepifoaaW.PrintWords Go.Proofs.YtmmingnkepifoaaW.PrintLast Go.Proofs.YtmmingnkepifoaaW.PrintMore Go.Proofs.Ytmmingnkepifoaa.AtM Go.Proofs.Ytmmingnkepifoaa.LmM
set_option linter.unusedVariables false
set_option linter.unusedSimpArgs false
set_option maxRecDepth 100000
attribute [local go_sem] Oper.semAt_some wide_fn wide_depth max2_int min2_int
theorem reserved_calls (A : Option Addr) (n c : Nat) (w : World) : Calls Try.prog 29 #[.slice A n c] w fun e w' =>
    e = .returned (.func (.func 38) #[] #[.pointer (some ⟨w.heap.size, 0, none⟩)]) ∧ w' = w.alloc (.cells #[.slice A n c] 22) := by
  go_enter Try.func29, Try.ntmps29
  go_wp2
  go_ret
  exact ⟨rfl, rfl⟩
/-- What the func tells a round. -/
def ResY (xs : List (Int × Int)) (pre : List (Int × Int)) (x : Int × Int) (vs : Array Value) (W : World) : Prop := pre ++ [x] <+: xs ∧ vs = #[.int .i64 x.1, .int .i64 x.2]
theorem info_i64 : (Try.prog.info? 2).map (fun i => (i.zero, i.size, i.bytes)) = some (some (.int .i64 0), 1, 8) := by kernel_rfl
theorem at_i64 {w : World} {A : Option Addr} {n : Nat} {xs : List Int} (h : Kd.C (Kd.int .i64) w A n xs) {i : Nat} (hi : i < n) {v : Int} (ho : xs[i]? = some v) : ∃ ad, A = some ad ∧ w.cell? (ad.add i) = some (.int .i64 v) := by
  obtain ⟨ad, c, e, _, hK, hc0⟩ := Kd.C_get h (0 : Int) (i : Int) (by omega) (by omega)
  rw [Int.toNat_natCast] at hK hc0
  have eg : xs.getD i (0 : Int) = v := by rw [List.getD_eq_getElem?_getD, ho]; rfl
  rw [eg] at hK
  have hK2 : c = [.int .i64 v] := hK
  subst hK2
  have := hc0 0 _ rfl
  exact ⟨ad, e, by simpa [Kd.int, Kd.scalar] using this⟩
set_option maxHeartbeats 1600000 in
theorem reserved1_seq (n : Nat) (rs : List Int) (A : Option Addr) (c bb n₀ : Nat) (Kb : Nat → Prop) (w : World) (hc : rs.length ≤ c)
    (hbox : ∀ W, Kp n₀ Kb w W → W.cell? ⟨bb, 0, none⟩ = some (.slice A rs.length c)) (hC : ∀ W, Kp n₀ Kb w W → Kd.C (Kd.int .i64) W A rs.length rs) (hn : n₀ ≤ w.heap.size) :
    SeqX Fence.wide n Try.prog 38 #[.pointer (some ⟨bb, 0, none⟩)] (ResY (resL rs)) n₀ Kb (fun ys => ys = resL rs) (fun _ => True) w := by
  intro l J Jx W hK hJ hJx hY h0
  have hm : rs.length ≤ 9223372036854775807 := (hC W hK).2.1
  have hcell := hbox W hK
  obtain ⟨k, hk⟩ : ∃ k : Nat, k = min rs.length 64 := ⟨_, rfl⟩
  have hkl : k ≤ rs.length ∧ k ≤ 64 ∧ (rs.take 64).length = k := by rw [List.length_take]; omega
  have hmin : min (rs.length : Int) 64 = (k : Int) := by omega
  have hmin2 : min (64 : Int) (rs.length : Int) = (k : Int) := by omega
  have HL := Aside0.mk (And.intro hkl (And.intro hC hY))
  refine callsIn_of_wp Try.func38 rfl trivial ?_ rfl
  simp only [Try.ntmps38, List.size_toArray, List.length_cons, List.length_nil, Nat.reduceAdd, Nat.reduceSub, Array.replicate_succ, Array.replicate_zero, List.push_toArray, List.append_toArray, List.nil_append, List.cons_append]
  clear hkl hC hY hmin hmin2
  gi_wp2
  all_goals
    gi_loopw [11] (fun p wr => ∃ j : Nat, p = .int .i64 (j : Int) ∧ j ≤ k ∧ J (resFrom 0 ((rs.take 64).take j)) wr ∧ Kp n₀ Kb w wr) (fun p _ => k - (intOf p).toNat)
    case atStart => exact ⟨0, rfl, Nat.zero_le _, by simpa [resFrom] using h0, hK⟩
    case round =>
      obtain ⟨j, rfl, hj, h4, h5⟩ := hrel
      by_cases hlt : j < k
      · obtain ⟨v, ho⟩ : ∃ o, rs[j]? = some o := ⟨_, List.getElem?_eq_getElem (by omega)⟩
        obtain ⟨ad, e0, hx0⟩ := at_i64 (HL.out.2.1 wr h5) (show j < rs.length by omega) ho
        subst e0
        have q1 : (j : Int) < (rs.length : Int) := by omega
        have q2 : (j : Int) < 64 := by omega
        have hjt : (rs.take 64).take j = rs.take j := by rw [List.take_take]; congr 1; omega
        have hjt2 : (rs.take 64).take (j + 1) = rs.take j ++ [v] := by
          rw [List.take_take, show min (j + 1) 64 = j + 1 by omega, List.take_add_one, ho]; rfl
        have hft : resFrom 0 ((rs.take 64).take (j + 1)) = resFrom 0 ((rs.take 64).take j) ++ if resB v = true then [((j : Int), v)] else [] := by
          rw [hjt2, hjt, resFrom_snoc, List.length_take, show min j rs.length = j by omega, Nat.zero_add]
        have hpre := resFrom_take (rs.take 64) (j + 1)
        have HF := Aside0.mk (And.intro hft hpre)
        clear hjt hjt2 hft hpre ho
        by_cases c1 : 1 ≤ v
        · by_cases c2 : v ≤ 1099511627776
          · have hb : resB v = true := decide_eq_true ⟨c1, c2⟩
            have a1 : decide (1 ≤ v) = true := decide_eq_true c1
            have a2 : decide (v ≤ 1099511627776) = true := decide_eq_true c2
            obtain ⟨fn, tmps, asg, body, hy, hR⟩ := HL.out.2.2 _ ((j : Int), v) _ wr h4 ⟨by have := HF.out.2; rw [HF.out.1, if_pos hb] at this; exact this, rfl⟩
            have HB := Lib.hid hb
            clear hb c1 c2
            gi_wp2
            refine hR.mono ?_
            rintro e W3 (⟨rfl, hJ3, hk3⟩ | ⟨rfl, hJx3⟩)
            · gi_wp2
              go_roundw
              case rel => exact ⟨j + 1, by go_num, by omega, by rw [HF.out.1, if_pos HB.out]; exact hJ3, h5.trans hk3⟩
              case measure => simp [intOf]; omega
            · gi_wp2
              refine bodyPost_ret (results_none rfl _ _ _) rfl ?_
              exact ⟨⟨_, rfl⟩, .inr ⟨_, trivial, hJx3⟩⟩
          · have hb : ¬ resB v = true := fun h => c2 (of_decide_eq_true h).2
            have a1 : decide (1 ≤ v) = true := decide_eq_true c1
            have a2 : decide (v ≤ 1099511627776) = false := decide_eq_false c2
            have HB := Lib.hid hb
            clear hb c1 c2
            gi_wp2
            go_roundw
            case rel => exact ⟨j + 1, by go_num, by omega, by rw [HF.out.1, if_neg HB.out, List.append_nil]; exact h4, h5⟩
            case measure => simp [intOf]; omega
        · have hb : ¬ resB v = true := fun h => c1 (of_decide_eq_true h).1
          have a1 : decide (1 ≤ v) = false := decide_eq_false c1
          have HB := Lib.hid hb
          clear hb c1
          gi_wp2
          go_roundw
          case rel => exact ⟨j + 1, by go_num, by omega, by rw [HF.out.1, if_neg HB.out, List.append_nil]; exact h4, h5⟩
          case measure => simp [intOf]; omega
      · obtain rfl : j = k := by omega
        have hend : (rs.take 64).take j = rs.take 64 := List.take_of_length_le (by rw [HL.out.1.2.2]; exact Nat.le_refl _)
        rw [hend] at h4
        try have q1 : ¬ (j : Int) < (rs.length : Int) := by omega
        try have q2 : ¬ (j : Int) < 64 := by omega
        clear hend hk
        gi_wp2
        go_end0
        exact ⟨⟨_, rfl⟩, .inl h4⟩
theorem Has_eq (s i : Int) (b : Bool) (W : World) (hs : U64 s) (hi : 0 ≤ i ∧ i ≤ 63) (hb : hasS s i = b) : Calls Try.prog 34 #[.int .u64 s, .int .i64 i] W fun e W' => e = .returned (.bool b) ∧ Below W.heap.size W W' := by
  subst hb
  have hf : PHas.set_Has.f s i = some (hasS s i) := by
    unfold PHas.set_Has.f PHas.set_item.f
    rw [if_pos (by omega), decide_eq_true (show i < 64 by omega)]
    show (if true = true then (if 0 ≤ i then some ((bits .and .u64 (shr .u64 s i) 1) == 1) else none) else some false) = _
    rw [if_pos rfl, if_pos hi.1]
    congr 1
    obtain ⟨m, hm⟩ : ∃ m, m = i.toNat := ⟨_, rfl⟩
    have h1 : shr .u64 s i = ((s.toNat / 2 ^ m : Nat) : Int) := by
      unfold shr
      rw [show min i.toNat IntKind.u64.bits = m by rw [hm]; simp [IntKind.bits]; omega]
      have := Int.toNat_of_nonneg hs.1
      rw [← this]
      simp
    have h2 : s.toNat / 2 ^ m < 18446744073709551616 := Nat.lt_of_le_of_lt (Nat.div_le_self _ _) (by have := hs.2; omega)
    rw [h1, show (1 : Int) = ((1 : Nat) : Int) from rfl, u64_and_nat _ _ h2 (by decide), nat_mask1]
    unfold hasS
    rw [← hm, Nat.testBit_eq_decide_div_mod_eq]
    apply Bool.eq_iff_iff.2
    simp only [beq_iff_eq, decide_eq_true_iff]
    omega
  exact (PHas.set_Has.calls s i _ W hf).mono fun e W' h => ⟨h.1, by first | exact h.2 | exact h.2.below⟩
set_option maxHeartbeats 1600000 in
theorem Kept_calls (rs : List Int) (s : Int) (A : Option Addr) (c : Nat) (W : World) (hc : rs.length ≤ c) (hC : Kd.C (Kd.int .i64) W A rs.length rs) (hs : U64 s) :
    Calls Try.prog 20 #[.slice A rs.length c, .int .u64 s] W fun e W' => e = .returned (.int .i64 (keptL rs s)) ∧ Below W.heap.size W W' := by
  refine (callsIn_wide (n := 5)).1 ?_
  refine callsIn_of_wp_marks Try.func20 rfl trivial ?_ rfl
  simp only [Try.ntmps20, List.size_toArray, List.length_cons, List.length_nil, Nat.reduceAdd, Nat.reduceSub, Array.replicate_succ, Array.replicate_zero, List.push_toArray, List.append_toArray, List.nil_append, List.cons_append]
  have HC := Aside0.mk (And.intro hC hs)
  clear hC
  gi_wp2_with (gi_at_call 29; refine (callsIn_wide.2 (reserved_calls _ _ _ _)).mono ?_; rintro e w1 ⟨rfl, rfl⟩)
  have hB : Below W.heap.size W (((W.alloc (.cells #[.int .u64 s] 36)).alloc (.cells #[.int .i64 0] 2)).alloc (.cells #[.slice A rs.length c] 22)) := below_alloc (below_alloc (below_alloc (Below.refl _ _) _) _) _
  have g0 : (((W.alloc (.cells #[.int .u64 s] 36)).alloc (.cells #[.int .i64 0] 2)).alloc (.cells #[.slice A rs.length c] 22)).heap[W.heap.size]? = some (.cells #[.int .u64 s] 36 (0, 0)) := blk_alloc (blk_alloc (blk_new W _) _) _
  have g1 : (((W.alloc (.cells #[.int .u64 s] 36)).alloc (.cells #[.int .i64 0] 2)).alloc (.cells #[.slice A rs.length c] 22)).heap[W.heap.size + 1]? = some (.cells #[.int .i64 (keptS s [])] 2 (0, 0)) := blk_alloc (blk_new2 W _ _) _
  have g2 : (((W.alloc (.cells #[.int .u64 s] 36)).alloc (.cells #[.int .i64 0] 2)).alloc (.cells #[.slice A rs.length c] 22)).heap[W.heap.size + 1 + 1]? = some (.cells #[.slice A rs.length c] 22 (0, 0)) := by
    have := blk_new ((W.alloc (.cells #[.int .u64 s] 36)).alloc (.cells #[.int .i64 0] 2)) (.cells #[.slice A rs.length c] 22)
    rwa [World.size_alloc, World.size_alloc] at this
  have hsz : (((W.alloc (.cells #[.int .u64 s] 36)).alloc (.cells #[.int .i64 0] 2)).alloc (.cells #[.slice A rs.length c] 22)).heap.size = W.heap.size + 3 := by simp
  generalize (((W.alloc (.cells #[.int .u64 s] 36)).alloc (.cells #[.int .i64 0] 2)).alloc (.cells #[.slice A rs.length c] 22)) = w2 at hB g0 g1 g2 hsz
  replace hsz : W.heap.size + 2 < w2.heap.size := by omega
  refine rangeX rfl (by omega) (gf := 38) (lb := #[.pointer (some ⟨W.heap.size + 1 + 1, 0, none⟩)]) rfl trivial (enters_of Try.func38 (by kernel_rfl) rfl)
    (Y := ResY (resL rs)) (n₀ := w2.heap.size) (Kb := fun k => k ≠ W.heap.size + 1) (S := fun xs => xs = resL rs) (Sp := fun _ => True)
    (reserved1_seq _ rs A c (W.heap.size + 1 + 1) w2.heap.size _ w2 hc
      (fun X hk => by rw [blk_cell ((hk.2 (W.heap.size + 1 + 1) (by omega) (by omega)).trans g2) 0]; rfl)
      (fun X hk => C_of_blocks HC.out.1 (fun i hi => (hk.2 i (by omega) (by omega)).trans (hB.block i hi))) (Nat.le_refl _)) (Nat.le_refl _)
    (fun _ _ _ _ hy => by obtain ⟨_, rfl⟩ := hy; rfl)
    (fun pre X => X.heap[W.heap.size + 1]? = some (.cells #[.int .i64 (keptS s pre)] 2 (0, 0)) ∧ X.heap[W.heap.size]? = some (.cells #[.int .u64 s] 36 (0, 0)) ∧ Below W.heap.size W X) (fun _ _ _ => False)
    (fun _ P Q h hlie => ⟨hlie.blk h.1, hlie.blk h.2.1, hlie.below h.2.2 (by omega) (Nat.le_refl _)⟩) (fun _ _ _ _ h _ => h) ⟨g1, g0, hB⟩ ?round ?done (fun _ _ _ _ _ _ h _ => h.elim)
  case round =>
    rintro l pre ⟨i, v⟩ vs X hl2 ⟨hI1, hI0, hI2⟩ ⟨hpre, rfl⟩ hXs
    have hm : (i, v) ∈ resL rs := hpre.subset (List.mem_append.2 (.inr (List.mem_singleton.2 rfl)))
    have hmi := resL_mem hm
    have hkb := kept_bound s pre 0 (fun x hx => by
      have := resL_mem (hpre.subset (List.mem_append.2 (.inl hx)))
      omega)
    have hpl : pre.length ≤ 64 := by
      have h1 := hpre.length_le
      have h2 := resL_len rs
      simp only [List.length_append] at h1
      omega
    have hkn : 0 ≤ keptS s pre ∧ keptS s pre ≤ 70368744177664 := by unfold keptS; omega
    have hms := keptS_snoc s pre (i, v)
    obtain ⟨m, hmm⟩ : ∃ m, keptS s pre = m := ⟨_, rfl⟩
    rw [hmm] at hms hI1 hkn
    have HM := Aside0.mk (And.intro hms hmi)
    obtain ⟨m0, m1⟩ := hkn
    obtain ⟨_, _, v0, v1⟩ := hmi
    simp only at v0 v1
    clear hms hmm hpre hm hkb hpl
    gi_wp2
    refine ⟨KeepsFrom.of_below (Below.refl _ _), Kp.refl _ _ _, ?_⟩
    intro Wb hlie
    have g3 := hlie.blk hI0
    have g4 := hlie.blk hI1
    have gB := hlie.below hI2 (by omega) (Nat.le_refl _)
    have y1 : Wb.cell? ⟨W.heap.size, 0, none⟩ = some (.int .u64 s) := by rw [blk_cell g3]; rfl
    have hgl := lt_of_some g4
    have hWbs : w2.heap.size ≤ Wb.heap.size := Nat.le_trans hXs hlie.size
    have HG := Aside0.mk (And.intro g4 (And.intro gB g3))
    clear g3 g4 gB hI1 hI2 hI0 hlie
    obtain ⟨b, hb⟩ : ∃ b, hasS s i = b := ⟨_, rfl⟩
    have HB := Lib.hid hb
    have HX := Aside0.mk (Has_eq s i b Wb HC.out.2 ⟨HM.out.2.1, HM.out.2.2.1⟩ hb)
    cases b with
    | false =>
      clear hb
      gi_wp2_with (gi_at_call 34; refine (CallsIn.inRound l (callsIn_wide.2 HX.out)).mono ?_; rintro e w3 ⟨rfl, hb3⟩; have HW := Aside0.mk hb3; clear hb3)
      have hms := HM.out.1
      have hb := HB.out
      refine ⟨KeepsFrom.of_below HW.out, Kp.of_below HW.out (by have := HW.out.size; omega), ?_, blk_belowX HG.out.2.2 HW.out, below_step HG.out.2.1 HW.out⟩
      rw [hms]
      unfold keep1
      rw [if_neg (by rw [hb]; simp)]
      exact blk_belowX HG.out.1 HW.out
    | true =>
      clear hb
      gi_wp2_with (gi_at_call 34; refine (CallsIn.inRound l (callsIn_wide.2 HX.out)).mono ?_; rintro e w3 ⟨rfl, hb3⟩; have hx3 := blk_belowX HG.out.1 hb3; have y2 := blk_cell hx3 0; have f2 := blk_frozen hx3 0; simp at y2; have HW := Aside0.mk (And.intro hb3 hx3); clear hb3 hx3)
      have hms := HM.out.1
      have hb := HB.out
      have hk1 : Kp w2.heap.size (fun k => k ≠ W.heap.size + 1) Wb w3 := Kp.of_below HW.out.1 (by have := HW.out.1.size; omega)
      refine ⟨(KeepsFrom.of_below HW.out.1).trans (KeepsFrom.set _ _ _ _), hk1.trans (Kp.set (fun h => absurd rfl h) _), ?_, (Oth.set w3 ⟨W.heap.size + 1, 0, none⟩ _).blk (blk_belowX HG.out.2.2 HW.out.1) (by show W.heap.size ≠ W.heap.size + 1; omega), below_set (below_step HG.out.2.1 HW.out.1) (by show W.heap.size ≤ W.heap.size + 1; omega)⟩
      rw [hms]
      unfold keep1
      rw [if_pos hb]
      exact blk_set HW.out.2 0 _
  case done =>
    rintro D xs X hD rfl ⟨hI1, hI0, hI2⟩ hKd
    have d2 := blk_cell hI1 0
    simp at d2
    have HF := Aside0.mk (And.intro hI2 hKd)
    clear hI1 hI2 hI0 hKd
    gi_wp2
    refine ⟨by simp, .inl ⟨_, _, rfl, run_takeDeferred HF.out.2, ?_⟩⟩
    refine ⟨_, results_tmp rfl _ _ _, ?_, belowK_t HF.out.1 (belowK_b (w := W) (Nat.le_refl _) X D _ _ (by omega) HF.out.2 rfl rfl)⟩
    rfl
end Go.Proofs.Ytmmingnkepifoaa.H
/- package atom: the right atoms within a set. -/
namespace Go.Proofs.Ytmmingnkepifoaa.H
open Go.RowKit Go.Proofs.YtmmingnkepifoaaW.PrintWords Go.Proofs.YtmmingnkepifoaaW.PrintLast Go.Proofs.YtmmingnkepifoaaW.PrintMore Go.Proofs.Ytmmingnkepifoaa.TrM Go.Proofs.Ytmmingnkepifoaa.AtM
set_option linter.unusedVariables false
set_option linter.unusedSimpArgs false
set_option maxRecDepth 100000
attribute [local go_sem] Oper.semAt_some wide_fn wide_depth

/-- Rows of atoms: a round may write its own. -/
def TA : TypeId → Prop := fun t => t = 45
theorem Within_calls (A : Option Addr) (n c : Nat) (s : Int) (w : World) : Calls Try.prog 42 #[.slice A n c, .int .u64 s] w fun e w' =>
    e = .returned (.func (.func 45) #[] #[.pointer (some ⟨w.heap.size, 0, none⟩), .pointer (some ⟨w.heap.size + 1, 0, none⟩)]) ∧ w' = (w.alloc (.cells #[.slice A n c] 40)).alloc (.cells #[.int .u64 s] 36) := by
  go_enter Try.func42, Try.ntmps42
  go_wp2
  go_ret
  exact ⟨rfl, rfl⟩
theorem filter_snoc (p : At → Bool) (xs : List At) (x : At) : (xs ++ [x]).filter p = xs.filter p ++ if p x = true then [x] else [] := by
  rw [List.filter_append]; congr 1; simp [List.filter_cons]
set_option maxHeartbeats 1600000 in
theorem Within1_seq (n : Nat) (al : List At) (s : Int) (A : Option Addr) (c ba bs n₀ : Nat) (Kb : Nat → Prop) (w : World) (hs : U64 s) (hu : ∀ x ∈ al, U64 x.1)
    (hA : ∀ W, Kp n₀ Kb w W → W.cell? ⟨ba, 0, none⟩ = some (.slice A al.length c)) (hS : ∀ W, Kp n₀ Kb w W → W.cell? ⟨bs, 0, none⟩ = some (.int .u64 s)) (hC : ∀ W, Kp n₀ Kb w W → Kd.C KAt W A al.length al) (hn : n₀ ≤ w.heap.size) :
    SeqZ TA Fence.wide n Try.prog 45 #[.pointer (some ⟨ba, 0, none⟩), .pointer (some ⟨bs, 0, none⟩)] (AtY (withinL al s)) n₀ Kb (fun ys => ys = withinL al s) (fun _ => True) w := by
  intro l J Jx W hK hJ hJx hY h0
  have hcA := hA W hK
  have hcS := hS W hK
  refine callsIn_wide.2 ((callsIn_wide (n := 5)).1 ?_)
  refine callsIn_of_wp_marks Try.func45 rfl trivial ?_ rfl
  simp only [Try.ntmps45, List.size_toArray, List.length_cons, List.length_nil, Nat.reduceAdd, Nat.reduceSub, Array.replicate_succ, Array.replicate_zero, List.push_toArray, List.append_toArray, List.nil_append, List.cons_append]
  have hWn := hK.1
  have hba : ba < W.heap.size := World.block_lt_of_cell? W ⟨ba, 0, none⟩ hcA
  have hbs : bs < W.heap.size := World.block_lt_of_cell? W ⟨bs, 0, none⟩ hcS
  gi_wp2_with (gi_at_call 46; refine (callsIn_wide.2 (right_calls _ _ _ _)).mono ?_; rintro e w1 ⟨rfl, rfl⟩)
  have hB2 : Below W.heap.size W ((W.alloc (.cells #[.func (.yield l) #[] #[]] 74)).alloc (.cells #[.slice A al.length c] 40)) := below_alloc (below_alloc (Below.refl _ _) _) _
  have g1 : ((W.alloc (.cells #[.func (.yield l) #[] #[]] 74)).alloc (.cells #[.slice A al.length c] 40)).heap[W.heap.size]? = some (.cells #[.func (.yield l) #[] #[]] 74 (0, 0)) := blk_alloc (blk_new W _) _
  have g2 := blk_new2 W (.cells #[.func (.yield l) #[] #[]] 74) (.cells #[.slice A al.length c] 40)
  have hsz : ((W.alloc (.cells #[.func (.yield l) #[] #[]] 74)).alloc (.cells #[.slice A al.length c] 40)).heap.size = W.heap.size + 2 := by simp
  generalize ((W.alloc (.cells #[.func (.yield l) #[] #[]] 74)).alloc (.cells #[.slice A al.length c] 40)) = w2 at hB2 g1 g2 hsz
  have hJ0 : J [] w2 := hJ _ _ _ h0 (.of_below hB2)
  have hK2 : Kp n₀ Kb w w2 := hK.trans (.of_below hB2 (by omega))
  have HY := Aside0.mk (And.intro hY (And.intro hJ (And.intro hJx (And.intro hA (And.intro hS (And.intro hC hu))))))
  have HK := Aside0.mk (And.intro hK (And.intro hB2 hsz))
  clear hY hA hS hu h0 hcA hcS
  refine rangeZ rfl (by omega) (gf := 56) (lb := #[.pointer (some ⟨W.heap.size + 1, 0, none⟩)]) rfl trivial (enters_of Try.func56 (by kernel_rfl) rfl)
    (Y := AtY (al.filter rightA)) (n₀ := w2.heap.size) (Kb := fun k => (k < n₀ ∧ Kb k) ∨ W.heap.size ≤ k) (S := fun xs => xs = al.filter rightA) (Sp := fun _ => True)
    (SeqX.z (T := TA) (right1_seq 4 al A c (W.heap.size + 1) w2.heap.size _ w2
      (fun X hk => by rw [blk_cell ((hk.2 (W.heap.size + 1) (by omega) (.inr (by omega))).trans g2) 0]; rfl)
      (fun X hk => hC X ⟨Nat.le_trans hK2.1 hk.1, fun k h1 h2 => (hk.2 k (by omega) (.inl ⟨h1, h2⟩)).trans (hK2.2 k h1 h2)⟩) (Nat.le_refl _))) (Nat.le_refl _)
    (fun _ _ _ _ hy => by obtain ⟨_, rfl⟩ := hy; rfl)
    (fun pre X => J (pre.filter (inA s)) X ∧ Kp n₀ Kb w X ∧ X.heap[W.heap.size]? = some (.cells #[.func (.yield l) #[] #[]] 74 (0, 0)) ∧ X.heap[W.heap.size + 1]? = some (.cells #[.slice A al.length c] 40 (0, 0)))
    (fun cd _ X => cd = .ret ∧ ∃ q, Jx q X)
    (fun _ P Q h hlie => ⟨hJ _ _ _ h.1 (hlie.wide hB2.size), h.2.1.trans (.of_lies hlie (by omega) (Nat.le_trans hn h.2.1.1)), hlie.blk h.2.2.1, hlie.blk h.2.2.2⟩)
    (fun _ _ P Q h hlie => ⟨h.1, by obtain ⟨q, hq⟩ := h.2; exact ⟨q, hJx _ _ _ hq (hlie.wide hB2.size)⟩⟩) ⟨hJ0, hK2, g1, g2⟩ ?round ?done ?stop
  case round =>
    rintro l2 pre ⟨xs, xv⟩ vs X hl2 ⟨hj, hk, hbox, hbo2⟩ ⟨hpre, rfl⟩ hXs
    have hux : U64 xs := by
      have hm : (xs, xv) ∈ al.filter rightA := hpre.subset (List.mem_append.2 (.inr (List.mem_singleton.2 rfl)))
      exact HY.out.2.2.2.2.2.2 _ (List.mem_filter.1 hm).1
    have hfs := filter_snoc (inA s) pre (xs, xv)
    have HP := Aside0.mk (And.intro hpre (And.intro hfs hux))
    clear hpre hfs hux
    gi_wp2
    refine ⟨Kin.of_below (below_alloc (Below.refl _ _) _) (Nat.le_refl _), Kp.of_below (below_alloc (Below.refl _ _) _) (by omega), ?_⟩
    intro Wb hlie
    have g3 := hlie.blk (blk_new X (.cells #[.int .u64 xs, .int .i64 xv] 45))
    have g4 := hlie.blk (blk_alloc hbox (.cells #[.int .u64 xs, .int .i64 xv] 45))
    have g5 := hlie.blk (blk_alloc hbo2 (.cells #[.int .u64 xs, .int .i64 xv] 45))
    have hka : Kp n₀ Kb w (X.alloc (.cells #[.int .u64 xs, .int .i64 xv] 45)) := hk.trans (.of_below (below_alloc (Below.refl _ _) _) (by omega))
    have hkb : Kp n₀ Kb w Wb := hka.trans (.of_lies hlie (by omega) (Nat.le_trans hn hka.1))
    have hjb : J (pre.filter (inA s)) Wb := HY.out.2.1 _ _ _ (HY.out.2.1 _ _ _ hj (.of_below (below_alloc (Below.refl _ _) _))) (hlie.wide (by omega))
    have gs := hlie.size
    rw [World.size_alloc] at gs
    have y0 : Wb.cell? ⟨X.heap.size, 0, none⟩ = some (.int .u64 xs) := by rw [blk_cell g3]; rfl
    have y1 : Wb.cell? ⟨X.heap.size, 1, none⟩ = some (.int .i64 xv) := by rw [blk_cell g3]; rfl
    have y2 : Wb.cell? ⟨W.heap.size, 0, none⟩ = some (.func (.yield l) #[] #[]) := by rw [blk_cell g4]; rfl
    have y3 : Wb.cell? ⟨bs, 0, none⟩ = some (.int .u64 s) := HY.out.2.2.2.2.1 Wb hkb
    have HB := Aside0.mk (And.intro hkb (And.intro hjb (And.intro g4 g5)))
    clear hj hk hbox hbo2 hlie hka hkb hjb g3 g4 g5
    obtain ⟨b, hb⟩ : ∃ b, wthB xs s = b := ⟨_, rfl⟩
    have HW := Lib.hid hb
    cases b with
    | false =>
      clear hb
      gi_wp2_with (gi_at_call 47; refine (CallsIn.inRound l2 (callsIn_wide.2 (SWithin_eq xs s false _ HP.out.2.2 hs HW.out))).mono ?_; rintro e w' ⟨rfl, rfl⟩)
      have hx : inA s (xs, xv) = false := HW.out
      refine ⟨Kin.refl _ _ _, Kp.refl _ _ _, ?_, HB.out.1, HB.out.2.2.1, HB.out.2.2.2⟩
      rw [HP.out.2.1, hx]
      simpa using HB.out.2.1
    | true =>
      clear hb
      obtain ⟨fn, tmps, asg, body, hy, hR⟩ := yieldAt_wide (m' := 2) (HY.out.1 (pre.filter (inA s)) (xs, xv) _ Wb HB.out.2.1 ⟨by
        have h1 := HP.out.1.filter (inA s)
        rw [HP.out.2.1] at h1
        have : inA s (xs, xv) = true := HW.out
        rw [if_pos this] at h1
        exact h1, rfl⟩)
      gi_wp2_with (gi_at_call 47; refine (CallsIn.inRound l2 (callsIn_wide.2 (SWithin_eq xs s true _ HP.out.2.2 hs HW.out))).mono ?_; rintro e w' ⟨rfl, rfl⟩)
      have hx : inA s (xs, xv) = true := HW.out
      have hsb := blk_lt HB.out.2.2.2
      have hsz2 := HK.out.2.2
      refine (roundIn_in l2 hR).mono ?_
      rintro e W3 (⟨rfl, hJ3, hk3, hin⟩ | ⟨rfl, hx3, hin⟩)
      · have HF := Aside0.mk (And.intro hJ3 (And.intro hk3 (And.intro hin hx)))
        clear hJ3 hk3 hin hx
        gi_wp2
        obtain ⟨hJ3, hk3, hin, hx⟩ := HF.out
        have hf1 := hin.2 W.heap.size (Nat.le_refl _) (by omega) (isC HB.out.2.2.1 (by unfold TA; decide))
        have hf2 := hin.2 (W.heap.size + 1) (by omega) hsb (isC HB.out.2.2.2 (by unfold TA; decide))
        refine ⟨⟨hin.1, fun k h1 h2 h3 => hin.2 k (by omega) (by omega) h3⟩, ⟨hin.1, fun k h1 h2 => ?_⟩, ?_, HB.out.1.trans hk3, hf1.trans HB.out.2.2.1, hf2.trans HB.out.2.2.2⟩
        · rcases h2 with ⟨h2, h3⟩ | h2
          · exact hk3.2 k h2 h3
          · by_cases e : k = W.heap.size
            · rw [e]; exact hf1
            · obtain rfl : k = W.heap.size + 1 := by omega
              exact hf2
        · rw [HP.out.2.1, if_pos hx]
          exact hJ3
      · have HF := Aside0.mk (And.intro hx3 hin)
        clear hx3 hin hx
        gi_wp2
        exact ⟨⟨HF.out.2.1, fun k h1 h2 h3 => HF.out.2.2 k (by omega) (by omega) h3⟩, rfl, _, HF.out.1⟩
  case done =>
    rintro D xs X hD rfl ⟨hj, hk, hbox, hbo2⟩ hKd
    have HF := Aside0.mk (And.intro hj hKd)
    clear hj hk hbox hbo2 hKd
    gi_wp2
    refine ⟨by simp, .inl ⟨_, _, rfl, run_takeDeferred HF.out.2, ?_⟩⟩
    refine ⟨_, results_none rfl _ _ _, ⟨_, rfl⟩, .inl ⟨_, rfl, ?_⟩⟩
    exact hJ _ _ _ HF.out.1 (.put (by omega) HF.out.2 rfl _)
  case stop =>
    rintro D cd pre X hD _ ⟨rfl, q, hq⟩ hKd
    have HF := Aside0.mk (And.intro hq hKd)
    clear hq hKd
    gi_wp2
    refine ⟨by simp, .inl ⟨_, _, rfl, run_takeDeferred HF.out.2, ?_⟩⟩
    refine ⟨_, results_none rfl _ _ _, ⟨_, rfl⟩, .inr ⟨q, trivial, ?_⟩⟩
    exact hJx _ _ _ HF.out.1 (.put (by omega) HF.out.2 rfl _)
end Go.Proofs.Ytmmingnkepifoaa.H
/- package atom: Value, Most. -/
namespace Go.Proofs.Ytmmingnkepifoaa.H
open Go.RowKit Go.Proofs.YtmmingnkepifoaaW.PrintWords Go.Proofs.YtmmingnkepifoaaW.PrintLast Go.Proofs.YtmmingnkepifoaaW.PrintMore Go.Proofs.Ytmmingnkepifoaa.TrM Go.Proofs.Ytmmingnkepifoaa.AtM
set_option linter.unusedVariables false
set_option linter.unusedSimpArgs false
set_option maxRecDepth 100000
attribute [local go_sem] Oper.semAt_some wide_fn wide_depth

theorem C_blocksA {W W' : World} {A : Option Addr} {n : Nat} {xs : List At} (hc : Kd.C KAt W A n xs) (h : ∀ i, i < W.heap.size → W'.heap[i]? = W.heap[i]?) : Kd.C KAt W' A n xs :=
  ⟨hc.1, hc.2.1, fun hn => by
    obtain ⟨ad, e, hr⟩ := hc.2.2 hn
    refine ⟨ad, e, fun j p hj => ?_⟩
    obtain ⟨c, hs, hR, hcell⟩ := hr j p hj
    exact ⟨c, hs, hR, fun i u hu => (World.cell?_of_block (h _ (World.block_lt_of_cell? W _ (hcell i u hu)))).trans (hcell i u hu)⟩⟩
theorem maxL_snoc (xs : List At) (x : At) : maxL (xs ++ [x]) = max (maxL xs) x.2 := by unfold maxL; rw [List.foldl_append]; rfl
set_option maxHeartbeats 1600000 in
theorem Value_calls (al : List At) (s : Int) (A : Option Addr) (c : Nat) (W : World) (hC : Kd.C KAt W A al.length al) (hs : U64 s) (hu : ∀ x ∈ al, U64 x.1) :
    Calls Try.prog 36 #[.slice A al.length c, .int .u64 s] W fun e W' => e = .returned (.int .i64 (valueL al s)) ∧ Below W.heap.size W W' := by
  refine (callsIn_wide (n := 5)).1 ?_
  refine callsIn_of_wp_marks Try.func36 rfl trivial ?_ rfl
  simp only [Try.ntmps36, List.size_toArray, List.length_cons, List.length_nil, Nat.reduceAdd, Nat.reduceSub, Array.replicate_succ, Array.replicate_zero, List.push_toArray, List.append_toArray, List.nil_append, List.cons_append]
  have HC := Aside0.mk hC
  clear hC
  gi_wp2_with (gi_at_call 42; refine (callsIn_wide.2 (Within_calls _ _ _ _ _)).mono ?_; rintro e w1 ⟨rfl, rfl⟩)
  have hB : Below W.heap.size W (((W.alloc (.cells #[.int .i64 0] 2)).alloc (.cells #[.slice A al.length c] 40)).alloc (.cells #[.int .u64 s] 36)) := below_alloc (below_alloc (below_alloc (Below.refl _ _) _) _) _
  have g0 : (((W.alloc (.cells #[.int .i64 0] 2)).alloc (.cells #[.slice A al.length c] 40)).alloc (.cells #[.int .u64 s] 36)).heap[W.heap.size]? = some (.cells #[.int .i64 (maxL [])] 2 (0, 0)) := blk_alloc (blk_alloc (blk_new W _) _) _
  have g1 : (((W.alloc (.cells #[.int .i64 0] 2)).alloc (.cells #[.slice A al.length c] 40)).alloc (.cells #[.int .u64 s] 36)).heap[W.heap.size + 1]? = some (.cells #[.slice A al.length c] 40 (0, 0)) := blk_alloc (blk_new2 W _ _) _
  have g2 : (((W.alloc (.cells #[.int .i64 0] 2)).alloc (.cells #[.slice A al.length c] 40)).alloc (.cells #[.int .u64 s] 36)).heap[W.heap.size + 1 + 1]? = some (.cells #[.int .u64 s] 36 (0, 0)) := by
    have := blk_new ((W.alloc (.cells #[.int .i64 0] 2)).alloc (.cells #[.slice A al.length c] 40)) (.cells #[.int .u64 s] 36)
    rwa [World.size_alloc, World.size_alloc] at this
  have hsz : (((W.alloc (.cells #[.int .i64 0] 2)).alloc (.cells #[.slice A al.length c] 40)).alloc (.cells #[.int .u64 s] 36)).heap.size = W.heap.size + 3 := by simp
  generalize (((W.alloc (.cells #[.int .i64 0] 2)).alloc (.cells #[.slice A al.length c] 40)).alloc (.cells #[.int .u64 s] 36)) = w2 at hB g0 g1 g2 hsz
  refine rangeZ rfl (by omega) (gf := 45) (lb := #[.pointer (some ⟨W.heap.size + 1, 0, none⟩), .pointer (some ⟨W.heap.size + 1 + 1, 0, none⟩)]) rfl trivial (enters_of Try.func45 (by kernel_rfl) rfl)
    (Y := AtY (withinL al s)) (n₀ := w2.heap.size) (Kb := fun k => k ≠ W.heap.size) (S := fun xs => xs = withinL al s) (Sp := fun _ => True)
    (Within1_seq 4 al s A c (W.heap.size + 1) (W.heap.size + 1 + 1) w2.heap.size _ w2 hs hu
      (fun X hk => by rw [blk_cell ((hk.2 (W.heap.size + 1) (by omega) (by omega)).trans g1) 0]; rfl)
      (fun X hk => by rw [blk_cell ((hk.2 (W.heap.size + 1 + 1) (by omega) (by omega)).trans g2) 0]; rfl)
      (fun X hk => C_blocksA HC.out (fun i hi => (hk.2 i (by omega) (by omega)).trans (hB.block i hi))) (Nat.le_refl _)) (Nat.le_refl _)
    (fun _ _ _ _ hy => by obtain ⟨_, rfl⟩ := hy; rfl)
    (fun pre X => X.heap[W.heap.size]? = some (.cells #[.int .i64 (maxL pre)] 2 (0, 0)) ∧ Below W.heap.size W X) (fun _ _ _ => False)
    (fun _ P Q h hlie => ⟨hlie.blk h.1, hlie.below h.2 (by omega) (Nat.le_refl _)⟩) (fun _ _ _ _ h _ => h) ⟨g0, hB⟩ ?round ?done (fun _ _ _ _ _ _ h _ => h.elim)
  case round =>
    rintro l pre ⟨xs, xv⟩ vs X hl2 ⟨hI1, hI2⟩ ⟨hpre, rfl⟩ hXs
    have hms := maxL_snoc pre (xs, xv)
    have HM := Lib.hid hms
    obtain ⟨m, hm⟩ : ∃ m, maxL pre = m := ⟨_, rfl⟩
    rw [hm] at hI1
    have HMM := Lib.hid hm
    clear hms hm hpre
    gi_wp2
    refine ⟨Kin.of_below (below_alloc (Below.refl _ _) _) (Nat.le_refl _), Kp.of_below (below_alloc (Below.refl _ _) _) (by omega), ?_⟩
    intro Wb hlie
    have g3 := hlie.blk (blk_new X (.cells #[.int .u64 xs, .int .i64 xv] 45))
    have g4 := hlie.blk (blk_alloc hI1 (.cells #[.int .u64 xs, .int .i64 xv] 45))
    have gB := hlie.below (below_alloc hI2 (.cells #[.int .u64 xs, .int .i64 xv] 45)) (by omega) (Nat.le_refl _)
    have y1 : Wb.cell? ⟨X.heap.size, 1, none⟩ = some (.int .i64 xv) := by rw [blk_cell g3]; rfl
    have y2 : Wb.cell? ⟨W.heap.size, 0, none⟩ = some (.int .i64 m) := by rw [blk_cell g4]; rfl
    have f2 := blk_frozen g4 0
    have hgl := lt_of_some g4
    have HG := Aside0.mk (And.intro g4 gB)
    clear g3 g4 gB hI1 hI2 hlie
    gi_wp2
    all_goals
      refine ⟨Kin.set (.inl (by show W.heap.size < _; omega)) _, Kp.set (fun h => absurd rfl h) _, ?_, below_set HG.out.2 (Nat.le_refl _)⟩
      have e := HM.out
      rw [HMM.out] at e
      rw [e]
      first
        | (rw [show max m xv = m by omega]; exact blk_set HG.out.1 0 _)
        | (rw [show max m xv = xv by omega]; exact blk_set HG.out.1 0 _)
  case done =>
    rintro D xs X hD rfl ⟨hI1, hI2⟩ hKd
    have d2 := blk_cell hI1 0
    simp at d2
    have HF := Aside0.mk (And.intro hI2 hKd)
    clear hI1 hI2 hKd
    gi_wp2
    refine ⟨by simp, .inl ⟨_, _, rfl, run_takeDeferred HF.out.2, ?_⟩⟩
    refine ⟨_, results_tmp rfl _ _ _, ?_, belowK_t HF.out.1 (belowK_b (w := W) (Nat.le_refl _) X D _ _ (by omega) HF.out.2 rfl rfl)⟩
    rfl
end Go.Proofs.Ytmmingnkepifoaa.H
