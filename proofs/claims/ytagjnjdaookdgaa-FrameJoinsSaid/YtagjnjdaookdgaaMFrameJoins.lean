/- FrameJoins: whatever the frames and the cut, the statement's function answers true. No condition. -/
import Derived.Test.YtagjnjdaookdgaaFrJ
import Derived.Test.YtagjnjdaookdgaaFrRef
import Derived.Test.YtagjnjdaookdgaaFrAl
import Derived.Test.YtagjnjdaookdgaaRq
import Derived.Test.YtagjnjdaookdgaaRow
namespace Go.Proofs.Ytagjnjdaookdgaa.MFrameJoins
open Go.RowKit Go.Proofs.YtagjnjdaookdgaaW.PrintWords Go.Proofs.YtagjnjdaookdgaaW.PrintLast Go.Proofs.YtagjnjdaookdgaaW.PrintMore Go.Proofs.Ytagjnjdaookdgaa.H Go.Proofs.Ytagjnjdaookdgaa.CrcM
set_option linter.unusedVariables false
set_option linter.unusedSimpArgs false
attribute [local go_sem] Oper.semAt_some wide_fn wide_depth max2_int min2_int

theorem opens : Opens Try.prog 55 (Kd.slice 28 (Kd.pair (Kd.int .i64) (Kd.slice 5 (Kd.int .u8)))) (fun l => ∀ x ∈ l, (Lit.int .i64 x.1).wf = true ∧ ∀ y ∈ x.2, (Lit.int .u8 y).wf = true) :=
  opens_slice ((0 : Int), ([] : List Int)) Try.underlying55 (by kernel_rfl)
    (opens_struct Try.underlying28 (by kernel_rfl)
      (opens_cons rfl (by kernel_rfl) (opens_int Try.underlying3)
        (opens_last rfl (by kernel_rfl) (opens_slice 0 Try.underlying22 (by kernel_rfl) (opens_int Try.underlying5)))))
theorem info_fr : (Try.prog.info? 28).map (fun i => (i.zero, i.size, i.bytes)) = some (some (.agg #[.int .i64 0, .slice none 0 0]), 2, 32) := by kernel_rfl
def MORE : List Int := [109, 111, 114, 101]
def B11 : List Int := [4, 0, 1, 109, 111, 114, 101] ++ le4 (ext 0#32 [4, 0, 1, 109, 111, 114, 101])
theorem fm1 : writeF 1 MORE = (B11, 0) := by decide +kernel
abbrev kept (ps : List (Rb × Fb)) : List (Rb × Fb) := ps.filter fun p => okW p.2
theorem kept_take_ok {ps : List (Rb × Fb)} {k : Nat} {p : Rb × Fb} (hp : ps[k]? = some p) (h : okW p.2 = true) : kept (ps.take (k + 1)) = kept (ps.take k) ++ [p] := by
  unfold kept; rw [List.take_add_one, hp]; simp [List.filter_append, h]
theorem kept_take_no {ps : List (Rb × Fb)} {k : Nat} {p : Rb × Fb} (hp : ps[k]? = some p) (h : okW p.2 = false) : kept (ps.take (k + 1)) = kept (ps.take k) := by
  unfold kept; rw [List.take_add_one, hp]; simp [List.filter_append, h]
theorem kept_ok (ps : List (Rb × Fb)) : ∀ x ∈ (kept ps).map (·.2), okW x = true := by
  intro x hx
  obtain ⟨p, hp, rfl⟩ := List.mem_map.1 hx
  exact (List.mem_filter.1 hp).2
theorem kept_len (ps : List (Rb × Fb)) (k : Nat) : (kept (ps.take k)).length ≤ k := Nat.le_trans (List.length_filter_le _ _) (List.length_take_le _ _)
theorem flat_len {ps : List (Rb × Fb)} {k : Nat} (hk : k ≤ 10) (hS : ∀ p ∈ ps.take k, p.2.2.length ≤ 500) : (flatF ((kept (ps.take k)).map (·.2))).length ≤ 5070 := by
  have h := len_flatF ((kept (ps.take k)).map (·.2)) (kept_ok _) (fun x hx => by
    obtain ⟨p, hp, rfl⟩ := List.mem_map.1 hx
    exact hS p (List.mem_filter.1 hp).1)
  have h2 := kept_len ps k
  rw [List.length_map] at h
  omega
theorem take_bound {ps : List (Rb × Fb)} {k : Nat} {p : Rb × Fb} (hp : ps[k]? = some p) (hS : ∀ q ∈ ps.take k, q.2.2.length ≤ 500) (h : p.2.2.length ≤ 500) : ∀ q ∈ ps.take (k + 1), q.2.2.length ≤ 500 := by
  intro q hq
  rw [List.take_add_one, hp] at hq
  rcases List.mem_append.1 hq with hq | hq
  · exact hS q hq
  · simp at hq; subst hq; exact h
set_option maxHeartbeats 3200000 in
theorem main (A : Option Addr) (c : Nat) (fs : List Fb) (hc : fs.length ≤ c) {W0 : World} (m : Kd.C (Kd.pair (Kd.int .i64) (Kd.slice 5 (Kd.int .u8))) W0 A fs.length fs) (g : ∀ x ∈ fs, (Lit.int .i64 x.1).wf = true ∧ ∀ y ∈ x.2, (Lit.int .u8 y).wf = true)
    (cut : Int) (wf : (Lit.int .i64 cut).wf = true) (W : World) (hW : W0 = W := by rfl) :
    Calls Try.prog 7 #[.slice A fs.length c, .int .i64 cut] W fun e W' => e = .returned (.bool true) ∧ Below W.heap.size W W' := by
  subst hW
  obtain ⟨ps, e1, m1, hps⟩ := rows_of m
  have hB : ∀ p ∈ ps, Bts p.2.2 := fun p hp x hx => wf_u8 ((g p.2 (by rw [← e1]; exact List.mem_map_of_mem hp)).2 x hx)
  have el : fs.length = ps.length := by rw [← e1]; simp
  rw [el] at hc m1 ⊢
  have M := Aside0.mk (And.intro m1 (And.intro hps hB))
  clear m g wf e1 m1 hps hB el
  by_cases h5 : ps.length > 10
  · have b0 : decide (10 < ps.length) = true := decide_eq_true h5
    have b1 : decide ((10 : Int) < (ps.length : Int)) = true := decide_eq_true (by omega)
    clear h5
    go_enter Try.func7, Try.ntmps7
    go_wp2_with (first
      | (go_at_call 8; refine (alive6_calls _).mono ?_; rintro e w1 ⟨rfl, hb1⟩; have hbk := (hb1.block W0.heap.size (by simp)).trans (blk_new W0 (.cells #[.bool false] 4)); have d0 := blk_cell hbk 0; have f0 := blk_frozen hbk 0; simp at d0; have S1 := Aside0.mk (And.intro (below_step (below_alloc (Below.refl _ _) _) hb1) hbk); clear hb1 hbk))
    refine bodyPost_ret (results_one_cell rfl (blk_put S1.out.2 0 (.bool true) rfl) rfl) rfl ?_
    exact ⟨rfl, below_set S1.out.1 (by simp)⟩
  · have b0 : decide (10 < ps.length) = false := decide_eq_false h5
    have b1 : decide ((10 : Int) < (ps.length : Int)) = false := decide_eq_false (by omega)
    have hl : ps.length ≤ 10 := by omega
    have hx := and_mask cut 1023 (by decide)
    rw [show ((1023 : Nat) : Int) = 1023 from rfl] at hx
    generalize hxx : bits .and .i64 cut 1023 = x at hx
    obtain ⟨hx0, hx1⟩ := hx
    clear h5
    refine (callsIn_wide (n := 5)).1 ?_
    refine callsIn_of_wp_marks Try.func7 rfl trivial ?_ rfl
    simp only [Try.ntmps7, List.size_toArray, List.length_cons, List.length_nil, Nat.reduceAdd, Nat.reduceSub, Array.replicate_succ, Array.replicate_zero, List.push_toArray, List.append_toArray, List.nil_append, List.cons_append]
    refine wpIn_wide.2 ?_
    go_wp2_with (first
      | (go_at_call 8; refine (alive6_calls _).mono ?_; rintro e w1 ⟨rfl, hb1⟩; have hq := below_step (below_alloc (Below.refl _ _) _) hb1; have hr := (hb1.block W0.heap.size (by simp)).trans (blk_new W0 (.cells #[.bool false] 4)); have S1 := Aside0.mk (And.intro hq hr); clear hb1 hq hr)
      | ((with_reducible refine gate_dst (N := 24) rfl ?_); refine Kd.R_lit (Kd.int .u8) (w0 := W0) W0.heap.size 5 ?hg (N := 24) ?hd (xs := ([] : List Int)) (inner := []) (ok := fun _ => True) (okp := fun _ => True) ?hr ?hp (fun _ hk => hk) trivial S1.out.1 S1.out.1.size (by simp) ?_; (case hd => rfl); (case hg => rfl); (case hr => first | (go_simp; done) | (go_simp; rfl)); (case hp => exact Reps.none _ _); intro v5 w5 ho5 hb5 hg5 hn5; have S2 := Aside0.mk (And.intro hb5 (And.intro (blk_grown0 S1.out.2 hg5) ho5)); clear S1 ho5 hb5 hg5 hn5)
      | ((with_reducible refine gate_dst (N := 25) rfl ?_); refine Kd.R_lit KRb (w0 := W0) W0.heap.size 28 ?hg (N := 25) ?hd (xs := ([] : List Rb)) (inner := []) (ok := fun _ => True) (okp := fun _ => True) ?hr ?hp (fun _ hk => hk) trivial S2.out.1 S2.out.1.size (by simp) ?_; (case hd => rfl); (case hg => rfl); (case hr => first | (go_simp; done) | (go_simp; rfl)); (case hp => exact Reps.none _ _); intro v6 w6 ho6 hb6 hg6 hn6; obtain ⟨A6, c6, e6⟩ := Kd.R_slice ho6; subst e6; have S3 := Aside0.mk (And.intro hb6 (And.intro (blk_grown0 S2.out.2.1 hg6) (And.intro (Kd.R_grown S2.out.2.2 hg6 (fun _ _ => by simp)) ho6))); clear S2 ho6 hb6 hg6 hn6))
    have hB0 := below_alloc S3.out.1 (.cells #[.slice A6 0 c6] 55)
    have hbx : Below w6.heap.size w6 (w6.alloc (.cells #[.slice A6 0 c6] 55)) := below_alloc (Below.refl _ _) _
    have HI0 := Aside0.mk (And.intro hB0 (blk_belowX S3.out.2.1 hbx))
    have HA0 := Aside0.mk (Kd.R_below S3.out.2.2.1 hbx)
    have HK0 := Aside0.mk (And.intro (blk_new w6 (.cells #[.slice A6 0 c6] 55)) (Kd.R_below S3.out.2.2.2 hbx))
    have hg6 : W0.heap.size < w6.heap.size := lt_of_some S3.out.2.1
    clear hB0 hbx S3
    generalize w6.alloc (.cells #[.slice A6 0 c6] 55) = w7 at *
    generalize w6.heap.size = g6 at *
    go_loopw [5, 28] (fun v i wr => ∃ (k : Nat) (A6 : Option Addr) (c6 : Nat), i = .int .i64 (k : Int) ∧ k ≤ ps.length ∧ Aside0 (Kd.R (Kd.int .u8) 5 wr W0.heap.size (fun _ => True) v (flatF ((kept (ps.take k)).map (·.2))))
      ∧ Aside0 (wr.heap[g6]? = some (.cells #[.slice A6 (kept (ps.take k)).length c6] 55 (0, 0)) ∧ Kd.R KRb 28 wr W0.heap.size (fun _ => True) (.slice A6 (kept (ps.take k)).length c6) ((kept (ps.take k)).map (·.1)))
      ∧ Aside0 (Below W0.heap.size W0 wr ∧ wr.heap[W0.heap.size]? = some (.cells #[.bool false] 4 (0, 0))) ∧ Aside0 (∀ p ∈ ps.take k, p.2.2.length ≤ 500)) (fun _ i _ => ps.length - (intOf i).toNat)
    case atStart => exact ⟨0, A6, c6, rfl, Nat.zero_le _, HA0, HK0, HI0, ⟨fun p hp => by simp at hp⟩⟩
    case round =>
      obtain ⟨k, A6, c6, rfl, hk, HA, HK, HI, HS⟩ := hrel
      by_cases hlt : k < ps.length
      · obtain ⟨p, hp⟩ : ∃ p, ps[k]? = some p := ⟨_, List.getElem?_eq_getElem hlt⟩
        obtain ⟨ad, eA, e0, e1⟩ := KRb_at (Kd.C_below M.out.1 HI.out.1) (i := k) (o := p.1) (by rw [List.getElem?_map, hp]; rfl)
        subst eA
        obtain ⟨⟨o1, o2, o3, o4⟩, x1, x2⟩ := p
        have hRb := M.out.2.1 _ (List.mem_of_getElem? hp)
        have hbt := M.out.2.2 _ (List.mem_of_getElem? hp)
        obtain ⟨r1, r2, r3, r4⟩ := hRb
        simp only at e0 e1 r1 r2 r3 r4 hbt
        subst r1; subst r2
        have hllt : (k : Int) < (ps.length : Int) := by omega
        have HP := Aside0.mk (And.intro hp (And.intro r4 hbt))
        clear hp r4 hbt
        by_cases h500 : x2.length > 500
        · have b2 : decide (500 < x2.length) = true := decide_eq_true h500
          have b3 : decide ((500 : Int) < (x2.length : Int)) = true := decide_eq_true (by omega)
          clear h500
          have dR : (wr.alloc (.cells #[.int .i64 o1, .slice o2 x2.length o4] 28)).cell? ⟨W0.heap.size, 0, none⟩ = some (.bool false) := blk_cell (blk_alloc HI.out.2 _) 0
          have fR := blk_frozen (blk_alloc HI.out.2 (.cells #[.int .i64 o1, .slice o2 x2.length o4] 28)) 0
          go_wp2
          exact ⟨_, results_one_cell rfl (blk_put (blk_alloc HI.out.2 _) 0 (.bool true) rfl) rfl, rfl, below_set (below_alloc HI.out.1 _) (Nat.le_refl _)⟩
        · have b2 : decide (500 < x2.length) = false := decide_eq_false h500
          have b3 : decide ((500 : Int) < (x2.length : Int)) = false := decide_eq_false (by omega)
          have hbd := take_bound HP.out.1 HS.out (by simp only; omega)
          have hfl := flat_len (ps := ps) (k := k) (by omega) HS.out
          have hkl := kept_len ps k
          generalize hwf : writeF o1 x2 = wq
          obtain ⟨r, er⟩ := wq
          have HBD := Aside0.mk hbd
          clear hbd
          rcases writeF_err hwf with rfl | ⟨rfl, her⟩
          · have hrl := (writeF_ok hwf).2.2.2.2
            have hkt := kept_take_ok HP.out.1 (by unfold okW; simp only; rw [hwf]; rfl)
            have hf1 : flatF ((kept (ps.take (k + 1))).map (·.2)) = flatF ((kept (ps.take k)).map (·.2)) ++ r := by
              rw [hkt, List.map_append, flatF_append]; simp [flatF, hwf]
            have hk1 : (kept (ps.take (k + 1))).map (·.1) = (kept (ps.take k)).map (·.1) ++ [(o1, o2, x2.length, o4)] := by rw [hkt, List.map_append]; rfl
            have hk2 : (kept (ps.take (k + 1))).length = (kept (ps.take k)).length + 1 := by rw [hkt, List.length_append]; rfl
            have HF := Aside0.mk (And.intro hwf (And.intro hf1 (And.intro hk1 hk2)))
            clear hwf hkt hf1 hk1 hk2
            have hx25 : x2.length ≤ 500 := by omega
            have hrl2 : r.length ≤ 507 := by omega
            clear hrl h500
            go_wp2_with (first
              | (go_at_call 9; (with_reducible refine (Write_eq _ _ _ x2.length r.length x2 r 0 _ ?s1 ?s2 ?s3 ?s4 ?s5).mono ?_); (case s1 => rfl); (case s2 => rfl); (case s3 => exact HF.out.1); (case s4 => exact Kd.C_alloc (Kd.C_below HP.out.2.1 HI.out.1) _); (case s5 => exact r3); rintro e w2 ⟨A2, c2, rfl, hc2, hr2, hb2⟩; have hq := below_step (below_alloc (Below.refl _ _) _) hb2; have S2 := Aside0.mk (And.intro (below_step HI.out.1 hq) (And.intro (blk_belowX HI.out.2 hq) (And.intro (blk_belowX HK.out.1 hq) (And.intro (Kd.R_below HK.out.2 hq) (And.intro ((hb2.block wr.heap.size (by simp)).trans (blk_new wr (.cells #[.int .i64 o1, .slice o2 x2.length o4] 28))) (And.intro (Kd.R_below HA.out hq) hr2)))))); clear hr2 hb2 hq)
              | ((with_reducible refine gate_builtin (b := .append) (xs := #[.tmp 43, .tmp 44]) rfl ?_); at_builtin; refine Kd.R_append_rows (Kd.int .u8) (w0 := W0) W0.heap.size rfl (.tmp 43) (.tmp 44) 22 5 (.int .u8 0) 1 rfl Try.underlying22 info_u8 rfl (by decide) (by omega) u5 (flatF ((kept (ps.take k)).map (·.2))) r A2 r.length c2 (fun _ => True) (fun _ => False) rfl rfl S2.out.2.2.2.2.2.1 S2.out.2.2.2.2.2.2 (fun _ _ h => h) (fun _ h => h.elim) (fun _ _ => trivial) S2.out.1 S2.out.1.size (by omega) ?_; intro v3 w3 ho3 hb3 hg3 hat3; have S3 := Aside0.mk (And.intro hb3 (And.intro (blk_grown S2.out.2.2.2.2.2.1 S2.out.2.1 (by decide) hg3) (And.intro (blk_grown S2.out.2.2.2.2.2.1 S2.out.2.2.1 (by decide) hg3) (And.intro (R_other S2.out.2.2.2.1 S2.out.2.2.2.2.2.1 (by decide) hg3) ho3)))); have hfb := blk_grown S2.out.2.2.2.2.2.1 S2.out.2.2.2.2.1 (by decide) hg3; have dF0 := blk_cell hfb 0; have dF1 := blk_cell hfb 1; have d6 := blk_cell S3.out.2.2.1 0; simp at dF0 dF1 d6; clear S2 ho3 hb3 hg3 hat3 hfb)
              | ((with_reducible refine gate_builtin (b := .append) (xs := #[.tmp 46, .tmp 48]) rfl ?_); at_builtin; refine Kd.R_append KRb (w0 := W0) W0.heap.size rfl (.tmp 46) (.tmp 48) 55 28 (.agg #[.int .i64 0, .slice none 0 0]) 32 rfl Try.underlying55 info_fr rfl (by decide) (by decide) (.slice A6 (kept (ps.take k)).length c6) ((kept (ps.take k)).map (·.1)) (o1, o2, x2.length, o4) [.int .i64 o1, .slice o2 x2.length o4] (fun _ => True) (fun _ => False) rfl rfl rfl (fun _ h => h.elim) (fun _ _ => trivial) S3.out.2.2.2.1 S3.out.1 S3.out.1.size ?aL ?_; (case aL => rw [List.length_map]; omega); intro v4 w4 ho4 hb4 hg4 hat4; have S4 := Aside0.mk (And.intro hb4 (And.intro (blk_grown S3.out.2.2.2.1 S3.out.2.1 (by decide) hg4) (And.intro (blk_grown S3.out.2.2.2.1 S3.out.2.2.1 (by decide) hg4) (R_other S3.out.2.2.2.2 S3.out.2.2.2.1 (by decide) hg4)))); rw [← HF.out.2.2.1] at ho4; obtain ⟨A7, c7, e7⟩ := Kd.R_slice ho4; rw [List.length_map] at e7; subst e7; have HO4 := Aside0.mk ho4; have d6' := blk_cell S4.out.2.2.1 0; have f6' := blk_frozen S4.out.2.2.1 0; simp at d6'; clear S3 ho4 hb4 hg4 hat4))
            have hv := Kd.R_set (v := v3) S4.out.2.2.2 S4.out.2.2.1 (by decide) 0 (.slice A7 (kept (ps.take (k + 1))).length c7)
            rw [← HF.out.2.1] at hv
            refine ⟨⟨k + 1, A7, c7, by go_num, by omega, ⟨hv⟩, ⟨blk_put S4.out.2.2.1 0 _ rfl, Kd.R_set HO4.out S4.out.2.2.1 (by decide) 0 _⟩, ⟨below_set S4.out.1 (Nat.le_of_lt hg6), blk_far (p := ⟨g6, 0, none⟩) S4.out.2.1 (Nat.ne_of_lt hg6) _⟩, HBD⟩, ?_⟩
            simp [intOf]; omega
          · have hne : (er == 0) = false := by rcases her with rfl | rfl <;> rfl
            have hne2 : er ≠ 0 := by rcases her with rfl | rfl <;> decide
            have hkt := kept_take_no HP.out.1 (by unfold okW; simp only; rw [hwf]; exact hne)
            have HF := Aside0.mk (And.intro hwf hkt)
            clear hwf hkt her h500
            go_wp2_with (first
              | (go_at_call 9; (with_reducible refine (Write_eq _ _ _ x2.length 0 x2 [] er _ ?s1 ?s2 ?s3 ?s4 ?s5).mono ?_); (case s1 => rfl); (case s2 => rfl); (case s3 => exact HF.out.1); (case s4 => exact Kd.C_alloc (Kd.C_below HP.out.2.1 HI.out.1) _); (case s5 => exact r3); rintro e w2 ⟨A2, c2, rfl, hc2, hr2, hb2⟩; have hq := below_step (below_alloc (Below.refl _ _) _) hb2; have S2 := Aside0.mk (And.intro (below_step HI.out.1 hq) (And.intro (blk_belowX HI.out.2 hq) (And.intro (blk_belowX HK.out.1 hq) (And.intro (Kd.R_below HK.out.2 hq) (Kd.R_below HA.out hq))))); clear hr2 hb2 hq))
            refine ⟨⟨k + 1, A6, c6, by go_num, by omega, ⟨by rw [HF.out.2]; exact S2.out.2.2.2.2⟩, ⟨by rw [HF.out.2]; exact S2.out.2.2.1, by rw [HF.out.2]; exact S2.out.2.2.2.1⟩, ⟨S2.out.1, S2.out.2.1⟩, HBD⟩, ?_⟩
            simp [intOf]; omega
      · obtain rfl : k = ps.length := by omega
        rw [List.take_length] at HA HK HS
        have hfl := flat_len (ps := ps) (k := ps.length) hl (by rw [List.take_length]; exact HS.out)
        have hkl := kept_len ps ps.length
        rw [List.take_length] at hfl hkl
        have hbf : Bts (flatF ((kept ps).map (·.2))) := bts_flatF _ (fun x hx => by
          obtain ⟨p, hp, rfl⟩ := List.mem_map.1 hx
          exact M.out.2.2 p (List.mem_filter.1 hp).1) (kept_ok ps)
        have hj0 : 0 ≤ x % 11 := Int.emod_nonneg _ (by decide)
        have hj1 : x % 11 < 11 := Int.emod_lt_of_pos _ (by decide)
        generalize hjj : x % 11 = j at hj0 hj1
        have htm : x.tmod 11 = j := by rw [Int.tmod_eq_emod_of_nonneg hx0, hjj]
        have h21 : (readF (B11.take j.toNat)).2.2.2 = 21 := by rw [back_cut fm1 j.toNat (by show j.toNat < 11; omega)]
        have hsf := scanF_join (B11.take j.toNat) h21 ((kept ps).map (·.2)) (kept_ok ps)
        have hee := endErr_join (B11.take j.toNat) h21 ((kept ps).map (·.2)) (kept_ok ps)
        have htl : (B11.take j.toNat).length = j.toNat := by rw [List.length_take]; show min j.toNat 11 = _; omega
        have hbt := bts_append hbf (bts_take (bts_writeF (kind := 1) (l := MORE) (by unfold Bts MORE; decide) fm1) j.toNat)
        have hte : B11.take j.toNat = [] ↔ j.toNat = 0 := by rw [← List.length_eq_zero_iff, htl]
        clear hbf h21
        generalize hfq : flatF ((kept ps).map (·.2)) = fl at HA hfl hsf hee hbt
        have hal : (fl ++ B11.take j.toNat).length = fl.length + j.toNat := by rw [List.length_append, htl]
        obtain ⟨all, hall⟩ : ∃ all, fl ++ B11.take j.toNat = all := ⟨_, rfl⟩
        rw [hall] at hsf hee hbt hal
        have hal2 : all.length ≤ 1000000 := by omega
        have HX := Aside0.mk (And.intro hsf (And.intro hee (And.intro hte (And.intro htl (And.intro hbt (And.intro hal hall))))))
        clear hsf hee hte htl hbt hal hall
        obtain ⟨A5, c5, e5⟩ := Kd.R_slice HA.out
        subst e5
        obtain ⟨i0, hi0, _, hsz, _⟩ := info_parts info_u8
        have hcut := fun (A : Option Addr) (c : Nat) (hc : B11.length ≤ c) => (print_take_of (P := Try.prog) (Value.int .u8) 0 22 5 .i64 Try.underlying22 hi0 hsz A c B11 j (by omega) (by show j ≤ ((11 : Nat) : Int); omega) hc).1
        rw [HX.out.2.2.2.1] at hcut
        have HC := Aside0.mk hcut
        have hfle : (fl.length : Int) ≤ 5070 := by omega
        clear hcut hi0 hsz
        have kc := fun (W : World) (C : Array Value) (n c : Nat) => Lib.run_convert_bytes_const (P := Try.prog) W 22 5 C n c Try.underlying22 Try.underlying5
        go_wp2_with (first
          | (go_at_call 9; (with_reducible refine (Write_eq _ _ _ 4 11 MORE B11 0 _ ?s1 ?s2 ?s3 ?s4 ?s5).mono ?_); (case s1 => rfl); (case s2 => rfl); (case s3 => exact fm1); (case s4 => exact C_lit _ MORE _ _ (by simp [MORE])); (case s5 => exact Nat.le_refl _); rintro e w2 ⟨A2, c2, rfl, hc2, hr2, hb2⟩; have hcut := HC.out A2 c2 hc2; have hq := below_step (below_alloc (Below.refl _ _) _) hb2; have S2 := Aside0.mk (And.intro (below_step HI.out.1 hq) (And.intro (blk_belowX HI.out.2 hq) (And.intro (blk_belowX HK.out.1 hq) (And.intro (Kd.R_below HK.out.2 hq) (And.intro (Kd.R_below HA.out hq) hr2))))); clear hr2 hb2 hq HC)
          | ((with_reducible refine gate_builtin (b := .append) (xs := #[.tmp 60, .tmp 67]) rfl ?_); at_builtin; refine Kd.R_append_rows (Kd.int .u8) (w0 := W0) W0.heap.size rfl (.tmp 60) (.tmp 67) 22 5 (.int .u8 0) 1 rfl Try.underlying22 info_u8 rfl (by decide) (by omega) (.slice A5 fl.length c5) fl (B11.take j.toNat) A2 j.toNat c2 (fun _ => True) (fun _ => False) rfl rfl S2.out.2.2.2.2.1 (C_take_n S2.out.2.2.2.2.2 HX.out.2.2.2.1 (by show j.toNat ≤ 11; omega)) (fun _ _ h => h) (fun _ h => h.elim) (fun _ _ => trivial) S2.out.1 S2.out.1.size (by omega) ?_; intro v3 w3 ho3 hb3 hg3 hat3; rw [HX.out.2.2.2.2.2.2] at ho3; obtain ⟨A3, c3, e3⟩ := Kd.R_slice ho3; subst e3; have S3 := Aside0.mk (And.intro hb3 (And.intro (blk_grown S2.out.2.2.2.2.1 S2.out.2.1 (by decide) hg3) (And.intro (blk_grown S2.out.2.2.2.2.1 S2.out.2.2.1 (by decide) hg3) (And.intro (R_other S2.out.2.2.2.1 S2.out.2.2.2.2.1 (by decide) hg3) ho3)))); clear S2 ho3 hb3 hg3 hat3)
          | (go_at_call 18; refine (Scan_calls _ _ _ _).mono ?_; rintro e w8 ⟨rfl, rfl⟩))
        obtain ⟨s1, s2, s3, s4, s5⟩ := S3.out
        have hx2 : Below w3.heap.size w3 ((w3.alloc (.cells #[.int .i64 0] 3)).alloc (.cells #[.slice A3 all.length c3] 22)) := below_alloc (below_alloc (Below.refl _ _) _) _
        have hre := blk_belowX s2 hx2
        have h6 := blk_belowX s3 hx2
        have hbi := blk_alloc (blk_new w3 (.cells #[.int .i64 0] 3)) (.cells #[.slice A3 all.length c3] 22)
        have hsc := blk_new2 w3 (.cells #[.int .i64 0] 3) (.cells #[.slice A3 all.length c3] 22)
        have hB9 := below_step s1 hx2
        have hsz : ((w3.alloc (.cells #[.int .i64 0] 3)).alloc (.cells #[.slice A3 all.length c3] 22)).heap.size = w3.heap.size + 2 := by rw [World.size_alloc, World.size_alloc]
        have hk6 := Kd.R_below s4 hx2
        have ht6 := Ty.of_R hk6
        have hkA := Kd.R_below s5 hx2
        have htA := Ty.of_R hkA
        obtain ⟨A6', c6', e6', hc6, hC6⟩ := R_C hk6
        rw [List.length_map] at e6'
        injection e6' with e6a _ e6c
        subst e6a; subst e6c
        rw [List.length_map] at hC6 hc6
        obtain ⟨A3', c3', e3', hc3, hC3⟩ := R_C hkA
        injection e3' with e3a _ e3c
        subst e3a; subst e3c
        have hg63 : g6 < w3.heap.size := lt_of_some s3
        have hWg : W0.heap.size < w3.heap.size := lt_of_some s2
        clear s1 s2 s3 s4 s5 S3 hx2 hk6 hkA HI0 HA0 HK0 HA HK HI kc
        generalize ((w3.alloc (.cells #[.int .i64 0] 3)).alloc (.cells #[.slice A3 all.length c3] 22)) = w9 at *
        generalize w3.heap.size = gi at *
        have hszl : gi + 2 ≤ w9.heap.size := by omega
        clear hsz
        have hty : ∀ (t : TypeId), t ≠ 3 → ∀ (W : World), (∀ k, k < w9.heap.size → k ≠ gi → W.heap[k]? = w9.heap[k]?) → ∀ (i : Nat) (cs : Array Value) (z : Nat × Nat), w9.heap[i]? = some (Obj.cells cs t z) → W.heap[i]? = w9.heap[i]? := fun t ht W hW i cs z hi =>
          hW i (lt_of_some hi) (fun e => by rw [e, hbi] at hi; injection hi with hi; injection hi with _ hi _; exact ht hi.symm)
        refine (wpIn_wide (n := 5)).1 (rangeX rfl (by omega) (gf := 27) (lb := #[.pointer (some ⟨gi + 1, 0, none⟩)]) rfl trivial (enters_of Try.func27 (by kernel_rfl) rfl)
          (Y := FrY all) (n₀ := w9.heap.size) (Kb := fun k => k ≠ gi) (S := fun xs => xs = scanF all) (Sp := fun _ => True)
          (Scan1_seq 4 all HX.out.2.2.2.2.1 hal2 A3 c3 hc3 (gi + 1) w9.heap.size (fun k => k ≠ gi) w9
            (fun W hk => by rw [blk_cell ((hk.2 (gi + 1) (by omega) (by omega)).trans hsc) 0]; rfl)
            (fun W hk => C_ty htA hC3 (hty _ (by decide) W hk.2)) (Nat.le_refl _)) (Nat.le_refl _)
          (fun _ _ _ _ hy => by obtain ⟨_, A3, c3, rfl, _⟩ := hy; rfl)
          (fun pre W => W.heap[gi]? = some (.cells #[.int .i64 (pre.length : Int)] 3 (0, 0)) ∧ Oth gi w9 W)
          (fun _ _ _ => False)
          (fun s P Q h hlie => ⟨hlie.blk h.1, h.2.lies hlie (Nat.le_refl _)⟩) (fun _ _ _ _ h _ => h)
          ⟨hbi, Oth.refl _ _⟩ ?round ?done (fun _ _ _ _ _ _ h _ => h.elim))
        case round =>
          rintro l' pre ⟨xa, xk, xb⟩ vs W hl2 ⟨hI1, hI2⟩ ⟨hpre, A8, c8, rfl, hc8, hr8⟩ hWs
          simp only at hc8 hr8
          gi_wp2
          refine ⟨KeepsFrom.of_below (below_alloc (Below.refl _ _) _), Kp.of_below (below_alloc (Below.refl _ _) _) (by omega), ?_⟩
          intro Wb hlie
          have g1 := hlie.blk (blk_new W (.cells #[.int .i64 xk, .slice A8 xb.length c8] 28))
          have g2 := hlie.blk (blk_alloc hI1 (.cells #[.int .i64 xk, .slice A8 xb.length c8] 28))
          have gO := (hI2.trans (Oth.of_below (below_alloc (Below.refl _ _) (.cells #[.int .i64 xk, .slice A8 xb.length c8] 28)))).lies hlie (Nat.le_refl _)
          have hCb := hlie.C (Kd.C_alloc hr8 (.cells #[.int .i64 xk, .slice A8 xb.length c8] 28))
          have hidx : (scanF all)[pre.length]? = some (xa, xk, xb) := by
            obtain ⟨r, hr⟩ := hpre
            rw [← hr, List.append_assoc, List.getElem?_append_right (Nat.le_refl _), Nat.sub_self]; rfl
          rw [HX.out.1.1] at hidx
          have hkg := posF_get _ _ _ _ hidx
          rw [List.getElem?_map] at hkg
          obtain ⟨p, hp, hp2⟩ : ∃ p, (kept ps)[pre.length]? = some p ∧ p.2 = (xk, xb) := by
            cases hq : (kept ps)[pre.length]? with
            | none => rw [hq] at hkg; cases hkg
            | some q => rw [hq] at hkg; exact ⟨q, rfl, by injection hkg⟩
          have hlt2 := (List.getElem?_eq_some_iff.1 hp).1
          obtain ⟨ad, eA, e0, e1⟩ := KRb_at (KRb_ty ht6 hC6 (hty _ (by decide) Wb gO.block)) (i := pre.length) (o := p.1) (by rw [List.getElem?_map, hp]; rfl)
          subst eA
          obtain ⟨⟨o1, o2, o3, o4⟩, x1, x2⟩ := p
          obtain ⟨r1, r2, r3, r4⟩ := M.out.2.1 _ (List.mem_filter.1 (List.mem_of_getElem? hp)).1
          simp only at e0 e1 r1 r2 r3 r4 hp2
          subst r1; subst r2
          injection hp2 with q1 q2
          subst q1; subst q2
          have o5 := Kd.C_below r4 (gO.below hB9 (by omega))
          have g3 := gO.blk h6 (by omega)
          have d1 := blk_cell g1 0
          have d1' := blk_cell g1 1
          have d2 := blk_cell g2 0
          have f2 := blk_frozen g2 0
          have d3 := blk_cell g3 0
          simp at d1 d1' d2 d3
          have hll : (pre.length : Int) < ((kept ps).length : Int) := by omega
          have bge : decide (((kept ps).length : Int) ≤ (pre.length : Int)) = false := decide_eq_false (by omega)
          have bge' : decide ((kept ps).length ≤ pre.length) = false := decide_eq_false (by omega)
          have GG := Aside0.mk (And.intro g1 (And.intro g2 (And.intro gO (And.intro hCb o5))))
          clear g1 g2 g3 gO hCb o5 hI1 hI2 hlie hty hkg hidx hp hre h6 hbi hsc hB9 ht6 htA hC6 hC3 htm hjj hfq
          refine wpIn_block ?_
          refine wpIn_seq_k ?_
          intro K1 hK1
          refine wpIn_seq_k ?_
          intro K2 hK2
          rq_quiet ((gi_at_call 11; exact CallsIn.quiet_of (callsIn_wide.2 (Same_dr _ _ _ _ x2.length x2.length x2 x2 _ rfl rfl true (decide_eq_true rfl) (Kd.C_drewN GG.out.2.2.2.1 _) (Kd.C_drewN GG.out.2.2.2.2 _)))))
          refine hK2 _ _ ?_
          gi_wp2
          have hK0 : KeepsFrom w9.heap.size Wb ((Wb.drewN nq).setCell ⟨gi, 0, none⟩ (.int .i64 ((pre.length : Int) + 1))) := (KeepsFrom.of_below (pw_below_drewN (Below.refl _ _) nq)).trans (KeepsFrom.set _ _ _ _)
          have hset : ((Wb.drewN nq).setCell ⟨gi, 0, none⟩ (.int .i64 ((pre.length : Int) + 1))).heap[gi]? = some (.cells #[.int .i64 (((pre ++ [(xa, o1, x2)]).length : Nat) : Int)] 3 (0, 0)) := by
            rw [show (((pre ++ [(xa, o1, x2)]).length : Nat) : Int) = (pre.length : Int) + 1 by simp]
            exact blk_put (w := Wb.drewN nq) GG.out.2.1 0 (.int .i64 ((pre.length : Int) + 1)) rfl
          have hoth := (GG.out.2.2.1.trans (Oth.of_below (pw_below_drewN (Below.refl _ _) nq))).trans (Oth.set (Wb.drewN nq) ⟨gi, 0, none⟩ (.int .i64 ((pre.length : Int) + 1)))
          exact And.intro hK0 (And.intro ((Kp.of_below (pw_below_drewN (Below.refl _ _) nq) GG.out.2.2.1.size).trans (Kp.set (fun h => absurd rfl h) _)) (And.intro hset hoth))
        case done =>
          rintro D xs W hD hS ⟨hI1, hI2⟩ hK
          have hlen : xs.length = (kept ps).length := by rw [hS, HX.out.1.1, posF_len, List.length_map]
          rw [hlen] at hI1
          have g2 := hI2.blk hre (by omega)
          have g3 := hI2.blk h6 (by omega)
          have hCa := C_ty htA hC3 (hty _ (by decide) W hI2.block)
          have hDr := hI2.below hB9 (by omega)
          have hDl := lt_of_some hK
          have hDw : W0.heap.size < D := by omega
          have G := Aside0.mk (And.intro g2 (And.intro hDr (And.intro hK (And.intro hCa (And.intro g3 hI1)))))
          obtain ⟨er, her, hcs⟩ : ∃ er, endErr all = er ∧ ((er = 0 ∧ all.length = fl.length) ∨ (er = 21 ∧ all.length ≠ fl.length)) := by
            refine ⟨_, rfl, ?_⟩
            rw [HX.out.2.1]
            by_cases hj : j.toNat = 0
            · rw [if_pos (HX.out.2.2.1.2 hj)]
              exact .inl ⟨rfl, by rw [HX.out.2.2.2.2.2.1]; omega⟩
            · rw [if_neg (fun e => hj (HX.out.2.2.1.1 e))]
              exact .inr ⟨rfl, by rw [HX.out.2.2.2.2.2.1]; omega⟩
          have HE := Aside0.mk her
          clear her g2 g3 hDr hK hCa hI1 hI2 hre h6 hbi hsc hB9 ht6 htA hC6 hC3 htm hjj hfq hS hlen
          rcases hcs with ⟨rfl, hle⟩ | ⟨rfl, hle⟩
          · have q1 : ((all.length : Int) == (fl.length : Int)) = true := beq_iff_eq.2 (by omega)
            have q2 : (all.length == fl.length) = true := beq_iff_eq.2 hle
            have q3 : decide (all.length = fl.length) = true := decide_eq_true hle
            have q4 : decide ((all.length : Int) = (fl.length : Int)) = true := decide_eq_true (by omega)
            clear hle
            go_wp2_with (first
              | (go_at_call 17; (with_reducible refine (End_eq _ _ all.length all fl.length 0 _ ?s1 ?s2 ?s3 ?s4 ?s5 ?s6 ?s7).mono ?_); (case s1 => rfl); (case s2 => rw [HX.out.1.2]); (case s3 => exact HE.out); (case s4 => exact G.out.2.2.2.1); (case s5 => exact hc3); (case s6 => exact HX.out.2.2.2.2.1); (case s7 => exact hal2); rintro e w2 ⟨rfl, hb2⟩; have hr2 := blk_belowX G.out.1 hb2; have dr := blk_cell hr2 0; have fr := blk_frozen hr2 0; have d2 := blk_cell (blk_belowX G.out.2.2.2.2.1 hb2) 0; have d3 := blk_cell (blk_belowX G.out.2.2.2.2.2 hb2) 0; simp at dr d2 d3; have S := Aside0.mk (And.intro hr2 (And.intro (below_step G.out.2.1 hb2) (blk_belowX G.out.2.2.1 hb2))); clear hb2 hr2))
            have hK' := (Below.heap_setCell w2 ⟨W0.heap.size, 0, none⟩ (.bool true) D (by show D ≠ W0.heap.size; omega)).trans S.out.2.2
            refine ⟨by simp, .inl ⟨_, _, rfl, run_takeDeferred hK', ?_⟩⟩
            exact ⟨_, results_one_cell rfl ((World.putObj_heap_other (by omega)).trans (blk_put S.out.1 0 (.bool true) rfl)) rfl, rfl, belowK_t (below_set S.out.2.1 (Nat.le_refl _)) (belowK_b (w := W0) (Nat.le_refl _) _ D _ _ (by omega) hK' rfl rfl)⟩
          · have q1 : ((all.length : Int) == (fl.length : Int)) = false := by rw [beq_eq_false_iff_ne]; omega
            have q2 : (all.length == fl.length) = false := by rw [beq_eq_false_iff_ne]; exact hle
            have q3 : decide (all.length = fl.length) = false := decide_eq_false hle
            have q4 : decide ((all.length : Int) = (fl.length : Int)) = false := decide_eq_false (by omega)
            clear hle
            go_wp2_with (first
              | (go_at_call 17; (with_reducible refine (End_eq _ _ all.length all fl.length 21 _ ?s1 ?s2 ?s3 ?s4 ?s5 ?s6 ?s7).mono ?_); (case s1 => rfl); (case s2 => rw [HX.out.1.2]); (case s3 => exact HE.out); (case s4 => exact G.out.2.2.2.1); (case s5 => exact hc3); (case s6 => exact HX.out.2.2.2.2.1); (case s7 => exact hal2); rintro e w2 ⟨rfl, hb2⟩; have hr2 := blk_belowX G.out.1 hb2; have dr := blk_cell hr2 0; have fr := blk_frozen hr2 0; have d2 := blk_cell (blk_belowX G.out.2.2.2.2.1 hb2) 0; have d3 := blk_cell (blk_belowX G.out.2.2.2.2.2 hb2) 0; simp at dr d2 d3; have S := Aside0.mk (And.intro hr2 (And.intro (below_step G.out.2.1 hb2) (blk_belowX G.out.2.2.1 hb2))); clear hb2 hr2))
            have hK' := (Below.heap_setCell w2 ⟨W0.heap.size, 0, none⟩ (.bool true) D (by show D ≠ W0.heap.size; omega)).trans S.out.2.2
            refine ⟨by simp, .inl ⟨_, _, rfl, run_takeDeferred hK', ?_⟩⟩
            exact ⟨_, results_one_cell rfl ((World.putObj_heap_other (by omega)).trans (blk_put S.out.1 0 (.bool true) rfl)) rfl, rfl, belowK_t (below_set S.out.2.1 (Nat.le_refl _)) (belowK_b (w := W0) (Nat.le_refl _) _ D _ _ (by omega) hK' rfl rfl)⟩
end Go.Proofs.Ytagjnjdaookdgaa.MFrameJoins
