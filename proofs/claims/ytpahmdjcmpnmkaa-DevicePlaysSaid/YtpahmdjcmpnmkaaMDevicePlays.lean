/- DevicePlays: whatever the capacity and the steps, the statement's function answers true. No condition. -/
import Derived.Test.YtpahmdjcmpnmkaaDevP
namespace Go.Proofs.Ytpahmdjcmpnmkaa.MDevicePlays
open Go.RowKit Go.Proofs.YtpahmdjcmpnmkaaW.PrintWords Go.Proofs.YtpahmdjcmpnmkaaW.PrintLast Go.Proofs.YtpahmdjcmpnmkaaW.PrintMore Go.Proofs.Ytpahmdjcmpnmkaa.H
set_option linter.unusedVariables false
set_option linter.unusedSimpArgs false

theorem opens : Opens Try.prog 22 (Kd.slice 33 (Kd.pair (Kd.int .i64) (Kd.pair (Kd.int .i64) (Kd.pair (Kd.int .i64) (Kd.slice 5 (Kd.int .u8)))))) (fun l => ∀ x ∈ l, (Lit.int .i64 x.1).wf = true ∧ (Lit.int .i64 x.2.1).wf = true ∧ (Lit.int .i64 x.2.2.1).wf = true ∧ ∀ y ∈ x.2.2.2, (Lit.int .u8 y).wf = true) := opens_ops
set_option maxHeartbeats 3200000 in
theorem main (cap : Int) (wf : (Lit.int .i64 cap).wf = true)
    (A : Option Addr) (c : Nat) (os : List (Int × Int × Int × List Int)) (hc : os.length ≤ c) {W0 : World} (m : Kd.C (Kd.pair (Kd.int .i64) (Kd.pair (Kd.int .i64) (Kd.pair (Kd.int .i64) (Kd.slice 5 (Kd.int .u8))))) W0 A os.length os) (g : ∀ x ∈ os, (Lit.int .i64 x.1).wf = true ∧ (Lit.int .i64 x.2.1).wf = true ∧ (Lit.int .i64 x.2.2.1).wf = true ∧ ∀ y ∈ x.2.2.2, (Lit.int .u8 y).wf = true) (W : World) (hW : W0 = W := by rfl) :
    Calls Try.prog 3 #[.int .i64 cap, .slice A os.length c] W fun e W' => e = .returned (.bool true) ∧ Below W.heap.size W W' := by
  subst hW
  have hN : ∀ o ∈ os, o.2.2.1 ≤ 9223372036854775807 := fun o ho => (wf_i64 (g o ho).2.2.1).2
  have M := Aside0.mk m
  clear m g wf
  by_cases hs : os.length ≤ 40 ∧ tot os ≤ 3000
  · obtain ⟨hl40, ht⟩ := hs
    obtain ⟨d0, hd0⟩ : ∃ d, (⟨[], [], capC cap, -1, false, 0⟩ : Dv) = d := ⟨_, rfl⟩
    have hfit : ∀ k, k ≤ os.length → (playD d0 (os.take k)).fit 500000 1000000000000 := fun k hk => by
      have h1 := tot_le os k
      exact (fit_play (fit_new hd0) hN ht k hk).wide (by omega) (by omega)
    have HF := Aside0.mk (And.intro hd0 (And.intro hfit ht))
    clear hN hfit hd0 ht
    go_enter Try.func3, Try.ntmps3
    go_wp2_with (first
      | (go_at_call 6; refine (alive4_calls _).mono ?_; rintro e w1 ⟨rfl, hb1⟩; have S1 := Aside0.mk hb1; clear hb1)
      | (go_at_call 7; refine (small4_eq A c os true _ (decide_eq_true ⟨hl40, HF.out.2.2⟩) (Kd.C_below M.out S1.out) hc).mono ?_; rintro e w2 ⟨rfl, hb2⟩; have S2 := Aside0.mk (below_step S1.out hb2); clear S1 hb2)
      | (go_at_call 8; refine (New_calls _ _).mono ?_; rintro e w3 ⟨rfl, hd3, hb3⟩; rw [HF.out.1] at hd3; have hlt3 := hd3.lt; have hge3 : W0.heap.size ≤ w2.heap.size := below_size S2.out; have S3 := Aside0.mk (And.intro (below_step S2.out hb3) hd3); clear S2 hd3 hb3)
      | (go_at_call 9; refine (RNew_eq _ d0 _ HF.out.1).mono ?_; rintro e w4 ⟨rfl, hr4, hb4⟩; have hb4' := hb4.size; have S4 := Aside0.mk (And.intro (below_step S3.out.1 hb4) (And.intro (S3.out.2.below hb4) hr4)); clear S3 hr4 hb4))
    have hx6 : RvB (w4.alloc (.cells (rvCells none 0 none 0 d0) 29)) w4.heap.size none 0 none 0 d0 := blk_new w4 _
    have hb6 : Below w4.heap.size w4 (w4.alloc (.cells (rvCells none 0 none 0 d0) 29)) := below_alloc (Below.refl _ _) _
    have H6 := Aside0.mk (And.intro hx6 (And.intro (S4.out.2.2.below hb6) (And.intro (S4.out.2.1.below hb6) (below_step S4.out.1 hb6))))
    have hg : w2.heap.size < w4.heap.size := by omega
    have hf0 := HF.out.2.1 0 (Nat.zero_le _)
    rw [List.take_zero, show playD d0 [] = d0 from rfl] at hf0
    have ha0 : d0.a.length ≤ 1000000 := by have := hf0.a; omega
    have hb0 : d0.b.length ≤ 1000000 := by have := hf0.b; omega
    clear hx6 hb6 S4 hlt3 hb4' hf0
    generalize w4.alloc (.cells (rvCells none 0 none 0 d0) 29) = w6 at *
    generalize w4.heap.size = g6 at *
    generalize w2.heap.size = gd at *
    have hg6 : W0.heap.size ≤ g6 := by omega
    go_wp2_with (first
      | (go_at_call 10; refine (same4_calls gd d0 none 0 none 0 _ H6.out.2.2.1 H6.out.2.1 ha0 hb0).mono ?_; rintro e w7 ⟨rfl, hb7⟩; have H7 := Aside0.mk (And.intro (RvB.of H6.out.1 hb7) (And.intro (H6.out.2.1.below hb7) (And.intro (H6.out.2.2.1.below hb7) (below_step H6.out.2.2.2 hb7)))); clear H6 hb7))
    go_loopw [26] (fun i wr => ∃ (k : Nat) (A0 : Option Addr) (c0 : Nat) (A1 : Option Addr) (c1 : Nat) (d : Dv), i = .int .i64 (k : Int) ∧ k ≤ os.length ∧ Aside0 (playD d0 (os.take k) = d) ∧ Aside0 (RvB wr g6 A0 c0 A1 c1 d ∧ RvOf wr A0 c0 A1 c1 d ∧ DevAt wr gd d ∧ Below W0.heap.size W0 wr)) (fun i _ => os.length - (intOf i).toNat)
    case atStart => exact ⟨0, none, 0, none, 0, d0, rfl, Nat.zero_le _, ⟨rfl⟩, H7⟩
    case round =>
      obtain ⟨k, A0, c0, A1, c1, d, rfl, hk, HD, HW⟩ := hrel
      by_cases hlt : k < os.length
      · obtain ⟨o, ho⟩ : ∃ o, os[k]? = some o := ⟨_, List.getElem?_eq_getElem hlt⟩
        obtain ⟨q, r, z, l⟩ := o
        obtain ⟨ad, A3, c3, eA, e0, e1, e2, e3, hc3, hC3⟩ := op_at M.out hlt ho
        subst eA
        replace e0 := (HW.out.2.2.2.cell (World.block_lt_of_cell? W0 _ e0)).trans e0
        replace e1 := (HW.out.2.2.2.cell (World.block_lt_of_cell? W0 _ e1)).trans e1
        replace e2 := (HW.out.2.2.2.cell (World.block_lt_of_cell? W0 _ e2)).trans e2
        replace e3 := (HW.out.2.2.2.cell (World.block_lt_of_cell? W0 _ e3)).trans e3
        have hllt : (k : Int) < (os.length : Int) := by omega
        have hpt := play_take (d := d0) ho
        rw [HD.out] at hpt
        generalize hd' : doD d (q, r, z, l) = d' at hpt
        have hf := HF.out.2.1 k hk
        rw [HD.out] at hf
        have hf' := HF.out.2.1 (k + 1) hlt
        rw [hpt] at hf'
        have ha' : d'.a.length ≤ 1000000 := by have := hf'.a; omega
        have hb' : d'.b.length ≤ 1000000 := by have := hf'.b; omega
        have hl5 : l.length ≤ 500000 := by
          have h1 := tot_le os (k + 1)
          rw [tot_take ho] at h1
          have h2 := HF.out.2.2
          simp only at h1; omega
        have hq8 : Below wr.heap.size wr (wr.alloc (.cells (opCells q r z A3 l.length c3) 33)) := below_alloc (Below.refl _ _) _
        have hx8 := RvB.of HW.out.1 hq8
        obtain ⟨k0, k1, k2, k3, k4, k5⟩ := hx8.cells
        have H8 := Aside0.mk (And.intro hx8 (And.intro (HW.out.2.1.below hq8) (And.intro (HW.out.2.2.1.below hq8) (below_step HW.out.2.2.2 hq8))))
        have HO := Aside0.mk (And.intro hC3 (And.intro hpt (And.intro hd' hf)))
        clear ho hC3 hpt hd' hf hf' hq8 hx8
        go_wp2_with (first
          | (go_at_call 11; refine (do_eq gd d d' A0 c0 A1 c1 q r z A3 c3 l _ HO.out.2.2.1 H8.out.2.2.1 H8.out.2.1 (C_in HO.out.1 H8.out.2.2.2 hge3) hc3 hl5 HO.out.2.2.2).mono ?_; rintro e w9 ⟨A0', c0', A1', c1', rfl, hD9, hR9, ho9⟩; have hx9 : RvB w9 g6 A0 c0 A1 c1 d := ho9.blk H8.out.1 (by omega); have hB9 := ho9.below H8.out.2.2.2 hge3; have hq9 : Below w9.heap.size w9 (w9.alloc (.cells (rvCells A0' c0' A1' c1' d') 29)) := below_alloc (Below.refl _ _) _; have S9 := Aside0.mk (And.intro (show (w9.alloc (.cells (rvCells A0' c0' A1' c1' d') 29)).heap[g6]? = some (.cells (rvCells A0 c0 A1 c1 d) 29 (0, 0)) from RvB.of hx9 hq9) (And.intro (hD9.below hq9) (And.intro (hR9.below hq9) (below_step hB9 hq9)))); clear hD9 hR9 ho9 hx9 hB9 hq9)
          | ((with_reducible refine gate_store (t := 29) (p := 6) (v := .tmp 37) rfl ?_); refine wpList_store_agg rfl rfl 29 (.tmp 6) (.tmp 37) rfl g6 29 _ (rvCells A0' c0' A1' c1' d') rfl rfl S9.out.1 info_rv rfl (by intro q hq; simp at hq; rcases hq with rfl | rfl | rfl | rfl | rfl | rfl <;> rfl) ?_; intro w10 hr3 hf3 hz3 ho3 ht3 hu3; have ho10 := oth_of hf3 hz3 ho3 ht3 hu3; obtain ⟨m0, m1, m2, m3, m4, m5⟩ := RvB.cells (show RvB w10 g6 A0' c0' A1' c1' d' from hr3); have S10 := Aside0.mk (And.intro hr3 (And.intro (S9.out.2.1.oth S9.out.1 (by decide) (by omega) ho10) (And.intro (S9.out.2.2.1.oth S9.out.1 (by decide) ho10) (ho10.below S9.out.2.2.2 hg6)))); clear hr3 hf3 hz3 ho3 ht3 hu3 ho10 S9)
          | (go_at_call 10; refine (same4_calls gd d' A0' c0' A1' c1' _ S10.out.2.1 S10.out.2.2.1 ha' hb').mono ?_; rintro e w11 ⟨rfl, hb11⟩; have S11 := Aside0.mk (And.intro (RvB.of (show RvB w10 g6 A0' c0' A1' c1' d' from S10.out.1) hb11) (And.intro (S10.out.2.2.1.below hb11) (And.intro (S10.out.2.1.below hb11) (below_step S10.out.2.2.2 hb11)))); clear S10 hb11))
        go_roundw
        case rel => exact ⟨k + 1, A0', c0', A1', c1', d', by go_num, by omega, ⟨HO.out.2.1⟩, S11⟩
        case measure => simp [intOf]; omega
      · obtain rfl : k = os.length := by omega
        go_wp2
        go_ret
        exact ⟨rfl, HW.out.2.2.2⟩
  · have hb := decide_eq_false hs
    have HS := Aside0.mk hb
    clear hs hb
    go_enter Try.func3, Try.ntmps3
    go_wp2_with (first
      | (go_at_call 6; refine (alive4_calls _).mono ?_; rintro e w1 ⟨rfl, hb1⟩; have S1 := Aside0.mk hb1; clear hb1)
      | (go_at_call 7; refine (small4_eq A c os false _ HS.out (Kd.C_below M.out S1.out) hc).mono ?_; rintro e w2 ⟨rfl, hb2⟩; have S2 := Aside0.mk (below_step S1.out hb2); clear S1 hb2))
    go_ret
    exact ⟨rfl, S2.out⟩
end Go.Proofs.Ytpahmdjcmpnmkaa.MDevicePlays
