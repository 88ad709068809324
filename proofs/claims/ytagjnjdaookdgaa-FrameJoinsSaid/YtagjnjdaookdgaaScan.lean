/- frame.Scan and its func. -/
import Derived.Test.YtagjnjdaookdgaaFrame
import Derived.Test.YtagjnjdaookdgaaScanM
import Derived.Test.YtagjnjdaookdgaaRf
namespace Go.Proofs.Ytagjnjdaookdgaa.H
open Go.RowKit Go.Proofs.YtagjnjdaookdgaaW.PrintWords Go.Proofs.YtagjnjdaookdgaaW.PrintLast Go.Proofs.YtagjnjdaookdgaaW.PrintMore Go.Proofs.Ytagjnjdaookdgaa.CrcM
set_option linter.unusedVariables false
set_option linter.unusedSimpArgs false
attribute [local go_sem] Oper.semAt_some wide_fn wide_depth

/-- What the func tells a round. -/
def FrY (b : List Int) (pre : List Fr) (x : Fr) (vs : Array Value) (W : World) : Prop :=
  pre ++ [x] <+: scanF b ∧ ∃ A c, vs = #[.int .i64 x.1, .agg #[.int .i64 x.2.1, .slice A x.2.2.length c]] ∧ x.2.2.length ≤ c ∧ Kd.C (Kd.int .u8) W A x.2.2.length x.2.2

set_option maxHeartbeats 1600000 in
theorem Scan1_seq (n : Nat) (b : List Int) (hB : Bts b) (hl : b.length ≤ 1000000) (A : Option Addr) (c : Nat) (hc : b.length ≤ c) (bb n₀ : Nat) (Kb : Nat → Prop) (w : World)
    (hbox : ∀ W, Kp n₀ Kb w W → W.cell? ⟨bb, 0, none⟩ = some (.slice A b.length c)) (hC : ∀ W, Kp n₀ Kb w W → Kd.C (Kd.int .u8) W A b.length b) (hn : n₀ ≤ w.heap.size) :
    SeqX Fence.wide n Try.prog 27 #[.pointer (some ⟨bb, 0, none⟩)] (FrY b) n₀ Kb (fun xs => xs = scanF b) (fun _ => True) w := by
  intro l J Jx W hK hJ hJx hY h0
  refine callsIn_of_wp Try.func27 rfl trivial ?_ rfl
  simp only [Try.ntmps27, List.size_toArray, List.length_cons, List.length_nil, Nat.reduceAdd, Nat.reduceSub, Array.replicate_succ, Array.replicate_zero, List.push_toArray, List.append_toArray, List.nil_append, List.cons_append]
  gi_wp2
  gi_loopw [3] (fun p wr => ∃ (pre : List Fr) (at_ k : Nat), p = .int .i64 (at_ : Int) ∧ at_ ≤ b.length ∧ b.length + 1 ≤ k + at_ ∧ scanF b = pre ++ scanL b k at_ ∧ J pre wr ∧ Kp n₀ Kb w wr)
    (fun p wr => match p with | .int _ v => b.length + 1 - v.toNat | _ => 0)
  case atStart => exact ⟨[], 0, b.length + 1, rfl, by omega, by omega, rfl, h0, hK⟩
  case round =>
    obtain ⟨pre, at_, k, rfl, h1, h2, h3, h4, h5⟩ := hrel
    have hcell := hbox wr h5
    have hcw := hC wr h5
    have hsz5 := h5.1
    obtain ⟨i0, hi0, _, hsz, _⟩ := info_parts info_u8
    obtain ⟨A2, hcut, hreads, hld⟩ := print_drop_of (P := Try.prog) (Value.int .u8) 0 22 5 .i64 Try.underlying22 hi0 hsz A c b (at_ : Int) (by omega) (by omega) hc
    rw [Int.toNat_natCast] at hcut hreads hld
    have hrd := Kd.C_of_reads (h1 := fun _ => rfl) (hreads _ (Kd.reads_of_C (d := (0 : Int)) hcw))
    have hBd : Bts (b.drop at_) := bts_drop hB _
    have hdl : (b.drop at_).length ≤ 1000000 := by rw [List.length_drop]; omega
    have hok := readF_ok hBd
    have hsc : scanL b k at_ = [] ∨ (∃ k', k = k' + 1) := by cases k with | zero => exact .inl rfl | succ k' => exact .inr ⟨k', rfl⟩
    have hun : ∀ k', k = k' + 1 → scanL b k at_ = if (readF (b.drop at_)).2.2.2 = 0 then ((at_ : Int), (readF (b.drop at_)).1, (readF (b.drop at_)).2.1) :: scanL b k' (at_ + (readF (b.drop at_)).2.2.1.toNat) else [] := by
      intro k' e; subst e; rfl
    have hdle : (b.drop at_).length = b.length - at_ := List.length_drop
    rw [hdle] at hok
    clear hdle hreads hi0 hsz
    generalize b.drop at_ = d at hcut hrd hBd hdl hok hun hld
    have hread := fun (W : World) (h : Kd.C (Kd.int .u8) W A2 d.length d) => Read_calls A2 (c - at_) d W h hld hBd hdl
    unfold ReadPost at hread
    generalize readF d = r at hread hok hun
    obtain ⟨rk, rb, rn, re⟩ := r
    simp only at hread hok hun
    have HR := Aside0.mk hread
    have HRD := Aside0.mk hrd
    have HCW := Aside0.mk hcw
    have HU := Aside0.mk hun
    have H3 := Lib.hid h3
    have hp1 : (at_ : Int) ≤ 1000000 := by omega
    have hp0 : 0 ≤ (at_ : Int) := by omega
    clear hread hrd hcw hun h3
    obtain ⟨k', hk'⟩ : ∃ k', k = k' + 1 := by cases k with | zero => omega | succ k' => exact ⟨k', rfl⟩
    have hU := HU.out k' hk'
    clear hsc HU
    by_cases he : re = 0
    · obtain ⟨q1, q2, q3, q4, q5, q6⟩ := hok he
      rw [if_pos he] at hU
      subst he
      have hr0 : 7 ≤ rn := by omega
      have hr1 : rn ≤ 1000000 := by omega
      have HU := Lib.hid hU
      have HQ1 := Lib.hid q1
      clear q1 hok hU
      gi_wp2_with (gi_at_call 14; refine (callsIn_wide.2 (HR.out _ HRD.out)).mono ?_; rintro e w1 ⟨v1, rfl, ho1, hb1⟩; obtain ⟨A3, c3, e3, hc3, hr3⟩ := R_C ho1; subst e3; have HR3 := Aside0.mk hr3; have HB1 := Aside0.mk hb1; clear ho1 hb1 hr3)
      have hbw := below_alloc HB1.out (.cells #[.int .i64 rk, .slice A3 rb.length c3] 28)
      have hpre : pre ++ [((at_ : Int), rk, rb)] ++ scanL b k' (at_ + rn.toNat) = scanF b := by rw [H3.out, HU.out, List.append_assoc, List.singleton_append]
      obtain ⟨fn, tmps, asg, body, hy, hR⟩ := hY pre (at_, rk, rb) _ _ (hJ _ _ _ h4 hbw) ⟨⟨_, hpre⟩, A3, c3, rfl, hc3, Kd.C_alloc HR3.out _⟩
      have HPRE := Lib.hid hpre.symm
      clear hpre
      gi_wp2
      refine hR.mono ?_
      rintro e W3 (⟨rfl, hJ3, hk3⟩ | ⟨rfl, hJx3⟩)
      · gi_wp2
        go_roundw
        case rel => exact ⟨pre ++ [((at_ : Int), rk, rb)], at_ + rn.toNat, k', by rw [show ((at_ + rn.toNat : Nat) : Int) = at_ + rn by omega], by have := HQ1.out; omega, by have := HQ1.out; omega, HPRE.out, hJ3, (h5.trans (.of_below hbw (by omega))).trans hk3⟩
        case measure => have := HQ1.out; simp; omega
      · gi_wp2
        refine bodyPost_ret (results_none rfl _ _ _) rfl ?_
        exact ⟨⟨_, rfl⟩, .inr ⟨_, trivial, hJx3⟩⟩
    · rw [if_neg he] at hU
      have HU := Lib.hid hU
      have b1 : (re == 0) = false := by rw [beq_eq_false_iff_ne]; exact he
      have b2 : decide (re = 0) = false := decide_eq_false he
      clear hok hU
      gi_wp2_with (gi_at_call 14; refine (callsIn_wide.2 (HR.out _ HRD.out)).mono ?_; rintro e w1 ⟨v1, rfl, ho1, hb1⟩; obtain ⟨A3, c3, e3, hc3, hr3⟩ := R_C ho1; subst e3; have HR3 := Aside0.mk hr3; have HB1 := Aside0.mk hb1; clear ho1 hb1 hr3)
      have hbw := below_alloc HB1.out (.cells #[.int .i64 rk, .slice A3 rb.length c3] 28)
      refine bodyPost_ret (results_none rfl _ _ _) rfl ?_
      exact ⟨⟨_, rfl⟩, .inl ⟨pre, by rw [H3.out, HU.out, List.append_nil], hJ _ _ _ h4 hbw⟩⟩

theorem Scan_calls (A : Option Addr) (n c : Nat) (w : World) : Calls Try.prog 18 #[.slice A n c] w fun e w' =>
    e = .returned (.func (.func 27) #[] #[.pointer (some ⟨w.heap.size, 0, none⟩)]) ∧ w' = w.alloc (.cells #[.slice A n c] 22) := by
  go_enter Try.func18, Try.ntmps18
  go_wp2
  go_ret
  exact ⟨rfl, rfl⟩
end Go.Proofs.Ytagjnjdaookdgaa.H
