/- What the statements of layer 4 on rows of steps share. -/
import Derived.Test.YtpahmdjcmpnmkaaDevOps
namespace Go.Proofs.Ytpahmdjcmpnmkaa.H
open Go.RowKit Go.Proofs.YtpahmdjcmpnmkaaW.PrintWords Go.Proofs.YtpahmdjcmpnmkaaW.PrintLast Go.Proofs.YtpahmdjcmpnmkaaW.PrintMore
set_option linter.unusedVariables false
set_option linter.unusedSimpArgs false

theorem opens_ops : Opens Try.prog 22 (Kd.slice 33 KOp) (fun l => ∀ x ∈ l, (Lit.int .i64 x.1).wf = true ∧ (Lit.int .i64 x.2.1).wf = true ∧ (Lit.int .i64 x.2.2.1).wf = true ∧ ∀ y ∈ x.2.2.2, (Lit.int .u8 y).wf = true) :=
  opens_slice ((0, 0, 0, []) : St) Try.underlying22 (by kernel_rfl)
    (opens_struct Try.underlying33 (by kernel_rfl)
      (opens_cons rfl (by kernel_rfl) (opens_int Try.underlying3)
        (opens_cons rfl (by kernel_rfl) (opens_int Try.underlying3)
          (opens_cons rfl (by kernel_rfl) (opens_int Try.underlying3)
            (opens_last rfl (by kernel_rfl) (opens_slice 0 Try.underlying27 (by kernel_rfl) (opens_int Try.underlying5)))))))
theorem do_eq [Pl] (g : Nat) (d d' : Dv) (A0 : Option Addr) (c0 : Nat) (A1 : Option Addr) (c1 : Nat) (k r n : Int) (A : Option Addr) (c : Nat) (l : List Int) (W : World) (hd : doD d (k, r, n, l) = d') (hD : DevAt W g d) (hR : RvOf W A0 c0 A1 c1 d) (hl : ∀ W', Oth g W W' → Kd.C (Kd.int .u8) W' A l.length l) (hc : l.length ≤ c) (hn : l.length ≤ 500000) (hf : d.fit 500000 1000000000000) :
    Calls Try.prog 11 #[.pointer (some ⟨g, 0, none⟩), .agg (rvCells A0 c0 A1 c1 d), .agg (opCells k r n A l.length c)] W fun e W' =>
      ∃ A0' c0' A1' c1', e = .returned (.tuple #[.agg (rvCells A0' c0' A1' c1' d'), .bool true]) ∧ DevAt W' g d' ∧ RvOf W' A0' c0' A1' c1' d' ∧ Oth g W W' := by
  subst hd
  refine (do_calls g d d A0 c0 A1 c1 k r n A c l W hD hR hl hc hn hf hf).mono ?_
  rintro e W' ⟨A0', c0', A1', c1', rfl, h1, h2, h3⟩
  rw [beq_self_eq_true]
  exact ⟨A0', c0', A1', c1', rfl, h1, h2, h3⟩
theorem small4_eq (A : Option Addr) (c : Nat) (os : List St) (b : Bool) (W : World) (hb : decide (os.length ≤ 40 ∧ tot os ≤ 3000) = b) (h : Kd.C KOp W A os.length os) (hc : os.length ≤ c) :
    Calls Try.prog 7 #[.slice A os.length c] W fun e W' => e = .returned (.bool b) ∧ Below W.heap.size W W' := by
  subst hb
  refine (small4_calls A c os W h hc).mono ?_
  rintro e W' ⟨b, rfl, rfl, hb⟩
  exact ⟨rfl, hb⟩
theorem RNew_eq [Pl] (n : Int) (d : Dv) (W : World) (hd : (⟨[], [], capC n, -1, false, 0⟩ : Dv) = d) (hlo : Pl.lo ≤ W.heap.size) : Calls Try.prog 9 #[.int .i64 n] W fun e W' => e = .returned (.agg (rvCells none 0 none 0 d)) ∧ RvOf W' none 0 none 0 d ∧ Below W.heap.size W W' := by
  subst hd
  refine (RNew_calls n W).mono ?_
  rintro e W' ⟨rfl, h⟩
  exact ⟨rfl, ⟨Nat.le_refl _, Nat.le_refl _, Rd.nil _ (Nat.le_trans hlo h.size), Rd.nil _ (Nat.le_trans hlo h.size)⟩, h⟩
theorem capC_le (n : Int) : 0 ≤ capC n ∧ capC n ≤ 1048576 := by
  unfold capC; split <;> (try split) <;> omega
theorem fit_new {n : Int} {d : Dv} (hd : (⟨[], [], capC n, -1, false, 0⟩ : Dv) = d) : d.fit 0 0 := by
  subst hd
  have := capC_le n
  exact ⟨by simp, by simp, this.1, this.2, show (-1 : Int) ≤ -1 by decide, show (-1 : Int) ≤ 9223372036854775807 by decide, Int.le_refl _, Int.le_refl _⟩
end Go.Proofs.Ytpahmdjcmpnmkaa.H
