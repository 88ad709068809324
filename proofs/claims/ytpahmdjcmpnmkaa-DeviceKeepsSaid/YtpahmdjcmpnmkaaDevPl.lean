/- Rows that lie elsewhere: from one Pl to another, and over a store into a block outside. -/
import Derived.Test.YtpahmdjcmpnmkaaDevAl
namespace Go.Proofs.Ytpahmdjcmpnmkaa.H
open Go.RowKit Go.Proofs.YtpahmdjcmpnmkaaW.PrintWords Go.Proofs.YtpahmdjcmpnmkaaW.PrintLast Go.Proofs.YtpahmdjcmpnmkaaW.PrintMore
set_option linter.unusedVariables false
set_option linter.unusedSimpArgs false

theorem Rd.conv {p q : Pl} {W W' : World} {A : Option Addr} {l : List Int} (h : @Rd p W A l) (hb : Below W.heap.size W W') (hq : q.lo ≤ W'.heap.size) (hP : ∀ k, k < W.heap.size → q.P k) : @Rd q W' A l :=
  ⟨Kd.C_below h.1 hb, h.2.1.below hb, hq, fun ad e => by
    obtain ⟨cs, z, hc⟩ := h.2.1 ad e
    exact hP _ (lt_of_some hc)⟩
theorem DevAt.conv {p q : Pl} {W W' : World} {g : Nat} {d : Dv} (h : @DevAt p W g d) (hb : Below W.heap.size W W') (hq : q.lo ≤ W'.heap.size) (hP : ∀ k, k < W.heap.size → q.P k) : @DevAt q W' g d := by
  obtain ⟨A0, c0, A1, c1, h1, h2, h3, h4, h5⟩ := h
  exact ⟨A0, c0, A1, c1, blk_belowX h1 hb, h2, h3, h4.conv hb hq hP, h5.conv hb hq hP⟩
theorem C_at {W W' : World} {k : IntKind} {A : Option Addr} {n : Nat} {xs : List Int} (hc : Kd.C (Kd.int k) W A n xs) (h : ∀ ad, A = some ad → W'.heap[ad.block]? = W.heap[ad.block]?) : Kd.C (Kd.int k) W' A n xs :=
  ⟨hc.1, hc.2.1, fun hn => by
    obtain ⟨ad, e, hr⟩ := hc.2.2 hn
    refine ⟨ad, e, fun j p hj => ?_⟩
    obtain ⟨c, hs, hR, hcell⟩ := hr j p hj
    refine ⟨c, hs, hR, fun i u hu => ?_⟩
    have h1 := hcell i u hu
    have hblk : (ad.add (j * (Kd.int k).sz + i)).block = ad.block := by unfold Addr.add; split <;> rfl
    exact (World.cell?_of_block (by rw [hblk]; exact h ad e)).trans h1⟩
/-- A row of another block than the one that turned. -/
theorem Rd.apart [Pl] {W W' : World} {A : Option Addr} {l : List Int} {b : Nat} (h : Rd W A l) (hb : ¬ Pl.P b) (ho : Oth b W W') : Rd W' A l := by
  have hk : ∀ ad, A = some ad → W'.heap[ad.block]? = W.heap[ad.block]? := fun ad e => by
    obtain ⟨cs, z, hc⟩ := h.2.1 ad e
    exact ho.block _ (lt_of_some hc) (fun e2 => hb (e2 ▸ h.2.2.2 ad e))
  refine ⟨C_at h.1 hk, fun ad e => ?_, Nat.le_trans h.2.2.1 ho.size, h.2.2.2⟩
  obtain ⟨cs, z, hc⟩ := h.2.1 ad e
  exact ⟨cs, z, (hk ad e).trans hc⟩
theorem DevAt.apart [Pl] {W W' : World} {g b : Nat} {d : Dv} (h : DevAt W g d) (hb : ¬ Pl.P b) (hg : g ≠ b) (ho : Oth b W W') : DevAt W' g d := by
  obtain ⟨A0, c0, A1, c1, h1, h2, h3, h4, h5⟩ := h
  exact ⟨A0, c0, A1, c1, ho.blk h1 hg, h2, h3, h4.apart hb ho, h5.apart hb ho⟩
/-- Rows within the capacity. -/
def Dv.room (d : Dv) : Prop := (d.a.length : Int) ≤ d.cap ∧ (d.b.length : Int) ≤ d.cap
end Go.Proofs.Ytpahmdjcmpnmkaa.H
