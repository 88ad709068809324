/- Plain law: what is written is read as it. No program. -/
import Derived.Test.YtagjnjdaookdgaaScanM
namespace Go.Proofs.Ytagjnjdaookdgaa.H
open Go.RowKit Go.Proofs.YtagjnjdaookdgaaW.PrintWords Go.Proofs.YtagjnjdaookdgaaW.PrintLast Go.Proofs.YtagjnjdaookdgaaW.PrintMore Go.Proofs.Ytagjnjdaookdgaa.CrcM
set_option linter.unusedVariables false
set_option linter.unusedSimpArgs false

theorem and_mask (a : Int) (m : Nat) (hm : m < 9223372036854775808) : 0 ≤ bits .and .i64 a (m : Int) ∧ bits .and .i64 a (m : Int) ≤ m := by
  have e : bits .and .i64 a (m : Int) = IntKind.i64.wrap (((BitVec.ofInt 64 a) &&& (BitVec.ofInt 64 (m : Int))).toNat : Int) := rfl
  have hle : ((BitVec.ofInt 64 a) &&& (BitVec.ofInt 64 (m : Int))).toNat ≤ m := by
    rw [BitVec.ofInt_natCast, BitVec.toNat_and, BitVec.toNat_ofNat, Nat.mod_eq_of_lt (by omega : m < 2 ^ 64)]
    exact Nat.and_le_right
  rw [e, IntKind.wrap_i64]
  generalize ((BitVec.ofInt 64 a) &&& (BitVec.ofInt 64 (m : Int))).toNat = z at hle ⊢
  omega
theorem open_seal (l : List Int) : openB (l ++ le4 (ext 0#32 l)) = (l, true) := by
  have h4 : (l ++ le4 (ext 0#32 l)).length = l.length + 4 := by simp [le4]
  unfold openB
  rw [h4, if_neg (by omega), Nat.add_sub_cancel, List.take_left' rfl, if_pos rfl]
theorem writeF_ok {kind : Int} {l r : List Int} (h : writeF kind l = (r, 0)) : 1 ≤ kind ∧ kind ≤ 255 ∧ l.length ≤ 4096 ∧ r = bytesF kind l ++ le4 (ext 0#32 (bytesF kind l)) ∧ r.length = l.length + 7 := by
  revert h
  unfold writeF
  by_cases h1 : kind < 1 ∨ kind > 255
  · rw [if_pos h1]; intro h; simp at h
  rw [if_neg h1]
  by_cases h2 : l.length > 4096
  · rw [if_pos h2]; intro h; simp at h
  rw [if_neg h2]
  intro h
  injection h with h _
  refine ⟨by omega, by omega, by omega, h.symm, ?_⟩
  rw [← h]; simp [le4, bytesF]
theorem writeF_err {kind : Int} {l r : List Int} {e : Int} (h : writeF kind l = (r, e)) : e = 0 ∨ (r = [] ∧ (e = 1 ∨ e = 2)) := by
  revert h
  unfold writeF
  split
  · intro h; injection h with h1 h2; exact .inr ⟨h1.symm, .inl h2.symm⟩
  · split
    · intro h; injection h with h1 h2; exact .inr ⟨h1.symm, .inr h2.symm⟩
    · intro h; injection h with h1 h2; exact .inl h2.symm
theorem bts_bytesF {kind : Int} {l : List Int} (hB : Bts l) : Bts (bytesF kind l) := by
  unfold bytesF
  refine bts_append ?_ hB
  intro x hx
  simp at hx
  rcases hx with rfl | rfl | rfl <;> omega
theorem bts_writeF {kind : Int} {l r : List Int} (hB : Bts l) (h : writeF kind l = (r, 0)) : Bts r := by
  obtain ⟨_, _, _, rfl, _⟩ := writeF_ok h
  exact bts_append (bts_bytesF hB) (bts_le4 _)
theorem len_writeF {kind : Int} {l r more : List Int} (h : writeF kind l = (r, 0)) : lenF (r ++ more) = l.length := by
  obtain ⟨h1, h2, h3, rfl, _⟩ := writeF_ok h
  unfold lenF rd bytesF
  simp
  omega
theorem back {kind : Int} {l r more : List Int} (h : writeF kind l = (r, 0)) : readF (r ++ more) = (kind, l, (l.length : Int) + 7, 0) := by
  have hl := len_writeF (more := more) h
  obtain ⟨h1, h2, h3, hr, h5⟩ := writeF_ok h
  have hlen : (r ++ more).length = l.length + 7 + more.length := by rw [List.length_append, h5]
  unfold readF
  rw [hl, if_neg (by omega), if_neg (by omega), if_neg (by omega), show ((l.length : Int) + 7).toNat = r.length by omega, List.take_left' rfl, hr, open_seal]
  rw [if_neg (by simp)]
  have e2 : rd (bytesF kind l) 2 = kind := by unfold rd bytesF; simp; omega
  have e3 : (bytesF kind l).drop 3 = l := by unfold bytesF; simp
  simp only [e2, e3]
  rw [if_neg (by omega)]
theorem back_cut {kind : Int} {l r : List Int} (h : writeF kind l = (r, 0)) (m : Nat) (hm : m < r.length) : readF (r.take m) = (0, [], 0, 21) := by
  have hl := len_writeF (more := []) h
  obtain ⟨h1, h2, h3, hr, h5⟩ := writeF_ok h
  have hlen : (r.take m).length = m := by rw [List.length_take]; omega
  unfold readF
  by_cases hm2 : m < 2
  · rw [if_pos (by omega)]
  rw [if_neg (by omega)]
  have e : lenF (r.take m) = l.length := by
    rw [← hl, List.append_nil]
    unfold lenF rd
    simp [List.getD_eq_getElem?_getD, List.getElem?_take, show 0 < m by omega, show 1 < m by omega]
  rw [e, if_neg (by omega), if_pos (by omega)]
end Go.Proofs.Ytagjnjdaookdgaa.H
