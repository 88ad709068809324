/- Plain mathematics of frames one behind the other. No program. -/
import Derived.Test.YtagjnjdaookdgaaFrM
namespace Go.Proofs.Ytagjnjdaookdgaa.H
open Go.RowKit Go.Proofs.YtagjnjdaookdgaaW.PrintWords Go.Proofs.YtagjnjdaookdgaaW.PrintLast Go.Proofs.YtagjnjdaookdgaaW.PrintMore Go.Proofs.Ytagjnjdaookdgaa.CrcM
set_option linter.unusedVariables false
set_option linter.unusedSimpArgs false

/-- A frame that is scanned: where, kind, body. -/
abbrev Fr := Int × Int × List Int
def scanL (b : List Int) : Nat → Nat → List Fr
  | 0, _ => []
  | k + 1, at_ => if (readF (b.drop at_)).2.2.2 = 0 then ((at_ : Int), (readF (b.drop at_)).1, (readF (b.drop at_)).2.1) :: scanL b k (at_ + (readF (b.drop at_)).2.2.1.toNat) else []
/-- Where the last frame ends. -/
def endL (b : List Int) : Nat → Nat → Nat
  | 0, at_ => at_
  | k + 1, at_ => if (readF (b.drop at_)).2.2.2 = 0 then endL b k (at_ + (readF (b.drop at_)).2.2.1.toNat) else at_
theorem readF_ok {b : List Int} (hB : Bts b) (h : (readF b).2.2.2 = 0) : (readF b).2.2.1 = (readF b).2.1.length + 7 ∧ (readF b).2.1.length + 7 ≤ b.length ∧ (readF b).2.1.length ≤ 4096 ∧ Bts (readF b).2.1 ∧ 0 < (readF b).1 ∧ (readF b).1 < 256 := by
  revert h
  unfold readF
  by_cases h1 : b.length < 2
  · rw [if_pos h1]; intro h; cases h
  rw [if_neg h1]
  by_cases h2 : lenF b > 4096
  · rw [if_pos h2]; intro h; cases h
  rw [if_neg h2]
  by_cases h3 : (b.length : Int) < lenF b + 7
  · rw [if_pos h3]; intro h; cases h
  rw [if_neg h3]
  have hr := lenF_range hB (by omega)
  generalize hn : lenF b = n at *
  have hbb : Bts (b.take (n + 7).toNat) := bts_take hB _
  have hlx : (b.take (n + 7).toNat).length = (n + 7).toNat := by rw [List.length_take]; omega
  generalize b.take (n + 7).toNat = t at *
  have ho := openB_len (b := t)
  generalize openB t = o at *
  obtain ⟨o1, o2⟩ := o
  by_cases h4 : o2 = false
  · rw [if_pos h4]; intro h; cases h
  rw [if_neg h4]
  obtain ⟨e1, e2⟩ := ho (by cases o2 <;> simp_all)
  simp only at e1
  have hbo : Bts o1 := by rw [e1]; exact bts_take hbb _
  have hol : o1.length = (n + 3).toNat := by rw [e1, List.length_take]; omega
  by_cases h5 : rd o1 2 = 0
  · simp only [h5, if_true]; intro h; cases h
  rw [if_neg h5]
  intro _
  have h6 := bts_rd hbo 2 (by omega)
  have e6 : rd o1 ((2 : Nat) : Int) = rd o1 2 := rfl
  rw [e6] at h6
  simp only [List.length_drop]
  refine ⟨by omega, by omega, by omega, bts_drop hbo _, by omega, by omega⟩
theorem readF_err {b : List Int} : 0 ≤ (readF b).2.2.2 ∧ (readF b).2.2.2 < 256 := by
  unfold readF
  split
  · exact ⟨by decide, by decide⟩
  · split
    · exact ⟨by decide, by decide⟩
    · split
      · exact ⟨by decide, by decide⟩
      · split
        · exact ⟨by decide, by decide⟩
        · split
          · exact ⟨by decide, by decide⟩
          · exact ⟨(by decide : (0 : Int) ≤ 0), (by decide : (0 : Int) < 256)⟩
theorem readF_nil : readF [] = (0, [], 0, 21) := rfl
theorem endL_le (b : List Int) (hB : Bts b) : ∀ (k at_ : Nat), at_ ≤ b.length → endL b k at_ ≤ b.length := by
  intro k
  induction k with
  | zero => intro at_ h; exact h
  | succ k ih =>
    intro at_ h
    unfold endL
    split
    · rename_i h0
      obtain ⟨e1, e2, _⟩ := readF_ok (bts_drop hB at_) h0
      rw [List.length_drop] at e2
      exact ih _ (by omega)
    · exact h
theorem endL_err (b : List Int) (hB : Bts b) : ∀ (k at_ : Nat), at_ ≤ b.length → b.length + 1 ≤ k + at_ → (readF (b.drop (endL b k at_))).2.2.2 ≠ 0 := by
  intro k
  induction k with
  | zero => intro at_ h h2; omega
  | succ k ih =>
    intro at_ h h2
    unfold endL
    split
    · rename_i h0
      obtain ⟨e1, e2, _⟩ := readF_ok (bts_drop hB at_) h0
      rw [List.length_drop] at e2
      exact ih _ (by omega) (by omega)
    · assumption
/-- What a scanned frame is. -/
theorem scanL_mem (b : List Int) (hB : Bts b) : ∀ (k at_ : Nat) (x : Fr), x ∈ scanL b k at_ → at_ ≤ b.length → 0 ≤ x.1 ∧ x.1 ≤ b.length ∧ 0 < x.2.1 ∧ x.2.1 < 256 ∧ x.2.2.length ≤ 4096 ∧ Bts x.2.2 := by
  intro k
  induction k with
  | zero => intro at_ x h; cases h
  | succ k ih =>
    intro at_ x h hl
    unfold scanL at h
    split at h
    · rename_i h0
      obtain ⟨e1, e2, e3, e4, e5, e6⟩ := readF_ok (bts_drop hB at_) h0
      rw [List.length_drop] at e2
      rcases List.mem_cons.1 h with rfl | h
      · exact ⟨by simp, by simp; omega, e5, e6, e3, e4⟩
      · exact ih _ _ h (by omega)
    · cases h
/-- The end by the last of the frames. -/
theorem endL_fold (b : List Int) (hB : Bts b) : ∀ (k at_ : Nat), at_ ≤ b.length → (scanL b k at_).foldl (fun (_ : Int) x => x.1 + ((x.2.2.length : Int) + 7)) (at_ : Int) = endL b k at_ := by
  intro k
  induction k with
  | zero => intro at_ h; rfl
  | succ k ih =>
    intro at_ h
    unfold scanL endL
    split
    · rename_i h0
      obtain ⟨e1, e2, _⟩ := readF_ok (bts_drop hB at_) h0
      rw [List.length_drop] at e2
      rw [List.foldl_cons, ← ih _ (by omega)]
      congr 1
      simp only
      omega
    · rfl
theorem scanL_len (b : List Int) (hB : Bts b) : ∀ (k at_ : Nat), at_ ≤ b.length → (scanL b k at_).length * 7 ≤ b.length - at_ := by
  intro k
  induction k with
  | zero => intro at_ h; simp [scanL]
  | succ k ih =>
    intro at_ h
    unfold scanL
    split
    · rename_i h0
      obtain ⟨e1, e2, _⟩ := readF_ok (bts_drop hB at_) h0
      rw [List.length_drop] at e2
      have := ih (at_ + (readF (b.drop at_)).2.2.1.toNat) (by omega)
      rw [List.length_cons]
      omega
    · simp
def scanF (b : List Int) : List Fr := scanL b (b.length + 1) 0
def endF (b : List Int) : Nat := endL b (b.length + 1) 0
end Go.Proofs.Ytagjnjdaookdgaa.H
