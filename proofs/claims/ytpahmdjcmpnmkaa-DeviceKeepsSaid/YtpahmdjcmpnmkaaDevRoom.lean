/- A step keeps the rows within the capacity. -/
import Derived.Test.YtpahmdjcmpnmkaaDevOps
import Derived.Test.YtpahmdjcmpnmkaaDevPl
namespace Go.Proofs.Ytpahmdjcmpnmkaa.H
open Go.RowKit Go.Proofs.YtpahmdjcmpnmkaaW.PrintWords Go.Proofs.YtpahmdjcmpnmkaaW.PrintLast Go.Proofs.YtpahmdjcmpnmkaaW.PrintMore
set_option linter.unusedVariables false
set_option linter.unusedSimpArgs false

theorem room_set {d : Dv} (h : d.room) (r : Int) {l : List Int} (hl : (l.length : Int) ≤ d.cap) : (d.set r l).room := by
  unfold Dv.set
  split
  · exact ⟨hl, h.2⟩
  · split
    · exact ⟨h.1, hl⟩
    · exact h
theorem room_row {d : Dv} (h : d.room) (h0 : 0 ≤ d.cap) (r : Int) : ((d.row r).length : Int) ≤ d.cap := by
  unfold Dv.row
  split
  · exact h.1
  · split
    · exact h.2
    · simpa using h0
theorem room_do {d : Dv} (h : d.room) (h0 : 0 ≤ d.cap) (o : St) : (doD d o).room := by
  have hr := room_row h h0 o.2.1
  have ht : ∀ n, (turnD d n).room := fun n => h
  have hc : ∀ n, (turnD d n).cap = d.cap := fun n => rfl
  unfold doD
  split
  · unfold appendD
    split
    · exact h
    · split
      · exact h
      · split
        · exact h
        · refine room_set (ht _) o.2.1 ?_
          have := turnN_le d o.2.2.2.length
          rw [hc, List.length_append, List.length_take]; omega
  · split
    · unfold truncD
      split
      · exact h
      · split
        · exact h
        · refine room_set (ht _) o.2.1 ?_
          rw [hc, List.length_take]; omega
    · split
      · exact h
      · split
        · exact h
        · split
          · refine room_set h o.2.1 ?_
            rw [List.length_take]; omega
          · exact h
theorem cap_do (d : Dv) (o : St) : (doD d o).cap = d.cap := by
  have hs : ∀ (d : Dv) (r : Int) (l : List Int), (d.set r l).cap = d.cap := fun d r l => by unfold Dv.set; split; rfl; split <;> rfl
  unfold doD
  split
  · unfold appendD; split; rfl; split; rfl; split; rfl; exact hs _ _ _
  · split
    · unfold truncD; split; rfl; split; rfl; exact hs _ _ _
    · split; rfl; split; rfl; split
      · exact hs _ _ _
      · rfl
end Go.Proofs.Ytpahmdjcmpnmkaa.H
