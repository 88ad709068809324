/- Some texts of one seat in one file, in build order. -/
import Derived.Test.YtmmingnkepifoaaG17
import Derived.Test.YtmmingnkepifoaaG18
/- The document's answer about the room, as the print has it. -/
namespace Go.Proofs.Ytmmingnkepifoaa.R22
open Go.RowKit Go.Proofs.Ytmmingnkepifoaa.Ult Go.Proofs.Ytmmingnkepifoaa.LmM Go.Proofs.Ytmmingnkepifoaa.PAll22
open Go.Proofs.YtmmingnkepifoaaW.PrintWords (rd)
open Go.Proofs.YtmmingnkepifoaaW.PrintWords (mx mn)
set_option linter.unusedVariables false
set_option linter.unusedSimpArgs false
/-! ### Room -/
def roomI (r b : Int) : Int := (mn (mn (mx r 0) 1125899906842624 + mn (mx b 0) 1125899906842624 + 3) 17592186044416) * 64
theorem room_f (r b : Int) : limit_Room.f r b = some (roomI r b) := rfl
theorem fits_f (r b room : Int) : limit_Fits.f r b room = some (decide (roomI r b ≤ room)) := rfl
theorem room_bd (r b : Int) : 192 ≤ roomI r b ∧ roomI r b ≤ 1125899906842624 ∧ Int.tmod (roomI r b) 64 = 0 := by
  have h : 3 ≤ mn (mn (mx r 0) 1125899906842624 + mn (mx b 0) 1125899906842624 + 3) 17592186044416 ∧ mn (mn (mx r 0) 1125899906842624 + mn (mx b 0) 1125899906842624 + 3) 17592186044416 ≤ 17592186044416 := by
    unfold mn mx; repeat' split
    all_goals omega
  unfold roomI
  generalize mn (mn (mx r 0) 1125899906842624 + mn (mx b 0) 1125899906842624 + 3) 17592186044416 = x at h
  refine ⟨by omega, by omega, ?_⟩
  rw [Int.tmod_eq_emod_of_nonneg (by omega)]; omega
theorem rroom_ev (r b : Int) (hr : -9223372036854775808 ≤ r ∧ r ≤ 9223372036854775807) (hb : -9223372036854775808 ≤ b ∧ b ≤ 9223372036854775807) : Ult (fun k => saleroomref22_Room.f k r b) (roomI r b) := by
  have hj : ∀ x : Int, x = mx r 0 → 0 ≤ x ∧ x ≤ 9223372036854775807 → Ult (fun k => saleroomref22_Room.j0 k x b) (roomI r b) := by
    intro x hx hx2
    refine Ult.succ ?_
    simp only [saleroomref22_Room.j0]
    refine Ult.const ?_
    unfold roomI
    rw [← hx]
    by_cases hb0 : b < 0
    · have e : mx b 0 = 0 := by unfold mx; rw [if_pos hb0]
      rw [if_pos hb0, e]
      by_cases h1 : x > 17592186044416
      · rw [if_pos h1]
        congr 1; unfold mn; repeat' split
        all_goals omega
      · rw [if_neg h1, if_neg (by omega), w64 (n := x + 0) (by omega) (by omega), w64 (n := x + 0 + 3) (by omega) (by omega)]
        by_cases h2 : x + 0 + 3 > 17592186044416
        · rw [if_pos h2]
          congr 1; unfold mn; repeat' split
          all_goals omega
        · rw [if_neg h2, w64 (by omega) (by omega)]
          congr 1; unfold mn; repeat' split
          all_goals omega
    · have e : mx b 0 = b := by unfold mx; rw [if_neg hb0]
      rw [if_neg hb0, e]
      by_cases h1 : x > 17592186044416
      · rw [if_pos h1]
        congr 1; unfold mn; repeat' split
        all_goals omega
      · rw [if_neg h1]
        by_cases h3 : b > 17592186044416
        · rw [if_pos h3]
          congr 1; unfold mn; repeat' split
          all_goals omega
        · rw [if_neg h3, w64 (n := x + b) (by omega) (by omega), w64 (n := x + b + 3) (by omega) (by omega)]
          by_cases h2 : x + b + 3 > 17592186044416
          · rw [if_pos h2]
            congr 1; unfold mn; repeat' split
            all_goals omega
          · rw [if_neg h2, w64 (by omega) (by omega)]
            congr 1; unfold mn; repeat' split
            all_goals omega
  unfold saleroomref22_Room.f
  refine Ult.ite (fun h => hj 0 ?_ (by omega)) (fun h => hj r ?_ (by omega))
  · unfold mx; rw [if_pos h]
  · unfold mx; rw [if_neg h]
end Go.Proofs.Ytmmingnkepifoaa.R22
