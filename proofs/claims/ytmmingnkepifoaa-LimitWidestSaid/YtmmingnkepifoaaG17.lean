/- Some texts of one seat in one file, in build order. -/
import Derived.Test.YtmmingnkepifoaaG1
import Derived.Test.YtmmingnkepifoaaG11
import Derived.Test.YtmmingnkepifoaaG16
/- Package limit, as the print has it: what it comes to. -/
namespace Go.Proofs.Ytmmingnkepifoaa.R22
open Go.RowKit Go.Proofs.Ytmmingnkepifoaa.Ult Go.Proofs.Ytmmingnkepifoaa.LmM Go.Proofs.Ytmmingnkepifoaa.PAll22
open Go.Proofs.YtmmingnkepifoaaW.PrintWords (rd)
open Go.Proofs.YtmmingnkepifoaaW.PrintWords (mx mn)
set_option linter.unusedVariables false
set_option linter.unusedSimpArgs false
theorem w64 {n : Int} (h0 : -9223372036854775808 ≤ n) (h1 : n ≤ 9223372036854775807) : wrap64 n = n := by
  unfold wrap64; omega
theorem alive_ev : Ult (fun k => saleroomlaw22_alive.f) true := .pure _
def ceilI (n b : Int) : Int := if n % b = 0 then n / b else n / b + 1
theorem ceil_bd {n b : Int} (h0 : 0 ≤ n) (h1 : n ≤ 1099511627776) (h2 : 1 ≤ b) : 0 ≤ ceilI n b ∧ ceilI n b ≤ 1099511627777 ∧ n / b ≤ 1099511627776 ∧ 0 ≤ n / b := by
  have h3 : 0 ≤ n / b := Int.ediv_nonneg h0 (by omega)
  have h4 : n / b ≤ n := Int.ediv_le_self _ h0
  unfold ceilI
  split <;> omega
theorem ceil_f {n b : Int} (h0 : 0 ≤ n) (h1 : n ≤ 1099511627776) (h2 : 1 ≤ b) : money_Ceil.f n b = some (ceilI n b) := by
  unfold money_Ceil.f ceilI
  rw [if_pos ⟨h0, h1, h2⟩]
def okM (m : Int) : Bool := decide (0 ≤ m ∧ m ≤ 1099511627776)
theorem right_f (m : Int) : money_Right.f m = some (okM m) := by
  unfold money_Right.f okM
  split
  · congr 1; apply decide_eq_decide.2; omega
  · rw [decide_eq_false (by omega)]
theorem eps_f (m : Int) : limit_eps.f m = some (decide (1 ≤ m ∧ m ≤ 1099511627776)) := by
  unfold limit_eps.f
  split
  · congr 1; apply decide_eq_decide.2; omega
  · rw [decide_eq_false (by omega)]
/-- How many rounds there can be. -/
def rdsFrom (b : Int) : List Int → Int → Int × Bool
  | [], acc => (acc, true)
  | n :: rs, acc => if okM n = true then (if acc + ceilI n b > 1099511627776 then (0, false) else rdsFrom b rs (acc + ceilI n b)) else (0, false)
def rdsL (l : List Int) (b : Int) : Int × Bool := if 1 ≤ b ∧ b ≤ 1099511627776 then rdsFrom b l 0 else (0, false)
theorem rd_at {l : List Int} {i : Nat} (hi : i < l.length) : rd l (i : Int) = l[i] := by
  unfold rd; rw [Int.toNat_natCast, List.getD_eq_getElem?_getD, List.getElem?_eq_getElem hi]; rfl
theorem rds_l0 (l : List Int) (b : Int) (hb : 1 ≤ b) (hl : l.length ≤ 600000) : ∀ (d i : Nat) (acc : Int), i + d = l.length → 0 ≤ acc → acc ≤ 1099511627776 → Ult (fun k => limit_Rounds.l0 k b acc l (l.length : Int) (i : Int)) (rdsFrom b (l.drop i) acc) := by
  intro d
  induction d with
  | zero =>
    intro i acc hi h0 h1
    refine Ult.succ ?_
    simp only [limit_Rounds.l0]
    refine Ult.neg (by omega) (Ult.const ?_)
    rw [List.drop_of_length_le (by omega)]; rfl
  | succ d ih =>
    intro i acc hi h0 h1
    have hil : i < l.length := by omega
    refine Ult.succ ?_
    simp only [limit_Rounds.l0, rd_at hil]
    rw [List.drop_eq_getElem_cons hil]
    unfold rdsFrom
    generalize l[i] = n
    refine Ult.pos (by omega) (Ult.pos (by omega) (Ult.pos (by omega) (Ult.bind0 (right_f n) (Ult.ite (fun h => ?_) (fun h => ?_)))))
    · have hn := of_decide_eq_true h
      obtain ⟨c1, c2, c3, c4⟩ := ceil_bd hn.1 hn.2 hb
      rw [if_pos h]
      refine Ult.bind0 (ceil_f hn.1 hn.2 hb) ?_
      rw [w64 (n := acc + ceilI n b) (by omega) (by omega), show wrap64 ((i : Int) + 1) = ((i + 1 : Nat) : Int) by rw [w64 (by omega) (by omega)]; rfl]
      refine Ult.ite (fun h2 => ?_) (fun h2 => ?_)
      · rw [if_pos h2]; exact .pure _
      · rw [if_neg h2]; exact ih (i + 1) _ (by omega) (by omega) (by omega)
    · rw [if_neg h]; exact .pure _
theorem rounds_ev (l : List Int) (b : Int) (hl : l.length ≤ 600000) : Ult (fun k => limit_Rounds.f k l b) (rdsL l b) := by
  unfold limit_Rounds.f rdsL
  refine Ult.bind0 (eps_f b) (Ult.ite (fun h => ?_) (fun h => ?_))
  · have hb := of_decide_eq_true h
    rw [if_pos hb]
    exact rds_l0 l b hb.1 hl l.length 0 0 (by omega) (by omega) (by omega)
  · rw [if_neg (fun hb => h (decide_eq_true hb))]; exact .pure _
end Go.Proofs.Ytmmingnkepifoaa.R22
