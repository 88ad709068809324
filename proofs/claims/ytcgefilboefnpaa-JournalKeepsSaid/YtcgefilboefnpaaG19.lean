/- Some texts of one seat in one file, in build order. -/
import Derived.Test.YtcgefilboefnpaaG18
/- What an append and a truncation leave when the power may go; a journal that stands over Append and Open. Plain. -/
namespace Go.Proofs.Ytcgefilboefnpaa.H
open Go.RowKit Go.Proofs.YtcgefilboefnpaaW.PrintWords Go.Proofs.YtcgefilboefnpaaW.PrintLast Go.Proofs.YtcgefilboefnpaaW.PrintMore Go.Proofs.Ytcgefilboefnpaa.CrcM
set_option linter.unusedVariables false
set_option linter.unusedSimpArgs false
set_option maxRecDepth 100000

theorem row_set_same (d : Dv) (r : Int) (hr : r = 0 ∨ r = 1) (l : List Int) : (d.set r l).row r = l := by
  rcases hr with rfl | rfl <;> rfl
theorem row_set_other (d : Dv) (r : Int) (hr : r = 0 ∨ r = 1) (l : List Int) : (d.set r l).row (1 - r) = d.row (1 - r) := by
  rcases hr with rfl | rfl <;> rfl
theorem set_rest (d : Dv) (r : Int) (l : List Int) : (d.set r l).cap = d.cap ∧ (d.set r l).down = d.down ∧ (d.set r l).left = d.left ∧ (d.set r l).turned = d.turned := by
  unfold Dv.set
  split
  · exact ⟨rfl, rfl, rfl, rfl⟩
  · split <;> exact ⟨rfl, rfl, rfl, rfl⟩
/-- What power leaves of n bytes. -/
theorem turn_pow {d : Dv} (hd : d.down = false) (n : Nat) : ((turnD d n).down = false ∧ turnN d n = n) ∨ ((turnD d n).down = true ∧ turnN d n < n) := by
  unfold turnD turnN
  rw [hd]
  by_cases h : 0 ≤ d.left ∧ d.left < (n : Int)
  · right
    rw [if_pos h]
    exact ⟨by simp [h.1, h.2], by omega⟩
  · left
    rw [if_neg h]
    exact ⟨by simp only [Bool.false_or]; exact decide_eq_false h, rfl⟩
theorem turn_row (d : Dv) (n : Nat) (r : Int) : (turnD d n).row r = d.row r := rfl
structure AppP (d d' : Dv) (r : Int) (l : List Int) : Prop where
  cap : d'.cap = d.cap
  other : d'.row (1 - r) = d.row (1 - r)
  row : (d'.down = false ∧ d'.row r = d.row r ++ l) ∨ (d'.down = true ∧ ∃ m, m < l.length ∧ d'.row r = d.row r ++ l.take m)
theorem append_pow {d : Dv} (hd : d.down = false) (r : Int) (hr : r = 0 ∨ r = 1) (l : List Int) (hl : (l.length : Int) ≤ d.cap - (d.row r).length) :
    ∃ d', appendD d r l = (d', if d'.down = true then 30 else 0) ∧ AppP d d' r l := by
  obtain ⟨d', hd'⟩ : ∃ d', (turnD d l.length).set r (d.row r ++ l.take (turnN d l.length)) = d' := ⟨_, rfl⟩
  have hs := set_rest (turnD d l.length) r (d.row r ++ l.take (turnN d l.length))
  have h1 := row_set_same (turnD d l.length) r hr (d.row r ++ l.take (turnN d l.length))
  have h2 := row_set_other (turnD d l.length) r hr (d.row r ++ l.take (turnN d l.length))
  rw [hd'] at hs h1 h2
  refine ⟨d', ?_, hs.1, h2, ?_⟩
  · unfold appendD
    rw [if_neg (by rw [hd]; simp), if_neg (by simp [hr]), if_neg (by omega), hd', hs.2.1]
  · rw [hs.2.1, h1]
    rcases turn_pow hd l.length with ⟨k1, k2⟩ | ⟨k1, k2⟩
    · exact .inl ⟨k1, by rw [k2, List.take_length]⟩
    · exact .inr ⟨k1, _, k2, rfl⟩
theorem trunc_pow {d : Dv} (hd : d.down = false) (r : Int) (hr : r = 0 ∨ r = 1) (n : Nat) (hn : n ≤ (d.row r).length) :
    ∃ d', truncD d r n = (d', if d'.down = true then 30 else 0) ∧ d'.cap = d.cap ∧ d'.row (1 - r) = d.row (1 - r) ∧ ((d'.down = false ∧ d'.row r = (d.row r).take n) ∨ (d'.down = true ∧ ∃ m, n ≤ m ∧ d'.row r = (d.row r).take m)) := by
  obtain ⟨d', hd'⟩ : ∃ d', (turnD d ((d.row r).length - n)).set r ((d.row r).take ((d.row r).length - turnN d ((d.row r).length - n))) = d' := ⟨_, rfl⟩
  have hs := set_rest (turnD d ((d.row r).length - n)) r ((d.row r).take ((d.row r).length - turnN d ((d.row r).length - n)))
  have h1 := row_set_same (turnD d ((d.row r).length - n)) r hr ((d.row r).take ((d.row r).length - turnN d ((d.row r).length - n)))
  have h2 := row_set_other (turnD d ((d.row r).length - n)) r hr ((d.row r).take ((d.row r).length - turnN d ((d.row r).length - n)))
  rw [hd'] at hs h1 h2
  refine ⟨d', ?_, hs.1, h2, ?_⟩
  · unfold truncD
    rw [if_neg (by rw [hd]; simp), if_neg (by simp [hr]; omega), Int.toNat_natCast, hd', hs.2.1]
  · rw [hs.2.1, h1]
    rcases turn_pow hd ((d.row r).length - n) with ⟨k1, k2⟩ | ⟨k1, k2⟩
    · exact .inl ⟨k1, by rw [k2]; congr 1; omega⟩
    · exact .inr ⟨k1, _, by omega, rfl⟩
theorem flat_rec (age : Nat) (snap : List Int) (recs : List (List Int)) (l : List Int) : flatF (jF age snap (recs ++ [l])) = flatF (jF age snap recs) ++ (writeF 4 l).1 := by
  unfold jF
  rw [List.map_append, ← List.append_assoc, flatF_append]
  simp [flatF]
/-- A record more: refused and nothing turned; kept; or the power goes, and the journal stands. -/
theorem Stand.append {d : Dv} {j : Jn} {age : Nat} (h : Stand d j age []) (hd : d.down = false) (l : List Int) {d' : Dv} {j' : Jn} {e : Int} (hx : appendJ d j l = (d', j', e)) :
    (d' = d ∧ j' = j ∧ (e = 2 ∨ e = 6)) ∨ (e = 0 ∧ d'.down = false ∧ d'.cap = d.cap ∧ l.length ≤ 4096 ∧ j'.snap = j.snap ∧ j'.recs = j.recs ++ [l] ∧ Stand d' j' age []) ∨ (e = 30 ∧ d'.down = true ∧ d'.cap = d.cap ∧ l.length ≤ 4096 ∧ j' = j ∧ ∃ tail, Stand d' j age tail) := by
  unfold appendJ at hx
  by_cases h4 : l.length ≤ 4096
  · have e0 : (writeF 4 l).2 = 0 := by unfold writeF; rw [if_neg (by decide), if_neg (by omega)]
    have hk : okW (4, l) = true := okW_of (by decide) (by decide) h4
    rw [if_neg (by rw [e0]; simp)] at hx
    by_cases hc : ((writeF 4 l).1.length : Int) > d.cap - (d.row j.region).length
    · have ea : appendD d j.region (writeF 4 l).1 = (d, 6) := by
        unfold appendD
        rw [if_neg (by rw [hd]; simp), if_neg (by have := h.reg; simp [this]), if_pos hc]
      rw [ea] at hx
      rw [if_pos (by simp)] at hx
      simp only [Prod.mk.injEq] at hx
      exact .inl ⟨hx.1.symm, hx.2.1.symm, .inr hx.2.2.symm⟩
    · obtain ⟨d2, ea, hp⟩ := append_pow hd j.region h.reg (writeF 4 l).1 (by omega)
      rw [ea] at hx
      have hrow := h.row
      rw [List.append_nil] at hrow
      rcases hp.row with ⟨k1, k2⟩ | ⟨k1, m, k2, k3⟩
      · rw [k1] at hx
        simp only [Bool.false_eq_true, if_false, ne_eq, not_true, Prod.mk.injEq] at hx
        obtain ⟨rfl, rfl, rfl⟩ := hx
        refine .inr (.inl ⟨rfl, k1, hp.cap, h4, rfl, rfl, ?_⟩)
        refine { reg := h.reg, ag := h.ag, a0 := h.a0, a1 := h.a1, sn := h.sn, rc := snoc_le7 h.rc h4, row := ?_, fin := ?_, tl := Tl.nil, old := ?_ }
        · show d2.row j.region = _
          rw [k2, hrow, flat_rec, List.append_nil]
        · show j.fin + _ = _
          rw [flat_rec, List.length_append, h.fin]; push_cast; rfl
        · show OldR age (d2.row (1 - j.region))
          rw [hp.other]; exact h.old
      · rw [k1] at hx
        rw [if_pos rfl, if_pos (by show ¬ ((30 : Int) = 0); decide)] at hx
        simp only [Prod.mk.injEq] at hx
        obtain ⟨rfl, rfl, rfl⟩ := hx
        refine .inr (.inr ⟨rfl, k1, hp.cap, h4, rfl, (writeF 4 l).1.take m, ?_⟩)
        exact { reg := h.reg, ag := h.ag, a0 := h.a0, a1 := h.a1, sn := h.sn, rc := h.rc, row := by rw [k3, hrow], fin := h.fin, tl := Tl.frame hk m k2, old := by rw [hp.other]; exact h.old }
  · have e0 : (writeF 4 l).2 = 2 := by unfold writeF; rw [if_neg (by decide), if_pos (by omega)]
    rw [if_pos (by rw [e0]; decide), e0] at hx
    simp only [Prod.mk.injEq] at hx
    exact .inl ⟨hx.1.symm, hx.2.1.symm, .inl hx.2.2.symm⟩
/-- Opened: it is the journal, or the power goes and it stands. -/
theorem Stand.open {d : Dv} {j : Jn} {age : Nat} {tail : List Int} (h : Stand d j age tail) (hd : d.down = false) {d' : Dv} {j' : Jn} {e : Int} (hx : openJ d = (d', j', e)) :
    j' = j ∧ d'.cap = d.cap ∧ ((e = 0 ∧ d'.down = false ∧ Stand d' j age []) ∨ (e = 30 ∧ d'.down = true ∧ ∃ tail', Stand d' j age tail')) := by
  unfold openJ at hx
  rw [if_neg (by rw [hd]; simp), h.pick, if_neg (by simp), h.fin] at hx
  have hlen : (flatF (jF age j.snap j.recs)).length ≤ (d.row j.region).length := by rw [h.row, List.length_append]; omega
  obtain ⟨d2, et, h1, h2, h3⟩ := trunc_pow hd j.region h.reg _ hlen
  rw [et] at hx
  rcases h3 with ⟨k1, k2⟩ | ⟨k1, m, k2, k3⟩
  · rw [k1] at hx
    simp only [Bool.false_eq_true, if_false, Prod.mk.injEq] at hx
    obtain ⟨rfl, rfl, rfl⟩ := hx
    refine ⟨rfl, h1, .inl ⟨rfl, k1, ?_⟩⟩
    exact { reg := h.reg, ag := h.ag, a0 := h.a0, a1 := h.a1, sn := h.sn, rc := h.rc, row := by rw [k2, h.row, List.take_left, List.append_nil], fin := h.fin, tl := Tl.nil, old := by rw [h2]; exact h.old }
  · rw [k1] at hx
    simp only [if_true, Prod.mk.injEq] at hx
    obtain ⟨rfl, rfl, rfl⟩ := hx
    refine ⟨rfl, h1, .inr ⟨rfl, k1, tail.take (m - (flatF (jF age j.snap j.recs)).length), ?_⟩⟩
    exact { reg := h.reg, ag := h.ag, a0 := h.a0, a1 := h.a1, sn := h.sn, rc := h.rc, row := by rw [k3, h.row, List.take_append, List.take_of_length_le k2], fin := h.fin, tl := h.tl.take _, old := by rw [h2]; exact h.old }
end Go.Proofs.Ytcgefilboefnpaa.H
/- A journal that stands over Compact, and the one that is opened anew. Plain. -/
namespace Go.Proofs.Ytcgefilboefnpaa.H
open Go.RowKit Go.Proofs.YtcgefilboefnpaaW.PrintWords Go.Proofs.YtcgefilboefnpaaW.PrintLast Go.Proofs.YtcgefilboefnpaaW.PrintMore Go.Proofs.Ytcgefilboefnpaa.CrcM
set_option linter.unusedVariables false
set_option linter.unusedSimpArgs false
set_option maxRecDepth 100000

theorem sum_chunks : ∀ (k : Nat) (l : List Int), l.length < k → sumF ((chunksL k l).map fun p => ((2 : Int), p)) = (chunksL k l).length * 7 + l.length := by
  intro k
  induction k with
  | zero => intro l h; omega
  | succ k ih =>
    intro l h
    by_cases he : l = []
    · subst he; rfl
    · have hp : 0 < l.length := List.length_pos_iff.2 he
      rw [chunksL_cons k l hp, List.map_cons, sumF_cons, ih (l.drop 4096) (by rw [List.length_drop]; omega), List.length_cons, List.length_take, List.length_drop]
      omega
theorem begF_heavy (age : Nat) (snap : List Int) : ((flatF (begF age snap)).length : Int) = heavyJ age snap.length := by
  have hc := chunks_count (snap.length + 1) snap (by omega)
  rw [flatF_len _ (okW_begF age snap)]
  unfold begF heavyJ chunksF
  rw [sumF_append, sumF_cons, sum_chunks _ _ (by omega), ← hc]
  simp only [sumF, List.map_cons, List.map_nil, List.sum_cons, List.sum_nil, List.length_nil, Int.toNat_natCast]
  push_cast
  omega
/-- Frames one behind the other, when the power may go. -/
theorem fold_pow (r : Int) (hr : r = 0 ∨ r = 1) : ∀ (fs pre : List Fb) (d : Dv), (∀ x ∈ fs, okW x = true) → d.down = false → d.row r = flatF pre → ((flatF (pre ++ fs)).length : Int) ≤ d.cap →
    ∃ d' e, foldA d r (fs.map fun x => (writeF x.1 x.2).1) = (d', e) ∧ d'.cap = d.cap ∧ d'.row (1 - r) = d.row (1 - r) ∧ ((e = 0 ∧ d'.down = false ∧ d'.row r = flatF (pre ++ fs)) ∨ (e = 30 ∧ d'.down = true ∧ ∃ p, p < (flatF (pre ++ fs)).length ∧ d'.row r = (flatF (pre ++ fs)).take p)) := by
  intro fs
  induction fs with
  | nil => intro pre d _ hd hrow _; exact ⟨d, 0, rfl, rfl, rfl, .inl ⟨rfl, hd, by rw [List.append_nil]; exact hrow⟩⟩
  | cons x fs ih =>
    intro pre d hk hd hrow hcap
    have e1 : pre ++ x :: fs = (pre ++ [x]) ++ fs := by simp
    have e2 : flatF (pre ++ [x]) = flatF pre ++ (writeF x.1 x.2).1 := by rw [flatF_append]; simp [flatF]
    have hl : (flatF (pre ++ x :: fs)).length = (flatF pre).length + (writeF x.1 x.2).1.length + (flatF fs).length := by
      rw [e1, flatF_append, e2, List.length_append, List.length_append]
    obtain ⟨d2, ea, hp⟩ := append_pow hd r hr (writeF x.1 x.2).1 (by rw [hrow]; omega)
    rw [List.map_cons]
    unfold foldA
    rw [ea]
    rcases hp.row with ⟨k1, k2⟩ | ⟨k1, m, k2, k3⟩
    · rw [k1]
      simp only [Bool.false_eq_true, if_false, if_true]
      obtain ⟨d3, e3, h1, h2, h3, h4⟩ := ih (pre ++ [x]) d2 (fun y hy => hk y (List.mem_cons_of_mem _ hy)) k1 (by rw [k2, hrow, e2]) (by rw [hp.cap, ← e1]; exact hcap)
      exact ⟨d3, e3, h1, h2.trans hp.cap, h3.trans hp.other, by rw [e1]; exact h4⟩
    · rw [k1]
      simp only [if_true]
      rw [if_neg (by decide)]
      refine ⟨d2, 30, rfl, hp.cap, hp.other, .inr ⟨rfl, k1, (flatF pre).length + m, by omega, ?_⟩⟩
      rw [k3, hrow, e1, flatF_append, e2, List.append_assoc, List.take_length_add_append, List.take_append_of_le_length (by omega)]
theorem jF_nil (age : Nat) (snap : List Int) : jF age snap [] = begF age snap := by unfold jF; simp
/-- A snapshot: refused and nothing turned; kept; or the power goes, and the journal stands. -/
theorem Stand.compact {d : Dv} {j : Jn} {age : Nat} (h : Stand d j age []) (ha : age + 1 < 1000) (hd : d.down = false) (l : List Int) (hl : l.length ≤ 20000) {d' : Dv} {j' : Jn} {e : Int} (hx : compactJ d j l = (d', j', e)) :
    (d' = d ∧ j' = j ∧ e = 6) ∨ (e = 0 ∧ d'.down = false ∧ d'.cap = d.cap ∧ j'.snap = l ∧ j'.recs = [] ∧ Stand d' j' (age + 1) []) ∨ (e = 30 ∧ d'.down = true ∧ d'.cap = d.cap ∧ j' = j ∧ Stand d' j age []) := by
  have hag : j.age.toNat = age := by rw [h.ag]; rfl
  unfold compactJ at hx
  rw [if_neg (by rw [h.ag]; have := h.a1; omega), hag] at hx
  by_cases hc : heavyJ (age + 1) l.length > d.cap
  · rw [if_pos hc] at hx
    simp only [Prod.mk.injEq] at hx
    exact .inl ⟨hx.1.symm, hx.2.1.symm, hx.2.2.symm⟩
  rw [if_neg hc, if_neg (by rw [hd]; simp)] at hx
  have hr' : (1 - j.region) = 0 ∨ (1 - j.region) = 1 := by have := h.reg; omega
  have hrr : 1 - (1 - j.region) = j.region := by omega
  obtain ⟨d2, et, t1, t2, t3⟩ := trunc_pow hd (1 - j.region) hr' 0 (Nat.zero_le _)
  rw [hrr] at t2
  have et' : truncD d (1 - j.region) 0 = (d2, if d2.down = true then 30 else 0) := et
  unfold beginJ at hx
  rw [et'] at hx
  rcases t3 with ⟨k1, k2⟩ | ⟨k1, m, _, k3⟩
  · rw [k1] at hx
    simp only [Bool.false_eq_true, if_false, ne_eq, not_true] at hx
    rw [List.take_zero] at k2
    have hb := begF_heavy (age + 1) l
    obtain ⟨d3, e3, f1, f2, f3, f4⟩ := fold_pow (1 - j.region) hr' (begF (age + 1) l) [] d2 (okW_begF _ _) k1 (by rw [k2]; rfl) (by rw [List.nil_append, hb, t1]; omega)
    rw [f1] at hx
    rw [hrr] at f3
    rw [List.nil_append] at f4
    rcases f4 with ⟨rfl, g1, g2⟩ | ⟨rfl, g1, p, g2, g3⟩
    · simp only [not_true, if_false, Prod.mk.injEq] at hx
      obtain ⟨rfl, rfl, rfl⟩ := hx
      refine .inr (.inl ⟨rfl, g1, f2.trans t1, rfl, rfl, ?_⟩)
      refine { reg := hr', ag := rfl, a0 := by omega, a1 := ha, sn := hl, rc := fun x hx => by simp at hx, row := ?_, fin := ?_, tl := Tl.nil, old := ?_ }
      · show d3.row (1 - j.region) = _
        rw [g2, jF_nil, List.append_nil]
      · show ((d3.row (1 - j.region)).length : Int) = _
        rw [g2, jF_nil]
      · show OldR (age + 1) (d3.row (1 - (1 - j.region)))
        rw [hrr, f3, t2, h.row]
        exact .inl ⟨age, j.snap, j.recs, _, h.a0, by omega, h.sn, h.rc, by rw [List.append_nil, List.take_length]⟩
    · simp only [show ¬ ((30 : Int) = 0) by decide, not_false_iff, if_true, Prod.mk.injEq] at hx
      obtain ⟨rfl, rfl, rfl⟩ := hx
      refine .inr (.inr ⟨rfl, g1, f2.trans t1, rfl, ?_⟩)
      exact { reg := h.reg, ag := h.ag, a0 := h.a0, a1 := h.a1, sn := h.sn, rc := h.rc, row := by rw [f3, t2, h.row], fin := h.fin, tl := Tl.nil, old := .inr ⟨age + 1, l, p, g2, g3⟩ }
  · rw [k1] at hx
    simp only [if_true, ne_eq, show ¬ ((30 : Int) = 0) by decide, not_false_iff, Prod.mk.injEq] at hx
    obtain ⟨rfl, rfl, rfl⟩ := hx
    refine .inr (.inr ⟨rfl, k1, t1, rfl, ?_⟩)
    exact { reg := h.reg, ag := h.ag, a0 := h.a0, a1 := h.a1, sn := h.sn, rc := h.rc, row := by rw [t2, h.row], fin := h.fin, tl := Tl.nil, old := by rw [k3]; exact h.old.take _ }
/-- The journal that is begun. -/
theorem stand_new (c x t : Int) (dn : Bool) : Stand ⟨a16, [], c, x, dn, t⟩ j17 1 [] :=
  { reg := .inl rfl, ag := rfl, a0 := by decide, a1 := by decide, sn := by simp [j17], rc := fun x hx => by simp [j17] at hx, row := by show a16 = flatF (jF 1 [] []) ++ []; decide +kernel, fin := by show (16 : Int) = ((flatF (jF 1 [] [])).length : Int); decide +kernel, tl := Tl.nil, old := .inr ⟨0, [], 0, by decide +kernel, rfl⟩ }
/-- Power and counts change nothing of it. -/
theorem Stand.power {d d' : Dv} {j : Jn} {age : Nat} {tail : List Int} (h : Stand d j age tail) (ha : d'.a = d.a) (hb : d'.b = d.b) : Stand d' j age tail := by
  have hr : ∀ r, d'.row r = d.row r := fun r => by unfold Dv.row; rw [ha, hb]
  exact { h with row := by rw [hr]; exact h.row, old := by rw [hr]; exact h.old }
end Go.Proofs.Ytcgefilboefnpaa.H
/- How much a device turns over the journal's steps, and that its rows stay within the capacity. Plain. -/
namespace Go.Proofs.Ytcgefilboefnpaa.H
open Go.RowKit Go.Proofs.YtcgefilboefnpaaW.PrintWords Go.Proofs.YtcgefilboefnpaaW.PrintLast Go.Proofs.YtcgefilboefnpaaW.PrintMore Go.Proofs.Ytcgefilboefnpaa.CrcM
set_option linter.unusedVariables false
set_option linter.unusedSimpArgs false
set_option maxRecDepth 100000

structure Fk (d : Dv) (t : Int) : Prop where
  cap : d.cap = 30000
  row : ∀ r, (d.row r).length ≤ 30000
  l0 : -1 ≤ d.left
  l1 : d.left ≤ 16383
  t0 : 0 ≤ d.turned
  t1 : d.turned ≤ t
theorem Fk.wide {d : Dv} {t t' : Int} (h : Fk d t) (ht : t ≤ t') : Fk d t' := { h with t1 := Int.le_trans h.t1 ht }
theorem Fk.fit {d : Dv} {t m T : Int} (h : Fk d t) (hm : 30000 ≤ m) (ht : t ≤ T) : d.fit m T := by
  have h1 := h.row 0
  have h2 := h.row 1
  have e1 : d.row 0 = d.a := rfl
  have e2 : d.row 1 = d.b := rfl
  rw [e1] at h1; rw [e2] at h2
  have := h.cap; have := h.l0; have := h.l1; have := h.t0; have := h.t1
  constructor <;> omega
theorem turn_le (d : Dv) (n : Nat) : turnN d n ≤ n := by unfold turnN; split <;> omega
theorem Fk.turn {d : Dv} {t : Int} (h : Fk d t) (n : Nat) (r : Int) (l : List Int) (hl : l.length ≤ 30000) : Fk ((turnD d n).set r l) (t + n) := by
  have hs := set_rest (turnD d n) r l
  have hn := turn_le d n
  have := h.l0; have := h.l1; have := h.t0; have := h.t1
  refine { cap := hs.1.trans h.cap, row := fun r' => ?_, l0 := ?_, l1 := ?_, t0 := ?_, t1 := ?_ }
  · unfold Dv.set Dv.row
    have h0 := h.row 0
    have h1 := h.row 1
    have e1 : d.row 0 = d.a := rfl
    have e2 : d.row 1 = d.b := rfl
    rw [e1] at h0; rw [e2] at h1
    have q0 : (turnD d n).a = d.a := rfl
    have q1 : (turnD d n).b = d.b := rfl
    (repeat' split) <;> first | exact hl | exact h0 | exact h1 | exact Nat.zero_le _
  · rw [hs.2.2.1]; unfold turnD turnN; simp only; split <;> (try split) <;> omega
  · rw [hs.2.2.1]; unfold turnD; simp only; split <;> omega
  · rw [hs.2.2.2]; unfold turnD; simp only; omega
  · rw [hs.2.2.2]; unfold turnD; simp only; omega
theorem Fk.append {d : Dv} {t : Int} (h : Fk d t) (r : Int) (l : List Int) : Fk (appendD d r l).1 (t + l.length) := by
  unfold appendD
  split
  · exact h.wide (by omega)
  · split
    · exact h.wide (by omega)
    · split
      · exact h.wide (by omega)
      · rename_i hc
        refine h.turn _ _ _ ?_
        have := h.cap
        rw [List.length_append, List.length_take]; omega
theorem Fk.trunc {d : Dv} {t : Int} (h : Fk d t) (r n : Int) : Fk (truncD d r n).1 (t + 30000) := by
  have hr := h.row r
  unfold truncD
  split
  · exact h.wide (by omega)
  · split
    · exact h.wide (by omega)
    · refine (h.turn _ _ _ ?_).wide (by omega)
      rw [List.length_take]; omega
theorem Fk.fold : ∀ (bs : List (List Int)) {d : Dv} {t : Int} (r : Int), Fk d t → Fk (foldA d r bs).1 (t + costL bs) := by
  intro bs
  induction bs with
  | nil => intro d t r h; exact h.wide (by unfold costL; simp)
  | cons b bs ih =>
    intro d t r h
    have hc : costL (b :: bs) = b.length + costL bs := by unfold costL; simp
    unfold foldA
    split
    · exact (ih r (h.append r b)).wide (by rw [hc]; push_cast; omega)
    · exact (h.append r b).wide (by rw [hc]; push_cast; omega)
theorem Fk.appendJ {d : Dv} {t : Int} (h : Fk d t) (j : Jn) (l : List Int) : Fk (appendJ d j l).1 (t + 4103) := by
  have hw := (writeF_len 4 l).1
  have ha := (h.append j.region (writeF 4 l).1).wide (show t + ((writeF 4 l).1.length : Int) ≤ t + 4103 by omega)
  unfold H.appendJ
  split
  · exact h.wide (by omega)
  · split
    · exact ha
    · exact ha
theorem Fk.beginJ {d : Dv} {t : Int} (h : Fk d t) (j : Jn) (region : Int) (age : Nat) (snap : List Int) (hs : snap.length ≤ 20000) : Fk (beginJ d j region age snap).1 (t + 200000) := by
  have hc := begF_cost age snap
  have h1 := h.trunc region 0
  have h2 := Fk.fold ((begF age snap).map fun x => (writeF x.1 x.2).1) region h1
  have h3 := h2.wide (show t + 30000 + (costL ((begF age snap).map fun x => (writeF x.1 x.2).1) : Int) ≤ t + 200000 by
    have e : costL ((begF age snap).map fun x => (writeF x.1 x.2).1) = costL ((begF age snap).map wrF) := rfl
    rw [e]; omega)
  unfold H.beginJ
  split
  · exact h1.wide (by omega)
  · split
    · exact h3
    · exact h3
theorem Fk.compactJ {d : Dv} {t : Int} (h : Fk d t) (j : Jn) (snap : List Int) (hs : snap.length ≤ 20000) : Fk (compactJ d j snap).1 (t + 200000) := by
  unfold H.compactJ
  split
  · exact h.wide (by omega)
  · split
    · exact h.wide (by omega)
    · split
      · exact h.wide (by omega)
      · exact h.beginJ j _ _ snap hs
end Go.Proofs.Ytcgefilboefnpaa.H
/- JournalKeeps: what abides in its loop: the device, the journal, two boxes of what was handed in. -/
namespace Go.Proofs.Ytcgefilboefnpaa.H
open Go.RowKit Go.Proofs.YtcgefilboefnpaaW.PrintWords Go.Proofs.YtcgefilboefnpaaW.PrintLast Go.Proofs.YtcgefilboefnpaaW.PrintMore Go.Proofs.Ytcgefilboefnpaa.CrcM
set_option linter.unusedVariables false
set_option linter.unusedSimpArgs false
set_option maxRecDepth 100000

/-- What a box of a document's journal holds: its slices, and what they tell. -/
structure Bx where
  A : Option Addr
  c : Nat
  Ar : Option Addr
  cr : Nat
  os : List Sl
  snap : List Int
  recs : List (List Int)
/-- Rows that were handed in, as cells have them. -/
def Given (W0 : World) (os : List Sl) (recs : List (List Int)) : Prop := os.length = recs.length ∧ ∀ (i : Nat) (o : Sl) (x : List Int), os[i]? = some o → recs[i]? = some x → o.2.1 = x.length ∧ x.length ≤ o.2.2 ∧ Kd.C (Kd.int .u8) W0 o.1 x.length x
structure BoxAt (W0 : World) (gn : Nat) (b : Bx) (w : World) : Prop where
  box : w.heap[gn]? = some (.cells (xjCells b.A b.snap.length b.c b.Ar b.recs.length b.cr) 38 (0, 0))
  snap : Kd.C (Kd.int .u8) W0 b.A b.snap.length b.snap
  row : KSl.R 32 w W0.heap.size (fun _ => True) (.slice b.Ar b.recs.length b.cr) b.os
  rows : Given W0 b.os b.recs
theorem BoxAt.below {W0 : World} {gn : Nat} {b : Bx} {w w' : World} (h : BoxAt W0 gn b w) (hb : Below w.heap.size w w') : BoxAt W0 gn b w' :=
  ⟨blk_belowX h.box hb, h.snap, Kd.R_below h.row hb, h.rows⟩
theorem BoxAt.but {P : Nat → Prop} {W0 : World} {gn : Nat} {b : Bx} {w w' : World} (h : BoxAt W0 gn b w) (hb : But P w w') (hg : ¬ P gn) (hr : ∀ ad, b.Ar = some ad → ¬ P ad.block) : BoxAt W0 gn b w' := by
  refine ⟨hb.blk h.box hg, h.snap, Kd.R_mono (hb.R (R_sharp h.row) (fun k hk _ _ => ?_)) (fun _ _ => trivial), h.rows⟩
  cases hAr : b.Ar with
  | none => rw [hAr] at hk; simp [Value.ownBlock] at hk
  | some ad => rw [hAr] at hk; simp [Value.ownBlock] at hk; rw [← hk]; exact hr ad hAr
/-- What it tells, as the document's Same reads it. -/
theorem BoxAt.C {W0 : World} {gn : Nat} {b : Bx} {w : World} (h : BoxAt W0 gn b w) (hb : Below W0.heap.size W0 w) : Kd.C (Kd.int .u8) w b.A b.snap.length b.snap ∧ Kd.C (Kd.slice 5 (Kd.int .u8)) w b.Ar b.recs.length b.recs :=
  ⟨Kd.C_below h.snap hb, C_rowsC h.row h.rows.1 (fun i o x ho hx => by obtain ⟨k1, k2, k3⟩ := h.rows.2 i o x ho hx; exact ⟨k1, k2, Kd.C_below k3 hb⟩)⟩
theorem BoxAt.blk {W0 : World} {gn : Nat} {b : Bx} {w : World} (h : BoxAt W0 gn b w) : ∀ ad, b.Ar = some ad → ad.block < w.heap.size := by
  have hr := h.row
  intro ad e
  rw [e] at hr
  obtain ⟨_, ho⟩ := Kd.R_own hr
  obtain ⟨cells, hc⟩ := own_typed ho ad.block rfl
  exact lt_of_some hc
structure KB [Pl] (W0 : World) (B gd gj gn gx : Nat) (Ar : Option Addr) (cr : Nat) (bn bx : Bx) (d : Dv) (j : Jn) (w : World) : Prop where
  below : Below W0.heap.size W0 w
  dd : DevAt w gd d
  jj : JAt w B gj gd Ar cr j
  kn : BoxAt W0 gn bn w
  kx : BoxAt W0 gx bx w
  h0 : W0.heap.size ≤ B
  hd : W0.heap.size ≤ gd
  hn : W0.heap.size ≤ gn
  hx : W0.heap.size ≤ gx
  ne : gn ≠ gx
  an : ∀ ad ad', Ar = some ad → bn.Ar = some ad' → ad.block ≠ ad'.block
  ax : ∀ ad ad', Ar = some ad → bx.Ar = some ad' → ad.block ≠ ad'.block
section
variable [Pl] {W0 : World} {B gd gj gn gx : Nat} {Ar : Option Addr} {cr : Nat} {bn bx : Bx} {d : Dv} {j : Jn} {w w' : World}
theorem KB.step (h : KB W0 B gd gj gn gx Ar cr bn bx d j w) (hb : Below w.heap.size w w') : KB W0 B gd gj gn gx Ar cr bn bx d j w' :=
  { h with below := below_step h.below hb, dd := h.dd.below hb, jj := h.jj.below hb, kn := h.kn.below hb, kx := h.kx.below hb }
theorem KB.drew (h : KB W0 B gd gj gn gx Ar cr bn bx d j w) : KB W0 B gd gj gn gx Ar cr bn bx d j w.drew := h.step ⟨rfl, rfl, rfl, Nat.le_refl _, fun _ _ => rfl⟩
omit [Pl] in
/-- Blocks of a box are none that a journal turns. -/
theorem no_JP [Pl] (h : JAt w B gj gd Ar cr j) (hd : DevAt w gd d) {k : Nat} {cells : Array Value} {t : TypeId} (hk : w.heap[k]? = some (.cells cells t (0, 0))) (t1 : t ≠ 67) (t2 : t ≠ 88) (t3 : t ≠ 63) (t4 : t ≠ 32 ∨ ∀ ad, Ar = some ad → ad.block ≠ k) : ¬ JP gj gd Ar k := by
  intro hjp
  obtain ⟨q0, _, _, os, ⟨rest, t', ht', q1⟩, _, _, q4, _⟩ := h
  obtain ⟨_, _, _, _, hB, _⟩ := hd
  rcases hjp with rfl | rfl | ⟨ad, rfl, rfl⟩
  · rw [q1] at hk; injection hk with hk; injection hk with _ hk _
    subst hk
    rcases ht' with h | h
    · exact t1 h
    · exact t2 h
  · rw [hB] at hk; injection hk with hk; injection hk with _ hk _
    exact t3 hk.symm
  · rcases t4 with t4 | t4
    · obtain ⟨_, ho⟩ := Kd.R_own q4
      obtain ⟨cells, hc⟩ := own_typed ho ad.block rfl
      rw [hc] at hk; injection hk with hk; injection hk with _ hk _
      exact t4 hk.symm
    · exact t4 ad rfl rfl
theorem KB.rows_no (h : KB W0 B gd gj gn gx Ar cr bn bx d j w) {b : Bx} {g : Nat} (hb : BoxAt W0 g b w) (ha : ∀ ad ad', Ar = some ad → b.Ar = some ad' → ad.block ≠ ad'.block) : ∀ ad, b.Ar = some ad → ¬ JP gj gd Ar ad.block := fun ad e => by
  have hr := hb.row
  rw [e] at hr
  obtain ⟨_, ho⟩ := Kd.R_own hr
  obtain ⟨cells, hc⟩ := own_typed ho ad.block rfl
  exact no_JP h.jj h.dd hc (by decide) (by decide) (by decide) (.inr (fun ad0 e0 => ha ad0 ad e0 e))
/-- Over an Append or a Compact. -/
theorem KB.app (h : KB W0 B gd gj gn gx Ar cr bn bx d j w) {x : Dv × Jn × Int} {e : Ending} (hp : JPost B gj gd Ar x w e w') : ∃ Ar' cr', KB W0 B gd gj gn gx Ar' cr' bn bx x.1 x.2.1 w' := by
  obtain ⟨_, h1, ⟨Ar', cr', h2, h3⟩, h4⟩ := hp
  have hfr : ∀ k, JP gj gd Ar k → W0.heap.size ≤ k := by
    have h6 := h.jj.from7
    have h7 := h.h0
    rintro k (rfl | rfl | hk)
    · have := h.jj.1; omega
    · exact h.hd
    · have := h6 k hk; omega
  have hap : ∀ {b : Bx} {g : Nat}, BoxAt W0 g b w → (∀ ad ad', Ar = some ad → b.Ar = some ad' → ad.block ≠ ad'.block) → ∀ ad ad', Ar' = some ad → b.Ar = some ad' → ad.block ≠ ad'.block := fun hb ha ad ad' e1 e2 => by
    have k2 := hb.blk ad' e2
    rcases h3 ad e1 with ⟨ad0, q1, q2⟩ | q
    · rw [q2]; exact ha ad0 ad' q1 e2
    · omega
  exact ⟨Ar', cr', { h with below := h4.below h.below h.below.size hfr, dd := h1, jj := h2, kn := h.kn.but h4 (no_JP h.jj h.dd h.kn.box (by decide) (by decide) (by decide) (.inl (by decide))) (h.rows_no h.kn h.an), kx := h.kx.but h4 (no_JP h.jj h.dd h.kx.box (by decide) (by decide) (by decide) (.inl (by decide))) (h.rows_no h.kx h.ax), an := hap h.kn h.an, ax := hap h.kx h.ax }⟩
/-- Over a store of a whole struct into the box of next: what it tells then. -/
theorem KB.store (h : KB W0 B gd gj gn gx Ar cr bn bx d j w) {b : Bx} (hbox : w'.heap[gx]? = some (.cells (xjCells b.A b.snap.length b.c b.Ar b.recs.length b.cr) 38 (0, 0))) (ho : Oth gx w w') (hs : Kd.C (Kd.int .u8) W0 b.A b.snap.length b.snap) (hr : KSl.R 32 w W0.heap.size (fun _ => True) (.slice b.Ar b.recs.length b.cr) b.os) (hg : Given W0 b.os b.recs) (ha : ∀ ad ad', Ar = some ad → b.Ar = some ad' → ad.block ≠ ad'.block) :
    KB W0 B gd gj gn gx Ar cr bn b d j w' := by
  obtain ⟨_, _, _, _, hB, _⟩ := h.dd
  have hjx : gj ≠ gx := by
    obtain ⟨q0, _, _, os, ⟨rest, t', ht', q1⟩, _⟩ := h.jj
    exact ne_block' q1 h.kx.box (by rcases ht' with rfl | rfl <;> decide)
  exact { h with below := ho.below h.below h.hx, dd := h.dd.oth h.kx.box (by decide) (ne_block' hB h.kx.box (by decide)) ho, jj := h.jj.oth h.kx.box (by decide) (by decide) hjx ho, kn := ⟨ho.blk h.kn.box h.ne, h.kn.snap, R_oth h.kn.row h.kx.box (by decide) ho, h.kn.rows⟩, kx := ⟨hbox, hs, R_oth hr h.kx.box (by decide) ho, hg⟩, ax := ha }
/-- .. into the box of now. -/
theorem KB.storeN (h : KB W0 B gd gj gn gx Ar cr bn bx d j w) {b : Bx} (hbox : w'.heap[gn]? = some (.cells (xjCells b.A b.snap.length b.c b.Ar b.recs.length b.cr) 38 (0, 0))) (ho : Oth gn w w') (hs : Kd.C (Kd.int .u8) W0 b.A b.snap.length b.snap) (hr : KSl.R 32 w W0.heap.size (fun _ => True) (.slice b.Ar b.recs.length b.cr) b.os) (hg : Given W0 b.os b.recs) (ha : ∀ ad ad', Ar = some ad → b.Ar = some ad' → ad.block ≠ ad'.block) :
    KB W0 B gd gj gn gx Ar cr b bx d j w' := by
  obtain ⟨_, _, _, _, hB, _⟩ := h.dd
  have hjx : gj ≠ gn := by
    obtain ⟨q0, _, _, os, ⟨rest, t', ht', q1⟩, _⟩ := h.jj
    exact ne_block' q1 h.kn.box (by rcases ht' with rfl | rfl <;> decide)
  exact { h with below := ho.below h.below h.hn, dd := h.dd.oth h.kn.box (by decide) (ne_block' hB h.kn.box (by decide)) ho, jj := h.jj.oth h.kn.box (by decide) (by decide) hjx ho, kx := ⟨ho.blk h.kx.box h.ne.symm, h.kx.snap, R_oth h.kx.row h.kn.box (by decide) ho, h.kx.rows⟩, kn := ⟨hbox, hs, R_oth hr h.kn.box (by decide) ho, hg⟩, an := ha }
end
end Go.Proofs.Ytcgefilboefnpaa.H
