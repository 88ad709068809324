/- Some texts of one seat in one file, in build order. -/
import Derived.Test.YtmmingnkepifoaaG19
import Derived.Test.YtmmingnkepifoaaG20
import Derived.Test.YtmmingnkepifoaaG1
/- LimitWidest: whatever the numbers and the values, the statement's function answers true. No condition. -/
namespace Go.Proofs.Ytmmingnkepifoaa.MLimitWidest
open Go.RowKit Go.Proofs.YtmmingnkepifoaaW.PrintWords Go.Proofs.YtmmingnkepifoaaW.PrintLast Go.Proofs.YtmmingnkepifoaaW.PrintMore Go.Proofs.Ytmmingnkepifoaa.H Go.Proofs.Ytmmingnkepifoaa.Ult Go.Proofs.Ytmmingnkepifoaa.R22 Go.Proofs.Ytmmingnkepifoaa.PAll22
set_option linter.unusedVariables false
set_option linter.unusedSimpArgs false
theorem opens : Opens Try.prog 22 (Kd.slice 2 (Kd.int .i64)) (fun l => ∀ x ∈ l, (Lit.int .i64 x).wf = true) := opens_slice 0 Try.underlying22 (by kernel_rfl) (opens_int Try.underlying2)
theorem widest_l0 (room b : Int) : ∀ (d : Nat) (low high : Int), (high - low).toNat ≤ d → 0 ≤ low → low ≤ high → high ≤ 1099511627776 → roomI low b ≤ room → (high = 1099511627776 ∨ ¬ roomI (high + 1) b ≤ room) →
    ∃ n, Ult (fun k => limit_Widest.l0 k room b low high) (n, true) ∧ 0 ≤ n ∧ n ≤ 1099511627776 ∧ roomI n b ≤ room ∧ (n = 1099511627776 ∨ ¬ roomI (n + 1) b ≤ room) := by
  intro d
  induction d with
  | zero =>
    intro low high hd h0 h1 h2 h3 h4
    refine ⟨low, Ult.succ ?_, h0, by omega, h3, by have : low = high := by omega
                                                   rw [this]; exact h4⟩
    simp only [limit_Widest.l0]
    exact Ult.neg (by omega) (.pure _)
  | succ d ih =>
    intro low high hd h0 h1 h2 h3 h4
    by_cases hlt : low < high
    · have e : wrap64 (low + wrap64 (Int.tdiv (wrap64 (wrap64 (high - low) + 1)) 2)) = low + (high - low + 1) / 2 := by
        rw [w64 (n := high - low) (by omega) (by omega), w64 (n := high - low + 1) (by omega) (by omega), Int.tdiv_eq_ediv_of_nonneg (by omega), w64 (n := (high - low + 1) / 2) (by omega) (by omega), w64 (by omega) (by omega)]
      obtain ⟨m, hm⟩ : ∃ m, low + (high - low + 1) / 2 = m := ⟨_, rfl⟩
      have hm1 : low < m ∧ m ≤ high := by omega
      by_cases hf : roomI m b ≤ room
      · obtain ⟨n, hn, hr⟩ := ih m high (by omega) (by omega) (by omega) h2 hf h4
        refine ⟨n, Ult.succ ?_, hr⟩
        simp only [limit_Widest.l0]
        rw [e, hm]
        exact Ult.pos hlt (Ult.bind0 (fits_f m b room) (Ult.pos (decide_eq_true hf) hn))
      · obtain ⟨n, hn, hr⟩ := ih low (m - 1) (by omega) (by omega) (by omega) (by omega) h3 (.inr (by rw [show m - 1 + 1 = m by omega]; exact hf))
        refine ⟨n, Ult.succ ?_, hr⟩
        simp only [limit_Widest.l0]
        rw [e, hm, w64 (n := m - 1) (by omega) (by omega)]
        exact Ult.pos hlt (Ult.bind0 (fits_f m b room) (Ult.neg (by simpa using hf) hn))
    · refine ⟨low, Ult.succ ?_, h0, by omega, h3, by have : low = high := by omega
                                                     rw [this]; exact h4⟩
      simp only [limit_Widest.l0]
      exact Ult.neg (by omega) (.pure _)
def fewP (l : List Int) (b al : Int) : Bool := (rdsL l b).2 && decide ((rdsL l b).1 ≤ al)
theorem few_ev (l : List Int) (b al : Int) (hl : l.length ≤ 600000) : Ult (fun k => limit_few.f k l b al) (fewP l b al) := by
  unfold limit_few.f fewP
  refine Ult.bind (rounds_ev l b hl) (Ult.ite (fun h => Ult.const ?_) (fun h => Ult.const ?_))
  · rw [h, Bool.true_and]
  · rw [Bool.eq_false_iff.2 h, Bool.false_and]
theorem least_l0 (l : List Int) (al : Int) (hl : l.length ≤ 600000) : ∀ (d : Nat) (low high : Int), (high - low).toNat ≤ d → 1 ≤ low → low ≤ high → high ≤ 1099511627776 → fewP l high al = true → (low = 1 ∨ fewP l (low - 1) al = false) →
    ∃ n, Ult (fun k => limit_Least.l0 k l al low high) (n, true) ∧ 1 ≤ n ∧ n ≤ 1099511627776 ∧ fewP l n al = true ∧ (n = 1 ∨ fewP l (n - 1) al = false) := by
  intro d
  induction d with
  | zero =>
    intro low high hd h0 h1 h2 h3 h4
    refine ⟨low, Ult.succ ?_, h0, by omega, by have : low = high := by omega
                                               rw [this]; exact h3, h4⟩
    simp only [limit_Least.l0]
    exact Ult.neg (by omega) (.pure _)
  | succ d ih =>
    intro low high hd h0 h1 h2 h3 h4
    by_cases hlt : low < high
    · have e : wrap64 (low + wrap64 (Int.tdiv (wrap64 (high - low)) 2)) = low + (high - low) / 2 := by
        rw [w64 (n := high - low) (by omega) (by omega), Int.tdiv_eq_ediv_of_nonneg (by omega), w64 (n := (high - low) / 2) (by omega) (by omega), w64 (by omega) (by omega)]
      obtain ⟨m, hm⟩ : ∃ m, low + (high - low) / 2 = m := ⟨_, rfl⟩
      have hm1 : low ≤ m ∧ m < high := by omega
      cases hf : fewP l m al with
      | true =>
        obtain ⟨n, hn, hr⟩ := ih low m (by omega) (by omega) (by omega) (by omega) hf h4
        refine ⟨n, Ult.succ ?_, hr⟩
        simp only [limit_Least.l0]
        rw [e, hm]
        exact Ult.pos hlt (Ult.bind (few_ev l m al hl) (Ult.pos hf hn))
      | false =>
        obtain ⟨n, hn, hr⟩ := ih (m + 1) high (by omega) (by omega) (by omega) h2 h3 (.inr (by rw [show m + 1 - 1 = m by omega]; exact hf))
        refine ⟨n, Ult.succ ?_, hr⟩
        simp only [limit_Least.l0]
        rw [e, hm, w64 (n := m + 1) (by omega) (by omega)]
        exact Ult.pos hlt (Ult.bind (few_ev l m al hl) (Ult.neg (by rw [hf]; simp) hn))
    · refine ⟨low, Ult.succ ?_, h0, by omega, by have : low = high := by omega
                                                 rw [this]; exact h3, h4⟩
      simp only [limit_Least.l0]
      exact Ult.neg (by omega) (.pure _)
theorem least_ev (l : List Int) (al : Int) (hl : l.length ≤ 600000) : ∃ n, Ult (fun k => limit_Least.f k l al) (n, fewP l 1099511627776 al) ∧
    (fewP l 1099511627776 al = true → 1 ≤ n ∧ n ≤ 1099511627776 ∧ fewP l n al = true ∧ (n = 1 ∨ fewP l (n - 1) al = false)) ∧ (fewP l 1099511627776 al = false → n = 0) := by
  cases hf : fewP l 1099511627776 al with
  | true =>
    obtain ⟨n, hn, hr⟩ := least_l0 l al hl _ 1 1099511627776 (Nat.le_refl _) (by omega) (by omega) (by omega) hf (.inl rfl)
    refine ⟨n, ?_, fun _ => hr, fun h => by cases h⟩
    unfold limit_Least.f
    exact Ult.bind (few_ev l _ al hl) (Ult.pos hf hn)
  | false =>
    refine ⟨0, ?_, (fun h => by cases h), fun _ => rfl⟩
    unfold limit_Least.f
    exact Ult.bind (few_ev l _ al hl) (Ult.neg (by rw [hf]; simp) (.pure _))
def cntL (l : List Int) : Nat := l.countP fun m => decide (0 < m)
def badL (l : List Int) : Bool := l.any fun m => !okM m
theorem rds_top : ∀ (l : List Int) (acc : Int), 0 ≤ acc → acc + l.length ≤ 1099511627776 → rdsFrom 1099511627776 l acc = if badL l = true then (0, false) else (acc + cntL l, true) := by
  intro l
  induction l with
  | nil => intro acc h0 h; simp [rdsFrom, badL, cntL]
  | cons n l ih =>
    intro acc h0 h
    simp only [List.length_cons] at h
    unfold rdsFrom
    have hb : badL (n :: l) = (!okM n || badL l) := rfl
    rw [hb]
    by_cases hn : okM n = true
    · have hn2 := of_decide_eq_true hn
      have hc : ceilI n 1099511627776 = if 0 < n then 1 else 0 := by
        unfold ceilI
        repeat' split
        all_goals omega
      have hcnt : cntL (n :: l) = cntL l + if 0 < n then 1 else 0 := by
        unfold cntL
        rw [List.countP_cons]
        simp
      rw [if_pos hn, hn, Bool.not_true, Bool.false_or, hc, hcnt]
      by_cases hp : 0 < n
      · rw [if_pos hp, if_pos hp, if_neg (by omega), ih _ (by omega) (by omega)]
        split
        · rfl
        · congr 1; omega
      · rw [if_neg hp, if_neg hp, if_neg (by omega), ih _ (by omega) (by omega)]
        split
        · rfl
        · congr 1; omega
    · rw [if_neg hn, Bool.eq_false_iff.2 hn]; rfl
theorem few_top (l : List Int) (al : Int) (hl : l.length ≤ 100) : fewP l 1099511627776 al = (!badL l && decide ((cntL l : Int) ≤ al)) := by
  unfold fewP rdsL
  rw [if_pos (by omega), rds_top l 0 (by omega) (by omega)]
  cases badL l with
  | true => rfl
  | false => simp
theorem j2_ev (l : List Int) (al n : Int) (is : Bool) (hl : l.length ≤ 600000) (h : is = true → 1 ≤ n ∧ n ≤ 1099511627776 ∧ fewP l n al = true ∧ (n = 1 ∨ fewP l (n - 1) al = false)) : Ult (fun k => saleroomlaw22_LimitWidest.j2 k l al n is false) true := by
  refine Ult.succ ?_
  simp only [saleroomlaw22_LimitWidest.j2]
  refine Ult.neg (by simp) (Ult.ite (fun his => ?_) (fun _ => .pure _))
  obtain ⟨h1, h2, h3, h4⟩ := h his
  unfold fewP at h3 h4
  rw [Bool.and_eq_true] at h3
  have h3b := of_decide_eq_true h3.2
  refine Ult.bind (rounds_ev l n hl) (Ult.pos h3.1 (Ult.neg (by omega) (Ult.neg (by omega) (Ult.neg (by omega) ?_))))
  rw [w64 (n := n - 1) (by omega) (by omega)]
  refine Ult.bind (rounds_ev l (n - 1) hl) (Ult.ite (fun _ => .pure _) (fun hne => Ult.ite (fun h5 => Ult.const ?_) (fun _ => .pure _)))
  rcases h4 with h4 | h4
  · exact absurd h4 hne
  · rw [h5, Bool.true_and] at h4
    have := of_decide_eq_false h4
    rw [decide_eq_true (show (rdsL l (n - 1)).1 > al by omega)]
theorem law_l0 (l : List Int) (al n : Int) (is : Bool) (hl : l.length ≤ 100) (his : is = (!badL l && decide ((cntL l : Int) ≤ al))) (h : is = true → 1 ≤ n ∧ n ≤ 1099511627776 ∧ fewP l n al = true ∧ (n = 1 ∨ fewP l (n - 1) al = false)) (h0 : is = false → n = 0) :
    ∀ (d i : Nat), i + d = l.length → Ult (fun k => saleroomlaw22_LimitWidest.l0 k l al n is (cntL (l.take i) : Int) (badL (l.take i)) l (l.length : Int) (i : Int)) true := by
  intro d
  induction d with
  | zero =>
    intro i hi
    refine Ult.succ ?_
    simp only [saleroomlaw22_LimitWidest.l0]
    rw [List.take_of_length_le (by omega)]
    have hfin : is = false → (n != 0) = false := fun h => by rw [h0 h]; rfl
    refine Ult.neg (by omega) (Ult.ite (fun hb => ?_) (fun hb => ?_))
    · have his2 : is = false := by rw [his, hb]; rfl
      rw [his2] at h ⊢
      refine Ult.neg (by simp) (Ult.neg (by simp) ?_)
      rw [h0 his2] at h ⊢
      exact j2_ev l al 0 false (by omega) h
    · have his2 : is = decide ((cntL l : Int) ≤ al) := by rw [his, Bool.eq_false_iff.2 hb]; rfl
      refine Ult.neg (by rw [his2]; simp) (Ult.ite (fun hi2 => j2_ev l al n is (by omega) h) (fun hi2 => ?_))
      rw [hfin (Bool.eq_false_iff.2 hi2)]
      exact j2_ev l al n is (by omega) h
  | succ d ih =>
    intro i hi
    have hil : i < l.length := by omega
    refine Ult.succ ?_
    simp only [saleroomlaw22_LimitWidest.l0, rd_at hil]
    have hcl : cntL (l.take i) ≤ 100 := by
      have h1 := List.countP_le_length (p := fun m : Int => decide (0 < m)) (l := l.take i)
      have h2 := List.length_take_le i l
      unfold cntL; omega
    have ht : l.take (i + 1) = l.take i ++ [l[i]] := by rw [List.take_add_one, List.getElem?_eq_getElem hil]; rfl
    have hc : cntL (l.take (i + 1)) = cntL (l.take i) + if 0 < l[i] then 1 else 0 := by
      rw [ht]; unfold cntL; rw [List.countP_append]; simp [List.countP_cons]
    have hb : badL (l.take (i + 1)) = (badL (l.take i) || !okM l[i]) := by
      rw [ht]; unfold badL; rw [List.any_append]; simp
    have h1 := ih (i + 1) (by omega)
    rw [hc, hb] at h1
    generalize l[i] = x at h1
    rw [show wrap64 ((i : Int) + 1) = ((i + 1 : Nat) : Int) by rw [w64 (by omega) (by omega)]; rfl, show wrap64 ((cntL (l.take i) : Int) + 1) = ((cntL (l.take i) + 1 : Nat) : Int) by rw [w64 (by omega) (by omega)]; rfl]
    refine Ult.pos (by omega) (Ult.pos (by omega) (Ult.pos (by omega) (Ult.ite (fun hbd => ?_) (fun hbd => ?_))))
    · rw [hbd, Bool.true_or] at h1
      refine Ult.ite (fun hp => ?_) (fun hp => ?_)
      · rw [if_pos (show 0 < x from hp)] at h1; exact h1
      · rw [if_neg (show ¬ 0 < x from hp)] at h1; exact h1
    · rw [Bool.eq_false_iff.2 hbd, Bool.false_or] at h1
      refine Ult.ite (fun hn => Ult.ite (fun hp => absurd hp (by omega)) (fun hp => ?_)) (fun hn => Ult.ite (fun hp => ?_) (fun hp => ?_))
      · rw [if_neg (show ¬ 0 < x from hp)] at h1
        have : okM x = false := decide_eq_false (by omega)
        rw [this] at h1; exact h1
      · rw [if_pos (show 0 < x from hp)] at h1
        have : (!okM x) = decide (x > 1099511627776) := by
          unfold okM
          by_cases hq : x > 1099511627776
          · rw [decide_eq_true hq, decide_eq_false (by omega)]; rfl
          · rw [decide_eq_false hq, decide_eq_true (by omega)]; rfl
        rw [this] at h1; exact h1
      · rw [if_neg (show ¬ 0 < x from hp)] at h1
        have : (!okM x) = decide (x > 1099511627776) := by
          unfold okM
          rw [decide_eq_false (show ¬ x > 1099511627776 by omega), decide_eq_true (by omega)]; rfl
        rw [this] at h1; exact h1
theorem pure (room b al : Int) (l : List Int) : ∃ k, saleroomlaw22_LimitWidest.f k room b l al = some true := by
  refine Ult.get ?_
  unfold saleroomlaw22_LimitWidest.f
  refine Ult.bind alive_ev (Ult.pos rfl (Ult.ite (fun h => .pure _) (fun h => ?_)))
  have hj : Ult (fun k => saleroomlaw22_LimitWidest.j0 k l al false) true := by
    refine Ult.succ ?_
    simp only [saleroomlaw22_LimitWidest.j0]
    obtain ⟨n, hn, h1, h2⟩ := least_ev l al (by omega)
    refine Ult.neg (by simp) (Ult.bind hn ?_)
    exact law_l0 l al n _ (by omega) (few_top l al (by omega)) h1 h2 l.length 0 (by omega)
  by_cases hf : roomI 0 b ≤ room
  · obtain ⟨n, hn, n0, n1, n2, n3⟩ := widest_l0 room b _ 0 1099511627776 (Nat.le_refl _) (by omega) (by omega) (by omega) hf (.inl rfl)
    have hw : Ult (fun k => limit_Widest.f k room b) (n, true) := by
      unfold limit_Widest.f
      exact Ult.bind0 (fits_f 0 b room) (Ult.pos (decide_eq_true hf) hn)
    refine Ult.bind hw (Ult.bind0 (fits_f 0 b room) (Ult.neg (by rw [decide_eq_true hf]; simp) (Ult.pos rfl (Ult.bind0 (fits_f n b room) (Ult.pos (decide_eq_true n2) ?_)))))
    simp only
    refine Ult.ite (fun h3 => Ult.bind0 (fits_f _ b room) ?_) (fun h3 => Ult.neg (by omega) (Ult.neg (by omega) hj))
    rw [w64 (n := n + 1) (by omega) (by omega)]
    refine Ult.neg ?_ (Ult.neg (by omega) (Ult.neg (by omega) hj))
    rcases n3 with n3 | n3
    · omega
    · simpa using n3
  · have hw : Ult (fun k => limit_Widest.f k room b) (0, false) := by
      unfold limit_Widest.f
      exact Ult.bind0 (fits_f 0 b room) (Ult.neg (by simpa using hf) (.pure _))
    refine Ult.bind hw (Ult.bind0 (fits_f 0 b room) (Ult.neg (by rw [decide_eq_false hf]; simp) (Ult.neg (by simp) ?_)))
    exact hj
theorem main (room : Int) (w0 : (Lit.int .i64 room).wf = true) (b : Int) (w1 : (Lit.int .i64 b).wf = true)
    (A : Option Addr) (c : Nat) (l : List Int) (hc : l.length ≤ c) {W0 : World} (m : Kd.C (Kd.int .i64) W0 A l.length l) (g : ∀ x ∈ l, (Lit.int .i64 x).wf = true)
    (al : Int) (wb : (Lit.int .i64 al).wf = true) (W : World) (hW : W0 = W := by rfl) :
    Calls Try.prog 6 #[.int .i64 room, .int .i64 b, .slice A l.length c, .int .i64 al] W fun e W' => e = .returned (.bool true) ∧ Below W.heap.size W W' := by
  subst hW
  obtain ⟨k, hk⟩ := pure room b al l
  exact saleroomlaw22_LimitWidest.calls k room b A c l al true W0 m hc hk
end Go.Proofs.Ytmmingnkepifoaa.MLimitWidest
