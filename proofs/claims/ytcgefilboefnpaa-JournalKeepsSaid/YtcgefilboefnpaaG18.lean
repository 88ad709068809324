/- Some texts of one seat in one file, in build order. -/
import Derived.Test.YtcgefilboefnpaaG17
/- What is opened twice: a scan of the bytes that count is the scan as far as they go. Plain. -/
namespace Go.Proofs.Ytcgefilboefnpaa.H
open Go.RowKit Go.Proofs.YtcgefilboefnpaaW.PrintWords Go.Proofs.YtcgefilboefnpaaW.PrintLast Go.Proofs.YtcgefilboefnpaaW.PrintMore Go.Proofs.Ytcgefilboefnpaa.CrcM
set_option linter.unusedVariables false
set_option linter.unusedSimpArgs false
set_option maxRecDepth 100000

theorem rd_take (b : List Int) (m k : Nat) (hk : k < m) : rd (b.take m) k = rd b k := by
  simp [rd, List.getElem?_take, hk]
theorem readF_take {b : List Int} (hB : Bts b) (h : (readF b).2.2.2 = 0) (m : Nat) (hm : (readF b).2.2.1.toNat ≤ m) : readF (b.take m) = readF b := by
  by_cases hmb : b.length ≤ m
  · rw [List.take_of_length_le hmb]
  have hl : (b.take m).length = m := by rw [List.length_take]; omega
  revert h hm
  unfold readF
  by_cases h1 : b.length < 2
  · rw [if_pos h1]; intro h; cases h
  rw [if_neg h1]
  by_cases h2 : lenF b > 4096
  · rw [if_pos h2]; intro h; cases h
  rw [if_neg h2]
  by_cases h3 : (b.length : Int) < lenF b + 7
  · rw [if_pos h3]; intro h; cases h
  rw [if_neg h3]
  have hr := lenF_range hB (by omega)
  by_cases h4 : (openB (b.take (lenF b + 7).toNat)).2 = false
  · rw [if_pos h4]; intro h; cases h
  rw [if_neg h4]
  by_cases h5 : rd (openB (b.take (lenF b + 7).toNat)).1 2 = 0
  · rw [if_pos h5]; intro h; cases h
  rw [if_neg h5]
  intro _ hm
  simp only at hm
  have e : lenF (b.take m) = lenF b := by
    have e0 := rd_take b m 0 (by omega)
    have e1 := rd_take b m 1 (by omega)
    have q0 : ∀ l, rd l ((0 : Nat) : Int) = rd l 0 := fun _ => rfl
    have q1 : ∀ l, rd l ((1 : Nat) : Int) = rd l 1 := fun _ => rfl
    rw [q0, q0] at e0; rw [q1, q1] at e1
    unfold lenF; rw [e0, e1]
  have et : (b.take m).take (lenF b + 7).toNat = b.take (lenF b + 7).toNat := by rw [List.take_take, Nat.min_eq_left (by omega)]
  rw [e, et, hl, if_neg (by omega), if_neg h2, if_neg (by omega), if_neg h4, if_neg h5]
theorem takeR_no {r : Rr} {k : Int} {b : List Int} (h : (takeR r k b).2 = false) (ho : (takeR r k b).1.ok = true) : (takeR r k b).1 = r := by
  revert h ho
  unfold takeR
  split
  · unfold firstR
    simp only
    split
    · intro _ _; rfl
    · intro h _; cases h
  · split
    · split
      · intro h _; cases h
      · intro _ _; rfl
    · rename_i h1
      split
      · intro _ ho; exact absurd ho h1
      · simp only
        intro h ho
        rw [h] at ho; cases ho
theorem takeR_keep (r : Rr) (k : Int) (b : List Int) : (takeR r k b).1.j.region = r.j.region ∧ (takeR r k b).1.j.fin = r.j.fin ∧ ∀ x ∈ (takeR r k b).1.j.recs, x ∈ r.j.recs ∨ x = b := by
  unfold takeR
  split
  · unfold firstR
    simp only
    split
    · exact ⟨rfl, rfl, fun x h => .inl h⟩
    · exact ⟨rfl, rfl, fun x h => .inl h⟩
  · split
    · split
      · refine ⟨rfl, rfl, fun x h => ?_⟩
        rcases List.mem_append.1 h with h | h
        · exact .inl h
        · exact .inr (by simpa using h)
      · exact ⟨rfl, rfl, fun x h => .inl h⟩
    · split
      · exact ⟨rfl, rfl, fun x h => .inl h⟩
      · exact ⟨rfl, rfl, fun x h => .inl h⟩
theorem scanL_succ (b : List Int) (k at_ : Nat) : scanL b (k + 1) at_ = if (readF (b.drop at_)).2.2.2 = 0 then ((at_ : Int), (readF (b.drop at_)).1, (readF (b.drop at_)).2.1) :: scanL b k (at_ + (readF (b.drop at_)).2.2.1.toNat) else [] := rfl
theorem scan_end (b : List Int) (k n : Nat) (h : n ≤ b.length) : scanL (b.take n) k n = [] := by
  cases k with
  | zero => rfl
  | succ k =>
    unfold scanL
    have e : (b.take n).drop n = [] := by rw [List.drop_eq_nil_iff, List.length_take]; omega
    rw [e, if_neg (by decide)]
/-- What a run tells, and that it tells it of the bytes up to its end alone. -/
structure RunT (b : List Int) (at_ : Nat) (r0 r : Rr) : Prop where
  ex : ∃ F : Nat, at_ ≤ F ∧ F ≤ b.length ∧ r.j.fin = F ∧ (∀ k', F + 1 ≤ k' + at_ → runR (scanL (b.take F) k' at_) r0 = r) ∧ r.j.snap.length ≤ r0.j.snap.length + (F - at_) ∧ r.j.recs.length ≤ r0.j.recs.length + (F - at_)
  region : r.j.region = r0.j.region
  recs : ∀ x ∈ r.j.recs, x ∈ r0.j.recs ∨ x.length ≤ 4096
theorem run_stop {b : List Int} {at_ : Nat} {r0 : Rr} (h : at_ ≤ b.length) (hf : r0.j.fin = at_) : RunT b at_ r0 r0 :=
  ⟨⟨at_, Nat.le_refl _, h, hf, fun k' _ => by rw [scan_end b k' at_ h]; rfl, by omega, by omega⟩, rfl, fun x hx => .inl hx⟩
theorem run_take (b : List Int) (hB : Bts b) : ∀ (k at_ : Nat) (r0 : Rr), at_ ≤ b.length → r0.j.fin = at_ → (runR (scanL b k at_) r0).ok = true → RunT b at_ r0 (runR (scanL b k at_) r0) := by
  intro k
  induction k with
  | zero => intro at_ r0 h1 h2 _; exact run_stop h1 h2
  | succ k ih =>
    intro at_ r0 h1 h2 ho
    unfold scanL at ho ⊢
    by_cases he : (readF (b.drop at_)).2.2.2 = 0
    · rw [if_pos he] at ho ⊢
      obtain ⟨q1, q2, q3, q4, q5, q6⟩ := readF_ok (bts_drop hB at_) he
      rw [List.length_drop] at q2
      rw [runR_cons] at ho ⊢
      by_cases ht : (takeR r0 (readF (b.drop at_)).1 (readF (b.drop at_)).2.1).2 = true
      · simp only [ht, if_true] at ho ⊢
        have hk := takeR_keep r0 (readF (b.drop at_)).1 (readF (b.drop at_)).2.1
        have hu := takeU_hi r0 (readF (b.drop at_)).1 (readF (b.drop at_)).2.1
        have hI := ih (at_ + (readF (b.drop at_)).2.2.1.toNat) (stepR r0 (((at_ : Nat) : Int), (readF (b.drop at_)).1, (readF (b.drop at_)).2.1)) (by omega) (by show (at_ : Int) + _ = _; simp only; omega) ho
        obtain ⟨⟨F, f1, f2, f3, f4, f5, f6⟩, g1, g2⟩ := hI
        refine ⟨⟨F, by omega, f2, f3, fun k' hk' => ?_, ?_, ?_⟩, g1.trans hk.1, fun x hx => ?_⟩
        · cases k' with
          | zero => omega
          | succ k' =>
            have ed : (b.take F).drop at_ = (b.drop at_).take (F - at_) := by rw [List.drop_take]
            have er : readF ((b.take F).drop at_) = readF (b.drop at_) := by rw [ed]; exact readF_take (bts_drop hB at_) he _ (by omega)
            rw [scanL_succ, er, if_pos he, runR_cons]
            simp only [ht, if_true]
            exact f4 k' (by omega)
        · have e5 : (stepR r0 (((at_ : Nat) : Int), (readF (b.drop at_)).1, (readF (b.drop at_)).2.1)).j.snap.length = (takeR r0 (readF (b.drop at_)).1 (readF (b.drop at_)).2.1).1.j.snap.length := rfl
          rw [e5] at f5
          omega
        · have e5 : (stepR r0 (((at_ : Nat) : Int), (readF (b.drop at_)).1, (readF (b.drop at_)).2.1)).j.recs.length = (takeR r0 (readF (b.drop at_)).1 (readF (b.drop at_)).2.1).1.j.recs.length := rfl
          rw [e5] at f6
          omega
        · rcases g2 x hx with h | h
          · rcases hk.2.2 x h with h | h
            · exact .inl h
            · exact .inr (by rw [h]; exact q3)
          · exact .inr h
      · have hf : (takeR r0 (readF (b.drop at_)).1 (readF (b.drop at_)).2.1).2 = false := by simpa using ht
        simp only [hf, Bool.false_eq_true, if_false] at ho ⊢
        rw [takeR_no hf ho]
        exact run_stop h1 h2
    · rw [if_neg he] at ho ⊢
      exact run_stop h1 h2
theorem readJ_run {region : Int} {b : List Int} (hB : Bts b) (ho : (readJ region b).ok = true) : RunT b 0 ⟨⟨region, 0, [], [], 0⟩, -1, false⟩ (readJ region b) := run_take b hB _ 0 _ (Nat.zero_le _) rfl ho
/-- What is read again behind a cut at its end. -/
theorem readJ_again {region : Int} {b : List Int} (hB : Bts b) (ho : (readJ region b).ok = true) : readJ region (b.take (readJ region b).j.fin.toNat) = readJ region b := by
  obtain ⟨⟨F, f1, f2, f3, f4, f5, f6⟩, g1, g2⟩ := readJ_run hB ho
  rw [f3, Int.toNat_natCast]
  have hl : (b.take F).length = F := by rw [List.length_take]; omega
  have h := f4 (F + 1) (by omega)
  rw [← h]
  unfold readJ scanF
  rw [hl]
/-- A journal that is told is small. -/
def JSm (j : Jn) : Prop := j.snap.length ≤ 10000 ∧ j.recs.length ≤ 10000 ∧ (∀ x ∈ j.recs, x.length ≤ 4096) ∧ 0 ≤ j.fin ∧ j.fin ≤ 10000
structure Tw (d : Dv) (x : Dv × Jn × Int) : Prop where
  cap : x.1.cap = d.cap
  left : x.1.left = -1
  down : x.1.down = false
  a : x.1.a.length ≤ d.a.length + 16
  b : x.1.b.length ≤ d.b.length
  ba : Bts x.1.a
  bb : Bts x.1.b
  t0 : 0 ≤ x.1.turned
  t1 : x.1.turned ≤ d.turned + d.a.length + d.b.length + 16
  e : (x.2.2 = 0 ∧ openJ x.1 = (x.1, x.2.1, 0) ∧ JSm x.2.1) ∨ (x.2.2 = 6 ∧ d.cap < 16)
theorem readJ_small {region : Int} {b : List Int} (hB : Bts b) (hl : b.length ≤ 3000) (ho : (readJ region b).ok = true) : JSm (readJ region b).j ∧ (readJ region b).j.region = region ∧ (readJ region b).j.fin ≤ b.length := by
  obtain ⟨⟨F, f1, f2, f3, f4, f5, f6⟩, g1, g2⟩ := readJ_run hB ho
  simp only [List.length_nil] at f5 f6
  exact ⟨⟨by omega, by omega, fun x hx => (g2 x hx).elim (fun h => by simp at h) id, by omega, by omega⟩, g1, by omega⟩
theorem trunc_row {d : Dv} (hu : d.left = -1) (hd : d.down = false) (r : Int) (hr : r = 0 ∨ r = 1) (n : Int) (h0 : 0 ≤ n) (h1 : n ≤ (d.row r).length) : truncD (truncD d r n).1 r n = ((truncD d r n).1, 0) ∧ (truncD d r n).2 = 0 := by
  rw [truncD_up hu hd r n hr h0 h1]
  refine ⟨?_, rfl⟩
  obtain ⟨a, b, c, l, dn, t⟩ := d
  simp only at hu hd
  subst hu; subst hd
  rcases hr with rfl | rfl
  · have e : (Dv.set { (⟨a, b, c, -1, false, t⟩ : Dv) with turned := t + ((((⟨a, b, c, -1, false, t⟩ : Dv).row 0).length - n.toNat : Nat) : Int) } 0 (((⟨a, b, c, -1, false, t⟩ : Dv).row 0).take n.toNat)) = ⟨a.take n.toNat, b, c, -1, false, t + ((a.length - n.toNat : Nat) : Int)⟩ := rfl
    have h1' : n ≤ (a.length : Int) := h1
    rw [e, truncD_up rfl rfl 0 n (.inl rfl) h0 (by show n ≤ ((a.take n.toNat).length : Int); rw [List.length_take]; omega)]
    show ((⟨(a.take n.toNat).take n.toNat, b, c, -1, false, _⟩ : Dv), (0 : Int)) = _
    rw [List.take_take, Nat.min_self, show (Dv.row ⟨a.take n.toNat, b, c, -1, false, t + ((a.length - n.toNat : Nat) : Int)⟩ 0).length = (a.take n.toNat).length from rfl, List.length_take]
    have : (min n.toNat a.length - n.toNat : Nat) = 0 := by omega
    rw [this]
    simp
  · have e : (Dv.set { (⟨a, b, c, -1, false, t⟩ : Dv) with turned := t + ((((⟨a, b, c, -1, false, t⟩ : Dv).row 1).length - n.toNat : Nat) : Int) } 1 (((⟨a, b, c, -1, false, t⟩ : Dv).row 1).take n.toNat)) = ⟨a, b.take n.toNat, c, -1, false, t + ((b.length - n.toNat : Nat) : Int)⟩ := rfl
    have h1' : n ≤ (b.length : Int) := h1
    rw [e, truncD_up rfl rfl 1 n (.inr rfl) h0 (by show n ≤ ((b.take n.toNat).length : Int); rw [List.length_take]; omega)]
    show ((⟨a, (b.take n.toNat).take n.toNat, c, -1, false, _⟩ : Dv), (0 : Int)) = _
    rw [List.take_take, Nat.min_self, show (Dv.row ⟨a, b.take n.toNat, c, -1, false, t + ((b.length - n.toNat : Nat) : Int)⟩ 1).length = (b.take n.toNat).length from rfl, List.length_take]
    have : (min n.toNat b.length - n.toNat : Nat) = 0 := by omega
    rw [this]
    simp
theorem pick_a16 (c t : Int) : pickJ ⟨a16, [], c, -1, false, t⟩ = ⟨j17, 0, true⟩ := by kernel_rfl
theorem open_a16 (c t : Int) : openJ ⟨a16, [], c, -1, false, t⟩ = (⟨a16, [], c, -1, false, t⟩, j17, 0) := by
  unfold openJ
  rw [if_neg (by simp), pick_a16, if_neg (by simp)]
  have e : truncD ⟨a16, [], c, -1, false, t⟩ 0 16 = (⟨a16, [], c, -1, false, t⟩, 0) := by
    rw [truncD_up rfl rfl 0 16 (.inl rfl) (by decide) (by show (16 : Int) ≤ (a16.length : Int); decide)]
    show ((⟨a16, [], c, -1, false, t + 0⟩ : Dv), (0 : Int)) = _
    rw [Int.add_zero]
  show ((truncD ⟨a16, [], c, -1, false, t⟩ 0 16).1, j17, (truncD ⟨a16, [], c, -1, false, t⟩ 0 16).2) = _
  rw [e]
theorem anew_up (c t : Int) (a b : List Int) : anewJ ⟨a, b, c, -1, false, t⟩ = if 16 > c then (⟨[], [], c, -1, false, t + a.length + b.length⟩, jn0, 6) else (⟨a16, [], c, -1, false, t + a.length + b.length + 16⟩, j17, 0) := by
  have tr : ∀ (a b : List Int) (t : Int), truncD ⟨a, b, c, -1, false, t⟩ 0 0 = (⟨[], b, c, -1, false, t + a.length⟩, 0) := fun a b t => by
    rw [truncD_up rfl rfl 0 0 (.inl rfl) (Int.le_refl 0) (Int.natCast_nonneg _)]; rfl
  have tr1 : ∀ (a b : List Int) (t : Int), truncD ⟨a, b, c, -1, false, t⟩ 1 0 = (⟨a, [], c, -1, false, t + b.length⟩, 0) := fun a b t => by
    rw [truncD_up rfl rfl 1 0 (.inr rfl) (Int.le_refl 0) (Int.natCast_nonneg _)]; rfl
  have e1 := tr a b t
  have e2 := tr1 [] b (t + a.length)
  have e3 := tr [] [] (t + a.length + b.length)
  have e0 : t + (a.length : Int) + (b.length : Int) + (([] : List Int).length : Int) = t + a.length + b.length := by simp
  rw [e0] at e3
  unfold anewJ
  rw [e1]; simp only; rw [e2]; simp only
  rw [if_neg (by simp), if_neg (by simp)]
  by_cases h : 16 > c
  · rw [if_pos h, if_pos h]
  rw [if_neg h, if_neg h]
  have eb : (begF 1 []).map (fun x => (writeF x.1 x.2).1) = [a16.take 9, a16.drop 9] := by decide +kernel
  have f3 : appendD ⟨[], [], c, -1, false, t + a.length + b.length⟩ 0 (a16.take 9) = (⟨a16.take 9, [], c, -1, false, t + a.length + b.length + 9⟩, 0) := by
    rw [appendD_up rfl rfl 0 (.inl rfl), if_neg (by show ¬ ((a16.take 9).length : Int) > c - ([] : List Int).length; simp [a16]; omega)]; rfl
  have f4 : appendD ⟨a16.take 9, [], c, -1, false, t + a.length + b.length + 9⟩ 0 (a16.drop 9) = (⟨a16, [], c, -1, false, t + a.length + b.length + 9 + 7⟩, 0) := by
    rw [appendD_up rfl rfl 0 (.inl rfl), if_neg (by show ¬ ((a16.drop 9).length : Int) > c - (a16.take 9).length; simp [a16]; omega)]; rfl
  have e16 : t + (a.length : Int) + b.length + 9 + 7 = t + a.length + b.length + 16 := by omega
  rw [e16] at f4
  unfold beginJ
  rw [e3, eb]
  simp only [foldA, f3, f4, if_true, ne_eq, not_true, if_false]
  rfl
theorem tw_open (c t : Int) (a b : List Int) (hB : Bts a) (hBb : Bts b) (ha : a.length ≤ 3000) (hb : b.length ≤ 3000) (ht : 0 ≤ t) : Tw ⟨a, b, c, -1, false, t⟩ (openJ ⟨a, b, c, -1, false, t⟩) := by
  by_cases hp : (pickJ ⟨a, b, c, -1, false, t⟩).ok = false
  · have e : openJ ⟨a, b, c, -1, false, t⟩ = anewJ ⟨a, b, c, -1, false, t⟩ := by unfold openJ; rw [if_neg (by simp), if_pos hp]
    rw [e, anew_up]
    by_cases h : 16 > c
    · rw [if_pos h]
      refine { cap := rfl, left := rfl, down := rfl, a := by simp, b := by simp, ba := fun x hx => by simp at hx, bb := fun x hx => by simp at hx, t0 := by show 0 ≤ t + (a.length : Int) + b.length; omega, t1 := by show t + (a.length : Int) + b.length ≤ t + a.length + b.length + 16; omega, e := .inr ⟨rfl, by show c < 16; omega⟩ }
    · rw [if_neg h]
      have h16 : Bts a16 := by unfold Bts; decide +kernel
      refine { cap := rfl, left := rfl, down := rfl, a := by show a16.length ≤ a.length + 16; simp [a16], b := by simp, ba := h16, bb := fun x hx => by simp at hx, t0 := by show 0 ≤ t + (a.length : Int) + b.length + 16; omega, t1 := by show t + (a.length : Int) + b.length + 16 ≤ t + a.length + b.length + 16; omega, e := .inl ⟨rfl, open_a16 c _, by unfold JSm j17; simp⟩ }
  · have hok : (pickJ ⟨a, b, c, -1, false, t⟩).ok = true := by simpa using hp
    by_cases hc : (readJ 1 b).ok = true ∧ ((readJ 0 a).ok = false ∨ (readJ 1 b).j.age > (readJ 0 a).j.age)
    · have e0 : pickJ ⟨a, b, c, -1, false, t⟩ = readJ 1 b := by unfold pickJ; rw [if_pos hc]
      obtain ⟨s1, s2, s3⟩ := readJ_small hBb hb hc.1
      have s4 := s1.2.2.2.1
      have hr := readJ_again hBb hc.1
      have hT : truncD ⟨a, b, c, -1, false, t⟩ 1 (readJ 1 b).j.fin = (⟨a, b.take (readJ 1 b).j.fin.toNat, c, -1, false, t + ((b.length - (readJ 1 b).j.fin.toNat : Nat) : Int)⟩, 0) := by
        rw [truncD_up rfl rfl 1 _ (.inr rfl) s4 (by show _ ≤ (b.length : Int); exact s3)]; rfl
      have hT2 := (trunc_row (d := ⟨a, b, c, -1, false, t⟩) rfl rfl 1 (.inr rfl) _ s4 (by show _ ≤ (b.length : Int); exact s3)).1
      rw [hT] at hT2
      have e1 : pickJ ⟨a, b.take (readJ 1 b).j.fin.toNat, c, -1, false, t + ((b.length - (readJ 1 b).j.fin.toNat : Nat) : Int)⟩ = readJ 1 b := by
        show (if (readJ 1 (b.take (readJ 1 b).j.fin.toNat)).ok = true ∧ ((readJ 0 a).ok = false ∨ (readJ 1 (b.take (readJ 1 b).j.fin.toNat)).j.age > (readJ 0 a).j.age) then readJ 1 (b.take (readJ 1 b).j.fin.toNat) else readJ 0 a) = _
        rw [hr, if_pos hc]
      have eo : openJ ⟨a, b, c, -1, false, t⟩ = (⟨a, b.take (readJ 1 b).j.fin.toNat, c, -1, false, t + ((b.length - (readJ 1 b).j.fin.toNat : Nat) : Int)⟩, (readJ 1 b).j, 0) := by
        unfold openJ
        rw [if_neg (by simp), if_neg hp, e0, s2, hT]
      have eo2 : openJ ⟨a, b.take (readJ 1 b).j.fin.toNat, c, -1, false, t + ((b.length - (readJ 1 b).j.fin.toNat : Nat) : Int)⟩ = (⟨a, b.take (readJ 1 b).j.fin.toNat, c, -1, false, t + ((b.length - (readJ 1 b).j.fin.toNat : Nat) : Int)⟩, (readJ 1 b).j, 0) := by
        unfold openJ
        rw [if_neg (by simp), e1, if_neg (by rw [hc.1]; simp), s2, hT2]
      rw [eo]
      exact { cap := rfl, left := rfl, down := rfl, a := Nat.le_add_right _ _, b := by show (b.take _).length ≤ b.length; rw [List.length_take]; omega, ba := hB, bb := bts_take hBb _, t0 := by simp only; omega, t1 := by simp only; omega, e := .inl ⟨rfl, eo2, s1⟩ }
    · have e0 : pickJ ⟨a, b, c, -1, false, t⟩ = readJ 0 a := by unfold pickJ; rw [if_neg hc]
      rw [e0] at hok
      obtain ⟨s1, s2, s3⟩ := readJ_small hB ha hok
      have s4 := s1.2.2.2.1
      have hr := readJ_again hB hok
      have hT : truncD ⟨a, b, c, -1, false, t⟩ 0 (readJ 0 a).j.fin = (⟨a.take (readJ 0 a).j.fin.toNat, b, c, -1, false, t + ((a.length - (readJ 0 a).j.fin.toNat : Nat) : Int)⟩, 0) := by
        rw [truncD_up rfl rfl 0 _ (.inl rfl) s4 (by show _ ≤ (a.length : Int); exact s3)]; rfl
      have hT2 := (trunc_row (d := ⟨a, b, c, -1, false, t⟩) rfl rfl 0 (.inl rfl) _ s4 (by show _ ≤ (a.length : Int); exact s3)).1
      rw [hT] at hT2
      have e1 : pickJ ⟨a.take (readJ 0 a).j.fin.toNat, b, c, -1, false, t + ((a.length - (readJ 0 a).j.fin.toNat : Nat) : Int)⟩ = readJ 0 a := by
        show (if (readJ 1 b).ok = true ∧ ((readJ 0 (a.take (readJ 0 a).j.fin.toNat)).ok = false ∨ (readJ 1 b).j.age > (readJ 0 (a.take (readJ 0 a).j.fin.toNat)).j.age) then readJ 1 b else readJ 0 (a.take (readJ 0 a).j.fin.toNat)) = _
        rw [hr, if_neg hc]
      have eo : openJ ⟨a, b, c, -1, false, t⟩ = (⟨a.take (readJ 0 a).j.fin.toNat, b, c, -1, false, t + ((a.length - (readJ 0 a).j.fin.toNat : Nat) : Int)⟩, (readJ 0 a).j, 0) := by
        unfold openJ
        rw [if_neg (by simp), if_neg hp, e0, s2, hT]
      have eo2 : openJ ⟨a.take (readJ 0 a).j.fin.toNat, b, c, -1, false, t + ((a.length - (readJ 0 a).j.fin.toNat : Nat) : Int)⟩ = (⟨a.take (readJ 0 a).j.fin.toNat, b, c, -1, false, t + ((a.length - (readJ 0 a).j.fin.toNat : Nat) : Int)⟩, (readJ 0 a).j, 0) := by
        unfold openJ
        rw [if_neg (by simp), e1, if_neg (by rw [hok]; simp), s2, hT2]
      rw [eo]
      exact { cap := rfl, left := rfl, down := rfl, a := by show (a.take _).length ≤ a.length + 16; rw [List.length_take]; omega, b := Nat.le_refl _, ba := bts_take hB _, bb := hBb, t0 := by simp only; omega, t1 := by simp only; omega, e := .inl ⟨rfl, eo2, s1⟩ }
end Go.Proofs.Ytcgefilboefnpaa.H
/- What is read of a journal's bytes: all frames, a beginning of them. Plain. -/
namespace Go.Proofs.Ytcgefilboefnpaa.H
open Go.RowKit Go.Proofs.YtcgefilboefnpaaW.PrintWords Go.Proofs.YtcgefilboefnpaaW.PrintLast Go.Proofs.YtcgefilboefnpaaW.PrintMore Go.Proofs.Ytcgefilboefnpaa.CrcM
set_option linter.unusedVariables false
set_option linter.unusedSimpArgs false
set_option maxRecDepth 100000

/-- How many bytes frames take. -/
def sumF (fs : List Fb) : Nat := (fs.map fun x => x.2.length + 7).sum
theorem sumF_cons (x : Fb) (fs : List Fb) : sumF (x :: fs) = (x.2.length + 7) + sumF fs := by simp [sumF]
theorem sumF_append (a b : List Fb) : sumF (a ++ b) = sumF a + sumF b := by simp [sumF]
theorem posF_append (a b : List Fb) : ∀ at_, posF (a ++ b) at_ = posF a at_ ++ posF b (at_ + sumF a) := by
  induction a with
  | nil => intro at_; simp [posF, sumF]
  | cons x r ih => intro at_; simp only [List.cons_append, posF, ih, sumF_cons, Nat.add_assoc]
theorem flatF_len (fs : List Fb) (hk : ∀ x ∈ fs, okW x = true) : (flatF fs).length = sumF fs := by
  induction fs with
  | nil => rfl
  | cons x r ih =>
    have hx := okW_eq (hk x List.mem_cons_self)
    obtain ⟨_, _, _, _, h5⟩ := writeF_ok hx
    have ef : flatF (x :: r) = (writeF x.1 x.2).1 ++ flatF r := by simp [flatF]
    rw [ef, List.length_append, h5, sumF_cons, ih (fun y hy => hk y (List.mem_cons_of_mem _ hy))]
/-- The first frame. -/
theorem take_head (region : Int) (age n : Nat) (ha : 0 < age) (ha2 : age < 2 ^ 64) (hn : n ≤ 1048576) : takeR ⟨⟨region, 0, [], [], 0⟩, -1, false⟩ 1 (headB age n) = (⟨⟨region, age, [], [], 0⟩, n, false⟩, true) := by
  have e1 := takeU_uint age ha2 (uintB n)
  have e2 := takeU_uint n (by omega) []
  rw [List.append_nil] at e2
  unfold takeR firstR headB
  rw [if_pos (by show (-1 : Int) < 0; decide)]
  simp only [e1, e2]
  rw [if_neg (by simp; omega)]
/-- The pieces. -/
theorem run_chunks (rest : List Fr) : ∀ (k : Nat) (l : List Int) (at_ : Nat) (r : Rr), l.length < k → r.ok = false → r.left = (chunksL k l).length → r.j.fin = at_ →
    runR (posF ((chunksL k l).map fun p => ((2 : Int), p)) at_ ++ rest) r = runR rest ⟨{ r.j with snap := r.j.snap ++ l, fin := ((at_ + sumF ((chunksL k l).map fun p => ((2 : Int), p)) : Nat) : Int) }, 0, false⟩ := by
  intro k
  induction k with
  | zero => intro l at_ r h; omega
  | succ k ih =>
    intro l at_ r h ho hl hf
    by_cases he : l = []
    · subst he
      have e : chunksL (k + 1) [] = [] := rfl
      rw [e] at hl ⊢
      obtain ⟨⟨q1, q2, q3, q4, q5⟩, q6, q7⟩ := r
      simp only at ho hl hf
      subst ho; subst hf
      simp only [List.length_nil] at hl
      simp [posF, sumF]
      rw [show q6 = 0 from hl]
    · have hp : 0 < l.length := List.length_pos_iff.2 he
      rw [chunksL_cons k l hp] at hl ⊢
      simp only [List.map_cons, posF, List.cons_append]
      have hl' : r.left = ((chunksL k (l.drop 4096)).length : Int) + 1 := by rw [hl, List.length_cons]; push_cast; rfl
      have hT : takeR r 2 (l.take 4096) = (⟨{ r.j with snap := r.j.snap ++ l.take 4096 }, r.left - 1, r.ok⟩, true) := by
        unfold takeR
        rw [if_neg (by omega), if_neg (by rw [ho]; simp), if_pos (by omega)]
        congr 1
        refine decide_eq_true ⟨rfl, ?_⟩
        rw [List.length_take]
        by_cases h4 : 4096 ≤ l.length
        · left; omega
        · right
          have e : l.drop 4096 = [] := List.drop_of_length_le (by omega)
          have e2 : chunksL k (l.drop 4096) = [] := by rw [e]; cases k <;> rfl
          rw [e2] at hl'
          simp only [List.length_nil] at hl'
          omega
      rw [runR_cons]
      simp only [hT, if_true]
      have hst : stepR r ((at_ : Int), (2 : Int), l.take 4096) = ⟨{ r.j with snap := r.j.snap ++ l.take 4096, fin := (at_ : Int) + (((l.take 4096).length : Int) + 7) }, r.left - 1, r.ok⟩ := by
        unfold stepR; rw [hT]
      rw [hst, ih (l.drop 4096) (at_ + ((l.take 4096).length + 7)) ⟨{ r.j with snap := r.j.snap ++ l.take 4096, fin := (at_ : Int) + (((l.take 4096).length : Int) + 7) }, r.left - 1, r.ok⟩ (by rw [List.length_drop]; omega) ho (by show r.left - 1 = _; omega) (by show (at_ : Int) + _ = _; push_cast; rfl)]
      simp only [List.append_assoc, List.take_append_drop, sumF_cons, Nat.add_assoc]
/-- The records. -/
theorem run_recs : ∀ (recs : List (List Int)) (at_ : Nat) (r : Rr), r.ok = true → ¬ r.left < 0 → r.j.fin = at_ →
    runR (posF (recs.map fun p => ((4 : Int), p)) at_) r = ⟨{ r.j with recs := r.j.recs ++ recs, fin := ((at_ + sumF (recs.map fun p => ((4 : Int), p)) : Nat) : Int) }, r.left, true⟩ := by
  intro recs
  induction recs with
  | nil =>
    intro at_ r ho hl hf
    obtain ⟨⟨q1, q2, q3, q4, q5⟩, q6, q7⟩ := r
    simp only at ho hl hf
    subst ho; subst hf
    simp [posF, sumF, runR]
  | cons x recs ih =>
    intro at_ r ho hl hf
    simp only [List.map_cons, posF]
    have hT : takeR r 4 x = ({ r with j := { r.j with recs := r.j.recs ++ [x] } }, true) := by
      unfold takeR
      rw [if_neg hl, if_pos ho, if_pos rfl]
    rw [runR_cons]
    simp only [hT, if_true]
    have hst : stepR r ((at_ : Int), (4 : Int), x) = { r with j := { r.j with recs := r.j.recs ++ [x], fin := (at_ : Int) + ((x.length : Int) + 7) } } := by
      unfold stepR; rw [hT]
    rw [hst, ih (at_ + (x.length + 7)) { r with j := { r.j with recs := r.j.recs ++ [x], fin := (at_ : Int) + ((x.length : Int) + 7) } } ho hl (by show (at_ : Int) + _ = _; push_cast; rfl)]
    simp only [List.append_assoc, List.singleton_append, sumF_cons, Nat.add_assoc]
/-- A journal's frames. -/
def jF (age : Nat) (snap : List Int) (recs : List (List Int)) : List Fb := begF age snap ++ recs.map fun p => ((4 : Int), p)
theorem chunks_count : ∀ (k : Nat) (l : List Int), l.length < k → ((chunksL k l).length : Int) = cntJ l.length := by
  intro k
  induction k with
  | zero => intro l h; omega
  | succ k ih =>
    intro l h
    by_cases he : l = []
    · subst he; rfl
    · have hp : 0 < l.length := List.length_pos_iff.2 he
      rw [chunksL_cons k l hp, List.length_cons]
      have := ih (l.drop 4096) (by rw [List.length_drop]; omega)
      push_cast
      rw [this, List.length_drop]
      unfold cntJ
      omega
theorem run_jF (region : Int) (age : Nat) (snap : List Int) (recs : List (List Int)) (ha : 0 < age) (ha2 : age < 2 ^ 64) (hs : snap.length ≤ 1000000) :
    runR (posF (jF age snap recs) 0) ⟨⟨region, 0, [], [], 0⟩, -1, false⟩ = ⟨⟨region, age, snap, recs, ((sumF (jF age snap recs) : Nat) : Int)⟩, 0, true⟩ := by
  have hc := chunks_count (snap.length + 1) snap (by omega)
  have hc2 : (cntJ snap.length).toNat ≤ 1048576 := by unfold cntJ; omega
  have hT := take_head region age (cntJ snap.length).toNat ha ha2 hc2
  unfold jF begF
  simp only [List.cons_append, List.append_assoc, posF, posF_append, List.nil_append]
  rw [runR_cons]
  simp only [hT, if_true]
  have hst : stepR ⟨⟨region, 0, [], [], 0⟩, -1, false⟩ (((0 : Nat) : Int), (1 : Int), headB age (cntJ snap.length).toNat) = ⟨⟨region, age, [], [], ((0 + ((headB age (cntJ snap.length).toNat).length + 7) : Nat) : Int)⟩, (cntJ snap.length).toNat, false⟩ := by
    unfold stepR; rw [hT]; simp
  rw [hst]
  unfold chunksF
  rw [run_chunks _ (snap.length + 1) snap _ _ (by omega) rfl (by show (((cntJ snap.length).toNat : Nat) : Int) = _; rw [hc]; unfold cntJ; omega) rfl]
  rw [runR_cons]
  have hT3 : ∀ (j : Jn), takeR ⟨j, 0, false⟩ 3 [] = (⟨j, 0, true⟩, true) := fun j => by unfold takeR; simp
  simp only [hT3, if_true]
  rw [run_recs recs _ _ (by unfold stepR; rw [hT3]) (by unfold stepR; rw [hT3]; simp) (by unfold stepR; rw [hT3]; simp)]
  unfold stepR
  simp only [hT3, sumF_cons, sumF_append, List.nil_append, List.length_nil]
  congr 2
  omega
end Go.Proofs.Ytcgefilboefnpaa.H
/- What is read of a journal's bytes that the power has cut. Plain. -/
namespace Go.Proofs.Ytcgefilboefnpaa.H
open Go.RowKit Go.Proofs.YtcgefilboefnpaaW.PrintWords Go.Proofs.YtcgefilboefnpaaW.PrintLast Go.Proofs.YtcgefilboefnpaaW.PrintMore Go.Proofs.Ytcgefilboefnpaa.CrcM
set_option linter.unusedVariables false
set_option linter.unusedSimpArgs false
set_option maxRecDepth 100000

theorem okW_of {k : Int} {l : List Int} (h0 : 1 ≤ k) (h1 : k ≤ 255) (h2 : l.length ≤ 4096) : okW (k, l) = true := by
  unfold okW writeF
  rw [if_neg (by simp only; omega), if_neg (by simp only; omega)]
  rfl
theorem chunks_le : ∀ (k : Nat) (l x : List Int), x ∈ chunksL k l → x.length ≤ 4096 := by
  intro k
  induction k with
  | zero => intro l x h; cases h
  | succ k ih =>
    intro l x h
    unfold chunksL at h
    split at h
    · cases h
    · rcases List.mem_cons.1 h with rfl | h
      · rw [List.length_take]; omega
      · exact ih _ x h
theorem okW_begF (age : Nat) (snap : List Int) : ∀ x ∈ begF age snap, okW x = true := by
  intro x hx
  unfold begF at hx
  rcases List.mem_append.1 hx with h | h
  · rcases List.mem_cons.1 h with rfl | h
    · refine okW_of (by decide) (by decide) ?_
      have h1 := (uintB_len age).2
      have h2 := (uintB_len (cntJ snap.length).toNat).2
      unfold headB
      rw [List.length_append]; omega
    · obtain ⟨p, hp, rfl⟩ := List.mem_map.1 h
      exact okW_of (by decide) (by decide) (chunks_le _ _ p hp)
  · rw [List.mem_singleton] at h
    subst h
    exact okW_of (by decide) (by decide) (by simp)
theorem okW_jF (age : Nat) (snap : List Int) (recs : List (List Int)) (hr : ∀ x ∈ recs, x.length ≤ 4096) : ∀ x ∈ jF age snap recs, okW x = true := by
  intro x hx
  rcases List.mem_append.1 hx with h | h
  · exact okW_begF age snap x h
  · obtain ⟨p, hp, rfl⟩ := List.mem_map.1 h
    exact okW_of (by decide) (by decide) (hr p hp)
theorem readF_nil21 : (readF []).2.2.2 = 21 := rfl
/-- A journal's bytes, and what is no frame behind. -/
theorem readJ_full (region : Int) (age : Nat) (snap : List Int) (recs : List (List Int)) (tail : List Int) (ha : 0 < age) (ha2 : age < 2 ^ 64) (hs : snap.length ≤ 1000000) (hr : ∀ x ∈ recs, x.length ≤ 4096) (ht : (readF tail).2.2.2 = 21) :
    readJ region (flatF (jF age snap recs) ++ tail) = ⟨⟨region, age, snap, recs, ((flatF (jF age snap recs)).length : Int)⟩, 0, true⟩ := by
  unfold readJ
  rw [(scanF_join tail ht _ (okW_jF age snap recs hr)).1, run_jF region age snap recs ha ha2 hs, flatF_len _ (okW_jF age snap recs hr)]
theorem takeR_not3 {r : Rr} {k : Int} {b : List Int} (ho : r.ok = false) (hk : k ≠ 3) : (takeR r k b).1.ok = false := by
  unfold takeR
  split
  · unfold firstR
    simp only
    split
    · exact ho
    · exact ho
  · split
    · rename_i h; rw [ho] at h; cases h
    · split
      · exact ho
      · exact decide_eq_false (fun h => hk h.1)
theorem run_not3 : ∀ (fs : List Fb) (at_ : Nat) (r : Rr), r.ok = false → (∀ x ∈ fs, x.1 ≠ 3) → (runR (posF fs at_) r).ok = false := by
  intro fs
  induction fs with
  | nil => intro at_ r ho _; exact ho
  | cons x fs ih =>
    intro at_ r ho hk
    unfold posF
    rw [runR_cons]
    have h1 := takeR_not3 (b := x.2) ho (hk x List.mem_cons_self)
    split
    · exact ih _ _ h1 (fun y hy => hk y (List.mem_cons_of_mem _ hy))
    · exact h1
/-- The age is the first frame's. -/
theorem takeR_age {r : Rr} {k : Int} {b : List Int} (hl : ¬ r.left < 0) : (takeR r k b).1.j.age = r.j.age ∧ ¬ (takeR r k b).1.left < 0 := by
  unfold takeR
  rw [if_neg hl]
  split
  · split
    · exact ⟨rfl, hl⟩
    · exact ⟨rfl, hl⟩
  · split
    · exact ⟨rfl, by simp only; omega⟩
    · exact ⟨rfl, hl⟩
theorem run_age : ∀ (fs : List Fb) (at_ : Nat) (r : Rr), ¬ r.left < 0 → (runR (posF fs at_) r).j.age = r.j.age := by
  intro fs
  induction fs with
  | nil => intro at_ r _; rfl
  | cons x fs ih =>
    intro at_ r hl
    unfold posF
    rw [runR_cons]
    have h1 := takeR_age (k := x.1) (b := x.2) hl
    split
    · exact (ih (at_ + (x.2.length + 7)) (stepR r ((at_ : Int), x.1, x.2)) h1.2).trans h1.1
    · exact h1.1
/-- A beginning of frames: some frames, and what is none. -/
theorem take_flat : ∀ (fs : List Fb) (p : Nat), (∀ x ∈ fs, okW x = true) → ∃ (m : Nat) (tail : List Int), m ≤ fs.length ∧ (flatF fs).take p = flatF (fs.take m) ++ tail ∧ (readF tail).2.2.2 = 21 ∧ (p < (flatF fs).length → m < fs.length) := by
  intro fs
  induction fs with
  | nil => intro p _; exact ⟨0, [], Nat.le_refl _, by simp [flatF], rfl, fun h => by simp [flatF] at h⟩
  | cons x fs ih =>
    intro p hk
    have hx := okW_eq (hk x List.mem_cons_self)
    obtain ⟨_, _, _, _, h5⟩ := writeF_ok hx
    have ef : flatF (x :: fs) = (writeF x.1 x.2).1 ++ flatF fs := by simp [flatF]
    by_cases hp : p < (writeF x.1 x.2).1.length
    · refine ⟨0, (writeF x.1 x.2).1.take p, Nat.zero_le _, ?_, ?_, fun _ => by simp⟩
      · rw [ef, List.take_append_of_le_length (by omega)]; simp [flatF]
      · rw [back_cut hx p (by omega)]
    · obtain ⟨m, tail, h1, h2, h3, h4⟩ := ih (p - (writeF x.1 x.2).1.length) (fun y hy => hk y (List.mem_cons_of_mem _ hy))
      refine ⟨m + 1, tail, by simp; omega, ?_, h3, fun h => ?_⟩
      · rw [ef, List.take_append, List.take_of_length_le (by omega), h2]
        simp [flatF]
      · rw [ef, List.length_append] at h
        simp only [List.length_cons]
        have := h4 (by omega)
        omega
/-- A proper beginning of what a region begins with does not count. -/
theorem readJ_beg (region : Int) (age : Nat) (snap : List Int) (p : Nat) (hp : p < (flatF (begF age snap)).length) : (readJ region ((flatF (begF age snap)).take p)).ok = false := by
  obtain ⟨m, tail, h1, h2, h3, h4⟩ := take_flat (begF age snap) p (okW_begF age snap)
  have hm := h4 hp
  unfold readJ
  rw [h2, (scanF_join tail h3 _ (fun x hx => okW_begF age snap x (List.mem_of_mem_take hx))).1]
  refine run_not3 _ _ _ rfl (fun x hx => ?_)
  have hl : m ≤ ((1, headB age (cntJ snap.length).toNat) :: (chunksF snap).map (fun p => ((2 : Int), p))).length := by
    unfold begF at hm
    rw [List.length_append] at hm
    simp only [List.length_singleton] at hm
    omega
  unfold begF at hx
  rw [List.take_append_of_le_length hl] at hx
  rcases List.mem_cons.1 (List.mem_of_mem_take hx) with rfl | h
  · exact (by decide : (1 : Int) ≠ 3)
  · obtain ⟨q, _, rfl⟩ := List.mem_map.1 h
    exact (by decide : (2 : Int) ≠ 3)
/-- A beginning of a journal's bytes, if it counts, has its age. -/
theorem readJ_old (region : Int) (age : Nat) (snap : List Int) (recs : List (List Int)) (p : Nat) (ha : 0 < age) (ha2 : age < 2 ^ 64) (hs : snap.length ≤ 1000000) (hr : ∀ x ∈ recs, x.length ≤ 4096) :
    (readJ region ((flatF (jF age snap recs)).take p)).ok = false ∨ (readJ region ((flatF (jF age snap recs)).take p)).j.age = age := by
  obtain ⟨m, tail, h1, h2, h3, h4⟩ := take_flat (jF age snap recs) p (okW_jF age snap recs hr)
  unfold readJ
  rw [h2, (scanF_join tail h3 _ (fun x hx => okW_jF age snap recs hr x (List.mem_of_mem_take hx))).1]
  cases m with
  | zero => left; rfl
  | succ m =>
    right
    have hc2 : (cntJ snap.length).toNat ≤ 1048576 := by unfold cntJ; omega
    have hT := take_head region age (cntJ snap.length).toNat ha ha2 hc2
    unfold jF begF
    simp only [List.cons_append, List.take_succ_cons, posF]
    rw [runR_cons]
    simp only [hT, if_true]
    rw [run_age _ _ _ (by unfold stepR; rw [hT]; show ¬ (((cntJ snap.length).toNat : Nat) : Int) < 0; omega)]
    unfold stepR
    rw [hT]
end Go.Proofs.Ytcgefilboefnpaa.H
/- A journal that stands: one region has its bytes and, maybe, a beginning of a frame; the other an older journal's, or a beginning of a younger's. Plain. -/
namespace Go.Proofs.Ytcgefilboefnpaa.H
open Go.RowKit Go.Proofs.YtcgefilboefnpaaW.PrintWords Go.Proofs.YtcgefilboefnpaaW.PrintLast Go.Proofs.YtcgefilboefnpaaW.PrintMore Go.Proofs.Ytcgefilboefnpaa.CrcM
set_option linter.unusedVariables false
set_option linter.unusedSimpArgs false
set_option maxRecDepth 100000

/-- No frame, however much of it is cut. -/
def Tl (t : List Int) : Prop := ∀ q, (readF (t.take q)).2.2.2 = 21
theorem Tl.nil : Tl [] := fun q => by rw [List.take_nil]; rfl
theorem Tl.take {t : List Int} (h : Tl t) (p : Nat) : Tl (t.take p) := fun q => by rw [List.take_take]; exact h _
theorem Tl.self {t : List Int} (h : Tl t) : (readF t).2.2.2 = 21 := by have := h t.length; rwa [List.take_length] at this
theorem Tl.frame {k : Int} {l : List Int} (h : okW (k, l) = true) (p : Nat) (hp : p < (writeF k l).1.length) : Tl ((writeF k l).1.take p) := fun q => by
  rw [List.take_take, back_cut (okW_eq h) (min q p) (by simp only; omega)]
/-- What does not count beside a journal of this age. -/
def OldR (age : Nat) (row : List Int) : Prop :=
  (∃ (a' : Nat) (s' : List Int) (r' : List (List Int)) (p : Nat), 0 < a' ∧ a' < age ∧ s'.length ≤ 20000 ∧ (∀ x ∈ r', x.length ≤ 4096) ∧ row = (flatF (jF a' s' r')).take p) ∨ ∃ (a' : Nat) (s' : List Int) (p : Nat), p < (flatF (begF a' s')).length ∧ row = (flatF (begF a' s')).take p
theorem OldR.take {age : Nat} {row : List Int} (h : OldR age row) (q : Nat) : OldR age (row.take q) := by
  rcases h with ⟨a', s', r', p, h1, h2, h3, h4, rfl⟩ | ⟨a', s', p, h1, rfl⟩
  · exact .inl ⟨a', s', r', min q p, h1, h2, h3, h4, by rw [List.take_take]⟩
  · exact .inr ⟨a', s', min q p, by omega, by rw [List.take_take]⟩
theorem OldR.read {age : Nat} {row : List Int} (h : OldR age row) (ha : age < 2 ^ 64) (region : Int) : (readJ region row).ok = false ∨ (readJ region row).j.age < age := by
  rcases h with ⟨a', s', r', p, h1, h2, h3, h4, rfl⟩ | ⟨a', s', p, h1, rfl⟩
  · rcases readJ_old region a' s' r' p h1 (by omega) (by omega) h4 with h | h
    · exact .inl h
    · exact .inr (by rw [h]; omega)
  · exact .inl (readJ_beg region a' s' p h1)
/-- It stands, with this behind it. -/
structure Stand (d : Dv) (j : Jn) (age : Nat) (tail : List Int) : Prop where
  reg : j.region = 0 ∨ j.region = 1
  ag : j.age = age
  a0 : 0 < age
  a1 : age < 1000
  sn : j.snap.length ≤ 20000
  rc : ∀ x ∈ j.recs, x.length ≤ 4096
  row : d.row j.region = flatF (jF age j.snap j.recs) ++ tail
  fin : j.fin = ((flatF (jF age j.snap j.recs)).length : Int)
  tl : Tl tail
  old : OldR age (d.row (1 - j.region))
theorem Stand.read {d : Dv} {j : Jn} {age : Nat} {tail : List Int} (h : Stand d j age tail) : readJ j.region (d.row j.region) = ⟨j, 0, true⟩ := by
  rw [h.row, readJ_full j.region age j.snap j.recs tail h.a0 (by have := h.a1; omega) (by have := h.sn; omega) h.rc h.tl.self]
  obtain ⟨q1, q2, q3, q4, q5⟩ := j
  have h1 := h.ag; have h2 := h.fin
  simp only at h1 h2
  rw [h1, h2]
/-- It is the one that is picked. -/
theorem Stand.pick {d : Dv} {j : Jn} {age : Nat} {tail : List Int} (h : Stand d j age tail) : pickJ d = ⟨j, 0, true⟩ := by
  have hr := h.read
  have ho := h.old.read (by have := h.a1; omega) (1 - j.region)
  have hg := h.ag
  unfold pickJ
  rcases h.reg with e | e
  · rw [e] at hr ho
    have e0 : d.row 0 = d.a := rfl
    have e1 : d.row (1 - 0) = d.b := rfl
    have e2 : (1 : Int) - 0 = 1 := rfl
    rw [e0] at hr
    rw [e1, e2] at ho
    rw [hr]
    rw [if_neg (by
      rintro ⟨h1, h2⟩
      rcases ho with h3 | h3
      · rw [h3] at h1; cases h1
      · rcases h2 with h2 | h2
        · cases h2
        · simp only at h2; omega)]
  · rw [e] at hr ho
    have e0 : d.row 1 = d.b := rfl
    have e1 : d.row (1 - 1) = d.a := rfl
    have e2 : (1 : Int) - 1 = 0 := rfl
    rw [e0] at hr
    rw [e1, e2] at ho
    rw [hr]
    rw [if_pos ⟨rfl, by
      rcases ho with h3 | h3
      · exact .inl h3
      · exact .inr (by simp only; omega)⟩]
end Go.Proofs.Ytcgefilboefnpaa.H
