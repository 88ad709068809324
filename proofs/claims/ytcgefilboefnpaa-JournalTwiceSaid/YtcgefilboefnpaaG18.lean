/- Some texts of one seat in one file, in build order. -/
import Derived.Test.YtcgefilboefnpaaG17
/- What is opened twice: a scan of the bytes that count is the scan as far as they go. Plain. -/
namespace Go.Proofs.Ytcgefilboefnpaa.H
open Go.RowKit Go.Proofs.YtcgefilboefnpaaW.PrintWords Go.Proofs.YtcgefilboefnpaaW.PrintLast Go.Proofs.YtcgefilboefnpaaW.PrintMore Go.Proofs.Ytcgefilboefnpaa.CrcM
set_option linter.unusedVariables false
set_option linter.unusedSimpArgs false
set_option maxRecDepth 100000

theorem rd_take (b : List Int) (m k : Nat) (hk : k < m) : rd (b.take m) k = rd b k := by
  simp [rd, List.getElem?_take, hk]
theorem readF_take {b : List Int} (hB : Bts b) (h : (readF b).2.2.2 = 0) (m : Nat) (hm : (readF b).2.2.1.toNat ≤ m) : readF (b.take m) = readF b := by
  by_cases hmb : b.length ≤ m
  · rw [List.take_of_length_le hmb]
  have hl : (b.take m).length = m := by rw [List.length_take]; omega
  revert h hm
  unfold readF
  by_cases h1 : b.length < 2
  · rw [if_pos h1]; intro h; cases h
  rw [if_neg h1]
  by_cases h2 : lenF b > 4096
  · rw [if_pos h2]; intro h; cases h
  rw [if_neg h2]
  by_cases h3 : (b.length : Int) < lenF b + 7
  · rw [if_pos h3]; intro h; cases h
  rw [if_neg h3]
  have hr := lenF_range hB (by omega)
  by_cases h4 : (openB (b.take (lenF b + 7).toNat)).2 = false
  · rw [if_pos h4]; intro h; cases h
  rw [if_neg h4]
  by_cases h5 : rd (openB (b.take (lenF b + 7).toNat)).1 2 = 0
  · rw [if_pos h5]; intro h; cases h
  rw [if_neg h5]
  intro _ hm
  simp only at hm
  have e : lenF (b.take m) = lenF b := by
    have e0 := rd_take b m 0 (by omega)
    have e1 := rd_take b m 1 (by omega)
    have q0 : ∀ l, rd l ((0 : Nat) : Int) = rd l 0 := fun _ => rfl
    have q1 : ∀ l, rd l ((1 : Nat) : Int) = rd l 1 := fun _ => rfl
    rw [q0, q0] at e0; rw [q1, q1] at e1
    unfold lenF; rw [e0, e1]
  have et : (b.take m).take (lenF b + 7).toNat = b.take (lenF b + 7).toNat := by rw [List.take_take, Nat.min_eq_left (by omega)]
  rw [e, et, hl, if_neg (by omega), if_neg h2, if_neg (by omega), if_neg h4, if_neg h5]
theorem takeR_no {r : Rr} {k : Int} {b : List Int} (h : (takeR r k b).2 = false) (ho : (takeR r k b).1.ok = true) : (takeR r k b).1 = r := by
  revert h ho
  unfold takeR
  split
  · unfold firstR
    simp only
    split
    · intro _ _; rfl
    · intro h _; cases h
  · split
    · split
      · intro h _; cases h
      · intro _ _; rfl
    · rename_i h1
      split
      · intro _ ho; exact absurd ho h1
      · simp only
        intro h ho
        rw [h] at ho; cases ho
theorem takeR_keep (r : Rr) (k : Int) (b : List Int) : (takeR r k b).1.j.region = r.j.region ∧ (takeR r k b).1.j.fin = r.j.fin ∧ ∀ x ∈ (takeR r k b).1.j.recs, x ∈ r.j.recs ∨ x = b := by
  unfold takeR
  split
  · unfold firstR
    simp only
    split
    · exact ⟨rfl, rfl, fun x h => .inl h⟩
    · exact ⟨rfl, rfl, fun x h => .inl h⟩
  · split
    · split
      · refine ⟨rfl, rfl, fun x h => ?_⟩
        rcases List.mem_append.1 h with h | h
        · exact .inl h
        · exact .inr (by simpa using h)
      · exact ⟨rfl, rfl, fun x h => .inl h⟩
    · split
      · exact ⟨rfl, rfl, fun x h => .inl h⟩
      · exact ⟨rfl, rfl, fun x h => .inl h⟩
theorem scanL_succ (b : List Int) (k at_ : Nat) : scanL b (k + 1) at_ = if (readF (b.drop at_)).2.2.2 = 0 then ((at_ : Int), (readF (b.drop at_)).1, (readF (b.drop at_)).2.1) :: scanL b k (at_ + (readF (b.drop at_)).2.2.1.toNat) else [] := rfl
theorem scan_end (b : List Int) (k n : Nat) (h : n ≤ b.length) : scanL (b.take n) k n = [] := by
  cases k with
  | zero => rfl
  | succ k =>
    unfold scanL
    have e : (b.take n).drop n = [] := by rw [List.drop_eq_nil_iff, List.length_take]; omega
    rw [e, if_neg (by decide)]
/-- What a run tells, and that it tells it of the bytes up to its end alone. -/
structure RunT (b : List Int) (at_ : Nat) (r0 r : Rr) : Prop where
  ex : ∃ F : Nat, at_ ≤ F ∧ F ≤ b.length ∧ r.j.fin = F ∧ (∀ k', F + 1 ≤ k' + at_ → runR (scanL (b.take F) k' at_) r0 = r) ∧ r.j.snap.length ≤ r0.j.snap.length + (F - at_) ∧ r.j.recs.length ≤ r0.j.recs.length + (F - at_)
  region : r.j.region = r0.j.region
  recs : ∀ x ∈ r.j.recs, x ∈ r0.j.recs ∨ x.length ≤ 4096
theorem run_stop {b : List Int} {at_ : Nat} {r0 : Rr} (h : at_ ≤ b.length) (hf : r0.j.fin = at_) : RunT b at_ r0 r0 :=
  ⟨⟨at_, Nat.le_refl _, h, hf, fun k' _ => by rw [scan_end b k' at_ h]; rfl, by omega, by omega⟩, rfl, fun x hx => .inl hx⟩
theorem run_take (b : List Int) (hB : Bts b) : ∀ (k at_ : Nat) (r0 : Rr), at_ ≤ b.length → r0.j.fin = at_ → (runR (scanL b k at_) r0).ok = true → RunT b at_ r0 (runR (scanL b k at_) r0) := by
  intro k
  induction k with
  | zero => intro at_ r0 h1 h2 _; exact run_stop h1 h2
  | succ k ih =>
    intro at_ r0 h1 h2 ho
    unfold scanL at ho ⊢
    by_cases he : (readF (b.drop at_)).2.2.2 = 0
    · rw [if_pos he] at ho ⊢
      obtain ⟨q1, q2, q3, q4, q5, q6⟩ := readF_ok (bts_drop hB at_) he
      rw [List.length_drop] at q2
      rw [runR_cons] at ho ⊢
      by_cases ht : (takeR r0 (readF (b.drop at_)).1 (readF (b.drop at_)).2.1).2 = true
      · simp only [ht, if_true] at ho ⊢
        have hk := takeR_keep r0 (readF (b.drop at_)).1 (readF (b.drop at_)).2.1
        have hu := takeU_hi r0 (readF (b.drop at_)).1 (readF (b.drop at_)).2.1
        have hI := ih (at_ + (readF (b.drop at_)).2.2.1.toNat) (stepR r0 (((at_ : Nat) : Int), (readF (b.drop at_)).1, (readF (b.drop at_)).2.1)) (by omega) (by show (at_ : Int) + _ = _; simp only; omega) ho
        obtain ⟨⟨F, f1, f2, f3, f4, f5, f6⟩, g1, g2⟩ := hI
        refine ⟨⟨F, by omega, f2, f3, fun k' hk' => ?_, ?_, ?_⟩, g1.trans hk.1, fun x hx => ?_⟩
        · cases k' with
          | zero => omega
          | succ k' =>
            have ed : (b.take F).drop at_ = (b.drop at_).take (F - at_) := by rw [List.drop_take]
            have er : readF ((b.take F).drop at_) = readF (b.drop at_) := by rw [ed]; exact readF_take (bts_drop hB at_) he _ (by omega)
            rw [scanL_succ, er, if_pos he, runR_cons]
            simp only [ht, if_true]
            exact f4 k' (by omega)
        · have e5 : (stepR r0 (((at_ : Nat) : Int), (readF (b.drop at_)).1, (readF (b.drop at_)).2.1)).j.snap.length = (takeR r0 (readF (b.drop at_)).1 (readF (b.drop at_)).2.1).1.j.snap.length := rfl
          rw [e5] at f5
          omega
        · have e5 : (stepR r0 (((at_ : Nat) : Int), (readF (b.drop at_)).1, (readF (b.drop at_)).2.1)).j.recs.length = (takeR r0 (readF (b.drop at_)).1 (readF (b.drop at_)).2.1).1.j.recs.length := rfl
          rw [e5] at f6
          omega
        · rcases g2 x hx with h | h
          · rcases hk.2.2 x h with h | h
            · exact .inl h
            · exact .inr (by rw [h]; exact q3)
          · exact .inr h
      · have hf : (takeR r0 (readF (b.drop at_)).1 (readF (b.drop at_)).2.1).2 = false := by simpa using ht
        simp only [hf, Bool.false_eq_true, if_false] at ho ⊢
        rw [takeR_no hf ho]
        exact run_stop h1 h2
    · rw [if_neg he] at ho ⊢
      exact run_stop h1 h2
theorem readJ_run {region : Int} {b : List Int} (hB : Bts b) (ho : (readJ region b).ok = true) : RunT b 0 ⟨⟨region, 0, [], [], 0⟩, -1, false⟩ (readJ region b) := run_take b hB _ 0 _ (Nat.zero_le _) rfl ho
/-- What is read again behind a cut at its end. -/
theorem readJ_again {region : Int} {b : List Int} (hB : Bts b) (ho : (readJ region b).ok = true) : readJ region (b.take (readJ region b).j.fin.toNat) = readJ region b := by
  obtain ⟨⟨F, f1, f2, f3, f4, f5, f6⟩, g1, g2⟩ := readJ_run hB ho
  rw [f3, Int.toNat_natCast]
  have hl : (b.take F).length = F := by rw [List.length_take]; omega
  have h := f4 (F + 1) (by omega)
  rw [← h]
  unfold readJ scanF
  rw [hl]
/-- A journal that is told is small. -/
def JSm (j : Jn) : Prop := j.snap.length ≤ 10000 ∧ j.recs.length ≤ 10000 ∧ (∀ x ∈ j.recs, x.length ≤ 4096) ∧ 0 ≤ j.fin ∧ j.fin ≤ 10000
structure Tw (d : Dv) (x : Dv × Jn × Int) : Prop where
  cap : x.1.cap = d.cap
  left : x.1.left = -1
  down : x.1.down = false
  a : x.1.a.length ≤ d.a.length + 16
  b : x.1.b.length ≤ d.b.length
  ba : Bts x.1.a
  bb : Bts x.1.b
  t0 : 0 ≤ x.1.turned
  t1 : x.1.turned ≤ d.turned + d.a.length + d.b.length + 16
  e : (x.2.2 = 0 ∧ openJ x.1 = (x.1, x.2.1, 0) ∧ JSm x.2.1) ∨ (x.2.2 = 6 ∧ d.cap < 16)
theorem readJ_small {region : Int} {b : List Int} (hB : Bts b) (hl : b.length ≤ 3000) (ho : (readJ region b).ok = true) : JSm (readJ region b).j ∧ (readJ region b).j.region = region ∧ (readJ region b).j.fin ≤ b.length := by
  obtain ⟨⟨F, f1, f2, f3, f4, f5, f6⟩, g1, g2⟩ := readJ_run hB ho
  simp only [List.length_nil] at f5 f6
  exact ⟨⟨by omega, by omega, fun x hx => (g2 x hx).elim (fun h => by simp at h) id, by omega, by omega⟩, g1, by omega⟩
theorem trunc_row {d : Dv} (hu : d.left = -1) (hd : d.down = false) (r : Int) (hr : r = 0 ∨ r = 1) (n : Int) (h0 : 0 ≤ n) (h1 : n ≤ (d.row r).length) : truncD (truncD d r n).1 r n = ((truncD d r n).1, 0) ∧ (truncD d r n).2 = 0 := by
  rw [truncD_up hu hd r n hr h0 h1]
  refine ⟨?_, rfl⟩
  obtain ⟨a, b, c, l, dn, t⟩ := d
  simp only at hu hd
  subst hu; subst hd
  rcases hr with rfl | rfl
  · have e : (Dv.set { (⟨a, b, c, -1, false, t⟩ : Dv) with turned := t + ((((⟨a, b, c, -1, false, t⟩ : Dv).row 0).length - n.toNat : Nat) : Int) } 0 (((⟨a, b, c, -1, false, t⟩ : Dv).row 0).take n.toNat)) = ⟨a.take n.toNat, b, c, -1, false, t + ((a.length - n.toNat : Nat) : Int)⟩ := rfl
    have h1' : n ≤ (a.length : Int) := h1
    rw [e, truncD_up rfl rfl 0 n (.inl rfl) h0 (by show n ≤ ((a.take n.toNat).length : Int); rw [List.length_take]; omega)]
    show ((⟨(a.take n.toNat).take n.toNat, b, c, -1, false, _⟩ : Dv), (0 : Int)) = _
    rw [List.take_take, Nat.min_self, show (Dv.row ⟨a.take n.toNat, b, c, -1, false, t + ((a.length - n.toNat : Nat) : Int)⟩ 0).length = (a.take n.toNat).length from rfl, List.length_take]
    have : (min n.toNat a.length - n.toNat : Nat) = 0 := by omega
    rw [this]
    simp
  · have e : (Dv.set { (⟨a, b, c, -1, false, t⟩ : Dv) with turned := t + ((((⟨a, b, c, -1, false, t⟩ : Dv).row 1).length - n.toNat : Nat) : Int) } 1 (((⟨a, b, c, -1, false, t⟩ : Dv).row 1).take n.toNat)) = ⟨a, b.take n.toNat, c, -1, false, t + ((b.length - n.toNat : Nat) : Int)⟩ := rfl
    have h1' : n ≤ (b.length : Int) := h1
    rw [e, truncD_up rfl rfl 1 n (.inr rfl) h0 (by show n ≤ ((b.take n.toNat).length : Int); rw [List.length_take]; omega)]
    show ((⟨a, (b.take n.toNat).take n.toNat, c, -1, false, _⟩ : Dv), (0 : Int)) = _
    rw [List.take_take, Nat.min_self, show (Dv.row ⟨a, b.take n.toNat, c, -1, false, t + ((b.length - n.toNat : Nat) : Int)⟩ 1).length = (b.take n.toNat).length from rfl, List.length_take]
    have : (min n.toNat b.length - n.toNat : Nat) = 0 := by omega
    rw [this]
    simp
theorem pick_a16 (c t : Int) : pickJ ⟨a16, [], c, -1, false, t⟩ = ⟨j17, 0, true⟩ := by kernel_rfl
theorem open_a16 (c t : Int) : openJ ⟨a16, [], c, -1, false, t⟩ = (⟨a16, [], c, -1, false, t⟩, j17, 0) := by
  unfold openJ
  rw [if_neg (by simp), pick_a16, if_neg (by simp)]
  have e : truncD ⟨a16, [], c, -1, false, t⟩ 0 16 = (⟨a16, [], c, -1, false, t⟩, 0) := by
    rw [truncD_up rfl rfl 0 16 (.inl rfl) (by decide) (by show (16 : Int) ≤ (a16.length : Int); decide)]
    show ((⟨a16, [], c, -1, false, t + 0⟩ : Dv), (0 : Int)) = _
    rw [Int.add_zero]
  show ((truncD ⟨a16, [], c, -1, false, t⟩ 0 16).1, j17, (truncD ⟨a16, [], c, -1, false, t⟩ 0 16).2) = _
  rw [e]
theorem anew_up (c t : Int) (a b : List Int) : anewJ ⟨a, b, c, -1, false, t⟩ = if 16 > c then (⟨[], [], c, -1, false, t + a.length + b.length⟩, jn0, 6) else (⟨a16, [], c, -1, false, t + a.length + b.length + 16⟩, j17, 0) := by
  have tr : ∀ (a b : List Int) (t : Int), truncD ⟨a, b, c, -1, false, t⟩ 0 0 = (⟨[], b, c, -1, false, t + a.length⟩, 0) := fun a b t => by
    rw [truncD_up rfl rfl 0 0 (.inl rfl) (Int.le_refl 0) (Int.natCast_nonneg _)]; rfl
  have tr1 : ∀ (a b : List Int) (t : Int), truncD ⟨a, b, c, -1, false, t⟩ 1 0 = (⟨a, [], c, -1, false, t + b.length⟩, 0) := fun a b t => by
    rw [truncD_up rfl rfl 1 0 (.inr rfl) (Int.le_refl 0) (Int.natCast_nonneg _)]; rfl
  have e1 := tr a b t
  have e2 := tr1 [] b (t + a.length)
  have e3 := tr [] [] (t + a.length + b.length)
  have e0 : t + (a.length : Int) + (b.length : Int) + (([] : List Int).length : Int) = t + a.length + b.length := by simp
  rw [e0] at e3
  unfold anewJ
  rw [e1]; simp only; rw [e2]; simp only
  rw [if_neg (by simp), if_neg (by simp)]
  by_cases h : 16 > c
  · rw [if_pos h, if_pos h]
  rw [if_neg h, if_neg h]
  have eb : (begF 1 []).map (fun x => (writeF x.1 x.2).1) = [a16.take 9, a16.drop 9] := by decide +kernel
  have f3 : appendD ⟨[], [], c, -1, false, t + a.length + b.length⟩ 0 (a16.take 9) = (⟨a16.take 9, [], c, -1, false, t + a.length + b.length + 9⟩, 0) := by
    rw [appendD_up rfl rfl 0 (.inl rfl), if_neg (by show ¬ ((a16.take 9).length : Int) > c - ([] : List Int).length; simp [a16]; omega)]; rfl
  have f4 : appendD ⟨a16.take 9, [], c, -1, false, t + a.length + b.length + 9⟩ 0 (a16.drop 9) = (⟨a16, [], c, -1, false, t + a.length + b.length + 9 + 7⟩, 0) := by
    rw [appendD_up rfl rfl 0 (.inl rfl), if_neg (by show ¬ ((a16.drop 9).length : Int) > c - (a16.take 9).length; simp [a16]; omega)]; rfl
  have e16 : t + (a.length : Int) + b.length + 9 + 7 = t + a.length + b.length + 16 := by omega
  rw [e16] at f4
  unfold beginJ
  rw [e3, eb]
  simp only [foldA, f3, f4, if_true, ne_eq, not_true, if_false]
  rfl
theorem tw_open (c t : Int) (a b : List Int) (hB : Bts a) (hBb : Bts b) (ha : a.length ≤ 3000) (hb : b.length ≤ 3000) (ht : 0 ≤ t) : Tw ⟨a, b, c, -1, false, t⟩ (openJ ⟨a, b, c, -1, false, t⟩) := by
  by_cases hp : (pickJ ⟨a, b, c, -1, false, t⟩).ok = false
  · have e : openJ ⟨a, b, c, -1, false, t⟩ = anewJ ⟨a, b, c, -1, false, t⟩ := by unfold openJ; rw [if_neg (by simp), if_pos hp]
    rw [e, anew_up]
    by_cases h : 16 > c
    · rw [if_pos h]
      refine { cap := rfl, left := rfl, down := rfl, a := by simp, b := by simp, ba := fun x hx => by simp at hx, bb := fun x hx => by simp at hx, t0 := by show 0 ≤ t + (a.length : Int) + b.length; omega, t1 := by show t + (a.length : Int) + b.length ≤ t + a.length + b.length + 16; omega, e := .inr ⟨rfl, by show c < 16; omega⟩ }
    · rw [if_neg h]
      have h16 : Bts a16 := by unfold Bts; decide +kernel
      refine { cap := rfl, left := rfl, down := rfl, a := by show a16.length ≤ a.length + 16; simp [a16], b := by simp, ba := h16, bb := fun x hx => by simp at hx, t0 := by show 0 ≤ t + (a.length : Int) + b.length + 16; omega, t1 := by show t + (a.length : Int) + b.length + 16 ≤ t + a.length + b.length + 16; omega, e := .inl ⟨rfl, open_a16 c _, by unfold JSm j17; simp⟩ }
  · have hok : (pickJ ⟨a, b, c, -1, false, t⟩).ok = true := by simpa using hp
    by_cases hc : (readJ 1 b).ok = true ∧ ((readJ 0 a).ok = false ∨ (readJ 1 b).j.age > (readJ 0 a).j.age)
    · have e0 : pickJ ⟨a, b, c, -1, false, t⟩ = readJ 1 b := by unfold pickJ; rw [if_pos hc]
      obtain ⟨s1, s2, s3⟩ := readJ_small hBb hb hc.1
      have s4 := s1.2.2.2.1
      have hr := readJ_again hBb hc.1
      have hT : truncD ⟨a, b, c, -1, false, t⟩ 1 (readJ 1 b).j.fin = (⟨a, b.take (readJ 1 b).j.fin.toNat, c, -1, false, t + ((b.length - (readJ 1 b).j.fin.toNat : Nat) : Int)⟩, 0) := by
        rw [truncD_up rfl rfl 1 _ (.inr rfl) s4 (by show _ ≤ (b.length : Int); exact s3)]; rfl
      have hT2 := (trunc_row (d := ⟨a, b, c, -1, false, t⟩) rfl rfl 1 (.inr rfl) _ s4 (by show _ ≤ (b.length : Int); exact s3)).1
      rw [hT] at hT2
      have e1 : pickJ ⟨a, b.take (readJ 1 b).j.fin.toNat, c, -1, false, t + ((b.length - (readJ 1 b).j.fin.toNat : Nat) : Int)⟩ = readJ 1 b := by
        show (if (readJ 1 (b.take (readJ 1 b).j.fin.toNat)).ok = true ∧ ((readJ 0 a).ok = false ∨ (readJ 1 (b.take (readJ 1 b).j.fin.toNat)).j.age > (readJ 0 a).j.age) then readJ 1 (b.take (readJ 1 b).j.fin.toNat) else readJ 0 a) = _
        rw [hr, if_pos hc]
      have eo : openJ ⟨a, b, c, -1, false, t⟩ = (⟨a, b.take (readJ 1 b).j.fin.toNat, c, -1, false, t + ((b.length - (readJ 1 b).j.fin.toNat : Nat) : Int)⟩, (readJ 1 b).j, 0) := by
        unfold openJ
        rw [if_neg (by simp), if_neg hp, e0, s2, hT]
      have eo2 : openJ ⟨a, b.take (readJ 1 b).j.fin.toNat, c, -1, false, t + ((b.length - (readJ 1 b).j.fin.toNat : Nat) : Int)⟩ = (⟨a, b.take (readJ 1 b).j.fin.toNat, c, -1, false, t + ((b.length - (readJ 1 b).j.fin.toNat : Nat) : Int)⟩, (readJ 1 b).j, 0) := by
        unfold openJ
        rw [if_neg (by simp), e1, if_neg (by rw [hc.1]; simp), s2, hT2]
      rw [eo]
      exact { cap := rfl, left := rfl, down := rfl, a := Nat.le_add_right _ _, b := by show (b.take _).length ≤ b.length; rw [List.length_take]; omega, ba := hB, bb := bts_take hBb _, t0 := by simp only; omega, t1 := by simp only; omega, e := .inl ⟨rfl, eo2, s1⟩ }
    · have e0 : pickJ ⟨a, b, c, -1, false, t⟩ = readJ 0 a := by unfold pickJ; rw [if_neg hc]
      rw [e0] at hok
      obtain ⟨s1, s2, s3⟩ := readJ_small hB ha hok
      have s4 := s1.2.2.2.1
      have hr := readJ_again hB hok
      have hT : truncD ⟨a, b, c, -1, false, t⟩ 0 (readJ 0 a).j.fin = (⟨a.take (readJ 0 a).j.fin.toNat, b, c, -1, false, t + ((a.length - (readJ 0 a).j.fin.toNat : Nat) : Int)⟩, 0) := by
        rw [truncD_up rfl rfl 0 _ (.inl rfl) s4 (by show _ ≤ (a.length : Int); exact s3)]; rfl
      have hT2 := (trunc_row (d := ⟨a, b, c, -1, false, t⟩) rfl rfl 0 (.inl rfl) _ s4 (by show _ ≤ (a.length : Int); exact s3)).1
      rw [hT] at hT2
      have e1 : pickJ ⟨a.take (readJ 0 a).j.fin.toNat, b, c, -1, false, t + ((a.length - (readJ 0 a).j.fin.toNat : Nat) : Int)⟩ = readJ 0 a := by
        show (if (readJ 1 b).ok = true ∧ ((readJ 0 (a.take (readJ 0 a).j.fin.toNat)).ok = false ∨ (readJ 1 b).j.age > (readJ 0 (a.take (readJ 0 a).j.fin.toNat)).j.age) then readJ 1 b else readJ 0 (a.take (readJ 0 a).j.fin.toNat)) = _
        rw [hr, if_neg hc]
      have eo : openJ ⟨a, b, c, -1, false, t⟩ = (⟨a.take (readJ 0 a).j.fin.toNat, b, c, -1, false, t + ((a.length - (readJ 0 a).j.fin.toNat : Nat) : Int)⟩, (readJ 0 a).j, 0) := by
        unfold openJ
        rw [if_neg (by simp), if_neg hp, e0, s2, hT]
      have eo2 : openJ ⟨a.take (readJ 0 a).j.fin.toNat, b, c, -1, false, t + ((a.length - (readJ 0 a).j.fin.toNat : Nat) : Int)⟩ = (⟨a.take (readJ 0 a).j.fin.toNat, b, c, -1, false, t + ((a.length - (readJ 0 a).j.fin.toNat : Nat) : Int)⟩, (readJ 0 a).j, 0) := by
        unfold openJ
        rw [if_neg (by simp), e1, if_neg (by rw [hok]; simp), s2, hT2]
      rw [eo]
      exact { cap := rfl, left := rfl, down := rfl, a := by show (a.take _).length ≤ a.length + 16; rw [List.length_take]; omega, b := Nat.le_refl _, ba := bts_take hB _, bb := hBb, t0 := by simp only; omega, t1 := by simp only; omega, e := .inl ⟨rfl, eo2, s1⟩ }
end Go.Proofs.Ytcgefilboefnpaa.H
/- JournalTwice. -/
namespace Go.Proofs.Ytcgefilboefnpaa.MJournalTwice
open Go.RowKit Go.Proofs.YtcgefilboefnpaaW.PrintWords Go.Proofs.YtcgefilboefnpaaW.PrintLast Go.Proofs.YtcgefilboefnpaaW.PrintMore Go.Proofs.Ytcgefilboefnpaa.H Go.Proofs.Ytcgefilboefnpaa.CrcM
set_option linter.unusedVariables false
set_option linter.unusedSimpArgs false

theorem opens : Opens Try.prog 32 (Kd.slice 5 (Kd.int .u8)) (fun l => ∀ x ∈ l, (Lit.int .u8 x).wf = true) := opens_slice 0 Try.underlying32 (by kernel_rfl) (opens_int Try.underlying5)
theorem hasN_eq [Pl] (gj gd B : Nat) (Ar : Option Addr) (cr : Nat) (j : Jn) (m n : Nat) (w : World) (h : JAt w B gj gd Ar cr j) (hm : j.snap.length = m) (hn : j.recs.length = n) (hs : JSm j) :
    Calls Try.prog 14 #[.pointer (some ⟨gj, 0, none⟩)] w fun e w' => ∃ As cs Ar cr, e = .returned (.agg (xjCells As m cs Ar n cr)) ∧ (Kd.C (Kd.int .u8) w' As m j.snap ∧ Kd.C (Kd.slice 5 (Kd.int .u8)) w' Ar n j.recs) ∧ Below w.heap.size w w' := by
  subst hm; subst hn
  refine (has_calls gj gd B Ar cr j j.snap j.recs w h rfl rfl (by have := hs.1; omega) (by have := hs.2.1; omega) (fun x hx => by have := hs.2.2.1 x hx; omega)).mono ?_
  rintro e w' ⟨As, cs, Ar, cr, h1, h2, h3⟩
  exact ⟨As, cs, Ar, cr, h1, h2.C, h3⟩
theorem SameN (As : Option Addr) (cs : Nat) (Ar : Option Addr) (m nr cr : Nat) (As' : Option Addr) (cs' : Nat) (Ar' : Option Addr) (cr' : Nat) (s : List Int) (r : List (List Int)) (W : World) (hx : Kd.C (Kd.int .u8) W As m s ∧ Kd.C (Kd.slice 5 (Kd.int .u8)) W Ar nr r)
    (hy : Kd.C (Kd.int .u8) W As' m s ∧ Kd.C (Kd.slice 5 (Kd.int .u8)) W Ar' nr r) :
    Calls Try.prog 19 #[.agg (xjCells As m cs Ar nr cr), .agg (xjCells As' m cs' Ar' nr cr')] W fun e W' => e = .returned (.bool true) ∧ Below W.heap.size W W' :=
  Same7_calls ⟨none, 0, 0, none, 0, 0, 0, 0, 0, As, m, cs, Ar, nr, cr, 0⟩ ⟨none, 0, 0, none, 0, 0, 0, 0, 0, As', m, cs', Ar', nr, cr', 0⟩ s s r r W true (decide_eq_true ⟨rfl, rfl⟩) hx.1 hy.1 hx.2 hy.2
/-- What abides at the end. -/
structure TB [Pl] (W0 : World) (gd gj gk B B2 : Nat) (Ar : Option Addr) (cr : Nat) (Ak : Option Addr) (ck : Nat) (d : Dv) (j : Jn) (w : World) : Prop where
  below : Below W0.heap.size W0 w
  dd : DevAt w gd d
  jj : JAt w B gj gd Ar cr j
  jk : JAt w B2 gk gd Ak ck j
theorem TB.step [Pl] {W0 : World} {gd gj gk B B2 : Nat} {Ar : Option Addr} {cr : Nat} {Ak : Option Addr} {ck : Nat} {d : Dv} {j : Jn} {w w' : World} (h : TB W0 gd gj gk B B2 Ar cr Ak ck d j w) (hb : Below w.heap.size w w') : TB W0 gd gj gk B B2 Ar cr Ak ck d j w' :=
  ⟨below_step h.below hb, h.dd.below hb, h.jj.below hb, h.jk.below hb⟩
set_option maxHeartbeats 6400000 in
set_option maxRecDepth 100000 in
theorem main (cap : Int) (wf : (Lit.int .i64 cap).wf = true)
    (A : Option Addr) (c : Nat) (l : List Int) (hc : l.length ≤ c) {W0 : World} (m : Kd.C (Kd.int .u8) W0 A l.length l) (g : ∀ x ∈ l, (Lit.int .u8 x).wf = true)
    (A1 : Option Addr) (c1 : Nat) (l1 : List Int) (hc1 : l1.length ≤ c1) (m1 : Kd.C (Kd.int .u8) W0 A1 l1.length l1) (g1 : ∀ x ∈ l1, (Lit.int .u8 x).wf = true) (W : World) (hW : W0 = W := by rfl) :
    Calls Try.prog 6 #[.int .i64 cap, .slice A l.length c, .slice A1 l1.length c1] W fun e W' => e = .returned (.bool true) ∧ Below W.heap.size W W' := by
  subst hW
  letI : Pl := ⟨fun _ => True, 0, fun _ _ => trivial⟩
  have hB : Bts l := fun x hx => wf_u8 (g x hx)
  have hB1 : Bts l1 := fun x hx => wf_u8 (g1 x hx)
  have M := Aside0.mk (And.intro m m1)
  have HB := Aside0.mk (And.intro hB hB1)
  clear m g m1 g1 wf hB hB1
  by_cases h30 : l.length > 3000
  · have b0 : decide (3000 < l.length) = true := decide_eq_true h30
    have b1 : decide ((3000 : Int) < (l.length : Int)) = true := decide_eq_true (by omega)
    clear h30
    go_enter Try.func6, Try.ntmps6
    go_wp2_with (first
      | (go_at_call 7; refine (alive7_calls _ (Nat.zero_le _)).mono ?_; rintro e w1 ⟨rfl, hb1⟩; have S1 := Aside0.mk hb1; clear hb1))
    go_ret
    exact ⟨rfl, S1.out⟩
  have b0 : decide (3000 < l.length) = false := decide_eq_false h30
  have b1 : decide ((3000 : Int) < (l.length : Int)) = false := decide_eq_false (by omega)
  by_cases h31 : l1.length > 3000
  · have b2 : decide (3000 < l1.length) = true := decide_eq_true h31
    have b3 : decide ((3000 : Int) < (l1.length : Int)) = true := decide_eq_true (by omega)
    clear h30 h31
    go_enter Try.func6, Try.ntmps6
    go_wp2_with (first
      | (go_at_call 7; refine (alive7_calls _ (Nat.zero_le _)).mono ?_; rintro e w1 ⟨rfl, hb1⟩; have S1 := Aside0.mk hb1; clear hb1))
    go_ret
    exact ⟨rfl, S1.out⟩
  have b2 : decide (3000 < l1.length) = false := decide_eq_false h31
  have b3 : decide ((3000 : Int) < (l1.length : Int)) = false := decide_eq_false (by omega)
  obtain ⟨cc, hcc⟩ : ∃ z, capC cap = z := ⟨_, rfl⟩
  have hc0 : 0 ≤ cc ∧ cc ≤ 1048576 := by rw [← hcc]; exact capC_le7 cap
  have HC := Aside0.mk (And.intro hcc hc0)
  obtain ⟨a', ha'⟩ : ∃ z, l.take cc.toNat = z := ⟨_, rfl⟩
  obtain ⟨b', hb'⟩ : ∃ z, l1.take cc.toNat = z := ⟨_, rfl⟩
  have hla : a'.length ≤ 3000 := by rw [← ha', List.length_take]; omega
  have hlb : b'.length ≤ 3000 := by rw [← hb', List.length_take]; omega
  have hBa : Bts a' := by rw [← ha']; exact bts_take HB.out.1 _
  have hBb : Bts b' := by rw [← hb']; exact bts_take HB.out.2 _
  have hfit : (⟨a', b', cc, -1, false, 0⟩ : Dv).fit 90000 90000000000 := by constructor <;> simp <;> omega
  have HL := Aside0.mk (And.intro ha' (And.intro hb' (And.intro hBa (And.intro hBb (And.intro hfit (And.intro hla hlb))))))
  have HT := Aside0.mk (tw_open cc 0 a' b' hBa hBb hla hlb (Int.le_refl 0))
  have HN := Aside0.mk (And.intro h30 h31)
  clear hcc hc0 ha' hb' hBa hBb hfit hla hlb h30 h31
  go_enter Try.func6, Try.ntmps6
  go_wp2_with (first
      | (go_at_call 7; refine (alive7_calls _ (Nat.zero_le _)).mono ?_; rintro e w1 ⟨rfl, hb1⟩; have S1 := Aside0.mk hb1; clear hb1)
      | (go_at_call 9; refine (New_calls _ _ (Nat.zero_le _)).mono ?_; rintro e w3 ⟨rfl, hd3, hb3⟩; rw [HC.out.1] at hd3; have hlt3 := hd3.lt; have hge3 : W0.heap.size ≤ w1.heap.size := below_size S1.out; have S3 := Aside0.mk (And.intro (below_step S1.out hb3) hd3); clear S1 hd3 hb3))
  generalize w1.heap.size = gd at *
  go_wp2_with (fail)
  refine (Load_eq gd _ ⟨a', [], cc, -1, false, 0⟩ 0 A c l.length l _ rfl (by rw [← HL.out.1]; rfl) S3.out.2 (Kd.C_below M.out.1 S3.out.1) hc HC.out.2 (by have := HN.out.1; omega)).mono ?_
  rintro e w4 ⟨rfl, hd4, ho4⟩
  have S4 := Aside0.mk (And.intro (ho4.below S3.out.1 hge3) hd4)
  clear hd4 ho4
  go_wp2_with (fail)
  refine (Load_eq gd _ ⟨a', b', cc, -1, false, 0⟩ 1 A1 c1 l1.length l1 _ rfl (by rw [← HL.out.2.1]; rfl) S4.out.2 (Kd.C_below M.out.2 S4.out.1) hc1 HC.out.2 (by have := HN.out.2; omega)).mono ?_
  rintro e w5 ⟨rfl, hd5, ho5⟩
  have S5 := Aside0.mk (And.intro (ho5.below S4.out.1 hge3) hd5)
  clear hd5 ho5
  obtain ⟨⟨d6, j, e6⟩, hx⟩ : ∃ x, openJ ⟨a', b', cc, -1, false, 0⟩ = x := ⟨_, rfl⟩
  have HX := Lib.hid hx
  have hT := HT.out
  rw [hx] at hT
  have HTT := Aside0.mk hT
  clear hT hx HT
  go_wp2_with (fail)
  refine (JOpen_calls gd _ _ _ HX.out S5.out.2 HL.out.2.2.2.2.1 HL.out.2.2.1 HL.out.2.2.2.1).mono ?_
  intro e w6 ho
  rcases HTT.out.e with ⟨rfl, ht2, ht3⟩ | ⟨rfl, ht2⟩
  · obtain ⟨hd6, hb6, gj, Ar, cr, rfl, hj6⟩ := ho.ok
    have hB6 : Below W0.heap.size W0 w6 := hb6.below S5.out.1 S5.out.1.size (fun k hk => by rw [hk]; exact hge3)
    obtain ⟨B, hB⟩ : ∃ B, w5.heap.size = B := ⟨_, rfl⟩
    rw [hB] at hj6
    have S6 := Aside0.mk (And.intro hd6 (And.intro hB6 (And.intro hj6 (And.intro ht2 ht3))))
    obtain ⟨T, hTe⟩ : ∃ T, d6.turned = T := ⟨_, rfl⟩
    obtain ⟨ag, hag⟩ : ∃ T, j.age = T := ⟨_, rfl⟩
    obtain ⟨rm, hrm⟩ : ∃ T, d6.cap - j.fin = T := ⟨_, rfl⟩
    obtain ⟨ns, hns⟩ : ∃ T, j.snap.length = T := ⟨_, rfl⟩
    obtain ⟨nr, hnr⟩ : ∃ T, j.recs.length = T := ⟨_, rfl⟩
    have HV := Aside0.mk (And.intro hTe (And.intro hag (And.intro hrm (And.intro hns hnr))))
    clear hd6 hb6 hB6 hj6 ho hB ht2 ht3 hTe hag hrm hns hnr
    go_wp2_with (go_at_call 13; refine (Turned_eq gd d6 T _ HV.out.1 S6.out.1).mono ?_; rintro e w' ⟨rfl, rfl⟩)
    refine (JOpen_calls gd d6 _ _ S6.out.2.2.2.1 S6.out.1 (by
      have h := HTT.out
      have h1 := h.cap; have h2 := h.left; have h3 := h.a; have h4 := h.b; have h5 := h.t0; have h6 := h.t1
      have h7 := HC.out.2; have h8 := HL.out.2.2.2.2.2
      simp only at h1 h2 h3 h4 h5 h6
      constructor <;> omega) HTT.out.ba HTT.out.bb).mono ?_
    intro e w7 ho
    obtain ⟨hd7, hb7, gk, Ak, ck, rfl, hj7⟩ := ho.ok
    have hB7 : Below W0.heap.size W0 w7 := hb7.below S6.out.2.1 S6.out.2.1.size (fun k hk => by rw [hk]; exact hge3)
    have S7 := Aside0.mk (TB.mk hB7 hd7 (S6.out.2.2.1.dev S6.out.1 ⟨hb7.os, hb7.tape, hb7.output, hb7.size, hb7.block⟩) hj7)
    clear hd7 hb7 hB7 hj7 ho
    go_wp2_with (go_at_call 13; refine (Turned_eq gd d6 T _ HV.out.1 S7.out.dd).mono ?_; rintro e w' ⟨rfl, rfl⟩)
    refine (hasN_eq gj gd B Ar cr j ns nr _ S7.out.jj HV.out.2.2.2.1 HV.out.2.2.2.2 S6.out.2.2.2.2).mono ?_
    rintro e w8 ⟨As2, cs2, A2, c2, rfl, hk8, hb8⟩
    have S8 := Aside0.mk (And.intro (S7.out.step hb8) hk8)
    clear hk8 hb8
    go_wp2_with (fail)
    refine (hasN_eq gk gd _ Ak ck j ns nr _ S8.out.1.jk HV.out.2.2.2.1 HV.out.2.2.2.2 S6.out.2.2.2.2).mono ?_
    rintro e w9 ⟨As3, cs3, A3, c3, rfl, hk9, hb9⟩
    have S9 := Aside0.mk (And.intro (S8.out.1.step hb9) (And.intro (And.intro (Kd.C_below S8.out.2.1 hb9) (Kd.C_below S8.out.2.2 hb9)) hk9))
    clear hk9 hb9
    go_wp2_with (fail)
    refine (SameN As2 cs2 A2 ns nr c2 As3 cs3 A3 c3 j.snap j.recs _ S9.out.2.1 S9.out.2.2).mono ?_
    rintro e w10 ⟨rfl, hb10⟩
    have S10 := Aside0.mk (S9.out.1.step hb10)
    clear hb10
    go_wp2_with (fail)
    refine (Age_eq gj gd B Ar cr j ag _ S10.out.jj HV.out.2.1).mono ?_
    rintro e w' ⟨rfl, rfl⟩
    go_wp2_with (fail)
    refine (Age_eq gk gd _ Ak ck j ag _ S10.out.jk HV.out.2.1).mono ?_
    rintro e w' ⟨rfl, rfl⟩
    have hcd : 0 ≤ d6.cap ∧ d6.cap ≤ 1048576 := by rw [HTT.out.cap]; exact HC.out.2
    have HCD := Aside0.mk hcd
    clear hcd
    go_wp2_with (fail)
    refine (Room_eq gj gd B Ar cr j d6 rm _ S10.out.jj S10.out.dd HV.out.2.2.1 HCD.out.1 HCD.out.2 S6.out.2.2.2.2.2.2.2.1 (by have := S6.out.2.2.2.2.2.2.2.2; omega)).mono ?_
    rintro e w11 ⟨rfl, hb11⟩
    have S11 := Aside0.mk (S10.out.step hb11)
    clear hb11
    go_wp2_with (fail)
    refine (Room_eq gk gd _ Ak ck j d6 rm _ S11.out.jk S11.out.dd HV.out.2.2.1 HCD.out.1 HCD.out.2 S6.out.2.2.2.2.2.2.2.1 (by have := S6.out.2.2.2.2.2.2.2.2; omega)).mono ?_
    rintro e w12 ⟨rfl, hb12⟩
    have S12 := Aside0.mk (S11.out.step hb12)
    clear hb12
    go_wp2_with (fail)
    go_ret
    exact ⟨by simp, S12.out.below⟩
  · obtain ⟨hd6, hb6, ⟨h6, _⟩ | ⟨_, rfl⟩⟩ := ho
    · exact absurd h6 (by show ¬ ((6 : Int) = 0); decide)
    have hB6 : Below W0.heap.size W0 w6 := hb6.below S5.out.1 S5.out.1.size (fun k hk => by rw [hk]; exact hge3)
    have S6 := Aside0.mk (And.intro hd6 hB6)
    have bc : decide (cc < 16) = true := decide_eq_true ht2
    have hcd : d6.cap = cc := HTT.out.cap
    have HCD := Lib.hid hcd
    clear hd6 hb6 hB6 ht2 hcd
    go_wp2_with (first
      | (go_at_call 11; refine (Capacity_eq gd d6 cc _ HCD.out S6.out.1).mono ?_; rintro e w' ⟨rfl, rfl⟩))
    go_ret
    exact ⟨rfl, S6.out.2⟩
end Go.Proofs.Ytcgefilboefnpaa.MJournalTwice
