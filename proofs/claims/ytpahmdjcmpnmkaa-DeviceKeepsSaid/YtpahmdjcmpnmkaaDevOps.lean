/- Rows of steps: what they come to, bounds of the device behind them; law04.small. -/
import Derived.Test.YtpahmdjcmpnmkaaDevSame
import Derived.Test.YtpahmdjcmpnmkaaRow
namespace Go.Proofs.Ytpahmdjcmpnmkaa.H
open Go.RowKit Go.Proofs.YtpahmdjcmpnmkaaW.PrintWords Go.Proofs.YtpahmdjcmpnmkaaW.PrintLast Go.Proofs.YtpahmdjcmpnmkaaW.PrintMore
set_option linter.unusedVariables false
set_option linter.unusedSimpArgs false

theorem turnN_le (d : Dv) (n : Nat) : turnN d n ≤ n := by
  unfold turnN; split <;> omega
theorem fit_turn {d : Dv} {m t : Int} (h : d.fit m t) (n : Nat) : (turnD d n).fit m (t + n) := by
  obtain ⟨a, b, cap, left, dn, tu⟩ := d
  obtain ⟨h1, h2, h3, h4, h5, h6, h7, h8⟩ := h
  have hn := turnN_le ⟨a, b, cap, left, dn, tu⟩ n
  have hq : 0 ≤ left → (turnN ⟨a, b, cap, left, dn, tu⟩ n : Int) ≤ left := fun h0 => by
    unfold turnN; simp only
    by_cases hc : 0 ≤ left ∧ left < n
    · rw [if_pos hc]; omega
    · rw [if_neg hc]; omega
  simp only at h1 h2 h3 h4 h5 h6 h7 h8
  unfold turnD
  generalize turnN ⟨a, b, cap, left, dn, tu⟩ n = z at hn hq ⊢
  refine ⟨h1, h2, h3, h4, ?_, ?_, by simp only; omega, by simp only; omega⟩ <;>
  · simp only
    by_cases h0 : 0 ≤ left
    · have := hq h0; rw [if_pos h0]; omega
    · rw [if_neg h0]; omega
theorem fit_set {d : Dv} {m m' t : Int} (h : d.fit m t) (r : Int) {l : List Int} (hl : (l.length : Int) ≤ m') (hm : m ≤ m') : (d.set r l).fit m' t := by
  have h' := h.wide hm (Int.le_refl t)
  unfold Dv.set
  split
  · exact ⟨hl, h'.b, h'.c0, h'.c1, h'.l0, h'.l1, h'.t0, h'.t1⟩
  · split
    · exact ⟨h'.a, hl, h'.c0, h'.c1, h'.l0, h'.l1, h'.t0, h'.t1⟩
    · exact h'
theorem fit_row {d : Dv} {m t : Int} (h : d.fit m t) (hm : 0 ≤ m) (r : Int) : ((d.row r).length : Int) ≤ m := by
  unfold Dv.row
  split
  · exact h.a
  · split
    · exact h.b
    · simpa using hm
/-- A step's bounds. -/
theorem fit_do {d : Dv} {m t : Int} (o : St) (h : d.fit m t) (hm : 0 ≤ m) (hn : o.2.2.1 ≤ 9223372036854775807) : (doD d o).fit (m + o.2.2.2.length) (t + (m + o.2.2.2.length)) := by
  have hw := h.wide (show m ≤ m + o.2.2.2.length by omega) (show t ≤ t + (m + o.2.2.2.length) by omega)
  have hr := fit_row h hm o.2.1
  unfold doD
  split
  · unfold appendD
    split
    · exact hw
    · split
      · exact hw
      · split
        · exact hw
        · refine (fit_set (fit_turn h o.2.2.2.length) o.2.1 (m' := m + o.2.2.2.length) ?_ (by omega)).wide (Int.le_refl _) (by omega)
          rw [List.length_append, List.length_take]; omega
  · split
    · unfold truncD
      split
      · exact hw
      · split
        · exact hw
        · refine (fit_set (fit_turn h _) o.2.1 (m' := m + o.2.2.2.length) ?_ (by omega)).wide (Int.le_refl _) ?_
          · rw [List.length_take]; omega
          · have : ((d.row o.2.1).length - o.2.2.1.toNat : Nat) ≤ (d.row o.2.1).length := Nat.sub_le _ _
            omega
    · split
      · refine ⟨hw.a, hw.b, hw.c0, hw.c1, ?_, ?_, hw.t0, hw.t1⟩ <;> · unfold cutD; simp only; split <;> omega
      · split
        · exact ⟨hw.a, hw.b, hw.c0, hw.c1, by show (-1 : Int) ≤ -1; omega, by show (-1 : Int) ≤ 9223372036854775807; omega, hw.t0, hw.t1⟩
        · split
          · refine (fit_set h o.2.1 (m' := m + o.2.2.2.length) ?_ (by omega)).wide (Int.le_refl _) (by omega)
            rw [List.length_take]; omega
          · exact hw
/-- How many bytes steps bring. -/
def tot (os : List St) : Nat := (os.map fun o => o.2.2.2.length).sum
theorem tot_take {os : List St} {k : Nat} {o : St} (h : os[k]? = some o) : tot (os.take (k + 1)) = tot (os.take k) + o.2.2.2.length := by
  unfold tot; rw [List.take_add_one, h]; simp [List.sum_append]
theorem tot_le (os : List St) (k : Nat) : tot (os.take k) ≤ tot os := by
  have e : tot os = tot (os.take k) + tot (os.drop k) := by
    unfold tot; rw [← List.sum_append, ← List.map_append, List.take_append_drop]
  omega
def playD (d : Dv) (os : List St) : Dv := os.foldl doD d
theorem play_take {d : Dv} {os : List St} {k : Nat} {o : St} (h : os[k]? = some o) : playD d (os.take (k + 1)) = doD (playD d (os.take k)) o := by
  unfold playD; rw [List.take_add_one, h]; simp [List.foldl_append]
theorem fit_play {d : Dv} {os : List St} (h : d.fit 0 0) (hn : ∀ o ∈ os, o.2.2.1 ≤ 9223372036854775807) (ht : tot os ≤ 3000) : ∀ k, k ≤ os.length → (playD d (os.take k)).fit (tot (os.take k)) (3000 * k) := by
  intro k
  induction k with
  | zero => intro _; simpa [playD, tot] using h
  | succ k ih =>
    intro hk
    obtain ⟨o, ho⟩ : ∃ o, os[k]? = some o := ⟨_, List.getElem?_eq_getElem (by omega)⟩
    have h1 := fit_do o (ih (by omega)) (by omega) (hn o (List.mem_of_getElem? ho))
    have h2 := tot_le os (k + 1)
    rw [play_take ho]
    rw [tot_take ho] at h2 ⊢
    exact h1.wide (by push_cast; omega) (by push_cast; omega)
/-- Rows of steps. -/
abbrev KOp : Kd St := Kd.pair (Kd.int .i64) (Kd.pair (Kd.int .i64) (Kd.pair (Kd.int .i64) (Kd.slice 5 (Kd.int .u8))))
theorem op_at {w : World} {A : Option Addr} {n : Nat} {xs : List St} (h : Kd.C KOp w A n xs) {i : Nat} (hi : i < n) {k r z : Int} {l : List Int} (ho : xs[i]? = some (k, r, z, l)) :
    ∃ ad A3 c3, A = some ad ∧ w.cell? (ad.add (i * 4)) = some (.int .i64 k) ∧ w.cell? ⟨(ad.add (i * 4)).block, (ad.add (i * 4)).off + 1, none⟩ = some (.int .i64 r) ∧ w.cell? ⟨(ad.add (i * 4)).block, (ad.add (i * 4)).off + 2, none⟩ = some (.int .i64 z) ∧ w.cell? ⟨(ad.add (i * 4)).block, (ad.add (i * 4)).off + 3, none⟩ = some (.slice A3 l.length c3) ∧ l.length ≤ c3 ∧ Kd.C (Kd.int .u8) w A3 l.length l := by
  obtain ⟨ad, c, e, _, hK, hc0⟩ := Kd.C_get h ((0, 0, 0, []) : St) (i : Int) (by omega) (by omega)
  rw [Int.toNat_natCast] at hK hc0
  have eg : xs.getD i ((0, 0, 0, []) : St) = (k, r, z, l) := by rw [List.getD_eq_getElem?_getD, ho]; rfl
  rw [eg] at hK
  have hc : ∀ j u, c[j]? = some u → w.cell? (ad.add (i * 4 + j)) = some u := hc0
  obtain ⟨_, _, rfl, rfl, ⟨_, _, rfl, rfl, ⟨_, _, rfl, rfl, ⟨A3, c3, rfl, l3, g3⟩⟩⟩⟩ := hK
  exact ⟨ad, A3, c3, e, hc 0 _ rfl, by rw [← add_field _ _ 1 (by omega)]; exact hc 1 _ rfl, by rw [← add_field _ _ 2 (by omega)]; exact hc 2 _ rfl, by rw [← add_field _ _ 3 (by omega)]; exact hc 3 _ rfl, l3, g3⟩
set_option maxHeartbeats 1600000 in
theorem small4_calls (A : Option Addr) (c : Nat) (os : List St) (W : World) (h : Kd.C KOp W A os.length os) (hc : os.length ≤ c) :
    Calls Try.prog 7 #[.slice A os.length c] W fun e W' => ∃ b, e = .returned (.bool b) ∧ b = decide (os.length ≤ 40 ∧ tot os ≤ 3000) ∧ Below W.heap.size W W' := by
  have HH := Aside0.mk h
  have hm : os.length ≤ 9223372036854775807 := h.2.1
  clear h
  go_enter Try.func7, Try.ntmps7
  go_wp2
  go_loopw [3, 8] (fun v i wr => ∃ k T : Nat, i = .int .i64 (k : Int) ∧ k ≤ os.length ∧ v = .int .i64 (T : Int) ∧ Aside0 (tot (os.take k) = T) ∧ T ≤ 3000 ∧ Aside0 (Below W.heap.size W wr)) (fun _ i _ => os.length - (intOf i).toNat)
  case atStart => exact ⟨0, 0, rfl, Nat.zero_le _, rfl, ⟨rfl⟩, Nat.zero_le _, ⟨Below.refl _ _⟩⟩
  case round =>
    obtain ⟨k, T, rfl, hk, rfl, HT, hT, HB⟩ := hrel
    by_cases hlt : k < os.length
    · obtain ⟨o, ho⟩ : ∃ o, os[k]? = some o := ⟨_, List.getElem?_eq_getElem hlt⟩
      obtain ⟨q, r, z, l⟩ := o
      obtain ⟨ad, A3, c3, eA, e0, e1, e2, e3, hc3, hC3⟩ := op_at (Kd.C_below HH.out HB.out) hlt ho
      subst eA
      have hllt : (k : Int) < (os.length : Int) := by omega
      have HO := Aside0.mk (And.intro ho hC3)
      clear ho hC3
      by_cases hs : (l.length : Int) > 3000 - T
      · have b0 : decide (3000 - (T : Int) < (l.length : Int)) = true := decide_eq_true hs
        clear hs
        go_wp2
        go_ret
        exact ⟨false, rfl, (decide_eq_false (fun hh => by have h1 := tot_le os (k + 1); rw [tot_take HO.out.1, HT.out] at h1; simp only at h1; have h2 := of_decide_eq_true b0; omega)).symm, below_alloc HB.out _⟩
      · have b0 : decide (3000 - (T : Int) < (l.length : Int)) = false := decide_eq_false hs
        have hs2 : (T : Int) + l.length ≤ 3000 := by omega
        clear hs
        go_wp2
        go_roundw
        case rel => exact ⟨k + 1, T + l.length, by go_num, by omega, by push_cast; go_num, ⟨by rw [tot_take HO.out.1, HT.out]⟩, by omega, ⟨below_alloc HB.out _⟩⟩
        case measure => simp [intOf]; omega
    · obtain rfl : k = os.length := by omega
      rw [List.take_length] at HT
      by_cases h40 : os.length ≤ 40
      · have b0 : decide ((os.length : Int) ≤ 40) = true := decide_eq_true (by omega)
        have b1 : decide (os.length ≤ 40) = true := decide_eq_true h40
        go_wp2
        go_ret
        exact ⟨true, rfl, (decide_eq_true ⟨h40, by rw [HT.out]; exact hT⟩).symm, HB.out⟩
      · have b0 : decide ((os.length : Int) ≤ 40) = false := decide_eq_false (by omega)
        have b1 : decide (os.length ≤ 40) = false := decide_eq_false h40
        go_wp2
        go_ret
        exact ⟨false, rfl, (decide_eq_false (fun hh => h40 hh.1)).symm, HB.out⟩
end Go.Proofs.Ytpahmdjcmpnmkaa.H
