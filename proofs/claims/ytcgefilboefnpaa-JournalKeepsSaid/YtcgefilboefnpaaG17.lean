/- Some texts of one seat in one file, in build order. -/
import Derived.Test.YtcgefilboefnpaaG16
import Derived.Test.YtcgefilboefnpaaG1
import Derived.Test.YtcgefilboefnpaaG5
import Derived.Test.YtcgefilboefnpaaG12
/- What the statements of layer 7 on rows of steps share: law07.small; an empty device's journal; a record more. -/
namespace Go.Proofs.Ytcgefilboefnpaa.H
open Go.RowKit Go.Proofs.YtcgefilboefnpaaW.PrintWords Go.Proofs.YtcgefilboefnpaaW.PrintLast Go.Proofs.YtcgefilboefnpaaW.PrintMore Go.Proofs.Ytcgefilboefnpaa.CrcM
set_option linter.unusedVariables false
set_option linter.unusedSimpArgs false
set_option maxRecDepth 100000

/-- A step: kind, bytes. -/
abbrev St7 := Int × List Int
/-- How many bytes steps bring. -/
def tot7 (os : List St7) : Nat := (os.map fun o => o.2.length).sum
theorem tot7_take {os : List St7} {k : Nat} {o : St7} (h : os[k]? = some o) : tot7 (os.take (k + 1)) = tot7 (os.take k) + o.2.length := by
  unfold tot7; rw [List.take_add_one, h]; simp [List.sum_append]
theorem tot7_le (os : List St7) (k : Nat) : tot7 (os.take k) ≤ tot7 os := by
  have e : tot7 os = tot7 (os.take k) + tot7 (os.drop k) := by
    unfold tot7; rw [← List.sum_append, ← List.map_append, List.take_append_drop]
  omega
abbrev KOp7 : Kd St7 := Kd.pair (Kd.int .i64) (Kd.slice 5 (Kd.int .u8))
theorem op7_at {w : World} {A : Option Addr} {n : Nat} {xs : List St7} (h : Kd.C KOp7 w A n xs) {i : Nat} (hi : i < n) {k : Int} {l : List Int} (ho : xs[i]? = some (k, l)) :
    ∃ ad A3 c3, A = some ad ∧ w.cell? (ad.add (i * 2)) = some (.int .i64 k) ∧ w.cell? ⟨(ad.add (i * 2)).block, (ad.add (i * 2)).off + 1, none⟩ = some (.slice A3 l.length c3) ∧ l.length ≤ c3 ∧ Kd.C (Kd.int .u8) w A3 l.length l := by
  obtain ⟨ad, c, e, _, hK, hc0⟩ := Kd.C_get h ((0, []) : St7) (i : Int) (by omega) (by omega)
  rw [Int.toNat_natCast] at hK hc0
  have eg : xs.getD i ((0, []) : St7) = (k, l) := by rw [List.getD_eq_getElem?_getD, ho]; rfl
  rw [eg] at hK
  have hc : ∀ j u, c[j]? = some u → w.cell? (ad.add (i * 2 + j)) = some u := hc0
  obtain ⟨_, _, rfl, rfl, ⟨A3, c3, rfl, l3, g3⟩⟩ := hK
  exact ⟨ad, A3, c3, e, hc 0 _ rfl, by rw [← add_field _ _ 1 (by omega)]; exact hc 1 _ rfl, l3, g3⟩
theorem opens_ops7 : Opens Try.prog 22 (Kd.slice 34 KOp7) (fun l => ∀ x ∈ l, (Lit.int .i64 x.1).wf = true ∧ ∀ y ∈ x.2, (Lit.int .u8 y).wf = true) :=
  opens_slice ((0, []) : St7) Try.underlying22 (by kernel_rfl) (opens_struct Try.underlying34 (by kernel_rfl) (opens_cons rfl (by kernel_rfl) (opens_int Try.underlying3) (opens_last rfl (by kernel_rfl) (opens_slice 0 Try.underlying32 (by kernel_rfl) (opens_int Try.underlying5)))))
set_option maxHeartbeats 1600000 in
theorem small7_calls (A : Option Addr) (c : Nat) (os : List St7) (W : World) (h : Kd.C KOp7 W A os.length os) (hc : os.length ≤ c) :
    Calls Try.prog 8 #[.slice A os.length c] W fun e W' => ∃ b, e = .returned (.bool b) ∧ b = decide (os.length ≤ 30 ∧ tot7 os ≤ 20000) ∧ Below W.heap.size W W' := by
  have HH := Aside0.mk h
  have hm : os.length ≤ 9223372036854775807 := h.2.1
  clear h
  go_enter Try.func8, Try.ntmps8
  go_wp2
  go_loopw [3, 8] (fun v i wr => ∃ k T : Nat, i = .int .i64 (k : Int) ∧ k ≤ os.length ∧ v = .int .i64 (T : Int) ∧ Aside0 (tot7 (os.take k) = T) ∧ T ≤ 20000 ∧ Aside0 (Below W.heap.size W wr)) (fun _ i _ => os.length - (intOf i).toNat)
  case atStart => exact ⟨0, 0, rfl, Nat.zero_le _, rfl, ⟨rfl⟩, Nat.zero_le _, ⟨Below.refl _ _⟩⟩
  case round =>
    obtain ⟨k, T, rfl, hk, rfl, HT, hT, HB⟩ := hrel
    by_cases hlt : k < os.length
    · obtain ⟨o, ho⟩ : ∃ o, os[k]? = some o := ⟨_, List.getElem?_eq_getElem hlt⟩
      obtain ⟨q, l⟩ := o
      obtain ⟨ad, A3, c3, eA, e0, e3, hc3, hC3⟩ := op7_at (Kd.C_below HH.out HB.out) hlt ho
      subst eA
      have hllt : (k : Int) < (os.length : Int) := by omega
      have HO := Aside0.mk (And.intro ho hC3)
      clear ho hC3
      by_cases hs : (l.length : Int) > 20000 - T
      · have b0 : decide (20000 - (T : Int) < (l.length : Int)) = true := decide_eq_true hs
        clear hs
        go_wp2
        go_ret
        exact ⟨false, rfl, (decide_eq_false (fun hh => by have h1 := tot7_le os (k + 1); rw [tot7_take HO.out.1, HT.out] at h1; simp only at h1; have h2 := of_decide_eq_true b0; omega)).symm, below_alloc HB.out _⟩
      · have b0 : decide (20000 - (T : Int) < (l.length : Int)) = false := decide_eq_false hs
        have hs2 : (T : Int) + l.length ≤ 20000 := by omega
        clear hs
        go_wp2
        go_roundw
        case rel => exact ⟨k + 1, T + l.length, by go_num, by omega, by push_cast; go_num, ⟨by rw [tot7_take HO.out.1, HT.out]⟩, by omega, ⟨below_alloc HB.out _⟩⟩
        case measure => simp [intOf]; omega
    · obtain rfl : k = os.length := by omega
      rw [List.take_length] at HT
      by_cases h40 : os.length ≤ 30
      · have b0 : decide ((os.length : Int) ≤ 30) = true := decide_eq_true (by omega)
        have b1 : decide (os.length ≤ 30) = true := decide_eq_true h40
        go_wp2
        go_ret
        exact ⟨true, rfl, (decide_eq_true ⟨h40, by rw [HT.out]; exact hT⟩).symm, HB.out⟩
      · have b0 : decide ((os.length : Int) ≤ 30) = false := decide_eq_false (by omega)
        have b1 : decide (os.length ≤ 30) = false := decide_eq_false h40
        go_wp2
        go_ret
        exact ⟨false, rfl, (decide_eq_false (fun hh => h40 hh.1)).symm, HB.out⟩
theorem small7_eq (A : Option Addr) (c : Nat) (os : List St7) (b : Bool) (W : World) (hb : decide (os.length ≤ 30 ∧ tot7 os ≤ 20000) = b) (h : Kd.C KOp7 W A os.length os) (hc : os.length ≤ c) :
    Calls Try.prog 8 #[.slice A os.length c] W fun e W' => e = .returned (.bool b) ∧ Below W.heap.size W W' := by
  subst hb
  refine (small7_calls A c os W h hc).mono ?_
  rintro e W' ⟨b, rfl, rfl, hb⟩
  exact ⟨rfl, hb⟩
/-- A device on which no power goes. -/
theorem turnN_up {d : Dv} (h : d.left = -1) (n : Nat) : turnN d n = n := by unfold turnN; rw [if_neg (by omega)]
theorem turnD_up {d : Dv} (h : d.left = -1) (hd : d.down = false) (n : Nat) : turnD d n = { d with turned := d.turned + n } := by
  unfold turnD
  rw [turnN_up h, if_neg (by omega), hd]
  have : decide (0 ≤ d.left ∧ d.left < (n : Int)) = false := decide_eq_false (by omega)
  rw [this]
  obtain ⟨a, b, c, l, dn, t⟩ := d
  simp only at hd
  subst hd; rfl
theorem appendD_up {d : Dv} (h : d.left = -1) (hd : d.down = false) (r : Int) (hr : r = 0 ∨ r = 1) (l : List Int) : appendD d r l = if (l.length : Int) > d.cap - (d.row r).length then (d, 6) else (({ d with turned := d.turned + l.length } : Dv).set r (d.row r ++ l), 0) := by
  unfold appendD
  rw [if_neg (by rw [hd]; simp), if_neg (by omega), turnD_up h hd, turnN_up h, List.take_length]
  split
  · rfl
  · simp [hd]
theorem truncD_up {d : Dv} (h : d.left = -1) (hd : d.down = false) (r n : Int) (hr : r = 0 ∨ r = 1) (h0 : 0 ≤ n) (h1 : n ≤ (d.row r).length) : truncD d r n = (({ d with turned := d.turned + ((d.row r).length - n.toNat : Nat) } : Dv).set r ((d.row r).take n.toNat), 0) := by
  unfold truncD
  rw [if_neg (by rw [hd]; simp), if_neg (by omega), turnD_up h hd, turnN_up h]
  have e : (d.row r).length - ((d.row r).length - n.toNat) = n.toNat := by omega
  rw [e]
  simp [hd]
def dE7 (c : Int) : Dv := ⟨[], [], c, -1, false, 0⟩
theorem open_new_no (c : Int) (h0 : 0 ≤ c) (h : c < 16) : openJ (dE7 c) = (dE7 c, jn0, 6) := by
  have e1 : truncD (dE7 c) 0 0 = (dE7 c, 0) := by rw [truncD_up rfl rfl 0 0 (.inl rfl) (Int.le_refl 0) (Int.natCast_nonneg _)]; rfl
  have e2 : truncD (dE7 c) 1 0 = (dE7 c, 0) := by rw [truncD_up rfl rfl 1 0 (.inr rfl) (Int.le_refl 0) (Int.natCast_nonneg _)]; rfl
  have ep : (pickJ (dE7 c)).ok = false := by kernel_rfl
  unfold openJ
  rw [if_neg (by simp [dE7]), if_pos ep]
  unfold anewJ
  rw [e1]; simp only; rw [e2]; simp only
  rw [if_neg (by simp), if_neg (by simp), if_pos (by show (16:Int) > c; omega)]
theorem open_new_yes (c : Int) (h : 16 ≤ c) : openJ (dE7 c) = (⟨a16, [], c, -1, false, 16⟩, j17, 0) := by
  have e1 : truncD (dE7 c) 0 0 = (dE7 c, 0) := by rw [truncD_up rfl rfl 0 0 (.inl rfl) (Int.le_refl 0) (Int.natCast_nonneg _)]; rfl
  have e2 : truncD (dE7 c) 1 0 = (dE7 c, 0) := by rw [truncD_up rfl rfl 1 0 (.inr rfl) (Int.le_refl 0) (Int.natCast_nonneg _)]; rfl
  have ep : (pickJ (dE7 c)).ok = false := by kernel_rfl
  have eb : (begF 1 []).map (fun x => (writeF x.1 x.2).1) = [a16.take 9, a16.drop 9] := by decide +kernel
  have e3 : appendD (dE7 c) 0 (a16.take 9) = (⟨a16.take 9, [], c, -1, false, 9⟩, 0) := by
    rw [appendD_up rfl rfl 0 (.inl rfl), if_neg (by show ¬ ((a16.take 9).length : Int) > c - ([] : List Int).length; simp [a16]; omega)]; rfl
  have e4 : appendD ⟨a16.take 9, [], c, -1, false, 9⟩ 0 (a16.drop 9) = (⟨a16, [], c, -1, false, 16⟩, 0) := by
    rw [appendD_up rfl rfl 0 (.inl rfl), if_neg (by show ¬ ((a16.drop 9).length : Int) > c - (a16.take 9).length; simp [a16]; omega)]; rfl
  unfold openJ
  rw [if_neg (by simp [dE7]), if_pos ep]
  unfold anewJ
  rw [e1]; simp only; rw [e2]; simp only
  rw [if_neg (by simp), if_neg (by simp), if_neg (by show ¬ 16 > c; omega)]
  unfold beginJ
  rw [e1, eb]
  simp only [foldA, e3, e4, if_true, ne_eq, not_true, if_false]
  rfl
/-- A record more on a journal where no power goes. -/
theorem append_full (a : List Int) (recs : List (List Int)) (c t : Int) (l : List Int) : appendJ ⟨a, [], c, -1, false, t⟩ ⟨0, 1, [], recs, (a.length : Int)⟩ l =
    if l.length > 4096 then (⟨a, [], c, -1, false, t⟩, ⟨0, 1, [], recs, (a.length : Int)⟩, 2) else if (l.length : Int) + 7 > c - a.length then (⟨a, [], c, -1, false, t⟩, ⟨0, 1, [], recs, (a.length : Int)⟩, 6)
    else (⟨a ++ (writeF 4 l).1, [], c, -1, false, t + ((l.length : Int) + 7)⟩, ⟨0, 1, [], recs ++ [l], ((a ++ (writeF 4 l).1).length : Int)⟩, 0) := by
  by_cases h : l.length > 4096
  · rw [if_pos h]
    have e : writeF 4 l = ([], 2) := by unfold writeF; rw [if_neg (by decide), if_pos h]
    unfold appendJ; rw [e]; rfl
  · rw [if_neg h]
    have e0 : (writeF 4 l).2 = 0 := by unfold writeF; rw [if_neg (by decide), if_neg h]
    have el := (writeF_len 4 l).2 e0
    have er : (⟨a, [], c, -1, false, t⟩ : Dv).row 0 = a := rfl
    by_cases h2 : (l.length : Int) + 7 > c - a.length
    · rw [if_pos h2]
      have ea : appendD ⟨a, [], c, -1, false, t⟩ 0 (writeF 4 l).1 = (⟨a, [], c, -1, false, t⟩, 6) := by
        rw [appendD_up rfl rfl 0 (.inl rfl), if_pos (by rw [el, er]; push_cast; exact h2)]
      unfold appendJ
      rw [if_neg (by rw [e0]; simp), ea]
      rfl
    · rw [if_neg h2]
      have ea : appendD ⟨a, [], c, -1, false, t⟩ 0 (writeF 4 l).1 = (⟨a ++ (writeF 4 l).1, [], c, -1, false, t + ((l.length : Int) + 7)⟩, 0) := by
        rw [appendD_up rfl rfl 0 (.inl rfl), if_neg (by rw [el, er]; push_cast; exact h2), er, el]
        rfl
      have ek : ((a ++ (writeF 4 l).1).length : Int) = (a.length : Int) + ((writeF 4 l).1.length : Int) := by rw [List.length_append]; push_cast; rfl
      unfold appendJ
      rw [if_neg (by rw [e0]; simp), ea, ek]
      rfl
end Go.Proofs.Ytcgefilboefnpaa.H
/- A row of one's own that may be written over; Copy's answer as such a row. -/
namespace Go.Proofs.Ytcgefilboefnpaa.H
open Go.RowKit Go.Proofs.YtcgefilboefnpaaW.PrintWords Go.Proofs.YtcgefilboefnpaaW.PrintLast Go.Proofs.YtcgefilboefnpaaW.PrintMore
set_option linter.unusedVariables false
set_option linter.unusedSimpArgs false

/-- A row of one's own of so many bytes. -/
def Ro (w : World) (base : Nat) (A : Option Addr) (n c : Nat) : Prop := ∃ l, l.length = n ∧ Kd.R (Kd.int .u8) 5 w base (fun _ => True) (.slice A n c) l
theorem Ro.block {w : World} {base : Nat} {A : Option Addr} {n c : Nat} (h : Ro w base A n c) {ad : Addr} (e : A = some ad) : base ≤ ad.block ∧ ∃ cs, w.heap[ad.block]? = some (.cells cs 5 (0, 0)) := by
  obtain ⟨l, hl, hr⟩ := h
  subst e
  obtain ⟨inner, ho⟩ := Kd.R_own hr
  rcases ho.2 with ⟨h1, h2⟩ | ⟨g, cap, cur, h1, h2, h3, h4⟩
  · cases h1
  · cases h1; exact ⟨h2, cur, h3⟩
theorem Ro.apart {w w' : World} {base : Nat} {A : Option Addr} {n c b : Nat} (h : Ro w base A n c) (hb : ∀ ad, A = some ad → ad.block ≠ b) (ho : Oth b w w') : Ro w' base A n c := by
  obtain ⟨l, hl, hr⟩ := h
  obtain ⟨h1, inner, h2, h3⟩ := hr
  refine ⟨l, hl, h1, inner, own_move h2 (fun k hk => ?_), h3⟩
  cases A with
  | none => simp [Value.ownBlock] at hk
  | some ad =>
    have hk' : ad.block = k := by
      rcases h2.2 with ⟨h4, _⟩ | ⟨g, cap, cur, h4, _⟩
      · cases h4
      · cases h4; simpa [Value.ownBlock] using hk
    subst hk'
    obtain ⟨cs, hc⟩ := own_typed h2 _ hk
    exact ho.block _ (lt_of_some hc) (hb ad rfl)
theorem Ro.below {w w' : World} {base : Nat} {A : Option Addr} {n c : Nat} (h : Ro w base A n c) (hb : Below w.heap.size w w') : Ro w' base A n c := by
  obtain ⟨l, hl, hr⟩ := h
  exact ⟨l, hl, Kd.R_below hr hb⟩
theorem Ro.put {w : World} {base g : Nat} {n c : Nat} (h : Ro w base (some ⟨g, 0, none⟩) n c) (i : Int) (x : Int) : Ro (w.setCell ⟨g, i.toNat, none⟩ (.int .u8 x)) base (some ⟨g, 0, none⟩) n c := by
  obtain ⟨l, hl, hr⟩ := h
  exact ⟨l.set i.toNat x, by rw [List.length_set, hl], Kd.R_putn hr i x⟩
/-- An element of such a row: where it lies. -/
theorem Ro.at {w : World} {base : Nat} {A : Option Addr} {n c : Nat} (h : Ro w base A n c) {j : Nat} (hj : j < n) : ∃ g x, A = some ⟨g, 0, none⟩ ∧ base ≤ g ∧ n ≤ c ∧ w.cell? ⟨g, j, none⟩ = some (.int .u8 x) ∧ w.frozen? ⟨g, j, none⟩ = false := by
  obtain ⟨l, hl, hr⟩ := h
  obtain ⟨g, cap, e, hb, hlt, cs, hc⟩ := Kd.R_form hr (by omega)
  cases e
  obtain ⟨hx, hf⟩ := Kd.R_celln 0 hr (j : Int) (by omega) (by omega)
  rw [Int.toNat_natCast] at hx hf
  exact ⟨g, _, rfl, hb, (Kd.R_reads' hr).2.1, hx, hf⟩
theorem Copy_own (A0 : Option Addr) (c0 : Nat) (l0 : List Int) (n : Nat) (w : World) (hn : l0.length = n) (hr0 : Kd.C (Kd.int .u8) w A0 n l0) (hl : n ≤ 1000000) :
    Calls Try.prog 15 #[.slice A0 n c0] w fun e w' => ∃ A c, e = .returned (.slice A n c) ∧ n ≤ c ∧ Kd.R (Kd.int .u8) 5 w' w.heap.size (fun _ => True) (.slice A n c) l0 ∧ Below w.heap.size w w' := by
  subst hn
  refine (Copy_calls A0 c0 l0 w hr0 hl).mono ?_
  rintro e w' ⟨v, rfl, ho, hb⟩
  obtain ⟨A, c, rfl, hc, hr⟩ := R_C ho
  exact ⟨A, c, rfl, hc, ho, hb⟩
end Go.Proofs.Ytcgefilboefnpaa.H
/- JournalFull: what abides in a round; a journal and what has told, from one Pl to another, over a store outside, and over an Append. -/
namespace Go.Proofs.Ytcgefilboefnpaa.H
open Go.RowKit Go.Proofs.YtcgefilboefnpaaW.PrintWords Go.Proofs.YtcgefilboefnpaaW.PrintLast Go.Proofs.YtcgefilboefnpaaW.PrintMore Go.Proofs.Ytcgefilboefnpaa.CrcM
set_option linter.unusedVariables false
set_option linter.unusedSimpArgs false
set_option maxRecDepth 100000

theorem capC_le7 (n : Int) : 0 ≤ capC n ∧ capC n ≤ 1048576 := by
  unfold capC; split
  · omega
  · split <;> omega
theorem JAt.conv {p q : Pl} {W W' : World} {B gj gd : Nat} {Ar : Option Addr} {cr : Nat} {j : Jn} (h : @JAt p W B gj gd Ar cr j) (hb : Below W.heap.size W W') (hq : q.lo ≤ W'.heap.size) (hP : ∀ k, k < W.heap.size → q.P k) : @JAt q W' B gj gd Ar cr j := by
  obtain ⟨h0, As, cs, os, h1, h2, h3, h4, h5⟩ := h
  exact ⟨h0, As, cs, os, h1.blk (hb.block _ h1.lt), h2, h3.conv hb hq hP, Kd.R_below h4 hb, h5.1, fun i o x ho hx => by obtain ⟨k1, k2, k3⟩ := h5.2 i o x ho hx; exact ⟨k1, k2, k3.conv hb hq hP⟩⟩
theorem HasOf.conv {p q : Pl} {W W' : World} {B : Nat} {As : Option Addr} {cs : Nat} {Ar : Option Addr} {cr : Nat} {snap : List Int} {recs : List (List Int)} (h : @HasOf p W B As cs Ar cr snap recs) (hb : Below W.heap.size W W') (hq : q.lo ≤ W'.heap.size) (hP : ∀ k, k < W.heap.size → q.P k) : @HasOf q W' B As cs Ar cr snap recs := by
  obtain ⟨h1, h2, os, h3, h4⟩ := h
  exact ⟨h1, h2.conv hb hq hP, os, Kd.R_below h3 hb, h4.1, fun i o x ho hx => by obtain ⟨k1, k2, k3⟩ := h4.2 i o x ho hx; exact ⟨k1, k2, k3.conv hb hq hP⟩⟩
theorem JAt.apart [Pl] {W W' : World} {B gj gd b : Nat} {Ar : Option Addr} {cr : Nat} {j : Jn} {cs : Array Value} (h : JAt W B gj gd Ar cr j) (hb : ¬ Pl.P b) (hg : W.heap[b]? = some (.cells cs 5 (0, 0))) (ho : Oth b W W') : JAt W' B gj gd Ar cr j := by
  obtain ⟨h0, As, cs, os, h1, h2, h3, h4, h5⟩ := h
  have hne : gj ≠ b := by
    obtain ⟨cells, t, h6, h7, _⟩ := h1.some
    exact (ne_block' hg h6 h7).symm
  exact ⟨h0, As, cs, os, h1.blk (ho.block _ h1.lt hne), h2, h3.apart hb ho, R_oth h4 hg (by decide) ho, h5.imp (fun A l hr => hr.apart hb ho)⟩
theorem HasOf.apart [Pl] {W W' : World} {B b : Nat} {As : Option Addr} {cs : Nat} {Ar : Option Addr} {cr : Nat} {snap : List Int} {recs : List (List Int)} {cells : Array Value} (h : HasOf W B As cs Ar cr snap recs) (hb : ¬ Pl.P b) (hg : W.heap[b]? = some (.cells cells 5 (0, 0))) (ho : Oth b W W') : HasOf W' B As cs Ar cr snap recs := by
  obtain ⟨h1, h2, os, h3, h4⟩ := h
  exact ⟨h1, h2.apart hb ho, os, R_oth h3 hg (by decide) ho, h4.imp (fun A l hr => hr.apart hb ho)⟩
/-- The blocks that a journal may turn are there. -/
theorem JAt.JP_lt [Pl] {W : World} {B gj gd : Nat} {Ar : Option Addr} {cr : Nat} {j : Jn} (h : JAt W B gj gd Ar cr j) (hd : gd < W.heap.size) : ∀ k, JP gj gd Ar k → k < W.heap.size := by
  obtain ⟨h0, As, cs, os, h1, h2, h3, h4, h5⟩ := h
  rintro k (rfl | rfl | ⟨ad, rfl, rfl⟩)
  · exact h1.lt
  · exact hd
  · obtain ⟨_, ho⟩ := Kd.R_own h4
    obtain ⟨cells, hc⟩ := own_typed ho ad.block rfl
    exact lt_of_some hc
theorem HasOf.but [Pl] {P : Nat → Prop} {W W' : World} {B : Nat} {As : Option Addr} {cs : Nat} {Ar : Option Addr} {cr : Nat} {snap : List Int} {recs : List (List Int)} (h : HasOf W B As cs Ar cr snap recs) (hb : But P W W') (h8 : ∀ i cs z, W.heap[i]? = some (Obj.cells cs 5 z) → ¬ P i) (hB : ∀ k, P k → k < B) : HasOf W' B As cs Ar cr snap recs := by
  obtain ⟨h1, h2, os, h3, h4⟩ := h
  exact ⟨h1, hb.Rd h2 h8, os, hb.R h3 (fun k _ hk _ hp => by have := hB k hp; omega), h4.imp (fun A l hr => hb.Rd hr h8)⟩
theorem HasOf.blk [Pl] {W : World} {B : Nat} {As : Option Addr} {cs : Nat} {Ar : Option Addr} {cr : Nat} {snap : List Int} {recs : List (List Int)} (h : HasOf W B As cs Ar cr snap recs) : ∀ ad, Ar = some ad → B ≤ ad.block ∧ ad.block < W.heap.size := by
  obtain ⟨h1, h2, os, h3, h4⟩ := h
  rintro ad rfl
  obtain ⟨_, ho⟩ := Kd.R_own h3
  obtain ⟨cells, hc⟩ := own_typed ho ad.block rfl
  exact ⟨own_base ho ad.block rfl, lt_of_some hc⟩
abbrev op7Cells (k : Int) (A : Option Addr) (n c : Nat) : Array Value := #[.int .i64 k, .slice A n c]
theorem op7_cells {W : World} {g : Nat} {k : Int} {A : Option Addr} {n c : Nat} {t : TypeId} (h : W.heap[g]? = some (.cells (op7Cells k A n c) t (0, 0))) : W.cell? ⟨g, 0, none⟩ = some (.int .i64 k) ∧ W.cell? ⟨g, 1, none⟩ = some (.slice A n c) := by
  refine ⟨?_, ?_⟩ <;> · rw [blk_cell h]; rfl
/-- What abides in a round. -/
structure FB [Pl] (W0 : World) (B gd gj go gt B1 : Nat) (Ar : Option Addr) (cr : Nat) (As : Option Addr) (cs : Nat) (A1 : Option Addr) (c1 : Nat) (oc : Array Value) (snap : List Int) (recs : List (List Int)) (Am : Option Addr) (nm cm base : Nat) (d : Dv) (j : Jn) (w : World) : Prop where
  below : Below W0.heap.size W0 w
  dd : DevAt w gd d
  jj : JAt w B gj gd Ar cr j
  ob : w.heap[go]? = some (.cells oc 34 (0, 0))
  tb : w.heap[gt]? = some (.cells (xjCells As snap.length cs A1 recs.length c1) 38 (0, 0))
  hh : HasOf w B1 As cs A1 c1 snap recs
  rm : Ro w base Am nm cm
  h0 : W0.heap.size ≤ B
  h1 : W0.heap.size ≤ base
  hd : W0.heap.size ≤ gd
  h2 : W0.heap.size ≤ B1
  h3 : W0.heap.size ≤ gt
  ap : ∀ ad ad', Ar = some ad → A1 = some ad' → ad.block ≠ ad'.block
  pm : ∀ ad, Am = some ad → ¬ Pl.P ad.block
section
variable [Pl] {W0 : World} {B gd gj go gt B1 : Nat} {Ar : Option Addr} {cr : Nat} {As : Option Addr} {cs : Nat} {A1 : Option Addr} {c1 : Nat} {oc : Array Value} {snap : List Int} {recs : List (List Int)} {Am : Option Addr} {nm cm base : Nat} {d : Dv} {j : Jn} {w w' : World}
theorem FB.step (h : FB W0 B gd gj go gt B1 Ar cr As cs A1 c1 oc snap recs Am nm cm base d j w) (hb : Below w.heap.size w w') : FB W0 B gd gj go gt B1 Ar cr As cs A1 c1 oc snap recs Am nm cm base d j w' :=
  { h with below := below_step h.below hb, dd := h.dd.below hb, jj := h.jj.below hb, ob := blk_belowX h.ob hb, tb := blk_belowX h.tb hb, hh := h.hh.below hb, rm := h.rm.below hb }
theorem FB.drew (h : FB W0 B gd gj go gt B1 Ar cr As cs A1 c1 oc snap recs Am nm cm base d j w) : FB W0 B gd gj go gt B1 Ar cr As cs A1 c1 oc snap recs Am nm cm base d j w.drew := h.step ⟨rfl, rfl, rfl, Nat.le_refl _, fun _ _ => rfl⟩
theorem FB.row {g : Nat} (h : FB W0 B gd gj go gt B1 Ar cr As cs A1 c1 oc snap recs (some ⟨g, 0, none⟩) nm cm base d j w) (i : Nat) (x : Int) : FB W0 B gd gj go gt B1 Ar cr As cs A1 c1 oc snap recs (some ⟨g, 0, none⟩) nm cm base d j (w.setCell ⟨g, i, none⟩ (.int .u8 x)) := by
  have ho : Oth g w (w.setCell ⟨g, i, none⟩ (.int .u8 x)) := Oth.set w ⟨g, i, none⟩ _
  obtain ⟨hb, cs, hcs⟩ := h.rm.block rfl
  obtain ⟨A0, c0, A1, c1, hB, _⟩ := h.dd
  have hp := h.rm.put (i : Int) x
  rw [Int.toNat_natCast] at hp
  exact { h with below := ho.below h.below (Nat.le_trans h.h1 hb), dd := h.dd.apart (h.pm _ rfl) (ne_block' hB hcs (by decide)) ho, jj := h.jj.apart (h.pm _ rfl) hcs ho, ob := ho.blk h.ob (ne_block' h.ob hcs (by decide)), tb := ho.blk h.tb (ne_block' h.tb hcs (by decide)), hh := h.hh.apart (h.pm _ rfl) hcs ho, rm := hp }
/-- A row of one's own abides where the journal turns. -/
theorem FB.abides (h : FB W0 B gd gj go gt B1 Ar cr As cs A1 c1 oc snap recs Am nm cm base d j w) {base' : Nat} {A : Option Addr} {n c : Nat} {l : List Int} (hr : Kd.R (Kd.int .u8) 5 w base' (fun _ => True) (.slice A n c) l) : ∀ W', But (JP gj gd Ar) w W' → Kd.C (Kd.int .u8) W' A l.length l := fun W' hb =>
  (Kd.R_reads' (hb.R hr (fun k _ _ hq => by
      obtain ⟨q, hq, cells, hc⟩ := hq
      have : q = 5 := by simpa [Kd.int, Kd.scalar] using hq
      subst this
      exact h.jj.no8 h.dd k cells _ hc))).2.2
/-- Over an Append. -/
theorem FB.app (h : FB W0 B gd gj go gt B1 Ar cr As cs A1 c1 oc snap recs Am nm cm base d j w) (hJ : ∀ k, JP gj gd Ar k → k < B1) {x : Dv × Jn × Int} {e : Ending} (hp : JPost B gj gd Ar x w e w') :
    ∃ Ar' cr', FB W0 B gd gj go gt B1 Ar' cr' As cs A1 c1 oc snap recs Am nm cm base x.1 x.2.1 w' := by
  obtain ⟨_, h1, ⟨Ar', cr', h2, h3⟩, h4⟩ := hp
  have h8 := h.jj.no8 h.dd
  have hfr : ∀ k, JP gj gd Ar k → W0.heap.size ≤ k := by
    have h6 := h.jj.from7
    have h7 := h.h0
    rintro k (rfl | rfl | hk)
    · have := h.jj.1; omega
    · exact h.hd
    · have := h6 k hk; omega
  have hJ' : ∀ k (cells : Array Value) (t : TypeId), w.heap[k]? = some (.cells cells t (0, 0)) → t ≠ 67 → t ≠ 88 → t ≠ 63 → t ≠ 32 → ¬ JP gj gd Ar k := by
    intro k cells t hk t1 t2 t3 t4 hjp
    obtain ⟨q0, _, _, os, ⟨rest, t', ht', q1⟩, _, _, q4, _⟩ := h.jj
    obtain ⟨_, _, _, _, hB, _⟩ := h.dd
    rcases hjp with rfl | rfl | ⟨ad, rfl, rfl⟩
    · rw [q1] at hk; injection hk with hk; injection hk with _ hk _
      subst hk
      rcases ht' with h | h
      · exact t1 h
      · exact t2 h
    · rw [hB] at hk; injection hk with hk; injection hk with _ hk _
      exact t3 hk.symm
    · obtain ⟨_, ho⟩ := Kd.R_own q4
      obtain ⟨cells, hc⟩ := own_typed ho ad.block rfl
      rw [hc] at hk; injection hk with hk; injection hk with _ hk _
      exact t4 hk.symm
  refine ⟨Ar', cr', { h with below := h4.below h.below h.below.size hfr, dd := h1, jj := h2, ob := h4.blk h.ob (hJ' _ _ _ h.ob (by decide) (by decide) (by decide) (by decide)), tb := h4.blk h.tb (hJ' _ _ _ h.tb (by decide) (by decide) (by decide) (by decide)), hh := h.hh.but h4 h8 hJ, rm := ?_, ap := ?_ }⟩
  · obtain ⟨l, hl, hr⟩ := h.rm
    exact ⟨l, hl, h4.R hr (fun k _ _ hq => by
      obtain ⟨q, hq, cells, hc⟩ := hq
      have : q = 5 := by simpa [Kd.int, Kd.scalar] using hq
      subst this
      exact h8 k cells _ hc)⟩
  · intro ad ad' e1 e2
    obtain ⟨k1, k2⟩ := h.hh.blk ad' e2
    rcases h3 ad e1 with ⟨ad0, q1, q2⟩ | q
    · have := hJ ad.block (.inr (.inr ⟨ad0, q1, q2⟩)); omega
    · omega
end
/-- The eight cells of such a box. -/
theorem xj_at {W : World} {g : Nat} {As : Option Addr} {cs : Nat} {Ar : Option Addr} {nr cr : Nat} {t : TypeId} (h : W.heap[g]? = some (.cells (xjCells As 0 cs Ar nr cr) t (0, 0))) :
    W.cell? ⟨g, 0, none⟩ = some (.slice none 0 0) ∧ W.cell? ⟨g, 1, none⟩ = some (.slice none 0 0) ∧ W.cell? ⟨g, 2, none⟩ = some (.int .i64 0) ∧ W.cell? ⟨g, 3, none⟩ = some (.int .i64 0) ∧ W.cell? ⟨g, 4, none⟩ = some (.int .u64 0) ∧ W.cell? ⟨g, 5, none⟩ = some (.slice As 0 cs) ∧ W.cell? ⟨g, 6, none⟩ = some (.slice Ar nr cr) ∧ W.cell? ⟨g, 7, none⟩ = some (.int .i64 0) := xj_cells h
theorem FB.tbn [Pl] {W0 : World} {B gd gj go gt B1 : Nat} {Ar : Option Addr} {cr : Nat} {As : Option Addr} {cs : Nat} {A1 : Option Addr} {c1 : Nat} {oc : Array Value} {recs : List (List Int)} {Am : Option Addr} {nm cm base n : Nat} {d : Dv} {j : Jn} {w : World} (h : FB W0 B gd gj go gt B1 Ar cr As cs A1 c1 oc [] recs Am nm cm base d j w) (hn : recs.length = n) : w.heap[gt]? = some (.cells (xjCells As 0 cs A1 n c1) 38 (0, 0)) := by
  have := h.tb
  rw [hn] at this
  exact this
theorem has7_eq [Pl] (gj gd B : Nat) (Ar : Option Addr) (cr : Nat) (j : Jn) (recs : List (List Int)) (n : Nat) (w : World) (h : JAt w B gj gd Ar cr j) (hsn : j.snap = []) (hrn : j.recs = recs) (hn : recs.length = n) (hrl : n ≤ 1000000) (hr : ∀ x ∈ recs, x.length ≤ 1000000) :
    Calls Try.prog 14 #[.pointer (some ⟨gj, 0, none⟩)] w fun e w' => ∃ As cs Ar cr, e = .returned (.agg (xjCells As 0 cs Ar n cr)) ∧ HasOf w' w.heap.size As cs Ar cr [] recs ∧ Below w.heap.size w w' := by
  subst hn
  exact has_calls gj gd B Ar cr j [] recs w h hsn hrn (by simp) hrl hr
theorem Same7_xj (As : Option Addr) (cs : Nat) (Ar : Option Addr) (nr cr : Nat) (As' : Option Addr) (cs' : Nat) (Ar' : Option Addr) (cr' : Nat) (r : List (List Int)) (W : World) (hx1 : Kd.C (Kd.int .u8) W As 0 []) (hy1 : Kd.C (Kd.int .u8) W As' 0 [])
    (hx2 : Kd.C (Kd.slice 5 (Kd.int .u8)) W Ar nr r) (hy2 : Kd.C (Kd.slice 5 (Kd.int .u8)) W Ar' nr r) :
    Calls Try.prog 19 #[.agg (xjCells As 0 cs Ar nr cr), .agg (xjCells As' 0 cs' Ar' nr cr')] W fun e W' => e = .returned (.bool true) ∧ Below W.heap.size W W' :=
  Same7_calls ⟨none, 0, 0, none, 0, 0, 0, 0, 0, As, 0, cs, Ar, nr, cr, 0⟩ ⟨none, 0, 0, none, 0, 0, 0, 0, 0, As', 0, cs', Ar', nr, cr', 0⟩ [] [] r r W true (decide_eq_true ⟨rfl, rfl⟩) hx1 hy1 hx2 hy2
theorem full_cases {a : List Int} {recs : List (List Int)} {cc : Int} {l : List Int} {d d' : Dv} {j j' : Jn} {e' : Int} (hd : (⟨a, [], cc, -1, false, a.length⟩ : Dv) = d) (hj : (⟨0, 1, [], recs, a.length⟩ : Jn) = j) (h : appendJ d j l = (d', j', e')) :
    (4096 < l.length ∧ d = d' ∧ j = j' ∧ e' = 2) ∨ (l.length ≤ 4096 ∧ cc - a.length < l.length + 7 ∧ d = d' ∧ j = j' ∧ e' = 6) ∨ (l.length ≤ 4096 ∧ (l.length : Int) + 7 ≤ cc - a.length ∧ e' = 0 ∧ ∃ a' : List Int, a'.length = a.length + (l.length + 7) ∧ d' = ⟨a', [], cc, -1, false, a'.length⟩ ∧ j' = ⟨0, 1, [], recs ++ [l], a'.length⟩) := by
  have e := append_full a recs cc a.length l
  rw [hd, hj, h] at e
  by_cases h1 : l.length > 4096
  · rw [if_pos h1] at e
    simp only [Prod.mk.injEq] at e
    exact .inl ⟨h1, e.1.symm, e.2.1.symm, e.2.2⟩
  · rw [if_neg h1] at e
    by_cases h2 : (l.length : Int) + 7 > cc - a.length
    · rw [if_pos h2] at e
      simp only [Prod.mk.injEq] at e
      exact .inr (.inl ⟨by omega, by omega, e.1.symm, e.2.1.symm, e.2.2⟩)
    · rw [if_neg h2] at e
      simp only [Prod.mk.injEq] at e
      have e0 : (writeF 4 l).2 = 0 := by unfold writeF; rw [if_neg (by decide), if_neg h1]
      have el := (writeF_len 4 l).2 e0
      have ek : (a ++ (writeF 4 l).1).length = a.length + (l.length + 7) := by rw [List.length_append, el]
      refine .inr (.inr ⟨by omega, by omega, e.2.2, _, ek, ?_, e.2.1⟩)
      rw [e.1, ek]
      push_cast
      rfl
theorem snoc_le7 {recs : List (List Int)} {l : List Int} {m : Nat} (h : ∀ x ∈ recs, x.length ≤ m) (hl : l.length ≤ m) : ∀ x ∈ recs ++ [l], x.length ≤ m := fun x hx => by
  rcases List.mem_append.1 hx with h1 | h1
  · exact h x h1
  · have : x = l := by simpa using h1
    subst this; exact hl
theorem weight7 (l : List Int) : weightF (l.length : Int) = l.length + 7 := by unfold weightF; rw [if_neg (by omega)]
theorem JAt.but [Pl] {P : Nat → Prop} {W W' : World} {B gj gd : Nat} {Ar : Option Addr} {cr : Nat} {j : Jn} (h : JAt W B gj gd Ar cr j) (hb : But P W W') (h8 : ∀ i cs z, W.heap[i]? = some (Obj.cells cs 5 z) → ¬ P i) (hg : ¬ P gj) (hr : ∀ ad, Ar = some ad → ¬ P ad.block) : JAt W' B gj gd Ar cr j := by
  obtain ⟨h0, As, cs, os, h1, h2, h3, h4, h5⟩ := h
  refine ⟨h0, As, cs, os, h1.blk (hb.block _ h1.lt hg), h2, hb.Rd h3 h8, Kd.R_mono (hb.R (R_sharp h4) (fun k hk _ _ => ?_)) (fun _ _ => trivial), h5.imp (fun A l hr => hb.Rd hr h8)⟩
  cases hAr : Ar with
  | none => rw [hAr] at hk; simp [Value.ownBlock] at hk
  | some ad => rw [hAr] at hk; simp [Value.ownBlock] at hk; rw [← hk]; exact hr ad hAr
/-- Rows of slices of which each is read. -/
theorem C_rowsC {W : World} {base : Nat} {ok : Nat → Prop} {A : Option Addr} {n c : Nat} {os : List Sl} {xs : List (List Int)} (h : KSl.R 32 W base ok (.slice A n c) os) (hl : os.length = xs.length) (hs : ∀ (i : Nat) (o : Sl) (x : List Int), os[i]? = some o → xs[i]? = some x → o.2.1 = x.length ∧ x.length ≤ o.2.2 ∧ Kd.C (Kd.int .u8) W o.1 x.length x) : Kd.C (Kd.slice 5 (Kd.int .u8)) W A n xs := by
  obtain ⟨h1, h2, h3⟩ := Kd.R_reads' h
  refine ⟨by rw [h1, hl], by rw [h1]; exact h3.2.1, fun hn => ?_⟩
  obtain ⟨ad, e, hr⟩ := h3.2.2 (by omega)
  refine ⟨ad, e, fun j x hj => ?_⟩
  have hjl : j < os.length := by rw [hl]; exact (List.getElem?_eq_some_iff.1 hj).1
  obtain ⟨o, ho⟩ : ∃ o, os[j]? = some o := ⟨_, List.getElem?_eq_getElem hjl⟩
  obtain ⟨c1, hl1, hK, hc1⟩ := hr j o ho
  obtain ⟨A1, n1, m1⟩ := o
  obtain ⟨q1, q2, q3⟩ := hs j _ x ho hj
  simp only at q1 q2 q3
  subst q1
  exact ⟨c1, hl1, ⟨A1, m1, hK, q2, q3⟩, hc1⟩
/-- What abides after a record more has been put with what has told. -/
structure FC [Pl] (W0 : World) (B gd gj gt : Nat) (Ar : Option Addr) (cr : Nat) (As : Option Addr) (cs : Nat) (A1 : Option Addr) (n c1 : Nat) (recs : List (List Int)) (d : Dv) (j : Jn) (w : World) : Prop where
  below : Below W0.heap.size W0 w
  dd : DevAt w gd d
  jj : JAt w B gj gd Ar cr j
  tb : w.heap[gt]? = some (.cells (xjCells As 0 cs A1 n c1) 38 (0, 0))
  k1 : Kd.C (Kd.int .u8) w As 0 []
  k2 : Kd.C (Kd.slice 5 (Kd.int .u8)) w A1 n recs
theorem FC.step [Pl] {W0 : World} {B gd gj gt : Nat} {Ar : Option Addr} {cr : Nat} {As : Option Addr} {cs : Nat} {A1 : Option Addr} {n c1 : Nat} {recs : List (List Int)} {d : Dv} {j : Jn} {w w' : World} (h : FC W0 B gd gj gt Ar cr As cs A1 n c1 recs d j w) (hb : Below w.heap.size w w') : FC W0 B gd gj gt Ar cr As cs A1 n c1 recs d j w' :=
  { below := below_step h.below hb, dd := h.dd.below hb, jj := h.jj.below hb, tb := blk_belowX h.tb hb, k1 := Kd.C_below h.k1 hb, k2 := Kd.C_below h.k2 hb }
theorem FC.drew [Pl] {W0 : World} {B gd gj gt : Nat} {Ar : Option Addr} {cr : Nat} {As : Option Addr} {cs : Nat} {A1 : Option Addr} {n c1 : Nat} {recs : List (List Int)} {d : Dv} {j : Jn} {w : World} (h : FC W0 B gd gj gt Ar cr As cs A1 n c1 recs d j w) : FC W0 B gd gj gt Ar cr As cs A1 n c1 recs d j w.drew := h.step ⟨rfl, rfl, rfl, Nat.le_refl _, fun _ _ => rfl⟩
/-- Over an append to the row of records and the store of its cell. -/
theorem FB.put [Pl] {W0 : World} {B gd gj go gt B1 : Nat} {Ar : Option Addr} {cr : Nat} {As : Option Addr} {cs : Nat} {A1 : Option Addr} {c1 : Nat} {oc : Array Value} {recs : List (List Int)} {Am : Option Addr} {nm cm base n : Nat} {d : Dv} {j : Jn} {w w8 : World} (h : FB W0 B gd gj go gt B1 Ar cr As cs A1 c1 oc [] recs Am nm cm base d j w) (hn : recs.length = n)
    {os : List Sl} {A3 A8 : Option Addr} {c3 c8 : Nat} {l : List Int} (hS : SlsOf w os recs) (hR : KSl.R 32 w B1 (fun _ => True) (.slice A1 n c1) os) (hr8 : KSl.R 32 w8 B1 (fun _ => True) (.slice A8 (n + 1) c8) (os ++ [(A3, l.length, c3)])) (hg8 : w.grownBy w8 (Value.slice A1 n c1).ownBlock) (hl : Kd.C (Kd.int .u8) W0 A3 l.length l) (hc3 : l.length ≤ c3) :
    FC W0 B gd gj gt Ar cr As cs A8 (n + 1) c8 (recs ++ [l]) d j (w8.setCell ⟨gt, 6, none⟩ (.slice A8 (n + 1) c8)) := by
  have tb := h.tbn hn
  have tb8 : w8.heap[gt]? = some (.cells (xjCells As 0 cs A1 n c1) 38 (0, 0)) := blk_grown hR tb (by decide) hg8
  have ho : Oth gt w8 (w8.setCell ⟨gt, 6, none⟩ (.slice A8 (n + 1) c8)) := Oth.set w8 ⟨gt, 6, none⟩ _
  have hbut : But (fun i => i = gt ∨ some i = (Value.slice A1 n c1).ownBlock) w (w8.setCell ⟨gt, 6, none⟩ (.slice A8 (n + 1) c8)) := (But.of_grown hg8 (fun i hi => .inr hi.symm)).trans (.of_oth ho (.inl rfl))
  have hown : ∀ i, some i = (Value.slice A1 n c1).ownBlock → ∃ cells, w.heap[i]? = some (.cells cells 32 (0, 0)) ∧ B1 ≤ i := fun i hi => by
    obtain ⟨_, ho'⟩ := Kd.R_own hR
    obtain ⟨cells, hc⟩ := own_typed ho' i hi.symm
    exact ⟨cells, hc, own_base ho' i hi.symm⟩
  have h8 : ∀ i cs z, w.heap[i]? = some (Obj.cells cs 5 z) → ¬ (i = gt ∨ some i = (Value.slice A1 n c1).ownBlock) := by
    rintro i cs z hi (rfl | h)
    · exact ne_block' hi tb (by decide) rfl
    · obtain ⟨cells, hc, _⟩ := hown i h
      exact ne_block' hi hc (by decide) rfl
  have hbl := hbut.below h.below h.below.size (by
    rintro k (rfl | hk)
    · exact h.h3
    · obtain ⟨_, _, h7⟩ := hown k hk
      exact Nat.le_trans h.h2 h7)
  obtain ⟨_, hs2, _⟩ := h.hh
  obtain ⟨A0', c0', A1', c1', hB, _⟩ := h.dd
  refine { below := hbl, dd := hbut.DevAt h.dd ?_ h8, jj := h.jj.but hbut h8 ?_ ?_, tb := blk_put tb8 6 _ rfl, k1 := (hbut.Rd hs2 h8).1, k2 := ?_ }
  · rintro (e | e)
    · exact ne_block' hB tb (by decide) e
    · obtain ⟨cells, hc, _⟩ := hown _ e
      exact ne_block' hB hc (by decide) rfl
  · obtain ⟨q0, _, _, os', ⟨rest, t', ht', q1⟩, _⟩ := h.jj
    rintro (e | e)
    · exact ne_block' q1 tb (by rcases ht' with rfl | rfl <;> decide) e
    · obtain ⟨cells, hc, _⟩ := hown _ e
      exact ne_block' q1 hc (by rcases ht' with rfl | rfl <;> decide) rfl
  · rintro ad e (h2 | h2)
    · obtain ⟨q0, _, _, os', _, _, _, q4, _⟩ := h.jj
      subst e
      obtain ⟨_, ho'⟩ := Kd.R_own q4
      obtain ⟨cells, hc⟩ := own_typed ho' ad.block rfl
      exact ne_block' hc tb (by decide) h2
    · cases hA : A1 with
      | none => rw [hA] at h2; simp [Value.ownBlock] at h2
      | some ad' => rw [hA] at h2; simp [Value.ownBlock] at h2; exact h.ap ad ad' e hA h2
  · refine C_rowsC (R_oth hr8 tb8 (by decide) ho) (by simp [hS.1]) (fun i o x hi hx => ?_)
    by_cases hlt : i < os.length
    · rw [List.getElem?_append_left hlt] at hi
      rw [List.getElem?_append_left (by rw [← hS.1]; exact hlt)] at hx
      obtain ⟨k1, k2, k3⟩ := hS.2 i o x hi hx
      exact ⟨k1, k2, (hbut.Rd k3 h8).1⟩
    · rw [List.getElem?_append_right (by omega)] at hi
      rw [List.getElem?_append_right (by rw [← hS.1]; omega)] at hx
      rw [hS.1] at hi
      have : i - recs.length = 0 := by
        cases hq : i - recs.length with
        | zero => rfl
        | succ q => rw [hq] at hi; simp at hi
      rw [this] at hi hx
      simp at hi hx
      subst hi; subst hx
      exact ⟨rfl, hc3, Kd.C_below hl hbl⟩
end Go.Proofs.Ytcgefilboefnpaa.H
