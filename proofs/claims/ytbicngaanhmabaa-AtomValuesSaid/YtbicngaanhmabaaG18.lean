/- Some texts of one seat in one file, in build order. -/
import Derived.Test.YtbicngaanhmabaaG11
import Derived.Test.YtbicngaanhmabaaG12
import Derived.Test.YtbicngaanhmabaaG13
import Derived.Test.YtbicngaanhmabaaG14
import Derived.Test.YtbicngaanhmabaaG15
import Derived.Test.YtbicngaanhmabaaG16
import Derived.Test.YtbicngaanhmabaaG17
import Derived.Test.YtbicngaanhmabaaG1
import Derived.Test.YtbicngaanhmabaaG6
import Derived.Test.YtbicngaanhmabaaG8
import Derived.Test.YtbicngaanhmabaaG9
-- PRINTED BY A CHANGED COPY OF THE PRINT (wip/tools/patch_print.py), over contracts by hand
namespace Go.Proofs.Ytbicngaanhmabaa.PAll9
open Go.RowKit Go.Proofs.YtbicngaanhmabaaW.PrintWords Go.Proofs.YtbicngaanhmabaaW.PrintLast Go.Proofs.YtbicngaanhmabaaW.PrintMore
attribute [local go_sem] max2_int min2_int max_two min_two max_three min_three max_four min_four   -- for this text's walks alone
set_option linter.unusedVariables false
set_option linter.unusedSimpArgs false

end Go.Proofs.Ytbicngaanhmabaa.PAll9
/- The document's answers about sets, as the print has them: what they come to. -/
namespace Go.Proofs.Ytbicngaanhmabaa.R02
open Go.RowKit Go.Proofs.Ytbicngaanhmabaa.Ult Go.Proofs.Ytbicngaanhmabaa.AtM Go.Proofs.Ytbicngaanhmabaa.PAll9
set_option linter.unusedVariables false
set_option linter.unusedSimpArgs false
theorem w64 {n : Int} (h0 : -9223372036854775808 ≤ n) (h1 : n ≤ 9223372036854775807) : wrap64 n = n := by
  unfold wrap64; omega
theorem tdiv2 {x : Int} (h : U64 x) : IntKind.u64.wrap (Int.tdiv x 2) = x / 2 ∧ U64 (x / 2) := by
  unfold U64 at *
  rw [Int.tdiv_eq_ediv_of_nonneg h.1]
  refine ⟨?_, by omega⟩
  simp [IntKind.wrap, IntKind.bits, IntKind.signed]; omega
theorem has_l0 (n : Int) : ∀ (d : Nat) (x i : Int), U64 x → i + d = n → 0 ≤ i → n ≤ 64 → Ult (fun k => saleroomref02_Has.l0 k x n i) (x.toNat.testBit d) := by
  intro d
  induction d with
  | zero =>
    intro x i hx hi h0 hn
    refine Ult.succ ?_
    simp only [saleroomref02_Has.l0]
    refine Ult.neg (by omega) (Ult.const ?_)
    congr 1
    rw [Int.tmod_eq_emod_of_nonneg hx.1, Nat.testBit_zero]
    apply Bool.eq_iff_iff.2
    simp only [beq_iff_eq, decide_eq_true_iff]
    have := hx.1
    omega
  | succ d ih =>
    intro x i hx hi h0 hn
    refine Ult.succ ?_
    simp only [saleroomref02_Has.l0]
    refine Ult.pos (by omega) ?_
    obtain ⟨h1, h2⟩ := tdiv2 hx
    rw [h1, w64 (by omega) (by omega)]
    refine (ih (x / 2) (i + 1) h2 (by omega) (by omega) hn).eq ?_
    rw [Nat.testBit_succ, show x.toNat / 2 = (x / 2).toNat from by have := hx.1; omega]
theorem has_ev (x n : Int) (hx : U64 x) : Ult (fun k => saleroomref02_Has.f k x n) (decide (0 ≤ n ∧ n ≤ 63) && x.toNat.testBit n.toNat) := by
  unfold saleroomref02_Has.f
  refine Ult.ite (fun h => ?_) (fun h => ?_)
  · refine Ult.succ ?_
    simp only [saleroomref02_Has.j0, if_true]
    refine Ult.const ?_
    rw [decide_eq_false (by omega)]; rfl
  · refine Ult.succ ?_
    simp only [saleroomref02_Has.j0]
    refine Ult.ite (fun h2 => Ult.const ?_) (fun h2 => ?_)
    · have := of_decide_eq_true h2
      rw [decide_eq_false (by omega)]; rfl
    · have h3 : ¬ n > 63 := fun h3 => h2 (decide_eq_true h3)
      rw [decide_eq_true (show 0 ≤ n ∧ n ≤ 63 by omega), Bool.true_and]
      exact has_l0 n n.toNat x 0 hx (by omega) (Int.le_refl _) (by omega)
/-- Of an item. -/
theorem has_item (x : Int) (i : Nat) (hx : U64 x) (hi : i < 64) : Ult (fun k => saleroomref02_Has.f k x (i : Int)) (x.toNat.testBit i) :=
  (has_ev x i hx).eq (by rw [decide_eq_true (by omega), Bool.true_and, Int.toNat_natCast])
/-- From an item on. -/
theorem within_l0 (x y : Int) (hx : U64 x) (hy : U64 y) : ∀ (d i : Nat), i + d = 64 → (∀ j, j < i → x.toNat.testBit j = true → y.toNat.testBit j = true) → Ult (fun k => saleroomref02_Within.l0 k x y (i : Int)) (wthB x y) := by
  intro d
  induction d with
  | zero =>
    intro i hi hall
    refine Ult.succ ?_
    simp only [saleroomref02_Within.l0]
    refine Ult.neg (by omega) (Ult.const ?_)
    congr 1
    symm
    rw [wth_iff]
    intro j hj
    exact hall j (by have := testBit_big (nat_lt hx) hj; omega) hj
  | succ d ih =>
    intro i hi hall
    refine Ult.succ ?_
    simp only [saleroomref02_Within.l0]
    refine Ult.pos (by omega) ?_
    refine Ult.bind (has_item x i hx (by omega)) ?_
    rw [show wrap64 ((i : Int) + 1) = ((i + 1 : Nat) : Int) by rw [w64 (by omega) (by omega)]; rfl]
    refine Ult.ite (fun h => Ult.bind (has_item y i hy (by omega)) (Ult.ite (fun h2 => ih (i + 1) (by omega) (fun j hj hjx => ?_)) (fun h2 => Ult.const ?_))) (fun h => ih (i + 1) (by omega) (fun j hj hjx => ?_))
    · by_cases e : j = i
      · rw [e]; exact h2
      · exact hall j (by omega) hjx
    · congr 1
      symm
      cases hw : wthB x y with
      | false => rfl
      | true => exact absurd ((wth_iff x y).1 hw i h) h2
    · by_cases e : j = i
      · rw [e] at hjx; exact absurd hjx h
      · exact hall j (by omega) hjx
theorem within_ev (x y : Int) (hx : U64 x) (hy : U64 y) : Ult (fun k => saleroomref02_Within.f k x y) (wthB x y) :=
  within_l0 x y hx hy 64 0 rfl (fun j hj => by omega)
/-- A set's items. -/
def listS (x : Int) : List Int := ((List.range 64).filter fun i => x.toNat.testBit i).map fun (i : Nat) => (i : Int)
theorem listS_len (x : Int) : (listS x).length = pcS x := by
  unfold listS pcS pcN
  rw [List.length_map, List.countP_eq_length_filter]
theorem list_l0 (x : Int) (hx : U64 x) : ∀ (d i : Nat) (out : List Int), i + d = 64 → out = ((List.range i).filter fun i => x.toNat.testBit i).map (fun (i : Nat) => (i : Int)) → Ult (fun k => saleroomref02_List.l0 k x out (i : Int)) (listS x) := by
  intro d
  induction d with
  | zero =>
    intro i out hi ho
    refine Ult.succ ?_
    simp only [saleroomref02_List.l0]
    refine Ult.neg (by omega) (Ult.const ?_)
    rw [ho, show i = 64 by omega]; rfl
  | succ d ih =>
    intro i out hi ho
    refine Ult.succ ?_
    simp only [saleroomref02_List.l0]
    refine Ult.pos (by omega) ?_
    refine Ult.bind (has_item x i hx (by omega)) ?_
    rw [show wrap64 ((i : Int) + 1) = ((i + 1 : Nat) : Int) by rw [w64 (by omega) (by omega)]; rfl]
    have hlen : out.length ≤ 64 := by
      rw [ho, List.length_map]
      have := List.length_filter_le (fun i => x.toNat.testBit i) (List.range i)
      rw [List.length_range] at this
      omega
    refine Ult.ite (fun h => Ult.pos (by omega) (ih (i + 1) _ (by omega) ?_)) (fun h => ih (i + 1) _ (by omega) ?_)
    · rw [List.range_succ, List.filter_append, List.map_append, ← ho]
      simp [h]
    · rw [List.range_succ, List.filter_append, List.map_append, ← ho]
      simp [h]
theorem list_ev (x : Int) (hx : U64 x) : Ult (fun k => saleroomref02_List.f k x) (listS x) := list_l0 x hx 64 0 [] rfl rfl
theorem cmp_ev (x y : Int) (hx : U64 x) (hy : U64 y) : Ult (fun k => saleroomref02_Cmp.f k x y) (cmpS x y) := by
  unfold saleroomref02_Cmp.f
  refine Ult.bind (list_ev x hx) (Ult.bind (list_ev y hy) ?_)
  rw [listS_len, listS_len]
  have hj : ∀ b : Bool, b = decide (pcS x < pcS y ∨ (pcS x = pcS y ∧ x < y)) → Ult (fun k => saleroomref02_Cmp.j0 k x y (pcS x : Int) (pcS y : Int) b) (cmpS x y) := by
    intro b hb
    refine Ult.succ ?_
    simp only [saleroomref02_Cmp.j0]
    unfold cmpS
    refine Ult.ite (fun h => Ult.const ?_) (fun h => ?_)
    · rw [h] at hb
      have hb := of_decide_eq_true hb.symm
      congr 1
      repeat' split
      all_goals omega
    · have hb : ¬ (pcS x < pcS y ∨ (pcS x = pcS y ∧ x < y)) := fun h2 => h (by rw [hb]; exact decide_eq_true h2)
      refine Ult.ite (fun h2 => Ult.const ?_) (fun h2 => Ult.ite (fun h3 => Ult.const ?_) (fun h3 => Ult.const ?_))
      all_goals
        congr 1
        repeat' split
        all_goals omega
  refine Ult.ite (fun h => hj true ?_) (fun h => Ult.ite (fun h2 => hj _ ?_) (fun h2 => hj false ?_))
  · symm; apply decide_eq_true; omega
  · congr 1; apply propext; omega
  · symm; apply decide_eq_false; omega
end Go.Proofs.Ytbicngaanhmabaa.R02
/- Plain: the normal list by the document's way: each atom that none beats, the first of each, put where it stands. No program. -/
namespace Go.Proofs.Ytbicngaanhmabaa.AtM
open Go.Proofs.Ytbicngaanhmabaa.TrM
/-- b beats a, or is it. -/
def domB (b a : At) : Bool := rightA b && (wthB b.1 a.1 && decide (a.2 ≤ b.2))
abbrev g0 (al : List At) (i : Nat) : At := al.getD i (0, 0)
/-- What one other atom says. -/
def okB (al : List At) (i k : Nat) : Bool := decide (k = i) || (!domB (g0 al k) (g0 al i) || (decide (g0 al k = g0 al i) && decide (i < k)))
/-- All from j on let it stand. -/
def okFrom (al : List At) (i : Nat) (j : Nat) : Bool := (List.range' j (al.length - j)).all (okB al i)
def keepB (al : List At) (i : Nat) : Bool := rightA (g0 al i) && okFrom al i 0
theorem okFrom_step (al : List At) (i j : Nat) (hj : j < al.length) : okFrom al i j = (okB al i j && okFrom al i (j + 1)) := by
  unfold okFrom
  rw [show al.length - j = (al.length - (j + 1)) + 1 by omega, List.range'_succ, List.all_cons]
theorem okFrom_end (al : List At) (i j : Nat) (hj : ¬ j < al.length) : okFrom al i j = true := by
  unfold okFrom
  rw [show al.length - j = 0 by omega]; rfl
/-- Behind the atoms from i on. -/
def putFrom (al : List At) (i : Nat) (out : List At) : List At := (List.range' i (al.length - i)).foldl (fun o i => if keepB al i = true then insS (g0 al i) o else o) out
theorem putFrom_step (al : List At) (i : Nat) (out : List At) (hi : i < al.length) : putFrom al i out = putFrom al (i + 1) (if keepB al i = true then insS (g0 al i) out else out) := by
  unfold putFrom
  rw [show al.length - i = (al.length - (i + 1)) + 1 by omega, List.range'_succ, List.foldl_cons]
theorem putFrom_end (al : List At) (i : Nat) (out : List At) (hi : ¬ i < al.length) : putFrom al i out = out := by
  unfold putFrom
  rw [show al.length - i = 0 by omega]; rfl
theorem g0_mem {al : List At} {i : Nat} (hi : i < al.length) : g0 al i ∈ al := by
  unfold g0
  rw [List.getD_eq_getElem?_getD, List.getElem?_eq_getElem hi]
  exact List.getElem_mem hi
theorem mem_g0 {al : List At} {x : At} (h : x ∈ al) : ∃ i, i < al.length ∧ g0 al i = x := by
  obtain ⟨i, hi, e⟩ := List.mem_iff_getElem.1 h
  exact ⟨i, hi, by unfold g0; rw [List.getD_eq_getElem?_getD, List.getElem?_eq_getElem hi]; exact e⟩
theorem keep_iff (al : List At) (i : Nat) : keepB al i = true ↔ rightA (g0 al i) = true ∧ ∀ k, k < al.length → k ≠ i → rightA (g0 al k) = true → wthB (g0 al k).1 (g0 al i).1 = true → (g0 al i).2 ≤ (g0 al k).2 → g0 al k = g0 al i ∧ i < k := by
  unfold keepB okFrom
  rw [Bool.and_eq_true, List.all_eq_true]
  refine and_congr_right (fun hr => ?_)
  constructor
  · intro h k hk hne h1 h2 h3
    have := h k (List.mem_range'_1.2 (by omega))
    unfold okB domB at this
    rw [decide_eq_false hne, h1, h2, decide_eq_true h3] at this
    simpa using this
  · intro h k hk
    have hk2 := List.mem_range'_1.1 hk
    unfold okB domB
    by_cases hne : k = i
    · rw [decide_eq_true hne]; rfl
    · cases h1 : rightA (g0 al k) with
      | false => simp
      | true =>
        cases h2 : wthB (g0 al k).1 (g0 al i).1 with
        | false => simp
        | true =>
          by_cases h3 : (g0 al i).2 ≤ (g0 al k).2
          · obtain ⟨h4, h5⟩ := h k (by omega) hne h1 h2 h3
            rw [decide_eq_true h4, decide_eq_true h5]; simp
          · rw [decide_eq_false h3]; simp
/-- What has been put so far. -/
def KeptTo (al : List At) (n : Nat) (x : At) : Prop := ∃ i, i < n ∧ i < al.length ∧ keepB al i = true ∧ g0 al i = x
theorem kept_und {al : List At} {i : Nat} (hi : i < al.length) (hk : keepB al i = true) : Und (al.filter rightA) (g0 al i) := by
  obtain ⟨h1, h2⟩ := (keep_iff al i).1 hk
  refine ⟨List.mem_filter.2 ⟨g0_mem hi, h1⟩, fun x hx hw hv => ?_⟩
  obtain ⟨hx1, hx2⟩ := List.mem_filter.1 hx
  obtain ⟨k, hk1, rfl⟩ := mem_g0 hx1
  by_cases e : k = i
  · rw [e]
  · exact (h2 k hk1 e hx2 hw hv).1
theorem und_kept {al : List At} {x : At} (h : Und (al.filter rightA) x) : KeptTo al al.length x := by
  obtain ⟨h1, h2⟩ := h
  obtain ⟨h3, h4⟩ := List.mem_filter.1 h1
  -- the first place where it stands
  have : ∃ i, i < al.length ∧ g0 al i = x ∧ ∀ k, k < i → g0 al k ≠ x := by
    obtain ⟨i, hi, e⟩ := mem_g0 h3
    induction i using Nat.strongRecOn with
    | ind i ih =>
      by_cases hq : ∃ k, k < i ∧ g0 al k = x
      · obtain ⟨k, hk, ek⟩ := hq
        exact ih k hk (by omega) ek
      · exact ⟨i, hi, e, fun k hk ek => hq ⟨k, hk, ek⟩⟩
  obtain ⟨i, hi, rfl, hfirst⟩ := this
  refine ⟨i, hi, hi, (keep_iff al i).2 ⟨h4, fun k hk hne hr hw hv => ?_⟩, rfl⟩
  have e := h2 (g0 al k) (List.mem_filter.2 ⟨g0_mem hk, hr⟩) hw hv
  refine ⟨e, ?_⟩
  rcases Nat.lt_or_gt_of_ne hne with h | h
  · exact absurd e (hfirst k h)
  · exact h
theorem put_inv {al : List At} : ∀ (d i : Nat) (out : List At), i + d = al.length → RisesS out → (∀ x, x ∈ out ↔ KeptTo al i x) → RisesS (putFrom al i out) ∧ ∀ x, x ∈ putFrom al i out ↔ KeptTo al al.length x := by
  intro d
  induction d with
  | zero =>
    intro i out hi hr hm
    rw [putFrom_end al i out (by omega)]
    obtain rfl : i = al.length := by omega
    exact ⟨hr, hm⟩
  | succ d ih =>
    intro i out hi hr hm
    have hil : i < al.length := by omega
    rw [putFrom_step al i out hil]
    by_cases hk : keepB al i = true
    · rw [if_pos hk]
      have hu := kept_und hil hk
      refine ih (i + 1) _ (by omega) (insS_rises _ _ hr (fun y hy e => ?_)) (fun x => ?_)
      · -- no other one of that set
        obtain ⟨j, hj, hjl, hjk, rfl⟩ := (hm y).1 hy
        have huj := kept_und hjl hjk
        have h1 : (g0 al j) = g0 al i := by
          rcases Int.le_total (g0 al i).2 (g0 al j).2 with hle | hle
          · exact hu.2 _ huj.1 (by rw [e]; exact wth_refl _) hle
          · exact (huj.2 _ hu.1 (by rw [e]; exact wth_refl _) hle).symm
        have h2 := ((keep_iff al i).1 hk).2 j hjl (by omega) ((List.mem_filter.1 huj.1).2) (by rw [h1]; exact wth_refl _) (by rw [h1]; exact Int.le_refl _)
        omega
      · rw [insS_mem, hm]
        constructor
        · rintro (rfl | ⟨j, hj, h⟩)
          · exact ⟨i, by omega, hil, hk, rfl⟩
          · exact ⟨j, by omega, h⟩
        · rintro ⟨j, hj, h1, h2, h3⟩
          by_cases e : j = i
          · subst e; exact .inl h3.symm
          · exact .inr ⟨j, by omega, h1, h2, h3⟩
    · rw [if_neg hk]
      refine ih (i + 1) _ (by omega) hr (fun x => ?_)
      rw [hm]
      constructor
      · rintro ⟨j, hj, h⟩; exact ⟨j, by omega, h⟩
      · rintro ⟨j, hj, h1, h2, h3⟩
        by_cases e : j = i
        · subst e; exact absurd h2 hk
        · exact ⟨j, by omega, h1, h2, h3⟩
theorem put_norm (al : List At) (hu : ∀ x ∈ al, U64 x.1) : putFrom al 0 [] = normL al := by
  obtain ⟨h1, h2⟩ := put_inv (al := al) al.length 0 [] (by omega) List.Pairwise.nil (fun x => ⟨fun h => by simp at h, fun ⟨i, hi, _⟩ => by omega⟩)
  obtain ⟨n1, n2⟩ := norm_spec al hu
  refine risesS_ext h1 n1 (fun x => ?_)
  rw [h2, n2]
  constructor
  · rintro ⟨i, hi, hil, hk, rfl⟩; exact kept_und hil hk
  · exact und_kept
end Go.Proofs.Ytbicngaanhmabaa.AtM
/- The document's answers about atoms, and what the print tells of package atom: what they come to. -/
namespace Go.Proofs.Ytbicngaanhmabaa.R09
open Go.RowKit Go.Proofs.Ytbicngaanhmabaa.Ult Go.Proofs.Ytbicngaanhmabaa.AtM Go.Proofs.Ytbicngaanhmabaa.R02 Go.Proofs.Ytbicngaanhmabaa.PAll9
set_option linter.unusedVariables false
set_option linter.unusedSimpArgs false
abbrev SA := S26
def ofA (x : At) : SA := ⟨x.1, x.2⟩
def toA (x : SA) : At := (x.f0, x.f1)
theorem to_of (al : List At) : (al.map ofA).map toA = al := by
  rw [List.map_map]
  exact (List.map_congr_left (fun x _ => rfl)).trans (List.map_id al)
theorem of_to (l : List SA) : (l.map toA).map ofA = l := by
  rw [List.map_map]
  exact (List.map_congr_left (fun x _ => rfl)).trans (List.map_id l)
theorem rd_of (al : List At) (i : Nat) : rd_T26 (al.map ofA) (i : Int) = ofA (g0 al i) := by
  unfold rd_T26 g0
  rw [Int.toNat_natCast, List.getD_eq_getElem?_getD, List.getD_eq_getElem?_getD, List.getElem?_map]
  cases al[i]? with
  | none => rfl
  | some x => rfl
theorem right_f (x : At) : saleroomref09_Right.f x.1 x.2 = some (rightA x) := by
  unfold saleroomref09_Right.f rightA
  split
  · rename_i h; rw [decide_eq_false (by omega)]
  · split
    · congr 1; apply decide_eq_decide.2; omega
    · rw [decide_eq_false (by omega)]
theorem aright_f (x : At) : atom_Right.f x.1 x.2 = some (rightA x) := right_f x
/-! ### Value -/
theorem value_l0 (al : List At) (s : Int) (hs : U64 s) (hu : ∀ x ∈ al, U64 x.1) (hl : al.length ≤ 600000) : ∀ (d i : Nat) (out : Int), i + d = al.length → Ult (fun k => saleroomref09_Value.l0 k (al.map ofA) s out (i : Int)) ((withinL (al.drop i) s).foldl (fun m x => max m x.2) out) := by
  intro d
  induction d with
  | zero =>
    intro i out hi
    refine Ult.succ ?_
    simp only [saleroomref09_Value.l0, List.length_map]
    refine Ult.neg (by omega) (Ult.const ?_)
    rw [List.drop_of_length_le (by omega)]; rfl
  | succ d ih =>
    intro i out hi
    have hil : i < al.length := by omega
    refine Ult.succ ?_
    simp only [saleroomref09_Value.l0, List.length_map, rd_of]
    refine Ult.pos (by omega) (Ult.pos (by omega) (Ult.bind0 (right_f (g0 al i)) ?_))
    rw [show wrap64 ((i : Int) + 1) = ((i + 1 : Nat) : Int) by rw [w64 (by omega) (by omega)]; rfl]
    have hx : al[i] = g0 al i := by unfold g0; rw [List.getD_eq_getElem?_getD, List.getElem?_eq_getElem hil]; rfl
    have hd : withinL (al.drop i) s = if rightA (g0 al i) = true ∧ wthB (g0 al i).1 s = true then g0 al i :: withinL (al.drop (i + 1)) s else withinL (al.drop (i + 1)) s := by
      rw [List.drop_eq_getElem_cons hil, hx]
      unfold withinL
      rw [List.filter_cons]
      by_cases h1 : rightA (g0 al i) = true
      · rw [if_pos h1, List.filter_cons]
        by_cases h2 : wthB (g0 al i).1 s = true
        · rw [if_pos (show inA s (g0 al i) = true from h2), if_pos ⟨h1, h2⟩]
        · rw [if_neg (show ¬ inA s (g0 al i) = true from h2), if_neg (fun h => h2 h.2)]
      · rw [if_neg h1, if_neg (fun h => h1 h.1)]
    rw [hd]
    refine Ult.ite (fun h1 => Ult.bind (within_ev _ _ (hu _ (g0_mem hil)) hs) ?_) (fun h1 => ?_)
    · refine Ult.ite (fun h2 => ?_) (fun h2 => ?_)
      · rw [if_pos ⟨h1, h2⟩, List.foldl_cons]
        refine Ult.ite (fun h3 => ?_) (fun h3 => ?_)
        · have : max out (g0 al i).2 = (ofA (g0 al i)).f1 := by show max out _ = (g0 al i).2; have h3 : (g0 al i).2 > out := h3; omega
          rw [this]; exact ih (i + 1) _ (by omega)
        · have : max out (g0 al i).2 = out := by have h3 : ¬ (g0 al i).2 > out := h3; omega
          rw [this]; exact ih (i + 1) _ (by omega)
      · rw [if_neg (fun h => h2 h.2)]; exact ih (i + 1) _ (by omega)
    · rw [if_neg (fun h => h1 h.1)]; exact ih (i + 1) _ (by omega)
theorem value_ev (al : List At) (s : Int) (hs : U64 s) (hu : ∀ x ∈ al, U64 x.1) (hl : al.length ≤ 600000) : Ult (fun k => saleroomref09_Value.f k (al.map ofA) s) (valueL al s) :=
  value_l0 al s hs hu hl al.length 0 0 (by omega)
/-! ### Same, Equal -/
theorem ofA_inj {x y : At} : (x.1 = y.1 ∧ x.2 = y.2) ↔ x = y := by
  constructor
  · rintro ⟨h1, h2⟩; exact Prod.ext h1 h2
  · rintro rfl; exact ⟨rfl, rfl⟩
theorem same_l0 (a b : List At) (hl : a.length = b.length) (ha : a.length ≤ 600000) : ∀ (d i : Nat), i + d = a.length → Ult (fun k => saleroomref09_Same.l0 k (a.map ofA) (b.map ofA) (i : Int)) (decide (a.drop i = b.drop i)) := by
  intro d
  induction d with
  | zero =>
    intro i hi
    refine Ult.succ ?_
    simp only [saleroomref09_Same.l0, List.length_map]
    refine Ult.neg (by omega) (Ult.const ?_)
    rw [List.drop_of_length_le (by omega), List.drop_of_length_le (by omega)]; rfl
  | succ d ih =>
    intro i hi
    refine Ult.succ ?_
    simp only [saleroomref09_Same.l0, List.length_map, rd_of]
    have hil : i < a.length := by omega
    have hib : i < b.length := by omega
    refine Ult.pos (by omega) (Ult.pos (by omega) (Ult.pos (by omega) ?_))
    rw [show wrap64 ((i : Int) + 1) = ((i + 1 : Nat) : Int) by rw [w64 (by omega) (by omega)]; rfl]
    have hx : a[i] = g0 a i := by unfold g0; rw [List.getD_eq_getElem?_getD, List.getElem?_eq_getElem hil]; rfl
    have hy : b[i] = g0 b i := by unfold g0; rw [List.getD_eq_getElem?_getD, List.getElem?_eq_getElem hib]; rfl
    have hd : decide (a.drop i = b.drop i) = (decide (g0 a i = g0 b i) && decide (a.drop (i + 1) = b.drop (i + 1))) := by
      rw [List.drop_eq_getElem_cons hil, List.drop_eq_getElem_cons hib, hx, hy]
      simp
    rw [hd]
    refine Ult.ite (fun h => Ult.const ?_) (fun h => ?_)
    · rw [decide_eq_false (fun e => ?_)]
      · rfl
      · rw [e] at h; simp at h
    · have e : g0 a i = g0 b i := by
        apply ofA_inj.1
        simpa [ofA] using h
      rw [decide_eq_true e, Bool.true_and]
      exact ih (i + 1) (by omega)
theorem same_ev (a b : List At) (ha : a.length ≤ 600000) : Ult (fun k => saleroomref09_Same.f k (a.map ofA) (b.map ofA)) (decide (a = b)) := by
  unfold saleroomref09_Same.f
  rw [List.length_map, List.length_map]
  refine Ult.ite (fun h => same_l0 a b (by omega) ha a.length 0 (by omega)) (fun h => Ult.const ?_)
  rw [decide_eq_false (fun e => h (by rw [e]))]
/-! ### Normal -/
theorem normal_l2 (al out : List At) (i : Nat) (a : At) (ha : U64 a.1) (ho : ∀ x ∈ out, U64 x.1) (hol : out.length ≤ 600000) (r : List SA) (hi : i < 600000) : ∀ (d j : Nat) (acc : List At) (dn : Bool), j + d = out.length → acc.length ≤ 2 * j →
    Ult (fun k => saleroomref09_Normal.l0 k (al.map ofA) ((acc ++ (if dn = true then out.drop j else insS a (out.drop j))).map ofA) ((i + 1 : Nat) : Int)) r →
    Ult (fun k => saleroomref09_Normal.l2 k (al.map ofA) (out.map ofA) (i : Int) (acc.map ofA) dn (j : Int) a.1 a.2) r := by
  intro d
  induction d with
  | zero =>
    intro j acc dn hj hacc h
    refine Ult.succ ?_
    simp only [saleroomref09_Normal.l2, List.length_map]
    rw [List.drop_of_length_le (show out.length ≤ j by omega)] at h
    refine Ult.neg (by omega) ?_
    rw [show wrap64 ((i : Int) + 1) = ((i + 1 : Nat) : Int) by rw [w64 (by omega) (by omega)]; rfl]
    refine Ult.ite (fun hd => ?_) (fun hd => Ult.pos (by omega) ?_)
    · rw [if_pos hd, List.append_nil] at h; exact h
    · rw [if_neg hd] at h
      have : acc.map ofA ++ [⟨a.1, a.2⟩] = (acc ++ insS a []).map ofA := by rw [List.map_append]; rfl
      rw [this]; exact h
  | succ d ih =>
    intro j acc dn hj hacc h
    have hjl : j < out.length := by omega
    have hx : out[j] = g0 out j := by unfold g0; rw [List.getD_eq_getElem?_getD, List.getElem?_eq_getElem hjl]; rfl
    refine Ult.succ ?_
    simp only [saleroomref09_Normal.l2, List.length_map, rd_of]
    rw [List.drop_eq_getElem_cons hjl, hx] at h
    refine Ult.pos (by omega) ?_
    rw [show wrap64 ((j : Int) + 1) = ((j + 1 : Nat) : Int) by rw [w64 (by omega) (by omega)]; rfl]
    have e1 : acc.map ofA ++ [⟨(ofA (g0 out j)).f0, (ofA (g0 out j)).f1⟩] = (acc ++ [g0 out j]).map ofA := by rw [List.map_append]; rfl
    refine Ult.ite (fun hd => Ult.pos (by omega) (Ult.pos (by omega) ?_)) (fun hd => Ult.pos (by omega) (Ult.bind (cmp_ev _ _ ha (ho _ (g0_mem hjl))) ?_))
    · rw [e1]
      refine ih (j + 1) _ _ (by omega) (by simp; omega) ?_
      rw [if_pos hd] at h ⊢
      rw [List.append_assoc, List.singleton_append]; exact h
    · rw [if_neg hd] at h
      have hlt := cmp_lt a.1 (g0 out j).1
      refine Ult.ite (fun hc => Ult.pos (by omega) (Ult.bind0 rfl (Ult.pos (by simp; omega) ?_))) (fun hc => Ult.pos (by omega) ?_)
      · have e2 : acc.map ofA ++ [⟨a.1, a.2⟩] ++ [⟨(ofA (g0 out j)).f0, (ofA (g0 out j)).f1⟩] = (acc ++ [a] ++ [g0 out j]).map ofA := by rw [List.map_append, List.map_append]; rfl
        rw [e2]
        have hc2 : ltS a.1 (g0 out j).1 = true := by rw [← hlt]; exact decide_eq_true hc
        -- it has been put
        have h2 : Ult (fun k => saleroomref09_Normal.l0 k (al.map ofA) (((acc ++ [a] ++ [g0 out j]) ++ out.drop (j + 1)).map ofA) ((i + 1 : Nat) : Int)) r := by
          unfold insS at h
          rw [if_pos hc2] at h
          simpa using h
        exact ih (j + 1) _ true (by omega) (by simp; omega) h2
      · rw [e1]
        refine ih (j + 1) _ _ (by omega) (by simp; omega) ?_
        rw [if_neg hd]
        have hc2 : ¬ ltS a.1 (g0 out j).1 = true := by rw [← hlt]; exact fun h => hc (of_decide_eq_true h)
        unfold insS at h
        rw [if_neg hc2] at h
        rw [List.append_assoc, List.singleton_append]; exact h
/-- The inner rounds. -/
theorem normal_l1 (al out : List At) (hu : ∀ x ∈ al, U64 x.1) (i : Nat) (hi : i < al.length) (hal : al.length ≤ 600000) (r : List SA) :
    ∀ (d j : Nat) (kp : Bool), j + d = al.length →
    Ult (fun k => if (kp && okFrom al i j) = true then saleroomref09_Normal.l2 k (al.map ofA) (out.map ofA) (i : Int) [] false 0 (g0 al i).1 (g0 al i).2 else saleroomref09_Normal.l0 k (al.map ofA) (out.map ofA) ((i + 1 : Nat) : Int)) r →
    Ult (fun k => saleroomref09_Normal.l1 k (al.map ofA) (out.map ofA) (i : Int) kp (j : Int) (g0 al i).1 (g0 al i).2) r := by
  have fin : ∀ (j : Nat) (kp : Bool), Ult (fun k => if kp = true then saleroomref09_Normal.l2 k (al.map ofA) (out.map ofA) (i : Int) [] false 0 (g0 al i).1 (g0 al i).2 else saleroomref09_Normal.l0 k (al.map ofA) (out.map ofA) ((i + 1 : Nat) : Int)) r →
      Ult (fun k => saleroomref09_Normal.j2 k (al.map ofA) (out.map ofA) (i : Int) kp (j : Int) false (g0 al i).1 (g0 al i).2) r := by
    intro j kp h
    refine Ult.succ ?_
    simp only [saleroomref09_Normal.j2]
    rw [show wrap64 ((i : Int) + 1) = ((i + 1 : Nat) : Int) by rw [w64 (by omega) (by omega)]; rfl]
    exact Ult.neg (by simp) h
  intro d
  induction d with
  | zero =>
    intro j kp hj h
    rw [okFrom_end al i j (by omega), Bool.and_true] at h
    refine Ult.succ ?_
    simp only [saleroomref09_Normal.l1, List.length_map]
    exact Ult.neg (by omega) (fin j kp h)
  | succ d ih =>
    intro j kp hj h
    have hjl : j < al.length := by omega
    refine Ult.succ ?_
    simp only [saleroomref09_Normal.l1, List.length_map]
    refine Ult.pos (by omega) ?_
    cases kp with
    | false => exact fin j false (by simpa using h)
    | true =>
      refine Ult.succ ?_
      simp only [saleroomref09_Normal.j2, List.length_map, rd_of]
      rw [show wrap64 ((j : Int) + 1) = ((j + 1 : Nat) : Int) by rw [w64 (by omega) (by omega)]; rfl]
      refine Ult.pos trivial (Ult.pos (by omega) (Ult.pos (by omega) ?_))
      rw [Bool.true_and, okFrom_step al i j hjl] at h
      refine Ult.ite (fun e => ?_) (fun e => Ult.bind0 (right_f (g0 al j)) ?_)
      · have hk : okB al i j = true := by unfold okB; rw [decide_eq_true (show j = i by omega)]; rfl
        rw [hk, Bool.true_and] at h
        exact ih (j + 1) true (by omega) (by rw [Bool.true_and]; exact h)
      · have hne : decide (j = i) = false := decide_eq_false (by omega)
        refine Ult.ite (fun h1 => Ult.bind (within_ev _ _ (hu _ (g0_mem hjl)) (hu _ (g0_mem hi))) ?_) (fun h1 => ?_)
        · refine Ult.ite (fun h2 => ?_) (fun h2 => ?_)
          · refine Ult.ite (fun h3 => ?_) (fun h3 => ?_)
            · have h3 : (g0 al j).2 < (g0 al i).2 := h3
              have hk : okB al i j = true := by unfold okB domB; rw [h1, show decide ((g0 al i).2 ≤ (g0 al j).2) = false from decide_eq_false (by omega)]; simp
              rw [hk, Bool.true_and] at h
              exact ih (j + 1) true (by omega) (by rw [Bool.true_and]; exact h)
            · have h3 : ¬ (g0 al j).2 < (g0 al i).2 := h3
              have hk : okB al i j = (decide (g0 al j = g0 al i) && decide (i < j)) := by
                have h2 : wthB (g0 al j).1 (g0 al i).1 = true := h2
                unfold okB domB; rw [hne, h1, h2, show decide ((g0 al i).2 ≤ (g0 al j).2) = true from decide_eq_true (by omega)]; simp
              rw [hk] at h
              refine Ult.ite (fun h4 => Ult.ite (fun h5 => ?_) (fun h5 => ?_)) (fun h4 => ?_)
              · have e1 : g0 al j = g0 al i := ofA_inj.1 ⟨h4, h5⟩
                rw [decide_eq_true e1, Bool.true_and] at h
                rw [show decide ((j : Int) > (i : Int)) = decide (i < j) from decide_eq_decide.2 (by omega)]
                exact ih (j + 1) _ (by omega) h
              · rw [decide_eq_false (fun e => h5 (by rw [e]; rfl)), Bool.false_and] at h
                exact ih (j + 1) false (by omega) (by rw [Bool.false_and]; rw [Bool.false_and] at h; exact h)
              · rw [decide_eq_false (fun e => h4 (by rw [e]; rfl)), Bool.false_and] at h
                exact ih (j + 1) false (by omega) (by rw [Bool.false_and]; rw [Bool.false_and] at h; exact h)
          · have hk : okB al i j = true := by
              have h2 : wthB (g0 al j).1 (g0 al i).1 = false := Bool.eq_false_iff.2 h2
              unfold okB domB; rw [h2]; simp
            rw [hk, Bool.true_and] at h
            exact ih (j + 1) true (by omega) (by rw [Bool.true_and]; exact h)
        · have hk : okB al i j = true := by
            have h1 : rightA (g0 al j) = false := by simpa using h1
            unfold okB domB; rw [h1]; simp
          rw [hk, Bool.true_and] at h
          exact ih (j + 1) true (by omega) (by rw [Bool.true_and]; exact h)
theorem normal_l0 (al : List At) (hu : ∀ x ∈ al, U64 x.1) (hal : al.length ≤ 500000) : ∀ (d i : Nat) (out : List At), i + d = al.length → out.length ≤ i → (∀ x ∈ out, U64 x.1) →
    Ult (fun k => saleroomref09_Normal.l0 k (al.map ofA) (out.map ofA) (i : Int)) ((putFrom al i out).map ofA) := by
  intro d
  induction d with
  | zero =>
    intro i out hi ho hou
    refine Ult.succ ?_
    simp only [saleroomref09_Normal.l0, List.length_map]
    refine Ult.neg (by omega) (Ult.const ?_)
    rw [putFrom_end al i out (by omega)]
  | succ d ih =>
    intro i out hi ho hou
    have hil : i < al.length := by omega
    refine Ult.succ ?_
    simp only [saleroomref09_Normal.l0, List.length_map, rd_of]
    refine Ult.pos (by omega) (Ult.pos (by omega) (Ult.bind0 (right_f (g0 al i)) ?_))
    rw [putFrom_step al i out hil]
    refine normal_l1 al out hu i hil (by omega) _ al.length 0 _ (by omega) ?_
    refine Ult.ite (fun h => ?_) (fun h => ?_)
    · have hk : keepB al i = true := h
      rw [if_pos hk]
      have hx := hu _ (g0_mem hil)
      refine normal_l2 al out i (g0 al i) hx hou (by omega) _ (by omega) out.length 0 [] false (by omega) (by simp) ?_
      refine ih (i + 1) _ (by omega) ?_ ?_
      · rw [if_neg (by simp), List.drop_zero, List.nil_append, H.insS_len]; omega
      · intro x hxm
        rw [if_neg (by simp), List.drop_zero, List.nil_append] at hxm
        rcases (insS_mem _ _ _).1 hxm with rfl | hm
        · exact hx
        · exact hou x hm
    · have hk : ¬ keepB al i = true := h
      rw [if_neg hk]
      exact ih (i + 1) out (by omega) (by omega) hou
theorem normal_ev (al : List At) (hu : ∀ x ∈ al, U64 x.1) (hal : al.length ≤ 500000) : Ult (fun k => saleroomref09_Normal.f k (al.map ofA)) ((normL al).map ofA) := by
  have h := normal_l0 al hu hal al.length 0 [] (by omega) (Nat.le_refl _) (fun x hx => by simp at hx)
  rw [put_norm al hu] at h
  exact h
end Go.Proofs.Ytbicngaanhmabaa.R09
/- What the print tells of package atom: Equal, IsNormal, Check, the bounds. -/
namespace Go.Proofs.Ytbicngaanhmabaa.R09
open Go.RowKit Go.Proofs.Ytbicngaanhmabaa.Ult Go.Proofs.Ytbicngaanhmabaa.AtM Go.Proofs.Ytbicngaanhmabaa.R02 Go.Proofs.Ytbicngaanhmabaa.PAll9
set_option linter.unusedVariables false
set_option linter.unusedSimpArgs false
theorem map_to (al : List At) : ((al.map ofA).map fun x => (x.f0, x.f1)) = al := to_of al
theorem normal_f (al : List At) (hu : ∀ x ∈ al, U64 x.1) (hl : al.length ≤ 600000) : atom_Normal.f (al.map ofA) = some ((normL al).map ofA) := by
  unfold atom_Normal.f
  rw [map_to, if_pos ⟨(H.uB_iff al).2 hu, by rw [List.length_map]; exact hl⟩]
  rfl
theorem value_f (al : List At) (s : Int) (hs : U64 s) (hu : ∀ x ∈ al, U64 x.1) : atom_Value.f (al.map ofA) s = some (valueL al s) := by
  unfold atom_Value.f
  rw [map_to, if_pos ⟨(H.uB_iff al).2 hu, hs⟩]
theorem most_f (al : List At) (hu : ∀ x ∈ al, U64 x.1) : atom_Most.f (al.map ofA) = some (valueL al 18446744073709551615) := by
  unfold atom_Most.f
  rw [map_to, if_pos ((H.uB_iff al).2 hu)]
theorem union_f (al : List At) : atom_Union.f (al.map ofA) = some (H.uniL (al.filter rightA)) := by
  unfold atom_Union.f
  rw [map_to]
theorem eql_l0 (a b : List At) (hl : a.length = b.length) (ha : a.length ≤ 600000) : ∀ (d i : Nat), i + d = a.length → Ult (fun k => api_Atom.l0 k (a.map ofA) (b.map ofA) (a.length : Int) (i : Int)) (decide (a.drop i = b.drop i)) := by
  intro d
  induction d with
  | zero =>
    intro i hi
    refine Ult.succ ?_
    simp only [api_Atom.l0, List.length_map]
    refine Ult.neg (by omega) (Ult.const ?_)
    rw [List.drop_of_length_le (by omega), List.drop_of_length_le (by omega)]; rfl
  | succ d ih =>
    intro i hi
    refine Ult.succ ?_
    simp only [api_Atom.l0, List.length_map, rd_of]
    have hil : i < a.length := by omega
    have hib : i < b.length := by omega
    refine Ult.pos (by omega) (Ult.pos (by omega) (Ult.pos (by omega) (Ult.pos (by omega) ?_)))
    rw [show wrap64 ((i : Int) + 1) = ((i + 1 : Nat) : Int) by rw [w64 (by omega) (by omega)]; rfl]
    have hx : a[i] = g0 a i := by unfold g0; rw [List.getD_eq_getElem?_getD, List.getElem?_eq_getElem hil]; rfl
    have hy : b[i] = g0 b i := by unfold g0; rw [List.getD_eq_getElem?_getD, List.getElem?_eq_getElem hib]; rfl
    have hd : decide (a.drop i = b.drop i) = (decide (g0 a i = g0 b i) && decide (a.drop (i + 1) = b.drop (i + 1))) := by
      rw [List.drop_eq_getElem_cons hil, List.drop_eq_getElem_cons hib, hx, hy]
      simp
    rw [hd]
    refine Ult.ite (fun h => Ult.const ?_) (fun h => ?_)
    · rw [decide_eq_false (fun e => ?_)]
      · rfl
      · rw [e] at h; simp at h
    · have e : g0 a i = g0 b i := by
        apply ofA_inj.1
        simpa [ofA] using h
      rw [decide_eq_true e, Bool.true_and]
      exact ih (i + 1) (by omega)
theorem isNormal_ev (al : List At) (hu : ∀ x ∈ al, U64 x.1) (hl : al.length ≤ 600000) : Ult (fun k => atom_IsNormal.f k (al.map ofA)) (decide (normL al = al)) := by
  unfold atom_IsNormal.f
  refine Ult.bind0 (normal_f al hu hl) (Ult.bind (x := decide (normL al = al)) ?_ (Ult.const rfl))
  unfold api_Atom.f
  simp only [List.length_map]
  refine Ult.ite (fun h => eql_l0 (normL al) al (by omega) (Nat.le_trans (H.normL_len al) hl) (normL al).length 0 (by omega)) (fun h => Ult.const ?_)
  rw [decide_eq_false (fun e => h (by rw [e]))]
theorem within_f (x y : Int) (hx : U64 x) (hy : U64 y) : set_Within.f x y = some (wthB x y) := by
  unfold set_Within.f
  rw [H.andNot_wth hx hy]
theorem right1_f (v : Int) : saleroomref01_Right.f v = some (decide (0 ≤ v ∧ v ≤ 1099511627776)) := by
  unfold saleroomref01_Right.f
  split
  · congr 1; apply decide_eq_decide.2; omega
  · rw [decide_eq_false (by omega)]
/-- What is wrong with atoms. -/
def chkA (x : At) (s : Int) : Bool := wthB x.1 s && decide (0 ≤ x.2 ∧ x.2 ≤ 1099511627776)
def checkL (al : List At) (s : Int) : Int := if al.length > 64 then 3 else if al.all (fun x => chkA x s) = true then 0 else 1
theorem all_drop (al : List At) (s : Int) (i : Nat) (hi : i < al.length) : (al.drop i).all (fun x => chkA x s) = (chkA (g0 al i) s && (al.drop (i + 1)).all (fun x => chkA x s)) := by
  have hx : al[i] = g0 al i := by unfold g0; rw [List.getD_eq_getElem?_getD, List.getElem?_eq_getElem hi]; rfl
  rw [List.drop_eq_getElem_cons hi, hx, List.all_cons]
theorem acheck_l0 (al : List At) (s : Int) (hs : U64 s) (hu : ∀ x ∈ al, U64 x.1) (hl : al.length ≤ 600000) : ∀ (d i : Nat), i + d = al.length → Ult (fun k => atom_Check.l0 k s (al.map ofA) (al.length : Int) (i : Int)) (if (al.drop i).all (fun x => chkA x s) = true then 0 else 1) := by
  intro d
  induction d with
  | zero =>
    intro i hi
    refine Ult.succ ?_
    simp only [atom_Check.l0, List.length_map]
    refine Ult.neg (by omega) (Ult.const ?_)
    rw [List.drop_of_length_le (by omega)]; rfl
  | succ d ih =>
    intro i hi
    have hil : i < al.length := by omega
    refine Ult.succ ?_
    simp only [atom_Check.l0, List.length_map, rd_of]
    refine Ult.pos (by omega) (Ult.pos (by omega) (Ult.pos (by omega) (Ult.bind0 (within_f _ _ (hu _ (g0_mem hil)) hs) ?_)))
    rw [show wrap64 ((i : Int) + 1) = ((i + 1 : Nat) : Int) by rw [w64 (by omega) (by omega)]; rfl, all_drop al s i hil]
    have ho : (ofA (g0 al i)).f1 = (g0 al i).2 := rfl
    rw [ho]
    unfold chkA at *
    refine Ult.ite (fun h1 => Ult.ite (fun h2 => Ult.const ?_) (fun h2 => Ult.ite (fun h3 => Ult.const ?_) (fun h3 => ?_))) (fun h1 => Ult.const ?_)
    · rw [decide_eq_false (show ¬ (0 ≤ (g0 al i).2 ∧ (g0 al i).2 ≤ 1099511627776) by omega)]; simp
    · rw [decide_eq_false (show ¬ (0 ≤ (g0 al i).2 ∧ (g0 al i).2 ≤ 1099511627776) by omega)]; simp
    · rw [decide_eq_true (show 0 ≤ (g0 al i).2 ∧ (g0 al i).2 ≤ 1099511627776 by omega), show wthB (g0 al i).1 s = true from h1, Bool.true_and, Bool.true_and]
      exact ih (i + 1) (by omega)
    · rw [show wthB (g0 al i).1 s = false from Bool.eq_false_iff.2 h1]; simp
theorem acheck_ev (al : List At) (s : Int) (hs : U64 s) (hu : ∀ x ∈ al, U64 x.1) (hl : al.length ≤ 600000) : Ult (fun k => atom_Check.f k (al.map ofA) s) (checkL al s) := by
  unfold atom_Check.f checkL
  simp only [List.length_map]
  refine Ult.ite (fun h => Ult.const ?_) (fun h => ?_)
  · rw [if_pos (by omega)]
  · rw [if_neg (by omega)]; exact acheck_l0 al s hs hu hl al.length 0 (by omega)
theorem rcheck_l0 (al : List At) (s : Int) (hs : U64 s) (hu : ∀ x ∈ al, U64 x.1) (hl : al.length ≤ 600000) : ∀ (d i : Nat), i + d = al.length → Ult (fun k => saleroomref09_Check.l0 k (al.map ofA) s (i : Int)) (if (al.drop i).all (fun x => chkA x s) = true then 0 else 1) := by
  intro d
  induction d with
  | zero =>
    intro i hi
    refine Ult.succ ?_
    simp only [saleroomref09_Check.l0, List.length_map]
    refine Ult.neg (by omega) (Ult.const ?_)
    rw [List.drop_of_length_le (by omega)]; rfl
  | succ d ih =>
    intro i hi
    have hil : i < al.length := by omega
    refine Ult.succ ?_
    simp only [saleroomref09_Check.l0, List.length_map, rd_of]
    refine Ult.pos (by omega) (Ult.pos (by omega) (Ult.bind (within_ev _ _ (hu _ (g0_mem hil)) hs) ?_))
    rw [show wrap64 ((i : Int) + 1) = ((i + 1 : Nat) : Int) by rw [w64 (by omega) (by omega)]; rfl, all_drop al s i hil]
    have ho : (ofA (g0 al i)).f1 = (g0 al i).2 := rfl
    rw [ho]
    unfold chkA at *
    refine Ult.ite (fun h1 => Ult.bind0 (right1_f _) (Ult.ite (fun h2 => ?_) (fun h2 => Ult.const ?_))) (fun h1 => Ult.const ?_)
    · rw [h2, show wthB (g0 al i).1 s = true from h1, Bool.true_and, Bool.true_and]
      exact ih (i + 1) (by omega)
    · rw [Bool.eq_false_iff.2 h2]; simp
    · rw [show wthB (g0 al i).1 s = false from Bool.eq_false_iff.2 h1]; simp
theorem rcheck_ev (al : List At) (s : Int) (hs : U64 s) (hu : ∀ x ∈ al, U64 x.1) (hl : al.length ≤ 600000) : Ult (fun k => saleroomref09_Check.f k (al.map ofA) s) (checkL al s) := by
  unfold saleroomref09_Check.f checkL
  simp only [List.length_map]
  refine Ult.ite (fun h => Ult.const ?_) (fun h => ?_)
  · rw [if_pos (by omega)]
  · rw [if_neg (by omega)]; exact rcheck_l0 al s hs hu hl al.length 0 (by omega)
end Go.Proofs.Ytbicngaanhmabaa.R09
