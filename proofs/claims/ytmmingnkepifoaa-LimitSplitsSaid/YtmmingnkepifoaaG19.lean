/- Some texts of one seat in one file, in build order. -/
import Derived.Test.YtmmingnkepifoaaG15
import Derived.Test.YtmmingnkepifoaaG16
import Derived.Test.YtmmingnkepifoaaG17
import Derived.Test.YtmmingnkepifoaaG18
import Derived.Test.YtmmingnkepifoaaG1
import Derived.Test.YtmmingnkepifoaaG3
import Derived.Test.YtmmingnkepifoaaG11
import Derived.Laws.Bits64
-- PRINTED BY A CHANGED COPY OF THE PRINT (wip/tools/patch_print.py), over contracts by hand
namespace Go.Proofs.Ytmmingnkepifoaa.PSp22
open Go.RowKit Go.Proofs.YtmmingnkepifoaaW.PrintWords Go.Proofs.YtmmingnkepifoaaW.PrintLast Go.Proofs.YtmmingnkepifoaaW.PrintMore
attribute [local go_sem] max2_int min2_int max_two min_two max_three min_three max_four min_four   -- for this text's walks alone
set_option linter.unusedVariables false
set_option linter.unusedSimpArgs false

end Go.Proofs.Ytmmingnkepifoaa.PSp22
/- The document's answers about sets, as the print has them: what they come to. -/
namespace Go.Proofs.Ytmmingnkepifoaa.R02S
open Go.RowKit Go.Proofs.Ytmmingnkepifoaa.Ult Go.Proofs.Ytmmingnkepifoaa.AtM Go.Proofs.Ytmmingnkepifoaa.PSp22
set_option linter.unusedVariables false
set_option linter.unusedSimpArgs false
theorem w64 {n : Int} (h0 : -9223372036854775808 ≤ n) (h1 : n ≤ 9223372036854775807) : wrap64 n = n := by
  unfold wrap64; omega
theorem tdiv2 {x : Int} (h : U64 x) : IntKind.u64.wrap (Int.tdiv x 2) = x / 2 ∧ U64 (x / 2) := by
  unfold U64 at *
  rw [Int.tdiv_eq_ediv_of_nonneg h.1]
  refine ⟨?_, by omega⟩
  simp [IntKind.wrap, IntKind.bits, IntKind.signed]; omega
theorem has_l0 (n : Int) : ∀ (d : Nat) (x i : Int), U64 x → i + d = n → 0 ≤ i → n ≤ 64 → Ult (fun k => saleroomref02_Has.l0 k x n i) (x.toNat.testBit d) := by
  intro d
  induction d with
  | zero =>
    intro x i hx hi h0 hn
    refine Ult.succ ?_
    simp only [saleroomref02_Has.l0]
    refine Ult.neg (by omega) (Ult.const ?_)
    congr 1
    rw [Int.tmod_eq_emod_of_nonneg hx.1, Nat.testBit_zero]
    apply Bool.eq_iff_iff.2
    simp only [beq_iff_eq, decide_eq_true_iff]
    have := hx.1
    omega
  | succ d ih =>
    intro x i hx hi h0 hn
    refine Ult.succ ?_
    simp only [saleroomref02_Has.l0]
    refine Ult.pos (by omega) ?_
    obtain ⟨h1, h2⟩ := tdiv2 hx
    rw [h1, w64 (by omega) (by omega)]
    refine (ih (x / 2) (i + 1) h2 (by omega) (by omega) hn).eq ?_
    rw [Nat.testBit_succ, show x.toNat / 2 = (x / 2).toNat from by have := hx.1; omega]
theorem has_ev (x n : Int) (hx : U64 x) : Ult (fun k => saleroomref02_Has.f k x n) (decide (0 ≤ n ∧ n ≤ 63) && x.toNat.testBit n.toNat) := by
  unfold saleroomref02_Has.f
  refine Ult.ite (fun h => ?_) (fun h => ?_)
  · refine Ult.succ ?_
    simp only [saleroomref02_Has.j0, if_true]
    refine Ult.const ?_
    rw [decide_eq_false (by omega)]; rfl
  · refine Ult.succ ?_
    simp only [saleroomref02_Has.j0]
    refine Ult.ite (fun h2 => Ult.const ?_) (fun h2 => ?_)
    · have := of_decide_eq_true h2
      rw [decide_eq_false (by omega)]; rfl
    · have h3 : ¬ n > 63 := fun h3 => h2 (decide_eq_true h3)
      rw [decide_eq_true (show 0 ≤ n ∧ n ≤ 63 by omega), Bool.true_and]
      exact has_l0 n n.toNat x 0 hx (by omega) (Int.le_refl _) (by omega)
/-- Of an item. -/
theorem has_item (x : Int) (i : Nat) (hx : U64 x) (hi : i < 64) : Ult (fun k => saleroomref02_Has.f k x (i : Int)) (x.toNat.testBit i) :=
  (has_ev x i hx).eq (by rw [decide_eq_true (by omega), Bool.true_and, Int.toNat_natCast])
/-- From an item on. -/
theorem within_l0 (x y : Int) (hx : U64 x) (hy : U64 y) : ∀ (d i : Nat), i + d = 64 → (∀ j, j < i → x.toNat.testBit j = true → y.toNat.testBit j = true) → Ult (fun k => saleroomref02_Within.l0 k x y (i : Int)) (wthB x y) := by
  intro d
  induction d with
  | zero =>
    intro i hi hall
    refine Ult.succ ?_
    simp only [saleroomref02_Within.l0]
    refine Ult.neg (by omega) (Ult.const ?_)
    congr 1
    symm
    rw [wth_iff]
    intro j hj
    exact hall j (by have := testBit_big (nat_lt hx) hj; omega) hj
  | succ d ih =>
    intro i hi hall
    refine Ult.succ ?_
    simp only [saleroomref02_Within.l0]
    refine Ult.pos (by omega) ?_
    refine Ult.bind (has_item x i hx (by omega)) ?_
    rw [show wrap64 ((i : Int) + 1) = ((i + 1 : Nat) : Int) by rw [w64 (by omega) (by omega)]; rfl]
    refine Ult.ite (fun h => Ult.bind (has_item y i hy (by omega)) (Ult.ite (fun h2 => ih (i + 1) (by omega) (fun j hj hjx => ?_)) (fun h2 => Ult.const ?_))) (fun h => ih (i + 1) (by omega) (fun j hj hjx => ?_))
    · by_cases e : j = i
      · rw [e]; exact h2
      · exact hall j (by omega) hjx
    · congr 1
      symm
      cases hw : wthB x y with
      | false => rfl
      | true => exact absurd ((wth_iff x y).1 hw i h) h2
    · by_cases e : j = i
      · rw [e] at hjx; exact absurd hjx h
      · exact hall j (by omega) hjx
theorem within_ev (x y : Int) (hx : U64 x) (hy : U64 y) : Ult (fun k => saleroomref02_Within.f k x y) (wthB x y) :=
  within_l0 x y hx hy 64 0 rfl (fun j hj => by omega)
end Go.Proofs.Ytmmingnkepifoaa.R02S
/- LimitSplits: whatever the reserves and the set, the statement's function answers true. No condition. -/
namespace Go.Proofs.Ytmmingnkepifoaa.MLimitSplits
open Go.RowKit Go.Proofs.YtmmingnkepifoaaW.PrintWords Go.Proofs.YtmmingnkepifoaaW.PrintLast Go.Proofs.YtmmingnkepifoaaW.PrintMore Go.Proofs.Ytmmingnkepifoaa.H Go.Proofs.Ytmmingnkepifoaa.Ult Go.Proofs.Ytmmingnkepifoaa.LmM Go.Proofs.Ytmmingnkepifoaa.AtM Go.Proofs.Ytmmingnkepifoaa.R02S Go.Proofs.Ytmmingnkepifoaa.PSp22
set_option linter.unusedVariables false
set_option linter.unusedSimpArgs false
theorem opens : Opens Try.prog 22 (Kd.slice 2 (Kd.int .i64)) (fun l => ∀ x ∈ l, (Lit.int .i64 x).wf = true) := opens_slice 0 Try.underlying22 (by kernel_rfl) (opens_int Try.underlying2)
abbrev SA := S45
abbrev SV := S43
def spA (x : Int × Int) : SA := ⟨one22 x.1, x.2⟩
theorem pow_lt64 {n : Nat} (h : n ≤ 63) : 2 ^ n < 18446744073709551616 := by
  have : 2 ^ n ≤ 2 ^ 63 := Nat.pow_le_pow_right (by omega) h
  omega
theorem one_l0 (n : Nat) (hn : n ≤ 63) : ∀ (d i : Nat), i + d = n → Ult (fun k => saleroomref02_One.l0 k (n : Int) ((2 ^ i : Nat) : Int) (i : Int)) ((2 ^ n : Nat) : Int) := by
  intro d
  induction d with
  | zero =>
    intro i hi
    refine Ult.succ ?_
    simp only [saleroomref02_One.l0]
    refine Ult.neg (by omega) (Ult.const ?_)
    rw [show i = n by omega]
  | succ d ih =>
    intro i hi
    refine Ult.succ ?_
    simp only [saleroomref02_One.l0]
    refine Ult.pos (by omega) ?_
    have h1 := ih (i + 1) (by omega)
    have h2 := pow_lt64 (n := i + 1) (by omega)
    have e : IntKind.u64.wrap (((2 ^ i : Nat) : Int) * 2) = ((2 ^ (i + 1) : Nat) : Int) := by
      rw [Nat.pow_succ] at h2 ⊢
      generalize 2 ^ i = x at h2 ⊢
      simp [IntKind.wrap, IntKind.bits, IntKind.signed]; omega
    rw [e, show wrap64 ((i : Int) + 1) = ((i + 1 : Nat) : Int) by rw [w64 (by omega) (by omega)]; rfl]
    exact h1
theorem one_ev (i : Nat) (hi : i ≤ 63) : Ult (fun k => saleroomref02_One.f k (i : Int)) (one22 (i : Int)) := by
  unfold saleroomref02_One.f one22
  rw [Int.toNat_natCast]
  exact one_l0 i hi i 0 (by omega)
theorem rd_at {l : List Int} {i : Nat} (hi : i < l.length) : rd l (i : Int) = l[i] := by
  unfold rd; rw [Int.toNat_natCast, List.getD_eq_getElem?_getD, List.getElem?_eq_getElem hi]; rfl
theorem split_j1 (l : List Int) (out : List SA) (i : Nat) (ho : out = (resL l).map spA) : Ult (fun k => saleroomref22_Split.j1 k l out (i : Int) false) ((resL l).map spA) := by
  refine Ult.succ ?_
  simp only [saleroomref22_Split.j1]
  exact Ult.neg (by simp) (Ult.const (by rw [ho]))
theorem split_l0 (l : List Int) (hl : l.length ≤ 600000) : ∀ (d i : Nat) (out : List SA), i + d = l.length → i ≤ 64 → out = (resFrom 0 (l.take i)).map spA → Ult (fun k => saleroomref22_Split.l0 k l out (i : Int)) ((resL l).map spA) := by
  intro d
  induction d with
  | zero =>
    intro i out hi h64 ho
    refine Ult.succ ?_
    simp only [saleroomref22_Split.l0]
    refine Ult.neg (by omega) (split_j1 l out i ?_)
    unfold resL
    rw [ho, List.take_of_length_le (i := i) (by omega), List.take_of_length_le (i := 64) (by omega)]
  | succ d ih =>
    intro i out hi h64 ho
    have hil : i < l.length := by omega
    refine Ult.succ ?_
    simp only [saleroomref22_Split.l0]
    refine Ult.pos (by omega) ?_
    by_cases h : i = 64
    · rw [decide_eq_false (by omega)]
      refine split_j1 l out i ?_
      unfold resL
      rw [ho, h]
    · rw [decide_eq_true (by omega)]
      refine Ult.succ ?_
      simp only [saleroomref22_Split.j1, rd_at hil]
      have ht : l.take (i + 1) = l.take i ++ [l[i]] := by rw [List.take_add_one, List.getElem?_eq_getElem hil]; rfl
      have hs := resFrom_snoc l[i] (l.take i) 0
      rw [← ht, List.length_take, Nat.min_eq_left (by omega), Nat.zero_add] at hs
      have hlen : out.length ≤ 64 := by
        rw [ho, List.length_map]
        have h1 := resFrom_len (l.take i) 0
        have h2 := List.length_take_le i l
        omega
      generalize l[i] = n at hs ht
      rw [show wrap64 ((i : Int) + 1) = ((i + 1 : Nat) : Int) by rw [w64 (by omega) (by omega)]; rfl]
      have h1 := fun out ho => ih (i + 1) out (by omega) (by omega) ho
      refine Ult.pos (by simp) (Ult.pos (by omega) (Ult.pos (by omega) (Ult.ite (fun hn => Ult.ite (fun hn2 => ?_) (fun hn2 => ?_)) (fun hn => ?_))))
      · have hb : resB n = true := decide_eq_true ⟨hn, hn2⟩
        rw [if_pos hb] at hs
        refine Ult.bind (one_ev i (by omega)) (Ult.pos (by omega) (h1 _ ?_))
        rw [hs, List.map_append, ← ho]; rfl
      · have hb : resB n = false := decide_eq_false (by omega)
        rw [hb] at hs
        exact h1 _ (by rw [hs, ho]; simp)
      · have hb : resB n = false := decide_eq_false (by omega)
        rw [hb] at hs
        exact h1 _ (by rw [hs, ho]; simp)
theorem split_ev (l : List Int) (hl : l.length ≤ 600000) : Ult (fun k => saleroomref22_Split.f k l) ((resL l).map spA) :=
  split_l0 l hl l.length 0 [] (by omega) (by omega) rfl
theorem one_within {i s : Int} (hi : 0 ≤ i ∧ i ≤ 63) : wthB (one22 i) s = hasS s i := by
  apply Bool.eq_iff_iff.2
  rw [wth_iff]
  unfold one22 hasS
  rw [Int.toNat_natCast]
  constructor
  · intro h; exact h i.toNat (by rw [Nat.testBit_two_pow]; simp)
  · intro h j hj
    rw [Nat.testBit_two_pow] at hj
    rw [← of_decide_eq_true hj]; exact h
theorem rdA_at {xs : List (Int × Int)} {i : Nat} (hi : i < xs.length) : rd_T45 (xs.map spA) (i : Int) = spA xs[i] := by
  unfold rd_T45
  rw [Int.toNat_natCast, List.getD_eq_getElem?_getD, List.getElem?_map, List.getElem?_eq_getElem hi]; rfl
theorem keptS_le (s : Int) (xs : List (Int × Int)) (hx : ∀ x ∈ xs, 0 ≤ x.2 ∧ x.2 ≤ 1099511627776) (hl : xs.length ≤ 64) : 0 ≤ keptS s xs ∧ keptS s xs ≤ 70368744177664 := by
  obtain ⟨h1, h2⟩ := kept_bound s xs 0 hx
  unfold keptS
  omega
theorem kept_l0 (s : Int) (hs : U64 s) (xs : List (Int × Int)) (hx : ∀ x ∈ xs, (0 ≤ x.1 ∧ x.1 ≤ 63) ∧ 0 ≤ x.2 ∧ x.2 ≤ 1099511627776) (hl : xs.length ≤ 64) : ∀ (d i : Nat), i + d = xs.length → Ult (fun k => saleroomref22_Kept.l0 k s (xs.map spA) (keptS s (xs.take i)) (i : Int)) (keptS s xs) := by
  intro d
  induction d with
  | zero =>
    intro i hi
    refine Ult.succ ?_
    simp only [saleroomref22_Kept.l0]
    refine Ult.neg (by rw [List.length_map]; omega) (Ult.const ?_)
    rw [List.take_of_length_le (by omega)]
  | succ d ih =>
    intro i hi
    have hil : i < xs.length := by omega
    refine Ult.succ ?_
    simp only [saleroomref22_Kept.l0, rdA_at hil]
    refine Ult.pos (by rw [List.length_map]; omega) (Ult.pos (by omega) ?_)
    have hm := hx xs[i] (List.getElem_mem hil)
    have ht : xs.take (i + 1) = xs.take i ++ [xs[i]] := by rw [List.take_add_one, List.getElem?_eq_getElem hil]; rfl
    have h1 := ih (i + 1) (by omega)
    rw [ht, keptS_snoc] at h1
    have hle := keptS_le s (xs.take i) (fun x h => (hx x (List.mem_of_mem_take h)).2) (by have := List.length_take_le i xs; omega)
    generalize xs[i] = x at hm h1 ht
    generalize keptS s (xs.take i) = m at h1 hle
    obtain ⟨a, v⟩ := x
    rw [show wrap64 ((i : Int) + 1) = ((i + 1 : Nat) : Int) by rw [w64 (by omega) (by omega)]; rfl]
    refine Ult.bind (within_ev (one22 a) s (one22_lt hm.1).1 hs) ?_
    rw [one_within hm.1]
    unfold keep1 at h1
    refine Ult.ite (fun h => ?_) (fun h => ?_)
    · rw [if_pos h] at h1
      show Ult (fun k => saleroomref22_Kept.l0 k s (xs.map spA) (wrap64 (m + v)) _) _
      rw [w64 (n := m + v) (by have := hm.2; simp only at this; omega) (by have := hm.2; simp only at this; omega)]
      exact h1
    · rw [if_neg h] at h1
      exact h1
theorem res_mem {l : List Int} : ∀ x ∈ resL l, (0 ≤ x.1 ∧ x.1 ≤ 63) ∧ 0 ≤ x.2 ∧ x.2 ≤ 1099511627776 := fun x hx => by
  have := resL_mem hx; omega
theorem kept_ev (l : List Int) (s : Int) (hs : U64 s) (hl : l.length ≤ 600000) : Ult (fun k => saleroomref22_Kept.f k l s) (keptL l s) := by
  unfold saleroomref22_Kept.f
  exact Ult.bind (split_ev l hl) (kept_l0 s hs (resL l) res_mem (resL_len l) (resL l).length 0 (by omega))
/-! ### The complement -/
theorem xor_max {s : Int} (hs : U64 s) : bits .xor .u64 IntKind.u64.max s = ((18446744073709551615 ^^^ s.toNat : Nat) : Int) := by
  have h := bits_xor_u64_nat 18446744073709551615 s.toNat (by omega) (by have := hs.2; have := hs.1; omega)
  rw [Int.toNat_of_nonneg hs.1] at h
  exact h
theorem max_bit (i : Nat) : Nat.testBit 18446744073709551615 i = decide (i < 64) := by
  have := Nat.testBit_two_pow_sub_one 64 i
  exact this
theorem xor_u64 {s : Int} (hs : U64 s) : U64 ((18446744073709551615 ^^^ s.toNat : Nat) : Int) := by
  have : 18446744073709551615 ^^^ s.toNat < 2 ^ 64 := Nat.xor_lt_two_pow (by omega) (by have := hs.2; have := hs.1; omega)
  unfold U64; omega
theorem kept_sum {s t m : Int} : ∀ (xs : List (Int × Int)) (a b : Int), (∀ x ∈ xs, hasS m x.1 = true ∧ hasS t x.1 = !hasS s x.1) → xs.foldl (keep1 s) a + xs.foldl (keep1 t) b = xs.foldl (keep1 m) (a + b) := by
  intro xs
  induction xs with
  | nil => intro a b _; rfl
  | cons x xs ih =>
    intro a b h
    obtain ⟨h1, h2⟩ := h x (by simp)
    have h3 := ih (keep1 s a x) (keep1 t b x) (fun y hy => h y (List.mem_cons_of_mem _ hy))
    rw [List.foldl_cons, List.foldl_cons, List.foldl_cons, h3]
    congr 1
    unfold keep1
    rw [h1, h2, if_pos rfl]
    cases hasS s x.1
    · rw [if_neg (by simp), if_pos (by rfl)]; omega
    · rw [if_pos rfl, if_neg (by simp)]; omega
theorem kept_all (l : List Int) {s : Int} (hs : U64 s) : keptL l s + keptL l ((18446744073709551615 ^^^ s.toNat : Nat) : Int) = keptL l 18446744073709551615 := by
  unfold keptL keptS
  refine kept_sum (resL l) 0 0 (fun x hx => ?_)
  have hi := (res_mem x hx).1
  have h64 : x.1.toNat < 64 := by omega
  unfold hasS
  rw [Int.toNat_natCast, Nat.testBit_xor, show (18446744073709551615 : Int).toNat = 18446744073709551615 from rfl, max_bit, decide_eq_true h64]
  exact ⟨rfl, by simp⟩
/-! ### The law -/
def vsL (l : List Int) : List SV := (splitL l).map fun ys => (⟨ys.map fun y => (⟨y.1, y.2⟩ : SA)⟩ : SV)
theorem vs_len (l : List Int) : (vsL l).length = (resL l).length := by unfold vsL splitL; simp
theorem rdV_at {l : List Int} {i : Nat} (hi : i < (resL l).length) : (rd_T43 (vsL l) (i : Int)).f0 = [spA (resL l)[i]] := by
  unfold rd_T43 vsL splitL
  rw [Int.toNat_natCast, List.getD_eq_getElem?_getD, List.getElem?_map, List.getElem?_map, List.getElem?_eq_getElem hi]; rfl
theorem at_one (a : SA) : xor_Val_At.f [a] 0 = some (a.f0, a.f1, true) := rfl
theorem len_one (a : SA) : xor_Val_Len.f [a] = some 1 := rfl
theorem lkept {l : List Int} {s : Int} (hs : U64 s) : limit_Kept.f l s = some (keptL l s) := by
  unfold limit_Kept.f
  rw [if_pos (by have := hs.1; have := hs.2; omega)]
theorem law_l0 (l : List Int) (s : Int) (hs : U64 s) (hl : l.length ≤ 600000) : ∀ (d i : Nat), i + d = (resL l).length → Ult (fun k => saleroomlaw22_LimitSplits.l0 k l s (keptL l 18446744073709551615) ((resL l).map spA) (vsL l) ((vsL l).length : Int) (i : Int)) true := by
  have h64 := resL_len l
  intro d
  induction d with
  | zero =>
    intro i hi
    refine Ult.succ ?_
    simp only [saleroomlaw22_LimitSplits.l0]
    refine Ult.neg (by rw [vs_len]; omega) ?_
    refine Ult.bind (kept_ev l _ (by unfold U64; omega) hl) (Ult.pos rfl ?_)
    refine Ult.bind0 (lkept hs) (Ult.bind (kept_ev l s hs hl) (Ult.pos rfl (Ult.bind0 (lkept hs) ?_)))
    rw [xor_max hs]
    refine Ult.bind0 (lkept (xor_u64 hs)) (Ult.const ?_)
    have hx2 : ∀ x ∈ resL l, 0 ≤ x.2 ∧ x.2 ≤ 1099511627776 := fun x hx => (res_mem x hx).2
    have h1 := keptS_le s (resL l) hx2 h64
    have h2 := keptS_le ((18446744073709551615 ^^^ s.toNat : Nat) : Int) (resL l) hx2 h64
    have h3 := kept_all l hs
    unfold keptL at h3 ⊢
    rw [w64 (by omega) (by omega), h3]
    simp
  | succ d ih =>
    intro i hi
    have hil : i < (resL l).length := by omega
    have h1 := ih (i + 1) (by omega)
    refine Ult.succ ?_
    simp only [saleroomlaw22_LimitSplits.l0, rdV_at hil, rdA_at hil]
    refine Ult.pos (by rw [vs_len]; omega) (Ult.pos (by omega) (Ult.pos (by rw [vs_len]; omega) ?_))
    refine Ult.bind0 (at_one _) (Ult.pos rfl (Ult.bind0 (len_one _) (Ult.pos rfl (Ult.pos (by rw [List.length_map]; omega) ?_))))
    rw [show wrap64 ((i : Int) + 1) = ((i + 1 : Nat) : Int) by rw [w64 (by omega) (by omega)]; rfl]
    exact Ult.neg (by simp) h1
theorem pure (l : List Int) (s : Int) (hs : U64 s) : ∃ k, saleroomlaw22_LimitSplits.f k l s = some true := by
  refine Ult.get ?_
  unfold saleroomlaw22_LimitSplits.f
  refine Ult.bind0 rfl (Ult.pos rfl (Ult.ite (fun h => .pure _) (fun h => ?_)))
  refine Ult.bind0 (show limit_Split.f l = some (vsL l, keptL l 18446744073709551615) from rfl) (Ult.bind (split_ev l (by omega)) ?_)
  refine Ult.pos (by rw [List.length_map]; simp only; rw [vs_len]) ?_
  exact law_l0 l s hs (by omega) (resL l).length 0 (by omega)
theorem main (A : Option Addr) (c : Nat) (l : List Int) (hc : l.length ≤ c) {W0 : World} (m : Kd.C (Kd.int .i64) W0 A l.length l) (g : ∀ x ∈ l, (Lit.int .i64 x).wf = true)
    (s : Int) (ws : (Lit.int .u64 s).wf = true) (W : World) (hW : W0 = W := by rfl) :
    Calls Try.prog 5 #[.slice A l.length c, .int .u64 s] W fun e W' => e = .returned (.bool true) ∧ Below W.heap.size W W' := by
  subst hW
  have hs : U64 s := by
    have := ws
    simp [Lit.wf, IntKind.min, IntKind.max, IntKind.signed, IntKind.bits] at this
    unfold U64; omega
  obtain ⟨k, hk⟩ := pure l s hs
  exact saleroomlaw22_LimitSplits.calls k A c l s true W0 m hc hk
end Go.Proofs.Ytmmingnkepifoaa.MLimitSplits
