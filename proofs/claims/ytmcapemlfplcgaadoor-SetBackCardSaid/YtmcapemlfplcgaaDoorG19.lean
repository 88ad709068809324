/- Some texts of one seat in one file, in build order. -/
import Derived.Test.YtmcapemlfplcgaaDoorG18
import Derived.Test.YtmcapemlfplcgaaDoorG17
import Derived.Test.YtmcapemlfplcgaaDoorG1
import Derived.Test.YtmcapemlfplcgaaDoorRows
import Derived.Test.YtmcapemlfplcgaaDoorG7
import Derived.ProofKit
import Derived.LaidMore
import Derived.OpenShut
import Derived.Stop.Joined
/- Folder 02, plain: the document's subsets. -/
namespace Go.Proofs.YtmcapemlfplcgaaDoor.R02
open Go.RowKit Go.Proofs.YtmcapemlfplcgaaDoor.Ult Go.Proofs.YtmcapemlfplcgaaDoor.AtM Go.Proofs.YtmcapemlfplcgaaDoor.H Go.Proofs.YtmcapemlfplcgaaDoor.PAll2 Go.Proofs.YtmcapemlfplcgaaDoorW.PrintWords Go.Proofs.YtmcapemlfplcgaaDoorW.PrintLast Go.Proofs.YtmcapemlfplcgaaDoorW.PrintMore
set_option linter.unusedVariables false
set_option linter.unusedSimpArgs false
set_option maxRecDepth 100000
def zs (l : List Nat) : List Int := l.map fun (n : Nat) => (n : Int)
theorem zs_len (l : List Nat) : (zs l).length = l.length := List.length_map _
theorem zs_rd {l : List Nat} {i : Nat} (h : i < l.length) : rd (zs l) (i : Int) = (l[i] : Int) := by
  unfold rd zs
  simp [List.getD_eq_getElem?_getD, List.getElem?_eq_getElem h]
theorem zs_append (l m : List Nat) : zs l ++ zs m = zs (l ++ m) := by unfold zs; simp
def bitsN (s : Nat) : List Nat := (List.range 64).filter fun i => s.testBit i
theorem listS_bits (s : Int) : listS s = zs (bitsN s.toNat) := rfl
theorem filt1 (p : Nat → Bool) (a : Nat) : [a].filter p = if p a = true then [a] else [] := by
  cases h : p a <;> simp [h]
/-- The subsets, item for item. -/
def subF (acc : List Nat) (items : List Nat) : List Nat := items.foldl (fun acc i => acc ++ acc.map (· + 2 ^ i)) acc
theorem subR_fold (s : Nat) : ∀ w, subR w s = subF [0] ((List.range w).filter fun i => s.testBit i) := by
  intro w
  induction w with
  | zero => rfl
  | succ w ih =>
    rw [List.range_succ, List.filter_append, filt1, subR, ih]
    unfold subF
    rw [List.foldl_append]
    by_cases h : s.testBit w = true
    · rw [if_pos h, if_pos h]; rfl
    · rw [if_neg h, if_neg h]; rfl
theorem subR_lt (s : Nat) : ∀ w, ∀ e ∈ subR w s, e < 2 ^ w := by
  intro w
  induction w with
  | zero => intro e he; rw [List.mem_singleton.1 he]; decide
  | succ w ih =>
    intro e he
    have hp : 2 ^ (w + 1) = 2 ^ w + 2 ^ w := by rw [Nat.pow_succ]; omega
    rw [subR] at he
    split at he
    · rcases List.mem_append.1 he with h | h
      · have := ih e h; omega
      · obtain ⟨y, hy, rfl⟩ := List.mem_map.1 h
        have := ih y hy; omega
    · have := ih e he; omega
theorem subR_len (s : Nat) : ∀ w, (subR w s).length = 2 ^ ((List.range w).filter fun i => s.testBit i).length := by
  intro w
  induction w with
  | zero => rfl
  | succ w ih =>
    rw [List.range_succ, List.filter_append, filt1, subR]
    by_cases h : s.testBit w = true
    · rw [if_pos h, if_pos h, List.length_append, List.length_map, ih, List.length_append, List.length_singleton, Nat.pow_succ]; omega
    · rw [if_neg h, if_neg h, ih]; simp
theorem bits_len (s : Int) : (bitsN s.toNat).length = pcS s := by
  rw [← zs_len, ← listS_bits, listS_len]
theorem subsS_len (s : Int) : (subsS s).length = 2 ^ pcS s := by
  unfold subsS
  rw [List.length_map, subR_len, ← bits_len]; rfl
theorem subsS_u {s : Int} : ∀ x ∈ subsS s, U64 x := by
  intro x hx
  obtain ⟨n, hn, rfl⟩ := List.mem_map.1 hx
  have := subR_lt _ _ n hn
  have h64 : (2 : Nat) ^ 64 = 18446744073709551616 := by decide
  unfold U64; omega
/-- One item's round. -/
theorem subs_l1 (items : List Nat) (idx i : Nat) (acc : List Nat) (R : List Int) (hi : items[idx]? = some i) (hi6 : i < 64) (hb : ∀ e ∈ acc, e < 2 ^ i) (hl : acc.length ≤ 100000) (hx : idx ≤ 100)
    (hn : Ult (fun k => saleroomref02_Subsets.l0 k (zs (acc ++ acc.map (· + 2 ^ i))) (zs items) ((idx + 1 : Nat) : Int)) R) :
    ∀ (d j : Nat), j + d = acc.length → Ult (fun k => saleroomref02_Subsets.l1 k (zs (acc ++ (acc.take j).map (· + 2 ^ i))) (zs items) (idx : Int) (acc.length : Int) (j : Int)) R := by
  have hxl : idx < items.length := by
    rcases Nat.lt_or_ge idx items.length with h | h
    · exact h
    · rw [List.getElem?_eq_none h] at hi; cases hi
  have hrd : rd (zs items) (idx : Int) = (i : Int) := by
    rw [zs_rd hxl]
    rw [List.getElem?_eq_getElem hxl] at hi
    injection hi with hi; rw [hi]
  intro d
  induction d with
  | zero =>
    intro j hj
    refine Ult.succ ?_
    simp only [saleroomref02_Subsets.l1]
    refine Ult.neg (by omega) ?_
    rw [List.take_of_length_le (by omega), show wrap64 ((idx : Int) + 1) = ((idx + 1 : Nat) : Int) by rw [w64 (by omega) (by omega)]; rfl]
    exact hn
  | succ d ih =>
    intro j hj
    have hjl : j < acc.length := by omega
    have hle : (acc ++ (acc.take j).map (· + 2 ^ i)).length = acc.length + j := by simp; omega
    refine Ult.succ ?_
    simp only [saleroomref02_Subsets.l1]
    refine Ult.pos (by omega) (Ult.pos (by omega) (Ult.pos (by rw [zs_len, hle]; omega) (Ult.pos (by omega) (Ult.pos (by rw [zs_len]; omega) ?_))))
    rw [hrd]
    refine Ult.bind (one_ev i (by omega)) ?_
    refine Ult.pos (by rw [zs_len, hle]; omega) ?_
    rw [show wrap64 ((j : Int) + 1) = ((j + 1 : Nat) : Int) by rw [w64 (by omega) (by omega)]; rfl]
    have hr2 : rd (zs (acc ++ (acc.take j).map (· + 2 ^ i))) (j : Int) = (acc[j] : Int) := by
      rw [zs_rd (by rw [hle]; omega), List.getElem_append_left hjl]
    rw [hr2]
    have hel := hb acc[j] (List.getElem_mem hjl)
    have hp := pow63 (i := i) (by omega)
    have ew : IntKind.u64.wrap ((acc[j] : Int) + oneN i) = ((acc[j] + 2 ^ i : Nat) : Int) := by
      unfold oneN
      rw [IntKind.wrap_u64]
      generalize 2 ^ i = p at hp hel ⊢
      omega
    rw [ew]
    have e3 : zs (acc ++ (acc.take j).map (· + 2 ^ i)) ++ [((acc[j] + 2 ^ i : Nat) : Int)] = zs (acc ++ (acc.take (j + 1)).map (· + 2 ^ i)) := by
      rw [show [((acc[j] + 2 ^ i : Nat) : Int)] = zs [acc[j] + 2 ^ i] from rfl, zs_append, List.take_succ_eq_append_getElem hjl, List.map_append, List.append_assoc]
      rfl
    rw [e3]
    exact ih (j + 1) (by omega)
theorem subs_l0 (items : List Nat) (hlen : items.length ≤ 64) (h6 : ∀ i ∈ items, i < 64) (hs : items.Pairwise (· < ·)) : ∀ (d idx : Nat) (acc : List Nat), idx + d = items.length → acc.length * 2 ^ d ≤ 1024 → (∀ e ∈ acc, ∀ i ∈ items.drop idx, e < 2 ^ i) →
    Ult (fun k => saleroomref02_Subsets.l0 k (zs acc) (zs items) (idx : Int)) (zs (subF acc (items.drop idx))) := by
  intro d
  induction d with
  | zero =>
    intro idx acc hi hl hb
    refine Ult.succ ?_
    simp only [saleroomref02_Subsets.l0]
    refine Ult.neg (by rw [zs_len]; omega) (Ult.const ?_)
    rw [List.drop_of_length_le (by omega)]; rfl
  | succ d ih =>
    intro idx acc hi hl hb
    have hil : idx < items.length := by omega
    refine Ult.succ ?_
    simp only [saleroomref02_Subsets.l0]
    refine Ult.pos (by rw [zs_len]; omega) ?_
    have hd : items.drop idx = items[idx] :: items.drop (idx + 1) := List.drop_eq_getElem_cons hil
    have hmem : items[idx] ∈ items := List.getElem_mem hil
    have hp1 : 1 ≤ 2 ^ d := Nat.pow_pos (by decide)
    rw [Nat.pow_succ] at hl
    have hal : acc.length ≤ 1024 := by
      have : acc.length * 1 ≤ acc.length * (2 ^ d * 2) := Nat.mul_le_mul_left _ (by omega)
      omega
    have hbi : ∀ e ∈ acc, e < 2 ^ items[idx] := fun e he => hb e he _ (by rw [hd]; exact List.mem_cons_self)
    have h1 := subs_l1 items idx items[idx] acc (zs (subF acc (items.drop idx))) (List.getElem?_eq_getElem hil) (h6 _ hmem) hbi (by omega) (by omega) (by
      have h2 := ih (idx + 1) (acc ++ acc.map (· + 2 ^ items[idx])) (by omega) (by
        rw [List.length_append, List.length_map]
        have : (acc.length + acc.length) * 2 ^ d = acc.length * (2 ^ d * 2) := by rw [← Nat.two_mul, Nat.mul_comm 2, Nat.mul_assoc, Nat.mul_comm 2]
        omega) (by
        intro e he i him
        have hlt : items[idx] < i := by
          have hs2 := hs.sublist (List.drop_sublist idx items)
          rw [hd] at hs2
          exact (List.pairwise_cons.1 hs2).1 i him
        have hpw : 2 ^ (items[idx] + 1) ≤ 2 ^ i := Nat.pow_le_pow_right (by decide) hlt
        rw [Nat.pow_succ] at hpw
        rcases List.mem_append.1 he with h | h
        · have := hbi e h; omega
        · obtain ⟨y, hy, rfl⟩ := List.mem_map.1 h
          have := hbi y hy
          show y + 2 ^ items[idx] < 2 ^ i
          omega)
      have e4 : subF acc (items.drop idx) = subF (acc ++ acc.map (· + 2 ^ items[idx])) (items.drop (idx + 1)) := by rw [hd]; rfl
      rw [e4]
      exact h2) acc.length 0 (by omega)
    simp only [List.take_zero, List.map_nil, List.append_nil] at h1
    have e5 : ((zs acc).length : Int) = (acc.length : Int) := by rw [zs_len]
    rw [e5]
    exact h1
theorem bits_sorted (s : Nat) : (bitsN s).Pairwise (· < ·) := List.pairwise_lt_range.filter _
theorem subsets_ev (s : Int) (hs : U64 s) (hc : pcS s ≤ 10) : Ult (fun k => saleroomref02_Subsets.f k s) (subsS s) := by
  unfold saleroomref02_Subsets.f
  refine Ult.bind (list_ev s hs) ?_
  have hbl := bits_len s
  have h := subs_l0 (bitsN s.toNat) (by omega) (fun i hi => List.mem_range.1 (List.mem_filter.1 hi).1) (bits_sorted _) (bitsN s.toNat).length 0 [0] (by omega) (by
    rw [hbl]
    have : 2 ^ pcS s ≤ 2 ^ 10 := Nat.pow_le_pow_right (by decide) hc
    simp; omega) (by
    intro e he i _
    rw [List.mem_singleton.1 he]
    exact Nat.pow_pos (by decide))
  rw [List.drop_zero] at h
  have e : zs (subF [0] (bitsN s.toNat)) = subsS s := by
    unfold subsS zs
    rw [subR_fold]; rfl
  rw [e] at h
  exact h
end Go.Proofs.YtmcapemlfplcgaaDoor.R02
/- Folder 02, plain: a set told as a text is read as it, and back. -/
namespace Go.Proofs.YtmcapemlfplcgaaDoor.R02
open Go.RowKit Go.Proofs.YtmcapemlfplcgaaDoor.Ult Go.Proofs.YtmcapemlfplcgaaDoor.AtM Go.Proofs.YtmcapemlfplcgaaDoor.H Go.Proofs.YtmcapemlfplcgaaDoor.PAll2 Go.Proofs.YtmcapemlfplcgaaDoorW.PrintWords Go.Proofs.YtmcapemlfplcgaaDoorW.PrintLast Go.Proofs.YtmcapemlfplcgaaDoorW.PrintMore
set_option linter.unusedVariables false
set_option linter.unusedSimpArgs false
set_option maxRecDepth 100000
/-- Parts with signs between. -/
def joinC : List (List UInt8) → List UInt8
  | [] => []
  | [p] => p
  | p :: q :: r => p ++ 44 :: joinC (q :: r)
theorem joinC_cons (p : List UInt8) {r : List (List UInt8)} (h : r ≠ []) : joinC (p :: r) = p ++ 44 :: joinC r := by
  cases r with
  | nil => exact absurd rfl h
  | cons q r => rfl
theorem join_split (m : List UInt8) : joinC (splitC 44 m) = m := by
  induction m with
  | nil => rfl
  | cons b r ih =>
    unfold splitC
    by_cases h : b = 44
    · rw [if_pos h, joinC_cons _ (splitC_ne _ _), ih, h]; rfl
    · rw [if_neg h]
      cases hq : splitC 44 r with
      | nil => exact absurd hq (splitC_ne _ _)
      | cons p q =>
        rw [hq] at ih
        simp only
        cases q with
        | nil => have ih : p = r := ih
                 show b :: p = b :: r; rw [ih]
        | cons q1 q2 =>
          have ih : p ++ 44 :: joinC (q1 :: q2) = r := ih
          show (b :: p) ++ 44 :: joinC (q1 :: q2) = b :: r
          rw [List.cons_append, ih]
theorem sp_44 (r : List UInt8) : splitC 44 (44 :: r) = [] :: splitC 44 r := by
  show (if (44 : UInt8) = 44 then _ else _) = _
  rw [if_pos rfl]
theorem sp_no {b : UInt8} {r p : List UInt8} {q : List (List UInt8)} (hb : b ≠ 44) (h : splitC 44 r = p :: q) : splitC 44 (b :: r) = (b :: p) :: q := by
  show (if b = 44 then _ else match splitC 44 r with | [] => [[b]] | p :: q => (b :: p) :: q) = _
  rw [if_neg hb, h]
theorem split_app (d r : List UInt8) (hd : ∀ b ∈ d, b ≠ 44) : splitC 44 (d ++ 44 :: r) = d :: splitC 44 r := by
  induction d with
  | nil => exact sp_44 r
  | cons b d ih =>
    have ih := ih (fun x hx => hd x (List.mem_cons_of_mem _ hx))
    rw [List.cons_append]
    exact sp_no (hd b (by simp)) ih
theorem split_one (d : List UInt8) (hd : ∀ b ∈ d, b ≠ 44) : splitC 44 d = [d] := by
  induction d with
  | nil => rfl
  | cons b d ih =>
    have ih := ih (fun x hx => hd x (List.mem_cons_of_mem _ hx))
    unfold splitC
    rw [if_neg (hd b (by simp)), ih]
theorem dig2_no44 {i : Nat} (h : i < 64) : ∀ b ∈ dig2 i, b ≠ 44 := fun b hb e => by
  have := dig2_digs h b hb
  rw [e] at this
  have h1 := this.1
  revert h1; decide
theorem split_join : ∀ (is : List Nat), is ≠ [] → (∀ i ∈ is, i < 64) → splitC 44 (joinC (is.map dig2)) = is.map dig2
  | [], h, _ => absurd rfl h
  | [i], _, h => split_one _ (dig2_no44 (h i (by simp)))
  | i :: j :: r, _, h => by
    have ih := split_join (j :: r) (by simp) (fun x hx => h x (List.mem_cons_of_mem _ hx))
    rw [List.map_cons, joinC_cons _ (by simp), split_app _ _ (dig2_no44 (h i (by simp))), ih]
theorem joinC_snoc (ps : List (List UInt8)) (p : List UInt8) (h : ps ≠ []) : joinC (ps ++ [p]) = joinC ps ++ 44 :: p := by
  induction ps with
  | nil => exact absurd rfl h
  | cons q r ih =>
    cases r with
    | nil => rfl
    | cons q2 r2 =>
      rw [List.cons_append, joinC_cons q (by simp), ih (by simp), joinC_cons q (by simp)]
      simp
theorem snocN {P : List Nat → Prop} (h0 : P []) (hs : ∀ l x, P l → P (l ++ [x])) : ∀ l, P l := by
  have h : ∀ (n : Nat) (l : List Nat), l.length = n → P l := by
    intro n
    induction n with
    | zero => intro l hl; rw [List.length_eq_zero_iff.1 hl]; exact h0
    | succ n ih =>
      intro l hl
      rcases List.eq_nil_or_concat l with rfl | ⟨m, z, rfl⟩
      · simp at hl
      · rw [List.concat_eq_append] at hl ⊢
        exact hs m z (ih m (by simpa using hl))
  exact fun l => h _ l rfl
theorem zs_snoc (l : List Nat) (x : Nat) : zs (l ++ [x]) = zs l ++ [(x : Int)] := by unfold zs; simp
theorem refB_join (is : List Nat) (h : ∀ i ∈ is, i < 64) : refB (zs is) = 123 :: joinC (is.map dig2) := by
  induction is using snocN with
  | h0 => rfl
  | hs l x ih =>
    have hl : ∀ i ∈ l, i < 64 := fun i hi => h i (by simp [hi])
    have hx : x < 64 := h x (by simp)
    have ih := ih hl
    have hb : ∀ y ∈ zs l, 0 ≤ y ∧ y ≤ 63 := by
      intro y hy
      obtain ⟨n, hn, rfl⟩ := List.mem_map.1 hy
      have := hl n hn
      omega
    obtain ⟨h1, _⟩ := refB_first hb
    rw [zs_snoc, refB_snoc, Int.toNat_natCast, dec_dig2 (by omega), List.map_append, List.map_singleton]
    by_cases he : l = []
    · subst he
      rw [if_pos (h1.2 rfl)]; rfl
    · have hne : zs l ≠ [] := fun e => he (by unfold zs at e; simpa using e)
      rw [if_neg (fun e => hne (h1.1 e)), ih, joinC_snoc _ _ (by simpa using he)]
      simp
/-- The items' bits. -/
theorem ofN_bit (l : List Int) : ∀ (o j : Nat), (ofN o l).testBit j = (o.testBit j || decide (j ≤ 63 ∧ (j : Int) ∈ l)) := by
  induction l with
  | nil => intro o j; show o.testBit j = _; simp
  | cons x xs ih =>
    intro o j
    show (ofN (ofStep o x) xs).testBit j = _
    rw [ih]
    have hst : (ofStep o x).testBit j = (o.testBit j || decide (j ≤ 63 ∧ (j : Int) = x)) := by
      unfold ofStep
      by_cases h : 0 ≤ x ∧ x ≤ 63
      · rw [if_pos h, Nat.testBit_or, Nat.testBit_two_pow]
        congr 1
        apply Bool.eq_iff_iff.2
        simp only [decide_eq_true_iff]
        omega
      · rw [if_neg h, decide_eq_false (by omega), Bool.or_false]
    rw [hst, Bool.or_assoc]
    congr 1
    apply Bool.eq_iff_iff.2
    simp only [Bool.or_eq_true, decide_eq_true_iff, List.mem_cons]
    constructor
    · rintro (⟨h1, h2⟩ | ⟨h1, h2⟩)
      · exact ⟨h1, .inl h2⟩
      · exact ⟨h1, .inr h2⟩
    · rintro ⟨h1, h2 | h2⟩
      · exact .inl ⟨h1, h2⟩
      · exact .inr ⟨h1, h2⟩
theorem of_list {a : Int} (ha : U64 a) : ((ofN 0 (listS a) : Nat) : Int) = a := by
  have h : ofN 0 (listS a) = a.toNat := by
    apply Nat.eq_of_testBit_eq
    intro j
    rw [ofN_bit, Nat.zero_testBit, Bool.false_or]
    apply Bool.eq_iff_iff.2
    rw [decide_eq_true_iff, listS_mem, Int.toNat_natCast]
    constructor
    · intro h; exact h.2.2.2
    · intro h
      have := testBit_big (nat_lt ha) h
      exact ⟨by omega, by omega, by omega, h⟩
  rw [h]
  have := ha.1
  omega
/-- Parts of rising items. -/
theorem parts_rise : ∀ (is : List Nat) (o : Nat), (∀ i ∈ is, i < 64 ∧ o < 2 ^ i) → is.Pairwise (· < ·) → partsS o (is.map dig2) = some (ofN o (zs is))
  | [], o, _, _ => rfl
  | i :: r, o, h, hp => by
    obtain ⟨h1, h2⟩ := h i (by simp)
    have hpa : partS o (dig2 i) = some (o ||| 1 <<< i) := by
      unfold partS
      rw [numB_some.2 ⟨h1, rfl⟩]
      simp only
      rw [if_pos (shr_zero.2 h2)]
    show (match partS o (dig2 i) with | none => none | some o' => partsS o' (r.map dig2)) = _
    rw [hpa]
    simp only
    have hst : ofStep o (i : Int) = o ||| 1 <<< i := by
      unfold ofStep; rw [if_pos ⟨by omega, by omega⟩, Int.toNat_natCast, Nat.one_shiftLeft]
    rw [parts_rise r _ (fun j hj => ?_) (List.pairwise_cons.1 hp).2]
    · show _ = some (ofN (ofStep o (i : Int)) (zs r))
      rw [hst]
    · have hij := (List.pairwise_cons.1 hp).1 j hj
      refine ⟨(h j (by simp [hj])).1, ?_⟩
      have hpw := Nat.pow_le_pow_right (n := 2) (by decide) (show i + 1 ≤ j by omega)
      exact Nat.lt_of_lt_of_le (Nat.or_lt_two_pow (n := i + 1) (by rw [Nat.pow_succ]; omega) (by rw [Nat.one_shiftLeft, Nat.pow_succ]; have := Nat.pow_pos (n := i) (show 0 < 2 by decide); omega)) hpw
/-- **TOLD AND READ.** -/
theorem read_text {a : Int} (ha : U64 a) : readS (textS a) = (a, 0) := by
  have hb : ∀ i ∈ bitsN a.toNat, i < 64 := fun i hi => List.mem_range.1 (List.mem_filter.1 hi).1
  rw [textS_ref ha, listS_bits, refB_join _ hb, List.cons_append, readS_in]
  have hs := bits_sorted a.toNat
  have ho := of_list ha
  rw [listS_bits] at ho
  generalize bitsN a.toNat = is at hb hs ho ⊢
  by_cases he : is = []
  · subst he
    show ((0 : Int), (0 : Int)) = (a, 0)
    rw [← ho]; rfl
  · have hsp := split_join is he hb
    have hne : joinC (is.map dig2) ≠ [] := by
      intro e
      rw [e] at hsp
      cases is with
      | nil => exact he rfl
      | cons i r =>
        have hsp : [([] : List UInt8)] = dig2 i :: r.map dig2 := hsp
        injection hsp with h1 _
        unfold dig2 at h1; split at h1 <;> cases h1
    obtain ⟨p, ps, hp⟩ : ∃ p ps, splitC 44 (joinC (is.map dig2)) = p :: ps := by
      rw [hsp]; cases is with
      | nil => exact absurd rfl he
      | cons i r => exact ⟨_, _, rfl⟩
    have h1 := auto_parts _ [] [] 0 ⟨rfl, .inl ⟨rfl, rfl⟩⟩ (by simp) (by simp) (.inr (.inr hne)) p ps hp
    rw [List.nil_append, ← hp, hsp, parts_rise is 0 (fun i hi => ⟨hb i hi, Nat.pow_pos (by decide)⟩) hs] at h1
    show auto [] (valB []) ([] : List UInt8).length _ = _
    rw [h1]
    show (((ofN 0 (zs is) : Nat) : Int), (0 : Int)) = _
    rw [ho]
theorem partsS_inv : ∀ (ps : List (List UInt8)) (o o' : Nat), partsS o ps = some o' → ∃ is : List Nat, ps = is.map dig2 ∧ (∀ i ∈ is, i < 64 ∧ o < 2 ^ i) ∧ is.Pairwise (· < ·)
  | [], o, o', _ => ⟨[], rfl, by simp, List.Pairwise.nil⟩
  | p :: r, o, o', h => by
    have h : (match partS o p with | none => none | some o1 => partsS o1 r) = some o' := h
    cases hp : partS o p with
    | none => rw [hp] at h; cases h
    | some o1 =>
      rw [hp] at h
      obtain ⟨is, h1, h2, h3⟩ := partsS_inv r o1 o' h
      unfold partS at hp
      cases hn : numB p with
      | none => rw [hn] at hp; cases hp
      | some i =>
        rw [hn] at hp
        simp only at hp
        by_cases hs : o >>> i = 0
        · rw [if_pos hs] at hp
          injection hp with hp
          obtain ⟨hi, he⟩ := numB_some.1 hn
          have hge : 2 ^ i ≤ o1 := by rw [← hp, Nat.one_shiftLeft]; exact Nat.right_le_or
          have hgo : o ≤ o1 := by rw [← hp]; exact Nat.left_le_or
          refine ⟨i :: is, by rw [List.map_cons, he, h1], fun j hj => ?_, List.pairwise_cons.2 ⟨fun j hj => ?_, h3⟩⟩
          · rcases List.mem_cons.1 hj with rfl | hj
            · exact ⟨hi, shr_zero.1 hs⟩
            · exact ⟨(h2 j hj).1, Nat.lt_of_le_of_lt hgo (h2 j hj).2⟩
          · have := (h2 j hj).2
            rcases Nat.lt_or_ge i j with h4 | h4
            · exact h4
            · have := Nat.pow_le_pow_right (n := 2) (by decide) h4; omega
        · rw [if_neg hs] at hp; cases hp
theorem sorted_ext : ∀ (l m : List Nat), l.Pairwise (· < ·) → m.Pairwise (· < ·) → (∀ x, x ∈ l ↔ x ∈ m) → l = m
  | [], [], _, _, _ => rfl
  | [], b :: m, _, _, h => absurd ((h b).2 (by simp)) (by simp)
  | a :: l, [], _, _, h => absurd ((h a).1 (by simp)) (by simp)
  | a :: l, b :: m, h1, h2, h => by
    obtain ⟨a1, a2⟩ := List.pairwise_cons.1 h1
    obtain ⟨b1, b2⟩ := List.pairwise_cons.1 h2
    have hab : a = b := by
      rcases List.mem_cons.1 ((h a).1 (by simp)) with e | e
      · exact e
      · rcases List.mem_cons.1 ((h b).2 (by simp)) with e2 | e2
        · exact e2.symm
        · have := b1 a e; have := a1 b e2; omega
    subst hab
    rw [sorted_ext l m a2 b2 (fun x => ?_)]
    constructor
    · intro hx
      rcases List.mem_cons.1 ((h x).1 (List.mem_cons_of_mem _ hx)) with e | e
      · subst e; exact absurd (a1 x hx) (Nat.lt_irrefl _)
      · exact e
    · intro hx
      rcases List.mem_cons.1 ((h x).2 (List.mem_cons_of_mem _ hx)) with e | e
      · subst e; exact absurd (b1 x hx) (Nat.lt_irrefl _)
      · exact e
theorem bits_of {is : List Nat} (h : ∀ i ∈ is, i < 64) (hs : is.Pairwise (· < ·)) : bitsN (ofN 0 (zs is)) = is := by
  refine sorted_ext _ _ (bits_sorted _) hs (fun x => ?_)
  unfold bitsN
  rw [List.mem_filter, List.mem_range, ofN_bit, Nat.zero_testBit, Bool.false_or, decide_eq_true_iff]
  constructor
  · rintro ⟨_, _, h3⟩
    obtain ⟨n, hn, e⟩ := List.mem_map.1 h3
    have : n = x := by exact_mod_cast e
    exact this ▸ hn
  · intro hx
    have := h x hx
    exact ⟨this, by omega, List.mem_map.2 ⟨x, hx, rfl⟩⟩
theorem readS_parts {m : List UInt8} (hm : m ≠ []) : readS (123 :: (m ++ [125])) = resP (partsS 0 (splitC 44 m)) := by
  rw [readS_in]
  obtain ⟨p, ps, hp⟩ : ∃ p ps, splitC 44 m = p :: ps := by
    cases hq : splitC 44 m with
    | nil => exact absurd hq (splitC_ne _ _)
    | cons a b => exact ⟨a, b, rfl⟩
  have := auto_parts m [] [] 0 ⟨rfl, .inl ⟨rfl, rfl⟩⟩ (by simp) (by simp) (.inr (.inr hm)) p ps hp
  rw [hp]
  exact this
/-- **READ AND TOLD.** -/
theorem text_read (l : List UInt8) : readS l = (0, 20) ∨ ∃ c : Int, U64 c ∧ readS l = (c, 0) ∧ textS c = l := by
  have hno : ∀ x : UInt8, ∀ r, x ≠ 123 → readS (x :: r) = (0, 20) := fun x r hx => readS_no (by rw [pre_cons, decide_eq_false hx])
  rcases l with _ | ⟨a, rest⟩
  · left; decide
  · by_cases ha : a = 123
    · subst ha
      rcases List.eq_nil_or_concat rest with rfl | ⟨m, z, rfl⟩
      · left; decide
      · rw [List.concat_eq_append]
        by_cases hz : z = 125
        · subst hz
          by_cases hm : m = []
          · subst hm
            right
            refine ⟨0, by unfold U64; decide, by decide, ?_⟩
            rw [textS_ref (by unfold U64; decide), listS_zero]; rfl
          · rw [readS_parts hm]
            cases hq : partsS 0 (splitC 44 m) with
            | none => left; rfl
            | some o =>
              right
              obtain ⟨is, h1, h2, h3⟩ := partsS_inv _ _ _ hq
              have hi : ∀ i ∈ is, i < 64 := fun i hi => (h2 i hi).1
              have ho : o = ofN 0 (zs is) := by
                have := parts_rise is 0 h2 h3
                rw [← h1, hq] at this
                exact Option.some.inj this
              have hlt := ofN_lt (zs is) 0 (by decide)
              rw [← ho] at hlt
              have h64 : (2 : Nat) ^ 64 = 18446744073709551616 := by decide
              have hu : U64 (o : Int) := by unfold U64; omega
              refine ⟨o, hu, rfl, ?_⟩
              rw [textS_ref hu, listS_bits, Int.toNat_natCast, ho, bits_of hi h3, refB_join _ hi, ← h1, join_split]
              rfl
        · left; exact readS_out m hz
    · left; exact hno a rest ha
end Go.Proofs.YtmcapemlfplcgaaDoor.R02
/- SetBack: a set is told as a text that is it. No condition but what the row lists of the variables. -/
namespace Go.Proofs.YtmcapemlfplcgaaDoor.MSetBack
open Go.RowKit Go.Proofs.YtmcapemlfplcgaaDoorW.PrintWords Go.Proofs.YtmcapemlfplcgaaDoorW.PrintLast Go.Proofs.YtmcapemlfplcgaaDoorW.PrintMore Go.Proofs.YtmcapemlfplcgaaDoor.AtM Go.Proofs.YtmcapemlfplcgaaDoor.R02 Go.Proofs.YtmcapemlfplcgaaDoor.H Go.Proofs.YtmcapemlfplcgaaDoor.Ult
set_option linter.unusedVariables false
set_option linter.unusedSimpArgs false
set_option maxRecDepth 100000
attribute [local go_sem] Oper.semAt_some
theorem ItemsColl (a : Int) (W : World) (ha : U64 a) (hT : TabE W) (n : Nat) (hn : (listS a).length = n) : Calls Tryd.prog 37 #[.func (.func 59) #[] #[.pointer (some ⟨W.heap.size, 0, none⟩)]] (W.alloc (.cells #[.int .u64 a] 22)) fun e W' =>
    ∃ A c, e = .returned (.slice A n c) ∧ n ≤ c ∧ Kd.C (Kd.int .i64) W' A n (listS a) ∧ Below W.heap.size W W' := by
  subst hn
  have hb1 : Below W.heap.size W (W.alloc (.cells #[.int .u64 a] 22)) := below_alloc (Below.refl _ _) _
  have g0 := blk_new W (.cells #[.int .u64 a] 22)
  have hz : (W.alloc (.cells #[.int .u64 a] 22)).heap.size = W.heap.size + 1 := by simp
  have hT := hT.tab
  have hp := hT.pos
  refine (Collecti64 59 #[.pointer (some ⟨W.heap.size, 0, none⟩)] (enters_of Tryd.func59 (by kernel_rfl) rfl) (listS a) (W.alloc (.cells #[.int .u64 a] 22)) (by have := listS_le a; omega)
    (Items1_seq 7 a W.heap.size ((W.alloc (.cells #[.int .u64 a] 22)).heap.size + 1) _ _ ha
      (fun X hk => by rw [blk_cell ((hk.2 W.heap.size (by omega) (by omega)).trans (blk_alloc g0 _)) 0]; rfl)
      (fun X hk => hT.same ((hk.2 _ (by omega) (by omega)).trans (((below_alloc hb1 (.cells #[.slice none 0 0] 27)).block _ hp)))) (by simp))).mono ?_
  rintro e w' ⟨v, rfl, hR, hb⟩
  obtain ⟨A, c, rfl, hc, hC⟩ := R_C hR
  exact ⟨A, c, rfl, hc, hC, below_step hb1 hb⟩
set_option maxHeartbeats 1600000 in
theorem main (a : Int) (wa : (Lit.int .u64 a).wf = true) (s : ByteArray) (ws : s.size ≤ maxLen) (W : World) (hT : TabE W) :
    Calls Tryd.prog 7 #[.int .u64 a, .string s] W fun e W' => e = .returned (.bool true) ∧ Below W.heap.size W W' := by
  have ha := wf2_u64 wa
  have HU := Aside0.mk (And.intro ha hT)
  clear wa ha hT ws
  obtain ⟨l, rfl⟩ : ∃ l : List UInt8, s = ⟨l.toArray⟩ := ⟨s.data.toList, by cases s; simp⟩
  go_enter Tryd.func7, Tryd.ntmps7
  go_wp2_with (fail)
  refine (alive2_calls W HU.out.2).mono ?_
  rintro e w1 ⟨rfl, hb1⟩
  have B0 := Aside0.mk hb1
  clear hb1
  by_cases h500 : l.length > 500
  · have g4 : decide ((l.length : Int) > 500) = true := decide_eq_true (by omega)
    have g5 : decide ((500 : Int) < (l.length : Int)) = true := decide_eq_true (by omega)
    have g6 : decide (500 < l.length) = true := decide_eq_true (by omega)
    go_wp2
    go_ret
    exact ⟨by simp, B0.out⟩
  · have g4 : decide ((l.length : Int) > 500) = false := decide_eq_false (by omega)
    have g5 : decide ((500 : Int) < (l.length : Int)) = false := decide_eq_false (by omega)
    have g6 : decide (500 < l.length) = false := decide_eq_false (by omega)
    have hrt := read_text HU.out.1
    have htl : (textS a).length ≤ 100000 := by
      rw [textS_ref HU.out.1, List.length_append]
      have h1 := refB_len (pre := listS a) (fun x hx => by have := (listS_mem a x).1 hx; exact ⟨this.1, this.2.1⟩)
      have h2 := listS_le a
      simp; omega
    obtain ⟨tx, htx⟩ : ∃ t, textS a = t := ⟨_, rfl⟩
    rw [htx] at hrt htl
    obtain ⟨n0, hn0⟩ : ∃ n, (listS a).length = n := ⟨_, rfl⟩
    have hn64 := listS_le a
    obtain ⟨k1, hk1⟩ := (of_ev (listS a) (by omega)).get
    rw [of_list HU.out.1] at hk1
    have K := Aside0.mk (And.intro htx (And.intro hrt (And.intro hn0 (And.intro hk1 htl))))
    clear htx hrt hn0 hk1 hn64 htl
    go_wp2_with (fail)
    refine (Text_eqL a tx _ HU.out.1 (HU.out.2.below B0.out).tab K.out.1).mono ?_
    rintro e w2 ⟨rfl, hb⟩
    have B1 := Aside0.mk (below_step B0.out hb)
    clear hb B0
    go_wp2_with (fail)
    refine (Read_eq ⟨tx.toArray⟩ a 0 _ (by rw [Lib.size_eq]; exact K.out.2.2.2.2) K.out.2.1 (HU.out.2.below B1.out)).mono ?_
    rintro e w3 ⟨rfl, hb⟩
    have B2 := Aside0.mk (below_step B1.out hb)
    clear hb B1
    go_wp2_with (fail)
    refine (List_eq a n0 _ HU.out.1 (HU.out.2.below B2.out).tab K.out.2.2.1).mono ?_
    rintro e w4 ⟨A4, c4, rfl, hc4, hC4, hb⟩
    have B3 := Aside0.mk (below_step B2.out hb)
    have C4 := Aside0.mk hC4
    clear hb B2 hC4
    go_wp2_with (fail)
    refine (Of_eq k1 (listS a) A4 n0 c4 a _ K.out.2.2.1 C4.out hc4 K.out.2.2.2.1).mono ?_
    rintro e w5 ⟨rfl, hb⟩
    have B4 := Aside0.mk (below_step B3.out hb)
    clear hb B3 C4
    go_wp2_with (fail)
    refine (Items_calls a w5).mono ?_
    rintro e w6 ⟨rfl, rfl⟩
    go_wp2_with (fail)
    refine (ItemsColl a w5 HU.out.1 (HU.out.2.below B4.out) n0 K.out.2.2.1).mono ?_
    rintro e w7 ⟨A7, c7, rfl, hc7, hC7, hb⟩
    have B5 := Aside0.mk (below_step B4.out hb)
    have C7 := Aside0.mk hC7
    clear hb B4 hC7
    go_wp2_with (fail)
    refine (Of_eq k1 (listS a) A7 n0 c7 a _ K.out.2.2.1 C7.out hc7 K.out.2.2.2.1).mono ?_
    rintro e w8 ⟨rfl, hb⟩
    have B6 := Aside0.mk (below_step B5.out hb)
    clear hb B5 C7
    rcases text_read l with hr | ⟨c, hcu, hr, ht⟩
    · have HR := Aside0.mk hr
      clear hr
      go_wp2_with (fail)
      refine (Read_eq ⟨l.toArray⟩ 0 20 _ (by rw [Lib.size_eq]; show l.length ≤ _; omega) HR.out (HU.out.2.below B6.out)).mono ?_
      rintro e w9 ⟨rfl, hb⟩
      have B7 := Aside0.mk (below_step B6.out hb)
      clear hb B6
      go_wp2
      go_ret
      exact ⟨by simp, B7.out⟩
    · have HR := Aside0.mk (And.intro hr (And.intro ht hcu))
      clear hr ht hcu
      go_wp2_with (fail)
      refine (Read_eq ⟨l.toArray⟩ c 0 _ (by rw [Lib.size_eq]; show l.length ≤ _; omega) HR.out.1 (HU.out.2.below B6.out)).mono ?_
      rintro e w9 ⟨rfl, hb⟩
      have B7 := Aside0.mk (below_step B6.out hb)
      clear hb B6
      go_wp2_with (fail)
      refine (Text_eqL c l _ HR.out.2.2 (HU.out.2.below B7.out).tab HR.out.2.1).mono ?_
      rintro e w10 ⟨rfl, hb⟩
      have B8 := Aside0.mk (below_step B7.out hb)
      clear hb B7
      go_wp2
      go_ret
      exact ⟨by simp, B8.out⟩
end Go.Proofs.YtmcapemlfplcgaaDoor.MSetBack
/- What a row of folder 02 gives the walks: the table of math/bits, the errors of strconv. -/
namespace Go.Proofs.YtmcapemlfplcgaaDoor.H
open Go.ChangeShapes Go.WideShapes Go.ChangeAt Go.RowKit
set_option linter.unusedVariables false
set_option maxRecDepth 100000
theorem gTab : Tryd.prog.globalNamed "math/bits.deBruijn64tab" = some 0 := by kernel_rfl
theorem tTab : (Tryd.prog.globals[0]?).map (·.type) = some 99 := by kernel_rfl
theorem cTab : Tryd.prog.cellsOf 5 = 1 := by kernel_rfl
theorem lTab : (Rows.laid_math_bits_deBruijn64tab : DataW Unit) = .agg ((List.range 64).map fun j => .lit (.int .u8 (Lib.deBruijn64tab.getD j 0 : Nat))) := by rfl
/-- The list that the row lists. -/
theorem tab_of_vars {W : World} {cs : Array Value} {fuel : Nat} {q : List MemPlace} {base : Nat} {sp : Nat → Bool} {enc : TypeId × Value → Unit} {held : Bool} (hv : W.var? Tryd.prog "math/bits.deBruijn64tab" = some cs)
    (hd : DataW.trod enc Tryd.prog W base sp held fuel 99 cs.toList = some (Rows.laid_math_bits_deBruijn64tab, q)) : TabG W := by
  obtain ⟨xs, m, rfl, hx, hlen, hn, hel⟩ := DataW.trod_array Tryd.underlying99 hd
  rw [lTab] at hx
  simp only [Prod.mk.injEq, DataW.agg.injEq] at hx
  intro j hj
  have h1 := hel j hj
  rw [cTab, Nat.mul_one, List.getElem?_eq_getElem (by omega)] at h1
  obtain ⟨n, e1, e2, _⟩ := DataW.trod_int Tryd.underlying5 h1
  have h2 := congrArg (fun l => l[j]?) hx.1
  simp only [List.getElem?_map, List.getElem?_range hj, Option.map_some, List.getElem?_eq_getElem (show j < xs.length by omega), e2] at h2
  injection h2 with h2
  injection h2 with h2
  injection h2 with _ h2
  have h3 := World.var?_cell gTab hv j
  rw [h3, h2]
  have h4 : cs.toList[j]? = some (.int .u8 n) := by
    have := congrArg (fun l => l[0]?) e1
    simpa using this
  simpa using h4
theorem err_of_vars {W : World} {n : String} {g t : Nat} {d : DataW Unit} {cs : Array Value} {fuel : Nat} {q : List MemPlace} {base : Nat} {sp : Nat → Bool} {enc : TypeId × Value → Unit} {held : Bool} (hg : Tryd.prog.globalNamed n = some g) (hv : W.var? Tryd.prog n = some cs)
    {u : TypeDesc} (ht : Tryd.prog.underlying t = some u) (hu : (match u with | .interface _ => true | _ => false) = true) (hd : DataW.trod enc Tryd.prog W base sp held fuel t cs.toList = some (d, q)) : ErC g W := by
  have h3 := World.var?_cell hg hv 0
  cases u <;> simp at hu
  have hc : ∃ ev, cs.toList = [ev] ∧ (ev = .nilIface ∨ ∃ te pe, ev = .iface te pe) := by
    cases fuel with
    | zero => unfold DataW.trod at hd; cases hd
    | succ m =>
      unfold DataW.trod at hd
      rw [ht] at hd
      split at hd <;> first | (rename_i h1 h2; exact ⟨_, h2, .inl rfl⟩) | (rename_i h1 h2; exact ⟨_, h2, .inr ⟨_, _, rfl⟩⟩) | simp_all
  obtain ⟨ev, h1, h2⟩ := hc
  refine ⟨ev, ?_, h2⟩
  have h4 : cs.toList[0]? = some ev := by rw [h1]; rfl
  rw [h3]; simpa using h4
theorem tabE_of_laid {W : World} (h : laidMetH Tryd.prog [("math/bits.deBruijn32tab", Rows.laid_math_bits_deBruijn32tab), ("math/bits.deBruijn64tab", Rows.laid_math_bits_deBruijn64tab), ("internal/strconv.uint64pow10", Rows.laid_internal_strconv_uint64pow10), ("unicode/utf8.acceptRanges", Rows.laid_unicode_utf8_acceptRanges), ("strconv.ErrRange", Rows.laid_strconv_ErrRange), ("strconv.ErrSyntax", Rows.laid_strconv_ErrSyntax), ("unicode/utf8.first", Rows.laid_unicode_utf8_first)] W) : TabE W := by
  rw [MakeChecks.laidMetH_plain _ _ _ (by kernel_rfl)] at h
  obtain ⟨ps, ⟨_, _, _, _, _, _, _, _, _, _, ⟨g0, t0, cs0, f0, p0, q0, hg0, ht0, hv0, hd0, ⟨_, _, _, _, _, _, _, _, _, _, ⟨_, _, _, _, _, _, _, _, _, _, ⟨g4, t4, cs4, f4, p4, q4, hg4, ht4, hv4, hd4, ⟨g5, t5, cs5, f5, p5, q5, hg5, ht5, hv5, hd5, _, _⟩, _⟩, _⟩, _⟩, _⟩, _⟩, _⟩ := h
  refine ⟨?_, ?_, ?_⟩
  · obtain rfl := Option.some.inj (tTab.symm.trans (by
      obtain rfl := Option.some.inj (gTab.symm.trans hg0)
      exact ht0))
    exact tab_of_vars hv0 hd0
  · have e1 : Tryd.prog.globalNamed "strconv.ErrSyntax" = some 4 := by kernel_rfl
    obtain rfl := Option.some.inj (e1.symm.trans hg5)
    have e2 : (Tryd.prog.globals[4]?).map (·.type) = some 84 := by kernel_rfl
    obtain rfl := Option.some.inj (e2.symm.trans ht5)
    exact err_of_vars e1 hv5 Tryd.underlying84 rfl hd5
  · have e1 : Tryd.prog.globalNamed "strconv.ErrRange" = some 5 := by kernel_rfl
    obtain rfl := Option.some.inj (e1.symm.trans hg4)
    have e2 : (Tryd.prog.globals[5]?).map (·.type) = some 84 := by kernel_rfl
    obtain rfl := Option.some.inj (e2.symm.trans ht4)
    exact err_of_vars e1 hv4 Tryd.underlying84 rfl hd4
end Go.Proofs.YtmcapemlfplcgaaDoor.H
