/- Some texts of one seat in one file, in build order. -/
import Derived.Test.YtmcapemlfplcgaaDoorG16
import Derived.Test.YtmcapemlfplcgaaDoorG13
/- Folder 02, plain: Has, Full, Apart, Within, lists told the same. -/
namespace Go.Proofs.YtmcapemlfplcgaaDoor.R02
open Go.RowKit Go.Proofs.YtmcapemlfplcgaaDoor.Ult Go.Proofs.YtmcapemlfplcgaaDoor.AtM Go.Proofs.YtmcapemlfplcgaaDoor.PAll2 Go.Proofs.YtmcapemlfplcgaaDoorW.PrintWords Go.Proofs.YtmcapemlfplcgaaDoorW.PrintLast Go.Proofs.YtmcapemlfplcgaaDoorW.PrintMore
set_option linter.unusedVariables false
set_option linter.unusedSimpArgs false
set_option maxRecDepth 100000
def hasS (a n : Int) : Bool := decide (0 ≤ n ∧ n ≤ 63) && a.toNat.testBit n.toNat
theorem has_f (a n : Int) (ha : U64 a) : set_Has.f a n = some (hasS a n) := by
  unfold set_Has.f hasS
  rw [item_f, Option.bind_some]
  by_cases h : 0 ≤ n ∧ n ≤ 63
  · rw [decide_eq_true h, if_pos rfl, if_pos h.1, Bool.true_and]
    congr 1
    unfold shr
    obtain ⟨m, rfl⟩ : ∃ m : Nat, n = m := ⟨n.toNat, by omega⟩
    obtain ⟨b, rfl⟩ : ∃ b : Nat, a = b := ⟨a.toNat, by have := ha.1; omega⟩
    rw [Int.toNat_natCast, Int.toNat_natCast, show min m IntKind.u64.bits = m by simp [IntKind.bits]; omega, show ((b : Int) / 2 ^ m) = ((b / 2 ^ m : Nat) : Int) by norm_cast]
    have hb := nat_lt ha
    rw [Int.toNat_natCast] at hb
    have h64 : (2 : Nat) ^ 64 = 18446744073709551616 := by decide
    have hd : b / 2 ^ m ≤ b := Nat.div_le_self _ _
    rw [show (1 : Int) = ((1 : Nat) : Int) from rfl, u64_and_nat _ _ (by omega) (by decide), Nat.testBit_eq_decide_div_mod_eq, Nat.and_one_is_mod]
    apply Bool.eq_iff_iff.2
    rw [beq_iff_eq, decide_eq_true_iff]
    omega
  · rw [decide_eq_false h, Bool.false_and]; rfl
theorem rhas_ev (a n : Int) (ha : U64 a) : Ult (fun k => saleroomref02_Has.f k a n) (hasS a n) := has_ev a n ha
def fullS (n : Int) : Int := ((2 ^ (min n.toNat 64) - 1 : Nat) : Int)
theorem full_f (n : Int) : set_Full.f n = some (fullS n) := by
  unfold set_Full.f fullS
  by_cases h0 : n ≤ 0
  · rw [if_pos h0, show n.toNat = 0 by omega]; rfl
  · rw [if_neg h0]
    by_cases h1 : n ≥ 64
    · rw [if_pos h1, show min n.toNat 64 = 64 by omega]; rfl
    · rw [if_neg h1, if_pos (by omega), shl_one (by omega), show min n.toNat 64 = n.toNat by omega, IntKind.wrap_u64]
      have hp := pow63 (i := n.toNat) (by omega)
      have hq : 0 < 2 ^ n.toNat := Nat.pow_pos (by decide)
      congr 1
      generalize 2 ^ n.toNat = p at hp hq ⊢
      omega
theorem full_step {k : Nat} (h : k ≤ 63) : IntKind.u64.wrap (fullS (k : Int) + oneN k) = fullS ((k + 1 : Nat) : Int) := by
  unfold fullS oneN
  rw [Int.toNat_natCast, Int.toNat_natCast, show min k 64 = k by omega, show min (k + 1) 64 = k + 1 by omega, Nat.pow_succ, IntKind.wrap_u64]
  have hp := pow63 h
  have hq : 0 < 2 ^ k := Nat.pow_pos (by decide)
  generalize 2 ^ k = p at hp hq ⊢
  omega
theorem within_f {a b : Int} (ha : U64 a) (hb : U64 b) : set_Within.f a b = some (wthB a b) := by
  unfold set_Within.f
  congr 1
  have h64 : (2 : Nat) ^ 64 = 18446744073709551616 := by decide
  have hbn := nat_lt hb
  have han := nat_lt ha
  rw [u64_andNot a b ha.1 ha.2 hb.1 hb.2]
  have e1 : 18446744073709551615 - b.toNat = 2 ^ 64 - (b.toNat + 1) := by omega
  rw [e1]
  apply Bool.eq_iff_iff.2
  rw [beq_iff_eq, wth_iff]
  constructor
  · intro h i hi
    have h0 : a.toNat &&& (2 ^ 64 - (b.toNat + 1)) = 0 := by omega
    have h1 := congrArg (fun n => n.testBit i) h0
    simp only [Nat.testBit_and, Nat.zero_testBit, Nat.testBit_two_pow_sub_succ hbn, hi, Bool.true_and, testBit_big han hi, decide_true] at h1
    simpa using h1
  · intro h
    have : a.toNat &&& (2 ^ 64 - (b.toNat + 1)) = 0 := by
      apply Nat.eq_of_testBit_eq
      intro i
      rw [Nat.testBit_and, Nat.testBit_two_pow_sub_succ hbn, Nat.zero_testBit]
      cases hi : a.toNat.testBit i with
      | false => rfl
      | true => rw [h i hi]; simp
    rw [this]; rfl
def aptB (a b : Int) : Bool := decide (a.toNat &&& b.toNat = 0)
theorem apt_iff (a b : Int) : aptB a b = true ↔ ∀ i, a.toNat.testBit i = true → b.toNat.testBit i = false := by
  unfold aptB
  rw [decide_eq_true_iff]
  constructor
  · intro h i hi
    have h1 := congrArg (fun n => n.testBit i) h
    simp only [Nat.testBit_and, Nat.zero_testBit, hi, Bool.true_and] at h1
    exact h1
  · intro h
    apply Nat.eq_of_testBit_eq
    intro i
    rw [Nat.testBit_and, Nat.zero_testBit]
    cases hi : a.toNat.testBit i with
    | false => rfl
    | true => rw [h i hi]; rfl
theorem apart_f {a b : Int} (ha : U64 a) (hb : U64 b) : set_Apart.f a b = some (aptB a b) := by
  unfold set_Apart.f aptB
  rw [u64_and a b ha.1 ha.2 hb.1 hb.2]
  congr 1
  apply Bool.eq_iff_iff.2
  rw [beq_iff_eq, decide_eq_true_iff]
  omega
theorem rapart_l0 (x y : Int) (hx : U64 x) (hy : U64 y) : ∀ (d i : Nat), i + d = 64 → (∀ j, j < i → x.toNat.testBit j = true → y.toNat.testBit j = false) → Ult (fun k => saleroomref02_Apart.l0 k x y (i : Int)) (aptB x y) := by
  intro d
  induction d with
  | zero =>
    intro i hi hall
    refine Ult.succ ?_
    simp only [saleroomref02_Apart.l0]
    refine Ult.neg (by omega) (Ult.const ?_)
    congr 1
    symm
    rw [apt_iff]
    intro j hj
    exact hall j (by have := testBit_big (nat_lt hx) hj; omega) hj
  | succ d ih =>
    intro i hi hall
    refine Ult.succ ?_
    simp only [saleroomref02_Apart.l0]
    refine Ult.pos (by omega) ?_
    rw [show wrap64 ((i : Int) + 1) = ((i + 1 : Nat) : Int) by rw [w64 (by omega) (by omega)]; rfl]
    refine Ult.bind (has_item x i hx (by omega)) ?_
    refine Ult.ite (fun h => ?_) (fun h => ?_)
    · refine Ult.bind (has_item y i hy (by omega)) ?_
      refine Ult.ite (fun h2 => Ult.const ?_) (fun h2 => ?_)
      · congr 1
        cases hb : aptB x y with
        | false => rfl
        | true => rw [(apt_iff x y).1 hb i h] at h2; cases h2
      · refine ih (i + 1) (by omega) fun j hj hjx => ?_
        rcases Nat.lt_or_ge j i with h3 | h3
        · exact hall j h3 hjx
        · obtain rfl : j = i := by omega
          simpa using h2
    · refine ih (i + 1) (by omega) fun j hj hjx => ?_
      rcases Nat.lt_or_ge j i with h3 | h3
      · exact hall j h3 hjx
      · obtain rfl : j = i := by omega
        exact absurd hjx h
theorem rapart_ev (x y : Int) (hx : U64 x) (hy : U64 y) : Ult (fun k => saleroomref02_Apart.f k x y) (aptB x y) := rapart_l0 x y hx hy 64 0 rfl (fun j hj => by omega)
theorem sameInts_ev (l : List Int) (hl : l.length ≤ 600000) : Ult (fun k => saleroomref01_SameInts.f k l l) true := by
  have h : ∀ (d i : Nat), i + d = l.length → Ult (fun k => saleroomref01_SameInts.l0 k l l (i : Int)) true := by
    intro d
    induction d with
    | zero => intro i hi; refine Ult.succ ?_; simp only [saleroomref01_SameInts.l0]; exact Ult.neg (by omega) (Ult.const rfl)
    | succ d ih =>
      intro i hi; refine Ult.succ ?_; simp only [saleroomref01_SameInts.l0]
      rw [show wrap64 ((i : Int) + 1) = ((i + 1 : Nat) : Int) by rw [w64 (by omega) (by omega)]; rfl]
      exact Ult.pos (by omega) (Ult.pos (by omega) (Ult.pos (by omega) (Ult.pos (by trivial) (ih (i + 1) (by omega)))))
  unfold saleroomref01_SameInts.f
  exact Ult.pos rfl (h l.length 0 (by omega))
theorem sameSets_ev (l : List Int) (hl : l.length ≤ 600000) : Ult (fun k => saleroomref01_SameSets.f k l l) true := by
  have h : ∀ (d i : Nat), i + d = l.length → Ult (fun k => saleroomref01_SameSets.l0 k l l (i : Int)) true := by
    intro d
    induction d with
    | zero => intro i hi; refine Ult.succ ?_; simp only [saleroomref01_SameSets.l0]; exact Ult.neg (by omega) (Ult.const rfl)
    | succ d ih =>
      intro i hi; refine Ult.succ ?_; simp only [saleroomref01_SameSets.l0]
      rw [show wrap64 ((i : Int) + 1) = ((i + 1 : Nat) : Int) by rw [w64 (by omega) (by omega)]; rfl]
      exact Ult.pos (by omega) (Ult.pos (by omega) (Ult.pos (by omega) (Ult.pos (by trivial) (ih (i + 1) (by omega)))))
  unfold saleroomref01_SameSets.f
  exact Ult.pos rfl (h l.length 0 (by omega))
theorem sameNums_ev (l : List Int) (hl : l.length ≤ 600000) : Ult (fun k => saleroomref01_SameNums.f k l l) true := by
  have h : ∀ (d i : Nat), i + d = l.length → Ult (fun k => saleroomref01_SameNums.l0 k l l (i : Int)) true := by
    intro d
    induction d with
    | zero => intro i hi; refine Ult.succ ?_; simp only [saleroomref01_SameNums.l0]; exact Ult.neg (by omega) (Ult.const rfl)
    | succ d ih =>
      intro i hi; refine Ult.succ ?_; simp only [saleroomref01_SameNums.l0]
      rw [show wrap64 ((i : Int) + 1) = ((i + 1 : Nat) : Int) by rw [w64 (by omega) (by omega)]; rfl]
      exact Ult.pos (by omega) (Ult.pos (by omega) (Ult.pos (by omega) (Ult.pos (by trivial) (ih (i + 1) (by omega)))))
  unfold saleroomref01_SameNums.f
  exact Ult.pos rfl (h l.length 0 (by omega))
end Go.Proofs.YtmcapemlfplcgaaDoor.R02
/- Folder 02: the document's functions, with named answers. -/
namespace Go.Proofs.YtmcapemlfplcgaaDoor.H
open Go.RowKit Go.Proofs.YtmcapemlfplcgaaDoorW.PrintWords Go.Proofs.YtmcapemlfplcgaaDoorW.PrintLast Go.Proofs.YtmcapemlfplcgaaDoorW.PrintMore Go.Proofs.YtmcapemlfplcgaaDoor.AtM Go.Proofs.YtmcapemlfplcgaaDoor.R02 Go.Proofs.YtmcapemlfplcgaaDoor.Ult
set_option linter.unusedVariables false
set_option linter.unusedSimpArgs false
set_option maxRecDepth 100000
theorem wf2_u64 {x : Int} (h : (Lit.int .u64 x).wf = true) : U64 x := by
  simp [Lit.wf, IntKind.min, IntKind.max, IntKind.signed, IntKind.bits] at h
  unfold U64; omega
theorem wf2_i64 {x : Int} (h : (Lit.int .i64 x).wf = true) : -9223372036854775808 ≤ x ∧ x ≤ 9223372036854775807 := by
  simp [Lit.wf, IntKind.min, IntKind.max, IntKind.signed, IntKind.bits] at h
  omega
theorem SHas_eq (a n : Int) (W : World) (ha : U64 a) : Calls Tryd.prog 12 #[.int .u64 a, .int .i64 n] W fun e W' => e = .returned (.bool (hasS a n)) ∧ Below W.heap.size W W' := Has_eq a n _ W (has_f a n ha)
theorem SFull_eq (n : Int) (W : World) : Calls Tryd.prog 22 #[.int .i64 n] W fun e W' => e = .returned (.int .u64 (fullS n)) ∧ Below W.heap.size W W' := Full_eq n _ W (full_f n)
theorem SWithin_eq (a b : Int) (W : World) (ha : U64 a) (hb : U64 b) : Calls Tryd.prog 16 #[.int .u64 a, .int .u64 b] W fun e W' => e = .returned (.bool (wthB a b)) ∧ Below W.heap.size W W' := Within_eq a b _ W (within_f ha hb)
theorem SApart_eq (a b : Int) (W : World) (ha : U64 a) (hb : U64 b) : Calls Tryd.prog 18 #[.int .u64 a, .int .u64 b] W fun e W' => e = .returned (.bool (aptB a b)) ∧ Below W.heap.size W W' := Apart_eq a b _ W (apart_f ha hb)
theorem RHas_eq (a n : Int) (W : World) (ha : U64 a) : Calls Tryd.prog 13 #[.int .u64 a, .int .i64 n] W fun e W' => e = .returned (.bool (hasS a n)) ∧ Below W.heap.size W W' := by
  obtain ⟨k, hk⟩ := (rhas_ev a n ha).get
  exact (PAll2.saleroomref02_Has.calls k a n _ W hk).mono fun e W' h => ⟨h.1, by first | exact h.2.below | exact h.2⟩
theorem ROne_eq (n : Nat) (W : World) (hn : n ≤ 63) : Calls Tryd.prog 11 #[.int .i64 n] W fun e W' => e = .returned (.int .u64 (oneN n)) ∧ Below W.heap.size W W' := by
  obtain ⟨k, hk⟩ := (one_ev n hn).get
  exact (PAll2.saleroomref02_One.calls k n _ W hk).mono fun e W' h => ⟨h.1, by first | exact h.2.below | exact h.2⟩
theorem RWithin_eq (a b : Int) (W : World) (ha : U64 a) (hb : U64 b) : Calls Tryd.prog 17 #[.int .u64 a, .int .u64 b] W fun e W' => e = .returned (.bool (wthB a b)) ∧ Below W.heap.size W W' := by
  obtain ⟨k, hk⟩ := (within_ev a b ha hb).get
  exact (PAll2.saleroomref02_Within.calls k a b _ W hk).mono fun e W' h => ⟨h.1, by first | exact h.2.below | exact h.2⟩
theorem RApart_eq (a b : Int) (W : World) (ha : U64 a) (hb : U64 b) : Calls Tryd.prog 19 #[.int .u64 a, .int .u64 b] W fun e W' => e = .returned (.bool (aptB a b)) ∧ Below W.heap.size W W' := by
  obtain ⟨k, hk⟩ := (rapart_ev a b ha hb).get
  exact (PAll2.saleroomref02_Apart.calls k a b _ W hk).mono fun e W' h => ⟨h.1, by first | exact h.2.below | exact h.2⟩
theorem RCmp_eq (a b : Int) (W : World) (ha : U64 a) (hb : U64 b) : Calls Tryd.prog 21 #[.int .u64 a, .int .u64 b] W fun e W' => e = .returned (.int .i64 (cmpS a b)) ∧ Below W.heap.size W W' := by
  obtain ⟨k, hk⟩ := (cmp_ev a b ha hb).get
  exact (PAll2.saleroomref02_Cmp.calls k a b _ W hk).mono fun e W' h => ⟨h.1, by first | exact h.2.below | exact h.2⟩
theorem RList_eq (s : Int) (n : Nat) (W : World) (hs : U64 s) (h : (listS s).length = n) : Calls Tryd.prog 15 #[.int .u64 s] W fun e W' =>
    ∃ A c, e = .returned (.slice A n c) ∧ n ≤ c ∧ Kd.C (Kd.int .i64) W' A n (listS s) ∧ Below W.heap.size W W' := by
  subst h
  obtain ⟨k, hk⟩ := (list_ev s hs).get
  refine (PAll2.saleroomref02_List.calls k s _ W hk).mono ?_
  rintro e w' ⟨v, rfl, hR, hb⟩
  obtain ⟨A, c, rfl, hc, hC⟩ := R_C hR
  exact ⟨A, c, rfl, hc, hC, hb⟩
theorem SameInts_eq (l l' : List Int) (n n' : Nat) (A A' : Option Addr) (c c' : Nat) (W : World) (he : l = l') (hn : l.length = n) (hn' : l'.length = n') (hC : Kd.C (Kd.int .i64) W A n l) (hc : n ≤ c) (hC' : Kd.C (Kd.int .i64) W A' n' l') (hc' : n' ≤ c') (hl : n ≤ 600000) :
    Calls Tryd.prog 23 #[.slice A n c, .slice A' n' c'] W fun e W' => e = .returned (.bool true) ∧ Below W.heap.size W W' := by
  subst he; subst hn; subst hn'
  obtain ⟨k, hk⟩ := (sameInts_ev l hl).get
  exact (PAll2.saleroomref01_SameInts.calls k A c l A' c' l true W hC hc hC' hc' hk).mono fun e W' h => ⟨h.1, by first | exact h.2.below | exact h.2⟩
theorem SameSets_eq (l l' : List Int) (n n' : Nat) (A A' : Option Addr) (c c' : Nat) (W : World) (he : l = l') (hn : l.length = n) (hn' : l'.length = n') (hC : Kd.C (Kd.int .u64) W A n l) (hc : n ≤ c) (hC' : Kd.C (Kd.int .u64) W A' n' l') (hc' : n' ≤ c') (hl : n ≤ 600000) :
    Calls Tryd.prog 32 #[.slice A n c, .slice A' n' c'] W fun e W' => e = .returned (.bool true) ∧ Below W.heap.size W W' := by
  subst he; subst hn; subst hn'
  obtain ⟨k, hk⟩ := (sameSets_ev l hl).get
  exact (PAll2.saleroomref01_SameSets.calls k A c l A' c' l true W hC hc hC' hc' hk).mono fun e W' h => ⟨h.1, by first | exact h.2.below | exact h.2⟩
theorem SameNums_eq (l l' : List Int) (n n' : Nat) (A A' : Option Addr) (c c' : Nat) (W : World) (he : l = l') (hn : l.length = n) (hn' : l'.length = n') (hC : Kd.C (Kd.int .i64) W A n l) (hc : n ≤ c) (hC' : Kd.C (Kd.int .i64) W A' n' l') (hc' : n' ≤ c') (hl : n ≤ 600000) :
    Calls Tryd.prog 36 #[.slice A n c, .slice A' n' c'] W fun e W' => e = .returned (.bool true) ∧ Below W.heap.size W W' := by
  subst he; subst hn; subst hn'
  obtain ⟨k, hk⟩ := (sameNums_ev l hl).get
  exact (PAll2.saleroomref01_SameNums.calls k A c l A' c' l true W hC hc hC' hc' hk).mono fun e W' h => ⟨h.1, by first | exact h.2.below | exact h.2⟩
end Go.Proofs.YtmcapemlfplcgaaDoor.H
/- Folder 02, plain: the subsets of a set, rising, and the step from one to the next. -/
namespace Go.Proofs.YtmcapemlfplcgaaDoor.R02
open Go.RowKit Go.Proofs.YtmcapemlfplcgaaDoor.Ult Go.Proofs.YtmcapemlfplcgaaDoor.AtM Go.Proofs.YtmcapemlfplcgaaDoor.H
set_option linter.unusedVariables false
set_option linter.unusedSimpArgs false
set_option maxRecDepth 100000
/-- The subsets by the greatest item. -/
def subR : Nat → Nat → List Nat
  | 0, _ => [0]
  | w + 1, s => if s.testBit w then subR w s ++ (subR w s).map (· + 2 ^ w) else subR w s
/-- The two texts below one. -/
def dbl (b : Bool) (l : List Nat) : List Nat := if b then l.flatMap fun y => [2 * y, 2 * y + 1] else l.map fun y => 2 * y
theorem dbl_append (b : Bool) (l m : List Nat) : dbl b (l ++ m) = dbl b l ++ dbl b m := by
  unfold dbl; cases b <;> simp
theorem dbl_shift (b : Bool) (l : List Nat) (w : Nat) : dbl b (l.map (· + 2 ^ w)) = (dbl b l).map (· + 2 ^ (w + 1)) := by
  have h : ∀ y : Nat, 2 * (y + 2 ^ w) = 2 * y + 2 ^ (w + 1) := fun y => by rw [Nat.pow_succ]; omega
  have h2 : ∀ y : Nat, 2 * (y + 2 ^ w) + 1 = 2 * y + 1 + 2 ^ (w + 1) := fun y => by rw [Nat.pow_succ]; omega
  unfold dbl
  cases b
  · simp only [Bool.false_eq_true, if_false, List.map_map]
    exact List.map_congr_left fun y _ => h y
  · simp only [if_true]
    induction l with
    | nil => rfl
    | cons y ys ih =>
      simp only [List.map_cons, List.flatMap_cons, List.map_append, ih, List.map_nil, h]
      rw [show 2 * y + 2 ^ (w + 1) + 1 = 2 * y + 1 + 2 ^ (w + 1) by omega]
/-- The subsets by the least item. -/
theorem subR_low (w : Nat) : ∀ s, subR (w + 1) s = dbl (s.testBit 0) (subR w (s / 2)) := by
  induction w with
  | zero =>
    intro s
    simp only [subR, dbl]
    cases s.testBit 0 <;> simp
  | succ w ih =>
    intro s
    rw [subR, ih s]
    rw [show subR (w + 1) (s / 2) = if (s / 2).testBit w then subR w (s / 2) ++ (subR w (s / 2)).map (· + 2 ^ w) else subR w (s / 2) from rfl]
    rw [Nat.testBit_succ]
    by_cases h : (s / 2).testBit w = true
    · rw [if_pos h, if_pos h, dbl_append, dbl_shift]
    · rw [if_neg h, if_neg h]
/-- The step. -/
def nxN (w s x : Nat) : Nat := (x + 2 ^ w - s) &&& s
theorem and_dbl (a b c d : Nat) (hc : c ≤ 1) (hd : d ≤ 1) : (2 * a + c) &&& (2 * b + d) = 2 * (a &&& b) + c * d := by
  apply Nat.eq_of_testBit_eq
  intro i
  cases i with
  | zero =>
    rw [Nat.testBit_and, Nat.testBit_zero, Nat.testBit_zero, Nat.testBit_zero]
    rcases (by omega : c = 0 ∨ c = 1) with rfl | rfl <;> rcases (by omega : d = 0 ∨ d = 1) with rfl | rfl <;> (apply Bool.eq_iff_iff.2; simp <;> omega)
  | succ i =>
    rw [Nat.testBit_and, Nat.testBit_succ, Nat.testBit_succ, Nat.testBit_succ]
    have e1 : (2 * a + c) / 2 = a := by omega
    have e2 : (2 * b + d) / 2 = b := by omega
    have e3 : (2 * (a &&& b) + c * d) / 2 = a &&& b := by
      rcases (by omega : c = 0 ∨ c = 1) with rfl | rfl <;> rcases (by omega : d = 0 ∨ d = 1) with rfl | rfl <;> omega
    rw [e1, e2, e3, Nat.testBit_and]
/-- What lies in a set, with all that does not joined, cut down to it again. -/
theorem add_not_and (w : Nat) : ∀ (s x : Nat), s < 2 ^ w → x &&& s = x → (x + (2 ^ w - 1 - s)) &&& s = x := by
  induction w with
  | zero =>
    intro s x hs hx
    have : s = 0 := by simpa using hs
    subst this
    rw [Nat.and_zero] at hx; subst hx; rfl
  | succ w ih =>
    intro s x hs hx
    obtain ⟨s1, b, hb, rfl⟩ : ∃ s1 b, b ≤ 1 ∧ s = 2 * s1 + b := ⟨s / 2, s % 2, by omega, by omega⟩
    obtain ⟨x1, c, hc, rfl⟩ : ∃ x1 c, c ≤ 1 ∧ x = 2 * x1 + c := ⟨x / 2, x % 2, by omega, by omega⟩
    rw [and_dbl _ _ _ _ hc hb] at hx
    have hp : 2 ^ (w + 1) = 2 * 2 ^ w := by rw [Nat.pow_succ]; omega
    rw [hp] at hs ⊢
    have hs1 : s1 < 2 ^ w := by omega
    have hcb : c ≤ b := by
      rcases (by omega : c = 0 ∨ c = 1) with rfl | rfl <;> rcases (by omega : b = 0 ∨ b = 1) with rfl | rfl <;> omega
    have hx1 : x1 &&& s1 = x1 := by
      rcases (by omega : c = 0 ∨ c = 1) with rfl | rfl <;> rcases (by omega : b = 0 ∨ b = 1) with rfl | rfl <;> omega
    have h := ih s1 x1 hs1 hx1
    have e : 2 * x1 + c + (2 * 2 ^ w - 1 - (2 * s1 + b)) = 2 * (x1 + (2 ^ w - 1 - s1)) + (c + 1 - b) := by omega
    rw [e, and_dbl _ _ _ _ (by omega) hb, h]
    rcases (by omega : c = 0 ∨ c = 1) with rfl | rfl <;> rcases (by omega : b = 0 ∨ b = 1) with rfl | rfl <;> omega
/-- A row of steps from x up to s. -/
def chN (w s : Nat) : Nat → List Nat → Prop
  | _, [] => False
  | x, y :: r => y = x ∧ x &&& s = x ∧ (match r with | [] => x = s | _ :: _ => x < s ∧ x < nxN w s x ∧ chN w s (nxN w s x) r)
theorem nx_low {w s1 x1 b : Nat} (hb : b ≤ 1) (hs : s1 < 2 ^ w) (hx : x1 ≤ s1) : nxN (w + 1) (2 * s1 + b) (2 * x1 + b) = 2 * nxN w s1 x1 := by
  have hp : 2 ^ (w + 1) = 2 * 2 ^ w := by rw [Nat.pow_succ]; omega
  unfold nxN
  rw [show 2 * x1 + b + 2 ^ (w + 1) - (2 * s1 + b) = 2 * (x1 + 2 ^ w - s1) + 0 by omega, and_dbl _ _ _ _ (by omega) hb]
  omega
theorem nx_odd {w s1 x1 : Nat} (hs : s1 < 2 ^ w) (hx : x1 &&& s1 = x1) : nxN (w + 1) (2 * s1 + 1) (2 * x1) = 2 * x1 + 1 := by
  have hp : 2 ^ (w + 1) = 2 * 2 ^ w := by rw [Nat.pow_succ]; omega
  have hle : x1 ≤ s1 := by rw [← hx]; exact Nat.and_le_right
  have h := add_not_and w s1 x1 hs hx
  unfold nxN
  rw [show 2 * x1 + 2 ^ (w + 1) - (2 * s1 + 1) = 2 * (x1 + (2 ^ w - 1 - s1)) + 1 by omega, and_dbl _ _ _ _ (by omega) (by omega), h]
theorem ch_even (w s1 : Nat) (hs : s1 < 2 ^ w) : ∀ (l : List Nat) (x : Nat), chN w s1 x l → chN (w + 1) (2 * s1) (2 * x) (l.map fun y => 2 * y)
  | [], x, h => h.elim
  | y :: r, x, ⟨h1, h2, h3⟩ => by
    subst h1
    have hle : y ≤ s1 := by rw [← h2]; exact Nat.and_le_right
    have e2 : 2 * y &&& 2 * s1 = 2 * y := by
      have := and_dbl y s1 0 0 (by omega) (by omega)
      rw [h2] at this; simpa using this
    cases r with
    | nil =>
      have h3 : y = s1 := h3
      exact ⟨rfl, e2, by show 2 * y = 2 * s1; rw [h3]⟩
    | cons z r2 =>
      obtain ⟨h4, h5, h6⟩ := h3
      have en : nxN (w + 1) (2 * s1) (2 * y) = 2 * nxN w s1 y := nx_low (b := 0) (by omega) hs hle
      refine ⟨rfl, e2, ?_⟩
      show 2 * y < 2 * s1 ∧ 2 * y < nxN (w + 1) (2 * s1) (2 * y) ∧ chN (w + 1) (2 * s1) (nxN (w + 1) (2 * s1) (2 * y)) ((z :: r2).map fun y => 2 * y)
      rw [en]
      exact ⟨by omega, by omega, ch_even w s1 hs (z :: r2) _ h6⟩
theorem ch_odd (w s1 : Nat) (hs : s1 < 2 ^ w) : ∀ (l : List Nat) (x : Nat), chN w s1 x l → chN (w + 1) (2 * s1 + 1) (2 * x) (l.flatMap fun y => [2 * y, 2 * y + 1])
  | [], x, h => h.elim
  | y :: r, x, ⟨h1, h2, h3⟩ => by
    subst h1
    have hle : y ≤ s1 := by rw [← h2]; exact Nat.and_le_right
    have e2 : 2 * y &&& (2 * s1 + 1) = 2 * y := by
      have := and_dbl y s1 0 1 (by omega) (by omega)
      rw [h2] at this; simpa using this
    have e3 : (2 * y + 1) &&& (2 * s1 + 1) = 2 * y + 1 := by
      have := and_dbl y s1 1 1 (by omega) (by omega)
      rw [h2] at this; simpa using this
    have e4 := nx_odd hs h2
    cases r with
    | nil =>
      have h3 : y = s1 := h3
      show chN (w + 1) (2 * s1 + 1) (2 * y) [2 * y, 2 * y + 1]
      refine ⟨rfl, e2, ?_⟩
      show 2 * y < 2 * s1 + 1 ∧ 2 * y < nxN (w + 1) (2 * s1 + 1) (2 * y) ∧ chN (w + 1) (2 * s1 + 1) (nxN (w + 1) (2 * s1 + 1) (2 * y)) [2 * y + 1]
      rw [e4]
      exact ⟨by omega, by omega, rfl, e3, by show 2 * y + 1 = 2 * s1 + 1; rw [h3]⟩
    | cons z r2 =>
      obtain ⟨h4, h5, h6⟩ := h3
      have en : nxN (w + 1) (2 * s1 + 1) (2 * y + 1) = 2 * nxN w s1 y := nx_low (b := 1) (by omega) hs hle
      have ih := ch_odd w s1 hs (z :: r2) _ h6
      show chN (w + 1) (2 * s1 + 1) (2 * y) (2 * y :: (2 * y + 1) :: 2 * z :: (2 * z + 1) :: r2.flatMap fun y => [2 * y, 2 * y + 1])
      refine ⟨rfl, e2, ?_⟩
      show 2 * y < 2 * s1 + 1 ∧ 2 * y < nxN (w + 1) (2 * s1 + 1) (2 * y) ∧ chN (w + 1) (2 * s1 + 1) (nxN (w + 1) (2 * s1 + 1) (2 * y)) ((2 * y + 1) :: 2 * z :: (2 * z + 1) :: r2.flatMap fun y => [2 * y, 2 * y + 1])
      rw [e4]
      refine ⟨by omega, by omega, rfl, e3, ?_⟩
      show 2 * y + 1 < 2 * s1 + 1 ∧ 2 * y + 1 < nxN (w + 1) (2 * s1 + 1) (2 * y + 1) ∧ chN (w + 1) (2 * s1 + 1) (nxN (w + 1) (2 * s1 + 1) (2 * y + 1)) (2 * z :: (2 * z + 1) :: r2.flatMap fun y => [2 * y, 2 * y + 1])
      rw [en]
      exact ⟨by omega, by omega, ih⟩
theorem ch_sub (w : Nat) : ∀ s, s < 2 ^ w → chN w s 0 (subR w s) := by
  induction w with
  | zero => intro s hs; exact ⟨rfl, Nat.zero_and _, by show 0 = s; simp at hs; omega⟩
  | succ w ih =>
    intro s hs
    rw [subR_low]
    have hp : 2 ^ (w + 1) = 2 * 2 ^ w := by rw [Nat.pow_succ]; omega
    have h := ih (s / 2) (by omega)
    unfold dbl
    rw [Nat.testBit_zero]
    by_cases hb : s % 2 = 1
    · have := ch_odd w (s / 2) (by omega) _ _ h
      rw [show 2 * (s / 2) + 1 = s by omega] at this
      rw [if_pos (by simpa using hb)]
      exact this
    · have := ch_even w (s / 2) (by omega) _ _ h
      rw [show 2 * (s / 2) = s by omega] at this
      rw [if_neg (by simpa using hb)]
      exact this
/-- The set's subsets, rising. -/
def subsS (s : Int) : List Int := (subR 64 s.toNat).map fun (n : Nat) => (n : Int)
theorem next_nat {s x : Nat} (hs : s < 2 ^ 64) (hx : x < s) : nextS (s : Int) (x : Int) = ((nxN 64 s x : Nat) : Int) := by
  have h64 : (2 : Nat) ^ 64 = 18446744073709551616 := by decide
  unfold nextS nxN
  have e : IntKind.u64.wrap ((x : Int) - (s : Int)) = ((x + 2 ^ 64 - s : Nat) : Int) := by
    rw [IntKind.wrap_u64, h64]
    omega
  rw [e, u64_and_nat _ _ (by omega) (by omega)]
theorem chS_of {s : Nat} (hs : s < 2 ^ 64) : ∀ (l : List Nat) (x : Nat), chN 64 s x l → chainS (s : Int) (x : Int) (l.map fun (n : Nat) => (n : Int))
  | [], x, h => h.elim
  | y :: r, x, ⟨h1, h2, h3⟩ => by
    subst h1
    have hle : y ≤ s := by rw [← h2]; exact Nat.and_le_right
    cases r with
    | nil =>
      have h3 : y = s := h3
      exact ⟨rfl, by omega, by show (y : Int) = s; rw [h3]⟩
    | cons z r2 =>
      obtain ⟨h4, h5, h6⟩ := h3
      have ih := chS_of hs (z :: r2) _ h6
      refine ⟨rfl, by omega, ?_⟩
      show (y : Int) ≠ s ∧ (y : Int) < nextS s y ∧ chainS s (nextS s y) ((z :: r2).map fun (n : Nat) => (n : Int))
      rw [next_nat hs h4]
      exact ⟨by omega, by omega, ih⟩
theorem chain_subs {s : Int} (hs : U64 s) : chainS s 0 (subsS s) := by
  obtain ⟨n, rfl⟩ : ∃ n : Nat, s = n := ⟨s.toNat, by have := hs.1; omega⟩
  have hn := nat_lt hs
  rw [Int.toNat_natCast] at hn
  have := chS_of hn _ _ (ch_sub 64 n hn)
  unfold subsS
  rw [Int.toNat_natCast]
  exact this
end Go.Proofs.YtmcapemlfplcgaaDoor.R02
/- Folder 02, plain: the document's subsets. -/
namespace Go.Proofs.YtmcapemlfplcgaaDoor.R02
open Go.RowKit Go.Proofs.YtmcapemlfplcgaaDoor.Ult Go.Proofs.YtmcapemlfplcgaaDoor.AtM Go.Proofs.YtmcapemlfplcgaaDoor.H Go.Proofs.YtmcapemlfplcgaaDoor.PAll2 Go.Proofs.YtmcapemlfplcgaaDoorW.PrintWords Go.Proofs.YtmcapemlfplcgaaDoorW.PrintLast Go.Proofs.YtmcapemlfplcgaaDoorW.PrintMore
set_option linter.unusedVariables false
set_option linter.unusedSimpArgs false
set_option maxRecDepth 100000
def zs (l : List Nat) : List Int := l.map fun (n : Nat) => (n : Int)
theorem zs_len (l : List Nat) : (zs l).length = l.length := List.length_map _
theorem zs_rd {l : List Nat} {i : Nat} (h : i < l.length) : rd (zs l) (i : Int) = (l[i] : Int) := by
  unfold rd zs
  simp [List.getD_eq_getElem?_getD, List.getElem?_eq_getElem h]
theorem zs_append (l m : List Nat) : zs l ++ zs m = zs (l ++ m) := by unfold zs; simp
def bitsN (s : Nat) : List Nat := (List.range 64).filter fun i => s.testBit i
theorem listS_bits (s : Int) : listS s = zs (bitsN s.toNat) := rfl
theorem filt1 (p : Nat → Bool) (a : Nat) : [a].filter p = if p a = true then [a] else [] := by
  cases h : p a <;> simp [h]
/-- The subsets, item for item. -/
def subF (acc : List Nat) (items : List Nat) : List Nat := items.foldl (fun acc i => acc ++ acc.map (· + 2 ^ i)) acc
theorem subR_fold (s : Nat) : ∀ w, subR w s = subF [0] ((List.range w).filter fun i => s.testBit i) := by
  intro w
  induction w with
  | zero => rfl
  | succ w ih =>
    rw [List.range_succ, List.filter_append, filt1, subR, ih]
    unfold subF
    rw [List.foldl_append]
    by_cases h : s.testBit w = true
    · rw [if_pos h, if_pos h]; rfl
    · rw [if_neg h, if_neg h]; rfl
theorem subR_lt (s : Nat) : ∀ w, ∀ e ∈ subR w s, e < 2 ^ w := by
  intro w
  induction w with
  | zero => intro e he; rw [List.mem_singleton.1 he]; decide
  | succ w ih =>
    intro e he
    have hp : 2 ^ (w + 1) = 2 ^ w + 2 ^ w := by rw [Nat.pow_succ]; omega
    rw [subR] at he
    split at he
    · rcases List.mem_append.1 he with h | h
      · have := ih e h; omega
      · obtain ⟨y, hy, rfl⟩ := List.mem_map.1 h
        have := ih y hy; omega
    · have := ih e he; omega
theorem subR_len (s : Nat) : ∀ w, (subR w s).length = 2 ^ ((List.range w).filter fun i => s.testBit i).length := by
  intro w
  induction w with
  | zero => rfl
  | succ w ih =>
    rw [List.range_succ, List.filter_append, filt1, subR]
    by_cases h : s.testBit w = true
    · rw [if_pos h, if_pos h, List.length_append, List.length_map, ih, List.length_append, List.length_singleton, Nat.pow_succ]; omega
    · rw [if_neg h, if_neg h, ih]; simp
theorem bits_len (s : Int) : (bitsN s.toNat).length = pcS s := by
  rw [← zs_len, ← listS_bits, listS_len]
theorem subsS_len (s : Int) : (subsS s).length = 2 ^ pcS s := by
  unfold subsS
  rw [List.length_map, subR_len, ← bits_len]; rfl
theorem subsS_u {s : Int} : ∀ x ∈ subsS s, U64 x := by
  intro x hx
  obtain ⟨n, hn, rfl⟩ := List.mem_map.1 hx
  have := subR_lt _ _ n hn
  have h64 : (2 : Nat) ^ 64 = 18446744073709551616 := by decide
  unfold U64; omega
/-- One item's round. -/
theorem subs_l1 (items : List Nat) (idx i : Nat) (acc : List Nat) (R : List Int) (hi : items[idx]? = some i) (hi6 : i < 64) (hb : ∀ e ∈ acc, e < 2 ^ i) (hl : acc.length ≤ 100000) (hx : idx ≤ 100)
    (hn : Ult (fun k => saleroomref02_Subsets.l0 k (zs (acc ++ acc.map (· + 2 ^ i))) (zs items) ((idx + 1 : Nat) : Int)) R) :
    ∀ (d j : Nat), j + d = acc.length → Ult (fun k => saleroomref02_Subsets.l1 k (zs (acc ++ (acc.take j).map (· + 2 ^ i))) (zs items) (idx : Int) (acc.length : Int) (j : Int)) R := by
  have hxl : idx < items.length := by
    rcases Nat.lt_or_ge idx items.length with h | h
    · exact h
    · rw [List.getElem?_eq_none h] at hi; cases hi
  have hrd : rd (zs items) (idx : Int) = (i : Int) := by
    rw [zs_rd hxl]
    rw [List.getElem?_eq_getElem hxl] at hi
    injection hi with hi; rw [hi]
  intro d
  induction d with
  | zero =>
    intro j hj
    refine Ult.succ ?_
    simp only [saleroomref02_Subsets.l1]
    refine Ult.neg (by omega) ?_
    rw [List.take_of_length_le (by omega), show wrap64 ((idx : Int) + 1) = ((idx + 1 : Nat) : Int) by rw [w64 (by omega) (by omega)]; rfl]
    exact hn
  | succ d ih =>
    intro j hj
    have hjl : j < acc.length := by omega
    have hle : (acc ++ (acc.take j).map (· + 2 ^ i)).length = acc.length + j := by simp; omega
    refine Ult.succ ?_
    simp only [saleroomref02_Subsets.l1]
    refine Ult.pos (by omega) (Ult.pos (by omega) (Ult.pos (by rw [zs_len, hle]; omega) (Ult.pos (by omega) (Ult.pos (by rw [zs_len]; omega) ?_))))
    rw [hrd]
    refine Ult.bind (one_ev i (by omega)) ?_
    refine Ult.pos (by rw [zs_len, hle]; omega) ?_
    rw [show wrap64 ((j : Int) + 1) = ((j + 1 : Nat) : Int) by rw [w64 (by omega) (by omega)]; rfl]
    have hr2 : rd (zs (acc ++ (acc.take j).map (· + 2 ^ i))) (j : Int) = (acc[j] : Int) := by
      rw [zs_rd (by rw [hle]; omega), List.getElem_append_left hjl]
    rw [hr2]
    have hel := hb acc[j] (List.getElem_mem hjl)
    have hp := pow63 (i := i) (by omega)
    have ew : IntKind.u64.wrap ((acc[j] : Int) + oneN i) = ((acc[j] + 2 ^ i : Nat) : Int) := by
      unfold oneN
      rw [IntKind.wrap_u64]
      generalize 2 ^ i = p at hp hel ⊢
      omega
    rw [ew]
    have e3 : zs (acc ++ (acc.take j).map (· + 2 ^ i)) ++ [((acc[j] + 2 ^ i : Nat) : Int)] = zs (acc ++ (acc.take (j + 1)).map (· + 2 ^ i)) := by
      rw [show [((acc[j] + 2 ^ i : Nat) : Int)] = zs [acc[j] + 2 ^ i] from rfl, zs_append, List.take_succ_eq_append_getElem hjl, List.map_append, List.append_assoc]
      rfl
    rw [e3]
    exact ih (j + 1) (by omega)
theorem subs_l0 (items : List Nat) (hlen : items.length ≤ 64) (h6 : ∀ i ∈ items, i < 64) (hs : items.Pairwise (· < ·)) : ∀ (d idx : Nat) (acc : List Nat), idx + d = items.length → acc.length * 2 ^ d ≤ 1024 → (∀ e ∈ acc, ∀ i ∈ items.drop idx, e < 2 ^ i) →
    Ult (fun k => saleroomref02_Subsets.l0 k (zs acc) (zs items) (idx : Int)) (zs (subF acc (items.drop idx))) := by
  intro d
  induction d with
  | zero =>
    intro idx acc hi hl hb
    refine Ult.succ ?_
    simp only [saleroomref02_Subsets.l0]
    refine Ult.neg (by rw [zs_len]; omega) (Ult.const ?_)
    rw [List.drop_of_length_le (by omega)]; rfl
  | succ d ih =>
    intro idx acc hi hl hb
    have hil : idx < items.length := by omega
    refine Ult.succ ?_
    simp only [saleroomref02_Subsets.l0]
    refine Ult.pos (by rw [zs_len]; omega) ?_
    have hd : items.drop idx = items[idx] :: items.drop (idx + 1) := List.drop_eq_getElem_cons hil
    have hmem : items[idx] ∈ items := List.getElem_mem hil
    have hp1 : 1 ≤ 2 ^ d := Nat.pow_pos (by decide)
    rw [Nat.pow_succ] at hl
    have hal : acc.length ≤ 1024 := by
      have : acc.length * 1 ≤ acc.length * (2 ^ d * 2) := Nat.mul_le_mul_left _ (by omega)
      omega
    have hbi : ∀ e ∈ acc, e < 2 ^ items[idx] := fun e he => hb e he _ (by rw [hd]; exact List.mem_cons_self)
    have h1 := subs_l1 items idx items[idx] acc (zs (subF acc (items.drop idx))) (List.getElem?_eq_getElem hil) (h6 _ hmem) hbi (by omega) (by omega) (by
      have h2 := ih (idx + 1) (acc ++ acc.map (· + 2 ^ items[idx])) (by omega) (by
        rw [List.length_append, List.length_map]
        have : (acc.length + acc.length) * 2 ^ d = acc.length * (2 ^ d * 2) := by rw [← Nat.two_mul, Nat.mul_comm 2, Nat.mul_assoc, Nat.mul_comm 2]
        omega) (by
        intro e he i him
        have hlt : items[idx] < i := by
          have hs2 := hs.sublist (List.drop_sublist idx items)
          rw [hd] at hs2
          exact (List.pairwise_cons.1 hs2).1 i him
        have hpw : 2 ^ (items[idx] + 1) ≤ 2 ^ i := Nat.pow_le_pow_right (by decide) hlt
        rw [Nat.pow_succ] at hpw
        rcases List.mem_append.1 he with h | h
        · have := hbi e h; omega
        · obtain ⟨y, hy, rfl⟩ := List.mem_map.1 h
          have := hbi y hy
          show y + 2 ^ items[idx] < 2 ^ i
          omega)
      have e4 : subF acc (items.drop idx) = subF (acc ++ acc.map (· + 2 ^ items[idx])) (items.drop (idx + 1)) := by rw [hd]; rfl
      rw [e4]
      exact h2) acc.length 0 (by omega)
    simp only [List.take_zero, List.map_nil, List.append_nil] at h1
    have e5 : ((zs acc).length : Int) = (acc.length : Int) := by rw [zs_len]
    rw [e5]
    exact h1
theorem bits_sorted (s : Nat) : (bitsN s).Pairwise (· < ·) := List.pairwise_lt_range.filter _
theorem subsets_ev (s : Int) (hs : U64 s) (hc : pcS s ≤ 10) : Ult (fun k => saleroomref02_Subsets.f k s) (subsS s) := by
  unfold saleroomref02_Subsets.f
  refine Ult.bind (list_ev s hs) ?_
  have hbl := bits_len s
  have h := subs_l0 (bitsN s.toNat) (by omega) (fun i hi => List.mem_range.1 (List.mem_filter.1 hi).1) (bits_sorted _) (bitsN s.toNat).length 0 [0] (by omega) (by
    rw [hbl]
    have : 2 ^ pcS s ≤ 2 ^ 10 := Nat.pow_le_pow_right (by decide) hc
    simp; omega) (by
    intro e he i _
    rw [List.mem_singleton.1 he]
    exact Nat.pow_pos (by decide))
  rw [List.drop_zero] at h
  have e : zs (subF [0] (bitsN s.toNat)) = subsS s := by
    unfold subsS zs
    rw [subR_fold]; rfl
  rw [e] at h
  exact h
end Go.Proofs.YtmcapemlfplcgaaDoor.R02
