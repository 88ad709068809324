/- Some texts of one seat in one file, in build order. -/
import Derived.Test.YtmcapemlfplcgaaDoorG16
import Derived.Test.YtmcapemlfplcgaaDoorG13
import Derived.Test.YtmcapemlfplcgaaDoorG1
import Derived.Test.YtmcapemlfplcgaaDoorRows
import Derived.Test.YtmcapemlfplcgaaDoorG7
import Derived.ProofKit
import Derived.LaidMore
import Derived.OpenShut
import Derived.Stop.Joined
/- Folder 02, plain: Has, Full, Apart, Within, lists told the same. -/
namespace Go.Proofs.YtmcapemlfplcgaaDoor.R02
open Go.RowKit Go.Proofs.YtmcapemlfplcgaaDoor.Ult Go.Proofs.YtmcapemlfplcgaaDoor.AtM Go.Proofs.YtmcapemlfplcgaaDoor.PAll2 Go.Proofs.YtmcapemlfplcgaaDoorW.PrintWords Go.Proofs.YtmcapemlfplcgaaDoorW.PrintLast Go.Proofs.YtmcapemlfplcgaaDoorW.PrintMore
set_option linter.unusedVariables false
set_option linter.unusedSimpArgs false
set_option maxRecDepth 100000
def hasS (a n : Int) : Bool := decide (0 ≤ n ∧ n ≤ 63) && a.toNat.testBit n.toNat
theorem has_f (a n : Int) (ha : U64 a) : set_Has.f a n = some (hasS a n) := by
  unfold set_Has.f hasS
  rw [item_f, Option.bind_some]
  by_cases h : 0 ≤ n ∧ n ≤ 63
  · rw [decide_eq_true h, if_pos rfl, if_pos h.1, Bool.true_and]
    congr 1
    unfold shr
    obtain ⟨m, rfl⟩ : ∃ m : Nat, n = m := ⟨n.toNat, by omega⟩
    obtain ⟨b, rfl⟩ : ∃ b : Nat, a = b := ⟨a.toNat, by have := ha.1; omega⟩
    rw [Int.toNat_natCast, Int.toNat_natCast, show min m IntKind.u64.bits = m by simp [IntKind.bits]; omega, show ((b : Int) / 2 ^ m) = ((b / 2 ^ m : Nat) : Int) by norm_cast]
    have hb := nat_lt ha
    rw [Int.toNat_natCast] at hb
    have h64 : (2 : Nat) ^ 64 = 18446744073709551616 := by decide
    have hd : b / 2 ^ m ≤ b := Nat.div_le_self _ _
    rw [show (1 : Int) = ((1 : Nat) : Int) from rfl, u64_and_nat _ _ (by omega) (by decide), Nat.testBit_eq_decide_div_mod_eq, Nat.and_one_is_mod]
    apply Bool.eq_iff_iff.2
    rw [beq_iff_eq, decide_eq_true_iff]
    omega
  · rw [decide_eq_false h, Bool.false_and]; rfl
theorem rhas_ev (a n : Int) (ha : U64 a) : Ult (fun k => saleroomref02_Has.f k a n) (hasS a n) := has_ev a n ha
def fullS (n : Int) : Int := ((2 ^ (min n.toNat 64) - 1 : Nat) : Int)
theorem full_f (n : Int) : set_Full.f n = some (fullS n) := by
  unfold set_Full.f fullS
  by_cases h0 : n ≤ 0
  · rw [if_pos h0, show n.toNat = 0 by omega]; rfl
  · rw [if_neg h0]
    by_cases h1 : n ≥ 64
    · rw [if_pos h1, show min n.toNat 64 = 64 by omega]; rfl
    · rw [if_neg h1, if_pos (by omega), shl_one (by omega), show min n.toNat 64 = n.toNat by omega, IntKind.wrap_u64]
      have hp := pow63 (i := n.toNat) (by omega)
      have hq : 0 < 2 ^ n.toNat := Nat.pow_pos (by decide)
      congr 1
      generalize 2 ^ n.toNat = p at hp hq ⊢
      omega
theorem full_step {k : Nat} (h : k ≤ 63) : IntKind.u64.wrap (fullS (k : Int) + oneN k) = fullS ((k + 1 : Nat) : Int) := by
  unfold fullS oneN
  rw [Int.toNat_natCast, Int.toNat_natCast, show min k 64 = k by omega, show min (k + 1) 64 = k + 1 by omega, Nat.pow_succ, IntKind.wrap_u64]
  have hp := pow63 h
  have hq : 0 < 2 ^ k := Nat.pow_pos (by decide)
  generalize 2 ^ k = p at hp hq ⊢
  omega
theorem within_f {a b : Int} (ha : U64 a) (hb : U64 b) : set_Within.f a b = some (wthB a b) := by
  unfold set_Within.f
  congr 1
  have h64 : (2 : Nat) ^ 64 = 18446744073709551616 := by decide
  have hbn := nat_lt hb
  have han := nat_lt ha
  rw [u64_andNot a b ha.1 ha.2 hb.1 hb.2]
  have e1 : 18446744073709551615 - b.toNat = 2 ^ 64 - (b.toNat + 1) := by omega
  rw [e1]
  apply Bool.eq_iff_iff.2
  rw [beq_iff_eq, wth_iff]
  constructor
  · intro h i hi
    have h0 : a.toNat &&& (2 ^ 64 - (b.toNat + 1)) = 0 := by omega
    have h1 := congrArg (fun n => n.testBit i) h0
    simp only [Nat.testBit_and, Nat.zero_testBit, Nat.testBit_two_pow_sub_succ hbn, hi, Bool.true_and, testBit_big han hi, decide_true] at h1
    simpa using h1
  · intro h
    have : a.toNat &&& (2 ^ 64 - (b.toNat + 1)) = 0 := by
      apply Nat.eq_of_testBit_eq
      intro i
      rw [Nat.testBit_and, Nat.testBit_two_pow_sub_succ hbn, Nat.zero_testBit]
      cases hi : a.toNat.testBit i with
      | false => rfl
      | true => rw [h i hi]; simp
    rw [this]; rfl
def aptB (a b : Int) : Bool := decide (a.toNat &&& b.toNat = 0)
theorem apt_iff (a b : Int) : aptB a b = true ↔ ∀ i, a.toNat.testBit i = true → b.toNat.testBit i = false := by
  unfold aptB
  rw [decide_eq_true_iff]
  constructor
  · intro h i hi
    have h1 := congrArg (fun n => n.testBit i) h
    simp only [Nat.testBit_and, Nat.zero_testBit, hi, Bool.true_and] at h1
    exact h1
  · intro h
    apply Nat.eq_of_testBit_eq
    intro i
    rw [Nat.testBit_and, Nat.zero_testBit]
    cases hi : a.toNat.testBit i with
    | false => rfl
    | true => rw [h i hi]; rfl
theorem apart_f {a b : Int} (ha : U64 a) (hb : U64 b) : set_Apart.f a b = some (aptB a b) := by
  unfold set_Apart.f aptB
  rw [u64_and a b ha.1 ha.2 hb.1 hb.2]
  congr 1
  apply Bool.eq_iff_iff.2
  rw [beq_iff_eq, decide_eq_true_iff]
  omega
theorem rapart_l0 (x y : Int) (hx : U64 x) (hy : U64 y) : ∀ (d i : Nat), i + d = 64 → (∀ j, j < i → x.toNat.testBit j = true → y.toNat.testBit j = false) → Ult (fun k => saleroomref02_Apart.l0 k x y (i : Int)) (aptB x y) := by
  intro d
  induction d with
  | zero =>
    intro i hi hall
    refine Ult.succ ?_
    simp only [saleroomref02_Apart.l0]
    refine Ult.neg (by omega) (Ult.const ?_)
    congr 1
    symm
    rw [apt_iff]
    intro j hj
    exact hall j (by have := testBit_big (nat_lt hx) hj; omega) hj
  | succ d ih =>
    intro i hi hall
    refine Ult.succ ?_
    simp only [saleroomref02_Apart.l0]
    refine Ult.pos (by omega) ?_
    rw [show wrap64 ((i : Int) + 1) = ((i + 1 : Nat) : Int) by rw [w64 (by omega) (by omega)]; rfl]
    refine Ult.bind (has_item x i hx (by omega)) ?_
    refine Ult.ite (fun h => ?_) (fun h => ?_)
    · refine Ult.bind (has_item y i hy (by omega)) ?_
      refine Ult.ite (fun h2 => Ult.const ?_) (fun h2 => ?_)
      · congr 1
        cases hb : aptB x y with
        | false => rfl
        | true => rw [(apt_iff x y).1 hb i h] at h2; cases h2
      · refine ih (i + 1) (by omega) fun j hj hjx => ?_
        rcases Nat.lt_or_ge j i with h3 | h3
        · exact hall j h3 hjx
        · obtain rfl : j = i := by omega
          simpa using h2
    · refine ih (i + 1) (by omega) fun j hj hjx => ?_
      rcases Nat.lt_or_ge j i with h3 | h3
      · exact hall j h3 hjx
      · obtain rfl : j = i := by omega
        exact absurd hjx h
theorem rapart_ev (x y : Int) (hx : U64 x) (hy : U64 y) : Ult (fun k => saleroomref02_Apart.f k x y) (aptB x y) := rapart_l0 x y hx hy 64 0 rfl (fun j hj => by omega)
theorem sameInts_ev (l : List Int) (hl : l.length ≤ 600000) : Ult (fun k => saleroomref01_SameInts.f k l l) true := by
  have h : ∀ (d i : Nat), i + d = l.length → Ult (fun k => saleroomref01_SameInts.l0 k l l (i : Int)) true := by
    intro d
    induction d with
    | zero => intro i hi; refine Ult.succ ?_; simp only [saleroomref01_SameInts.l0]; exact Ult.neg (by omega) (Ult.const rfl)
    | succ d ih =>
      intro i hi; refine Ult.succ ?_; simp only [saleroomref01_SameInts.l0]
      rw [show wrap64 ((i : Int) + 1) = ((i + 1 : Nat) : Int) by rw [w64 (by omega) (by omega)]; rfl]
      exact Ult.pos (by omega) (Ult.pos (by omega) (Ult.pos (by omega) (Ult.pos (by trivial) (ih (i + 1) (by omega)))))
  unfold saleroomref01_SameInts.f
  exact Ult.pos rfl (h l.length 0 (by omega))
theorem sameSets_ev (l : List Int) (hl : l.length ≤ 600000) : Ult (fun k => saleroomref01_SameSets.f k l l) true := by
  have h : ∀ (d i : Nat), i + d = l.length → Ult (fun k => saleroomref01_SameSets.l0 k l l (i : Int)) true := by
    intro d
    induction d with
    | zero => intro i hi; refine Ult.succ ?_; simp only [saleroomref01_SameSets.l0]; exact Ult.neg (by omega) (Ult.const rfl)
    | succ d ih =>
      intro i hi; refine Ult.succ ?_; simp only [saleroomref01_SameSets.l0]
      rw [show wrap64 ((i : Int) + 1) = ((i + 1 : Nat) : Int) by rw [w64 (by omega) (by omega)]; rfl]
      exact Ult.pos (by omega) (Ult.pos (by omega) (Ult.pos (by omega) (Ult.pos (by trivial) (ih (i + 1) (by omega)))))
  unfold saleroomref01_SameSets.f
  exact Ult.pos rfl (h l.length 0 (by omega))
theorem sameNums_ev (l : List Int) (hl : l.length ≤ 600000) : Ult (fun k => saleroomref01_SameNums.f k l l) true := by
  have h : ∀ (d i : Nat), i + d = l.length → Ult (fun k => saleroomref01_SameNums.l0 k l l (i : Int)) true := by
    intro d
    induction d with
    | zero => intro i hi; refine Ult.succ ?_; simp only [saleroomref01_SameNums.l0]; exact Ult.neg (by omega) (Ult.const rfl)
    | succ d ih =>
      intro i hi; refine Ult.succ ?_; simp only [saleroomref01_SameNums.l0]
      rw [show wrap64 ((i : Int) + 1) = ((i + 1 : Nat) : Int) by rw [w64 (by omega) (by omega)]; rfl]
      exact Ult.pos (by omega) (Ult.pos (by omega) (Ult.pos (by omega) (Ult.pos (by trivial) (ih (i + 1) (by omega)))))
  unfold saleroomref01_SameNums.f
  exact Ult.pos rfl (h l.length 0 (by omega))
end Go.Proofs.YtmcapemlfplcgaaDoor.R02
/- Folder 02: the document's functions, with named answers. -/
namespace Go.Proofs.YtmcapemlfplcgaaDoor.H
open Go.RowKit Go.Proofs.YtmcapemlfplcgaaDoorW.PrintWords Go.Proofs.YtmcapemlfplcgaaDoorW.PrintLast Go.Proofs.YtmcapemlfplcgaaDoorW.PrintMore Go.Proofs.YtmcapemlfplcgaaDoor.AtM Go.Proofs.YtmcapemlfplcgaaDoor.R02 Go.Proofs.YtmcapemlfplcgaaDoor.Ult
set_option linter.unusedVariables false
set_option linter.unusedSimpArgs false
set_option maxRecDepth 100000
theorem wf2_u64 {x : Int} (h : (Lit.int .u64 x).wf = true) : U64 x := by
  simp [Lit.wf, IntKind.min, IntKind.max, IntKind.signed, IntKind.bits] at h
  unfold U64; omega
theorem wf2_i64 {x : Int} (h : (Lit.int .i64 x).wf = true) : -9223372036854775808 ≤ x ∧ x ≤ 9223372036854775807 := by
  simp [Lit.wf, IntKind.min, IntKind.max, IntKind.signed, IntKind.bits] at h
  omega
theorem SHas_eq (a n : Int) (W : World) (ha : U64 a) : Calls Tryd.prog 12 #[.int .u64 a, .int .i64 n] W fun e W' => e = .returned (.bool (hasS a n)) ∧ Below W.heap.size W W' := Has_eq a n _ W (has_f a n ha)
theorem SFull_eq (n : Int) (W : World) : Calls Tryd.prog 22 #[.int .i64 n] W fun e W' => e = .returned (.int .u64 (fullS n)) ∧ Below W.heap.size W W' := Full_eq n _ W (full_f n)
theorem SWithin_eq (a b : Int) (W : World) (ha : U64 a) (hb : U64 b) : Calls Tryd.prog 16 #[.int .u64 a, .int .u64 b] W fun e W' => e = .returned (.bool (wthB a b)) ∧ Below W.heap.size W W' := Within_eq a b _ W (within_f ha hb)
theorem SApart_eq (a b : Int) (W : World) (ha : U64 a) (hb : U64 b) : Calls Tryd.prog 18 #[.int .u64 a, .int .u64 b] W fun e W' => e = .returned (.bool (aptB a b)) ∧ Below W.heap.size W W' := Apart_eq a b _ W (apart_f ha hb)
theorem RHas_eq (a n : Int) (W : World) (ha : U64 a) : Calls Tryd.prog 13 #[.int .u64 a, .int .i64 n] W fun e W' => e = .returned (.bool (hasS a n)) ∧ Below W.heap.size W W' := by
  obtain ⟨k, hk⟩ := (rhas_ev a n ha).get
  exact (PAll2.saleroomref02_Has.calls k a n _ W hk).mono fun e W' h => ⟨h.1, by first | exact h.2.below | exact h.2⟩
theorem ROne_eq (n : Nat) (W : World) (hn : n ≤ 63) : Calls Tryd.prog 11 #[.int .i64 n] W fun e W' => e = .returned (.int .u64 (oneN n)) ∧ Below W.heap.size W W' := by
  obtain ⟨k, hk⟩ := (one_ev n hn).get
  exact (PAll2.saleroomref02_One.calls k n _ W hk).mono fun e W' h => ⟨h.1, by first | exact h.2.below | exact h.2⟩
theorem RWithin_eq (a b : Int) (W : World) (ha : U64 a) (hb : U64 b) : Calls Tryd.prog 17 #[.int .u64 a, .int .u64 b] W fun e W' => e = .returned (.bool (wthB a b)) ∧ Below W.heap.size W W' := by
  obtain ⟨k, hk⟩ := (within_ev a b ha hb).get
  exact (PAll2.saleroomref02_Within.calls k a b _ W hk).mono fun e W' h => ⟨h.1, by first | exact h.2.below | exact h.2⟩
theorem RApart_eq (a b : Int) (W : World) (ha : U64 a) (hb : U64 b) : Calls Tryd.prog 19 #[.int .u64 a, .int .u64 b] W fun e W' => e = .returned (.bool (aptB a b)) ∧ Below W.heap.size W W' := by
  obtain ⟨k, hk⟩ := (rapart_ev a b ha hb).get
  exact (PAll2.saleroomref02_Apart.calls k a b _ W hk).mono fun e W' h => ⟨h.1, by first | exact h.2.below | exact h.2⟩
theorem RCmp_eq (a b : Int) (W : World) (ha : U64 a) (hb : U64 b) : Calls Tryd.prog 21 #[.int .u64 a, .int .u64 b] W fun e W' => e = .returned (.int .i64 (cmpS a b)) ∧ Below W.heap.size W W' := by
  obtain ⟨k, hk⟩ := (cmp_ev a b ha hb).get
  exact (PAll2.saleroomref02_Cmp.calls k a b _ W hk).mono fun e W' h => ⟨h.1, by first | exact h.2.below | exact h.2⟩
theorem RList_eq (s : Int) (n : Nat) (W : World) (hs : U64 s) (h : (listS s).length = n) : Calls Tryd.prog 15 #[.int .u64 s] W fun e W' =>
    ∃ A c, e = .returned (.slice A n c) ∧ n ≤ c ∧ Kd.C (Kd.int .i64) W' A n (listS s) ∧ Below W.heap.size W W' := by
  subst h
  obtain ⟨k, hk⟩ := (list_ev s hs).get
  refine (PAll2.saleroomref02_List.calls k s _ W hk).mono ?_
  rintro e w' ⟨v, rfl, hR, hb⟩
  obtain ⟨A, c, rfl, hc, hC⟩ := R_C hR
  exact ⟨A, c, rfl, hc, hC, hb⟩
theorem SameInts_eq (l l' : List Int) (n n' : Nat) (A A' : Option Addr) (c c' : Nat) (W : World) (he : l = l') (hn : l.length = n) (hn' : l'.length = n') (hC : Kd.C (Kd.int .i64) W A n l) (hc : n ≤ c) (hC' : Kd.C (Kd.int .i64) W A' n' l') (hc' : n' ≤ c') (hl : n ≤ 600000) :
    Calls Tryd.prog 23 #[.slice A n c, .slice A' n' c'] W fun e W' => e = .returned (.bool true) ∧ Below W.heap.size W W' := by
  subst he; subst hn; subst hn'
  obtain ⟨k, hk⟩ := (sameInts_ev l hl).get
  exact (PAll2.saleroomref01_SameInts.calls k A c l A' c' l true W hC hc hC' hc' hk).mono fun e W' h => ⟨h.1, by first | exact h.2.below | exact h.2⟩
theorem SameSets_eq (l l' : List Int) (n n' : Nat) (A A' : Option Addr) (c c' : Nat) (W : World) (he : l = l') (hn : l.length = n) (hn' : l'.length = n') (hC : Kd.C (Kd.int .u64) W A n l) (hc : n ≤ c) (hC' : Kd.C (Kd.int .u64) W A' n' l') (hc' : n' ≤ c') (hl : n ≤ 600000) :
    Calls Tryd.prog 32 #[.slice A n c, .slice A' n' c'] W fun e W' => e = .returned (.bool true) ∧ Below W.heap.size W W' := by
  subst he; subst hn; subst hn'
  obtain ⟨k, hk⟩ := (sameSets_ev l hl).get
  exact (PAll2.saleroomref01_SameSets.calls k A c l A' c' l true W hC hc hC' hc' hk).mono fun e W' h => ⟨h.1, by first | exact h.2.below | exact h.2⟩
theorem SameNums_eq (l l' : List Int) (n n' : Nat) (A A' : Option Addr) (c c' : Nat) (W : World) (he : l = l') (hn : l.length = n) (hn' : l'.length = n') (hC : Kd.C (Kd.int .i64) W A n l) (hc : n ≤ c) (hC' : Kd.C (Kd.int .i64) W A' n' l') (hc' : n' ≤ c') (hl : n ≤ 600000) :
    Calls Tryd.prog 36 #[.slice A n c, .slice A' n' c'] W fun e W' => e = .returned (.bool true) ∧ Below W.heap.size W W' := by
  subst he; subst hn; subst hn'
  obtain ⟨k, hk⟩ := (sameNums_ev l hl).get
  exact (PAll2.saleroomref01_SameNums.calls k A c l A' c' l true W hC hc hC' hc' hk).mono fun e W' h => ⟨h.1, by first | exact h.2.below | exact h.2⟩
end Go.Proofs.YtmcapemlfplcgaaDoor.H
/- SetOrder: of any two sets one stands before the other. No condition but what the row lists of the variables. -/
namespace Go.Proofs.YtmcapemlfplcgaaDoor.MSetOrder
open Go.RowKit Go.Proofs.YtmcapemlfplcgaaDoorW.PrintWords Go.Proofs.YtmcapemlfplcgaaDoorW.PrintLast Go.Proofs.YtmcapemlfplcgaaDoorW.PrintMore Go.Proofs.YtmcapemlfplcgaaDoor.AtM Go.Proofs.YtmcapemlfplcgaaDoor.R02 Go.Proofs.YtmcapemlfplcgaaDoor.H
set_option linter.unusedVariables false
set_option linter.unusedSimpArgs false
set_option maxRecDepth 100000
attribute [local go_sem] Oper.semAt_some
theorem cmp_cases (a b : Int) : (cmpS a b = -1 ∧ cmpS b a = 1 ∧ a ≠ b) ∨ (cmpS a b = 0 ∧ cmpS b a = 0 ∧ a = b) ∨ (cmpS a b = 1 ∧ cmpS b a = -1 ∧ a ≠ b) := by
  unfold cmpS
  by_cases h1 : pcS a < pcS b
  · left; rw [if_pos h1, if_neg (by omega), if_pos h1]; exact ⟨rfl, rfl, fun e => by subst e; omega⟩
  · by_cases h2 : pcS b < pcS a
    · right; right; rw [if_neg h1, if_pos h2, if_pos h2]; exact ⟨rfl, rfl, fun e => by subst e; omega⟩
    · rw [if_neg h1, if_neg h2, if_neg h2, if_neg h1]
      by_cases h3 : a < b
      · left; rw [if_pos h3, if_neg (by omega), if_pos h3]; exact ⟨rfl, rfl, by omega⟩
      · by_cases h4 : b < a
        · right; right; rw [if_neg h3, if_pos h4, if_pos h4]; exact ⟨rfl, rfl, by omega⟩
        · right; left; rw [if_neg h3, if_neg h4, if_neg h4, if_neg h3]; exact ⟨rfl, rfl, by omega⟩
theorem cmp_trans {a b c : Int} (h1 : cmpS a b = -1) (h2 : cmpS b c = -1) : cmpS a c = -1 := by
  have e1 := cmp_lt a b
  have e2 := cmp_lt b c
  have e3 := cmp_lt a c
  rw [h1] at e1; rw [h2] at e2
  have e1 : ltS a b = true := by rw [← e1]; rfl
  have e2 : ltS b c = true := by rw [← e2]; rfl
  unfold ltS at e1 e2 e3
  have e1 := of_decide_eq_true e1
  have e2 := of_decide_eq_true e2
  rw [decide_eq_true (show pcS a < pcS c ∨ pcS a = pcS c ∧ a < c by omega)] at e3
  have e3 := of_decide_eq_true e3
  rcases cmp_cases a c with h | h | h <;> omega
theorem and_sub {a b : Int} (ha : U64 a) (hb : U64 b) : ∃ m, bits BinOp.and IntKind.u64 a b = m ∧ U64 m ∧ wthB m a = true ∧ (cmpS m a = -1 ∨ cmpS m a = 0) := by
  refine ⟨_, rfl, ?_⟩
  rw [u64_and a b ha.1 ha.2 hb.1 hb.2]
  have hle : a.toNat &&& b.toNat ≤ a.toNat := Nat.and_le_left
  have h1 := ha.1
  have h2 := ha.2
  have hu : U64 ((a.toNat &&& b.toNat : Nat) : Int) := by unfold U64; omega
  have hw : wthB ((a.toNat &&& b.toNat : Nat) : Int) a = true := by
    rw [wth_iff]
    intro i hi
    rw [Int.toNat_natCast, Nat.testBit_and] at hi
    simp at hi; exact hi.1
  refine ⟨hu, hw, ?_⟩
  have hp : pcS ((a.toNat &&& b.toNat : Nat) : Int) ≤ pcS a := by
    unfold pcS pcN
    exact cnt_le _ _ _ (fun i _ hi => (wth_iff _ _).1 hw i hi)
  have hc : cmpS ((a.toNat &&& b.toNat : Nat) : Int) a ≠ 1 := by
    unfold cmpS
    repeat' split
    all_goals first | omega | decide
  rcases cmp_cases ((a.toNat &&& b.toNat : Nat) : Int) a with h | h | h
  · exact .inl h.1
  · exact .inr h.1
  · exact absurd h.1 hc
theorem andNot_apt {a b : Int} (ha : U64 a) (hb : U64 b) : ∃ m, bits BinOp.andNot IntKind.u64 a b = m ∧ U64 m ∧ aptB m b = true := by
  refine ⟨_, rfl, ?_⟩
  rw [u64_andNot a b ha.1 ha.2 hb.1 hb.2]
  have hle : a.toNat &&& (18446744073709551615 - b.toNat) ≤ a.toNat := Nat.and_le_left
  have h1 := ha.1
  have h2 := ha.2
  refine ⟨by unfold U64; omega, ?_⟩
  rw [apt_iff]
  intro i hi
  have h64 : (2 : Nat) ^ 64 = 18446744073709551616 := by decide
  have hbn := nat_lt hb
  have e1 : 18446744073709551615 - b.toNat = 2 ^ 64 - (b.toNat + 1) := by omega
  rw [Int.toNat_natCast, e1, Nat.testBit_and, Nat.testBit_two_pow_sub_succ hbn] at hi
  simp at hi
  exact hi.2.2
set_option maxHeartbeats 1600000 in
theorem main (a : Int) (wa : (Lit.int .u64 a).wf = true) (b : Int) (wb : (Lit.int .u64 b).wf = true) (c : Int) (wc : (Lit.int .u64 c).wf = true) (W : World) (hT : TabE W) :
    Calls Tryd.prog 8 #[.int .u64 a, .int .u64 b, .int .u64 c] W fun e W' => e = .returned (.bool true) ∧ Below W.heap.size W W' := by
  have ha := wf2_u64 wa
  have hb := wf2_u64 wb
  have hc := wf2_u64 wc
  obtain ⟨m, hm, um, wm, cm⟩ := and_sub ha hb
  obtain ⟨d, hd, ud, ad⟩ := andNot_apt ha hb
  have HU := Aside0.mk (And.intro ha (And.intro hb (And.intro hc (And.intro um ud))))
  clear wa wb wc ha hb hc um ud
  have tail : ∀ (p q r t : Int) (eb : Bool) (hp : cmpS a b = p) (hp' : cmpS b a = -p) (he : (a == b) = eb) (hpe : (p = -1 ∧ eb = false) ∨ (p = 0 ∧ eb = true) ∨ (p = 1 ∧ eb = false)) (hq : cmpS b c = q) (hq3 : q = -1 ∨ q = 0 ∨ q = 1) (hr : cmpS a c = r) (hqr : p < 0 → q < 0 → r = -1) (ht : cmpS m a = t) (htt : t = -1 ∨ t = 0),
      Calls Tryd.prog 8 #[.int .u64 a, .int .u64 b, .int .u64 c] W fun e W' => e = .returned (.bool true) ∧ Below W.heap.size W W' := by
    intro p q r t eb hp hp' he hpe hq hq3 hr hqr ht htt
    have AL := Aside0.mk (And.intro (alive2_calls W hT) (And.intro hp (And.intro hp' (And.intro hq (And.intro hr ht)))))
    clear hp hp' hq hr ht hT cm
    have htg : decide (t ≤ 0) = true := decide_eq_true (by omega)
    have hwn : wrap64 (-(-p)) = p := by unfold wrap64; omega
    go_enter Tryd.func8, Tryd.ntmps8
    go_wp2_with (fail)
    refine AL.out.1.mono ?_
    rintro e w1 ⟨rfl, hb1⟩
    have B := Aside0.mk hb1
    clear hb1
    rcases hpe with ⟨rfl, rfl⟩ | ⟨rfl, rfl⟩ | ⟨rfl, rfl⟩
    · rcases hq3 with rfl | rfl | rfl
      · obtain rfl : r = -1 := hqr (by decide) (by decide)
        go_wp2_with (first
          | (go_at_call 20; (with_reducible refine (Cmp_eq a b _ _ HU.out.1 HU.out.2.1 AL.out.2.1).mono ?_); rintro e w' ⟨rfl, hb⟩; replace B := Aside0.mk (below_step B.out hb); clear hb)
          | (go_at_call 20; (with_reducible refine (Cmp_eq b a _ _ HU.out.2.1 HU.out.1 AL.out.2.2.1).mono ?_); rintro e w' ⟨rfl, hb⟩; replace B := Aside0.mk (below_step B.out hb); clear hb)
          | (go_at_call 20; (with_reducible refine (Cmp_eq b c _ _ HU.out.2.1 HU.out.2.2.1 AL.out.2.2.2.1).mono ?_); rintro e w' ⟨rfl, hb⟩; replace B := Aside0.mk (below_step B.out hb); clear hb)
          | (go_at_call 20; (with_reducible refine (Cmp_eq a c _ _ HU.out.1 HU.out.2.2.1 AL.out.2.2.2.2.1).mono ?_); rintro e w' ⟨rfl, hb⟩; replace B := Aside0.mk (below_step B.out hb); clear hb)
          | (go_at_call 20; (with_reducible refine (Cmp_eq m a _ _ HU.out.2.2.2.1 HU.out.1 AL.out.2.2.2.2.2).mono ?_); rintro e w' ⟨rfl, hb⟩; replace B := Aside0.mk (below_step B.out hb); clear hb)
          | (go_at_call 16; (with_reducible refine (SWithin_eq m a _ HU.out.2.2.2.1 HU.out.1).mono ?_); rintro e w' ⟨rfl, hb⟩; replace B := Aside0.mk (below_step B.out hb); clear hb)
          | (go_at_call 18; (with_reducible refine (SApart_eq d b _ HU.out.2.2.2.2 HU.out.2.1).mono ?_); rintro e w' ⟨rfl, hb⟩; replace B := Aside0.mk (below_step B.out hb); clear hb))
        go_ret
        exact ⟨by simp [wm, ad], B.out⟩
      · skip
        go_wp2_with (first
          | (go_at_call 20; (with_reducible refine (Cmp_eq a b _ _ HU.out.1 HU.out.2.1 AL.out.2.1).mono ?_); rintro e w' ⟨rfl, hb⟩; replace B := Aside0.mk (below_step B.out hb); clear hb)
          | (go_at_call 20; (with_reducible refine (Cmp_eq b a _ _ HU.out.2.1 HU.out.1 AL.out.2.2.1).mono ?_); rintro e w' ⟨rfl, hb⟩; replace B := Aside0.mk (below_step B.out hb); clear hb)
          | (go_at_call 20; (with_reducible refine (Cmp_eq b c _ _ HU.out.2.1 HU.out.2.2.1 AL.out.2.2.2.1).mono ?_); rintro e w' ⟨rfl, hb⟩; replace B := Aside0.mk (below_step B.out hb); clear hb)
          | (go_at_call 20; (with_reducible refine (Cmp_eq a c _ _ HU.out.1 HU.out.2.2.1 AL.out.2.2.2.2.1).mono ?_); rintro e w' ⟨rfl, hb⟩; replace B := Aside0.mk (below_step B.out hb); clear hb)
          | (go_at_call 20; (with_reducible refine (Cmp_eq m a _ _ HU.out.2.2.2.1 HU.out.1 AL.out.2.2.2.2.2).mono ?_); rintro e w' ⟨rfl, hb⟩; replace B := Aside0.mk (below_step B.out hb); clear hb)
          | (go_at_call 16; (with_reducible refine (SWithin_eq m a _ HU.out.2.2.2.1 HU.out.1).mono ?_); rintro e w' ⟨rfl, hb⟩; replace B := Aside0.mk (below_step B.out hb); clear hb)
          | (go_at_call 18; (with_reducible refine (SApart_eq d b _ HU.out.2.2.2.2 HU.out.2.1).mono ?_); rintro e w' ⟨rfl, hb⟩; replace B := Aside0.mk (below_step B.out hb); clear hb))
        go_ret
        exact ⟨by simp [wm, ad], B.out⟩
      · skip
        go_wp2_with (first
          | (go_at_call 20; (with_reducible refine (Cmp_eq a b _ _ HU.out.1 HU.out.2.1 AL.out.2.1).mono ?_); rintro e w' ⟨rfl, hb⟩; replace B := Aside0.mk (below_step B.out hb); clear hb)
          | (go_at_call 20; (with_reducible refine (Cmp_eq b a _ _ HU.out.2.1 HU.out.1 AL.out.2.2.1).mono ?_); rintro e w' ⟨rfl, hb⟩; replace B := Aside0.mk (below_step B.out hb); clear hb)
          | (go_at_call 20; (with_reducible refine (Cmp_eq b c _ _ HU.out.2.1 HU.out.2.2.1 AL.out.2.2.2.1).mono ?_); rintro e w' ⟨rfl, hb⟩; replace B := Aside0.mk (below_step B.out hb); clear hb)
          | (go_at_call 20; (with_reducible refine (Cmp_eq a c _ _ HU.out.1 HU.out.2.2.1 AL.out.2.2.2.2.1).mono ?_); rintro e w' ⟨rfl, hb⟩; replace B := Aside0.mk (below_step B.out hb); clear hb)
          | (go_at_call 20; (with_reducible refine (Cmp_eq m a _ _ HU.out.2.2.2.1 HU.out.1 AL.out.2.2.2.2.2).mono ?_); rintro e w' ⟨rfl, hb⟩; replace B := Aside0.mk (below_step B.out hb); clear hb)
          | (go_at_call 16; (with_reducible refine (SWithin_eq m a _ HU.out.2.2.2.1 HU.out.1).mono ?_); rintro e w' ⟨rfl, hb⟩; replace B := Aside0.mk (below_step B.out hb); clear hb)
          | (go_at_call 18; (with_reducible refine (SApart_eq d b _ HU.out.2.2.2.2 HU.out.2.1).mono ?_); rintro e w' ⟨rfl, hb⟩; replace B := Aside0.mk (below_step B.out hb); clear hb))
        go_ret
        exact ⟨by simp [wm, ad], B.out⟩
    · skip
      go_wp2_with (first
        | (go_at_call 20; (with_reducible refine (Cmp_eq a b _ _ HU.out.1 HU.out.2.1 AL.out.2.1).mono ?_); rintro e w' ⟨rfl, hb⟩; replace B := Aside0.mk (below_step B.out hb); clear hb)
        | (go_at_call 20; (with_reducible refine (Cmp_eq b a _ _ HU.out.2.1 HU.out.1 AL.out.2.2.1).mono ?_); rintro e w' ⟨rfl, hb⟩; replace B := Aside0.mk (below_step B.out hb); clear hb)
        | (go_at_call 20; (with_reducible refine (Cmp_eq b c _ _ HU.out.2.1 HU.out.2.2.1 AL.out.2.2.2.1).mono ?_); rintro e w' ⟨rfl, hb⟩; replace B := Aside0.mk (below_step B.out hb); clear hb)
        | (go_at_call 20; (with_reducible refine (Cmp_eq a c _ _ HU.out.1 HU.out.2.2.1 AL.out.2.2.2.2.1).mono ?_); rintro e w' ⟨rfl, hb⟩; replace B := Aside0.mk (below_step B.out hb); clear hb)
        | (go_at_call 20; (with_reducible refine (Cmp_eq m a _ _ HU.out.2.2.2.1 HU.out.1 AL.out.2.2.2.2.2).mono ?_); rintro e w' ⟨rfl, hb⟩; replace B := Aside0.mk (below_step B.out hb); clear hb)
        | (go_at_call 16; (with_reducible refine (SWithin_eq m a _ HU.out.2.2.2.1 HU.out.1).mono ?_); rintro e w' ⟨rfl, hb⟩; replace B := Aside0.mk (below_step B.out hb); clear hb)
        | (go_at_call 18; (with_reducible refine (SApart_eq d b _ HU.out.2.2.2.2 HU.out.2.1).mono ?_); rintro e w' ⟨rfl, hb⟩; replace B := Aside0.mk (below_step B.out hb); clear hb))
      go_ret
      exact ⟨by simp [wm, ad], B.out⟩
    · skip
      go_wp2_with (first
        | (go_at_call 20; (with_reducible refine (Cmp_eq a b _ _ HU.out.1 HU.out.2.1 AL.out.2.1).mono ?_); rintro e w' ⟨rfl, hb⟩; replace B := Aside0.mk (below_step B.out hb); clear hb)
        | (go_at_call 20; (with_reducible refine (Cmp_eq b a _ _ HU.out.2.1 HU.out.1 AL.out.2.2.1).mono ?_); rintro e w' ⟨rfl, hb⟩; replace B := Aside0.mk (below_step B.out hb); clear hb)
        | (go_at_call 20; (with_reducible refine (Cmp_eq b c _ _ HU.out.2.1 HU.out.2.2.1 AL.out.2.2.2.1).mono ?_); rintro e w' ⟨rfl, hb⟩; replace B := Aside0.mk (below_step B.out hb); clear hb)
        | (go_at_call 20; (with_reducible refine (Cmp_eq a c _ _ HU.out.1 HU.out.2.2.1 AL.out.2.2.2.2.1).mono ?_); rintro e w' ⟨rfl, hb⟩; replace B := Aside0.mk (below_step B.out hb); clear hb)
        | (go_at_call 20; (with_reducible refine (Cmp_eq m a _ _ HU.out.2.2.2.1 HU.out.1 AL.out.2.2.2.2.2).mono ?_); rintro e w' ⟨rfl, hb⟩; replace B := Aside0.mk (below_step B.out hb); clear hb)
        | (go_at_call 16; (with_reducible refine (SWithin_eq m a _ HU.out.2.2.2.1 HU.out.1).mono ?_); rintro e w' ⟨rfl, hb⟩; replace B := Aside0.mk (below_step B.out hb); clear hb)
        | (go_at_call 18; (with_reducible refine (SApart_eq d b _ HU.out.2.2.2.2 HU.out.2.1).mono ?_); rintro e w' ⟨rfl, hb⟩; replace B := Aside0.mk (below_step B.out hb); clear hb))
      go_ret
      exact ⟨by simp [wm, ad], B.out⟩
  rcases cmp_cases a b with ⟨h1, h2, h3⟩ | ⟨h1, h2, h3⟩ | ⟨h1, h2, h3⟩
  all_goals
    rcases cmp_cases b c with ⟨k1, k2, k3⟩ | ⟨k1, k2, k3⟩ | ⟨k1, k2, k3⟩
    all_goals
      refine tail _ _ (cmpS a c) (cmpS m a) (a == b) h1 (by omega) rfl (by simp [h3]) k1 (by omega) rfl (fun u v => ?_) rfl cm
      first | exact cmp_trans h1 k1 | omega
end Go.Proofs.YtmcapemlfplcgaaDoor.MSetOrder
/- What a row of folder 02 gives the walks: the table of math/bits, the errors of strconv. -/
namespace Go.Proofs.YtmcapemlfplcgaaDoor.H
open Go.ChangeShapes Go.WideShapes Go.ChangeAt Go.RowKit
set_option linter.unusedVariables false
set_option maxRecDepth 100000
theorem gTab : Tryd.prog.globalNamed "math/bits.deBruijn64tab" = some 0 := by kernel_rfl
theorem tTab : (Tryd.prog.globals[0]?).map (·.type) = some 99 := by kernel_rfl
theorem cTab : Tryd.prog.cellsOf 5 = 1 := by kernel_rfl
theorem lTab : (Rows.laid_math_bits_deBruijn64tab : DataW Unit) = .agg ((List.range 64).map fun j => .lit (.int .u8 (Lib.deBruijn64tab.getD j 0 : Nat))) := by rfl
/-- The list that the row lists. -/
theorem tab_of_vars {W : World} {cs : Array Value} {fuel : Nat} {q : List MemPlace} {base : Nat} {sp : Nat → Bool} {enc : TypeId × Value → Unit} {held : Bool} (hv : W.var? Tryd.prog "math/bits.deBruijn64tab" = some cs)
    (hd : DataW.trod enc Tryd.prog W base sp held fuel 99 cs.toList = some (Rows.laid_math_bits_deBruijn64tab, q)) : TabG W := by
  obtain ⟨xs, m, rfl, hx, hlen, hn, hel⟩ := DataW.trod_array Tryd.underlying99 hd
  rw [lTab] at hx
  simp only [Prod.mk.injEq, DataW.agg.injEq] at hx
  intro j hj
  have h1 := hel j hj
  rw [cTab, Nat.mul_one, List.getElem?_eq_getElem (by omega)] at h1
  obtain ⟨n, e1, e2, _⟩ := DataW.trod_int Tryd.underlying5 h1
  have h2 := congrArg (fun l => l[j]?) hx.1
  simp only [List.getElem?_map, List.getElem?_range hj, Option.map_some, List.getElem?_eq_getElem (show j < xs.length by omega), e2] at h2
  injection h2 with h2
  injection h2 with h2
  injection h2 with _ h2
  have h3 := World.var?_cell gTab hv j
  rw [h3, h2]
  have h4 : cs.toList[j]? = some (.int .u8 n) := by
    have := congrArg (fun l => l[0]?) e1
    simpa using this
  simpa using h4
theorem err_of_vars {W : World} {n : String} {g t : Nat} {d : DataW Unit} {cs : Array Value} {fuel : Nat} {q : List MemPlace} {base : Nat} {sp : Nat → Bool} {enc : TypeId × Value → Unit} {held : Bool} (hg : Tryd.prog.globalNamed n = some g) (hv : W.var? Tryd.prog n = some cs)
    {u : TypeDesc} (ht : Tryd.prog.underlying t = some u) (hu : (match u with | .interface _ => true | _ => false) = true) (hd : DataW.trod enc Tryd.prog W base sp held fuel t cs.toList = some (d, q)) : ErC g W := by
  have h3 := World.var?_cell hg hv 0
  cases u <;> simp at hu
  have hc : ∃ ev, cs.toList = [ev] ∧ (ev = .nilIface ∨ ∃ te pe, ev = .iface te pe) := by
    cases fuel with
    | zero => unfold DataW.trod at hd; cases hd
    | succ m =>
      unfold DataW.trod at hd
      rw [ht] at hd
      split at hd <;> first | (rename_i h1 h2; exact ⟨_, h2, .inl rfl⟩) | (rename_i h1 h2; exact ⟨_, h2, .inr ⟨_, _, rfl⟩⟩) | simp_all
  obtain ⟨ev, h1, h2⟩ := hc
  refine ⟨ev, ?_, h2⟩
  have h4 : cs.toList[0]? = some ev := by rw [h1]; rfl
  rw [h3]; simpa using h4
theorem tabE_of_laid {W : World} (h : laidMetH Tryd.prog [("math/bits.deBruijn32tab", Rows.laid_math_bits_deBruijn32tab), ("math/bits.deBruijn64tab", Rows.laid_math_bits_deBruijn64tab), ("internal/strconv.uint64pow10", Rows.laid_internal_strconv_uint64pow10), ("unicode/utf8.acceptRanges", Rows.laid_unicode_utf8_acceptRanges), ("strconv.ErrRange", Rows.laid_strconv_ErrRange), ("strconv.ErrSyntax", Rows.laid_strconv_ErrSyntax), ("unicode/utf8.first", Rows.laid_unicode_utf8_first)] W) : TabE W := by
  rw [MakeChecks.laidMetH_plain _ _ _ (by kernel_rfl)] at h
  obtain ⟨ps, ⟨_, _, _, _, _, _, _, _, _, _, ⟨g0, t0, cs0, f0, p0, q0, hg0, ht0, hv0, hd0, ⟨_, _, _, _, _, _, _, _, _, _, ⟨_, _, _, _, _, _, _, _, _, _, ⟨g4, t4, cs4, f4, p4, q4, hg4, ht4, hv4, hd4, ⟨g5, t5, cs5, f5, p5, q5, hg5, ht5, hv5, hd5, _, _⟩, _⟩, _⟩, _⟩, _⟩, _⟩, _⟩ := h
  refine ⟨?_, ?_, ?_⟩
  · obtain rfl := Option.some.inj (tTab.symm.trans (by
      obtain rfl := Option.some.inj (gTab.symm.trans hg0)
      exact ht0))
    exact tab_of_vars hv0 hd0
  · have e1 : Tryd.prog.globalNamed "strconv.ErrSyntax" = some 4 := by kernel_rfl
    obtain rfl := Option.some.inj (e1.symm.trans hg5)
    have e2 : (Tryd.prog.globals[4]?).map (·.type) = some 84 := by kernel_rfl
    obtain rfl := Option.some.inj (e2.symm.trans ht5)
    exact err_of_vars e1 hv5 Tryd.underlying84 rfl hd5
  · have e1 : Tryd.prog.globalNamed "strconv.ErrRange" = some 5 := by kernel_rfl
    obtain rfl := Option.some.inj (e1.symm.trans hg4)
    have e2 : (Tryd.prog.globals[5]?).map (·.type) = some 84 := by kernel_rfl
    obtain rfl := Option.some.inj (e2.symm.trans ht4)
    exact err_of_vars e1 hv4 Tryd.underlying84 rfl hd4
end Go.Proofs.YtmcapemlfplcgaaDoor.H
