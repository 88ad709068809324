/- Some texts of one seat in one file, in build order. -/
import Derived.Test.YtmcapemlfplcgaaDoorG16
import Derived.Test.YtmcapemlfplcgaaDoorG13
import Derived.Test.YtmcapemlfplcgaaDoorG8
/- Folder 02, plain: Has, Full, Apart, Within, lists told the same. -/
namespace Go.Proofs.YtmcapemlfplcgaaDoor.R02
open Go.RowKit Go.Proofs.YtmcapemlfplcgaaDoor.Ult Go.Proofs.YtmcapemlfplcgaaDoor.AtM Go.Proofs.YtmcapemlfplcgaaDoor.PAll2 Go.Proofs.YtmcapemlfplcgaaDoorW.PrintWords Go.Proofs.YtmcapemlfplcgaaDoorW.PrintLast Go.Proofs.YtmcapemlfplcgaaDoorW.PrintMore
set_option linter.unusedVariables false
set_option linter.unusedSimpArgs false
set_option maxRecDepth 100000
def hasS (a n : Int) : Bool := decide (0 ≤ n ∧ n ≤ 63) && a.toNat.testBit n.toNat
theorem has_f (a n : Int) (ha : U64 a) : set_Has.f a n = some (hasS a n) := by
  unfold set_Has.f hasS
  rw [item_f, Option.bind_some]
  by_cases h : 0 ≤ n ∧ n ≤ 63
  · rw [decide_eq_true h, if_pos rfl, if_pos h.1, Bool.true_and]
    congr 1
    unfold shr
    obtain ⟨m, rfl⟩ : ∃ m : Nat, n = m := ⟨n.toNat, by omega⟩
    obtain ⟨b, rfl⟩ : ∃ b : Nat, a = b := ⟨a.toNat, by have := ha.1; omega⟩
    rw [Int.toNat_natCast, Int.toNat_natCast, show min m IntKind.u64.bits = m by simp [IntKind.bits]; omega, show ((b : Int) / 2 ^ m) = ((b / 2 ^ m : Nat) : Int) by norm_cast]
    have hb := nat_lt ha
    rw [Int.toNat_natCast] at hb
    have h64 : (2 : Nat) ^ 64 = 18446744073709551616 := by decide
    have hd : b / 2 ^ m ≤ b := Nat.div_le_self _ _
    rw [show (1 : Int) = ((1 : Nat) : Int) from rfl, u64_and_nat _ _ (by omega) (by decide), Nat.testBit_eq_decide_div_mod_eq, Nat.and_one_is_mod]
    apply Bool.eq_iff_iff.2
    rw [beq_iff_eq, decide_eq_true_iff]
    omega
  · rw [decide_eq_false h, Bool.false_and]; rfl
theorem rhas_ev (a n : Int) (ha : U64 a) : Ult (fun k => saleroomref02_Has.f k a n) (hasS a n) := has_ev a n ha
def fullS (n : Int) : Int := ((2 ^ (min n.toNat 64) - 1 : Nat) : Int)
theorem full_f (n : Int) : set_Full.f n = some (fullS n) := by
  unfold set_Full.f fullS
  by_cases h0 : n ≤ 0
  · rw [if_pos h0, show n.toNat = 0 by omega]; rfl
  · rw [if_neg h0]
    by_cases h1 : n ≥ 64
    · rw [if_pos h1, show min n.toNat 64 = 64 by omega]; rfl
    · rw [if_neg h1, if_pos (by omega), shl_one (by omega), show min n.toNat 64 = n.toNat by omega, IntKind.wrap_u64]
      have hp := pow63 (i := n.toNat) (by omega)
      have hq : 0 < 2 ^ n.toNat := Nat.pow_pos (by decide)
      congr 1
      generalize 2 ^ n.toNat = p at hp hq ⊢
      omega
theorem full_step {k : Nat} (h : k ≤ 63) : IntKind.u64.wrap (fullS (k : Int) + oneN k) = fullS ((k + 1 : Nat) : Int) := by
  unfold fullS oneN
  rw [Int.toNat_natCast, Int.toNat_natCast, show min k 64 = k by omega, show min (k + 1) 64 = k + 1 by omega, Nat.pow_succ, IntKind.wrap_u64]
  have hp := pow63 h
  have hq : 0 < 2 ^ k := Nat.pow_pos (by decide)
  generalize 2 ^ k = p at hp hq ⊢
  omega
theorem within_f {a b : Int} (ha : U64 a) (hb : U64 b) : set_Within.f a b = some (wthB a b) := by
  unfold set_Within.f
  congr 1
  have h64 : (2 : Nat) ^ 64 = 18446744073709551616 := by decide
  have hbn := nat_lt hb
  have han := nat_lt ha
  rw [u64_andNot a b ha.1 ha.2 hb.1 hb.2]
  have e1 : 18446744073709551615 - b.toNat = 2 ^ 64 - (b.toNat + 1) := by omega
  rw [e1]
  apply Bool.eq_iff_iff.2
  rw [beq_iff_eq, wth_iff]
  constructor
  · intro h i hi
    have h0 : a.toNat &&& (2 ^ 64 - (b.toNat + 1)) = 0 := by omega
    have h1 := congrArg (fun n => n.testBit i) h0
    simp only [Nat.testBit_and, Nat.zero_testBit, Nat.testBit_two_pow_sub_succ hbn, hi, Bool.true_and, testBit_big han hi, decide_true] at h1
    simpa using h1
  · intro h
    have : a.toNat &&& (2 ^ 64 - (b.toNat + 1)) = 0 := by
      apply Nat.eq_of_testBit_eq
      intro i
      rw [Nat.testBit_and, Nat.testBit_two_pow_sub_succ hbn, Nat.zero_testBit]
      cases hi : a.toNat.testBit i with
      | false => rfl
      | true => rw [h i hi]; simp
    rw [this]; rfl
def aptB (a b : Int) : Bool := decide (a.toNat &&& b.toNat = 0)
theorem apt_iff (a b : Int) : aptB a b = true ↔ ∀ i, a.toNat.testBit i = true → b.toNat.testBit i = false := by
  unfold aptB
  rw [decide_eq_true_iff]
  constructor
  · intro h i hi
    have h1 := congrArg (fun n => n.testBit i) h
    simp only [Nat.testBit_and, Nat.zero_testBit, hi, Bool.true_and] at h1
    exact h1
  · intro h
    apply Nat.eq_of_testBit_eq
    intro i
    rw [Nat.testBit_and, Nat.zero_testBit]
    cases hi : a.toNat.testBit i with
    | false => rfl
    | true => rw [h i hi]; rfl
theorem apart_f {a b : Int} (ha : U64 a) (hb : U64 b) : set_Apart.f a b = some (aptB a b) := by
  unfold set_Apart.f aptB
  rw [u64_and a b ha.1 ha.2 hb.1 hb.2]
  congr 1
  apply Bool.eq_iff_iff.2
  rw [beq_iff_eq, decide_eq_true_iff]
  omega
theorem rapart_l0 (x y : Int) (hx : U64 x) (hy : U64 y) : ∀ (d i : Nat), i + d = 64 → (∀ j, j < i → x.toNat.testBit j = true → y.toNat.testBit j = false) → Ult (fun k => saleroomref02_Apart.l0 k x y (i : Int)) (aptB x y) := by
  intro d
  induction d with
  | zero =>
    intro i hi hall
    refine Ult.succ ?_
    simp only [saleroomref02_Apart.l0]
    refine Ult.neg (by omega) (Ult.const ?_)
    congr 1
    symm
    rw [apt_iff]
    intro j hj
    exact hall j (by have := testBit_big (nat_lt hx) hj; omega) hj
  | succ d ih =>
    intro i hi hall
    refine Ult.succ ?_
    simp only [saleroomref02_Apart.l0]
    refine Ult.pos (by omega) ?_
    rw [show wrap64 ((i : Int) + 1) = ((i + 1 : Nat) : Int) by rw [w64 (by omega) (by omega)]; rfl]
    refine Ult.bind (has_item x i hx (by omega)) ?_
    refine Ult.ite (fun h => ?_) (fun h => ?_)
    · refine Ult.bind (has_item y i hy (by omega)) ?_
      refine Ult.ite (fun h2 => Ult.const ?_) (fun h2 => ?_)
      · congr 1
        cases hb : aptB x y with
        | false => rfl
        | true => rw [(apt_iff x y).1 hb i h] at h2; cases h2
      · refine ih (i + 1) (by omega) fun j hj hjx => ?_
        rcases Nat.lt_or_ge j i with h3 | h3
        · exact hall j h3 hjx
        · obtain rfl : j = i := by omega
          simpa using h2
    · refine ih (i + 1) (by omega) fun j hj hjx => ?_
      rcases Nat.lt_or_ge j i with h3 | h3
      · exact hall j h3 hjx
      · obtain rfl : j = i := by omega
        exact absurd hjx h
theorem rapart_ev (x y : Int) (hx : U64 x) (hy : U64 y) : Ult (fun k => saleroomref02_Apart.f k x y) (aptB x y) := rapart_l0 x y hx hy 64 0 rfl (fun j hj => by omega)
theorem sameInts_ev (l : List Int) (hl : l.length ≤ 600000) : Ult (fun k => saleroomref01_SameInts.f k l l) true := by
  have h : ∀ (d i : Nat), i + d = l.length → Ult (fun k => saleroomref01_SameInts.l0 k l l (i : Int)) true := by
    intro d
    induction d with
    | zero => intro i hi; refine Ult.succ ?_; simp only [saleroomref01_SameInts.l0]; exact Ult.neg (by omega) (Ult.const rfl)
    | succ d ih =>
      intro i hi; refine Ult.succ ?_; simp only [saleroomref01_SameInts.l0]
      rw [show wrap64 ((i : Int) + 1) = ((i + 1 : Nat) : Int) by rw [w64 (by omega) (by omega)]; rfl]
      exact Ult.pos (by omega) (Ult.pos (by omega) (Ult.pos (by omega) (Ult.pos (by trivial) (ih (i + 1) (by omega)))))
  unfold saleroomref01_SameInts.f
  exact Ult.pos rfl (h l.length 0 (by omega))
theorem sameSets_ev (l : List Int) (hl : l.length ≤ 600000) : Ult (fun k => saleroomref01_SameSets.f k l l) true := by
  have h : ∀ (d i : Nat), i + d = l.length → Ult (fun k => saleroomref01_SameSets.l0 k l l (i : Int)) true := by
    intro d
    induction d with
    | zero => intro i hi; refine Ult.succ ?_; simp only [saleroomref01_SameSets.l0]; exact Ult.neg (by omega) (Ult.const rfl)
    | succ d ih =>
      intro i hi; refine Ult.succ ?_; simp only [saleroomref01_SameSets.l0]
      rw [show wrap64 ((i : Int) + 1) = ((i + 1 : Nat) : Int) by rw [w64 (by omega) (by omega)]; rfl]
      exact Ult.pos (by omega) (Ult.pos (by omega) (Ult.pos (by omega) (Ult.pos (by trivial) (ih (i + 1) (by omega)))))
  unfold saleroomref01_SameSets.f
  exact Ult.pos rfl (h l.length 0 (by omega))
theorem sameNums_ev (l : List Int) (hl : l.length ≤ 600000) : Ult (fun k => saleroomref01_SameNums.f k l l) true := by
  have h : ∀ (d i : Nat), i + d = l.length → Ult (fun k => saleroomref01_SameNums.l0 k l l (i : Int)) true := by
    intro d
    induction d with
    | zero => intro i hi; refine Ult.succ ?_; simp only [saleroomref01_SameNums.l0]; exact Ult.neg (by omega) (Ult.const rfl)
    | succ d ih =>
      intro i hi; refine Ult.succ ?_; simp only [saleroomref01_SameNums.l0]
      rw [show wrap64 ((i : Int) + 1) = ((i + 1 : Nat) : Int) by rw [w64 (by omega) (by omega)]; rfl]
      exact Ult.pos (by omega) (Ult.pos (by omega) (Ult.pos (by omega) (Ult.pos (by trivial) (ih (i + 1) (by omega)))))
  unfold saleroomref01_SameNums.f
  exact Ult.pos rfl (h l.length 0 (by omega))
end Go.Proofs.YtmcapemlfplcgaaDoor.R02
/- Folder 02: the document's functions, with named answers. -/
namespace Go.Proofs.YtmcapemlfplcgaaDoor.H
open Go.RowKit Go.Proofs.YtmcapemlfplcgaaDoorW.PrintWords Go.Proofs.YtmcapemlfplcgaaDoorW.PrintLast Go.Proofs.YtmcapemlfplcgaaDoorW.PrintMore Go.Proofs.YtmcapemlfplcgaaDoor.AtM Go.Proofs.YtmcapemlfplcgaaDoor.R02 Go.Proofs.YtmcapemlfplcgaaDoor.Ult
set_option linter.unusedVariables false
set_option linter.unusedSimpArgs false
set_option maxRecDepth 100000
theorem wf2_u64 {x : Int} (h : (Lit.int .u64 x).wf = true) : U64 x := by
  simp [Lit.wf, IntKind.min, IntKind.max, IntKind.signed, IntKind.bits] at h
  unfold U64; omega
theorem wf2_i64 {x : Int} (h : (Lit.int .i64 x).wf = true) : -9223372036854775808 ≤ x ∧ x ≤ 9223372036854775807 := by
  simp [Lit.wf, IntKind.min, IntKind.max, IntKind.signed, IntKind.bits] at h
  omega
theorem SHas_eq (a n : Int) (W : World) (ha : U64 a) : Calls Tryd.prog 12 #[.int .u64 a, .int .i64 n] W fun e W' => e = .returned (.bool (hasS a n)) ∧ Below W.heap.size W W' := Has_eq a n _ W (has_f a n ha)
theorem SFull_eq (n : Int) (W : World) : Calls Tryd.prog 22 #[.int .i64 n] W fun e W' => e = .returned (.int .u64 (fullS n)) ∧ Below W.heap.size W W' := Full_eq n _ W (full_f n)
theorem SWithin_eq (a b : Int) (W : World) (ha : U64 a) (hb : U64 b) : Calls Tryd.prog 16 #[.int .u64 a, .int .u64 b] W fun e W' => e = .returned (.bool (wthB a b)) ∧ Below W.heap.size W W' := Within_eq a b _ W (within_f ha hb)
theorem SApart_eq (a b : Int) (W : World) (ha : U64 a) (hb : U64 b) : Calls Tryd.prog 18 #[.int .u64 a, .int .u64 b] W fun e W' => e = .returned (.bool (aptB a b)) ∧ Below W.heap.size W W' := Apart_eq a b _ W (apart_f ha hb)
theorem RHas_eq (a n : Int) (W : World) (ha : U64 a) : Calls Tryd.prog 13 #[.int .u64 a, .int .i64 n] W fun e W' => e = .returned (.bool (hasS a n)) ∧ Below W.heap.size W W' := by
  obtain ⟨k, hk⟩ := (rhas_ev a n ha).get
  exact (PAll2.saleroomref02_Has.calls k a n _ W hk).mono fun e W' h => ⟨h.1, by first | exact h.2.below | exact h.2⟩
theorem ROne_eq (n : Nat) (W : World) (hn : n ≤ 63) : Calls Tryd.prog 11 #[.int .i64 n] W fun e W' => e = .returned (.int .u64 (oneN n)) ∧ Below W.heap.size W W' := by
  obtain ⟨k, hk⟩ := (one_ev n hn).get
  exact (PAll2.saleroomref02_One.calls k n _ W hk).mono fun e W' h => ⟨h.1, by first | exact h.2.below | exact h.2⟩
theorem RWithin_eq (a b : Int) (W : World) (ha : U64 a) (hb : U64 b) : Calls Tryd.prog 17 #[.int .u64 a, .int .u64 b] W fun e W' => e = .returned (.bool (wthB a b)) ∧ Below W.heap.size W W' := by
  obtain ⟨k, hk⟩ := (within_ev a b ha hb).get
  exact (PAll2.saleroomref02_Within.calls k a b _ W hk).mono fun e W' h => ⟨h.1, by first | exact h.2.below | exact h.2⟩
theorem RApart_eq (a b : Int) (W : World) (ha : U64 a) (hb : U64 b) : Calls Tryd.prog 19 #[.int .u64 a, .int .u64 b] W fun e W' => e = .returned (.bool (aptB a b)) ∧ Below W.heap.size W W' := by
  obtain ⟨k, hk⟩ := (rapart_ev a b ha hb).get
  exact (PAll2.saleroomref02_Apart.calls k a b _ W hk).mono fun e W' h => ⟨h.1, by first | exact h.2.below | exact h.2⟩
theorem RCmp_eq (a b : Int) (W : World) (ha : U64 a) (hb : U64 b) : Calls Tryd.prog 21 #[.int .u64 a, .int .u64 b] W fun e W' => e = .returned (.int .i64 (cmpS a b)) ∧ Below W.heap.size W W' := by
  obtain ⟨k, hk⟩ := (cmp_ev a b ha hb).get
  exact (PAll2.saleroomref02_Cmp.calls k a b _ W hk).mono fun e W' h => ⟨h.1, by first | exact h.2.below | exact h.2⟩
theorem RList_eq (s : Int) (n : Nat) (W : World) (hs : U64 s) (h : (listS s).length = n) : Calls Tryd.prog 15 #[.int .u64 s] W fun e W' =>
    ∃ A c, e = .returned (.slice A n c) ∧ n ≤ c ∧ Kd.C (Kd.int .i64) W' A n (listS s) ∧ Below W.heap.size W W' := by
  subst h
  obtain ⟨k, hk⟩ := (list_ev s hs).get
  refine (PAll2.saleroomref02_List.calls k s _ W hk).mono ?_
  rintro e w' ⟨v, rfl, hR, hb⟩
  obtain ⟨A, c, rfl, hc, hC⟩ := R_C hR
  exact ⟨A, c, rfl, hc, hC, hb⟩
theorem SameInts_eq (l l' : List Int) (n n' : Nat) (A A' : Option Addr) (c c' : Nat) (W : World) (he : l = l') (hn : l.length = n) (hn' : l'.length = n') (hC : Kd.C (Kd.int .i64) W A n l) (hc : n ≤ c) (hC' : Kd.C (Kd.int .i64) W A' n' l') (hc' : n' ≤ c') (hl : n ≤ 600000) :
    Calls Tryd.prog 23 #[.slice A n c, .slice A' n' c'] W fun e W' => e = .returned (.bool true) ∧ Below W.heap.size W W' := by
  subst he; subst hn; subst hn'
  obtain ⟨k, hk⟩ := (sameInts_ev l hl).get
  exact (PAll2.saleroomref01_SameInts.calls k A c l A' c' l true W hC hc hC' hc' hk).mono fun e W' h => ⟨h.1, by first | exact h.2.below | exact h.2⟩
theorem SameSets_eq (l l' : List Int) (n n' : Nat) (A A' : Option Addr) (c c' : Nat) (W : World) (he : l = l') (hn : l.length = n) (hn' : l'.length = n') (hC : Kd.C (Kd.int .u64) W A n l) (hc : n ≤ c) (hC' : Kd.C (Kd.int .u64) W A' n' l') (hc' : n' ≤ c') (hl : n ≤ 600000) :
    Calls Tryd.prog 32 #[.slice A n c, .slice A' n' c'] W fun e W' => e = .returned (.bool true) ∧ Below W.heap.size W W' := by
  subst he; subst hn; subst hn'
  obtain ⟨k, hk⟩ := (sameSets_ev l hl).get
  exact (PAll2.saleroomref01_SameSets.calls k A c l A' c' l true W hC hc hC' hc' hk).mono fun e W' h => ⟨h.1, by first | exact h.2.below | exact h.2⟩
theorem SameNums_eq (l l' : List Int) (n n' : Nat) (A A' : Option Addr) (c c' : Nat) (W : World) (he : l = l') (hn : l.length = n) (hn' : l'.length = n') (hC : Kd.C (Kd.int .i64) W A n l) (hc : n ≤ c) (hC' : Kd.C (Kd.int .i64) W A' n' l') (hc' : n' ≤ c') (hl : n ≤ 600000) :
    Calls Tryd.prog 36 #[.slice A n c, .slice A' n' c'] W fun e W' => e = .returned (.bool true) ∧ Below W.heap.size W W' := by
  subst he; subst hn; subst hn'
  obtain ⟨k, hk⟩ := (sameNums_ev l hl).get
  exact (PAll2.saleroomref01_SameNums.calls k A c l A' c' l true W hC hc hC' hc' hk).mono fun e W' h => ⟨h.1, by first | exact h.2.below | exact h.2⟩
end Go.Proofs.YtmcapemlfplcgaaDoor.H
/- Folder 02, plain: the document's Read is the one by parts. -/
namespace Go.Proofs.YtmcapemlfplcgaaDoor.R02
open Go.RowKit Go.Proofs.YtmcapemlfplcgaaDoor.Ult Go.Proofs.YtmcapemlfplcgaaDoor.AtM Go.Proofs.YtmcapemlfplcgaaDoor.H Go.Proofs.YtmcapemlfplcgaaDoor.PAll2 Go.Proofs.YtmcapemlfplcgaaDoorW.PrintWords Go.Proofs.YtmcapemlfplcgaaDoorW.PrintLast Go.Proofs.YtmcapemlfplcgaaDoorW.PrintMore
set_option linter.unusedVariables false
set_option linter.unusedSimpArgs false
set_option maxRecDepth 100000
/-- May a number be added? -/
def okN (out : List Int) (val dig : Nat) : Prop := dig ≠ 0 ∧ val ≤ 63 ∧ ¬ (dig = 2 ∧ val < 10) ∧ (out = [] ∨ rd out ((out.length : Int) - 1) < val)
instance (out : List Int) (val dig : Nat) : Decidable (okN out val dig) := by unfold okN; exact inferInstance
/-- The document's way through a text's inner bytes. -/
def auto : List Int → Nat → Nat → List UInt8 → Int × Int
  | out, val, dig, [] => if dig = 0 ∧ out = [] then (0, 0) else if okN out val dig then (((ofN 0 (out ++ [(val : Int)]) : Nat) : Int), 0) else (0, 20)
  | out, val, dig, c :: r => if 48 ≤ c.toNat ∧ c.toNat ≤ 57 ∧ dig < 2 then auto out (val * 10 + (c.toNat - 48)) (dig + 1) r
    else if c.toNat = 44 then (if okN out val dig then auto (out ++ [(val : Int)]) 0 0 r else (0, 20)) else (0, 20)
theorem j3_ev (x0 : ByteArray) (hsz : x0.size ≤ 600000) (out : List Int) (val dig i : Nat) (x8 : Int) (hx : x8 = 44 ∨ (x8 = 125 ∧ i + 1 = x0.size)) (ho : out.length ≤ 600000) (hv : val ≤ 1000) (hi : i ≤ 600000) (hd : dig ≤ 2) (R : Int × Int)
    (hn : Ult (fun k => saleroomref02_Read.l0 k x0 (out ++ [(val : Int)]) 0 0 ((i + 1 : Nat) : Int)) R) :
    Ult (fun k => saleroomref02_Read.j3 k x0 out (val : Int) (dig : Int) (i : Int) x8 false) (if okN out val dig then R else (0, 20)) := by
  have hw : wrap64 ((out.length : Int) - 1) = (out.length : Int) - 1 := w64 (by omega) (by omega)
  have hw2 : wrap64 ((i : Int) + 1) = ((i + 1 : Nat) : Int) := by rw [w64 (by omega) (by omega)]; rfl
  have hlast : ∀ (hc : val ≤ 63) (h0 : dig ≠ 0) (h2 : ¬ (dig = 2 ∧ val < 10)), Ult (fun k => (if (out.length : Int) > 0 then (if 0 ≤ (wrap64 ((out.length : Int) - 1)) then (if (wrap64 ((out.length : Int) - 1)) < (out.length : Int) then (if (rd out (wrap64 ((out.length : Int) - 1))) ≥ (val : Int) then (some (0, 20)) else (if out.length < 17592186044416 then (saleroomref02_Read.l0 k x0 (out ++ [(val : Int)]) 0 0 (wrap64 ((i : Int) + 1))) else (none))) else (none)) else (none)) else (if out.length < 17592186044416 then (saleroomref02_Read.l0 k x0 (out ++ [(val : Int)]) 0 0 (wrap64 ((i : Int) + 1))) else (none)))) (if okN out val dig then R else (0, 20)) := by
    intro hc h0 h2
    rw [hw, hw2]
    refine Ult.ite (fun h => ?_) (fun h => ?_)
    · refine Ult.pos (by omega) (Ult.pos (by omega) (Ult.ite (fun h3 => ?_) (fun h3 => ?_)))
      · rw [if_neg (fun hk => by rcases hk.2.2.2 with e | e; (rw [e] at h; simp at h); omega)]
        exact Ult.pure _
      · rw [if_pos ⟨h0, hc, h2, .inr (by omega)⟩]
        exact Ult.pos (by omega) hn
    · have e : out = [] := by cases out with
        | nil => rfl
        | cons a b => simp at h
      rw [if_pos ⟨h0, hc, h2, .inl e⟩]
      exact Ult.pos (by omega) hn
  have hchk : Ult (fun k => (if (dig : Int) = 0 then (some ((0 : Int), (20 : Int))) else (if (val : Int) > 63 then (some (0, 20)) else (if (dig : Int) = 2 then (if (val : Int) < 10 then (some (0, 20)) else (if (out.length : Int) > 0 then (if 0 ≤ (wrap64 ((out.length : Int) - 1)) then (if (wrap64 ((out.length : Int) - 1)) < (out.length : Int) then (if (rd out (wrap64 ((out.length : Int) - 1))) ≥ (val : Int) then (some (0, 20)) else (if out.length < 17592186044416 then (saleroomref02_Read.l0 k x0 (out ++ [(val : Int)]) 0 0 (wrap64 ((i : Int) + 1))) else (none))) else (none)) else (none)) else (if out.length < 17592186044416 then (saleroomref02_Read.l0 k x0 (out ++ [(val : Int)]) 0 0 (wrap64 ((i : Int) + 1))) else (none)))) else (if (out.length : Int) > 0 then (if 0 ≤ (wrap64 ((out.length : Int) - 1)) then (if (wrap64 ((out.length : Int) - 1)) < (out.length : Int) then (if (rd out (wrap64 ((out.length : Int) - 1))) ≥ (val : Int) then (some (0, 20)) else (if out.length < 17592186044416 then (saleroomref02_Read.l0 k x0 (out ++ [(val : Int)]) 0 0 (wrap64 ((i : Int) + 1))) else (none))) else (none)) else (none)) else (if out.length < 17592186044416 then (saleroomref02_Read.l0 k x0 (out ++ [(val : Int)]) 0 0 (wrap64 ((i : Int) + 1))) else (none))))))) (if okN out val dig then R else (0, 20)) := by
    refine Ult.ite (fun h => ?_) (fun h => ?_)
    · rw [if_neg (fun hk => hk.1 (by omega))]; exact Ult.pure _
    · refine Ult.ite (fun h1 => ?_) (fun h1 => ?_)
      · rw [if_neg (fun hk => by have := hk.2.1; omega)]; exact Ult.pure _
      · refine Ult.ite (fun h2 => ?_) (fun h2 => ?_)
        · refine Ult.ite (fun h3 => ?_) (fun h3 => ?_)
          · rw [if_neg (fun hk => hk.2.2.1 ⟨by omega, by omega⟩)]; exact Ult.pure _
          · exact hlast (by omega) (by omega) (by omega)
        · exact hlast (by omega) (by omega) (by omega)
  refine Ult.succ ?_
  simp only [saleroomref02_Read.j3, Bool.false_eq_true, if_false]
  rcases hx with rfl | ⟨rfl, he⟩
  · exact Ult.pos rfl hchk
  · refine Ult.neg (by decide) (Ult.pos rfl (Ult.pos (by rw [w64 (by omega) (by omega)]; omega) hchk))
theorem bt_drop {x0 : ByteArray} {i : Nat} {c : UInt8} {r : List UInt8} (h : x0.data.toList.drop i = c :: r) : bt x0 (i : Int) = (c.toNat : Int) ∧ x0.data.toList.drop (i + 1) = r ∧ i < x0.size := by
  have hlt : i < x0.data.toList.length := by
    rcases Nat.lt_or_ge i x0.data.toList.length with h1 | h1
    · exact h1
    · rw [List.drop_of_length_le h1] at h; cases h
  rw [List.drop_eq_getElem_cons hlt] at h
  injection h with h1 h2
  have hs : i < x0.size := by rw [Lib.size_eq]; exact hlt
  refine ⟨?_, h2, hs⟩
  unfold bt
  rw [dif_pos (by simpa using hs), ← h1]
  rfl
theorem j3_no (x0 : ByteArray) (hsz : x0.size ≤ 600000) (out : List Int) (val dig i : Nat) (x8 : Int) (hx : x8 ≠ 44) (hx2 : ¬ (x8 = 125 ∧ i + 1 = x0.size)) :
    Ult (fun k => saleroomref02_Read.j3 k x0 out (val : Int) (dig : Int) (i : Int) x8 false) ((0 : Int), (20 : Int)) := by
  refine Ult.succ ?_
  simp only [saleroomref02_Read.j3, Bool.false_eq_true, if_false]
  refine Ult.neg hx (Ult.ite (fun h => ?_) (fun h => Ult.pure _))
  by_cases hs : x0.size = 0
  · refine Ult.neg (by rw [w64 (by omega) (by omega)]; omega) (Ult.pure _)
  · exact Ult.neg (by rw [w64 (by omega) (by omega)]; omega) (Ult.pure _)
theorem l0_ev (x0 : ByteArray) (hsz : x0.size ≤ 600000) : ∀ (r : List UInt8) (i val dig : Nat) (out : List Int), x0.data.toList.drop i = r ++ [125] → dig ≤ 2 → val < 10 ^ dig → out.length ≤ i →
    Ult (fun k => saleroomref02_Read.l0 k x0 out (val : Int) (dig : Int) (i : Int)) (auto out val dig r) := by
  intro r
  induction r with
  | nil =>
    intro i val dig out hr hd hv ho
    obtain ⟨hb, hr2, hi⟩ := bt_drop (r := []) hr
    have hi1 : i + 1 = x0.size := by
      have h1 := congrArg List.length hr2
      rw [List.length_drop] at h1
      have h2 := Lib.size_eq x0
      simp at h1
      omega
    have hv1 : val ≤ 1000 := by
      rcases (by omega : dig = 0 ∨ dig = 1 ∨ dig = 2) with rfl | rfl | rfl <;> omega
    have hb : bt x0 (i : Int) = 125 := hb
    have hn : Ult (fun k => saleroomref02_Read.l0 k x0 (out ++ [(val : Int)]) 0 0 ((i + 1 : Nat) : Int)) (((ofN 0 (out ++ [(val : Int)]) : Nat) : Int), (0 : Int)) := by
      refine Ult.succ ?_
      simp only [saleroomref02_Read.l0]
      refine Ult.neg (by omega) ?_
      exact Ult.bind (rof_ev _ (by rw [List.length_append, List.length_singleton]; omega)) (Ult.pure _)
    have hj := j3_ev x0 hsz out val dig i 125 (.inr ⟨rfl, hi1⟩) (by omega) hv1 (by omega) hd _ hn
    refine Ult.succ ?_
    simp only [saleroomref02_Read.l0]
    rw [hb]
    refine Ult.pos (by omega) (Ult.pos (by omega) (Ult.pos (by decide) (Ult.neg (by decide) ?_)))
    refine Ult.succ ?_
    simp only [saleroomref02_Read.j2, Bool.false_eq_true, if_false]
    refine Ult.pos (by trivial) (Ult.pos (by rw [w64 (by omega) (by omega)]; omega) (Ult.ite (fun h => ?_) (fun h => ?_)))
    · have hd0 : dig = 0 := by omega
      by_cases he : out = []
      · subst he
        unfold auto
        rw [if_pos ⟨hd0, rfl⟩]
        refine Ult.succ ?_
        simp only [saleroomref02_Read.j3]
        exact Ult.pos (by decide) (Ult.pure _)
      · have e : ((out.length : Int) == 0) = false := by cases out with
          | nil => exact absurd rfl he
          | cons a b => simp; omega
        rw [e]
        unfold auto
        rw [if_neg (fun h => he h.2)]
        exact hj
    · unfold auto
      rw [if_neg (fun h2 => h (by rw [h2.1]; rfl))]
      exact hj
  | cons c r ih =>
    intro i val dig out hr hd hv ho
    obtain ⟨hb, hr2, hi⟩ := bt_drop (r := r ++ [125]) hr
    have hi1 : i + 1 < x0.size := by
      have h1 := congrArg List.length hr2
      rw [List.length_drop] at h1
      have h2 := Lib.size_eq x0
      simp at h1
      omega
    have hv1 : val ≤ 1000 := by
      rcases (by omega : dig = 0 ∨ dig = 1 ∨ dig = 2) with rfl | rfl | rfl <;> omega
    have hc255 : c.toNat < 256 := c.toNat_lt
    have hw2 : wrap64 ((i : Int) + 1) = ((i + 1 : Nat) : Int) := by rw [w64 (by omega) (by omega)]; rfl
    have hno : ¬ (48 ≤ c.toNat ∧ c.toNat ≤ 57 ∧ dig < 2) → Ult (fun k => saleroomref02_Read.j2 k x0 out (val : Int) (dig : Int) (i : Int) (c.toNat : Int) false) (auto out val dig (c :: r)) := by
      intro hdg
      unfold auto
      rw [if_neg hdg]
      have hlow : Ult (fun k => saleroomref02_Read.j3 k x0 out (val : Int) (dig : Int) (i : Int) (c.toNat : Int) false) (if c.toNat = 44 then (if okN out val dig then auto (out ++ [(val : Int)]) 0 0 r else (0, 20)) else (0, 20)) := by
        by_cases h44 : c.toNat = 44
        · rw [if_pos h44]
          exact j3_ev x0 hsz out val dig i (c.toNat : Int) (.inl (by omega)) (by omega) hv1 (by omega) hd _ (ih (i + 1) 0 0 (out ++ [(val : Int)]) hr2 (by omega) (by decide) (by rw [List.length_append, List.length_singleton]; omega))
        · rw [if_neg h44]
          exact j3_no x0 hsz out val dig i (c.toNat : Int) (by omega) (by omega)
      refine Ult.succ ?_
      simp only [saleroomref02_Read.j2, Bool.false_eq_true, if_false]
      refine Ult.ite (fun h => ?_) (fun h => hlow)
      exact Ult.neg (by rw [w64 (by omega) (by omega)]; omega) hlow
    refine Ult.succ ?_
    simp only [saleroomref02_Read.l0]
    rw [hb]
    refine Ult.pos (by omega) (Ult.pos (by omega) (Ult.ite (fun h1 => ?_) (fun h1 => hno (by omega))))
    refine Ult.ite (fun h2 => ?_) (fun h2 => hno (by omega))
    by_cases h3 : dig < 2
    · rw [decide_eq_true (show (dig : Int) < 2 by omega)]
      unfold auto
      rw [if_pos ⟨by omega, by omega, h3⟩]
      refine Ult.succ ?_
      simp only [saleroomref02_Read.j2, if_true]
      have e1 : wrap64 ((wrap64 ((val : Int) * 10)) + (((c.toNat : Int) - 48) % 256)) = ((val * 10 + (c.toNat - 48) : Nat) : Int) := by
        have e0 : wrap64 ((val : Int) * 10) = (val : Int) * 10 := w64 (by omega) (by omega)
        rw [e0, w64 (by omega) (by omega)]; omega
      have e2 : wrap64 ((dig : Int) + 1) = ((dig + 1 : Nat) : Int) := by rw [w64 (by omega) (by omega)]; rfl
      rw [e1, e2, hw2]
      refine ih (i + 1) _ (dig + 1) out hr2 h3 ?_ (Nat.le_succ_of_le ho)
      rw [Nat.pow_succ]
      have h57 : c.toNat - 48 < 10 := by clear hv; omega
      generalize 10 ^ dig = q at hv ⊢
      generalize c.toNat - 48 = z at h57 ⊢
      omega
    · rw [decide_eq_false (show ¬ (dig : Int) < 2 by omega)]
      exact hno (by omega)
end Go.Proofs.YtmcapemlfplcgaaDoor.R02
