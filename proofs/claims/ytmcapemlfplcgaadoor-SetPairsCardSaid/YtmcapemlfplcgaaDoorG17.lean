/- Some texts of one seat in one file, in build order. -/
import Derived.Test.YtmcapemlfplcgaaDoorG16
import Derived.Test.YtmcapemlfplcgaaDoorG13
import Derived.Test.YtmcapemlfplcgaaDoorG4
import Derived.Test.YtmcapemlfplcgaaDoorG14
import Derived.Test.YtmcapemlfplcgaaDoorG2
/- Folder 02, plain: Has, Full, Apart, Within, lists told the same. -/
namespace Go.Proofs.YtmcapemlfplcgaaDoor.R02
open Go.RowKit Go.Proofs.YtmcapemlfplcgaaDoor.Ult Go.Proofs.YtmcapemlfplcgaaDoor.AtM Go.Proofs.YtmcapemlfplcgaaDoor.PAll2 Go.Proofs.YtmcapemlfplcgaaDoorW.PrintWords Go.Proofs.YtmcapemlfplcgaaDoorW.PrintLast Go.Proofs.YtmcapemlfplcgaaDoorW.PrintMore
set_option linter.unusedVariables false
set_option linter.unusedSimpArgs false
set_option maxRecDepth 100000
def hasS (a n : Int) : Bool := decide (0 ≤ n ∧ n ≤ 63) && a.toNat.testBit n.toNat
theorem has_f (a n : Int) (ha : U64 a) : set_Has.f a n = some (hasS a n) := by
  unfold set_Has.f hasS
  rw [item_f, Option.bind_some]
  by_cases h : 0 ≤ n ∧ n ≤ 63
  · rw [decide_eq_true h, if_pos rfl, if_pos h.1, Bool.true_and]
    congr 1
    unfold shr
    obtain ⟨m, rfl⟩ : ∃ m : Nat, n = m := ⟨n.toNat, by omega⟩
    obtain ⟨b, rfl⟩ : ∃ b : Nat, a = b := ⟨a.toNat, by have := ha.1; omega⟩
    rw [Int.toNat_natCast, Int.toNat_natCast, show min m IntKind.u64.bits = m by simp [IntKind.bits]; omega, show ((b : Int) / 2 ^ m) = ((b / 2 ^ m : Nat) : Int) by norm_cast]
    have hb := nat_lt ha
    rw [Int.toNat_natCast] at hb
    have h64 : (2 : Nat) ^ 64 = 18446744073709551616 := by decide
    have hd : b / 2 ^ m ≤ b := Nat.div_le_self _ _
    rw [show (1 : Int) = ((1 : Nat) : Int) from rfl, u64_and_nat _ _ (by omega) (by decide), Nat.testBit_eq_decide_div_mod_eq, Nat.and_one_is_mod]
    apply Bool.eq_iff_iff.2
    rw [beq_iff_eq, decide_eq_true_iff]
    omega
  · rw [decide_eq_false h, Bool.false_and]; rfl
theorem rhas_ev (a n : Int) (ha : U64 a) : Ult (fun k => saleroomref02_Has.f k a n) (hasS a n) := has_ev a n ha
def fullS (n : Int) : Int := ((2 ^ (min n.toNat 64) - 1 : Nat) : Int)
theorem full_f (n : Int) : set_Full.f n = some (fullS n) := by
  unfold set_Full.f fullS
  by_cases h0 : n ≤ 0
  · rw [if_pos h0, show n.toNat = 0 by omega]; rfl
  · rw [if_neg h0]
    by_cases h1 : n ≥ 64
    · rw [if_pos h1, show min n.toNat 64 = 64 by omega]; rfl
    · rw [if_neg h1, if_pos (by omega), shl_one (by omega), show min n.toNat 64 = n.toNat by omega, IntKind.wrap_u64]
      have hp := pow63 (i := n.toNat) (by omega)
      have hq : 0 < 2 ^ n.toNat := Nat.pow_pos (by decide)
      congr 1
      generalize 2 ^ n.toNat = p at hp hq ⊢
      omega
theorem full_step {k : Nat} (h : k ≤ 63) : IntKind.u64.wrap (fullS (k : Int) + oneN k) = fullS ((k + 1 : Nat) : Int) := by
  unfold fullS oneN
  rw [Int.toNat_natCast, Int.toNat_natCast, show min k 64 = k by omega, show min (k + 1) 64 = k + 1 by omega, Nat.pow_succ, IntKind.wrap_u64]
  have hp := pow63 h
  have hq : 0 < 2 ^ k := Nat.pow_pos (by decide)
  generalize 2 ^ k = p at hp hq ⊢
  omega
theorem within_f {a b : Int} (ha : U64 a) (hb : U64 b) : set_Within.f a b = some (wthB a b) := by
  unfold set_Within.f
  congr 1
  have h64 : (2 : Nat) ^ 64 = 18446744073709551616 := by decide
  have hbn := nat_lt hb
  have han := nat_lt ha
  rw [u64_andNot a b ha.1 ha.2 hb.1 hb.2]
  have e1 : 18446744073709551615 - b.toNat = 2 ^ 64 - (b.toNat + 1) := by omega
  rw [e1]
  apply Bool.eq_iff_iff.2
  rw [beq_iff_eq, wth_iff]
  constructor
  · intro h i hi
    have h0 : a.toNat &&& (2 ^ 64 - (b.toNat + 1)) = 0 := by omega
    have h1 := congrArg (fun n => n.testBit i) h0
    simp only [Nat.testBit_and, Nat.zero_testBit, Nat.testBit_two_pow_sub_succ hbn, hi, Bool.true_and, testBit_big han hi, decide_true] at h1
    simpa using h1
  · intro h
    have : a.toNat &&& (2 ^ 64 - (b.toNat + 1)) = 0 := by
      apply Nat.eq_of_testBit_eq
      intro i
      rw [Nat.testBit_and, Nat.testBit_two_pow_sub_succ hbn, Nat.zero_testBit]
      cases hi : a.toNat.testBit i with
      | false => rfl
      | true => rw [h i hi]; simp
    rw [this]; rfl
def aptB (a b : Int) : Bool := decide (a.toNat &&& b.toNat = 0)
theorem apt_iff (a b : Int) : aptB a b = true ↔ ∀ i, a.toNat.testBit i = true → b.toNat.testBit i = false := by
  unfold aptB
  rw [decide_eq_true_iff]
  constructor
  · intro h i hi
    have h1 := congrArg (fun n => n.testBit i) h
    simp only [Nat.testBit_and, Nat.zero_testBit, hi, Bool.true_and] at h1
    exact h1
  · intro h
    apply Nat.eq_of_testBit_eq
    intro i
    rw [Nat.testBit_and, Nat.zero_testBit]
    cases hi : a.toNat.testBit i with
    | false => rfl
    | true => rw [h i hi]; rfl
theorem apart_f {a b : Int} (ha : U64 a) (hb : U64 b) : set_Apart.f a b = some (aptB a b) := by
  unfold set_Apart.f aptB
  rw [u64_and a b ha.1 ha.2 hb.1 hb.2]
  congr 1
  apply Bool.eq_iff_iff.2
  rw [beq_iff_eq, decide_eq_true_iff]
  omega
theorem rapart_l0 (x y : Int) (hx : U64 x) (hy : U64 y) : ∀ (d i : Nat), i + d = 64 → (∀ j, j < i → x.toNat.testBit j = true → y.toNat.testBit j = false) → Ult (fun k => saleroomref02_Apart.l0 k x y (i : Int)) (aptB x y) := by
  intro d
  induction d with
  | zero =>
    intro i hi hall
    refine Ult.succ ?_
    simp only [saleroomref02_Apart.l0]
    refine Ult.neg (by omega) (Ult.const ?_)
    congr 1
    symm
    rw [apt_iff]
    intro j hj
    exact hall j (by have := testBit_big (nat_lt hx) hj; omega) hj
  | succ d ih =>
    intro i hi hall
    refine Ult.succ ?_
    simp only [saleroomref02_Apart.l0]
    refine Ult.pos (by omega) ?_
    rw [show wrap64 ((i : Int) + 1) = ((i + 1 : Nat) : Int) by rw [w64 (by omega) (by omega)]; rfl]
    refine Ult.bind (has_item x i hx (by omega)) ?_
    refine Ult.ite (fun h => ?_) (fun h => ?_)
    · refine Ult.bind (has_item y i hy (by omega)) ?_
      refine Ult.ite (fun h2 => Ult.const ?_) (fun h2 => ?_)
      · congr 1
        cases hb : aptB x y with
        | false => rfl
        | true => rw [(apt_iff x y).1 hb i h] at h2; cases h2
      · refine ih (i + 1) (by omega) fun j hj hjx => ?_
        rcases Nat.lt_or_ge j i with h3 | h3
        · exact hall j h3 hjx
        · obtain rfl : j = i := by omega
          simpa using h2
    · refine ih (i + 1) (by omega) fun j hj hjx => ?_
      rcases Nat.lt_or_ge j i with h3 | h3
      · exact hall j h3 hjx
      · obtain rfl : j = i := by omega
        exact absurd hjx h
theorem rapart_ev (x y : Int) (hx : U64 x) (hy : U64 y) : Ult (fun k => saleroomref02_Apart.f k x y) (aptB x y) := rapart_l0 x y hx hy 64 0 rfl (fun j hj => by omega)
theorem sameInts_ev (l : List Int) (hl : l.length ≤ 600000) : Ult (fun k => saleroomref01_SameInts.f k l l) true := by
  have h : ∀ (d i : Nat), i + d = l.length → Ult (fun k => saleroomref01_SameInts.l0 k l l (i : Int)) true := by
    intro d
    induction d with
    | zero => intro i hi; refine Ult.succ ?_; simp only [saleroomref01_SameInts.l0]; exact Ult.neg (by omega) (Ult.const rfl)
    | succ d ih =>
      intro i hi; refine Ult.succ ?_; simp only [saleroomref01_SameInts.l0]
      rw [show wrap64 ((i : Int) + 1) = ((i + 1 : Nat) : Int) by rw [w64 (by omega) (by omega)]; rfl]
      exact Ult.pos (by omega) (Ult.pos (by omega) (Ult.pos (by omega) (Ult.pos (by trivial) (ih (i + 1) (by omega)))))
  unfold saleroomref01_SameInts.f
  exact Ult.pos rfl (h l.length 0 (by omega))
theorem sameSets_ev (l : List Int) (hl : l.length ≤ 600000) : Ult (fun k => saleroomref01_SameSets.f k l l) true := by
  have h : ∀ (d i : Nat), i + d = l.length → Ult (fun k => saleroomref01_SameSets.l0 k l l (i : Int)) true := by
    intro d
    induction d with
    | zero => intro i hi; refine Ult.succ ?_; simp only [saleroomref01_SameSets.l0]; exact Ult.neg (by omega) (Ult.const rfl)
    | succ d ih =>
      intro i hi; refine Ult.succ ?_; simp only [saleroomref01_SameSets.l0]
      rw [show wrap64 ((i : Int) + 1) = ((i + 1 : Nat) : Int) by rw [w64 (by omega) (by omega)]; rfl]
      exact Ult.pos (by omega) (Ult.pos (by omega) (Ult.pos (by omega) (Ult.pos (by trivial) (ih (i + 1) (by omega)))))
  unfold saleroomref01_SameSets.f
  exact Ult.pos rfl (h l.length 0 (by omega))
theorem sameNums_ev (l : List Int) (hl : l.length ≤ 600000) : Ult (fun k => saleroomref01_SameNums.f k l l) true := by
  have h : ∀ (d i : Nat), i + d = l.length → Ult (fun k => saleroomref01_SameNums.l0 k l l (i : Int)) true := by
    intro d
    induction d with
    | zero => intro i hi; refine Ult.succ ?_; simp only [saleroomref01_SameNums.l0]; exact Ult.neg (by omega) (Ult.const rfl)
    | succ d ih =>
      intro i hi; refine Ult.succ ?_; simp only [saleroomref01_SameNums.l0]
      rw [show wrap64 ((i : Int) + 1) = ((i + 1 : Nat) : Int) by rw [w64 (by omega) (by omega)]; rfl]
      exact Ult.pos (by omega) (Ult.pos (by omega) (Ult.pos (by omega) (Ult.pos (by trivial) (ih (i + 1) (by omega)))))
  unfold saleroomref01_SameNums.f
  exact Ult.pos rfl (h l.length 0 (by omega))
end Go.Proofs.YtmcapemlfplcgaaDoor.R02
/- Folder 02: the document's functions, with named answers. -/
namespace Go.Proofs.YtmcapemlfplcgaaDoor.H
open Go.RowKit Go.Proofs.YtmcapemlfplcgaaDoorW.PrintWords Go.Proofs.YtmcapemlfplcgaaDoorW.PrintLast Go.Proofs.YtmcapemlfplcgaaDoorW.PrintMore Go.Proofs.YtmcapemlfplcgaaDoor.AtM Go.Proofs.YtmcapemlfplcgaaDoor.R02 Go.Proofs.YtmcapemlfplcgaaDoor.Ult
set_option linter.unusedVariables false
set_option linter.unusedSimpArgs false
set_option maxRecDepth 100000
theorem wf2_u64 {x : Int} (h : (Lit.int .u64 x).wf = true) : U64 x := by
  simp [Lit.wf, IntKind.min, IntKind.max, IntKind.signed, IntKind.bits] at h
  unfold U64; omega
theorem wf2_i64 {x : Int} (h : (Lit.int .i64 x).wf = true) : -9223372036854775808 ≤ x ∧ x ≤ 9223372036854775807 := by
  simp [Lit.wf, IntKind.min, IntKind.max, IntKind.signed, IntKind.bits] at h
  omega
theorem SHas_eq (a n : Int) (W : World) (ha : U64 a) : Calls Tryd.prog 12 #[.int .u64 a, .int .i64 n] W fun e W' => e = .returned (.bool (hasS a n)) ∧ Below W.heap.size W W' := Has_eq a n _ W (has_f a n ha)
theorem SFull_eq (n : Int) (W : World) : Calls Tryd.prog 22 #[.int .i64 n] W fun e W' => e = .returned (.int .u64 (fullS n)) ∧ Below W.heap.size W W' := Full_eq n _ W (full_f n)
theorem SWithin_eq (a b : Int) (W : World) (ha : U64 a) (hb : U64 b) : Calls Tryd.prog 16 #[.int .u64 a, .int .u64 b] W fun e W' => e = .returned (.bool (wthB a b)) ∧ Below W.heap.size W W' := Within_eq a b _ W (within_f ha hb)
theorem SApart_eq (a b : Int) (W : World) (ha : U64 a) (hb : U64 b) : Calls Tryd.prog 18 #[.int .u64 a, .int .u64 b] W fun e W' => e = .returned (.bool (aptB a b)) ∧ Below W.heap.size W W' := Apart_eq a b _ W (apart_f ha hb)
theorem RHas_eq (a n : Int) (W : World) (ha : U64 a) : Calls Tryd.prog 13 #[.int .u64 a, .int .i64 n] W fun e W' => e = .returned (.bool (hasS a n)) ∧ Below W.heap.size W W' := by
  obtain ⟨k, hk⟩ := (rhas_ev a n ha).get
  exact (PAll2.saleroomref02_Has.calls k a n _ W hk).mono fun e W' h => ⟨h.1, by first | exact h.2.below | exact h.2⟩
theorem ROne_eq (n : Nat) (W : World) (hn : n ≤ 63) : Calls Tryd.prog 11 #[.int .i64 n] W fun e W' => e = .returned (.int .u64 (oneN n)) ∧ Below W.heap.size W W' := by
  obtain ⟨k, hk⟩ := (one_ev n hn).get
  exact (PAll2.saleroomref02_One.calls k n _ W hk).mono fun e W' h => ⟨h.1, by first | exact h.2.below | exact h.2⟩
theorem RWithin_eq (a b : Int) (W : World) (ha : U64 a) (hb : U64 b) : Calls Tryd.prog 17 #[.int .u64 a, .int .u64 b] W fun e W' => e = .returned (.bool (wthB a b)) ∧ Below W.heap.size W W' := by
  obtain ⟨k, hk⟩ := (within_ev a b ha hb).get
  exact (PAll2.saleroomref02_Within.calls k a b _ W hk).mono fun e W' h => ⟨h.1, by first | exact h.2.below | exact h.2⟩
theorem RApart_eq (a b : Int) (W : World) (ha : U64 a) (hb : U64 b) : Calls Tryd.prog 19 #[.int .u64 a, .int .u64 b] W fun e W' => e = .returned (.bool (aptB a b)) ∧ Below W.heap.size W W' := by
  obtain ⟨k, hk⟩ := (rapart_ev a b ha hb).get
  exact (PAll2.saleroomref02_Apart.calls k a b _ W hk).mono fun e W' h => ⟨h.1, by first | exact h.2.below | exact h.2⟩
theorem RCmp_eq (a b : Int) (W : World) (ha : U64 a) (hb : U64 b) : Calls Tryd.prog 21 #[.int .u64 a, .int .u64 b] W fun e W' => e = .returned (.int .i64 (cmpS a b)) ∧ Below W.heap.size W W' := by
  obtain ⟨k, hk⟩ := (cmp_ev a b ha hb).get
  exact (PAll2.saleroomref02_Cmp.calls k a b _ W hk).mono fun e W' h => ⟨h.1, by first | exact h.2.below | exact h.2⟩
theorem RList_eq (s : Int) (n : Nat) (W : World) (hs : U64 s) (h : (listS s).length = n) : Calls Tryd.prog 15 #[.int .u64 s] W fun e W' =>
    ∃ A c, e = .returned (.slice A n c) ∧ n ≤ c ∧ Kd.C (Kd.int .i64) W' A n (listS s) ∧ Below W.heap.size W W' := by
  subst h
  obtain ⟨k, hk⟩ := (list_ev s hs).get
  refine (PAll2.saleroomref02_List.calls k s _ W hk).mono ?_
  rintro e w' ⟨v, rfl, hR, hb⟩
  obtain ⟨A, c, rfl, hc, hC⟩ := R_C hR
  exact ⟨A, c, rfl, hc, hC, hb⟩
theorem SameInts_eq (l l' : List Int) (n n' : Nat) (A A' : Option Addr) (c c' : Nat) (W : World) (he : l = l') (hn : l.length = n) (hn' : l'.length = n') (hC : Kd.C (Kd.int .i64) W A n l) (hc : n ≤ c) (hC' : Kd.C (Kd.int .i64) W A' n' l') (hc' : n' ≤ c') (hl : n ≤ 600000) :
    Calls Tryd.prog 23 #[.slice A n c, .slice A' n' c'] W fun e W' => e = .returned (.bool true) ∧ Below W.heap.size W W' := by
  subst he; subst hn; subst hn'
  obtain ⟨k, hk⟩ := (sameInts_ev l hl).get
  exact (PAll2.saleroomref01_SameInts.calls k A c l A' c' l true W hC hc hC' hc' hk).mono fun e W' h => ⟨h.1, by first | exact h.2.below | exact h.2⟩
theorem SameSets_eq (l l' : List Int) (n n' : Nat) (A A' : Option Addr) (c c' : Nat) (W : World) (he : l = l') (hn : l.length = n) (hn' : l'.length = n') (hC : Kd.C (Kd.int .u64) W A n l) (hc : n ≤ c) (hC' : Kd.C (Kd.int .u64) W A' n' l') (hc' : n' ≤ c') (hl : n ≤ 600000) :
    Calls Tryd.prog 32 #[.slice A n c, .slice A' n' c'] W fun e W' => e = .returned (.bool true) ∧ Below W.heap.size W W' := by
  subst he; subst hn; subst hn'
  obtain ⟨k, hk⟩ := (sameSets_ev l hl).get
  exact (PAll2.saleroomref01_SameSets.calls k A c l A' c' l true W hC hc hC' hc' hk).mono fun e W' h => ⟨h.1, by first | exact h.2.below | exact h.2⟩
theorem SameNums_eq (l l' : List Int) (n n' : Nat) (A A' : Option Addr) (c c' : Nat) (W : World) (he : l = l') (hn : l.length = n) (hn' : l'.length = n') (hC : Kd.C (Kd.int .i64) W A n l) (hc : n ≤ c) (hC' : Kd.C (Kd.int .i64) W A' n' l') (hc' : n' ≤ c') (hl : n ≤ 600000) :
    Calls Tryd.prog 36 #[.slice A n c, .slice A' n' c'] W fun e W' => e = .returned (.bool true) ∧ Below W.heap.size W W' := by
  subst he; subst hn; subst hn'
  obtain ⟨k, hk⟩ := (sameNums_ev l hl).get
  exact (PAll2.saleroomref01_SameNums.calls k A c l A' c' l true W hC hc hC' hc' hk).mono fun e W' h => ⟨h.1, by first | exact h.2.below | exact h.2⟩
end Go.Proofs.YtmcapemlfplcgaaDoor.H
/- A list that the rounds of a range over a func fill, one append a round. -/
namespace Go.Proofs.YtmcapemlfplcgaaDoor.H
open Go.RowKit Go.Proofs.YtmcapemlfplcgaaDoorW.PrintWords Go.Proofs.YtmcapemlfplcgaaDoorW.PrintLast Go.Proofs.YtmcapemlfplcgaaDoorW.PrintMore Go.Proofs.YtmcapemlfplcgaaDoor.AtM
set_option linter.unusedVariables false
set_option linter.unusedSimpArgs false
set_option maxRecDepth 100000
theorem and_mask2 (a : Int) (m : Nat) (hm : m < 9223372036854775808) : 0 ≤ bits .and .i64 a (m : Int) ∧ bits .and .i64 a (m : Int) ≤ m := by
  have e : bits .and .i64 a (m : Int) = IntKind.i64.wrap (((BitVec.ofInt 64 a) &&& (BitVec.ofInt 64 (m : Int))).toNat : Int) := rfl
  have hle : ((BitVec.ofInt 64 a) &&& (BitVec.ofInt 64 (m : Int))).toNat ≤ m := by
    rw [BitVec.ofInt_natCast, BitVec.toNat_and, BitVec.toNat_ofNat, Nat.mod_eq_of_lt (by omega : m < 2 ^ 64)]
    exact Nat.and_le_right
  rw [e, IntKind.wrap_i64]
  generalize ((BitVec.ofInt 64 a) &&& (BitVec.ofInt 64 (m : Int))).toNat = z at hle ⊢
  omega
theorem R_zero2 {α : Type} (d : Kd α) {e base g : Nat} {W : World} {ok : Nat → Prop} (hg : W.heap[g]? = some (.cells #[] e (0, 0))) (hb : base ≤ g) (hok : ok g) : d.R e W base ok (.slice (some ⟨g, 0, none⟩) 0 0) [] :=
  ⟨fun k hk => by have e : some g = some k := hk; injection e with e; exact e ▸ hok, [], ⟨by simp, .inr ⟨g, 0, #[], rfl, hb, hg, Nat.le_refl _, by decide, by simp, by simp⟩⟩, Reps.none _ _⟩
/-- What holds of the list between two rounds: w the world ahead of the range, gb the list's box, eb the block of the empty literal. -/
structure Got (k : IntKind) (t tS : TypeId) (w X : World) (gb eb : Nat) (pre : List Int) : Prop where
  row : ∃ A c, X.heap[gb]? = some (.cells #[.slice A pre.length c] tS (0, 0)) ∧ Kd.R (Kd.int k) t X eb (fun i => i = eb ∨ w.heap.size ≤ i) (.slice A pre.length c) pre
  but : But (fun i => i = eb ∨ i = gb) w X
theorem But.lies2 {P : Nat → Prop} {w X Y : World} {B : Nat} (h : But P w X) (hl : Lies B X Y) (hB : w.heap.size ≤ B) : But P w Y :=
  ⟨hl.os.trans h.os, hl.tape.trans h.tape, hl.output.trans h.output, Nat.le_trans h.size hl.size, fun k hk hp => by
    have e := h.block k hk hp
    obtain ⟨o, ho⟩ : ∃ o, w.heap[k]? = some o := ⟨_, Array.getElem?_eq_getElem hk⟩
    rw [ho] at e ⊢
    exact hl.same k o e (.inl (by omega))⟩
theorem Got.lies {k : IntKind} {t tS : TypeId} {w X Y : World} {gb eb B : Nat} {pre : List Int} (h : Got k t tS w X gb eb pre) (hl : Lies B X Y) (hB : w.heap.size ≤ B) : Got k t tS w Y gb eb pre := by
  obtain ⟨A, c, h1, h2⟩ := h.row
  exact ⟨⟨A, c, hl.blk h1, hl.R h2⟩, h.but.lies2 hl hB⟩
/-- A round. -/
theorem Got.step {k : IntKind} {t tS : TypeId} {w Wb w7 : World} {gb eb s : Nat} {pre : List Int} {x : Int} {Ap A7 : Option Addr} {n cp c7 : Nat} (h : Got k t tS w Wb gb eb pre) (hn : pre.length = n)
    (j1 : Wb.heap[gb]? = some (.cells #[.slice Ap n cp] tS (0, 0))) (j2 : Kd.R (Kd.int k) t Wb eb (fun i => i = eb ∨ w.heap.size ≤ i) (.slice Ap n cp) pre)
    (r1 : Kd.R (Kd.int k) t w7 eb (fun i => i = eb ∨ w.heap.size ≤ i) (.slice A7 (n + 1) c7) (pre ++ [x])) (r3 : Wb.grownBy w7 (Value.slice Ap n cp).ownBlock) (r4 : w7.heap[gb]? = some (.cells #[.slice Ap n cp] tS (0, 0))) (htt : tS ≠ t) (htt2 : ∀ q ∈ t :: (Kd.int k).E, q ≠ tS) (hgb : gb < w.heap.size) (hs : s ≤ Wb.heap.size) (he : eb < w.heap.size) :
    Got k t tS w (w7.setCell ⟨gb, 0, none⟩ (.slice A7 (n + 1) c7)) gb eb (pre ++ [x]) ∧ KeepsFrom w.heap.size Wb (w7.setCell ⟨gb, 0, none⟩ (.slice A7 (n + 1) c7)) ∧
    Kin (fun q => q = t) w.heap.size s Wb (w7.setCell ⟨gb, 0, none⟩ (.slice A7 (n + 1) c7)) ∧ Kp w.heap.size (fun i => i ≠ eb ∧ i ≠ gb) Wb (w7.setCell ⟨gb, 0, none⟩ (.slice A7 (n + 1) c7)) := by
  have hWbs := h.but.size
  have hbut : But (fun i => i = gb ∨ some i = (Value.slice Ap n cp).ownBlock) Wb (w7.setCell ⟨gb, 0, none⟩ (.slice A7 (n + 1) c7)) := (But.of_grown r3 (fun i hi => .inr hi.symm)).trans (.of_oth (Oth.set w7 ⟨gb, 0, none⟩ _) (.inl rfl))
  have hown : ∀ i, some i = (Value.slice Ap n cp).ownBlock → (i = eb ∨ w.heap.size ≤ i) ∧ ∃ cells, Wb.heap[i]? = some (.cells cells t (0, 0)) := fun i hi => by
    obtain ⟨_, ho'⟩ := Kd.R_own j2
    exact ⟨j2.1 i hi.symm, own_typed ho' i hi.symm⟩
  refine ⟨⟨⟨A7, c7, ?_, ?_⟩, h.but.then hbut (fun i hi h => ?_)⟩, KeepsFrom.of_but hbut ?_, ⟨hbut.size, fun i h1 h2 h3 => hbut.block i (by omega) ?_⟩, Kp.of_but hbut (fun i hi hb => ?_) hWbs⟩
  · simp only [List.length_append, List.length_singleton, hn]
    exact blk_put r4 0 (.slice A7 (n + 1) c7) rfl
  · simp only [List.length_append, List.length_singleton, hn]
    exact Kd.R_set r1 r4 htt2 0 _
  · rcases h with h | h
    · exact .inr h
    · rcases (hown i h).1 with h | h
      · exact .inl h
      · omega
  · rintro i o (rfl | hi) ho
    · rw [j1] at ho; cases ho; rfl
    · obtain ⟨_, cells, hc⟩ := hown i hi
      rw [hc] at ho; cases ho; rfl
  · rintro (h | h)
    · omega
    · obtain ⟨_, cells, hc⟩ := hown i h
      exact h3 _ _ _ hc rfl
  · rintro (h | h)
    · exact hb.2 h
    · rcases (hown i h).1 with h | h
      · exact hb.1 h
      · omega
end Go.Proofs.YtmcapemlfplcgaaDoor.H
/- The run of an append of one literal to a row of one's own. -/
namespace Go.Proofs.YtmcapemlfplcgaaDoor.H
open Go.RowKit Go.Proofs.YtmcapemlfplcgaaDoorW.PrintWords Go.Proofs.YtmcapemlfplcgaaDoorW.PrintLast Go.Proofs.YtmcapemlfplcgaaDoorW.PrintMore
set_option linter.unusedVariables false
set_option linter.unusedSimpArgs false
theorem run_app {P : Program} {α : Type} (d : Kd α) {w0 W : World} (base : Nat) (t e ty : TypeId) (z : Value) (bytes : Nat)
    (ht : P.underlying t = some (.slice e)) (hinfo : (P.info? e).map (fun i => (i.zero, i.size, i.bytes)) = some (some z, d.sz, bytes)) (hz : z.cells.size = d.sz) (hs0 : 0 < d.sz) (hb0 : 0 < bytes)
    (v : Value) (xs : List α) (p : α) (cs : List Value) (ok okp : Nat → Prop) (hp : d.M W base okp p cs) (hokp : ∀ k, okp k → ok k ∧ some k ≠ v.ownBlock) (hfresh : ∀ k, W.heap.size ≤ k → ok k)
    (HO : d.R e W base ok v xs) (HB : Below base w0 W) (hbase : base ≤ W.heap.size) (hl : (xs.length + 1) * bytes ≤ 140737488355328) :
    ∃ v1 w1, (Builtin.append_ #[t, t] ty #[v, .slice (some ⟨W.heap.size, 0, none⟩) 1 1]).run P (W.alloc (.cells cs.toArray e)) = .ok v1 w1 ∧ d.R e w1 base ok v1 (xs ++ [p]) ∧ Below base w0 w1 ∧ W.grownBy w1 v.ownBlock := by
  obtain ⟨h0, inner, hown, hr⟩ := HO
  obtain ⟨i0, hi, hzz⟩ := Option.map_eq_some_iff.1 hinfo
  simp only [Prod.mk.injEq] at hzz
  obtain ⟨hz0, hz1, hz2⟩ := hzz
  have hlen : xs.length + 1 ≤ 140737488355328 := Nat.le_trans (Nat.le_mul_of_pos_right _ hb0) hl
  have hys : cs.length = d.sz := d.K_len (d.K_of_M hp)
  obtain ⟨v1, w1, hrun, r1, r2, r3, r4⟩ := run_append_own_at (P := P) (W.alloc (.cells cs.toArray e)) base t ty e i0 z d.sz bytes ht hi hz0 hz1 hz2 hz hs0 v xs.length inner (hown.alloc _) ⟨W.heap.size, 0, none⟩ 1 1 cs (by rw [hys]; simp)
    (by simpa using World.news_of_block (cs := cs.toArray) (t := e) (fr := (0, 0)) (heap_alloc_new W (.cells cs.toArray e))) (d.K_one (d.K_of_M hp)) (by simp only [maxLen]; omega) hl (by simp; omega)
  have hat : v1.ownBlock = v.ownBlock ∨ ∃ b, v1.ownBlock = some b ∧ W.heap.size ≤ b := by
    rcases r4 with r4 | r4
    · exact .inl r4
    · exact .inr ⟨_, r4, by simp⟩
  have hg1 : W.grownBy w1 v.ownBlock := World.grownBy.trans (World.grownBy_alloc W _ _) r2
  exact ⟨v1, w1, hrun, Kd.R_appended h0 hr hp hokp hfresh r1 hg1 hat, (HB.alloc hbase _).grown r2 (by simp; omega) (own_base hown), hg1⟩
end Go.Proofs.YtmcapemlfplcgaaDoor.H
/- Two rows of one's own, of whole numbers of two types, that grow side by side. -/
namespace Go.Proofs.YtmcapemlfplcgaaDoor.H
open Go.RowKit Go.Proofs.YtmcapemlfplcgaaDoorW.PrintWords Go.Proofs.YtmcapemlfplcgaaDoorW.PrintLast Go.Proofs.YtmcapemlfplcgaaDoorW.PrintMore Go.Proofs.YtmcapemlfplcgaaDoor.AtM
set_option linter.unusedVariables false
set_option linter.unusedSimpArgs false
set_option maxRecDepth 100000
/-- The run of an append of a literal that lies anywhere. -/
theorem run_app_at {P : Program} {α : Type} (d : Kd α) {W : World} (base : Nat) (t e ty : TypeId) (z : Value) (bytes : Nat)
    (ht : P.underlying t = some (.slice e)) (hinfo : (P.info? e).map (fun i => (i.zero, i.size, i.bytes)) = some (some z, d.sz, bytes)) (hz : z.cells.size = d.sz) (hs0 : 0 < d.sz) (hb0 : 0 < bytes)
    (v : Value) (xs : List α) (p : α) (cs : List Value) (ok okp : Nat → Prop) (hp : d.M W base okp p cs) (hokp : ∀ k, okp k → ok k ∧ some k ≠ v.ownBlock) (hfresh : ∀ k, W.heap.size ≤ k → ok k)
    (HO : d.R e W base ok v xs) {g : Nat} (hg : W.heap[g]? = some (.cells cs.toArray e (0, 0))) (hbase : base ≤ W.heap.size) (hl : (xs.length + 1) * bytes ≤ 140737488355328) :
    ∃ v1 w1, (Builtin.append_ #[t, t] ty #[v, .slice (some ⟨g, 0, none⟩) 1 1]).run P W = .ok v1 w1 ∧ d.R e w1 base ok v1 (xs ++ [p]) ∧ W.grownBy w1 v.ownBlock := by
  obtain ⟨h0, inner, hown, hr⟩ := HO
  obtain ⟨i0, hi, hzz⟩ := Option.map_eq_some_iff.1 hinfo
  simp only [Prod.mk.injEq] at hzz
  obtain ⟨hz0, hz1, hz2⟩ := hzz
  have hlen : xs.length + 1 ≤ 140737488355328 := Nat.le_trans (Nat.le_mul_of_pos_right _ hb0) hl
  have hys : cs.length = d.sz := d.K_len (d.K_of_M hp)
  obtain ⟨v1, w1, hrun, r1, r2, r3, r4⟩ := run_append_own_at (P := P) W base t ty e i0 z d.sz bytes ht hi hz0 hz1 hz2 hz hs0 v xs.length inner hown ⟨g, 0, none⟩ 1 1 cs (by rw [hys]; simp)
    (by simpa using World.news_of_block (cs := cs.toArray) (t := e) (fr := (0, 0)) hg) (d.K_one (d.K_of_M hp)) (by simp only [maxLen]; omega) hl hbase
  have hat : v1.ownBlock = v.ownBlock ∨ ∃ b, v1.ownBlock = some b ∧ W.heap.size ≤ b := by
    rcases r4 with r4 | r4
    · exact .inl r4
    · exact .inr ⟨_, r4, Nat.le_refl _⟩
  exact ⟨v1, w1, hrun, Kd.R_appended h0 hr hp hokp hfresh r1 r2 hat, r2⟩
/-- What turns from one world to the next: the boxes b1, b2, and rows of whole numbers that are new, or the two empty ones. -/
structure Rl (w X Y : World) (e1 e2 b1 b2 : Nat) : Prop where
  os : Y.os = X.os
  tape : Y.tape = X.tape
  output : Y.output = X.output
  size : X.heap.size ≤ Y.heap.size
  old : ∀ k, k < w.heap.size → k < X.heap.size → k ≠ e1 → k ≠ e2 → k ≠ b1 → k ≠ b2 → Y.heap[k]? = X.heap[k]?
  typ : ∀ k, k < X.heap.size → k ≠ b1 → k ≠ b2 → (∀ t cs z, X.heap[k]? = some (.cells cs t z) → ¬ (t = 3 ∨ t = 2)) → Y.heap[k]? = X.heap[k]?
theorem Rl.refl (w X : World) (e1 e2 b1 b2 : Nat) : Rl w X X e1 e2 b1 b2 := ⟨rfl, rfl, rfl, Nat.le_refl _, fun _ _ _ _ _ _ _ => rfl, fun _ _ _ _ _ => rfl⟩
theorem Rl.trans {w X Y Z : World} {e1 e2 b1 b2 : Nat} (h : Rl w X Y e1 e2 b1 b2) (k : Rl w Y Z e1 e2 b1 b2) : Rl w X Z e1 e2 b1 b2 :=
  ⟨k.os.trans h.os, k.tape.trans h.tape, k.output.trans h.output, Nat.le_trans h.size k.size, fun i h1 h2 h3 h4 h5 h6 => (k.old i h1 (Nat.lt_of_lt_of_le h2 h.size) h3 h4 h5 h6).trans (h.old i h1 h2 h3 h4 h5 h6),
    fun i h1 h2 h3 h4 => (k.typ i (Nat.lt_of_lt_of_le h1 h.size) h2 h3 (fun t cs z e => h4 t cs z ((h.typ i h1 h2 h3 h4).symm.trans e))).trans (h.typ i h1 h2 h3 h4)⟩
theorem Rl.of_below {w X Y : World} {e1 e2 b1 b2 : Nat} (h : Below X.heap.size X Y) : Rl w X Y e1 e2 b1 b2 := ⟨h.os, h.tape, h.output, h.size, fun k _ h2 _ _ _ _ => h.block k h2, fun k h1 _ _ _ => h.block k h1⟩
theorem Rl.of_oth {w X Y : World} {e1 e2 b1 b2 g : Nat} (h : Oth g X Y) (hg : g = b1 ∨ g = b2) : Rl w X Y e1 e2 b1 b2 :=
  ⟨h.os, h.tape, h.output, h.size, fun k _ h2 _ _ h5 h6 => h.block k h2 (by omega), fun k h1 h2 h3 _ => h.block k h1 (by omega)⟩
/-- The two rows. -/
structure Tw (w X : World) (N e1 e2 b1 b2 : Nat) (v1 v2 : Value) (p1 p2 : List Int) : Prop where
  r1 : Kd.R (Kd.int .i64) 3 X N (fun j => j = e1 ∨ w.heap.size ≤ j) v1 p1
  r2 : Kd.R (Kd.int .i64) 2 X N (fun j => j = e2 ∨ w.heap.size ≤ j) v2 p2
  rl : Rl w w X e1 e2 b1 b2
theorem Tw.below {w X Y : World} {N e1 e2 b1 b2 : Nat} {v1 v2 : Value} {p1 p2 : List Int} (h : Tw w X N e1 e2 b1 b2 v1 v2 p1 p2) (hb : Below X.heap.size X Y) : Tw w Y N e1 e2 b1 b2 v1 v2 p1 p2 :=
  ⟨Kd.R_below h.r1 hb, Kd.R_below h.r2 hb, h.rl.trans (.of_below hb)⟩
theorem info_ti : (Tryd.prog.info? 3).map (fun i => (i.zero, i.size, i.bytes)) = some (some (.int .i64 0), 1, 8) := by kernel_rfl
theorem info_tj : (Tryd.prog.info? 2).map (fun i => (i.zero, i.size, i.bytes)) = some (some (.int .i64 0), 1, 8) := by kernel_rfl
theorem Tw.app1 {w X : World} {N e1 e2 b1 b2 n : Nat} {A : Option Addr} {c : Nat} {v2 : Value} {p1 p2 : List Int} (ty : TypeId) (h : Tw w X N e1 e2 b1 b2 (.slice A n c) v2 p1 p2) (hN : N ≤ w.heap.size) (hl : p1.length = n) (hn : n ≤ 100000) {x : Int} {g : Nat} (hgx : X.heap[g]? = some (.cells #[.int .i64 x] 3 (0, 0))) :
    ∃ (A' : Option Addr) (c' : Nat) (Y : World), (Builtin.append_ #[27, 27] ty #[.slice A n c, .slice (some ⟨g, 0, none⟩) 1 1]).run Tryd.prog X = .ok (.slice A' (n + 1) c') Y ∧ Tw w Y N e1 e2 b1 b2 (.slice A' (n + 1) c') v2 (p1 ++ [x]) p2 ∧ Rl w X Y e1 e2 b1 b2 ∧
      (∀ (g : Nat) (cs : Array Value) (t : TypeId), X.heap[g]? = some (.cells cs t (0, 0)) → t ≠ 3 → Y.heap[g]? = some (.cells cs t (0, 0))) := by
  have hXs := h.rl.size
  obtain ⟨v', Y, hrun, hR, hg⟩ := run_app_at (P := Tryd.prog) (Kd.int .i64) (W := X) N 27 3 ty (.int .i64 0) 8 Tryd.underlying27 info_ti rfl (by decide) (by omega) (.slice A n c) p1 x [.int .i64 x] (fun j => j = e1 ∨ w.heap.size ≤ j) (fun _ => False) rfl (fun _ hk => hk.elim) (fun j hj => .inr (Nat.le_trans hXs hj)) h.r1 hgx (by omega) (by rw [hl]; omega)
  obtain ⟨A', c', rfl⟩ := Kd.R_slice hR
  rw [List.length_append, List.length_singleton, hl] at hrun hR
  have hown : ∀ i, some i = (Value.slice A n c).ownBlock → (i = e1 ∨ w.heap.size ≤ i) ∧ ∃ cells, X.heap[i]? = some (.cells cells 3 (0, 0)) := fun i hi => by
    obtain ⟨_, ho'⟩ := Kd.R_own h.r1
    exact ⟨h.r1.1 i hi.symm, own_typed ho' i hi.symm⟩
  have hbut : But (fun i => some i = (Value.slice A n c).ownBlock) X Y := But.of_grown hg (fun i hi => hi.symm)
  have hrl : Rl w X Y e1 e2 b1 b2 := ⟨hbut.os, hbut.tape, hbut.output, hbut.size, fun k h1 h2 h3 _ _ _ => hbut.block k h2 (fun h4 => by rcases (hown k h4).1 with h5 | h5 <;> omega), fun k h1 _ _ h4 => hbut.block k h1 (fun h5 => by
    obtain ⟨_, cells, hc⟩ := hown k h5
    exact h4 _ _ _ hc (.inl rfl))⟩
  refine ⟨A', c', Y, hrun, ⟨hR, hbut.R h.r2 (fun j h1 h2 h3 h4 => ?_), h.rl.trans hrl⟩, hrl, fun g cs t hx ht => hbut.blk hx (fun h4 => ?_)⟩
  · obtain ⟨q, hq, cells, hc⟩ := h3
    obtain ⟨_, cells', hc'⟩ := hown j h4
    rw [hc] at hc'; injection hc' with hc'; injection hc' with _ hc' _
    rcases List.mem_cons.1 hq with rfl | hq
    · exact absurd hc' (by decide)
    · cases hq
  · obtain ⟨_, cells', hc'⟩ := hown g h4
    rw [hx] at hc'; injection hc' with hc'; injection hc' with _ hc' _
    exact ht hc'
theorem Tw.app2 {w X : World} {N e1 e2 b1 b2 n : Nat} {A : Option Addr} {c : Nat} {v1 : Value} {p1 p2 : List Int} (ty : TypeId) (h : Tw w X N e1 e2 b1 b2 v1 (.slice A n c) p1 p2) (hN : N ≤ w.heap.size) (hl : p2.length = n) (hn : n ≤ 100000) {x : Int} {g : Nat} (hgx : X.heap[g]? = some (.cells #[.int .i64 x] 2 (0, 0))) :
    ∃ (A' : Option Addr) (c' : Nat) (Y : World), (Builtin.append_ #[49, 49] ty #[.slice A n c, .slice (some ⟨g, 0, none⟩) 1 1]).run Tryd.prog X = .ok (.slice A' (n + 1) c') Y ∧ Tw w Y N e1 e2 b1 b2 v1 (.slice A' (n + 1) c') p1 (p2 ++ [x]) ∧ Rl w X Y e1 e2 b1 b2 ∧
      (∀ (g : Nat) (cs : Array Value) (t : TypeId), X.heap[g]? = some (.cells cs t (0, 0)) → t ≠ 2 → Y.heap[g]? = some (.cells cs t (0, 0))) := by
  have hXs := h.rl.size
  obtain ⟨v', Y, hrun, hR, hg⟩ := run_app_at (P := Tryd.prog) (Kd.int .i64) (W := X) N 49 2 ty (.int .i64 0) 8 Tryd.underlying49 info_tj rfl (by decide) (by omega) (.slice A n c) p2 x [.int .i64 x] (fun j => j = e2 ∨ w.heap.size ≤ j) (fun _ => False) rfl (fun _ hk => hk.elim) (fun j hj => .inr (Nat.le_trans hXs hj)) h.r2 hgx (by omega) (by rw [hl]; omega)
  obtain ⟨A', c', rfl⟩ := Kd.R_slice hR
  rw [List.length_append, List.length_singleton, hl] at hrun hR
  have hown : ∀ i, some i = (Value.slice A n c).ownBlock → (i = e2 ∨ w.heap.size ≤ i) ∧ ∃ cells, X.heap[i]? = some (.cells cells 2 (0, 0)) := fun i hi => by
    obtain ⟨_, ho'⟩ := Kd.R_own h.r2
    exact ⟨h.r2.1 i hi.symm, own_typed ho' i hi.symm⟩
  have hbut : But (fun i => some i = (Value.slice A n c).ownBlock) X Y := But.of_grown hg (fun i hi => hi.symm)
  have hrl : Rl w X Y e1 e2 b1 b2 := ⟨hbut.os, hbut.tape, hbut.output, hbut.size, fun k h1 h2 _ h3 _ _ => hbut.block k h2 (fun h4 => by rcases (hown k h4).1 with h5 | h5 <;> omega), fun k h1 _ _ h4 => hbut.block k h1 (fun h5 => by
    obtain ⟨_, cells, hc⟩ := hown k h5
    exact h4 _ _ _ hc (.inr rfl))⟩
  refine ⟨A', c', Y, hrun, ⟨hbut.R h.r1 (fun j h1 h2 h3 h4 => ?_), hR, h.rl.trans hrl⟩, hrl, fun g cs t hx ht => hbut.blk hx (fun h4 => ?_)⟩
  · obtain ⟨q, hq, cells, hc⟩ := h3
    obtain ⟨_, cells', hc'⟩ := hown j h4
    rw [hc] at hc'; injection hc' with hc'; injection hc' with _ hc' _
    rcases List.mem_cons.1 hq with rfl | hq
    · exact absurd hc' (by decide)
    · cases hq
  · obtain ⟨_, cells', hc'⟩ := hown g h4
    rw [hx] at hc'; injection hc' with hc'; injection hc' with _ hc' _
    exact ht hc'
theorem Tw.set {w X : World} {N e1 e2 b1 b2 g : Nat} {v1 v2 v : Value} {p1 p2 : List Int} {cs : Array Value} {t : TypeId} (h : Tw w X N e1 e2 b1 b2 v1 v2 p1 p2) (hg : X.heap[g]? = some (.cells cs t (0, 0))) (ht1 : t ≠ 3) (ht2 : t ≠ 2) (hgN : g = b1 ∨ g = b2) : Tw w (X.setCell ⟨g, 0, none⟩ v) N e1 e2 b1 b2 v1 v2 p1 p2 :=
  ⟨Kd.R_set h.r1 hg (by intro q hq; rcases List.mem_cons.1 hq with rfl | hq; (exact fun e => ht1 e.symm); cases hq) 0 _, Kd.R_set h.r2 hg (by intro q hq; rcases List.mem_cons.1 hq with rfl | hq; (exact fun e => ht2 e.symm); cases hq) 0 _, h.rl.trans (.of_oth (Oth.set X ⟨g, 0, none⟩ v) hgN)⟩
end Go.Proofs.YtmcapemlfplcgaaDoor.H
/- The law of XHeld for a load whose box is written by an operation that waits for it only by way of others. -/
namespace Go.Proofs.YtmcapemlfplcgaaDoor.H
open Go
set_option linter.unusedVariables false
section
variable {F : Fence} {n : Nat} {P : Program} {ops : Array Oper} {Q : Exit → Act → World → Prop} {md : Region.Mode} {S : World → Prop}
theorem anyB_first {N B : Nat → Bool} {i : Nat} {oi : Oper} {v : Value} (hro : F.round = none) (hi : ops[i]? = some oi) (hsel : ∀ (j : Nat) (o : Oper) cs b, ops[j]? = some o → o.op ≠ .select cs b)
    (hQ : ∀ c a w, Q (.panic c) (a.put oi.dst v) w → Q (.panic c) a w) (hN : ∀ j, N j = true → B j = true) (hB : ∀ j oj, ops[j]? = some oj → B j = true → ∃ e ∈ oj.after, Region.binds md e = true ∧ (e.on = i ∨ B e.on = true)) : ∀ (k : Nat) (listed : Array Bool) (a : Act) (w : World),
      (∀ j oj, ops[j]? = some oj → j ≠ i → listed.getD j true = false → (∀ e ∈ oj.after, Region.binds md e = true → e.on ≠ i) → oi.apart ops oj = true) →
      (∀ j, B j = true → listed.getD j true = false) →
      i ∈ Region.ready md ops listed → SameIn P ops S oi v a → S w →
      anyN F n P md ops Q S N k (listed.setIfInBounds i true) (a.put oi.dst v) w → anyN F n P md ops Q S N (k + 1) listed a w := by
  intro k
  induction k with
  | zero =>
    intro listed a w _ _ hr hy hS H
    refine ⟨fun h => absurd hr (by rw [h]; simp), fun j hj => ?_⟩
    by_cases e : j = i
    · subst e; exact hy.op hro hi hS ⟨fun _ => hS, H⟩
    · have := ready_mono hj e
      rw [H.1] at this; cases this
  | succ k ih =>
    intro listed a w hfree hbl hr hy hS H
    refine ⟨fun h => absurd hr (by rw [h]; simp), fun j hj => ?_⟩
    by_cases e : j = i
    · subst e; exact hy.op hro hi hS ⟨fun _ => hS, H⟩
    · obtain ⟨hun, oj, hoj, hall⟩ := mem_ready.1 hj
      have hoff : ∀ m, listed.getD m true = false → ∀ e ∈ oj.after, Region.binds md e = true → e.on ≠ m := fun m h0 e he hb heq => by
        have h1 := hall e he hb
        rw [heq] at h1
        rcases Nat.lt_or_ge m listed.size with h' | h'
        · simp [h'] at h0 h1; rw [h0] at h1; cases h1
        · simp [Array.getElem?_eq_none h'] at h1
      have hnot := hoff i (mem_ready.1 hr).1
      have hBj : B j = false := Bool.eq_false_iff.2 fun h => by
        obtain ⟨e, he, hb, hon | hon⟩ := hB j oj hoj h
        · exact hnot e he hb hon
        · exact hoff e.on (hbl e.on hon) e he hb rfl
      have hNj : N j = false := Bool.eq_false_iff.2 fun h => by rw [hN j h] at hBj; cases hBj
      obtain ⟨p1, p2, p3⟩ := Oper.apart_spec (hfree j oj hoj e hun hnot)
      have hlate := op_late (Y := SameIn P ops S oi v) hro hoj p1 (fun a u => (Act.put_comm a v u p2).symm) (fun cs b => hsel j oj cs b hoj) hQ
        (fun a u hy => ⟨hy.1.of_same (execOp_put oi (fun cs b => hsel i oi cs b hi) a oj.dst u p3) (wanted_put oi a oj.dst u p3), fun w => by rw [about_put oi w a oj.dst u p3]; exact hy.2 w⟩)
        (fun a d hy => ⟨hy.1.of_same rfl rfl, hy.2⟩) hy (H.2 j (ready_mono hj e))
      refine wpOpIn_mono (fun a' w' h3 => ⟨h3.2.1, ih (listed.setIfInBounds j true) a' w' (fun m om hm hmi hum hno => hfree m om hm hmi ?_ hno) (fun m hm => ?_) (ready_mono hr (Ne.symm e)) h3.1 (h3.2.1 hNj) ?_⟩) hlate
      · by_cases hjm : j = m
        · subst hjm; exact hun
        · rw [getD_set_ne true hjm] at hum; exact hum
      · have hjm : j ≠ m := fun h => by subst h; rw [hm] at hBj; cases hBj
        rw [getD_set_ne true hjm]; exact hbl m hm
      · rw [Array.setIfInBounds_comm _ _ e]; exact h3.2.2
theorem anyB_take {N : Nat → Bool} (B : Nat → Bool) {i : Nat} {oi : Oper} {v : Value} {k : Nat} {listed : Array Bool} {a : Act} {w : World} (hro : F.round = none) (hi : ops[i]? = some oi)
    (hs : Region.noSelect ops = true) (hf : Region.free md ops listed i = true) (hr : (Region.ready md ops listed).contains i = true)
    (hB : (List.range ops.size).all (fun j => !B j || (ops[j]?).all fun o => o.after.any fun e => Region.binds md e && (decide (e.on = i) || B e.on)) = true) (hB2 : ∀ j, B j = true → j < ops.size)
    (hBl : (List.range ops.size).all (fun j => !B j || !(listed.getD j true)) = true) (hN : ∀ j, N j = true → B j = true)
    (hQ : ∀ c a w, Q (.panic c) (a.put oi.dst v) w → Q (.panic c) a w) (hy : SameIn P ops S oi v a) (hS : S w)
    (h : anyN F n P md ops Q S N k (listed.setIfInBounds i true) (a.put oi.dst v) w) : anyN F n P md ops Q S N (k + 1) listed a w :=
  anyB_first hro hi (Region.noSelect_spec hs) hQ hN (fun j oj hj hn => by
    have h1 := List.all_eq_true.1 hB j (List.mem_range.2 (hB2 j hn))
    rw [hn, hj] at h1
    simp only [Bool.not_true, Bool.false_or, Option.all_some, Array.any_eq_true'] at h1
    obtain ⟨e, he, h2⟩ := h1
    rw [Bool.and_eq_true, Bool.or_eq_true] at h2
    exact ⟨e, by first | exact he | exact Array.mem_def.1 he, h2.1, h2.2.imp of_decide_eq_true id⟩) k listed a w (Region.free_spec hi hf) (fun j hj => by
    have h1 := List.all_eq_true.1 hBl j (List.mem_range.2 (hB2 j hj))
    rw [hj] at h1
    simpa using h1) (by simpa using hr) hy hS h
end
end Go.Proofs.YtmcapemlfplcgaaDoor.H
