/- Some texts of one seat in one file, in build order. -/
import Derived.Test.YtmmingnkepifoaaG2
import Derived.Laws.BitsAllLaws
import Derived.Test.YtmmingnkepifoaaProg
import Derived.Below
import Derived.Deep.Draws
import Derived.Deep.AppendLies
import Derived.Maps.AppendAt
import Derived.OwnWalk
import Derived.Laws.BytesArg
import Derived.Laws.MakeOwn
import Derived.Laws.OwnMore
import Derived.Deep.OwnRows
import Derived.Tactics
import Derived.Lib.ConvBytes
import Derived.Laws.Slices
import Derived.WalkKit
import Derived.KernelRfl
import Derived.RowKit3
import Derived.Deep.LoopGhost
import Derived.Deep.QuietTactic
import Derived.BigQuiet
import Derived.WideLaws
import Derived.Deep.DeepCutAuto
import Derived.Deep.CutBlock
import Derived.Deep.RegionHeld3
import Derived.Laws.Rows
import Derived.Lib.AppendStr
import Derived.ArgAppend
import Derived.Laws.IdiomCopy
import Derived.OrdersHeld
import Derived.Laws.BitsLemmas
import Derived.RowKit
import Derived.Test.YtmmingnkepifoaaWWords
import Derived.Test.YtmmingnkepifoaaWLast
import Derived.Test.YtmmingnkepifoaaWTab
import Derived.Test.YtmmingnkepifoaaWFour
import Derived.Test.YtmmingnkepifoaaWQPut
import Derived.Test.YtmmingnkepifoaaWApart
import Derived.Test.YtmmingnkepifoaaWArr
import Derived.Test.YtmmingnkepifoaaWZeros
import Derived.Test.YtmmingnkepifoaaWFoot
import Derived.Test.YtmmingnkepifoaaWKept
import Derived.Test.YtmmingnkepifoaaWShare
import Derived.Test.YtmmingnkepifoaaWN
import Derived.Test.YtmmingnkepifoaaWFootNe
import Derived.Test.YtmmingnkepifoaaWAt
import Derived.Test.YtmmingnkepifoaaWEqStruct
import Derived.Test.YtmmingnkepifoaaWRepsOne
import Derived.Test.YtmmingnkepifoaaWInv
import Derived.Test.YtmmingnkepifoaaWInvWords
import Derived.Test.YtmmingnkepifoaaWGuard
import Derived.Test.YtmmingnkepifoaaWNEv
import Derived.Test.YtmmingnkepifoaaWMore
/- Plain mathematics of package table: trees whose sides are at most one apart, as lists of keys with values. No program. -/
namespace Go.Proofs.Ytmmingnkepifoaa.TrM

inductive Tr (α β : Type) where
  | lf
  | nd (k : α) (v : β) (l r : Tr α β)
variable {α β : Type}
def hT : Tr α β → Nat
  | .lf => 0
  | .nd _ _ l r => max (hT l) (hT r) + 1
def sT : Tr α β → Nat
  | .lf => 0
  | .nd _ _ l r => sT l + sT r + 1
def leanT : Tr α β → Int
  | .lf => 0
  | .nd _ _ l r => (hT l : Int) - hT r
def flat : Tr α β → List (α × β)
  | .lf => []
  | .nd k v l r => flat l ++ (k, v) :: flat r
def turnR : Tr α β → Tr α β
  | .nd k v (.nd k' v' l r) r' => .nd k' v' l (.nd k v r r')
  | t => t
def turnL : Tr α β → Tr α β
  | .nd k v l (.nd k' v' l' r') => .nd k' v' (.nd k v l l') r'
  | t => t
def evenT (k : α) (v : β) (l r : Tr α β) : Tr α β :=
  if (hT l : Int) - hT r > 1 then (if leanT l < 0 then turnR (.nd k v (turnL l) r) else turnR (.nd k v l r))
  else if (hT l : Int) - hT r < -1 then (if leanT r > 0 then turnL (.nd k v l (turnR r)) else turnL (.nd k v l r))
  else .nd k v l r
theorem flat_turnR (t : Tr α β) : flat (turnR t) = flat t := by
  unfold turnR; split
  · simp [flat]
  · rfl
theorem flat_turnL (t : Tr α β) : flat (turnL t) = flat t := by
  unfold turnL; split
  · simp [flat]
  · rfl
theorem flat_even (k : α) (v : β) (l r : Tr α β) : flat (evenT k v l r) = flat l ++ (k, v) :: flat r := by
  unfold evenT
  split
  · split
    · rw [flat_turnR, flat, flat_turnL]
    · rw [flat_turnR, flat]
  · split
    · split
      · rw [flat_turnL, flat, flat_turnR]
      · rw [flat_turnL, flat]
    · rfl
theorem sT_flat (t : Tr α β) : sT t = (flat t).length := by
  induction t with
  | lf => rfl
  | nd k v l r hl hr => simp [sT, flat, hl, hr]; omega
theorem hT_le (t : Tr α β) : hT t ≤ sT t := by
  induction t with
  | lf => exact Nat.le_refl _
  | nd k v l r hl hr => simp only [hT, sT]; omega
/-- A side that is more than one higher is none that is empty. -/
theorem hT_pos {t : Tr α β} (h : 0 < hT t) : ∃ k v l r, t = .nd k v l r := by
  cases t with
  | lf => simp [hT] at h
  | nd k v l r => exact ⟨k, v, l, r, rfl⟩
section
variable (lt : α → α → Bool)
def putT (k : α) (v : β) : Tr α β → Tr α β
  | .lf => .nd k v .lf .lf
  | .nd k' v' l r => if lt k k' then evenT k' v' (putT k v l) r else if lt k' k then evenT k' v' l (putT k v r) else .nd k v l r
def findT (k : α) : Tr α β → Option (α × β)
  | .lf => none
  | .nd k' v' l r => if lt k k' then findT k l else if lt k' k then findT k r else some (k', v')
/-- In a list that rises. -/
def insL (k : α) (v : β) : List (α × β) → List (α × β)
  | [] => [(k, v)]
  | (k', v') :: xs => if lt k k' then (k, v) :: (k', v') :: xs else if lt k' k then (k', v') :: insL k v xs else (k, v) :: xs
def getL (k : α) : List (α × β) → Option (α × β)
  | [] => none
  | (k', v') :: xs => if lt k' k then getL k xs else if lt k k' then none else some (k', v')
structure Ord : Prop where
  irr : ∀ a, lt a a = false
  trans : ∀ a b c, lt a b = true → lt b c = true → lt a c = true
  tot : ∀ a b, lt a b = false → lt b a = false → a = b
variable {lt}
theorem Ord.asym (h : Ord lt) {a b : α} (hab : lt a b = true) : lt b a = false := by
  cases hb : lt b a with
  | false => rfl
  | true => have := h.trans _ _ _ hab hb; rw [h.irr] at this; cases this
def Rises (lt : α → α → Bool) (xs : List (α × β)) : Prop := xs.Pairwise fun x y => lt x.1 y.1 = true
theorem insL_app (h : Ord lt) (k : α) (v : β) (k' : α) (v' : β) : ∀ (xs ys : List (α × β)), Rises lt (xs ++ (k', v') :: ys) →
    insL lt k v (xs ++ (k', v') :: ys) = if lt k k' then insL lt k v xs ++ (k', v') :: ys else if lt k' k then xs ++ (k', v') :: insL lt k v ys else xs ++ (k, v) :: ys := by
  intro xs
  induction xs with
  | nil => intro ys _; simp only [List.nil_append, insL]; split <;> rfl
  | cons x xs ih =>
    obtain ⟨a, b⟩ := x
    intro ys hr
    have hr1 : Rises lt (xs ++ (k', v') :: ys) := (List.pairwise_cons.1 hr).2
    have hak : lt a k' = true := (List.pairwise_cons.1 hr).1 (k', v') (by simp)
    simp only [List.cons_append, insL]
    by_cases h1 : lt k a = true
    · rw [if_pos h1, if_pos (h.trans _ _ _ h1 hak), if_pos h1]; rfl
    · by_cases h2 : lt a k = true
      · rw [if_neg h1, if_pos h2, ih ys hr1, if_neg h1, if_pos h2]
        split
        · rfl
        · split <;> rfl
      · have e := h.tot a k (by simpa using h2) (by simpa using h1)
        subst e
        rw [if_neg h1, if_neg h1, if_pos hak, if_neg h1, if_neg h1]
        rfl
theorem flat_put (h : Ord lt) (k : α) (v : β) : ∀ t : Tr α β, Rises lt (flat t) → flat (putT lt k v t) = insL lt k v (flat t) := by
  intro t
  induction t with
  | lf => intro _; rfl
  | nd k' v' l r hl hr =>
    intro hs
    have hs' : Rises lt (flat l ++ (k', v') :: flat r) := hs
    have h1 : Rises lt (flat l) := (List.pairwise_append.1 hs').1
    have h2 : Rises lt (flat r) := (List.pairwise_cons.1 (List.pairwise_append.1 hs').2.1).2
    simp only [putT, flat]
    rw [insL_app h k v k' v' _ _ hs']
    split
    · rw [flat_even, hl h1]
    · split
      · rw [flat_even, hr h2]
      · rfl
theorem getL_app (h : Ord lt) (k : α) (k' : α) (v' : β) : ∀ (xs ys : List (α × β)), Rises lt (xs ++ (k', v') :: ys) →
    getL lt k (xs ++ (k', v') :: ys) = if lt k k' then getL lt k xs else if lt k' k then getL lt k ys else some (k', v') := by
  intro xs
  induction xs with
  | nil =>
    intro ys _
    simp only [List.nil_append, getL]
    by_cases h1 : lt k' k = true
    · rw [if_pos h1, if_neg (by rw [h.asym h1]; simp), if_pos h1]
    · rw [if_neg h1]; split
      · rfl
      · rfl
  | cons x xs ih =>
    obtain ⟨a, b⟩ := x
    intro ys hr
    have hr1 : Rises lt (xs ++ (k', v') :: ys) := (List.pairwise_cons.1 hr).2
    have hak : lt a k' = true := (List.pairwise_cons.1 hr).1 (k', v') (by simp)
    simp only [List.cons_append, getL]
    by_cases h2 : lt a k = true
    · rw [if_pos h2, ih ys hr1, if_pos h2]
    · by_cases h1 : lt k a = true
      · rw [if_neg h2, if_pos h1, if_pos (h.trans _ _ _ h1 hak), if_neg h2]
      · have e := h.tot a k (by simpa using h2) (by simpa using h1)
        subst e
        rw [if_neg h1, if_neg h1, if_pos hak, if_neg h1]
theorem find_flat (h : Ord lt) (k : α) : ∀ t : Tr α β, Rises lt (flat t) → findT lt k t = getL lt k (flat t) := by
  intro t
  induction t with
  | lf => intro _; rfl
  | nd k' v' l r hl hr =>
    intro hs
    have hs' : Rises lt (flat l ++ (k', v') :: flat r) := hs
    have h1 : Rises lt (flat l) := (List.pairwise_append.1 hs').1
    have h2 : Rises lt (flat r) := (List.pairwise_cons.1 (List.pairwise_append.1 hs').2.1).2
    simp only [findT, flat]
    rw [getL_app h k k' v' _ _ hs', hl h1, hr h2]
/-- What an insertion puts in. -/
theorem ins_mem (h : Ord lt) (k : α) (v : β) : ∀ (xs : List (α × β)), Rises lt xs → ∀ y, y ∈ insL lt k v xs ↔ y = (k, v) ∨ (y ∈ xs ∧ y.1 ≠ k) := by
  intro xs
  induction xs with
  | nil => intro _ y; simp [insL]
  | cons x xs ih =>
    obtain ⟨a, b⟩ := x
    intro hr y
    have hr1 : Rises lt xs := (List.pairwise_cons.1 hr).2
    have ha := (List.pairwise_cons.1 hr).1
    simp only [insL]
    by_cases h1 : lt k a = true
    · rw [if_pos h1]
      constructor
      · intro hy
        rcases List.mem_cons.1 hy with e | hy
        · exact .inl e
        · refine .inr ⟨hy, fun e => ?_⟩
          rcases List.mem_cons.1 hy with rfl | hy
          · simp only at e; subst e; rw [h.irr] at h1; cases h1
          · have h3 := h.trans _ _ _ h1 (ha y hy); rw [e, h.irr] at h3; cases h3
      · rintro (rfl | ⟨hy, _⟩)
        · simp
        · exact List.mem_cons_of_mem _ hy
    · rw [if_neg h1]
      by_cases h2 : lt a k = true
      · rw [if_pos h2, List.mem_cons, List.mem_cons, ih hr1 y]
        constructor
        · rintro (rfl | rfl | ⟨h3, h4⟩)
          · exact .inr ⟨.inl rfl, fun e => by simp only at e; subst e; rw [h.irr] at h2; cases h2⟩
          · exact .inl rfl
          · exact .inr ⟨.inr h3, h4⟩
        · rintro (rfl | ⟨rfl | h3, h4⟩)
          · exact .inr (.inl rfl)
          · exact .inl rfl
          · exact .inr (.inr ⟨h3, h4⟩)
      · rw [if_neg h2]
        have e := h.tot a k (by simpa using h2) (by simpa using h1)
        subst e
        rw [List.mem_cons, List.mem_cons]
        constructor
        · rintro (rfl | h3)
          · exact .inl rfl
          · exact .inr ⟨.inr h3, fun e => by have := ha y h3; rw [e, h.irr] at this; cases this⟩
        · rintro (rfl | ⟨rfl | h3, h4⟩)
          · exact .inl rfl
          · exact absurd rfl h4
          · exact .inr h3
theorem ins_rises (h : Ord lt) (k : α) (v : β) : ∀ (xs : List (α × β)), Rises lt xs → Rises lt (insL lt k v xs) := by
  intro xs
  induction xs with
  | nil => intro _; simp [insL, Rises]
  | cons x xs ih =>
    obtain ⟨a, b⟩ := x
    intro hr
    have hr1 : Rises lt xs := (List.pairwise_cons.1 hr).2
    have ha := (List.pairwise_cons.1 hr).1
    simp only [insL]
    by_cases h1 : lt k a = true
    · rw [if_pos h1]
      refine List.pairwise_cons.2 ⟨fun y hy => ?_, hr⟩
      rcases List.mem_cons.1 hy with rfl | hy
      · exact h1
      · exact h.trans _ _ _ h1 (ha y hy)
    · rw [if_neg h1]
      by_cases h2 : lt a k = true
      · rw [if_pos h2]
        refine List.pairwise_cons.2 ⟨fun y hy => ?_, ih hr1⟩
        rcases (ins_mem h k v xs hr1 y).1 hy with rfl | ⟨hy, _⟩
        · exact h2
        · exact ha y hy
      · rw [if_neg h2]
        have e := h.tot a k (by simpa using h2) (by simpa using h1)
        subst e
        exact List.pairwise_cons.2 ⟨ha, hr1⟩
theorem get_mem (h : Ord lt) (k : α) : ∀ (xs : List (α × β)), Rises lt xs → ∀ y, getL lt k xs = some y ↔ y ∈ xs ∧ y.1 = k := by
  intro xs
  induction xs with
  | nil => intro _ y; simp [getL]
  | cons x xs ih =>
    obtain ⟨a, b⟩ := x
    intro hr y
    have hr1 : Rises lt xs := (List.pairwise_cons.1 hr).2
    have ha := (List.pairwise_cons.1 hr).1
    simp only [getL]
    by_cases h2 : lt a k = true
    · rw [if_pos h2, ih hr1 y, List.mem_cons]
      constructor
      · rintro ⟨h3, h4⟩; exact ⟨.inr h3, h4⟩
      · rintro ⟨rfl | h3, h4⟩
        · simp only at h4; subst h4; rw [h.irr] at h2; cases h2
        · exact ⟨h3, h4⟩
    · rw [if_neg h2]
      by_cases h1 : lt k a = true
      · rw [if_pos h1]
        constructor
        · intro h; cases h
        · rintro ⟨h3, h4⟩
          rcases List.mem_cons.1 h3 with rfl | h3
          · simp only at h4; subst h4; rw [h.irr] at h1; cases h1
          · have := h.trans _ _ _ h1 (ha y h3); rw [h4, h.irr] at this; cases this
      · rw [if_neg h1]
        have e := h.tot a k (by simpa using h2) (by simpa using h1)
        subst e
        constructor
        · intro h; injection h with h; subst h; exact ⟨by simp, rfl⟩
        · rintro ⟨h3, h4⟩
          rcases List.mem_cons.1 h3 with rfl | h3
          · rfl
          · have := ha y h3; rw [h4, h.irr] at this; cases this
end
end Go.Proofs.Ytmmingnkepifoaa.TrM
/- Plain mathematics of sets of items and of atoms: how sets stand, the normal list. No program. -/
namespace Go.Proofs.Ytmmingnkepifoaa.AtM
open Go.Proofs.Ytmmingnkepifoaa.TrM

/-! ### sets -/
def wthB (a b : Int) : Bool := decide (a.toNat &&& b.toNat = a.toNat)
def pcN (n : Nat) : Nat := (List.range 64).countP fun i => n.testBit i
def pcS (a : Int) : Nat := pcN a.toNat
/-- A whole number of 64 bits. -/
def U64 (a : Int) : Prop := 0 ≤ a ∧ a < 18446744073709551616
theorem nat_lt {a : Int} (h : U64 a) : a.toNat < 2 ^ 64 := by
  have : (2 : Nat) ^ 64 = 18446744073709551616 := by decide
  unfold U64 at h; omega
theorem wth_iff (a b : Int) : wthB a b = true ↔ ∀ i, a.toNat.testBit i = true → b.toNat.testBit i = true := by
  unfold wthB
  rw [decide_eq_true_iff]
  constructor
  · intro h i hi
    rw [← h, Nat.testBit_and] at hi
    simp only [Bool.and_eq_true] at hi
    exact hi.2
  · intro h
    apply Nat.eq_of_testBit_eq
    intro i
    rw [Nat.testBit_and]
    cases ha : a.toNat.testBit i with
    | false => rfl
    | true => rw [h i ha]; rfl
theorem wth_refl (a : Int) : wthB a a = true := (wth_iff a a).2 fun _ h => h
theorem wth_trans {a b c : Int} (h : wthB a b = true) (k : wthB b c = true) : wthB a c = true := (wth_iff a c).2 fun i hi => (wth_iff b c).1 k i ((wth_iff a b).1 h i hi)
theorem testBit_big {n i : Nat} (hn : n < 2 ^ 64) (hi : n.testBit i = true) : i < 64 := by
  rcases Nat.lt_or_ge i 64 with h | h
  · exact h
  · rw [Nat.testBit_lt_two_pow (Nat.lt_of_lt_of_le hn (Nat.pow_le_pow_right (by omega) h))] at hi; cases hi
theorem cnt_le {α : Type} (p q : α → Bool) : ∀ l : List α, (∀ x ∈ l, p x = true → q x = true) → l.countP p ≤ l.countP q := by
  intro l h; exact List.countP_mono_left h
theorem cnt_lt {α : Type} (p q : α → Bool) : ∀ l : List α, (∀ x ∈ l, p x = true → q x = true) → (∃ x ∈ l, q x = true ∧ p x = false) → l.countP p < l.countP q := by
  intro l
  induction l with
  | nil => rintro _ ⟨x, hx, _⟩; simp at hx
  | cons y ys ih =>
    intro h ⟨x, hx, hq, hp⟩
    have hle := cnt_le p q ys (fun z hz => h z (List.mem_cons_of_mem _ hz))
    rw [List.countP_cons, List.countP_cons]
    rcases List.mem_cons.1 hx with rfl | hx
    · rw [if_neg (by rw [hp]; simp), if_pos hq]; omega
    · have h1 := ih (fun z hz => h z (List.mem_cons_of_mem _ hz)) ⟨x, hx, hq, hp⟩
      by_cases hy : p y = true
      · rw [if_pos hy, if_pos (h y (by simp) hy)]; omega
      · rw [if_neg hy]; split <;> omega
theorem pc_lt {a b : Int} (ha : U64 a) (hb : U64 b) (h : wthB a b = true) (hne : a ≠ b) : pcS a < pcS b := by
  have h1 := (wth_iff a b).1 h
  refine cnt_lt _ _ _ (fun i _ hi => h1 i hi) ?_
  have hne' : a.toNat ≠ b.toNat := by unfold U64 at ha hb; omega
  obtain ⟨i, hi⟩ := Nat.exists_testBit_ne_of_ne hne'
  cases hai : a.toNat.testBit i with
  | true => rw [h1 i hai, hai] at hi; exact absurd rfl hi
  | false =>
    have hbi : b.toNat.testBit i = true := by
      cases hbi : b.toNat.testBit i with
      | true => rfl
      | false => rw [hai, hbi] at hi; exact absurd rfl hi
    exact ⟨i, List.mem_range.2 (testBit_big (nat_lt hb) hbi), hbi, hai⟩
/-- How two sets stand. -/
def ltS (a b : Int) : Bool := decide (pcS a < pcS b ∨ (pcS a = pcS b ∧ a < b))
def cmpS (a b : Int) : Int := if pcS a < pcS b then -1 else if pcS b < pcS a then 1 else if a < b then -1 else if b < a then 1 else 0
theorem cmp_lt (a b : Int) : decide (cmpS a b < 0) = ltS a b := by
  unfold cmpS ltS
  (repeat' split) <;> (apply Bool.eq_iff_iff.2; simp; try omega)
theorem ordS : Ord ltS where
  irr a := by unfold ltS; simp
  trans a b c h k := by unfold ltS at *; simp at *; omega
  tot a b h k := by unfold ltS at *; simp at *; omega
theorem wth_ltS {a b : Int} (ha : U64 a) (hb : U64 b) (h : wthB a b = true) (hne : a ≠ b) : ltS a b = true := by
  have := pc_lt ha hb h hne
  unfold ltS; simp; omega
def ltN (a b : Int) : Bool := decide (a < b)
theorem ordN : Ord ltN where
  irr a := by unfold ltN; simp
  trans a b c h k := by unfold ltN at *; simp at *; omega
  tot a b h k := by unfold ltN at *; simp at *; omega
/-! ### atoms -/
abbrev At := Int × Int
def rightA (x : At) : Bool := decide (x.1 ≠ 0 ∧ 1 ≤ x.2 ∧ x.2 ≤ 1099511627776)
def inA (s : Int) (x : At) : Bool := wthB x.1 s
def withinL (al : List At) (s : Int) : List At := (al.filter rightA).filter (inA s)
def maxL (xs : List At) : Int := xs.foldl (fun m x => max m x.2) 0
def valueL (al : List At) (s : Int) : Int := maxL (withinL al s)
/-- The greatest values so far. -/
def valOf (s : Int) (xs : List At) : Int := match getL ltN s xs with | some y => y.2 | none => 0
def great1 (xs : List At) (x : At) : List At := insL ltN x.1 (max (valOf x.1 xs) x.2) xs
def greatL (al : List At) : List At := (al.filter rightA).foldl great1 []
/-- Sorted al sets stand. -/
def insS (x : At) : List At → List At
  | [] => [x]
  | y :: ys => if ltS x.1 y.1 then x :: y :: ys else y :: insS x ys
def sortS (xs : List At) : List At := xs.foldr insS []
def beatB (x : At) (out : List At) : Bool := out.any fun b => wthB b.1 x.1 && decide (x.2 ≤ b.2)
def norm1 (out : List At) (x : At) : List At := if beatB x out then out else out ++ [x]
def normL (al : List At) : List At := (sortS (greatL al)).foldl norm1 []
end Go.Proofs.Ytmmingnkepifoaa.AtM
/- package atom: Right, the right atoms, those within a set; set.Within. -/
namespace Go.Proofs.Ytmmingnkepifoaa.H
open Go.RowKit Go.Proofs.YtmmingnkepifoaaW.PrintWords Go.Proofs.YtmmingnkepifoaaW.PrintLast Go.Proofs.YtmmingnkepifoaaW.PrintMore Go.Proofs.Ytmmingnkepifoaa.TrM Go.Proofs.Ytmmingnkepifoaa.AtM
set_option linter.unusedVariables false
set_option linter.unusedSimpArgs false
set_option maxRecDepth 100000
attribute [local go_sem] Oper.semAt_some wide_fn wide_depth

/-- Atoms in memory. -/
abbrev KAt : Kd At := Kd.pair (Kd.int .u64) (Kd.int .i64)
abbrev encA (x : At) : Value := .agg #[.int .u64 x.1, .int .i64 x.2]
theorem at_atom {w : World} {A : Option Addr} {n : Nat} {xs : List At} (h : Kd.C KAt w A n xs) {i : Nat} (hi : i < n) {s v : Int} (ho : xs[i]? = some (s, v)) :
    ∃ ad, A = some ad ∧ w.cell? (ad.add (i * 2)) = some (.int .u64 s) ∧ w.cell? ⟨(ad.add (i * 2)).block, (ad.add (i * 2)).off + 1, none⟩ = some (.int .i64 v) := by
  obtain ⟨ad, c, e, _, hK, hc0⟩ := Kd.C_get h ((0, 0) : At) (i : Int) (by omega) (by omega)
  rw [Int.toNat_natCast] at hK hc0
  have eg : xs.getD i ((0, 0) : At) = (s, v) := by rw [List.getD_eq_getElem?_getD, ho]; rfl
  rw [eg] at hK
  have hc : ∀ j u, c[j]? = some u → w.cell? (ad.add (i * 2 + j)) = some u := hc0
  obtain ⟨_, _, rfl, rfl, rfl⟩ := hK
  exact ⟨ad, e, hc 0 _ rfl, by rw [← add_field _ _ 1 (by omega)]; exact hc 1 _ rfl⟩
theorem Right_eq (s v : Int) (b : Bool) (W : World) (hb : rightA (s, v) = b) : Calls Try.prog 57 #[.agg #[.int .u64 s, .int .i64 v]] W fun e W' => e = .returned (.bool b) ∧ Below W.heap.size W W' := by
  have hx : rightA (s, v) = (!(decide (s = 0)) && decide (1 ≤ v) && decide (v ≤ 1099511627776)) := by
    unfold rightA; apply Bool.eq_iff_iff.2; simp [and_assoc]
  rw [hx] at hb
  subst hb
  have hB : Below W.heap.size W (W.alloc (.cells #[.int .u64 s, .int .i64 v] 45)) := below_alloc (Below.refl _ _) _
  have HB := Aside0.mk hB
  clear hB hx
  by_cases c1 : s = 0
  · subst c1
    go_enter Try.func57, Try.ntmps57
    go_wp2
    go_ret
    exact ⟨rfl, HB.out⟩
  · have a1 : (s != 0) = true := by rw [bne_iff_ne]; exact c1
    have a2 : decide (s = 0) = false := decide_eq_false c1
    rw [a2]
    by_cases c2 : 1 ≤ v
    · have a3 : decide (1 ≤ v) = true := decide_eq_true c2
      rw [a3]
      obtain ⟨b3, hb3⟩ : ∃ b, decide (v ≤ 1099511627776) = b := ⟨_, rfl⟩
      have HB3 := Lib.hid hb3
      clear c1 c2 a2 hb3
      go_enter Try.func57, Try.ntmps57
      go_wp2
      go_ret
      exact ⟨by simp, HB.out⟩
    · have a3 : decide (1 ≤ v) = false := decide_eq_false c2
      rw [a3]
      clear c1 c2 a2
      go_enter Try.func57, Try.ntmps57
      go_wp2
      go_ret
      exact ⟨by simp, HB.out⟩
theorem andNot_wth {a b : Int} (ha : U64 a) (hb : U64 b) : (bits .andNot .u64 a b == 0) = wthB a b := by
  have h64 : (2 : Nat) ^ 64 = 18446744073709551616 := by decide
  have hbn := nat_lt hb
  have han := nat_lt ha
  rw [u64_andNot a b ha.1 ha.2 hb.1 hb.2]
  have e1 : 18446744073709551615 - b.toNat = 2 ^ 64 - (b.toNat + 1) := by omega
  rw [e1]
  apply Bool.eq_iff_iff.2
  rw [beq_iff_eq, wth_iff]
  constructor
  · intro h i hi
    have h0 : a.toNat &&& (2 ^ 64 - (b.toNat + 1)) = 0 := by omega
    have h1 := congrArg (fun n => n.testBit i) h0
    simp only [Nat.testBit_and, Nat.zero_testBit, Nat.testBit_two_pow_sub_succ hbn, hi, Bool.true_and, testBit_big han hi, decide_true] at h1
    simpa using h1
  · intro h
    have h0 : a.toNat &&& (2 ^ 64 - (b.toNat + 1)) = 0 := by
      apply Nat.eq_of_testBit_eq
      intro i
      simp only [Nat.testBit_and, Nat.zero_testBit, Nat.testBit_two_pow_sub_succ hbn]
      cases hi : a.toNat.testBit i with
      | false => rfl
      | true => simp [h i hi]
    rw [h0]; rfl
theorem SWithin_eq (a b : Int) (r : Bool) (W : World) (ha : U64 a) (hb : U64 b) (hr : wthB a b = r) : Calls Try.prog 47 #[.int .u64 a, .int .u64 b] W fun e W' => e = .returned (.bool r) ∧ W = W' := by
  rw [← andNot_wth ha hb] at hr
  obtain ⟨x, hx⟩ : ∃ x, bits .andNot .u64 a b = x := ⟨_, rfl⟩
  rw [hx] at hr
  subst hr
  clear ha hb
  go_enter Try.func47, Try.ntmps47
  go_wp2
  go_ret
  exact ⟨rfl, rfl⟩
theorem right_calls (A : Option Addr) (n c : Nat) (w : World) : Calls Try.prog 46 #[.slice A n c] w fun e w' =>
    e = .returned (.func (.func 56) #[] #[.pointer (some ⟨w.heap.size, 0, none⟩)]) ∧ w' = w.alloc (.cells #[.slice A n c] 40) := by
  go_enter Try.func46, Try.ntmps46
  go_wp2
  go_ret
  exact ⟨rfl, rfl⟩
/-- What a func over atoms tells a round. -/
def AtY (xs : List At) (pre : List At) (x : At) (vs : Array Value) (W : World) : Prop := pre ++ [x] <+: xs ∧ vs = #[encA x]
theorem filter_take (p : At → Bool) (al : List At) (k : Nat) (x : At) (hx : al[k]? = some x) : (al.take (k + 1)).filter p = (al.take k).filter p ++ if p x = true then [x] else [] := by
  rw [List.take_add_one, hx, List.filter_append]
  congr 1
  simp [List.filter_cons]
theorem filter_take_pre (p : At → Bool) (al : List At) (k : Nat) : (al.take k).filter p <+: al.filter p := (List.take_prefix k al).filter p
set_option maxHeartbeats 1600000 in
theorem right1_seq (n : Nat) (al : List At) (A : Option Addr) (c bb n₀ : Nat) (Kb : Nat → Prop) (w : World)
    (hbox : ∀ W, Kp n₀ Kb w W → W.cell? ⟨bb, 0, none⟩ = some (.slice A al.length c)) (hC : ∀ W, Kp n₀ Kb w W → Kd.C KAt W A al.length al) (hn : n₀ ≤ w.heap.size) :
    SeqX Fence.wide n Try.prog 56 #[.pointer (some ⟨bb, 0, none⟩)] (AtY (al.filter rightA)) n₀ Kb (fun ys => ys = al.filter rightA) (fun _ => True) w := by
  intro l J Jx W hK hJ hJx hY h0
  have hm : al.length ≤ 9223372036854775807 := (hC W hK).2.1
  have hcell := hbox W hK
  refine callsIn_of_wp Try.func56 rfl trivial ?_ rfl
  simp only [Try.ntmps56, List.size_toArray, List.length_cons, List.length_nil, Nat.reduceAdd, Nat.reduceSub, Array.replicate_succ, Array.replicate_zero, List.push_toArray, List.append_toArray, List.nil_append, List.cons_append]
  gi_wp2
  gi_loopw [7] (fun p wr => ∃ k : Nat, p = .int .i64 (k : Int) ∧ k ≤ al.length ∧ J ((al.take k).filter rightA) wr ∧ Kp n₀ Kb w wr) (fun p _ => al.length - (intOf p).toNat)
  case atStart => exact ⟨0, rfl, Nat.zero_le _, by simpa using h0, hK⟩
  case round =>
    obtain ⟨k, rfl, hk, h4, h5⟩ := hrel
    by_cases hlt : k < al.length
    · obtain ⟨⟨s, v⟩, ho⟩ : ∃ o, al[k]? = some o := ⟨_, List.getElem?_eq_getElem hlt⟩
      obtain ⟨ad, e0, hx0, hx1⟩ := at_atom (hC wr h5) hlt ho
      subst e0
      have hllt : (k : Int) < (al.length : Int) := by omega
      have hft := filter_take rightA al k (s, v) ho
      have hpre := filter_take_pre rightA al (k + 1)
      have hba : Below wr.heap.size wr (wr.alloc (.cells #[.int .u64 s, .int .i64 v] 45)) := below_alloc (Below.refl _ _) _
      obtain ⟨b, hb⟩ : ∃ b, rightA (s, v) = b := ⟨_, rfl⟩
      rw [hb] at hft
      have HB := Lib.hid hb
      cases b with
      | false =>
        simp only [Bool.false_eq_true, if_false, List.append_nil] at hft
        have HF := Lib.hid hft
        clear hft hpre hb ho
        gi_wp2_with (fail)
        refine (callsIn_wide.2 (Right_eq s v false _ HB.out)).mono ?_
        rintro e w1 ⟨rfl, hb1⟩
        have hbb := below_step hba hb1
        clear hb1
        gi_wp2
        go_roundw
        case rel => exact ⟨k + 1, by go_num, by omega, by rw [HF.out]; exact hJ _ _ _ h4 hbb, h5.trans (.of_below hbb (by have := h5.1; omega))⟩
        case measure => simp [intOf]; omega
      | true =>
        simp only [if_true] at hft
        rw [hft] at hpre
        have HF := Lib.hid hft
        clear hft hb ho
        gi_wp2_with (fail)
        refine (callsIn_wide.2 (Right_eq s v true _ HB.out)).mono ?_
        rintro e w1 ⟨rfl, hb1⟩
        have hbx := blk_belowX (blk_new wr (.cells #[.int .u64 s, .int .i64 v] 45)) hb1
        have y0 : w1.cell? ⟨wr.heap.size, 0, none⟩ = some (.int .u64 s) := by rw [blk_cell hbx]; rfl
        have y1 : w1.cell? ⟨wr.heap.size, 1, none⟩ = some (.int .i64 v) := by rw [blk_cell hbx]; rfl
        have hbb := below_step hba hb1
        obtain ⟨fn, tmps, asg, body, hy, hR⟩ := hY _ (s, v) _ w1 (hJ _ _ _ h4 hbb) ⟨hpre, rfl⟩
        have hK1 := h5.trans (.of_below hbb (by have := h5.1; omega))
        clear hb1 hbx
        gi_wp2
        refine hR.mono ?_
        rintro e W3 (⟨rfl, hJ3, hk3⟩ | ⟨rfl, hJx3⟩)
        · gi_wp2
          go_roundw
          case rel => exact ⟨k + 1, by go_num, by omega, by rw [HF.out]; exact hJ3, hK1.trans hk3⟩
          case measure => simp [intOf]; omega
        · gi_wp2
          refine bodyPost_ret (results_none rfl _ _ _) rfl ?_
          exact ⟨⟨_, rfl⟩, .inr ⟨_, trivial, hJx3⟩⟩
    · obtain rfl : k = al.length := by omega
      rw [List.take_length] at h4
      gi_wp2
      go_end0
      exact ⟨⟨_, rfl⟩, .inl ⟨_, rfl, h4⟩⟩
end Go.Proofs.Ytmmingnkepifoaa.H
/- Plain: the reserves of a sale. No program. -/
namespace Go.Proofs.Ytmmingnkepifoaa.LmM
open Go.Proofs.Ytmmingnkepifoaa.AtM
def resB (n : Int) : Bool := decide (1 ≤ n ∧ n ≤ 1099511627776)
/-- The items that have a reserve, from the item i on. -/
def resFrom (i : Nat) : List Int → List (Int × Int)
  | [] => []
  | n :: rs => if resB n = true then ((i : Int), n) :: resFrom (i + 1) rs else resFrom (i + 1) rs
def resL (rs : List Int) : List (Int × Int) := resFrom 0 (rs.take 64)
theorem resFrom_snoc (n : Int) : ∀ (xs : List Int) (i : Nat), resFrom i (xs ++ [n]) = resFrom i xs ++ if resB n = true then [(((i + xs.length : Nat) : Int), n)] else [] := by
  intro xs
  induction xs with
  | nil => intro i; simp [resFrom]
  | cons x xs ih =>
    intro i
    have e : i + 1 + xs.length = i + (xs.length + 1) := by omega
    simp only [List.cons_append, resFrom, ih, List.length_cons, e]
    split
    · rw [List.cons_append]
    · rfl
theorem resFrom_append : ∀ (xs ys : List Int) (i : Nat), resFrom i (xs ++ ys) = resFrom i xs ++ resFrom (i + xs.length) ys := by
  intro xs
  induction xs with
  | nil => intro ys i; simp [resFrom]
  | cons x xs ih =>
    intro ys i
    have e : i + 1 + xs.length = i + (xs.length + 1) := by omega
    simp only [List.cons_append, resFrom, ih, List.length_cons, e]
    split
    · rw [List.cons_append]
    · rfl
theorem resFrom_take (xs : List Int) (k : Nat) : resFrom 0 (xs.take k) <+: resFrom 0 xs := by
  have h := resFrom_append (xs.take k) (xs.drop k) 0
  rw [List.take_append_drop] at h
  rw [h]
  exact List.prefix_append _ _
theorem resFrom_mem {x : Int × Int} : ∀ (xs : List Int) (i : Nat), x ∈ resFrom i xs → (i : Int) ≤ x.1 ∧ x.1 < ((i + xs.length : Nat) : Int) ∧ resB x.2 = true := by
  intro xs
  induction xs with
  | nil => intro i h; simp [resFrom] at h
  | cons n xs ih =>
    intro i h
    unfold resFrom at h
    have e : i + 1 + xs.length = i + (xs.length + 1) := by omega
    split at h
    · rename_i hn
      rcases List.mem_cons.1 h with rfl | h
      · exact ⟨Int.le_refl _, by simp only [List.length_cons]; omega, hn⟩
      · have := ih _ h
        simp only [List.length_cons]
        exact ⟨by omega, by omega, this.2.2⟩
    · have := ih _ h
      simp only [List.length_cons]
      exact ⟨by omega, by omega, this.2.2⟩
theorem resL_mem {rs : List Int} {x : Int × Int} (h : x ∈ resL rs) : 0 ≤ x.1 ∧ x.1 ≤ 63 ∧ 1 ≤ x.2 ∧ x.2 ≤ 1099511627776 := by
  obtain ⟨h1, h2, h3⟩ := resFrom_mem _ _ h
  have := List.length_take_le 64 rs
  have h3 := of_decide_eq_true h3
  omega
theorem resFrom_len : ∀ (xs : List Int) (i : Nat), (resFrom i xs).length ≤ xs.length := by
  intro xs
  induction xs with
  | nil => intro i; simp [resFrom]
  | cons x xs ih =>
    intro i
    unfold resFrom
    have := ih (i + 1)
    split
    · simp; omega
    · simp; omega
theorem resL_len (rs : List Int) : (resL rs).length ≤ 64 := Nat.le_trans (resFrom_len _ _) (List.length_take_le _ _)
def hasS (s : Int) (i : Int) : Bool := s.toNat.testBit i.toNat
def keep1 (s : Int) (m : Int) (x : Int × Int) : Int := if hasS s x.1 = true then m + x.2 else m
def keptS (s : Int) (xs : List (Int × Int)) : Int := xs.foldl (keep1 s) 0
def keptL (rs : List Int) (s : Int) : Int := keptS s (resL rs)
theorem keptS_snoc (s : Int) (xs : List (Int × Int)) (x : Int × Int) : keptS s (xs ++ [x]) = keep1 s (keptS s xs) x := by unfold keptS; rw [List.foldl_append]; rfl
theorem kept_bound (s : Int) : ∀ (xs : List (Int × Int)) (a : Int), (∀ x ∈ xs, 0 ≤ x.2 ∧ x.2 ≤ 1099511627776) → a ≤ xs.foldl (keep1 s) a ∧ xs.foldl (keep1 s) a ≤ a + 1099511627776 * xs.length := by
  intro xs
  induction xs with
  | nil => intro a _; simp
  | cons x xs ih =>
    intro a h
    have h1 := h x (by simp)
    have h2 := ih (keep1 s a x) (fun y hy => h y (List.mem_cons_of_mem _ hy))
    rw [List.foldl_cons, List.length_cons]
    unfold keep1 at h2 ⊢
    split at h2 <;> rename_i hc
    · rw [if_pos hc]; omega
    · rw [if_neg hc]; omega
end Go.Proofs.Ytmmingnkepifoaa.LmM
-- PRINTED BY A CHANGED COPY OF THE PRINT (wip/tools/patch_print.py), over contracts by hand
namespace Go.Proofs.Ytmmingnkepifoaa.PHas
open Go.RowKit Go.Proofs.YtmmingnkepifoaaW.PrintWords Go.Proofs.YtmmingnkepifoaaW.PrintLast Go.Proofs.YtmmingnkepifoaaW.PrintMore
attribute [local go_sem] max2_int min2_int max_two min_two max_three min_three max_four min_four   -- for this text's walks alone
set_option linter.unusedVariables false
set_option linter.unusedSimpArgs false



def errW : Option Int → Value
  | none => .nilIface
  | some c => .iface 0 (.int .i64 c)
theorem errW_none : errW none = .nilIface := rfl
theorem errW_some (c : Int) : errW (some c) = .iface 0 (.int .i64 c) := rfl

-- the values' own types

end Go.Proofs.Ytmmingnkepifoaa.PHas
