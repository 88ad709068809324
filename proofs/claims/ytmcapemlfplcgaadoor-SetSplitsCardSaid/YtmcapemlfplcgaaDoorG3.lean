/- Some texts of one seat in one file, in build order. -/
import Derived.Test.YtmcapemlfplcgaaDoorG2
import Derived.Lib.TrailingZeros
import Derived.Laws.Bits64b
/- Plain mathematics of package table: trees whose sides are at most one apart, as lists of keys with values. No program. -/
namespace Go.Proofs.YtmcapemlfplcgaaDoor.TrM

inductive Tr (α β : Type) where
  | lf
  | nd (k : α) (v : β) (l r : Tr α β)
variable {α β : Type}
def hT : Tr α β → Nat
  | .lf => 0
  | .nd _ _ l r => max (hT l) (hT r) + 1
def sT : Tr α β → Nat
  | .lf => 0
  | .nd _ _ l r => sT l + sT r + 1
def leanT : Tr α β → Int
  | .lf => 0
  | .nd _ _ l r => (hT l : Int) - hT r
def flat : Tr α β → List (α × β)
  | .lf => []
  | .nd k v l r => flat l ++ (k, v) :: flat r
def turnR : Tr α β → Tr α β
  | .nd k v (.nd k' v' l r) r' => .nd k' v' l (.nd k v r r')
  | t => t
def turnL : Tr α β → Tr α β
  | .nd k v l (.nd k' v' l' r') => .nd k' v' (.nd k v l l') r'
  | t => t
def evenT (k : α) (v : β) (l r : Tr α β) : Tr α β :=
  if (hT l : Int) - hT r > 1 then (if leanT l < 0 then turnR (.nd k v (turnL l) r) else turnR (.nd k v l r))
  else if (hT l : Int) - hT r < -1 then (if leanT r > 0 then turnL (.nd k v l (turnR r)) else turnL (.nd k v l r))
  else .nd k v l r
theorem flat_turnR (t : Tr α β) : flat (turnR t) = flat t := by
  unfold turnR; split
  · simp [flat]
  · rfl
theorem flat_turnL (t : Tr α β) : flat (turnL t) = flat t := by
  unfold turnL; split
  · simp [flat]
  · rfl
theorem flat_even (k : α) (v : β) (l r : Tr α β) : flat (evenT k v l r) = flat l ++ (k, v) :: flat r := by
  unfold evenT
  split
  · split
    · rw [flat_turnR, flat, flat_turnL]
    · rw [flat_turnR, flat]
  · split
    · split
      · rw [flat_turnL, flat, flat_turnR]
      · rw [flat_turnL, flat]
    · rfl
theorem sT_flat (t : Tr α β) : sT t = (flat t).length := by
  induction t with
  | lf => rfl
  | nd k v l r hl hr => simp [sT, flat, hl, hr]; omega
theorem hT_le (t : Tr α β) : hT t ≤ sT t := by
  induction t with
  | lf => exact Nat.le_refl _
  | nd k v l r hl hr => simp only [hT, sT]; omega
/-- A side that is more than one higher is none that is empty. -/
theorem hT_pos {t : Tr α β} (h : 0 < hT t) : ∃ k v l r, t = .nd k v l r := by
  cases t with
  | lf => simp [hT] at h
  | nd k v l r => exact ⟨k, v, l, r, rfl⟩
section
variable (lt : α → α → Bool)
def putT (k : α) (v : β) : Tr α β → Tr α β
  | .lf => .nd k v .lf .lf
  | .nd k' v' l r => if lt k k' then evenT k' v' (putT k v l) r else if lt k' k then evenT k' v' l (putT k v r) else .nd k v l r
def findT (k : α) : Tr α β → Option (α × β)
  | .lf => none
  | .nd k' v' l r => if lt k k' then findT k l else if lt k' k then findT k r else some (k', v')
/-- In a list that rises. -/
def insL (k : α) (v : β) : List (α × β) → List (α × β)
  | [] => [(k, v)]
  | (k', v') :: xs => if lt k k' then (k, v) :: (k', v') :: xs else if lt k' k then (k', v') :: insL k v xs else (k, v) :: xs
def getL (k : α) : List (α × β) → Option (α × β)
  | [] => none
  | (k', v') :: xs => if lt k' k then getL k xs else if lt k k' then none else some (k', v')
structure Ord : Prop where
  irr : ∀ a, lt a a = false
  trans : ∀ a b c, lt a b = true → lt b c = true → lt a c = true
  tot : ∀ a b, lt a b = false → lt b a = false → a = b
variable {lt}
theorem Ord.asym (h : Ord lt) {a b : α} (hab : lt a b = true) : lt b a = false := by
  cases hb : lt b a with
  | false => rfl
  | true => have := h.trans _ _ _ hab hb; rw [h.irr] at this; cases this
def Rises (lt : α → α → Bool) (xs : List (α × β)) : Prop := xs.Pairwise fun x y => lt x.1 y.1 = true
theorem insL_app (h : Ord lt) (k : α) (v : β) (k' : α) (v' : β) : ∀ (xs ys : List (α × β)), Rises lt (xs ++ (k', v') :: ys) →
    insL lt k v (xs ++ (k', v') :: ys) = if lt k k' then insL lt k v xs ++ (k', v') :: ys else if lt k' k then xs ++ (k', v') :: insL lt k v ys else xs ++ (k, v) :: ys := by
  intro xs
  induction xs with
  | nil => intro ys _; simp only [List.nil_append, insL]; split <;> rfl
  | cons x xs ih =>
    obtain ⟨a, b⟩ := x
    intro ys hr
    have hr1 : Rises lt (xs ++ (k', v') :: ys) := (List.pairwise_cons.1 hr).2
    have hak : lt a k' = true := (List.pairwise_cons.1 hr).1 (k', v') (by simp)
    simp only [List.cons_append, insL]
    by_cases h1 : lt k a = true
    · rw [if_pos h1, if_pos (h.trans _ _ _ h1 hak), if_pos h1]; rfl
    · by_cases h2 : lt a k = true
      · rw [if_neg h1, if_pos h2, ih ys hr1, if_neg h1, if_pos h2]
        split
        · rfl
        · split <;> rfl
      · have e := h.tot a k (by simpa using h2) (by simpa using h1)
        subst e
        rw [if_neg h1, if_neg h1, if_pos hak, if_neg h1, if_neg h1]
        rfl
theorem flat_put (h : Ord lt) (k : α) (v : β) : ∀ t : Tr α β, Rises lt (flat t) → flat (putT lt k v t) = insL lt k v (flat t) := by
  intro t
  induction t with
  | lf => intro _; rfl
  | nd k' v' l r hl hr =>
    intro hs
    have hs' : Rises lt (flat l ++ (k', v') :: flat r) := hs
    have h1 : Rises lt (flat l) := (List.pairwise_append.1 hs').1
    have h2 : Rises lt (flat r) := (List.pairwise_cons.1 (List.pairwise_append.1 hs').2.1).2
    simp only [putT, flat]
    rw [insL_app h k v k' v' _ _ hs']
    split
    · rw [flat_even, hl h1]
    · split
      · rw [flat_even, hr h2]
      · rfl
theorem getL_app (h : Ord lt) (k : α) (k' : α) (v' : β) : ∀ (xs ys : List (α × β)), Rises lt (xs ++ (k', v') :: ys) →
    getL lt k (xs ++ (k', v') :: ys) = if lt k k' then getL lt k xs else if lt k' k then getL lt k ys else some (k', v') := by
  intro xs
  induction xs with
  | nil =>
    intro ys _
    simp only [List.nil_append, getL]
    by_cases h1 : lt k' k = true
    · rw [if_pos h1, if_neg (by rw [h.asym h1]; simp), if_pos h1]
    · rw [if_neg h1]; split
      · rfl
      · rfl
  | cons x xs ih =>
    obtain ⟨a, b⟩ := x
    intro ys hr
    have hr1 : Rises lt (xs ++ (k', v') :: ys) := (List.pairwise_cons.1 hr).2
    have hak : lt a k' = true := (List.pairwise_cons.1 hr).1 (k', v') (by simp)
    simp only [List.cons_append, getL]
    by_cases h2 : lt a k = true
    · rw [if_pos h2, ih ys hr1, if_pos h2]
    · by_cases h1 : lt k a = true
      · rw [if_neg h2, if_pos h1, if_pos (h.trans _ _ _ h1 hak), if_neg h2]
      · have e := h.tot a k (by simpa using h2) (by simpa using h1)
        subst e
        rw [if_neg h1, if_neg h1, if_pos hak, if_neg h1]
theorem find_flat (h : Ord lt) (k : α) : ∀ t : Tr α β, Rises lt (flat t) → findT lt k t = getL lt k (flat t) := by
  intro t
  induction t with
  | lf => intro _; rfl
  | nd k' v' l r hl hr =>
    intro hs
    have hs' : Rises lt (flat l ++ (k', v') :: flat r) := hs
    have h1 : Rises lt (flat l) := (List.pairwise_append.1 hs').1
    have h2 : Rises lt (flat r) := (List.pairwise_cons.1 (List.pairwise_append.1 hs').2.1).2
    simp only [findT, flat]
    rw [getL_app h k k' v' _ _ hs', hl h1, hr h2]
/-- What an insertion puts in. -/
theorem ins_mem (h : Ord lt) (k : α) (v : β) : ∀ (xs : List (α × β)), Rises lt xs → ∀ y, y ∈ insL lt k v xs ↔ y = (k, v) ∨ (y ∈ xs ∧ y.1 ≠ k) := by
  intro xs
  induction xs with
  | nil => intro _ y; simp [insL]
  | cons x xs ih =>
    obtain ⟨a, b⟩ := x
    intro hr y
    have hr1 : Rises lt xs := (List.pairwise_cons.1 hr).2
    have ha := (List.pairwise_cons.1 hr).1
    simp only [insL]
    by_cases h1 : lt k a = true
    · rw [if_pos h1]
      constructor
      · intro hy
        rcases List.mem_cons.1 hy with e | hy
        · exact .inl e
        · refine .inr ⟨hy, fun e => ?_⟩
          rcases List.mem_cons.1 hy with rfl | hy
          · simp only at e; subst e; rw [h.irr] at h1; cases h1
          · have h3 := h.trans _ _ _ h1 (ha y hy); rw [e, h.irr] at h3; cases h3
      · rintro (rfl | ⟨hy, _⟩)
        · simp
        · exact List.mem_cons_of_mem _ hy
    · rw [if_neg h1]
      by_cases h2 : lt a k = true
      · rw [if_pos h2, List.mem_cons, List.mem_cons, ih hr1 y]
        constructor
        · rintro (rfl | rfl | ⟨h3, h4⟩)
          · exact .inr ⟨.inl rfl, fun e => by simp only at e; subst e; rw [h.irr] at h2; cases h2⟩
          · exact .inl rfl
          · exact .inr ⟨.inr h3, h4⟩
        · rintro (rfl | ⟨rfl | h3, h4⟩)
          · exact .inr (.inl rfl)
          · exact .inl rfl
          · exact .inr (.inr ⟨h3, h4⟩)
      · rw [if_neg h2]
        have e := h.tot a k (by simpa using h2) (by simpa using h1)
        subst e
        rw [List.mem_cons, List.mem_cons]
        constructor
        · rintro (rfl | h3)
          · exact .inl rfl
          · exact .inr ⟨.inr h3, fun e => by have := ha y h3; rw [e, h.irr] at this; cases this⟩
        · rintro (rfl | ⟨rfl | h3, h4⟩)
          · exact .inl rfl
          · exact absurd rfl h4
          · exact .inr h3
theorem ins_rises (h : Ord lt) (k : α) (v : β) : ∀ (xs : List (α × β)), Rises lt xs → Rises lt (insL lt k v xs) := by
  intro xs
  induction xs with
  | nil => intro _; simp [insL, Rises]
  | cons x xs ih =>
    obtain ⟨a, b⟩ := x
    intro hr
    have hr1 : Rises lt xs := (List.pairwise_cons.1 hr).2
    have ha := (List.pairwise_cons.1 hr).1
    simp only [insL]
    by_cases h1 : lt k a = true
    · rw [if_pos h1]
      refine List.pairwise_cons.2 ⟨fun y hy => ?_, hr⟩
      rcases List.mem_cons.1 hy with rfl | hy
      · exact h1
      · exact h.trans _ _ _ h1 (ha y hy)
    · rw [if_neg h1]
      by_cases h2 : lt a k = true
      · rw [if_pos h2]
        refine List.pairwise_cons.2 ⟨fun y hy => ?_, ih hr1⟩
        rcases (ins_mem h k v xs hr1 y).1 hy with rfl | ⟨hy, _⟩
        · exact h2
        · exact ha y hy
      · rw [if_neg h2]
        have e := h.tot a k (by simpa using h2) (by simpa using h1)
        subst e
        exact List.pairwise_cons.2 ⟨ha, hr1⟩
theorem get_mem (h : Ord lt) (k : α) : ∀ (xs : List (α × β)), Rises lt xs → ∀ y, getL lt k xs = some y ↔ y ∈ xs ∧ y.1 = k := by
  intro xs
  induction xs with
  | nil => intro _ y; simp [getL]
  | cons x xs ih =>
    obtain ⟨a, b⟩ := x
    intro hr y
    have hr1 : Rises lt xs := (List.pairwise_cons.1 hr).2
    have ha := (List.pairwise_cons.1 hr).1
    simp only [getL]
    by_cases h2 : lt a k = true
    · rw [if_pos h2, ih hr1 y, List.mem_cons]
      constructor
      · rintro ⟨h3, h4⟩; exact ⟨.inr h3, h4⟩
      · rintro ⟨rfl | h3, h4⟩
        · simp only at h4; subst h4; rw [h.irr] at h2; cases h2
        · exact ⟨h3, h4⟩
    · rw [if_neg h2]
      by_cases h1 : lt k a = true
      · rw [if_pos h1]
        constructor
        · intro h; cases h
        · rintro ⟨h3, h4⟩
          rcases List.mem_cons.1 h3 with rfl | h3
          · simp only at h4; subst h4; rw [h.irr] at h1; cases h1
          · have := h.trans _ _ _ h1 (ha y h3); rw [h4, h.irr] at this; cases this
      · rw [if_neg h1]
        have e := h.tot a k (by simpa using h2) (by simpa using h1)
        subst e
        constructor
        · intro h; injection h with h; subst h; exact ⟨by simp, rfl⟩
        · rintro ⟨h3, h4⟩
          rcases List.mem_cons.1 h3 with rfl | h3
          · rfl
          · have := ha y h3; rw [h4, h.irr] at this; cases this
end
end Go.Proofs.YtmcapemlfplcgaaDoor.TrM
/- Plain mathematics of sets of items and of atoms: how sets stand, the normal list. No program. -/
namespace Go.Proofs.YtmcapemlfplcgaaDoor.AtM
open Go.Proofs.YtmcapemlfplcgaaDoor.TrM

/-! ### sets -/
def wthB (a b : Int) : Bool := decide (a.toNat &&& b.toNat = a.toNat)
def pcN (n : Nat) : Nat := (List.range 64).countP fun i => n.testBit i
def pcS (a : Int) : Nat := pcN a.toNat
/-- A whole number of 64 bits. -/
def U64 (a : Int) : Prop := 0 ≤ a ∧ a < 18446744073709551616
theorem nat_lt {a : Int} (h : U64 a) : a.toNat < 2 ^ 64 := by
  have : (2 : Nat) ^ 64 = 18446744073709551616 := by decide
  unfold U64 at h; omega
theorem wth_iff (a b : Int) : wthB a b = true ↔ ∀ i, a.toNat.testBit i = true → b.toNat.testBit i = true := by
  unfold wthB
  rw [decide_eq_true_iff]
  constructor
  · intro h i hi
    rw [← h, Nat.testBit_and] at hi
    simp only [Bool.and_eq_true] at hi
    exact hi.2
  · intro h
    apply Nat.eq_of_testBit_eq
    intro i
    rw [Nat.testBit_and]
    cases ha : a.toNat.testBit i with
    | false => rfl
    | true => rw [h i ha]; rfl
theorem wth_refl (a : Int) : wthB a a = true := (wth_iff a a).2 fun _ h => h
theorem wth_trans {a b c : Int} (h : wthB a b = true) (k : wthB b c = true) : wthB a c = true := (wth_iff a c).2 fun i hi => (wth_iff b c).1 k i ((wth_iff a b).1 h i hi)
theorem testBit_big {n i : Nat} (hn : n < 2 ^ 64) (hi : n.testBit i = true) : i < 64 := by
  rcases Nat.lt_or_ge i 64 with h | h
  · exact h
  · rw [Nat.testBit_lt_two_pow (Nat.lt_of_lt_of_le hn (Nat.pow_le_pow_right (by omega) h))] at hi; cases hi
theorem cnt_le {α : Type} (p q : α → Bool) : ∀ l : List α, (∀ x ∈ l, p x = true → q x = true) → l.countP p ≤ l.countP q := by
  intro l h; exact List.countP_mono_left h
theorem cnt_lt {α : Type} (p q : α → Bool) : ∀ l : List α, (∀ x ∈ l, p x = true → q x = true) → (∃ x ∈ l, q x = true ∧ p x = false) → l.countP p < l.countP q := by
  intro l
  induction l with
  | nil => rintro _ ⟨x, hx, _⟩; simp at hx
  | cons y ys ih =>
    intro h ⟨x, hx, hq, hp⟩
    have hle := cnt_le p q ys (fun z hz => h z (List.mem_cons_of_mem _ hz))
    rw [List.countP_cons, List.countP_cons]
    rcases List.mem_cons.1 hx with rfl | hx
    · rw [if_neg (by rw [hp]; simp), if_pos hq]; omega
    · have h1 := ih (fun z hz => h z (List.mem_cons_of_mem _ hz)) ⟨x, hx, hq, hp⟩
      by_cases hy : p y = true
      · rw [if_pos hy, if_pos (h y (by simp) hy)]; omega
      · rw [if_neg hy]; split <;> omega
theorem pc_lt {a b : Int} (ha : U64 a) (hb : U64 b) (h : wthB a b = true) (hne : a ≠ b) : pcS a < pcS b := by
  have h1 := (wth_iff a b).1 h
  refine cnt_lt _ _ _ (fun i _ hi => h1 i hi) ?_
  have hne' : a.toNat ≠ b.toNat := by unfold U64 at ha hb; omega
  obtain ⟨i, hi⟩ := Nat.exists_testBit_ne_of_ne hne'
  cases hai : a.toNat.testBit i with
  | true => rw [h1 i hai, hai] at hi; exact absurd rfl hi
  | false =>
    have hbi : b.toNat.testBit i = true := by
      cases hbi : b.toNat.testBit i with
      | true => rfl
      | false => rw [hai, hbi] at hi; exact absurd rfl hi
    exact ⟨i, List.mem_range.2 (testBit_big (nat_lt hb) hbi), hbi, hai⟩
/-- How two sets stand. -/
def ltS (a b : Int) : Bool := decide (pcS a < pcS b ∨ (pcS a = pcS b ∧ a < b))
/-- cmp.Compare's answer. -/
def cmpN (x y : Int) : Int := if x < y then -1 else if y < x then 1 else 0
def cmpS (a b : Int) : Int := if pcS a < pcS b then -1 else if pcS b < pcS a then 1 else if a < b then -1 else if b < a then 1 else 0
theorem cmp_lt (a b : Int) : decide (cmpS a b < 0) = ltS a b := by
  unfold cmpS ltS
  (repeat' split) <;> (apply Bool.eq_iff_iff.2; simp; try omega)
theorem ordS : Ord ltS where
  irr a := by unfold ltS; simp
  trans a b c h k := by unfold ltS at *; simp at *; omega
  tot a b h k := by unfold ltS at *; simp at *; omega
theorem wth_ltS {a b : Int} (ha : U64 a) (hb : U64 b) (h : wthB a b = true) (hne : a ≠ b) : ltS a b = true := by
  have := pc_lt ha hb h hne
  unfold ltS; simp; omega
def ltN (a b : Int) : Bool := decide (a < b)
theorem ordN : Ord ltN where
  irr a := by unfold ltN; simp
  trans a b c h k := by unfold ltN at *; simp at *; omega
  tot a b h k := by unfold ltN at *; simp at *; omega
/-! ### atoms -/
abbrev At := Int × Int
def rightA (x : At) : Bool := decide (x.1 ≠ 0 ∧ 1 ≤ x.2 ∧ x.2 ≤ 1099511627776)
def inA (s : Int) (x : At) : Bool := wthB x.1 s
def withinL (al : List At) (s : Int) : List At := (al.filter rightA).filter (inA s)
def maxL (xs : List At) : Int := xs.foldl (fun m x => max m x.2) 0
def valueL (al : List At) (s : Int) : Int := maxL (withinL al s)
/-- The greatest values so far. -/
def valOf (s : Int) (xs : List At) : Int := match getL ltN s xs with | some y => y.2 | none => 0
def great1 (xs : List At) (x : At) : List At := insL ltN x.1 (max (valOf x.1 xs) x.2) xs
def greatL (al : List At) : List At := (al.filter rightA).foldl great1 []
/-- Sorted al sets stand. -/
def insS (x : At) : List At → List At
  | [] => [x]
  | y :: ys => if ltS x.1 y.1 then x :: y :: ys else y :: insS x ys
def sortS (xs : List At) : List At := xs.foldr insS []
def beatB (x : At) (out : List At) : Bool := out.any fun b => wthB b.1 x.1 && decide (x.2 ≤ b.2)
def norm1 (out : List At) (x : At) : List At := if beatB x out then out else out ++ [x]
def normL (al : List At) : List At := (sortS (greatL al)).foldl norm1 []
end Go.Proofs.YtmcapemlfplcgaaDoor.AtM
/- math/bits.TrailingZeros64, over the table that its variable holds. -/
namespace Go.Proofs.YtmcapemlfplcgaaDoor.H
open Go.RowKit Go.Proofs.YtmcapemlfplcgaaDoorW.PrintWords Go.Proofs.YtmcapemlfplcgaaDoorW.PrintLast Go.Proofs.YtmcapemlfplcgaaDoorW.PrintMore Go.Proofs.YtmcapemlfplcgaaDoor.AtM
set_option linter.unusedVariables false
set_option linter.unusedSimpArgs false
set_option maxRecDepth 100000
/-- The table in its variable. -/
def TabG (w : World) : Prop := ∀ j, j < 64 → w.cell? ⟨0, j, none⟩ = some (.int .u8 (Lib.deBruijn64tab.getD j 0 : Nat))
theorem TabG.below {w w' : World} (h : TabG w) (hb : Below w.heap.size w w') : TabG w' := fun j hj => (hb.cell (World.block_lt_of_cell? _ _ (h j hj))).trans (h j hj)
theorem TabG.lies {B : Nat} {w w' : World} (h : TabG w) (hl : Lies B w w') : TabG w' := fun j hj => hl.cell (h j hj)
theorem TabG.pos {w : World} (h : TabG w) : 0 < w.heap.size := World.block_lt_of_cell? _ _ (h 0 (by decide))
theorem TabG.same {w w' : World} (h : TabG w) (hb : w'.heap[0]? = w.heap[0]?) : TabG w' := fun j hj => (World.cell?_of_block hb).trans (h j hj)
theorem tz_key (x a : Nat) (hx : x < 18446744073709551616) (hx0 : x ≠ 0) (hlow : x &&& (18446744073709551616 - x) = a) :
    IntKind.u64.wrap (bits BinOp.and IntKind.u64 (x : Int) (IntKind.u64.wrap (-(x : Int))) * 285870213051353865) / 288230376151711744 = ((a * 285870213051353865 % 18446744073709551616 / 288230376151711744 : Nat) : Int) := by
  have e1 : IntKind.u64.wrap (-(x : Int)) = ((18446744073709551616 - x : Nat) : Int) := by rw [IntKind.wrap_u64]; omega
  rw [e1, bits_and_u64_nat x _ hx (by omega), hlow, IntKind.wrap_u64]
  omega
theorem TZ_core (x k idx : Nat) (w : World) (hx0 : ((x : Int) == 0) = false)
    (key : IntKind.u64.wrap (bits BinOp.and IntKind.u64 (x : Int) (IntKind.u64.wrap (-(x : Int))) * 285870213051353865) / 288230376151711744 = (idx : Int))
    (hi : idx < 64) (hk : k < 64) (hcell : w.cell? ⟨0, idx, none⟩ = some (.int .u8 k)) :
    Calls Tryd.prog 60 #[.int .u64 x] w fun e w' => e = .returned (.int .i64 k) ∧ w' = w := by
  go_enter Tryd.func60, Tryd.ntmps60
  go_wp2_with (simp only [key])
  go_ret
  exact ⟨rfl, rfl⟩
/-- Of a number that is not 0. -/
theorem TZ_calls (x : Int) (hx : U64 x) (h0 : x ≠ 0) (w : World) (hT : TabG w) :
    Calls Tryd.prog 60 #[.int .u64 x] w fun e w' => e = .returned (.int .i64 (Lib.ctz 64 x.toNat : Nat)) ∧ w' = w := by
  obtain ⟨n, rfl⟩ : ∃ n : Nat, x = n := ⟨x.toNat, by have := hx.1; omega⟩
  have hn : n < 18446744073709551616 := by have := hx.2; omega
  have hn0 : n ≠ 0 := by omega
  obtain ⟨hlow, hk⟩ := Lib.lowest_bit 64 n hn0 hn
  obtain ⟨hi, htab⟩ := Lib.deBruijn64_at _ hk
  have hcell := hT _ hi
  rw [htab] at hcell
  rw [Int.toNat_natCast]
  exact TZ_core n _ _ w (by simp; omega) (tz_key n _ hn hn0 hlow) hi hk hcell
end Go.Proofs.YtmcapemlfplcgaaDoor.H
/- Plain: a set's items, one after the other, from the least on. No program. -/
namespace Go.Proofs.YtmcapemlfplcgaaDoor.R02
open Go.Proofs.YtmcapemlfplcgaaDoor.AtM
set_option linter.unusedVariables false
set_option linter.unusedSimpArgs false
/-- A set's items. -/
def listS (x : Int) : List Int := ((List.range 64).filter fun i => x.toNat.testBit i).map fun (i : Nat) => (i : Int)
theorem listS_len (x : Int) : (listS x).length = pcS x := by
  unfold listS pcS pcN
  rw [List.length_map, List.countP_eq_length_filter]
theorem listS_zero : listS 0 = [] := by decide
theorem listS_mem (x i : Int) : i ∈ listS x ↔ 0 ≤ i ∧ i ≤ 63 ∧ x.toNat.testBit i.toNat = true := by
  unfold listS
  simp only [List.mem_map, List.mem_filter, List.mem_range]
  constructor
  · rintro ⟨j, ⟨h1, h2⟩, rfl⟩
    exact ⟨by omega, by omega, by rw [Int.toNat_natCast]; exact h2⟩
  · rintro ⟨h1, h2, h3⟩
    exact ⟨i.toNat, ⟨by omega, h3⟩, by omega⟩
theorem listS_le (x : Int) : (listS x).length ≤ 64 := by
  unfold listS
  rw [List.length_map]
  have := List.length_filter_le (fun i => x.toNat.testBit i) (List.range 64)
  rw [List.length_range] at this
  exact this
/-- What is left of a number without its lowest bit. -/
theorem drop_low {x k m : Nat} (h : x = 2 ^ k * (2 * m + 1)) (i : Nat) : (x &&& (x - 1)).testBit i = (decide (k < i) && x.testBit i) := by
  have hp : 0 < 2 ^ k := Nat.pow_pos (by decide)
  have e1 : x - 1 = 2 ^ k * (2 * m) + (2 ^ k - 1) := by
    rw [h, Nat.mul_add, Nat.mul_one]; omega
  have hd : ∀ j, x.testBit (k + j) = (2 * m + 1).testBit j := fun j => by
    rw [Nat.add_comm, ← Nat.testBit_div_two_pow, h, Nat.mul_div_cancel_left _ hp]
  have hd1 : ∀ j, (x - 1).testBit (k + j) = (2 * m).testBit j := fun j => by
    rw [Nat.add_comm, ← Nat.testBit_div_two_pow, e1, Nat.add_comm, Nat.add_mul_div_left _ _ hp, Nat.div_eq_of_lt (by omega), Nat.zero_add]
  have hlow : ∀ j, j < k → x.testBit j = false := fun j hj => by
    rw [h, Nat.mul_comm, Nat.testBit_mul_two_pow]
    simp; omega
  rw [Nat.testBit_and]
  by_cases hik : i < k
  · rw [hlow i hik]; simp
  · obtain ⟨j, rfl⟩ : ∃ j, i = k + j := ⟨i - k, by omega⟩
    rw [hd, hd1]
    cases j with
    | zero =>
      rw [Nat.testBit_zero]
      have : (2 * m).testBit 0 = false := by rw [Nat.testBit_zero]; simp
      rw [this]; simp
    | succ j =>
      rw [Nat.testBit_succ, Nat.testBit_succ, show (2 * m + 1) / 2 = m by omega, show 2 * m / 2 = m by omega]
      have : k < k + (j + 1) := by omega
      simp [this]
theorem ctz_low {x : Nat} (h0 : x ≠ 0) (hx : x < 2 ^ 64) : Lib.ctz 64 x < 64 ∧ ∃ m, x = 2 ^ Lib.ctz 64 x * (2 * m + 1) := by
  unfold Lib.ctz
  rw [if_neg h0]
  obtain ⟨m, h1, h2⟩ := Lib.ctzFrom_spec 64 x (by omega) hx
  exact ⟨h2, m, h1⟩
theorem range_split (k : Nat) (hk : k < 64) : List.range 64 = List.range k ++ k :: List.range' (k + 1) (63 - k) := by
  rw [List.range_eq_range', List.range_eq_range', show (64 : Nat) = k + (63 - k + 1) by omega, ← List.range'_append_1, Nat.zero_add, List.range'_succ]
theorem listS_step (x : Int) (hx : U64 x) (h0 : x ≠ 0) : listS x = ((Lib.ctz 64 x.toNat : Nat) : Int) :: listS ((x.toNat &&& (x.toNat - 1) : Nat) : Int) := by
  obtain ⟨hk, m, hm⟩ := ctz_low (x := x.toNat) (by have := hx.1; omega) (nat_lt hx)
  generalize Lib.ctz 64 x.toNat = k at hk hm ⊢
  have hb := fun i => drop_low hm i
  have hp : 0 < 2 ^ k := Nat.pow_pos (by decide)
  have hself : x.toNat.testBit k = true := by
    rw [show k = 0 + k from (Nat.zero_add k).symm, ← Nat.testBit_div_two_pow, hm, Nat.mul_div_cancel_left _ hp, Nat.testBit_zero]
    simp
  have hlow : ∀ j, j < k → x.toNat.testBit j = false := fun j hj => by
    rw [hm, Nat.mul_comm, Nat.testBit_mul_two_pow]
    simp; omega
  unfold listS
  rw [Int.toNat_natCast, range_split k hk, List.filter_append, List.filter_append, List.filter_cons, List.filter_cons]
  have e1 : (List.range k).filter (fun i => x.toNat.testBit i) = [] := List.filter_eq_nil_iff.2 fun i hi => by
    rw [hlow i (List.mem_range.1 hi)]; simp
  have e2 : (List.range k).filter (fun i => (x.toNat &&& (x.toNat - 1)).testBit i) = [] := List.filter_eq_nil_iff.2 fun i hi => by
    rw [hb, hlow i (List.mem_range.1 hi)]; simp
  have e3 : (x.toNat &&& (x.toNat - 1)).testBit k = false := by rw [hb]; simp
  have e4 : (List.range' (k + 1) (63 - k)).filter (fun i => (x.toNat &&& (x.toNat - 1)).testBit i) = (List.range' (k + 1) (63 - k)).filter (fun i => x.toNat.testBit i) := by
    refine List.filter_congr fun i hi => ?_
    have := (List.mem_range'_1.1 hi).1
    rw [hb, decide_eq_true (by omega), Bool.true_and]
  rw [e1, e2, e3, e4, if_pos hself]
  simp
theorem and_pred_lt {x : Int} (hx : U64 x) (h0 : x ≠ 0) : U64 ((x.toNat &&& (x.toNat - 1) : Nat) : Int) ∧ ((x.toNat &&& (x.toNat - 1) : Nat) : Int) < x := by
  have h1 : x.toNat &&& (x.toNat - 1) ≤ x.toNat - 1 := Nat.and_le_right
  have := hx.1; have := hx.2
  unfold U64
  omega
end Go.Proofs.YtmcapemlfplcgaaDoor.R02
