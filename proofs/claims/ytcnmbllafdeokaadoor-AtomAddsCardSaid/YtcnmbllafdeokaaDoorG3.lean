/- Some texts of one seat in one file, in build order. -/
import Derived.Test.YtcnmbllafdeokaaDoorG2
import Derived.Laws.BitsAllLaws
/- Plain mathematics of package table: trees whose sides are at most one apart, as lists of keys with values. No program. -/
namespace Go.Proofs.YtcnmbllafdeokaaDoor.TrM

inductive Tr (α β : Type) where
  | lf
  | nd (k : α) (v : β) (l r : Tr α β)
variable {α β : Type}
def hT : Tr α β → Nat
  | .lf => 0
  | .nd _ _ l r => max (hT l) (hT r) + 1
def sT : Tr α β → Nat
  | .lf => 0
  | .nd _ _ l r => sT l + sT r + 1
def leanT : Tr α β → Int
  | .lf => 0
  | .nd _ _ l r => (hT l : Int) - hT r
def flat : Tr α β → List (α × β)
  | .lf => []
  | .nd k v l r => flat l ++ (k, v) :: flat r
def turnR : Tr α β → Tr α β
  | .nd k v (.nd k' v' l r) r' => .nd k' v' l (.nd k v r r')
  | t => t
def turnL : Tr α β → Tr α β
  | .nd k v l (.nd k' v' l' r') => .nd k' v' (.nd k v l l') r'
  | t => t
def evenT (k : α) (v : β) (l r : Tr α β) : Tr α β :=
  if (hT l : Int) - hT r > 1 then (if leanT l < 0 then turnR (.nd k v (turnL l) r) else turnR (.nd k v l r))
  else if (hT l : Int) - hT r < -1 then (if leanT r > 0 then turnL (.nd k v l (turnR r)) else turnL (.nd k v l r))
  else .nd k v l r
theorem flat_turnR (t : Tr α β) : flat (turnR t) = flat t := by
  unfold turnR; split
  · simp [flat]
  · rfl
theorem flat_turnL (t : Tr α β) : flat (turnL t) = flat t := by
  unfold turnL; split
  · simp [flat]
  · rfl
theorem flat_even (k : α) (v : β) (l r : Tr α β) : flat (evenT k v l r) = flat l ++ (k, v) :: flat r := by
  unfold evenT
  split
  · split
    · rw [flat_turnR, flat, flat_turnL]
    · rw [flat_turnR, flat]
  · split
    · split
      · rw [flat_turnL, flat, flat_turnR]
      · rw [flat_turnL, flat]
    · rfl
theorem sT_flat (t : Tr α β) : sT t = (flat t).length := by
  induction t with
  | lf => rfl
  | nd k v l r hl hr => simp [sT, flat, hl, hr]; omega
theorem hT_le (t : Tr α β) : hT t ≤ sT t := by
  induction t with
  | lf => exact Nat.le_refl _
  | nd k v l r hl hr => simp only [hT, sT]; omega
/-- A side that is more than one higher is none that is empty. -/
theorem hT_pos {t : Tr α β} (h : 0 < hT t) : ∃ k v l r, t = .nd k v l r := by
  cases t with
  | lf => simp [hT] at h
  | nd k v l r => exact ⟨k, v, l, r, rfl⟩
section
variable (lt : α → α → Bool)
def putT (k : α) (v : β) : Tr α β → Tr α β
  | .lf => .nd k v .lf .lf
  | .nd k' v' l r => if lt k k' then evenT k' v' (putT k v l) r else if lt k' k then evenT k' v' l (putT k v r) else .nd k v l r
def findT (k : α) : Tr α β → Option (α × β)
  | .lf => none
  | .nd k' v' l r => if lt k k' then findT k l else if lt k' k then findT k r else some (k', v')
/-- In a list that rises. -/
def insL (k : α) (v : β) : List (α × β) → List (α × β)
  | [] => [(k, v)]
  | (k', v') :: xs => if lt k k' then (k, v) :: (k', v') :: xs else if lt k' k then (k', v') :: insL k v xs else (k, v) :: xs
def getL (k : α) : List (α × β) → Option (α × β)
  | [] => none
  | (k', v') :: xs => if lt k' k then getL k xs else if lt k k' then none else some (k', v')
structure Ord : Prop where
  irr : ∀ a, lt a a = false
  trans : ∀ a b c, lt a b = true → lt b c = true → lt a c = true
  tot : ∀ a b, lt a b = false → lt b a = false → a = b
variable {lt}
theorem Ord.asym (h : Ord lt) {a b : α} (hab : lt a b = true) : lt b a = false := by
  cases hb : lt b a with
  | false => rfl
  | true => have := h.trans _ _ _ hab hb; rw [h.irr] at this; cases this
def Rises (lt : α → α → Bool) (xs : List (α × β)) : Prop := xs.Pairwise fun x y => lt x.1 y.1 = true
theorem insL_app (h : Ord lt) (k : α) (v : β) (k' : α) (v' : β) : ∀ (xs ys : List (α × β)), Rises lt (xs ++ (k', v') :: ys) →
    insL lt k v (xs ++ (k', v') :: ys) = if lt k k' then insL lt k v xs ++ (k', v') :: ys else if lt k' k then xs ++ (k', v') :: insL lt k v ys else xs ++ (k, v) :: ys := by
  intro xs
  induction xs with
  | nil => intro ys _; simp only [List.nil_append, insL]; split <;> rfl
  | cons x xs ih =>
    obtain ⟨a, b⟩ := x
    intro ys hr
    have hr1 : Rises lt (xs ++ (k', v') :: ys) := (List.pairwise_cons.1 hr).2
    have hak : lt a k' = true := (List.pairwise_cons.1 hr).1 (k', v') (by simp)
    simp only [List.cons_append, insL]
    by_cases h1 : lt k a = true
    · rw [if_pos h1, if_pos (h.trans _ _ _ h1 hak), if_pos h1]; rfl
    · by_cases h2 : lt a k = true
      · rw [if_neg h1, if_pos h2, ih ys hr1, if_neg h1, if_pos h2]
        split
        · rfl
        · split <;> rfl
      · have e := h.tot a k (by simpa using h2) (by simpa using h1)
        subst e
        rw [if_neg h1, if_neg h1, if_pos hak, if_neg h1, if_neg h1]
        rfl
theorem flat_put (h : Ord lt) (k : α) (v : β) : ∀ t : Tr α β, Rises lt (flat t) → flat (putT lt k v t) = insL lt k v (flat t) := by
  intro t
  induction t with
  | lf => intro _; rfl
  | nd k' v' l r hl hr =>
    intro hs
    have hs' : Rises lt (flat l ++ (k', v') :: flat r) := hs
    have h1 : Rises lt (flat l) := (List.pairwise_append.1 hs').1
    have h2 : Rises lt (flat r) := (List.pairwise_cons.1 (List.pairwise_append.1 hs').2.1).2
    simp only [putT, flat]
    rw [insL_app h k v k' v' _ _ hs']
    split
    · rw [flat_even, hl h1]
    · split
      · rw [flat_even, hr h2]
      · rfl
theorem getL_app (h : Ord lt) (k : α) (k' : α) (v' : β) : ∀ (xs ys : List (α × β)), Rises lt (xs ++ (k', v') :: ys) →
    getL lt k (xs ++ (k', v') :: ys) = if lt k k' then getL lt k xs else if lt k' k then getL lt k ys else some (k', v') := by
  intro xs
  induction xs with
  | nil =>
    intro ys _
    simp only [List.nil_append, getL]
    by_cases h1 : lt k' k = true
    · rw [if_pos h1, if_neg (by rw [h.asym h1]; simp), if_pos h1]
    · rw [if_neg h1]; split
      · rfl
      · rfl
  | cons x xs ih =>
    obtain ⟨a, b⟩ := x
    intro ys hr
    have hr1 : Rises lt (xs ++ (k', v') :: ys) := (List.pairwise_cons.1 hr).2
    have hak : lt a k' = true := (List.pairwise_cons.1 hr).1 (k', v') (by simp)
    simp only [List.cons_append, getL]
    by_cases h2 : lt a k = true
    · rw [if_pos h2, ih ys hr1, if_pos h2]
    · by_cases h1 : lt k a = true
      · rw [if_neg h2, if_pos h1, if_pos (h.trans _ _ _ h1 hak), if_neg h2]
      · have e := h.tot a k (by simpa using h2) (by simpa using h1)
        subst e
        rw [if_neg h1, if_neg h1, if_pos hak, if_neg h1]
theorem find_flat (h : Ord lt) (k : α) : ∀ t : Tr α β, Rises lt (flat t) → findT lt k t = getL lt k (flat t) := by
  intro t
  induction t with
  | lf => intro _; rfl
  | nd k' v' l r hl hr =>
    intro hs
    have hs' : Rises lt (flat l ++ (k', v') :: flat r) := hs
    have h1 : Rises lt (flat l) := (List.pairwise_append.1 hs').1
    have h2 : Rises lt (flat r) := (List.pairwise_cons.1 (List.pairwise_append.1 hs').2.1).2
    simp only [findT, flat]
    rw [getL_app h k k' v' _ _ hs', hl h1, hr h2]
/-- What an insertion puts in. -/
theorem ins_mem (h : Ord lt) (k : α) (v : β) : ∀ (xs : List (α × β)), Rises lt xs → ∀ y, y ∈ insL lt k v xs ↔ y = (k, v) ∨ (y ∈ xs ∧ y.1 ≠ k) := by
  intro xs
  induction xs with
  | nil => intro _ y; simp [insL]
  | cons x xs ih =>
    obtain ⟨a, b⟩ := x
    intro hr y
    have hr1 : Rises lt xs := (List.pairwise_cons.1 hr).2
    have ha := (List.pairwise_cons.1 hr).1
    simp only [insL]
    by_cases h1 : lt k a = true
    · rw [if_pos h1]
      constructor
      · intro hy
        rcases List.mem_cons.1 hy with e | hy
        · exact .inl e
        · refine .inr ⟨hy, fun e => ?_⟩
          rcases List.mem_cons.1 hy with rfl | hy
          · simp only at e; subst e; rw [h.irr] at h1; cases h1
          · have h3 := h.trans _ _ _ h1 (ha y hy); rw [e, h.irr] at h3; cases h3
      · rintro (rfl | ⟨hy, _⟩)
        · simp
        · exact List.mem_cons_of_mem _ hy
    · rw [if_neg h1]
      by_cases h2 : lt a k = true
      · rw [if_pos h2, List.mem_cons, List.mem_cons, ih hr1 y]
        constructor
        · rintro (rfl | rfl | ⟨h3, h4⟩)
          · exact .inr ⟨.inl rfl, fun e => by simp only at e; subst e; rw [h.irr] at h2; cases h2⟩
          · exact .inl rfl
          · exact .inr ⟨.inr h3, h4⟩
        · rintro (rfl | ⟨rfl | h3, h4⟩)
          · exact .inr (.inl rfl)
          · exact .inl rfl
          · exact .inr (.inr ⟨h3, h4⟩)
      · rw [if_neg h2]
        have e := h.tot a k (by simpa using h2) (by simpa using h1)
        subst e
        rw [List.mem_cons, List.mem_cons]
        constructor
        · rintro (rfl | h3)
          · exact .inl rfl
          · exact .inr ⟨.inr h3, fun e => by have := ha y h3; rw [e, h.irr] at this; cases this⟩
        · rintro (rfl | ⟨rfl | h3, h4⟩)
          · exact .inl rfl
          · exact absurd rfl h4
          · exact .inr h3
theorem ins_rises (h : Ord lt) (k : α) (v : β) : ∀ (xs : List (α × β)), Rises lt xs → Rises lt (insL lt k v xs) := by
  intro xs
  induction xs with
  | nil => intro _; simp [insL, Rises]
  | cons x xs ih =>
    obtain ⟨a, b⟩ := x
    intro hr
    have hr1 : Rises lt xs := (List.pairwise_cons.1 hr).2
    have ha := (List.pairwise_cons.1 hr).1
    simp only [insL]
    by_cases h1 : lt k a = true
    · rw [if_pos h1]
      refine List.pairwise_cons.2 ⟨fun y hy => ?_, hr⟩
      rcases List.mem_cons.1 hy with rfl | hy
      · exact h1
      · exact h.trans _ _ _ h1 (ha y hy)
    · rw [if_neg h1]
      by_cases h2 : lt a k = true
      · rw [if_pos h2]
        refine List.pairwise_cons.2 ⟨fun y hy => ?_, ih hr1⟩
        rcases (ins_mem h k v xs hr1 y).1 hy with rfl | ⟨hy, _⟩
        · exact h2
        · exact ha y hy
      · rw [if_neg h2]
        have e := h.tot a k (by simpa using h2) (by simpa using h1)
        subst e
        exact List.pairwise_cons.2 ⟨ha, hr1⟩
theorem get_mem (h : Ord lt) (k : α) : ∀ (xs : List (α × β)), Rises lt xs → ∀ y, getL lt k xs = some y ↔ y ∈ xs ∧ y.1 = k := by
  intro xs
  induction xs with
  | nil => intro _ y; simp [getL]
  | cons x xs ih =>
    obtain ⟨a, b⟩ := x
    intro hr y
    have hr1 : Rises lt xs := (List.pairwise_cons.1 hr).2
    have ha := (List.pairwise_cons.1 hr).1
    simp only [getL]
    by_cases h2 : lt a k = true
    · rw [if_pos h2, ih hr1 y, List.mem_cons]
      constructor
      · rintro ⟨h3, h4⟩; exact ⟨.inr h3, h4⟩
      · rintro ⟨rfl | h3, h4⟩
        · simp only at h4; subst h4; rw [h.irr] at h2; cases h2
        · exact ⟨h3, h4⟩
    · rw [if_neg h2]
      by_cases h1 : lt k a = true
      · rw [if_pos h1]
        constructor
        · intro h; cases h
        · rintro ⟨h3, h4⟩
          rcases List.mem_cons.1 h3 with rfl | h3
          · simp only at h4; subst h4; rw [h.irr] at h1; cases h1
          · have := h.trans _ _ _ h1 (ha y h3); rw [h4, h.irr] at this; cases this
      · rw [if_neg h1]
        have e := h.tot a k (by simpa using h2) (by simpa using h1)
        subst e
        constructor
        · intro h; injection h with h; subst h; exact ⟨by simp, rfl⟩
        · rintro ⟨h3, h4⟩
          rcases List.mem_cons.1 h3 with rfl | h3
          · rfl
          · have := ha y h3; rw [h4, h.irr] at this; cases this
end
end Go.Proofs.YtcnmbllafdeokaaDoor.TrM
/- Plain mathematics of sets of items and of atoms: how sets stand, the normal list. No program. -/
namespace Go.Proofs.YtcnmbllafdeokaaDoor.AtM
open Go.Proofs.YtcnmbllafdeokaaDoor.TrM

/-! ### sets -/
def wthB (a b : Int) : Bool := decide (a.toNat &&& b.toNat = a.toNat)
def pcN (n : Nat) : Nat := (List.range 64).countP fun i => n.testBit i
def pcS (a : Int) : Nat := pcN a.toNat
/-- A whole number of 64 bits. -/
def U64 (a : Int) : Prop := 0 ≤ a ∧ a < 18446744073709551616
theorem nat_lt {a : Int} (h : U64 a) : a.toNat < 2 ^ 64 := by
  have : (2 : Nat) ^ 64 = 18446744073709551616 := by decide
  unfold U64 at h; omega
theorem wth_iff (a b : Int) : wthB a b = true ↔ ∀ i, a.toNat.testBit i = true → b.toNat.testBit i = true := by
  unfold wthB
  rw [decide_eq_true_iff]
  constructor
  · intro h i hi
    rw [← h, Nat.testBit_and] at hi
    simp only [Bool.and_eq_true] at hi
    exact hi.2
  · intro h
    apply Nat.eq_of_testBit_eq
    intro i
    rw [Nat.testBit_and]
    cases ha : a.toNat.testBit i with
    | false => rfl
    | true => rw [h i ha]; rfl
theorem wth_refl (a : Int) : wthB a a = true := (wth_iff a a).2 fun _ h => h
theorem wth_trans {a b c : Int} (h : wthB a b = true) (k : wthB b c = true) : wthB a c = true := (wth_iff a c).2 fun i hi => (wth_iff b c).1 k i ((wth_iff a b).1 h i hi)
theorem testBit_big {n i : Nat} (hn : n < 2 ^ 64) (hi : n.testBit i = true) : i < 64 := by
  rcases Nat.lt_or_ge i 64 with h | h
  · exact h
  · rw [Nat.testBit_lt_two_pow (Nat.lt_of_lt_of_le hn (Nat.pow_le_pow_right (by omega) h))] at hi; cases hi
theorem cnt_le {α : Type} (p q : α → Bool) : ∀ l : List α, (∀ x ∈ l, p x = true → q x = true) → l.countP p ≤ l.countP q := by
  intro l h; exact List.countP_mono_left h
theorem cnt_lt {α : Type} (p q : α → Bool) : ∀ l : List α, (∀ x ∈ l, p x = true → q x = true) → (∃ x ∈ l, q x = true ∧ p x = false) → l.countP p < l.countP q := by
  intro l
  induction l with
  | nil => rintro _ ⟨x, hx, _⟩; simp at hx
  | cons y ys ih =>
    intro h ⟨x, hx, hq, hp⟩
    have hle := cnt_le p q ys (fun z hz => h z (List.mem_cons_of_mem _ hz))
    rw [List.countP_cons, List.countP_cons]
    rcases List.mem_cons.1 hx with rfl | hx
    · rw [if_neg (by rw [hp]; simp), if_pos hq]; omega
    · have h1 := ih (fun z hz => h z (List.mem_cons_of_mem _ hz)) ⟨x, hx, hq, hp⟩
      by_cases hy : p y = true
      · rw [if_pos hy, if_pos (h y (by simp) hy)]; omega
      · rw [if_neg hy]; split <;> omega
theorem pc_lt {a b : Int} (ha : U64 a) (hb : U64 b) (h : wthB a b = true) (hne : a ≠ b) : pcS a < pcS b := by
  have h1 := (wth_iff a b).1 h
  refine cnt_lt _ _ _ (fun i _ hi => h1 i hi) ?_
  have hne' : a.toNat ≠ b.toNat := by unfold U64 at ha hb; omega
  obtain ⟨i, hi⟩ := Nat.exists_testBit_ne_of_ne hne'
  cases hai : a.toNat.testBit i with
  | true => rw [h1 i hai, hai] at hi; exact absurd rfl hi
  | false =>
    have hbi : b.toNat.testBit i = true := by
      cases hbi : b.toNat.testBit i with
      | true => rfl
      | false => rw [hai, hbi] at hi; exact absurd rfl hi
    exact ⟨i, List.mem_range.2 (testBit_big (nat_lt hb) hbi), hbi, hai⟩
/-- How two sets stand. -/
def ltS (a b : Int) : Bool := decide (pcS a < pcS b ∨ (pcS a = pcS b ∧ a < b))
def cmpS (a b : Int) : Int := if pcS a < pcS b then -1 else if pcS b < pcS a then 1 else if a < b then -1 else if b < a then 1 else 0
theorem cmp_lt (a b : Int) : decide (cmpS a b < 0) = ltS a b := by
  unfold cmpS ltS
  (repeat' split) <;> (apply Bool.eq_iff_iff.2; simp; try omega)
theorem ordS : Ord ltS where
  irr a := by unfold ltS; simp
  trans a b c h k := by unfold ltS at *; simp at *; omega
  tot a b h k := by unfold ltS at *; simp at *; omega
theorem wth_ltS {a b : Int} (ha : U64 a) (hb : U64 b) (h : wthB a b = true) (hne : a ≠ b) : ltS a b = true := by
  have := pc_lt ha hb h hne
  unfold ltS; simp; omega
def ltN (a b : Int) : Bool := decide (a < b)
theorem ordN : Ord ltN where
  irr a := by unfold ltN; simp
  trans a b c h k := by unfold ltN at *; simp at *; omega
  tot a b h k := by unfold ltN at *; simp at *; omega
/-! ### atoms -/
abbrev At := Int × Int
def rightA (x : At) : Bool := decide (x.1 ≠ 0 ∧ 1 ≤ x.2 ∧ x.2 ≤ 1099511627776)
def inA (s : Int) (x : At) : Bool := wthB x.1 s
def withinL (al : List At) (s : Int) : List At := (al.filter rightA).filter (inA s)
def maxL (xs : List At) : Int := xs.foldl (fun m x => max m x.2) 0
def valueL (al : List At) (s : Int) : Int := maxL (withinL al s)
/-- The greatest values so far. -/
def valOf (s : Int) (xs : List At) : Int := match getL ltN s xs with | some y => y.2 | none => 0
def great1 (xs : List At) (x : At) : List At := insL ltN x.1 (max (valOf x.1 xs) x.2) xs
def greatL (al : List At) : List At := (al.filter rightA).foldl great1 []
/-- Sorted al sets stand. -/
def insS (x : At) : List At → List At
  | [] => [x]
  | y :: ys => if ltS x.1 y.1 then x :: y :: ys else y :: insS x ys
def sortS (xs : List At) : List At := xs.foldr insS []
def beatB (x : At) (out : List At) : Bool := out.any fun b => wthB b.1 x.1 && decide (x.2 ≤ b.2)
def norm1 (out : List At) (x : At) : List At := if beatB x out then out else out ++ [x]
def normL (al : List At) : List At := (sortS (greatL al)).foldl norm1 []
end Go.Proofs.YtcnmbllafdeokaaDoor.AtM
/- package atom: Right, the right atoms, those within a set; set.Within. -/
namespace Go.Proofs.YtcnmbllafdeokaaDoor.H
open Go.RowKit Go.Proofs.YtcnmbllafdeokaaDoorW.PrintWords Go.Proofs.YtcnmbllafdeokaaDoorW.PrintLast Go.Proofs.YtcnmbllafdeokaaDoorW.PrintMore Go.Proofs.YtcnmbllafdeokaaDoor.TrM Go.Proofs.YtcnmbllafdeokaaDoor.AtM
set_option linter.unusedVariables false
set_option linter.unusedSimpArgs false
set_option maxRecDepth 100000
attribute [local go_sem] Oper.semAt_some wide_fn wide_depth

/-- Atoms in memory. -/
abbrev KAt : Kd At := Kd.pair (Kd.int .u64) (Kd.int .i64)
abbrev encA (x : At) : Value := .agg #[.int .u64 x.1, .int .i64 x.2]
theorem at_atom {w : World} {A : Option Addr} {n : Nat} {xs : List At} (h : Kd.C KAt w A n xs) {i : Nat} (hi : i < n) {s v : Int} (ho : xs[i]? = some (s, v)) :
    ∃ ad, A = some ad ∧ w.cell? (ad.add (i * 2)) = some (.int .u64 s) ∧ w.cell? ⟨(ad.add (i * 2)).block, (ad.add (i * 2)).off + 1, none⟩ = some (.int .i64 v) := by
  obtain ⟨ad, c, e, _, hK, hc0⟩ := Kd.C_get h ((0, 0) : At) (i : Int) (by omega) (by omega)
  rw [Int.toNat_natCast] at hK hc0
  have eg : xs.getD i ((0, 0) : At) = (s, v) := by rw [List.getD_eq_getElem?_getD, ho]; rfl
  rw [eg] at hK
  have hc : ∀ j u, c[j]? = some u → w.cell? (ad.add (i * 2 + j)) = some u := hc0
  obtain ⟨_, _, rfl, rfl, rfl⟩ := hK
  exact ⟨ad, e, hc 0 _ rfl, by rw [← add_field _ _ 1 (by omega)]; exact hc 1 _ rfl⟩
theorem Right_eq (s v : Int) (b : Bool) (W : World) (hb : rightA (s, v) = b) : Calls Tryd.prog 13 #[.agg #[.int .u64 s, .int .i64 v]] W fun e W' => e = .returned (.bool b) ∧ Below W.heap.size W W' := by
  have hx : rightA (s, v) = (!(decide (s = 0)) && decide (1 ≤ v) && decide (v ≤ 1099511627776)) := by
    unfold rightA; apply Bool.eq_iff_iff.2; simp [and_assoc]
  rw [hx] at hb
  subst hb
  have hB : Below W.heap.size W (W.alloc (.cells #[.int .u64 s, .int .i64 v] 28)) := below_alloc (Below.refl _ _) _
  have HB := Aside0.mk hB
  clear hB hx
  by_cases c1 : s = 0
  · subst c1
    go_enter Tryd.func13, Tryd.ntmps13
    go_wp2
    go_ret
    exact ⟨rfl, HB.out⟩
  · have a1 : (s != 0) = true := by rw [bne_iff_ne]; exact c1
    have a2 : decide (s = 0) = false := decide_eq_false c1
    rw [a2]
    by_cases c2 : 1 ≤ v
    · have a3 : decide (1 ≤ v) = true := decide_eq_true c2
      rw [a3]
      obtain ⟨b3, hb3⟩ : ∃ b, decide (v ≤ 1099511627776) = b := ⟨_, rfl⟩
      have HB3 := Lib.hid hb3
      clear c1 c2 a2 hb3
      go_enter Tryd.func13, Tryd.ntmps13
      go_wp2
      go_ret
      exact ⟨by simp, HB.out⟩
    · have a3 : decide (1 ≤ v) = false := decide_eq_false c2
      rw [a3]
      clear c1 c2 a2
      go_enter Tryd.func13, Tryd.ntmps13
      go_wp2
      go_ret
      exact ⟨by simp, HB.out⟩
theorem andNot_wth {a b : Int} (ha : U64 a) (hb : U64 b) : (bits .andNot .u64 a b == 0) = wthB a b := by
  have h64 : (2 : Nat) ^ 64 = 18446744073709551616 := by decide
  have hbn := nat_lt hb
  have han := nat_lt ha
  rw [u64_andNot a b ha.1 ha.2 hb.1 hb.2]
  have e1 : 18446744073709551615 - b.toNat = 2 ^ 64 - (b.toNat + 1) := by omega
  rw [e1]
  apply Bool.eq_iff_iff.2
  rw [beq_iff_eq, wth_iff]
  constructor
  · intro h i hi
    have h0 : a.toNat &&& (2 ^ 64 - (b.toNat + 1)) = 0 := by omega
    have h1 := congrArg (fun n => n.testBit i) h0
    simp only [Nat.testBit_and, Nat.zero_testBit, Nat.testBit_two_pow_sub_succ hbn, hi, Bool.true_and, testBit_big han hi, decide_true] at h1
    simpa using h1
  · intro h
    have h0 : a.toNat &&& (2 ^ 64 - (b.toNat + 1)) = 0 := by
      apply Nat.eq_of_testBit_eq
      intro i
      simp only [Nat.testBit_and, Nat.zero_testBit, Nat.testBit_two_pow_sub_succ hbn]
      cases hi : a.toNat.testBit i with
      | false => rfl
      | true => simp [h i hi]
    rw [h0]; rfl
theorem SWithin_eq (a b : Int) (r : Bool) (W : World) (ha : U64 a) (hb : U64 b) (hr : wthB a b = r) : Calls Tryd.prog 26 #[.int .u64 a, .int .u64 b] W fun e W' => e = .returned (.bool r) ∧ W = W' := by
  rw [← andNot_wth ha hb] at hr
  obtain ⟨x, hx⟩ : ∃ x, bits .andNot .u64 a b = x := ⟨_, rfl⟩
  rw [hx] at hr
  subst hr
  clear ha hb
  go_enter Tryd.func26, Tryd.ntmps26
  go_wp2
  go_ret
  exact ⟨rfl, rfl⟩
theorem right_calls (A : Option Addr) (n c : Nat) (w : World) : Calls Tryd.prog 25 #[.slice A n c] w fun e w' =>
    e = .returned (.func (.func 39) #[] #[.pointer (some ⟨w.heap.size, 0, none⟩)]) ∧ w' = w.alloc (.cells #[.slice A n c] 22) := by
  go_enter Tryd.func25, Tryd.ntmps25
  go_wp2
  go_ret
  exact ⟨rfl, rfl⟩
/-- What a func over atoms tells a round. -/
def AtY (xs : List At) (pre : List At) (x : At) (vs : Array Value) (W : World) : Prop := pre ++ [x] <+: xs ∧ vs = #[encA x]
theorem filter_take (p : At → Bool) (al : List At) (k : Nat) (x : At) (hx : al[k]? = some x) : (al.take (k + 1)).filter p = (al.take k).filter p ++ if p x = true then [x] else [] := by
  rw [List.take_add_one, hx, List.filter_append]
  congr 1
  simp [List.filter_cons]
theorem filter_take_pre (p : At → Bool) (al : List At) (k : Nat) : (al.take k).filter p <+: al.filter p := (List.take_prefix k al).filter p
set_option maxHeartbeats 1600000 in
theorem right1_seq (n : Nat) (al : List At) (A : Option Addr) (c bb n₀ : Nat) (Kb : Nat → Prop) (w : World)
    (hbox : ∀ W, Kp n₀ Kb w W → W.cell? ⟨bb, 0, none⟩ = some (.slice A al.length c)) (hC : ∀ W, Kp n₀ Kb w W → Kd.C KAt W A al.length al) (hn : n₀ ≤ w.heap.size) :
    SeqX Fence.wide n Tryd.prog 39 #[.pointer (some ⟨bb, 0, none⟩)] (AtY (al.filter rightA)) n₀ Kb (fun ys => ys = al.filter rightA) (fun _ => True) w := by
  intro l J Jx W hK hJ hJx hY h0
  have hm : al.length ≤ 9223372036854775807 := (hC W hK).2.1
  have hcell := hbox W hK
  refine callsIn_of_wp Tryd.func39 rfl trivial ?_ rfl
  simp only [Tryd.ntmps39, List.size_toArray, List.length_cons, List.length_nil, Nat.reduceAdd, Nat.reduceSub, Array.replicate_succ, Array.replicate_zero, List.push_toArray, List.append_toArray, List.nil_append, List.cons_append]
  gi_wp2
  gi_loopw [7] (fun p wr => ∃ k : Nat, p = .int .i64 (k : Int) ∧ k ≤ al.length ∧ J ((al.take k).filter rightA) wr ∧ Kp n₀ Kb w wr) (fun p _ => al.length - (intOf p).toNat)
  case atStart => exact ⟨0, rfl, Nat.zero_le _, by simpa using h0, hK⟩
  case round =>
    obtain ⟨k, rfl, hk, h4, h5⟩ := hrel
    by_cases hlt : k < al.length
    · obtain ⟨⟨s, v⟩, ho⟩ : ∃ o, al[k]? = some o := ⟨_, List.getElem?_eq_getElem hlt⟩
      obtain ⟨ad, e0, hx0, hx1⟩ := at_atom (hC wr h5) hlt ho
      subst e0
      have hllt : (k : Int) < (al.length : Int) := by omega
      have hft := filter_take rightA al k (s, v) ho
      have hpre := filter_take_pre rightA al (k + 1)
      have hba : Below wr.heap.size wr (wr.alloc (.cells #[.int .u64 s, .int .i64 v] 28)) := below_alloc (Below.refl _ _) _
      obtain ⟨b, hb⟩ : ∃ b, rightA (s, v) = b := ⟨_, rfl⟩
      rw [hb] at hft
      have HB := Lib.hid hb
      cases b with
      | false =>
        simp only [Bool.false_eq_true, if_false, List.append_nil] at hft
        have HF := Lib.hid hft
        clear hft hpre hb ho
        gi_wp2_with (fail)
        refine (callsIn_wide.2 (Right_eq s v false _ HB.out)).mono ?_
        rintro e w1 ⟨rfl, hb1⟩
        have hbb := below_step hba hb1
        clear hb1
        gi_wp2
        go_roundw
        case rel => exact ⟨k + 1, by go_num, by omega, by rw [HF.out]; exact hJ _ _ _ h4 hbb, h5.trans (.of_below hbb (by have := h5.1; omega))⟩
        case measure => simp [intOf]; omega
      | true =>
        simp only [if_true] at hft
        rw [hft] at hpre
        have HF := Lib.hid hft
        clear hft hb ho
        gi_wp2_with (fail)
        refine (callsIn_wide.2 (Right_eq s v true _ HB.out)).mono ?_
        rintro e w1 ⟨rfl, hb1⟩
        have hbx := blk_belowX (blk_new wr (.cells #[.int .u64 s, .int .i64 v] 28)) hb1
        have y0 : w1.cell? ⟨wr.heap.size, 0, none⟩ = some (.int .u64 s) := by rw [blk_cell hbx]; rfl
        have y1 : w1.cell? ⟨wr.heap.size, 1, none⟩ = some (.int .i64 v) := by rw [blk_cell hbx]; rfl
        have hbb := below_step hba hb1
        obtain ⟨fn, tmps, asg, body, hy, hR⟩ := hY _ (s, v) _ w1 (hJ _ _ _ h4 hbb) ⟨hpre, rfl⟩
        have hK1 := h5.trans (.of_below hbb (by have := h5.1; omega))
        clear hb1 hbx
        gi_wp2
        refine hR.mono ?_
        rintro e W3 (⟨rfl, hJ3, hk3⟩ | ⟨rfl, hJx3⟩)
        · gi_wp2
          go_roundw
          case rel => exact ⟨k + 1, by go_num, by omega, by rw [HF.out]; exact hJ3, hK1.trans hk3⟩
          case measure => simp [intOf]; omega
        · gi_wp2
          refine bodyPost_ret (results_none rfl _ _ _) rfl ?_
          exact ⟨⟨_, rfl⟩, .inr ⟨_, trivial, hJx3⟩⟩
    · obtain rfl : k = al.length := by omega
      rw [List.take_length] at h4
      gi_wp2
      go_end0
      exact ⟨⟨_, rfl⟩, .inl ⟨_, rfl, h4⟩⟩
end Go.Proofs.YtcnmbllafdeokaaDoor.H
/- package atom: the right atoms within a set. -/
namespace Go.Proofs.YtcnmbllafdeokaaDoor.H
open Go.RowKit Go.Proofs.YtcnmbllafdeokaaDoorW.PrintWords Go.Proofs.YtcnmbllafdeokaaDoorW.PrintLast Go.Proofs.YtcnmbllafdeokaaDoorW.PrintMore Go.Proofs.YtcnmbllafdeokaaDoor.TrM Go.Proofs.YtcnmbllafdeokaaDoor.AtM
set_option linter.unusedVariables false
set_option linter.unusedSimpArgs false
set_option maxRecDepth 100000
attribute [local go_sem] Oper.semAt_some wide_fn wide_depth

/-- Rows of atoms: a round may write its own. -/
def TA : TypeId → Prop := fun t => t = 28
theorem Within_calls (A : Option Addr) (n c : Nat) (s : Int) (w : World) : Calls Tryd.prog 11 #[.slice A n c, .int .u64 s] w fun e w' =>
    e = .returned (.func (.func 24) #[] #[.pointer (some ⟨w.heap.size, 0, none⟩), .pointer (some ⟨w.heap.size + 1, 0, none⟩)]) ∧ w' = (w.alloc (.cells #[.slice A n c] 22)).alloc (.cells #[.int .u64 s] 23) := by
  go_enter Tryd.func11, Tryd.ntmps11
  go_wp2
  go_ret
  exact ⟨rfl, rfl⟩
theorem filter_snoc (p : At → Bool) (xs : List At) (x : At) : (xs ++ [x]).filter p = xs.filter p ++ if p x = true then [x] else [] := by
  rw [List.filter_append]; congr 1; simp [List.filter_cons]
set_option maxHeartbeats 1600000 in
theorem Within1_seq (n : Nat) (al : List At) (s : Int) (A : Option Addr) (c ba bs n₀ : Nat) (Kb : Nat → Prop) (w : World) (hs : U64 s) (hu : ∀ x ∈ al, U64 x.1)
    (hA : ∀ W, Kp n₀ Kb w W → W.cell? ⟨ba, 0, none⟩ = some (.slice A al.length c)) (hS : ∀ W, Kp n₀ Kb w W → W.cell? ⟨bs, 0, none⟩ = some (.int .u64 s)) (hC : ∀ W, Kp n₀ Kb w W → Kd.C KAt W A al.length al) (hn : n₀ ≤ w.heap.size) :
    SeqZ TA Fence.wide n Tryd.prog 24 #[.pointer (some ⟨ba, 0, none⟩), .pointer (some ⟨bs, 0, none⟩)] (AtY (withinL al s)) n₀ Kb (fun ys => ys = withinL al s) (fun _ => True) w := by
  intro l J Jx W hK hJ hJx hY h0
  have hcA := hA W hK
  have hcS := hS W hK
  refine callsIn_wide.2 ((callsIn_wide (n := 5)).1 ?_)
  refine callsIn_of_wp_marks Tryd.func24 rfl trivial ?_ rfl
  simp only [Tryd.ntmps24, List.size_toArray, List.length_cons, List.length_nil, Nat.reduceAdd, Nat.reduceSub, Array.replicate_succ, Array.replicate_zero, List.push_toArray, List.append_toArray, List.nil_append, List.cons_append]
  have hWn := hK.1
  have hba : ba < W.heap.size := World.block_lt_of_cell? W ⟨ba, 0, none⟩ hcA
  have hbs : bs < W.heap.size := World.block_lt_of_cell? W ⟨bs, 0, none⟩ hcS
  gi_wp2_with (gi_at_call 25; refine (callsIn_wide.2 (right_calls _ _ _ _)).mono ?_; rintro e w1 ⟨rfl, rfl⟩)
  have hB2 : Below W.heap.size W ((W.alloc (.cells #[.func (.yield l) #[] #[]] 29)).alloc (.cells #[.slice A al.length c] 22)) := below_alloc (below_alloc (Below.refl _ _) _) _
  have g1 : ((W.alloc (.cells #[.func (.yield l) #[] #[]] 29)).alloc (.cells #[.slice A al.length c] 22)).heap[W.heap.size]? = some (.cells #[.func (.yield l) #[] #[]] 29 (0, 0)) := blk_alloc (blk_new W _) _
  have g2 := blk_new2 W (.cells #[.func (.yield l) #[] #[]] 29) (.cells #[.slice A al.length c] 22)
  have hsz : ((W.alloc (.cells #[.func (.yield l) #[] #[]] 29)).alloc (.cells #[.slice A al.length c] 22)).heap.size = W.heap.size + 2 := by simp
  generalize ((W.alloc (.cells #[.func (.yield l) #[] #[]] 29)).alloc (.cells #[.slice A al.length c] 22)) = w2 at hB2 g1 g2 hsz
  have hJ0 : J [] w2 := hJ _ _ _ h0 (.of_below hB2)
  have hK2 : Kp n₀ Kb w w2 := hK.trans (.of_below hB2 (by omega))
  have HY := Aside0.mk (And.intro hY (And.intro hJ (And.intro hJx (And.intro hA (And.intro hS (And.intro hC hu))))))
  have HK := Aside0.mk (And.intro hK (And.intro hB2 hsz))
  clear hY hA hS hu h0 hcA hcS
  refine rangeZ rfl (by omega) (gf := 39) (lb := #[.pointer (some ⟨W.heap.size + 1, 0, none⟩)]) rfl trivial (enters_of Tryd.func39 (by kernel_rfl) rfl)
    (Y := AtY (al.filter rightA)) (n₀ := w2.heap.size) (Kb := fun k => (k < n₀ ∧ Kb k) ∨ W.heap.size ≤ k) (S := fun xs => xs = al.filter rightA) (Sp := fun _ => True)
    (SeqX.z (T := TA) (right1_seq 4 al A c (W.heap.size + 1) w2.heap.size _ w2
      (fun X hk => by rw [blk_cell ((hk.2 (W.heap.size + 1) (by omega) (.inr (by omega))).trans g2) 0]; rfl)
      (fun X hk => hC X ⟨Nat.le_trans hK2.1 hk.1, fun k h1 h2 => (hk.2 k (by omega) (.inl ⟨h1, h2⟩)).trans (hK2.2 k h1 h2)⟩) (Nat.le_refl _))) (Nat.le_refl _)
    (fun _ _ _ _ hy => by obtain ⟨_, rfl⟩ := hy; rfl)
    (fun pre X => J (pre.filter (inA s)) X ∧ Kp n₀ Kb w X ∧ X.heap[W.heap.size]? = some (.cells #[.func (.yield l) #[] #[]] 29 (0, 0)) ∧ X.heap[W.heap.size + 1]? = some (.cells #[.slice A al.length c] 22 (0, 0)))
    (fun cd _ X => cd = .ret ∧ ∃ q, Jx q X)
    (fun _ P Q h hlie => ⟨hJ _ _ _ h.1 (hlie.wide hB2.size), h.2.1.trans (.of_lies hlie (by omega) (Nat.le_trans hn h.2.1.1)), hlie.blk h.2.2.1, hlie.blk h.2.2.2⟩)
    (fun _ _ P Q h hlie => ⟨h.1, by obtain ⟨q, hq⟩ := h.2; exact ⟨q, hJx _ _ _ hq (hlie.wide hB2.size)⟩⟩) ⟨hJ0, hK2, g1, g2⟩ ?round ?done ?stop
  case round =>
    rintro l2 pre ⟨xs, xv⟩ vs X hl2 ⟨hj, hk, hbox, hbo2⟩ ⟨hpre, rfl⟩ hXs
    have hux : U64 xs := by
      have hm : (xs, xv) ∈ al.filter rightA := hpre.subset (List.mem_append.2 (.inr (List.mem_singleton.2 rfl)))
      exact HY.out.2.2.2.2.2.2 _ (List.mem_filter.1 hm).1
    have hfs := filter_snoc (inA s) pre (xs, xv)
    have HP := Aside0.mk (And.intro hpre (And.intro hfs hux))
    clear hpre hfs hux
    gi_wp2
    refine ⟨Kin.of_below (below_alloc (Below.refl _ _) _) (Nat.le_refl _), Kp.of_below (below_alloc (Below.refl _ _) _) (by omega), ?_⟩
    intro Wb hlie
    have g3 := hlie.blk (blk_new X (.cells #[.int .u64 xs, .int .i64 xv] 28))
    have g4 := hlie.blk (blk_alloc hbox (.cells #[.int .u64 xs, .int .i64 xv] 28))
    have g5 := hlie.blk (blk_alloc hbo2 (.cells #[.int .u64 xs, .int .i64 xv] 28))
    have hka : Kp n₀ Kb w (X.alloc (.cells #[.int .u64 xs, .int .i64 xv] 28)) := hk.trans (.of_below (below_alloc (Below.refl _ _) _) (by omega))
    have hkb : Kp n₀ Kb w Wb := hka.trans (.of_lies hlie (by omega) (Nat.le_trans hn hka.1))
    have hjb : J (pre.filter (inA s)) Wb := HY.out.2.1 _ _ _ (HY.out.2.1 _ _ _ hj (.of_below (below_alloc (Below.refl _ _) _))) (hlie.wide (by omega))
    have gs := hlie.size
    rw [World.size_alloc] at gs
    have y0 : Wb.cell? ⟨X.heap.size, 0, none⟩ = some (.int .u64 xs) := by rw [blk_cell g3]; rfl
    have y1 : Wb.cell? ⟨X.heap.size, 1, none⟩ = some (.int .i64 xv) := by rw [blk_cell g3]; rfl
    have y2 : Wb.cell? ⟨W.heap.size, 0, none⟩ = some (.func (.yield l) #[] #[]) := by rw [blk_cell g4]; rfl
    have y3 : Wb.cell? ⟨bs, 0, none⟩ = some (.int .u64 s) := HY.out.2.2.2.2.1 Wb hkb
    have HB := Aside0.mk (And.intro hkb (And.intro hjb (And.intro g4 g5)))
    clear hj hk hbox hbo2 hlie hka hkb hjb g3 g4 g5
    obtain ⟨b, hb⟩ : ∃ b, wthB xs s = b := ⟨_, rfl⟩
    have HW := Lib.hid hb
    cases b with
    | false =>
      clear hb
      gi_wp2_with (gi_at_call 26; refine (CallsIn.inRound l2 (callsIn_wide.2 (SWithin_eq xs s false _ HP.out.2.2 hs HW.out))).mono ?_; rintro e w' ⟨rfl, rfl⟩)
      have hx : inA s (xs, xv) = false := HW.out
      refine ⟨Kin.refl _ _ _, Kp.refl _ _ _, ?_, HB.out.1, HB.out.2.2.1, HB.out.2.2.2⟩
      rw [HP.out.2.1, hx]
      simpa using HB.out.2.1
    | true =>
      clear hb
      obtain ⟨fn, tmps, asg, body, hy, hR⟩ := yieldAt_wide (m' := 2) (HY.out.1 (pre.filter (inA s)) (xs, xv) _ Wb HB.out.2.1 ⟨by
        have h1 := HP.out.1.filter (inA s)
        rw [HP.out.2.1] at h1
        have : inA s (xs, xv) = true := HW.out
        rw [if_pos this] at h1
        exact h1, rfl⟩)
      gi_wp2_with (gi_at_call 26; refine (CallsIn.inRound l2 (callsIn_wide.2 (SWithin_eq xs s true _ HP.out.2.2 hs HW.out))).mono ?_; rintro e w' ⟨rfl, rfl⟩)
      have hx : inA s (xs, xv) = true := HW.out
      have hsb := blk_lt HB.out.2.2.2
      have hsz2 := HK.out.2.2
      refine (roundIn_in l2 hR).mono ?_
      rintro e W3 (⟨rfl, hJ3, hk3, hin⟩ | ⟨rfl, hx3, hin⟩)
      · have HF := Aside0.mk (And.intro hJ3 (And.intro hk3 (And.intro hin hx)))
        clear hJ3 hk3 hin hx
        gi_wp2
        obtain ⟨hJ3, hk3, hin, hx⟩ := HF.out
        have hf1 := hin.2 W.heap.size (Nat.le_refl _) (by omega) (isC HB.out.2.2.1 (by unfold TA; decide))
        have hf2 := hin.2 (W.heap.size + 1) (by omega) hsb (isC HB.out.2.2.2 (by unfold TA; decide))
        refine ⟨⟨hin.1, fun k h1 h2 h3 => hin.2 k (by omega) (by omega) h3⟩, ⟨hin.1, fun k h1 h2 => ?_⟩, ?_, HB.out.1.trans hk3, hf1.trans HB.out.2.2.1, hf2.trans HB.out.2.2.2⟩
        · rcases h2 with ⟨h2, h3⟩ | h2
          · exact hk3.2 k h2 h3
          · by_cases e : k = W.heap.size
            · rw [e]; exact hf1
            · obtain rfl : k = W.heap.size + 1 := by omega
              exact hf2
        · rw [HP.out.2.1, if_pos hx]
          exact hJ3
      · have HF := Aside0.mk (And.intro hx3 hin)
        clear hx3 hin hx
        gi_wp2
        exact ⟨⟨HF.out.2.1, fun k h1 h2 h3 => HF.out.2.2 k (by omega) (by omega) h3⟩, rfl, _, HF.out.1⟩
  case done =>
    rintro D xs X hD rfl ⟨hj, hk, hbox, hbo2⟩ hKd
    have HF := Aside0.mk (And.intro hj hKd)
    clear hj hk hbox hbo2 hKd
    gi_wp2
    refine ⟨by simp, .inl ⟨_, _, rfl, run_takeDeferred HF.out.2, ?_⟩⟩
    refine ⟨_, results_none rfl _ _ _, ⟨_, rfl⟩, .inl ⟨_, rfl, ?_⟩⟩
    exact hJ _ _ _ HF.out.1 (.put (by omega) HF.out.2 rfl _)
  case stop =>
    rintro D cd pre X hD _ ⟨rfl, q, hq⟩ hKd
    have HF := Aside0.mk (And.intro hq hKd)
    clear hq hKd
    gi_wp2
    refine ⟨by simp, .inl ⟨_, _, rfl, run_takeDeferred HF.out.2, ?_⟩⟩
    refine ⟨_, results_none rfl _ _ _, ⟨_, rfl⟩, .inr ⟨q, trivial, ?_⟩⟩
    exact hJx _ _ _ HF.out.1 (.put (by omega) HF.out.2 rfl _)
end Go.Proofs.YtcnmbllafdeokaaDoor.H
