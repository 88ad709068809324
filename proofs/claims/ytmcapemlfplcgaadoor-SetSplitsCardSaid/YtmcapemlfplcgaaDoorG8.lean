/- Some texts of one seat in one file, in build order. -/
import Derived.Test.YtmcapemlfplcgaaDoorG7
import Derived.Test.YtmcapemlfplcgaaDoorG2
import Derived.Test.YtmcapemlfplcgaaDoorG3
import Derived.Test.YtmcapemlfplcgaaDoorG1
import Derived.Laws.BitsAllLaws
import Derived.Laws.Bits128
/- package set: Read. -/
namespace Go.Proofs.YtmcapemlfplcgaaDoor.H
open Go.RowKit Go.Proofs.YtmcapemlfplcgaaDoorW.PrintWords Go.Proofs.YtmcapemlfplcgaaDoorW.PrintLast Go.Proofs.YtmcapemlfplcgaaDoorW.PrintMore Go.Proofs.YtmcapemlfplcgaaDoor.AtM Go.Proofs.YtmcapemlfplcgaaDoor.R02
set_option linter.unusedVariables false
set_option linter.unusedSimpArgs false
set_option maxRecDepth 100000
attribute [local go_sem] Oper.semAt_some wide_fn wide_depth
/-- A text is that of a small number: which one. -/
def numB (l : List UInt8) : Option Nat := (List.range 64).find? fun i => decide (dig2 i = l)
theorem numB_some {l : List UInt8} {i : Nat} : numB l = some i ↔ i < 64 ∧ l = dig2 i := by
  unfold numB
  constructor
  · intro h
    have h1 := List.find?_some h
    have h2 := List.mem_of_find?_eq_some h
    exact ⟨List.mem_range.1 h2, (by simpa using h1 : dig2 i = l).symm⟩
  · rintro ⟨h1, rfl⟩
    rw [List.find?_eq_some_iff_append]
    refine ⟨by simp, List.range i, List.range' (i + 1) (63 - i), ?_, ?_⟩
    · exact range_split i h1
    · intro a ha
      have ha := List.mem_range.1 ha
      have : dig2 a ≠ dig2 i := fun h => by
        have := dig2_inj a (by omega) i h1 h
        omega
      simpa using this
theorem numB_none {l : List UInt8} : numB l = none ↔ ∀ i, i < 64 → l ≠ dig2 i := by
  constructor
  · intro h i hi he
    have := numB_some.2 ⟨hi, he⟩
    rw [h] at this; cases this
  · intro h
    cases hn : numB l with
    | none => rfl
    | some i => exact absurd (numB_some.1 hn).2 (h i (numB_some.1 hn).1)
/-- The set of a text's parts, one behind the other. -/
def partS (o : Nat) (p : List UInt8) : Option Nat := match numB p with
  | none => none
  | some i => if o >>> i = 0 then some (o ||| 1 <<< i) else none
def partsS (o : Nat) : List (List UInt8) → Option Nat
  | [] => some o
  | p :: r => match partS o p with
    | none => none
    | some o' => partsS o' r
theorem partsS_snoc (o : Nat) (pre : List (List UInt8)) (p : List UInt8) : partsS o (pre ++ [p]) = (partsS o pre).bind fun o' => partS o' p := by
  induction pre generalizing o with
  | nil => simp only [List.nil_append, partsS, Option.bind_some]; cases partS o p <;> rfl
  | cons q r ih =>
    simp only [List.cons_append, partsS]
    cases partS o q with
    | none => rfl
    | some o' => exact ih o'
theorem partsS_none {o : Nat} {pre xs : List (List UInt8)} (h : partsS o pre = none) (hp : pre <+: xs) : partsS o xs = none := by
  obtain ⟨t, rfl⟩ := hp
  induction pre generalizing o with
  | nil => cases h
  | cons q r ih =>
    simp only [List.cons_append, partsS] at h ⊢
    cases hq : partS o q with
    | none => rfl
    | some o' => rw [hq] at h; exact ih h
/-- **WHAT set.Read ANSWERS.** -/
def readS (l : List UInt8) : Int × Int :=
  if Lib.hasPrefix l [123] && Lib.hasSuffix (Lib.trimPrefix l [123]) [125] then
    let r := Lib.trimSuffix (Lib.trimPrefix l [123]) [125]
    if r = [] then (0, 0) else match partsS 0 (splitC 44 r) with
      | none => (0, 20)
      | some o => ((o : Int), 0)
  else (0, 20)
theorem partS_lt {o o' : Nat} {p : List UInt8} (ho : o < 18446744073709551616) (h : partS o p = some o') : o' < 18446744073709551616 := by
  unfold partS at h
  split at h
  · cases h
  · rename_i i hi
    split at h
    · injection h with h
      subst h
      have := (numB_some.1 hi).1
      exact Nat.or_lt_two_pow (n := 64) ho (by rw [Nat.one_shiftLeft]; exact Nat.pow_lt_pow_right (by decide) this)
    · cases h
theorem partsS_lt : ∀ {xs : List (List UInt8)} {o o' : Nat}, o < 18446744073709551616 → partsS o xs = some o' → o' < 18446744073709551616
  | [], o, o', ho, h => by injection h with h; omega
  | p :: r, o, o', ho, h => by
    simp only [partsS] at h
    cases hq : partS o p with
    | none => rw [hq] at h; cases h
    | some o1 => rw [hq] at h; exact partsS_lt (partS_lt ho hq) h
theorem trimP_len (l q : List UInt8) : (Lib.trimPrefix l q).length ≤ l.length := by unfold Lib.trimPrefix; split <;> simp
theorem trimS_len (l q : List UInt8) : (Lib.trimSuffix l q).length ≤ l.length := by unfold Lib.trimSuffix; split <;> simp <;> omega
theorem splitC_len (c : UInt8) : ∀ (l : List UInt8) (x : List UInt8), x ∈ splitC c l → x.length ≤ l.length
  | [], x, h => by
    have h : x ∈ [([] : List UInt8)] := h
    rw [List.mem_singleton.1 h]; exact Nat.le_refl _
  | b :: r, x, h => by
    unfold splitC at h
    split at h
    · rcases List.mem_cons.1 h with rfl | h
      · simp
      · have := splitC_len c r x h
        rw [List.length_cons]; omega
    · have ih := splitC_len c r
      split at h
      · rw [List.mem_singleton.1 h]; simp
      · rename_i p q hq
        rw [hq] at ih
        rcases List.mem_cons.1 h with rfl | h
        · have := ih p (by simp)
          simp only [List.length_cons]; omega
        · have := ih x (by simp [h])
          rw [List.length_cons]; omega
/-- What holds between two rounds. -/
def RdI (W w5 : World) (pre : List (List UInt8)) (X : World) : Prop := ∃ o : Nat, partsS 0 pre = some o ∧ X.heap[W.heap.size]? = some (.cells #[.int .u64 0] 22 (0, 0)) ∧ X.heap[W.heap.size + 1]? = some (.cells #[.int .i64 0] 33 (0, 0)) ∧ X.heap[W.heap.size + 1 + 1]? = some (.cells #[.int .u64 (o : Int)] 22 (0, 0)) ∧ But (fun k => W.heap.size ≤ k) w5 X
/-- What holds where a round has stopped. -/
def RdX (W w5 : World) (r : List UInt8) (c : Code) (pre : List (List UInt8)) (X : World) : Prop := (c = .ret ∧ pre <+: splitC 44 r) ∧ partsS 0 pre = none ∧ X.heap[W.heap.size]? = some (.cells #[.int .u64 0] 22 (0, 0)) ∧ X.heap[W.heap.size + 1]? = some (.cells #[.int .i64 20] 33 (0, 0)) ∧ But (fun k => W.heap.size ≤ k) w5 X
set_option maxHeartbeats 1600000 in
theorem Read_calls (s : ByteArray) (hs : s.size ≤ 100000) (W : World) (hT : TabE W) :
    Calls Tryd.prog 25 #[.string s] W fun e W' => e = .returned (.tuple #[.int .u64 (readS s.data.toList).1, .int .i64 (readS s.data.toList).2]) ∧ Below W.heap.size W W' := by
  refine (callsIn_wide (n := 8)).1 ?_
  refine callsIn_of_wp_marks Tryd.func25 rfl trivial ?_ rfl
  simp only [Tryd.ntmps25, List.size_toArray, List.length_cons, List.length_nil, Nat.reduceAdd, Nat.reduceSub, Array.replicate_succ, Array.replicate_zero, List.push_toArray, List.append_toArray, List.nil_append, List.cons_append]
  have HT := Aside0.mk hT
  clear hT
  obtain ⟨p, hp⟩ : ∃ p, Lib.trimPrefix s.data.toList [123] = p := ⟨_, rfl⟩
  obtain ⟨ok, hok⟩ : ∃ b, Lib.hasPrefix s.data.toList [123] = b := ⟨_, rfl⟩
  obtain ⟨r, hr⟩ : ∃ r, Lib.trimSuffix p [125] = r := ⟨_, rfl⟩
  obtain ⟨cl, hcl⟩ : ∃ b, Lib.hasSuffix p [125] = b := ⟨_, rfl⟩
  have hpl : p.length ≤ 100000 := by
    have h1 := trimP_len s.data.toList [123]
    rw [hp] at h1
    have h2 := Lib.size_eq s
    omega
  have hrl : r.length ≤ 100000 := by
    have h1 := trimS_len p [125]
    rw [hr] at h1
    omega
  have C1 := Aside0.mk (show ∀ w, Calls Tryd.prog 47 #[.string s, .string ⟨#[123]⟩] w fun e w' => e = .returned (.tuple #[.string ⟨p.toArray⟩, .bool ok]) ∧ w' = w from fun w => by rw [← hp, ← hok]; exact Tryd.strings_CutPrefix s ⟨#[123]⟩ w)
  have C2 := Aside0.mk (show ∀ w, Calls Tryd.prog 48 #[.string ⟨p.toArray⟩, .string ⟨#[125]⟩] w fun e w' => e = .returned (.tuple #[.string ⟨r.toArray⟩, .bool cl]) ∧ w' = w from fun w => by
    rw [← hr, ← hcl]; exact Tryd.strings_CutSuffix ⟨p.toArray⟩ ⟨#[125]⟩ w (by rw [Lib.size_eq]; show p.length ≤ _; omega))
  have hread : readS s.data.toList = if ok && cl then (if r = [] then ((0 : Int), (0 : Int)) else match partsS 0 (splitC 44 r) with
      | none => (0, 20)
      | some o => ((o : Int), 0)) else (0, 20) := by unfold readS; rw [hp, hok, hr, hcl]
  rw [hread]
  clear hp hok hr hcl hread hs hpl
  obtain ⟨res, hres⟩ : ∃ x, (if ok && cl then (if r = [] then ((0 : Int), (0 : Int)) else match partsS 0 (splitC 44 r) with
      | none => (0, 20)
      | some o => ((o : Int), 0)) else (0, 20)) = x := ⟨_, rfl⟩
  rw [hres]
  have HR := Aside0.mk hres
  clear hres
  gi_wp2_with (fail)
  refine (callsIn_wide.2 (C1.out _)).mono ?_
  rintro e w1 ⟨rfl, rfl⟩
  gi_wp2_with (fail)
  refine (callsIn_wide.2 (C2.out _)).mono ?_
  rintro e w2 ⟨rfl, rfl⟩
  have hU := Tryd.underlying22
  have hE := Tryd.underlying33
  cases ok
  · obtain rfl : res = (0, 20) := by rw [← HR.out]; rfl
    gi_wp2
    exact ⟨_, results_cells2 rfl ⟨W.heap.size, 0, none⟩ ⟨W.heap.size + 1, 0, none⟩ _ _ _ _ rfl rfl (blk_cell (blk_alloc (blk_new _ _) _) 0) (blk_cell (blk_new2 _ _ _) 0) hU rfl hE rfl, rfl, below_alloc (below_alloc (Below.refl _ _) _) _⟩
  cases cl
  · obtain rfl : res = (0, 20) := by rw [← HR.out]; rfl
    gi_wp2
    exact ⟨_, results_cells2 rfl ⟨W.heap.size, 0, none⟩ ⟨W.heap.size + 1, 0, none⟩ _ _ _ _ rfl rfl (blk_cell (blk_alloc (blk_new _ _) _) 0) (blk_cell (blk_new2 _ _ _) 0) hU rfl hE rfl, rfl, below_alloc (below_alloc (Below.refl _ _) _) _⟩
  by_cases hr0 : r = []
  · subst hr0
    obtain rfl : res = (0, 0) := by rw [← HR.out]; rfl
    gi_wp2
    exact ⟨_, results_cells2 rfl ⟨W.heap.size, 0, none⟩ ⟨W.heap.size + 1, 0, none⟩ _ _ _ _ rfl rfl (blk_cell (blk_alloc (blk_new _ _) _) 0) (blk_cell (blk_new2 _ _ _) 0) hU rfl hE rfl, rfl, below_alloc (below_alloc (Below.refl _ _) _) _⟩
  have hres : (match partsS 0 (splitC 44 r) with
      | none => ((0 : Int), (20 : Int))
      | some o => ((o : Int), 0)) = res := by rw [← HR.out]; simp [hr0]
  have HR := Aside0.mk hres
  clear hres
  have hq : (r == []) = false := by cases r <;> simp_all
  gi_wp2_with (fail)
  have k0 : (((W.alloc (.cells #[.int .u64 0] 22)).alloc (.cells #[.int .i64 0] 33)).alloc (.cells #[.int .u64 0] 22)).heap[W.heap.size]? = some (.cells #[.int .u64 0] 22 (0, 0)) := blk_alloc (blk_alloc (blk_new _ _) _) _
  have k1 : (((W.alloc (.cells #[.int .u64 0] 22)).alloc (.cells #[.int .i64 0] 33)).alloc (.cells #[.int .u64 0] 22)).heap[W.heap.size + 1]? = some (.cells #[.int .i64 0] 33 (0, 0)) := blk_alloc (blk_new2 _ _ _) _
  have k2 : (((W.alloc (.cells #[.int .u64 0] 22)).alloc (.cells #[.int .i64 0] 33)).alloc (.cells #[.int .u64 0] 22)).heap[W.heap.size + 1 + 1]? = some (.cells #[.int .u64 ((0 : Nat) : Int)] 22 (0, 0)) := by
    have := blk_new2 (W.alloc (.cells #[.int .u64 0] 22)) (.cells #[.int .i64 0] 33) (.cells #[.int .u64 0] 22)
    simpa using this
  have kb : Below W.heap.size W (((W.alloc (.cells #[.int .u64 0] 22)).alloc (.cells #[.int .i64 0] 33)).alloc (.cells #[.int .u64 0] 22)) := below_alloc (below_alloc (below_alloc (Below.refl _ _) _) _) _
  have ks : (((W.alloc (.cells #[.int .u64 0] 22)).alloc (.cells #[.int .i64 0] 33)).alloc (.cells #[.int .u64 0] 22)).heap.size = W.heap.size + 3 := by simp
  generalize (((W.alloc (.cells #[.int .u64 0] 22)).alloc (.cells #[.int .i64 0] 33)).alloc (.cells #[.int .u64 0] 22)) = w4 at k0 k1 k2 kb ks ⊢
  have hT4 := HT.out.below kb
  refine (callsIn_wide.2 (SplitSeq_calls _ _ _)).mono ?_
  rintro e w5 ⟨rfl, hw5⟩
  have j3 : w5.heap[w4.heap.size]? = some (.cells #[.string ⟨r.toArray⟩] 9 (0, 0)) := by rw [hw5]; exact blk_alloc (blk_alloc (blk_new _ _) _) _
  have j4 : w5.heap[w4.heap.size + 1]? = some (.cells #[.string ⟨#[44]⟩] 9 (0, 0)) := by rw [hw5]; exact blk_alloc (blk_new2 _ _ _) _
  have j5 : w5.heap[w4.heap.size + 2]? = some (.cells #[.int .i64 0] 3 (0, 0)) := by
    rw [hw5]
    have := blk_new2 (w4.alloc (.cells #[.string ⟨r.toArray⟩] 9)) (.cells #[.string ⟨#[44]⟩] 9) (.cells #[.int .i64 0] 3)
    simpa using this
  have hb5 : Below w4.heap.size w4 w5 := by rw [hw5]; exact below_alloc (below_alloc (below_alloc (Below.refl _ _) _) _) _
  have hs5 : w5.heap.size = w4.heap.size + 3 := by rw [hw5]; simp
  have k0 := (hb5.block _ (by omega)).trans k0
  have k1 := (hb5.block _ (by omega)).trans k1
  have k2 := (hb5.block _ (by omega)).trans k2
  have hT5 := hT4.below hb5
  have kb5 := kb.trans (hb5.mono (by omega))
  clear hw5 hb5 hT4 kb
  rw [ks] at j3 j4 j5 hs5 ⊢
  have G := Aside0.mk (And.intro hT5 (And.intro kb5 (And.intro j3 (And.intro j4 j5))))
  clear hT5 kb5 j3 j4 j5
  gi_wp2_with (fail)
  refine rangeB rfl (by omega) (gf := 75) (lb := #[.pointer (some ⟨W.heap.size + 3 + 1, 0, none⟩), .pointer (some ⟨W.heap.size + 3, 0, none⟩), .pointer (some ⟨W.heap.size + 3 + 2, 0, none⟩)]) rfl trivial (enters_of Tryd.func75 (by kernel_rfl) rfl)
    (bx := W.heap.size + 3) (by omega) (Y := SpY (splitC 44 r)) (n₀ := w5.heap.size) (Kb := fun k => k ≠ W.heap.size ∧ k ≠ W.heap.size + 1 ∧ k ≠ W.heap.size + 1 + 1) (S := fun xs => xs = splitC 44 r) (Sp := fun _ => True)
    (Split1_seq _ ⟨r.toArray⟩ 44 (W.heap.size + 3) (W.heap.size + 3 + 1) (W.heap.size + 3 + 2) w5.heap.size _ w5 (by rw [Lib.size_eq]; exact hrl) G.out.2.2.1 G.out.2.2.2.1 G.out.2.2.2.2
      ⟨by omega, by omega, by omega, by omega⟩ ⟨by omega, by omega, by omega, by omega⟩ ⟨by omega, by omega, by omega, by omega⟩ ⟨by omega, by omega⟩ (Nat.le_refl _)) (Nat.le_refl _)
    (fun _ _ _ _ hy => by obtain ⟨_, rfl⟩ := hy; rfl)
    (RdI W w5) (RdX W w5 r)
    ?hI ?hIx ?hIo ?h0 ?round ?done ?stop
  case hI =>
    rintro pre P Q ⟨o, h1, h2, h3, h4, h5⟩ hl
    exact ⟨o, h1, hl.blk h2, hl.blk h3, hl.blk h4, but_lies h5 hl (Nat.le_refl _)⟩
  case hIx =>
    rintro c pre P Q ⟨h0, h1, h2, h3, h5⟩ hl
    exact ⟨h0, h1, hl.blk h2, hl.blk h3, but_lies h5 hl (Nat.le_refl _)⟩
  case hIo =>
    rintro pre P Q ⟨o, h1, h2, h3, h4, h5⟩ ho
    exact ⟨o, h1, ho.blk h2 (by omega), ho.blk h3 (by omega), ho.blk h4 (by omega), h5.trans (But.of_oth ho (by omega))⟩
  case h0 => exact ⟨0, rfl, k0, k1, k2, But.refl _ _⟩
  case done =>
    rintro D xs X hD rfl ⟨o, h1, h2, h3, h4, h5⟩ hKd
    have hX := h5.size
    have hbX : Below W.heap.size W X := h5.below G.out.2.1 (by omega) (fun k h => h)
    have ho := HR.out
    rw [h1] at ho
    obtain rfl : res = ((o : Int), 0) := ho.symm
    have d0 := blk_cell h2 0
    have d1 := blk_cell h3 0
    have d2 := blk_cell h4 0
    have f0 := blk_frozen h2 0
    have f1 := blk_frozen h3 0
    simp at d0 d1 d2
    have HB := Aside0.mk (And.intro h2 (And.intro h3 (And.intro hKd hbX)))
    clear h1 h2 h3 h4 h5 hKd hbX ho k0 k1 k2
    gi_wp2
    have q1 : Oth W.heap.size X (X.setCell ⟨W.heap.size, 0, none⟩ (.int .u64 (o : Int))) := Oth.set X ⟨W.heap.size, 0, none⟩ _
    have c1 := blk_put HB.out.1 0 (.int .u64 (o : Int)) rfl
    have c2 := q1.blk HB.out.2.1 (by omega)
    have hD1 := q1.blk HB.out.2.2.1 (by omega)
    have hb1 : Below W.heap.size W (X.setCell ⟨W.heap.size, 0, none⟩ (.int .u64 (o : Int))) := (But.of_oth (P := fun k => W.heap.size ≤ k) q1 (Nat.le_refl _)).below HB.out.2.2.2 (by omega) (fun k h => h)
    have hz1 := q1.size
    generalize X.setCell ⟨W.heap.size, 0, none⟩ (.int .u64 (o : Int)) = X1 at q1 c1 c2 hD1 hb1 hz1 ⊢
    have q2 : Oth (W.heap.size + 1) X1 (X1.setCell ⟨W.heap.size + 1, 0, none⟩ (.int .i64 0)) := Oth.set X1 ⟨W.heap.size + 1, 0, none⟩ _
    have c3 := blk_put c2 0 (.int .i64 0) rfl
    have c4 := q2.blk c1 (by omega)
    have hD2 := q2.blk hD1 (by omega)
    have hb2 : Below W.heap.size W (X1.setCell ⟨W.heap.size + 1, 0, none⟩ (.int .i64 0)) := (But.of_oth (P := fun k => W.heap.size ≤ k) q2 (by omega)).below hb1 (by omega) (fun k h => h)
    generalize X1.setCell ⟨W.heap.size + 1, 0, none⟩ (.int .i64 0) = X2 at q2 c3 c4 hD2 hb2 ⊢
    have hl1 : Lies W.heap.size X2 (X2.putObj D (.deferred none)) := .put (by omega) hD2 rfl _
    refine ⟨by simp, .inl ⟨_, _, rfl, run_takeDeferred hD2, ?_⟩⟩
    exact ⟨_, results_cells2 rfl ⟨W.heap.size, 0, none⟩ ⟨W.heap.size + 1, 0, none⟩ _ _ _ _ rfl rfl (blk_cell (hl1.blk c4) 0) (blk_cell (hl1.blk c3) 0) hU rfl hE rfl, rfl, hl1.below hb2 (Nat.le_refl _) (Nat.le_refl _)⟩
  case stop =>
    rintro D c pre X hD - ⟨⟨rfl, hpre⟩, h1, h2, h3, h5⟩ hKd
    have hX := h5.size
    have hbX : Below W.heap.size W X := h5.below G.out.2.1 (by omega) (fun k h => h)
    have ho := HR.out
    rw [partsS_none h1 hpre] at ho
    obtain rfl : res = (0, 20) := ho.symm
    gi_wp2
    have hl1 : Lies W.heap.size X (X.putObj D (.deferred none)) := .put (by omega) hKd rfl _
    refine ⟨by simp, .inl ⟨_, _, rfl, run_takeDeferred hKd, ?_⟩⟩
    exact ⟨_, results_cells2 rfl ⟨W.heap.size, 0, none⟩ ⟨W.heap.size + 1, 0, none⟩ _ _ _ _ rfl rfl (blk_cell (hl1.blk h2) 0) (blk_cell (hl1.blk h3) 0) hU rfl hE rfl, rfl, hl1.below hbX (Nat.le_refl _) (Nat.le_refl _)⟩
  case round =>
    rintro l pre x vs Y hl2 ⟨o, h1, h2, h3, h4, h5⟩ ⟨hpre, rfl⟩ hYs
    have hsn := partsS_snoc 0 pre x
    rw [h1] at hsn
    change partsS 0 (pre ++ [x]) = partS o x at hsn
    have hxl : x.length ≤ 100000 := Nat.le_trans (splitC_len 44 r x (hpre.subset (by simp))) hrl
    have HP := Aside0.mk (And.intro hsn hpre)
    have ho := partsS_lt (by decide) h1
    clear hsn hpre h1 k0 k1 k2
    gi_wp2
    refine ⟨KeepsFrom.of_below (Below.refl _ _), Kp.refl _ _ _, ?_⟩
    intro Wb hlie
    have b2 := hlie.blk h2
    have b3 := hlie.blk h3
    have b4 := hlie.blk h4
    have b5 := but_lies h5 hlie (by omega)
    have hWb : w5.heap.size ≤ Wb.heap.size := b5.size
    have hTb : TabE Wb := TabE.but (B := W.heap.size) HT.out (Nat.le_refl _) (HT.out.below G.out.2.1) b5 (fun k h => h)
    have HB := Aside0.mk (And.intro b2 (And.intro b3 (And.intro b4 b5)))
    clear h2 h3 h4 h5 hlie b2 b3 b4 b5
    gi_wp2_with (fail)
    refine (CallsIn.inRound l (callsIn_wide.2 (number_calls ⟨x.toArray⟩ (by rw [Lib.size_eq]; exact hxl) Wb hTb))).mono ?_
    rintro e w1 ⟨v, b, rfl, p1, p2, p3⟩
    have k2 := (p1.block _ (by omega)).trans HB.out.1
    have k3 := (p1.block _ (by omega)).trans HB.out.2.1
    have k4 := (p1.block _ (by omega)).trans HB.out.2.2.1
    have k5 := HB.out.2.2.2.trans (But.of_below p1)
    have hw1 := p1.size
    have d0 := blk_cell k2 0
    have d1 := blk_cell k3 0
    have d2 := blk_cell k4 0
    have f0 := blk_frozen k2 0
    have f1 := blk_frozen k3 0
    have f2 := blk_frozen k4 0
    simp at d0 d1 d2
    have P1 := Aside0.mk (And.intro k2 (And.intro k3 (And.intro k4 (And.intro k5 p1))))
    clear k2 k3 k4 k5 p1 hTb
    have hst : ∀ (a : Act), partsS 0 (pre ++ [x]) = none → xPost w5.heap.size w5.heap.size (fun k => k ≠ W.heap.size ∧ k ≠ W.heap.size + 1 ∧ k ≠ W.heap.size + 1 + 1) (RdI W w5) (RdX W w5 r)
        (pre ++ [x]) Wb Wb Exit.ret a ((w1.setCell ⟨W.heap.size, 0, none⟩ (.int .u64 0)).setCell ⟨W.heap.size + 1, 0, none⟩ (.int .i64 20)) := by
      intro a hno
      have q1 : Oth W.heap.size w1 (w1.setCell ⟨W.heap.size, 0, none⟩ (.int .u64 0)) := Oth.set w1 ⟨W.heap.size, 0, none⟩ _
      have c1 := blk_put P1.out.1 0 (.int .u64 0) rfl
      have c2 := q1.blk P1.out.2.1 (by omega)
      generalize w1.setCell ⟨W.heap.size, 0, none⟩ (.int .u64 0) = X1 at q1 c1 c2 ⊢
      have q2 : Oth (W.heap.size + 1) X1 (X1.setCell ⟨W.heap.size + 1, 0, none⟩ (.int .i64 20)) := Oth.set X1 ⟨W.heap.size + 1, 0, none⟩ _
      have c3 := blk_put c2 0 (.int .i64 20) rfl
      have c4 := q2.blk c1 (by omega)
      generalize X1.setCell ⟨W.heap.size + 1, 0, none⟩ (.int .i64 20) = X2 at q2 c3 c4 ⊢
      have hbut : But (fun k => k = W.heap.size ∨ k = W.heap.size + 1) Wb X2 := ((But.of_below P1.out.2.2.2.2).trans (But.of_oth q1 (.inl rfl))).trans (But.of_oth q2 (.inr rfl))
      refine ⟨KeepsFrom.of_but hbut ?_, ⟨rfl, HP.out.2⟩, hno, c4, c3, HB.out.2.2.2.trans (hbut.mono (fun k _ h => by omega))⟩
      rintro k o (rfl | rfl) hk
      · rw [HB.out.1] at hk; injection hk with hk; subst hk; rfl
      · rw [HB.out.2.1] at hk; injection hk with hk; subst hk; rfl
    cases b
    · have hno : partsS 0 (pre ++ [x]) = none := by
        rw [HP.out.1]
        unfold partS
        rw [numB_none.2 (p3 rfl)]
      have HN := Aside0.mk hno
      have HS := Aside0.mk hst
      clear hno p2 p3 hst
      gi_wp2
      exact HS.out _ HN.out
    · obtain ⟨i, hi, rfl, hx⟩ := p2 rfl
      clear p2 p3
      have hpa : partS o x = if o >>> i = 0 then some (o ||| 1 <<< i) else none := by
        unfold partS
        rw [numB_some.2 ⟨hi, hx⟩]
      by_cases hsh : o >>> i = 0
      · have hg : ((o : Int) / 2 ^ i != 0) = false := by
          rw [Nat.shiftRight_eq_div_pow] at hsh
          have : (o : Int) / 2 ^ i = 0 := by exact_mod_cast hsh
          simp [this]
        rw [if_pos hsh] at hpa
        have hval : bits BinOp.or IntKind.u64 (o : Int) (IntKind.u64.wrap (2 ^ i)) = ((o ||| 1 <<< i : Nat) : Int) := by
          have h2 : (2 : Nat) ^ i < 2 ^ 64 := Nat.pow_lt_pow_right (by decide : 1 < 2) hi
          rw [show (2 : Nat) ^ 64 = 18446744073709551616 from rfl] at h2
          have h3 : ((2 : Int) ^ i) = ((2 ^ i : Nat) : Int) := by norm_cast
          have h4 : IntKind.u64.wrap ((2 ^ i : Nat) : Int) = ((2 ^ i : Nat) : Int) := by
            rw [IntKind.wrap_u64]
            exact Int.emod_eq_of_lt (Int.natCast_nonneg _) (Int.ofNat_lt.2 h2)
          rw [h3, h4, bits_or_u64_nat _ _ ho h2, Nat.one_shiftLeft]
        have hgo : ∀ (a : Act), xPost w5.heap.size w5.heap.size (fun k => k ≠ W.heap.size ∧ k ≠ W.heap.size + 1 ∧ k ≠ W.heap.size + 1 + 1) (RdI W w5) (RdX W w5 r)
            (pre ++ [x]) Wb Wb Exit.normal a ((w1.setCell ⟨W.heap.size + 1 + 1, 0, none⟩ (.int .u64 (bits BinOp.or IntKind.u64 (o : Int) (IntKind.u64.wrap (2 ^ i))))).drew) := by
          intro a
          rw [hval]
          have q1 : Oth (W.heap.size + 1 + 1) w1 (w1.setCell ⟨W.heap.size + 1 + 1, 0, none⟩ (.int .u64 ((o ||| 1 <<< i : Nat) : Int))) := Oth.set w1 ⟨W.heap.size + 1 + 1, 0, none⟩ _
          have c1 := blk_put P1.out.2.2.1 0 (.int .u64 ((o ||| 1 <<< i : Nat) : Int)) rfl
          have c2 := q1.blk P1.out.1 (by omega)
          have c3 := q1.blk P1.out.2.1 (by omega)
          generalize w1.setCell ⟨W.heap.size + 1 + 1, 0, none⟩ (.int .u64 ((o ||| 1 <<< i : Nat) : Int)) = X1 at q1 c1 c2 c3 ⊢
          have hbut : But (fun k => k = W.heap.size + 1 + 1) Wb X1.drew := ((But.of_below P1.out.2.2.2.2).trans (But.of_oth (P := fun k => k = W.heap.size + 1 + 1) q1 rfl)).trans (But.of_below (below_drew (Below.refl _ _)))
          refine ⟨KeepsFrom.of_but hbut ?_, Kp.of_but hbut (fun k _ h => by omega) (by omega), _, by rw [HP.out.1, hpa], c2, c3, c1, HB.out.2.2.2.trans (hbut.mono (fun k _ h => by omega))⟩
          rintro k o rfl hk
          rw [HB.out.2.2.1] at hk; injection hk with hk; subst hk; rfl
        have HA := Aside0.mk (And.intro hgo hx)
        clear hpa hsh hx hgo hval hst
        gi_wp2
        gi_region
        all_goals (gi_wp2; exact HA.out.1 _)
      · have hg : ((o : Int) / 2 ^ i != 0) = true := by
          rw [Nat.shiftRight_eq_div_pow] at hsh
          have : (o : Int) / 2 ^ i ≠ 0 := by exact_mod_cast hsh
          simp [this]
        rw [if_neg hsh] at hpa
        have HN := Aside0.mk (HP.out.1.trans hpa)
        have HS := Aside0.mk hst
        clear hpa hst hsh hx
        gi_wp2
        exact HS.out _ HN.out
end Go.Proofs.YtmcapemlfplcgaaDoor.H
/- cmp.Compare[uint64]. -/
namespace Go.Proofs.YtmcapemlfplcgaaDoor.H
open Go.RowKit Go.Proofs.YtmcapemlfplcgaaDoorW.PrintWords Go.Proofs.YtmcapemlfplcgaaDoorW.PrintLast Go.Proofs.YtmcapemlfplcgaaDoorW.PrintMore Go.Proofs.YtmcapemlfplcgaaDoor.TrM Go.Proofs.YtmcapemlfplcgaaDoor.AtM
set_option linter.unusedVariables false
set_option linter.unusedSimpArgs false
set_option maxRecDepth 100000
theorem isNaN_u64 (x : Int) (W : World) : Calls Tryd.prog 66 #[.int .u64 x] W fun e W' => e = .returned (.bool false) ∧ W = W' := by
  go_enter Tryd.func66, Tryd.ntmps66
  go_wp2
  go_ret
  simp
theorem cmp_u64 (x y : Int) (W : World) : Calls Tryd.prog 46 #[.int .u64 x, .int .u64 y] W fun e W' => e = .returned (.int .i64 (cmpN x y)) ∧ W = W' := by
  by_cases c1 : x < y
  · have e : cmpN x y = -1 := by unfold cmpN; rw [if_pos c1]
    rw [e]
    have b0 : decide (x < y) = true := decide_eq_true c1
    clear c1 e
    go_enter Tryd.func46, Tryd.ntmps46
    go_wp2_with (go_at_call 66; refine (isNaN_u64 _ _).mono ?_; rintro e w' ⟨rfl, rfl⟩)
    go_ret
    exact ⟨rfl, rfl⟩
  · by_cases c2 : y < x
    · have e : cmpN x y = 1 := by unfold cmpN; rw [if_neg c1, if_pos c2]
      rw [e]
      have b0 : decide (x < y) = false := decide_eq_false c1
      have b1 : decide (y < x) = true := decide_eq_true c2
      clear c1 c2 e
      go_enter Tryd.func46, Tryd.ntmps46
      go_wp2_with (go_at_call 66; refine (isNaN_u64 _ _).mono ?_; rintro e w' ⟨rfl, rfl⟩)
      go_ret
      exact ⟨rfl, rfl⟩
    · have e : cmpN x y = 0 := by unfold cmpN; rw [if_neg c1, if_neg c2]
      rw [e]
      have b0 : decide (x < y) = false := decide_eq_false c1
      have b1 : decide (y < x) = false := decide_eq_false c2
      clear c1 c2 e
      go_enter Tryd.func46, Tryd.ntmps46
      go_wp2_with (go_at_call 66; refine (isNaN_u64 _ _).mono ?_; rintro e w' ⟨rfl, rfl⟩)
      go_ret
      exact ⟨rfl, rfl⟩
end Go.Proofs.YtmcapemlfplcgaaDoor.H
/- math/bits.OnesCount64: the plain law of the count, byte by byte. No program. -/
namespace Go.Proofs.YtmcapemlfplcgaaDoor.On
set_option linter.unusedVariables false
set_option linter.unusedSimpArgs false
open Go.Proofs.YtmcapemlfplcgaaDoor.TrM Go.Proofs.YtmcapemlfplcgaaDoor.AtM
def pc8 (y : Nat) : Nat := y%2 + y/2%2 + y/4%2 + y/8%2 + y/16%2 + y/32%2 + y/64%2 + y/128%2
theorem and_split (a b c d : Nat) (hb : b < 256) (hd : d < 256) : (256*a+b) &&& (256*c+d) = 256*(a &&& c) + (b &&& d) := by
  have h : (256*a+b) &&& (256*c+d) = 256*(((256*a+b) &&& (256*c+d))/256) + ((256*a+b) &&& (256*c+d)) % 256 := by omega
  rw [h]
  have h1 : ((256*a+b) &&& (256*c+d))/256 = a &&& c := by
    have : (256:Nat) = 2^8 := rfl
    rw [this, Nat.and_div_two_pow]
    congr 1 <;> omega
  have h2 : ((256*a+b) &&& (256*c+d)) % 256 = b &&& d := by
    have : (256:Nat) = 2^8 := rfl
    rw [this, Nat.and_mod_two_pow]
    congr 1 <;> omega
  rw [h1, h2]
def M (d : Nat) : Nat → Nat
  | 0 => 0
  | k+1 => 256 * M d k + d
def A (k x : Nat) : Nat := (x/2 &&& M 0x55 k) + (x &&& M 0x55 k)
def B (k x : Nat) : Nat := (A k x/4 &&& M 0x33 k) + (A k x &&& M 0x33 k)
def C (k x : Nat) : Nat := (B k x/16 + B k x) &&& M 0x0f k
def a8 (y : Nat) : Nat := (y/2 &&& 0x55) + (y &&& 0x55)
def b8 (y : Nat) : Nat := (a8 y/4 &&& 0x33) + (a8 y &&& 0x33)
def c8 (y : Nat) : Nat := (b8 y/16 + b8 y) &&& 0x0f
set_option maxRecDepth 100000
theorem M_succ (d k : Nat) : M d (k+1) = 256 * M d k + d := rfl
theorem dec1 : ∀ y : Fin 256, c8 y.1 = pc8 y.1 ∧ a8 y.1 < 256 ∧ b8 y.1 < 69 ∧ (128 + y.1/2) &&& 0x55 = y.1/2 &&& 0x55 ∧ pc8 y.1 ≤ 8 ∧ b8 y.1 % 16 ≤ 4 := by decide
theorem dec2 : ∀ j : Fin 4, ∀ y : Fin 256, (64*j.1 + y.1/4) &&& 0x33 = y.1/4 &&& 0x33 := by decide
theorem and15 (n : Nat) : n &&& 15 = n % 16 := Nat.and_two_pow_sub_one_eq_mod n 4
theorem A_step (k h y : Nat) (hy : y < 256) : A (k+1) (256*h+y) = 256 * A k h + a8 y := by
  unfold A a8
  rw [M_succ]
  have e : (256*h+y)/2 = 256*(h/2) + (128*(h%2) + y/2) := by omega
  rw [e, and_split _ _ _ _ (by omega) (by omega), and_split _ _ _ _ hy (by omega)]
  have e2 : (128*(h%2) + y/2) &&& 0x55 = y/2 &&& 0x55 := by
    rcases Nat.mod_two_eq_zero_or_one h with hh | hh
    · rw [hh]; simp
    · rw [hh]; exact (dec1 ⟨y, hy⟩).2.2.2.1
  rw [e2]; omega
theorem B_step (k h y : Nat) (hy : y < 256) : B (k+1) (256*h+y) = 256 * B k h + b8 y := by
  have ha : a8 y < 256 := (dec1 ⟨y, hy⟩).2.1
  unfold B b8
  rw [A_step k h y hy, M_succ]
  generalize A k h = a at *
  generalize a8 y = z at *
  have e : (256*a+z)/4 = 256*(a/4) + (64*(a%4) + z/4) := by omega
  rw [e, and_split _ _ _ _ (by omega) (by omega), and_split _ _ _ _ ha (by omega)]
  have e2 : (64*(a%4) + z/4) &&& 0x33 = z/4 &&& 0x33 := dec2 ⟨a%4, by omega⟩ ⟨z, ha⟩
  rw [e2]; omega
theorem B_nib (k h : Nat) : B k h % 16 ≤ 4 := by
  cases k with
  | zero => simp [B, A, M]
  | succ k =>
    have hh : h = 256*(h/256) + h%256 := by omega
    rw [hh, B_step k _ _ (by omega)]
    have := (dec1 ⟨h%256, by omega⟩).2.2.2.2.2
    simp only at this
    omega
theorem C_step (k h y : Nat) (hy : y < 256) : C (k+1) (256*h+y) = 256 * C k h + pc8 y := by
  have hb : b8 y < 69 := (dec1 ⟨y, hy⟩).2.2.1
  have hc : c8 y = pc8 y := (dec1 ⟨y, hy⟩).1
  have hn := B_nib k h
  rw [← hc]
  unfold C c8
  rw [B_step k h y hy, M_succ]
  generalize B k h = b at *
  generalize b8 y = z at *
  have e : (256*b+z)/16 + (256*b+z) = 256*(b/16+b) + (16*(b%16) + z/16 + z) := by omega
  rw [e, and_split _ _ _ _ (by omega) (by omega), and15, and15]
  omega
theorem C_step' (k x : Nat) : C (k+1) x = 256 * C k (x/256) + pc8 (x%256) := by
  have hh : x = 256*(x/256) + x%256 := by omega
  have := C_step k (x/256) (x%256) (by omega)
  rw [← hh] at this; exact this
theorem C_all (x : Nat) : ∃ c0 c1 c2 c3 c4 c5 c6 c7 : Nat, c0 = pc8 (x%256) ∧ c1 = pc8 (x/256%256) ∧ c2 = pc8 (x/256/256%256) ∧ c3 = pc8 (x/256/256/256%256) ∧ c4 = pc8 (x/256/256/256/256%256) ∧ c5 = pc8 (x/256/256/256/256/256%256) ∧ c6 = pc8 (x/256/256/256/256/256/256%256) ∧ c7 = pc8 (x/256/256/256/256/256/256/256%256) ∧ c0 ≤ 8 ∧ c1 ≤ 8 ∧ c2 ≤ 8 ∧ c3 ≤ 8 ∧ c4 ≤ 8 ∧ c5 ≤ 8 ∧ c6 ≤ 8 ∧ c7 ≤ 8 ∧ C 8 x = c0 + 256*c1 + 65536*c2 + 16777216*c3 + 4294967296*c4 + 1099511627776*c5 + 281474976710656*c6 + 72057594037927936*c7 := by
  have p : ∀ y, pc8 (y % 256) ≤ 8 := fun y => (dec1 ⟨y % 256, by omega⟩).2.2.2.2.1
  refine ⟨_, _, _, _, _, _, _, _, rfl, rfl, rfl, rfl, rfl, rfl, rfl, rfl, p _, p _, p _, p _, p _, p _, p _, p _, ?_⟩
  have z : ∀ x, C 0 x = 0 := fun x => by simp [C, M]
  rw [C_step', C_step', C_step', C_step', C_step', C_step', C_step', C_step', z]
  omega
theorem dv (m q r n : Nat) (hn : n = m*q+r) (h : r < m) : n/m = q := by
  rw [hn, Nat.mul_add_div (by omega), Nat.div_eq_of_lt h, Nat.add_zero]
theorem md (m q r n : Nat) (hn : n = m*q+r) (h : r < m) : n%m = r := by
  rw [hn, Nat.mul_add_mod, Nat.mod_eq_of_lt h]
theorem fold_ones (c c0 c1 c2 c3 c4 c5 c6 c7 : Nat) (h0 : c0 ≤ 8) (h1 : c1 ≤ 8) (h2 : c2 ≤ 8) (h3 : c3 ≤ 8) (h4 : c4 ≤ 8) (h5 : c5 ≤ 8) (h6 : c6 ≤ 8) (h7 : c7 ≤ 8)
    (h : c = c0 + 256*c1 + 65536*c2 + 16777216*c3 + 4294967296*c4 + 1099511627776*c5 + 281474976710656*c6 + 72057594037927936*c7) (d e f : Nat)
    (hd : d = c + c/256) (he : e = d + d/65536) (hf : f = e + e/4294967296) :
    f < 18446744073709551616 ∧ f % 128 = c0+c1+c2+c3+c4+c5+c6+c7 := by
  have e1 : c/256 = c1 + 256*c2 + 65536*c3 + 16777216*c4 + 4294967296*c5 + 1099511627776*c6 + 281474976710656*c7 := dv 256 _ c0 c (by omega) (by omega)
  rw [e1] at hd
  clear e1
  have e2 : d/65536 = (c2+c3) + 256*(c3+c4) + 65536*(c4+c5) + 16777216*(c5+c6) + 4294967296*(c6+c7) + 1099511627776*c7 := dv 65536 _ ((c0+c1) + 256*(c1+c2)) d (by omega) (by omega)
  rw [e2] at he
  clear e2
  have e3 : e/4294967296 = (c4+c5+c6+c7) + 256*(c5+c6+c7) + 65536*(c6+c7) + 16777216*c7 := dv 4294967296 _ ((c0+c1+c2+c3) + 256*(c1+c2+c3+c4) + 65536*(c2+c3+c4+c5) + 16777216*(c3+c4+c5+c6)) e (by omega) (by omega)
  rw [e3] at hf
  clear e3
  subst hd he h
  refine ⟨by omega, md 128 (2*(c1+c2+c3+c4+c5+c6+c7) + 512*(c2+c3+c4+c5+c6+c7) + 131072*(c3+c4+c5+c6+c7) + 33554432*(c4+c5+c6+c7) + 8589934592*(c5+c6+c7) + 2199023255552*(c6+c7) + 562949953421312*c7) _ f (by omega) (by omega)⟩
theorem cnt8 (x s : Nat) (n : Nat) : (List.range' s 8).countP (fun i => x.testBit i) = pc8 (x / 2^s % 256) := by
  have t : ∀ i, i < 8 → x.testBit (s+i) = (x / 2^s % 256).testBit i := by
    intro i hi
    have : (256:Nat) = 2^8 := rfl
    rw [this, Nat.testBit_mod_two_pow, Nat.testBit_div_two_pow]
    simp [hi, Nat.add_comm]
  have e : List.range' s 8 = [s+0, s+1, s+2, s+3, s+4, s+5, s+6, s+7] := by simp [List.range']
  rw [e]
  simp only [List.countP_cons, List.countP_nil]
  rw [t 0 (by omega), t 1 (by omega), t 2 (by omega), t 3 (by omega), t 4 (by omega), t 5 (by omega), t 6 (by omega), t 7 (by omega)]
  have hy : x / 2^s % 256 < 256 := by omega
  generalize x / 2^s % 256 = y at hy
  have : ∀ y : Fin 256, (0 + (if y.1.testBit 7 = true then 1 else 0) + (if y.1.testBit 6 = true then 1 else 0) + (if y.1.testBit 5 = true then 1 else 0) + (if y.1.testBit 4 = true then 1 else 0) + (if y.1.testBit 3 = true then 1 else 0) + (if y.1.testBit 2 = true then 1 else 0) + (if y.1.testBit 1 = true then 1 else 0) + (if y.1.testBit 0 = true then 1 else 0)) = pc8 y.1 := by decide
  exact this ⟨y, hy⟩
theorem pcN_eq (x : Nat) : pcN x = pc8 (x%256) + pc8 (x/256%256) + pc8 (x/256/256%256) + pc8 (x/256/256/256%256) + pc8 (x/256/256/256/256%256) + pc8 (x/256/256/256/256/256%256) + pc8 (x/256/256/256/256/256/256%256) + pc8 (x/256/256/256/256/256/256/256%256) := by
  have e : List.range 64 = List.range' 0 8 ++ (List.range' 8 8 ++ (List.range' 16 8 ++ (List.range' 24 8 ++ (List.range' 32 8 ++ (List.range' 40 8 ++ (List.range' 48 8 ++ List.range' 56 8)))))) := by decide
  unfold pcN
  rw [e]
  simp only [List.countP_append, cnt8 x _ 0, Nat.div_div_eq_div_mul]
  simp
  omega
/-- What the program's steps give at a whole number of 64 bits is its count of ones. -/
theorem ones_eq (x c d e f : Nat) (hc : c = C 8 x) (hd : d = c + c/256) (he : e = d + d/65536) (hf : f = e + e/4294967296) : f < 18446744073709551616 ∧ f % 128 = pcN x := by
  obtain ⟨c0, c1, c2, c3, c4, c5, c6, c7, g0, g1, g2, g3, g4, g5, g6, g7, l0, l1, l2, l3, l4, l5, l6, l7, hC⟩ := C_all x
  rw [hC] at hc
  obtain ⟨r1, r2⟩ := fold_ones c c0 c1 c2 c3 c4 c5 c6 c7 l0 l1 l2 l3 l4 l5 l6 l7 hc d e f hd he hf
  refine ⟨r1, ?_⟩
  rw [r2, pcN_eq, g0, g1, g2, g3, g4, g5, g6, g7]
end Go.Proofs.YtmcapemlfplcgaaDoor.On
/- math/bits.OnesCount64, set.Count. -/
namespace Go.Proofs.YtmcapemlfplcgaaDoor.H
open Go.RowKit Go.Proofs.YtmcapemlfplcgaaDoorW.PrintWords Go.Proofs.YtmcapemlfplcgaaDoorW.PrintLast Go.Proofs.YtmcapemlfplcgaaDoorW.PrintMore Go.Proofs.YtmcapemlfplcgaaDoor.TrM Go.Proofs.YtmcapemlfplcgaaDoor.AtM
set_option linter.unusedVariables false
set_option linter.unusedSimpArgs false
set_option maxRecDepth 100000
theorem and_un {a m : Nat} {x : Int} (hx : x = (a : Int)) (ha : a < 18446744073709551616) (hm : m < 18446744073709551616) : bits .and .u64 x (m : Int) = ((a &&& m : Nat) : Int) := by
  subst hx; exact u64_and_nat a m ha hm
theorem half_of {x : Int} {a : Nat} (k : Nat) (h : x = (a : Int)) : x / (k : Int) = ((a / k : Nat) : Int) := by
  subst h; exact (Int.natCast_ediv a k).symm
theorem wrap_of {x : Int} {a : Nat} (h : x = (a : Int)) (ha : a < 18446744073709551616) : IntKind.u64.wrap x = (a : Int) := by
  subst h; rw [IntKind.wrap_u64]; omega
theorem M55 : On.M 0x55 8 = 6148914691236517205 := by decide
theorem M33 : On.M 0x33 8 = 3689348814741910323 := by decide
theorem M0f : On.M 0x0f 8 = 1085102592571150095 := by decide
theorem ones_walk (x : Int) (hx : U64 x) (A B C D E F : Int)
    (hA : A = IntKind.u64.wrap (bits BinOp.and IntKind.u64 (x / 2) 6148914691236517205 + bits BinOp.and IntKind.u64 x 6148914691236517205))
    (hB : B = IntKind.u64.wrap (bits BinOp.and IntKind.u64 (A / 4) 3689348814741910323 + bits BinOp.and IntKind.u64 A 3689348814741910323))
    (hC : C = bits BinOp.and IntKind.u64 (IntKind.u64.wrap (B / 16 + B)) 1085102592571150095)
    (hD : D = IntKind.u64.wrap (C + C / 256)) (hE : E = IntKind.u64.wrap (D + D / 65536)) (hF : F = IntKind.u64.wrap (E + E / 4294967296)) :
    bits .and .i64 (wrap64 F) 127 = (pcS x : Int) := by
  obtain ⟨n, rfl⟩ : ∃ n : Nat, x = (n : Int) := ⟨x.toNat, by have := hx.1; omega⟩
  have hn : n < 18446744073709551616 := by have := hx.2; omega
  have le : ∀ a m : Nat, (a &&& m) ≤ m := fun a m => Nat.and_le_right
  have a1 : A = (On.A 8 n : Int) := by
    rw [hA]
    have e1 : bits .and .u64 ((n : Int) / 2) 6148914691236517205 = ((n/2 &&& 6148914691236517205 : Nat) : Int) := and_un (m := 6148914691236517205) (half_of 2 rfl) (by omega) (by omega)
    have e2 : bits .and .u64 (n : Int) 6148914691236517205 = ((n &&& 6148914691236517205 : Nat) : Int) := and_un (m := 6148914691236517205) rfl hn (by omega)
    have l1 := le (n/2) 6148914691236517205
    have l2 := le n 6148914691236517205
    unfold On.A; rw [M55]
    rw [e1, e2]
    exact wrap_of (Int.natCast_add _ _).symm (by omega)
  have la : On.A 8 n ≤ 12297829382473034410 := by
    have l1 := le (n/2) 6148914691236517205
    have l2 := le n 6148914691236517205
    unfold On.A; rw [M55]; omega
  have b1 : B = (On.B 8 n : Int) := by
    rw [hB, a1]
    have e1 : bits .and .u64 ((On.A 8 n : Int) / 4) 3689348814741910323 = ((On.A 8 n/4 &&& 3689348814741910323 : Nat) : Int) := and_un (m := 3689348814741910323) (half_of 4 rfl) (by omega) (by omega)
    have e2 : bits .and .u64 (On.A 8 n : Int) 3689348814741910323 = ((On.A 8 n &&& 3689348814741910323 : Nat) : Int) := and_un (m := 3689348814741910323) rfl (by omega) (by omega)
    have l1 := le (On.A 8 n/4) 3689348814741910323
    have l2 := le (On.A 8 n) 3689348814741910323
    unfold On.B; rw [M33]
    rw [e1, e2]
    exact wrap_of (Int.natCast_add _ _).symm (by omega)
  have lb : On.B 8 n ≤ 7378697629483820646 := by
    have l1 := le (On.A 8 n/4) 3689348814741910323
    have l2 := le (On.A 8 n) 3689348814741910323
    unfold On.B; rw [M33]; omega
  have c1 : C = (On.C 8 n : Int) := by
    rw [hC, b1]
    have w : IntKind.u64.wrap ((On.B 8 n : Int) / 16 + (On.B 8 n : Int)) = ((On.B 8 n / 16 + On.B 8 n : Nat) : Int) := wrap_of (by omega) (by omega)
    rw [w]
    have e := and_un (m := 1085102592571150095) (rfl : ((On.B 8 n / 16 + On.B 8 n : Nat) : Int) = _) (by omega) (by omega)
    unfold On.C; rw [M0f]; exact e
  have lc : On.C 8 n ≤ 1085102592571150095 := by unfold On.C; rw [M0f]; exact le _ _
  obtain ⟨d, hd⟩ : ∃ d, d = On.C 8 n + On.C 8 n / 256 := ⟨_, rfl⟩
  obtain ⟨e, he⟩ : ∃ e, e = d + d / 65536 := ⟨_, rfl⟩
  obtain ⟨f, hf⟩ : ∃ f, f = e + e / 4294967296 := ⟨_, rfl⟩
  obtain ⟨r1, r2⟩ := On.ones_eq n (On.C 8 n) d e f rfl hd he hf
  have d1 : D = (d : Int) := by rw [hD, c1]; exact wrap_of (by omega) (by omega)
  have ee1 : E = (e : Int) := by rw [hE, d1]; exact wrap_of (by omega) (by omega)
  have f1 : F = (f : Int) := by rw [hF, ee1]; exact wrap_of (by omega) (by omega)
  have lf : f < 4611686018427387904 := by omega
  have r3 : (pcS (n : Int) : Int) = ((f % 128 : Nat) : Int) := by rw [r2]; rfl
  rw [r3, f1, i64_and127]
  have w : wrap64 (f : Int) = (f : Int) := by unfold wrap64; omega
  rw [w]; omega
theorem ones_calls (x : Int) (W : World) (hx : U64 x) : Calls Tryd.prog 43 #[.int .u64 x] W fun e W' => e = .returned (.int .i64 (pcS x)) ∧ W = W' := by
  go_enter Tryd.func43, Tryd.ntmps43
  go_wp2
  go_ret
  refine ⟨?_, rfl⟩
  generalize hA : IntKind.u64.wrap (bits BinOp.and IntKind.u64 (x / 2) 6148914691236517205 + bits BinOp.and IntKind.u64 x 6148914691236517205) = A
  generalize hB : IntKind.u64.wrap (bits BinOp.and IntKind.u64 (A / 4) 3689348814741910323 + bits BinOp.and IntKind.u64 A 3689348814741910323) = B
  generalize hC : bits BinOp.and IntKind.u64 (IntKind.u64.wrap (B / 16 + B)) 1085102592571150095 = C
  generalize hD : IntKind.u64.wrap (C + C / 256) = D
  generalize hE : IntKind.u64.wrap (D + D / 65536) = E
  generalize hF : IntKind.u64.wrap (E + E / 4294967296) = F
  show Ending.returned (.int .i64 (bits .and .i64 (wrap64 F) 127)) = _
  have h := ones_walk x hx A B C D E F hA.symm hB.symm hC.symm hD.symm hE.symm hF.symm
  rw [h]
end Go.Proofs.YtmcapemlfplcgaaDoor.H
