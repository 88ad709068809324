/- Some texts of one seat in one file, in build order. -/
import Derived.Test.YtbicngaanhmabaaG1
import Derived.Shelf.SlSortCmp.KitK
import Derived.Test.YtbicngaanhmabaaG2
import Derived.Laws.BitsAllLaws
import Derived.Laws.Bits128
import Derived.Test.YtbicngaanhmabaaG4
/- Plain mathematics of the normal list: it has just the atoms that none beats, al sets stand. No program. -/
namespace Go.Proofs.Ytbicngaanhmabaa.AtM
open Go.Proofs.Ytbicngaanhmabaa.TrM

/-- Two lists that rise and have the same in them are one. -/
theorem rises_ext {α : Type} (lt : α → α → Prop) (irr : ∀ a, ¬ lt a a) (asym : ∀ a b, lt a b → ¬ lt b a) : ∀ (xs ys : List α), xs.Pairwise lt → ys.Pairwise lt → (∀ a, a ∈ xs ↔ a ∈ ys) → xs = ys := by
  intro xs
  induction xs with
  | nil =>
    intro ys _ _ h
    cases ys with
    | nil => rfl
    | cons y ys => have := (h y).2 (by simp); simp at this
  | cons x xs ih =>
    intro ys hx hy h
    cases ys with
    | nil => have := (h x).1 (by simp); simp at this
    | cons y ys =>
      obtain ⟨hx1, hx2⟩ := List.pairwise_cons.1 hx
      obtain ⟨hy1, hy2⟩ := List.pairwise_cons.1 hy
      have e : x = y := by
        rcases List.mem_cons.1 ((h x).1 (by simp)) with e | h1
        · exact e
        · rcases List.mem_cons.1 ((h y).2 (by simp)) with e | h2
          · exact e.symm
          · exact absurd (hx1 y h2) (asym _ _ (hy1 x h1))
      subst e
      congr 1
      refine ih ys hx2 hy2 (fun a => ⟨fun ha => ?_, fun ha => ?_⟩)
      · rcases List.mem_cons.1 ((h a).1 (List.mem_cons_of_mem _ ha)) with e | h1
        · subst e; exact absurd (hx1 a ha) (irr a)
        · exact h1
      · rcases List.mem_cons.1 ((h a).2 (List.mem_cons_of_mem _ ha)) with e | h1
        · subst e; exact absurd (hy1 a ha) (irr a)
        · exact h1
/-- It rises al sets stand. -/
def RisesS (xs : List At) : Prop := xs.Pairwise fun x y => ltS x.1 y.1 = true
theorem risesS_ext {xs ys : List At} (hx : RisesS xs) (hy : RisesS ys) (h : ∀ a, a ∈ xs ↔ a ∈ ys) : xs = ys :=
  rises_ext (fun x y : At => ltS x.1 y.1 = true) (fun a => by simp [ordS.irr]) (fun a b h => by rw [ordS.asym h]; simp) xs ys hx hy h
theorem insS_mem (x : At) : ∀ (xs : List At) (y : At), y ∈ insS x xs ↔ y = x ∨ y ∈ xs := by
  intro xs
  induction xs with
  | nil => intro y; simp [insS]
  | cons z zs ih =>
    intro y
    unfold insS
    split
    · simp
    · rw [List.mem_cons, ih, List.mem_cons]
      constructor
      · rintro (h | h | h)
        · exact .inr (.inl h)
        · exact .inl h
        · exact .inr (.inr h)
      · rintro (h | h | h)
        · exact .inr (.inl h)
        · exact .inl h
        · exact .inr (.inr h)
theorem sortS_mem (xs : List At) (y : At) : y ∈ sortS xs ↔ y ∈ xs := by
  unfold sortS
  induction xs with
  | nil => rfl
  | cons x xs ih => rw [List.foldr_cons, insS_mem, ih, List.mem_cons]
theorem insS_rises (x : At) : ∀ (xs : List At), RisesS xs → (∀ y ∈ xs, y.1 ≠ x.1) → RisesS (insS x xs) := by
  intro xs
  induction xs with
  | nil => intro _ _; simp [insS, RisesS]
  | cons z zs ih =>
    intro hr hne
    obtain ⟨h1, h2⟩ := List.pairwise_cons.1 hr
    unfold insS
    split
    · rename_i hlt
      refine List.pairwise_cons.2 ⟨fun y hy => ?_, hr⟩
      rcases List.mem_cons.1 hy with rfl | hy
      · exact hlt
      · exact ordS.trans _ _ _ hlt (h1 y hy)
    · rename_i hlt
      refine List.pairwise_cons.2 ⟨fun y hy => ?_, ih h2 (fun y hy => hne y (List.mem_cons_of_mem _ hy))⟩
      rcases (insS_mem x zs y).1 hy with rfl | hy
      · cases h : ltS z.1 y.1 with
        | true => rfl
        | false => exact absurd (ordS.tot _ _ h (by simpa using hlt)) (hne z (by simp))
      · exact h1 y hy
theorem sortS_rises : ∀ (xs : List At), xs.Pairwise (fun x y => x.1 ≠ y.1) → RisesS (sortS xs) := by
  intro xs
  induction xs with
  | nil => intro _; exact List.Pairwise.nil
  | cons x xs ih =>
    intro h
    obtain ⟨h1, h2⟩ := List.pairwise_cons.1 h
    exact insS_rises x _ (ih h2) (fun y hy => (h1 y ((sortS_mem xs y).1 hy)).symm)
/-- The greatest of its set. -/
def Top (R : List At) (y : At) : Prop := y ∈ R ∧ ∀ x ∈ R, x.1 = y.1 → x.2 ≤ y.2
theorem great1_inv {pre acc : List At} {x : At} (hx : 1 ≤ x.2) (hr : Rises ltN acc) (hm : ∀ y, y ∈ acc ↔ Top pre y) (h1 : ∀ y ∈ pre, 1 ≤ y.2) :
    Rises ltN (great1 acc x) ∧ ∀ y, y ∈ great1 acc x ↔ Top (pre ++ [x]) y := by
  refine ⟨ins_rises ordN _ _ _ hr, fun y => ?_⟩
  unfold great1
  rw [ins_mem ordN _ _ _ hr, hm]
  have hv : ∀ z ∈ pre, z.1 = x.1 → z.2 ≤ valOf x.1 acc := by
    intro z hz hzx
    unfold valOf
    have hpos := h1 z hz
    -- there is a top one of that set
    have key : ∀ (l : List At) (z : At), z ∈ l → ∃ t, Top l t ∧ t.1 = z.1 := by
      intro l
      induction l with
      | nil => intro z hz; simp at hz
      | cons a l ih =>
        intro z hz
        by_cases hq : ∃ w ∈ l, w.1 = z.1
        · obtain ⟨w, hw, hwz⟩ := hq
          obtain ⟨t, ⟨ht1, ht2⟩, ht3⟩ := ih w hw
          by_cases hb : a.1 = t.1 ∧ t.2 < a.2
          · refine ⟨a, ⟨by simp, fun u hu hua => ?_⟩, by rw [hb.1, ht3, hwz]⟩
            rcases List.mem_cons.1 hu with rfl | hu
            · exact Int.le_refl _
            · have := ht2 u hu (hua.trans hb.1); omega
          · refine ⟨t, ⟨List.mem_cons_of_mem _ ht1, fun u hu hut => ?_⟩, ht3.trans hwz⟩
            rcases List.mem_cons.1 hu with rfl | hu
            · have : ¬ (t.2 < u.2) := fun h => hb ⟨hut, h⟩
              omega
            · exact ht2 u hu hut
        · rcases List.mem_cons.1 hz with rfl | hz
          · refine ⟨z, ⟨by simp, fun u hu huz => ?_⟩, rfl⟩
            rcases List.mem_cons.1 hu with rfl | hu
            · exact Int.le_refl _
            · exact absurd ⟨u, hu, huz⟩ hq
          · exact absurd ⟨z, hz, rfl⟩ hq
    obtain ⟨t, ht, htz⟩ := key pre z hz
    have hg : getL ltN x.1 acc = some t := (get_mem ordN _ _ hr t).2 ⟨(hm t).2 ht, htz.trans hzx⟩
    rw [hg]
    exact ht.2 z hz htz.symm
  have hw : valOf x.1 acc = 0 ∨ ∃ t ∈ pre, t.1 = x.1 ∧ t.2 = valOf x.1 acc := by
    unfold valOf
    cases hg : getL ltN x.1 acc with
    | none => exact .inl rfl
    | some t =>
      obtain ⟨h3, h4⟩ := (get_mem ordN _ _ hr t).1 hg
      exact .inr ⟨t, ((hm t).1 h3).1, h4, rfl⟩
  constructor
  · rintro (rfl | ⟨⟨h3, h4⟩, h5⟩)
    · refine ⟨?_, fun z hz hzx => ?_⟩
      · rcases Int.le_total x.2 (valOf x.1 acc) with hle | hle
        · rcases hw with h0 | ⟨t, ht, ht1, ht2⟩
          · omega
          · rw [List.mem_append]
            left
            have : (x.1, max (valOf x.1 acc) x.2) = t := by
              obtain ⟨t1, t2⟩ := t
              simp only at ht1 ht2
              rw [ht1, ht2]
              congr 1
              omega
            rw [this]; exact ht
        · rw [List.mem_append]
          right
          rw [List.mem_singleton]
          obtain ⟨x1, x2⟩ := x
          simp only at hle ⊢
          congr 1
          omega
      · simp only at hzx ⊢
        rcases List.mem_append.1 hz with hz | hz
        · have := hv z hz hzx; omega
        · rw [List.mem_singleton] at hz; subst hz; omega
    · refine ⟨List.mem_append.2 (.inl h3), fun z hz hzy => ?_⟩
      rcases List.mem_append.1 hz with hz | hz
      · exact h4 z hz hzy
      · rw [List.mem_singleton] at hz; subst hz; exact absurd hzy.symm h5
  · rintro ⟨h3, h4⟩
    by_cases he : y.1 = x.1
    · left
      have hyx := h4 x (by simp) he.symm
      have hyv : valOf x.1 acc ≤ y.2 := by
        rcases hw with h0 | ⟨t, ht, ht1, ht2⟩
        · omega
        · rw [← ht2]; exact h4 t (List.mem_append.2 (.inl ht)) (ht1.trans he.symm)
      have hle : y.2 ≤ max (valOf x.1 acc) x.2 := by
        rcases List.mem_append.1 h3 with h5 | h5
        · have := hv y h5 he; omega
        · rw [List.mem_singleton] at h5; subst h5; omega
      obtain ⟨y1, y2⟩ := y
      simp only at he hyx hyv hle ⊢
      rw [he]
      congr 1
      omega
    · right
      refine ⟨⟨?_, fun z hz hzy => h4 z (List.mem_append.2 (.inl hz)) hzy⟩, he⟩
      rcases List.mem_append.1 h3 with h5 | h5
      · exact h5
      · rw [List.mem_singleton] at h5; subst h5; exact absurd rfl he
theorem great_fold : ∀ (xs pre acc : List At), (∀ x ∈ xs, 1 ≤ x.2) → (∀ x ∈ pre, 1 ≤ x.2) → Rises ltN acc → (∀ y, y ∈ acc ↔ Top pre y) →
    Rises ltN (xs.foldl great1 acc) ∧ ∀ y, y ∈ xs.foldl great1 acc ↔ Top (pre ++ xs) y := by
  intro xs
  induction xs with
  | nil => intro pre acc _ _ hr hm; exact ⟨hr, fun y => by rw [List.append_nil]; exact hm y⟩
  | cons x xs ih =>
    intro pre acc h1 h2 hr hm
    obtain ⟨q1, q2⟩ := great1_inv (h1 x (by simp)) hr hm h2
    have := ih (pre ++ [x]) (great1 acc x) (fun z hz => h1 z (List.mem_cons_of_mem _ hz)) (fun z hz => by
      rcases List.mem_append.1 hz with hz | hz
      · exact h2 z hz
      · rw [List.mem_singleton] at hz; subst hz; exact h1 _ (by simp)) q1 q2
    rw [List.append_assoc, List.singleton_append] at this
    exact this
theorem right_pos {al : List At} : ∀ x ∈ al.filter rightA, 1 ≤ x.2 := fun x hx => by
  have := (List.mem_filter.1 hx).2
  unfold rightA at this
  simp at this
  omega
theorem great_spec (al : List At) : Rises ltN (greatL al) ∧ ∀ y, y ∈ greatL al ↔ Top (al.filter rightA) y := by
  have h := great_fold (al.filter rightA) [] [] right_pos (fun x hx => by simp at hx) List.Pairwise.nil (fun y => ⟨fun h => by simp at h, fun h => by have := h.1; simp at this⟩)
  rw [List.nil_append] at h
  exact h
theorem rises_ne {xs : List At} (h : Rises ltN xs) : xs.Pairwise fun x y => x.1 ≠ y.1 :=
  h.imp (fun {a b} hab e => by rw [e, ordN.irr] at hab; cases hab)
/-- Beaten by none but itself. -/
def Und (L : List At) (y : At) : Prop := y ∈ L ∧ ∀ x ∈ L, wthB x.1 y.1 = true → y.2 ≤ x.2 → x = y
theorem und_ex {L : List At} (hu : ∀ x ∈ L, U64 x.1) (hd : ∀ x ∈ L, ∀ y ∈ L, x.1 = y.1 → x = y) : ∀ (n : Nat) (x : At), x ∈ L → pcS x.1 < n → ∃ y, Und L y ∧ wthB y.1 x.1 = true ∧ x.2 ≤ y.2 := by
  intro n
  induction n with
  | zero => intro x _ h; omega
  | succ n ih =>
    intro x hx hn
    by_cases h : ∃ z ∈ L, wthB z.1 x.1 = true ∧ x.2 ≤ z.2 ∧ z ≠ x
    · obtain ⟨z, hz, h1, h2, h3⟩ := h
      have hne : z.1 ≠ x.1 := fun e => h3 (hd z hz x hx e)
      have hlt := pc_lt (hu z hz) (hu x hx) h1 hne
      obtain ⟨y, hy, hy1, hy2⟩ := ih z hz (by omega)
      exact ⟨y, hy, wth_trans hy1 h1, by omega⟩
    · refine ⟨x, ⟨hx, fun z hz h1 h2 => ?_⟩, wth_refl _, Int.le_refl _⟩
      exact Classical.byContradiction fun h3 => h ⟨z, hz, h1, h2, h3⟩
theorem risesS_inj {L : List At} (h : RisesS L) : ∀ x ∈ L, ∀ y ∈ L, x.1 = y.1 → x = y := by
  induction L with
  | nil => intro x hx; simp at hx
  | cons a L ih =>
    obtain ⟨h1, h2⟩ := List.pairwise_cons.1 h
    intro x hx y hy e
    rcases List.mem_cons.1 hx with hxa | hx
    · rcases List.mem_cons.1 hy with hya | hy
      · rw [hxa, hya]
      · have := h1 y hy; rw [← hxa, e, ordS.irr] at this; cases this
    · rcases List.mem_cons.1 hy with hya | hy
      · have := h1 x hx; rw [← hya, e, ordS.irr] at this; cases this
      · exact ih h2 x hx y hy e
theorem norm_fold {L : List At} (hr : RisesS L) (hu : ∀ x ∈ L, U64 x.1) : ∀ (suf pre out : List At), L = pre ++ suf → (∀ y, y ∈ out ↔ (y ∈ pre ∧ Und L y)) → RisesS out →
    RisesS (suf.foldl norm1 out) ∧ ∀ y, y ∈ suf.foldl norm1 out ↔ Und L y := by
  have hd := risesS_inj hr
  intro suf
  induction suf with
  | nil =>
    intro pre out hL hm ho
    refine ⟨ho, fun y => ?_⟩
    rw [List.append_nil] at hL
    show y ∈ out ↔ _
    rw [hm, ← hL]
    exact ⟨fun h => h.2, fun h => ⟨h.1, h⟩⟩
  | cons a suf ih =>
    intro pre out hL hm ho
    have haL : a ∈ L := by rw [hL]; simp
    have hsplit := hr
    rw [hL] at hsplit
    obtain ⟨hp1, hp2, hp3⟩ := List.pairwise_append.1 hsplit
    obtain ⟨hp4, hp5⟩ := List.pairwise_cons.1 hp2
    -- what stands ahead of it
    have hahead : ∀ x ∈ L, ltS x.1 a.1 = true → x ∈ pre := by
      intro x hx hlt
      rw [hL] at hx
      rcases List.mem_append.1 hx with hx | hx
      · exact hx
      · rcases List.mem_cons.1 hx with rfl | hx
        · rw [ordS.irr] at hlt; cases hlt
        · have := hp4 x hx; rw [ordS.asym hlt] at this; cases this
    have hna : a ∉ pre := fun h => by have := hp3 a h a (by simp); rw [ordS.irr] at this; cases this
    have hbeat : beatB a out = true ↔ ¬ Und L a := by
      unfold beatB
      rw [List.any_eq_true]
      constructor
      · rintro ⟨b, hb, hb2⟩ hund
        simp only [Bool.and_eq_true, decide_eq_true_iff] at hb2
        obtain ⟨hb3, hb4⟩ := (hm b).1 hb
        have := hund.2 b hb4.1 hb2.1 hb2.2
        subst this
        exact hna hb3
      · intro hnu
        have : ∃ x ∈ L, wthB x.1 a.1 = true ∧ a.2 ≤ x.2 ∧ x ≠ a := Classical.byContradiction fun h => hnu ⟨haL, fun x hx h1 h2 => Classical.byContradiction fun h3 => h ⟨x, hx, h1, h2, h3⟩⟩
        obtain ⟨x, hx, h1, h2, h3⟩ := this
        have hne : x.1 ≠ a.1 := fun e => h3 (hd x hx a haL e)
        obtain ⟨y, hy, hy1, hy2⟩ := und_ex hu hd (pcS x.1 + 1) x hx (by omega)
        have hya : wthB y.1 a.1 = true := wth_trans hy1 h1
        have hyne : y.1 ≠ a.1 := fun e => by
          have h5 := pc_lt (hu x hx) (hu a haL) h1 hne
          by_cases h6 : y.1 = x.1
          · rw [← h6, e] at hne; exact hne rfl
          · have h7 := pc_lt (hu y hy.1) (hu x hx) hy1 h6
            rw [e] at h7; omega
        have hlt := wth_ltS (hu y hy.1) (hu a haL) hya hyne
        refine ⟨y, (hm y).2 ⟨hahead y hy.1 hlt, hy⟩, ?_⟩
        simp only [Bool.and_eq_true, decide_eq_true_iff]
        exact ⟨hya, by omega⟩
    rw [List.foldl_cons]
    have hL' : L = (pre ++ [a]) ++ suf := by rw [hL, List.append_assoc, List.singleton_append]
    by_cases hu2 : Und L a
    · have hb : ¬ beatB a out = true := fun h => hbeat.1 h hu2
      have e : norm1 out a = out ++ [a] := by unfold norm1; rw [if_neg hb]
      rw [e]
      refine ih (pre ++ [a]) (out ++ [a]) hL' (fun y => ?_) (List.pairwise_append.2 ⟨ho, by simp, fun x hx y hy => ?_⟩)
      · rw [List.mem_append, hm, List.mem_append, List.mem_singleton]
        constructor
        · rintro (⟨h1, h2⟩ | rfl)
          · exact ⟨.inl h1, h2⟩
          · exact ⟨.inr rfl, hu2⟩
        · rintro ⟨h1 | h1, h2⟩
          · exact .inl ⟨h1, h2⟩
          · exact .inr h1
      · rw [List.mem_singleton] at hy; subst hy
        exact hp3 x ((hm x).1 hx).1 _ (by simp)
    · have hb : beatB a out = true := hbeat.2 hu2
      have e : norm1 out a = out := by unfold norm1; rw [if_pos hb]
      rw [e]
      refine ih (pre ++ [a]) out hL' (fun y => ?_) ho
      rw [hm, List.mem_append, List.mem_singleton]
      constructor
      · rintro ⟨h1, h2⟩; exact ⟨.inl h1, h2⟩
      · rintro ⟨h1 | h1, h2⟩
        · exact ⟨h1, h2⟩
        · subst h1; exact absurd h2 hu2
/-- The greatest ones that none beats are the ones that none beats. -/
theorem und_top {R L : List At} (hL : ∀ y, y ∈ L ↔ Top R y) (hex : ∀ x ∈ R, ∃ t, Top R t ∧ t.1 = x.1) (y : At) : Und L y ↔ Und R y := by
  constructor
  · rintro ⟨h1, h2⟩
    have hy := (hL y).1 h1
    refine ⟨hy.1, fun x hx hw hv => ?_⟩
    obtain ⟨t, ht, htx⟩ := hex x hx
    have hle := ht.2 x hx htx.symm
    have e := h2 t ((hL t).2 ht) (by rw [htx]; exact hw) (by omega)
    subst e
    have := ht.2 x hx htx.symm
    obtain ⟨x1, x2⟩ := x; obtain ⟨t1, t2⟩ := t
    simp only at *
    rw [htx]; congr 1; omega
  · rintro ⟨h1, h2⟩
    refine ⟨(hL y).2 ⟨h1, fun x hx hxy => ?_⟩, fun x hx hw hv => h2 x ((hL x).1 hx).1 hw hv⟩
    rcases Int.le_total x.2 y.2 with h | h
    · exact h
    · have := h2 x hx (by rw [hxy]; exact wth_refl _) h
      rw [this]; exact Int.le_refl _
theorem top_ex : ∀ (l : List At) (z : At), z ∈ l → ∃ t, Top l t ∧ t.1 = z.1 := by
  intro l
  induction l with
  | nil => intro z hz; simp at hz
  | cons a l ih =>
    intro z hz
    by_cases hq : ∃ w ∈ l, w.1 = z.1
    · obtain ⟨w, hw, hwz⟩ := hq
      obtain ⟨t, ⟨ht1, ht2⟩, ht3⟩ := ih w hw
      by_cases hb : a.1 = t.1 ∧ t.2 < a.2
      · refine ⟨a, ⟨by simp, fun u hu hua => ?_⟩, by rw [hb.1, ht3, hwz]⟩
        rcases List.mem_cons.1 hu with rfl | hu
        · exact Int.le_refl _
        · have := ht2 u hu (hua.trans hb.1); omega
      · refine ⟨t, ⟨List.mem_cons_of_mem _ ht1, fun u hu hut => ?_⟩, ht3.trans hwz⟩
        rcases List.mem_cons.1 hu with rfl | hu
        · have : ¬ (t.2 < u.2) := fun h => hb ⟨hut, h⟩
          omega
        · exact ht2 u hu hut
    · rcases List.mem_cons.1 hz with rfl | hz
      · refine ⟨z, ⟨by simp, fun u hu huz => ?_⟩, rfl⟩
        rcases List.mem_cons.1 hu with rfl | hu
        · exact Int.le_refl _
        · exact absurd ⟨u, hu, huz⟩ hq
      · exact absurd ⟨z, hz, rfl⟩ hq
/-- **THE NORMAL LIST**: it rises, and has just the right atoms that none beats. -/
theorem norm_spec (al : List At) (hu : ∀ x ∈ al, U64 x.1) : RisesS (normL al) ∧ ∀ y, y ∈ normL al ↔ Und (al.filter rightA) y := by
  obtain ⟨g1, g2⟩ := great_spec al
  have hs : RisesS (sortS (greatL al)) := sortS_rises _ (rises_ne g1)
  have hLm : ∀ y, y ∈ sortS (greatL al) ↔ Top (al.filter rightA) y := fun y => (sortS_mem _ y).trans (g2 y)
  have huL : ∀ x ∈ sortS (greatL al), U64 x.1 := fun x hx => hu x (List.mem_filter.1 ((hLm x).1 hx).1).1
  obtain ⟨n1, n2⟩ := norm_fold hs huL (sortS (greatL al)) [] [] rfl (fun y => by simp) List.Pairwise.nil
  exact ⟨n1, fun y => (n2 y).trans (und_top hLm (top_ex _) y)⟩
end Go.Proofs.Ytbicngaanhmabaa.AtM
/- set.Cmp's order is a strict weak order. -/
namespace Go.Proofs.Ytbicngaanhmabaa.Sw
open Go Go.Proofs Go.Shelf Go.Sort Go.Proofs.Ytbicngaanhmabaa.TrM Go.Proofs.Ytbicngaanhmabaa.AtM
theorem ltOf_cmpS (x y : Int × Int) : ltOf (fun x y : Int × Int => cmpS x.1 y.1) x y = decide (pcS x.1 < pcS y.1 ∨ (pcS x.1 = pcS y.1 ∧ x.1 < y.1)) := by
  have h : (cmpS x.1 y.1 < 0) ↔ (pcS x.1 < pcS y.1 ∨ (pcS x.1 = pcS y.1 ∧ x.1 < y.1)) := by
    unfold cmpS; repeat' split
    all_goals omega
  unfold ltOf
  simp only [h]
theorem swoS : SWO (ltOf fun x y : Int × Int => cmpS x.1 y.1) where
  irrefl x := by rw [ltOf_cmpS]; simp
  trans x y z h1 h2 := by rw [ltOf_cmpS] at *; simp only [decide_eq_true_eq] at *; omega
  ntrans x y z h1 h2 := by rw [ltOf_cmpS] at *; simp only [decide_eq_false_iff_not] at *; omega
end Go.Proofs.Ytbicngaanhmabaa.Sw
/- math/bits.OnesCount64: the plain law of the count, byte by byte. No program. -/
namespace Go.Proofs.Ytbicngaanhmabaa.On
set_option linter.unusedVariables false
set_option linter.unusedSimpArgs false
open Go.Proofs.Ytbicngaanhmabaa.TrM Go.Proofs.Ytbicngaanhmabaa.AtM
def pc8 (y : Nat) : Nat := y%2 + y/2%2 + y/4%2 + y/8%2 + y/16%2 + y/32%2 + y/64%2 + y/128%2
theorem and_split (a b c d : Nat) (hb : b < 256) (hd : d < 256) : (256*a+b) &&& (256*c+d) = 256*(a &&& c) + (b &&& d) := by
  have h : (256*a+b) &&& (256*c+d) = 256*(((256*a+b) &&& (256*c+d))/256) + ((256*a+b) &&& (256*c+d)) % 256 := by omega
  rw [h]
  have h1 : ((256*a+b) &&& (256*c+d))/256 = a &&& c := by
    have : (256:Nat) = 2^8 := rfl
    rw [this, Nat.and_div_two_pow]
    congr 1 <;> omega
  have h2 : ((256*a+b) &&& (256*c+d)) % 256 = b &&& d := by
    have : (256:Nat) = 2^8 := rfl
    rw [this, Nat.and_mod_two_pow]
    congr 1 <;> omega
  rw [h1, h2]
def M (d : Nat) : Nat → Nat
  | 0 => 0
  | k+1 => 256 * M d k + d
def A (k x : Nat) : Nat := (x/2 &&& M 0x55 k) + (x &&& M 0x55 k)
def B (k x : Nat) : Nat := (A k x/4 &&& M 0x33 k) + (A k x &&& M 0x33 k)
def C (k x : Nat) : Nat := (B k x/16 + B k x) &&& M 0x0f k
def a8 (y : Nat) : Nat := (y/2 &&& 0x55) + (y &&& 0x55)
def b8 (y : Nat) : Nat := (a8 y/4 &&& 0x33) + (a8 y &&& 0x33)
def c8 (y : Nat) : Nat := (b8 y/16 + b8 y) &&& 0x0f
set_option maxRecDepth 100000
theorem M_succ (d k : Nat) : M d (k+1) = 256 * M d k + d := rfl
theorem dec1 : ∀ y : Fin 256, c8 y.1 = pc8 y.1 ∧ a8 y.1 < 256 ∧ b8 y.1 < 69 ∧ (128 + y.1/2) &&& 0x55 = y.1/2 &&& 0x55 ∧ pc8 y.1 ≤ 8 ∧ b8 y.1 % 16 ≤ 4 := by decide
theorem dec2 : ∀ j : Fin 4, ∀ y : Fin 256, (64*j.1 + y.1/4) &&& 0x33 = y.1/4 &&& 0x33 := by decide
theorem and15 (n : Nat) : n &&& 15 = n % 16 := Nat.and_two_pow_sub_one_eq_mod n 4
theorem A_step (k h y : Nat) (hy : y < 256) : A (k+1) (256*h+y) = 256 * A k h + a8 y := by
  unfold A a8
  rw [M_succ]
  have e : (256*h+y)/2 = 256*(h/2) + (128*(h%2) + y/2) := by omega
  rw [e, and_split _ _ _ _ (by omega) (by omega), and_split _ _ _ _ hy (by omega)]
  have e2 : (128*(h%2) + y/2) &&& 0x55 = y/2 &&& 0x55 := by
    rcases Nat.mod_two_eq_zero_or_one h with hh | hh
    · rw [hh]; simp
    · rw [hh]; exact (dec1 ⟨y, hy⟩).2.2.2.1
  rw [e2]; omega
theorem B_step (k h y : Nat) (hy : y < 256) : B (k+1) (256*h+y) = 256 * B k h + b8 y := by
  have ha : a8 y < 256 := (dec1 ⟨y, hy⟩).2.1
  unfold B b8
  rw [A_step k h y hy, M_succ]
  generalize A k h = a at *
  generalize a8 y = z at *
  have e : (256*a+z)/4 = 256*(a/4) + (64*(a%4) + z/4) := by omega
  rw [e, and_split _ _ _ _ (by omega) (by omega), and_split _ _ _ _ ha (by omega)]
  have e2 : (64*(a%4) + z/4) &&& 0x33 = z/4 &&& 0x33 := dec2 ⟨a%4, by omega⟩ ⟨z, ha⟩
  rw [e2]; omega
theorem B_nib (k h : Nat) : B k h % 16 ≤ 4 := by
  cases k with
  | zero => simp [B, A, M]
  | succ k =>
    have hh : h = 256*(h/256) + h%256 := by omega
    rw [hh, B_step k _ _ (by omega)]
    have := (dec1 ⟨h%256, by omega⟩).2.2.2.2.2
    simp only at this
    omega
theorem C_step (k h y : Nat) (hy : y < 256) : C (k+1) (256*h+y) = 256 * C k h + pc8 y := by
  have hb : b8 y < 69 := (dec1 ⟨y, hy⟩).2.2.1
  have hc : c8 y = pc8 y := (dec1 ⟨y, hy⟩).1
  have hn := B_nib k h
  rw [← hc]
  unfold C c8
  rw [B_step k h y hy, M_succ]
  generalize B k h = b at *
  generalize b8 y = z at *
  have e : (256*b+z)/16 + (256*b+z) = 256*(b/16+b) + (16*(b%16) + z/16 + z) := by omega
  rw [e, and_split _ _ _ _ (by omega) (by omega), and15, and15]
  omega
theorem C_step' (k x : Nat) : C (k+1) x = 256 * C k (x/256) + pc8 (x%256) := by
  have hh : x = 256*(x/256) + x%256 := by omega
  have := C_step k (x/256) (x%256) (by omega)
  rw [← hh] at this; exact this
theorem C_all (x : Nat) : ∃ c0 c1 c2 c3 c4 c5 c6 c7 : Nat, c0 = pc8 (x%256) ∧ c1 = pc8 (x/256%256) ∧ c2 = pc8 (x/256/256%256) ∧ c3 = pc8 (x/256/256/256%256) ∧ c4 = pc8 (x/256/256/256/256%256) ∧ c5 = pc8 (x/256/256/256/256/256%256) ∧ c6 = pc8 (x/256/256/256/256/256/256%256) ∧ c7 = pc8 (x/256/256/256/256/256/256/256%256) ∧ c0 ≤ 8 ∧ c1 ≤ 8 ∧ c2 ≤ 8 ∧ c3 ≤ 8 ∧ c4 ≤ 8 ∧ c5 ≤ 8 ∧ c6 ≤ 8 ∧ c7 ≤ 8 ∧ C 8 x = c0 + 256*c1 + 65536*c2 + 16777216*c3 + 4294967296*c4 + 1099511627776*c5 + 281474976710656*c6 + 72057594037927936*c7 := by
  have p : ∀ y, pc8 (y % 256) ≤ 8 := fun y => (dec1 ⟨y % 256, by omega⟩).2.2.2.2.1
  refine ⟨_, _, _, _, _, _, _, _, rfl, rfl, rfl, rfl, rfl, rfl, rfl, rfl, p _, p _, p _, p _, p _, p _, p _, p _, ?_⟩
  have z : ∀ x, C 0 x = 0 := fun x => by simp [C, M]
  rw [C_step', C_step', C_step', C_step', C_step', C_step', C_step', C_step', z]
  omega
theorem dv (m q r n : Nat) (hn : n = m*q+r) (h : r < m) : n/m = q := by
  rw [hn, Nat.mul_add_div (by omega), Nat.div_eq_of_lt h, Nat.add_zero]
theorem md (m q r n : Nat) (hn : n = m*q+r) (h : r < m) : n%m = r := by
  rw [hn, Nat.mul_add_mod, Nat.mod_eq_of_lt h]
theorem fold_ones (c c0 c1 c2 c3 c4 c5 c6 c7 : Nat) (h0 : c0 ≤ 8) (h1 : c1 ≤ 8) (h2 : c2 ≤ 8) (h3 : c3 ≤ 8) (h4 : c4 ≤ 8) (h5 : c5 ≤ 8) (h6 : c6 ≤ 8) (h7 : c7 ≤ 8)
    (h : c = c0 + 256*c1 + 65536*c2 + 16777216*c3 + 4294967296*c4 + 1099511627776*c5 + 281474976710656*c6 + 72057594037927936*c7) (d e f : Nat)
    (hd : d = c + c/256) (he : e = d + d/65536) (hf : f = e + e/4294967296) :
    f < 18446744073709551616 ∧ f % 128 = c0+c1+c2+c3+c4+c5+c6+c7 := by
  have e1 : c/256 = c1 + 256*c2 + 65536*c3 + 16777216*c4 + 4294967296*c5 + 1099511627776*c6 + 281474976710656*c7 := dv 256 _ c0 c (by omega) (by omega)
  rw [e1] at hd
  clear e1
  have e2 : d/65536 = (c2+c3) + 256*(c3+c4) + 65536*(c4+c5) + 16777216*(c5+c6) + 4294967296*(c6+c7) + 1099511627776*c7 := dv 65536 _ ((c0+c1) + 256*(c1+c2)) d (by omega) (by omega)
  rw [e2] at he
  clear e2
  have e3 : e/4294967296 = (c4+c5+c6+c7) + 256*(c5+c6+c7) + 65536*(c6+c7) + 16777216*c7 := dv 4294967296 _ ((c0+c1+c2+c3) + 256*(c1+c2+c3+c4) + 65536*(c2+c3+c4+c5) + 16777216*(c3+c4+c5+c6)) e (by omega) (by omega)
  rw [e3] at hf
  clear e3
  subst hd he h
  refine ⟨by omega, md 128 (2*(c1+c2+c3+c4+c5+c6+c7) + 512*(c2+c3+c4+c5+c6+c7) + 131072*(c3+c4+c5+c6+c7) + 33554432*(c4+c5+c6+c7) + 8589934592*(c5+c6+c7) + 2199023255552*(c6+c7) + 562949953421312*c7) _ f (by omega) (by omega)⟩
theorem cnt8 (x s : Nat) (n : Nat) : (List.range' s 8).countP (fun i => x.testBit i) = pc8 (x / 2^s % 256) := by
  have t : ∀ i, i < 8 → x.testBit (s+i) = (x / 2^s % 256).testBit i := by
    intro i hi
    have : (256:Nat) = 2^8 := rfl
    rw [this, Nat.testBit_mod_two_pow, Nat.testBit_div_two_pow]
    simp [hi, Nat.add_comm]
  have e : List.range' s 8 = [s+0, s+1, s+2, s+3, s+4, s+5, s+6, s+7] := by simp [List.range']
  rw [e]
  simp only [List.countP_cons, List.countP_nil]
  rw [t 0 (by omega), t 1 (by omega), t 2 (by omega), t 3 (by omega), t 4 (by omega), t 5 (by omega), t 6 (by omega), t 7 (by omega)]
  have hy : x / 2^s % 256 < 256 := by omega
  generalize x / 2^s % 256 = y at hy
  have : ∀ y : Fin 256, (0 + (if y.1.testBit 7 = true then 1 else 0) + (if y.1.testBit 6 = true then 1 else 0) + (if y.1.testBit 5 = true then 1 else 0) + (if y.1.testBit 4 = true then 1 else 0) + (if y.1.testBit 3 = true then 1 else 0) + (if y.1.testBit 2 = true then 1 else 0) + (if y.1.testBit 1 = true then 1 else 0) + (if y.1.testBit 0 = true then 1 else 0)) = pc8 y.1 := by decide
  exact this ⟨y, hy⟩
theorem pcN_eq (x : Nat) : pcN x = pc8 (x%256) + pc8 (x/256%256) + pc8 (x/256/256%256) + pc8 (x/256/256/256%256) + pc8 (x/256/256/256/256%256) + pc8 (x/256/256/256/256/256%256) + pc8 (x/256/256/256/256/256/256%256) + pc8 (x/256/256/256/256/256/256/256%256) := by
  have e : List.range 64 = List.range' 0 8 ++ (List.range' 8 8 ++ (List.range' 16 8 ++ (List.range' 24 8 ++ (List.range' 32 8 ++ (List.range' 40 8 ++ (List.range' 48 8 ++ List.range' 56 8)))))) := by decide
  unfold pcN
  rw [e]
  simp only [List.countP_append, cnt8 x _ 0, Nat.div_div_eq_div_mul]
  simp
  omega
/-- What the program's steps give at a whole number of 64 bits is its count of ones. -/
theorem ones_eq (x c d e f : Nat) (hc : c = C 8 x) (hd : d = c + c/256) (he : e = d + d/65536) (hf : f = e + e/4294967296) : f < 18446744073709551616 ∧ f % 128 = pcN x := by
  obtain ⟨c0, c1, c2, c3, c4, c5, c6, c7, g0, g1, g2, g3, g4, g5, g6, g7, l0, l1, l2, l3, l4, l5, l6, l7, hC⟩ := C_all x
  rw [hC] at hc
  obtain ⟨r1, r2⟩ := fold_ones c c0 c1 c2 c3 c4 c5 c6 c7 l0 l1 l2 l3 l4 l5 l6 l7 hc d e f hd he hf
  refine ⟨r1, ?_⟩
  rw [r2, pcN_eq, g0, g1, g2, g3, g4, g5, g6, g7]
end Go.Proofs.Ytbicngaanhmabaa.On
/- math/bits.OnesCount64, set.Count. -/
namespace Go.Proofs.Ytbicngaanhmabaa.H
open Go.RowKit Go.Proofs.YtbicngaanhmabaaW.PrintWords Go.Proofs.YtbicngaanhmabaaW.PrintLast Go.Proofs.YtbicngaanhmabaaW.PrintMore Go.Proofs.Ytbicngaanhmabaa.TrM Go.Proofs.Ytbicngaanhmabaa.AtM
set_option linter.unusedVariables false
set_option linter.unusedSimpArgs false
set_option maxRecDepth 100000
theorem and_un {a m : Nat} {x : Int} (hx : x = (a : Int)) (ha : a < 18446744073709551616) (hm : m < 18446744073709551616) : bits .and .u64 x (m : Int) = ((a &&& m : Nat) : Int) := by
  subst hx; exact u64_and_nat a m ha hm
theorem half_of {x : Int} {a : Nat} (k : Nat) (h : x = (a : Int)) : x / (k : Int) = ((a / k : Nat) : Int) := by
  subst h; exact (Int.natCast_ediv a k).symm
theorem wrap_of {x : Int} {a : Nat} (h : x = (a : Int)) (ha : a < 18446744073709551616) : IntKind.u64.wrap x = (a : Int) := by
  subst h; rw [IntKind.wrap_u64]; omega
theorem M55 : On.M 0x55 8 = 6148914691236517205 := by decide
theorem M33 : On.M 0x33 8 = 3689348814741910323 := by decide
theorem M0f : On.M 0x0f 8 = 1085102592571150095 := by decide
theorem ones_walk (x : Int) (hx : U64 x) (A B C D E F : Int)
    (hA : A = IntKind.u64.wrap (bits BinOp.and IntKind.u64 (x / 2) 6148914691236517205 + bits BinOp.and IntKind.u64 x 6148914691236517205))
    (hB : B = IntKind.u64.wrap (bits BinOp.and IntKind.u64 (A / 4) 3689348814741910323 + bits BinOp.and IntKind.u64 A 3689348814741910323))
    (hC : C = bits BinOp.and IntKind.u64 (IntKind.u64.wrap (B / 16 + B)) 1085102592571150095)
    (hD : D = IntKind.u64.wrap (C + C / 256)) (hE : E = IntKind.u64.wrap (D + D / 65536)) (hF : F = IntKind.u64.wrap (E + E / 4294967296)) :
    bits .and .i64 (wrap64 F) 127 = (pcS x : Int) := by
  obtain ⟨n, rfl⟩ : ∃ n : Nat, x = (n : Int) := ⟨x.toNat, by have := hx.1; omega⟩
  have hn : n < 18446744073709551616 := by have := hx.2; omega
  have le : ∀ a m : Nat, (a &&& m) ≤ m := fun a m => Nat.and_le_right
  have a1 : A = (On.A 8 n : Int) := by
    rw [hA]
    have e1 : bits .and .u64 ((n : Int) / 2) 6148914691236517205 = ((n/2 &&& 6148914691236517205 : Nat) : Int) := and_un (m := 6148914691236517205) (half_of 2 rfl) (by omega) (by omega)
    have e2 : bits .and .u64 (n : Int) 6148914691236517205 = ((n &&& 6148914691236517205 : Nat) : Int) := and_un (m := 6148914691236517205) rfl hn (by omega)
    have l1 := le (n/2) 6148914691236517205
    have l2 := le n 6148914691236517205
    unfold On.A; rw [M55]
    rw [e1, e2]
    exact wrap_of (Int.natCast_add _ _).symm (by omega)
  have la : On.A 8 n ≤ 12297829382473034410 := by
    have l1 := le (n/2) 6148914691236517205
    have l2 := le n 6148914691236517205
    unfold On.A; rw [M55]; omega
  have b1 : B = (On.B 8 n : Int) := by
    rw [hB, a1]
    have e1 : bits .and .u64 ((On.A 8 n : Int) / 4) 3689348814741910323 = ((On.A 8 n/4 &&& 3689348814741910323 : Nat) : Int) := and_un (m := 3689348814741910323) (half_of 4 rfl) (by omega) (by omega)
    have e2 : bits .and .u64 (On.A 8 n : Int) 3689348814741910323 = ((On.A 8 n &&& 3689348814741910323 : Nat) : Int) := and_un (m := 3689348814741910323) rfl (by omega) (by omega)
    have l1 := le (On.A 8 n/4) 3689348814741910323
    have l2 := le (On.A 8 n) 3689348814741910323
    unfold On.B; rw [M33]
    rw [e1, e2]
    exact wrap_of (Int.natCast_add _ _).symm (by omega)
  have lb : On.B 8 n ≤ 7378697629483820646 := by
    have l1 := le (On.A 8 n/4) 3689348814741910323
    have l2 := le (On.A 8 n) 3689348814741910323
    unfold On.B; rw [M33]; omega
  have c1 : C = (On.C 8 n : Int) := by
    rw [hC, b1]
    have w : IntKind.u64.wrap ((On.B 8 n : Int) / 16 + (On.B 8 n : Int)) = ((On.B 8 n / 16 + On.B 8 n : Nat) : Int) := wrap_of (by omega) (by omega)
    rw [w]
    have e := and_un (m := 1085102592571150095) (rfl : ((On.B 8 n / 16 + On.B 8 n : Nat) : Int) = _) (by omega) (by omega)
    unfold On.C; rw [M0f]; exact e
  have lc : On.C 8 n ≤ 1085102592571150095 := by unfold On.C; rw [M0f]; exact le _ _
  obtain ⟨d, hd⟩ : ∃ d, d = On.C 8 n + On.C 8 n / 256 := ⟨_, rfl⟩
  obtain ⟨e, he⟩ : ∃ e, e = d + d / 65536 := ⟨_, rfl⟩
  obtain ⟨f, hf⟩ : ∃ f, f = e + e / 4294967296 := ⟨_, rfl⟩
  obtain ⟨r1, r2⟩ := On.ones_eq n (On.C 8 n) d e f rfl hd he hf
  have d1 : D = (d : Int) := by rw [hD, c1]; exact wrap_of (by omega) (by omega)
  have ee1 : E = (e : Int) := by rw [hE, d1]; exact wrap_of (by omega) (by omega)
  have f1 : F = (f : Int) := by rw [hF, ee1]; exact wrap_of (by omega) (by omega)
  have lf : f < 4611686018427387904 := by omega
  have r3 : (pcS (n : Int) : Int) = ((f % 128 : Nat) : Int) := by rw [r2]; rfl
  rw [r3, f1, i64_and127]
  have w : wrap64 (f : Int) = (f : Int) := by unfold wrap64; omega
  rw [w]; omega
theorem ones_calls (x : Int) (W : World) (hx : U64 x) : Calls Try.prog 65 #[.int .u64 x] W fun e W' => e = .returned (.int .i64 (pcS x)) ∧ W = W' := by
  go_enter Try.func65, Try.ntmps65
  go_wp2
  go_ret
  refine ⟨?_, rfl⟩
  generalize hA : IntKind.u64.wrap (bits BinOp.and IntKind.u64 (x / 2) 6148914691236517205 + bits BinOp.and IntKind.u64 x 6148914691236517205) = A
  generalize hB : IntKind.u64.wrap (bits BinOp.and IntKind.u64 (A / 4) 3689348814741910323 + bits BinOp.and IntKind.u64 A 3689348814741910323) = B
  generalize hC : bits BinOp.and IntKind.u64 (IntKind.u64.wrap (B / 16 + B)) 1085102592571150095 = C
  generalize hD : IntKind.u64.wrap (C + C / 256) = D
  generalize hE : IntKind.u64.wrap (D + D / 65536) = E
  generalize hF : IntKind.u64.wrap (E + E / 4294967296) = F
  show Ending.returned (.int .i64 (bits .and .i64 (wrap64 F) 127)) = _
  have h := ones_walk x hx A B C D E F hA.symm hB.symm hC.symm hD.symm hE.symm hF.symm
  rw [h]
end Go.Proofs.Ytbicngaanhmabaa.H
/- cmp.Compare[int], set.Count. -/
namespace Go.Proofs.Ytbicngaanhmabaa.H
open Go.RowKit Go.Proofs.YtbicngaanhmabaaW.PrintWords Go.Proofs.YtbicngaanhmabaaW.PrintLast Go.Proofs.YtbicngaanhmabaaW.PrintMore Go.Proofs.Ytbicngaanhmabaa.TrM Go.Proofs.Ytbicngaanhmabaa.AtM
set_option linter.unusedVariables false
set_option linter.unusedSimpArgs false
set_option maxRecDepth 100000
theorem isNaN_int (x : Int) (W : World) : Calls Try.prog 64 #[.int .i64 x] W fun e W' => e = .returned (.bool false) ∧ W = W' := by
  go_enter Try.func64, Try.ntmps64
  go_wp2
  go_ret
  simp
theorem cmp_int (x y : Int) (W : World) : Calls Try.prog 48 #[.int .i64 x, .int .i64 y] W fun e W' => e = .returned (.int .i64 (cmpN x y)) ∧ W = W' := by
  by_cases c1 : x < y
  · have e : cmpN x y = -1 := by unfold cmpN; rw [if_pos c1]
    rw [e]
    have b0 : decide (x < y) = true := decide_eq_true c1
    clear c1 e
    go_enter Try.func48, Try.ntmps48
    go_wp2_with (go_at_call 64; refine (isNaN_int _ _).mono ?_; rintro e w' ⟨rfl, rfl⟩)
    go_ret
    exact ⟨rfl, rfl⟩
  · by_cases c2 : y < x
    · have e : cmpN x y = 1 := by unfold cmpN; rw [if_neg c1, if_pos c2]
      rw [e]
      have b0 : decide (x < y) = false := decide_eq_false c1
      have b1 : decide (y < x) = true := decide_eq_true c2
      clear c1 c2 e
      go_enter Try.func48, Try.ntmps48
      go_wp2_with (go_at_call 64; refine (isNaN_int _ _).mono ?_; rintro e w' ⟨rfl, rfl⟩)
      go_ret
      exact ⟨rfl, rfl⟩
    · have e : cmpN x y = 0 := by unfold cmpN; rw [if_neg c1, if_neg c2]
      rw [e]
      have b0 : decide (x < y) = false := decide_eq_false c1
      have b1 : decide (y < x) = false := decide_eq_false c2
      clear c1 c2 e
      go_enter Try.func48, Try.ntmps48
      go_wp2_with (go_at_call 64; refine (isNaN_int _ _).mono ?_; rintro e w' ⟨rfl, rfl⟩)
      go_ret
      exact ⟨rfl, rfl⟩
theorem Count_calls (x : Int) (W : World) (hx : U64 x) : Calls Try.prog 49 #[.int .u64 x] W fun e W' => e = .returned (.int .i64 (pcS x)) ∧ W = W' := by
  go_enter Try.func49, Try.ntmps49
  go_wp2_with (go_at_call 65; refine (ones_calls _ _ hx).mono ?_; rintro e w' ⟨rfl, rfl⟩)
  go_ret
  exact ⟨rfl, rfl⟩
end Go.Proofs.Ytbicngaanhmabaa.H
/- cmp.Or[int], set.Cmp. -/
namespace Go.Proofs.Ytbicngaanhmabaa.H
open Go.RowKit Go.Proofs.YtbicngaanhmabaaW.PrintWords Go.Proofs.YtbicngaanhmabaaW.PrintLast Go.Proofs.YtbicngaanhmabaaW.PrintMore Go.Proofs.Ytbicngaanhmabaa.TrM Go.Proofs.Ytbicngaanhmabaa.AtM
set_option linter.unusedVariables false
set_option linter.unusedSimpArgs false
set_option maxRecDepth 100000
theorem Or_calls (p q : Int) (b : Nat) (W : World) (r0 : W.cell? { block := b, off := 0 } = some (.int .i64 p)) (r1 : W.cell? { block := b, off := 1 } = some (.int .i64 q)) : Calls Try.prog 47 #[.slice (some { block := b, off := 0 }) 2 2] W fun e W' => e = .returned (.int .i64 (if p = 0 then q else p)) ∧ W = W' := by
  go_enter Try.func47, Try.ntmps47
  go_wp2
  go_loop [8] (fun i => ∃ k : Int, 0 ≤ k ∧ k ≤ 2 ∧ i = .int .i64 k ∧ (1 ≤ k → p = 0) ∧ (2 ≤ k → q = 0)) (fun i => 2 - (intOf i).toNat)
  case atStart => exact ⟨0, by omega, by omega, rfl, by omega, by omega⟩
  case round =>
    obtain ⟨k, h1, h2, rfl, h3, h4⟩ := hrel
    rcases (by omega : k = 0 ∨ k = 1 ∨ k = 2) with rfl | rfl | rfl
    · by_cases c : p = 0
      · have b2 : (p != 0) = false := by simp [c]
        have HC := Lib.hid c
        clear c h3 h4
        go_wp2
        go_round
        case rel => exact ⟨1, by omega, by omega, rfl, fun _ => HC.out, by omega⟩
        case measure => simp [intOf]
      · have b2 : (p != 0) = true := by simp [c]
        have HC := Lib.hid c
        clear c h3 h4
        go_wp2
        go_ret
        exact ⟨by have h := HC.out; simp [h], rfl⟩
    · have HP := Lib.hid (h3 (by omega))
      by_cases c : q = 0
      · have b2 : (q != 0) = false := by simp [c]
        have HC := Lib.hid c
        clear c h3 h4
        go_wp2
        go_round
        case rel => exact ⟨2, by omega, by omega, rfl, fun _ => HP.out, fun _ => HC.out⟩
        case measure => simp [intOf]
      · have b2 : (q != 0) = true := by simp [c]
        have HC := Lib.hid c
        clear c h3 h4
        go_wp2
        go_ret
        exact ⟨by have h := HP.out; simp [h], rfl⟩
    · have HP := Lib.hid (h3 (by omega))
      have HC := Lib.hid (h4 (by omega))
      clear h3 h4
      go_wp2
      go_ret
      exact ⟨by have h := HP.out; have h2 := HC.out; simp [h, h2], rfl⟩
theorem cell_new0 (W : World) (p q : Value) (t : Nat) : (W.alloc (.cells #[p, q] t)).cell? { block := W.heap.size, off := 0 } = some p := by
  unfold World.cell? World.alloc
  simp only [Array.getElem?_push_size]
  rfl
theorem cell_new1 (W : World) (p q : Value) (t : Nat) : (W.alloc (.cells #[p, q] t)).cell? { block := W.heap.size, off := 1 } = some q := by
  unfold World.cell? World.alloc
  simp only [Array.getElem?_push_size]
  rfl
theorem Cmp_calls (x y : Int) (W : World) (hx : U64 x) (hy : U64 y) : Calls Try.prog 37 #[.int .u64 x, .int .u64 y] W fun e W' => e = .returned (.int .i64 (cmpS x y)) ∧ ∃ o, W' = W.alloc o := by
  go_enter Try.func37, Try.ntmps37
  go_wp2_with first
    | (go_at_call 49; refine (Count_calls _ _ (by assumption)).mono ?_; rintro e w' ⟨rfl, rfl⟩)
    | (go_at_call 48; refine (cmp_int _ _ _).mono ?_; rintro e w' ⟨rfl, rfl⟩)
    | (go_at_call 50; refine (cmp_u64 _ _ _).mono ?_; rintro e w' ⟨rfl, rfl⟩)
  refine (Or_calls _ _ _ _ (cell_new0 _ _ _ _) (cell_new1 _ _ _ _)).mono ?_
  rintro e w' ⟨rfl, rfl⟩
  have hs : cmpS x y = if cmpN (pcS x) (pcS y) = 0 then cmpN x y else cmpN (pcS x) (pcS y) := by
    unfold cmpS cmpN; repeat' split
    all_goals first | rfl | omega
  rw [← hs]
  clear hs
  go_wp2
  go_ret
  exact ⟨rfl, _, rfl⟩
end Go.Proofs.Ytbicngaanhmabaa.H
