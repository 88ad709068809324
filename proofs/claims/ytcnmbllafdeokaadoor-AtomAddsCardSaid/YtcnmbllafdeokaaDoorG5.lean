/- Some texts of one seat in one file, in build order. -/
import Derived.Test.YtcnmbllafdeokaaDoorG3
/- Plain mathematics of the normal list: it has just the atoms that none beats, al sets stand. No program. -/
namespace Go.Proofs.YtcnmbllafdeokaaDoor.AtM
open Go.Proofs.YtcnmbllafdeokaaDoor.TrM

/-- Two lists that rise and have the same in them are one. -/
theorem rises_ext {α : Type} (lt : α → α → Prop) (irr : ∀ a, ¬ lt a a) (asym : ∀ a b, lt a b → ¬ lt b a) : ∀ (xs ys : List α), xs.Pairwise lt → ys.Pairwise lt → (∀ a, a ∈ xs ↔ a ∈ ys) → xs = ys := by
  intro xs
  induction xs with
  | nil =>
    intro ys _ _ h
    cases ys with
    | nil => rfl
    | cons y ys => have := (h y).2 (by simp); simp at this
  | cons x xs ih =>
    intro ys hx hy h
    cases ys with
    | nil => have := (h x).1 (by simp); simp at this
    | cons y ys =>
      obtain ⟨hx1, hx2⟩ := List.pairwise_cons.1 hx
      obtain ⟨hy1, hy2⟩ := List.pairwise_cons.1 hy
      have e : x = y := by
        rcases List.mem_cons.1 ((h x).1 (by simp)) with e | h1
        · exact e
        · rcases List.mem_cons.1 ((h y).2 (by simp)) with e | h2
          · exact e.symm
          · exact absurd (hx1 y h2) (asym _ _ (hy1 x h1))
      subst e
      congr 1
      refine ih ys hx2 hy2 (fun a => ⟨fun ha => ?_, fun ha => ?_⟩)
      · rcases List.mem_cons.1 ((h a).1 (List.mem_cons_of_mem _ ha)) with e | h1
        · subst e; exact absurd (hx1 a ha) (irr a)
        · exact h1
      · rcases List.mem_cons.1 ((h a).2 (List.mem_cons_of_mem _ ha)) with e | h1
        · subst e; exact absurd (hy1 a ha) (irr a)
        · exact h1
/-- It rises al sets stand. -/
def RisesS (xs : List At) : Prop := xs.Pairwise fun x y => ltS x.1 y.1 = true
theorem risesS_ext {xs ys : List At} (hx : RisesS xs) (hy : RisesS ys) (h : ∀ a, a ∈ xs ↔ a ∈ ys) : xs = ys :=
  rises_ext (fun x y : At => ltS x.1 y.1 = true) (fun a => by simp [ordS.irr]) (fun a b h => by rw [ordS.asym h]; simp) xs ys hx hy h
theorem insS_mem (x : At) : ∀ (xs : List At) (y : At), y ∈ insS x xs ↔ y = x ∨ y ∈ xs := by
  intro xs
  induction xs with
  | nil => intro y; simp [insS]
  | cons z zs ih =>
    intro y
    unfold insS
    split
    · simp
    · rw [List.mem_cons, ih, List.mem_cons]
      constructor
      · rintro (h | h | h)
        · exact .inr (.inl h)
        · exact .inl h
        · exact .inr (.inr h)
      · rintro (h | h | h)
        · exact .inr (.inl h)
        · exact .inl h
        · exact .inr (.inr h)
theorem sortS_mem (xs : List At) (y : At) : y ∈ sortS xs ↔ y ∈ xs := by
  unfold sortS
  induction xs with
  | nil => rfl
  | cons x xs ih => rw [List.foldr_cons, insS_mem, ih, List.mem_cons]
theorem insS_rises (x : At) : ∀ (xs : List At), RisesS xs → (∀ y ∈ xs, y.1 ≠ x.1) → RisesS (insS x xs) := by
  intro xs
  induction xs with
  | nil => intro _ _; simp [insS, RisesS]
  | cons z zs ih =>
    intro hr hne
    obtain ⟨h1, h2⟩ := List.pairwise_cons.1 hr
    unfold insS
    split
    · rename_i hlt
      refine List.pairwise_cons.2 ⟨fun y hy => ?_, hr⟩
      rcases List.mem_cons.1 hy with rfl | hy
      · exact hlt
      · exact ordS.trans _ _ _ hlt (h1 y hy)
    · rename_i hlt
      refine List.pairwise_cons.2 ⟨fun y hy => ?_, ih h2 (fun y hy => hne y (List.mem_cons_of_mem _ hy))⟩
      rcases (insS_mem x zs y).1 hy with rfl | hy
      · cases h : ltS z.1 y.1 with
        | true => rfl
        | false => exact absurd (ordS.tot _ _ h (by simpa using hlt)) (hne z (by simp))
      · exact h1 y hy
theorem sortS_rises : ∀ (xs : List At), xs.Pairwise (fun x y => x.1 ≠ y.1) → RisesS (sortS xs) := by
  intro xs
  induction xs with
  | nil => intro _; exact List.Pairwise.nil
  | cons x xs ih =>
    intro h
    obtain ⟨h1, h2⟩ := List.pairwise_cons.1 h
    exact insS_rises x _ (ih h2) (fun y hy => (h1 y ((sortS_mem xs y).1 hy)).symm)
/-- The greatest of its set. -/
def Top (R : List At) (y : At) : Prop := y ∈ R ∧ ∀ x ∈ R, x.1 = y.1 → x.2 ≤ y.2
theorem great1_inv {pre acc : List At} {x : At} (hx : 1 ≤ x.2) (hr : Rises ltN acc) (hm : ∀ y, y ∈ acc ↔ Top pre y) (h1 : ∀ y ∈ pre, 1 ≤ y.2) :
    Rises ltN (great1 acc x) ∧ ∀ y, y ∈ great1 acc x ↔ Top (pre ++ [x]) y := by
  refine ⟨ins_rises ordN _ _ _ hr, fun y => ?_⟩
  unfold great1
  rw [ins_mem ordN _ _ _ hr, hm]
  have hv : ∀ z ∈ pre, z.1 = x.1 → z.2 ≤ valOf x.1 acc := by
    intro z hz hzx
    unfold valOf
    have hpos := h1 z hz
    -- there is a top one of that set
    have key : ∀ (l : List At) (z : At), z ∈ l → ∃ t, Top l t ∧ t.1 = z.1 := by
      intro l
      induction l with
      | nil => intro z hz; simp at hz
      | cons a l ih =>
        intro z hz
        by_cases hq : ∃ w ∈ l, w.1 = z.1
        · obtain ⟨w, hw, hwz⟩ := hq
          obtain ⟨t, ⟨ht1, ht2⟩, ht3⟩ := ih w hw
          by_cases hb : a.1 = t.1 ∧ t.2 < a.2
          · refine ⟨a, ⟨by simp, fun u hu hua => ?_⟩, by rw [hb.1, ht3, hwz]⟩
            rcases List.mem_cons.1 hu with rfl | hu
            · exact Int.le_refl _
            · have := ht2 u hu (hua.trans hb.1); omega
          · refine ⟨t, ⟨List.mem_cons_of_mem _ ht1, fun u hu hut => ?_⟩, ht3.trans hwz⟩
            rcases List.mem_cons.1 hu with rfl | hu
            · have : ¬ (t.2 < u.2) := fun h => hb ⟨hut, h⟩
              omega
            · exact ht2 u hu hut
        · rcases List.mem_cons.1 hz with rfl | hz
          · refine ⟨z, ⟨by simp, fun u hu huz => ?_⟩, rfl⟩
            rcases List.mem_cons.1 hu with rfl | hu
            · exact Int.le_refl _
            · exact absurd ⟨u, hu, huz⟩ hq
          · exact absurd ⟨z, hz, rfl⟩ hq
    obtain ⟨t, ht, htz⟩ := key pre z hz
    have hg : getL ltN x.1 acc = some t := (get_mem ordN _ _ hr t).2 ⟨(hm t).2 ht, htz.trans hzx⟩
    rw [hg]
    exact ht.2 z hz htz.symm
  have hw : valOf x.1 acc = 0 ∨ ∃ t ∈ pre, t.1 = x.1 ∧ t.2 = valOf x.1 acc := by
    unfold valOf
    cases hg : getL ltN x.1 acc with
    | none => exact .inl rfl
    | some t =>
      obtain ⟨h3, h4⟩ := (get_mem ordN _ _ hr t).1 hg
      exact .inr ⟨t, ((hm t).1 h3).1, h4, rfl⟩
  constructor
  · rintro (rfl | ⟨⟨h3, h4⟩, h5⟩)
    · refine ⟨?_, fun z hz hzx => ?_⟩
      · rcases Int.le_total x.2 (valOf x.1 acc) with hle | hle
        · rcases hw with h0 | ⟨t, ht, ht1, ht2⟩
          · omega
          · rw [List.mem_append]
            left
            have : (x.1, max (valOf x.1 acc) x.2) = t := by
              obtain ⟨t1, t2⟩ := t
              simp only at ht1 ht2
              rw [ht1, ht2]
              congr 1
              omega
            rw [this]; exact ht
        · rw [List.mem_append]
          right
          rw [List.mem_singleton]
          obtain ⟨x1, x2⟩ := x
          simp only at hle ⊢
          congr 1
          omega
      · simp only at hzx ⊢
        rcases List.mem_append.1 hz with hz | hz
        · have := hv z hz hzx; omega
        · rw [List.mem_singleton] at hz; subst hz; omega
    · refine ⟨List.mem_append.2 (.inl h3), fun z hz hzy => ?_⟩
      rcases List.mem_append.1 hz with hz | hz
      · exact h4 z hz hzy
      · rw [List.mem_singleton] at hz; subst hz; exact absurd hzy.symm h5
  · rintro ⟨h3, h4⟩
    by_cases he : y.1 = x.1
    · left
      have hyx := h4 x (by simp) he.symm
      have hyv : valOf x.1 acc ≤ y.2 := by
        rcases hw with h0 | ⟨t, ht, ht1, ht2⟩
        · omega
        · rw [← ht2]; exact h4 t (List.mem_append.2 (.inl ht)) (ht1.trans he.symm)
      have hle : y.2 ≤ max (valOf x.1 acc) x.2 := by
        rcases List.mem_append.1 h3 with h5 | h5
        · have := hv y h5 he; omega
        · rw [List.mem_singleton] at h5; subst h5; omega
      obtain ⟨y1, y2⟩ := y
      simp only at he hyx hyv hle ⊢
      rw [he]
      congr 1
      omega
    · right
      refine ⟨⟨?_, fun z hz hzy => h4 z (List.mem_append.2 (.inl hz)) hzy⟩, he⟩
      rcases List.mem_append.1 h3 with h5 | h5
      · exact h5
      · rw [List.mem_singleton] at h5; subst h5; exact absurd rfl he
theorem great_fold : ∀ (xs pre acc : List At), (∀ x ∈ xs, 1 ≤ x.2) → (∀ x ∈ pre, 1 ≤ x.2) → Rises ltN acc → (∀ y, y ∈ acc ↔ Top pre y) →
    Rises ltN (xs.foldl great1 acc) ∧ ∀ y, y ∈ xs.foldl great1 acc ↔ Top (pre ++ xs) y := by
  intro xs
  induction xs with
  | nil => intro pre acc _ _ hr hm; exact ⟨hr, fun y => by rw [List.append_nil]; exact hm y⟩
  | cons x xs ih =>
    intro pre acc h1 h2 hr hm
    obtain ⟨q1, q2⟩ := great1_inv (h1 x (by simp)) hr hm h2
    have := ih (pre ++ [x]) (great1 acc x) (fun z hz => h1 z (List.mem_cons_of_mem _ hz)) (fun z hz => by
      rcases List.mem_append.1 hz with hz | hz
      · exact h2 z hz
      · rw [List.mem_singleton] at hz; subst hz; exact h1 _ (by simp)) q1 q2
    rw [List.append_assoc, List.singleton_append] at this
    exact this
theorem right_pos {al : List At} : ∀ x ∈ al.filter rightA, 1 ≤ x.2 := fun x hx => by
  have := (List.mem_filter.1 hx).2
  unfold rightA at this
  simp at this
  omega
theorem great_spec (al : List At) : Rises ltN (greatL al) ∧ ∀ y, y ∈ greatL al ↔ Top (al.filter rightA) y := by
  have h := great_fold (al.filter rightA) [] [] right_pos (fun x hx => by simp at hx) List.Pairwise.nil (fun y => ⟨fun h => by simp at h, fun h => by have := h.1; simp at this⟩)
  rw [List.nil_append] at h
  exact h
theorem rises_ne {xs : List At} (h : Rises ltN xs) : xs.Pairwise fun x y => x.1 ≠ y.1 :=
  h.imp (fun {a b} hab e => by rw [e, ordN.irr] at hab; cases hab)
/-- Beaten by none but itself. -/
def Und (L : List At) (y : At) : Prop := y ∈ L ∧ ∀ x ∈ L, wthB x.1 y.1 = true → y.2 ≤ x.2 → x = y
theorem und_ex {L : List At} (hu : ∀ x ∈ L, U64 x.1) (hd : ∀ x ∈ L, ∀ y ∈ L, x.1 = y.1 → x = y) : ∀ (n : Nat) (x : At), x ∈ L → pcS x.1 < n → ∃ y, Und L y ∧ wthB y.1 x.1 = true ∧ x.2 ≤ y.2 := by
  intro n
  induction n with
  | zero => intro x _ h; omega
  | succ n ih =>
    intro x hx hn
    by_cases h : ∃ z ∈ L, wthB z.1 x.1 = true ∧ x.2 ≤ z.2 ∧ z ≠ x
    · obtain ⟨z, hz, h1, h2, h3⟩ := h
      have hne : z.1 ≠ x.1 := fun e => h3 (hd z hz x hx e)
      have hlt := pc_lt (hu z hz) (hu x hx) h1 hne
      obtain ⟨y, hy, hy1, hy2⟩ := ih z hz (by omega)
      exact ⟨y, hy, wth_trans hy1 h1, by omega⟩
    · refine ⟨x, ⟨hx, fun z hz h1 h2 => ?_⟩, wth_refl _, Int.le_refl _⟩
      exact Classical.byContradiction fun h3 => h ⟨z, hz, h1, h2, h3⟩
theorem risesS_inj {L : List At} (h : RisesS L) : ∀ x ∈ L, ∀ y ∈ L, x.1 = y.1 → x = y := by
  induction L with
  | nil => intro x hx; simp at hx
  | cons a L ih =>
    obtain ⟨h1, h2⟩ := List.pairwise_cons.1 h
    intro x hx y hy e
    rcases List.mem_cons.1 hx with hxa | hx
    · rcases List.mem_cons.1 hy with hya | hy
      · rw [hxa, hya]
      · have := h1 y hy; rw [← hxa, e, ordS.irr] at this; cases this
    · rcases List.mem_cons.1 hy with hya | hy
      · have := h1 x hx; rw [← hya, e, ordS.irr] at this; cases this
      · exact ih h2 x hx y hy e
theorem norm_fold {L : List At} (hr : RisesS L) (hu : ∀ x ∈ L, U64 x.1) : ∀ (suf pre out : List At), L = pre ++ suf → (∀ y, y ∈ out ↔ (y ∈ pre ∧ Und L y)) → RisesS out →
    RisesS (suf.foldl norm1 out) ∧ ∀ y, y ∈ suf.foldl norm1 out ↔ Und L y := by
  have hd := risesS_inj hr
  intro suf
  induction suf with
  | nil =>
    intro pre out hL hm ho
    refine ⟨ho, fun y => ?_⟩
    rw [List.append_nil] at hL
    show y ∈ out ↔ _
    rw [hm, ← hL]
    exact ⟨fun h => h.2, fun h => ⟨h.1, h⟩⟩
  | cons a suf ih =>
    intro pre out hL hm ho
    have haL : a ∈ L := by rw [hL]; simp
    have hsplit := hr
    rw [hL] at hsplit
    obtain ⟨hp1, hp2, hp3⟩ := List.pairwise_append.1 hsplit
    obtain ⟨hp4, hp5⟩ := List.pairwise_cons.1 hp2
    -- what stands ahead of it
    have hahead : ∀ x ∈ L, ltS x.1 a.1 = true → x ∈ pre := by
      intro x hx hlt
      rw [hL] at hx
      rcases List.mem_append.1 hx with hx | hx
      · exact hx
      · rcases List.mem_cons.1 hx with rfl | hx
        · rw [ordS.irr] at hlt; cases hlt
        · have := hp4 x hx; rw [ordS.asym hlt] at this; cases this
    have hna : a ∉ pre := fun h => by have := hp3 a h a (by simp); rw [ordS.irr] at this; cases this
    have hbeat : beatB a out = true ↔ ¬ Und L a := by
      unfold beatB
      rw [List.any_eq_true]
      constructor
      · rintro ⟨b, hb, hb2⟩ hund
        simp only [Bool.and_eq_true, decide_eq_true_iff] at hb2
        obtain ⟨hb3, hb4⟩ := (hm b).1 hb
        have := hund.2 b hb4.1 hb2.1 hb2.2
        subst this
        exact hna hb3
      · intro hnu
        have : ∃ x ∈ L, wthB x.1 a.1 = true ∧ a.2 ≤ x.2 ∧ x ≠ a := Classical.byContradiction fun h => hnu ⟨haL, fun x hx h1 h2 => Classical.byContradiction fun h3 => h ⟨x, hx, h1, h2, h3⟩⟩
        obtain ⟨x, hx, h1, h2, h3⟩ := this
        have hne : x.1 ≠ a.1 := fun e => h3 (hd x hx a haL e)
        obtain ⟨y, hy, hy1, hy2⟩ := und_ex hu hd (pcS x.1 + 1) x hx (by omega)
        have hya : wthB y.1 a.1 = true := wth_trans hy1 h1
        have hyne : y.1 ≠ a.1 := fun e => by
          have h5 := pc_lt (hu x hx) (hu a haL) h1 hne
          by_cases h6 : y.1 = x.1
          · rw [← h6, e] at hne; exact hne rfl
          · have h7 := pc_lt (hu y hy.1) (hu x hx) hy1 h6
            rw [e] at h7; omega
        have hlt := wth_ltS (hu y hy.1) (hu a haL) hya hyne
        refine ⟨y, (hm y).2 ⟨hahead y hy.1 hlt, hy⟩, ?_⟩
        simp only [Bool.and_eq_true, decide_eq_true_iff]
        exact ⟨hya, by omega⟩
    rw [List.foldl_cons]
    have hL' : L = (pre ++ [a]) ++ suf := by rw [hL, List.append_assoc, List.singleton_append]
    by_cases hu2 : Und L a
    · have hb : ¬ beatB a out = true := fun h => hbeat.1 h hu2
      have e : norm1 out a = out ++ [a] := by unfold norm1; rw [if_neg hb]
      rw [e]
      refine ih (pre ++ [a]) (out ++ [a]) hL' (fun y => ?_) (List.pairwise_append.2 ⟨ho, by simp, fun x hx y hy => ?_⟩)
      · rw [List.mem_append, hm, List.mem_append, List.mem_singleton]
        constructor
        · rintro (⟨h1, h2⟩ | rfl)
          · exact ⟨.inl h1, h2⟩
          · exact ⟨.inr rfl, hu2⟩
        · rintro ⟨h1 | h1, h2⟩
          · exact .inl ⟨h1, h2⟩
          · exact .inr h1
      · rw [List.mem_singleton] at hy; subst hy
        exact hp3 x ((hm x).1 hx).1 _ (by simp)
    · have hb : beatB a out = true := hbeat.2 hu2
      have e : norm1 out a = out := by unfold norm1; rw [if_pos hb]
      rw [e]
      refine ih (pre ++ [a]) out hL' (fun y => ?_) ho
      rw [hm, List.mem_append, List.mem_singleton]
      constructor
      · rintro ⟨h1, h2⟩; exact ⟨.inl h1, h2⟩
      · rintro ⟨h1 | h1, h2⟩
        · exact ⟨h1, h2⟩
        · subst h1; exact absurd h2 hu2
/-- The greatest ones that none beats are the ones that none beats. -/
theorem und_top {R L : List At} (hL : ∀ y, y ∈ L ↔ Top R y) (hex : ∀ x ∈ R, ∃ t, Top R t ∧ t.1 = x.1) (y : At) : Und L y ↔ Und R y := by
  constructor
  · rintro ⟨h1, h2⟩
    have hy := (hL y).1 h1
    refine ⟨hy.1, fun x hx hw hv => ?_⟩
    obtain ⟨t, ht, htx⟩ := hex x hx
    have hle := ht.2 x hx htx.symm
    have e := h2 t ((hL t).2 ht) (by rw [htx]; exact hw) (by omega)
    subst e
    have := ht.2 x hx htx.symm
    obtain ⟨x1, x2⟩ := x; obtain ⟨t1, t2⟩ := t
    simp only at *
    rw [htx]; congr 1; omega
  · rintro ⟨h1, h2⟩
    refine ⟨(hL y).2 ⟨h1, fun x hx hxy => ?_⟩, fun x hx hw hv => h2 x ((hL x).1 hx).1 hw hv⟩
    rcases Int.le_total x.2 y.2 with h | h
    · exact h
    · have := h2 x hx (by rw [hxy]; exact wth_refl _) h
      rw [this]; exact Int.le_refl _
theorem top_ex : ∀ (l : List At) (z : At), z ∈ l → ∃ t, Top l t ∧ t.1 = z.1 := by
  intro l
  induction l with
  | nil => intro z hz; simp at hz
  | cons a l ih =>
    intro z hz
    by_cases hq : ∃ w ∈ l, w.1 = z.1
    · obtain ⟨w, hw, hwz⟩ := hq
      obtain ⟨t, ⟨ht1, ht2⟩, ht3⟩ := ih w hw
      by_cases hb : a.1 = t.1 ∧ t.2 < a.2
      · refine ⟨a, ⟨by simp, fun u hu hua => ?_⟩, by rw [hb.1, ht3, hwz]⟩
        rcases List.mem_cons.1 hu with rfl | hu
        · exact Int.le_refl _
        · have := ht2 u hu (hua.trans hb.1); omega
      · refine ⟨t, ⟨List.mem_cons_of_mem _ ht1, fun u hu hut => ?_⟩, ht3.trans hwz⟩
        rcases List.mem_cons.1 hu with rfl | hu
        · have : ¬ (t.2 < u.2) := fun h => hb ⟨hut, h⟩
          omega
        · exact ht2 u hu hut
    · rcases List.mem_cons.1 hz with rfl | hz
      · refine ⟨z, ⟨by simp, fun u hu huz => ?_⟩, rfl⟩
        rcases List.mem_cons.1 hu with rfl | hu
        · exact Int.le_refl _
        · exact absurd ⟨u, hu, huz⟩ hq
      · exact absurd ⟨z, hz, rfl⟩ hq
/-- **THE NORMAL LIST**: it rises, and has just the right atoms that none beats. -/
theorem norm_spec (al : List At) (hu : ∀ x ∈ al, U64 x.1) : RisesS (normL al) ∧ ∀ y, y ∈ normL al ↔ Und (al.filter rightA) y := by
  obtain ⟨g1, g2⟩ := great_spec al
  have hs : RisesS (sortS (greatL al)) := sortS_rises _ (rises_ne g1)
  have hLm : ∀ y, y ∈ sortS (greatL al) ↔ Top (al.filter rightA) y := fun y => (sortS_mem _ y).trans (g2 y)
  have huL : ∀ x ∈ sortS (greatL al), U64 x.1 := fun x hx => hu x (List.mem_filter.1 ((hLm x).1 hx).1).1
  obtain ⟨n1, n2⟩ := norm_fold hs huL (sortS (greatL al)) [] [] rfl (fun y => by simp) List.Pairwise.nil
  exact ⟨n1, fun y => (n2 y).trans (und_top hLm (top_ex _) y)⟩
end Go.Proofs.YtcnmbllafdeokaaDoor.AtM
/- Plain: the normal list by the document's way: each atom that none beats, the first of each, put where it stands. No program. -/
namespace Go.Proofs.YtcnmbllafdeokaaDoor.AtM
set_option linter.unusedVariables false
open Go.Proofs.YtcnmbllafdeokaaDoor.TrM
/-- b beats a, or is it. -/
def domB (b a : At) : Bool := rightA b && (wthB b.1 a.1 && decide (a.2 ≤ b.2))
abbrev g0 (al : List At) (i : Nat) : At := al.getD i (0, 0)
/-- What one other atom says. -/
def okB (al : List At) (i k : Nat) : Bool := decide (k = i) || (!domB (g0 al k) (g0 al i) || (decide (g0 al k = g0 al i) && decide (i < k)))
/-- All from j on let it stand. -/
def okFrom (al : List At) (i : Nat) (j : Nat) : Bool := (List.range' j (al.length - j)).all (okB al i)
def keepB (al : List At) (i : Nat) : Bool := rightA (g0 al i) && okFrom al i 0
theorem okFrom_step (al : List At) (i j : Nat) (hj : j < al.length) : okFrom al i j = (okB al i j && okFrom al i (j + 1)) := by
  unfold okFrom
  rw [show al.length - j = (al.length - (j + 1)) + 1 by omega, List.range'_succ, List.all_cons]
theorem okFrom_end (al : List At) (i j : Nat) (hj : ¬ j < al.length) : okFrom al i j = true := by
  unfold okFrom
  rw [show al.length - j = 0 by omega]; rfl
/-- Behind the atoms from i on. -/
def putFrom (al : List At) (i : Nat) (out : List At) : List At := (List.range' i (al.length - i)).foldl (fun o i => if keepB al i = true then insS (g0 al i) o else o) out
theorem putFrom_step (al : List At) (i : Nat) (out : List At) (hi : i < al.length) : putFrom al i out = putFrom al (i + 1) (if keepB al i = true then insS (g0 al i) out else out) := by
  unfold putFrom
  rw [show al.length - i = (al.length - (i + 1)) + 1 by omega, List.range'_succ, List.foldl_cons]
theorem putFrom_end (al : List At) (i : Nat) (out : List At) (hi : ¬ i < al.length) : putFrom al i out = out := by
  unfold putFrom
  rw [show al.length - i = 0 by omega]; rfl
theorem g0_mem {al : List At} {i : Nat} (hi : i < al.length) : g0 al i ∈ al := by
  unfold g0
  rw [List.getD_eq_getElem?_getD, List.getElem?_eq_getElem hi]
  exact List.getElem_mem hi
theorem mem_g0 {al : List At} {x : At} (h : x ∈ al) : ∃ i, i < al.length ∧ g0 al i = x := by
  obtain ⟨i, hi, e⟩ := List.mem_iff_getElem.1 h
  exact ⟨i, hi, by unfold g0; rw [List.getD_eq_getElem?_getD, List.getElem?_eq_getElem hi]; exact e⟩
theorem keep_iff (al : List At) (i : Nat) : keepB al i = true ↔ rightA (g0 al i) = true ∧ ∀ k, k < al.length → k ≠ i → rightA (g0 al k) = true → wthB (g0 al k).1 (g0 al i).1 = true → (g0 al i).2 ≤ (g0 al k).2 → g0 al k = g0 al i ∧ i < k := by
  unfold keepB okFrom
  rw [Bool.and_eq_true, List.all_eq_true]
  refine and_congr_right (fun hr => ?_)
  constructor
  · intro h k hk hne h1 h2 h3
    have := h k (List.mem_range'_1.2 (by omega))
    unfold okB domB at this
    rw [decide_eq_false hne, h1, h2, decide_eq_true h3] at this
    simpa using this
  · intro h k hk
    have hk2 := List.mem_range'_1.1 hk
    unfold okB domB
    by_cases hne : k = i
    · rw [decide_eq_true hne]; rfl
    · cases h1 : rightA (g0 al k) with
      | false => simp
      | true =>
        cases h2 : wthB (g0 al k).1 (g0 al i).1 with
        | false => simp
        | true =>
          by_cases h3 : (g0 al i).2 ≤ (g0 al k).2
          · obtain ⟨h4, h5⟩ := h k (by omega) hne h1 h2 h3
            rw [decide_eq_true h4, decide_eq_true h5]; simp
          · rw [decide_eq_false h3]; simp
/-- What has been put so far. -/
def KeptTo (al : List At) (n : Nat) (x : At) : Prop := ∃ i, i < n ∧ i < al.length ∧ keepB al i = true ∧ g0 al i = x
theorem kept_und {al : List At} {i : Nat} (hi : i < al.length) (hk : keepB al i = true) : Und (al.filter rightA) (g0 al i) := by
  obtain ⟨h1, h2⟩ := (keep_iff al i).1 hk
  refine ⟨List.mem_filter.2 ⟨g0_mem hi, h1⟩, fun x hx hw hv => ?_⟩
  obtain ⟨hx1, hx2⟩ := List.mem_filter.1 hx
  obtain ⟨k, hk1, rfl⟩ := mem_g0 hx1
  by_cases e : k = i
  · rw [e]
  · exact (h2 k hk1 e hx2 hw hv).1
theorem und_kept {al : List At} {x : At} (h : Und (al.filter rightA) x) : KeptTo al al.length x := by
  obtain ⟨h1, h2⟩ := h
  obtain ⟨h3, h4⟩ := List.mem_filter.1 h1
  -- the first place where it stands
  have : ∃ i, i < al.length ∧ g0 al i = x ∧ ∀ k, k < i → g0 al k ≠ x := by
    obtain ⟨i, hi, e⟩ := mem_g0 h3
    induction i using Nat.strongRecOn with
    | ind i ih =>
      by_cases hq : ∃ k, k < i ∧ g0 al k = x
      · obtain ⟨k, hk, ek⟩ := hq
        exact ih k hk (by omega) ek
      · exact ⟨i, hi, e, fun k hk ek => hq ⟨k, hk, ek⟩⟩
  obtain ⟨i, hi, rfl, hfirst⟩ := this
  refine ⟨i, hi, hi, (keep_iff al i).2 ⟨h4, fun k hk hne hr hw hv => ?_⟩, rfl⟩
  have e := h2 (g0 al k) (List.mem_filter.2 ⟨g0_mem hk, hr⟩) hw hv
  refine ⟨e, ?_⟩
  rcases Nat.lt_or_gt_of_ne hne with h | h
  · exact absurd e (hfirst k h)
  · exact h
theorem put_inv {al : List At} : ∀ (d i : Nat) (out : List At), i + d = al.length → RisesS out → (∀ x, x ∈ out ↔ KeptTo al i x) → RisesS (putFrom al i out) ∧ ∀ x, x ∈ putFrom al i out ↔ KeptTo al al.length x := by
  intro d
  induction d with
  | zero =>
    intro i out hi hr hm
    rw [putFrom_end al i out (by omega)]
    obtain rfl : i = al.length := by omega
    exact ⟨hr, hm⟩
  | succ d ih =>
    intro i out hi hr hm
    have hil : i < al.length := by omega
    rw [putFrom_step al i out hil]
    by_cases hk : keepB al i = true
    · rw [if_pos hk]
      have hu := kept_und hil hk
      refine ih (i + 1) _ (by omega) (insS_rises _ _ hr (fun y hy e => ?_)) (fun x => ?_)
      · -- no other one of that set
        obtain ⟨j, hj, hjl, hjk, rfl⟩ := (hm y).1 hy
        have huj := kept_und hjl hjk
        have h1 : (g0 al j) = g0 al i := by
          rcases Int.le_total (g0 al i).2 (g0 al j).2 with hle | hle
          · exact hu.2 _ huj.1 (by rw [e]; exact wth_refl _) hle
          · exact (huj.2 _ hu.1 (by rw [e]; exact wth_refl _) hle).symm
        have h2 := ((keep_iff al i).1 hk).2 j hjl (by omega) ((List.mem_filter.1 huj.1).2) (by rw [h1]; exact wth_refl _) (by rw [h1]; exact Int.le_refl _)
        omega
      · rw [insS_mem, hm]
        constructor
        · rintro (rfl | ⟨j, hj, h⟩)
          · exact ⟨i, by omega, hil, hk, rfl⟩
          · exact ⟨j, by omega, h⟩
        · rintro ⟨j, hj, h1, h2, h3⟩
          by_cases e : j = i
          · subst e; exact .inl h3.symm
          · exact .inr ⟨j, by omega, h1, h2, h3⟩
    · rw [if_neg hk]
      refine ih (i + 1) _ (by omega) hr (fun x => ?_)
      rw [hm]
      constructor
      · rintro ⟨j, hj, h⟩; exact ⟨j, by omega, h⟩
      · rintro ⟨j, hj, h1, h2, h3⟩
        by_cases e : j = i
        · subst e; exact absurd h2 hk
        · exact ⟨j, by omega, h1, h2, h3⟩
theorem put_norm (al : List At) (hu : ∀ x ∈ al, U64 x.1) : putFrom al 0 [] = normL al := by
  obtain ⟨h1, h2⟩ := put_inv (al := al) al.length 0 [] (by omega) List.Pairwise.nil (fun x => ⟨fun h => by simp at h, fun ⟨i, hi, _⟩ => by omega⟩)
  obtain ⟨n1, n2⟩ := norm_spec al hu
  refine risesS_ext h1 n1 (fun x => ?_)
  rw [h2, n2]
  constructor
  · rintro ⟨i, hi, hil, hk, rfl⟩; exact kept_und hil hk
  · exact und_kept
end Go.Proofs.YtcnmbllafdeokaaDoor.AtM
/- Plain: the normal list has the same values; it hangs on which atoms there are. No program. -/
namespace Go.Proofs.YtcnmbllafdeokaaDoor.AtM
set_option linter.unusedVariables false
open Go.Proofs.YtcnmbllafdeokaaDoor.TrM
theorem foldmax_ge : ∀ (xs : List At) (a : Int), a ≤ xs.foldl (fun m x => max m x.2) a ∧ ∀ x ∈ xs, x.2 ≤ xs.foldl (fun m x => max m x.2) a := by
  intro xs
  induction xs with
  | nil => intro a; exact ⟨Int.le_refl _, fun x hx => by simp at hx⟩
  | cons y ys ih =>
    intro a
    obtain ⟨h1, h2⟩ := ih (max a y.2)
    rw [List.foldl_cons]
    refine ⟨by omega, fun x hx => ?_⟩
    rcases List.mem_cons.1 hx with rfl | hx
    · omega
    · exact h2 x hx
theorem foldmax_le : ∀ (xs : List At) (a b : Int), a ≤ b → (∀ x ∈ xs, x.2 ≤ b) → xs.foldl (fun m x => max m x.2) a ≤ b := by
  intro xs
  induction xs with
  | nil => intro a b h _; exact h
  | cons y ys ih =>
    intro a b h hx
    rw [List.foldl_cons]
    have := hx y (by simp)
    exact ih _ b (by omega) (fun x hxm => hx x (List.mem_cons_of_mem _ hxm))
theorem value_ge0 (al : List At) (s : Int) : 0 ≤ valueL al s := (foldmax_ge _ 0).1
theorem value_le {al : List At} {s b : Int} (h0 : 0 ≤ b) (h : ∀ x ∈ al, rightA x = true → wthB x.1 s = true → x.2 ≤ b) : valueL al s ≤ b :=
  foldmax_le _ 0 b h0 (fun x hx => by
    obtain ⟨h1, h2⟩ := List.mem_filter.1 hx
    obtain ⟨h3, h4⟩ := List.mem_filter.1 h1
    exact h x h3 h4 h2)
theorem value_ge {al : List At} {s : Int} {x : At} (hx : x ∈ al) (hr : rightA x = true) (hw : wthB x.1 s = true) : x.2 ≤ valueL al s :=
  (foldmax_ge _ 0).2 x (List.mem_filter.2 ⟨List.mem_filter.2 ⟨hx, hr⟩, hw⟩)
theorem value_bound (al : List At) (s : Int) : valueL al s ≤ 1099511627776 := value_le (by decide) (fun x _ hr _ => by unfold rightA at hr; have := of_decide_eq_true hr; omega)
theorem value_mono {al : List At} {s t : Int} (h : wthB s t = true) : valueL al s ≤ valueL al t := value_le (value_ge0 _ _) (fun x hx hr hw => value_ge hx hr (wth_trans hw h))
theorem norm_sub {al : List At} (hu : ∀ x ∈ al, U64 x.1) {x : At} (h : x ∈ normL al) : x ∈ al ∧ rightA x = true := List.mem_filter.1 (((norm_spec al hu).2 x).1 h).1
/-- Under each right atom lies one of the normal list that is worth as much. -/
theorem norm_under {al : List At} (hu : ∀ x ∈ al, U64 x.1) {x : At} (hx : x ∈ al) (hr : rightA x = true) : ∃ y, y ∈ normL al ∧ wthB y.1 x.1 = true ∧ x.2 ≤ y.2 := by
  have hxR : x ∈ al.filter rightA := List.mem_filter.2 ⟨hx, hr⟩
  obtain ⟨g1, g2⟩ := great_spec al
  have hs : RisesS (sortS (greatL al)) := sortS_rises _ (rises_ne g1)
  have hLm : ∀ y, y ∈ sortS (greatL al) ↔ Top (al.filter rightA) y := fun y => (sortS_mem _ y).trans (g2 y)
  have huL : ∀ x ∈ sortS (greatL al), U64 x.1 := fun x hx => hu x (List.mem_filter.1 ((hLm x).1 hx).1).1
  obtain ⟨t, ht, htx⟩ := top_ex _ x hxR
  obtain ⟨y, hy, hy1, hy2⟩ := und_ex huL (risesS_inj hs) (pcS t.1 + 1) t ((hLm t).2 ht) (by omega)
  have hle := ht.2 x hxR htx.symm
  exact ⟨y, ((norm_spec al hu).2 y).2 ((und_top hLm (top_ex _) y).1 hy), by rw [← htx]; exact hy1, by omega⟩
theorem norm_value (al : List At) (s : Int) (hu : ∀ x ∈ al, U64 x.1) : valueL (normL al) s = valueL al s := by
  have h1 : valueL (normL al) s ≤ valueL al s := value_le (value_ge0 _ _) (fun x hx hr hw => value_ge (norm_sub hu hx).1 hr hw)
  have h2 : valueL al s ≤ valueL (normL al) s := value_le (value_ge0 _ _) (fun x hx hr hw => by
    obtain ⟨y, hy, hy1, hy2⟩ := norm_under hu hx hr
    have := value_ge hy (norm_sub hu hy).2 (wth_trans hy1 hw)
    omega)
  omega
theorem norm_own (al : List At) (hu : ∀ x ∈ al, U64 x.1) {a : At} (ha : a ∈ normL al) : valueL (normL al) a.1 = a.2 := by
  have hr := (norm_sub hu ha).2
  have h0 : 0 ≤ a.2 := by unfold rightA at hr; have := of_decide_eq_true hr; omega
  have h1 := value_ge ha hr (wth_refl a.1)
  have hund := ((norm_spec al hu).2 a).1 ha
  have h2 : valueL (normL al) a.1 ≤ a.2 := value_le h0 (fun x hx hxr hw => by
    rcases Int.le_total a.2 x.2 with hle | hle
    · have := hund.2 x (((norm_spec al hu).2 x).1 hx).1 hw hle
      rw [this]; exact Int.le_refl _
    · exact hle)
  omega
theorem norm_ext {a b : List At} (ha : ∀ x ∈ a, U64 x.1) (hb : ∀ x ∈ b, U64 x.1) (h : ∀ x, x ∈ a ↔ x ∈ b) : normL a = normL b := by
  obtain ⟨a1, a2⟩ := norm_spec a ha
  obtain ⟨b1, b2⟩ := norm_spec b hb
  refine risesS_ext a1 b1 (fun x => ?_)
  rw [a2, b2]
  have hf : ∀ y, y ∈ a.filter rightA ↔ y ∈ b.filter rightA := fun y => by rw [List.mem_filter, List.mem_filter, h]
  unfold Und
  rw [hf]
  exact and_congr_right (fun _ => ⟨fun h2 y hy => h2 y ((hf y).2 hy), fun h2 y hy => h2 y ((hf y).1 hy)⟩)
theorem norm_norm (al : List At) (hu : ∀ x ∈ al, U64 x.1) : normL (normL al) = normL al := by
  have huN : ∀ x ∈ normL al, U64 x.1 := fun x hx => hu x (norm_sub hu hx).1
  obtain ⟨n1, n2⟩ := norm_spec al hu
  obtain ⟨m1, m2⟩ := norm_spec (normL al) huN
  refine risesS_ext m1 n1 (fun x => ?_)
  rw [m2]
  constructor
  · intro h; exact (List.mem_filter.1 h.1).1
  · intro h
    refine ⟨List.mem_filter.2 ⟨h, (norm_sub hu h).2⟩, fun y hy hw hv => ?_⟩
    exact ((n2 x).1 h).2 y ((n2 y).1 (List.mem_filter.1 hy).1).1 hw hv
end Go.Proofs.YtcnmbllafdeokaaDoor.AtM
