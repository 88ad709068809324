/- Some texts of one seat in one file, in build order. -/
import Derived.Test.YtbicngaanhmabaaG18
import Derived.Test.YtbicngaanhmabaaG1
import Derived.Test.YtbicngaanhmabaaG10
/- Plain: the normal list has the same values; it hangs on which atoms there are. No program. -/
namespace Go.Proofs.Ytbicngaanhmabaa.AtM
open Go.Proofs.Ytbicngaanhmabaa.TrM
theorem foldmax_ge : ∀ (xs : List At) (a : Int), a ≤ xs.foldl (fun m x => max m x.2) a ∧ ∀ x ∈ xs, x.2 ≤ xs.foldl (fun m x => max m x.2) a := by
  intro xs
  induction xs with
  | nil => intro a; exact ⟨Int.le_refl _, fun x hx => by simp at hx⟩
  | cons y ys ih =>
    intro a
    obtain ⟨h1, h2⟩ := ih (max a y.2)
    rw [List.foldl_cons]
    refine ⟨by omega, fun x hx => ?_⟩
    rcases List.mem_cons.1 hx with rfl | hx
    · omega
    · exact h2 x hx
theorem foldmax_le : ∀ (xs : List At) (a b : Int), a ≤ b → (∀ x ∈ xs, x.2 ≤ b) → xs.foldl (fun m x => max m x.2) a ≤ b := by
  intro xs
  induction xs with
  | nil => intro a b h _; exact h
  | cons y ys ih =>
    intro a b h hx
    rw [List.foldl_cons]
    have := hx y (by simp)
    exact ih _ b (by omega) (fun x hxm => hx x (List.mem_cons_of_mem _ hxm))
theorem value_ge0 (al : List At) (s : Int) : 0 ≤ valueL al s := (foldmax_ge _ 0).1
theorem value_le {al : List At} {s b : Int} (h0 : 0 ≤ b) (h : ∀ x ∈ al, rightA x = true → wthB x.1 s = true → x.2 ≤ b) : valueL al s ≤ b :=
  foldmax_le _ 0 b h0 (fun x hx => by
    obtain ⟨h1, h2⟩ := List.mem_filter.1 hx
    obtain ⟨h3, h4⟩ := List.mem_filter.1 h1
    exact h x h3 h4 h2)
theorem value_ge {al : List At} {s : Int} {x : At} (hx : x ∈ al) (hr : rightA x = true) (hw : wthB x.1 s = true) : x.2 ≤ valueL al s :=
  (foldmax_ge _ 0).2 x (List.mem_filter.2 ⟨List.mem_filter.2 ⟨hx, hr⟩, hw⟩)
theorem value_bound (al : List At) (s : Int) : valueL al s ≤ 1099511627776 := value_le (by decide) (fun x _ hr _ => by unfold rightA at hr; have := of_decide_eq_true hr; omega)
theorem value_mono {al : List At} {s t : Int} (h : wthB s t = true) : valueL al s ≤ valueL al t := value_le (value_ge0 _ _) (fun x hx hr hw => value_ge hx hr (wth_trans hw h))
theorem norm_sub {al : List At} (hu : ∀ x ∈ al, U64 x.1) {x : At} (h : x ∈ normL al) : x ∈ al ∧ rightA x = true := List.mem_filter.1 (((norm_spec al hu).2 x).1 h).1
/-- Under each right atom lies one of the normal list that is worth as much. -/
theorem norm_under {al : List At} (hu : ∀ x ∈ al, U64 x.1) {x : At} (hx : x ∈ al) (hr : rightA x = true) : ∃ y, y ∈ normL al ∧ wthB y.1 x.1 = true ∧ x.2 ≤ y.2 := by
  have hxR : x ∈ al.filter rightA := List.mem_filter.2 ⟨hx, hr⟩
  obtain ⟨g1, g2⟩ := great_spec al
  have hs : RisesS (sortS (greatL al)) := sortS_rises _ (rises_ne g1)
  have hLm : ∀ y, y ∈ sortS (greatL al) ↔ Top (al.filter rightA) y := fun y => (sortS_mem _ y).trans (g2 y)
  have huL : ∀ x ∈ sortS (greatL al), U64 x.1 := fun x hx => hu x (List.mem_filter.1 ((hLm x).1 hx).1).1
  obtain ⟨t, ht, htx⟩ := top_ex _ x hxR
  obtain ⟨y, hy, hy1, hy2⟩ := und_ex huL (risesS_inj hs) (pcS t.1 + 1) t ((hLm t).2 ht) (by omega)
  have hle := ht.2 x hxR htx.symm
  exact ⟨y, ((norm_spec al hu).2 y).2 ((und_top hLm (top_ex _) y).1 hy), by rw [← htx]; exact hy1, by omega⟩
theorem norm_value (al : List At) (s : Int) (hu : ∀ x ∈ al, U64 x.1) : valueL (normL al) s = valueL al s := by
  have h1 : valueL (normL al) s ≤ valueL al s := value_le (value_ge0 _ _) (fun x hx hr hw => value_ge (norm_sub hu hx).1 hr hw)
  have h2 : valueL al s ≤ valueL (normL al) s := value_le (value_ge0 _ _) (fun x hx hr hw => by
    obtain ⟨y, hy, hy1, hy2⟩ := norm_under hu hx hr
    have := value_ge hy (norm_sub hu hy).2 (wth_trans hy1 hw)
    omega)
  omega
theorem norm_own (al : List At) (hu : ∀ x ∈ al, U64 x.1) {a : At} (ha : a ∈ normL al) : valueL (normL al) a.1 = a.2 := by
  have hr := (norm_sub hu ha).2
  have h0 : 0 ≤ a.2 := by unfold rightA at hr; have := of_decide_eq_true hr; omega
  have h1 := value_ge ha hr (wth_refl a.1)
  have hund := ((norm_spec al hu).2 a).1 ha
  have h2 : valueL (normL al) a.1 ≤ a.2 := value_le h0 (fun x hx hxr hw => by
    rcases Int.le_total a.2 x.2 with hle | hle
    · have := hund.2 x (((norm_spec al hu).2 x).1 hx).1 hw hle
      rw [this]; exact Int.le_refl _
    · exact hle)
  omega
theorem norm_ext {a b : List At} (ha : ∀ x ∈ a, U64 x.1) (hb : ∀ x ∈ b, U64 x.1) (h : ∀ x, x ∈ a ↔ x ∈ b) : normL a = normL b := by
  obtain ⟨a1, a2⟩ := norm_spec a ha
  obtain ⟨b1, b2⟩ := norm_spec b hb
  refine risesS_ext a1 b1 (fun x => ?_)
  rw [a2, b2]
  have hf : ∀ y, y ∈ a.filter rightA ↔ y ∈ b.filter rightA := fun y => by rw [List.mem_filter, List.mem_filter, h]
  unfold Und
  rw [hf]
  exact and_congr_right (fun _ => ⟨fun h2 y hy => h2 y ((hf y).2 hy), fun h2 y hy => h2 y ((hf y).1 hy)⟩)
theorem norm_norm (al : List At) (hu : ∀ x ∈ al, U64 x.1) : normL (normL al) = normL al := by
  have huN : ∀ x ∈ normL al, U64 x.1 := fun x hx => hu x (norm_sub hu hx).1
  obtain ⟨n1, n2⟩ := norm_spec al hu
  obtain ⟨m1, m2⟩ := norm_spec (normL al) huN
  refine risesS_ext m1 n1 (fun x => ?_)
  rw [m2]
  constructor
  · intro h; exact (List.mem_filter.1 h.1).1
  · intro h
    refine ⟨List.mem_filter.2 ⟨h, (norm_sub hu h).2⟩, fun y hy hw hv => ?_⟩
    exact ((n2 x).1 h).2 y ((n2 y).1 (List.mem_filter.1 hy).1).1 hw hv
end Go.Proofs.Ytbicngaanhmabaa.AtM
/- The laws' arguments: rows of atoms. -/
namespace Go.Proofs.Ytbicngaanhmabaa.R09
open Go.RowKit Go.Proofs.YtbicngaanhmabaaW.PrintWords Go.Proofs.Ytbicngaanhmabaa.H Go.Proofs.Ytbicngaanhmabaa.AtM Go.Proofs.Ytbicngaanhmabaa.PAll9
set_option linter.unusedVariables false
theorem opensA : Opens Try.prog 26 KAt (fun x => (Lit.int .u64 x.1).wf = true ∧ (Lit.int .i64 x.2).wf = true) :=
  opens_struct Try.underlying26 (by kernel_rfl) (opens_cons rfl (by kernel_rfl) (opens_int Try.underlying23) (opens_last rfl (by kernel_rfl) (opens_int Try.underlying2)))
theorem opensAs : Opens Try.prog 22 (Kd.slice 26 KAt) (fun l => ∀ x ∈ l, (Lit.int .u64 x.1).wf = true ∧ (Lit.int .i64 x.2).wf = true) := opens_slice (0, 0) Try.underlying22 (by kernel_rfl) opensA
theorem goodA {l : List At} (g : ∀ x ∈ l, (Lit.int .u64 x.1).wf = true ∧ (Lit.int .i64 x.2).wf = true) : ∀ x ∈ l, U64 x.1 := fun x hx => wf_u64 (g x hx).1
theorem C_of {W : World} {A : Option Addr} {l : List At} (m : Kd.C KAt W A l.length l) : Kd.C k26 W A (l.map ofA).length (l.map ofA) := by
  rw [List.length_map]
  exact C_iso' (by
    have : ((l.map ofA).map fun x : SA => (x.f0, x.f1)) = l := to_of l
    rw [this]; exact m)
theorem and_mask (a : Int) (m : Nat) (hm : m < 9223372036854775808) : 0 ≤ bits .and .i64 a (m : Int) ∧ bits .and .i64 a (m : Int) ≤ m := by
  have e : bits .and .i64 a (m : Int) = IntKind.i64.wrap (((BitVec.ofInt 64 a) &&& (BitVec.ofInt 64 (m : Int))).toNat : Int) := rfl
  have hle : ((BitVec.ofInt 64 a) &&& (BitVec.ofInt 64 (m : Int))).toNat ≤ m := by
    rw [BitVec.ofInt_natCast, BitVec.toNat_and, BitVec.toNat_ofNat, Nat.mod_eq_of_lt (by omega : m < 2 ^ 64)]
    exact Nat.and_le_right
  rw [e, IntKind.wrap_i64]
  generalize ((BitVec.ofInt 64 a) &&& (BitVec.ofInt 64 (m : Int))).toNat = z at hle ⊢
  omega
end Go.Proofs.Ytbicngaanhmabaa.R09
/- AtomValues: whatever the atoms and the sets, the statement's function answers true. No condition. -/
namespace Go.Proofs.Ytbicngaanhmabaa.MAtomValues
open Go.RowKit Go.Proofs.YtbicngaanhmabaaW.PrintWords Go.Proofs.YtbicngaanhmabaaW.PrintLast Go.Proofs.YtbicngaanhmabaaW.PrintMore Go.Proofs.Ytbicngaanhmabaa.H Go.Proofs.Ytbicngaanhmabaa.Ult Go.Proofs.Ytbicngaanhmabaa.AtM Go.Proofs.Ytbicngaanhmabaa.R02 Go.Proofs.Ytbicngaanhmabaa.R09 Go.Proofs.Ytbicngaanhmabaa.PAll9
set_option linter.unusedVariables false
set_option linter.unusedSimpArgs false
theorem opens : Opens Try.prog 22 (Kd.slice 26 KAt) (fun l => ∀ x ∈ l, (Lit.int .u64 x.1).wf = true ∧ (Lit.int .i64 x.2).wf = true) := opensAs
theorem opens2 : Opens Try.prog 38 (Kd.slice 23 (Kd.int .u64)) (fun l => ∀ x ∈ l, (Lit.int .u64 x).wf = true) := opens_slice 0 Try.underlying38 (by kernel_rfl) (opens_int Try.underlying23)
theorem loop1 (al : List At) (hu : ∀ x ∈ al, U64 x.1) (hl : (normL al).length ≤ 80) : ∀ (d i : Nat), i + d = (normL al).length →
    Ult (fun k => saleroomlaw09_AtomValues.l1 k ((normL al).map ofA) ((normL al).map ofA) ((normL al).length : Int) (i : Int)) true := by
  intro d
  induction d with
  | zero =>
    intro i hi
    refine Ult.succ ?_
    simp only [saleroomlaw09_AtomValues.l1, List.length_map]
    exact Ult.neg (by omega) (.pure _)
  | succ d ih =>
    intro i hi
    have hil : i < (normL al).length := by omega
    refine Ult.succ ?_
    simp only [saleroomlaw09_AtomValues.l1, List.length_map, rd_of]
    rw [show wrap64 ((i : Int) + 1) = ((i + 1 : Nat) : Int) by rw [w64 (by omega) (by omega)]; rfl]
    have huN := normL_u hu
    have hm := g0_mem hil
    refine Ult.pos (by omega) (Ult.pos (by omega) (Ult.pos (by omega) (Ult.bind0 (value_f (normL al) _ (huN _ hm) huN) (Ult.pos ?_ (ih (i + 1) (by omega))))))
    exact norm_own al hu hm
theorem loop0 (al : List At) (ss : List Int) (hs : ∀ s ∈ ss, U64 s) (hu : ∀ x ∈ al, U64 x.1) (hl : (normL al).length ≤ 80) (hsl : ss.length ≤ 40) : ∀ (d i : Nat), i + d = ss.length →
    Ult (fun k => saleroomlaw09_AtomValues.l0 k (al.map ofA) ((normL al).map ofA) ss (ss.length : Int) (i : Int)) true := by
  intro d
  induction d with
  | zero =>
    intro i hi
    refine Ult.succ ?_
    simp only [saleroomlaw09_AtomValues.l0, List.length_map]
    exact Ult.neg (by omega) (loop1 al hu hl (normL al).length 0 (by omega))
  | succ d ih =>
    intro i hi
    have hil : i < ss.length := by omega
    refine Ult.succ ?_
    simp only [saleroomlaw09_AtomValues.l0, List.length_map]
    rw [show wrap64 ((i : Int) + 1) = ((i + 1 : Nat) : Int) by rw [w64 (by omega) (by omega)]; rfl]
    have hr : rd ss (i : Int) = ss[i] := by
      unfold rd; rw [Int.toNat_natCast, List.getD_eq_getElem?_getD, List.getElem?_eq_getElem hil]; rfl
    rw [hr]
    have hx := hs _ (List.getElem_mem hil)
    refine Ult.pos (by omega) (Ult.pos (by omega) (Ult.pos (by omega) (Ult.bind0 (value_f (normL al) _ hx (normL_u hu)) (Ult.bind0 (value_f al _ hx hu) (Ult.pos (norm_value al _ hu) (ih (i + 1) (by omega)))))))
theorem pure (al : List At) (ss : List Int) (hs : ∀ s ∈ ss, U64 s) (hu : ∀ x ∈ al, U64 x.1) : ∃ k, saleroomlaw09_AtomValues.f k (al.map ofA) ss = some true := by
  refine Ult.get ?_
  unfold saleroomlaw09_AtomValues.f
  refine Ult.bind0 rfl (Ult.pos rfl ?_)
  simp only [List.length_map]
  have hj : ∀ b : Bool, (b = false → al.length ≤ 80 ∧ ss.length ≤ 40) → Ult (fun k => saleroomlaw09_AtomValues.j0 k (al.map ofA) ss b) true := by
    intro b hb
    refine Ult.succ ?_
    simp only [saleroomlaw09_AtomValues.j0, List.length_map]
    refine Ult.ite (fun h => .pure _) (fun h => ?_)
    obtain ⟨h1, h2⟩ := hb (Bool.eq_false_iff.2 h)
    have hN := normL_len al
    have huN := normL_u hu
    have hm : U64 18446744073709551615 := by unfold U64; omega
    refine Ult.bind0 (normal_f al hu (by omega)) (Ult.bind (isNormal_ev _ huN (by omega)) (Ult.pos (decide_eq_true (norm_norm al hu)) ?_))
    simp only [List.length_map]
    refine Ult.neg (by omega) (Ult.bind0 (normal_f _ huN (by omega)) ?_)
    rw [norm_norm al hu]
    refine Ult.bind (same_ev _ _ (by omega)) (Ult.pos (by simp) (Ult.bind0 (most_f _ huN) (Ult.bind0 (most_f al hu) ?_)))
    rw [norm_value al _ hu]
    refine Ult.succ ?_
    simp only [saleroomlaw09_AtomValues.j1, List.length_map]
    exact Ult.neg (by simp) (loop0 al ss hs hu (by omega) h2 ss.length 0 (by omega))
  refine Ult.ite (fun h => hj true (fun h => by cases h)) (fun h => hj _ (fun h2 => ?_))
  have h2 := of_decide_eq_false h2
  omega
theorem main (A : Option Addr) (c : Nat) (l : List At) (hc : l.length ≤ c) {W0 : World} (m : Kd.C KAt W0 A l.length l) (g : ∀ x ∈ l, (Lit.int .u64 x.1).wf = true ∧ (Lit.int .i64 x.2).wf = true)
    (A2 : Option Addr) (c2 : Nat) (l2 : List Int) (hc2 : l2.length ≤ c2) (m2 : Kd.C (Kd.int .u64) W0 A2 l2.length l2) (g2 : ∀ x ∈ l2, (Lit.int .u64 x).wf = true) (W : World) (hW : W0 = W := by rfl) :
    Calls Try.prog 4 #[.slice A l.length c, .slice A2 l2.length c2] W fun e W' => e = .returned (.bool true) ∧ Below W.heap.size W W' := by
  subst hW
  obtain ⟨k, hk⟩ := pure l l2 (fun s hs => wf_u64 (g2 s hs)) (goodA g)
  have h := saleroomlaw09_AtomValues.calls k A c (l.map ofA) A2 c2 l2 true W0 (C_of m) (by rw [List.length_map]; exact hc) m2 hc2 hk
  rwa [List.length_map] at h
end Go.Proofs.Ytbicngaanhmabaa.MAtomValues
