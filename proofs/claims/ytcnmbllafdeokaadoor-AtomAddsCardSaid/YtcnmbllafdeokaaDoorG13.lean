/- Some texts of one seat in one file, in build order. -/
import Derived.Test.YtcnmbllafdeokaaDoorG12
import Derived.Shelf.SlSortCmp.NoneTotal
import Derived.Test.YtcnmbllafdeokaaDoorG4
import Derived.Test.YtcnmbllafdeokaaDoorG11
import Derived.Test.YtcnmbllafdeokaaDoorG5
import Derived.Test.YtcnmbllafdeokaaDoorG9
/- slices.SortFunc at atoms whose sets are apart: the call. -/
namespace Go.Proofs.YtcnmbllafdeokaaDoor.H
open Go.Shelf Go.Lib Go.Sort Go.RowKit Go.Proofs.YtcnmbllafdeokaaDoorW.PrintWords Go.Proofs.YtcnmbllafdeokaaDoorW.PrintLast Go.Proofs.YtcnmbllafdeokaaDoorW.PrintMore Go.Proofs.YtcnmbllafdeokaaDoor.TrM Go.Proofs.YtcnmbllafdeokaaDoor.AtM
set_option linter.unusedVariables false
set_option linter.unusedSimpArgs false
theorem Sort_calls (L : List At) (hu : ∀ x ∈ L, U64 x.1) (hd : L.Pairwise (fun x y => x.1 ≠ y.1)) (hl : L.length ≤ 600000) (v : Value) {base : Nat} {ok : Nat → Prop} (W : World) (h : Kd.R KAt 28 W base ok v L) :
    Calls Tryd.prog 34 #[v, .func (.func 35) #[] #[]] W fun e W' => e = .returned (.tuple #[]) ∧ Kd.R KAt 28 W' base ok v (sortS L) ∧ But (fun k => v.ownBlock = some k) W W' := by
  have hR := h
  obtain ⟨_, inner, ho, _⟩ := h
  rcases ho.2 with ⟨rfl, hn⟩ | ⟨g, cap, cur, rfl, hb, hh, hcl, hcap, _, _⟩
  · obtain rfl : L = [] := List.eq_nil_of_length_eq_zero hn
    have hcon := AnyF.slices_SortFunc_none Tryd.sortIv none 0 (.func (.func 35) #[] #[]) W
    exact hcon.mono fun e W' ⟨h1, h2⟩ => ⟨h1, by rw [h2]; exact hR, by rw [h2]; exact But.refl _ _⟩
  · cases hL : L with
    | nil =>
      subst hL
      have hcon := AnyF.slices_SortFunc_none Tryd.sortIv (some ⟨g, 0, none⟩) cap (.func (.func 35) #[] #[]) W
      exact hcon.mono fun e W' ⟨h1, h2⟩ => ⟨h1, by rw [h2]; exact hR, by rw [h2]; exact But.refl _ _⟩
    | cons a0 L0 =>
      rw [← hL]
      have ha : a0 ∈ L := by rw [hL]; simp
      clear hL L0
      haveI : Inhabited (AtIn L) := ⟨⟨a0, ha⟩⟩
      have hH := holds_R hR
      have hsz : L.attach.toArray.size = L.length := by simp
      have eg : ∀ args w, (callFunc 35 args).run Tryd.prog w = .ok (.enter 35 args) w := enters_of Tryd.func35 (by kernel_rfl) rfl
      have hcmp : CmpLays Tryd.prog 35 #[] (fun x : AtIn L => YtcnmbllafdeokaaDoor.encA x.1) 2 (cfIn L) g 0 L.attach.toArray.size W :=
        fun _ _ _ _ x y => YtcnmbllafdeokaaDoor.normCmp x.1 y.1 _ (hu _ x.2) (hu _ y.2)
      have hcon := AnyQ.slices_SortFunc_total Tryd.sortIv 2 Tryd.isAgg28 Tryd.sizeOf28 (fun x : AtIn L => YtcnmbllafdeokaaDoor.encA x.1) (fun _ => rfl) (fun x v hv => by simp [YtcnmbllafdeokaaDoor.encA] at hv; rcases hv with rfl | rfl <;> rfl) (cfIn L) (swoIn L) 35 #[] g 0 cap L.attach.toArray W eg hcmp hH (lt_of_some hh) (by rw [hsz]; omega) (totIn hd)
      change Calls Tryd.prog 34 _ _ _ at hcon
      rw [hsz] at hcon
      refine hcon.mono ?_
      rintro e W' ⟨h1, n, os, rfl⟩
      have hm : (L.attach.mergeSort fun x y => !(ltOf (cfIn L)) y x).toArray.size = L.length := by simp [List.length_mergeSort, List.length_attach]
      have h3 := R_sorted hR n (L.attach.mergeSort fun x y => !(ltOf (cfIn L)) y x).toArray os hm
      have h4 := merged hd
      simp only [h4] at h3
      exact ⟨h1, h3, .of_oth (oth_sortK _ _ _ _ _ _ _ _) rfl⟩
end Go.Proofs.YtcnmbllafdeokaaDoor.H
/- atom.greatest: the right atoms, of each set the one of the greatest value, as sets stand. -/
namespace Go.Proofs.YtcnmbllafdeokaaDoor.H
open Go.RowKit Go.Proofs.YtcnmbllafdeokaaDoorW.PrintWords Go.Proofs.YtcnmbllafdeokaaDoorW.PrintLast Go.Proofs.YtcnmbllafdeokaaDoorW.PrintMore Go.Proofs.YtcnmbllafdeokaaDoor.TrM Go.Proofs.YtcnmbllafdeokaaDoor.AtM
set_option linter.unusedVariables false
set_option linter.unusedSimpArgs false
set_option maxRecDepth 100000
attribute [local go_sem] Oper.semAt_some wide_fn wide_depth
theorem TbAt.lies {B : Nat} {W W' : World} {gt : Nat} {xs : List (Int × Int)} (h : TbAt W gt xs) (hl : Lies B W W') : TbAt W' gt xs := by
  obtain ⟨⟨p, t, h1, h2, h3⟩⟩ := h
  exact ⟨⟨p, t, hl.blk h1, h2.mono (fun g cs hg => hl.blk hg), h3⟩⟩
theorem great_rises : ∀ (pre acc : List At), Rises ltN acc → Rises ltN (pre.foldl great1 acc) := by
  intro pre
  induction pre with
  | nil => intro acc h; exact h
  | cons x pre ih => intro acc h; exact ih _ (ins_rises ordN _ _ _ h)
theorem insL_len (k v : Int) : ∀ xs : List (Int × Int), (insL ltN k v xs).length ≤ xs.length + 1 := by
  intro xs
  induction xs with
  | nil => simp [insL]
  | cons y ys ih =>
    obtain ⟨k', v'⟩ := y
    unfold insL
    split
    · simp
    · split
      · simp; omega
      · simp
theorem great_len : ∀ (pre acc : List At), (pre.foldl great1 acc).length ≤ acc.length + pre.length := by
  intro pre
  induction pre with
  | nil => intro acc; simp
  | cons x pre ih =>
    intro acc
    have h1 := ih (great1 acc x)
    have h2 : (great1 acc x).length ≤ acc.length + 1 := insL_len _ _ _
    rw [List.foldl_cons, List.length_cons]
    omega
theorem greatL_u {al : List At} (hu : ∀ x ∈ al, U64 x.1) : ∀ x ∈ greatL al, U64 x.1 := fun x hx => hu x (List.mem_filter.1 (((great_spec al).2 x).1 hx).1).1
theorem info_at : (Tryd.prog.info? 28).map (fun i => (i.zero, i.size, i.bytes)) = some (some (.agg #[.int .u64 0, .int .i64 0]), 2, 16) := by kernel_rfl
theorem MAt (W : World) (base : Nat) (ok : Nat → Prop) (s v : Int) : KAt.M W base ok (s, v) [.int .u64 s, .int .i64 v] := ⟨[_], [_], rfl, rfl, rfl⟩
theorem C_liesA {B : Nat} {W W' : World} (h : Lies B W W') {A : Option Addr} {n : Nat} {xs : List At} (hc : Kd.C KAt W A n xs) : Kd.C KAt W' A n xs :=
  ⟨hc.1, hc.2.1, fun hn => by
    obtain ⟨ad, e, hr⟩ := hc.2.2 hn
    refine ⟨ad, e, fun j p hj => ?_⟩
    obtain ⟨c, hs, hR, hcell⟩ := hr j p hj
    exact ⟨c, hs, hR, fun i u hu => h.cell (hcell i u hu)⟩⟩
/-- greatest's table is behind it: its box, the place of the list's box. -/
structure GrI (W X : World) (D gb : Nat) (pre : List At) : Prop where
  row : ∃ A c, X.heap[gb]? = some (.cells #[.slice A pre.length c] 22 (0, 0)) ∧ Kd.R KAt 28 X (gb + 2) (fun _ => True) (.slice A pre.length c) pre
  dfr : X.heap[D]? = some (.deferred (some []))
  below : Below W.heap.size W X
theorem GrI.lies {W X Y : World} {D gb B : Nat} {pre : List At} (h : GrI W X D gb pre) (hl : Lies B X Y) (hD : D < B) (hB : W.heap.size ≤ B) : GrI W Y D gb pre := by
  obtain ⟨A, c, h1, h2⟩ := h.row
  exact ⟨⟨A, c, hl.blk h1, hl.R h2⟩, hl.same _ _ h.dfr (.inl hD), hl.below h.below hB (Nat.le_refl _)⟩
set_option maxHeartbeats 1600000 in
theorem greatest_calls (al : List At) (A : Option Addr) (c : Nat) (W : World) (hC : Kd.C KAt W A al.length al) (hu : ∀ x ∈ al, U64 x.1) (hlen : al.length ≤ 600000) :
    Calls Tryd.prog 22 #[.slice A al.length c] W fun e W' => ∃ v, e = .returned v ∧ Kd.R KAt 28 W' W.heap.size (fun _ => True) v (sortS (greatL al)) ∧ Below W.heap.size W W' := by
  refine (callsIn_wide (n := 8)).1 ?_
  refine callsIn_of_wp_marks Tryd.func22 rfl trivial ?_ rfl
  simp only [Tryd.ntmps22, List.size_toArray, List.length_cons, List.length_nil, Nat.reduceAdd, Nat.reduceSub, Array.replicate_succ, Array.replicate_zero, List.push_toArray, List.append_toArray, List.nil_append, List.cons_append]
  have HC := Aside0.mk hC
  have hgu := greatL_u hu
  have hgl : (greatL al).length ≤ 600000 := by
    have h1 := great_len (al.filter rightA) []
    have h2 := List.length_filter_le rightA al
    unfold greatL
    simp only [List.length_nil] at h1
    omega
  have hgr := (great_spec al).1
  have HG0 := Aside0.mk (And.intro hgu (And.intro hgl hgr))
  clear hC hgu hgl hgr
  gi_wp2_with (gi_at_call 25; refine (callsIn_wide.2 (right_calls _ _ _ _)).mono ?_; rintro e w1 ⟨rfl, rfl⟩)
  have hB : Below W.heap.size W ((W.alloc (.cells #[.pointer none] 59)).alloc (.cells #[.slice A al.length c] 22)) := below_alloc (below_alloc (Below.refl _ _) _) _
  have g0 : ((W.alloc (.cells #[.pointer none] 59)).alloc (.cells #[.slice A al.length c] 22)).heap[W.heap.size]? = some (.cells #[.pointer none] 59 (0, 0)) := blk_alloc (blk_new W _) _
  have g1 : ((W.alloc (.cells #[.pointer none] 59)).alloc (.cells #[.slice A al.length c] 22)).heap[W.heap.size + 1]? = some (.cells #[.slice A al.length c] 22 (0, 0)) := blk_new2 W _ _
  have hsz : ((W.alloc (.cells #[.pointer none] 59)).alloc (.cells #[.slice A al.length c] 22)).heap.size = W.heap.size + 2 := by simp
  generalize ((W.alloc (.cells #[.pointer none] 59)).alloc (.cells #[.slice A al.length c] 22)) = w2 at hB g0 g1 hsz
  have t0 : TbAt w2 W.heap.size (([] : List At).foldl great1 []) := ⟨⟨none, .lf, g0, rfl, rfl⟩⟩
  refine rangeZ rfl (by omega) (gf := 39) (lb := #[.pointer (some ⟨W.heap.size + 1, 0, none⟩)]) rfl trivial (enters_of Tryd.func39 (by kernel_rfl) rfl)
    (Y := AtY (al.filter rightA)) (n₀ := w2.heap.size) (Kb := fun k => k ≠ W.heap.size) (S := fun xs => xs = al.filter rightA) (Sp := fun _ => True)
    (SeqX.z (T := TA) (right1_seq _ al A c (W.heap.size + 1) w2.heap.size _ w2
      (fun X hk => by rw [blk_cell ((hk.2 (W.heap.size + 1) (by omega) (by omega)).trans g1) 0]; rfl)
      (fun X hk => C_blocksA HC.out (fun i hi => (hk.2 i (by omega) (by omega)).trans (hB.block i hi))) (Nat.le_refl _))) (Nat.le_refl _)
    (fun _ _ _ _ hy => by obtain ⟨_, rfl⟩ := hy; rfl)
    (fun pre X => TbAt X W.heap.size (pre.foldl great1 []) ∧ Below W.heap.size W X) (fun _ _ _ => False)
    (fun _ P Q h hlie => ⟨h.1.lies hlie, hlie.below h.2 (by omega) (Nat.le_refl _)⟩) (fun _ _ _ _ h _ => h) ⟨t0, hB⟩ ?round ?done (fun _ _ _ _ _ _ h _ => h.elim)
  case round =>
    rintro l pre ⟨xs, xv⟩ vs X hl2 ⟨hI1, hI2⟩ ⟨hpre, rfl⟩ hXs
    have hR := great_rises pre [] List.Pairwise.nil
    have hL : (pre.foldl great1 []).length ≤ 600000 := by
      have h1 := great_len pre []
      have h2 := hpre.length_le
      have h3 := List.length_filter_le rightA al
      simp only [List.length_append, List.length_cons, List.length_nil] at h1 h2
      omega
    have hms : (pre ++ [(xs, xv)]).foldl great1 [] = insL ltN xs (max (AtM.valOf xs (pre.foldl great1 [])) xv) (pre.foldl great1 []) := by rw [List.foldl_append]; rfl
    have HM := Lib.hid hms
    obtain ⟨m, hm⟩ : ∃ m, AtM.valOf xs (pre.foldl great1 []) = m := ⟨_, rfl⟩
    have HMM := Lib.hid hm
    have HR := Aside0.mk (And.intro hR hL)
    clear hms hm hpre hR hL
    gi_wp2
    refine ⟨Kin.of_below (below_alloc (Below.refl _ _) _) (Nat.le_refl _), Kp.of_below (below_alloc (Below.refl _ _) _) (by omega), ?_⟩
    intro Wb hlie
    have g3 := hlie.blk (blk_new X (.cells #[.int .u64 xs, .int .i64 xv] 28))
    have g4 := (hI1.below (below_alloc (Below.refl _ _) (.cells #[.int .u64 xs, .int .i64 xv] 28))).lies hlie
    have gB := hlie.below (below_alloc hI2 (.cells #[.int .u64 xs, .int .i64 xv] 28)) (by omega) (Nat.le_refl _)
    have y0 : Wb.cell? ⟨X.heap.size, 0, none⟩ = some (.int .u64 xs) := by rw [blk_cell g3]; rfl
    have y1 : Wb.cell? ⟨X.heap.size, 1, none⟩ = some (.int .i64 xv) := by rw [blk_cell g3]; rfl
    have hXb : X.heap.size ≤ Wb.heap.size := Nat.le_trans (by simp) hlie.size
    have HG := Aside0.mk (And.intro g4 gB)
    clear g3 g4 gB hI1 hI2 hlie
    gi_wp2_with (first
      | (gi_at_call 31; refine (CallsIn.inRound l (callsIn_wide.2 (Get_calls _ _ _ _ HG.out.1 HR.out.1))).mono ?_; rintro e w1 ⟨⟨bb, rfl⟩, rfl⟩; rw [HMM.out])
      | (gi_at_call 32; refine (CallsIn.inRound l (callsIn_wide.2 (Put_calls _ _ _ _ _ HG.out.1 HR.out.1 HR.out.2))).mono ?_; rintro e w1 ⟨⟨bb, rfl⟩, hp1, hp2⟩; have HP := Aside0.mk (And.intro hp1 hp2); clear hp1 hp2))
    refine ⟨⟨HP.out.2.size, fun k h1 h2 _ => HP.out.2.block k (by omega) (by omega)⟩, ⟨HP.out.2.size, fun k h1 h2 => HP.out.2.block k (by omega) h2⟩, ?_, HP.out.2.below HG.out.2 (Nat.le_refl _)⟩
    rw [HM.out, HMM.out]
    exact HP.out.1
  case done =>
    rintro D xs X hD rfl ⟨hI1, hI2⟩ hKd
    have HI := Aside0.mk (And.intro hI1 (And.intro hI2 hKd))
    clear hI1 hI2 hKd g0 g1 t0 hB
    gi_wp2_with (gi_at_call 33; refine (callsIn_wide.2 (All_calls _ _)).mono ?_; rintro e w1 ⟨rfl, rfl⟩)
    obtain ⟨⟨p, tt, k1, k2, k3⟩⟩ := HI.out.1
    have hXW : W.heap.size < X.heap.size := lt_of_some k1
    have hDX := lt_of_some HI.out.2.2
    have hb4 : Below X.heap.size X ((X.alloc (.cells #[.slice none 0 0] 22)).alloc (.cells #[.pointer (some ⟨W.heap.size, 0, none⟩)] 72)) := below_alloc (below_alloc (Below.refl _ _) _) _
    have h0 : ((X.alloc (.cells #[.slice none 0 0] 22)).alloc (.cells #[.pointer (some ⟨W.heap.size, 0, none⟩)] 72)).heap[X.heap.size]? = some (.cells #[.slice none 0 0] 22 (0, 0)) := blk_alloc (blk_new X _) _
    have h1 : ((X.alloc (.cells #[.slice none 0 0] 22)).alloc (.cells #[.pointer (some ⟨W.heap.size, 0, none⟩)] 72)).heap[X.heap.size + 1]? = some (.cells #[.pointer (some ⟨W.heap.size, 0, none⟩)] 72 (0, 0)) := blk_new2 X _ _
    have hsz4 : ((X.alloc (.cells #[.slice none 0 0] 22)).alloc (.cells #[.pointer (some ⟨W.heap.size, 0, none⟩)] 72)).heap.size = X.heap.size + 2 := by simp
    generalize ((X.alloc (.cells #[.slice none 0 0] 22)).alloc (.cells #[.pointer (some ⟨W.heap.size, 0, none⟩)] 72)) = w4 at hb4 h0 h1 hsz4
    have k1' := blk_belowX k1 hb4
    have k2' := k2.below hb4
    have hGr0 : GrI W w4 D X.heap.size [] := ⟨⟨none, 0, h0, Kd.R_nil _ _ _ _ _⟩, blk_belowX HI.out.2.2 hb4, below_step HI.out.2.1 hb4⟩
    have hlen4 : W.heap.size ≤ w4.heap.size := by omega
    refine rangeX rfl (by omega) (gf := 42) (lb := #[.pointer (some ⟨X.heap.size + 1, 0, none⟩)]) rfl trivial (enters_of Tryd.func42 (by kernel_rfl) rfl)
      (Y := AllY (greatL al)) (n₀ := w4.heap.size) (Kb := fun k => k ≠ X.heap.size) (S := fun xs => xs = greatL al) (Sp := fun _ => True)
      (All1_seq _ (greatL al) tt p W.heap.size (X.heap.size + 1) w4.heap.size _ w4 k3
        (fun Y hk => by rw [blk_cell ((hk.2 (X.heap.size + 1) (by omega) (by omega)).trans h1) 0]; rfl)
        (fun Y hk => by rw [blk_cell ((hk.2 W.heap.size (by omega) (by omega)).trans k1') 0]; rfl)
        (k2'.u (fun g cs hg Y hk => (hk.2 g (lt_of_some hg) (ne_blk hg h0 (by decide))).trans hg)) (Nat.le_refl _)) (Nat.le_refl _)
      (fun _ _ _ _ hy => by obtain ⟨_, rfl⟩ := hy; rfl)
      (fun pre Y => GrI W Y D X.heap.size pre) (fun _ _ _ => False)
      (fun _ P Q h hlie => h.lies hlie (by omega) hlen4) (fun _ _ _ _ h _ => h) hGr0 ?round2 ?done2 (fun _ _ _ _ _ _ h _ => h.elim)
    case round2 =>
      rintro l pre ⟨xs, xv⟩ vs Y hl2 hI ⟨hpre, rfl⟩ hYs
      have hpl : pre.length + 1 ≤ 600000 := by
        have h1 := hpre.length_le
        have h2 := HG0.out.2.1
        simp only [List.length_append, List.length_cons, List.length_nil] at h1
        omega
      clear hpre
      gi_wp2
      refine ⟨KeepsFrom.of_below (Below.refl _ _), Kp.refl _ _ _, ?_⟩
      intro Wb hlie
      have hI2 := hI.lies hlie (by omega) hlen4
      obtain ⟨Ap, cp, i1, i2⟩ := hI2.row
      have d0 : Wb.cell? ⟨X.heap.size, 0, none⟩ = some (.slice Ap pre.length cp) := by rw [blk_cell i1]; rfl
      have hWbs : w4.heap.size ≤ Wb.heap.size := Nat.le_trans hYs hlie.size
      obtain ⟨pn, hpn⟩ : ∃ n, pre.length = n := ⟨_, rfl⟩
      rw [hpn] at i1 i2 hpl d0
      have I := Aside0.mk (And.intro i1 (And.intro i2 (And.intro hI2 hpn)))
      clear i1 i2 hI2 hI hlie hpn
      gi_wp2_with (gi_at_builtin; refine RIn_append KAt (w0 := Wb) (X.heap.size + 2) rfl (.tmp 29) (.tmp 33) 22 28 (.agg #[.int .u64 0, .int .i64 0]) 16 rfl Tryd.underlying22 info_at rfl (by decide) (by omega) _ pre (xs, xv) [.int .u64 xs, .int .i64 xv] (fun _ => True) (fun _ => False) rfl rfl (MAt _ _ _ _ _) (fun _ hk => hk.elim) (fun _ _ => trivial) I.out.2.1 (Below.refl _ _) (by omega) (by rw [I.out.2.2.2]; omega) ?_; intro v7 w7 ho7 hb7 hg7 hat7; obtain ⟨A7, c7, e7⟩ := Kd.R_slice ho7; subst e7; rw [List.length_append, List.length_singleton, I.out.2.2.2] at ho7; rw [List.length_append, List.length_singleton, I.out.2.2.2]; have hx7 := blk_grown I.out.2.1 I.out.1 (by decide) hg7; have d7 := blk_cell hx7 0; have f7 := blk_frozen hx7 0; have s7 := blk_lt hx7; have HO7 := Aside0.mk (And.intro ho7 (And.intro hb7 (And.intro hg7 hx7))); clear ho7 hb7 hg7 hat7 hx7)
      obtain ⟨j1, j2, j3, j4⟩ := I.out
      obtain ⟨q1, q2, q3, q4⟩ := HO7.out
      have hoth : Oth X.heap.size w7 (w7.setCell ⟨X.heap.size, 0, none⟩ (.slice A7 (pn + 1) c7)) := Oth.set w7 ⟨X.heap.size, 0, none⟩ _
      have hbut : But (fun i => i = X.heap.size ∨ some i = (Value.slice Ap pn cp).ownBlock) Wb (w7.setCell ⟨X.heap.size, 0, none⟩ (.slice A7 (pn + 1) c7)) := (But.of_grown q3 (fun i hi => .inr hi.symm)).trans (.of_oth hoth (.inl rfl))
      have hown : ∀ i, some i = (Value.slice Ap pn cp).ownBlock → ∃ cells, Wb.heap[i]? = some (.cells cells 28 (0, 0)) ∧ w4.heap.size ≤ i := fun i hi => by
        obtain ⟨_, ho'⟩ := Kd.R_own j2
        obtain ⟨cells, hc⟩ := own_typed ho' i hi.symm
        exact ⟨cells, hc, by have := own_base ho' i hi.symm; omega⟩
      have hPc : ∀ i o, (i = X.heap.size ∨ some i = (Value.slice Ap pn cp).ownBlock) → Wb.heap[i]? = some o → o.isCells = true := by
        rintro i o (rfl | hi) ho
        · rw [j1] at ho; cases ho; rfl
        · obtain ⟨cells, hc, _⟩ := hown i hi
          rw [hc] at ho; cases ho; rfl
      refine ⟨KeepsFrom.of_but hbut hPc, Kp.of_but hbut (fun i hi hk => by
        rintro (rfl | h)
        · exact hk rfl
        · obtain ⟨_, _, h7⟩ := hown i h; omega) (by omega), ⟨⟨A7, c7, ?_, ?_⟩, hbut.blk j3.dfr ?_, hbut.below j3.below (j3.below.size) ?_⟩⟩
      · have := blk_put q4 0 (.slice A7 (pn + 1) c7) rfl
        simp only [List.length_append, List.length_singleton, j4]
        exact this
      · simp only [List.length_append, List.length_singleton, j4]
        exact Kd.R_set q1 q4 (by decide) 0 _
      · rintro (h | h)
        · omega
        · obtain ⟨_, _, h7⟩ := hown _ h; omega
      · rintro k (rfl | h)
        · omega
        · obtain ⟨_, _, h7⟩ := hown k h; omega
    case done2 =>
      rintro D2 ys X2 hD2 rfl hI hKd2
      obtain ⟨Ap, cp, i1, i2⟩ := hI.row
      have d0 : X2.cell? ⟨X.heap.size, 0, none⟩ = some (.slice Ap (greatL al).length cp) := by rw [blk_cell i1]; rfl
      have HJ := Aside0.mk (And.intro i1 (And.intro i2 (And.intro hI hKd2)))
      clear i1 i2 hI hKd2
      gi_wp2_with (gi_at_call 34; refine (callsIn_wide.2 (Sort_calls (greatL al) HG0.out.1 (rises_ne HG0.out.2.2) HG0.out.2.1 _ _ HJ.out.2.1)).mono ?_; rintro e w5 ⟨rfl, hC5, hb5⟩; have HS := Aside0.mk (And.intro hC5 hb5); have hx5 := hb5.blk HJ.out.1 (by intro h; have := own_base (Kd.R_own HJ.out.2.1).choose_spec _ h; omega); have d5 := blk_cell hx5 0; clear hC5 hb5)
      have hD5 : w5.heap[D2]? = some (.deferred (some [])) := HS.out.2.blk HJ.out.2.2.2 (by intro h; obtain ⟨cs, hc⟩ := own_typed (Kd.R_own HJ.out.2.1).choose_spec _ h; rw [HJ.out.2.2.2] at hc; cases hc)
      have hD6 : w5.heap[D]? = some (.deferred (some [])) := HS.out.2.blk HJ.out.2.2.1.dfr (by intro h; have := own_base (Kd.R_own HJ.out.2.1).choose_spec _ h; omega)
      have hne : D ≠ D2 := by omega
      refine ⟨by simp, .inl ⟨_, _, rfl, run_takeDeferred hD5, ?_⟩⟩
      have hD7 : (w5.putObj D2 (.deferred none)).heap[D]? = some (.deferred (some [])) := (World.putObj_heap_other hne).trans hD6
      refine ⟨by simp, .inl ⟨_, _, rfl, run_takeDeferred hD7, ?_⟩⟩
      have hl1 : Lies W.heap.size w5 (w5.putObj D2 (.deferred none)) := .put (by omega) hD5 rfl _
      have hl2 : Lies W.heap.size (w5.putObj D2 (.deferred none)) ((w5.putObj D2 (.deferred none)).putObj D (.deferred none)) := .put (by omega) hD7 rfl _
      have hl3 := hl1.trans hl2
      have hbw : Below W.heap.size W w5 := HS.out.2.below HJ.out.2.2.1.below (HJ.out.2.2.1.below.size) (by
        intro k hk
        have := own_base (Kd.R_own HJ.out.2.1).choose_spec _ hk
        omega)
      exact ⟨_, results_tmp rfl _ _ _, _, rfl, hl3.R (Kd.R_lower HS.out.1 (by omega)), hl3.below hbw (Nat.le_refl _) (Nat.le_refl _)⟩
end Go.Proofs.YtcnmbllafdeokaaDoor.H
/- atom.beaten: IndexFunc and ContainsFunc at atoms, under the func of beaten. -/
namespace Go.Proofs.YtcnmbllafdeokaaDoor.H
open Go.RowKit Go.Proofs.YtcnmbllafdeokaaDoorW.PrintWords Go.Proofs.YtcnmbllafdeokaaDoorW.PrintLast Go.Proofs.YtcnmbllafdeokaaDoorW.PrintMore Go.Proofs.YtcnmbllafdeokaaDoor.TrM Go.Proofs.YtcnmbllafdeokaaDoor.AtM
set_option linter.unusedVariables false
set_option linter.unusedSimpArgs false
set_option maxRecDepth 100000
def bt1 (x b : At) : Bool := wthB b.1 x.1 && decide (x.2 ≤ b.2)
theorem bt1_calls (x b : At) (g : Nat) (r : Bool) (W : World) (hx : U64 x.1) (hb : U64 b.1) (hg : W.heap[g]? = some (.cells #[.int .u64 x.1, .int .i64 x.2] 28 (0, 0))) (hr : bt1 x b = r) :
    Calls Tryd.prog 38 #[encA b, .pointer (some ⟨g, 0, none⟩)] W fun e W' => e = .returned (.bool r) ∧ Below W.heap.size W W' := by
  obtain ⟨x1, x2⟩ := x
  obtain ⟨b1, b2⟩ := b
  have hBl : Below W.heap.size W (W.alloc (.cells #[.int .u64 b1, .int .i64 b2] 28)) := below_alloc (Below.refl _ _) _
  have g3 := blk_new W (.cells #[.int .u64 b1, .int .i64 b2] 28)
  have g4 := blk_alloc hg (.cells #[.int .u64 b1, .int .i64 b2] 28)
  have y0 : (W.alloc (.cells #[.int .u64 b1, .int .i64 b2] 28)).cell? ⟨W.heap.size, 0, none⟩ = some (.int .u64 b1) := by rw [blk_cell g3]; rfl
  have y1 : (W.alloc (.cells #[.int .u64 b1, .int .i64 b2] 28)).cell? ⟨W.heap.size, 1, none⟩ = some (.int .i64 b2) := by rw [blk_cell g3]; rfl
  have y2 : (W.alloc (.cells #[.int .u64 b1, .int .i64 b2] 28)).cell? ⟨g, 0, none⟩ = some (.int .u64 x1) := by rw [blk_cell g4]; rfl
  have y3 : (W.alloc (.cells #[.int .u64 b1, .int .i64 b2] 28)).cell? ⟨g, 1, none⟩ = some (.int .i64 x2) := by rw [blk_cell g4]; rfl
  have HB := Aside0.mk (And.intro hBl (And.intro hx hb))
  clear hBl g3 g4 hg hx hb
  unfold bt1 at hr
  simp only at hr
  obtain ⟨p, hp⟩ : ∃ p, wthB b1 x1 = p := ⟨_, rfl⟩
  rw [hp] at hr
  have HP := Lib.hid hp
  clear hp
  cases p with
  | false =>
    simp only [Bool.false_and] at hr
    subst hr
    go_enter Tryd.func38, Tryd.ntmps38
    go_wp2_with (go_at_call 26; refine (SWithin_eq b1 x1 false _ HB.out.2.2 HB.out.2.1 HP.out).mono ?_; rintro e w' ⟨rfl, rfl⟩)
    go_ret
    exact ⟨rfl, HB.out.1⟩
  | true =>
    simp only [Bool.true_and] at hr
    subst hr
    go_enter Tryd.func38, Tryd.ntmps38
    go_wp2_with (go_at_call 26; refine (SWithin_eq b1 x1 true _ HB.out.2.2 HB.out.2.1 HP.out).mono ?_; rintro e w' ⟨rfl, rfl⟩)
    go_ret
    exact ⟨rfl, HB.out.1⟩
set_option maxHeartbeats 1600000 in
theorem Index_calls (x : At) (xs : List At) (A : Option Addr) (c g : Nat) (W : World) (hx : U64 x.1) (hu : ∀ b ∈ xs, U64 b.1) (hC : Kd.C KAt W A xs.length xs) (hg : W.heap[g]? = some (.cells #[.int .u64 x.1, .int .i64 x.2] 28 (0, 0))) :
    Calls Tryd.prog 50 #[.slice A xs.length c, .func (.func 38) #[] #[.pointer (some ⟨g, 0, none⟩)]] W fun e W' => (∃ k : Int, e = .returned (.int .i64 k) ∧ decide (0 ≤ k) = beatB x xs) ∧ Below W.heap.size W W' := by
  have hm : xs.length ≤ 9223372036854775807 := hC.2.1
  have HC := Aside0.mk (And.intro hC (And.intro hg (And.intro hx hu)))
  clear hC hg hx hu
  go_enter Tryd.func50, Tryd.ntmps50
  go_wp2
  go_loopw [8] (fun p wr => ∃ k : Nat, p = .int .i64 (k : Int) ∧ k ≤ xs.length ∧ Aside0 (beatB x xs = beatB x (xs.drop k)) ∧ Aside0 (Below W.heap.size W wr)) (fun p _ => xs.length - (intOf p).toNat)
  case atStart => exact ⟨0, rfl, Nat.zero_le _, ⟨rfl⟩, ⟨Below.refl _ _⟩⟩
  case round =>
    obtain ⟨k, rfl, hk, HK, HW⟩ := hrel
    by_cases hlt : k < xs.length
    · obtain ⟨b, ho⟩ : ∃ o, xs[k]? = some o := ⟨_, List.getElem?_eq_getElem hlt⟩
      have hb : b ∈ xs := List.mem_of_getElem? ho
      have hC2 : Kd.C KAt wr A xs.length xs := C_blocksA HC.out.1 (fun i hi => HW.out.block i hi)
      obtain ⟨b1, b2⟩ := b
      obtain ⟨ad, e0, hx0, hx1⟩ := at_atom hC2 hlt ho
      subst e0
      have hllt : (k : Int) < (xs.length : Int) := by omega
      have hdr : beatB x (xs.drop k) = (bt1 x (b1, b2) || beatB x (xs.drop (k + 1))) := by
        rw [List.drop_eq_getElem_cons hlt]
        have : xs[k] = (b1, b2) := by rw [List.getElem?_eq_getElem hlt] at ho; exact Option.some.inj ho
        rw [this]; rfl
      obtain ⟨r, hr⟩ : ∃ r, bt1 x (b1, b2) = r := ⟨_, rfl⟩
      rw [hr] at hdr
      have HR := Aside0.mk (And.intro hr (And.intro hdr (And.intro (HC.out.2.2.2 _ hb) (blk_belowX HC.out.2.1 HW.out))))
      clear hr hdr ho hC2 hb
      cases r with
      | true =>
        go_wp2_with (fail)
        refine (bt1_calls x (b1, b2) g true _ HC.out.2.2.1 HR.out.2.2.1 HR.out.2.2.2 HR.out.1).mono ?_
        rintro e w1 ⟨rfl, hb1⟩
        have HB1 := Aside0.mk hb1
        clear hb1
        go_wp2
        go_ret
        refine ⟨⟨_, rfl, ?_⟩, below_step HW.out HB1.out⟩
        rw [HK.out, HR.out.2.1]
        simp
      | false =>
        go_wp2_with (fail)
        refine (bt1_calls x (b1, b2) g false _ HC.out.2.2.1 HR.out.2.2.1 HR.out.2.2.2 HR.out.1).mono ?_
        rintro e w1 ⟨rfl, hb1⟩
        have HB1 := Aside0.mk hb1
        clear hb1
        go_wp2
        go_roundw
        case rel => exact ⟨k + 1, by go_num, by omega, ⟨by rw [HK.out, HR.out.2.1, Bool.false_or]⟩, ⟨below_step HW.out HB1.out⟩⟩
        case measure => simp [intOf]; omega
    · obtain rfl : k = xs.length := by omega
      go_wp2
      go_ret
      refine ⟨⟨_, rfl, ?_⟩, HW.out⟩
      rw [HK.out, List.drop_length]
      rfl
theorem Contains_calls (x : At) (xs : List At) (A : Option Addr) (c g : Nat) (W : World) (hx : U64 x.1) (hu : ∀ b ∈ xs, U64 b.1) (hC : Kd.C KAt W A xs.length xs) (hg : W.heap[g]? = some (.cells #[.int .u64 x.1, .int .i64 x.2] 28 (0, 0))) :
    Calls Tryd.prog 37 #[.slice A xs.length c, .func (.func 38) #[] #[.pointer (some ⟨g, 0, none⟩)]] W fun e W' => e = .returned (.bool (beatB x xs)) ∧ Below W.heap.size W W' := by
  have HI := Aside0.mk (Index_calls x xs A c g W hx hu hC hg)
  clear hx hu hC hg
  go_enter Tryd.func37, Tryd.ntmps37
  go_wp2_with (fail)
  refine HI.out.mono ?_
  rintro e w1 ⟨⟨k, rfl, hk⟩, hb⟩
  have HB := Aside0.mk (And.intro hk hb)
  clear hk hb
  go_wp2
  go_ret
  refine ⟨?_, HB.out.2⟩
  show Ending.returned (.bool (decide (0 ≤ k))) = _
  rw [HB.out.1]
theorem beaten_calls (x : At) (xs : List At) (A : Option Addr) (c : Nat) (W : World) (hx : U64 x.1) (hu : ∀ b ∈ xs, U64 b.1) (hC : Kd.C KAt W A xs.length xs) :
    Calls Tryd.prog 23 #[encA x, .slice A xs.length c] W fun e W' => e = .returned (.bool (beatB x xs)) ∧ Below W.heap.size W W' := by
  obtain ⟨x1, x2⟩ := x
  have hBl : Below W.heap.size W (W.alloc (.cells #[.int .u64 x1, .int .i64 x2] 28)) := below_alloc (Below.refl _ _) _
  have HI := Aside0.mk (And.intro (Contains_calls (x1, x2) xs A c W.heap.size (W.alloc (.cells #[.int .u64 x1, .int .i64 x2] 28)) hx hu (Kd.C_below hC hBl) (blk_new W _)) hBl)
  clear hx hu hC hBl
  go_enter Tryd.func23, Tryd.ntmps23
  go_wp2_with (fail)
  refine HI.out.1.mono ?_
  rintro e w1 ⟨rfl, hb⟩
  have HB := Aside0.mk hb
  clear hb
  go_wp2
  go_ret
  exact ⟨rfl, below_step HI.out.2 HB.out⟩
end Go.Proofs.YtcnmbllafdeokaaDoor.H
/- atom.Normal. -/
namespace Go.Proofs.YtcnmbllafdeokaaDoor.H
open Go.RowKit Go.Proofs.YtcnmbllafdeokaaDoorW.PrintWords Go.Proofs.YtcnmbllafdeokaaDoorW.PrintLast Go.Proofs.YtcnmbllafdeokaaDoorW.PrintMore Go.Proofs.YtcnmbllafdeokaaDoor.TrM Go.Proofs.YtcnmbllafdeokaaDoor.AtM
set_option linter.unusedVariables false
set_option linter.unusedSimpArgs false
set_option maxRecDepth 100000
theorem norm1_mem (out : List At) (x y : At) (h : y ∈ norm1 out x) : y ∈ out ∨ y = x := by
  unfold norm1 at h
  split at h
  · exact .inl h
  · rcases List.mem_append.1 h with h | h
    · exact .inl h
    · exact .inr (List.mem_singleton.1 h)
theorem norm_fold_mem : ∀ (xs out : List At) (y : At), y ∈ xs.foldl norm1 out → y ∈ out ∨ y ∈ xs := by
  intro xs
  induction xs with
  | nil => intro out y h; exact .inl h
  | cons x xs ih =>
    intro out y h
    rcases ih _ _ h with h | h
    · rcases norm1_mem _ _ _ h with h | h
      · exact .inl h
      · exact .inr (by rw [h]; simp)
    · exact .inr (List.mem_cons_of_mem _ h)
theorem norm_fold_len : ∀ (xs out : List At), (xs.foldl norm1 out).length ≤ out.length + xs.length := by
  intro xs
  induction xs with
  | nil => intro out; simp
  | cons x xs ih =>
    intro out
    have h := ih (norm1 out x)
    have h2 : (norm1 out x).length ≤ out.length + 1 := by
      unfold norm1; split
      · omega
      · simp
    rw [List.foldl_cons, List.length_cons]; omega
theorem insS_len (x : At) : ∀ xs : List At, (insS x xs).length = xs.length + 1 := by
  intro xs
  induction xs with
  | nil => rfl
  | cons y ys ih => unfold insS; split <;> simp [ih]
theorem sortS_len (xs : List At) : (sortS xs).length = xs.length := by
  unfold sortS
  induction xs with
  | nil => rfl
  | cons x xs ih => rw [List.foldr_cons, insS_len, ih, List.length_cons]
theorem greatL_len (al : List At) : (greatL al).length ≤ al.length := by
  have h1 := great_len (al.filter rightA) []
  have h2 := List.length_filter_le rightA al
  unfold greatL
  simp only [List.length_nil] at h1
  omega
theorem normL_len (al : List At) : (normL al).length ≤ al.length := by
  have h1 := norm_fold_len (sortS (greatL al)) []
  have h2 := greatL_len al
  unfold normL
  rw [sortS_len] at h1
  simp only [List.length_nil] at h1
  omega
theorem normL_u {al : List At} (hu : ∀ x ∈ al, U64 x.1) : ∀ x ∈ normL al, U64 x.1 := fun x hx => by
  rcases norm_fold_mem _ _ _ hx with h | h
  · simp at h
  · exact greatL_u hu _ ((sortS_mem _ _).1 h)
set_option maxHeartbeats 1600000 in
theorem Normal_calls (al : List At) (A : Option Addr) (c : Nat) (W : World) (hC : Kd.C KAt W A al.length al) (hu : ∀ x ∈ al, U64 x.1) (hlen : al.length ≤ 600000) :
    Calls Tryd.prog 10 #[.slice A al.length c] W fun e W' => ∃ v, e = .returned v ∧ Kd.R KAt 28 W' W.heap.size (fun _ => True) v (normL al) ∧ Below W.heap.size W W' := by
  have HGr := Aside0.mk (greatest_calls al A c W hC hu hlen)
  have hgu : ∀ x ∈ sortS (greatL al), U64 x.1 := fun x hx => greatL_u hu _ ((sortS_mem _ _).1 hx)
  have hgl : (sortS (greatL al)).length ≤ 600000 := by rw [sortS_len]; exact Nat.le_trans (greatL_len al) hlen
  have hN : normL al = (sortS (greatL al)).foldl norm1 [] := rfl
  rw [hN]
  generalize sortS (greatL al) = L at HGr hgu hgl
  have HU := Aside0.mk hgu
  clear hC hu hN hgu
  go_enter Tryd.func10, Tryd.ntmps10
  go_wp2_with (fail)
  refine HGr.out.mono ?_
  rintro e w1 ⟨v1, rfl, hr1, hb1⟩
  obtain ⟨A1, c1, rfl, hc1, hC1⟩ := R_C hr1
  have H1 := Aside0.mk (And.intro hC1 hb1)
  clear hr1 hb1 hC1
  go_wp2
  go_loopw [3, 9] (fun v p wr => ∃ k : Nat, p = .int .i64 (k : Int) ∧ k ≤ L.length ∧ Aside0 (Kd.R KAt 28 wr w1.heap.size (fun _ => True) v ((L.take k).foldl norm1 [])) ∧ Aside0 (Below w1.heap.size w1 wr)) (fun _ p _ => L.length - (intOf p).toNat)
  case atStart => exact ⟨0, rfl, Nat.zero_le _, ⟨Kd.R_nil _ _ _ _ _⟩, ⟨Below.refl _ _⟩⟩
  case round =>
    obtain ⟨k, rfl, hk, HO, HW⟩ := hrel
    by_cases hlt : k < L.length
    · obtain ⟨⟨b1, b2⟩, ho⟩ : ∃ o, L[k]? = some o := ⟨_, List.getElem?_eq_getElem hlt⟩
      have hb : (b1, b2) ∈ L := List.mem_of_getElem? ho
      obtain ⟨ad, e0, hx0, hx1⟩ := at_atom (C_blocksA H1.out.1 (fun i hi => HW.out.block i hi)) hlt ho
      subst e0
      have hllt : (k : Int) < (L.length : Int) := by omega
      have htk : (L.take (k + 1)).foldl norm1 [] = norm1 ((L.take k).foldl norm1 []) (b1, b2) := by
        rw [List.take_add_one, ho, List.foldl_append]; rfl
      have hlo : ((L.take k).foldl norm1 []).length ≤ 600000 := by
        have h1 := norm_fold_len (L.take k) []
        have h2 := List.length_take_le k L
        simp only [List.length_nil] at h1
        omega
      have hum : ∀ y ∈ (L.take k).foldl norm1 [], U64 y.1 := fun y hy => by
        rcases norm_fold_mem _ _ _ hy with h | h
        · simp at h
        · exact HU.out _ (List.mem_of_mem_take h)
      obtain ⟨out, hout⟩ : ∃ out, (L.take k).foldl norm1 [] = out := ⟨_, rfl⟩
      rw [hout] at HO htk hlo hum
      obtain ⟨Ao, co, rfl⟩ := Kd.R_slice HO.out
      obtain ⟨on, hon⟩ : ∃ n, out.length = n := ⟨_, rfl⟩
      have hCo := (R_C HO.out)
      have hCo2 : Kd.C KAt wr Ao out.length out := by
        obtain ⟨A', c', e, _, h⟩ := hCo
        injection e with e _ _
        rw [e]; exact h
      have hba := below_alloc (Below.refl wr.heap.size wr) (.cells #[.int .u64 b1, .int .i64 b2] 28)
      have g3 := blk_new wr (.cells #[.int .u64 b1, .int .i64 b2] 28)
      have y0 : (wr.alloc (.cells #[.int .u64 b1, .int .i64 b2] 28)).cell? ⟨wr.heap.size, 0, none⟩ = some (.int .u64 b1) := by rw [blk_cell g3]; rfl
      have y1 : (wr.alloc (.cells #[.int .u64 b1, .int .i64 b2] 28)).cell? ⟨wr.heap.size, 1, none⟩ = some (.int .i64 b2) := by rw [blk_cell g3]; rfl
      have HBT := Aside0.mk (beaten_calls (b1, b2) out Ao co (wr.alloc (.cells #[.int .u64 b1, .int .i64 b2] 28)) (HU.out _ hb) hum (Kd.C_below hCo2 hba))
      obtain ⟨r, hr⟩ : ∃ r, beatB (b1, b2) out = r := ⟨_, rfl⟩
      rw [hr] at HBT
      have hnr : norm1 out (b1, b2) = if r = true then out else out ++ [(b1, b2)] := by unfold norm1; rw [hr]
      rw [hnr] at htk
      have HO2 := Aside0.mk (And.intro (Kd.R_below HO.out hba) (And.intro (below_step HW.out hba) (And.intro htk (And.intro g3 hon))))
      clear hnr hr hCo2 hCo hba hum htk g3 hout ho hb HO hon
      cases r with
      | true =>
        go_wp2_with (fail)
        refine HBT.out.mono ?_
        rintro e w4 ⟨rfl, hb4⟩
        have HB4 := Aside0.mk hb4
        clear hb4
        go_wp2
        go_roundw
        case rel => exact ⟨k + 1, by go_num, by omega, ⟨by rw [HO2.out.2.2.1]; simp only [if_true]; exact Kd.R_below HO2.out.1 HB4.out⟩, ⟨below_step HO2.out.2.1 HB4.out⟩⟩
        case measure => simp [intOf]; omega
      | false =>
        go_wp2_with (fail)
        refine HBT.out.mono ?_
        rintro e w4 ⟨rfl, hb4⟩
        have g4 := blk_belowX HO2.out.2.2.2.1 hb4
        have z0 : w4.cell? ⟨wr.heap.size, 0, none⟩ = some (.int .u64 b1) := by rw [blk_cell g4]; rfl
        have z1 : w4.cell? ⟨wr.heap.size, 1, none⟩ = some (.int .i64 b2) := by rw [blk_cell g4]; rfl
        have HB4 := Aside0.mk (And.intro (Kd.R_below HO2.out.1 hb4) (below_step HO2.out.2.1 hb4))
        clear hb4 g4
        go_wp2_with (first
          | ((with_reducible refine gate_builtin (b := .append) (xs := #[.tmp 17, .tmp 19]) rfl ?_); at_builtin; refine Kd.R_append KAt (w0 := w1) w1.heap.size rfl (.tmp 17) (.tmp 19) 22 28 (.agg #[.int .u64 0, .int .i64 0]) 16 rfl Tryd.underlying22 info_at rfl (by decide) (by decide) _ out (b1, b2) [.int .u64 b1, .int .i64 b2] (fun _ => True) (fun _ => False) rfl rfl (MAt _ _ _ _ _) (fun _ h => h.elim) (fun _ _ => trivial) HB4.out.1 HB4.out.2 HB4.out.2.size (by omega) ?_; intro v7 w7 ho7 hb7 hg7 hat7; have HO7 := Aside0.mk (And.intro ho7 hb7); clear ho7 hb7 hg7 hat7))
        go_roundw
        case rel => exact ⟨k + 1, by go_num, by omega, ⟨by rw [HO2.out.2.2.1, if_neg (by simp)]; exact HO7.out.1⟩, ⟨HO7.out.2⟩⟩
        case measure => simp [intOf]; omega
    · obtain rfl : k = L.length := by omega
      rw [List.take_length] at HO
      go_wp2
      go_ret
      exact ⟨_, rfl, Kd.R_lower HO.out H1.out.2.size, below_step H1.out.2 HW.out⟩
end Go.Proofs.YtcnmbllafdeokaaDoor.H
/- What the changed print is told of package atom. -/
namespace Go.Proofs.YtcnmbllafdeokaaDoor.H
open Go.RowKit Go.Proofs.YtcnmbllafdeokaaDoorW.PrintWords Go.Proofs.YtcnmbllafdeokaaDoorW.PrintLast Go.Proofs.YtcnmbllafdeokaaDoorW.PrintMore Go.Proofs.YtcnmbllafdeokaaDoor.TrM Go.Proofs.YtcnmbllafdeokaaDoor.AtM
set_option linter.unusedVariables false
def uB (l : List At) : Bool := l.all fun x => decide (0 ≤ x.1 ∧ x.1 < 18446744073709551616)
theorem uB_iff (l : List At) : uB l = true ↔ ∀ x ∈ l, U64 x.1 := by
  unfold uB U64
  rw [List.all_eq_true]
  constructor
  · intro h x hx; exact of_decide_eq_true (h x hx)
  · intro h x hx; exact decide_eq_true (h x hx)
end Go.Proofs.YtcnmbllafdeokaaDoor.H
/- What the changed print is told of Most and Union. -/
