/- A step of both devices: law04.do. -/
import Derived.Test.YtpahmdjcmpnmkaaDevRx
namespace Go.Proofs.Ytpahmdjcmpnmkaa.H
open Go.RowKit Go.Proofs.YtpahmdjcmpnmkaaW.PrintWords Go.Proofs.YtpahmdjcmpnmkaaW.PrintLast Go.Proofs.YtpahmdjcmpnmkaaW.PrintMore
set_option linter.unusedVariables false
set_option linter.unusedSimpArgs false

/-- A step: kind, region, number, bytes. -/
abbrev St := Int × Int × Int × List Int
def doD (d : Dv) (o : St) : Dv :=
  if o.1 = 0 ∨ o.1 = 1 then (appendD d o.2.1 o.2.2.2).1 else if o.1 = 2 then (truncD d o.2.1 o.2.2.1).1 else if o.1 = 3 then cutD d o.2.2.1 else if o.1 = 4 then restD d else if o.1 = 5 then d.set o.2.1 (o.2.2.2.take d.cap.toNat) else d
def doE (d : Dv) (o : St) : Int := if o.1 = 0 ∨ o.1 = 1 then (appendD d o.2.1 o.2.2.2).2 else if o.1 = 2 then (truncD d o.2.1 o.2.2.1).2 else 0
/-- What the walk reads of a box of a step, and of a document's device. -/
theorem op_cells {W : World} {g : Nat} {k r n : Int} {A : Option Addr} {m c : Nat} (h : W.heap[g]? = some (.cells #[.int .i64 k, .int .i64 r, .int .i64 n, .slice A m c] 33 (0, 0))) :
    W.cell? ⟨g, 0, none⟩ = some (.int .i64 k) ∧ W.cell? ⟨g, 1, none⟩ = some (.int .i64 r) ∧ W.cell? ⟨g, 2, none⟩ = some (.int .i64 n) ∧ W.cell? ⟨g, 3, none⟩ = some (.slice A m c) := by
  refine ⟨?_, ?_, ?_, ?_⟩ <;> · rw [blk_cell h]; rfl
abbrev opCells (k r n : Int) (A : Option Addr) (m c : Nat) : Array Value := #[.int .i64 k, .int .i64 r, .int .i64 n, .slice A m c]
def DoPost [Pl] (g : Nat) (d1 d2 : Dv) (o : St) (W : World) (e : Ending) (W' : World) : Prop :=
  ∃ A0' c0' A1' c1', e = .returned (.tuple #[.agg (rvCells A0' c0' A1' c1' (doD d2 o)), .bool (doE d1 o == doE d2 o)]) ∧ DevAt W' g (doD d1 o) ∧ RvOf W' A0' c0' A1' c1' (doD d2 o) ∧ Oth g W W'
theorem blk_new3 (W : World) (o o' o'' : Obj) : (((W.alloc o).alloc o').alloc o'').heap[W.heap.size + 2]? = some o'' := by
  have := blk_new2 (W.alloc o) o' o''
  rwa [World.size_alloc] at this
theorem DevAt.drew [Pl] {W : World} {g : Nat} {d : Dv} (h : DevAt W g d) : DevAt W.drew g d := h.below ⟨rfl, rfl, rfl, Nat.le_refl _, fun _ _ => rfl⟩
theorem Oth.then_oth {g r : Nat} {W w4 w9 : World} (h : Oth g W w4) (h2 : Oth r w4 w9) (hr : W.heap.size ≤ r) : Oth g W w9 :=
  ⟨h2.os.trans h.os, h2.tape.trans h.tape, h2.output.trans h.output, Nat.le_trans h.size h2.size, fun k hk hg => (h2.block k (Nat.lt_of_lt_of_le hk h.size) (by omega)).trans (h.block k hk hg)⟩
theorem RvOf.dev [Pl] {W W' : World} {A0 : Option Addr} {c0 : Nat} {A1 : Option Addr} {c1 : Nat} {d d' : Dv} {g : Nat} (h : RvOf W A0 c0 A1 c1 d) (hd : DevAt W g d') (ho : Oth g W W') : RvOf W' A0 c0 A1 c1 d := by
  obtain ⟨_, _, _, _, hB, _⟩ := hd
  exact h.oth hB (by decide) ho
theorem Dv.fit.wide {d : Dv} {m t m' t' : Int} (h : d.fit m t) (hm : m ≤ m') (ht : t ≤ t') : d.fit m' t' := ⟨Int.le_trans h.a hm, Int.le_trans h.b hm, h.c0, h.c1, h.l0, h.l1, h.t0, Int.le_trans h.t1 ht⟩
set_option maxHeartbeats 1600000 in
theorem do_append [Pl] (g : Nat) (d1 d2 : Dv) (A0 : Option Addr) (c0 : Nat) (A1 : Option Addr) (c1 : Nat) (k r n : Int) (A : Option Addr) (c : Nat) (l : List Int) (W : World) (hk : k = 0 ∨ k = 1) (hD : DevAt W g d1) (hR : RvOf W A0 c0 A1 c1 d2) (hl : ∀ W', Oth g W W' → Kd.C (Kd.int .u8) W' A l.length l) (hc : l.length ≤ c) (hn : l.length ≤ 500000) (hf1 : d1.fit 500000 1000000000000) (hf2 : d2.fit 500000 1000000000000) :
    Calls Try.prog 11 #[.pointer (some ⟨g, 0, none⟩), .agg (rvCells A0 c0 A1 c1 d2), .agg (opCells k r n A l.length c)] W (DoPost g d1 d2 (k, r, n, l) W) := by
  have e1 : ∀ d, doD d (k, r, n, l) = (appendD d r l).1 := fun d => by unfold doD; rw [if_pos hk]
  have e2 : ∀ d, doE d (k, r, n, l) = (appendD d r l).2 := fun d => by unfold doE; rw [if_pos hk]
  have hg : g < W.heap.size := hD.lt
  obtain ⟨x1, y1, hx1⟩ : ∃ x y, appendD d1 r l = (x, y) := ⟨_, _, rfl⟩
  obtain ⟨x2, y2, hx2⟩ : ∃ x y, appendD d2 r l = (x, y) := ⟨_, _, rfl⟩
  have RA : Aside0 (∀ w, RvOf w A0 c0 A1 c1 d2 → Kd.C (Kd.int .u8) w A l.length l → Calls Try.prog 26 #[.agg (rvCells A0 c0 A1 c1 d2), .int .i64 r, .slice A l.length c] w fun e W' => ∃ A0' c0' A1' c1', e = .returned (.tuple #[.agg (rvCells A0' c0' A1' c1' x2), .int .i64 y2]) ∧ RvOf W' A0' c0' A1' c1' x2 ∧ Below w.heap.size w W') := ⟨fun w h1 h2 => by have := RAppend_calls A0 c0 A1 c1 d2 r A c l w h1 h2 hc hf2 hn; rwa [hx2] at this⟩
  have HX := Aside0.mk (And.intro hx1 hx2)
  have HH := Aside0.mk (And.intro hD (And.intro hR (And.intro hl (And.intro hf1 (And.intro hf2 (And.intro e1 e2))))))
  clear hD hR hl hf1 hf2 e1 e2 hx1 hx2
  rcases hk with rfl | rfl
  · go_enter Try.func11, Try.ntmps11
    go_wp2_with (fail)
    have hx : RvB (((W.alloc (.cells (rvCells A0 c0 A1 c1 d2) 29)).alloc (.cells (opCells 0 r n A l.length c) 33)).alloc (.cells #[.slice none 0 0, .slice none 0 0, .int .i64 0, .int .i64 0, .bool false, .int .i64 0] 29)) W.heap.size A0 c0 A1 c1 d2 := blk_alloc (blk_alloc (blk_new W _) _) _
    have ho : (((W.alloc (.cells (rvCells A0 c0 A1 c1 d2) 29)).alloc (.cells (opCells 0 r n A l.length c) 33)).alloc (.cells #[.slice none 0 0, .slice none 0 0, .int .i64 0, .int .i64 0, .bool false, .int .i64 0] 29)).heap[W.heap.size + 1]? = some (.cells (opCells 0 r n A l.length c) 33 (0, 0)) := blk_alloc (blk_new2 W (.cells (rvCells A0 c0 A1 c1 d2) 29) (.cells (opCells 0 r n A l.length c) 33)) (.cells #[.slice none 0 0, .slice none 0 0, .int .i64 0, .int .i64 0, .bool false, .int .i64 0] 29)
    have hz := blk_new3 W (.cells (rvCells A0 c0 A1 c1 d2) 29) (.cells (opCells 0 r n A l.length c) 33) (.cells #[.slice none 0 0, .slice none 0 0, .int .i64 0, .int .i64 0, .bool false, .int .i64 0] 29)
    have hB : Below W.heap.size W (((W.alloc (.cells (rvCells A0 c0 A1 c1 d2) 29)).alloc (.cells (opCells 0 r n A l.length c) 33)).alloc (.cells #[.slice none 0 0, .slice none 0 0, .int .i64 0, .int .i64 0, .bool false, .int .i64 0] 29)) := below_alloc (below_alloc (below_alloc (Below.refl _ _) _) _) _
    generalize (((W.alloc (.cells (rvCells A0 c0 A1 c1 d2) 29)).alloc (.cells (opCells 0 r n A l.length c) 33)).alloc (.cells #[.slice none 0 0, .slice none 0 0, .int .i64 0, .int .i64 0, .bool false, .int .i64 0] 29)) = W1 at *
    obtain ⟨k0, k1, k2, k3, k4, k5⟩ := hx.cells
    obtain ⟨p0, p1, p2, p3⟩ := op_cells ho
    have H1 := Aside0.mk (And.intro hx (And.intro ho (And.intro hz hB)))
    clear hx ho hz hB
    go_wp2_with (first
      | (go_at_call 26; refine (RA.out _ (HH.out.2.1.below H1.out.2.2.2) (HH.out.2.2.1 _ (Oth.of_below H1.out.2.2.2))).mono ?_; rintro e w2 ⟨A0', c0', A1', c1', rfl, hr2, hb2⟩; have H2 := Aside0.mk (And.intro (blk_belowX H1.out.2.1 hb2) (And.intro (blk_belowX H1.out.2.2.1 hb2) (And.intro (below_step H1.out.2.2.2 hb2) hr2))); clear hr2 hb2))
    have hq3 := blk_new w2 (.cells (rvCells A0' c0' A1' c1' x2) 29)
    have ho3 := blk_alloc H2.out.1 (.cells (rvCells A0' c0' A1' c1' x2) 29)
    have hz3 := blk_alloc H2.out.2.1 (.cells (rvCells A0' c0' A1' c1' x2) 29)
    have hx3 : Below w2.heap.size w2 (w2.alloc (.cells (rvCells A0' c0' A1' c1' x2) 29)) := below_alloc (Below.refl _ _) _
    have hB3 := below_step H2.out.2.2.1 hx3
    have hr3 := H2.out.2.2.2.below hx3
    have hd3 := HH.out.1.below hB3
    have hs2 : W.heap.size + 2 < w2.heap.size := lt_of_some H2.out.2.1
    clear hx3 H2 H1 k0 k1 k2 k3 k4 k5 p0 p1 p2 p3
    generalize w2.alloc (.cells (rvCells A0' c0' A1' c1' x2) 29) = w3 at *
    generalize w2.heap.size = g8 at *
    obtain ⟨k0, k1, k2, k3, k4, k5⟩ := RvB.cells (show RvB w3 g8 A0' c0' A1' c1' x2 from hq3)
    obtain ⟨p0, p1, p2, p3⟩ := op_cells ho3
    have H3 := Aside0.mk (And.intro hq3 (And.intro ho3 (And.intro hz3 (And.intro hB3 (And.intro hr3 hd3)))))
    clear hq3 ho3 hz3 hB3 hr3 hd3
    have SS : ∀ w : World, w.heap[g8]? = some (.cells (rvCells A0' c0' A1' c1' x2) 29 (0, 0)) → w.heap[W.heap.size + 1]? = some (.cells (opCells 0 r n A l.length c) 33 (0, 0)) → w.cell? ⟨g8, 0, none⟩ = some (.slice A0' x2.a.length c0') ∧ w.cell? ⟨g8, 1, none⟩ = some (.slice A1' x2.b.length c1') ∧ w.cell? ⟨g8, 2, none⟩ = some (.int .i64 x2.cap) ∧ w.cell? ⟨g8, 3, none⟩ = some (.int .i64 x2.left) ∧ w.cell? ⟨g8, 4, none⟩ = some (.bool x2.down) ∧ w.cell? ⟨g8, 5, none⟩ = some (.int .i64 x2.turned) ∧ w.cell? ⟨W.heap.size + 1, 1, none⟩ = some (.int .i64 r) ∧ w.cell? ⟨W.heap.size + 1, 3, none⟩ = some (.slice A l.length c) := fun w h1 h2 => by
      obtain ⟨u0, u1, u2, u3, u4, u5⟩ := RvB.cells (show RvB w g8 A0' c0' A1' c1' x2 from h1)
      obtain ⟨v0, v1, v2, v3⟩ := op_cells h2
      exact ⟨u0, u1, u2, u3, u4, u5, v1, v3⟩
    have SS' := Aside0.mk SS
    clear SS
    go_region_held3 (fun w' => w'.cell? ⟨g8, 0, none⟩ = some (.slice A0' x2.a.length c0') ∧ w'.cell? ⟨g8, 1, none⟩ = some (.slice A1' x2.b.length c1') ∧ w'.cell? ⟨g8, 2, none⟩ = some (.int .i64 x2.cap) ∧ w'.cell? ⟨g8, 3, none⟩ = some (.int .i64 x2.left) ∧ w'.cell? ⟨g8, 4, none⟩ = some (.bool x2.down) ∧ w'.cell? ⟨g8, 5, none⟩ = some (.int .i64 x2.turned) ∧ w'.cell? ⟨W.heap.size + 1, 1, none⟩ = some (.int .i64 r) ∧ w'.cell? ⟨W.heap.size + 1, 3, none⟩ = some (.slice A l.length c)) (first | (with_reducible exact SS'.out _ H4.out.1 H4.out.2.1) | (with_reducible exact SS'.out _ (((((((Oth.set w4 ⟨W.heap.size + 2, 0, none⟩ _).trans (Oth.set _ ⟨W.heap.size + 2, 1, none⟩ _)).trans (Oth.set _ ⟨W.heap.size + 2, 2, none⟩ _)).trans (Oth.set _ ⟨W.heap.size + 2, 3, none⟩ _)).trans (Oth.set _ ⟨W.heap.size + 2, 4, none⟩ _)).trans (Oth.set _ ⟨W.heap.size + 2, 5, none⟩ _)).blk H4.out.1 (by show g8 ≠ W.heap.size + 2; omega)) (((((((Oth.set w4 ⟨W.heap.size + 2, 0, none⟩ _).trans (Oth.set _ ⟨W.heap.size + 2, 1, none⟩ _)).trans (Oth.set _ ⟨W.heap.size + 2, 2, none⟩ _)).trans (Oth.set _ ⟨W.heap.size + 2, 3, none⟩ _)).trans (Oth.set _ ⟨W.heap.size + 2, 4, none⟩ _)).trans (Oth.set _ ⟨W.heap.size + 2, 5, none⟩ _)).blk H4.out.2.1 (by show W.heap.size + 1 ≠ W.heap.size + 2; omega))) | go_keep)
      (first
        | (go_at_call 14; refine (Append_eq g d1 x1 r A c l.length l y1 _ rfl HX.out.1 ?s0 ?s1 hc ?s2 (by omega)).mono ?_; (case s0 => exact H3.out.2.2.2.2.2.drew); (case s1 => exact fun w' ho' => HH.out.2.2.1 w' ((Oth.of_below H3.out.2.2.2.1).trans ⟨ho'.os, ho'.tape, ho'.output, ho'.size, ho'.block⟩)); (case s2 => exact HH.out.2.2.2.1.wide (by decide) (by decide)); rintro e w4 ⟨rfl, hd4, ho4'⟩; have ho4 : Oth g w3 w4 := ⟨ho4'.os, ho4'.tape, ho4'.output, ho4'.size, ho4'.block⟩; have hq4 := ho4.blk H3.out.1 (by omega); have hz4 := ho4.blk H3.out.2.2.1 (by omega); have f0 := blk_frozen hz4 0; have f1 := blk_frozen hz4 1; have f2 := blk_frozen hz4 2; have f3 := blk_frozen hz4 3; have f4 := blk_frozen hz4 4; have f5 := blk_frozen hz4 5; have zz0 := blk_cell hz4 0; have zz1 := blk_cell hz4 1; have zz2 := blk_cell hz4 2; have zz3 := blk_cell hz4 3; have zz4 := blk_cell hz4 4; have zz5 := blk_cell hz4 5; simp at zz0 zz1 zz2 zz3 zz4 zz5; have H4 := Aside0.mk (And.intro hq4 (And.intro (ho4.blk H3.out.2.1 (by omega)) (And.intro ho4 (And.intro hz4 hd4)))); clear hq4 ho4 ho4' hz4 hd4))
    have hB9 := (blk_put (blk_put (blk_put (blk_put (blk_put (blk_put H4.out.2.2.2.1 0 (.slice A0' x2.a.length c0') rfl) 1 (.slice A1' x2.b.length c1') rfl) 2 (.int .i64 x2.cap) rfl) 3 (.int .i64 x2.left) rfl) 4 (.bool x2.down) rfl) 5 (.int .i64 x2.turned) rfl)
    have hO9 : Oth (W.heap.size + 2) w4 ((((((w4.setCell ⟨W.heap.size + 2, 0, none⟩ (.slice A0' x2.a.length c0')).setCell ⟨W.heap.size + 2, 1, none⟩ (.slice A1' x2.b.length c1')).setCell ⟨W.heap.size + 2, 2, none⟩ (.int .i64 x2.cap)).setCell ⟨W.heap.size + 2, 3, none⟩ (.int .i64 x2.left)).setCell ⟨W.heap.size + 2, 4, none⟩ (.bool x2.down)).setCell ⟨W.heap.size + 2, 5, none⟩ (.int .i64 x2.turned)) := ((((((Oth.set w4 ⟨W.heap.size + 2, 0, none⟩ _).trans (Oth.set _ ⟨W.heap.size + 2, 1, none⟩ _)).trans (Oth.set _ ⟨W.heap.size + 2, 2, none⟩ _)).trans (Oth.set _ ⟨W.heap.size + 2, 3, none⟩ _)).trans (Oth.set _ ⟨W.heap.size + 2, 4, none⟩ _)).trans (Oth.set _ ⟨W.heap.size + 2, 5, none⟩ _))
    generalize ((((((w4.setCell ⟨W.heap.size + 2, 0, none⟩ (.slice A0' x2.a.length c0')).setCell ⟨W.heap.size + 2, 1, none⟩ (.slice A1' x2.b.length c1')).setCell ⟨W.heap.size + 2, 2, none⟩ (.int .i64 x2.cap)).setCell ⟨W.heap.size + 2, 3, none⟩ (.int .i64 x2.left)).setCell ⟨W.heap.size + 2, 4, none⟩ (.bool x2.down)).setCell ⟨W.heap.size + 2, 5, none⟩ (.int .i64 x2.turned)) = w9 at hB9 hO9 ⊢
    have hd9 := H4.out.2.2.2.2.oth H4.out.2.2.2.1 (by decide) (by omega) hO9
    have hr9 := (H3.out.2.2.2.2.1.dev H3.out.2.2.2.2.2 H4.out.2.2.1).oth H4.out.2.2.2.1 (by decide) hO9
    have ho9 := ((Oth.of_below (g := g) H3.out.2.2.2.1).trans H4.out.2.2.1).then_oth hO9 (by omega)
    have H9 := Aside0.mk (And.intro hB9 (And.intro hd9 (And.intro hr9 ho9)))
    clear hB9 hO9 hd9 hr9 ho9 f0 f1 f2 f3 f4 f5 zz0 zz1 zz2 zz3 zz4 zz5 H4 H3
    go_wp2
    refine bodyPost_ret (results_list (rs := [.cell 6 29, .tmp 7]) rfl (by simp) (.cell (W.heap.size + 2) _ _ _ _ rfl H9.out.1 Try.underlying29 rfl info_rv (.tmp .nil))) rfl ?_
    exact ⟨A0', c0', A1', c1', by rw [HH.out.2.2.2.2.2.1, HH.out.2.2.2.2.2.2, HH.out.2.2.2.2.2.2, HX.out.1, HX.out.2]; rfl, by rw [HH.out.2.2.2.2.2.1, HX.out.1]; exact H9.out.2.1, by rw [HH.out.2.2.2.2.2.1, HX.out.2]; exact H9.out.2.2.1, H9.out.2.2.2⟩
  · go_enter Try.func11, Try.ntmps11
    go_wp2_with (fail)
    have hx : RvB (((W.alloc (.cells (rvCells A0 c0 A1 c1 d2) 29)).alloc (.cells (opCells 1 r n A l.length c) 33)).alloc (.cells #[.slice none 0 0, .slice none 0 0, .int .i64 0, .int .i64 0, .bool false, .int .i64 0] 29)) W.heap.size A0 c0 A1 c1 d2 := blk_alloc (blk_alloc (blk_new W _) _) _
    have ho : (((W.alloc (.cells (rvCells A0 c0 A1 c1 d2) 29)).alloc (.cells (opCells 1 r n A l.length c) 33)).alloc (.cells #[.slice none 0 0, .slice none 0 0, .int .i64 0, .int .i64 0, .bool false, .int .i64 0] 29)).heap[W.heap.size + 1]? = some (.cells (opCells 1 r n A l.length c) 33 (0, 0)) := blk_alloc (blk_new2 W (.cells (rvCells A0 c0 A1 c1 d2) 29) (.cells (opCells 1 r n A l.length c) 33)) (.cells #[.slice none 0 0, .slice none 0 0, .int .i64 0, .int .i64 0, .bool false, .int .i64 0] 29)
    have hz := blk_new3 W (.cells (rvCells A0 c0 A1 c1 d2) 29) (.cells (opCells 1 r n A l.length c) 33) (.cells #[.slice none 0 0, .slice none 0 0, .int .i64 0, .int .i64 0, .bool false, .int .i64 0] 29)
    have hB : Below W.heap.size W (((W.alloc (.cells (rvCells A0 c0 A1 c1 d2) 29)).alloc (.cells (opCells 1 r n A l.length c) 33)).alloc (.cells #[.slice none 0 0, .slice none 0 0, .int .i64 0, .int .i64 0, .bool false, .int .i64 0] 29)) := below_alloc (below_alloc (below_alloc (Below.refl _ _) _) _) _
    generalize (((W.alloc (.cells (rvCells A0 c0 A1 c1 d2) 29)).alloc (.cells (opCells 1 r n A l.length c) 33)).alloc (.cells #[.slice none 0 0, .slice none 0 0, .int .i64 0, .int .i64 0, .bool false, .int .i64 0] 29)) = W1 at *
    obtain ⟨k0, k1, k2, k3, k4, k5⟩ := hx.cells
    obtain ⟨p0, p1, p2, p3⟩ := op_cells ho
    have H1 := Aside0.mk (And.intro hx (And.intro ho (And.intro hz hB)))
    clear hx ho hz hB
    go_wp2_with (first
      | (go_at_call 26; refine (RA.out _ (HH.out.2.1.below H1.out.2.2.2) (HH.out.2.2.1 _ (Oth.of_below H1.out.2.2.2))).mono ?_; rintro e w2 ⟨A0', c0', A1', c1', rfl, hr2, hb2⟩; have H2 := Aside0.mk (And.intro (blk_belowX H1.out.2.1 hb2) (And.intro (blk_belowX H1.out.2.2.1 hb2) (And.intro (below_step H1.out.2.2.2 hb2) hr2))); clear hr2 hb2))
    have hq3 := blk_new w2 (.cells (rvCells A0' c0' A1' c1' x2) 29)
    have ho3 := blk_alloc H2.out.1 (.cells (rvCells A0' c0' A1' c1' x2) 29)
    have hz3 := blk_alloc H2.out.2.1 (.cells (rvCells A0' c0' A1' c1' x2) 29)
    have hx3 : Below w2.heap.size w2 (w2.alloc (.cells (rvCells A0' c0' A1' c1' x2) 29)) := below_alloc (Below.refl _ _) _
    have hB3 := below_step H2.out.2.2.1 hx3
    have hr3 := H2.out.2.2.2.below hx3
    have hd3 := HH.out.1.below hB3
    have hs2 : W.heap.size + 2 < w2.heap.size := lt_of_some H2.out.2.1
    clear hx3 H2 H1 k0 k1 k2 k3 k4 k5 p0 p1 p2 p3
    generalize w2.alloc (.cells (rvCells A0' c0' A1' c1' x2) 29) = w3 at *
    generalize w2.heap.size = g8 at *
    obtain ⟨k0, k1, k2, k3, k4, k5⟩ := RvB.cells (show RvB w3 g8 A0' c0' A1' c1' x2 from hq3)
    obtain ⟨p0, p1, p2, p3⟩ := op_cells ho3
    have H3 := Aside0.mk (And.intro hq3 (And.intro ho3 (And.intro hz3 (And.intro hB3 (And.intro hr3 hd3)))))
    clear hq3 ho3 hz3 hB3 hr3 hd3
    have SS : ∀ w : World, w.heap[g8]? = some (.cells (rvCells A0' c0' A1' c1' x2) 29 (0, 0)) → w.heap[W.heap.size + 1]? = some (.cells (opCells 1 r n A l.length c) 33 (0, 0)) → w.cell? ⟨g8, 0, none⟩ = some (.slice A0' x2.a.length c0') ∧ w.cell? ⟨g8, 1, none⟩ = some (.slice A1' x2.b.length c1') ∧ w.cell? ⟨g8, 2, none⟩ = some (.int .i64 x2.cap) ∧ w.cell? ⟨g8, 3, none⟩ = some (.int .i64 x2.left) ∧ w.cell? ⟨g8, 4, none⟩ = some (.bool x2.down) ∧ w.cell? ⟨g8, 5, none⟩ = some (.int .i64 x2.turned) ∧ w.cell? ⟨W.heap.size + 1, 1, none⟩ = some (.int .i64 r) ∧ w.cell? ⟨W.heap.size + 1, 3, none⟩ = some (.slice A l.length c) := fun w h1 h2 => by
      obtain ⟨u0, u1, u2, u3, u4, u5⟩ := RvB.cells (show RvB w g8 A0' c0' A1' c1' x2 from h1)
      obtain ⟨v0, v1, v2, v3⟩ := op_cells h2
      exact ⟨u0, u1, u2, u3, u4, u5, v1, v3⟩
    have SS' := Aside0.mk SS
    clear SS
    go_region_held3 (fun w' => w'.cell? ⟨g8, 0, none⟩ = some (.slice A0' x2.a.length c0') ∧ w'.cell? ⟨g8, 1, none⟩ = some (.slice A1' x2.b.length c1') ∧ w'.cell? ⟨g8, 2, none⟩ = some (.int .i64 x2.cap) ∧ w'.cell? ⟨g8, 3, none⟩ = some (.int .i64 x2.left) ∧ w'.cell? ⟨g8, 4, none⟩ = some (.bool x2.down) ∧ w'.cell? ⟨g8, 5, none⟩ = some (.int .i64 x2.turned) ∧ w'.cell? ⟨W.heap.size + 1, 1, none⟩ = some (.int .i64 r) ∧ w'.cell? ⟨W.heap.size + 1, 3, none⟩ = some (.slice A l.length c)) (first | (with_reducible exact SS'.out _ H4.out.1 H4.out.2.1) | (with_reducible exact SS'.out _ (((((((Oth.set w4 ⟨W.heap.size + 2, 0, none⟩ _).trans (Oth.set _ ⟨W.heap.size + 2, 1, none⟩ _)).trans (Oth.set _ ⟨W.heap.size + 2, 2, none⟩ _)).trans (Oth.set _ ⟨W.heap.size + 2, 3, none⟩ _)).trans (Oth.set _ ⟨W.heap.size + 2, 4, none⟩ _)).trans (Oth.set _ ⟨W.heap.size + 2, 5, none⟩ _)).blk H4.out.1 (by show g8 ≠ W.heap.size + 2; omega)) (((((((Oth.set w4 ⟨W.heap.size + 2, 0, none⟩ _).trans (Oth.set _ ⟨W.heap.size + 2, 1, none⟩ _)).trans (Oth.set _ ⟨W.heap.size + 2, 2, none⟩ _)).trans (Oth.set _ ⟨W.heap.size + 2, 3, none⟩ _)).trans (Oth.set _ ⟨W.heap.size + 2, 4, none⟩ _)).trans (Oth.set _ ⟨W.heap.size + 2, 5, none⟩ _)).blk H4.out.2.1 (by show W.heap.size + 1 ≠ W.heap.size + 2; omega))) | go_keep)
      (first
        | (go_at_call 14; refine (Append_eq g d1 x1 r A c l.length l y1 _ rfl HX.out.1 ?s0 ?s1 hc ?s2 (by omega)).mono ?_; (case s0 => exact H3.out.2.2.2.2.2.drew); (case s1 => exact fun w' ho' => HH.out.2.2.1 w' ((Oth.of_below H3.out.2.2.2.1).trans ⟨ho'.os, ho'.tape, ho'.output, ho'.size, ho'.block⟩)); (case s2 => exact HH.out.2.2.2.1.wide (by decide) (by decide)); rintro e w4 ⟨rfl, hd4, ho4'⟩; have ho4 : Oth g w3 w4 := ⟨ho4'.os, ho4'.tape, ho4'.output, ho4'.size, ho4'.block⟩; have hq4 := ho4.blk H3.out.1 (by omega); have hz4 := ho4.blk H3.out.2.2.1 (by omega); have f0 := blk_frozen hz4 0; have f1 := blk_frozen hz4 1; have f2 := blk_frozen hz4 2; have f3 := blk_frozen hz4 3; have f4 := blk_frozen hz4 4; have f5 := blk_frozen hz4 5; have zz0 := blk_cell hz4 0; have zz1 := blk_cell hz4 1; have zz2 := blk_cell hz4 2; have zz3 := blk_cell hz4 3; have zz4 := blk_cell hz4 4; have zz5 := blk_cell hz4 5; simp at zz0 zz1 zz2 zz3 zz4 zz5; have H4 := Aside0.mk (And.intro hq4 (And.intro (ho4.blk H3.out.2.1 (by omega)) (And.intro ho4 (And.intro hz4 hd4)))); clear hq4 ho4 ho4' hz4 hd4))
    have hB9 := (blk_put (blk_put (blk_put (blk_put (blk_put (blk_put H4.out.2.2.2.1 0 (.slice A0' x2.a.length c0') rfl) 1 (.slice A1' x2.b.length c1') rfl) 2 (.int .i64 x2.cap) rfl) 3 (.int .i64 x2.left) rfl) 4 (.bool x2.down) rfl) 5 (.int .i64 x2.turned) rfl)
    have hO9 : Oth (W.heap.size + 2) w4 ((((((w4.setCell ⟨W.heap.size + 2, 0, none⟩ (.slice A0' x2.a.length c0')).setCell ⟨W.heap.size + 2, 1, none⟩ (.slice A1' x2.b.length c1')).setCell ⟨W.heap.size + 2, 2, none⟩ (.int .i64 x2.cap)).setCell ⟨W.heap.size + 2, 3, none⟩ (.int .i64 x2.left)).setCell ⟨W.heap.size + 2, 4, none⟩ (.bool x2.down)).setCell ⟨W.heap.size + 2, 5, none⟩ (.int .i64 x2.turned)) := ((((((Oth.set w4 ⟨W.heap.size + 2, 0, none⟩ _).trans (Oth.set _ ⟨W.heap.size + 2, 1, none⟩ _)).trans (Oth.set _ ⟨W.heap.size + 2, 2, none⟩ _)).trans (Oth.set _ ⟨W.heap.size + 2, 3, none⟩ _)).trans (Oth.set _ ⟨W.heap.size + 2, 4, none⟩ _)).trans (Oth.set _ ⟨W.heap.size + 2, 5, none⟩ _))
    generalize ((((((w4.setCell ⟨W.heap.size + 2, 0, none⟩ (.slice A0' x2.a.length c0')).setCell ⟨W.heap.size + 2, 1, none⟩ (.slice A1' x2.b.length c1')).setCell ⟨W.heap.size + 2, 2, none⟩ (.int .i64 x2.cap)).setCell ⟨W.heap.size + 2, 3, none⟩ (.int .i64 x2.left)).setCell ⟨W.heap.size + 2, 4, none⟩ (.bool x2.down)).setCell ⟨W.heap.size + 2, 5, none⟩ (.int .i64 x2.turned)) = w9 at hB9 hO9 ⊢
    have hd9 := H4.out.2.2.2.2.oth H4.out.2.2.2.1 (by decide) (by omega) hO9
    have hr9 := (H3.out.2.2.2.2.1.dev H3.out.2.2.2.2.2 H4.out.2.2.1).oth H4.out.2.2.2.1 (by decide) hO9
    have ho9 := ((Oth.of_below (g := g) H3.out.2.2.2.1).trans H4.out.2.2.1).then_oth hO9 (by omega)
    have H9 := Aside0.mk (And.intro hB9 (And.intro hd9 (And.intro hr9 ho9)))
    clear hB9 hO9 hd9 hr9 ho9 f0 f1 f2 f3 f4 f5 zz0 zz1 zz2 zz3 zz4 zz5 H4 H3
    go_wp2
    refine bodyPost_ret (results_list (rs := [.cell 6 29, .tmp 7]) rfl (by simp) (.cell (W.heap.size + 2) _ _ _ _ rfl H9.out.1 Try.underlying29 rfl info_rv (.tmp .nil))) rfl ?_
    exact ⟨A0', c0', A1', c1', by rw [HH.out.2.2.2.2.2.1, HH.out.2.2.2.2.2.2, HH.out.2.2.2.2.2.2, HX.out.1, HX.out.2]; rfl, by rw [HH.out.2.2.2.2.2.1, HX.out.1]; exact H9.out.2.1, by rw [HH.out.2.2.2.2.2.1, HX.out.2]; exact H9.out.2.2.1, H9.out.2.2.2⟩
set_option maxHeartbeats 1600000 in
theorem do_trunc [Pl] (g : Nat) (d1 d2 : Dv) (A0 : Option Addr) (c0 : Nat) (A1 : Option Addr) (c1 : Nat) (k r n : Int) (A : Option Addr) (c : Nat) (l : List Int) (W : World) (hk : k = 2) (hD : DevAt W g d1) (hR : RvOf W A0 c0 A1 c1 d2) (hl : ∀ W', Oth g W W' → Kd.C (Kd.int .u8) W' A l.length l) (hc : l.length ≤ c) (hn : l.length ≤ 500000) (hf1 : d1.fit 500000 1000000000000) (hf2 : d2.fit 500000 1000000000000) :
    Calls Try.prog 11 #[.pointer (some ⟨g, 0, none⟩), .agg (rvCells A0 c0 A1 c1 d2), .agg (opCells k r n A l.length c)] W (DoPost g d1 d2 (k, r, n, l) W) := by
  have e1 : ∀ d, doD d (k, r, n, l) = (truncD d r n).1 := fun d => by unfold doD; rw [if_neg (by simp only; omega), if_pos hk]
  have e2 : ∀ d, doE d (k, r, n, l) = (truncD d r n).2 := fun d => by unfold doE; rw [if_neg (by simp only; omega), if_pos hk]
  have hg : g < W.heap.size := hD.lt
  obtain ⟨x1, y1, hx1⟩ : ∃ x y, truncD d1 r n = (x, y) := ⟨_, _, rfl⟩
  obtain ⟨x2, y2, hx2⟩ : ∃ x y, truncD d2 r n = (x, y) := ⟨_, _, rfl⟩
  have RA : Aside0 (∀ w, RvOf w A0 c0 A1 c1 d2 → Calls Try.prog 27 #[.agg (rvCells A0 c0 A1 c1 d2), .int .i64 r, .int .i64 n] w fun e W' => ∃ A0' c0' A1' c1', e = .returned (.tuple #[.agg (rvCells A0' c0' A1' c1' x2), .int .i64 y2]) ∧ RvOf W' A0' c0' A1' c1' x2 ∧ Below w.heap.size w W') := ⟨fun w h1 => by have := RTruncate_calls A0 c0 A1 c1 d2 r n w h1 hf2; rwa [hx2] at this⟩
  have HX := Aside0.mk (And.intro hx1 hx2)
  have HH := Aside0.mk (And.intro hD (And.intro hR (And.intro hl (And.intro hf1 (And.intro hf2 (And.intro e1 e2))))))
  clear hD hR hl hf1 hf2 e1 e2 hx1 hx2
  subst hk
  · go_enter Try.func11, Try.ntmps11
    go_wp2_with (fail)
    have hx : RvB (((W.alloc (.cells (rvCells A0 c0 A1 c1 d2) 29)).alloc (.cells (opCells 2 r n A l.length c) 33)).alloc (.cells #[.slice none 0 0, .slice none 0 0, .int .i64 0, .int .i64 0, .bool false, .int .i64 0] 29)) W.heap.size A0 c0 A1 c1 d2 := blk_alloc (blk_alloc (blk_new W _) _) _
    have ho : (((W.alloc (.cells (rvCells A0 c0 A1 c1 d2) 29)).alloc (.cells (opCells 2 r n A l.length c) 33)).alloc (.cells #[.slice none 0 0, .slice none 0 0, .int .i64 0, .int .i64 0, .bool false, .int .i64 0] 29)).heap[W.heap.size + 1]? = some (.cells (opCells 2 r n A l.length c) 33 (0, 0)) := blk_alloc (blk_new2 W (.cells (rvCells A0 c0 A1 c1 d2) 29) (.cells (opCells 2 r n A l.length c) 33)) (.cells #[.slice none 0 0, .slice none 0 0, .int .i64 0, .int .i64 0, .bool false, .int .i64 0] 29)
    have hz := blk_new3 W (.cells (rvCells A0 c0 A1 c1 d2) 29) (.cells (opCells 2 r n A l.length c) 33) (.cells #[.slice none 0 0, .slice none 0 0, .int .i64 0, .int .i64 0, .bool false, .int .i64 0] 29)
    have hB : Below W.heap.size W (((W.alloc (.cells (rvCells A0 c0 A1 c1 d2) 29)).alloc (.cells (opCells 2 r n A l.length c) 33)).alloc (.cells #[.slice none 0 0, .slice none 0 0, .int .i64 0, .int .i64 0, .bool false, .int .i64 0] 29)) := below_alloc (below_alloc (below_alloc (Below.refl _ _) _) _) _
    generalize (((W.alloc (.cells (rvCells A0 c0 A1 c1 d2) 29)).alloc (.cells (opCells 2 r n A l.length c) 33)).alloc (.cells #[.slice none 0 0, .slice none 0 0, .int .i64 0, .int .i64 0, .bool false, .int .i64 0] 29)) = W1 at *
    obtain ⟨k0, k1, k2, k3, k4, k5⟩ := hx.cells
    obtain ⟨p0, p1, p2, p3⟩ := op_cells ho
    have H1 := Aside0.mk (And.intro hx (And.intro ho (And.intro hz hB)))
    clear hx ho hz hB
    go_wp2_with (first
      | (go_at_call 27; refine (RA.out _ (HH.out.2.1.below H1.out.2.2.2)).mono ?_; rintro e w2 ⟨A0', c0', A1', c1', rfl, hr2, hb2⟩; have H2 := Aside0.mk (And.intro (blk_belowX H1.out.2.1 hb2) (And.intro (blk_belowX H1.out.2.2.1 hb2) (And.intro (below_step H1.out.2.2.2 hb2) hr2))); clear hr2 hb2))
    have hq3 := blk_new w2 (.cells (rvCells A0' c0' A1' c1' x2) 29)
    have ho3 := blk_alloc H2.out.1 (.cells (rvCells A0' c0' A1' c1' x2) 29)
    have hz3 := blk_alloc H2.out.2.1 (.cells (rvCells A0' c0' A1' c1' x2) 29)
    have hx3 : Below w2.heap.size w2 (w2.alloc (.cells (rvCells A0' c0' A1' c1' x2) 29)) := below_alloc (Below.refl _ _) _
    have hB3 := below_step H2.out.2.2.1 hx3
    have hr3 := H2.out.2.2.2.below hx3
    have hd3 := HH.out.1.below hB3
    have hs2 : W.heap.size + 2 < w2.heap.size := lt_of_some H2.out.2.1
    clear hx3 H2 H1 k0 k1 k2 k3 k4 k5 p0 p1 p2 p3
    generalize w2.alloc (.cells (rvCells A0' c0' A1' c1' x2) 29) = w3 at *
    generalize w2.heap.size = g8 at *
    obtain ⟨k0, k1, k2, k3, k4, k5⟩ := RvB.cells (show RvB w3 g8 A0' c0' A1' c1' x2 from hq3)
    obtain ⟨p0, p1, p2, p3⟩ := op_cells ho3
    have H3 := Aside0.mk (And.intro hq3 (And.intro ho3 (And.intro hz3 (And.intro hB3 (And.intro hr3 hd3)))))
    clear hq3 ho3 hz3 hB3 hr3 hd3
    have SS : ∀ w : World, w.heap[g8]? = some (.cells (rvCells A0' c0' A1' c1' x2) 29 (0, 0)) → w.heap[W.heap.size + 1]? = some (.cells (opCells 2 r n A l.length c) 33 (0, 0)) → w.cell? ⟨g8, 0, none⟩ = some (.slice A0' x2.a.length c0') ∧ w.cell? ⟨g8, 1, none⟩ = some (.slice A1' x2.b.length c1') ∧ w.cell? ⟨g8, 2, none⟩ = some (.int .i64 x2.cap) ∧ w.cell? ⟨g8, 3, none⟩ = some (.int .i64 x2.left) ∧ w.cell? ⟨g8, 4, none⟩ = some (.bool x2.down) ∧ w.cell? ⟨g8, 5, none⟩ = some (.int .i64 x2.turned) ∧ w.cell? ⟨W.heap.size + 1, 1, none⟩ = some (.int .i64 r) ∧ w.cell? ⟨W.heap.size + 1, 2, none⟩ = some (.int .i64 n) := fun w h1 h2 => by
      obtain ⟨u0, u1, u2, u3, u4, u5⟩ := RvB.cells (show RvB w g8 A0' c0' A1' c1' x2 from h1)
      obtain ⟨v0, v1, v2, v3⟩ := op_cells h2
      exact ⟨u0, u1, u2, u3, u4, u5, v1, v2⟩
    have SS' := Aside0.mk SS
    clear SS
    go_region_held3 (fun w' => w'.cell? ⟨g8, 0, none⟩ = some (.slice A0' x2.a.length c0') ∧ w'.cell? ⟨g8, 1, none⟩ = some (.slice A1' x2.b.length c1') ∧ w'.cell? ⟨g8, 2, none⟩ = some (.int .i64 x2.cap) ∧ w'.cell? ⟨g8, 3, none⟩ = some (.int .i64 x2.left) ∧ w'.cell? ⟨g8, 4, none⟩ = some (.bool x2.down) ∧ w'.cell? ⟨g8, 5, none⟩ = some (.int .i64 x2.turned) ∧ w'.cell? ⟨W.heap.size + 1, 1, none⟩ = some (.int .i64 r) ∧ w'.cell? ⟨W.heap.size + 1, 2, none⟩ = some (.int .i64 n)) (first | (with_reducible exact SS'.out _ H4.out.1 H4.out.2.1) | (with_reducible exact SS'.out _ (((((((Oth.set w4 ⟨W.heap.size + 2, 0, none⟩ _).trans (Oth.set _ ⟨W.heap.size + 2, 1, none⟩ _)).trans (Oth.set _ ⟨W.heap.size + 2, 2, none⟩ _)).trans (Oth.set _ ⟨W.heap.size + 2, 3, none⟩ _)).trans (Oth.set _ ⟨W.heap.size + 2, 4, none⟩ _)).trans (Oth.set _ ⟨W.heap.size + 2, 5, none⟩ _)).blk H4.out.1 (by show g8 ≠ W.heap.size + 2; omega)) (((((((Oth.set w4 ⟨W.heap.size + 2, 0, none⟩ _).trans (Oth.set _ ⟨W.heap.size + 2, 1, none⟩ _)).trans (Oth.set _ ⟨W.heap.size + 2, 2, none⟩ _)).trans (Oth.set _ ⟨W.heap.size + 2, 3, none⟩ _)).trans (Oth.set _ ⟨W.heap.size + 2, 4, none⟩ _)).trans (Oth.set _ ⟨W.heap.size + 2, 5, none⟩ _)).blk H4.out.2.1 (by show W.heap.size + 1 ≠ W.heap.size + 2; omega))) | go_keep)
      (first
        | (go_at_call 19; refine (Truncate_eq g d1 x1 r n y1 _ HX.out.1 ?s0 ?s2).mono ?_; (case s0 => exact H3.out.2.2.2.2.2.drew); (case s2 => exact HH.out.2.2.2.1.wide (by decide) (by decide)); rintro e w4 ⟨rfl, hd4, ho4'⟩; have ho4 : Oth g w3 w4 := ⟨ho4'.os, ho4'.tape, ho4'.output, ho4'.size, ho4'.block⟩; have hq4 := ho4.blk H3.out.1 (by omega); have hz4 := ho4.blk H3.out.2.2.1 (by omega); have f0 := blk_frozen hz4 0; have f1 := blk_frozen hz4 1; have f2 := blk_frozen hz4 2; have f3 := blk_frozen hz4 3; have f4 := blk_frozen hz4 4; have f5 := blk_frozen hz4 5; have zz0 := blk_cell hz4 0; have zz1 := blk_cell hz4 1; have zz2 := blk_cell hz4 2; have zz3 := blk_cell hz4 3; have zz4 := blk_cell hz4 4; have zz5 := blk_cell hz4 5; simp at zz0 zz1 zz2 zz3 zz4 zz5; have H4 := Aside0.mk (And.intro hq4 (And.intro (ho4.blk H3.out.2.1 (by omega)) (And.intro ho4 (And.intro hz4 hd4)))); clear hq4 ho4 ho4' hz4 hd4))
    have hB9 := (blk_put (blk_put (blk_put (blk_put (blk_put (blk_put H4.out.2.2.2.1 0 (.slice A0' x2.a.length c0') rfl) 1 (.slice A1' x2.b.length c1') rfl) 2 (.int .i64 x2.cap) rfl) 3 (.int .i64 x2.left) rfl) 4 (.bool x2.down) rfl) 5 (.int .i64 x2.turned) rfl)
    have hO9 : Oth (W.heap.size + 2) w4 ((((((w4.setCell ⟨W.heap.size + 2, 0, none⟩ (.slice A0' x2.a.length c0')).setCell ⟨W.heap.size + 2, 1, none⟩ (.slice A1' x2.b.length c1')).setCell ⟨W.heap.size + 2, 2, none⟩ (.int .i64 x2.cap)).setCell ⟨W.heap.size + 2, 3, none⟩ (.int .i64 x2.left)).setCell ⟨W.heap.size + 2, 4, none⟩ (.bool x2.down)).setCell ⟨W.heap.size + 2, 5, none⟩ (.int .i64 x2.turned)) := ((((((Oth.set w4 ⟨W.heap.size + 2, 0, none⟩ _).trans (Oth.set _ ⟨W.heap.size + 2, 1, none⟩ _)).trans (Oth.set _ ⟨W.heap.size + 2, 2, none⟩ _)).trans (Oth.set _ ⟨W.heap.size + 2, 3, none⟩ _)).trans (Oth.set _ ⟨W.heap.size + 2, 4, none⟩ _)).trans (Oth.set _ ⟨W.heap.size + 2, 5, none⟩ _))
    generalize ((((((w4.setCell ⟨W.heap.size + 2, 0, none⟩ (.slice A0' x2.a.length c0')).setCell ⟨W.heap.size + 2, 1, none⟩ (.slice A1' x2.b.length c1')).setCell ⟨W.heap.size + 2, 2, none⟩ (.int .i64 x2.cap)).setCell ⟨W.heap.size + 2, 3, none⟩ (.int .i64 x2.left)).setCell ⟨W.heap.size + 2, 4, none⟩ (.bool x2.down)).setCell ⟨W.heap.size + 2, 5, none⟩ (.int .i64 x2.turned)) = w9 at hB9 hO9 ⊢
    have hd9 := H4.out.2.2.2.2.oth H4.out.2.2.2.1 (by decide) (by omega) hO9
    have hr9 := (H3.out.2.2.2.2.1.dev H3.out.2.2.2.2.2 H4.out.2.2.1).oth H4.out.2.2.2.1 (by decide) hO9
    have ho9 := ((Oth.of_below (g := g) H3.out.2.2.2.1).trans H4.out.2.2.1).then_oth hO9 (by omega)
    have H9 := Aside0.mk (And.intro hB9 (And.intro hd9 (And.intro hr9 ho9)))
    clear hB9 hO9 hd9 hr9 ho9 f0 f1 f2 f3 f4 f5 zz0 zz1 zz2 zz3 zz4 zz5 H4 H3
    go_wp2
    refine bodyPost_ret (results_list (rs := [.cell 6 29, .tmp 7]) rfl (by simp) (.cell (W.heap.size + 2) _ _ _ _ rfl H9.out.1 Try.underlying29 rfl info_rv (.tmp .nil))) rfl ?_
    exact ⟨A0', c0', A1', c1', by rw [HH.out.2.2.2.2.2.1, HH.out.2.2.2.2.2.2, HH.out.2.2.2.2.2.2, HX.out.1, HX.out.2]; rfl, by rw [HH.out.2.2.2.2.2.1, HX.out.1]; exact H9.out.2.1, by rw [HH.out.2.2.2.2.2.1, HX.out.2]; exact H9.out.2.2.1, H9.out.2.2.2⟩
set_option maxHeartbeats 1600000 in
theorem do_cut [Pl] (g : Nat) (d1 d2 : Dv) (A0 : Option Addr) (c0 : Nat) (A1 : Option Addr) (c1 : Nat) (k r n : Int) (A : Option Addr) (c : Nat) (l : List Int) (W : World) (hk : k = 3) (hD : DevAt W g d1) (hR : RvOf W A0 c0 A1 c1 d2) (hl : ∀ W', Oth g W W' → Kd.C (Kd.int .u8) W' A l.length l) (hc : l.length ≤ c) (hn : l.length ≤ 500000) (hf1 : d1.fit 500000 1000000000000) (hf2 : d2.fit 500000 1000000000000) :
    Calls Try.prog 11 #[.pointer (some ⟨g, 0, none⟩), .agg (rvCells A0 c0 A1 c1 d2), .agg (opCells k r n A l.length c)] W (DoPost g d1 d2 (k, r, n, l) W) := by
  have e1 : doD d1 (k, r, n, l) = (cutD d1 n) := by subst hk; rfl
  have e1' : doD d2 (k, r, n, l) = (cutD d2 n) := by subst hk; rfl
  have e2 : ∀ d, doE d (k, r, n, l) = 0 := fun d => by subst hk; rfl
  have hg : g < W.heap.size := hD.lt
  have HH := Aside0.mk (And.intro hD (And.intro hR (And.intro hl (And.intro hf1 (And.intro hf2 (And.intro e1 (And.intro e1' e2)))))))
  clear hD hR hl hf1 hf2 e1 e1' e2
  subst hk
  · go_enter Try.func11, Try.ntmps11
    go_wp2_with (fail)
    have hx : RvB (((W.alloc (.cells (rvCells A0 c0 A1 c1 d2) 29)).alloc (.cells (opCells 3 r n A l.length c) 33)).alloc (.cells #[.slice none 0 0, .slice none 0 0, .int .i64 0, .int .i64 0, .bool false, .int .i64 0] 29)) W.heap.size A0 c0 A1 c1 d2 := blk_alloc (blk_alloc (blk_new W _) _) _
    have ho : (((W.alloc (.cells (rvCells A0 c0 A1 c1 d2) 29)).alloc (.cells (opCells 3 r n A l.length c) 33)).alloc (.cells #[.slice none 0 0, .slice none 0 0, .int .i64 0, .int .i64 0, .bool false, .int .i64 0] 29)).heap[W.heap.size + 1]? = some (.cells (opCells 3 r n A l.length c) 33 (0, 0)) := blk_alloc (blk_new2 W (.cells (rvCells A0 c0 A1 c1 d2) 29) (.cells (opCells 3 r n A l.length c) 33)) (.cells #[.slice none 0 0, .slice none 0 0, .int .i64 0, .int .i64 0, .bool false, .int .i64 0] 29)
    have hz := blk_new3 W (.cells (rvCells A0 c0 A1 c1 d2) 29) (.cells (opCells 3 r n A l.length c) 33) (.cells #[.slice none 0 0, .slice none 0 0, .int .i64 0, .int .i64 0, .bool false, .int .i64 0] 29)
    have hB : Below W.heap.size W (((W.alloc (.cells (rvCells A0 c0 A1 c1 d2) 29)).alloc (.cells (opCells 3 r n A l.length c) 33)).alloc (.cells #[.slice none 0 0, .slice none 0 0, .int .i64 0, .int .i64 0, .bool false, .int .i64 0] 29)) := below_alloc (below_alloc (below_alloc (Below.refl _ _) _) _) _
    generalize (((W.alloc (.cells (rvCells A0 c0 A1 c1 d2) 29)).alloc (.cells (opCells 3 r n A l.length c) 33)).alloc (.cells #[.slice none 0 0, .slice none 0 0, .int .i64 0, .int .i64 0, .bool false, .int .i64 0] 29)) = W1 at *
    obtain ⟨k0, k1, k2, k3, k4, k5⟩ := hx.cells
    obtain ⟨p0, p1, p2, p3⟩ := op_cells ho
    have H1 := Aside0.mk (And.intro hx (And.intro ho (And.intro hz hB)))
    clear hx ho hz hB
    go_wp2_with (first
      | (go_at_call 13; refine (Cut_calls g d1 n _ (HH.out.1.below H1.out.2.2.2)).mono ?_; rintro e w2 ⟨rfl, hd2, ho2⟩; have hx2 : RvB w2 W.heap.size A0 c0 A1 c1 d2 := ho2.blk H1.out.1 (by omega); have hp2 := ho2.blk H1.out.2.1 (by omega); obtain ⟨u0, u1, u2, u3, u4, u5⟩ := hx2.cells; obtain ⟨v0, v1, v2, v3⟩ := op_cells hp2; have H2 := Aside0.mk (And.intro (ho2.blk H1.out.2.2.1 (by omega)) (And.intro ((Oth.of_below (g := g) H1.out.2.2.2).trans ho2) (And.intro hd2 ((HH.out.2.1.below H1.out.2.2.2).dev (HH.out.1.below H1.out.2.2.2) ho2)))); clear hx2 hp2 hd2 ho2)
      | (go_at_call 28; refine (RCut_calls A0 c0 A1 c1 d2 n _).mono ?_; rintro e w3 ⟨rfl, hb3⟩; have hv3 : RvOf w3 A0 c0 A1 c1 (cutD d2 n) := ⟨H2.out.2.2.2.l0, H2.out.2.2.2.l1, H2.out.2.2.2.r0.below hb3, H2.out.2.2.2.r1.below hb3⟩; have H3 := Aside0.mk (And.intro (blk_belowX H2.out.1 hb3) (And.intro (H2.out.2.1.trans (Oth.of_below hb3)) (And.intro (H2.out.2.2.1.below hb3) hv3))); clear hb3 hv3)
      | ((with_reducible refine gate_store (t := 29) (p := 6) (v := .tmp 64) rfl ?_); refine wpList_store_agg rfl rfl 29 (.tmp 6) (.tmp 64) rfl (W.heap.size + 2) 29 _ (rvCells A0 c0 A1 c1 (cutD d2 n)) rfl rfl H3.out.1 info_rv rfl (by intro q hq; simp at hq; rcases hq with rfl | rfl | rfl | rfl | rfl | rfl <;> rfl) ?_; intro w4 hr3 hf3 hz3 ho3 ht3 hu3; have H4 := Aside0.mk (And.intro hr3 (oth_of hf3 hz3 ho3 ht3 hu3)); clear hr3 hf3 hz3 ho3 ht3 hu3))
    have hd4 := H3.out.2.2.1.oth H3.out.1 (by decide) (by omega) H4.out.2
    have hv4 := H3.out.2.2.2.oth H3.out.1 (by decide) H4.out.2
    refine bodyPost_ret (results_list (rs := [.cell 6 29, .tmp 7]) rfl (by simp) (.cell (W.heap.size + 2) _ _ _ _ rfl H4.out.1 Try.underlying29 rfl info_rv (.tmp .nil))) rfl ?_
    exact ⟨A0, c0, A1, c1, by rw [HH.out.2.2.2.2.2.2.1, HH.out.2.2.2.2.2.2.2, HH.out.2.2.2.2.2.2.2]; rfl, by rw [HH.out.2.2.2.2.2.1]; exact hd4, by rw [HH.out.2.2.2.2.2.2.1]; exact hv4, H3.out.2.1.then_oth H4.out.2 (by omega)⟩
set_option maxHeartbeats 1600000 in
theorem do_rest [Pl] (g : Nat) (d1 d2 : Dv) (A0 : Option Addr) (c0 : Nat) (A1 : Option Addr) (c1 : Nat) (k r n : Int) (A : Option Addr) (c : Nat) (l : List Int) (W : World) (hk : k = 4) (hD : DevAt W g d1) (hR : RvOf W A0 c0 A1 c1 d2) (hl : ∀ W', Oth g W W' → Kd.C (Kd.int .u8) W' A l.length l) (hc : l.length ≤ c) (hn : l.length ≤ 500000) (hf1 : d1.fit 500000 1000000000000) (hf2 : d2.fit 500000 1000000000000) :
    Calls Try.prog 11 #[.pointer (some ⟨g, 0, none⟩), .agg (rvCells A0 c0 A1 c1 d2), .agg (opCells k r n A l.length c)] W (DoPost g d1 d2 (k, r, n, l) W) := by
  have e1 : doD d1 (k, r, n, l) = (restD d1) := by subst hk; rfl
  have e1' : doD d2 (k, r, n, l) = (restD d2) := by subst hk; rfl
  have e2 : ∀ d, doE d (k, r, n, l) = 0 := fun d => by subst hk; rfl
  have hg : g < W.heap.size := hD.lt
  have HH := Aside0.mk (And.intro hD (And.intro hR (And.intro hl (And.intro hf1 (And.intro hf2 (And.intro e1 (And.intro e1' e2)))))))
  clear hD hR hl hf1 hf2 e1 e1' e2
  subst hk
  · go_enter Try.func11, Try.ntmps11
    go_wp2_with (fail)
    have hx : RvB (((W.alloc (.cells (rvCells A0 c0 A1 c1 d2) 29)).alloc (.cells (opCells 4 r n A l.length c) 33)).alloc (.cells #[.slice none 0 0, .slice none 0 0, .int .i64 0, .int .i64 0, .bool false, .int .i64 0] 29)) W.heap.size A0 c0 A1 c1 d2 := blk_alloc (blk_alloc (blk_new W _) _) _
    have ho : (((W.alloc (.cells (rvCells A0 c0 A1 c1 d2) 29)).alloc (.cells (opCells 4 r n A l.length c) 33)).alloc (.cells #[.slice none 0 0, .slice none 0 0, .int .i64 0, .int .i64 0, .bool false, .int .i64 0] 29)).heap[W.heap.size + 1]? = some (.cells (opCells 4 r n A l.length c) 33 (0, 0)) := blk_alloc (blk_new2 W (.cells (rvCells A0 c0 A1 c1 d2) 29) (.cells (opCells 4 r n A l.length c) 33)) (.cells #[.slice none 0 0, .slice none 0 0, .int .i64 0, .int .i64 0, .bool false, .int .i64 0] 29)
    have hz := blk_new3 W (.cells (rvCells A0 c0 A1 c1 d2) 29) (.cells (opCells 4 r n A l.length c) 33) (.cells #[.slice none 0 0, .slice none 0 0, .int .i64 0, .int .i64 0, .bool false, .int .i64 0] 29)
    have hB : Below W.heap.size W (((W.alloc (.cells (rvCells A0 c0 A1 c1 d2) 29)).alloc (.cells (opCells 4 r n A l.length c) 33)).alloc (.cells #[.slice none 0 0, .slice none 0 0, .int .i64 0, .int .i64 0, .bool false, .int .i64 0] 29)) := below_alloc (below_alloc (below_alloc (Below.refl _ _) _) _) _
    generalize (((W.alloc (.cells (rvCells A0 c0 A1 c1 d2) 29)).alloc (.cells (opCells 4 r n A l.length c) 33)).alloc (.cells #[.slice none 0 0, .slice none 0 0, .int .i64 0, .int .i64 0, .bool false, .int .i64 0] 29)) = W1 at *
    obtain ⟨k0, k1, k2, k3, k4, k5⟩ := hx.cells
    obtain ⟨p0, p1, p2, p3⟩ := op_cells ho
    have H1 := Aside0.mk (And.intro hx (And.intro ho (And.intro hz hB)))
    clear hx ho hz hB
    go_wp2_with (first
      | (go_at_call 18; refine (Restore_calls g d1 _ (HH.out.1.below H1.out.2.2.2)).mono ?_; rintro e w2 ⟨rfl, hd2, ho2⟩; have hx2 : RvB w2 W.heap.size A0 c0 A1 c1 d2 := ho2.blk H1.out.1 (by omega); have hp2 := ho2.blk H1.out.2.1 (by omega); obtain ⟨u0, u1, u2, u3, u4, u5⟩ := hx2.cells; obtain ⟨v0, v1, v2, v3⟩ := op_cells hp2; have H2 := Aside0.mk (And.intro (ho2.blk H1.out.2.2.1 (by omega)) (And.intro ((Oth.of_below (g := g) H1.out.2.2.2).trans ho2) (And.intro hd2 ((HH.out.2.1.below H1.out.2.2.2).dev (HH.out.1.below H1.out.2.2.2) ho2)))); clear hx2 hp2 hd2 ho2)
      | (go_at_call 29; refine (RRest_calls A0 c0 A1 c1 d2 _).mono ?_; rintro e w3 ⟨rfl, hb3⟩; have hv3 : RvOf w3 A0 c0 A1 c1 (restD d2) := ⟨H2.out.2.2.2.l0, H2.out.2.2.2.l1, H2.out.2.2.2.r0.below hb3, H2.out.2.2.2.r1.below hb3⟩; have H3 := Aside0.mk (And.intro (blk_belowX H2.out.1 hb3) (And.intro (H2.out.2.1.trans (Oth.of_below hb3)) (And.intro (H2.out.2.2.1.below hb3) hv3))); clear hb3 hv3)
      | ((with_reducible refine gate_store (t := 29) (p := 6) (v := .tmp 70) rfl ?_); refine wpList_store_agg rfl rfl 29 (.tmp 6) (.tmp 70) rfl (W.heap.size + 2) 29 _ (rvCells A0 c0 A1 c1 (restD d2)) rfl rfl H3.out.1 info_rv rfl (by intro q hq; simp at hq; rcases hq with rfl | rfl | rfl | rfl | rfl | rfl <;> rfl) ?_; intro w4 hr3 hf3 hz3 ho3 ht3 hu3; have H4 := Aside0.mk (And.intro hr3 (oth_of hf3 hz3 ho3 ht3 hu3)); clear hr3 hf3 hz3 ho3 ht3 hu3))
    have hd4 := H3.out.2.2.1.oth H3.out.1 (by decide) (by omega) H4.out.2
    have hv4 := H3.out.2.2.2.oth H3.out.1 (by decide) H4.out.2
    refine bodyPost_ret (results_list (rs := [.cell 6 29, .tmp 7]) rfl (by simp) (.cell (W.heap.size + 2) _ _ _ _ rfl H4.out.1 Try.underlying29 rfl info_rv (.tmp .nil))) rfl ?_
    exact ⟨A0, c0, A1, c1, by rw [HH.out.2.2.2.2.2.2.1, HH.out.2.2.2.2.2.2.2, HH.out.2.2.2.2.2.2.2]; rfl, by rw [HH.out.2.2.2.2.2.1]; exact hd4, by rw [HH.out.2.2.2.2.2.2.1]; exact hv4, H3.out.2.1.then_oth H4.out.2 (by omega)⟩
set_option maxHeartbeats 1600000 in
theorem do_load [Pl] (g : Nat) (d1 d2 : Dv) (A0 : Option Addr) (c0 : Nat) (A1 : Option Addr) (c1 : Nat) (k r n : Int) (A : Option Addr) (c : Nat) (l : List Int) (W : World) (hk : k = 5) (hD : DevAt W g d1) (hR : RvOf W A0 c0 A1 c1 d2) (hl : ∀ W', Oth g W W' → Kd.C (Kd.int .u8) W' A l.length l) (hc : l.length ≤ c) (hn : l.length ≤ 500000) (hf1 : d1.fit 500000 1000000000000) (hf2 : d2.fit 500000 1000000000000) :
    Calls Try.prog 11 #[.pointer (some ⟨g, 0, none⟩), .agg (rvCells A0 c0 A1 c1 d2), .agg (opCells k r n A l.length c)] W (DoPost g d1 d2 (k, r, n, l) W) := by
  have e1 : doD d1 (k, r, n, l) = (d1.set r (l.take d1.cap.toNat)) := by subst hk; rfl
  have e1' : doD d2 (k, r, n, l) = (d2.set r (l.take d2.cap.toNat)) := by subst hk; rfl
  have e2 : ∀ d, doE d (k, r, n, l) = 0 := fun d => by subst hk; rfl
  have hg : g < W.heap.size := hD.lt
  have HH := Aside0.mk (And.intro hD (And.intro hR (And.intro hl (And.intro hf1 (And.intro hf2 (And.intro e1 (And.intro e1' e2)))))))
  clear hD hR hl hf1 hf2 e1 e1' e2
  subst hk
  · go_enter Try.func11, Try.ntmps11
    go_wp2_with (fail)
    have hx : RvB (((W.alloc (.cells (rvCells A0 c0 A1 c1 d2) 29)).alloc (.cells (opCells 5 r n A l.length c) 33)).alloc (.cells #[.slice none 0 0, .slice none 0 0, .int .i64 0, .int .i64 0, .bool false, .int .i64 0] 29)) W.heap.size A0 c0 A1 c1 d2 := blk_alloc (blk_alloc (blk_new W _) _) _
    have ho : (((W.alloc (.cells (rvCells A0 c0 A1 c1 d2) 29)).alloc (.cells (opCells 5 r n A l.length c) 33)).alloc (.cells #[.slice none 0 0, .slice none 0 0, .int .i64 0, .int .i64 0, .bool false, .int .i64 0] 29)).heap[W.heap.size + 1]? = some (.cells (opCells 5 r n A l.length c) 33 (0, 0)) := blk_alloc (blk_new2 W (.cells (rvCells A0 c0 A1 c1 d2) 29) (.cells (opCells 5 r n A l.length c) 33)) (.cells #[.slice none 0 0, .slice none 0 0, .int .i64 0, .int .i64 0, .bool false, .int .i64 0] 29)
    have hz := blk_new3 W (.cells (rvCells A0 c0 A1 c1 d2) 29) (.cells (opCells 5 r n A l.length c) 33) (.cells #[.slice none 0 0, .slice none 0 0, .int .i64 0, .int .i64 0, .bool false, .int .i64 0] 29)
    have hB : Below W.heap.size W (((W.alloc (.cells (rvCells A0 c0 A1 c1 d2) 29)).alloc (.cells (opCells 5 r n A l.length c) 33)).alloc (.cells #[.slice none 0 0, .slice none 0 0, .int .i64 0, .int .i64 0, .bool false, .int .i64 0] 29)) := below_alloc (below_alloc (below_alloc (Below.refl _ _) _) _) _
    generalize (((W.alloc (.cells (rvCells A0 c0 A1 c1 d2) 29)).alloc (.cells (opCells 5 r n A l.length c) 33)).alloc (.cells #[.slice none 0 0, .slice none 0 0, .int .i64 0, .int .i64 0, .bool false, .int .i64 0] 29)) = W1 at *
    obtain ⟨k0, k1, k2, k3, k4, k5⟩ := hx.cells
    obtain ⟨p0, p1, p2, p3⟩ := op_cells ho
    have H1 := Aside0.mk (And.intro hx (And.intro ho (And.intro hz hB)))
    clear hx ho hz hB
    go_wp2_with (first
      | (go_at_call 12; refine (Load_calls g d1 r A c l _ (HH.out.1.below H1.out.2.2.2) (HH.out.2.2.1 _ (Oth.of_below H1.out.2.2.2)) hc ⟨HH.out.2.2.2.1.c0, HH.out.2.2.2.1.c1⟩ (by omega)).mono ?_; rintro e w2 ⟨rfl, hd2, ho2⟩; have hx2 : RvB w2 W.heap.size A0 c0 A1 c1 d2 := ho2.blk H1.out.1 (by omega); have hp2 := ho2.blk H1.out.2.1 (by omega); obtain ⟨u0, u1, u2, u3, u4, u5⟩ := hx2.cells; obtain ⟨v0, v1, v2, v3⟩ := op_cells hp2; have H2 := Aside0.mk (And.intro (ho2.blk H1.out.2.2.1 (by omega)) (And.intro ((Oth.of_below (g := g) H1.out.2.2.2).trans ho2) (And.intro hd2 ((HH.out.2.1.below H1.out.2.2.2).dev (HH.out.1.below H1.out.2.2.2) ho2)))); clear hx2 hp2 hd2 ho2)
      | (go_at_call 30; refine (RLoad_calls A0 c0 A1 c1 d2 r A c l _ H2.out.2.2.2 (HH.out.2.2.1 _ H2.out.2.1) hc ⟨HH.out.2.2.2.2.1.c0, HH.out.2.2.2.2.1.c1⟩ hn).mono ?_; rintro e w3 ⟨A0', c0', A1', c1', rfl, hr3, hb3⟩; have hv3 : RvOf w3 A0' c0' A1' c1' (d2.set r (l.take d2.cap.toNat)) := hr3; have H3 := Aside0.mk (And.intro (blk_belowX H2.out.1 hb3) (And.intro (H2.out.2.1.trans (Oth.of_below hb3)) (And.intro (H2.out.2.2.1.below hb3) hv3))); clear hb3 hv3 hr3)
      | ((with_reducible refine gate_store (t := 29) (p := 6) (v := .tmp 84) rfl ?_); refine wpList_store_agg rfl rfl 29 (.tmp 6) (.tmp 84) rfl (W.heap.size + 2) 29 _ (rvCells A0' c0' A1' c1' (d2.set r (l.take d2.cap.toNat))) rfl rfl H3.out.1 info_rv rfl (by intro q hq; simp at hq; rcases hq with rfl | rfl | rfl | rfl | rfl | rfl <;> rfl) ?_; intro w4 hr3 hf3 hz3 ho3 ht3 hu3; have H4 := Aside0.mk (And.intro hr3 (oth_of hf3 hz3 ho3 ht3 hu3)); clear hr3 hf3 hz3 ho3 ht3 hu3))
    have hd4 := H3.out.2.2.1.oth H3.out.1 (by decide) (by omega) H4.out.2
    have hv4 := H3.out.2.2.2.oth H3.out.1 (by decide) H4.out.2
    refine bodyPost_ret (results_list (rs := [.cell 6 29, .tmp 7]) rfl (by simp) (.cell (W.heap.size + 2) _ _ _ _ rfl H4.out.1 Try.underlying29 rfl info_rv (.tmp .nil))) rfl ?_
    exact ⟨A0', c0', A1', c1', by rw [HH.out.2.2.2.2.2.2.1, HH.out.2.2.2.2.2.2.2, HH.out.2.2.2.2.2.2.2]; rfl, by rw [HH.out.2.2.2.2.2.1]; exact hd4, by rw [HH.out.2.2.2.2.2.2.1]; exact hv4, H3.out.2.1.then_oth H4.out.2 (by omega)⟩
set_option maxHeartbeats 1600000 in
theorem do_other [Pl] (g : Nat) (d1 d2 : Dv) (A0 : Option Addr) (c0 : Nat) (A1 : Option Addr) (c1 : Nat) (k r n : Int) (A : Option Addr) (c : Nat) (l : List Int) (W : World) (hk : ¬ (k = 0 ∨ k = 1) ∧ k ≠ 2 ∧ k ≠ 3 ∧ k ≠ 4 ∧ k ≠ 5) (hD : DevAt W g d1) (hR : RvOf W A0 c0 A1 c1 d2) (hl : ∀ W', Oth g W W' → Kd.C (Kd.int .u8) W' A l.length l) (hc : l.length ≤ c) (hn : l.length ≤ 500000) (hf1 : d1.fit 500000 1000000000000) (hf2 : d2.fit 500000 1000000000000) :
    Calls Try.prog 11 #[.pointer (some ⟨g, 0, none⟩), .agg (rvCells A0 c0 A1 c1 d2), .agg (opCells k r n A l.length c)] W (DoPost g d1 d2 (k, r, n, l) W) := by
  have e1 : doD d1 (k, r, n, l) = d1 := by unfold doD; simp only; rw [if_neg hk.1, if_neg hk.2.1, if_neg hk.2.2.1, if_neg hk.2.2.2.1, if_neg hk.2.2.2.2]
  have e1' : doD d2 (k, r, n, l) = d2 := by unfold doD; simp only; rw [if_neg hk.1, if_neg hk.2.1, if_neg hk.2.2.1, if_neg hk.2.2.2.1, if_neg hk.2.2.2.2]
  have e2 : ∀ d, doE d (k, r, n, l) = 0 := fun d => by unfold doE; simp only; rw [if_neg hk.1, if_neg hk.2.1]
  have hg : g < W.heap.size := hD.lt
  have HH := Aside0.mk (And.intro hD (And.intro hR (And.intro hl (And.intro hf1 (And.intro hf2 (And.intro e1 (And.intro e1' e2)))))))
  clear hD hR hl hf1 hf2 e1 e1' e2
  have b0 : (k == 0) = false := by rw [beq_eq_false_iff_ne]; omega
  have b1 : (k == 1) = false := by rw [beq_eq_false_iff_ne]; omega
  have b2 : (k == 2) = false := by rw [beq_eq_false_iff_ne]; omega
  have b3 : (k == 3) = false := by rw [beq_eq_false_iff_ne]; omega
  have b4 : (k == 4) = false := by rw [beq_eq_false_iff_ne]; omega
  have b5 : (k == 5) = false := by rw [beq_eq_false_iff_ne]; omega
  have HK := Lib.hid hk
  clear hk
  · go_enter Try.func11, Try.ntmps11
    go_wp2
    have hB : Below W.heap.size W (((W.alloc (.cells (rvCells A0 c0 A1 c1 d2) 29)).alloc (.cells (opCells k r n A l.length c) 33)).alloc (.cells (rvCells A0 c0 A1 c1 d2) 29)) := below_alloc (below_alloc (below_alloc (Below.refl _ _) _) _) _
    refine bodyPost_ret (results_list (rs := [.cell 6 29, .tmp 7]) rfl (by simp) (.cell (W.heap.size + 2) _ _ _ _ rfl (blk_new3 W (.cells (rvCells A0 c0 A1 c1 d2) 29) (.cells (opCells k r n A l.length c) 33) (.cells (rvCells A0 c0 A1 c1 d2) 29)) Try.underlying29 rfl info_rv (.tmp .nil))) rfl ?_
    exact ⟨A0, c0, A1, c1, by rw [HH.out.2.2.2.2.2.2.1, HH.out.2.2.2.2.2.2.2, HH.out.2.2.2.2.2.2.2]; rfl, by rw [HH.out.2.2.2.2.2.1]; exact HH.out.1.below hB, by rw [HH.out.2.2.2.2.2.2.1]; exact HH.out.2.1.below hB, Oth.of_below (g := g) hB⟩
theorem do_calls [Pl] (g : Nat) (d1 d2 : Dv) (A0 : Option Addr) (c0 : Nat) (A1 : Option Addr) (c1 : Nat) (k r n : Int) (A : Option Addr) (c : Nat) (l : List Int) (W : World) (hD : DevAt W g d1) (hR : RvOf W A0 c0 A1 c1 d2) (hl : ∀ W', Oth g W W' → Kd.C (Kd.int .u8) W' A l.length l) (hc : l.length ≤ c) (hn : l.length ≤ 500000) (hf1 : d1.fit 500000 1000000000000) (hf2 : d2.fit 500000 1000000000000) :
    Calls Try.prog 11 #[.pointer (some ⟨g, 0, none⟩), .agg (rvCells A0 c0 A1 c1 d2), .agg (opCells k r n A l.length c)] W (DoPost g d1 d2 (k, r, n, l) W) := by
  by_cases h0 : k = 0 ∨ k = 1
  · exact do_append g d1 d2 A0 c0 A1 c1 k r n A c l W h0 hD hR hl hc hn hf1 hf2
  by_cases h2 : k = 2
  · exact do_trunc g d1 d2 A0 c0 A1 c1 k r n A c l W h2 hD hR hl hc hn hf1 hf2
  by_cases h3 : k = 3
  · exact do_cut g d1 d2 A0 c0 A1 c1 k r n A c l W h3 hD hR hl hc hn hf1 hf2
  by_cases h4 : k = 4
  · exact do_rest g d1 d2 A0 c0 A1 c1 k r n A c l W h4 hD hR hl hc hn hf1 hf2
  by_cases h5 : k = 5
  · exact do_load g d1 d2 A0 c0 A1 c1 k r n A c l W h5 hD hR hl hc hn hf1 hf2
  exact do_other g d1 d2 A0 c0 A1 c1 k r n A c l W ⟨h0, h2, h3, h4, h5⟩ hD hR hl hc hn hf1 hf2
end Go.Proofs.Ytpahmdjcmpnmkaa.H
