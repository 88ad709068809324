/- Some texts of one seat in one file, in build order. -/
import Derived.Test.YtcnmbllafdeokaaG5
import Derived.Test.YtcnmbllafdeokaaG11
import Derived.Test.YtcnmbllafdeokaaG8
import Derived.Deep.RegionHeld3
/- AtomWithin: whatever the atoms, the sets and the number, the statement's function answers true. No condition. -/
namespace Go.Proofs.Ytcnmbllafdeokaa.MAtomWithin
open Go.RowKit Go.Proofs.YtcnmbllafdeokaaW.PrintWords Go.Proofs.YtcnmbllafdeokaaW.PrintLast Go.Proofs.YtcnmbllafdeokaaW.PrintMore Go.Proofs.Ytcnmbllafdeokaa.H Go.Proofs.Ytcnmbllafdeokaa.Ult Go.Proofs.Ytcnmbllafdeokaa.AtM Go.Proofs.Ytcnmbllafdeokaa.R02 Go.Proofs.Ytcnmbllafdeokaa.R09 Go.Proofs.Ytcnmbllafdeokaa.PAll9
set_option linter.unusedVariables false
set_option linter.unusedSimpArgs false
set_option maxRecDepth 100000
attribute [local go_sem] Oper.semAt_some wide_fn wide_depth
theorem opens : Opens Try.prog 22 (Kd.slice 29 KAt) (fun l => ∀ x ∈ l, (Lit.int .u64 x.1).wf = true ∧ (Lit.int .i64 x.2).wf = true) := opensAs
/-- An empty row of one's own. -/
theorem R_zero {α : Type} (d : Kd α) {e base g : Nat} {W : World} {ok : Nat → Prop} (hg : W.heap[g]? = some (.cells #[] e (0, 0))) (hb : base ≤ g) (hok : ok g) : d.R e W base ok (.slice (some ⟨g, 0, none⟩) 0 0) [] :=
  ⟨fun k hk => by have e : some g = some k := hk; injection e with e; exact e ▸ hok, [], ⟨by simp, .inr ⟨g, 0, #[], rfl, hb, hg, Nat.le_refl _, by decide, by simp, by simp⟩⟩, Reps.none _ _⟩
theorem But.lies {P : Nat → Prop} {W X Y : World} {B : Nat} (h : But P W X) (hl : Lies B X Y) (hB : W.heap.size ≤ B) : But P W Y :=
  ⟨hl.os.trans h.os, hl.tape.trans h.tape, hl.output.trans h.output, Nat.le_trans h.size hl.size, fun k hk hp => by
    have e := h.block k hk hp
    obtain ⟨o, ho⟩ : ∃ o, W.heap[k]? = some o := ⟨_, Array.getElem?_eq_getElem hk⟩
    rw [ho] at e ⊢
    exact hl.same k o e (.inl (by omega))⟩
/-- What the first loop holds: the row of what came, and its box; beside them nothing of w has turned. -/
structure GW (w X : World) (N : Nat) (pre : List At) : Prop where
  row : ∃ A c, X.heap[N + 2]? = some (.cells #[.slice A pre.length c] 22 (0, 0)) ∧ Kd.R KAt 29 X N (fun k => k = N ∨ w.heap.size ≤ k) (.slice A pre.length c) pre
  but : But (fun k => k = N ∨ k = N + 2) w X
theorem GW.lies {w X Y : World} {N B : Nat} {pre : List At} (h : GW w X N pre) (hl : Lies B X Y) (hB : w.heap.size ≤ B) : GW w Y N pre := by
  obtain ⟨A, c, h1, h2⟩ := h.row
  exact ⟨⟨A, c, hl.blk h1, hl.R h2⟩, But.lies h.but hl hB⟩
theorem within_snoc (l : List At) (k : Nat) (s : Int) (x : At) (hx : l[k]? = some x) : withinL (l.take (k + 1)) s = withinL (l.take k) s ++ if rightA x = true ∧ wthB x.1 s = true then [x] else [] := by
  unfold withinL
  rw [filter_take rightA l k x hx, List.filter_append]
  congr 1
  by_cases h1 : rightA x = true
  · by_cases h2 : wthB x.1 s = true
    · simp [h1, h2, inA]
    · simp [h1, h2, inA]
  · simp [h1]
theorem take_snoc {α : Type} (xs : List α) (x : α) (m n : Nat) (h : (xs.take m).length = n) (hn : n < m) : (xs ++ [x]).take m = xs.take m ++ [x] := by
  rw [List.length_take] at h
  rw [List.take_of_length_le (by simp; omega), List.take_of_length_le (by omega)]
theorem take_full {α : Type} (xs ys : List α) (m n : Nat) (h : (xs.take m).length = n) (hn : ¬ n < m) : (xs ++ ys).take m = xs.take m := by
  rw [List.length_take] at h
  rw [List.take_append_of_le_length (by omega)]
theorem and_sub {a b c : Int} (ha : U64 a) (hb : U64 b) (h : bits BinOp.and IntKind.u64 a b = c) : U64 c ∧ wthB c a = true ∧ wthB c b = true := by
  have e : bits BinOp.and IntKind.u64 a b = ((a.toNat &&& b.toNat : Nat) : Int) := by
    have h1 := and_un (a := a.toNat) (m := b.toNat) (x := a) (by have := ha.1; omega) (by have := ha.2; omega) (by have := hb.2; omega)
    rw [Int.toNat_of_nonneg hb.1] at h1
    exact h1
  rw [e] at h
  subst h
  have hle : a.toNat &&& b.toNat ≤ a.toNat := Nat.and_le_left
  refine ⟨⟨by omega, by have := ha.2; omega⟩, (wth_iff _ _).2 fun i hi => ?_, (wth_iff _ _).2 fun i hi => ?_⟩
  · rw [Int.toNat_natCast, Nat.testBit_and] at hi; simp at hi; exact hi.1
  · rw [Int.toNat_natCast, Nat.testBit_and] at hi; simp at hi; exact hi.2
theorem value_none (l : List At) (hu : ∀ x ∈ l, U64 x.1) : valueL l 0 = 0 := by
  have h1 := value_ge0 l 0
  have h2 : valueL l 0 ≤ 0 := value_le (Int.le_refl _) (fun x hx hr hw => by
    have hx0 := hu x hx
    have h3 := of_decide_eq_true hw
    have h4 := of_decide_eq_true hr
    have : x.1.toNat = 0 := by rw [← h3]; simp
    have := hx0.1
    omega)
  omega
theorem rright_eq (x : At) (r : Bool) (W : World) (h : rightA x = r) : Calls Try.prog 6 #[H.encA x] W fun e W' => e = .returned (.bool r) ∧ Below W.heap.size W W' := by
  subst h; exact saleroomref09_Right.calls x.1 x.2 (rightA x) W (right_f x)
theorem rwithin_eq (x y : Int) (r : Bool) (W : World) (hx : U64 x) (hy : U64 y) (h : wthB x y = r) : Calls Try.prog 7 #[.int .u64 x, .int .u64 y] W fun e W' => e = .returned (.bool r) ∧ Below W.heap.size W W' := by
  subst h
  obtain ⟨k, hk⟩ := (within_ev x y hx hy).get
  exact (saleroomref02_Within.calls k x y _ W hk).mono fun e W' h => ⟨h.1, h.2.below⟩
theorem rright1_eq (v : Int) (W : World) (h : 0 ≤ v ∧ v ≤ 1099511627776) : Calls Try.prog 10 #[.int .i64 v] W fun e W' => e = .returned (.bool true) ∧ Below W.heap.size W W' := by
  have h2 := right1_f v
  rw [decide_eq_true h] at h2
  exact (saleroomref01_Right.calls v true W h2).mono fun e W' h => ⟨h.1, h.2.below⟩
theorem same_eq (a b : List At) (A B : Option Addr) (n m ca cb : Nat) (r : Bool) (W : World) (hn : a.length = n) (hm : b.length = m) (hA : Kd.C KAt W A n a) (hB : Kd.C KAt W B m b) (hca : n ≤ ca) (hcb : m ≤ cb) (hl : n ≤ 600000) (h : decide (a = b) = r) :
    Calls Try.prog 9 #[.slice A n ca, .slice B m cb] W fun e W' => e = .returned (.bool r) ∧ Below W.heap.size W W' := by
  subst hn; subst hm; subst h
  obtain ⟨k, hk⟩ := (same_ev a b hl).get
  have h := saleroomref09_Same.calls k A ca (a.map ofA) B cb (b.map ofA) _ W (C_of hA) (by rw [List.length_map]; exact hca) (C_of hB) (by rw [List.length_map]; exact hcb) hk
  simp only [List.length_map] at h
  exact h.mono fun e W' h => ⟨h.1, by first | exact h.2 | exact h.2.below⟩
set_option maxHeartbeats 3200000 in
theorem main (A : Option Addr) (c : Nat) (l : List At) (hc : l.length ≤ c) {W0 : World} (m : Kd.C KAt W0 A l.length l) (g : ∀ x ∈ l, (Lit.int .u64 x.1).wf = true ∧ (Lit.int .i64 x.2).wf = true)
    (s : Int) (wfs : (Lit.int .u64 s).wf = true) (t : Int) (wft : (Lit.int .u64 t).wf = true) (most : Int) (wfm : (Lit.int .i64 most).wf = true) (W : World) (hW : W0 = W := by rfl) :
    Calls Try.prog 3 #[.slice A l.length c, .int .u64 s, .int .u64 t, .int .i64 most] W fun e W' => e = .returned (.bool true) ∧ Below W.heap.size W W' := by
  subst hW
  have hu := goodA g
  have hs : U64 s := wf_u64 wfs
  have ht : U64 t := wf_u64 wft
  have hmm := and_mask most 127 (by decide)
  rw [show ((127 : Nat) : Int) = 127 from rfl] at hmm
  have M := Aside0.mk (And.intro m (And.intro hu (And.intro hs ht)))
  clear m g hu wfs wft wfm
  refine (callsIn_wide (n := 8)).1 ?_
  refine callsIn_of_wp_marks Try.func3 rfl trivial ?_ rfl
  simp only [Try.ntmps3, List.size_toArray, List.length_cons, List.length_nil, Nat.reduceAdd, Nat.reduceSub, Array.replicate_succ, Array.replicate_zero, List.push_toArray, List.append_toArray, List.nil_append, List.cons_append]
  refine wpIn_wide.2 ?_
  by_cases h80 : l.length > 80
  · have b0 : decide (80 < l.length) = true := decide_eq_true h80
    have b1 : decide ((80 : Int) < (l.length : Int)) = true := decide_eq_true (by omega)
    go_wp2_with (go_at_call 4; refine (alive9_calls _).mono ?_; rintro e w1 ⟨rfl, hb1⟩; have S1 := Aside0.mk (below_step (below_alloc (Below.refl _ _) _) hb1); clear hb1)
    refine ⟨_, results_tmp rfl _ _ _, rfl, S1.out⟩
  · have b0 : decide (80 < l.length) = false := decide_eq_false h80
    have b1 : decide ((80 : Int) < (l.length : Int)) = false := decide_eq_false (by omega)
    have hl80 : l.length ≤ 80 := by omega
    clear h80
    go_wp2_with (first
      | (go_at_call 4; refine (alive9_calls _).mono ?_; rintro e w1 ⟨rfl, hb1⟩; have x1 := blk_belowX (blk_new W0 (.cells #[.int .i64 most] 3)) hb1; have d1 := blk_cell x1 0; have f1 := blk_frozen x1 0; simp at d1; have S1 := Aside0.mk (And.intro (below_step (below_alloc (Below.refl _ _) _) hb1) x1); clear hb1 x1)
      | (go_at_call 5; refine (Within_calls _ _ _ _ _).mono ?_; rintro e w2 ⟨rfl, hw2⟩))
    rw [← hw2]
    have hb2 : Below W0.heap.size W0 w2 := by subst hw2; exact below_alloc (below_alloc (below_alloc (below_alloc (below_alloc (below_set S1.out.1 (Nat.le_refl _)) _) _) _) _) _
    have gm : w2.heap[W0.heap.size]? = some (.cells #[.int .i64 (1 + bits BinOp.and IntKind.i64 most 127)] 3 (0, 0)) := by
      subst hw2; exact blk_alloc (blk_alloc (blk_alloc (blk_alloc (blk_alloc (blk_set S1.out.2 0 _) _) _) _) _) _
    have hN : W0.heap.size < w1.heap.size := lt_of_some S1.out.2
    have e1 : (w1.setCell { block := W0.heap.size, off := 0 } (Value.int IntKind.i64 (1 + bits BinOp.and IntKind.i64 most 127))).heap.size = w1.heap.size := by
      show (w1.heap.modify _ _).size = _; rw [Array.size_modify]
    have q0 : w2.heap[w1.heap.size]? = some (.cells #[] 29 (0, 0)) := by
      subst hw2; rw [← e1]; exact blk_alloc (blk_alloc (blk_alloc (blk_alloc (blk_new _ _) _) _) _) _
    have q1 : w2.heap[w1.heap.size + 1]? = some (.cells #[] 29 (0, 0)) := by
      subst hw2; rw [← e1]; exact blk_alloc (blk_alloc (blk_alloc (blk_new2 _ _ _) _) _) _
    have q2 : w2.heap[w1.heap.size + 2]? = some (.cells #[.slice (some ⟨w1.heap.size, 0, none⟩) 0 0] 22 (0, 0)) := by
      subst hw2
      refine blk_alloc (blk_alloc ?_ _) _
      rw [show w1.heap.size + 2 = (((w1.setCell { block := W0.heap.size, off := 0 } (Value.int IntKind.i64 (1 + bits BinOp.and IntKind.i64 most 127))).alloc (.cells #[] 29)).alloc (.cells #[] 29)).heap.size by rw [World.size_alloc, World.size_alloc, e1]]
      exact blk_new _ _
    have q3 : w2.heap[w1.heap.size + 1 + 1 + 1]? = some (.cells #[.slice A l.length c] 22 (0, 0)) := by
      subst hw2
      refine blk_alloc ?_ _
      rw [show w1.heap.size + 1 + 1 + 1 = ((((w1.setCell { block := W0.heap.size, off := 0 } (Value.int IntKind.i64 (1 + bits BinOp.and IntKind.i64 most 127))).alloc (.cells #[] 29)).alloc (.cells #[] 29)).alloc (.cells #[.slice (some ⟨w1.heap.size, 0, none⟩) 0 0] 22)).heap.size by rw [World.size_alloc, World.size_alloc, World.size_alloc, e1]]
      exact blk_new _ _
    have q4 : w2.heap[w1.heap.size + 1 + 1 + 1 + 1]? = some (.cells #[.int .u64 s] 23 (0, 0)) := by
      subst hw2
      rw [show w1.heap.size + 1 + 1 + 1 + 1 = (((((w1.setCell { block := W0.heap.size, off := 0 } (Value.int IntKind.i64 (1 + bits BinOp.and IntKind.i64 most 127))).alloc (.cells #[] 29)).alloc (.cells #[] 29)).alloc (.cells #[.slice (some ⟨w1.heap.size, 0, none⟩) 0 0] 22)).alloc (.cells #[.slice A l.length c] 22)).heap.size by rw [World.size_alloc, World.size_alloc, World.size_alloc, World.size_alloc, e1]]
      exact blk_new _ _
    have hsz : w2.heap.size = w1.heap.size + 5 := by subst hw2; simp only [World.size_alloc]; rw [e1]
    clear e1 hw2 d1 f1 b0 b1
    obtain ⟨m, hm⟩ : ∃ m : Nat, 1 + bits BinOp.and IntKind.i64 most 127 = (m : Int) := ⟨(1 + bits BinOp.and IntKind.i64 most 127).toNat, by omega⟩
    have hm0 : 1 ≤ m ∧ m ≤ 128 := by omega
    simp only [hm] at gm ⊢
    generalize bits BinOp.and IntKind.i64 most 127 = z at hmm hm ⊢
    generalize w1.heap.size = N at *
    have G := Aside0.mk (And.intro hb2 (And.intro gm (And.intro q0 (And.intro q1 (And.intro q2 (And.intro q3 q4))))))
    clear S1 q0 q2 hmm hm
    have hI0 : GW w2 w2 N [] := ⟨⟨_, _, G.out.2.2.2.2.1, R_zero KAt G.out.2.2.1 (Nat.le_refl _) (.inl rfl)⟩, But.refl _ _⟩
    refine (wpIn_wide (n := 8)).1 (rangeZ rfl (by omega) (gf := 17) (lb := #[.pointer (some ⟨N + 1 + 1 + 1, 0, none⟩), .pointer (some ⟨N + 1 + 1 + 1 + 1, 0, none⟩)]) rfl trivial (enters_of Try.func17 (by kernel_rfl) rfl)
      (Y := AtY (withinL l s)) (n₀ := w2.heap.size) (Kb := fun k => k ≠ N ∧ k ≠ N + 2) (S := fun xs => xs = withinL l s) (Sp := fun _ => True)
      (Within1_seq 7 l s A c (N + 1 + 1 + 1) (N + 1 + 1 + 1 + 1) w2.heap.size _ w2 hs M.out.2.1
        (fun X hk => by rw [blk_cell ((hk.2 (N + 1 + 1 + 1) (by omega) (by omega)).trans q3) 0]; rfl)
        (fun X hk => by rw [blk_cell ((hk.2 (N + 1 + 1 + 1 + 1) (by omega) (by omega)).trans q4) 0]; rfl)
        (fun X hk => C_blocksA M.out.1 (fun i hi => (hk.2 i (by omega) (by omega)).trans (G.out.1.block i hi))) (Nat.le_refl _)) (Nat.le_refl _)
      (fun _ _ _ _ hy => by obtain ⟨_, rfl⟩ := hy; rfl)
      (fun pre X => GW w2 X N pre ∧ pre.length < m) (fun cd pre X => cd = .exit 0 ∧ GW w2 X N pre ∧ pre = (withinL l s).take m)
      (fun _ P Q h hlie => ⟨h.1.lies hlie (Nat.le_refl _), h.2⟩) (fun _ _ P Q h hlie => ⟨h.1, h.2.1.lies hlie (Nat.le_refl _), h.2.2⟩) ⟨hI0, by simp; omega⟩ ?round ?done ?stop)
    case round =>
      rintro lp pre ⟨xs, xv⟩ vs Y hl2 ⟨hI, hlt⟩ ⟨hpre, rfl⟩ hYs
      have HP := Aside0.mk hpre
      clear hpre
      gi_wp2
      refine ⟨Kin.of_below (below_alloc (Below.refl _ _) _) (Nat.le_refl _), Kp.of_below (below_alloc (Below.refl _ _) _) (by omega), ?_⟩
      intro Wb hlie
      have hI1 : GW w2 (Y.alloc (.cells #[.int .u64 xs, .int .i64 xv] 29)) N pre := hI.lies (Lies.of_below (below_alloc (Below.refl _ _) _)) hYs
      have hI2 := hI1.lies hlie (by omega)
      have g3 := hlie.blk (blk_new Y (.cells #[.int .u64 xs, .int .i64 xv] 29))
      have y0 : Wb.cell? ⟨Y.heap.size, 0, none⟩ = some (.int .u64 xs) := by rw [blk_cell g3]; rfl
      have y1 : Wb.cell? ⟨Y.heap.size, 1, none⟩ = some (.int .i64 xv) := by rw [blk_cell g3]; rfl
      obtain ⟨Ap, cp, i1, i2⟩ := hI2.row
      have i3 := hI2.but.blk G.out.2.1 (by omega)
      have d0 : Wb.cell? ⟨N + 2, 0, none⟩ = some (.slice Ap pre.length cp) := by rw [blk_cell i1]; rfl
      have d3 : Wb.cell? ⟨W0.heap.size, 0, none⟩ = some (.int .i64 m) := by rw [blk_cell i3]; rfl
      have hWbs : w2.heap.size ≤ Wb.heap.size := hI2.but.size
      have hYW : Y.heap.size ≤ Wb.heap.size := Nat.le_trans (by simp) hlie.size
      obtain ⟨pn, hpn⟩ : ∃ n, pre.length = n := ⟨_, rfl⟩
      rw [hpn] at i1 i2 d0 hlt
      have I := Aside0.mk (And.intro i1 (And.intro i2 (And.intro hI2 (And.intro hpn i3))))
      clear i1 i2 i3 hI1 hI2 hI hlie hpn g3
      gi_wp2_with (gi_at_builtin; refine RIn_append KAt (w0 := Wb) N rfl (.tmp 29) (.tmp 31) 22 29 (.agg #[.int .u64 0, .int .i64 0]) 16 rfl Try.underlying22 info_at rfl (by decide) (by omega) _ pre (xs, xv) [.int .u64 xs, .int .i64 xv] (fun k => k = N ∨ w2.heap.size ≤ k) (fun _ => False) rfl rfl (MAt _ _ _ _ _) (fun _ hk => hk.elim) (fun k hk => .inr (by omega)) I.out.2.1 (Below.refl _ _) (by omega) (by rw [I.out.2.2.2.1]; omega) ?_; intro v7 w7 ho7 hb7 hg7 hat7; obtain ⟨A7, c7, e7⟩ := Kd.R_slice ho7; subst e7; rw [List.length_append, List.length_singleton, I.out.2.2.2.1] at ho7; rw [List.length_append, List.length_singleton, I.out.2.2.2.1]; have hx7 := blk_grown I.out.2.1 I.out.1 (by decide) hg7; have hy7 := blk_grown I.out.2.1 I.out.2.2.2.2 (by decide) hg7; have d7 := blk_cell hx7 0; have f7 := blk_frozen hx7 0; have s7 := blk_lt hx7; have d8 := blk_cell hy7 0; simp at d8; have HO7 := Aside0.mk (And.intro ho7 (And.intro hb7 (And.intro hg7 hx7))); clear ho7 hb7 hg7 hat7 hx7 hy7)
      all_goals
        rename_i hcm
        obtain ⟨j1, j2, j3, j4, j5⟩ := I.out
        obtain ⟨r1, r2, r3, r4⟩ := HO7.out
        have r3 : Wb.grownBy w7 (Value.slice Ap pn cp).ownBlock := r3
        have hbut : But (fun i => i = N + 2 ∨ some i = (Value.slice Ap pn cp).ownBlock) Wb (w7.setCell ⟨N + 1 + 1, 0, none⟩ (.slice A7 (pn + 1) c7)) := (But.of_grown r3 (fun i hi => .inr hi.symm)).trans (.of_oth (Oth.set w7 ⟨N + 2, 0, none⟩ _) (.inl rfl))
        have hown : ∀ i, some i = (Value.slice Ap pn cp).ownBlock → (i = N ∨ w2.heap.size ≤ i) ∧ ∃ cells, Wb.heap[i]? = some (.cells cells 29 (0, 0)) := fun i hi => by
          obtain ⟨_, ho'⟩ := Kd.R_own j2
          exact ⟨j2.1 i hi.symm, own_typed ho' i hi.symm⟩
        have hGW : GW w2 (w7.setCell ⟨N + 1 + 1, 0, none⟩ (.slice A7 (pn + 1) c7)) N (pre ++ [(xs, xv)]) := by
          refine ⟨⟨A7, c7, ?_, ?_⟩, j3.but.then hbut (fun i hi h => ?_)⟩
          · simp only [List.length_append, List.length_singleton, j4]
            exact blk_put r4 0 (.slice A7 (pn + 1) c7) rfl
          · simp only [List.length_append, List.length_singleton, j4]
            exact Kd.R_set r1 r4 (by decide) 0 _
          · rcases h with h | h
            · exact .inr h
            · rcases (hown i h).1 with h | h
              · exact .inl h
              · omega
        have hKin : Kin TA w2.heap.size Y.heap.size Wb (w7.setCell ⟨N + 1 + 1, 0, none⟩ (.slice A7 (pn + 1) c7)) := ⟨hbut.size, fun k h1 h2 h3 => hbut.block k (by omega) (by
          rintro (h | h)
          · omega
          · obtain ⟨_, cells, hc⟩ := hown k h
            exact h3 _ _ _ hc rfl)⟩
        have hKp : Kp w2.heap.size (fun k => k ≠ N ∧ k ≠ N + 2) Wb (w7.setCell ⟨N + 1 + 1, 0, none⟩ (.slice A7 (pn + 1) c7)) := Kp.of_but hbut (fun k hk hb => by
          rintro (h | h)
          · exact hb.2 h
          · rcases (hown k h).1 with h | h
            · exact hb.1 h
            · omega) hWbs
        clear I HO7 j1 j2 j3 j5 r1 r2 r3 r4 d7 d8 f7 s7 y0 y1 d0 d3 hown hbut
        have hpl := HP.out.length_le
        rw [List.length_append, List.length_singleton, j4] at hpl
        first
          | (refine ⟨hKin, rfl, hGW, ?_⟩
             have e := beq_iff_eq.1 hcm
             rw [List.prefix_iff_eq_take.1 HP.out, List.length_append, List.length_singleton, j4]
             congr 1; omega)
          | (refine ⟨hKin, hKp, hGW, ?_⟩
             have e : ¬ ((pn : Int) + 1 = (m : Int)) := fun h => by rw [h] at hcm; simp at hcm
             rw [List.length_append, List.length_singleton, j4]; omega)
    case' done =>
      rintro D ys X hD rfl ⟨hI, hlt⟩ hKd
      have hys : (withinL l s) = (withinL l s).take m := (List.take_of_length_le (by omega)).symm
      rw [hys] at hI
      clear hlt hys
      go_wp2
    case' stop =>
      rintro D cd ys X hD - ⟨rfl, hI, rfl⟩ hKd
      refine wpIn_wide.2 ?_
      go_wp2
    all_goals
      obtain ⟨Ap, cp, i1, i2⟩ := hI.row
      have i3 := hI.but.blk G.out.2.1 (by omega)
      have i4 := hI.but.blk G.out.2.2.2.1 (by omega)
      have hbX : Below W0.heap.size W0 X := hI.but.below G.out.1 (by omega) (by rintro k (rfl | rfl) <;> omega)
      have hXs := hI.but.size
      have hDX := lt_of_some hKd
      have gF := Aside0.mk (And.intro i1 (And.intro i2 (And.intro i3 (And.intro hbX (And.intro hKd i4)))))
      clear i1 i2 i3 hbX hI hKd i4 G
      go_loopw [10, 39] (fun v p wr => ∃ (k n : Nat) (A2 : Option Addr) (c2 : Nat), v = .slice A2 n c2 ∧ p = .int .i64 (k : Int) ∧ k ≤ l.length ∧ n ≤ m ∧ Aside0 (((withinL (l.take k) s).take m).length = n) ∧ Aside0 (Kd.R KAt 29 wr N (fun j => j = N + 1 ∨ X.heap.size ≤ j) (.slice A2 n c2) ((withinL (l.take k) s).take m)) ∧ Aside0 (But (fun j => j = N + 1) X wr)) (fun _ p _ => l.length - (intOf p).toNat)
      case atStart =>
        exact ⟨0, 0, _, _, rfl, rfl, by omega, by omega, ⟨by simp [withinL]⟩, ⟨by rw [show (withinL (l.take 0) s).take m = [] by simp [withinL]]; exact R_zero (ok := fun j => j = N + 1 ∨ X.heap.size ≤ j) (base := N) KAt gF.out.2.2.2.2.2 (Nat.le_succ N) (.inl rfl)⟩, ⟨But.refl _ _⟩⟩
      case round =>
        obtain ⟨k, n, A2, c2, rfl, rfl, hk, hn, HL, HR, HW⟩ := hrel
        have hXw := HW.out.size
        by_cases hlt : k < l.length
        · obtain ⟨⟨xs, xv⟩, ho⟩ : ∃ o, l[k]? = some o := ⟨_, List.getElem?_eq_getElem hlt⟩
          have hxm : (xs, xv) ∈ l := List.mem_of_getElem? ho
          have hxu : U64 xs := M.out.2.1 _ hxm
          obtain ⟨ad, e0, hx0, hx1⟩ := at_atom (C_blocksA M.out.1 (fun i hi => (HW.out.block i (by omega) (by omega)).trans (gF.out.2.2.2.1.block i hi))) hlt ho
          subst e0
          have hllt : (k : Int) < (l.length : Int) := by omega
          have htk : withinL (l.take (k + 1)) s = withinL (l.take k) s ++ if rightA (xs, xv) = true ∧ wthB xs s = true then [(xs, xv)] else [] := within_snoc l k s (xs, xv) ho
          have hmb := HW.out.blk gF.out.2.2.1 (by omega)
          have hba := below_alloc (Below.refl wr.heap.size wr) (.cells #[.int .u64 xs, .int .i64 xv] 29)
          have g3 := blk_new wr (.cells #[.int .u64 xs, .int .i64 xv] 29)
          have y0 : (wr.alloc (.cells #[.int .u64 xs, .int .i64 xv] 29)).cell? ⟨wr.heap.size, 0, none⟩ = some (.int .u64 xs) := by rw [blk_cell g3]; rfl
          have y1 : (wr.alloc (.cells #[.int .u64 xs, .int .i64 xv] 29)).cell? ⟨wr.heap.size, 1, none⟩ = some (.int .i64 xv) := by rw [blk_cell g3]; rfl
          have y2 : (wr.alloc (.cells #[.int .u64 xs, .int .i64 xv] 29)).cell? ⟨W0.heap.size, 0, none⟩ = some (.int .i64 m) := by rw [blk_cell (blk_belowX hmb hba)]; rfl
          have HS : Aside0 (∀ w', Below (wr.alloc (.cells #[.int .u64 xs, .int .i64 xv] 29)).heap.size (wr.alloc (.cells #[.int .u64 xs, .int .i64 xv] 29)) w' → w'.cell? ⟨wr.heap.size, 0, none⟩ = some (.int .u64 xs) ∧ w'.cell? ⟨wr.heap.size, 1, none⟩ = some (.int .i64 xv) ∧ w'.cell? ⟨W0.heap.size, 0, none⟩ = some (.int .i64 m)) :=
            ⟨fun w' hb => by
              have hcl : ∀ {b o v}, (wr.alloc (.cells #[.int .u64 xs, .int .i64 xv] 29)).cell? ⟨b, o, none⟩ = some v → w'.cell? ⟨b, o, none⟩ = some v := fun h => (hb.cell (World.block_lt_of_cell? _ _ h)).trans h
              exact ⟨hcl y0, hcl y1, hcl y2⟩⟩
          have HT := Aside0.mk (And.intro htk (And.intro hxu (And.intro hba g3)))
          clear htk hxu hba g3 ho hxm hmb
          obtain ⟨b1, hb1⟩ : ∃ b, rightA (xs, xv) = b := ⟨_, rfl⟩
          obtain ⟨b2, hb2⟩ : ∃ b, wthB xs s = b := ⟨_, rfl⟩
          have HB := Aside0.mk (And.intro hb1 hb2)
          clear hb1 hb2
          cases b1 with
          | false =>
            go_wp2_with (fail)
            refine (rright_eq (xs, xv) false _ HB.out.1).mono ?_
            rintro e w5 ⟨rfl, hb5⟩
            have H5 := Aside0.mk (below_step HT.out.2.2.1 hb5)
            clear hb5 y0 y1 y2 HS
            go_wp2
            go_roundw
            case rel => exact ⟨k + 1, n, A2, c2, rfl, by go_num, by omega, hn, ⟨by rw [HT.out.1, if_neg (fun h => by rw [HB.out.1] at h; exact absurd h.1 (by decide)), List.append_nil]; exact HL.out⟩, ⟨by rw [HT.out.1, if_neg (fun h => by rw [HB.out.1] at h; exact absurd h.1 (by decide)), List.append_nil]; exact Kd.R_below HR.out H5.out⟩, ⟨HW.out.then (But.of_below H5.out) (fun i hi h => h)⟩⟩
            case measure => simp [intOf]; omega
          | true =>
            go_wp2_with (fail)
            refine (rright_eq (xs, xv) true _ HB.out.1).mono ?_
            rintro e w5 ⟨rfl, hb5⟩
            obtain ⟨z0, z1, z2⟩ := HS.out _ hb5
            have H5 := Aside0.mk (below_step HT.out.2.2.1 hb5)
            have HS5 : Aside0 (∀ w', Below w5.heap.size w5 w' → w'.cell? ⟨wr.heap.size, 0, none⟩ = some (.int .u64 xs) ∧ w'.cell? ⟨wr.heap.size, 1, none⟩ = some (.int .i64 xv) ∧ w'.cell? ⟨W0.heap.size, 0, none⟩ = some (.int .i64 m)) := ⟨fun w' h => HS.out _ (below_step hb5 h)⟩
            clear hb5 y0 y1 y2 HS
            cases b2 with
            | false =>
              go_wp2_with (fail)
              refine (rwithin_eq xs s false _ HT.out.2.1 hs HB.out.2).mono ?_
              rintro e w6 ⟨rfl, hb6⟩
              have H6 := Aside0.mk (below_step H5.out hb6)
              clear hb6 z0 z1 z2 HS5
              go_wp2
              go_roundw
              case rel => exact ⟨k + 1, n, A2, c2, rfl, by go_num, by omega, hn, ⟨by rw [HT.out.1, if_neg (fun h => by rw [HB.out.2] at h; exact absurd h.2 (by decide)), List.append_nil]; exact HL.out⟩, ⟨by rw [HT.out.1, if_neg (fun h => by rw [HB.out.2] at h; exact absurd h.2 (by decide)), List.append_nil]; exact Kd.R_below HR.out H6.out⟩, ⟨HW.out.then (But.of_below H6.out) (fun i hi h => h)⟩⟩
              case measure => simp [intOf]; omega
            | true =>
              go_wp2_with (fail)
              refine (rwithin_eq xs s true _ HT.out.2.1 hs HB.out.2).mono ?_
              rintro e w6 ⟨rfl, hb6⟩
              have H6 := Aside0.mk (below_step H5.out hb6)
              obtain ⟨v0, v1, v2⟩ := HS5.out _ hb6
              clear hb6 z0 z1 z2 HS5
              by_cases hnm : n < m
              · have hnm2 : (n : Int) < (m : Int) := by omega
                have hpl : (((withinL (l.take k) s).take m).length + 1) * 16 ≤ 140737488355328 := by rw [HL.out]; omega
                go_wp2_with (first
                  | ((with_reducible refine gate_builtin (b := .append) (xs := #[.tmp 57, .tmp 59]) rfl ?_); at_builtin; refine Kd.R_append KAt (w0 := w6) N rfl (.tmp 57) (.tmp 59) 22 29 (.agg #[.int .u64 0, .int .i64 0]) 16 rfl Try.underlying22 info_at rfl (by decide) (by decide) _ ((withinL (l.take k) s).take m) (xs, xv) [.int .u64 xs, .int .i64 xv] (fun j => j = N + 1 ∨ X.heap.size ≤ j) (fun _ => False) rfl rfl (MAt _ _ _ _ _) (fun _ h => h.elim) (fun j hj => .inr (Nat.le_trans hXw (Nat.le_trans H6.out.size hj))) (Kd.R_below HR.out H6.out) (Below.refl _ _) ?hsz hpl ?_; (case hsz => (have := H6.out.size; omega)); intro v7 w7 ho7 hb7 hg7 hat7; obtain ⟨A7, c7, e7⟩ := Kd.R_slice ho7; subst e7; rw [List.length_append, List.length_singleton, HL.out] at ho7; rw [List.length_append, List.length_singleton, HL.out]; have HO7 := Aside0.mk (And.intro ho7 hg7); clear ho7 hb7 hg7 hat7))
                go_roundw
                case rel => exact ⟨k + 1, n + 1, A7, c7, rfl, by go_num, by omega, by omega, ⟨by rw [HT.out.1, if_pos HB.out, take_snoc _ _ m n HL.out hnm, List.length_append, List.length_singleton, HL.out]⟩, ⟨by rw [HT.out.1, if_pos HB.out, take_snoc _ _ m n HL.out hnm]; exact HO7.out.1⟩, ⟨(HW.out.then (But.of_below H6.out) (fun i hi h => h)).then (But.of_grown (P := fun j => j = N + 1 ∨ X.heap.size ≤ j) HO7.out.2 (fun i hi => HR.out.1 i hi)) (fun i hi h => h.resolve_right (by omega))⟩⟩
                case measure => simp [intOf]; omega
              · have hnm2 : ¬ (n : Int) < (m : Int) := by omega
                go_wp2
                go_roundw
                case rel => exact ⟨k + 1, n, A2, c2, rfl, by go_num, by omega, hn, ⟨by rw [HT.out.1, take_full _ _ m n HL.out hnm]; exact HL.out⟩, ⟨by rw [HT.out.1, take_full _ _ m n HL.out hnm]; exact Kd.R_below HR.out H6.out⟩, ⟨HW.out.then (But.of_below H6.out) (fun i hi h => h)⟩⟩
                case measure => simp [intOf]; omega
        · obtain rfl : k = l.length := by omega
          rw [List.take_length] at HL HR
          obtain ⟨A', c', e', hc', hr'⟩ := R_C HR.out
          rw [HL.out] at e'
          injection e' with e1 _ e2
          subst e1; subst e2
          have k1 := HW.out.blk gF.out.1 (by omega)
          have k2 : Kd.R KAt 29 wr N (fun k => k = N ∨ w2.heap.size ≤ k) (.slice Ap ((withinL l s).take m).length cp) ((withinL l s).take m) := HW.out.R gF.out.2.1 (fun j h1 h2 h3 => by omega)
          have k5 := HW.out.blk gF.out.2.2.2.2.1 (by omega)
          have k6 : Below W0.heap.size W0 wr := HW.out.below gF.out.2.2.2.1 (by omega) (by rintro k rfl; omega)
          rw [HL.out] at k1 k2
          obtain ⟨A'', c'', e'', hc'', hr''⟩ := R_C k2
          rw [HL.out] at e''
          injection e'' with e1 _ e2
          subst e1; subst e2
          have hcl : Kd.C KAt wr A l.length l := C_blocksA M.out.1 (fun i hi => k6.block i hi)
          have hn80 : n ≤ 80 := by
            have h1 := HL.out
            rw [List.length_take] at h1
            have h2 : (withinL l s).length ≤ l.length := Nat.le_trans (List.length_filter_le _ _) (List.length_filter_le _ _)
            omega
          have hDw : W0.heap.size ≤ D := by omega
          obtain ⟨L1, hL1⟩ : ∃ L1, (withinL l s).take m = L1 := ⟨_, rfl⟩
          rw [hL1] at hr' hr'' HL hc' hc''
          rw [HL.out] at hr' hr'' hc' hc''
          obtain ⟨st, hst⟩ : ∃ st, bits BinOp.and IntKind.u64 s t = st := ⟨_, rfl⟩
          obtain ⟨hsu, hs1, hs2⟩ := and_sub hs ht hst
          obtain ⟨v0, hv0⟩ : ∃ v, valueL l st = v := ⟨_, rfl⟩
          obtain ⟨v1, hv1⟩ : ∃ v, valueL l s = v := ⟨_, rfl⟩
          obtain ⟨v2, hv2⟩ : ∃ v, valueL l t = v := ⟨_, rfl⟩
          have h01 : v0 ≤ v1 := by rw [← hv0, ← hv1]; exact value_mono hs1
          have h02 : v0 ≤ v2 := by rw [← hv0, ← hv2]; exact value_mono hs2
          have h0a : 0 ≤ v0 := by rw [← hv0]; exact value_ge0 _ _
          have h0b : v0 ≤ 1099511627776 := by rw [← hv0]; exact value_bound _ _
          have HV := Aside0.mk (And.intro hv0 (And.intro hv1 (And.intro hv2 (And.intro hsu (And.intro hcl (And.intro hr' (And.intro hr'' (And.intro hc' hc''))))))))
          have HB0 := Aside0.mk (And.intro k6 (And.intro k5 k1))
          clear hv0 hv1 hv2 hsu hcl hr' hr'' hc' hc'' k1 k2 k5 k6 HR hs1 hs2 gF HW
          go_wp2_with (first
            | (rw [hst])
            | (go_at_call 8; have _t := HB0; (with_reducible refine (val_eq l A _ c st v0 _ rfl HV.out.2.2.2.2.1 HV.out.2.2.2.1 M.out.2.1 HV.out.1).mono ?_); rintro e x1 ⟨rfl, hb⟩; have hbx := blk_belowX HB0.out.2.2 hb; have d9 := blk_cell hbx 0; simp at d9; have S1 := Aside0.mk hb; clear hb hbx _t)
            | (go_at_call 9; have _t := S1; (with_reducible refine (same_eq L1 L1 _ _ n n _ _ true _ HL.out HL.out (Kd.C_below HV.out.2.2.2.2.2.2.1 S1.out) (Kd.C_below HV.out.2.2.2.2.2.1 S1.out) HV.out.2.2.2.2.2.2.2.2 HV.out.2.2.2.2.2.2.2.1 (by omega) (by simp)).mono ?_); rintro e x2 ⟨rfl, hb⟩; have S2 := Aside0.mk (below_step S1.out hb); clear hb _t S1)
            | (go_at_call 8; have _t := S2; (with_reducible refine (val_eq l A _ c s v1 _ rfl (Kd.C_below HV.out.2.2.2.2.1 S2.out) hs M.out.2.1 HV.out.2.1).mono ?_); rintro e x3 ⟨rfl, hb⟩; have S3 := Aside0.mk (below_step S2.out hb); clear hb _t S2)
            | (go_at_call 8; have _t := S3; (with_reducible refine (val_eq l A _ c t v2 _ rfl (Kd.C_below HV.out.2.2.2.2.1 S3.out) ht M.out.2.1 HV.out.2.2.1).mono ?_); rintro e x4 ⟨rfl, hb⟩; have S4 := Aside0.mk (below_step S3.out hb); clear hb _t S3)
            | (go_at_call 8; have _t := S4; (with_reducible refine (val_eq l A _ c 0 0 _ rfl (Kd.C_below HV.out.2.2.2.2.1 S4.out) (by unfold U64; omega) M.out.2.1 (value_none l M.out.2.1)).mono ?_); rintro e x5 ⟨rfl, hb⟩; have S5 := Aside0.mk (below_step S4.out hb); clear hb _t S4)
            | (go_at_call 10; have _t := S5; (with_reducible refine (rright1_eq v0 _ ⟨h0a, h0b⟩).mono ?_); rintro e x6 ⟨rfl, hb⟩; have S6 := Aside0.mk (below_step S5.out hb); clear hb _t S5))
          have hB6 := below_step HB0.out.1 S6.out
          have hD6 := blk_belowX HB0.out.2.1 S6.out
          refine ⟨by simp, .inl ⟨_, _, rfl, run_takeDeferred hD6, ?_⟩⟩
          exact ⟨_, results_tmp rfl _ _ _, rfl, belowK_t hB6 (belowK_b (w := W0) (Nat.le_refl _) _ D _ _ hDw hD6 rfl rfl)⟩
end Go.Proofs.Ytcnmbllafdeokaa.MAtomWithin
