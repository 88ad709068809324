/- Some texts of one seat in one file, in build order. -/
import Derived.Test.YtcnmbllafdeokaaDoorG10
import Derived.Test.YtcnmbllafdeokaaDoorG15
import Derived.Test.YtcnmbllafdeokaaDoorG16
/- AtomAdds: whatever the atoms, the set and the number, the statement's function answers true. Its condition: the table of math/bits holds what its initialiser lays (tied to the program's text by the card). -/
namespace Go.Proofs.YtcnmbllafdeokaaDoor.MAtomAdds
open Go.RowKit Go.Proofs.YtcnmbllafdeokaaDoorW.PrintWords Go.Proofs.YtcnmbllafdeokaaDoorW.PrintLast Go.Proofs.YtcnmbllafdeokaaDoorW.PrintMore Go.Proofs.YtcnmbllafdeokaaDoor.H Go.Proofs.YtcnmbllafdeokaaDoor.Ult Go.Proofs.YtcnmbllafdeokaaDoor.AtM Go.Proofs.YtcnmbllafdeokaaDoor.R02 Go.Proofs.YtcnmbllafdeokaaDoor.R09 Go.Proofs.YtcnmbllafdeokaaDoor.PAll9
set_option linter.unusedVariables false
set_option linter.unusedSimpArgs false
set_option maxRecDepth 100000
attribute [local go_sem] Oper.semAt_some wide_fn wide_depth
theorem opens : Opens Tryd.prog 22 (Kd.slice 28 KAt) (fun l => ∀ x ∈ l, (Lit.int .u64 x.1).wf = true ∧ (Lit.int .i64 x.2).wf = true) := opensAs
abbrev KI : Kd Int := Kd.int .i64
/-- An empty row of one's own. -/
theorem R_zero {α : Type} (d : Kd α) {e base g : Nat} {W : World} {ok : Nat → Prop} (hg : W.heap[g]? = some (.cells #[] e (0, 0))) (hb : base ≤ g) (hok : ok g) : d.R e W base ok (.slice (some ⟨g, 0, none⟩) 0 0) [] :=
  ⟨fun k hk => by have e : some g = some k := hk; injection e with e; exact e ▸ hok, [], ⟨by simp, .inr ⟨g, 0, #[], rfl, hb, hg, Nat.le_refl _, by decide, by simp, by simp⟩⟩, Reps.none _ _⟩
theorem But.lies {P : Nat → Prop} {W X Y : World} {B : Nat} (h : But P W X) (hl : Lies B X Y) (hB : W.heap.size ≤ B) : But P W Y :=
  ⟨hl.os.trans h.os, hl.tape.trans h.tape, hl.output.trans h.output, Nat.le_trans h.size hl.size, fun k hk hp => by
    have e := h.block k hk hp
    obtain ⟨o, ho⟩ : ∃ o, W.heap[k]? = some o := ⟨_, Array.getElem?_eq_getElem hk⟩
    rw [ho] at e ⊢
    exact hl.same k o e (.inl (by omega))⟩
def okR (w : World) (N : Nat) (d : Nat) (j : Nat) : Prop := j = N + d ∨ w.heap.size ≤ j
/-- What the first loop holds: two rows, and their boxes. -/
structure AW (w X : World) (N : Nat) (ps : List (Int × Int)) : Prop where
  row1 : ∃ A c, X.heap[N + 2]? = some (.cells #[.slice A ps.length c] 25 (0, 0)) ∧ Kd.R KI 3 X N (okR w N 0) (.slice A ps.length c) (ps.map Prod.fst)
  row2 : ∃ A c, X.heap[N + 3]? = some (.cells #[.slice A ps.length c] 26 (0, 0)) ∧ Kd.R KI 2 X N (okR w N 1) (.slice A ps.length c) (ps.map Prod.snd)
  but : But (fun k => k = N ∨ k = N + 1 ∨ k = N + 2 ∨ k = N + 3) w X
theorem AW.below {w X Y : World} {N : Nat} {ps : List (Int × Int)} (h : AW w X N ps) (hb : Below X.heap.size X Y) : AW w Y N ps := by
  obtain ⟨A, c, h1, h2⟩ := h.row1
  obtain ⟨A', c', h3, h4⟩ := h.row2
  exact ⟨⟨A, c, blk_belowX h1 hb, Kd.R_below h2 hb⟩, ⟨A', c', blk_belowX h3 hb, Kd.R_below h4 hb⟩, h.but.then (But.of_below (P := fun _ => False) hb) (fun _ _ h => h.elim)⟩
theorem results_b {fn : Func} {p : Tmp} (h : fn.results = #[.cell p 4]) (tmps : Array Value) (w : World) (g : Nat) (b : Bool) (hp : tmps.getD p undef = .pointer (some ⟨g, 0, none⟩)) (hg : w.cell? ⟨g, 0, none⟩ = some (.bool b)) :
    (results fn tmps).run Tryd.prog w = .ok (.bool b) w := by
  have hp' : tmps[p]?.getD undef = .pointer (some ⟨g, 0, none⟩) := by simpa using hp
  have hu := Tryd.underlying4
  simp [results, h, hp', asAddr]
  go_simp
/-- The two rows, without their boxes. -/
structure RW (w X : World) (N : Nat) (v1 v2 : Value) (p1 p2 : List Int) : Prop where
  r1 : Kd.R KI 3 X N (okR w N 0) v1 p1
  r2 : Kd.R KI 2 X N (okR w N 1) v2 p2
  but : But (fun k => k = N ∨ k = N + 1 ∨ k = N + 2 ∨ k = N + 3) w X
theorem RW.below {w X Y : World} {N : Nat} {v1 v2 : Value} {p1 p2 : List Int} (h : RW w X N v1 v2 p1 p2) (hb : Below X.heap.size X Y) : RW w Y N v1 v2 p1 p2 :=
  ⟨Kd.R_below h.r1 hb, Kd.R_below h.r2 hb, h.but.then (But.of_below (P := fun _ => False) hb) (fun _ _ h => h.elim)⟩
theorem info_i : (Tryd.prog.info? 3).map (fun i => (i.zero, i.size, i.bytes)) = some (some (.int .i64 0), 1, 8) := by kernel_rfl
theorem info_j : (Tryd.prog.info? 2).map (fun i => (i.zero, i.size, i.bytes)) = some (some (.int .i64 0), 1, 8) := by kernel_rfl
theorem RW.app1 {w X : World} {N n : Nat} {A : Option Addr} {c : Nat} {v2 : Value} {p1 p2 : List Int} (ty : TypeId) (h : RW w X N (.slice A n c) v2 p1 p2) (hN : N + 4 ≤ w.heap.size) (hl : p1.length = n) (hn : n ≤ 64) (x : Int) :
    ∃ (A' : Option Addr) (c' : Nat) (Y : World), (Builtin.append_ #[25, 25] ty #[.slice A n c, .slice (some ⟨X.heap.size, 0, none⟩) 1 1]).run Tryd.prog (X.alloc (.cells #[.int .i64 x] 3)) = .ok (.slice A' (n + 1) c') Y ∧ RW w Y N (.slice A' (n + 1) c') v2 (p1 ++ [x]) p2 ∧
      (∀ (g : Nat) (cs : Array Value) (t : TypeId), X.heap[g]? = some (.cells cs t (0, 0)) → t ≠ 3 → Y.heap[g]? = some (.cells cs t (0, 0))) ∧ X.heap.size ≤ Y.heap.size := by
  obtain ⟨v', Y, hrun, hR, hB, hg⟩ := run_app (P := Tryd.prog) KI (w0 := X) (W := X) N 25 3 ty (.int .i64 0) 8 Tryd.underlying25 info_i rfl (by decide) (by omega) (.slice A n c) p1 x [.int .i64 x] (okR w N 0) (fun _ => False) rfl (fun _ hk => hk.elim) (fun j hj => .inr (Nat.le_trans h.but.size hj)) h.r1 (Below.refl _ _) (by have := h.but.size; omega) (by rw [hl]; omega)
  obtain ⟨A', c', rfl⟩ := Kd.R_slice hR
  rw [List.length_append, List.length_singleton, hl] at hrun hR
  have hown : ∀ i, some i = (Value.slice A n c).ownBlock → (okR w N 0 i) ∧ ∃ cells, X.heap[i]? = some (.cells cells 3 (0, 0)) := fun i hi => by
    obtain ⟨_, ho'⟩ := Kd.R_own h.r1
    exact ⟨h.r1.1 i hi.symm, own_typed ho' i hi.symm⟩
  have hbut : But (fun i => some i = (Value.slice A n c).ownBlock) X Y := But.of_grown hg (fun i hi => hi.symm)
  refine ⟨A', c', Y, hrun, ⟨hR, hbut.R h.r2 (fun j h1 h2 h3 h4 => ?_), h.but.then hbut (fun i hi h4 => ?_)⟩, fun g cs t hx ht => hbut.blk hx (fun h4 => ?_), hg.size⟩
  · obtain ⟨q, hq, cells, hc⟩ := h3
    obtain ⟨_, cells', hc'⟩ := hown j h4
    rw [hc] at hc'; injection hc' with hc'; injection hc' with _ hc' _
    rcases List.mem_cons.1 hq with rfl | hq
    · exact absurd hc' (by decide)
    · cases hq
  · rcases (hown i h4).1 with h5 | h5
    · exact .inl h5
    · omega
  · obtain ⟨_, cells', hc'⟩ := hown g h4
    rw [hx] at hc'; injection hc' with hc'; injection hc' with _ hc' _
    exact ht hc'
theorem RW.app2 {w X : World} {N n : Nat} {A : Option Addr} {c : Nat} {v1 : Value} {p1 p2 : List Int} (ty : TypeId) (h : RW w X N v1 (.slice A n c) p1 p2) (hN : N + 4 ≤ w.heap.size) (hl : p2.length = n) (hn : n ≤ 64) (x : Int) :
    ∃ (A' : Option Addr) (c' : Nat) (Y : World), (Builtin.append_ #[26, 26] ty #[.slice A n c, .slice (some ⟨X.heap.size, 0, none⟩) 1 1]).run Tryd.prog (X.alloc (.cells #[.int .i64 x] 2)) = .ok (.slice A' (n + 1) c') Y ∧ RW w Y N v1 (.slice A' (n + 1) c') p1 (p2 ++ [x]) ∧
      (∀ (g : Nat) (cs : Array Value) (t : TypeId), X.heap[g]? = some (.cells cs t (0, 0)) → t ≠ 2 → Y.heap[g]? = some (.cells cs t (0, 0))) ∧ X.heap.size ≤ Y.heap.size := by
  obtain ⟨v', Y, hrun, hR, hB, hg⟩ := run_app (P := Tryd.prog) KI (w0 := X) (W := X) N 26 2 ty (.int .i64 0) 8 Tryd.underlying26 info_j rfl (by decide) (by omega) (.slice A n c) p2 x [.int .i64 x] (okR w N 1) (fun _ => False) rfl (fun _ hk => hk.elim) (fun j hj => .inr (Nat.le_trans h.but.size hj)) h.r2 (Below.refl _ _) (by have := h.but.size; omega) (by rw [hl]; omega)
  obtain ⟨A', c', rfl⟩ := Kd.R_slice hR
  rw [List.length_append, List.length_singleton, hl] at hrun hR
  have hown : ∀ i, some i = (Value.slice A n c).ownBlock → (okR w N 1 i) ∧ ∃ cells, X.heap[i]? = some (.cells cells 2 (0, 0)) := fun i hi => by
    obtain ⟨_, ho'⟩ := Kd.R_own h.r2
    exact ⟨h.r2.1 i hi.symm, own_typed ho' i hi.symm⟩
  have hbut : But (fun i => some i = (Value.slice A n c).ownBlock) X Y := But.of_grown hg (fun i hi => hi.symm)
  refine ⟨A', c', Y, hrun, ⟨hbut.R h.r1 (fun j h1 h2 h3 h4 => ?_), hR, h.but.then hbut (fun i hi h4 => ?_)⟩, fun g cs t hx ht => hbut.blk hx (fun h4 => ?_), hg.size⟩
  · obtain ⟨q, hq, cells, hc⟩ := h3
    obtain ⟨_, cells', hc'⟩ := hown j h4
    rw [hc] at hc'; injection hc' with hc'; injection hc' with _ hc' _
    rcases List.mem_cons.1 hq with rfl | hq
    · exact absurd hc' (by decide)
    · cases hq
  · rcases (hown i h4).1 with h5 | h5
    · exact .inr (.inl h5)
    · omega
  · obtain ⟨_, cells', hc'⟩ := hown g h4
    rw [hx] at hc'; injection hc' with hc'; injection hc' with _ hc' _
    exact ht hc'
theorem RW.set {w X : World} {N g : Nat} {v1 v2 v : Value} {p1 p2 : List Int} {cs : Array Value} {t : TypeId} (h : RW w X N v1 v2 p1 p2) (hg : X.heap[g]? = some (.cells cs t (0, 0))) (ht1 : t ≠ 3) (ht2 : t ≠ 2) (hgN : g = N + 2 ∨ g = N + 3) : RW w (X.setCell ⟨g, 0, none⟩ v) N v1 v2 p1 p2 :=
  ⟨Kd.R_set h.r1 hg (by intro q hq; rcases List.mem_cons.1 hq with rfl | hq; (exact fun e => ht1 e.symm); cases hq) 0 _, Kd.R_set h.r2 hg (by intro q hq; rcases List.mem_cons.1 hq with rfl | hq; (exact fun e => ht2 e.symm); cases hq) 0 _, h.but.then (But.of_oth (P := fun k => k = g) (Oth.set X ⟨g, 0, none⟩ v) rfl) (fun i _ h => by omega)⟩
theorem at_int {w : World} {A : Option Addr} {n : Nat} {xs : List Int} (h : Kd.C KI w A n xs) {i : Nat} (hi : i < n) {v : Int} (ho : xs[i]? = some v) : ∃ ad, A = some ad ∧ w.cell? (ad.add i) = some (.int .i64 v) := by
  obtain ⟨ad, c, e, _, hK, hc0⟩ := Kd.C_get h (0 : Int) (i : Int) (by omega) (by omega)
  rw [Int.toNat_natCast] at hK hc0
  have eg : xs.getD i (0 : Int) = v := by rw [List.getD_eq_getElem?_getD, ho]; rfl
  rw [eg] at hK
  have hK : c = [.int .i64 v] := hK
  subst hK
  have h1 := hc0 0 (.int .i64 v) rfl
  refine ⟨ad, e, ?_⟩
  have e2 : i * KI.sz + 0 = i := by show i * 1 + 0 = i; omega
  rw [e2] at h1
  exact h1
theorem C_blocksI {W W' : World} {A : Option Addr} {n : Nat} {xs : List Int} (hc : Kd.C KI W A n xs) (h : ∀ i, i < W.heap.size → W'.heap[i]? = W.heap[i]?) : Kd.C KI W' A n xs :=
  ⟨hc.1, hc.2.1, fun hn => by
    obtain ⟨ad, e, hr⟩ := hc.2.2 hn
    refine ⟨ad, e, fun j p hj => ?_⟩
    obtain ⟨c, hs, hR, hcell⟩ := hr j p hj
    exact ⟨c, hs, hR, fun i u hu => (World.cell?_of_block (h _ (World.block_lt_of_cell? W _ (hcell i u hu)))).trans (hcell i u hu)⟩⟩
theorem C_store {w : World} {N b n c : Nat} {e : TypeId} {ok : Nat → Prop} {A : Option Addr} {v : Value} {xs : List Int} (h : Kd.R KI e w N ok (.slice A n c) xs) (hb : b < N) (hn : xs.length = n) : Kd.C KI (w.setCell ⟨b, 0, none⟩ v) A n xs ∧ n ≤ c := by
  have h2 := (But.of_oth (P := fun k => k = b) (Oth.set w ⟨b, 0, none⟩ v) rfl).R h (fun k _ hk _ e => by omega)
  obtain ⟨B, d, e2, h3, h4⟩ := R_C h2
  rw [hn] at e2 h3 h4
  injection e2 with q1 _ q2
  subst q1; subst q2
  exact ⟨h4, h3⟩
theorem prefix_get {α : Type} {pre xs : List α} {x : α} (h : pre ++ [x] <+: xs) : xs[pre.length]? = some x := by
  obtain ⟨t, rfl⟩ := h
  simp
theorem adds_pos {al : List At} {s : Int} (hs : U64 s) (hu : ∀ x ∈ al, U64 x.1) {x : Int × Int} (h : x ∈ addsL al s) : 0 ≤ x.2 := by
  rw [← adR_end al s hs hu] at h
  unfold adR at h
  obtain ⟨i, hi, rfl⟩ := List.mem_map.1 h
  obtain ⟨h1, h2⟩ := List.mem_filter.1 hi
  have h3 : s.toNat.testBit i = false := by unfold condI at h2; simp at h2; exact h2.2
  have := val_grow (al := al) hs (List.mem_range.1 h1) h3
  show 0 ≤ valueL al (s + oneS i) - valueL al s
  omega
set_option maxHeartbeats 3200000 in
theorem main (A : Option Addr) (c : Nat) (l : List At) (hc : l.length ≤ c) {W0 : World} (m : Kd.C KAt W0 A l.length l) (g : ∀ x ∈ l, (Lit.int .u64 x.1).wf = true ∧ (Lit.int .i64 x.2).wf = true)
    (s : Int) (wfs : (Lit.int .u64 s).wf = true) (most : Int) (wfm : (Lit.int .i64 most).wf = true) (W : World) (hT : TabG W) (hW : W0 = W := by rfl) :
    Calls Tryd.prog 3 #[.slice A l.length c, .int .u64 s, .int .i64 most] W fun e W' => e = .returned (.bool true) ∧ Below W.heap.size W W' := by
  subst hW
  have hu := goodA g
  have hs : U64 s := wf_u64 wfs
  have hmm := and_mask most 127 (by decide)
  rw [show ((127 : Nat) : Int) = 127 from rfl] at hmm
  have M := Aside0.mk (And.intro m (And.intro hu hT))
  clear m g hu wfs wfm hT
  refine (callsIn_wide (n := 8)).1 ?_
  refine callsIn_of_wp_marks Tryd.func3 rfl trivial ?_ rfl
  simp only [Tryd.ntmps3, List.size_toArray, List.length_cons, List.length_nil, Nat.reduceAdd, Nat.reduceSub, Array.replicate_succ, Array.replicate_zero, List.push_toArray, List.append_toArray, List.nil_append, List.cons_append]
  refine wpIn_wide.2 ?_
  by_cases h40 : l.length > 40
  · have b0 : decide (40 < l.length) = true := decide_eq_true h40
    have b1 : decide ((40 : Int) < (l.length : Int)) = true := decide_eq_true (by omega)
    go_wp2_with (go_at_call 4; refine (alive9_calls _).mono ?_; rintro e w1 ⟨rfl, hb1⟩; have x1 := blk_belowX (blk_new2 W0 (.cells #[.int .i64 most] 3) (.cells #[.bool false] 4)) hb1; have d1 := blk_cell x1 0; have f1 := blk_frozen x1 0; simp at d1; have S1 := Aside0.mk (And.intro (below_step (below_alloc (below_alloc (Below.refl _ _) _) _) hb1) x1); clear hb1 x1)
    refine ⟨_, results_b rfl _ _ (W0.heap.size + 1) true rfl ?_, rfl, below_set S1.out.1 (by show W0.heap.size ≤ W0.heap.size + 1; omega)⟩
    rw [blk_cell (blk_set S1.out.2 0 _)]; rfl
  · have b0 : decide (40 < l.length) = false := decide_eq_false h40
    have b1 : decide ((40 : Int) < (l.length : Int)) = false := decide_eq_false (by omega)
    have hl40 : l.length ≤ 40 := by omega
    clear h40
    go_wp2_with (go_at_call 4; refine (alive9_calls _).mono ?_; rintro e w1 ⟨rfl, hb1⟩; have x0 := blk_belowX (blk_alloc (blk_new W0 (.cells #[.int .i64 most] 3)) (.cells #[.bool false] 4)) hb1; have x1 := blk_belowX (blk_new2 W0 (.cells #[.int .i64 most] 3) (.cells #[.bool false] 4)) hb1; have S1 := Aside0.mk (And.intro (below_step (below_alloc (below_alloc (Below.refl _ _) _) _) hb1) (And.intro x0 x1)); clear hb1 x0 x1)
    have hN : W0.heap.size + 1 < w1.heap.size := lt_of_some S1.out.2.2
    have gm := blk_alloc (blk_alloc (blk_alloc (blk_alloc S1.out.2.1 (.cells #[] 3)) (.cells #[] 2)) (.cells #[.slice (some ⟨w1.heap.size, 0, none⟩) 0 0] 25)) (.cells #[.slice (some ⟨w1.heap.size + 1, 0, none⟩) 0 0] 26)
    have gr := blk_alloc (blk_alloc (blk_alloc (blk_alloc S1.out.2.2 (.cells #[] 3)) (.cells #[] 2)) (.cells #[.slice (some ⟨w1.heap.size, 0, none⟩) 0 0] 25)) (.cells #[.slice (some ⟨w1.heap.size + 1, 0, none⟩) 0 0] 26)
    have hb2 : Below W0.heap.size W0 ((((w1.alloc (.cells #[] 3)).alloc (.cells #[] 2)).alloc (.cells #[.slice (some ⟨w1.heap.size, 0, none⟩) 0 0] 25)).alloc (.cells #[.slice (some ⟨w1.heap.size + 1, 0, none⟩) 0 0] 26)) := below_alloc (below_alloc (below_alloc (below_alloc S1.out.1 _) _) _) _
    have q0 := blk_alloc (blk_alloc (blk_alloc (blk_new w1 (.cells #[] 3)) (.cells #[] 2)) (.cells #[.slice (some ⟨w1.heap.size, 0, none⟩) 0 0] 25)) (.cells #[.slice (some ⟨w1.heap.size + 1, 0, none⟩) 0 0] 26)
    have q1 := blk_alloc (blk_alloc (blk_new2 w1 (.cells #[] 3) (.cells #[] 2)) (.cells #[.slice (some ⟨w1.heap.size, 0, none⟩) 0 0] 25)) (.cells #[.slice (some ⟨w1.heap.size + 1, 0, none⟩) 0 0] 26)
    have q2 := blk_alloc (blk_new ((w1.alloc (.cells #[] 3)).alloc (.cells #[] 2)) (.cells #[.slice (some ⟨w1.heap.size, 0, none⟩) 0 0] 25)) (.cells #[.slice (some ⟨w1.heap.size + 1, 0, none⟩) 0 0] 26)
    have q3 := blk_new2 ((w1.alloc (.cells #[] 3)).alloc (.cells #[] 2)) (.cells #[.slice (some ⟨w1.heap.size, 0, none⟩) 0 0] 25) (.cells #[.slice (some ⟨w1.heap.size + 1, 0, none⟩) 0 0] 26)
    have hsz : ((((w1.alloc (.cells #[] 3)).alloc (.cells #[] 2)).alloc (.cells #[.slice (some ⟨w1.heap.size, 0, none⟩) 0 0] 25)).alloc (.cells #[.slice (some ⟨w1.heap.size + 1, 0, none⟩) 0 0] 26)).heap.size = w1.heap.size + 4 := by simp
    rw [show ((w1.alloc (.cells #[] 3)).alloc (.cells #[] 2)).heap.size = w1.heap.size + 2 by simp] at q2 q3
    generalize ((((w1.alloc (.cells #[] 3)).alloc (.cells #[] 2)).alloc (.cells #[.slice (some ⟨w1.heap.size, 0, none⟩) 0 0] 25)).alloc (.cells #[.slice (some ⟨w1.heap.size + 1, 0, none⟩) 0 0] 26)) = w2 at gm gr hb2 q0 q1 q2 q3 hsz ⊢
    clear S1 b0 b1
    generalize w1.heap.size = N at *
    have hA0 : AW w2 w2 N (adR l s 0) := ⟨⟨_, _, q2, R_zero KI q0 (Nat.le_refl _) (.inl rfl)⟩, ⟨_, _, q3, R_zero KI q1 (Nat.le_succ _) (.inl rfl)⟩, But.refl _ _⟩
    have G := Aside0.mk (And.intro hb2 (And.intro gm (And.intro gr hA0)))
    clear hb2 gm gr q0 q1 q2 q3 hA0
    go_loopw [9] (fun p wr => ∃ k : Nat, p = .int .i64 (k : Int) ∧ k ≤ 64 ∧ Aside0 (AW w2 wr N (adR l s k))) (fun p _ => 64 - (intOf p).toNat)
    case atStart => exact ⟨0, rfl, by omega, ⟨G.out.2.2.2⟩⟩
    case round =>
      obtain ⟨k, rfl, hk, HA⟩ := hrel
      by_cases hlt : k < 64
      · have hllt : (k : Int) < 64 := by omega
        obtain ⟨wo, rfl⟩ : ∃ x, x = wr := ⟨_, rfl⟩
        have hC : Kd.C KAt wo A l.length l := C_blocksA M.out.1 (fun i hi => (HA.out.but.block i (by have := G.out.1.size; omega) (by omega)).trans (G.out.1.block i hi))
        have HC := Aside0.mk hC
        clear hC
        go_wp2
        go_loopw [10, 29] (fun v p w' => ∃ (j : Nat) (b : Bool), v = .bool b ∧ p = .int .i64 (j : Int) ∧ j ≤ l.length ∧ Aside0 (inI (l.take j) k = b) ∧ Aside0 (Below wo.heap.size wo w')) (fun _ p _ => l.length - (intOf p).toNat)
        case atStart => exact ⟨0, false, rfl, rfl, by omega, ⟨by simp [inI]⟩, ⟨Below.refl _ _⟩⟩
        case round =>
          obtain ⟨j, b, rfl, rfl, hj, HI, HW⟩ := hrel
          by_cases hjl : j < l.length
          · obtain ⟨⟨xs, xv⟩, ho⟩ : ∃ o, l[j]? = some o := ⟨_, List.getElem?_eq_getElem hjl⟩
            have hxu : U64 xs := M.out.2.1 _ (List.mem_of_getElem? ho)
            obtain ⟨ad, e0, hx0, hx1⟩ := at_atom (Kd.C_below HC.out HW.out) hjl ho
            subst e0
            have hjll : (j : Int) < (l.length : Int) := by omega
            have htk := inI_take l k j (xs, xv) ho
            rw [HI.out] at htk
            have hba := below_alloc HW.out (.cells #[.int .u64 xs, .int .i64 xv] 28)
            have HT := Aside0.mk (And.intro htk (And.intro hxu hba))
            clear htk hxu hba ho HI
            cases b with
            | true =>
              go_wp2
              go_roundw
              case rel => exact ⟨j + 1, true, rfl, by go_num, by omega, ⟨by rw [HT.out.1]; rfl⟩, ⟨HT.out.2.2⟩⟩
              case measure => simp [intOf]; omega
            | false =>
              obtain ⟨b1, hb1⟩ : ∃ b, rightA (xs, xv) = b := ⟨_, rfl⟩
              obtain ⟨b2, hb2⟩ : ∃ b, xs.toNat.testBit k = b := ⟨_, rfl⟩
              have HB := Aside0.mk (And.intro hb1 hb2)
              clear hb1 hb2
              cases b1 with
              | false =>
                go_wp2_with (fail)
                refine (rright_eq (xs, xv) false _ HB.out.1).mono ?_
                rintro e w5 ⟨rfl, hb5⟩
                have H5 := Aside0.mk (below_step HT.out.2.2 hb5)
                clear hb5
                go_wp2
                go_roundw
                case rel => exact ⟨j + 1, false, rfl, by go_num, by omega, ⟨by rw [HT.out.1, HB.out.1]; rfl⟩, ⟨H5.out⟩⟩
                case measure => simp [intOf]; omega
              | true =>
                have hbx := blk_new wr (.cells #[.int .u64 xs, .int .i64 xv] 28)
                go_wp2_with (fail)
                refine (rright_eq (xs, xv) true _ HB.out.1).mono ?_
                rintro e w5 ⟨rfl, hb5⟩
                have y0 : w5.cell? ⟨wr.heap.size, 0, none⟩ = some (.int .u64 xs) := by rw [blk_cell (blk_belowX hbx hb5)]; rfl
                have H5 := Aside0.mk (below_step HT.out.2.2 hb5)
                clear hb5 hbx
                go_wp2_with (fail)
                refine (rhas_eq xs k b2 _ HT.out.2.1 hlt HB.out.2).mono ?_
                rintro e w6 ⟨rfl, hb6⟩
                have H6 := Aside0.mk (below_step H5.out hb6)
                clear hb6 y0
                go_wp2
                go_roundw
                case rel => exact ⟨j + 1, b2, rfl, by go_num, by omega, ⟨by rw [HT.out.1, HB.out.1]; show (false || (true && xs.toNat.testBit k)) = b2; rw [HB.out.2]; rfl⟩, ⟨H6.out⟩⟩
                case measure => simp [intOf]; omega
          · obtain rfl : j = l.length := by omega
            rw [List.take_length] at HI
            have hsucc := adR_succ l s k
            have hcond : condI l s k = (b && !s.toNat.testBit k) := by unfold condI; rw [HI.out]
            have HA1 := Aside0.mk (HA.out.below HW.out)
            have hCr := Kd.C_below HC.out HW.out
            cases b with
            | false =>
              rw [hcond] at hsucc
              simp only [Bool.false_and, Bool.false_eq_true, if_false, List.append_nil] at hsucc
              have HH := Lib.hid hsucc
              clear hsucc hcond hCr
              go_wp2
              go_roundw
              case rel => exact ⟨k + 1, by go_num, by omega, ⟨by rw [HH.out]; exact HA1.out⟩⟩
              case measure => simp [intOf]; omega
            | true =>
              obtain ⟨r, hr⟩ : ∃ r, s.toNat.testBit k = r := ⟨_, rfl⟩
              rw [hcond, hr] at hsucc
              have HR := Lib.hid hr
              cases r with
              | true =>
                simp only [Bool.not_true, Bool.and_false, Bool.false_eq_true, if_false, List.append_nil] at hsucc
                have HH := Lib.hid hsucc
                clear hsucc hcond hCr hr
                go_wp2_with (fail)
                refine (rhas_eq s k true _ hs hlt HR.out).mono ?_
                rintro e w5 ⟨rfl, hb5⟩
                have H5 := Aside0.mk (HA1.out.below hb5)
                clear hb5
                go_wp2
                go_roundw
                case rel => exact ⟨k + 1, by go_num, by omega, ⟨by rw [HH.out]; exact H5.out⟩⟩
                case measure => simp [intOf]; omega
              | false =>
                simp only [Bool.not_false, Bool.and_true, if_true] at hsucc
                have HH := Lib.hid hsucc
                clear hsucc hcond hr
                go_wp2_with (fail)
                refine (rhas_eq s k false _ hs hlt HR.out).mono ?_
                rintro e w5 ⟨rfl, hb5⟩
                have H5 := Aside0.mk (And.intro (HA1.out.below hb5) (Kd.C_below hCr hb5))
                clear hb5 hCr
                obtain ⟨A1, c1, i1, i2⟩ := H5.out.1.row1
                obtain ⟨A2, c2, i3, i4⟩ := H5.out.1.row2
                have hlen := adR_len l s k
                obtain ⟨n1, hn1⟩ : ∃ n, (adR l s k).length = n := ⟨_, rfl⟩
                rw [hn1] at i1 i2 i3 i4 hlen
                have R0 : RW w2 w5 N (.slice A1 n1 c1) (.slice A2 n1 c2) ((adR l s k).map Prod.fst) ((adR l s k).map Prod.snd) := ⟨i2, i4, H5.out.1.but⟩
                have d1 : w5.cell? ⟨N + 1 + 1, 0, none⟩ = some (.slice A1 n1 c1) := by rw [blk_cell i1]; rfl
                have d2 : w5.cell? ⟨N + 1 + 1 + 1, 0, none⟩ = some (.slice A2 n1 c2) := by rw [blk_cell i3]; rfl
                obtain ⟨hob, hou⟩ := or_bit_add hs hlt HR.out
                have hvg := val_grow (al := l) hs hlt HR.out
                obtain ⟨sp, hsp⟩ : ∃ x, s + oneS k = x := ⟨_, rfl⟩
                obtain ⟨v0, hv0⟩ : ∃ v, valueL l s = v := ⟨_, rfl⟩
                obtain ⟨v1, hv1⟩ : ∃ v, valueL l sp = v := ⟨_, rfl⟩
                have hbd : 0 ≤ v0 ∧ v0 ≤ 1099511627776 ∧ 0 ≤ v1 ∧ v1 ≤ 1099511627776 := by rw [← hv0, ← hv1]; exact ⟨value_ge0 _ _, value_bound _ _, value_ge0 _ _, value_bound _ _⟩
                have hadE : adE l s k = ((k : Int), v1 - v0) := by unfold adE; rw [hsp, hv1, hv0]
                rw [hsp] at hou
                have hwr : IntKind.u64.wrap sp = sp := by rw [IntKind.wrap_u64]; have := hou.1; have := hou.2; omega
                have E := Aside0.mk (And.intro R0 (And.intro i1 (And.intro i3 (And.intro hn1 (And.intro hou (And.intro hsp (And.intro hv0 (And.intro hv1 (And.intro hbd (And.intro hadE hwr))))))))))
                clear R0 i1 i2 i3 i4 hn1 hou hob hvg hsp hv0 hv1 hbd hadE hwr
                have hmix : Tryd.prog.follows .mixedOrders = true := by kernel_rfl
                go_wp2
                refine wp_region_noPanic ?_
                refine (wpIn_wide (n := 8)).1 ?_
                refine wpIn_region_any hmix ?_
                change wpAnyIn _ _ _ _ _ _ _ _ _ (World.drew _)
                have B0 : Aside0 (Below w5.heap.size w5 w5.drew) := ⟨pw_below_drewN (Below.refl _ _) 1⟩
                have s0 : Aside0 (w5.drew.cell? ⟨N + 1 + 1 + 1, 0, none⟩ = some (.slice A2 n1 c2)) := ⟨d2⟩
                refine anyN_any (S := (fun w' => w'.cell? ⟨N + 1 + 1 + 1, 0, none⟩ = some (.slice A2 n1 c2))) (N := fun j => j == 18) _ _ _ _ ?_
                refine anyN_take (i := 1) (v := .int .i64 k) rfl rfl (by kernel_rfl) (by kernel_rfl) (by kernel_rfl) (by kernel_rfl) (by intro j hj; have e : j = 18 := (by simpa using hj); rw [e]; decide) (fun _ _ _ h => h) ⟨Or.inl ⟨by kernel_rfl, ?tk⟩, fun _ => rfl⟩ s0.out ?_
                case tk => intro w' hw; first | (go_simp; done) | (go_simp; rfl)
                refine anyN_take (i := 4) (v := .slice A2 n1 c2) rfl rfl (by kernel_rfl) (by kernel_rfl) (by kernel_rfl) (by kernel_rfl) (by intro j hj; have e : j = 18 := (by simpa using hj); rw [e]; decide) (fun _ _ _ h => h) ⟨Or.inl ⟨by kernel_rfl, ?tk⟩, fun _ => rfl⟩ s0.out ?_
                case tk => intro w' hw; first | (go_simp; done) | (go_simp; rfl)
                refine anyN_take (i := 5) (v := .slice A l.length c) rfl rfl (by kernel_rfl) (by kernel_rfl) (by kernel_rfl) (by kernel_rfl) (by intro j hj; have e : j = 18 := (by simpa using hj); rw [e]; decide) (fun _ _ _ h => h) ⟨Or.inl ⟨by kernel_rfl, ?tk⟩, fun _ => rfl⟩ s0.out ?_
                case tk => intro w' hw; first | (go_simp; done) | (go_simp; rfl)
                refine anyN_take (i := 6) (v := .int .u64 s) rfl rfl (by kernel_rfl) (by kernel_rfl) (by kernel_rfl) (by kernel_rfl) (by intro j hj; have e : j = 18 := (by simpa using hj); rw [e]; decide) (fun _ _ _ h => h) ⟨Or.inl ⟨by kernel_rfl, ?tk⟩, fun _ => rfl⟩ s0.out ?_
                case tk => intro w' hw; first | (go_simp; done) | (go_simp; rfl)
                refine anyN_take (i := 7) (v := .int .i64 k) rfl rfl (by kernel_rfl) (by kernel_rfl) (by kernel_rfl) (by kernel_rfl) (by intro j hj; have e : j = 18 := (by simpa using hj); rw [e]; decide) (fun _ _ _ h => h) ⟨Or.inl ⟨by kernel_rfl, ?tk⟩, fun _ => rfl⟩ s0.out ?_
                case tk => intro w' hw; first | (go_simp; done) | (go_simp; rfl)
                refine anyN_take (i := 11) (v := .slice A l.length c) rfl rfl (by kernel_rfl) (by kernel_rfl) (by kernel_rfl) (by kernel_rfl) (by intro j hj; have e : j = 18 := (by simpa using hj); rw [e]; decide) (fun _ _ _ h => h) ⟨Or.inl ⟨by kernel_rfl, ?tk⟩, fun _ => rfl⟩ s0.out ?_
                case tk => intro w' hw; first | (go_simp; done) | (go_simp; rfl)
                refine anyN_take (i := 12) (v := .int .u64 s) rfl rfl (by kernel_rfl) (by kernel_rfl) (by kernel_rfl) (by kernel_rfl) (by intro j hj; have e : j = 18 := (by simpa using hj); rw [e]; decide) (fun _ _ _ h => h) ⟨Or.inl ⟨by kernel_rfl, ?tk⟩, fun _ => rfl⟩ s0.out ?_
                case tk => intro w' hw; first | (go_simp; done) | (go_simp; rfl)
                have R1 : RW w2 (w5.alloc (.cells #[.int .i64 k] 3)).drew N (.slice A1 n1 c1) (.slice A2 n1 c2) ((adR l s k).map Prod.fst) ((adR l s k).map Prod.snd) := E.out.1.below (below_drew (below_alloc (Below.refl _ _) _))
                have s1 : Aside0 ((w5.alloc (.cells #[.int .i64 k] 3)).drew.cell? ⟨N + 1 + 1 + 1, 0, none⟩ = some (.slice A2 n1 c2)) := ⟨by have e := blk_alloc E.out.2.2.1 (.cells #[.int .i64 k] 3); show (w5.alloc _).cell? _ = _; rw [blk_cell e]; rfl⟩
                obtain ⟨A3, c3, x3, hrun3, R3, hk3, hs3⟩ := (show RW w2 w5.drew N (.slice A1 n1 c1) (.slice A2 n1 c2) ((adR l s k).map Prod.fst) ((adR l s k).map Prod.snd) from E.out.1.below B0.out).app1 25 (by omega) (by rw [List.length_map]; exact E.out.2.2.2.1) (by omega) (k : Int)
                have i3' := hk3 _ _ _ (show w5.drew.heap[N + 3]? = _ from E.out.2.2.1) (by decide)
                have i1' := hk3 _ _ _ (show w5.drew.heap[N + 2]? = _ from E.out.2.1) (by decide)
                have s3 : Aside0 (x3.cell? ⟨N + 1 + 1 + 1, 0, none⟩ = some (.slice A2 n1 c2)) := ⟨by rw [blk_cell i3']; rfl⟩
                have X3 := Aside0.mk (And.intro hrun3 (And.intro R3 (And.intro i3' i1')))
                clear hrun3 R3 hk3 hs3 i3' i1' R1
                refine anyN_two (i := 0) (i' := 2) (by kernel_rfl) (wpOpIn_step rfl fun K hK => ?_) (wpOpIn_step rfl fun K hK => ?_)
                case' refine_1 =>
                  go_simp
                  refine hK _ _ ⟨fun _ => s0.out, ?_⟩
                  clear hK K
                  refine anyN_one (i := 2) (by kernel_rfl) (wpOpIn_step rfl fun K hK => ?_)
                  go_simp
                  refine hK _ _ ⟨fun _ => s1.out, ?_⟩
                  clear hK K
                case' refine_2 =>
                  go_simp
                  refine hK _ _ ⟨fun _ => s1.out, ?_⟩
                  clear hK K
                  have d1x : (w5.alloc (.cells #[.int .i64 k] 3)).drew.cell? ⟨N + 1 + 1, 0, none⟩ = some (.slice A1 n1 c1) := by have e := blk_alloc E.out.2.1 (.cells #[.int .i64 k] 3); show (w5.alloc _).cell? _ = _; rw [blk_cell e]; rfl
                  refine anyN_one (i := 0) (by kernel_rfl) (wpOpIn_step rfl fun K hK => ?_)
                  go_simp
                  refine hK _ _ ⟨fun _ => s1.out, ?_⟩
                  clear hK K d1x
                all_goals
                  refine anyN_one (i := 3) (by kernel_rfl) (wpOpIn_step rfl fun K hK => ?_)
                  refine ite_yes (by rfl) ?_
                  refine op_append (s := .tmp 52) (x := .tmp 54) (t := 25) rfl rfl rfl X3.out.1 ?_
                  refine hK _ _ ⟨fun _ => s3.out, ?_⟩
                  clear hK K
                  refine anyN_one (i := 8) (by kernel_rfl) (wpOpIn_step rfl fun K hK => ?_)
                  go_simp
                  refine (callsIn_wide.2 (rone_eq k (by omega) _)).mono ?_
                  rintro e x8 ⟨rfl, hb8⟩
                  have i8 := blk_belowX X3.out.2.2.1 hb8
                  have j8 := blk_belowX X3.out.2.2.2 hb8
                  have R8 := X3.out.2.1.below hb8
                  have s8 : x8.cell? ⟨N + 1 + 1 + 1, 0, none⟩ = some (.slice A2 n1 c2) := by rw [blk_cell i8]; rfl
                  have C8 : Kd.C KAt x8 A l.length l := C_blocksA M.out.1 (fun i hi => (R8.but.block i (by have := G.out.1.size; omega) (by omega)).trans (G.out.1.block i hi))
                  have X8 := Aside0.mk (And.intro R8 (And.intro i8 (And.intro j8 (And.intro C8 s8))))
                  clear hb8 i8 j8 R8 C8 s8
                  refine hK _ _ ⟨fun _ => X8.out.2.2.2.2, ?_⟩
                  clear hK K
                  refine anyN_one (i := 9) (by kernel_rfl) (wpOpIn_step rfl fun K hK => ?_)
                  go_simp
                  rw [E.out.2.2.2.2.2.1, E.out.2.2.2.2.2.2.2.2.2.2]
                  refine hK _ _ ⟨fun _ => X8.out.2.2.2.2, ?_⟩
                  clear hK K
                  refine anyN_one (i := 10) (by kernel_rfl) (wpOpIn_step rfl fun K hK => ?_)
                  go_simp
                  refine (callsIn_wide.2 (rval_eq l A c sp v1 _ hc X8.out.2.2.2.1 E.out.2.2.2.2.1 M.out.2.1 (by omega) E.out.2.2.2.2.2.2.2.1)).mono ?_
                  rintro e x10 ⟨rfl, hb10⟩
                  have X10 := Aside0.mk (And.intro (X8.out.1.below hb10) (And.intro (blk_belowX X8.out.2.1 hb10) (And.intro (blk_belowX X8.out.2.2.1 hb10) (And.intro (Kd.C_below X8.out.2.2.2.1 hb10) (show x10.cell? ⟨N + 1 + 1 + 1, 0, none⟩ = some (.slice A2 n1 c2) by rw [blk_cell (blk_belowX X8.out.2.1 hb10)]; rfl)))))
                  clear hb10
                  refine hK _ _ ⟨fun _ => X10.out.2.2.2.2, ?_⟩
                  clear hK K
                  refine anyN_one (i := 13) (by kernel_rfl) (wpOpIn_step rfl fun K hK => ?_)
                  go_simp
                  refine (callsIn_wide.2 (rval_eq l A c s v0 _ hc X10.out.2.2.2.1 hs M.out.2.1 (by omega) E.out.2.2.2.2.2.2.1)).mono ?_
                  rintro e x13 ⟨rfl, hb13⟩
                  have R13 := X10.out.1.below hb13
                  have i13 := blk_belowX X10.out.2.1 hb13
                  have j13 := blk_belowX X10.out.2.2.1 hb13
                  have s13 : Aside0 (x13.cell? ⟨N + 1 + 1 + 1, 0, none⟩ = some (.slice A2 n1 c2)) := ⟨by rw [blk_cell i13]; rfl⟩
                  have hz13 := lt_of_some i13
                  have s15 : Aside0 ((x13.alloc (.cells #[.int .i64 (v1 - v0)] 2)).cell? ⟨N + 1 + 1 + 1, 0, none⟩ = some (.slice A2 n1 c2)) := ⟨by rw [blk_cell (blk_alloc i13 _)]; rfl⟩
                  obtain ⟨A4, c4, x16, hrun16, R16, hk16, hs16⟩ := R13.app2 26 (by omega) (by rw [List.length_map]; exact E.out.2.2.2.1) (by omega) (v1 - v0)
                  have i16 := hk16 _ _ _ i13 (by decide)
                  have j16 := hk16 _ _ _ j13 (by decide)
                  have X16 := Aside0.mk (And.intro hrun16 (And.intro R16 (And.intro i16 j16)))
                  have d16 : x16.cell? ⟨N + 1 + 1 + 1, 0, none⟩ = some (.slice A2 n1 c2) := by rw [blk_cell i16]; rfl
                  have S16 := Aside0.mk d16
                  clear hb13 R13 i13 j13 hrun16 R16 hk16 hs16 hz13 d16
                  refine hK _ _ ⟨fun _ => s13.out, ?_⟩
                  clear hK K
                  have hsub : IntKind.i64.wrap (v1 - v0) = v1 - v0 := by have := E.out.2.2.2.2.2.2.2.2.1; rw [IntKind.wrap_i64]; omega
                  refine anyN_one (i := 14) (by kernel_rfl) (wpOpIn_step rfl fun K hK => ?_)
                  go_simp
                  try rw [hsub]
                  refine hK _ _ ⟨fun _ => s13.out, ?_⟩
                  clear hK K hsub
                  refine anyN_one (i := 15) (by kernel_rfl) (wpOpIn_step rfl fun K hK => ?_)
                  go_simp
                  refine hK _ _ ⟨fun _ => s15.out, ?_⟩
                  clear hK K
                  refine anyN_one (i := 16) (by kernel_rfl) (wpOpIn_step rfl fun K hK => ?_)
                  refine ite_yes (by rfl) ?_
                  refine op_append (s := .tmp 56) (x := .tmp 67) (t := 26) rfl rfl rfl X16.out.1 ?_
                  refine hK _ _ ⟨fun _ => S16.out, ?_⟩
                  clear hK K
                  have da := blk_cell X16.out.2.2.2 0
                  have fa := blk_frozen X16.out.2.2.2 0
                  simp at da
                  have iy := blk_far X16.out.2.2.1 (p := ⟨N + 1 + 1, 0, none⟩) (show N + 3 ≠ N + 1 + 1 by omega) (.slice A3 (n1 + 1) c3)
                  have jy := blk_put X16.out.2.2.2 0 (.slice A3 (n1 + 1) c3) rfl
                  have Ry := X16.out.2.1.set X16.out.2.2.2 (by decide) (by decide) (.inl rfl) (v := .slice A3 (n1 + 1) c3)
                  have sy : (x16.setCell ⟨N + 1 + 1, 0, none⟩ (.slice A3 (n1 + 1) c3)).cell? ⟨N + 1 + 1 + 1, 0, none⟩ = some (.slice A2 n1 c2) := by rw [blk_cell iy]; rfl
                  have fy := blk_frozen iy 0
                  have jz := blk_far jy (p := ⟨N + 1 + 1 + 1, 0, none⟩) (show N + 2 ≠ N + 1 + 1 + 1 by omega) (.slice A4 (n1 + 1) c4)
                  have iz := blk_put iy 0 (.slice A4 (n1 + 1) c4) rfl
                  have Rz := Ry.set iy (by decide) (by decide) (.inr rfl) (v := .slice A4 (n1 + 1) c4)
                  have Z := Aside0.mk (And.intro jz (And.intro iz (And.intro Rz sy)))
                  clear iy jy Ry jz iz Rz
                  refine anyN_one (i := 17) (by kernel_rfl) (wpOpIn_step rfl fun K hK => ?_)
                  go_simp
                  refine hK _ _ ⟨fun _ => Z.out.2.2.2, ?_⟩
                  clear hK K da fa
                  refine anyN_one (i := 18) (by kernel_rfl) (wpOpIn_step rfl fun K hK => ?_)
                  go_simp
                  refine hK _ _ ⟨(fun h => by cases h), ?_⟩
                  clear hK K sy fy
                  refine anyN_done (by kernel_rfl) ?_ _
                  refine NoPanic.normal ?_
                  go_wp2
                  go_roundw
                  case rel => exact ⟨k + 1, by go_num, by omega, ⟨by rw [HH.out, E.out.2.2.2.2.2.2.2.2.2.1]; refine ⟨⟨A3, c3, ?_, ?_⟩, ⟨A4, c4, ?_, ?_⟩, Z.out.2.2.1.but⟩ <;> simp only [List.length_append, List.length_singleton, E.out.2.2.2.1, List.map_append, List.map_cons, List.map_nil] <;> first | exact Z.out.1 | exact Z.out.2.1 | exact Z.out.2.2.1.r1 | exact Z.out.2.2.1.r2⟩⟩
                  case measure => simp [intOf]; omega
      · obtain rfl : k = 64 := by omega
        have hA := HA.out
        rw [adR_end l s hs M.out.2.1] at hA
        have hbw : Below W0.heap.size W0 wr := hA.but.below G.out.1 (by omega) (by rintro k (rfl | rfl | rfl | rfl) <;> omega)
        have gm := hA.but.blk G.out.2.1 (by omega)
        have gr := hA.but.blk G.out.2.2.1 (by omega)
        have hTr : TabG wr := M.out.2.2.below hbw
        have hCr : Kd.C KAt wr A l.length l := C_blocksA M.out.1 (fun i hi => hbw.block i hi)
        obtain ⟨A1, c1, i1, i2⟩ := hA.row1
        obtain ⟨A2, c2, i3, i4⟩ := hA.row2
        obtain ⟨n, hn⟩ : ∃ n, (addsL l s).length = n := ⟨_, rfl⟩
        rw [hn] at i1 i2 i3 i4
        have hw2r := hA.but.size
        have hn64 : n ≤ 64 := by rw [← hn]; unfold addsL; rw [List.length_map]; exact listS_le _
        have dm := blk_cell gm 0
        have fm := blk_frozen gm 0
        simp at dm
        obtain ⟨m, hm⟩ : ∃ m : Nat, 1 + bits BinOp.and IntKind.i64 most 127 = (m : Int) := ⟨(1 + bits BinOp.and IntKind.i64 most 127).toNat, by omega⟩
        have hm0 : 1 ≤ m ∧ m ≤ 128 := by omega
        have F := Aside0.mk (And.intro hbw (And.intro gm (And.intro gr (And.intro hTr (And.intro hCr (And.intro i1 (And.intro i3 (And.intro i2 (And.intro i4 hn)))))))))
        clear hA hbw gm gr hTr hCr i1 i2 i3 i4 hn
        go_wp2_with (go_at_call 9; refine (Adds_calls _ _ _ _ _).mono ?_; rintro e w9 ⟨rfl, hw9⟩)
        rw [← hw9]
        have e9 : (wr.setCell { block := W0.heap.size, off := 0 } (Value.int IntKind.i64 (m : Int))).heap.size = wr.heap.size := by
          show (wr.heap.modify _ _).size = _; rw [Array.size_modify]
        have hbs : Below W0.heap.size W0 (wr.setCell { block := W0.heap.size, off := 0 } (Value.int IntKind.i64 (m : Int))) := below_set F.out.1 (Nat.le_refl _)
        have hb9 : Below W0.heap.size W0 w9 := by subst hw9; exact below_alloc (below_alloc (below_alloc hbs _) _) _
        have hk9 : ∀ (g : Nat) (cs : Array Value) (t : TypeId), wr.heap[g]? = some (.cells cs t (0, 0)) → g ≠ W0.heap.size → w9.heap[g]? = some (.cells cs t (0, 0)) := fun g cs t hg hne => by
          subst hw9; exact blk_alloc (blk_alloc (blk_alloc (blk_far hg hne _) _) _) _
        have k0 : w9.heap[W0.heap.size]? = some (.cells #[.int .i64 m] 3 (0, 0)) := by subst hw9; exact blk_alloc (blk_alloc (blk_alloc (blk_put F.out.2.1 0 _ rfl) _) _) _
        have k1 := hk9 _ _ _ F.out.2.2.1 (by omega)
        have k2 := hk9 _ _ _ F.out.2.2.2.2.2.1 (by omega)
        have k3 := hk9 _ _ _ F.out.2.2.2.2.2.2.1 (by omega)
        have k4 : w9.heap[wr.heap.size]? = some (.cells #[.int .i64 (([] : List (Int × Int)).length : Nat)] 3 (0, 0)) := by subst hw9; rw [← e9]; exact blk_alloc (blk_alloc (blk_new _ _) _) _
        have k5 : w9.heap[wr.heap.size + 1]? = some (.cells #[.slice A l.length c] 22 (0, 0)) := by subst hw9; rw [← e9]; exact blk_alloc (blk_new2 _ _ _) _
        have k6 : w9.heap[wr.heap.size + 1 + 1]? = some (.cells #[.int .u64 s] 23 (0, 0)) := by
          subst hw9
          rw [show wr.heap.size + 1 + 1 = ((wr.setCell { block := W0.heap.size, off := 0 } (Value.int IntKind.i64 (m : Int))).alloc (.cells #[.int .i64 0] 3)).heap.size + 1 by rw [World.size_alloc, e9]]
          exact blk_new2 _ _ _
        have hs9 : w9.heap.size = wr.heap.size + 3 := by subst hw9; simp only [World.size_alloc]; rw [e9]
        obtain ⟨C1, hc1⟩ := C_store (v := .int .i64 (m : Int)) F.out.2.2.2.2.2.2.2.1 (show W0.heap.size < N by omega) (by rw [List.length_map]; exact F.out.2.2.2.2.2.2.2.2.2)
        obtain ⟨C2, hc2⟩ := C_store (v := .int .i64 (m : Int)) F.out.2.2.2.2.2.2.2.2.1 (show W0.heap.size < N by omega) (by rw [List.length_map]; exact F.out.2.2.2.2.2.2.2.2.2)
        have hk8 : ∀ i, i < wr.heap.size → w9.heap[i]? = (wr.setCell { block := W0.heap.size, off := 0 } (Value.int IntKind.i64 (m : Int))).heap[i]? := fun i hi => by
          subst hw9
          exact (below_alloc (below_alloc (below_alloc (Below.refl _ _) _) _) _).block i (by rw [e9]; exact hi)
        have T9 := F.out.2.2.2.1
        have hT9 : TabG w9 := M.out.2.2.below hb9
        have hCl9 : Kd.C KAt w9 A l.length l := C_blocksA M.out.1 (fun i hi => hb9.block i hi)
        have P := Aside0.mk (And.intro hb9 (And.intro k0 (And.intro k1 (And.intro k2 (And.intro k3 (And.intro k4 (And.intro k5 (And.intro k6 (And.intro C1 (And.intro C2 (And.intro hk8 (And.intro hT9 hCl9))))))))))))
        have hnn := F.out.2.2.2.2.2.2.2.2.2
        have HN := Aside0.mk hnn
        clear hbs hb9 hk9 k0 k1 k2 k3 k4 C1 C2 hk8 T9 hT9 hCl9 hnn F hw9 dm fm HA
        generalize (wr.setCell { block := W0.heap.size, off := 0 } (Value.int IntKind.i64 (m : Int))) = ws at e9 P
        generalize wr.heap.size = ib at *
        refine (wpIn_wide (n := 10)).1 (rangeK rfl (by omega) (gf := 19) (lb := #[.pointer (some ⟨ib + 1, 0, none⟩), .pointer (some ⟨ib + 1 + 1, 0, none⟩)]) rfl trivial (enters_of Tryd.func19 (by kernel_rfl) rfl)
          (Y := AdY (addsL l s)) (n₀ := w9.heap.size) (Kb := fun k => k ≠ ib) (S := fun xs => xs = addsL l s) (Sp := fun _ => True)
          (Adds1_seq 9 l s A c (ib + 1) (ib + 1 + 1) w9.heap.size _ w9 hs M.out.2.1
            (fun X hk => by rw [blk_cell ((hk.2 (ib + 1) (by omega) (by omega)).trans k5) 0]; rfl)
            (fun X hk => by rw [blk_cell ((hk.2 (ib + 1 + 1) (by omega) (by omega)).trans k6) 0]; rfl)
            (fun X hk => C_blocksA M.out.1 (fun i hi => (hk.2 i (by omega) (by omega)).trans (P.out.1.block i hi)))
            (fun X hk => P.out.2.2.2.2.2.2.2.2.2.2.2.1.same (hk.2 _ P.out.2.2.2.2.2.2.2.2.2.2.2.1.pos (by have := M.out.2.2.pos; omega))) (Nat.le_refl _)) (Nat.le_refl _)
          (fun _ _ _ _ hy => by obtain ⟨_, rfl⟩ := hy; rfl)
          (fun pre X => X.heap[ib]? = some (.cells #[.int .i64 (pre.length : Nat)] 3 (0, 0)) ∧ But (fun k => k = ib) w9 X ∧ pre.length < m)
          (fun cd pre X => cd = .exit 4 ∧ X.heap[ib]? = some (.cells #[.int .i64 m] 3 (0, 0)) ∧ But (fun k => k = ib) w9 X ∧ m ≤ n)
          (fun _ P Q h hlie => ⟨hlie.blk h.1, But.lies h.2.1 hlie (Nat.le_refl _), h.2.2⟩) (fun _ _ P Q h hlie => ⟨h.1, hlie.blk h.2.1, But.lies h.2.2.1 hlie (Nat.le_refl _), h.2.2.2⟩)
          (fun _ _ P h => Kp.of_but h.2.2.1 (fun k _ hk e => hk e) (Nat.le_refl _))
          ⟨P.out.2.2.2.2.2.1, But.refl _ _, by simp; omega⟩ ?round ?done ?stop)
        case round =>
          rintro lp pre ⟨xi, xv⟩ vs Y hl2 ⟨hI1, hI2, hlt⟩ ⟨hpre, rfl⟩ hYs
          have hget := prefix_get hpre
          have hxp := adds_pos hs M.out.2.1 (List.mem_of_getElem? hget)
          have hget1 : ((addsL l s).map Prod.fst)[pre.length]? = some xi := by rw [List.getElem?_map, hget]; rfl
          have hget2 : ((addsL l s).map Prod.snd)[pre.length]? = some xv := by rw [List.getElem?_map, hget]; rfl
          have hln : pre.length < n := by
            have h1 := hpre.length_le
            rw [HN.out, List.length_append, List.length_singleton] at h1
            omega
          obtain ⟨pn, hpn⟩ : ∃ p, pre.length = p := ⟨_, rfl⟩
          rw [hpn] at hI1 hlt hget1 hget2 hln
          have HPN := Lib.hid hpn
          have hxp2 : 0 ≤ xv := hxp
          clear hpn hget hxp hpre
          gi_wp2
          refine ⟨Kin.refl _ _ _, Kp.refl _ _ _, ?_⟩
          intro Wb hlie
          have hb : But (fun k => k = ib) w9 Wb := But.lies hI2 hlie (Nat.le_refl _)
          have g0 := hlie.blk hI1
          have g1 := hb.blk P.out.2.1 (by omega)
          have g2 := hb.blk P.out.2.2.2.1 (by omega)
          have g3 := hb.blk P.out.2.2.2.2.1 (by omega)
          have C1b : Kd.C KI Wb A1 n ((addsL l s).map Prod.fst) := C_blocksI P.out.2.2.2.2.2.2.2.2.1 (fun i hi => (hb.block i (by omega) (by omega)).trans (P.out.2.2.2.2.2.2.2.2.2.2.1 i (by omega)))
          have C2b : Kd.C KI Wb A2 n ((addsL l s).map Prod.snd) := C_blocksI P.out.2.2.2.2.2.2.2.2.2.1 (fun i hi => (hb.block i (by omega) (by omega)).trans (P.out.2.2.2.2.2.2.2.2.2.2.1 i (by omega)))
          obtain ⟨ad1, ea1, y1⟩ := at_int C1b hln hget1
          obtain ⟨ad2, ea2, y2⟩ := at_int C2b hln hget2
          subst ea1; subst ea2
          have d0 : Wb.cell? ⟨ib, 0, none⟩ = some (.int .i64 pn) := by rw [blk_cell g0]; rfl
          have d1 : Wb.cell? ⟨W0.heap.size, 0, none⟩ = some (.int .i64 m) := by rw [blk_cell g1]; rfl
          have d2 : Wb.cell? ⟨N + 1 + 1, 0, none⟩ = some (.slice (some ad1) n c1) := by rw [blk_cell g2]; rfl
          have d3 : Wb.cell? ⟨N + 1 + 1 + 1, 0, none⟩ = some (.slice (some ad2) n c2) := by rw [blk_cell g3]; rfl
          have f0 := blk_frozen g0 0
          have hlnn : (pn : Int) < (n : Int) := by omega
          have hxv : ¬ xv < 0 := by omega
          have HG := Aside0.mk (And.intro hb (And.intro g0 g1))
          clear hb g0 g1 g2 g3 C1b C2b hI1 hI2 hlie hget1 hget2
          gi_wp2
          all_goals
            rename_i hcm
            have hKin : Kin TNo (ib + 3) Y.heap.size Wb (Wb.setCell ⟨ib, 0, none⟩ (.int .i64 ((pn : Int) + 1))) := Kin.set (.inl (by show ib < ib + 3; omega)) _
            have hKp : Kp (ib + 3) (fun k => ¬ k = ib) Wb (Wb.setCell ⟨ib, 0, none⟩ (.int .i64 ((pn : Int) + 1))) := Kp.set (fun h => absurd rfl h) _
            have hbx := blk_put HG.out.2.1 0 (.int .i64 ((pn : Int) + 1)) rfl
            have hbt : But (fun k => k = ib) w9 (Wb.setCell ⟨ib, 0, none⟩ (.int .i64 ((pn : Int) + 1))) := HG.out.1.then (But.of_oth (P := fun k => k = ib) (Oth.set Wb ⟨ib, 0, none⟩ _) rfl) (fun i _ h => h)
            have hlp : (pre ++ [(xi, xv)]).length = pn + 1 := by rw [List.length_append, List.length_singleton, HPN.out]
            first
              | (have e := beq_iff_eq.1 hcm
                 refine ⟨hKin, rfl, ?_, hbt, by omega⟩
                 rw [← e]; exact hbx)
              | (have e : ¬ ((pn : Int) + 1 = (m : Int)) := fun h => by rw [h] at hcm; simp at hcm
                 refine ⟨hKin, hKp, ?_, hbt, by rw [hlp]; omega⟩
                 rw [hlp]; exact hbx)
        case' done =>
          rintro D ys X hD rfl ⟨hI1, hI2, hlt⟩ hKd
          rw [HN.out] at hI1 hlt
          obtain ⟨j, hj⟩ : ∃ j, n = j := ⟨_, rfl⟩
          have hjm : min (m : Int) (n : Int) = (j : Int) ∧ ((j : Int) = if (m : Int) ≤ (n : Int) then (m : Int) else (n : Int)) := by constructor; omega; split <;> omega
          have hI1 : X.heap[ib]? = some (.cells #[.int .i64 (j : Int)] 3 (0, 0)) := hj ▸ hI1
          clear hj hlt
        case' stop =>
          rintro D cd ys X hD - ⟨rfl, hI1, hI2, hlt⟩ hKd
          obtain ⟨j, hj⟩ : ∃ j, m = j := ⟨_, rfl⟩
          have hjm : min (m : Int) (n : Int) = (j : Int) ∧ ((j : Int) = if (m : Int) ≤ (n : Int) then (m : Int) else (n : Int)) := by constructor; omega; split <;> omega
          have hI1 : X.heap[ib]? = some (.cells #[.int .i64 (j : Int)] 3 (0, 0)) := hj ▸ hI1
          clear hj hlt
          refine wpIn_wide.2 ?_
        all_goals
          have g1 := hI2.blk P.out.2.1 (by omega)
          have g2 := hI2.blk P.out.2.2.2.1 (by omega)
          have g3 := hI2.blk P.out.2.2.1 (by omega)
          have hbX : Below W0.heap.size W0 X := hI2.below P.out.1 (by omega) (by rintro k rfl; omega)
          have d0 : X.cell? ⟨ib, 0, none⟩ = some (.int .i64 j) := by rw [blk_cell hI1]; rfl
          have d1 : X.cell? ⟨W0.heap.size, 0, none⟩ = some (.int .i64 m) := by rw [blk_cell g1]; rfl
          have d2 : X.cell? ⟨N + 1 + 1, 0, none⟩ = some (.slice A1 n c1) := by rw [blk_cell g2]; rfl
          have d3 := blk_cell g3 0
          have f3 := blk_frozen g3 0
          simp at d3
          obtain ⟨hj1, hj2⟩ := hjm
          have hjj : ((j : Int) == (j : Int)) = true := by simp
          have HZ := Aside0.mk (And.intro hbX (And.intro g3 hKd))
          clear g1 g2 g3 hbX hI1 hI2 hKd
          go_wp2
          all_goals
            have hbf : Below W0.heap.size W0 (X.setCell ⟨W0.heap.size + 1, 0, none⟩ (.bool true)) := below_set HZ.out.1 (by show W0.heap.size ≤ W0.heap.size + 1; omega)
            have hDf : (X.setCell ⟨W0.heap.size + 1, 0, none⟩ (.bool true)).heap[D]? = some (.deferred (some [])) := (Below.heap_setCell X ⟨W0.heap.size + 1, 0, none⟩ _ D (by show D ≠ W0.heap.size + 1; omega)).trans HZ.out.2.2
            have hrf := blk_put HZ.out.2.1 0 (.bool true) rfl
            refine ⟨by simp, .inl ⟨_, _, rfl, run_takeDeferred hDf, ?_⟩⟩
            refine ⟨_, results_b rfl _ _ (W0.heap.size + 1) true rfl ?_, rfl, belowK_t hbf (belowK_b (w := W0) (Nat.le_refl _) _ D _ _ (by omega) hDf rfl rfl)⟩
            rw [blk_cell ((World.putObj_heap_other (by omega)).trans hrf)]; rfl
end Go.Proofs.YtcnmbllafdeokaaDoor.MAtomAdds
