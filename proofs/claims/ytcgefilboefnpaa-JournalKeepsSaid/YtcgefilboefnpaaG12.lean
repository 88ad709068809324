/- Some texts of one seat in one file, in build order. -/
import Derived.Test.YtcgefilboefnpaaG11
import Derived.Test.YtcgefilboefnpaaG10
import Derived.Test.YtcgefilboefnpaaG7
import Derived.Test.YtcgefilboefnpaaG5
import Derived.Test.YtcgefilboefnpaaG8
import Derived.Test.YtcgefilboefnpaaG9
/- law07.has: what a journal has, as the document's journal. -/
namespace Go.Proofs.Ytcgefilboefnpaa.H
open Go.RowKit Go.Proofs.YtcgefilboefnpaaW.PrintWords Go.Proofs.YtcgefilboefnpaaW.PrintLast Go.Proofs.YtcgefilboefnpaaW.PrintMore Go.Proofs.Ytcgefilboefnpaa.CrcM
set_option linter.unusedVariables false
set_option linter.unusedSimpArgs false
attribute [local go_sem] Oper.semAt_some wide_fn wide_depth

/-- A document's journal as its cells have it, of a snapshot and records alone. -/
abbrev xjCells (As : Option Addr) (ns cs : Nat) (Ar : Option Addr) (nr cr : Nat) : Array Value :=
  #[.slice none 0 0, .slice none 0 0, .int .i64 0, .int .i64 0, .int .u64 0, .slice As ns cs, .slice Ar nr cr, .int .i64 0]
theorem info_xj : (Try.prog.info? 38).map (·.size) = some 8 := by kernel_rfl
/-- What has tells. -/
def HasOf [Pl] (W : World) (B : Nat) (As : Option Addr) (cs : Nat) (Ar : Option Addr) (cr : Nat) (snap : List Int) (recs : List (List Int)) : Prop :=
  snap.length ≤ cs ∧ Rd W As snap ∧ ∃ os, KSl.R 32 W B (fun _ => True) (.slice Ar recs.length cr) os ∧ SlsOf W os recs
def HasPost [Pl] (snap : List Int) (recs : List (List Int)) (W : World) (e : Ending) (W' : World) : Prop :=
  ∃ As cs Ar cr, e = .returned (.agg (xjCells As snap.length cs Ar recs.length cr)) ∧ HasOf W' W.heap.size As cs Ar cr snap recs ∧ Below W.heap.size W W'
/-- The box that is filled. -/
def HasI [Pl] (W : World) (B g : Nat) (As : Option Addr) (cs : Nat) (snap : List Int) (recs : List (List Int)) : Prop :=
  ∃ Ar cr, W.heap[g]? = some (.cells (xjCells As snap.length cs Ar recs.length cr) 38 (0, 0)) ∧ HasOf W B As cs Ar cr snap recs
theorem HasOf.lies [Pl] {W W' : World} {B B' : Nat} {As : Option Addr} {cs : Nat} {Ar : Option Addr} {cr : Nat} {snap : List Int} {recs : List (List Int)} (h : HasOf W B As cs Ar cr snap recs) (hb : Lies B' W W') : HasOf W' B As cs Ar cr snap recs := by
  obtain ⟨h1, h2, os, h3, h4⟩ := h
  exact ⟨h1, hb.Rd h2, os, hb.R h3, h4.imp (fun A l hr => hb.Rd hr)⟩
theorem HasOf.below [Pl] {W W' : World} {B : Nat} {As : Option Addr} {cs : Nat} {Ar : Option Addr} {cr : Nat} {snap : List Int} {recs : List (List Int)} (h : HasOf W B As cs Ar cr snap recs) (hb : Below W.heap.size W W') : HasOf W' B As cs Ar cr snap recs := by
  obtain ⟨h1, h2, os, h3, h4⟩ := h
  exact ⟨h1, h2.below hb, os, Kd.R_below h3 hb, h4.below hb⟩
theorem HasOf.C [Pl] {W : World} {B : Nat} {As : Option Addr} {cs : Nat} {Ar : Option Addr} {cr : Nat} {snap : List Int} {recs : List (List Int)} (h : HasOf W B As cs Ar cr snap recs) : Kd.C (Kd.int .u8) W As snap.length snap ∧ Kd.C (Kd.slice 5 (Kd.int .u8)) W Ar recs.length recs := by
  obtain ⟨h1, h2, os, h3, h4⟩ := h
  exact ⟨h2.1, C_rows h3 h4⟩
/-- Rows of slices abide where blocks of bytes and of slices do. -/
theorem rows_keep [Pl] {W W' : World} {B : Nat} {ok : Nat → Prop} {A : Option Addr} {n c : Nat} {os : List Sl} {xs : List (List Int)} (hs : W.heap.size ≤ W'.heap.size) (hk : ∀ (k : Nat) (cs : Array Value) (t : TypeId) (z : Nat × Nat), W.heap[k]? = some (.cells cs t z) → (t = 5 ∨ t = 32) → W'.heap[k]? = W.heap[k]?)
    (hR : KSl.R 32 W B ok (.slice A n c) os) (hS : SlsOf W os xs) : KSl.R 32 W' B ok (.slice A n c) os ∧ SlsOf W' os xs :=
  ⟨Kd.R_mono (Kd.R_move (Kd.R_bound hR) (fun k hb => by obtain ⟨_, _, _, q, hq, cells, hc⟩ := hb; exact hk k _ _ _ hc (.inr (by simpa [KSl, Kd.scalar] using hq)))) (fun _ h => h.1),
    hS.imp (fun A l hr => ⟨C_ty hr.2.1 hr.1 (fun i cs z hi => hk i cs _ z hi (.inl rfl)), hr.2.1.of_ty (fun i cs z hi => hk i cs _ z hi (.inl rfl)), Nat.le_trans hr.2.2.1 hs, hr.2.2.2⟩)⟩
theorem xj_cells {W : World} {g : Nat} {As : Option Addr} {ns cs : Nat} {Ar : Option Addr} {nr cr : Nat} {t : TypeId} (h : W.heap[g]? = some (.cells (xjCells As ns cs Ar nr cr) t (0, 0))) :
    W.cell? ⟨g, 0, none⟩ = some (.slice none 0 0) ∧ W.cell? ⟨g, 1, none⟩ = some (.slice none 0 0) ∧ W.cell? ⟨g, 2, none⟩ = some (.int .i64 0) ∧ W.cell? ⟨g, 3, none⟩ = some (.int .i64 0) ∧ W.cell? ⟨g, 4, none⟩ = some (.int .u64 0) ∧ W.cell? ⟨g, 5, none⟩ = some (.slice As ns cs) ∧ W.cell? ⟨g, 6, none⟩ = some (.slice Ar nr cr) ∧ W.cell? ⟨g, 7, none⟩ = some (.int .i64 0) := by
  refine ⟨?_, ?_, ?_, ?_, ?_, ?_, ?_, ?_⟩ <;> · rw [blk_cell h]; rfl
theorem tyGrown3 {α : Type} {d : Kd α} {e : Nat} {W W' : World} {base : Nat} {ok : Nat → Prop} {v : Value} {os : List α} (h : d.R e W base ok v os) (he : 5 ≠ e) (hg : W.grownBy W' v.ownBlock) :
    ∀ (i : Nat) (cs : Array Value) (z : Nat × Nat), W.heap[i]? = some (Obj.cells cs 5 z) → W'.heap[i]? = W.heap[i]? := fun i cs z hi =>
  hg.block i (lt_of_some hi) (fun e2 => by
    obtain ⟨_, ho⟩ := Kd.R_own h
    obtain ⟨cells, hc⟩ := own_typed ho i e2.symm
    exact ne_block' hi hc he rfl)
set_option maxHeartbeats 3200000 in
theorem has_calls [Pl] (gj gd B : Nat) (Ar : Option Addr) (cr : Nat) (j : Jn) (snap : List Int) (recs : List (List Int)) (w : World) (h : JAt w B gj gd Ar cr j) (hsn : j.snap = snap) (hrn : j.recs = recs) (hs : snap.length ≤ 1000000) (hrl : recs.length ≤ 1000000) (hr : ∀ x ∈ recs, x.length ≤ 1000000) :
    Calls Try.prog 14 #[.pointer (some ⟨gj, 0, none⟩)] w (HasPost snap recs w) := by
  refine (callsIn_wide (n := 5)).1 ?_
  refine callsIn_of_wp_marks Try.func14 rfl trivial ?_ rfl
  simp only [Try.ntmps14, List.size_toArray, List.length_cons, List.length_nil, Nat.reduceAdd, Nat.reduceSub, Array.replicate_succ, Array.replicate_zero, List.push_toArray, List.append_toArray, List.nil_append, List.cons_append]
  obtain ⟨sn, hsnl⟩ : ∃ n, snap.length = n := ⟨_, rfl⟩
  obtain ⟨rn, hrnl⟩ : ∃ n, recs.length = n := ⟨_, rfl⟩
  have hlo := h.lo
  have H := Aside0.mk (And.intro h (And.intro hsn (And.intro hrn (And.intro hsnl hrnl))))
  rw [hsnl] at hs
  rw [hrnl] at hrl
  clear h hsn hrn hsnl hrnl
  gi_wp2_with (fail)
  have hx1 : (w.alloc (.cells #[.slice none 0 0, .slice none 0 0, .int .i64 0, .int .i64 0, .int .u64 0, .slice none 0 0, .slice none 0 0, .int .i64 0] 38)).heap[w.heap.size]? = some (.cells (xjCells none 0 0 none 0 0) 38 (0, 0)) := blk_new w _
  have hb1 : Below w.heap.size w (w.alloc (.cells #[.slice none 0 0, .slice none 0 0, .int .i64 0, .int .i64 0, .int .u64 0, .slice none 0 0, .slice none 0 0, .int .i64 0] 38)) := below_alloc (Below.refl _ _) _
  generalize w.alloc (.cells #[.slice none 0 0, .slice none 0 0, .int .i64 0, .int .i64 0, .int .u64 0, .slice none 0 0, .slice none 0 0, .int .i64 0] 38) = w1 at *
  have hg1 : w.heap.size < w1.heap.size := lt_of_some hx1
  refine (callsIn_wide.2 (Snapshot_calls gj gd B Ar cr j snap sn _ (H.out.1.below hb1) H.out.2.1 H.out.2.2.2.1 hs)).mono ?_
  rintro e w2 ⟨As, cs, rfl, hcs, hRs, hb2⟩
  have hs2 := hb2.size
  have H2 := Aside0.mk (And.intro (blk_belowX hx1 hb2) (And.intro hRs (below_step hb1 hb2)))
  clear hx1 hb1 hRs hb2
  gi_wp2_with (fail)
  have hx3 : (w2.alloc (.cells (xjCells As sn cs none 0 0) 38)).heap[w2.heap.size]? = some (.cells (xjCells As sn cs none 0 0) 38 (0, 0)) := blk_new w2 _
  have hb3 : Below w2.heap.size w2 (w2.alloc (.cells (xjCells As sn cs none 0 0) 38)) := below_alloc (Below.refl _ _) _
  have hx3r := blk_belowX H2.out.1 hb3
  have hRs3 := H2.out.2.1.below hb3
  have hB3 := below_step H2.out.2.2 hb3
  generalize w2.alloc (.cells (xjCells As sn cs none 0 0) 38) = w3 at *
  have hg3 : w2.heap.size < w3.heap.size := lt_of_some hx3
  obtain ⟨g3, hg3e⟩ : ∃ g, w2.heap.size = g := ⟨_, rfl⟩
  have HG3 := Lib.hid hg3e
  rw [hg3e] at hx3 hg3
  rw [hg3e]
  rw [hg3e] at hs2
  refine (callsIn_wide.2 (Records_calls gj _)).mono ?_
  rintro e w4 ⟨rfl, rfl⟩
  have hx4 : (w3.alloc (.cells #[.pointer (some ⟨gj, 0, none⟩)] 27)).heap[w3.heap.size]? = some (.cells #[.pointer (some ⟨gj, 0, none⟩)] 27 (0, 0)) := blk_new w3 _
  have hb4 : Below w3.heap.size w3 (w3.alloc (.cells #[.pointer (some ⟨gj, 0, none⟩)] 27)) := below_alloc (Below.refl _ _) _
  generalize w3.alloc (.cells #[.pointer (some ⟨gj, 0, none⟩)] 27) = w4 at *
  have hg4 : w3.heap.size < w4.heap.size := lt_of_some hx4
  have hB4 := below_step hB3 hb4
  have hI0 : HasI w4 w4.heap.size g3 As cs snap [] := ⟨none, 0, by rw [H.out.2.2.2.1]; exact blk_belowX hx3 hb4, by rw [H.out.2.2.2.1]; exact hcs, hRs3.below hb4, [], Kd.R_nil _ _ _ _ _, SlsOf.nil _⟩
  have hJ4 := H.out.1.below hB4
  obtain ⟨j0, As', cs', os', j1, j2, j3, j4, j5⟩ := hJ4
  rw [H.out.2.2.1] at j4 j5
  have hjl := j1.lt
  have hjne : gj ≠ g3 := by
    have := H.out.1
    obtain ⟨_, _, _, _, q1, _⟩ := this
    have := q1.lt
    omega
  have hx4r := blk_belowX hx3r hb4
  have HJ := Aside0.mk (And.intro j1 (And.intro j4 (And.intro j5 (And.intro (blk_belowX hx3 hb4) hx4r))))
  clear j0 j1 j2 j3 j4 j5 hx3 hx3r hRs3 hb3 hb4 hB3 hx4r hg3e
  gi_wp2
  refine rangeX rfl (by omega) (gf := 51) (lb := #[.pointer (some ⟨w3.heap.size, 0, none⟩)]) rfl trivial (enters_of Try.func51 (by kernel_rfl) rfl)
    (Y := RecY recs) (n₀ := w4.heap.size) (Kb := fun k => k ≠ g3) (S := fun xs => xs = recs) (Sp := fun _ => True)
    (Records1_seq 4 recs hr Ar cr gj w3.heap.size w4.heap.size (fun k => k ≠ g3) w4
      (fun W hk => by rw [blk_cell ((hk.2 w3.heap.size (by omega) (by omega)).trans hx4) 0]; rfl)
      (fun W hk => by
        have h5 := (HJ.out.1.blk (hk.2 gj hjl hjne)).cells.2.2.2.2.1
        rw [H.out.2.2.1] at h5; exact h5)
      (fun W hk => by
        have h6 := rows_keep hk.1 (fun k cs t z hc ht => hk.2 k (lt_of_some hc) (ne_block' hc HJ.out.2.2.2.1 (by rcases ht with rfl | rfl <;> decide))) HJ.out.2.1 HJ.out.2.2.1
        exact C_rows h6.1 h6.2) (Nat.le_refl _) (by have := hB4.size; omega)) (Nat.le_refl _)
    (fun _ _ _ _ hy => by obtain ⟨_, A3, c3, rfl, _⟩ := hy; rfl)
    (fun pre W => HasI W w4.heap.size g3 As cs snap pre ∧ W.heap[w.heap.size]? = some (.cells (xjCells none 0 0 none 0 0) 38 (0, 0)) ∧ Below w.heap.size w W) (fun _ _ _ => False)
    (fun s P Q h hlie => by
      obtain ⟨⟨Ar, cr, h1, h2⟩, h3, h4⟩ := h
      exact ⟨⟨Ar, cr, hlie.blk h1, h2.lies hlie⟩, hlie.blk h3, hlie.below h4 (by omega) (Nat.le_refl _)⟩) (fun _ _ _ _ h _ => h) ⟨hI0, HJ.out.2.2.2.2, hB4⟩ ?round ?done (fun _ _ _ _ _ _ h _ => h.elim)
  case round =>
    rintro l pre x vs W hl2 hI0' ⟨hpre, A3, c3, rfl, hc3, hr3⟩ hWs
    have hprl := hpre.length_le
    gi_wp2
    refine ⟨KeepsFrom.of_below (Below.refl _ _), Kp.refl _ _ _, ?_⟩
    intro Wb hlie
    obtain ⟨⟨Ap, cp, i1, i2, i3, os, i4, i5⟩, i6, i7⟩ := hI0'
    obtain ⟨pn, hpn⟩ : ∃ n, pre.length = n := ⟨_, rfl⟩
    have hon : os.length = pn := by rw [i5.1]; exact hpn
    have k1 := hlie.blk i1
    have k2 := hlie.Rd i3
    have k3 := hlie.R i4
    have k4 := i5.imp (fun A l hr => hlie.Rd hr)
    have k5 := hlie.blk i6
    have k6 := hlie.below i7 (by have := hB4.size; omega) (Nat.le_refl _)
    have k7 := hlie.Rd hr3
    have hbs : w.heap.size ≤ Wb.heap.size := k6.size
    have hsz := hlie.size
    rw [hpn] at k1 k3
    simp only [List.length_append, List.length_singleton, hpn, H.out.2.2.2.2] at hprl
    rw [H.out.2.2.2.1] at k1
    obtain ⟨e0, e1, e2, e3, e4, e5, e6, e7⟩ := xj_cells k1
    have hgl : g3 < Wb.heap.size := lt_of_some k1
    have hb8 : ((pn : Int) != (pn : Int)) = false := by simp
    have I := Aside0.mk (And.intro k1 (And.intro k2 (And.intro k3 (And.intro k4 (And.intro k5 (And.intro k6 (And.intro k7 (And.intro hpn (And.intro hon i2)))))))))
    rw [hpn]
    clear k1 k2 k3 k4 k5 k6 k7 i1 i2 i3 i4 i5 i6 i7 hlie hr3 hpn hon hpre e0 e1 e2 e3 e4 e5 e7 hb8
    gi_wp2_with (gi_at_builtin; refine RIn_append KSl w4.heap.size rfl (.tmp 20) (.tmp 22) 36 32 (.slice none 0 0) 24 rfl Try.underlying36 info_sl36 rfl (by decide) (by omega) _ os (A3, x.length, c3) [.slice A3 x.length c3] (fun _ => True) (fun _ => False) rfl rfl rfl (fun _ hk => hk.elim) (fun _ _ => trivial) I.out.2.2.1 (Below.refl _ _) (by omega) (by rw [I.out.2.2.2.2.2.2.2.2.1]; omega) ?_; intro v7 w7 ho7 hb7 hg7 hat7; obtain ⟨A7, c7, e7⟩ := Kd.R_slice ho7; subst e7; rw [List.length_append, List.length_singleton, I.out.2.2.2.2.2.2.2.2.1] at ho7; have hx7 := blk_grown I.out.2.2.1 I.out.1 (by decide) hg7; have d7 := (xj_cells hx7).2.2.2.2.2.2.1; have f7 := blk_frozen hx7 6; have s7 := blk_lt hx7; have HO7 := Aside0.mk (And.intro ho7 (And.intro hb7 (And.intro hg7 hx7))); clear ho7 hb7 hg7 hat7 hx7)
    obtain ⟨j1, j2, j3, j4, j5, j6, j7, j8, j9, j10⟩ := I.out
    obtain ⟨k1, k2, k3, k4⟩ := HO7.out
    rw [j9]
    have hoth : Oth g3 w7 (w7.setCell ⟨g3, 6, none⟩ (.slice A7 (pn + 1) c7)) := Oth.set w7 ⟨g3, 6, none⟩ _
    have hbut : But (fun i => i = g3 ∨ some i = (Value.slice Ap pn cp).ownBlock) Wb (w7.setCell ⟨g3, 6, none⟩ (.slice A7 (pn + 1) c7)) := (But.of_grown k3 (fun i hi => .inr hi.symm)).trans (.of_oth hoth (.inl rfl))
    have hown : ∀ i, some i = (Value.slice Ap pn cp).ownBlock → ∃ cells, Wb.heap[i]? = some (.cells cells 32 (0, 0)) ∧ w4.heap.size ≤ i := fun i hi => by
      obtain ⟨_, ho'⟩ := Kd.R_own j3
      obtain ⟨cells, hc⟩ := own_typed ho' i hi.symm
      exact ⟨cells, hc, own_base ho' i hi.symm⟩
    have hPc : ∀ i o, (i = g3 ∨ some i = (Value.slice Ap pn cp).ownBlock) → Wb.heap[i]? = some o → o.isCells = true := by
      rintro i o (rfl | hi) ho
      · rw [j1] at ho; cases ho; rfl
      · obtain ⟨cells, hc, _⟩ := hown i hi
        rw [hc] at ho; cases ho; rfl
    have h4s := hB4.size
    refine ⟨KeepsFrom.of_but hbut hPc, Kp.of_but hbut (fun i hi hk => by
      rintro (rfl | h)
      · exact hk rfl
      · obtain ⟨_, _, h7⟩ := hown i h; omega) (by omega), ⟨A7, c7, ?_, j10, ?_, os ++ [(A3, x.length, c3)], ?_, ?_⟩, hbut.blk j5 (by
      rintro (h | h)
      · omega
      · obtain ⟨_, _, h7⟩ := hown _ h; omega), hbut.below j6 hbs (by
      rintro k (rfl | h)
      · have := H2.out.2.2.size; omega
      · obtain ⟨_, _, h7⟩ := hown k h; omega)⟩
    · have := blk_put k4 6 (.slice A7 (pn + 1) c7) rfl
      simp only [List.length_append, List.length_singleton, j8, H.out.2.2.2.1]
      exact this
    · exact (Rd.below ⟨C_ty j2.2.1 j2.1 (tyGrown3 j3 (by decide) k3), j2.2.1.of_ty (tyGrown3 j3 (by decide) k3), Nat.le_trans j2.2.2.1 k3.size, j2.2.2.2⟩ (Below.refl _ _)).oth k4 (by decide) hoth
    · simp only [List.length_append, List.length_singleton, j8]
      exact R_oth k1 k4 (by decide) hoth
    · have hrd : ∀ A l, Rd Wb A l → Rd (w7.setCell ⟨g3, 6, none⟩ (.slice A7 (pn + 1) c7)) A l := fun A l hr =>
        Rd.oth ⟨C_ty hr.2.1 hr.1 (tyGrown3 j3 (by decide) k3), hr.2.1.of_ty (tyGrown3 j3 (by decide) k3), Nat.le_trans hr.2.2.1 k3.size, hr.2.2.2⟩ k4 (by decide) hoth
      exact (j4.imp hrd).snoc ⟨rfl, hc3, hrd _ _ j7⟩
  case done =>
    rintro D xs W hD hxs hI hK
    rw [hxs] at hI
    clear hxs
    obtain ⟨⟨Ap, cp, i1, i2, i3, os, i4, i5⟩, i6, i7⟩ := hI
    obtain ⟨e0, e1, e2, e3, e4, e5, e6, e7⟩ := xj_cells i1
    rw [H.out.2.2.2.1] at e5
    rw [H.out.2.2.2.2] at e6
    have hgl : w.heap.size < W.heap.size := lt_of_some i6
    have I := Aside0.mk (And.intro i1 (And.intro i2 (And.intro i3 (And.intro i4 (And.intro i5 (And.intro i6 (And.intro i7 hK)))))))
    clear i1 i2 i3 i4 i5 i6 i7 hK
    gi_wp2_with (refine wpListIn_store_agg rfl rfl 38 (.tmp 2) (.tmp 25) rfl w.heap.size 38 _ (xjCells As sn cs Ap rn cp) rfl rfl I.out.2.2.2.2.2.1 info_xj rfl (by intro q hq; simp at hq; rcases hq with rfl | rfl | rfl | rfl | rfl | rfl | rfl | rfl <;> rfl) ?_; intro w8 hr8 hf8 hz8 ho8 ht8 hu8; have S8 := Aside0.mk (And.intro hr8 (And.intro hf8 (oth_of2 hf8 hz8 ho8 ht8 hu8))); clear hr8 hf8 hz8 ho8 ht8 hu8)
    obtain ⟨j1, j2, j3, j4, j5, j6, j7, j8⟩ := I.out
    obtain ⟨k1, k2, k3⟩ := S8.out
    have h4s := hB4.size
    have hD8 : w8.heap[D]? = some (.deferred (some [])) := (k2 D (by omega)).trans j8
    have hlies : Lies w.heap.size w8 (w8.putObj D (.deferred none)) := .put (by omega) hD8 rfl _
    have hs8 : HasOf w8 w4.heap.size As cs Ap cp snap recs := by
      have h9 : KSl.R 32 w8 w4.heap.size (fun _ => True) (.slice Ap recs.length cp) os := R_oth j4 j6 (by decide) k3
      exact ⟨j2, j3.oth j6 (by decide) k3, os, h9, j5.imp (fun A l hr => hr.oth j6 (by decide) k3)⟩
    refine ⟨by simp, .inl ⟨_, _, rfl, run_takeDeferred hD8, ?_⟩⟩
    refine ⟨_, results_single rfl (.cell w.heap.size _ _ _ _ rfl ((World.putObj_heap_other (by omega)).trans k1) Try.underlying38 rfl info_xj .nil), As, cs, Ap, cp, by rw [H.out.2.2.2.1, H.out.2.2.2.2], ?_, hlies.below (k3.below j7 (Nat.le_refl _)) (Nat.le_refl _) (Nat.le_refl _)⟩
    obtain ⟨q1, q2, os', q3, q4⟩ := hs8.lies hlies
    exact ⟨q1, q2, os', Kd.R_lower q3 (by omega), q4⟩
end Go.Proofs.Ytcgefilboefnpaa.H
/- frame.Scan and its func. -/
namespace Go.Proofs.Ytcgefilboefnpaa.H
open Go.RowKit Go.Proofs.YtcgefilboefnpaaW.PrintWords Go.Proofs.YtcgefilboefnpaaW.PrintLast Go.Proofs.YtcgefilboefnpaaW.PrintMore Go.Proofs.Ytcgefilboefnpaa.CrcM
set_option linter.unusedVariables false
set_option linter.unusedSimpArgs false
attribute [local go_sem] Oper.semAt_some wide_fn wide_depth

/-- What the func tells a round. -/
def FrY (b : List Int) (pre : List Fr) (x : Fr) (vs : Array Value) (W : World) : Prop :=
  pre ++ [x] <+: scanF b ∧ ∃ A c, vs = #[.int .i64 x.1, .agg #[.int .i64 x.2.1, .slice A x.2.2.length c]] ∧ x.2.2.length ≤ c ∧ Kd.C (Kd.int .u8) W A x.2.2.length x.2.2

set_option maxHeartbeats 1600000 in
theorem Scan1_seq (n : Nat) (b : List Int) (hB : Bts b) (hl : b.length ≤ 1000000) (A : Option Addr) (c : Nat) (hc : b.length ≤ c) (bb n₀ : Nat) (Kb : Nat → Prop) (w : World)
    (hbox : ∀ W, Kp n₀ Kb w W → W.cell? ⟨bb, 0, none⟩ = some (.slice A b.length c)) (hC : ∀ W, Kp n₀ Kb w W → Kd.C (Kd.int .u8) W A b.length b) (hn : n₀ ≤ w.heap.size) :
    SeqX Fence.wide n Try.prog 66 #[.pointer (some ⟨bb, 0, none⟩)] (FrY b) n₀ Kb (fun xs => xs = scanF b) (fun _ => True) w := by
  intro l J Jx W hK hJ hJx hY h0
  refine callsIn_of_wp Try.func66 rfl trivial ?_ rfl
  simp only [Try.ntmps66, List.size_toArray, List.length_cons, List.length_nil, Nat.reduceAdd, Nat.reduceSub, Array.replicate_succ, Array.replicate_zero, List.push_toArray, List.append_toArray, List.nil_append, List.cons_append]
  gi_wp2
  gi_loopw [3] (fun p wr => ∃ (pre : List Fr) (at_ k : Nat), p = .int .i64 (at_ : Int) ∧ at_ ≤ b.length ∧ b.length + 1 ≤ k + at_ ∧ scanF b = pre ++ scanL b k at_ ∧ J pre wr ∧ Kp n₀ Kb w wr)
    (fun p wr => match p with | .int _ v => b.length + 1 - v.toNat | _ => 0)
  case atStart => exact ⟨[], 0, b.length + 1, rfl, by omega, by omega, rfl, h0, hK⟩
  case round =>
    obtain ⟨pre, at_, k, rfl, h1, h2, h3, h4, h5⟩ := hrel
    have hcell := hbox wr h5
    have hcw := hC wr h5
    have hsz5 := h5.1
    obtain ⟨i0, hi0, _, hsz, _⟩ := info_parts info_u8
    obtain ⟨A2, hcut, hreads, hld⟩ := print_drop_of (P := Try.prog) (Value.int .u8) 0 32 5 .i64 Try.underlying32 hi0 hsz A c b (at_ : Int) (by omega) (by omega) hc
    rw [Int.toNat_natCast] at hcut hreads hld
    have hrd := Kd.C_of_reads (h1 := fun _ => rfl) (hreads _ (Kd.reads_of_C (d := (0 : Int)) hcw))
    have hBd : Bts (b.drop at_) := bts_drop hB _
    have hdl : (b.drop at_).length ≤ 1000000 := by rw [List.length_drop]; omega
    have hok := readF_ok hBd
    have hsc : scanL b k at_ = [] ∨ (∃ k', k = k' + 1) := by cases k with | zero => exact .inl rfl | succ k' => exact .inr ⟨k', rfl⟩
    have hun : ∀ k', k = k' + 1 → scanL b k at_ = if (readF (b.drop at_)).2.2.2 = 0 then ((at_ : Int), (readF (b.drop at_)).1, (readF (b.drop at_)).2.1) :: scanL b k' (at_ + (readF (b.drop at_)).2.2.1.toNat) else [] := by
      intro k' e; subst e; rfl
    have hdle : (b.drop at_).length = b.length - at_ := List.length_drop
    rw [hdle] at hok
    clear hdle hreads hi0 hsz
    generalize b.drop at_ = d at hcut hrd hBd hdl hok hun hld
    have hread := fun (W : World) (h : Kd.C (Kd.int .u8) W A2 d.length d) => Read_calls A2 (c - at_) d W h hld hBd hdl
    unfold ReadPost at hread
    generalize readF d = r at hread hok hun
    obtain ⟨rk, rb, rn, re⟩ := r
    simp only at hread hok hun
    have HR := Aside0.mk hread
    have HRD := Aside0.mk hrd
    have HCW := Aside0.mk hcw
    have HU := Aside0.mk hun
    have H3 := Lib.hid h3
    have hp1 : (at_ : Int) ≤ 1000000 := by omega
    have hp0 : 0 ≤ (at_ : Int) := by omega
    clear hread hrd hcw hun h3
    obtain ⟨k', hk'⟩ : ∃ k', k = k' + 1 := by cases k with | zero => omega | succ k' => exact ⟨k', rfl⟩
    have hU := HU.out k' hk'
    clear hsc HU
    by_cases he : re = 0
    · obtain ⟨q1, q2, q3, q4, q5, q6⟩ := hok he
      rw [if_pos he] at hU
      subst he
      have hr0 : 7 ≤ rn := by omega
      have hr1 : rn ≤ 1000000 := by omega
      have HU := Lib.hid hU
      have HQ1 := Lib.hid q1
      clear q1 hok hU
      gi_wp2_with (gi_at_call 67; refine (callsIn_wide.2 (HR.out _ HRD.out)).mono ?_; rintro e w1 ⟨v1, rfl, ho1, hb1⟩; obtain ⟨A3, c3, e3, hc3, hr3⟩ := R_C ho1; subst e3; have HR3 := Aside0.mk hr3; have HB1 := Aside0.mk hb1; clear ho1 hb1 hr3)
      have hbw := below_alloc HB1.out (.cells #[.int .i64 rk, .slice A3 rb.length c3] 72)
      have hpre : pre ++ [((at_ : Int), rk, rb)] ++ scanL b k' (at_ + rn.toNat) = scanF b := by rw [H3.out, HU.out, List.append_assoc, List.singleton_append]
      obtain ⟨fn, tmps, asg, body, hy, hR⟩ := hY pre (at_, rk, rb) _ _ (hJ _ _ _ h4 hbw) ⟨⟨_, hpre⟩, A3, c3, rfl, hc3, Kd.C_alloc HR3.out _⟩
      have HPRE := Lib.hid hpre.symm
      clear hpre
      gi_wp2
      refine hR.mono ?_
      rintro e W3 (⟨rfl, hJ3, hk3⟩ | ⟨rfl, hJx3⟩)
      · gi_wp2
        go_roundw
        case rel => exact ⟨pre ++ [((at_ : Int), rk, rb)], at_ + rn.toNat, k', by rw [show ((at_ + rn.toNat : Nat) : Int) = at_ + rn by omega], by have := HQ1.out; omega, by have := HQ1.out; omega, HPRE.out, hJ3, (h5.trans (.of_below hbw (by omega))).trans hk3⟩
        case measure => have := HQ1.out; simp; omega
      · gi_wp2
        refine bodyPost_ret (results_none rfl _ _ _) rfl ?_
        exact ⟨⟨_, rfl⟩, .inr ⟨_, trivial, hJx3⟩⟩
    · rw [if_neg he] at hU
      have HU := Lib.hid hU
      have b1 : (re == 0) = false := by rw [beq_eq_false_iff_ne]; exact he
      have b2 : decide (re = 0) = false := decide_eq_false he
      clear hok hU
      gi_wp2_with (gi_at_call 67; refine (callsIn_wide.2 (HR.out _ HRD.out)).mono ?_; rintro e w1 ⟨v1, rfl, ho1, hb1⟩; obtain ⟨A3, c3, e3, hc3, hr3⟩ := R_C ho1; subst e3; have HR3 := Aside0.mk hr3; have HB1 := Aside0.mk hb1; clear ho1 hb1 hr3)
      have hbw := below_alloc HB1.out (.cells #[.int .i64 rk, .slice A3 rb.length c3] 72)
      refine bodyPost_ret (results_none rfl _ _ _) rfl ?_
      exact ⟨⟨_, rfl⟩, .inl ⟨pre, by rw [H3.out, HU.out, List.append_nil], hJ _ _ _ h4 hbw⟩⟩

theorem Scan_calls (A : Option Addr) (n c : Nat) (w : World) : Calls Try.prog 54 #[.slice A n c] w fun e w' =>
    e = .returned (.func (.func 66) #[] #[.pointer (some ⟨w.heap.size, 0, none⟩)]) ∧ w' = w.alloc (.cells #[.slice A n c] 32) := by
  go_enter Try.func54, Try.ntmps54
  go_wp2
  go_ret
  exact ⟨rfl, rfl⟩
end Go.Proofs.Ytcgefilboefnpaa.H
/- The contracts of frames with the answer and the lengths under names; what abides but one box. -/
namespace Go.Proofs.Ytcgefilboefnpaa.H
open Go.RowKit Go.Proofs.YtcgefilboefnpaaW.PrintWords Go.Proofs.YtcgefilboefnpaaW.PrintLast Go.Proofs.YtcgefilboefnpaaW.PrintMore Go.Proofs.Ytcgefilboefnpaa.CrcM
set_option linter.unusedVariables false
set_option linter.unusedSimpArgs false

theorem Copy_eq (A : Option Addr) (c n : Nat) (l : List Int) (w : World) (hn : l.length = n) (hC : Kd.C (Kd.int .u8) w A n l) (hl : n ≤ 1000000) :
    Calls Try.prog 15 #[.slice A n c] w fun e w' => ∃ A1 c1, e = .returned (.slice A1 n c1) ∧ Kd.R (Kd.int .u8) 5 w' w.heap.size (fun _ => True) (.slice A1 n c1) l ∧ Below w.heap.size w w' := by
  subst hn
  refine (Copy_calls A c l w hC hl).mono ?_
  rintro e w' ⟨v, rfl, ho, hb⟩
  obtain ⟨A1, c1, rfl⟩ := Kd.R_slice ho
  exact ⟨A1, c1, rfl, ho, hb⟩
theorem Write_eq (kind : Int) (A : Option Addr) (c n m : Nat) (l r : List Int) (e : Int) (w : World) (hn : l.length = n) (hm : r.length = m) (hw : writeF kind l = (r, e)) (hC : Kd.C (Kd.int .u8) w A n l) (hc : n ≤ c) :
    Calls Try.prog 38 #[.agg #[.int .i64 kind, .slice A n c]] w fun e' w' => ∃ A1 c1, e' = .returned (.tuple #[.slice A1 m c1, .int .i64 e]) ∧ m ≤ c1 ∧ Kd.C (Kd.int .u8) w' A1 m r ∧ Below w.heap.size w w' := by
  subst hn; subst hm
  refine (Write_calls kind A c l w hC hc).mono ?_
  rintro e' w' ⟨v, rfl, ho, hb⟩
  rw [hw] at ho ⊢
  obtain ⟨A1, c1, rfl, hc1, hr1⟩ := R_C ho
  exact ⟨A1, c1, rfl, hc1, hr1, hb⟩
theorem Read_eq (A : Option Addr) (c n m : Nat) (l rb : List Int) (rk rn re : Int) (w : World) (hn : l.length = n) (hm : rb.length = m) (hr : readF l = (rk, rb, rn, re)) (hC : Kd.C (Kd.int .u8) w A n l) (hc : n ≤ c) (hB : Bts l) (hl : n ≤ 1000000) :
    Calls Try.prog 67 #[.slice A n c] w fun e' w' => ∃ A1 c1, e' = .returned (.tuple #[.agg #[.int .i64 rk, .slice A1 m c1], .int .i64 rn, .int .i64 re]) ∧ m ≤ c1 ∧ Kd.C (Kd.int .u8) w' A1 m rb ∧ Below w.heap.size w w' := by
  subst hn; subst hm
  refine (Read_calls A c l w hC hc hB hl).mono ?_
  rintro e' w' ⟨v, rfl, ho, hb⟩
  rw [hr] at ho ⊢
  obtain ⟨A1, c1, rfl, hc1, hr1⟩ := R_C ho
  exact ⟨A1, c1, rfl, hc1, hr1, hb⟩
theorem Weight_eq (n r : Int) (w : World) (h : n ≤ 4611686018427387904) (hr : weightF n = r) : Calls Try.prog 41 #[.int .i64 n] w fun e w' => e = .returned (.int .i64 r) ∧ w = w' := by
  subst hr; exact Weight_calls n w h

theorem Oth.lies {B g : Nat} {w W W' : World} (h : Oth g w W) (hl : Lies B W W') (hB : w.heap.size ≤ B) : Oth g w W' :=
  ⟨hl.os.trans h.os, hl.tape.trans h.tape, hl.output.trans h.output, Nat.le_trans h.size hl.size, fun k hk hg => by
    have h1 := h.block k hk hg
    obtain ⟨o, ho⟩ : ∃ o, w.heap[k]? = some o := ⟨_, Array.getElem?_eq_getElem hk⟩
    rw [ho] at h1 ⊢
    exact hl.same _ _ h1 (.inl (by omega))⟩
end Go.Proofs.Ytcgefilboefnpaa.H
/- Package journal: contracts of count, head, Heavy, Weight, pieces and slices.Chunk. -/
namespace Go.Proofs.Ytcgefilboefnpaa.H
open Go.RowKit Go.Proofs.YtcgefilboefnpaaW.PrintWords Go.Proofs.YtcgefilboefnpaaW.PrintLast Go.Proofs.YtcgefilboefnpaaW.PrintMore Go.Proofs.Ytcgefilboefnpaa.CrcM
set_option linter.unusedVariables false
set_option linter.unusedSimpArgs false
attribute [local go_sem] max2_int min2_int

theorem count_calls (n r : Int) (w : World) (h0 : 0 ≤ n) (h1 : n ≤ 1000000000) (hr : cntJ n = r) : Calls Try.prog 52 #[.int .i64 n] w fun e w' => e = .returned (.int .i64 r) ∧ w = w' := by
  have HR := Lib.hid hr
  clear hr
  go_enter Try.func52, Try.ntmps52
  go_wp2
  go_ret
  exact ⟨by rw [← HR.out]; unfold cntJ; congr 2; simp <;> omega, rfl⟩
theorem JWeight_eq (n r : Int) (w : World) (h : n ≤ 4611686018427387904) (hr : weightF n = r) : Calls Try.prog 17 #[.int .i64 n] w fun e w' => e = .returned (.int .i64 r) ∧ w = w' := by
  have HR := Lib.hid hr
  clear hr
  go_enter Try.func17, Try.ntmps17
  go_wp2_with (go_at_call 41; refine (Weight_eq n r _ h HR.out).mono ?_; rintro e w' ⟨rfl, rfl⟩)
  go_ret
  exact ⟨rfl, rfl⟩
set_option maxHeartbeats 800000 in
theorem head_calls (age n : Nat) (m : Nat) (l : List Int) (w : World) (ha : age < 2 ^ 64) (hn : (n : Int) ≤ 1000000000) (hl : headB age n = l) (hm : l.length = m) :
    Calls Try.prog 53 #[.int .u64 age, .int .i64 n] w fun e w' => ∃ A c, e = .returned (.slice A m c) ∧ m ≤ c ∧ Kd.R (Kd.int .u8) 5 w' w.heap.size (fun _ => True) (.slice A m c) l ∧ Below w.heap.size w w' := by
  have HL := Aside0.mk (And.intro hl (And.intro hm ha))
  clear hl hm ha
  go_enter Try.func53, Try.ntmps53
  go_wp2_with (fail)
  have h0 : OutAt (w.alloc (.cells #[.slice none 0 0] 107)) w.heap.size w.heap.size [] := ⟨Nat.le_refl _, _, blk_new w _, Kd.R_nil _ _ _ _ _⟩
  refine (OUint_calls w.heap.size w.heap.size age [] _ h0 HL.out.2.2 (by simp) (by simp)).mono ?_
  rintro e w1 ⟨rfl, ho1, hb1⟩
  have hlen := (uintB_len age).2
  have H1 := Aside0.mk (And.intro ho1 ((below_alloc (Below.refl _ _) (.cells #[.slice none 0 0] 107)).trans hb1))
  clear ho1 hb1 h0
  go_wp2_with (fail)
  refine (OUint_calls w.heap.size w.heap.size n _ _ H1.out.1 (by simp; omega) H1.out.2.size (by simp; omega)).mono ?_
  rintro e w2 ⟨rfl, ho2, hb2⟩
  have hlen2 := (uintB_len n).2
  have he : [] ++ uintB age ++ uintB n = l := HL.out.1
  rw [he] at ho2
  have hll : l.length ≤ 20 := by rw [← he]; simp; omega
  have H2 := Aside0.mk (And.intro ho2 (H1.out.2.trans hb2))
  clear ho2 hb2 H1 he hlen hlen2
  go_wp2_with (fail)
  refine (ODone_calls w.heap.size w.heap.size l _ H2.out.1 (by omega)).mono ?_
  rintro e w3 ⟨v3, rfl, ho3, hb3⟩
  obtain ⟨A3, c3, rfl, hc3, hC3⟩ := R_C ho3
  rw [HL.out.2.1] at ho3 hc3 ⊢
  have H3 := Aside0.mk (And.intro (Kd.R_lower ho3 H2.out.2.size) (below_step H2.out.2 hb3))
  clear ho3 hb3 hC3
  go_wp2_with (fail)
  go_ret
  exact ⟨_, _, rfl, hc3, H3.out⟩
set_option maxHeartbeats 800000 in
theorem Heavy_calls (age n : Nat) (r : Int) (w : World) (ha : age < 2 ^ 64) (hn : (n : Int) ≤ 1000000000) (hr : heavyJ age n = r) :
    Calls Try.prog 33 #[.int .u64 age, .int .i64 n] w fun e w' => e = .returned (.int .i64 r) ∧ Below w.heap.size w w' := by
  have hc : 0 ≤ cntJ n ∧ cntJ n ≤ 1000000000 := by unfold cntJ; omega
  obtain ⟨k, hk⟩ : ∃ k : Nat, cntJ n = k := ⟨(cntJ n).toNat, by omega⟩
  obtain ⟨l, hl⟩ : ∃ l, headB age k = l := ⟨_, rfl⟩
  obtain ⟨m, hm⟩ : ∃ m, l.length = m := ⟨_, rfl⟩
  have hm20 : m ≤ 20 := by rw [← hm, ← hl]; unfold headB; have := uintB_len age; have := uintB_len k; simp; omega
  have hw1 : weightF (m : Int) = (m : Int) + 7 := by unfold weightF; rw [if_neg (by omega)]
  have hw0 : weightF 0 = 7 := rfl
  have hrr : r = (m : Int) + 7 + k * 7 + n + 7 := by rw [← hr]; unfold heavyJ; rw [hk, Int.toNat_natCast, hl, hm]
  have hkk : (k : Int) ≤ 1000000000 := by omega
  have H := Aside0.mk (And.intro ha (And.intro hk (And.intro hl (And.intro hm (And.intro hw1 (And.intro hw0 hrr))))))
  clear ha hr hc hk hl hm hw1 hw0 hrr
  go_enter Try.func33, Try.ntmps33
  go_wp2_with (fail)
  refine (count_calls n k _ (by omega) hn H.out.2.1).mono ?_
  rintro e w1 ⟨rfl, rfl⟩
  go_wp2_with (fail)
  refine (head_calls age k m l _ H.out.1 hkk H.out.2.2.1 H.out.2.2.2.1).mono ?_
  rintro e w1 ⟨A1, c1, rfl, hc1, ho1, hb1⟩
  have H1 := Aside0.mk hb1
  clear ho1 hb1
  go_wp2_with (first
    | (go_at_call 41; (with_reducible refine (Weight_eq (m : Int) ((m : Int) + 7) _ (by omega) H.out.2.2.2.2.1).mono ?_); rintro e w' ⟨rfl, rfl⟩)
    | (go_at_call 41; (with_reducible refine (Weight_eq 0 7 _ (by omega) H.out.2.2.2.2.2.1).mono ?_); rintro e w' ⟨rfl, rfl⟩))
  go_ret
  exact ⟨by rw [H.out.2.2.2.2.2.2]; rfl, H1.out⟩
end Go.Proofs.Ytcgefilboefnpaa.H
