/- Some texts of one seat in one file, in build order. -/
import Derived.Test.YtcgefilboefnpaaG13
import Derived.Test.YtcgefilboefnpaaG7
import Derived.Test.YtcgefilboefnpaaG4
/- journal.begins: the frames that a region begins with. -/
namespace Go.Proofs.Ytcgefilboefnpaa.H
open Go.RowKit Go.Proofs.YtcgefilboefnpaaW.PrintWords Go.Proofs.YtcgefilboefnpaaW.PrintLast Go.Proofs.YtcgefilboefnpaaW.PrintMore Go.Proofs.Ytcgefilboefnpaa.CrcM
set_option linter.unusedVariables false
set_option linter.unusedSimpArgs false
attribute [local go_sem] Oper.semAt_some wide_fn wide_depth

/-- The frame that cells tell: its body a row of its own, or a part of another one. -/
def RbD (A0 : Option Addr) (l : List Int) (W : World) (o : Rb) (x : Fb) : Prop :=
  o.1 = x.1 ∧ o.2.2.1 = x.2.length ∧ x.2.length ≤ o.2.2.2 ∧ ((Kd.C (Kd.int .u8) W o.2.1 x.2.length x.2 ∧ Ty 5 W o.2.1) ∨ ∀ w, Kd.C (Kd.int .u8) w A0 l.length l → Kd.C (Kd.int .u8) w o.2.1 x.2.length x.2)
theorem RbD.of_ty {A0 : Option Addr} {l : List Int} {W W' : World} {o : Rb} {x : Fb} (h : RbD A0 l W o x) (ht : ∀ (i : Nat) (cs : Array Value) (z : Nat × Nat), W.heap[i]? = some (Obj.cells cs 5 z) → W'.heap[i]? = W.heap[i]?) : RbD A0 l W' o x := by
  obtain ⟨h1, h2, h3, h4⟩ := h
  refine ⟨h1, h2, h3, ?_⟩
  rcases h4 with ⟨h5, h6⟩ | h5
  · exact .inl ⟨C_ty h6 h5 ht, h6.of_ty ht⟩
  · exact .inr h5
theorem RbD.of {A0 : Option Addr} {l : List Int} {W : World} {o : Rb} {x : Fb} (h : RbD A0 l W o x) (hC : Kd.C (Kd.int .u8) W A0 l.length l) : RbOf W o x :=
  ⟨h.1, h.2.1, h.2.2.1, by rcases h.2.2.2 with ⟨h5, h6⟩ | h5; exact h5; exact h5 _ hC⟩
def RbsD (A0 : Option Addr) (l : List Int) (W : World) (os : List Rb) (xs : List Fb) : Prop := os.length = xs.length ∧ ∀ (i : Nat) (o : Rb) (x : Fb), os[i]? = some o → xs[i]? = some x → RbD A0 l W o x
theorem RbsD.of_ty {A0 : Option Addr} {l : List Int} {W W' : World} {os : List Rb} {xs : List Fb} (h : RbsD A0 l W os xs) (ht : ∀ (i : Nat) (cs : Array Value) (z : Nat × Nat), W.heap[i]? = some (Obj.cells cs 5 z) → W'.heap[i]? = W.heap[i]?) : RbsD A0 l W' os xs := ⟨h.1, fun i o x ho hx => (h.2 i o x ho hx).of_ty ht⟩
theorem RbsD.below {A0 : Option Addr} {l : List Int} {W W' : World} {os : List Rb} {xs : List Fb} (h : RbsD A0 l W os xs) (hb : Below W.heap.size W W') : RbsD A0 l W' os xs := h.of_ty (fun i cs z hi => hb.block i (lt_of_some hi))
theorem RbsD.snoc {A0 : Option Addr} {l : List Int} {W : World} {os : List Rb} {xs : List Fb} {o : Rb} {x : Fb} (h : RbsD A0 l W os xs) (h1 : RbD A0 l W o x) : RbsD A0 l W (os ++ [o]) (xs ++ [x]) := by
  refine ⟨by simp [h.1], fun i o' x' ho hx => ?_⟩
  by_cases hi : i < os.length
  · rw [List.getElem?_append_left hi] at ho
    rw [List.getElem?_append_left (by rw [← h.1]; exact hi)] at hx
    exact h.2 i o' x' ho hx
  · rw [List.getElem?_append_right (by omega)] at ho
    rw [List.getElem?_append_right (by rw [← h.1]; omega)] at hx
    rw [h.1] at ho
    have : i - xs.length = 0 := by
      cases hq : i - xs.length with
      | zero => rfl
      | succ q => rw [hq] at ho; simp at ho
    rw [this] at ho hx
    simp at ho hx
    subst ho; subst hx
    exact h1
/-- What is collected abides where new blocks are made, and where no cells turn. -/
theorem RbsD.lies {A0 : Option Addr} {l : List Int} {B : Nat} {W W' : World} {os : List Rb} {xs : List Fb} (h : RbsD A0 l W os xs) (hb : Lies B W W') : RbsD A0 l W' os xs := h.of_ty (fun i cs z hi => (hb.blk hi).trans hi.symm)
theorem chunksL_len : ∀ (k : Nat) (l : List Int), (chunksL k l).length ≤ k
  | 0, _ => Nat.le_refl _
  | k + 1, l => by
    unfold chunksL
    split
    · simp
    · have := chunksL_len k (l.drop 4096)
      simp; omega
/-- The box of what is collected. -/
def BegI (A0 : Option Addr) (l : List Int) (w0 : World) (gb : Nat) (fs : List Fb) (W : World) : Prop :=
  w0.heap.size ≤ gb ∧ Below w0.heap.size w0 W ∧ ∃ v os, W.heap[gb]? = some (.cells #[v] 94 (0, 0)) ∧ Kd.R KRb 72 W w0.heap.size (fun _ => True) v os ∧ RbsD A0 l W os fs
theorem BegI.below {A0 : Option Addr} {l : List Int} {w0 : World} {gb : Nat} {fs : List Fb} {W W' : World} (h : BegI A0 l w0 gb fs W) (hb : Below W.heap.size W W') : BegI A0 l w0 gb fs W' := by
  obtain ⟨h1, h2, v, os, h3, h4, h5⟩ := h
  exact ⟨h1, below_step h2 hb, v, os, blk_belowX h3 hb, Kd.R_below h4 hb, h5.below hb⟩
theorem BegI.lies {A0 : Option Addr} {l : List Int} {w0 : World} {gb B : Nat} {fs : List Fb} {W W' : World} (h : BegI A0 l w0 gb fs W) (hb : Lies B W W') (hB : w0.heap.size ≤ B) : BegI A0 l w0 gb fs W' := by
  obtain ⟨h1, h2, v, os, h3, h4, h5⟩ := h
  exact ⟨h1, hb.below h2 hB (Nat.le_refl _), v, os, hb.blk h3, hb.R h4, h5.lies hb⟩
theorem info_fr : (Try.prog.info? 72).map (fun i => (i.zero, i.size, i.bytes)) = some (some (.agg #[.int .i64 0, .slice none 0 0]), 2, 32) := by kernel_rfl
theorem tyGrown2 {e : Nat} {W W' : World} {base : Nat} {ok : Nat → Prop} {v : Value} {os : List Rb} (h : Kd.R KRb e W base ok v os) (he : 5 ≠ e) (hg : W.grownBy W' v.ownBlock) :
    ∀ (i : Nat) (cs : Array Value) (z : Nat × Nat), W.heap[i]? = some (Obj.cells cs 5 z) → W'.heap[i]? = W.heap[i]? := fun i cs z hi =>
  hg.block i (lt_of_some hi) (fun e2 => by
    obtain ⟨_, ho⟩ := Kd.R_own h
    obtain ⟨cells, hc⟩ := own_typed ho i e2.symm
    rw [hc] at hi; injection hi with hi; injection hi with _ hi _; exact he hi.symm)
set_option maxHeartbeats 3200000 in
theorem begins_calls (age : Nat) (A : Option Addr) (c : Nat) (snap : List Int) (w : World) (ha : age < 2 ^ 64) (hC : Kd.C (Kd.int .u8) w A snap.length snap) (hc : snap.length ≤ c) (hl : snap.length ≤ 1000000) :
    Calls Try.prog 58 #[.int .u64 age, .slice A snap.length c] w fun e w' => ∃ v os, e = .returned v ∧ Kd.R KRb 72 w' w.heap.size (fun _ => True) v os ∧ RbsD A snap w' os (begF age snap) ∧ Below w.heap.size w w' := by
  refine (callsIn_wide (n := 5)).1 ?_
  refine callsIn_of_wp_marks Try.func58 rfl trivial ?_ rfl
  simp only [Try.ntmps58, List.size_toArray, List.length_cons, List.length_nil, Nat.reduceAdd, Nat.reduceSub, Array.replicate_succ, Array.replicate_zero, List.push_toArray, List.append_toArray, List.nil_append, List.cons_append]
  have hcj : 0 ≤ cntJ snap.length ∧ cntJ snap.length ≤ 1000000000 := by unfold cntJ; omega
  obtain ⟨k, hk⟩ : ∃ k : Nat, cntJ snap.length = k := ⟨(cntJ snap.length).toNat, by omega⟩
  obtain ⟨hd, hhd⟩ : ∃ l, headB age k = l := ⟨_, rfl⟩
  obtain ⟨m, hm⟩ : ∃ m, hd.length = m := ⟨_, rfl⟩
  have hkk : (k : Int) ≤ 1000000000 := by omega
  have hbeg : begF age snap = (1, hd) :: (chunksF snap).map (fun p => (2, p)) ++ [(3, [])] := by unfold begF; rw [hk, Int.toNat_natCast, hhd]
  have H := Aside0.mk (And.intro ha (And.intro hC (And.intro hk (And.intro hhd (And.intro hm hbeg)))))
  clear ha hC hcj hk hhd hm hbeg
  gi_wp2_with (first
    | (gi_at_call 52; refine (callsIn_wide.2 (count_calls snap.length k _ (by omega) (by omega) H.out.2.2.1)).mono ?_; rintro e w1 ⟨rfl, rfl⟩)
    | (gi_at_call 53; refine (callsIn_wide.2 (head_calls age k m hd _ H.out.1 hkk H.out.2.2.2.1 H.out.2.2.2.2.1)).mono ?_; rintro e w1 ⟨A1, c1, rfl, hc1, ho1, hb1⟩; have H1 := Aside0.mk (And.intro ho1 (And.intro hb1 hc1)); clear ho1 hb1 hc1))
  have hF1 : ((w1.alloc (.cells #[.int .i64 1, .slice A1 m c1] 72)).alloc (.cells #[.slice (some ⟨w1.heap.size, 0, none⟩) 1 1] 94)).heap[w1.heap.size + 1]? = some (.cells #[.slice (some ⟨w1.heap.size, 0, none⟩) 1 1] 94 (0, 0)) := by
    have := blk_new (w1.alloc (.cells #[.int .i64 1, .slice A1 m c1] 72)) (.cells #[.slice (some ⟨w1.heap.size, 0, none⟩) 1 1] 94)
    rwa [World.size_alloc] at this
  have hF2 : ((w1.alloc (.cells #[.int .i64 1, .slice A1 m c1] 72)).alloc (.cells #[.slice (some ⟨w1.heap.size, 0, none⟩) 1 1] 94)).heap[w1.heap.size]? = some (.cells #[.int .i64 1, .slice A1 m c1] 72 (0, 0)) := blk_alloc (blk_new w1 _) _
  have hF3 : Below w1.heap.size w1 ((w1.alloc (.cells #[.int .i64 1, .slice A1 m c1] 72)).alloc (.cells #[.slice (some ⟨w1.heap.size, 0, none⟩) 1 1] 94)) := below_alloc (below_alloc (Below.refl _ _) _) _
  have hF4 : w1.heap.size + 1 < ((w1.alloc (.cells #[.int .i64 1, .slice A1 m c1] 72)).alloc (.cells #[.slice (some ⟨w1.heap.size, 0, none⟩) 1 1] 94)).heap.size := lt_of_some hF1
  generalize ((w1.alloc (.cells #[.int .i64 1, .slice A1 m c1] 72)).alloc (.cells #[.slice (some ⟨w1.heap.size, 0, none⟩) 1 1] 94)) = w3 at *
  have hz1 : w.heap.size ≤ w1.heap.size := H1.out.2.1.size
  have hB3 : BegI A snap w (w1.heap.size + 1) [(1, hd)] w3 := by
    refine ⟨by omega, below_step H1.out.2.1 hF3, _, [((1 : Int), A1, m, c1)], hF1, R_one hF2 hz1 (fun ok => rfl), rfl, fun i o x ho hx => ?_⟩
    cases i with
    | succ i => simp at ho
    | zero =>
      simp at ho hx
      subst ho; subst hx
      have hr := Kd.R_below H1.out.1 hF3
      exact ⟨rfl, H.out.2.2.2.2.1.symm, by rw [H.out.2.2.2.2.1]; exact H1.out.2.2, .inl ⟨(Kd.R_reads' hr).2.2, Ty.of_R hr⟩⟩
  have HB := Aside0.mk hB3
  clear hF1 hF2 hF3 hB3
  refine (callsIn_wide.2 (pieces_calls A snap.length c _)).mono ?_
  rintro e w4 ⟨rfl, rfl⟩
  have hG1 : ((w3.alloc (.cells #[.slice A snap.length c] 32)).alloc (.cells #[.int .i64 4096] 3)).heap[w3.heap.size]? = some (.cells #[.slice A snap.length c] 32 (0, 0)) := blk_alloc (blk_new w3 _) _
  have hG2 : ((w3.alloc (.cells #[.slice A snap.length c] 32)).alloc (.cells #[.int .i64 4096] 3)).heap[w3.heap.size + 1]? = some (.cells #[.int .i64 4096] 3 (0, 0)) := by
    have := blk_new (w3.alloc (.cells #[.slice A snap.length c] 32)) (.cells #[.int .i64 4096] 3)
    rwa [World.size_alloc] at this
  have hG3 : Below w3.heap.size w3 ((w3.alloc (.cells #[.slice A snap.length c] 32)).alloc (.cells #[.int .i64 4096] 3)) := below_alloc (below_alloc (Below.refl _ _) _) _
  have hG4 : ((w3.alloc (.cells #[.slice A snap.length c] 32)).alloc (.cells #[.int .i64 4096] 3)).heap.size = w3.heap.size + 2 := by simp
  have hB5 := HB.out.below hG3
  generalize ((w3.alloc (.cells #[.slice A snap.length c] 32)).alloc (.cells #[.int .i64 4096] 3)) = w5 at hG1 hG2 hG3 hG4 hB5
  obtain ⟨gb, hgb⟩ : ∃ gb, w1.heap.size + 1 = gb := ⟨_, rfl⟩
  obtain ⟨b1, hb1⟩ : ∃ b, w3.heap.size = b := ⟨_, rfl⟩
  rw [hgb] at hB5 hF4
  rw [hb1] at hG1 hG2 hG4 hF4
  rw [hgb, hb1]
  have hzB : w.heap.size ≤ w5.heap.size := by omega
  clear HB hG3
  gi_wp2
  refine rangeX rfl (by omega) (gf := 88) (lb := #[.pointer (some ⟨b1, 0, none⟩), .pointer (some ⟨b1 + 1, 0, none⟩)]) rfl trivial (enters_of Try.func88 (by kernel_rfl) rfl)
    (Y := ChY A snap) (n₀ := w5.heap.size) (Kb := fun k => k = b1 ∨ k = b1 + 1) (S := fun xs => xs = chunksF snap) (Sp := fun _ => True)
    (Chunk1_seq 4 snap hl A c hc b1 (b1 + 1) w5.heap.size (fun k => k = b1 ∨ k = b1 + 1) w5
      (fun W hk => by rw [blk_cell ((hk.2 b1 (by omega) (.inl rfl)).trans hG1) 0]; rfl)
      (fun W hk => by rw [blk_cell ((hk.2 (b1 + 1) (by omega) (.inr rfl)).trans hG2) 0]; rfl) (Nat.le_refl _)) (Nat.le_refl _)
    (fun _ _ _ _ hy => by obtain ⟨_, A3, c3, rfl, _⟩ := hy; rfl)
    (fun pre W => BegI A snap w gb ((1, hd) :: pre.map (fun p => (2, p))) W ∧ W.heap[b1]? = some (.cells #[.slice A snap.length c] 32 (0, 0)) ∧ W.heap[b1 + 1]? = some (.cells #[.int .i64 4096] 3 (0, 0))) (fun _ _ _ => False)
    (fun s P Q h hlie => ⟨h.1.lies hlie hzB, hlie.blk h.2.1, hlie.blk h.2.2⟩) (fun _ _ _ _ h _ => h) ⟨hB5, hG1, hG2⟩ ?round ?done (fun _ _ _ _ _ _ h _ => h.elim)
  case round =>
    rintro l pre x vs W hl2 hI0 ⟨hpre, A3, c3, rfl, hc3, hder⟩ hWs
    gi_wp2
    refine ⟨KeepsFrom.of_below (Below.refl _ _), Kp.refl _ _ _, ?_⟩
    intro Wb hlie
    have hIb := hI0.1.lies hlie hzB
    have hx1 := hlie.blk hI0.2.1
    have hx2 := hlie.blk hI0.2.2
    obtain ⟨i1, i2, v, os, i3, i4, i5⟩ := hIb
    obtain ⟨Av, cv, rfl⟩ := Kd.R_slice i4
    obtain ⟨on, hon⟩ : ∃ on, os.length = on := ⟨_, rfl⟩
    have honl : on ≤ 1000002 := by
      have e1 := i5.1
      have e2 := hpre.length_le
      have e3 := chunksL_len (snap.length + 1) snap
      simp only [List.length_append, List.length_cons, List.length_map, List.length_nil] at e1 e2
      unfold chunksF at e2
      omega
    rw [hon] at i3 i4
    have d0 : Wb.cell? ⟨gb, 0, none⟩ = some (.slice Av on cv) := (blk_cell i3 0).trans rfl
    have hgl : gb < Wb.heap.size := lt_of_some i3
    have hbs : w.heap.size ≤ Wb.heap.size := i2.size
    have hws5 := hlie.size
    have I := Aside0.mk (And.intro i2 (And.intro i3 (And.intro i4 (And.intro i5 (And.intro hx1 (And.intro hx2 hon))))))
    clear i2 i3 i4 i5 hx1 hx2 hon hI0 hlie hpre
    gi_wp2_with (gi_at_builtin; refine RIn_append KRb (w0 := w) w.heap.size rfl (.tmp 17) (.tmp 20) 94 72 (.agg #[.int .i64 0, .slice none 0 0]) 32 rfl Try.underlying94 info_fr rfl (by decide) (by omega) _ os ((2 : Int), A3, x.length, c3) [.int .i64 2, .slice A3 x.length c3] (fun _ => True) (fun _ => False) rfl rfl rfl (fun _ hk => hk.elim) (fun _ _ => trivial) I.out.2.2.1 I.out.1 hbs (by rw [I.out.2.2.2.2.2.2]; omega) ?_; intro v7 w7 ho7 hb7 hg7 hat7; obtain ⟨A7, c7, e7⟩ := Kd.R_slice ho7; subst e7; rw [List.length_append, List.length_singleton, I.out.2.2.2.2.2.2] at ho7; have hx7 := blk_grown I.out.2.2.1 I.out.2.1 (by decide) hg7; have d7 : w7.cell? ⟨gb, 0, none⟩ = some (.slice Av on cv) := (blk_cell hx7 0).trans rfl; have f7 := blk_frozen hx7 0; have s7 := blk_lt hx7; have HO7 := Aside0.mk (And.intro ho7 (And.intro hb7 (And.intro hg7 hx7))); clear ho7 hb7 hg7 hat7 hx7)
    rw [I.out.2.2.2.2.2.2]
    obtain ⟨j1, j2, j3, j4, j5, j6, j7⟩ := I.out
    obtain ⟨k1, k2, k3, k4⟩ := HO7.out
    have hoth : Oth gb w7 (w7.setCell ⟨gb, 0, none⟩ (.slice A7 (on + 1) c7)) := Oth.set w7 ⟨gb, 0, none⟩ _
    have hbut : But (fun i => i = gb ∨ some i = (Value.slice Av on cv).ownBlock) Wb (w7.setCell ⟨gb, 0, none⟩ (.slice A7 (on + 1) c7)) := (But.of_grown k3 (fun i hi => .inr hi.symm)).trans (.of_oth hoth (.inl rfl))
    have hPc : ∀ i o, (i = gb ∨ some i = (Value.slice Av on cv).ownBlock) → Wb.heap[i]? = some o → o.isCells = true := by
      rintro i o (rfl | hi) ho
      · rw [j2] at ho; cases ho; rfl
      · obtain ⟨_, ho'⟩ := Kd.R_own j3
        obtain ⟨cells, hc⟩ := own_typed ho' i hi.symm
        rw [hc] at ho; cases ho; rfl
    have hne : ∀ i cs t, Wb.heap[i]? = some (.cells cs t (0, 0)) → t ≠ 72 → i ≠ gb → ¬ (i = gb ∨ some i = (Value.slice Av on cv).ownBlock) := by
      rintro i cs t hi ht hg (h | h)
      · exact hg h
      · obtain ⟨_, ho'⟩ := Kd.R_own j3
        obtain ⟨cells, hc⟩ := own_typed ho' i h.symm
        exact ne_block' hi hc ht rfl
    have n1 := hne b1 _ _ j5 (by decide) (by omega)
    have n2 := hne (b1 + 1) _ _ j6 (by decide) (by omega)
    refine ⟨KeepsFrom.of_but hbut hPc, Kp.of_but hbut (fun i hi hk => by rcases hk with rfl | rfl; exact n1; exact n2) (by omega), ⟨i1, k2.setCell i1 _, _, _, blk_put k4 0 _ rfl, R_oth k1 k4 (by decide) hoth, ?_⟩, hbut.blk j5 n1, hbut.blk j6 n2⟩
    have hs := ((j4.of_ty (tyGrown2 j3 (by decide) k3)).of_ty (hoth.tys k4 (by decide))).snoc (o := ((2 : Int), A3, x.length, c3)) (x := ((2 : Int), x)) ⟨rfl, rfl, hc3, .inr hder⟩
    simpa using hs
  case done =>
    rintro D xs W hD rfl hI hK
    obtain ⟨⟨i1, i2, v, os, i3, i4, i5⟩, _, _⟩ := hI
    obtain ⟨Av, cv, rfl⟩ := Kd.R_slice i4
    obtain ⟨on, hon⟩ : ∃ on, os.length = on := ⟨_, rfl⟩
    have honl : on ≤ 1000003 := by
      have e1 := i5.1
      have e3 := chunksL_len (snap.length + 1) snap
      simp only [List.length_cons, List.length_map] at e1
      unfold chunksF at e1
      omega
    rw [hon] at i3 i4
    have d0 : W.cell? ⟨gb, 0, none⟩ = some (.slice Av on cv) := (blk_cell i3 0).trans rfl
    have hbs : w.heap.size ≤ W.heap.size := i2.size
    have I := Aside0.mk (And.intro i2 (And.intro i3 (And.intro i4 (And.intro i5 (And.intro hK hon)))))
    clear i2 i3 i4 i5 hK hon
    gi_wp2_with (gi_at_builtin; refine RIn_append KRb (w0 := w) w.heap.size rfl (.tmp 22) (.tmp 24) 94 72 (.agg #[.int .i64 0, .slice none 0 0]) 32 rfl Try.underlying94 info_fr rfl (by decide) (by omega) _ os ((3 : Int), none, 0, 0) [.int .i64 3, .slice none 0 0] (fun _ => True) (fun _ => False) rfl rfl rfl (fun _ hk => hk.elim) (fun _ _ => trivial) I.out.2.2.1 I.out.1 hbs (by rw [I.out.2.2.2.2.2]; omega) ?_; intro v7 w7 ho7 hb7 hg7 hat7; obtain ⟨A7, c7, e7⟩ := Kd.R_slice ho7; subst e7; have HO7 := Aside0.mk (And.intro ho7 (And.intro hb7 hg7)); clear ho7 hb7 hg7 hat7)
    obtain ⟨j1, j2, j3, j4, j5, j6⟩ := I.out
    obtain ⟨k1, k2, k3⟩ := HO7.out
    have hD7 : w7.heap[D]? = some (.deferred (some [])) := (k3.block D (lt_of_some j5) (fun e => by
      obtain ⟨_, ho'⟩ := Kd.R_own j3
      obtain ⟨cells, hc⟩ := own_typed ho' D e.symm
      rw [hc] at j5; cases j5)).trans j5
    have hlies : Lies w.heap.size w7 (w7.putObj D (.deferred none)) := .put (by omega) hD7 rfl _
    refine ⟨by simp, .inl ⟨_, _, rfl, run_takeDeferred hD7, ?_⟩⟩
    have hs := ((j4.of_ty (tyGrown2 j3 (by decide) k3)).snoc (o := ((3 : Int), none, 0, 0)) (x := ((3 : Int), [])) ⟨rfl, rfl, Nat.le_refl _, .inl ⟨C_nil _ _, Ty.nil _ _⟩⟩).lies hlies
    exact ⟨_, results_tmp rfl _ _ _, _, _, rfl, by have := hlies.R k1; rwa [List.length_append, List.length_singleton] at this, by rw [H.out.2.2.2.2.2]; exact hs, hlies.below k2 (Nat.le_refl _) (Nat.le_refl _)⟩
end Go.Proofs.Ytcgefilboefnpaa.H
/- Bounds of a device behind what turns it. No program. -/
namespace Go.Proofs.Ytcgefilboefnpaa.H
open Go.RowKit Go.Proofs.YtcgefilboefnpaaW.PrintWords Go.Proofs.YtcgefilboefnpaaW.PrintLast Go.Proofs.YtcgefilboefnpaaW.PrintMore
set_option linter.unusedVariables false
set_option linter.unusedSimpArgs false

theorem Dv.fit.wide {d : Dv} {m t m' t' : Int} (h : d.fit m t) (hm : m ≤ m') (ht : t ≤ t') : d.fit m' t' := ⟨Int.le_trans h.a hm, Int.le_trans h.b hm, h.c0, h.c1, h.l0, h.l1, h.t0, Int.le_trans h.t1 ht⟩
theorem turnN_le (d : Dv) (n : Nat) : turnN d n ≤ n := by
  unfold turnN; split <;> omega
theorem fit_turn {d : Dv} {m t : Int} (h : d.fit m t) (n : Nat) : (turnD d n).fit m (t + n) := by
  obtain ⟨a, b, cap, left, dn, tu⟩ := d
  obtain ⟨h1, h2, h3, h4, h5, h6, h7, h8⟩ := h
  have hn := turnN_le ⟨a, b, cap, left, dn, tu⟩ n
  have hq : 0 ≤ left → (turnN ⟨a, b, cap, left, dn, tu⟩ n : Int) ≤ left := fun h0 => by
    unfold turnN; simp only
    by_cases hc : 0 ≤ left ∧ left < n
    · rw [if_pos hc]; omega
    · rw [if_neg hc]; omega
  simp only at h1 h2 h3 h4 h5 h6 h7 h8
  unfold turnD
  generalize turnN ⟨a, b, cap, left, dn, tu⟩ n = z at hn hq ⊢
  refine ⟨h1, h2, h3, h4, ?_, ?_, by simp only; omega, by simp only; omega⟩ <;>
  · simp only
    by_cases h0 : 0 ≤ left
    · have := hq h0; rw [if_pos h0]; omega
    · rw [if_neg h0]; omega
theorem fit_set {d : Dv} {m m' t : Int} (h : d.fit m t) (r : Int) {l : List Int} (hl : (l.length : Int) ≤ m') (hm : m ≤ m') : (d.set r l).fit m' t := by
  have h' := h.wide hm (Int.le_refl t)
  unfold Dv.set
  split
  · exact ⟨hl, h'.b, h'.c0, h'.c1, h'.l0, h'.l1, h'.t0, h'.t1⟩
  · split
    · exact ⟨h'.a, hl, h'.c0, h'.c1, h'.l0, h'.l1, h'.t0, h'.t1⟩
    · exact h'
theorem fit_row {d : Dv} {m t : Int} (h : d.fit m t) (hm : 0 ≤ m) (r : Int) : ((d.row r).length : Int) ≤ m := by
  unfold Dv.row
  split
  · exact h.a
  · split
    · exact h.b
    · simpa using hm
theorem fit_app {d : Dv} {m t : Int} (h : d.fit m t) (hm : 0 ≤ m) (r : Int) (l : List Int) : (appendD d r l).1.fit (m + l.length) (t + l.length) := by
  have hw := h.wide (show m ≤ m + l.length by omega) (show t ≤ t + l.length by omega)
  have hr := fit_row h hm r
  unfold appendD
  split
  · exact hw
  · split
    · exact hw
    · split
      · exact hw
      · refine fit_set (fit_turn h l.length) r (m' := m + l.length) ?_ (by omega)
        rw [List.length_append, List.length_take]; omega
theorem fit_trunc {d : Dv} {m t : Int} (h : d.fit m t) (hm : 0 ≤ m) (r n : Int) : (truncD d r n).1.fit m (t + m) := by
  have hw := h.wide (Int.le_refl m) (show t ≤ t + m by omega)
  have hr := fit_row h hm r
  unfold truncD
  split
  · exact hw
  · split
    · exact hw
    · refine (fit_set (fit_turn h _) r (m' := m) ?_ (Int.le_refl _)).wide (Int.le_refl _) ?_
      · rw [List.length_take]; omega
      · have : ((d.row r).length - n.toNat : Nat) ≤ (d.row r).length := Nat.sub_le _ _
        omega
end Go.Proofs.Ytcgefilboefnpaa.H
/- journal.begin. -/
namespace Go.Proofs.Ytcgefilboefnpaa.H
open Go.RowKit Go.Proofs.YtcgefilboefnpaaW.PrintWords Go.Proofs.YtcgefilboefnpaaW.PrintLast Go.Proofs.YtcgefilboefnpaaW.PrintMore Go.Proofs.Ytcgefilboefnpaa.CrcM
set_option linter.unusedVariables false
set_option linter.unusedSimpArgs false

def wrF (x : Fb) : List Int := (writeF x.1 x.2).1
theorem begF_len (age : Nat) (snap : List Int) : (begF age snap).length ≤ snap.length + 3 := by
  have := chunksL_len (snap.length + 1) snap
  unfold begF chunksF
  simp only [List.length_append, List.length_cons, List.length_map, List.length_nil]
  omega
theorem JB.put1 {W : World} {gj gd : Nat} {As : Option Addr} {cs : Nat} {Ar : Option Addr} {cr : Nat} {j : Jn} (h : JB W gj gd As cs Ar cr j) (x : Int) : JB (W.setCell ⟨gj, 1, none⟩ (.int .i64 x)) gj gd As cs Ar cr { j with region := x } := by
  obtain ⟨rest, t, ht, h⟩ := h
  exact ⟨rest, t, ht, blk_put h 1 _ (by simp [jCells])⟩
theorem JB.put2 {W : World} {gj gd : Nat} {As : Option Addr} {cs : Nat} {Ar : Option Addr} {cr : Nat} {j : Jn} (h : JB W gj gd As cs Ar cr j) (x : Int) : JB (W.setCell ⟨gj, 2, none⟩ (.int .u64 x)) gj gd As cs Ar cr { j with age := x } := by
  obtain ⟨rest, t, ht, h⟩ := h
  exact ⟨rest, t, ht, blk_put h 2 _ (by simp [jCells])⟩
theorem JB.put3 {W : World} {gj gd : Nat} {As : Option Addr} {cs : Nat} {Ar : Option Addr} {cr : Nat} {j : Jn} (h : JB W gj gd As cs Ar cr j) (A : Option Addr) (c : Nat) (l : List Int) (n : Nat) (hn : l.length = n) : JB (W.setCell ⟨gj, 3, none⟩ (.slice A n c)) gj gd A c Ar cr { j with snap := l } := by
  subst hn
  obtain ⟨rest, t, ht, h⟩ := h
  exact ⟨rest, t, ht, blk_put h 3 _ (by simp [jCells])⟩
theorem foldA_snoc (r : Int) (b : List Int) : ∀ (bs : List (List Int)) (d : Dv), foldA d r (bs ++ [b]) = if (foldA d r bs).2 = 0 then appendD (foldA d r bs).1 r b else foldA d r bs
  | [], d => by
    simp only [List.nil_append, foldA, if_true]
    split
    · rename_i h; rw [← h]
    · rfl
  | c :: bs, d => by
    simp only [List.cons_append, foldA]
    split
    · exact foldA_snoc r b bs _
    · rfl
set_option maxHeartbeats 3200000 in
theorem begin_calls [Pl] (gj gd B : Nat) (Ar : Option Addr) (cr : Nat) (j : Jn) (d : Dv) (region : Int) (age : Nat) (A : Option Addr) (c : Nat) (snap : List Int) (x : Dv × Jn × Int) (W : World) (hx : beginJ d j region age snap = x) (h : JAt W B gj gd Ar cr j) (hd : DevAt W gd d) (hBW : B ≤ W.heap.size)
    (hl : ∀ W', But (JP gj gd Ar) W W' → Kd.C (Kd.int .u8) W' A snap.length snap) (hc : snap.length ≤ c) (hn : snap.length ≤ 100000) (hage : age < 2 ^ 64) (hf : d.fit 100000 100000000000) (hbs : ∀ k, k ≤ (begF age snap).length → (foldA (truncD d region 0).1 region (((begF age snap).map wrF).take k)).1.fit 1000000 1000000000000) :
    Calls Try.prog 43 #[.pointer (some ⟨gj, 0, none⟩), .int .i64 region, .int .u64 age, .slice A snap.length c] W (JPost B gj gd Ar x W) := by
  obtain ⟨d1, e1, ht⟩ : ∃ d1 e1, truncD d region 0 = (d1, e1) := ⟨_, _, rfl⟩
  obtain ⟨d2, e2, hfo⟩ : ∃ d2 e2, foldA d1 region ((begF age snap).map wrF) = (d2, e2) := ⟨_, _, rfl⟩
  have hX : x = if e1 ≠ 0 then (d1, j, e1) else if e2 ≠ 0 then (d2, j, e2) else (d2, ⟨region, age, snap, [], ((d2.row region).length : Int)⟩, 0) := by
    rw [← hx]
    have hfo' : foldA d1 region ((begF age snap).map fun x => (writeF x.1 x.2).1) = (d2, e2) := hfo
    unfold beginJ; simp only [ht, hfo']
  rw [ht] at hbs
  have hlo := h.lo
  have H := Aside0.mk (And.intro h (And.intro hd (And.intro hl (And.intro hf (And.intro ht (And.intro hfo (And.intro hX (And.intro hbs hage))))))))
  clear h hd hl hf ht hfo hX hx hbs hage
  obtain ⟨z0, hglj⟩ : W.cell? ⟨gj, 0, none⟩ = some (.pointer (some ⟨gd, 0, none⟩)) ∧ gj < W.heap.size := by
    obtain ⟨_, As, cs, os, q1, _⟩ := H.out.1
    exact ⟨q1.cells.1, q1.lt⟩
  go_enter Try.func43, Try.ntmps43
  go_wp2_with (fail)
  refine (Truncate_eq gd d d1 region 0 e1 _ H.out.2.2.2.2.1 H.out.2.1 (H.out.2.2.2.1.wide (by omega) (by omega))).mono ?_
  rintro e w1 ⟨rfl, hd1, ho1⟩
  have H1 := Aside0.mk (And.intro hd1 (And.intro (H.out.1.dev H.out.2.1 ho1) (But.of_oth (P := JP gj gd Ar) ho1 (.inr (.inl rfl)))))
  clear hd1 ho1
  by_cases he1 : e1 = 0
  · have a1 : (e1 != 0) = false := by rw [bne_eq_false_iff_eq]; exact he1
    have hX := H.out.2.2.2.2.2.2.1
    rw [if_neg (by simp [he1])] at hX
    have HX := Lib.hid hX
    clear hX he1
    go_wp2_with (fail)
    refine (begins_calls age A c snap _ H.out.2.2.2.2.2.2.2.2 (H.out.2.2.1 _ H1.out.2.2) hc (by omega)).mono ?_
    rintro e w2 ⟨v2, fs, rfl, hR2, hS2, hb2⟩
    obtain ⟨Af, cf, rfl⟩ := Kd.R_slice hR2
    obtain ⟨nf, hnf⟩ : ∃ n, fs.length = n := ⟨_, rfl⟩
    have hnb : (begF age snap).length = nf := by rw [← hS2.1, hnf]
    have hnfl : nf ≤ 100003 := by rw [← hnb]; have := begF_len age snap; omega
    have hs1 := H1.out.2.2.size
    have hs2 := hb2.size
    have H2 := Aside0.mk (And.intro hR2 (And.intro hS2 (And.intro (H1.out.1.below hb2) (And.intro (H1.out.2.1.below hb2) (And.intro (H1.out.2.2.trans (.of_below hb2)) (And.intro hnf hnb))))))
    rw [hnf]
    clear hR2 hS2 hb2 hnf hnb
    go_wp2_with (fail)
    go_loopw [28] (fun i wr => ∃ (k : Nat) (dk : Dv), i = .int .i64 (k : Int) ∧ k ≤ nf ∧ Aside0 (foldA d1 region ((begF age snap).map wrF) = foldA dk region (((begF age snap).map wrF).drop k) ∧ foldA d1 region (((begF age snap).map wrF).take k) = (dk, 0)) ∧ Aside0 (Kd.R KRb 72 wr w1.heap.size (fun _ => True) (.slice Af fs.length cf) fs ∧ RbsD A snap wr fs (begF age snap) ∧ DevAt wr gd dk ∧ JAt wr B gj gd Ar cr j ∧ But (JP gj gd Ar) W wr)) (fun i _ => nf - (intOf i).toNat)
    case atStart => exact ⟨0, d1, rfl, Nat.zero_le _, ⟨rfl, rfl⟩, ⟨H2.out.1, H2.out.2.1, H2.out.2.2.1, H2.out.2.2.2.1, H2.out.2.2.2.2.1⟩⟩
    case round =>
      obtain ⟨k, dk, rfl, hk, HF, HW⟩ := hrel
      by_cases hlt : k < nf
      · obtain ⟨o, ho⟩ : ∃ o, fs[k]? = some o := ⟨_, List.getElem?_eq_getElem (by rw [H2.out.2.2.2.2.2.1]; exact hlt)⟩
        obtain ⟨xf, hxf⟩ : ∃ xf, (begF age snap)[k]? = some xf := ⟨_, List.getElem?_eq_getElem (by rw [H2.out.2.2.2.2.2.2]; exact hlt)⟩
        obtain ⟨ad, eA, w0, w1'⟩ := KRb_at (Kd.R_reads' HW.out.1).2.2 ho
        have hob := (HW.out.2.1.2 k o xf ho hxf).of (H.out.2.2.1 _ HW.out.2.2.2.2)
        obtain ⟨ok, oA, on, oc⟩ := o
        obtain ⟨xk, xb⟩ := xf
        obtain ⟨r1, r2, r3, r4⟩ := hob
        simp only at r1 r2 r3 r4 w0 w1'
        subst r1; subst r2; subst eA
        obtain ⟨wb, we, hw⟩ : ∃ wb we, writeF ok xb = (wb, we) := ⟨_, _, rfl⟩
        obtain ⟨wn, hwn⟩ : ∃ n, wb.length = n := ⟨_, rfl⟩
        have hwl : wn ≤ 5000 := by rw [← hwn]; have := (writeF_len ok xb).1; rw [hw] at this; simp only at this; omega
        have hdr : ((begF age snap).map wrF).drop k = wb :: ((begF age snap).map wrF).drop (k + 1) := by
          rw [List.drop_eq_getElem_cons (by rw [List.length_map, H2.out.2.2.2.2.2.2]; exact hlt)]
          congr 1
          have : ((begF age snap).map wrF)[k]? = some wb := by rw [List.getElem?_map, hxf]; simp [wrF, hw]
          exact (List.getElem?_eq_some_iff.1 this).2
        have htk : ((begF age snap).map wrF).take (k + 1) = ((begF age snap).map wrF).take k ++ [wb] := by
          have : ((begF age snap).map wrF)[k]? = some wb := by rw [List.getElem?_map, hxf]; simp [wrF, hw]
          rw [List.take_add_one, this]; rfl
        obtain ⟨d', e', ha⟩ : ∃ d' e', appendD dk region wb = (d', e') := ⟨_, _, rfl⟩
        have hfold : foldA d1 region ((begF age snap).map wrF) = if e' = 0 then foldA d' region (((begF age snap).map wrF).drop (k + 1)) else (d', e') := by
          rw [HF.out.1, hdr]
          show (if (appendD dk region wb).2 = 0 then foldA (appendD dk region wb).1 region _ else appendD dk region wb) = _
          rw [ha]
        have hfold2 : e' = 0 → foldA d1 region (((begF age snap).map wrF).take (k + 1)) = (d', 0) := fun h0 => by
          rw [htk, foldA_snoc, HF.out.2]
          simp only [if_true]
          rw [ha, h0]
        have hdk := H.out.2.2.2.2.2.2.2.1 k (by rw [H2.out.2.2.2.2.2.2]; exact hk)
        rw [HF.out.2] at hdk
        have hkn : (k : Int) < (nf : Int) := by omega
        have HX2 := Aside0.mk (And.intro r4 (And.intro hw (And.intro hwn (And.intro ha (And.intro hfold (And.intro hfold2 hdk))))))
        clear r4 hw hwn ha hfold hfold2 hdk hdr htk ho hxf
        go_wp2_with (fail)
        have hx3 := blk_new wr (.cells #[.int .i64 ok, .slice oA xb.length oc] 72)
        have hb3 : Below wr.heap.size wr (wr.alloc (.cells #[.int .i64 ok, .slice oA xb.length oc] 72)) := below_alloc (Below.refl _ _) _
        generalize wr.alloc (.cells #[.int .i64 ok, .slice oA xb.length oc] 72) = w3 at *
        refine (Write_eq ok oA oc xb.length wn xb wb we _ rfl HX2.out.2.2.1 HX2.out.2.1 (Kd.C_below HX2.out.1 hb3) r3).mono ?_
        rintro e w4 ⟨A4, c4, rfl, hc4, hC4, hb4⟩
        have hb34 := below_step hb3 hb4
        have hj4 := HW.out.2.2.2.1.below hb34
        obtain ⟨z0', hgl4⟩ : w4.cell? ⟨gj, 0, none⟩ = some (.pointer (some ⟨gd, 0, none⟩)) ∧ gj < w4.heap.size := by
          obtain ⟨_, As, cs, os, q1, _⟩ := hj4
          exact ⟨q1.cells.1, q1.lt⟩
        have H4 := Aside0.mk (And.intro hC4 (And.intro hb34 hj4))
        clear hC4 hb34 hj4 hb3 hb4 hx3
        go_wp2_with (fail)
        refine (Append_eq gd dk d' region A4 c4 wn wb e' _ HX2.out.2.2.1 HX2.out.2.2.2.1 (HW.out.2.2.1.below H4.out.2.1) (by rw [HX2.out.2.2.1]; exact C_dev (HW.out.2.2.1.below H4.out.2.1) H4.out.1) hc4 HX2.out.2.2.2.2.2.2 (by omega)).mono ?_
        rintro e w5 ⟨rfl, hd5, ho5⟩
        have hdB := HW.out.2.2.1.below H4.out.2.1
        have H5 : Aside0 (Kd.R KRb 72 w5 w1.heap.size (fun _ => True) (.slice (some ad) fs.length cf) fs ∧ RbsD A snap w5 fs (begF age snap) ∧ DevAt w5 gd d' ∧ JAt w5 B gj gd Ar cr j ∧ But (JP gj gd Ar) W w5) := by
          obtain ⟨A0, c0, A1, c1, hB, _⟩ := hdB
          exact ⟨R_oth (Kd.R_below HW.out.1 H4.out.2.1) hB (by decide) ho5, (HW.out.2.1.below H4.out.2.1).of_ty (ho5.tys hB (by decide)), hd5, H4.out.2.2.dev (HW.out.2.2.1.below H4.out.2.1) ho5, (HW.out.2.2.2.2.trans (.of_below H4.out.2.1)).trans (.of_oth ho5 (.inr (.inl rfl)))⟩
        clear hd5 ho5 hdB
        by_cases he : e' = 0
        · have a2 : (e' != 0) = false := by rw [bne_eq_false_iff_eq]; exact he
          have h7 := HX2.out.2.2.2.2.1
          rw [if_pos he] at h7
          have h8 := HX2.out.2.2.2.2.2.1 he
          have H7 := Aside0.mk (And.intro h7 h8)
          clear h7 h8 he
          go_wp2
          go_roundw
          case rel => exact ⟨k + 1, d', by go_num, by omega, H7, H5⟩
          case measure => simp [intOf]; omega
        · have a2 : (e' != 0) = true := by rw [bne_iff_ne]; exact he
          have h7 := HX2.out.2.2.2.2.1
          rw [if_neg he, H.out.2.2.2.2.2.1] at h7
          injection h7 with h7 h8
          subst h7; subst h8
          have hX := HX.out
          rw [if_pos (by simp [he])] at hX
          have HXX := Lib.hid hX
          clear hX he
          go_wp2
          go_ret
          rw [HXX.out]
          exact ⟨rfl, H5.out.2.2.1, ⟨Ar, cr, H5.out.2.2.2.1, fun ad e => .inl ⟨ad, e, rfl⟩⟩, H5.out.2.2.2.2⟩
      · obtain rfl : k = nf := by omega
        have hfin := HF.out.1
        rw [List.drop_eq_nil_of_le (by rw [List.length_map, H2.out.2.2.2.2.2.2]; exact Nat.le_refl _)] at hfin
        rw [H.out.2.2.2.2.2.1] at hfin
        have hfin2 : (d2, e2) = (dk, 0) := hfin
        injection hfin2 with hf1 hf2
        subst hf1; subst hf2
        have hX := HX.out
        rw [if_neg (by simp)] at hX
        have hCs := H.out.2.2.1 _ HW.out.2.2.2.2
        obtain ⟨z0', hgl4⟩ : wr.cell? ⟨gj, 0, none⟩ = some (.pointer (some ⟨gd, 0, none⟩)) ∧ gj < wr.heap.size := by
          obtain ⟨_, As, cs, os, q1, _⟩ := HW.out.2.2.2.1
          exact ⟨q1.cells.1, q1.lt⟩
        have HXX := Aside0.mk (And.intro hX hCs)
        clear hX hCs hfin
        go_wp2_with (fail)
        refine (Clone_calls A c snap _ HXX.out.2 hc (by omega)).mono ?_
        rintro e w5 ⟨v5, rfl, ho5, hb5⟩
        obtain ⟨A5, c5, rfl, hc5, hr5⟩ := Rd.of_R ho5 (Nat.le_trans hlo HW.out.2.2.2.2.size) hb5.size
        have hj5 := HW.out.2.2.2.1.below hb5
        obtain ⟨q0, As, cs, os, q1, q2, q3, q4, q5⟩ := hj5
        obtain ⟨y0, y1, y2, y3, y4, y5⟩ := q1.cells
        have g1 := q1.frozen 1
        have g2 := q1.frozen 2
        have g3 := q1.frozen 3
        have g4 := q1.frozen 4
        have g5 := q1.frozen 5
        have hgl5 := q1.lt
        have HQ := Aside0.mk (And.intro q0 (And.intro q1 (And.intro hr5 (And.intro (HW.out.2.2.1.below hb5) (And.intro (HW.out.2.2.2.2.trans (.of_below hb5)) hc5)))))
        clear q0 q1 q2 q3 q4 q5 ho5 hb5 hr5
        go_wp2_with (fail)
        have hj9 : JB ((((w5.setCell ⟨gj, 1, none⟩ (.int .i64 region)).setCell ⟨gj, 2, none⟩ (.int .u64 age)).setCell ⟨gj, 3, none⟩ (.slice A5 snap.length c5)).setCell ⟨gj, 4, none⟩ (.slice none 0 0)) gj gd A5 c5 none 0 ⟨region, (age : Int), snap, [], j.fin⟩ := ((((HQ.out.2.1.put1 region).put2 (age : Int)).put3 A5 c5 snap snap.length rfl).put4 none 0 [] 0 rfl)
        have ho9 : Oth gj w5 ((((w5.setCell ⟨gj, 1, none⟩ (.int .i64 region)).setCell ⟨gj, 2, none⟩ (.int .u64 age)).setCell ⟨gj, 3, none⟩ (.slice A5 snap.length c5)).setCell ⟨gj, 4, none⟩ (.slice none 0 0)) := (((Oth.set w5 ⟨gj, 1, none⟩ _).trans (Oth.set _ ⟨gj, 2, none⟩ _)).trans (Oth.set _ ⟨gj, 3, none⟩ _)).trans (Oth.set _ ⟨gj, 4, none⟩ _)
        obtain ⟨cells5, t5, hc5', hd8, hd32, hdd⟩ := HQ.out.2.1.some
        have hgne : gd ≠ gj := by
          obtain ⟨A0, c0, A1', c1', hB, _⟩ := HQ.out.2.2.2.1
          exact (ne_block' hc5' hB (Ne.symm hdd)).symm
        have hd9 := HQ.out.2.2.2.1.oth hc5' hd8 hgne ho9
        have hr9 := HQ.out.2.2.1.oth hc5' hd8 ho9
        have hbut9 := HQ.out.2.2.2.2.1.trans (But.of_oth (P := JP gj gd Ar) ho9 (.inl rfl))
        generalize ((((w5.setCell ⟨gj, 1, none⟩ (.int .i64 region)).setCell ⟨gj, 2, none⟩ (.int .u64 age)).setCell ⟨gj, 3, none⟩ (.slice A5 snap.length c5)).setCell ⟨gj, 4, none⟩ (.slice none 0 0)) = w9 at *
        obtain ⟨m9, hm9⟩ : ∃ n : Int, ((d2.row region).length : Int) = n := ⟨_, rfl⟩
        refine (Len_eq gd d2 region m9 _ hm9 hd9).mono ?_
        rintro e w' ⟨rfl, rfl⟩
        have y5' := hj9.cells.2.2.2.2.2
        have g5' := hj9.frozen 5
        have hgl9 := hj9.lt
        have H9 := Aside0.mk (And.intro hj9 (And.intro hd9 (And.intro hr9 (And.intro hbut9 hm9))))
        clear hj9 ho9 hc5' hd8 hd32 hdd hgne hd9 hr9 hbut9 hm9 y0 y1 y2 y3 y4 y5 g1 g2 g3 g4 g5
        go_wp2
        go_ret
        obtain ⟨j1, j2, j3, j4, j5⟩ := H9.out
        have hj10 := j1.put5 m9
        have ho10 : Oth gj w9 (w9.setCell ⟨gj, 5, none⟩ (.int .i64 m9)) := Oth.set w9 ⟨gj, 5, none⟩ _
        obtain ⟨cells9, t9, hc9, hd8, hd32, hdd⟩ := j1.some
        have hgne : gd ≠ gj := by
          obtain ⟨A0, c0, A1', c1', hB, _⟩ := j2
          exact (ne_block' hc9 hB (Ne.symm hdd)).symm
        rw [HXX.out.1, j5]
        exact ⟨rfl, j2.oth hc9 hd8 hgne ho10, ⟨none, 0, ⟨HQ.out.1, A5, c5, [], hj10, HQ.out.2.2.2.2.2, j3.oth hc9 hd8 ho10, Kd.R_nil _ _ _ _ _, SlsOf.nil _⟩, fun ad e => by cases e⟩, j4.trans (.of_oth ho10 (.inl rfl))⟩
  · have a1 : (e1 != 0) = true := by rw [bne_iff_ne]; exact he1
    have hX := H.out.2.2.2.2.2.2.1
    rw [if_pos (by simp [he1])] at hX
    have HX := Lib.hid hX
    clear hX he1
    go_wp2
    go_ret
    rw [HX.out]
    exact ⟨rfl, H1.out.1, ⟨Ar, cr, H1.out.2.1, fun ad e => .inl ⟨ad, e, rfl⟩⟩, H1.out.2.2⟩
end Go.Proofs.Ytcgefilboefnpaa.H
