/- Some texts of one seat in one file, in build order. -/
import Derived.Test.YtcnmbllafdeokaaG5
import Derived.Test.YtcnmbllafdeokaaG4
import Derived.Test.YtcnmbllafdeokaaG1
import Derived.Deep.RegionHeld3
import Derived.LaidEqlPtr
/- package atom: Value, Most. -/
namespace Go.Proofs.Ytcnmbllafdeokaa.H
open Go.RowKit Go.Proofs.YtcnmbllafdeokaaW.PrintWords Go.Proofs.YtcnmbllafdeokaaW.PrintLast Go.Proofs.YtcnmbllafdeokaaW.PrintMore Go.Proofs.Ytcnmbllafdeokaa.TrM Go.Proofs.Ytcnmbllafdeokaa.AtM
set_option linter.unusedVariables false
set_option linter.unusedSimpArgs false
set_option maxRecDepth 100000
attribute [local go_sem] Oper.semAt_some wide_fn wide_depth

theorem C_blocksA {W W' : World} {A : Option Addr} {n : Nat} {xs : List At} (hc : Kd.C KAt W A n xs) (h : ∀ i, i < W.heap.size → W'.heap[i]? = W.heap[i]?) : Kd.C KAt W' A n xs :=
  ⟨hc.1, hc.2.1, fun hn => by
    obtain ⟨ad, e, hr⟩ := hc.2.2 hn
    refine ⟨ad, e, fun j p hj => ?_⟩
    obtain ⟨c, hs, hR, hcell⟩ := hr j p hj
    exact ⟨c, hs, hR, fun i u hu => (World.cell?_of_block (h _ (World.block_lt_of_cell? W _ (hcell i u hu)))).trans (hcell i u hu)⟩⟩
theorem maxL_snoc (xs : List At) (x : At) : maxL (xs ++ [x]) = max (maxL xs) x.2 := by unfold maxL; rw [List.foldl_append]; rfl
set_option maxHeartbeats 1600000 in
theorem Value_calls (al : List At) (s : Int) (A : Option Addr) (c : Nat) (W : World) (hC : Kd.C KAt W A al.length al) (hs : U64 s) (hu : ∀ x ∈ al, U64 x.1) :
    Calls Try.prog 8 #[.slice A al.length c, .int .u64 s] W fun e W' => e = .returned (.int .i64 (valueL al s)) ∧ Below W.heap.size W W' := by
  refine (callsIn_wide (n := 5)).1 ?_
  refine callsIn_of_wp_marks Try.func8 rfl trivial ?_ rfl
  simp only [Try.ntmps8, List.size_toArray, List.length_cons, List.length_nil, Nat.reduceAdd, Nat.reduceSub, Array.replicate_succ, Array.replicate_zero, List.push_toArray, List.append_toArray, List.nil_append, List.cons_append]
  have HC := Aside0.mk hC
  clear hC
  gi_wp2_with (gi_at_call 5; refine (callsIn_wide.2 (Within_calls _ _ _ _ _)).mono ?_; rintro e w1 ⟨rfl, rfl⟩)
  have hB : Below W.heap.size W (((W.alloc (.cells #[.int .i64 0] 2)).alloc (.cells #[.slice A al.length c] 22)).alloc (.cells #[.int .u64 s] 23)) := below_alloc (below_alloc (below_alloc (Below.refl _ _) _) _) _
  have g0 : (((W.alloc (.cells #[.int .i64 0] 2)).alloc (.cells #[.slice A al.length c] 22)).alloc (.cells #[.int .u64 s] 23)).heap[W.heap.size]? = some (.cells #[.int .i64 (maxL [])] 2 (0, 0)) := blk_alloc (blk_alloc (blk_new W _) _) _
  have g1 : (((W.alloc (.cells #[.int .i64 0] 2)).alloc (.cells #[.slice A al.length c] 22)).alloc (.cells #[.int .u64 s] 23)).heap[W.heap.size + 1]? = some (.cells #[.slice A al.length c] 22 (0, 0)) := blk_alloc (blk_new2 W _ _) _
  have g2 : (((W.alloc (.cells #[.int .i64 0] 2)).alloc (.cells #[.slice A al.length c] 22)).alloc (.cells #[.int .u64 s] 23)).heap[W.heap.size + 1 + 1]? = some (.cells #[.int .u64 s] 23 (0, 0)) := by
    have := blk_new ((W.alloc (.cells #[.int .i64 0] 2)).alloc (.cells #[.slice A al.length c] 22)) (.cells #[.int .u64 s] 23)
    rwa [World.size_alloc, World.size_alloc] at this
  have hsz : (((W.alloc (.cells #[.int .i64 0] 2)).alloc (.cells #[.slice A al.length c] 22)).alloc (.cells #[.int .u64 s] 23)).heap.size = W.heap.size + 3 := by simp
  generalize (((W.alloc (.cells #[.int .i64 0] 2)).alloc (.cells #[.slice A al.length c] 22)).alloc (.cells #[.int .u64 s] 23)) = w2 at hB g0 g1 g2 hsz
  refine rangeZ rfl (by omega) (gf := 17) (lb := #[.pointer (some ⟨W.heap.size + 1, 0, none⟩), .pointer (some ⟨W.heap.size + 1 + 1, 0, none⟩)]) rfl trivial (enters_of Try.func17 (by kernel_rfl) rfl)
    (Y := AtY (withinL al s)) (n₀ := w2.heap.size) (Kb := fun k => k ≠ W.heap.size) (S := fun xs => xs = withinL al s) (Sp := fun _ => True)
    (Within1_seq 4 al s A c (W.heap.size + 1) (W.heap.size + 1 + 1) w2.heap.size _ w2 hs hu
      (fun X hk => by rw [blk_cell ((hk.2 (W.heap.size + 1) (by omega) (by omega)).trans g1) 0]; rfl)
      (fun X hk => by rw [blk_cell ((hk.2 (W.heap.size + 1 + 1) (by omega) (by omega)).trans g2) 0]; rfl)
      (fun X hk => C_blocksA HC.out (fun i hi => (hk.2 i (by omega) (by omega)).trans (hB.block i hi))) (Nat.le_refl _)) (Nat.le_refl _)
    (fun _ _ _ _ hy => by obtain ⟨_, rfl⟩ := hy; rfl)
    (fun pre X => X.heap[W.heap.size]? = some (.cells #[.int .i64 (maxL pre)] 2 (0, 0)) ∧ Below W.heap.size W X) (fun _ _ _ => False)
    (fun _ P Q h hlie => ⟨hlie.blk h.1, hlie.below h.2 (by omega) (Nat.le_refl _)⟩) (fun _ _ _ _ h _ => h) ⟨g0, hB⟩ ?round ?done (fun _ _ _ _ _ _ h _ => h.elim)
  case round =>
    rintro l pre ⟨xs, xv⟩ vs X hl2 ⟨hI1, hI2⟩ ⟨hpre, rfl⟩ hXs
    have hms := maxL_snoc pre (xs, xv)
    have HM := Lib.hid hms
    obtain ⟨m, hm⟩ : ∃ m, maxL pre = m := ⟨_, rfl⟩
    rw [hm] at hI1
    have HMM := Lib.hid hm
    clear hms hm hpre
    gi_wp2
    refine ⟨Kin.of_below (below_alloc (Below.refl _ _) _) (Nat.le_refl _), Kp.of_below (below_alloc (Below.refl _ _) _) (by omega), ?_⟩
    intro Wb hlie
    have g3 := hlie.blk (blk_new X (.cells #[.int .u64 xs, .int .i64 xv] 29))
    have g4 := hlie.blk (blk_alloc hI1 (.cells #[.int .u64 xs, .int .i64 xv] 29))
    have gB := hlie.below (below_alloc hI2 (.cells #[.int .u64 xs, .int .i64 xv] 29)) (by omega) (Nat.le_refl _)
    have y1 : Wb.cell? ⟨X.heap.size, 1, none⟩ = some (.int .i64 xv) := by rw [blk_cell g3]; rfl
    have y2 : Wb.cell? ⟨W.heap.size, 0, none⟩ = some (.int .i64 m) := by rw [blk_cell g4]; rfl
    have f2 := blk_frozen g4 0
    have hgl := lt_of_some g4
    have HG := Aside0.mk (And.intro g4 gB)
    clear g3 g4 gB hI1 hI2 hlie
    gi_wp2
    all_goals
      refine ⟨Kin.set (.inl (by show W.heap.size < _; omega)) _, Kp.set (fun h => absurd rfl h) _, ?_, below_set HG.out.2 (Nat.le_refl _)⟩
      have e := HM.out
      rw [HMM.out] at e
      rw [e]
      first
        | (rw [show max m xv = m by omega]; exact blk_set HG.out.1 0 _)
        | (rw [show max m xv = xv by omega]; exact blk_set HG.out.1 0 _)
  case done =>
    rintro D xs X hD rfl ⟨hI1, hI2⟩ hKd
    have d2 := blk_cell hI1 0
    simp at d2
    have HF := Aside0.mk (And.intro hI2 hKd)
    clear hI1 hI2 hKd
    gi_wp2
    refine ⟨by simp, .inl ⟨_, _, rfl, run_takeDeferred HF.out.2, ?_⟩⟩
    refine ⟨_, results_tmp rfl _ _ _, ?_, belowK_t HF.out.1 (belowK_b (w := W) (Nat.le_refl _) X D _ _ (by omega) HF.out.2 rfl rfl)⟩
    rfl
end Go.Proofs.Ytcnmbllafdeokaa.H
/- package table at uint64 keys and int64 values: trees in memory; join, even, put, find. -/
namespace Go.Proofs.Ytcnmbllafdeokaa.H
open Go.RowKit Go.Proofs.YtcnmbllafdeokaaW.PrintWords Go.Proofs.YtcnmbllafdeokaaW.PrintLast Go.Proofs.YtcnmbllafdeokaaW.PrintMore Go.Proofs.Ytcnmbllafdeokaa.TrM Go.Proofs.Ytcnmbllafdeokaa.AtM
set_option linter.unusedVariables false
set_option linter.unusedSimpArgs false
set_option maxRecDepth 100000

abbrev TN := Tr Int Int
abbrev ndCells (k v : Int) (pl pr : Option Addr) (h s : Int) : Array Value := #[.int .u64 k, .int .i64 v, .pointer pl, .pointer pr, .int .i64 h, .int .i64 s]
/-- A tree in memory. -/
def TrAt (W : World) : Option Addr → TN → Prop
  | p, .lf => p = none
  | p, .nd k v l r => ∃ g pl pr, p = some ⟨g, 0, none⟩ ∧ W.heap[g]? = some (.cells (ndCells k v pl pr (hT (.nd k v l r)) (sT (.nd k v l r))) 61 (0, 0)) ∧ TrAt W pl l ∧ TrAt W pr r
theorem TrAt.mono {W W' : World} (hw : ∀ (g : Nat) (cs : Array Value), W.heap[g]? = some (.cells cs 61 (0, 0)) → W'.heap[g]? = some (.cells cs 61 (0, 0))) : ∀ {t : TN} {p : Option Addr}, TrAt W p t → TrAt W' p t := by
  intro t
  induction t with
  | lf => intro p h; exact h
  | nd k v l r hl hr =>
    rintro p ⟨g, pl, pr, e, hb, h1, h2⟩
    exact ⟨g, pl, pr, e, hw _ _ hb, hl h1, hr h2⟩
theorem TrAt.below {W W' : World} (hb : Below W.heap.size W W') {t : TN} {p : Option Addr} (h : TrAt W p t) : TrAt W' p t := h.mono (fun g cs hg => blk_belowX hg hb)
theorem TrAt.drew {W : World} {t : TN} {p : Option Addr} (h : TrAt W p t) : TrAt W.drew p t := by
  refine TrAt.mono (W := W) (W' := W.drew) (fun g cs hg => ?_) h
  exact hg
theorem TrAt.drewN {W : World} {t : TN} {p : Option Addr} (n : Nat) (h : TrAt W p t) : TrAt (W.drewN n) p t := by
  refine TrAt.mono (W := W) (W' := W.drewN n) (fun g cs hg => ?_) h
  exact hg
theorem quietL {P : Program} {f : FuncId} {args : Array Value} {w : World} {n : Nat} {v : Value}
    (h : Calls P f args (w.drewN n) fun e w' => e = .returned v ∧ w.drewN n = w') : Calls P f args (w.drewN n) fun e w'' => e = .returned v ∧ ∃ m, w'' = w.drewN m :=
  h.mono fun _ _ ⟨he, hm⟩ => ⟨he, n, hm.symm⟩
theorem nd_cells {W : World} {g : Nat} {k v : Int} {pl pr : Option Addr} {h s : Int} {t : TypeId} (hb : W.heap[g]? = some (.cells (ndCells k v pl pr h s) t (0, 0))) :
    W.cell? ⟨g, 0, none⟩ = some (.int .u64 k) ∧ W.cell? ⟨g, 1, none⟩ = some (.int .i64 v) ∧ W.cell? ⟨g, 2, none⟩ = some (.pointer pl) ∧ W.cell? ⟨g, 3, none⟩ = some (.pointer pr) ∧ W.cell? ⟨g, 4, none⟩ = some (.int .i64 h) ∧ W.cell? ⟨g, 5, none⟩ = some (.int .i64 s) := by
  refine ⟨?_, ?_, ?_, ?_, ?_, ?_⟩ <;> · rw [blk_cell hb]; rfl
theorem height_eq (p : Option Addr) (t : TN) (n : Int) (W : World) (h : TrAt W p t) (hn : (hT t : Int) = n) : Calls Try.prog 59 #[.pointer p] W fun e W' => e = .returned (.int .i64 n) ∧ W = W' := by
  subst hn
  cases t with
  | lf =>
    obtain rfl : p = none := h
    go_enter Try.func59, Try.ntmps59
    go_wp2
    go_ret
    exact ⟨rfl, rfl⟩
  | nd k v l r =>
    obtain ⟨g, pl, pr, rfl, hb, _, _⟩ := h
    obtain ⟨z0, z1, z2, z3, z4, z5⟩ := nd_cells hb
    clear hb
    go_enter Try.func59, Try.ntmps59
    go_wp2
    go_ret
    exact ⟨rfl, rfl⟩
theorem size_eq (p : Option Addr) (t : TN) (n : Int) (W : World) (h : TrAt W p t) (hn : (sT t : Int) = n) : Calls Try.prog 60 #[.pointer p] W fun e W' => e = .returned (.int .i64 n) ∧ W = W' := by
  subst hn
  cases t with
  | lf =>
    obtain rfl : p = none := h
    go_enter Try.func60, Try.ntmps60
    go_wp2
    go_ret
    exact ⟨rfl, rfl⟩
  | nd k v l r =>
    obtain ⟨g, pl, pr, rfl, hb, _, _⟩ := h
    obtain ⟨z0, z1, z2, z3, z4, z5⟩ := nd_cells hb
    clear hb
    go_enter Try.func60, Try.ntmps60
    go_wp2
    go_ret
    exact ⟨rfl, rfl⟩
set_option maxHeartbeats 800000 in
theorem join_calls (k v : Int) (pl pr : Option Addr) (l r : TN) (W : World) (hl : TrAt W pl l) (hr : TrAt W pr r) (hs : sT l + sT r ≤ 1000000) :
    Calls Try.prog 44 #[.int .u64 k, .int .i64 v, .pointer pl, .pointer pr] W fun e W' => ∃ p, e = .returned (.pointer p) ∧ TrAt W' p (.nd k v l r) ∧ Below W.heap.size W W' := by
  obtain ⟨h1, hh1⟩ : ∃ n : Int, (hT l : Int) = n := ⟨_, rfl⟩
  obtain ⟨h2, hh2⟩ : ∃ n : Int, (hT r : Int) = n := ⟨_, rfl⟩
  obtain ⟨s1, hs1⟩ : ∃ n : Int, (sT l : Int) = n := ⟨_, rfl⟩
  obtain ⟨s2, hs2⟩ : ∃ n : Int, (sT r : Int) = n := ⟨_, rfl⟩
  have b1 := hT_le l
  have b2 := hT_le r
  have k1 : 0 ≤ h1 := by omega
  have k2 : h1 ≤ 1000000 := by omega
  have k3 : 0 ≤ h2 := by omega
  have k4 : h2 ≤ 1000000 := by omega
  have k5 : 0 ≤ s1 := by omega
  have k6 : s1 ≤ 1000000 := by omega
  have k7 : 0 ≤ s2 := by omega
  have k8 : s2 ≤ 1000000 := by omega
  have H := Aside0.mk (And.intro hl (And.intro hr (And.intro hh1 (And.intro hh2 (And.intro hs1 hs2)))))
  clear hl hr hh1 hh2 hs1 hs2 b1 b2 hs
  go_enter Try.func44, Try.ntmps44
  go_wp2_with (first
    | ((with_reducible refine (height_eq pl l h1 _ H.out.1 H.out.2.2.1).mono ?_); rintro e w' ⟨rfl, rfl⟩)
    | ((with_reducible refine (height_eq pr r h2 _ H.out.2.1 H.out.2.2.2.1).mono ?_); rintro e w' ⟨rfl, rfl⟩)
    | ((with_reducible refine (size_eq pl l s1 _ H.out.1 H.out.2.2.2.2.1).mono ?_); rintro e w' ⟨rfl, rfl⟩)
    | ((with_reducible refine (size_eq pr r s2 _ H.out.2.1 H.out.2.2.2.2.2).mono ?_); rintro e w' ⟨rfl, rfl⟩))
  all_goals
    go_ret
    obtain ⟨q1, q2, q3, q4, q5, q6⟩ := H.out
    have hb : Below W.heap.size W (W.alloc (.cells #[] 0)) := below_alloc (Below.refl _ _) _
    refine ⟨_, rfl, ⟨W.heap.size, pl, pr, rfl, ?_, q1.below (below_alloc (Below.refl _ _) _), q2.below (below_alloc (Below.refl _ _) _)⟩, below_alloc (Below.refl _ _) _⟩
    rw [blk_new]
    have e2 : ((sT (Tr.nd k v l r) : Nat) : Int) = s1 + s2 + 1 := by simp only [sT]; omega
    rw [e2]
    first
      | (have e1 : ((hT (Tr.nd k v l r) : Nat) : Int) = h1 + 1 := (by simp only [hT]; omega); rw [e1])
      | (have e1 : ((hT (Tr.nd k v l r) : Nat) : Int) = h2 + 1 := (by simp only [hT]; omega); rw [e1])
set_option maxHeartbeats 800000 in
theorem lean_eq (p : Option Addr) (k v : Int) (l r : TN) (n : Int) (W : World) (h : TrAt W p (.nd k v l r)) (hn : (hT l : Int) - hT r = n) (hs : sT l + sT r ≤ 1000000) :
    Calls Try.prog 61 #[.pointer p] W fun e W' => e = .returned (.int .i64 n) ∧ Below W.heap.size W W' := by
  subst hn
  obtain ⟨g, pl, pr, rfl, hb, h1, h2⟩ := h
  obtain ⟨z0, z1, z2, z3, z4, z5⟩ := nd_cells hb
  obtain ⟨n1, hn1⟩ : ∃ n : Int, (hT l : Int) = n := ⟨_, rfl⟩
  obtain ⟨n2, hn2⟩ : ∃ n : Int, (hT r : Int) = n := ⟨_, rfl⟩
  have b1 := hT_le l
  have b2 := hT_le r
  have k1 : 0 ≤ n1 := by omega
  have k2 : n1 ≤ 1000000 := by omega
  have k3 : 0 ≤ n2 := by omega
  have k4 : n2 ≤ 1000000 := by omega
  have hw : IntKind.i64.wrap (n1 - n2) = n1 - n2 := by rw [IntKind.wrap_i64]; omega
  have H := Aside0.mk (And.intro h1 (And.intro h2 (And.intro hn1 hn2)))
  rw [hn1, hn2]
  clear h1 h2 hn1 hn2 hb b1 b2 hs
  go_enter Try.func61, Try.ntmps61
  go_wp2
  go_quiet ((first | (go_at_call_of 59 (Value.pointer pl); with_reducible exact quietL (height_eq pl l n1 _ (TrAt.drewN _ H.out.1) H.out.2.2.1)) | (go_at_call_of 59 (Value.pointer pr); with_reducible exact quietL (height_eq pr r n2 _ (TrAt.drewN _ H.out.2.1) H.out.2.2.2))))
  go_wp2
  go_ret
  exact ⟨rfl, pw_below_drewN (Below.refl _ _) _⟩
theorem nd_keep {W : World} {g : Nat} {k v : Int} {pl pr : Option Addr} {h s : Int} {t : TypeId} (hb : W.heap[g]? = some (.cells (ndCells k v pl pr h s) t (0, 0))) :
    W.cell? ⟨g, 0, none⟩ = some (.int .u64 k) ∧ W.cell? ⟨g, 1, none⟩ = some (.int .i64 v) ∧ W.cell? ⟨g, 2, none⟩ = some (.pointer pl) ∧ W.cell? ⟨g, 3, none⟩ = some (.pointer pr) := by
  obtain ⟨a, b, c, d, _⟩ := nd_cells hb; exact ⟨a, b, c, d⟩
set_option maxHeartbeats 1600000 in
theorem turnR_calls (p : Option Addr) (k v k' v' : Int) (l' r' r : TN) (W : World) (h : TrAt W p (.nd k v (.nd k' v' l' r') r)) (hs : sT l' + sT r' + sT r ≤ 900000) :
    Calls Try.prog 62 #[.pointer p] W fun e W' => ∃ p, e = .returned (.pointer p) ∧ TrAt W' p (.nd k' v' l' (.nd k v r' r)) ∧ Below W.heap.size W W' := by
  obtain ⟨g, _, pr, rfl, hb, ⟨g', pl', pr', rfl, hb', h3, h4⟩, h2⟩ := h
  obtain ⟨z0, z1, z2, z3, z4, z5⟩ := nd_cells hb
  obtain ⟨y0, y1, y2, y3, y4, y5⟩ := nd_cells hb'
  have hg := lt_of_some hb
  have hg' := lt_of_some hb'
  have H := Aside0.mk (And.intro h2 (And.intro h3 (And.intro h4 (And.intro hb hb'))))
  clear h2 h3 h4 hb hb'
  go_enter Try.func62, Try.ntmps62
  go_wp2_with (fail)
  go_region_held3 (fun w' => (w'.cell? ⟨g, 0, none⟩ = some (.int .u64 k) ∧ w'.cell? ⟨g, 1, none⟩ = some (.int .i64 v) ∧ w'.cell? ⟨g, 2, none⟩ = some (.pointer (some ⟨g', 0, none⟩)) ∧ w'.cell? ⟨g, 3, none⟩ = some (.pointer pr)) ∧ (w'.cell? ⟨g', 0, none⟩ = some (.int .u64 k') ∧ w'.cell? ⟨g', 1, none⟩ = some (.int .i64 v') ∧ w'.cell? ⟨g', 2, none⟩ = some (.pointer pl') ∧ w'.cell? ⟨g', 3, none⟩ = some (.pointer pr'))) (first | (with_reducible exact KK.out) | go_keep)
    (first
      | (go_at_call 44; have KZ := H; refine (join_calls k v pr' pr r' r _ ?a1 ?a2 (by omega)).mono ?_; (case a1 => exact H.out.2.2.1.drew); (case a2 => exact H.out.1.drew); rintro e w1 ⟨p1, rfl, ht1, hb1'⟩; have hb1 : Below W.heap.size W w1 := ⟨hb1'.os, hb1'.tape, hb1'.output, hb1'.size, hb1'.block⟩; have KK := Aside0.mk (And.intro (nd_keep (blk_belowX H.out.2.2.2.1 hb1)) (nd_keep (blk_belowX H.out.2.2.2.2 hb1))); have H1 := Aside0.mk (And.intro ht1 (And.intro hb1 (And.intro (H.out.1.below hb1) (And.intro (H.out.2.1.below hb1) (And.intro (H.out.2.2.1.below hb1) (And.intro (blk_belowX H.out.2.2.2.1 hb1) (blk_belowX H.out.2.2.2.2 hb1))))))); clear ht1 hb1 hb1' H KZ)
      | (go_at_call 44; have KZ := H1; refine (join_calls k' v' pl' p1 l' (.nd k v r' r) _ ?a1 ?a2 (by simp only [sT]; omega)).mono ?_; (case a1 => exact H1.out.2.2.2.1); (case a2 => exact H1.out.1); rintro e w2 ⟨p2, rfl, ht2, hb2⟩; have KK := Aside0.mk (And.intro (nd_keep (blk_belowX H1.out.2.2.2.2.2.1 hb2)) (nd_keep (blk_belowX H1.out.2.2.2.2.2.2 hb2))); have H2 := Aside0.mk (And.intro ht2 (below_step H1.out.2.1 hb2)); clear ht2 hb2 KZ))
  all_goals
    go_wp2
    go_ret
    exact ⟨p2, rfl, H2.out⟩
set_option maxHeartbeats 1600000 in
theorem turnL_calls (p : Option Addr) (k v k' v' : Int) (l' r' r : TN) (W : World) (h : TrAt W p (.nd k v r (.nd k' v' l' r'))) (hs : sT l' + sT r' + sT r ≤ 900000) :
    Calls Try.prog 63 #[.pointer p] W fun e W' => ∃ p, e = .returned (.pointer p) ∧ TrAt W' p (.nd k' v' (.nd k v r l') r') ∧ Below W.heap.size W W' := by
  obtain ⟨g, pr, _, rfl, hb, h2, ⟨g', pl', pr', rfl, hb', h3, h4⟩⟩ := h
  obtain ⟨z0, z1, z2, z3, z4, z5⟩ := nd_cells hb
  obtain ⟨y0, y1, y2, y3, y4, y5⟩ := nd_cells hb'
  have hg := lt_of_some hb
  have hg' := lt_of_some hb'
  have H := Aside0.mk (And.intro h2 (And.intro h3 (And.intro h4 (And.intro hb hb'))))
  clear h2 h3 h4 hb hb'
  go_enter Try.func63, Try.ntmps63
  go_wp2_with (fail)
  go_region_held3 (fun w' => (w'.cell? ⟨g, 0, none⟩ = some (.int .u64 k) ∧ w'.cell? ⟨g, 1, none⟩ = some (.int .i64 v) ∧ w'.cell? ⟨g, 2, none⟩ = some (.pointer pr) ∧ w'.cell? ⟨g, 3, none⟩ = some (.pointer (some ⟨g', 0, none⟩))) ∧ (w'.cell? ⟨g', 0, none⟩ = some (.int .u64 k') ∧ w'.cell? ⟨g', 1, none⟩ = some (.int .i64 v') ∧ w'.cell? ⟨g', 2, none⟩ = some (.pointer pl') ∧ w'.cell? ⟨g', 3, none⟩ = some (.pointer pr'))) (first | (with_reducible exact KK.out) | go_keep)
    (first
      | (go_at_call 44; have KZ := H; refine (join_calls k v pr pl' r l' _ ?a1 ?a2 (by omega)).mono ?_; (case a1 => exact H.out.1.drew); (case a2 => exact H.out.2.1.drew); rintro e w1 ⟨p1, rfl, ht1, hb1'⟩; have hb1 : Below W.heap.size W w1 := ⟨hb1'.os, hb1'.tape, hb1'.output, hb1'.size, hb1'.block⟩; have KK := Aside0.mk (And.intro (nd_keep (blk_belowX H.out.2.2.2.1 hb1)) (nd_keep (blk_belowX H.out.2.2.2.2 hb1))); have H1 := Aside0.mk (And.intro ht1 (And.intro hb1 (And.intro (H.out.1.below hb1) (And.intro (H.out.2.1.below hb1) (And.intro (H.out.2.2.1.below hb1) (And.intro (blk_belowX H.out.2.2.2.1 hb1) (blk_belowX H.out.2.2.2.2 hb1))))))); clear ht1 hb1 hb1' H KZ)
      | (go_at_call 44; have KZ := H1; refine (join_calls k' v' p1 pr' (.nd k v r l') r' _ ?a1 ?a2 (by simp only [sT]; omega)).mono ?_; (case a1 => exact H1.out.1); (case a2 => exact H1.out.2.2.2.2.1); rintro e w2 ⟨p2, rfl, ht2, hb2⟩; have KK := Aside0.mk (And.intro (nd_keep (blk_belowX H1.out.2.2.2.2.2.1 hb2)) (nd_keep (blk_belowX H1.out.2.2.2.2.2.2 hb2))); have H2 := Aside0.mk (And.intro ht2 (below_step H1.out.2.1 hb2)); clear ht2 hb2 KZ))
  all_goals
    go_wp2
    go_ret
    exact ⟨p2, rfl, H2.out⟩
end Go.Proofs.Ytcnmbllafdeokaa.H
/- package table at uint64 keys and int64 values: even. -/
namespace Go.Proofs.Ytcnmbllafdeokaa.H
open Go.RowKit Go.Proofs.YtcnmbllafdeokaaW.PrintWords Go.Proofs.YtcnmbllafdeokaaW.PrintLast Go.Proofs.YtcnmbllafdeokaaW.PrintMore Go.Proofs.Ytcnmbllafdeokaa.TrM Go.Proofs.Ytcnmbllafdeokaa.AtM
set_option linter.unusedVariables false
set_option linter.unusedSimpArgs false
set_option maxRecDepth 100000

theorem sT_turnR (t : TN) : sT (turnR t) = sT t := by rw [sT_flat, sT_flat, flat_turnR]
theorem sT_turnL (t : TN) : sT (turnL t) = sT t := by rw [sT_flat, sT_flat, flat_turnL]
/-- What abides in even. -/
structure EV (W : World) (p1 pl pr : Option Addr) (tn l r : TN) (w : World) : Prop where
  n : TrAt w p1 tn
  l : TrAt w pl l
  r : TrAt w pr r
  b : Below W.heap.size W w
theorem EV.step {W : World} {p1 pl pr : Option Addr} {tn l r : TN} {w w' : World} (h : EV W p1 pl pr tn l r w) (hb : Below w.heap.size w w') : EV W p1 pl pr tn l r w' := ⟨h.n.below hb, h.l.below hb, h.r.below hb, below_step h.b hb⟩
set_option maxHeartbeats 3200000 in
theorem even_calls (k v : Int) (pl pr : Option Addr) (l r : TN) (W : World) (hl : TrAt W pl l) (hr : TrAt W pr r) (hs : sT l + sT r ≤ 800000) :
    Calls Try.prog 45 #[.int .u64 k, .int .i64 v, .pointer pl, .pointer pr] W fun e W' => ∃ p, e = .returned (.pointer p) ∧ TrAt W' p (evenT k v l r) ∧ Below W.heap.size W W' := by
  obtain ⟨d, hd⟩ : ∃ d : Int, (hT l : Int) - hT r = d := ⟨_, rfl⟩
  have hx : evenT k v l r = if d > 1 then (if leanT l < 0 then turnR (.nd k v (turnL l) r) else turnR (.nd k v l r)) else if d < -1 then (if leanT r > 0 then turnL (.nd k v l (turnR r)) else turnL (.nd k v l r)) else .nd k v l r := by unfold evenT; rw [hd]
  have H := Aside0.mk (And.intro hl (And.intro hr hx))
  have HS := Lib.hid (show sT l + sT r ≤ 1000000 by omega)
  have HSS := Lib.hid hs
  clear hl hr hx hs
  by_cases c1 : d > 1
  · have hx := H.out.2.2
    rw [if_pos c1] at hx
    obtain ⟨a, b, ll, lr, rfl⟩ := hT_pos (t := l) (by omega)
    obtain ⟨d2, hd2⟩ : ∃ d : Int, (hT ll : Int) - hT lr = d := ⟨_, rfl⟩
    have hln : leanT (Tr.nd a b ll lr) = d2 := hd2
    rw [hln] at hx
    have b0 : decide (1 < d) = true := decide_eq_true c1
    have HD := Lib.hid hd
    have hs2 : sT ll + sT lr + 1 + sT r ≤ 800000 := HSS.out
    have HS2 := Lib.hid (show sT ll + sT lr ≤ 1000000 by omega)
    by_cases c2 : d2 < 0
    · rw [if_pos c2] at hx
      obtain ⟨a', b', l', r', rfl⟩ := hT_pos (t := lr) (by omega)
      have b1 : decide (d2 < 0) = true := decide_eq_true c2
      have HX := Lib.hid hx
      have HD2 := Lib.hid hd2
      have hs3 : sT ll + (sT l' + sT r' + 1) + 1 + sT r ≤ 800000 := hs2
      clear hx hd hd2 hln c1 c2 hs2
      go_enter Try.func45, Try.ntmps45
      go_wp2_with (fail)
      refine (join_calls k v pl pr _ r _ H.out.1 H.out.2.1 HS.out).mono ?_
      rintro e w1 ⟨p1, rfl, ht1, hb1⟩
      have HE := Aside0.mk (EV.mk (p1 := p1) ht1 (H.out.1.below hb1) (H.out.2.1.below hb1) hb1)
      clear ht1 hb1
      go_wp2_with (first | (go_at_call_of 61 (Value.pointer p1); refine (lean_eq p1 k v _ _ d _ HE.out.n HD.out HS.out).mono ?_; rintro e w' ⟨rfl, hb⟩; have HE := Aside0.mk (HE.out.step hb); clear hb) | (go_at_call_of 61 (Value.pointer pl); refine (lean_eq pl _ _ _ _ d2 _ HE.out.l HD2.out HS2.out).mono ?_; rintro e w' ⟨rfl, hb⟩; have HE := Aside0.mk (HE.out.step hb); clear hb))
      refine (turnL_calls pl a b a' b' l' r' ll _ HE.out.l (by omega)).mono ?_
      rintro e w2 ⟨p2, rfl, ht2, hb2⟩
      have HE2 := Aside0.mk (And.intro (HE.out.step hb2) ht2)
      clear ht2 hb2
      go_wp2_with (fail)
      refine (join_calls k v p2 pr _ r _ HE2.out.2 HE2.out.1.r (by simp only [sT]; omega)).mono ?_
      rintro e w3 ⟨p3, rfl, ht3, hb3⟩
      have HE3 := Aside0.mk (And.intro (HE2.out.1.step hb3) ht3)
      clear ht3 hb3
      go_wp2_with (fail)
      refine (turnR_calls p3 k v a' b' (.nd a b ll l') r' r _ HE3.out.2 (by simp only [sT]; omega)).mono ?_
      rintro e w4 ⟨p4, rfl, ht4, hb4⟩
      have HE4 := Aside0.mk (And.intro (HE3.out.1.step hb4) ht4)
      clear ht4 hb4
      go_wp2
      go_ret
      rw [HX.out]
      exact ⟨p4, rfl, HE4.out.2, HE4.out.1.b⟩
    · rw [if_neg c2] at hx
      have b1 : decide (d2 < 0) = false := decide_eq_false c2
      have HX := Lib.hid hx
      have HD2 := Lib.hid hd2
      clear hx hd hd2 hln c1 c2
      go_enter Try.func45, Try.ntmps45
      go_wp2_with (fail)
      refine (join_calls k v pl pr _ r _ H.out.1 H.out.2.1 HS.out).mono ?_
      rintro e w1 ⟨p1, rfl, ht1, hb1⟩
      have HE := Aside0.mk (EV.mk (p1 := p1) ht1 (H.out.1.below hb1) (H.out.2.1.below hb1) hb1)
      clear ht1 hb1
      go_wp2_with (first | (go_at_call_of 61 (Value.pointer p1); refine (lean_eq p1 k v _ _ d _ HE.out.n HD.out HS.out).mono ?_; rintro e w' ⟨rfl, hb⟩; have HE := Aside0.mk (HE.out.step hb); clear hb) | (go_at_call_of 61 (Value.pointer pl); refine (lean_eq pl _ _ _ _ d2 _ HE.out.l HD2.out HS2.out).mono ?_; rintro e w' ⟨rfl, hb⟩; have HE := Aside0.mk (HE.out.step hb); clear hb))
      refine (turnR_calls p1 k v a b ll lr r _ HE.out.n (by omega)).mono ?_
      rintro e w4 ⟨p4, rfl, ht4, hb4⟩
      have HE4 := Aside0.mk (And.intro (HE.out.step hb4) ht4)
      clear ht4 hb4
      go_wp2
      go_ret
      rw [HX.out]
      exact ⟨p4, rfl, HE4.out.2, HE4.out.1.b⟩
  · have hx := H.out.2.2
    rw [if_neg c1] at hx
    have b0 : decide (1 < d) = false := decide_eq_false c1
    have HD := Lib.hid hd
    by_cases c3 : d < -1
    · rw [if_pos c3] at hx
      obtain ⟨a, b, rl, rr, rfl⟩ := hT_pos (t := r) (by omega)
      obtain ⟨d2, hd2⟩ : ∃ d : Int, (hT rl : Int) - hT rr = d := ⟨_, rfl⟩
      have hln : leanT (Tr.nd a b rl rr) = d2 := hd2
      rw [hln] at hx
      have b3 : decide (d < -1) = true := decide_eq_true c3
      have hs2 : sT l + (sT rl + sT rr + 1) ≤ 800000 := HSS.out
      have HS2 := Lib.hid (show sT rl + sT rr ≤ 1000000 by omega)
      by_cases c2 : d2 > 0
      · rw [if_pos c2] at hx
        obtain ⟨a', b', l', r', rfl⟩ := hT_pos (t := rl) (by omega)
        have b1 : decide (0 < d2) = true := decide_eq_true c2
        have HX := Lib.hid hx
        have HD2 := Lib.hid hd2
        have hs3 : sT l + (sT l' + sT r' + 1 + sT rr + 1) ≤ 800000 := hs2
        clear hx hd hd2 hln c1 c2 c3 hs2
        go_enter Try.func45, Try.ntmps45
        go_wp2_with (fail)
        refine (join_calls k v pl pr l _ _ H.out.1 H.out.2.1 HS.out).mono ?_
        rintro e w1 ⟨p1, rfl, ht1, hb1⟩
        have HE := Aside0.mk (EV.mk (p1 := p1) ht1 (H.out.1.below hb1) (H.out.2.1.below hb1) hb1)
        clear ht1 hb1
        go_wp2_with (first | (go_at_call_of 61 (Value.pointer p1); refine (lean_eq p1 k v _ _ d _ HE.out.n HD.out HS.out).mono ?_; rintro e w' ⟨rfl, hb⟩; have HE := Aside0.mk (HE.out.step hb); clear hb) | (go_at_call_of 61 (Value.pointer pr); refine (lean_eq pr _ _ _ _ d2 _ HE.out.r HD2.out HS2.out).mono ?_; rintro e w' ⟨rfl, hb⟩; have HE := Aside0.mk (HE.out.step hb); clear hb))
        refine (turnR_calls pr a b a' b' l' r' rr _ HE.out.r (by omega)).mono ?_
        rintro e w2 ⟨p2, rfl, ht2, hb2⟩
        have HE2 := Aside0.mk (And.intro (HE.out.step hb2) ht2)
        clear ht2 hb2
        go_wp2_with (fail)
        refine (join_calls k v pl p2 l _ _ HE2.out.1.l HE2.out.2 (by simp only [sT]; omega)).mono ?_
        rintro e w3 ⟨p3, rfl, ht3, hb3⟩
        have HE3 := Aside0.mk (And.intro (HE2.out.1.step hb3) ht3)
        clear ht3 hb3
        go_wp2_with (fail)
        refine (turnL_calls p3 k v a' b' l' (.nd a b r' rr) l _ HE3.out.2 (by simp only [sT]; omega)).mono ?_
        rintro e w4 ⟨p4, rfl, ht4, hb4⟩
        have HE4 := Aside0.mk (And.intro (HE3.out.1.step hb4) ht4)
        clear ht4 hb4
        go_wp2
        go_ret
        rw [HX.out]
        exact ⟨p4, rfl, HE4.out.2, HE4.out.1.b⟩
      · rw [if_neg c2] at hx
        have b1 : decide (0 < d2) = false := decide_eq_false c2
        have HX := Lib.hid hx
        have HD2 := Lib.hid hd2
        clear hx hd hd2 hln c1 c2 c3
        go_enter Try.func45, Try.ntmps45
        go_wp2_with (fail)
        refine (join_calls k v pl pr l _ _ H.out.1 H.out.2.1 HS.out).mono ?_
        rintro e w1 ⟨p1, rfl, ht1, hb1⟩
        have HE := Aside0.mk (EV.mk (p1 := p1) ht1 (H.out.1.below hb1) (H.out.2.1.below hb1) hb1)
        clear ht1 hb1
        go_wp2_with (first | (go_at_call_of 61 (Value.pointer p1); refine (lean_eq p1 k v _ _ d _ HE.out.n HD.out HS.out).mono ?_; rintro e w' ⟨rfl, hb⟩; have HE := Aside0.mk (HE.out.step hb); clear hb) | (go_at_call_of 61 (Value.pointer pr); refine (lean_eq pr _ _ _ _ d2 _ HE.out.r HD2.out HS2.out).mono ?_; rintro e w' ⟨rfl, hb⟩; have HE := Aside0.mk (HE.out.step hb); clear hb))
        refine (turnL_calls p1 k v a b rl rr l _ HE.out.n (by omega)).mono ?_
        rintro e w4 ⟨p4, rfl, ht4, hb4⟩
        have HE4 := Aside0.mk (And.intro (HE.out.step hb4) ht4)
        clear ht4 hb4
        go_wp2
        go_ret
        rw [HX.out]
        exact ⟨p4, rfl, HE4.out.2, HE4.out.1.b⟩
    · rw [if_neg c3] at hx
      have b3 : decide (d < -1) = false := decide_eq_false c3
      have HX := Lib.hid hx
      clear hx hd c1 c3
      go_enter Try.func45, Try.ntmps45
      go_wp2_with (fail)
      refine (join_calls k v pl pr l r _ H.out.1 H.out.2.1 HS.out).mono ?_
      rintro e w1 ⟨p1, rfl, ht1, hb1⟩
      have HE := Aside0.mk (EV.mk (p1 := p1) ht1 (H.out.1.below hb1) (H.out.2.1.below hb1) hb1)
      clear ht1 hb1
      go_wp2_with ((go_at_call_of 61 (Value.pointer p1); refine (lean_eq p1 k v _ _ d _ HE.out.n HD.out HS.out).mono ?_; rintro e w' ⟨rfl, hb⟩; have HE := Aside0.mk (HE.out.step hb); clear hb))
      go_ret
      rw [HX.out]
      exact ⟨p1, rfl, HE.out.n, HE.out.b⟩
end Go.Proofs.Ytcnmbllafdeokaa.H
/- package table at uint64 keys and int64 values: put, find, Get, Put. -/
namespace Go.Proofs.Ytcnmbllafdeokaa.H
open Go.RowKit Go.Proofs.YtcnmbllafdeokaaW.PrintWords Go.Proofs.YtcnmbllafdeokaaW.PrintLast Go.Proofs.YtcnmbllafdeokaaW.PrintMore Go.Proofs.Ytcnmbllafdeokaa.TrM Go.Proofs.Ytcnmbllafdeokaa.AtM
set_option linter.unusedVariables false
set_option linter.unusedSimpArgs false
set_option maxRecDepth 100000

theorem isNaN_u64 (x : Int) (W : World) : Calls Try.prog 58 #[.int .u64 x] W fun e W' => e = .returned (.bool false) ∧ W = W' := by
  go_enter Try.func58, Try.ntmps58
  go_wp2
  go_ret
  simp
/-- cmp.Compare's answer. -/
def cmpN (x y : Int) : Int := if x < y then -1 else if y < x then 1 else 0
theorem cmp_u64 (x y : Int) (W : World) : Calls Try.prog 42 #[.int .u64 x, .int .u64 y] W fun e W' => e = .returned (.int .i64 (cmpN x y)) ∧ W = W' := by
  by_cases c1 : x < y
  · have e : cmpN x y = -1 := by unfold cmpN; rw [if_pos c1]
    rw [e]
    have b0 : decide (x < y) = true := decide_eq_true c1
    clear c1 e
    go_enter Try.func42, Try.ntmps42
    go_wp2_with (go_at_call 58; refine (isNaN_u64 _ _).mono ?_; rintro e w' ⟨rfl, rfl⟩)
    go_ret
    exact ⟨rfl, rfl⟩
  · by_cases c2 : y < x
    · have e : cmpN x y = 1 := by unfold cmpN; rw [if_neg c1, if_pos c2]
      rw [e]
      have b0 : decide (x < y) = false := decide_eq_false c1
      have b1 : decide (y < x) = true := decide_eq_true c2
      clear c1 c2 e
      go_enter Try.func42, Try.ntmps42
      go_wp2_with (go_at_call 58; refine (isNaN_u64 _ _).mono ?_; rintro e w' ⟨rfl, rfl⟩)
      go_ret
      exact ⟨rfl, rfl⟩
    · have e : cmpN x y = 0 := by unfold cmpN; rw [if_neg c1, if_neg c2]
      rw [e]
      have b0 : decide (x < y) = false := decide_eq_false c1
      have b1 : decide (y < x) = false := decide_eq_false c2
      clear c1 c2 e
      go_enter Try.func42, Try.ntmps42
      go_wp2_with (go_at_call 58; refine (isNaN_u64 _ _).mono ?_; rintro e w' ⟨rfl, rfl⟩)
      go_ret
      exact ⟨rfl, rfl⟩
theorem cmp_u64_eq (x y c : Int) (W : World) (hc : cmpN x y = c) : Calls Try.prog 42 #[.int .u64 x, .int .u64 y] W fun e W' => e = .returned (.int .i64 c) ∧ W = W' := by
  subst hc; exact cmp_u64 x y W
theorem sT_put (k v : Int) : ∀ t : TN, sT (putT ltN k v t) ≤ sT t + 1 := by
  intro t
  induction t with
  | lf => simp [putT, sT]
  | nd k' v' l r hl hr =>
    have he : ∀ (a b : Int) (x y : TN), sT (evenT a b x y) = sT x + sT y + 1 := fun a b x y => by
      rw [sT_flat, flat_even, List.length_append, List.length_cons, ← sT_flat, ← sT_flat]; omega
    unfold putT
    split
    · rw [he]; simp only [sT]; omega
    · split
      · rw [he]; simp only [sT]; omega
      · simp only [sT]; omega
/-- What put has in hand at a node. -/
structure PV (W : World) (g : Nat) (k v : Int) (pl pr : Option Addr) (h s : Int) (l r : TN) (w : World) : Prop where
  n : w.heap[g]? = some (.cells (ndCells k v pl pr h s) 61 (0, 0))
  l : TrAt w pl l
  r : TrAt w pr r
  b : Below W.heap.size W w
theorem PV.step {W : World} {g : Nat} {k v : Int} {pl pr : Option Addr} {h s : Int} {l r : TN} {w w' : World} (p : PV W g k v pl pr h s l r w) (hb : Below w.heap.size w w') : PV W g k v pl pr h s l r w' := ⟨blk_belowX p.n hb, p.l.below hb, p.r.below hb, below_step p.b hb⟩
theorem PV.drew {W : World} {g : Nat} {k v : Int} {pl pr : Option Addr} {h s : Int} {l r : TN} {w : World} (p : PV W g k v pl pr h s l r w) : PV W g k v pl pr h s l r w.drew := p.step ⟨rfl, rfl, rfl, Nat.le_refl _, fun _ _ => rfl⟩
set_option maxHeartbeats 3200000 in
theorem put_calls (k v : Int) : ∀ (t : TN) (p : Option Addr) (W : World), TrAt W p t → sT t ≤ 700000 →
    Calls Try.prog 34 #[.pointer p, .int .u64 k, .int .i64 v] W fun e W' => ∃ p', e = .returned (.pointer p') ∧ TrAt W' p' (putT ltN k v t) ∧ Below W.heap.size W W' := by
  intro t
  induction t with
  | lf =>
    intro p W h hs
    obtain rfl : p = none := h
    go_enter Try.func34, Try.ntmps34
    go_wp2_with (fail)
    refine (join_calls k v none none .lf .lf _ rfl rfl (by simp [sT])).mono ?_
    rintro e w1 ⟨p1, rfl, ht1, hb1⟩
    have H1 := Aside0.mk (And.intro ht1 hb1)
    clear ht1 hb1
    go_wp2
    go_ret
    exact ⟨p1, rfl, H1.out⟩
  | nd k' v' l r hl hr =>
    intro p W h hs
    obtain ⟨g, pl, pr, rfl, hb, h1, h2⟩ := h
    obtain ⟨z0, z1, z2, z3, z4, z5⟩ := nd_cells hb
    have hs' : sT l + sT r + 1 ≤ 700000 := hs
    have HP := Aside0.mk (PV.mk hb h1 h2 (Below.refl W.heap.size W))
    have HL := Aside0.mk hl
    have HR := Aside0.mk hr
    have hsl := sT_put k v l
    have hsr := sT_put k v r
    clear h1 h2 hb hl hr z4 z5 hs
    by_cases c1 : k < k'
    · have hx : putT ltN k v (.nd k' v' l r) = evenT k' v' (putT ltN k v l) r := by simp [putT, ltN, c1]
      have hc : cmpN k k' = -1 := by unfold cmpN; rw [if_pos c1]
      have HX := Lib.hid hx
      have HC := Lib.hid hc
      clear hx hc c1
      go_enter Try.func34, Try.ntmps34
      go_wp2_with (go_at_call 42; refine (cmp_u64_eq k k' (-1) _ HC.out).mono ?_; rintro e w' ⟨rfl, rfl⟩)
      go_region_held3 (fun w' => w'.cell? ⟨g, 0, none⟩ = some (.int .u64 k') ∧ w'.cell? ⟨g, 1, none⟩ = some (.int .i64 v') ∧ w'.cell? ⟨g, 2, none⟩ = some (.pointer pl) ∧ w'.cell? ⟨g, 3, none⟩ = some (.pointer pr)) (first | (with_reducible exact KK.out) | go_keep)
        (first
          | (go_at_call 34; refine (HL.out pl _ HP.out.drew.l (by omega)).mono ?_; rintro e w1 ⟨p1, rfl, ht1, hb1⟩; have HP1 := Aside0.mk (And.intro (HP.out.drew.step hb1) ht1); have KK := Aside0.mk (nd_keep HP1.out.1.n); clear ht1 hb1)
          | (go_at_call 45; refine (even_calls k' v' p1 pr (putT ltN k v l) r _ HP1.out.2 HP1.out.1.r (by omega)).mono ?_; rintro e w2 ⟨p2, rfl, ht2, hb2⟩; have HP2 := Aside0.mk (And.intro (HP1.out.1.step hb2) ht2); have KK := Aside0.mk (nd_keep HP2.out.1.n); clear ht2 hb2))
      all_goals
        go_wp2
        go_ret
        rw [HX.out]
        exact ⟨p2, rfl, HP2.out.2, HP2.out.1.b⟩
    · by_cases c2 : k' < k
      · have hx : putT ltN k v (.nd k' v' l r) = evenT k' v' l (putT ltN k v r) := by simp [putT, ltN, c1, c2]
        have hc : cmpN k k' = 1 := by unfold cmpN; rw [if_neg c1, if_pos c2]
        have HX := Lib.hid hx
        have HC := Lib.hid hc
        clear hx hc c1 c2
        go_enter Try.func34, Try.ntmps34
        go_wp2_with (go_at_call 42; refine (cmp_u64_eq k k' 1 _ HC.out).mono ?_; rintro e w' ⟨rfl, rfl⟩)
        go_region_held3 (fun w' => w'.cell? ⟨g, 0, none⟩ = some (.int .u64 k') ∧ w'.cell? ⟨g, 1, none⟩ = some (.int .i64 v') ∧ w'.cell? ⟨g, 2, none⟩ = some (.pointer pl) ∧ w'.cell? ⟨g, 3, none⟩ = some (.pointer pr)) (first | (with_reducible exact KK.out) | go_keep)
          (first
            | (go_at_call 34; refine (HR.out pr _ HP.out.drew.r (by omega)).mono ?_; rintro e w1 ⟨p1, rfl, ht1, hb1⟩; have HP1 := Aside0.mk (And.intro (HP.out.drew.step hb1) ht1); have KK := Aside0.mk (nd_keep HP1.out.1.n); clear ht1 hb1)
            | (go_at_call 45; refine (even_calls k' v' pl p1 l (putT ltN k v r) _ HP1.out.1.l HP1.out.2 (by omega)).mono ?_; rintro e w2 ⟨p2, rfl, ht2, hb2⟩; have HP2 := Aside0.mk (And.intro (HP1.out.1.step hb2) ht2); have KK := Aside0.mk (nd_keep HP2.out.1.n); clear ht2 hb2))
        all_goals
          go_wp2
          go_ret
          rw [HX.out]
          exact ⟨p2, rfl, HP2.out.2, HP2.out.1.b⟩
      · have hx : putT ltN k v (.nd k' v' l r) = .nd k v l r := by simp [putT, ltN, c1, c2]
        have hc : cmpN k k' = 0 := by unfold cmpN; rw [if_neg c1, if_neg c2]
        have HX := Lib.hid hx
        have HC := Lib.hid hc
        clear hx hc c1 c2
        go_enter Try.func34, Try.ntmps34
        go_wp2_with (go_at_call 42; refine (cmp_u64_eq k k' 0 _ HC.out).mono ?_; rintro e w' ⟨rfl, rfl⟩)
        go_region_held3 (fun w' => w'.cell? ⟨g, 0, none⟩ = some (.int .u64 k') ∧ w'.cell? ⟨g, 1, none⟩ = some (.int .i64 v') ∧ w'.cell? ⟨g, 2, none⟩ = some (.pointer pl) ∧ w'.cell? ⟨g, 3, none⟩ = some (.pointer pr)) (first | (with_reducible exact KK.out) | go_keep)
          ((go_at_call 44; refine (join_calls k v pl pr l r _ HP.out.drew.l HP.out.drew.r (by omega)).mono ?_; rintro e w1 ⟨p1, rfl, ht1, hb1⟩; have HP1 := Aside0.mk (And.intro (HP.out.drew.step hb1) ht1); have KK := Aside0.mk (nd_keep HP1.out.1.n); clear ht1 hb1))
        all_goals
          go_wp2
          go_ret
          rw [HX.out]
          exact ⟨p1, rfl, HP1.out.2, HP1.out.1.b⟩
end Go.Proofs.Ytcnmbllafdeokaa.H
