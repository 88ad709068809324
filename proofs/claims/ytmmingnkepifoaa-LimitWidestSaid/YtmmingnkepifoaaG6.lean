/- Some texts of one seat in one file, in build order. -/
import Derived.Test.YtmmingnkepifoaaG1
import Derived.Test.YtmmingnkepifoaaG3
import Derived.Deep.RegionHeld3
import Derived.LaidEqlPtr
import Derived.Deep.LoopGhost
/- package table at uint64 keys and int64 values: trees in memory; join, even, put, find. -/
namespace Go.Proofs.Ytmmingnkepifoaa.H
open Go.RowKit Go.Proofs.YtmmingnkepifoaaW.PrintWords Go.Proofs.YtmmingnkepifoaaW.PrintLast Go.Proofs.YtmmingnkepifoaaW.PrintMore Go.Proofs.Ytmmingnkepifoaa.TrM Go.Proofs.Ytmmingnkepifoaa.AtM
set_option linter.unusedVariables false
set_option linter.unusedSimpArgs false
set_option maxRecDepth 100000

abbrev TN := Tr Int Int
abbrev ndCells (k v : Int) (pl pr : Option Addr) (h s : Int) : Array Value := #[.int .u64 k, .int .i64 v, .pointer pl, .pointer pr, .int .i64 h, .int .i64 s]
/-- A tree in memory. -/
def TrAt (W : World) : Option Addr → TN → Prop
  | p, .lf => p = none
  | p, .nd k v l r => ∃ g pl pr, p = some ⟨g, 0, none⟩ ∧ W.heap[g]? = some (.cells (ndCells k v pl pr (hT (.nd k v l r)) (sT (.nd k v l r))) 91 (0, 0)) ∧ TrAt W pl l ∧ TrAt W pr r
theorem TrAt.mono {W W' : World} (hw : ∀ (g : Nat) (cs : Array Value), W.heap[g]? = some (.cells cs 91 (0, 0)) → W'.heap[g]? = some (.cells cs 91 (0, 0))) : ∀ {t : TN} {p : Option Addr}, TrAt W p t → TrAt W' p t := by
  intro t
  induction t with
  | lf => intro p h; exact h
  | nd k v l r hl hr =>
    rintro p ⟨g, pl, pr, e, hb, h1, h2⟩
    exact ⟨g, pl, pr, e, hw _ _ hb, hl h1, hr h2⟩
theorem TrAt.below {W W' : World} (hb : Below W.heap.size W W') {t : TN} {p : Option Addr} (h : TrAt W p t) : TrAt W' p t := h.mono (fun g cs hg => blk_belowX hg hb)
theorem TrAt.drew {W : World} {t : TN} {p : Option Addr} (h : TrAt W p t) : TrAt W.drew p t := by
  refine TrAt.mono (W := W) (W' := W.drew) (fun g cs hg => ?_) h
  exact hg
theorem TrAt.drewN {W : World} {t : TN} {p : Option Addr} (n : Nat) (h : TrAt W p t) : TrAt (W.drewN n) p t := by
  refine TrAt.mono (W := W) (W' := W.drewN n) (fun g cs hg => ?_) h
  exact hg
theorem quietL {P : Program} {f : FuncId} {args : Array Value} {w : World} {n : Nat} {v : Value}
    (h : Calls P f args (w.drewN n) fun e w' => e = .returned v ∧ w.drewN n = w') : Calls P f args (w.drewN n) fun e w'' => e = .returned v ∧ ∃ m, w'' = w.drewN m :=
  h.mono fun _ _ ⟨he, hm⟩ => ⟨he, n, hm.symm⟩
theorem nd_cells {W : World} {g : Nat} {k v : Int} {pl pr : Option Addr} {h s : Int} {t : TypeId} (hb : W.heap[g]? = some (.cells (ndCells k v pl pr h s) t (0, 0))) :
    W.cell? ⟨g, 0, none⟩ = some (.int .u64 k) ∧ W.cell? ⟨g, 1, none⟩ = some (.int .i64 v) ∧ W.cell? ⟨g, 2, none⟩ = some (.pointer pl) ∧ W.cell? ⟨g, 3, none⟩ = some (.pointer pr) ∧ W.cell? ⟨g, 4, none⟩ = some (.int .i64 h) ∧ W.cell? ⟨g, 5, none⟩ = some (.int .i64 s) := by
  refine ⟨?_, ?_, ?_, ?_, ?_, ?_⟩ <;> · rw [blk_cell hb]; rfl
theorem height_eq (p : Option Addr) (t : TN) (n : Int) (W : World) (h : TrAt W p t) (hn : (hT t : Int) = n) : Calls Try.prog 84 #[.pointer p] W fun e W' => e = .returned (.int .i64 n) ∧ W = W' := by
  subst hn
  cases t with
  | lf =>
    obtain rfl : p = none := h
    go_enter Try.func84, Try.ntmps84
    go_wp2
    go_ret
    exact ⟨rfl, rfl⟩
  | nd k v l r =>
    obtain ⟨g, pl, pr, rfl, hb, _, _⟩ := h
    obtain ⟨z0, z1, z2, z3, z4, z5⟩ := nd_cells hb
    clear hb
    go_enter Try.func84, Try.ntmps84
    go_wp2
    go_ret
    exact ⟨rfl, rfl⟩
theorem size_eq (p : Option Addr) (t : TN) (n : Int) (W : World) (h : TrAt W p t) (hn : (sT t : Int) = n) : Calls Try.prog 85 #[.pointer p] W fun e W' => e = .returned (.int .i64 n) ∧ W = W' := by
  subst hn
  cases t with
  | lf =>
    obtain rfl : p = none := h
    go_enter Try.func85, Try.ntmps85
    go_wp2
    go_ret
    exact ⟨rfl, rfl⟩
  | nd k v l r =>
    obtain ⟨g, pl, pr, rfl, hb, _, _⟩ := h
    obtain ⟨z0, z1, z2, z3, z4, z5⟩ := nd_cells hb
    clear hb
    go_enter Try.func85, Try.ntmps85
    go_wp2
    go_ret
    exact ⟨rfl, rfl⟩
set_option maxHeartbeats 800000 in
theorem join_calls (k v : Int) (pl pr : Option Addr) (l r : TN) (W : World) (hl : TrAt W pl l) (hr : TrAt W pr r) (hs : sT l + sT r ≤ 1000000) :
    Calls Try.prog 69 #[.int .u64 k, .int .i64 v, .pointer pl, .pointer pr] W fun e W' => ∃ p, e = .returned (.pointer p) ∧ TrAt W' p (.nd k v l r) ∧ Below W.heap.size W W' := by
  obtain ⟨h1, hh1⟩ : ∃ n : Int, (hT l : Int) = n := ⟨_, rfl⟩
  obtain ⟨h2, hh2⟩ : ∃ n : Int, (hT r : Int) = n := ⟨_, rfl⟩
  obtain ⟨s1, hs1⟩ : ∃ n : Int, (sT l : Int) = n := ⟨_, rfl⟩
  obtain ⟨s2, hs2⟩ : ∃ n : Int, (sT r : Int) = n := ⟨_, rfl⟩
  have b1 := hT_le l
  have b2 := hT_le r
  have k1 : 0 ≤ h1 := by omega
  have k2 : h1 ≤ 1000000 := by omega
  have k3 : 0 ≤ h2 := by omega
  have k4 : h2 ≤ 1000000 := by omega
  have k5 : 0 ≤ s1 := by omega
  have k6 : s1 ≤ 1000000 := by omega
  have k7 : 0 ≤ s2 := by omega
  have k8 : s2 ≤ 1000000 := by omega
  have H := Aside0.mk (And.intro hl (And.intro hr (And.intro hh1 (And.intro hh2 (And.intro hs1 hs2)))))
  clear hl hr hh1 hh2 hs1 hs2 b1 b2 hs
  go_enter Try.func69, Try.ntmps69
  go_wp2_with (first
    | ((with_reducible refine (height_eq pl l h1 _ H.out.1 H.out.2.2.1).mono ?_); rintro e w' ⟨rfl, rfl⟩)
    | ((with_reducible refine (height_eq pr r h2 _ H.out.2.1 H.out.2.2.2.1).mono ?_); rintro e w' ⟨rfl, rfl⟩)
    | ((with_reducible refine (size_eq pl l s1 _ H.out.1 H.out.2.2.2.2.1).mono ?_); rintro e w' ⟨rfl, rfl⟩)
    | ((with_reducible refine (size_eq pr r s2 _ H.out.2.1 H.out.2.2.2.2.2).mono ?_); rintro e w' ⟨rfl, rfl⟩))
  all_goals
    go_ret
    obtain ⟨q1, q2, q3, q4, q5, q6⟩ := H.out
    have hb : Below W.heap.size W (W.alloc (.cells #[] 0)) := below_alloc (Below.refl _ _) _
    refine ⟨_, rfl, ⟨W.heap.size, pl, pr, rfl, ?_, q1.below (below_alloc (Below.refl _ _) _), q2.below (below_alloc (Below.refl _ _) _)⟩, below_alloc (Below.refl _ _) _⟩
    rw [blk_new]
    have e2 : ((sT (Tr.nd k v l r) : Nat) : Int) = s1 + s2 + 1 := by simp only [sT]; omega
    rw [e2]
    first
      | (have e1 : ((hT (Tr.nd k v l r) : Nat) : Int) = h1 + 1 := (by simp only [hT]; omega); rw [e1])
      | (have e1 : ((hT (Tr.nd k v l r) : Nat) : Int) = h2 + 1 := (by simp only [hT]; omega); rw [e1])
set_option maxHeartbeats 800000 in
theorem lean_eq (p : Option Addr) (k v : Int) (l r : TN) (n : Int) (W : World) (h : TrAt W p (.nd k v l r)) (hn : (hT l : Int) - hT r = n) (hs : sT l + sT r ≤ 1000000) :
    Calls Try.prog 86 #[.pointer p] W fun e W' => e = .returned (.int .i64 n) ∧ Below W.heap.size W W' := by
  subst hn
  obtain ⟨g, pl, pr, rfl, hb, h1, h2⟩ := h
  obtain ⟨z0, z1, z2, z3, z4, z5⟩ := nd_cells hb
  obtain ⟨n1, hn1⟩ : ∃ n : Int, (hT l : Int) = n := ⟨_, rfl⟩
  obtain ⟨n2, hn2⟩ : ∃ n : Int, (hT r : Int) = n := ⟨_, rfl⟩
  have b1 := hT_le l
  have b2 := hT_le r
  have k1 : 0 ≤ n1 := by omega
  have k2 : n1 ≤ 1000000 := by omega
  have k3 : 0 ≤ n2 := by omega
  have k4 : n2 ≤ 1000000 := by omega
  have hw : IntKind.i64.wrap (n1 - n2) = n1 - n2 := by rw [IntKind.wrap_i64]; omega
  have H := Aside0.mk (And.intro h1 (And.intro h2 (And.intro hn1 hn2)))
  rw [hn1, hn2]
  clear h1 h2 hn1 hn2 hb b1 b2 hs
  go_enter Try.func86, Try.ntmps86
  go_wp2
  go_quiet ((first | (go_at_call_of 84 (Value.pointer pl); with_reducible exact quietL (height_eq pl l n1 _ (TrAt.drewN _ H.out.1) H.out.2.2.1)) | (go_at_call_of 84 (Value.pointer pr); with_reducible exact quietL (height_eq pr r n2 _ (TrAt.drewN _ H.out.2.1) H.out.2.2.2))))
  go_wp2
  go_ret
  exact ⟨rfl, pw_below_drewN (Below.refl _ _) _⟩
theorem nd_keep {W : World} {g : Nat} {k v : Int} {pl pr : Option Addr} {h s : Int} {t : TypeId} (hb : W.heap[g]? = some (.cells (ndCells k v pl pr h s) t (0, 0))) :
    W.cell? ⟨g, 0, none⟩ = some (.int .u64 k) ∧ W.cell? ⟨g, 1, none⟩ = some (.int .i64 v) ∧ W.cell? ⟨g, 2, none⟩ = some (.pointer pl) ∧ W.cell? ⟨g, 3, none⟩ = some (.pointer pr) := by
  obtain ⟨a, b, c, d, _⟩ := nd_cells hb; exact ⟨a, b, c, d⟩
set_option maxHeartbeats 1600000 in
theorem turnR_calls (p : Option Addr) (k v k' v' : Int) (l' r' r : TN) (W : World) (h : TrAt W p (.nd k v (.nd k' v' l' r') r)) (hs : sT l' + sT r' + sT r ≤ 900000) :
    Calls Try.prog 87 #[.pointer p] W fun e W' => ∃ p, e = .returned (.pointer p) ∧ TrAt W' p (.nd k' v' l' (.nd k v r' r)) ∧ Below W.heap.size W W' := by
  obtain ⟨g, _, pr, rfl, hb, ⟨g', pl', pr', rfl, hb', h3, h4⟩, h2⟩ := h
  obtain ⟨z0, z1, z2, z3, z4, z5⟩ := nd_cells hb
  obtain ⟨y0, y1, y2, y3, y4, y5⟩ := nd_cells hb'
  have hg := lt_of_some hb
  have hg' := lt_of_some hb'
  have H := Aside0.mk (And.intro h2 (And.intro h3 (And.intro h4 (And.intro hb hb'))))
  clear h2 h3 h4 hb hb'
  go_enter Try.func87, Try.ntmps87
  go_wp2_with (fail)
  go_region_held3 (fun w' => (w'.cell? ⟨g, 0, none⟩ = some (.int .u64 k) ∧ w'.cell? ⟨g, 1, none⟩ = some (.int .i64 v) ∧ w'.cell? ⟨g, 2, none⟩ = some (.pointer (some ⟨g', 0, none⟩)) ∧ w'.cell? ⟨g, 3, none⟩ = some (.pointer pr)) ∧ (w'.cell? ⟨g', 0, none⟩ = some (.int .u64 k') ∧ w'.cell? ⟨g', 1, none⟩ = some (.int .i64 v') ∧ w'.cell? ⟨g', 2, none⟩ = some (.pointer pl') ∧ w'.cell? ⟨g', 3, none⟩ = some (.pointer pr'))) (first | (with_reducible exact KK.out) | go_keep)
    (first
      | (go_at_call 69; have KZ := H; refine (join_calls k v pr' pr r' r _ ?a1 ?a2 (by omega)).mono ?_; (case a1 => exact H.out.2.2.1.drew); (case a2 => exact H.out.1.drew); rintro e w1 ⟨p1, rfl, ht1, hb1'⟩; have hb1 : Below W.heap.size W w1 := ⟨hb1'.os, hb1'.tape, hb1'.output, hb1'.size, hb1'.block⟩; have KK := Aside0.mk (And.intro (nd_keep (blk_belowX H.out.2.2.2.1 hb1)) (nd_keep (blk_belowX H.out.2.2.2.2 hb1))); have H1 := Aside0.mk (And.intro ht1 (And.intro hb1 (And.intro (H.out.1.below hb1) (And.intro (H.out.2.1.below hb1) (And.intro (H.out.2.2.1.below hb1) (And.intro (blk_belowX H.out.2.2.2.1 hb1) (blk_belowX H.out.2.2.2.2 hb1))))))); clear ht1 hb1 hb1' H KZ)
      | (go_at_call 69; have KZ := H1; refine (join_calls k' v' pl' p1 l' (.nd k v r' r) _ ?a1 ?a2 (by simp only [sT]; omega)).mono ?_; (case a1 => exact H1.out.2.2.2.1); (case a2 => exact H1.out.1); rintro e w2 ⟨p2, rfl, ht2, hb2⟩; have KK := Aside0.mk (And.intro (nd_keep (blk_belowX H1.out.2.2.2.2.2.1 hb2)) (nd_keep (blk_belowX H1.out.2.2.2.2.2.2 hb2))); have H2 := Aside0.mk (And.intro ht2 (below_step H1.out.2.1 hb2)); clear ht2 hb2 KZ))
  all_goals
    go_wp2
    go_ret
    exact ⟨p2, rfl, H2.out⟩
set_option maxHeartbeats 1600000 in
theorem turnL_calls (p : Option Addr) (k v k' v' : Int) (l' r' r : TN) (W : World) (h : TrAt W p (.nd k v r (.nd k' v' l' r'))) (hs : sT l' + sT r' + sT r ≤ 900000) :
    Calls Try.prog 88 #[.pointer p] W fun e W' => ∃ p, e = .returned (.pointer p) ∧ TrAt W' p (.nd k' v' (.nd k v r l') r') ∧ Below W.heap.size W W' := by
  obtain ⟨g, pr, _, rfl, hb, h2, ⟨g', pl', pr', rfl, hb', h3, h4⟩⟩ := h
  obtain ⟨z0, z1, z2, z3, z4, z5⟩ := nd_cells hb
  obtain ⟨y0, y1, y2, y3, y4, y5⟩ := nd_cells hb'
  have hg := lt_of_some hb
  have hg' := lt_of_some hb'
  have H := Aside0.mk (And.intro h2 (And.intro h3 (And.intro h4 (And.intro hb hb'))))
  clear h2 h3 h4 hb hb'
  go_enter Try.func88, Try.ntmps88
  go_wp2_with (fail)
  go_region_held3 (fun w' => (w'.cell? ⟨g, 0, none⟩ = some (.int .u64 k) ∧ w'.cell? ⟨g, 1, none⟩ = some (.int .i64 v) ∧ w'.cell? ⟨g, 2, none⟩ = some (.pointer pr) ∧ w'.cell? ⟨g, 3, none⟩ = some (.pointer (some ⟨g', 0, none⟩))) ∧ (w'.cell? ⟨g', 0, none⟩ = some (.int .u64 k') ∧ w'.cell? ⟨g', 1, none⟩ = some (.int .i64 v') ∧ w'.cell? ⟨g', 2, none⟩ = some (.pointer pl') ∧ w'.cell? ⟨g', 3, none⟩ = some (.pointer pr'))) (first | (with_reducible exact KK.out) | go_keep)
    (first
      | (go_at_call 69; have KZ := H; refine (join_calls k v pr pl' r l' _ ?a1 ?a2 (by omega)).mono ?_; (case a1 => exact H.out.1.drew); (case a2 => exact H.out.2.1.drew); rintro e w1 ⟨p1, rfl, ht1, hb1'⟩; have hb1 : Below W.heap.size W w1 := ⟨hb1'.os, hb1'.tape, hb1'.output, hb1'.size, hb1'.block⟩; have KK := Aside0.mk (And.intro (nd_keep (blk_belowX H.out.2.2.2.1 hb1)) (nd_keep (blk_belowX H.out.2.2.2.2 hb1))); have H1 := Aside0.mk (And.intro ht1 (And.intro hb1 (And.intro (H.out.1.below hb1) (And.intro (H.out.2.1.below hb1) (And.intro (H.out.2.2.1.below hb1) (And.intro (blk_belowX H.out.2.2.2.1 hb1) (blk_belowX H.out.2.2.2.2 hb1))))))); clear ht1 hb1 hb1' H KZ)
      | (go_at_call 69; have KZ := H1; refine (join_calls k' v' p1 pr' (.nd k v r l') r' _ ?a1 ?a2 (by simp only [sT]; omega)).mono ?_; (case a1 => exact H1.out.1); (case a2 => exact H1.out.2.2.2.2.1); rintro e w2 ⟨p2, rfl, ht2, hb2⟩; have KK := Aside0.mk (And.intro (nd_keep (blk_belowX H1.out.2.2.2.2.2.1 hb2)) (nd_keep (blk_belowX H1.out.2.2.2.2.2.2 hb2))); have H2 := Aside0.mk (And.intro ht2 (below_step H1.out.2.1 hb2)); clear ht2 hb2 KZ))
  all_goals
    go_wp2
    go_ret
    exact ⟨p2, rfl, H2.out⟩
end Go.Proofs.Ytmmingnkepifoaa.H
/- package table at uint64 keys and int64 values: even. -/
namespace Go.Proofs.Ytmmingnkepifoaa.H
open Go.RowKit Go.Proofs.YtmmingnkepifoaaW.PrintWords Go.Proofs.YtmmingnkepifoaaW.PrintLast Go.Proofs.YtmmingnkepifoaaW.PrintMore Go.Proofs.Ytmmingnkepifoaa.TrM Go.Proofs.Ytmmingnkepifoaa.AtM
set_option linter.unusedVariables false
set_option linter.unusedSimpArgs false
set_option maxRecDepth 100000

theorem sT_turnR (t : TN) : sT (turnR t) = sT t := by rw [sT_flat, sT_flat, flat_turnR]
theorem sT_turnL (t : TN) : sT (turnL t) = sT t := by rw [sT_flat, sT_flat, flat_turnL]
/-- What abides in even. -/
structure EV (W : World) (p1 pl pr : Option Addr) (tn l r : TN) (w : World) : Prop where
  n : TrAt w p1 tn
  l : TrAt w pl l
  r : TrAt w pr r
  b : Below W.heap.size W w
theorem EV.step {W : World} {p1 pl pr : Option Addr} {tn l r : TN} {w w' : World} (h : EV W p1 pl pr tn l r w) (hb : Below w.heap.size w w') : EV W p1 pl pr tn l r w' := ⟨h.n.below hb, h.l.below hb, h.r.below hb, below_step h.b hb⟩
set_option maxHeartbeats 3200000 in
theorem even_calls (k v : Int) (pl pr : Option Addr) (l r : TN) (W : World) (hl : TrAt W pl l) (hr : TrAt W pr r) (hs : sT l + sT r ≤ 800000) :
    Calls Try.prog 70 #[.int .u64 k, .int .i64 v, .pointer pl, .pointer pr] W fun e W' => ∃ p, e = .returned (.pointer p) ∧ TrAt W' p (evenT k v l r) ∧ Below W.heap.size W W' := by
  obtain ⟨d, hd⟩ : ∃ d : Int, (hT l : Int) - hT r = d := ⟨_, rfl⟩
  have hx : evenT k v l r = if d > 1 then (if leanT l < 0 then turnR (.nd k v (turnL l) r) else turnR (.nd k v l r)) else if d < -1 then (if leanT r > 0 then turnL (.nd k v l (turnR r)) else turnL (.nd k v l r)) else .nd k v l r := by unfold evenT; rw [hd]
  have H := Aside0.mk (And.intro hl (And.intro hr hx))
  have HS := Lib.hid (show sT l + sT r ≤ 1000000 by omega)
  have HSS := Lib.hid hs
  clear hl hr hx hs
  by_cases c1 : d > 1
  · have hx := H.out.2.2
    rw [if_pos c1] at hx
    obtain ⟨a, b, ll, lr, rfl⟩ := hT_pos (t := l) (by omega)
    obtain ⟨d2, hd2⟩ : ∃ d : Int, (hT ll : Int) - hT lr = d := ⟨_, rfl⟩
    have hln : leanT (Tr.nd a b ll lr) = d2 := hd2
    rw [hln] at hx
    have b0 : decide (1 < d) = true := decide_eq_true c1
    have HD := Lib.hid hd
    have hs2 : sT ll + sT lr + 1 + sT r ≤ 800000 := HSS.out
    have HS2 := Lib.hid (show sT ll + sT lr ≤ 1000000 by omega)
    by_cases c2 : d2 < 0
    · rw [if_pos c2] at hx
      obtain ⟨a', b', l', r', rfl⟩ := hT_pos (t := lr) (by omega)
      have b1 : decide (d2 < 0) = true := decide_eq_true c2
      have HX := Lib.hid hx
      have HD2 := Lib.hid hd2
      have hs3 : sT ll + (sT l' + sT r' + 1) + 1 + sT r ≤ 800000 := hs2
      clear hx hd hd2 hln c1 c2 hs2
      go_enter Try.func70, Try.ntmps70
      go_wp2_with (fail)
      refine (join_calls k v pl pr _ r _ H.out.1 H.out.2.1 HS.out).mono ?_
      rintro e w1 ⟨p1, rfl, ht1, hb1⟩
      have HE := Aside0.mk (EV.mk (p1 := p1) ht1 (H.out.1.below hb1) (H.out.2.1.below hb1) hb1)
      clear ht1 hb1
      go_wp2_with (first | (go_at_call_of 86 (Value.pointer p1); refine (lean_eq p1 k v _ _ d _ HE.out.n HD.out HS.out).mono ?_; rintro e w' ⟨rfl, hb⟩; have HE := Aside0.mk (HE.out.step hb); clear hb) | (go_at_call_of 86 (Value.pointer pl); refine (lean_eq pl _ _ _ _ d2 _ HE.out.l HD2.out HS2.out).mono ?_; rintro e w' ⟨rfl, hb⟩; have HE := Aside0.mk (HE.out.step hb); clear hb))
      refine (turnL_calls pl a b a' b' l' r' ll _ HE.out.l (by omega)).mono ?_
      rintro e w2 ⟨p2, rfl, ht2, hb2⟩
      have HE2 := Aside0.mk (And.intro (HE.out.step hb2) ht2)
      clear ht2 hb2
      go_wp2_with (fail)
      refine (join_calls k v p2 pr _ r _ HE2.out.2 HE2.out.1.r (by simp only [sT]; omega)).mono ?_
      rintro e w3 ⟨p3, rfl, ht3, hb3⟩
      have HE3 := Aside0.mk (And.intro (HE2.out.1.step hb3) ht3)
      clear ht3 hb3
      go_wp2_with (fail)
      refine (turnR_calls p3 k v a' b' (.nd a b ll l') r' r _ HE3.out.2 (by simp only [sT]; omega)).mono ?_
      rintro e w4 ⟨p4, rfl, ht4, hb4⟩
      have HE4 := Aside0.mk (And.intro (HE3.out.1.step hb4) ht4)
      clear ht4 hb4
      go_wp2
      go_ret
      rw [HX.out]
      exact ⟨p4, rfl, HE4.out.2, HE4.out.1.b⟩
    · rw [if_neg c2] at hx
      have b1 : decide (d2 < 0) = false := decide_eq_false c2
      have HX := Lib.hid hx
      have HD2 := Lib.hid hd2
      clear hx hd hd2 hln c1 c2
      go_enter Try.func70, Try.ntmps70
      go_wp2_with (fail)
      refine (join_calls k v pl pr _ r _ H.out.1 H.out.2.1 HS.out).mono ?_
      rintro e w1 ⟨p1, rfl, ht1, hb1⟩
      have HE := Aside0.mk (EV.mk (p1 := p1) ht1 (H.out.1.below hb1) (H.out.2.1.below hb1) hb1)
      clear ht1 hb1
      go_wp2_with (first | (go_at_call_of 86 (Value.pointer p1); refine (lean_eq p1 k v _ _ d _ HE.out.n HD.out HS.out).mono ?_; rintro e w' ⟨rfl, hb⟩; have HE := Aside0.mk (HE.out.step hb); clear hb) | (go_at_call_of 86 (Value.pointer pl); refine (lean_eq pl _ _ _ _ d2 _ HE.out.l HD2.out HS2.out).mono ?_; rintro e w' ⟨rfl, hb⟩; have HE := Aside0.mk (HE.out.step hb); clear hb))
      refine (turnR_calls p1 k v a b ll lr r _ HE.out.n (by omega)).mono ?_
      rintro e w4 ⟨p4, rfl, ht4, hb4⟩
      have HE4 := Aside0.mk (And.intro (HE.out.step hb4) ht4)
      clear ht4 hb4
      go_wp2
      go_ret
      rw [HX.out]
      exact ⟨p4, rfl, HE4.out.2, HE4.out.1.b⟩
  · have hx := H.out.2.2
    rw [if_neg c1] at hx
    have b0 : decide (1 < d) = false := decide_eq_false c1
    have HD := Lib.hid hd
    by_cases c3 : d < -1
    · rw [if_pos c3] at hx
      obtain ⟨a, b, rl, rr, rfl⟩ := hT_pos (t := r) (by omega)
      obtain ⟨d2, hd2⟩ : ∃ d : Int, (hT rl : Int) - hT rr = d := ⟨_, rfl⟩
      have hln : leanT (Tr.nd a b rl rr) = d2 := hd2
      rw [hln] at hx
      have b3 : decide (d < -1) = true := decide_eq_true c3
      have hs2 : sT l + (sT rl + sT rr + 1) ≤ 800000 := HSS.out
      have HS2 := Lib.hid (show sT rl + sT rr ≤ 1000000 by omega)
      by_cases c2 : d2 > 0
      · rw [if_pos c2] at hx
        obtain ⟨a', b', l', r', rfl⟩ := hT_pos (t := rl) (by omega)
        have b1 : decide (0 < d2) = true := decide_eq_true c2
        have HX := Lib.hid hx
        have HD2 := Lib.hid hd2
        have hs3 : sT l + (sT l' + sT r' + 1 + sT rr + 1) ≤ 800000 := hs2
        clear hx hd hd2 hln c1 c2 c3 hs2
        go_enter Try.func70, Try.ntmps70
        go_wp2_with (fail)
        refine (join_calls k v pl pr l _ _ H.out.1 H.out.2.1 HS.out).mono ?_
        rintro e w1 ⟨p1, rfl, ht1, hb1⟩
        have HE := Aside0.mk (EV.mk (p1 := p1) ht1 (H.out.1.below hb1) (H.out.2.1.below hb1) hb1)
        clear ht1 hb1
        go_wp2_with (first | (go_at_call_of 86 (Value.pointer p1); refine (lean_eq p1 k v _ _ d _ HE.out.n HD.out HS.out).mono ?_; rintro e w' ⟨rfl, hb⟩; have HE := Aside0.mk (HE.out.step hb); clear hb) | (go_at_call_of 86 (Value.pointer pr); refine (lean_eq pr _ _ _ _ d2 _ HE.out.r HD2.out HS2.out).mono ?_; rintro e w' ⟨rfl, hb⟩; have HE := Aside0.mk (HE.out.step hb); clear hb))
        refine (turnR_calls pr a b a' b' l' r' rr _ HE.out.r (by omega)).mono ?_
        rintro e w2 ⟨p2, rfl, ht2, hb2⟩
        have HE2 := Aside0.mk (And.intro (HE.out.step hb2) ht2)
        clear ht2 hb2
        go_wp2_with (fail)
        refine (join_calls k v pl p2 l _ _ HE2.out.1.l HE2.out.2 (by simp only [sT]; omega)).mono ?_
        rintro e w3 ⟨p3, rfl, ht3, hb3⟩
        have HE3 := Aside0.mk (And.intro (HE2.out.1.step hb3) ht3)
        clear ht3 hb3
        go_wp2_with (fail)
        refine (turnL_calls p3 k v a' b' l' (.nd a b r' rr) l _ HE3.out.2 (by simp only [sT]; omega)).mono ?_
        rintro e w4 ⟨p4, rfl, ht4, hb4⟩
        have HE4 := Aside0.mk (And.intro (HE3.out.1.step hb4) ht4)
        clear ht4 hb4
        go_wp2
        go_ret
        rw [HX.out]
        exact ⟨p4, rfl, HE4.out.2, HE4.out.1.b⟩
      · rw [if_neg c2] at hx
        have b1 : decide (0 < d2) = false := decide_eq_false c2
        have HX := Lib.hid hx
        have HD2 := Lib.hid hd2
        clear hx hd hd2 hln c1 c2 c3
        go_enter Try.func70, Try.ntmps70
        go_wp2_with (fail)
        refine (join_calls k v pl pr l _ _ H.out.1 H.out.2.1 HS.out).mono ?_
        rintro e w1 ⟨p1, rfl, ht1, hb1⟩
        have HE := Aside0.mk (EV.mk (p1 := p1) ht1 (H.out.1.below hb1) (H.out.2.1.below hb1) hb1)
        clear ht1 hb1
        go_wp2_with (first | (go_at_call_of 86 (Value.pointer p1); refine (lean_eq p1 k v _ _ d _ HE.out.n HD.out HS.out).mono ?_; rintro e w' ⟨rfl, hb⟩; have HE := Aside0.mk (HE.out.step hb); clear hb) | (go_at_call_of 86 (Value.pointer pr); refine (lean_eq pr _ _ _ _ d2 _ HE.out.r HD2.out HS2.out).mono ?_; rintro e w' ⟨rfl, hb⟩; have HE := Aside0.mk (HE.out.step hb); clear hb))
        refine (turnL_calls p1 k v a b rl rr l _ HE.out.n (by omega)).mono ?_
        rintro e w4 ⟨p4, rfl, ht4, hb4⟩
        have HE4 := Aside0.mk (And.intro (HE.out.step hb4) ht4)
        clear ht4 hb4
        go_wp2
        go_ret
        rw [HX.out]
        exact ⟨p4, rfl, HE4.out.2, HE4.out.1.b⟩
    · rw [if_neg c3] at hx
      have b3 : decide (d < -1) = false := decide_eq_false c3
      have HX := Lib.hid hx
      clear hx hd c1 c3
      go_enter Try.func70, Try.ntmps70
      go_wp2_with (fail)
      refine (join_calls k v pl pr l r _ H.out.1 H.out.2.1 HS.out).mono ?_
      rintro e w1 ⟨p1, rfl, ht1, hb1⟩
      have HE := Aside0.mk (EV.mk (p1 := p1) ht1 (H.out.1.below hb1) (H.out.2.1.below hb1) hb1)
      clear ht1 hb1
      go_wp2_with ((go_at_call_of 86 (Value.pointer p1); refine (lean_eq p1 k v _ _ d _ HE.out.n HD.out HS.out).mono ?_; rintro e w' ⟨rfl, hb⟩; have HE := Aside0.mk (HE.out.step hb); clear hb))
      go_ret
      rw [HX.out]
      exact ⟨p1, rfl, HE.out.n, HE.out.b⟩
end Go.Proofs.Ytmmingnkepifoaa.H
/- package table at uint64 keys and int64 values: put, find, Get, Put. -/
namespace Go.Proofs.Ytmmingnkepifoaa.H
open Go.RowKit Go.Proofs.YtmmingnkepifoaaW.PrintWords Go.Proofs.YtmmingnkepifoaaW.PrintLast Go.Proofs.YtmmingnkepifoaaW.PrintMore Go.Proofs.Ytmmingnkepifoaa.TrM Go.Proofs.Ytmmingnkepifoaa.AtM
set_option linter.unusedVariables false
set_option linter.unusedSimpArgs false
set_option maxRecDepth 100000

theorem isNaN_u64 (x : Int) (W : World) : Calls Try.prog 83 #[.int .u64 x] W fun e W' => e = .returned (.bool false) ∧ W = W' := by
  go_enter Try.func83, Try.ntmps83
  go_wp2
  go_ret
  simp
/-- cmp.Compare's answer. -/
def cmpN (x y : Int) : Int := if x < y then -1 else if y < x then 1 else 0
theorem cmp_u64 (x y : Int) (W : World) : Calls Try.prog 67 #[.int .u64 x, .int .u64 y] W fun e W' => e = .returned (.int .i64 (cmpN x y)) ∧ W = W' := by
  by_cases c1 : x < y
  · have e : cmpN x y = -1 := by unfold cmpN; rw [if_pos c1]
    rw [e]
    have b0 : decide (x < y) = true := decide_eq_true c1
    clear c1 e
    go_enter Try.func67, Try.ntmps67
    go_wp2_with (go_at_call 83; refine (isNaN_u64 _ _).mono ?_; rintro e w' ⟨rfl, rfl⟩)
    go_ret
    exact ⟨rfl, rfl⟩
  · by_cases c2 : y < x
    · have e : cmpN x y = 1 := by unfold cmpN; rw [if_neg c1, if_pos c2]
      rw [e]
      have b0 : decide (x < y) = false := decide_eq_false c1
      have b1 : decide (y < x) = true := decide_eq_true c2
      clear c1 c2 e
      go_enter Try.func67, Try.ntmps67
      go_wp2_with (go_at_call 83; refine (isNaN_u64 _ _).mono ?_; rintro e w' ⟨rfl, rfl⟩)
      go_ret
      exact ⟨rfl, rfl⟩
    · have e : cmpN x y = 0 := by unfold cmpN; rw [if_neg c1, if_neg c2]
      rw [e]
      have b0 : decide (x < y) = false := decide_eq_false c1
      have b1 : decide (y < x) = false := decide_eq_false c2
      clear c1 c2 e
      go_enter Try.func67, Try.ntmps67
      go_wp2_with (go_at_call 83; refine (isNaN_u64 _ _).mono ?_; rintro e w' ⟨rfl, rfl⟩)
      go_ret
      exact ⟨rfl, rfl⟩
theorem cmp_u64_eq (x y c : Int) (W : World) (hc : cmpN x y = c) : Calls Try.prog 67 #[.int .u64 x, .int .u64 y] W fun e W' => e = .returned (.int .i64 c) ∧ W = W' := by
  subst hc; exact cmp_u64 x y W
theorem sT_put (k v : Int) : ∀ t : TN, sT (putT ltN k v t) ≤ sT t + 1 := by
  intro t
  induction t with
  | lf => simp [putT, sT]
  | nd k' v' l r hl hr =>
    have he : ∀ (a b : Int) (x y : TN), sT (evenT a b x y) = sT x + sT y + 1 := fun a b x y => by
      rw [sT_flat, flat_even, List.length_append, List.length_cons, ← sT_flat, ← sT_flat]; omega
    unfold putT
    split
    · rw [he]; simp only [sT]; omega
    · split
      · rw [he]; simp only [sT]; omega
      · simp only [sT]; omega
/-- What put has in hand at a node. -/
structure PV (W : World) (g : Nat) (k v : Int) (pl pr : Option Addr) (h s : Int) (l r : TN) (w : World) : Prop where
  n : w.heap[g]? = some (.cells (ndCells k v pl pr h s) 91 (0, 0))
  l : TrAt w pl l
  r : TrAt w pr r
  b : Below W.heap.size W w
theorem PV.step {W : World} {g : Nat} {k v : Int} {pl pr : Option Addr} {h s : Int} {l r : TN} {w w' : World} (p : PV W g k v pl pr h s l r w) (hb : Below w.heap.size w w') : PV W g k v pl pr h s l r w' := ⟨blk_belowX p.n hb, p.l.below hb, p.r.below hb, below_step p.b hb⟩
theorem PV.drew {W : World} {g : Nat} {k v : Int} {pl pr : Option Addr} {h s : Int} {l r : TN} {w : World} (p : PV W g k v pl pr h s l r w) : PV W g k v pl pr h s l r w.drew := p.step ⟨rfl, rfl, rfl, Nat.le_refl _, fun _ _ => rfl⟩
set_option maxHeartbeats 3200000 in
theorem put_calls (k v : Int) : ∀ (t : TN) (p : Option Addr) (W : World), TrAt W p t → sT t ≤ 700000 →
    Calls Try.prog 59 #[.pointer p, .int .u64 k, .int .i64 v] W fun e W' => ∃ p', e = .returned (.pointer p') ∧ TrAt W' p' (putT ltN k v t) ∧ Below W.heap.size W W' := by
  intro t
  induction t with
  | lf =>
    intro p W h hs
    obtain rfl : p = none := h
    go_enter Try.func59, Try.ntmps59
    go_wp2_with (fail)
    refine (join_calls k v none none .lf .lf _ rfl rfl (by simp [sT])).mono ?_
    rintro e w1 ⟨p1, rfl, ht1, hb1⟩
    have H1 := Aside0.mk (And.intro ht1 hb1)
    clear ht1 hb1
    go_wp2
    go_ret
    exact ⟨p1, rfl, H1.out⟩
  | nd k' v' l r hl hr =>
    intro p W h hs
    obtain ⟨g, pl, pr, rfl, hb, h1, h2⟩ := h
    obtain ⟨z0, z1, z2, z3, z4, z5⟩ := nd_cells hb
    have hs' : sT l + sT r + 1 ≤ 700000 := hs
    have HP := Aside0.mk (PV.mk hb h1 h2 (Below.refl W.heap.size W))
    have HL := Aside0.mk hl
    have HR := Aside0.mk hr
    have hsl := sT_put k v l
    have hsr := sT_put k v r
    clear h1 h2 hb hl hr z4 z5 hs
    by_cases c1 : k < k'
    · have hx : putT ltN k v (.nd k' v' l r) = evenT k' v' (putT ltN k v l) r := by simp [putT, ltN, c1]
      have hc : cmpN k k' = -1 := by unfold cmpN; rw [if_pos c1]
      have HX := Lib.hid hx
      have HC := Lib.hid hc
      clear hx hc c1
      go_enter Try.func59, Try.ntmps59
      go_wp2_with (go_at_call 67; refine (cmp_u64_eq k k' (-1) _ HC.out).mono ?_; rintro e w' ⟨rfl, rfl⟩)
      go_region_held3 (fun w' => w'.cell? ⟨g, 0, none⟩ = some (.int .u64 k') ∧ w'.cell? ⟨g, 1, none⟩ = some (.int .i64 v') ∧ w'.cell? ⟨g, 2, none⟩ = some (.pointer pl) ∧ w'.cell? ⟨g, 3, none⟩ = some (.pointer pr)) (first | (with_reducible exact KK.out) | go_keep)
        (first
          | (go_at_call 59; refine (HL.out pl _ HP.out.drew.l (by omega)).mono ?_; rintro e w1 ⟨p1, rfl, ht1, hb1⟩; have HP1 := Aside0.mk (And.intro (HP.out.drew.step hb1) ht1); have KK := Aside0.mk (nd_keep HP1.out.1.n); clear ht1 hb1)
          | (go_at_call 70; refine (even_calls k' v' p1 pr (putT ltN k v l) r _ HP1.out.2 HP1.out.1.r (by omega)).mono ?_; rintro e w2 ⟨p2, rfl, ht2, hb2⟩; have HP2 := Aside0.mk (And.intro (HP1.out.1.step hb2) ht2); have KK := Aside0.mk (nd_keep HP2.out.1.n); clear ht2 hb2))
      all_goals
        go_wp2
        go_ret
        rw [HX.out]
        exact ⟨p2, rfl, HP2.out.2, HP2.out.1.b⟩
    · by_cases c2 : k' < k
      · have hx : putT ltN k v (.nd k' v' l r) = evenT k' v' l (putT ltN k v r) := by simp [putT, ltN, c1, c2]
        have hc : cmpN k k' = 1 := by unfold cmpN; rw [if_neg c1, if_pos c2]
        have HX := Lib.hid hx
        have HC := Lib.hid hc
        clear hx hc c1 c2
        go_enter Try.func59, Try.ntmps59
        go_wp2_with (go_at_call 67; refine (cmp_u64_eq k k' 1 _ HC.out).mono ?_; rintro e w' ⟨rfl, rfl⟩)
        go_region_held3 (fun w' => w'.cell? ⟨g, 0, none⟩ = some (.int .u64 k') ∧ w'.cell? ⟨g, 1, none⟩ = some (.int .i64 v') ∧ w'.cell? ⟨g, 2, none⟩ = some (.pointer pl) ∧ w'.cell? ⟨g, 3, none⟩ = some (.pointer pr)) (first | (with_reducible exact KK.out) | go_keep)
          (first
            | (go_at_call 59; refine (HR.out pr _ HP.out.drew.r (by omega)).mono ?_; rintro e w1 ⟨p1, rfl, ht1, hb1⟩; have HP1 := Aside0.mk (And.intro (HP.out.drew.step hb1) ht1); have KK := Aside0.mk (nd_keep HP1.out.1.n); clear ht1 hb1)
            | (go_at_call 70; refine (even_calls k' v' pl p1 l (putT ltN k v r) _ HP1.out.1.l HP1.out.2 (by omega)).mono ?_; rintro e w2 ⟨p2, rfl, ht2, hb2⟩; have HP2 := Aside0.mk (And.intro (HP1.out.1.step hb2) ht2); have KK := Aside0.mk (nd_keep HP2.out.1.n); clear ht2 hb2))
        all_goals
          go_wp2
          go_ret
          rw [HX.out]
          exact ⟨p2, rfl, HP2.out.2, HP2.out.1.b⟩
      · have hx : putT ltN k v (.nd k' v' l r) = .nd k v l r := by simp [putT, ltN, c1, c2]
        have hc : cmpN k k' = 0 := by unfold cmpN; rw [if_neg c1, if_neg c2]
        have HX := Lib.hid hx
        have HC := Lib.hid hc
        clear hx hc c1 c2
        go_enter Try.func59, Try.ntmps59
        go_wp2_with (go_at_call 67; refine (cmp_u64_eq k k' 0 _ HC.out).mono ?_; rintro e w' ⟨rfl, rfl⟩)
        go_region_held3 (fun w' => w'.cell? ⟨g, 0, none⟩ = some (.int .u64 k') ∧ w'.cell? ⟨g, 1, none⟩ = some (.int .i64 v') ∧ w'.cell? ⟨g, 2, none⟩ = some (.pointer pl) ∧ w'.cell? ⟨g, 3, none⟩ = some (.pointer pr)) (first | (with_reducible exact KK.out) | go_keep)
          ((go_at_call 69; refine (join_calls k v pl pr l r _ HP.out.drew.l HP.out.drew.r (by omega)).mono ?_; rintro e w1 ⟨p1, rfl, ht1, hb1⟩; have HP1 := Aside0.mk (And.intro (HP.out.drew.step hb1) ht1); have KK := Aside0.mk (nd_keep HP1.out.1.n); clear ht1 hb1))
        all_goals
          go_wp2
          go_ret
          rw [HX.out]
          exact ⟨p1, rfl, HP1.out.2, HP1.out.1.b⟩
end Go.Proofs.Ytmmingnkepifoaa.H
/- package table at uint64 keys and int64 values: find, Get, Put. -/
namespace Go.Proofs.Ytmmingnkepifoaa.H
open Go.RowKit Go.Proofs.YtmmingnkepifoaaW.PrintWords Go.Proofs.YtmmingnkepifoaaW.PrintLast Go.Proofs.YtmmingnkepifoaaW.PrintMore Go.Proofs.Ytmmingnkepifoaa.TrM Go.Proofs.Ytmmingnkepifoaa.AtM
set_option linter.unusedVariables false
set_option linter.unusedSimpArgs false
set_option maxRecDepth 100000

/-- What find leaves: nil, or the node. -/
def FindP (W : World) (k : Int) (t : TN) (p : Option Addr) : Prop :=
  (p = none ∧ findT ltN k t = none) ∨ ∃ g v pl pr h s, p = some ⟨g, 0, none⟩ ∧ findT ltN k t = some (k, v) ∧ W.heap[g]? = some (.cells (ndCells k v pl pr h s) 91 (0, 0))
set_option maxHeartbeats 1600000 in
theorem find_calls (k : Int) (t : TN) (p : Option Addr) (W : World) (h : TrAt W p t) :
    Calls Try.prog 58 #[.pointer p, .int .u64 k] W fun e W' => ∃ p', e = .returned (.pointer p') ∧ FindP W k t p' ∧ W = W' := by
  have H := Aside0.mk h
  clear h
  go_enter Try.func58, Try.ntmps58
  go_wp2
  go_loopg [0] (sT t) (fun n x wr => ∃ (q : Option Addr) (t' : TN), x = .pointer q ∧ Aside0 (TrAt W q t' ∧ findT ltN k t = findT ltN k t' ∧ sT t' ≤ n) ∧ W = wr)
  case atStart => exact ⟨p, t, rfl, ⟨H.out, rfl, Nat.le_refl _⟩, rfl⟩
  case round =>
    obtain ⟨q, t', rfl, HQ, rfl⟩ := hrel
    cases t' with
    | lf =>
      obtain rfl : q = none := HQ.out.1
      go_wp2
      go_ret
      exact ⟨none, rfl, .inl ⟨rfl, HQ.out.2.1⟩, rfl⟩
    | nd k' v' l r =>
      obtain ⟨g, pl, pr, rfl, hb, h1, h2⟩ := HQ.out.1
      obtain ⟨z0, z1, z2, z3, z4, z5⟩ := nd_cells hb
      have HB := Aside0.mk (And.intro hb (And.intro h1 h2))
      clear hb h1 h2
      by_cases c1 : k < k'
      · have hf : findT ltN k (.nd k' v' l r) = findT ltN k l := by simp [findT, ltN, c1]
        have hc : cmpN k k' = -1 := by unfold cmpN; rw [if_pos c1]
        have HF := Lib.hid hf
        have HC := Lib.hid hc
        clear hf hc c1
        go_wp2_with (go_at_call 67; refine (cmp_u64_eq k k' (-1) _ HC.out).mono ?_; rintro e w' ⟨rfl, rfl⟩)
        go_roundg (sT l)
        case measure => have := HQ.out.2.2; simp only [sT] at this; omega
        case rel => exact ⟨pl, l, rfl, ⟨HB.out.2.1, by rw [HQ.out.2.1, HF.out], Nat.le_refl _⟩, rfl⟩
      · by_cases c2 : k' < k
        · have hf : findT ltN k (.nd k' v' l r) = findT ltN k r := by simp [findT, ltN, c1, c2]
          have hc : cmpN k k' = 1 := by unfold cmpN; rw [if_neg c1, if_pos c2]
          have HF := Lib.hid hf
          have HC := Lib.hid hc
          clear hf hc c1 c2
          go_wp2_with (go_at_call 67; refine (cmp_u64_eq k k' 1 _ HC.out).mono ?_; rintro e w' ⟨rfl, rfl⟩)
          go_roundg (sT r)
          case measure => have := HQ.out.2.2; simp only [sT] at this; omega
          case rel => exact ⟨pr, r, rfl, ⟨HB.out.2.2, by rw [HQ.out.2.1, HF.out], Nat.le_refl _⟩, rfl⟩
        · obtain rfl : k = k' := by omega
          have hf : findT ltN k (.nd k v' l r) = some (k, v') := by simp [findT, ltN]
          have hc : cmpN k k = 0 := by unfold cmpN; rw [if_neg c1, if_neg c1]
          have HF := Lib.hid hf
          have HC := Lib.hid hc
          clear hf hc c1 c2
          go_wp2_with (go_at_call 67; refine (cmp_u64_eq k k 0 _ HC.out).mono ?_; rintro e w' ⟨rfl, rfl⟩)
          go_ret
          exact ⟨_, rfl, .inr ⟨g, v', pl, pr, _, _, rfl, by rw [HQ.out.2.1, HF.out], HB.out.1⟩, rfl⟩
/-- A table in a box. -/
structure TbAt (W : World) (gt : Nat) (xs : List (Int × Int)) : Prop where
  ex : ∃ (p : Option Addr) (t : TN), W.heap[gt]? = some (.cells #[.pointer p] 78 (0, 0)) ∧ TrAt W p t ∧ flat t = xs
theorem TbAt.below {W W' : World} {gt : Nat} {xs : List (Int × Int)} (h : TbAt W gt xs) (hb : Below W.heap.size W W') : TbAt W' gt xs := by
  obtain ⟨⟨p, t, h1, h2, h3⟩⟩ := h
  exact ⟨⟨p, t, blk_belowX h1 hb, h2.below hb, h3⟩⟩
theorem get_nm {x : Option (Int × Int)} {k : Int} (h : ∀ y, x = some y → y.1 = k) : x = none ∨ ∃ v, x = some (k, v) := by
  cases x with
  | none => exact .inl rfl
  | some y =>
    have := h y rfl
    obtain ⟨a, b⟩ := y
    simp only at this
    subst this
    exact .inr ⟨b, rfl⟩
set_option maxHeartbeats 1600000 in
theorem Get_calls (gt : Nat) (k : Int) (xs : List (Int × Int)) (W : World) (h : TbAt W gt xs) (hr : Rises ltN xs) :
    Calls Try.prog 48 #[.pointer (some ⟨gt, 0, none⟩), .int .u64 k] W fun e W' => (∃ b, e = .returned (.tuple #[.int .i64 (AtM.valOf k xs), .bool b])) ∧ W = W' := by
  obtain ⟨⟨p, t, hb, ht, hf⟩⟩ := h
  subst hf
  have hfl := find_flat ordN k t hr
  have d0 : W.cell? ⟨gt, 0, none⟩ = some (.pointer p) := by rw [blk_cell hb]; rfl
  have H := Aside0.mk (And.intro ht hfl)
  clear ht hb hfl hr
  go_enter Try.func48, Try.ntmps48
  go_wp2_with (fail)
  refine (find_calls k t p _ H.out.1).mono ?_
  rintro e w1 ⟨p', rfl, hp, rfl⟩
  rcases hp with ⟨rfl, h0⟩ | ⟨g, v, pl, pr, hh, ss, rfl, h0, hb⟩
  · have hv : AtM.valOf k (flat t) = 0 := by unfold AtM.valOf; rw [← H.out.2, h0]
    have HV := Lib.hid hv
    clear hv h0
    go_wp2
    go_ret2
    rw [HV.out]
    exact ⟨⟨_, rfl⟩, rfl⟩
  · have hv : AtM.valOf k (flat t) = v := by unfold AtM.valOf; rw [← H.out.2, h0]
    obtain ⟨z0, z1, z2, z3, z4, z5⟩ := nd_cells hb
    have HV := Lib.hid hv
    clear hv h0 hb
    go_wp2
    go_ret2
    rw [HV.out]
    exact ⟨⟨_, rfl⟩, rfl⟩
theorem ne_blk {W : World} {i j : Nat} {cs cs' : Array Value} {t t' : TypeId} {z z' : Nat × Nat} (h : W.heap[i]? = some (.cells cs t z)) (h' : W.heap[j]? = some (.cells cs' t' z')) (hne : t ≠ t') : i ≠ j := by
  rintro rfl
  rw [h] at h'; injection h' with h'; injection h' with _ h' _
  exact hne h'
theorem oth_of_below {g : Nat} {W W' : World} (h : Below W.heap.size W W') : Oth g W W' := ⟨h.os, h.tape, h.output, h.size, fun k hk _ => h.block k hk⟩
set_option maxHeartbeats 1600000 in
theorem Put_calls (gt : Nat) (k v : Int) (xs : List (Int × Int)) (W : World) (h : TbAt W gt xs) (hr : Rises ltN xs) (hl : xs.length ≤ 600000) :
    Calls Try.prog 49 #[.pointer (some ⟨gt, 0, none⟩), .int .u64 k, .int .i64 v] W fun e W' => (∃ b, e = .returned (.bool b)) ∧ TbAt W' gt (insL ltN k v xs) ∧ Oth gt W W' := by
  obtain ⟨⟨p, t, hb, ht, hf⟩⟩ := h
  subst hf
  have hfl := flat_put ordN k v t hr
  have hs : sT t ≤ 600000 := by rw [sT_flat]; exact hl
  have d0 : W.cell? ⟨gt, 0, none⟩ = some (.pointer p) := by rw [blk_cell hb]; rfl
  have H := Aside0.mk (And.intro ht (And.intro hfl hb))
  clear ht hb hfl hr hl
  go_enter Try.func49, Try.ntmps49
  go_wp2_with (fail)
  refine (find_calls k t p _ H.out.1).mono ?_
  rintro e w1 ⟨p', rfl, hp, rfl⟩
  have hp2 : p' = none ∨ ∃ g, p' = some ⟨g, 0, none⟩ := by
    rcases hp with ⟨rfl, _⟩ | ⟨g, v, pl, pr, hh, ss, rfl, _⟩
    · exact .inl rfl
    · exact .inr ⟨g, rfl⟩
  clear hp
  rcases hp2 with rfl | ⟨g, rfl⟩
  all_goals
    go_wp2_with (fail)
    refine (put_calls k v t p _ H.out.1 (by omega)).mono ?_
    rintro e w2 ⟨p2, rfl, ht2, hb2⟩
    have hx := blk_belowX H.out.2.2 hb2
    have d0 : w2.cell? ⟨gt, 0, none⟩ = some (.pointer p) := by rw [blk_cell hx]; rfl
    have f0 := blk_frozen hx 0
    have hg := lt_of_some hx
    have H2 := Aside0.mk (And.intro ht2 (And.intro hx hb2))
    clear ht2 hx hb2
    go_wp2
    go_ret
    have hset : Oth gt w2 (w2.setCell ⟨gt, 0, none⟩ (.pointer p2)) := Oth.set w2 ⟨gt, 0, none⟩ _
    refine ⟨⟨_, rfl⟩, ⟨⟨p2, putT ltN k v t, blk_put H2.out.2.1 0 _ rfl, ?_, H.out.2.1⟩⟩, (oth_of_below H2.out.2.2).trans hset⟩
    refine TrAt.mono (fun g' cs hg' => ?_) H2.out.1
    exact hset.blk hg' (ne_blk hg' H2.out.2.1 (by decide))
end Go.Proofs.Ytmmingnkepifoaa.H
