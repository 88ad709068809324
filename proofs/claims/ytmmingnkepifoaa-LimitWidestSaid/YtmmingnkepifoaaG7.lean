/- Some texts of one seat in one file, in build order. -/
import Derived.Test.YtmmingnkepifoaaG6
import Derived.Test.YtmmingnkepifoaaG2
import Derived.Sort.QuietIn
import Derived.Shelf.RegionOpen
import Derived.Test.YtmmingnkepifoaaG3
import Derived.Shelf.SlSortCmp.KitK
/- package table at uint64 keys and int64 values: All, its func, and rise. -/
namespace Go.Proofs.Ytmmingnkepifoaa.H
open Go.RowKit Go.Proofs.YtmmingnkepifoaaW.PrintWords Go.Proofs.YtmmingnkepifoaaW.PrintLast Go.Proofs.YtmmingnkepifoaaW.PrintMore Go.Proofs.Ytmmingnkepifoaa.TrM Go.Proofs.Ytmmingnkepifoaa.AtM
set_option linter.unusedVariables false
set_option linter.unusedSimpArgs false
set_option maxRecDepth 100000
attribute [local go_sem] Oper.semAt_some wide_fn wide_depth

/-- What the func tells a round. -/
def AllY (xs : List (Int × Int)) (pre : List (Int × Int)) (x : Int × Int) (vs : Array Value) (W : World) : Prop :=
  pre ++ [x] <+: xs ∧ vs = #[.int .u64 x.1, .int .i64 x.2]
theorem All_calls (gt : Nat) (w : World) : Calls Try.prog 50 #[.pointer (some ⟨gt, 0, none⟩)] w fun e w' =>
    e = .returned (.func (.func 60) #[] #[.pointer (some ⟨w.heap.size, 0, none⟩)]) ∧ w' = w.alloc (.cells #[.pointer (some ⟨gt, 0, none⟩)] 88) := by
  go_enter Try.func50, Try.ntmps50
  go_wp2
  go_ret
  exact ⟨rfl, rfl⟩
/-- A tree that lies so in all worlds of a kind. -/
def TrU (Q : World → Prop) : Option Addr → TN → Prop
  | p, .lf => p = none
  | p, .nd k v l r => ∃ g pl pr h s, p = some ⟨g, 0, none⟩ ∧ (∀ W, Q W → W.heap[g]? = some (.cells (ndCells k v pl pr h s) 91 (0, 0))) ∧ TrU Q pl l ∧ TrU Q pr r
theorem TrAt.u {Q : World → Prop} {w : World} (hQ : ∀ (g : Nat) (cs : Array Value), w.heap[g]? = some (.cells cs 91 (0, 0)) → ∀ W, Q W → W.heap[g]? = some (.cells cs 91 (0, 0))) : ∀ {t : TN} {p : Option Addr}, TrAt w p t → TrU Q p t := by
  intro t
  induction t with
  | lf => intro p h; exact h
  | nd k v l r hl hr =>
    rintro p ⟨g, pl, pr, e, hb, h1, h2⟩
    exact ⟨g, pl, pr, _, _, e, hQ g _ hb, hl h1, hr h2⟩
theorem prefix_left {α : Type} {a b c xs : List α} (h : a ++ (b ++ c) <+: xs) : a ++ b <+: xs := by
  obtain ⟨d, hd⟩ := h
  exact ⟨c ++ d, by rw [← hd]; simp⟩
theorem ret_bool {e : Ending} {A B : Prop} (h : (e = .returned (.bool true) ∧ A) ∨ (e = .returned (.bool false) ∧ B)) : ∃ b, e = .returned (.bool b) ∧ ((b = true ∧ A) ∨ (b = false ∧ B)) := by
  rcases h with ⟨h, a⟩ | ⟨h, a⟩
  · exact ⟨true, h, .inl ⟨rfl, a⟩⟩
  · exact ⟨false, h, .inr ⟨rfl, a⟩⟩
set_option maxHeartbeats 3200000 in
theorem rise_calls (l : Nat) (xs : List (Int × Int)) (n₀ : Nat) (Kb : Nat → Prop) (J Jx : List (Int × Int) → World → Prop) (w : World) (hn : n₀ ≤ w.heap.size)
    (hJ : ∀ s A B, J s A → Below A.heap.size A B → J s B) (hJx : ∀ s A B, Jx s A → Below A.heap.size A B → Jx s B) (m : Nat)
    (hY : ∀ pre x vs W1, J pre W1 → AllY xs pre x vs W1 → YieldAt Fence.wide m Try.prog l vs W1 fun e W' =>
      (e = .returned (.bool true) ∧ J (pre ++ [x]) W' ∧ Kp n₀ Kb W1 W') ∨ (e = .returned (.bool false) ∧ Jx (pre ++ [x]) W')) :
    ∀ (t : TN) (p : Option Addr) (pre : List (Int × Int)) (n : Nat) (W : World), TrU (Kp n₀ Kb w) p t → pre ++ flat t <+: xs → Kp n₀ Kb w W → J pre W →
    CallsIn Fence.wide n Try.prog 61 #[.pointer p, .pointer none, .func (.yield l) #[] #[]] W fun e W' =>
      (e = .returned (.bool true) ∧ J (pre ++ flat t) W' ∧ Kp n₀ Kb w W') ∨ (e = .returned (.bool false) ∧ ∃ q, Jx q W') := by
  intro t
  induction t with
  | lf =>
    intro p pre n W hT hpre hK h0
    obtain rfl : p = none := hT
    refine callsIn_of_wp Try.func61 rfl trivial ?_ rfl
    simp only [Try.ntmps61, List.size_toArray, List.length_cons, List.length_nil, Nat.reduceAdd, Nat.reduceSub, Array.replicate_succ, Array.replicate_zero, List.push_toArray, List.append_toArray, List.nil_append, List.cons_append]
    gi_wp2
    go_ret
    exact .inl ⟨rfl, by simpa [flat] using h0, hK⟩
  | nd k v tl tr hl hr =>
    intro p pre n W hT hpre hK h0
    obtain ⟨g, pl, pr, h, s, rfl, hb, h1, h2⟩ := hT
    obtain ⟨z0, z1, z2, z3, z4, z5⟩ := nd_cells (hb W hK)
    have H := Aside0.mk (And.intro hb (And.intro h1 (And.intro h2 (And.intro hpre (And.intro hK h0)))))
    have HI := Aside0.mk (And.intro hl hr)
    clear hb h1 h2 hpre hl hr hK h0 z4 z5
    refine callsIn_of_wp Try.func61 rfl trivial ?_ rfl
    simp only [Try.ntmps61, List.size_toArray, List.length_cons, List.length_nil, Nat.reduceAdd, Nat.reduceSub, Array.replicate_succ, Array.replicate_zero, List.push_toArray, List.append_toArray, List.nil_append, List.cons_append]
    gi_wp2
    gi_quiet (fail)
    gi_wp2
    have hmix : Try.prog.follows .mixedOrders = true := by kernel_rfl
    have hp1 : pre ++ flat tl <+: xs := prefix_left H.out.2.2.2.1
    have hp2 : (pre ++ flat tl) ++ [(k, v)] <+: xs := by
      have := H.out.2.2.2.1
      unfold flat at this
      rw [← List.append_assoc] at this
      exact prefix_left (c := flat tr) (by simpa using this)
    have hp3 : ((pre ++ flat tl) ++ [(k, v)]) ++ flat tr <+: xs := by
      have := H.out.2.2.2.1
      unfold flat at this
      simpa using this
    have hdr : ∀ q, Below W.heap.size W (W.drewN q) := fun q => pw_below_drewN (Below.refl _ _) _
    have hnW := H.out.2.2.2.2.1
    have HQ := H
    gi_region_with_o (first
      | (gi_at_call 61; have _t := H; refine (HI.out.1 pl pre _ _ HQ.out.2.1 hp1 (hnW.trans (.of_below (hdr _) (Nat.le_trans hn hnW.1))) (hJ _ _ _ HQ.out.2.2.2.2.2 (hdr _))).mono ?_; rintro e w1 (⟨rfl, hj1, hk1⟩ | ⟨rfl, q, hx1⟩); rotate_left; gi_wp2; refine wpAnyIn_take (i := 7) (v := ?_) rfl rfl (by kernel_rfl) (by kernel_rfl) (by kernel_rfl) (fun _ _ _ h => h) ⟨Or.inl ⟨by kernel_rfl, ?tk⟩, fun _ => rfl⟩ ?_; (case tk => intro w; first | (go_simp; done) | (go_simp; rfl)); refine wpAnyIn_take (i := 8) (v := undef) rfl rfl (by kernel_rfl) (by kernel_rfl) (by kernel_rfl) (fun _ _ _ h => h) ⟨Or.inr ⟨by kernel_rfl, rfl⟩, fun _ => rfl⟩ ?_; go_simp; refine wpAnyIn_take (i := 9) (v := undef) rfl rfl (by kernel_rfl) (by kernel_rfl) (by kernel_rfl) (fun _ _ _ h => h) ⟨Or.inr ⟨by kernel_rfl, rfl⟩, fun _ => rfl⟩ ?_; go_simp; refine wpAnyIn_take (i := 10) (v := undef) rfl rfl (by kernel_rfl) (by kernel_rfl) (by kernel_rfl) (fun _ _ _ h => h) ⟨Or.inr ⟨by kernel_rfl, rfl⟩, fun _ => rfl⟩ ?_; go_simp; refine wpAnyIn_take (i := 11) (v := undef) rfl rfl (by kernel_rfl) (by kernel_rfl) (by kernel_rfl) (fun _ _ _ h => h) ⟨Or.inr ⟨by kernel_rfl, rfl⟩, fun _ => rfl⟩ ?_; go_simp; refine wpAnyIn_take (i := 12) (v := undef) rfl rfl (by kernel_rfl) (by kernel_rfl) (by kernel_rfl) (fun _ _ _ h => h) ⟨Or.inr ⟨by kernel_rfl, rfl⟩, fun _ => rfl⟩ ?_; go_simp; refine wpAnyIn_take (i := 13) (v := undef) rfl rfl (by kernel_rfl) (by kernel_rfl) (by kernel_rfl) (fun _ _ _ h => h) ⟨Or.inr ⟨by kernel_rfl, rfl⟩, fun _ => rfl⟩ ?_; go_simp; refine wpAnyIn_take (i := 14) (v := undef) rfl rfl (by kernel_rfl) (by kernel_rfl) (by kernel_rfl) (fun _ _ _ h => h) ⟨Or.inr ⟨by kernel_rfl, rfl⟩, fun _ => rfl⟩ ?_; go_simp; refine wpAnyIn_take (i := 15) (v := undef) rfl rfl (by kernel_rfl) (by kernel_rfl) (by kernel_rfl) (fun _ _ _ h => h) ⟨Or.inr ⟨by kernel_rfl, rfl⟩, fun _ => rfl⟩ ?_; go_simp; refine wpAnyIn_take (i := 16) (v := undef) rfl rfl (by kernel_rfl) (by kernel_rfl) (by kernel_rfl) (fun _ _ _ h => h) ⟨Or.inr ⟨by kernel_rfl, rfl⟩, fun _ => rfl⟩ ?_; go_simp; refine wpAnyIn_take (i := 17) (v := undef) rfl rfl (by kernel_rfl) (by kernel_rfl) (by kernel_rfl) (fun _ _ _ h => h) ⟨Or.inr ⟨by kernel_rfl, rfl⟩, fun _ => rfl⟩ ?_; go_simp; refine wpAnyIn_take (i := 18) (v := ?_) rfl rfl (by kernel_rfl) (by kernel_rfl) (by kernel_rfl) (fun _ _ _ h => h) ⟨Or.inl ⟨by kernel_rfl, ?tk⟩, fun _ => rfl⟩ ?_; (case tk => intro w; first | (go_simp; done) | (go_simp; rfl)); refine wpAnyIn_take (i := 19) (v := ?_) rfl rfl (by kernel_rfl) (by kernel_rfl) (by kernel_rfl) (fun _ _ _ h => h) ⟨Or.inl ⟨by kernel_rfl, ?tk⟩, fun _ => rfl⟩ ?_; (case tk => intro w; first | (go_simp; done) | (go_simp; rfl)); refine wpAnyIn_take (i := 20) (v := undef) rfl rfl (by kernel_rfl) (by kernel_rfl) (by kernel_rfl) (fun _ _ _ h => h) ⟨Or.inr ⟨by kernel_rfl, rfl⟩, fun _ => rfl⟩ ?_; go_simp; refine wpAnyIn_take (i := 21) (v := undef) rfl rfl (by kernel_rfl) (by kernel_rfl) (by kernel_rfl) (fun _ _ _ h => h) ⟨Or.inr ⟨by kernel_rfl, rfl⟩, fun _ => rfl⟩ ?_; go_simp; refine wpAnyIn_take (i := 22) (v := undef) rfl rfl (by kernel_rfl) (by kernel_rfl) (by kernel_rfl) (fun _ _ _ h => h) ⟨Or.inr ⟨by kernel_rfl, rfl⟩, fun _ => rfl⟩ ?_; go_simp; refine wpAnyIn_take (i := 23) (v := undef) rfl rfl (by kernel_rfl) (by kernel_rfl) (by kernel_rfl) (fun _ _ _ h => h) ⟨Or.inr ⟨by kernel_rfl, rfl⟩, fun _ => rfl⟩ ?_; go_simp; refine wpAnyIn_take (i := 24) (v := undef) rfl rfl (by kernel_rfl) (by kernel_rfl) (by kernel_rfl) (fun _ _ _ h => h) ⟨Or.inr ⟨by kernel_rfl, rfl⟩, fun _ => rfl⟩ ?_; go_simp; refine wpAnyIn_ready (rs := [25]) (by kernel_rfl) (by simp) ?_; refine AllReadyIn.cons rfl (fun K hK => ?_) AllReadyIn.nil; go_simp; refine hK _ _ ?_; clear hK K; refine wpAnyIn_take (i := 26) (v := ?_) rfl rfl (by kernel_rfl) (by kernel_rfl) (by kernel_rfl) (fun _ _ _ h => h) ⟨Or.inl ⟨by kernel_rfl, ?tk⟩, fun _ => rfl⟩ ?_; (case tk => intro w; first | (go_simp; done) | (go_simp; rfl)); refine wpAnyIn_take (i := 27) (v := ?_) rfl rfl (by kernel_rfl) (by kernel_rfl) (by kernel_rfl) (fun _ _ _ h => h) ⟨Or.inl ⟨by kernel_rfl, ?tk⟩, fun _ => rfl⟩ ?_; (case tk => intro w; first | (go_simp; done) | (go_simp; rfl)); refine wpAnyIn_done (by kernel_rfl) ?_ _; gi_wp2; go_ret; exact .inr ⟨rfl, q, hx1⟩; obtain ⟨z0, z1, z2, z3, _, _⟩ := nd_cells (HQ.out.1 w1 hk1); obtain ⟨fn, tmps, asg, body, hy, hR⟩ := yieldAt_wide (m' := n - 1) (hY _ (k, v) _ w1 hj1 ⟨hp2, rfl⟩); have H1 := Aside0.mk hk1; clear _t H hk1)
      | (refine hR.mono ?_; clear hR; rintro e w2 (⟨rfl, hj2, hk2⟩ | ⟨rfl, hx2⟩); rotate_left; gi_wp2; refine wpAnyIn_take (i := 18) (v := ?_) rfl rfl (by kernel_rfl) (by kernel_rfl) (by kernel_rfl) (fun _ _ _ h => h) ⟨Or.inl ⟨by kernel_rfl, ?tk⟩, fun _ => rfl⟩ ?_; (case tk => intro w; first | (go_simp; done) | (go_simp; rfl)); refine wpAnyIn_take (i := 19) (v := ?_) rfl rfl (by kernel_rfl) (by kernel_rfl) (by kernel_rfl) (fun _ _ _ h => h) ⟨Or.inl ⟨by kernel_rfl, ?tk⟩, fun _ => rfl⟩ ?_; (case tk => intro w; first | (go_simp; done) | (go_simp; rfl)); refine wpAnyIn_take (i := 20) (v := undef) rfl rfl (by kernel_rfl) (by kernel_rfl) (by kernel_rfl) (fun _ _ _ h => h) ⟨Or.inr ⟨by kernel_rfl, rfl⟩, fun _ => rfl⟩ ?_; go_simp; refine wpAnyIn_take (i := 21) (v := undef) rfl rfl (by kernel_rfl) (by kernel_rfl) (by kernel_rfl) (fun _ _ _ h => h) ⟨Or.inr ⟨by kernel_rfl, rfl⟩, fun _ => rfl⟩ ?_; go_simp; refine wpAnyIn_take (i := 22) (v := undef) rfl rfl (by kernel_rfl) (by kernel_rfl) (by kernel_rfl) (fun _ _ _ h => h) ⟨Or.inr ⟨by kernel_rfl, rfl⟩, fun _ => rfl⟩ ?_; go_simp; refine wpAnyIn_take (i := 23) (v := undef) rfl rfl (by kernel_rfl) (by kernel_rfl) (by kernel_rfl) (fun _ _ _ h => h) ⟨Or.inr ⟨by kernel_rfl, rfl⟩, fun _ => rfl⟩ ?_; go_simp; refine wpAnyIn_take (i := 24) (v := undef) rfl rfl (by kernel_rfl) (by kernel_rfl) (by kernel_rfl) (fun _ _ _ h => h) ⟨Or.inr ⟨by kernel_rfl, rfl⟩, fun _ => rfl⟩ ?_; go_simp; refine wpAnyIn_ready (rs := [25]) (by kernel_rfl) (by simp) ?_; refine AllReadyIn.cons rfl (fun K hK => ?_) AllReadyIn.nil; go_simp; refine hK _ _ ?_; clear hK K; refine wpAnyIn_take (i := 26) (v := ?_) rfl rfl (by kernel_rfl) (by kernel_rfl) (by kernel_rfl) (fun _ _ _ h => h) ⟨Or.inl ⟨by kernel_rfl, ?tk⟩, fun _ => rfl⟩ ?_; (case tk => intro w; first | (go_simp; done) | (go_simp; rfl)); refine wpAnyIn_take (i := 27) (v := ?_) rfl rfl (by kernel_rfl) (by kernel_rfl) (by kernel_rfl) (fun _ _ _ h => h) ⟨Or.inl ⟨by kernel_rfl, ?tk⟩, fun _ => rfl⟩ ?_; (case tk => intro w; first | (go_simp; done) | (go_simp; rfl)); refine wpAnyIn_done (by kernel_rfl) ?_ _; gi_wp2; go_ret; exact .inr ⟨rfl, _, hx2⟩; have hk3 := H1.out.trans hk2; obtain ⟨z0, z1, z2, z3, _, _⟩ := nd_cells (HQ.out.1 w2 hk3); have H2 := Aside0.mk (And.intro hk3 hj2); clear hk2 hk3 hj2 hy)
      | (gi_at_call 61; have _t := H2; refine (HI.out.2 pr _ _ _ HQ.out.2.2.1 hp3 H2.out.1 H2.out.2).mono ?_; intro e w3 h3; obtain ⟨b, rfl, hb3⟩ := ret_bool h3; have H3 := Aside0.mk hb3; clear h3 hb3 _t H2))
    all_goals
      gi_wp2
      go_ret
      rcases H3.out with ⟨rfl, q1, q2⟩ | ⟨rfl, q, q1⟩
      · refine .inl ⟨rfl, ?_, q2⟩
        unfold flat
        simpa using q1
      · exact .inr ⟨rfl, q, q1⟩
end Go.Proofs.Ytmmingnkepifoaa.H
/- package table at uint64 keys and int64 values: All's func. -/
namespace Go.Proofs.Ytmmingnkepifoaa.H
open Go.RowKit Go.Proofs.YtmmingnkepifoaaW.PrintWords Go.Proofs.YtmmingnkepifoaaW.PrintLast Go.Proofs.YtmmingnkepifoaaW.PrintMore Go.Proofs.Ytmmingnkepifoaa.TrM Go.Proofs.Ytmmingnkepifoaa.AtM
set_option linter.unusedVariables false
set_option linter.unusedSimpArgs false
set_option maxRecDepth 100000
attribute [local go_sem] Oper.semAt_some wide_fn wide_depth

set_option maxHeartbeats 1600000 in
theorem All1_seq (n : Nat) (xs : List (Int × Int)) (t : TN) (p : Option Addr) (gt bb n₀ : Nat) (Kb : Nat → Prop) (w : World) (hf : flat t = xs)
    (hbox : ∀ W, Kp n₀ Kb w W → W.cell? ⟨bb, 0, none⟩ = some (.pointer (some ⟨gt, 0, none⟩))) (htb : ∀ W, Kp n₀ Kb w W → W.cell? ⟨gt, 0, none⟩ = some (.pointer p)) (hT : TrU (Kp n₀ Kb w) p t) (hn : n₀ ≤ w.heap.size) :
    SeqX Fence.wide n Try.prog 60 #[.pointer (some ⟨bb, 0, none⟩)] (AllY xs) n₀ Kb (fun ys => ys = xs) (fun _ => True) w := by
  intro l J Jx W hK hJ hJx hY h0
  subst hf
  have hrise := rise_calls l (flat t) n₀ Kb J Jx w hn hJ hJx (n - 1) hY t p [] (n - 1) W hT (by simp) hK h0
  have d0 := hbox W hK
  have d1 := htb W hK
  have HR := Aside0.mk hrise
  clear hrise hT hK h0 hY hbox htb
  refine callsIn_of_wp Try.func60 rfl trivial ?_ rfl
  simp only [Try.ntmps60, List.size_toArray, List.length_cons, List.length_nil, Nat.reduceAdd, Nat.reduceSub, Array.replicate_succ, Array.replicate_zero, List.push_toArray, List.append_toArray, List.nil_append, List.cons_append]
  gi_wp2_with (fail)
  refine HR.out.mono ?_
  intro e w3 h3
  obtain ⟨b, rfl, hb3⟩ : ∃ b, e = .returned (.bool b) ∧ ((b = true ∧ J ([] ++ flat t) w3 ∧ Kp n₀ Kb w w3) ∨ (b = false ∧ ∃ q, Jx q w3)) := by
    rcases h3 with ⟨h, a⟩ | ⟨h, a⟩
    · exact ⟨true, h, .inl ⟨rfl, a⟩⟩
    · exact ⟨false, h, .inr ⟨rfl, a⟩⟩
  have H3 := Aside0.mk hb3
  clear h3 hb3
  gi_wp2
  go_end0
  rcases H3.out with ⟨rfl, q1, q2⟩ | ⟨rfl, q, q1⟩
  · exact ⟨⟨_, rfl⟩, .inl ⟨_, rfl, by simpa using q1⟩⟩
  · exact ⟨⟨_, rfl⟩, .inr ⟨q, trivial, q1⟩⟩
end Go.Proofs.Ytmmingnkepifoaa.H
/- Plain mathematics of the normal list: it has just the atoms that none beats, al sets stand. No program. -/
namespace Go.Proofs.Ytmmingnkepifoaa.AtM
open Go.Proofs.Ytmmingnkepifoaa.TrM

/-- Two lists that rise and have the same in them are one. -/
theorem rises_ext {α : Type} (lt : α → α → Prop) (irr : ∀ a, ¬ lt a a) (asym : ∀ a b, lt a b → ¬ lt b a) : ∀ (xs ys : List α), xs.Pairwise lt → ys.Pairwise lt → (∀ a, a ∈ xs ↔ a ∈ ys) → xs = ys := by
  intro xs
  induction xs with
  | nil =>
    intro ys _ _ h
    cases ys with
    | nil => rfl
    | cons y ys => have := (h y).2 (by simp); simp at this
  | cons x xs ih =>
    intro ys hx hy h
    cases ys with
    | nil => have := (h x).1 (by simp); simp at this
    | cons y ys =>
      obtain ⟨hx1, hx2⟩ := List.pairwise_cons.1 hx
      obtain ⟨hy1, hy2⟩ := List.pairwise_cons.1 hy
      have e : x = y := by
        rcases List.mem_cons.1 ((h x).1 (by simp)) with e | h1
        · exact e
        · rcases List.mem_cons.1 ((h y).2 (by simp)) with e | h2
          · exact e.symm
          · exact absurd (hx1 y h2) (asym _ _ (hy1 x h1))
      subst e
      congr 1
      refine ih ys hx2 hy2 (fun a => ⟨fun ha => ?_, fun ha => ?_⟩)
      · rcases List.mem_cons.1 ((h a).1 (List.mem_cons_of_mem _ ha)) with e | h1
        · subst e; exact absurd (hx1 a ha) (irr a)
        · exact h1
      · rcases List.mem_cons.1 ((h a).2 (List.mem_cons_of_mem _ ha)) with e | h1
        · subst e; exact absurd (hy1 a ha) (irr a)
        · exact h1
/-- It rises al sets stand. -/
def RisesS (xs : List At) : Prop := xs.Pairwise fun x y => ltS x.1 y.1 = true
theorem risesS_ext {xs ys : List At} (hx : RisesS xs) (hy : RisesS ys) (h : ∀ a, a ∈ xs ↔ a ∈ ys) : xs = ys :=
  rises_ext (fun x y : At => ltS x.1 y.1 = true) (fun a => by simp [ordS.irr]) (fun a b h => by rw [ordS.asym h]; simp) xs ys hx hy h
theorem insS_mem (x : At) : ∀ (xs : List At) (y : At), y ∈ insS x xs ↔ y = x ∨ y ∈ xs := by
  intro xs
  induction xs with
  | nil => intro y; simp [insS]
  | cons z zs ih =>
    intro y
    unfold insS
    split
    · simp
    · rw [List.mem_cons, ih, List.mem_cons]
      constructor
      · rintro (h | h | h)
        · exact .inr (.inl h)
        · exact .inl h
        · exact .inr (.inr h)
      · rintro (h | h | h)
        · exact .inr (.inl h)
        · exact .inl h
        · exact .inr (.inr h)
theorem sortS_mem (xs : List At) (y : At) : y ∈ sortS xs ↔ y ∈ xs := by
  unfold sortS
  induction xs with
  | nil => rfl
  | cons x xs ih => rw [List.foldr_cons, insS_mem, ih, List.mem_cons]
theorem insS_rises (x : At) : ∀ (xs : List At), RisesS xs → (∀ y ∈ xs, y.1 ≠ x.1) → RisesS (insS x xs) := by
  intro xs
  induction xs with
  | nil => intro _ _; simp [insS, RisesS]
  | cons z zs ih =>
    intro hr hne
    obtain ⟨h1, h2⟩ := List.pairwise_cons.1 hr
    unfold insS
    split
    · rename_i hlt
      refine List.pairwise_cons.2 ⟨fun y hy => ?_, hr⟩
      rcases List.mem_cons.1 hy with rfl | hy
      · exact hlt
      · exact ordS.trans _ _ _ hlt (h1 y hy)
    · rename_i hlt
      refine List.pairwise_cons.2 ⟨fun y hy => ?_, ih h2 (fun y hy => hne y (List.mem_cons_of_mem _ hy))⟩
      rcases (insS_mem x zs y).1 hy with rfl | hy
      · cases h : ltS z.1 y.1 with
        | true => rfl
        | false => exact absurd (ordS.tot _ _ h (by simpa using hlt)) (hne z (by simp))
      · exact h1 y hy
theorem sortS_rises : ∀ (xs : List At), xs.Pairwise (fun x y => x.1 ≠ y.1) → RisesS (sortS xs) := by
  intro xs
  induction xs with
  | nil => intro _; exact List.Pairwise.nil
  | cons x xs ih =>
    intro h
    obtain ⟨h1, h2⟩ := List.pairwise_cons.1 h
    exact insS_rises x _ (ih h2) (fun y hy => (h1 y ((sortS_mem xs y).1 hy)).symm)
/-- The greatest of its set. -/
def Top (R : List At) (y : At) : Prop := y ∈ R ∧ ∀ x ∈ R, x.1 = y.1 → x.2 ≤ y.2
theorem great1_inv {pre acc : List At} {x : At} (hx : 1 ≤ x.2) (hr : Rises ltN acc) (hm : ∀ y, y ∈ acc ↔ Top pre y) (h1 : ∀ y ∈ pre, 1 ≤ y.2) :
    Rises ltN (great1 acc x) ∧ ∀ y, y ∈ great1 acc x ↔ Top (pre ++ [x]) y := by
  refine ⟨ins_rises ordN _ _ _ hr, fun y => ?_⟩
  unfold great1
  rw [ins_mem ordN _ _ _ hr, hm]
  have hv : ∀ z ∈ pre, z.1 = x.1 → z.2 ≤ valOf x.1 acc := by
    intro z hz hzx
    unfold valOf
    have hpos := h1 z hz
    -- there is a top one of that set
    have key : ∀ (l : List At) (z : At), z ∈ l → ∃ t, Top l t ∧ t.1 = z.1 := by
      intro l
      induction l with
      | nil => intro z hz; simp at hz
      | cons a l ih =>
        intro z hz
        by_cases hq : ∃ w ∈ l, w.1 = z.1
        · obtain ⟨w, hw, hwz⟩ := hq
          obtain ⟨t, ⟨ht1, ht2⟩, ht3⟩ := ih w hw
          by_cases hb : a.1 = t.1 ∧ t.2 < a.2
          · refine ⟨a, ⟨by simp, fun u hu hua => ?_⟩, by rw [hb.1, ht3, hwz]⟩
            rcases List.mem_cons.1 hu with rfl | hu
            · exact Int.le_refl _
            · have := ht2 u hu (hua.trans hb.1); omega
          · refine ⟨t, ⟨List.mem_cons_of_mem _ ht1, fun u hu hut => ?_⟩, ht3.trans hwz⟩
            rcases List.mem_cons.1 hu with rfl | hu
            · have : ¬ (t.2 < u.2) := fun h => hb ⟨hut, h⟩
              omega
            · exact ht2 u hu hut
        · rcases List.mem_cons.1 hz with rfl | hz
          · refine ⟨z, ⟨by simp, fun u hu huz => ?_⟩, rfl⟩
            rcases List.mem_cons.1 hu with rfl | hu
            · exact Int.le_refl _
            · exact absurd ⟨u, hu, huz⟩ hq
          · exact absurd ⟨z, hz, rfl⟩ hq
    obtain ⟨t, ht, htz⟩ := key pre z hz
    have hg : getL ltN x.1 acc = some t := (get_mem ordN _ _ hr t).2 ⟨(hm t).2 ht, htz.trans hzx⟩
    rw [hg]
    exact ht.2 z hz htz.symm
  have hw : valOf x.1 acc = 0 ∨ ∃ t ∈ pre, t.1 = x.1 ∧ t.2 = valOf x.1 acc := by
    unfold valOf
    cases hg : getL ltN x.1 acc with
    | none => exact .inl rfl
    | some t =>
      obtain ⟨h3, h4⟩ := (get_mem ordN _ _ hr t).1 hg
      exact .inr ⟨t, ((hm t).1 h3).1, h4, rfl⟩
  constructor
  · rintro (rfl | ⟨⟨h3, h4⟩, h5⟩)
    · refine ⟨?_, fun z hz hzx => ?_⟩
      · rcases Int.le_total x.2 (valOf x.1 acc) with hle | hle
        · rcases hw with h0 | ⟨t, ht, ht1, ht2⟩
          · omega
          · rw [List.mem_append]
            left
            have : (x.1, max (valOf x.1 acc) x.2) = t := by
              obtain ⟨t1, t2⟩ := t
              simp only at ht1 ht2
              rw [ht1, ht2]
              congr 1
              omega
            rw [this]; exact ht
        · rw [List.mem_append]
          right
          rw [List.mem_singleton]
          obtain ⟨x1, x2⟩ := x
          simp only at hle ⊢
          congr 1
          omega
      · simp only at hzx ⊢
        rcases List.mem_append.1 hz with hz | hz
        · have := hv z hz hzx; omega
        · rw [List.mem_singleton] at hz; subst hz; omega
    · refine ⟨List.mem_append.2 (.inl h3), fun z hz hzy => ?_⟩
      rcases List.mem_append.1 hz with hz | hz
      · exact h4 z hz hzy
      · rw [List.mem_singleton] at hz; subst hz; exact absurd hzy.symm h5
  · rintro ⟨h3, h4⟩
    by_cases he : y.1 = x.1
    · left
      have hyx := h4 x (by simp) he.symm
      have hyv : valOf x.1 acc ≤ y.2 := by
        rcases hw with h0 | ⟨t, ht, ht1, ht2⟩
        · omega
        · rw [← ht2]; exact h4 t (List.mem_append.2 (.inl ht)) (ht1.trans he.symm)
      have hle : y.2 ≤ max (valOf x.1 acc) x.2 := by
        rcases List.mem_append.1 h3 with h5 | h5
        · have := hv y h5 he; omega
        · rw [List.mem_singleton] at h5; subst h5; omega
      obtain ⟨y1, y2⟩ := y
      simp only at he hyx hyv hle ⊢
      rw [he]
      congr 1
      omega
    · right
      refine ⟨⟨?_, fun z hz hzy => h4 z (List.mem_append.2 (.inl hz)) hzy⟩, he⟩
      rcases List.mem_append.1 h3 with h5 | h5
      · exact h5
      · rw [List.mem_singleton] at h5; subst h5; exact absurd rfl he
theorem great_fold : ∀ (xs pre acc : List At), (∀ x ∈ xs, 1 ≤ x.2) → (∀ x ∈ pre, 1 ≤ x.2) → Rises ltN acc → (∀ y, y ∈ acc ↔ Top pre y) →
    Rises ltN (xs.foldl great1 acc) ∧ ∀ y, y ∈ xs.foldl great1 acc ↔ Top (pre ++ xs) y := by
  intro xs
  induction xs with
  | nil => intro pre acc _ _ hr hm; exact ⟨hr, fun y => by rw [List.append_nil]; exact hm y⟩
  | cons x xs ih =>
    intro pre acc h1 h2 hr hm
    obtain ⟨q1, q2⟩ := great1_inv (h1 x (by simp)) hr hm h2
    have := ih (pre ++ [x]) (great1 acc x) (fun z hz => h1 z (List.mem_cons_of_mem _ hz)) (fun z hz => by
      rcases List.mem_append.1 hz with hz | hz
      · exact h2 z hz
      · rw [List.mem_singleton] at hz; subst hz; exact h1 _ (by simp)) q1 q2
    rw [List.append_assoc, List.singleton_append] at this
    exact this
theorem right_pos {al : List At} : ∀ x ∈ al.filter rightA, 1 ≤ x.2 := fun x hx => by
  have := (List.mem_filter.1 hx).2
  unfold rightA at this
  simp at this
  omega
theorem great_spec (al : List At) : Rises ltN (greatL al) ∧ ∀ y, y ∈ greatL al ↔ Top (al.filter rightA) y := by
  have h := great_fold (al.filter rightA) [] [] right_pos (fun x hx => by simp at hx) List.Pairwise.nil (fun y => ⟨fun h => by simp at h, fun h => by have := h.1; simp at this⟩)
  rw [List.nil_append] at h
  exact h
theorem rises_ne {xs : List At} (h : Rises ltN xs) : xs.Pairwise fun x y => x.1 ≠ y.1 :=
  h.imp (fun {a b} hab e => by rw [e, ordN.irr] at hab; cases hab)
/-- Beaten by none but itself. -/
def Und (L : List At) (y : At) : Prop := y ∈ L ∧ ∀ x ∈ L, wthB x.1 y.1 = true → y.2 ≤ x.2 → x = y
theorem und_ex {L : List At} (hu : ∀ x ∈ L, U64 x.1) (hd : ∀ x ∈ L, ∀ y ∈ L, x.1 = y.1 → x = y) : ∀ (n : Nat) (x : At), x ∈ L → pcS x.1 < n → ∃ y, Und L y ∧ wthB y.1 x.1 = true ∧ x.2 ≤ y.2 := by
  intro n
  induction n with
  | zero => intro x _ h; omega
  | succ n ih =>
    intro x hx hn
    by_cases h : ∃ z ∈ L, wthB z.1 x.1 = true ∧ x.2 ≤ z.2 ∧ z ≠ x
    · obtain ⟨z, hz, h1, h2, h3⟩ := h
      have hne : z.1 ≠ x.1 := fun e => h3 (hd z hz x hx e)
      have hlt := pc_lt (hu z hz) (hu x hx) h1 hne
      obtain ⟨y, hy, hy1, hy2⟩ := ih z hz (by omega)
      exact ⟨y, hy, wth_trans hy1 h1, by omega⟩
    · refine ⟨x, ⟨hx, fun z hz h1 h2 => ?_⟩, wth_refl _, Int.le_refl _⟩
      exact Classical.byContradiction fun h3 => h ⟨z, hz, h1, h2, h3⟩
theorem risesS_inj {L : List At} (h : RisesS L) : ∀ x ∈ L, ∀ y ∈ L, x.1 = y.1 → x = y := by
  induction L with
  | nil => intro x hx; simp at hx
  | cons a L ih =>
    obtain ⟨h1, h2⟩ := List.pairwise_cons.1 h
    intro x hx y hy e
    rcases List.mem_cons.1 hx with hxa | hx
    · rcases List.mem_cons.1 hy with hya | hy
      · rw [hxa, hya]
      · have := h1 y hy; rw [← hxa, e, ordS.irr] at this; cases this
    · rcases List.mem_cons.1 hy with hya | hy
      · have := h1 x hx; rw [← hya, e, ordS.irr] at this; cases this
      · exact ih h2 x hx y hy e
theorem norm_fold {L : List At} (hr : RisesS L) (hu : ∀ x ∈ L, U64 x.1) : ∀ (suf pre out : List At), L = pre ++ suf → (∀ y, y ∈ out ↔ (y ∈ pre ∧ Und L y)) → RisesS out →
    RisesS (suf.foldl norm1 out) ∧ ∀ y, y ∈ suf.foldl norm1 out ↔ Und L y := by
  have hd := risesS_inj hr
  intro suf
  induction suf with
  | nil =>
    intro pre out hL hm ho
    refine ⟨ho, fun y => ?_⟩
    rw [List.append_nil] at hL
    show y ∈ out ↔ _
    rw [hm, ← hL]
    exact ⟨fun h => h.2, fun h => ⟨h.1, h⟩⟩
  | cons a suf ih =>
    intro pre out hL hm ho
    have haL : a ∈ L := by rw [hL]; simp
    have hsplit := hr
    rw [hL] at hsplit
    obtain ⟨hp1, hp2, hp3⟩ := List.pairwise_append.1 hsplit
    obtain ⟨hp4, hp5⟩ := List.pairwise_cons.1 hp2
    -- what stands ahead of it
    have hahead : ∀ x ∈ L, ltS x.1 a.1 = true → x ∈ pre := by
      intro x hx hlt
      rw [hL] at hx
      rcases List.mem_append.1 hx with hx | hx
      · exact hx
      · rcases List.mem_cons.1 hx with rfl | hx
        · rw [ordS.irr] at hlt; cases hlt
        · have := hp4 x hx; rw [ordS.asym hlt] at this; cases this
    have hna : a ∉ pre := fun h => by have := hp3 a h a (by simp); rw [ordS.irr] at this; cases this
    have hbeat : beatB a out = true ↔ ¬ Und L a := by
      unfold beatB
      rw [List.any_eq_true]
      constructor
      · rintro ⟨b, hb, hb2⟩ hund
        simp only [Bool.and_eq_true, decide_eq_true_iff] at hb2
        obtain ⟨hb3, hb4⟩ := (hm b).1 hb
        have := hund.2 b hb4.1 hb2.1 hb2.2
        subst this
        exact hna hb3
      · intro hnu
        have : ∃ x ∈ L, wthB x.1 a.1 = true ∧ a.2 ≤ x.2 ∧ x ≠ a := Classical.byContradiction fun h => hnu ⟨haL, fun x hx h1 h2 => Classical.byContradiction fun h3 => h ⟨x, hx, h1, h2, h3⟩⟩
        obtain ⟨x, hx, h1, h2, h3⟩ := this
        have hne : x.1 ≠ a.1 := fun e => h3 (hd x hx a haL e)
        obtain ⟨y, hy, hy1, hy2⟩ := und_ex hu hd (pcS x.1 + 1) x hx (by omega)
        have hya : wthB y.1 a.1 = true := wth_trans hy1 h1
        have hyne : y.1 ≠ a.1 := fun e => by
          have h5 := pc_lt (hu x hx) (hu a haL) h1 hne
          by_cases h6 : y.1 = x.1
          · rw [← h6, e] at hne; exact hne rfl
          · have h7 := pc_lt (hu y hy.1) (hu x hx) hy1 h6
            rw [e] at h7; omega
        have hlt := wth_ltS (hu y hy.1) (hu a haL) hya hyne
        refine ⟨y, (hm y).2 ⟨hahead y hy.1 hlt, hy⟩, ?_⟩
        simp only [Bool.and_eq_true, decide_eq_true_iff]
        exact ⟨hya, by omega⟩
    rw [List.foldl_cons]
    have hL' : L = (pre ++ [a]) ++ suf := by rw [hL, List.append_assoc, List.singleton_append]
    by_cases hu2 : Und L a
    · have hb : ¬ beatB a out = true := fun h => hbeat.1 h hu2
      have e : norm1 out a = out ++ [a] := by unfold norm1; rw [if_neg hb]
      rw [e]
      refine ih (pre ++ [a]) (out ++ [a]) hL' (fun y => ?_) (List.pairwise_append.2 ⟨ho, by simp, fun x hx y hy => ?_⟩)
      · rw [List.mem_append, hm, List.mem_append, List.mem_singleton]
        constructor
        · rintro (⟨h1, h2⟩ | rfl)
          · exact ⟨.inl h1, h2⟩
          · exact ⟨.inr rfl, hu2⟩
        · rintro ⟨h1 | h1, h2⟩
          · exact .inl ⟨h1, h2⟩
          · exact .inr h1
      · rw [List.mem_singleton] at hy; subst hy
        exact hp3 x ((hm x).1 hx).1 _ (by simp)
    · have hb : beatB a out = true := hbeat.2 hu2
      have e : norm1 out a = out := by unfold norm1; rw [if_pos hb]
      rw [e]
      refine ih (pre ++ [a]) out hL' (fun y => ?_) ho
      rw [hm, List.mem_append, List.mem_singleton]
      constructor
      · rintro ⟨h1, h2⟩; exact ⟨.inl h1, h2⟩
      · rintro ⟨h1 | h1, h2⟩
        · exact ⟨h1, h2⟩
        · subst h1; exact absurd h2 hu2
/-- The greatest ones that none beats are the ones that none beats. -/
theorem und_top {R L : List At} (hL : ∀ y, y ∈ L ↔ Top R y) (hex : ∀ x ∈ R, ∃ t, Top R t ∧ t.1 = x.1) (y : At) : Und L y ↔ Und R y := by
  constructor
  · rintro ⟨h1, h2⟩
    have hy := (hL y).1 h1
    refine ⟨hy.1, fun x hx hw hv => ?_⟩
    obtain ⟨t, ht, htx⟩ := hex x hx
    have hle := ht.2 x hx htx.symm
    have e := h2 t ((hL t).2 ht) (by rw [htx]; exact hw) (by omega)
    subst e
    have := ht.2 x hx htx.symm
    obtain ⟨x1, x2⟩ := x; obtain ⟨t1, t2⟩ := t
    simp only at *
    rw [htx]; congr 1; omega
  · rintro ⟨h1, h2⟩
    refine ⟨(hL y).2 ⟨h1, fun x hx hxy => ?_⟩, fun x hx hw hv => h2 x ((hL x).1 hx).1 hw hv⟩
    rcases Int.le_total x.2 y.2 with h | h
    · exact h
    · have := h2 x hx (by rw [hxy]; exact wth_refl _) h
      rw [this]; exact Int.le_refl _
theorem top_ex : ∀ (l : List At) (z : At), z ∈ l → ∃ t, Top l t ∧ t.1 = z.1 := by
  intro l
  induction l with
  | nil => intro z hz; simp at hz
  | cons a l ih =>
    intro z hz
    by_cases hq : ∃ w ∈ l, w.1 = z.1
    · obtain ⟨w, hw, hwz⟩ := hq
      obtain ⟨t, ⟨ht1, ht2⟩, ht3⟩ := ih w hw
      by_cases hb : a.1 = t.1 ∧ t.2 < a.2
      · refine ⟨a, ⟨by simp, fun u hu hua => ?_⟩, by rw [hb.1, ht3, hwz]⟩
        rcases List.mem_cons.1 hu with rfl | hu
        · exact Int.le_refl _
        · have := ht2 u hu (hua.trans hb.1); omega
      · refine ⟨t, ⟨List.mem_cons_of_mem _ ht1, fun u hu hut => ?_⟩, ht3.trans hwz⟩
        rcases List.mem_cons.1 hu with rfl | hu
        · have : ¬ (t.2 < u.2) := fun h => hb ⟨hut, h⟩
          omega
        · exact ht2 u hu hut
    · rcases List.mem_cons.1 hz with rfl | hz
      · refine ⟨z, ⟨by simp, fun u hu huz => ?_⟩, rfl⟩
        rcases List.mem_cons.1 hu with rfl | hu
        · exact Int.le_refl _
        · exact absurd ⟨u, hu, huz⟩ hq
      · exact absurd ⟨z, hz, rfl⟩ hq
/-- **THE NORMAL LIST**: it rises, and has just the right atoms that none beats. -/
theorem norm_spec (al : List At) (hu : ∀ x ∈ al, U64 x.1) : RisesS (normL al) ∧ ∀ y, y ∈ normL al ↔ Und (al.filter rightA) y := by
  obtain ⟨g1, g2⟩ := great_spec al
  have hs : RisesS (sortS (greatL al)) := sortS_rises _ (rises_ne g1)
  have hLm : ∀ y, y ∈ sortS (greatL al) ↔ Top (al.filter rightA) y := fun y => (sortS_mem _ y).trans (g2 y)
  have huL : ∀ x ∈ sortS (greatL al), U64 x.1 := fun x hx => hu x (List.mem_filter.1 ((hLm x).1 hx).1).1
  obtain ⟨n1, n2⟩ := norm_fold hs huL (sortS (greatL al)) [] [] rfl (fun y => by simp) List.Pairwise.nil
  exact ⟨n1, fun y => (n2 y).trans (und_top hLm (top_ex _) y)⟩
end Go.Proofs.Ytmmingnkepifoaa.AtM
/- set.Cmp's order is a strict weak order. -/
namespace Go.Proofs.Ytmmingnkepifoaa.Sw
open Go Go.Proofs Go.Shelf Go.Sort Go.Proofs.Ytmmingnkepifoaa.TrM Go.Proofs.Ytmmingnkepifoaa.AtM
theorem ltOf_cmpS (x y : Int × Int) : ltOf (fun x y : Int × Int => cmpS x.1 y.1) x y = decide (pcS x.1 < pcS y.1 ∨ (pcS x.1 = pcS y.1 ∧ x.1 < y.1)) := by
  have h : (cmpS x.1 y.1 < 0) ↔ (pcS x.1 < pcS y.1 ∨ (pcS x.1 = pcS y.1 ∧ x.1 < y.1)) := by
    unfold cmpS; repeat' split
    all_goals omega
  unfold ltOf
  simp only [h]
theorem swoS : SWO (ltOf fun x y : Int × Int => cmpS x.1 y.1) where
  irrefl x := by rw [ltOf_cmpS]; simp
  trans x y z h1 h2 := by rw [ltOf_cmpS] at *; simp only [decide_eq_true_eq] at *; omega
  ntrans x y z h1 h2 := by rw [ltOf_cmpS] at *; simp only [decide_eq_false_iff_not] at *; omega
end Go.Proofs.Ytmmingnkepifoaa.Sw
