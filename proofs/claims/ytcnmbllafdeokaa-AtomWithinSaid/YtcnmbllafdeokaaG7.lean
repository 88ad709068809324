/- Some texts of one seat in one file, in build order. -/
import Derived.Test.YtcnmbllafdeokaaG6
import Derived.Deep.LoopGhost
import Derived.Test.YtcnmbllafdeokaaG5
import Derived.Sort.QuietIn
import Derived.Shelf.RegionOpen
import Derived.Test.YtcnmbllafdeokaaG1
import Derived.Shelf.SlSortCmp.KitK
import Derived.Test.YtcnmbllafdeokaaG4
import Derived.Laws.BitsAllLaws
import Derived.Laws.Bits128
/- package table at uint64 keys and int64 values: find, Get, Put. -/
namespace Go.Proofs.Ytcnmbllafdeokaa.H
open Go.RowKit Go.Proofs.YtcnmbllafdeokaaW.PrintWords Go.Proofs.YtcnmbllafdeokaaW.PrintLast Go.Proofs.YtcnmbllafdeokaaW.PrintMore Go.Proofs.Ytcnmbllafdeokaa.TrM Go.Proofs.Ytcnmbllafdeokaa.AtM
set_option linter.unusedVariables false
set_option linter.unusedSimpArgs false
set_option maxRecDepth 100000

/-- What find leaves: nil, or the node. -/
def FindP (W : World) (k : Int) (t : TN) (p : Option Addr) : Prop :=
  (p = none ∧ findT ltN k t = none) ∨ ∃ g v pl pr h s, p = some ⟨g, 0, none⟩ ∧ findT ltN k t = some (k, v) ∧ W.heap[g]? = some (.cells (ndCells k v pl pr h s) 61 (0, 0))
set_option maxHeartbeats 1600000 in
theorem find_calls (k : Int) (t : TN) (p : Option Addr) (W : World) (h : TrAt W p t) :
    Calls Try.prog 33 #[.pointer p, .int .u64 k] W fun e W' => ∃ p', e = .returned (.pointer p') ∧ FindP W k t p' ∧ W = W' := by
  have H := Aside0.mk h
  clear h
  go_enter Try.func33, Try.ntmps33
  go_wp2
  go_loopg [0] (sT t) (fun n x wr => ∃ (q : Option Addr) (t' : TN), x = .pointer q ∧ Aside0 (TrAt W q t' ∧ findT ltN k t = findT ltN k t' ∧ sT t' ≤ n) ∧ W = wr)
  case atStart => exact ⟨p, t, rfl, ⟨H.out, rfl, Nat.le_refl _⟩, rfl⟩
  case round =>
    obtain ⟨q, t', rfl, HQ, rfl⟩ := hrel
    cases t' with
    | lf =>
      obtain rfl : q = none := HQ.out.1
      go_wp2
      go_ret
      exact ⟨none, rfl, .inl ⟨rfl, HQ.out.2.1⟩, rfl⟩
    | nd k' v' l r =>
      obtain ⟨g, pl, pr, rfl, hb, h1, h2⟩ := HQ.out.1
      obtain ⟨z0, z1, z2, z3, z4, z5⟩ := nd_cells hb
      have HB := Aside0.mk (And.intro hb (And.intro h1 h2))
      clear hb h1 h2
      by_cases c1 : k < k'
      · have hf : findT ltN k (.nd k' v' l r) = findT ltN k l := by simp [findT, ltN, c1]
        have hc : cmpN k k' = -1 := by unfold cmpN; rw [if_pos c1]
        have HF := Lib.hid hf
        have HC := Lib.hid hc
        clear hf hc c1
        go_wp2_with (go_at_call 42; refine (cmp_u64_eq k k' (-1) _ HC.out).mono ?_; rintro e w' ⟨rfl, rfl⟩)
        go_roundg (sT l)
        case measure => have := HQ.out.2.2; simp only [sT] at this; omega
        case rel => exact ⟨pl, l, rfl, ⟨HB.out.2.1, by rw [HQ.out.2.1, HF.out], Nat.le_refl _⟩, rfl⟩
      · by_cases c2 : k' < k
        · have hf : findT ltN k (.nd k' v' l r) = findT ltN k r := by simp [findT, ltN, c1, c2]
          have hc : cmpN k k' = 1 := by unfold cmpN; rw [if_neg c1, if_pos c2]
          have HF := Lib.hid hf
          have HC := Lib.hid hc
          clear hf hc c1 c2
          go_wp2_with (go_at_call 42; refine (cmp_u64_eq k k' 1 _ HC.out).mono ?_; rintro e w' ⟨rfl, rfl⟩)
          go_roundg (sT r)
          case measure => have := HQ.out.2.2; simp only [sT] at this; omega
          case rel => exact ⟨pr, r, rfl, ⟨HB.out.2.2, by rw [HQ.out.2.1, HF.out], Nat.le_refl _⟩, rfl⟩
        · obtain rfl : k = k' := by omega
          have hf : findT ltN k (.nd k v' l r) = some (k, v') := by simp [findT, ltN]
          have hc : cmpN k k = 0 := by unfold cmpN; rw [if_neg c1, if_neg c1]
          have HF := Lib.hid hf
          have HC := Lib.hid hc
          clear hf hc c1 c2
          go_wp2_with (go_at_call 42; refine (cmp_u64_eq k k 0 _ HC.out).mono ?_; rintro e w' ⟨rfl, rfl⟩)
          go_ret
          exact ⟨_, rfl, .inr ⟨g, v', pl, pr, _, _, rfl, by rw [HQ.out.2.1, HF.out], HB.out.1⟩, rfl⟩
/-- A table in a box. -/
structure TbAt (W : World) (gt : Nat) (xs : List (Int × Int)) : Prop where
  ex : ∃ (p : Option Addr) (t : TN), W.heap[gt]? = some (.cells #[.pointer p] 47 (0, 0)) ∧ TrAt W p t ∧ flat t = xs
theorem TbAt.below {W W' : World} {gt : Nat} {xs : List (Int × Int)} (h : TbAt W gt xs) (hb : Below W.heap.size W W') : TbAt W' gt xs := by
  obtain ⟨⟨p, t, h1, h2, h3⟩⟩ := h
  exact ⟨⟨p, t, blk_belowX h1 hb, h2.below hb, h3⟩⟩
theorem get_nm {x : Option (Int × Int)} {k : Int} (h : ∀ y, x = some y → y.1 = k) : x = none ∨ ∃ v, x = some (k, v) := by
  cases x with
  | none => exact .inl rfl
  | some y =>
    have := h y rfl
    obtain ⟨a, b⟩ := y
    simp only at this
    subst this
    exact .inr ⟨b, rfl⟩
set_option maxHeartbeats 1600000 in
theorem Get_calls (gt : Nat) (k : Int) (xs : List (Int × Int)) (W : World) (h : TbAt W gt xs) (hr : Rises ltN xs) :
    Calls Try.prog 25 #[.pointer (some ⟨gt, 0, none⟩), .int .u64 k] W fun e W' => (∃ b, e = .returned (.tuple #[.int .i64 (AtM.valOf k xs), .bool b])) ∧ W = W' := by
  obtain ⟨⟨p, t, hb, ht, hf⟩⟩ := h
  subst hf
  have hfl := find_flat ordN k t hr
  have d0 : W.cell? ⟨gt, 0, none⟩ = some (.pointer p) := by rw [blk_cell hb]; rfl
  have H := Aside0.mk (And.intro ht hfl)
  clear ht hb hfl hr
  go_enter Try.func25, Try.ntmps25
  go_wp2_with (fail)
  refine (find_calls k t p _ H.out.1).mono ?_
  rintro e w1 ⟨p', rfl, hp, rfl⟩
  rcases hp with ⟨rfl, h0⟩ | ⟨g, v, pl, pr, hh, ss, rfl, h0, hb⟩
  · have hv : AtM.valOf k (flat t) = 0 := by unfold AtM.valOf; rw [← H.out.2, h0]
    have HV := Lib.hid hv
    clear hv h0
    go_wp2
    go_ret2
    rw [HV.out]
    exact ⟨⟨_, rfl⟩, rfl⟩
  · have hv : AtM.valOf k (flat t) = v := by unfold AtM.valOf; rw [← H.out.2, h0]
    obtain ⟨z0, z1, z2, z3, z4, z5⟩ := nd_cells hb
    have HV := Lib.hid hv
    clear hv h0 hb
    go_wp2
    go_ret2
    rw [HV.out]
    exact ⟨⟨_, rfl⟩, rfl⟩
theorem ne_blk {W : World} {i j : Nat} {cs cs' : Array Value} {t t' : TypeId} {z z' : Nat × Nat} (h : W.heap[i]? = some (.cells cs t z)) (h' : W.heap[j]? = some (.cells cs' t' z')) (hne : t ≠ t') : i ≠ j := by
  rintro rfl
  rw [h] at h'; injection h' with h'; injection h' with _ h' _
  exact hne h'
theorem oth_of_below {g : Nat} {W W' : World} (h : Below W.heap.size W W') : Oth g W W' := ⟨h.os, h.tape, h.output, h.size, fun k hk _ => h.block k hk⟩
set_option maxHeartbeats 1600000 in
theorem Put_calls (gt : Nat) (k v : Int) (xs : List (Int × Int)) (W : World) (h : TbAt W gt xs) (hr : Rises ltN xs) (hl : xs.length ≤ 600000) :
    Calls Try.prog 26 #[.pointer (some ⟨gt, 0, none⟩), .int .u64 k, .int .i64 v] W fun e W' => (∃ b, e = .returned (.bool b)) ∧ TbAt W' gt (insL ltN k v xs) ∧ Oth gt W W' := by
  obtain ⟨⟨p, t, hb, ht, hf⟩⟩ := h
  subst hf
  have hfl := flat_put ordN k v t hr
  have hs : sT t ≤ 600000 := by rw [sT_flat]; exact hl
  have d0 : W.cell? ⟨gt, 0, none⟩ = some (.pointer p) := by rw [blk_cell hb]; rfl
  have H := Aside0.mk (And.intro ht (And.intro hfl hb))
  clear ht hb hfl hr hl
  go_enter Try.func26, Try.ntmps26
  go_wp2_with (fail)
  refine (find_calls k t p _ H.out.1).mono ?_
  rintro e w1 ⟨p', rfl, hp, rfl⟩
  have hp2 : p' = none ∨ ∃ g, p' = some ⟨g, 0, none⟩ := by
    rcases hp with ⟨rfl, _⟩ | ⟨g, v, pl, pr, hh, ss, rfl, _⟩
    · exact .inl rfl
    · exact .inr ⟨g, rfl⟩
  clear hp
  rcases hp2 with rfl | ⟨g, rfl⟩
  all_goals
    go_wp2_with (fail)
    refine (put_calls k v t p _ H.out.1 (by omega)).mono ?_
    rintro e w2 ⟨p2, rfl, ht2, hb2⟩
    have hx := blk_belowX H.out.2.2 hb2
    have d0 : w2.cell? ⟨gt, 0, none⟩ = some (.pointer p) := by rw [blk_cell hx]; rfl
    have f0 := blk_frozen hx 0
    have hg := lt_of_some hx
    have H2 := Aside0.mk (And.intro ht2 (And.intro hx hb2))
    clear ht2 hx hb2
    go_wp2
    go_ret
    have hset : Oth gt w2 (w2.setCell ⟨gt, 0, none⟩ (.pointer p2)) := Oth.set w2 ⟨gt, 0, none⟩ _
    refine ⟨⟨_, rfl⟩, ⟨⟨p2, putT ltN k v t, blk_put H2.out.2.1 0 _ rfl, ?_, H.out.2.1⟩⟩, (oth_of_below H2.out.2.2).trans hset⟩
    refine TrAt.mono (fun g' cs hg' => ?_) H2.out.1
    exact hset.blk hg' (ne_blk hg' H2.out.2.1 (by decide))
end Go.Proofs.Ytcnmbllafdeokaa.H
/- package table at uint64 keys and int64 values: All, its func, and rise. -/
namespace Go.Proofs.Ytcnmbllafdeokaa.H
open Go.RowKit Go.Proofs.YtcnmbllafdeokaaW.PrintWords Go.Proofs.YtcnmbllafdeokaaW.PrintLast Go.Proofs.YtcnmbllafdeokaaW.PrintMore Go.Proofs.Ytcnmbllafdeokaa.TrM Go.Proofs.Ytcnmbllafdeokaa.AtM
set_option linter.unusedVariables false
set_option linter.unusedSimpArgs false
set_option maxRecDepth 100000
attribute [local go_sem] Oper.semAt_some wide_fn wide_depth

/-- What the func tells a round. -/
def AllY (xs : List (Int × Int)) (pre : List (Int × Int)) (x : Int × Int) (vs : Array Value) (W : World) : Prop :=
  pre ++ [x] <+: xs ∧ vs = #[.int .u64 x.1, .int .i64 x.2]
theorem All_calls (gt : Nat) (w : World) : Calls Try.prog 27 #[.pointer (some ⟨gt, 0, none⟩)] w fun e w' =>
    e = .returned (.func (.func 35) #[] #[.pointer (some ⟨w.heap.size, 0, none⟩)]) ∧ w' = w.alloc (.cells #[.pointer (some ⟨gt, 0, none⟩)] 58) := by
  go_enter Try.func27, Try.ntmps27
  go_wp2
  go_ret
  exact ⟨rfl, rfl⟩
/-- A tree that lies so in all worlds of a kind. -/
def TrU (Q : World → Prop) : Option Addr → TN → Prop
  | p, .lf => p = none
  | p, .nd k v l r => ∃ g pl pr h s, p = some ⟨g, 0, none⟩ ∧ (∀ W, Q W → W.heap[g]? = some (.cells (ndCells k v pl pr h s) 61 (0, 0))) ∧ TrU Q pl l ∧ TrU Q pr r
theorem TrAt.u {Q : World → Prop} {w : World} (hQ : ∀ (g : Nat) (cs : Array Value), w.heap[g]? = some (.cells cs 61 (0, 0)) → ∀ W, Q W → W.heap[g]? = some (.cells cs 61 (0, 0))) : ∀ {t : TN} {p : Option Addr}, TrAt w p t → TrU Q p t := by
  intro t
  induction t with
  | lf => intro p h; exact h
  | nd k v l r hl hr =>
    rintro p ⟨g, pl, pr, e, hb, h1, h2⟩
    exact ⟨g, pl, pr, _, _, e, hQ g _ hb, hl h1, hr h2⟩
theorem prefix_left {α : Type} {a b c xs : List α} (h : a ++ (b ++ c) <+: xs) : a ++ b <+: xs := by
  obtain ⟨d, hd⟩ := h
  exact ⟨c ++ d, by rw [← hd]; simp⟩
theorem ret_bool {e : Ending} {A B : Prop} (h : (e = .returned (.bool true) ∧ A) ∨ (e = .returned (.bool false) ∧ B)) : ∃ b, e = .returned (.bool b) ∧ ((b = true ∧ A) ∨ (b = false ∧ B)) := by
  rcases h with ⟨h, a⟩ | ⟨h, a⟩
  · exact ⟨true, h, .inl ⟨rfl, a⟩⟩
  · exact ⟨false, h, .inr ⟨rfl, a⟩⟩
set_option maxHeartbeats 3200000 in
theorem rise_calls (l : Nat) (xs : List (Int × Int)) (n₀ : Nat) (Kb : Nat → Prop) (J Jx : List (Int × Int) → World → Prop) (w : World) (hn : n₀ ≤ w.heap.size)
    (hJ : ∀ s A B, J s A → Below A.heap.size A B → J s B) (hJx : ∀ s A B, Jx s A → Below A.heap.size A B → Jx s B) (m : Nat)
    (hY : ∀ pre x vs W1, J pre W1 → AllY xs pre x vs W1 → YieldAt Fence.wide m Try.prog l vs W1 fun e W' =>
      (e = .returned (.bool true) ∧ J (pre ++ [x]) W' ∧ Kp n₀ Kb W1 W') ∨ (e = .returned (.bool false) ∧ Jx (pre ++ [x]) W')) :
    ∀ (t : TN) (p : Option Addr) (pre : List (Int × Int)) (n : Nat) (W : World), TrU (Kp n₀ Kb w) p t → pre ++ flat t <+: xs → Kp n₀ Kb w W → J pre W →
    CallsIn Fence.wide n Try.prog 36 #[.pointer p, .pointer none, .func (.yield l) #[] #[]] W fun e W' =>
      (e = .returned (.bool true) ∧ J (pre ++ flat t) W' ∧ Kp n₀ Kb w W') ∨ (e = .returned (.bool false) ∧ ∃ q, Jx q W') := by
  intro t
  induction t with
  | lf =>
    intro p pre n W hT hpre hK h0
    obtain rfl : p = none := hT
    refine callsIn_of_wp Try.func36 rfl trivial ?_ rfl
    simp only [Try.ntmps36, List.size_toArray, List.length_cons, List.length_nil, Nat.reduceAdd, Nat.reduceSub, Array.replicate_succ, Array.replicate_zero, List.push_toArray, List.append_toArray, List.nil_append, List.cons_append]
    gi_wp2
    go_ret
    exact .inl ⟨rfl, by simpa [flat] using h0, hK⟩
  | nd k v tl tr hl hr =>
    intro p pre n W hT hpre hK h0
    obtain ⟨g, pl, pr, h, s, rfl, hb, h1, h2⟩ := hT
    obtain ⟨z0, z1, z2, z3, z4, z5⟩ := nd_cells (hb W hK)
    have H := Aside0.mk (And.intro hb (And.intro h1 (And.intro h2 (And.intro hpre (And.intro hK h0)))))
    have HI := Aside0.mk (And.intro hl hr)
    clear hb h1 h2 hpre hl hr hK h0 z4 z5
    refine callsIn_of_wp Try.func36 rfl trivial ?_ rfl
    simp only [Try.ntmps36, List.size_toArray, List.length_cons, List.length_nil, Nat.reduceAdd, Nat.reduceSub, Array.replicate_succ, Array.replicate_zero, List.push_toArray, List.append_toArray, List.nil_append, List.cons_append]
    gi_wp2
    gi_quiet (fail)
    gi_wp2
    have hmix : Try.prog.follows .mixedOrders = true := by kernel_rfl
    have hp1 : pre ++ flat tl <+: xs := prefix_left H.out.2.2.2.1
    have hp2 : (pre ++ flat tl) ++ [(k, v)] <+: xs := by
      have := H.out.2.2.2.1
      unfold flat at this
      rw [← List.append_assoc] at this
      exact prefix_left (c := flat tr) (by simpa using this)
    have hp3 : ((pre ++ flat tl) ++ [(k, v)]) ++ flat tr <+: xs := by
      have := H.out.2.2.2.1
      unfold flat at this
      simpa using this
    have hdr : ∀ q, Below W.heap.size W (W.drewN q) := fun q => pw_below_drewN (Below.refl _ _) _
    have hnW := H.out.2.2.2.2.1
    have HQ := H
    gi_region_with_o (first
      | (gi_at_call 36; have _t := H; refine (HI.out.1 pl pre _ _ HQ.out.2.1 hp1 (hnW.trans (.of_below (hdr _) (Nat.le_trans hn hnW.1))) (hJ _ _ _ HQ.out.2.2.2.2.2 (hdr _))).mono ?_; rintro e w1 (⟨rfl, hj1, hk1⟩ | ⟨rfl, q, hx1⟩); rotate_left; gi_wp2; refine wpAnyIn_take (i := 7) (v := ?_) rfl rfl (by kernel_rfl) (by kernel_rfl) (by kernel_rfl) (fun _ _ _ h => h) ⟨Or.inl ⟨by kernel_rfl, ?tk⟩, fun _ => rfl⟩ ?_; (case tk => intro w; first | (go_simp; done) | (go_simp; rfl)); refine wpAnyIn_take (i := 8) (v := undef) rfl rfl (by kernel_rfl) (by kernel_rfl) (by kernel_rfl) (fun _ _ _ h => h) ⟨Or.inr ⟨by kernel_rfl, rfl⟩, fun _ => rfl⟩ ?_; go_simp; refine wpAnyIn_take (i := 9) (v := undef) rfl rfl (by kernel_rfl) (by kernel_rfl) (by kernel_rfl) (fun _ _ _ h => h) ⟨Or.inr ⟨by kernel_rfl, rfl⟩, fun _ => rfl⟩ ?_; go_simp; refine wpAnyIn_take (i := 10) (v := undef) rfl rfl (by kernel_rfl) (by kernel_rfl) (by kernel_rfl) (fun _ _ _ h => h) ⟨Or.inr ⟨by kernel_rfl, rfl⟩, fun _ => rfl⟩ ?_; go_simp; refine wpAnyIn_take (i := 11) (v := undef) rfl rfl (by kernel_rfl) (by kernel_rfl) (by kernel_rfl) (fun _ _ _ h => h) ⟨Or.inr ⟨by kernel_rfl, rfl⟩, fun _ => rfl⟩ ?_; go_simp; refine wpAnyIn_take (i := 12) (v := undef) rfl rfl (by kernel_rfl) (by kernel_rfl) (by kernel_rfl) (fun _ _ _ h => h) ⟨Or.inr ⟨by kernel_rfl, rfl⟩, fun _ => rfl⟩ ?_; go_simp; refine wpAnyIn_take (i := 13) (v := undef) rfl rfl (by kernel_rfl) (by kernel_rfl) (by kernel_rfl) (fun _ _ _ h => h) ⟨Or.inr ⟨by kernel_rfl, rfl⟩, fun _ => rfl⟩ ?_; go_simp; refine wpAnyIn_take (i := 14) (v := undef) rfl rfl (by kernel_rfl) (by kernel_rfl) (by kernel_rfl) (fun _ _ _ h => h) ⟨Or.inr ⟨by kernel_rfl, rfl⟩, fun _ => rfl⟩ ?_; go_simp; refine wpAnyIn_take (i := 15) (v := undef) rfl rfl (by kernel_rfl) (by kernel_rfl) (by kernel_rfl) (fun _ _ _ h => h) ⟨Or.inr ⟨by kernel_rfl, rfl⟩, fun _ => rfl⟩ ?_; go_simp; refine wpAnyIn_take (i := 16) (v := undef) rfl rfl (by kernel_rfl) (by kernel_rfl) (by kernel_rfl) (fun _ _ _ h => h) ⟨Or.inr ⟨by kernel_rfl, rfl⟩, fun _ => rfl⟩ ?_; go_simp; refine wpAnyIn_take (i := 17) (v := undef) rfl rfl (by kernel_rfl) (by kernel_rfl) (by kernel_rfl) (fun _ _ _ h => h) ⟨Or.inr ⟨by kernel_rfl, rfl⟩, fun _ => rfl⟩ ?_; go_simp; refine wpAnyIn_take (i := 18) (v := ?_) rfl rfl (by kernel_rfl) (by kernel_rfl) (by kernel_rfl) (fun _ _ _ h => h) ⟨Or.inl ⟨by kernel_rfl, ?tk⟩, fun _ => rfl⟩ ?_; (case tk => intro w; first | (go_simp; done) | (go_simp; rfl)); refine wpAnyIn_take (i := 19) (v := ?_) rfl rfl (by kernel_rfl) (by kernel_rfl) (by kernel_rfl) (fun _ _ _ h => h) ⟨Or.inl ⟨by kernel_rfl, ?tk⟩, fun _ => rfl⟩ ?_; (case tk => intro w; first | (go_simp; done) | (go_simp; rfl)); refine wpAnyIn_take (i := 20) (v := undef) rfl rfl (by kernel_rfl) (by kernel_rfl) (by kernel_rfl) (fun _ _ _ h => h) ⟨Or.inr ⟨by kernel_rfl, rfl⟩, fun _ => rfl⟩ ?_; go_simp; refine wpAnyIn_take (i := 21) (v := undef) rfl rfl (by kernel_rfl) (by kernel_rfl) (by kernel_rfl) (fun _ _ _ h => h) ⟨Or.inr ⟨by kernel_rfl, rfl⟩, fun _ => rfl⟩ ?_; go_simp; refine wpAnyIn_take (i := 22) (v := undef) rfl rfl (by kernel_rfl) (by kernel_rfl) (by kernel_rfl) (fun _ _ _ h => h) ⟨Or.inr ⟨by kernel_rfl, rfl⟩, fun _ => rfl⟩ ?_; go_simp; refine wpAnyIn_take (i := 23) (v := undef) rfl rfl (by kernel_rfl) (by kernel_rfl) (by kernel_rfl) (fun _ _ _ h => h) ⟨Or.inr ⟨by kernel_rfl, rfl⟩, fun _ => rfl⟩ ?_; go_simp; refine wpAnyIn_take (i := 24) (v := undef) rfl rfl (by kernel_rfl) (by kernel_rfl) (by kernel_rfl) (fun _ _ _ h => h) ⟨Or.inr ⟨by kernel_rfl, rfl⟩, fun _ => rfl⟩ ?_; go_simp; refine wpAnyIn_ready (rs := [25]) (by kernel_rfl) (by simp) ?_; refine AllReadyIn.cons rfl (fun K hK => ?_) AllReadyIn.nil; go_simp; refine hK _ _ ?_; clear hK K; refine wpAnyIn_take (i := 26) (v := ?_) rfl rfl (by kernel_rfl) (by kernel_rfl) (by kernel_rfl) (fun _ _ _ h => h) ⟨Or.inl ⟨by kernel_rfl, ?tk⟩, fun _ => rfl⟩ ?_; (case tk => intro w; first | (go_simp; done) | (go_simp; rfl)); refine wpAnyIn_take (i := 27) (v := ?_) rfl rfl (by kernel_rfl) (by kernel_rfl) (by kernel_rfl) (fun _ _ _ h => h) ⟨Or.inl ⟨by kernel_rfl, ?tk⟩, fun _ => rfl⟩ ?_; (case tk => intro w; first | (go_simp; done) | (go_simp; rfl)); refine wpAnyIn_done (by kernel_rfl) ?_ _; gi_wp2; go_ret; exact .inr ⟨rfl, q, hx1⟩; obtain ⟨z0, z1, z2, z3, _, _⟩ := nd_cells (HQ.out.1 w1 hk1); obtain ⟨fn, tmps, asg, body, hy, hR⟩ := yieldAt_wide (m' := n - 1) (hY _ (k, v) _ w1 hj1 ⟨hp2, rfl⟩); have H1 := Aside0.mk hk1; clear _t H hk1)
      | (refine hR.mono ?_; clear hR; rintro e w2 (⟨rfl, hj2, hk2⟩ | ⟨rfl, hx2⟩); rotate_left; gi_wp2; refine wpAnyIn_take (i := 18) (v := ?_) rfl rfl (by kernel_rfl) (by kernel_rfl) (by kernel_rfl) (fun _ _ _ h => h) ⟨Or.inl ⟨by kernel_rfl, ?tk⟩, fun _ => rfl⟩ ?_; (case tk => intro w; first | (go_simp; done) | (go_simp; rfl)); refine wpAnyIn_take (i := 19) (v := ?_) rfl rfl (by kernel_rfl) (by kernel_rfl) (by kernel_rfl) (fun _ _ _ h => h) ⟨Or.inl ⟨by kernel_rfl, ?tk⟩, fun _ => rfl⟩ ?_; (case tk => intro w; first | (go_simp; done) | (go_simp; rfl)); refine wpAnyIn_take (i := 20) (v := undef) rfl rfl (by kernel_rfl) (by kernel_rfl) (by kernel_rfl) (fun _ _ _ h => h) ⟨Or.inr ⟨by kernel_rfl, rfl⟩, fun _ => rfl⟩ ?_; go_simp; refine wpAnyIn_take (i := 21) (v := undef) rfl rfl (by kernel_rfl) (by kernel_rfl) (by kernel_rfl) (fun _ _ _ h => h) ⟨Or.inr ⟨by kernel_rfl, rfl⟩, fun _ => rfl⟩ ?_; go_simp; refine wpAnyIn_take (i := 22) (v := undef) rfl rfl (by kernel_rfl) (by kernel_rfl) (by kernel_rfl) (fun _ _ _ h => h) ⟨Or.inr ⟨by kernel_rfl, rfl⟩, fun _ => rfl⟩ ?_; go_simp; refine wpAnyIn_take (i := 23) (v := undef) rfl rfl (by kernel_rfl) (by kernel_rfl) (by kernel_rfl) (fun _ _ _ h => h) ⟨Or.inr ⟨by kernel_rfl, rfl⟩, fun _ => rfl⟩ ?_; go_simp; refine wpAnyIn_take (i := 24) (v := undef) rfl rfl (by kernel_rfl) (by kernel_rfl) (by kernel_rfl) (fun _ _ _ h => h) ⟨Or.inr ⟨by kernel_rfl, rfl⟩, fun _ => rfl⟩ ?_; go_simp; refine wpAnyIn_ready (rs := [25]) (by kernel_rfl) (by simp) ?_; refine AllReadyIn.cons rfl (fun K hK => ?_) AllReadyIn.nil; go_simp; refine hK _ _ ?_; clear hK K; refine wpAnyIn_take (i := 26) (v := ?_) rfl rfl (by kernel_rfl) (by kernel_rfl) (by kernel_rfl) (fun _ _ _ h => h) ⟨Or.inl ⟨by kernel_rfl, ?tk⟩, fun _ => rfl⟩ ?_; (case tk => intro w; first | (go_simp; done) | (go_simp; rfl)); refine wpAnyIn_take (i := 27) (v := ?_) rfl rfl (by kernel_rfl) (by kernel_rfl) (by kernel_rfl) (fun _ _ _ h => h) ⟨Or.inl ⟨by kernel_rfl, ?tk⟩, fun _ => rfl⟩ ?_; (case tk => intro w; first | (go_simp; done) | (go_simp; rfl)); refine wpAnyIn_done (by kernel_rfl) ?_ _; gi_wp2; go_ret; exact .inr ⟨rfl, _, hx2⟩; have hk3 := H1.out.trans hk2; obtain ⟨z0, z1, z2, z3, _, _⟩ := nd_cells (HQ.out.1 w2 hk3); have H2 := Aside0.mk (And.intro hk3 hj2); clear hk2 hk3 hj2 hy)
      | (gi_at_call 36; have _t := H2; refine (HI.out.2 pr _ _ _ HQ.out.2.2.1 hp3 H2.out.1 H2.out.2).mono ?_; intro e w3 h3; obtain ⟨b, rfl, hb3⟩ := ret_bool h3; have H3 := Aside0.mk hb3; clear h3 hb3 _t H2))
    all_goals
      gi_wp2
      go_ret
      rcases H3.out with ⟨rfl, q1, q2⟩ | ⟨rfl, q, q1⟩
      · refine .inl ⟨rfl, ?_, q2⟩
        unfold flat
        simpa using q1
      · exact .inr ⟨rfl, q, q1⟩
end Go.Proofs.Ytcnmbllafdeokaa.H
/- package table at uint64 keys and int64 values: All's func. -/
namespace Go.Proofs.Ytcnmbllafdeokaa.H
open Go.RowKit Go.Proofs.YtcnmbllafdeokaaW.PrintWords Go.Proofs.YtcnmbllafdeokaaW.PrintLast Go.Proofs.YtcnmbllafdeokaaW.PrintMore Go.Proofs.Ytcnmbllafdeokaa.TrM Go.Proofs.Ytcnmbllafdeokaa.AtM
set_option linter.unusedVariables false
set_option linter.unusedSimpArgs false
set_option maxRecDepth 100000
attribute [local go_sem] Oper.semAt_some wide_fn wide_depth

set_option maxHeartbeats 1600000 in
theorem All1_seq (n : Nat) (xs : List (Int × Int)) (t : TN) (p : Option Addr) (gt bb n₀ : Nat) (Kb : Nat → Prop) (w : World) (hf : flat t = xs)
    (hbox : ∀ W, Kp n₀ Kb w W → W.cell? ⟨bb, 0, none⟩ = some (.pointer (some ⟨gt, 0, none⟩))) (htb : ∀ W, Kp n₀ Kb w W → W.cell? ⟨gt, 0, none⟩ = some (.pointer p)) (hT : TrU (Kp n₀ Kb w) p t) (hn : n₀ ≤ w.heap.size) :
    SeqX Fence.wide n Try.prog 35 #[.pointer (some ⟨bb, 0, none⟩)] (AllY xs) n₀ Kb (fun ys => ys = xs) (fun _ => True) w := by
  intro l J Jx W hK hJ hJx hY h0
  subst hf
  have hrise := rise_calls l (flat t) n₀ Kb J Jx w hn hJ hJx (n - 1) hY t p [] (n - 1) W hT (by simp) hK h0
  have d0 := hbox W hK
  have d1 := htb W hK
  have HR := Aside0.mk hrise
  clear hrise hT hK h0 hY hbox htb
  refine callsIn_of_wp Try.func35 rfl trivial ?_ rfl
  simp only [Try.ntmps35, List.size_toArray, List.length_cons, List.length_nil, Nat.reduceAdd, Nat.reduceSub, Array.replicate_succ, Array.replicate_zero, List.push_toArray, List.append_toArray, List.nil_append, List.cons_append]
  gi_wp2_with (fail)
  refine HR.out.mono ?_
  intro e w3 h3
  obtain ⟨b, rfl, hb3⟩ : ∃ b, e = .returned (.bool b) ∧ ((b = true ∧ J ([] ++ flat t) w3 ∧ Kp n₀ Kb w w3) ∨ (b = false ∧ ∃ q, Jx q w3)) := by
    rcases h3 with ⟨h, a⟩ | ⟨h, a⟩
    · exact ⟨true, h, .inl ⟨rfl, a⟩⟩
    · exact ⟨false, h, .inr ⟨rfl, a⟩⟩
  have H3 := Aside0.mk hb3
  clear h3 hb3
  gi_wp2
  go_end0
  rcases H3.out with ⟨rfl, q1, q2⟩ | ⟨rfl, q, q1⟩
  · exact ⟨⟨_, rfl⟩, .inl ⟨_, rfl, by simpa using q1⟩⟩
  · exact ⟨⟨_, rfl⟩, .inr ⟨q, trivial, q1⟩⟩
end Go.Proofs.Ytcnmbllafdeokaa.H
/- set.Cmp's order is a strict weak order. -/
namespace Go.Proofs.Ytcnmbllafdeokaa.Sw
open Go Go.Proofs Go.Shelf Go.Sort Go.Proofs.Ytcnmbllafdeokaa.TrM Go.Proofs.Ytcnmbllafdeokaa.AtM
theorem ltOf_cmpS (x y : Int × Int) : ltOf (fun x y : Int × Int => cmpS x.1 y.1) x y = decide (pcS x.1 < pcS y.1 ∨ (pcS x.1 = pcS y.1 ∧ x.1 < y.1)) := by
  have h : (cmpS x.1 y.1 < 0) ↔ (pcS x.1 < pcS y.1 ∨ (pcS x.1 = pcS y.1 ∧ x.1 < y.1)) := by
    unfold cmpS; repeat' split
    all_goals omega
  unfold ltOf
  simp only [h]
theorem swoS : SWO (ltOf fun x y : Int × Int => cmpS x.1 y.1) where
  irrefl x := by rw [ltOf_cmpS]; simp
  trans x y z h1 h2 := by rw [ltOf_cmpS] at *; simp only [decide_eq_true_eq] at *; omega
  ntrans x y z h1 h2 := by rw [ltOf_cmpS] at *; simp only [decide_eq_false_iff_not] at *; omega
end Go.Proofs.Ytcnmbllafdeokaa.Sw
/- math/bits.OnesCount64: the plain law of the count, byte by byte. No program. -/
namespace Go.Proofs.Ytcnmbllafdeokaa.On
set_option linter.unusedVariables false
set_option linter.unusedSimpArgs false
open Go.Proofs.Ytcnmbllafdeokaa.TrM Go.Proofs.Ytcnmbllafdeokaa.AtM
def pc8 (y : Nat) : Nat := y%2 + y/2%2 + y/4%2 + y/8%2 + y/16%2 + y/32%2 + y/64%2 + y/128%2
theorem and_split (a b c d : Nat) (hb : b < 256) (hd : d < 256) : (256*a+b) &&& (256*c+d) = 256*(a &&& c) + (b &&& d) := by
  have h : (256*a+b) &&& (256*c+d) = 256*(((256*a+b) &&& (256*c+d))/256) + ((256*a+b) &&& (256*c+d)) % 256 := by omega
  rw [h]
  have h1 : ((256*a+b) &&& (256*c+d))/256 = a &&& c := by
    have : (256:Nat) = 2^8 := rfl
    rw [this, Nat.and_div_two_pow]
    congr 1 <;> omega
  have h2 : ((256*a+b) &&& (256*c+d)) % 256 = b &&& d := by
    have : (256:Nat) = 2^8 := rfl
    rw [this, Nat.and_mod_two_pow]
    congr 1 <;> omega
  rw [h1, h2]
def M (d : Nat) : Nat → Nat
  | 0 => 0
  | k+1 => 256 * M d k + d
def A (k x : Nat) : Nat := (x/2 &&& M 0x55 k) + (x &&& M 0x55 k)
def B (k x : Nat) : Nat := (A k x/4 &&& M 0x33 k) + (A k x &&& M 0x33 k)
def C (k x : Nat) : Nat := (B k x/16 + B k x) &&& M 0x0f k
def a8 (y : Nat) : Nat := (y/2 &&& 0x55) + (y &&& 0x55)
def b8 (y : Nat) : Nat := (a8 y/4 &&& 0x33) + (a8 y &&& 0x33)
def c8 (y : Nat) : Nat := (b8 y/16 + b8 y) &&& 0x0f
set_option maxRecDepth 100000
theorem M_succ (d k : Nat) : M d (k+1) = 256 * M d k + d := rfl
theorem dec1 : ∀ y : Fin 256, c8 y.1 = pc8 y.1 ∧ a8 y.1 < 256 ∧ b8 y.1 < 69 ∧ (128 + y.1/2) &&& 0x55 = y.1/2 &&& 0x55 ∧ pc8 y.1 ≤ 8 ∧ b8 y.1 % 16 ≤ 4 := by decide
theorem dec2 : ∀ j : Fin 4, ∀ y : Fin 256, (64*j.1 + y.1/4) &&& 0x33 = y.1/4 &&& 0x33 := by decide
theorem and15 (n : Nat) : n &&& 15 = n % 16 := Nat.and_two_pow_sub_one_eq_mod n 4
theorem A_step (k h y : Nat) (hy : y < 256) : A (k+1) (256*h+y) = 256 * A k h + a8 y := by
  unfold A a8
  rw [M_succ]
  have e : (256*h+y)/2 = 256*(h/2) + (128*(h%2) + y/2) := by omega
  rw [e, and_split _ _ _ _ (by omega) (by omega), and_split _ _ _ _ hy (by omega)]
  have e2 : (128*(h%2) + y/2) &&& 0x55 = y/2 &&& 0x55 := by
    rcases Nat.mod_two_eq_zero_or_one h with hh | hh
    · rw [hh]; simp
    · rw [hh]; exact (dec1 ⟨y, hy⟩).2.2.2.1
  rw [e2]; omega
theorem B_step (k h y : Nat) (hy : y < 256) : B (k+1) (256*h+y) = 256 * B k h + b8 y := by
  have ha : a8 y < 256 := (dec1 ⟨y, hy⟩).2.1
  unfold B b8
  rw [A_step k h y hy, M_succ]
  generalize A k h = a at *
  generalize a8 y = z at *
  have e : (256*a+z)/4 = 256*(a/4) + (64*(a%4) + z/4) := by omega
  rw [e, and_split _ _ _ _ (by omega) (by omega), and_split _ _ _ _ ha (by omega)]
  have e2 : (64*(a%4) + z/4) &&& 0x33 = z/4 &&& 0x33 := dec2 ⟨a%4, by omega⟩ ⟨z, ha⟩
  rw [e2]; omega
theorem B_nib (k h : Nat) : B k h % 16 ≤ 4 := by
  cases k with
  | zero => simp [B, A, M]
  | succ k =>
    have hh : h = 256*(h/256) + h%256 := by omega
    rw [hh, B_step k _ _ (by omega)]
    have := (dec1 ⟨h%256, by omega⟩).2.2.2.2.2
    simp only at this
    omega
theorem C_step (k h y : Nat) (hy : y < 256) : C (k+1) (256*h+y) = 256 * C k h + pc8 y := by
  have hb : b8 y < 69 := (dec1 ⟨y, hy⟩).2.2.1
  have hc : c8 y = pc8 y := (dec1 ⟨y, hy⟩).1
  have hn := B_nib k h
  rw [← hc]
  unfold C c8
  rw [B_step k h y hy, M_succ]
  generalize B k h = b at *
  generalize b8 y = z at *
  have e : (256*b+z)/16 + (256*b+z) = 256*(b/16+b) + (16*(b%16) + z/16 + z) := by omega
  rw [e, and_split _ _ _ _ (by omega) (by omega), and15, and15]
  omega
theorem C_step' (k x : Nat) : C (k+1) x = 256 * C k (x/256) + pc8 (x%256) := by
  have hh : x = 256*(x/256) + x%256 := by omega
  have := C_step k (x/256) (x%256) (by omega)
  rw [← hh] at this; exact this
theorem C_all (x : Nat) : ∃ c0 c1 c2 c3 c4 c5 c6 c7 : Nat, c0 = pc8 (x%256) ∧ c1 = pc8 (x/256%256) ∧ c2 = pc8 (x/256/256%256) ∧ c3 = pc8 (x/256/256/256%256) ∧ c4 = pc8 (x/256/256/256/256%256) ∧ c5 = pc8 (x/256/256/256/256/256%256) ∧ c6 = pc8 (x/256/256/256/256/256/256%256) ∧ c7 = pc8 (x/256/256/256/256/256/256/256%256) ∧ c0 ≤ 8 ∧ c1 ≤ 8 ∧ c2 ≤ 8 ∧ c3 ≤ 8 ∧ c4 ≤ 8 ∧ c5 ≤ 8 ∧ c6 ≤ 8 ∧ c7 ≤ 8 ∧ C 8 x = c0 + 256*c1 + 65536*c2 + 16777216*c3 + 4294967296*c4 + 1099511627776*c5 + 281474976710656*c6 + 72057594037927936*c7 := by
  have p : ∀ y, pc8 (y % 256) ≤ 8 := fun y => (dec1 ⟨y % 256, by omega⟩).2.2.2.2.1
  refine ⟨_, _, _, _, _, _, _, _, rfl, rfl, rfl, rfl, rfl, rfl, rfl, rfl, p _, p _, p _, p _, p _, p _, p _, p _, ?_⟩
  have z : ∀ x, C 0 x = 0 := fun x => by simp [C, M]
  rw [C_step', C_step', C_step', C_step', C_step', C_step', C_step', C_step', z]
  omega
theorem dv (m q r n : Nat) (hn : n = m*q+r) (h : r < m) : n/m = q := by
  rw [hn, Nat.mul_add_div (by omega), Nat.div_eq_of_lt h, Nat.add_zero]
theorem md (m q r n : Nat) (hn : n = m*q+r) (h : r < m) : n%m = r := by
  rw [hn, Nat.mul_add_mod, Nat.mod_eq_of_lt h]
theorem fold_ones (c c0 c1 c2 c3 c4 c5 c6 c7 : Nat) (h0 : c0 ≤ 8) (h1 : c1 ≤ 8) (h2 : c2 ≤ 8) (h3 : c3 ≤ 8) (h4 : c4 ≤ 8) (h5 : c5 ≤ 8) (h6 : c6 ≤ 8) (h7 : c7 ≤ 8)
    (h : c = c0 + 256*c1 + 65536*c2 + 16777216*c3 + 4294967296*c4 + 1099511627776*c5 + 281474976710656*c6 + 72057594037927936*c7) (d e f : Nat)
    (hd : d = c + c/256) (he : e = d + d/65536) (hf : f = e + e/4294967296) :
    f < 18446744073709551616 ∧ f % 128 = c0+c1+c2+c3+c4+c5+c6+c7 := by
  have e1 : c/256 = c1 + 256*c2 + 65536*c3 + 16777216*c4 + 4294967296*c5 + 1099511627776*c6 + 281474976710656*c7 := dv 256 _ c0 c (by omega) (by omega)
  rw [e1] at hd
  clear e1
  have e2 : d/65536 = (c2+c3) + 256*(c3+c4) + 65536*(c4+c5) + 16777216*(c5+c6) + 4294967296*(c6+c7) + 1099511627776*c7 := dv 65536 _ ((c0+c1) + 256*(c1+c2)) d (by omega) (by omega)
  rw [e2] at he
  clear e2
  have e3 : e/4294967296 = (c4+c5+c6+c7) + 256*(c5+c6+c7) + 65536*(c6+c7) + 16777216*c7 := dv 4294967296 _ ((c0+c1+c2+c3) + 256*(c1+c2+c3+c4) + 65536*(c2+c3+c4+c5) + 16777216*(c3+c4+c5+c6)) e (by omega) (by omega)
  rw [e3] at hf
  clear e3
  subst hd he h
  refine ⟨by omega, md 128 (2*(c1+c2+c3+c4+c5+c6+c7) + 512*(c2+c3+c4+c5+c6+c7) + 131072*(c3+c4+c5+c6+c7) + 33554432*(c4+c5+c6+c7) + 8589934592*(c5+c6+c7) + 2199023255552*(c6+c7) + 562949953421312*c7) _ f (by omega) (by omega)⟩
theorem cnt8 (x s : Nat) (n : Nat) : (List.range' s 8).countP (fun i => x.testBit i) = pc8 (x / 2^s % 256) := by
  have t : ∀ i, i < 8 → x.testBit (s+i) = (x / 2^s % 256).testBit i := by
    intro i hi
    have : (256:Nat) = 2^8 := rfl
    rw [this, Nat.testBit_mod_two_pow, Nat.testBit_div_two_pow]
    simp [hi, Nat.add_comm]
  have e : List.range' s 8 = [s+0, s+1, s+2, s+3, s+4, s+5, s+6, s+7] := by simp [List.range']
  rw [e]
  simp only [List.countP_cons, List.countP_nil]
  rw [t 0 (by omega), t 1 (by omega), t 2 (by omega), t 3 (by omega), t 4 (by omega), t 5 (by omega), t 6 (by omega), t 7 (by omega)]
  have hy : x / 2^s % 256 < 256 := by omega
  generalize x / 2^s % 256 = y at hy
  have : ∀ y : Fin 256, (0 + (if y.1.testBit 7 = true then 1 else 0) + (if y.1.testBit 6 = true then 1 else 0) + (if y.1.testBit 5 = true then 1 else 0) + (if y.1.testBit 4 = true then 1 else 0) + (if y.1.testBit 3 = true then 1 else 0) + (if y.1.testBit 2 = true then 1 else 0) + (if y.1.testBit 1 = true then 1 else 0) + (if y.1.testBit 0 = true then 1 else 0)) = pc8 y.1 := by decide
  exact this ⟨y, hy⟩
theorem pcN_eq (x : Nat) : pcN x = pc8 (x%256) + pc8 (x/256%256) + pc8 (x/256/256%256) + pc8 (x/256/256/256%256) + pc8 (x/256/256/256/256%256) + pc8 (x/256/256/256/256/256%256) + pc8 (x/256/256/256/256/256/256%256) + pc8 (x/256/256/256/256/256/256/256%256) := by
  have e : List.range 64 = List.range' 0 8 ++ (List.range' 8 8 ++ (List.range' 16 8 ++ (List.range' 24 8 ++ (List.range' 32 8 ++ (List.range' 40 8 ++ (List.range' 48 8 ++ List.range' 56 8)))))) := by decide
  unfold pcN
  rw [e]
  simp only [List.countP_append, cnt8 x _ 0, Nat.div_div_eq_div_mul]
  simp
  omega
/-- What the program's steps give at a whole number of 64 bits is its count of ones. -/
theorem ones_eq (x c d e f : Nat) (hc : c = C 8 x) (hd : d = c + c/256) (he : e = d + d/65536) (hf : f = e + e/4294967296) : f < 18446744073709551616 ∧ f % 128 = pcN x := by
  obtain ⟨c0, c1, c2, c3, c4, c5, c6, c7, g0, g1, g2, g3, g4, g5, g6, g7, l0, l1, l2, l3, l4, l5, l6, l7, hC⟩ := C_all x
  rw [hC] at hc
  obtain ⟨r1, r2⟩ := fold_ones c c0 c1 c2 c3 c4 c5 c6 c7 l0 l1 l2 l3 l4 l5 l6 l7 hc d e f hd he hf
  refine ⟨r1, ?_⟩
  rw [r2, pcN_eq, g0, g1, g2, g3, g4, g5, g6, g7]
end Go.Proofs.Ytcnmbllafdeokaa.On
/- math/bits.OnesCount64, set.Count. -/
namespace Go.Proofs.Ytcnmbllafdeokaa.H
open Go.RowKit Go.Proofs.YtcnmbllafdeokaaW.PrintWords Go.Proofs.YtcnmbllafdeokaaW.PrintLast Go.Proofs.YtcnmbllafdeokaaW.PrintMore Go.Proofs.Ytcnmbllafdeokaa.TrM Go.Proofs.Ytcnmbllafdeokaa.AtM
set_option linter.unusedVariables false
set_option linter.unusedSimpArgs false
set_option maxRecDepth 100000
theorem and_un {a m : Nat} {x : Int} (hx : x = (a : Int)) (ha : a < 18446744073709551616) (hm : m < 18446744073709551616) : bits .and .u64 x (m : Int) = ((a &&& m : Nat) : Int) := by
  subst hx; exact u64_and_nat a m ha hm
theorem half_of {x : Int} {a : Nat} (k : Nat) (h : x = (a : Int)) : x / (k : Int) = ((a / k : Nat) : Int) := by
  subst h; exact (Int.natCast_ediv a k).symm
theorem wrap_of {x : Int} {a : Nat} (h : x = (a : Int)) (ha : a < 18446744073709551616) : IntKind.u64.wrap x = (a : Int) := by
  subst h; rw [IntKind.wrap_u64]; omega
theorem M55 : On.M 0x55 8 = 6148914691236517205 := by decide
theorem M33 : On.M 0x33 8 = 3689348814741910323 := by decide
theorem M0f : On.M 0x0f 8 = 1085102592571150095 := by decide
theorem ones_walk (x : Int) (hx : U64 x) (A B C D E F : Int)
    (hA : A = IntKind.u64.wrap (bits BinOp.and IntKind.u64 (x / 2) 6148914691236517205 + bits BinOp.and IntKind.u64 x 6148914691236517205))
    (hB : B = IntKind.u64.wrap (bits BinOp.and IntKind.u64 (A / 4) 3689348814741910323 + bits BinOp.and IntKind.u64 A 3689348814741910323))
    (hC : C = bits BinOp.and IntKind.u64 (IntKind.u64.wrap (B / 16 + B)) 1085102592571150095)
    (hD : D = IntKind.u64.wrap (C + C / 256)) (hE : E = IntKind.u64.wrap (D + D / 65536)) (hF : F = IntKind.u64.wrap (E + E / 4294967296)) :
    bits .and .i64 (wrap64 F) 127 = (pcS x : Int) := by
  obtain ⟨n, rfl⟩ : ∃ n : Nat, x = (n : Int) := ⟨x.toNat, by have := hx.1; omega⟩
  have hn : n < 18446744073709551616 := by have := hx.2; omega
  have le : ∀ a m : Nat, (a &&& m) ≤ m := fun a m => Nat.and_le_right
  have a1 : A = (On.A 8 n : Int) := by
    rw [hA]
    have e1 : bits .and .u64 ((n : Int) / 2) 6148914691236517205 = ((n/2 &&& 6148914691236517205 : Nat) : Int) := and_un (m := 6148914691236517205) (half_of 2 rfl) (by omega) (by omega)
    have e2 : bits .and .u64 (n : Int) 6148914691236517205 = ((n &&& 6148914691236517205 : Nat) : Int) := and_un (m := 6148914691236517205) rfl hn (by omega)
    have l1 := le (n/2) 6148914691236517205
    have l2 := le n 6148914691236517205
    unfold On.A; rw [M55]
    rw [e1, e2]
    exact wrap_of (Int.natCast_add _ _).symm (by omega)
  have la : On.A 8 n ≤ 12297829382473034410 := by
    have l1 := le (n/2) 6148914691236517205
    have l2 := le n 6148914691236517205
    unfold On.A; rw [M55]; omega
  have b1 : B = (On.B 8 n : Int) := by
    rw [hB, a1]
    have e1 : bits .and .u64 ((On.A 8 n : Int) / 4) 3689348814741910323 = ((On.A 8 n/4 &&& 3689348814741910323 : Nat) : Int) := and_un (m := 3689348814741910323) (half_of 4 rfl) (by omega) (by omega)
    have e2 : bits .and .u64 (On.A 8 n : Int) 3689348814741910323 = ((On.A 8 n &&& 3689348814741910323 : Nat) : Int) := and_un (m := 3689348814741910323) rfl (by omega) (by omega)
    have l1 := le (On.A 8 n/4) 3689348814741910323
    have l2 := le (On.A 8 n) 3689348814741910323
    unfold On.B; rw [M33]
    rw [e1, e2]
    exact wrap_of (Int.natCast_add _ _).symm (by omega)
  have lb : On.B 8 n ≤ 7378697629483820646 := by
    have l1 := le (On.A 8 n/4) 3689348814741910323
    have l2 := le (On.A 8 n) 3689348814741910323
    unfold On.B; rw [M33]; omega
  have c1 : C = (On.C 8 n : Int) := by
    rw [hC, b1]
    have w : IntKind.u64.wrap ((On.B 8 n : Int) / 16 + (On.B 8 n : Int)) = ((On.B 8 n / 16 + On.B 8 n : Nat) : Int) := wrap_of (by omega) (by omega)
    rw [w]
    have e := and_un (m := 1085102592571150095) (rfl : ((On.B 8 n / 16 + On.B 8 n : Nat) : Int) = _) (by omega) (by omega)
    unfold On.C; rw [M0f]; exact e
  have lc : On.C 8 n ≤ 1085102592571150095 := by unfold On.C; rw [M0f]; exact le _ _
  obtain ⟨d, hd⟩ : ∃ d, d = On.C 8 n + On.C 8 n / 256 := ⟨_, rfl⟩
  obtain ⟨e, he⟩ : ∃ e, e = d + d / 65536 := ⟨_, rfl⟩
  obtain ⟨f, hf⟩ : ∃ f, f = e + e / 4294967296 := ⟨_, rfl⟩
  obtain ⟨r1, r2⟩ := On.ones_eq n (On.C 8 n) d e f rfl hd he hf
  have d1 : D = (d : Int) := by rw [hD, c1]; exact wrap_of (by omega) (by omega)
  have ee1 : E = (e : Int) := by rw [hE, d1]; exact wrap_of (by omega) (by omega)
  have f1 : F = (f : Int) := by rw [hF, ee1]; exact wrap_of (by omega) (by omega)
  have lf : f < 4611686018427387904 := by omega
  have r3 : (pcS (n : Int) : Int) = ((f % 128 : Nat) : Int) := by rw [r2]; rfl
  rw [r3, f1, i64_and127]
  have w : wrap64 (f : Int) = (f : Int) := by unfold wrap64; omega
  rw [w]; omega
theorem ones_calls (x : Int) (W : World) (hx : U64 x) : Calls Try.prog 57 #[.int .u64 x] W fun e W' => e = .returned (.int .i64 (pcS x)) ∧ W = W' := by
  go_enter Try.func57, Try.ntmps57
  go_wp2
  go_ret
  refine ⟨?_, rfl⟩
  generalize hA : IntKind.u64.wrap (bits BinOp.and IntKind.u64 (x / 2) 6148914691236517205 + bits BinOp.and IntKind.u64 x 6148914691236517205) = A
  generalize hB : IntKind.u64.wrap (bits BinOp.and IntKind.u64 (A / 4) 3689348814741910323 + bits BinOp.and IntKind.u64 A 3689348814741910323) = B
  generalize hC : bits BinOp.and IntKind.u64 (IntKind.u64.wrap (B / 16 + B)) 1085102592571150095 = C
  generalize hD : IntKind.u64.wrap (C + C / 256) = D
  generalize hE : IntKind.u64.wrap (D + D / 65536) = E
  generalize hF : IntKind.u64.wrap (E + E / 4294967296) = F
  show Ending.returned (.int .i64 (bits .and .i64 (wrap64 F) 127)) = _
  have h := ones_walk x hx A B C D E F hA.symm hB.symm hC.symm hD.symm hE.symm hF.symm
  rw [h]
end Go.Proofs.Ytcnmbllafdeokaa.H
