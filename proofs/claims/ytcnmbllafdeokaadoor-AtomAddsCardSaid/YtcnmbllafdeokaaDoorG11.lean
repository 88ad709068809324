/- Some texts of one seat in one file, in build order. -/
import Derived.Test.YtcnmbllafdeokaaDoorG10
import Derived.Deep.LoopGhost
import Derived.Test.YtcnmbllafdeokaaDoorG2
import Derived.Sort.QuietIn
import Derived.Shelf.RegionOpen
import Derived.Test.YtcnmbllafdeokaaDoorG3
import Derived.Shelf.SlSortCmp.KitK
/- package table at uint64 keys and int64 values: put, find, Get, Put. -/
namespace Go.Proofs.YtcnmbllafdeokaaDoor.H
open Go.RowKit Go.Proofs.YtcnmbllafdeokaaDoorW.PrintWords Go.Proofs.YtcnmbllafdeokaaDoorW.PrintLast Go.Proofs.YtcnmbllafdeokaaDoorW.PrintMore Go.Proofs.YtcnmbllafdeokaaDoor.TrM Go.Proofs.YtcnmbllafdeokaaDoor.AtM
set_option linter.unusedVariables false
set_option linter.unusedSimpArgs false
set_option maxRecDepth 100000

theorem isNaN_u64 (x : Int) (W : World) : Calls Tryd.prog 65 #[.int .u64 x] W fun e W' => e = .returned (.bool false) ∧ W = W' := by
  go_enter Tryd.func65, Tryd.ntmps65
  go_wp2
  go_ret
  simp
/-- cmp.Compare's answer. -/
def cmpN (x y : Int) : Int := if x < y then -1 else if y < x then 1 else 0
theorem cmp_u64 (x y : Int) (W : World) : Calls Tryd.prog 49 #[.int .u64 x, .int .u64 y] W fun e W' => e = .returned (.int .i64 (cmpN x y)) ∧ W = W' := by
  by_cases c1 : x < y
  · have e : cmpN x y = -1 := by unfold cmpN; rw [if_pos c1]
    rw [e]
    have b0 : decide (x < y) = true := decide_eq_true c1
    clear c1 e
    go_enter Tryd.func49, Tryd.ntmps49
    go_wp2_with (go_at_call 65; refine (isNaN_u64 _ _).mono ?_; rintro e w' ⟨rfl, rfl⟩)
    go_ret
    exact ⟨rfl, rfl⟩
  · by_cases c2 : y < x
    · have e : cmpN x y = 1 := by unfold cmpN; rw [if_neg c1, if_pos c2]
      rw [e]
      have b0 : decide (x < y) = false := decide_eq_false c1
      have b1 : decide (y < x) = true := decide_eq_true c2
      clear c1 c2 e
      go_enter Tryd.func49, Tryd.ntmps49
      go_wp2_with (go_at_call 65; refine (isNaN_u64 _ _).mono ?_; rintro e w' ⟨rfl, rfl⟩)
      go_ret
      exact ⟨rfl, rfl⟩
    · have e : cmpN x y = 0 := by unfold cmpN; rw [if_neg c1, if_neg c2]
      rw [e]
      have b0 : decide (x < y) = false := decide_eq_false c1
      have b1 : decide (y < x) = false := decide_eq_false c2
      clear c1 c2 e
      go_enter Tryd.func49, Tryd.ntmps49
      go_wp2_with (go_at_call 65; refine (isNaN_u64 _ _).mono ?_; rintro e w' ⟨rfl, rfl⟩)
      go_ret
      exact ⟨rfl, rfl⟩
theorem cmp_u64_eq (x y c : Int) (W : World) (hc : cmpN x y = c) : Calls Tryd.prog 49 #[.int .u64 x, .int .u64 y] W fun e W' => e = .returned (.int .i64 c) ∧ W = W' := by
  subst hc; exact cmp_u64 x y W
theorem sT_put (k v : Int) : ∀ t : TN, sT (putT ltN k v t) ≤ sT t + 1 := by
  intro t
  induction t with
  | lf => simp [putT, sT]
  | nd k' v' l r hl hr =>
    have he : ∀ (a b : Int) (x y : TN), sT (evenT a b x y) = sT x + sT y + 1 := fun a b x y => by
      rw [sT_flat, flat_even, List.length_append, List.length_cons, ← sT_flat, ← sT_flat]; omega
    unfold putT
    split
    · rw [he]; simp only [sT]; omega
    · split
      · rw [he]; simp only [sT]; omega
      · simp only [sT]; omega
/-- What put has in hand at a node. -/
structure PV (W : World) (g : Nat) (k v : Int) (pl pr : Option Addr) (h s : Int) (l r : TN) (w : World) : Prop where
  n : w.heap[g]? = some (.cells (ndCells k v pl pr h s) 75 (0, 0))
  l : TrAt w pl l
  r : TrAt w pr r
  b : Below W.heap.size W w
theorem PV.step {W : World} {g : Nat} {k v : Int} {pl pr : Option Addr} {h s : Int} {l r : TN} {w w' : World} (p : PV W g k v pl pr h s l r w) (hb : Below w.heap.size w w') : PV W g k v pl pr h s l r w' := ⟨blk_belowX p.n hb, p.l.below hb, p.r.below hb, below_step p.b hb⟩
theorem PV.drew {W : World} {g : Nat} {k v : Int} {pl pr : Option Addr} {h s : Int} {l r : TN} {w : World} (p : PV W g k v pl pr h s l r w) : PV W g k v pl pr h s l r w.drew := p.step ⟨rfl, rfl, rfl, Nat.le_refl _, fun _ _ => rfl⟩
set_option maxHeartbeats 3200000 in
theorem put_calls (k v : Int) : ∀ (t : TN) (p : Option Addr) (W : World), TrAt W p t → sT t ≤ 700000 →
    Calls Tryd.prog 41 #[.pointer p, .int .u64 k, .int .i64 v] W fun e W' => ∃ p', e = .returned (.pointer p') ∧ TrAt W' p' (putT ltN k v t) ∧ Below W.heap.size W W' := by
  intro t
  induction t with
  | lf =>
    intro p W h hs
    obtain rfl : p = none := h
    go_enter Tryd.func41, Tryd.ntmps41
    go_wp2_with (fail)
    refine (join_calls k v none none .lf .lf _ rfl rfl (by simp [sT])).mono ?_
    rintro e w1 ⟨p1, rfl, ht1, hb1⟩
    have H1 := Aside0.mk (And.intro ht1 hb1)
    clear ht1 hb1
    go_wp2
    go_ret
    exact ⟨p1, rfl, H1.out⟩
  | nd k' v' l r hl hr =>
    intro p W h hs
    obtain ⟨g, pl, pr, rfl, hb, h1, h2⟩ := h
    obtain ⟨z0, z1, z2, z3, z4, z5⟩ := nd_cells hb
    have hs' : sT l + sT r + 1 ≤ 700000 := hs
    have HP := Aside0.mk (PV.mk hb h1 h2 (Below.refl W.heap.size W))
    have HL := Aside0.mk hl
    have HR := Aside0.mk hr
    have hsl := sT_put k v l
    have hsr := sT_put k v r
    clear h1 h2 hb hl hr z4 z5 hs
    by_cases c1 : k < k'
    · have hx : putT ltN k v (.nd k' v' l r) = evenT k' v' (putT ltN k v l) r := by simp [putT, ltN, c1]
      have hc : cmpN k k' = -1 := by unfold cmpN; rw [if_pos c1]
      have HX := Lib.hid hx
      have HC := Lib.hid hc
      clear hx hc c1
      go_enter Tryd.func41, Tryd.ntmps41
      go_wp2_with (go_at_call 49; refine (cmp_u64_eq k k' (-1) _ HC.out).mono ?_; rintro e w' ⟨rfl, rfl⟩)
      go_region_held3 (fun w' => w'.cell? ⟨g, 0, none⟩ = some (.int .u64 k') ∧ w'.cell? ⟨g, 1, none⟩ = some (.int .i64 v') ∧ w'.cell? ⟨g, 2, none⟩ = some (.pointer pl) ∧ w'.cell? ⟨g, 3, none⟩ = some (.pointer pr)) (first | (with_reducible exact KK.out) | go_keep)
        (first
          | (go_at_call 41; refine (HL.out pl _ HP.out.drew.l (by omega)).mono ?_; rintro e w1 ⟨p1, rfl, ht1, hb1⟩; have HP1 := Aside0.mk (And.intro (HP.out.drew.step hb1) ht1); have KK := Aside0.mk (nd_keep HP1.out.1.n); clear ht1 hb1)
          | (go_at_call 52; refine (even_calls k' v' p1 pr (putT ltN k v l) r _ HP1.out.2 HP1.out.1.r (by omega)).mono ?_; rintro e w2 ⟨p2, rfl, ht2, hb2⟩; have HP2 := Aside0.mk (And.intro (HP1.out.1.step hb2) ht2); have KK := Aside0.mk (nd_keep HP2.out.1.n); clear ht2 hb2))
      all_goals
        go_wp2
        go_ret
        rw [HX.out]
        exact ⟨p2, rfl, HP2.out.2, HP2.out.1.b⟩
    · by_cases c2 : k' < k
      · have hx : putT ltN k v (.nd k' v' l r) = evenT k' v' l (putT ltN k v r) := by simp [putT, ltN, c1, c2]
        have hc : cmpN k k' = 1 := by unfold cmpN; rw [if_neg c1, if_pos c2]
        have HX := Lib.hid hx
        have HC := Lib.hid hc
        clear hx hc c1 c2
        go_enter Tryd.func41, Tryd.ntmps41
        go_wp2_with (go_at_call 49; refine (cmp_u64_eq k k' 1 _ HC.out).mono ?_; rintro e w' ⟨rfl, rfl⟩)
        go_region_held3 (fun w' => w'.cell? ⟨g, 0, none⟩ = some (.int .u64 k') ∧ w'.cell? ⟨g, 1, none⟩ = some (.int .i64 v') ∧ w'.cell? ⟨g, 2, none⟩ = some (.pointer pl) ∧ w'.cell? ⟨g, 3, none⟩ = some (.pointer pr)) (first | (with_reducible exact KK.out) | go_keep)
          (first
            | (go_at_call 41; refine (HR.out pr _ HP.out.drew.r (by omega)).mono ?_; rintro e w1 ⟨p1, rfl, ht1, hb1⟩; have HP1 := Aside0.mk (And.intro (HP.out.drew.step hb1) ht1); have KK := Aside0.mk (nd_keep HP1.out.1.n); clear ht1 hb1)
            | (go_at_call 52; refine (even_calls k' v' pl p1 l (putT ltN k v r) _ HP1.out.1.l HP1.out.2 (by omega)).mono ?_; rintro e w2 ⟨p2, rfl, ht2, hb2⟩; have HP2 := Aside0.mk (And.intro (HP1.out.1.step hb2) ht2); have KK := Aside0.mk (nd_keep HP2.out.1.n); clear ht2 hb2))
        all_goals
          go_wp2
          go_ret
          rw [HX.out]
          exact ⟨p2, rfl, HP2.out.2, HP2.out.1.b⟩
      · have hx : putT ltN k v (.nd k' v' l r) = .nd k v l r := by simp [putT, ltN, c1, c2]
        have hc : cmpN k k' = 0 := by unfold cmpN; rw [if_neg c1, if_neg c2]
        have HX := Lib.hid hx
        have HC := Lib.hid hc
        clear hx hc c1 c2
        go_enter Tryd.func41, Tryd.ntmps41
        go_wp2_with (go_at_call 49; refine (cmp_u64_eq k k' 0 _ HC.out).mono ?_; rintro e w' ⟨rfl, rfl⟩)
        go_region_held3 (fun w' => w'.cell? ⟨g, 0, none⟩ = some (.int .u64 k') ∧ w'.cell? ⟨g, 1, none⟩ = some (.int .i64 v') ∧ w'.cell? ⟨g, 2, none⟩ = some (.pointer pl) ∧ w'.cell? ⟨g, 3, none⟩ = some (.pointer pr)) (first | (with_reducible exact KK.out) | go_keep)
          ((go_at_call 51; refine (join_calls k v pl pr l r _ HP.out.drew.l HP.out.drew.r (by omega)).mono ?_; rintro e w1 ⟨p1, rfl, ht1, hb1⟩; have HP1 := Aside0.mk (And.intro (HP.out.drew.step hb1) ht1); have KK := Aside0.mk (nd_keep HP1.out.1.n); clear ht1 hb1))
        all_goals
          go_wp2
          go_ret
          rw [HX.out]
          exact ⟨p1, rfl, HP1.out.2, HP1.out.1.b⟩
end Go.Proofs.YtcnmbllafdeokaaDoor.H
/- package table at uint64 keys and int64 values: find, Get, Put. -/
namespace Go.Proofs.YtcnmbllafdeokaaDoor.H
open Go.RowKit Go.Proofs.YtcnmbllafdeokaaDoorW.PrintWords Go.Proofs.YtcnmbllafdeokaaDoorW.PrintLast Go.Proofs.YtcnmbllafdeokaaDoorW.PrintMore Go.Proofs.YtcnmbllafdeokaaDoor.TrM Go.Proofs.YtcnmbllafdeokaaDoor.AtM
set_option linter.unusedVariables false
set_option linter.unusedSimpArgs false
set_option maxRecDepth 100000

/-- What find leaves: nil, or the node. -/
def FindP (W : World) (k : Int) (t : TN) (p : Option Addr) : Prop :=
  (p = none ∧ findT ltN k t = none) ∨ ∃ g v pl pr h s, p = some ⟨g, 0, none⟩ ∧ findT ltN k t = some (k, v) ∧ W.heap[g]? = some (.cells (ndCells k v pl pr h s) 75 (0, 0))
set_option maxHeartbeats 1600000 in
theorem find_calls (k : Int) (t : TN) (p : Option Addr) (W : World) (h : TrAt W p t) :
    Calls Tryd.prog 40 #[.pointer p, .int .u64 k] W fun e W' => ∃ p', e = .returned (.pointer p') ∧ FindP W k t p' ∧ W = W' := by
  have H := Aside0.mk h
  clear h
  go_enter Tryd.func40, Tryd.ntmps40
  go_wp2
  go_loopg [0] (sT t) (fun n x wr => ∃ (q : Option Addr) (t' : TN), x = .pointer q ∧ Aside0 (TrAt W q t' ∧ findT ltN k t = findT ltN k t' ∧ sT t' ≤ n) ∧ W = wr)
  case atStart => exact ⟨p, t, rfl, ⟨H.out, rfl, Nat.le_refl _⟩, rfl⟩
  case round =>
    obtain ⟨q, t', rfl, HQ, rfl⟩ := hrel
    cases t' with
    | lf =>
      obtain rfl : q = none := HQ.out.1
      go_wp2
      go_ret
      exact ⟨none, rfl, .inl ⟨rfl, HQ.out.2.1⟩, rfl⟩
    | nd k' v' l r =>
      obtain ⟨g, pl, pr, rfl, hb, h1, h2⟩ := HQ.out.1
      obtain ⟨z0, z1, z2, z3, z4, z5⟩ := nd_cells hb
      have HB := Aside0.mk (And.intro hb (And.intro h1 h2))
      clear hb h1 h2
      by_cases c1 : k < k'
      · have hf : findT ltN k (.nd k' v' l r) = findT ltN k l := by simp [findT, ltN, c1]
        have hc : cmpN k k' = -1 := by unfold cmpN; rw [if_pos c1]
        have HF := Lib.hid hf
        have HC := Lib.hid hc
        clear hf hc c1
        go_wp2_with (go_at_call 49; refine (cmp_u64_eq k k' (-1) _ HC.out).mono ?_; rintro e w' ⟨rfl, rfl⟩)
        go_roundg (sT l)
        case measure => have := HQ.out.2.2; simp only [sT] at this; omega
        case rel => exact ⟨pl, l, rfl, ⟨HB.out.2.1, by rw [HQ.out.2.1, HF.out], Nat.le_refl _⟩, rfl⟩
      · by_cases c2 : k' < k
        · have hf : findT ltN k (.nd k' v' l r) = findT ltN k r := by simp [findT, ltN, c1, c2]
          have hc : cmpN k k' = 1 := by unfold cmpN; rw [if_neg c1, if_pos c2]
          have HF := Lib.hid hf
          have HC := Lib.hid hc
          clear hf hc c1 c2
          go_wp2_with (go_at_call 49; refine (cmp_u64_eq k k' 1 _ HC.out).mono ?_; rintro e w' ⟨rfl, rfl⟩)
          go_roundg (sT r)
          case measure => have := HQ.out.2.2; simp only [sT] at this; omega
          case rel => exact ⟨pr, r, rfl, ⟨HB.out.2.2, by rw [HQ.out.2.1, HF.out], Nat.le_refl _⟩, rfl⟩
        · obtain rfl : k = k' := by omega
          have hf : findT ltN k (.nd k v' l r) = some (k, v') := by simp [findT, ltN]
          have hc : cmpN k k = 0 := by unfold cmpN; rw [if_neg c1, if_neg c1]
          have HF := Lib.hid hf
          have HC := Lib.hid hc
          clear hf hc c1 c2
          go_wp2_with (go_at_call 49; refine (cmp_u64_eq k k 0 _ HC.out).mono ?_; rintro e w' ⟨rfl, rfl⟩)
          go_ret
          exact ⟨_, rfl, .inr ⟨g, v', pl, pr, _, _, rfl, by rw [HQ.out.2.1, HF.out], HB.out.1⟩, rfl⟩
/-- A table in a box. -/
structure TbAt (W : World) (gt : Nat) (xs : List (Int × Int)) : Prop where
  ex : ∃ (p : Option Addr) (t : TN), W.heap[gt]? = some (.cells #[.pointer p] 59 (0, 0)) ∧ TrAt W p t ∧ flat t = xs
theorem TbAt.below {W W' : World} {gt : Nat} {xs : List (Int × Int)} (h : TbAt W gt xs) (hb : Below W.heap.size W W') : TbAt W' gt xs := by
  obtain ⟨⟨p, t, h1, h2, h3⟩⟩ := h
  exact ⟨⟨p, t, blk_belowX h1 hb, h2.below hb, h3⟩⟩
theorem get_nm {x : Option (Int × Int)} {k : Int} (h : ∀ y, x = some y → y.1 = k) : x = none ∨ ∃ v, x = some (k, v) := by
  cases x with
  | none => exact .inl rfl
  | some y =>
    have := h y rfl
    obtain ⟨a, b⟩ := y
    simp only at this
    subst this
    exact .inr ⟨b, rfl⟩
set_option maxHeartbeats 1600000 in
theorem Get_calls (gt : Nat) (k : Int) (xs : List (Int × Int)) (W : World) (h : TbAt W gt xs) (hr : Rises ltN xs) :
    Calls Tryd.prog 31 #[.pointer (some ⟨gt, 0, none⟩), .int .u64 k] W fun e W' => (∃ b, e = .returned (.tuple #[.int .i64 (AtM.valOf k xs), .bool b])) ∧ W = W' := by
  obtain ⟨⟨p, t, hb, ht, hf⟩⟩ := h
  subst hf
  have hfl := find_flat ordN k t hr
  have d0 : W.cell? ⟨gt, 0, none⟩ = some (.pointer p) := by rw [blk_cell hb]; rfl
  have H := Aside0.mk (And.intro ht hfl)
  clear ht hb hfl hr
  go_enter Tryd.func31, Tryd.ntmps31
  go_wp2_with (fail)
  refine (find_calls k t p _ H.out.1).mono ?_
  rintro e w1 ⟨p', rfl, hp, rfl⟩
  rcases hp with ⟨rfl, h0⟩ | ⟨g, v, pl, pr, hh, ss, rfl, h0, hb⟩
  · have hv : AtM.valOf k (flat t) = 0 := by unfold AtM.valOf; rw [← H.out.2, h0]
    have HV := Lib.hid hv
    clear hv h0
    go_wp2
    go_ret2
    rw [HV.out]
    exact ⟨⟨_, rfl⟩, rfl⟩
  · have hv : AtM.valOf k (flat t) = v := by unfold AtM.valOf; rw [← H.out.2, h0]
    obtain ⟨z0, z1, z2, z3, z4, z5⟩ := nd_cells hb
    have HV := Lib.hid hv
    clear hv h0 hb
    go_wp2
    go_ret2
    rw [HV.out]
    exact ⟨⟨_, rfl⟩, rfl⟩
theorem ne_blk {W : World} {i j : Nat} {cs cs' : Array Value} {t t' : TypeId} {z z' : Nat × Nat} (h : W.heap[i]? = some (.cells cs t z)) (h' : W.heap[j]? = some (.cells cs' t' z')) (hne : t ≠ t') : i ≠ j := by
  rintro rfl
  rw [h] at h'; injection h' with h'; injection h' with _ h' _
  exact hne h'
theorem oth_of_below {g : Nat} {W W' : World} (h : Below W.heap.size W W') : Oth g W W' := ⟨h.os, h.tape, h.output, h.size, fun k hk _ => h.block k hk⟩
set_option maxHeartbeats 1600000 in
theorem Put_calls (gt : Nat) (k v : Int) (xs : List (Int × Int)) (W : World) (h : TbAt W gt xs) (hr : Rises ltN xs) (hl : xs.length ≤ 600000) :
    Calls Tryd.prog 32 #[.pointer (some ⟨gt, 0, none⟩), .int .u64 k, .int .i64 v] W fun e W' => (∃ b, e = .returned (.bool b)) ∧ TbAt W' gt (insL ltN k v xs) ∧ Oth gt W W' := by
  obtain ⟨⟨p, t, hb, ht, hf⟩⟩ := h
  subst hf
  have hfl := flat_put ordN k v t hr
  have hs : sT t ≤ 600000 := by rw [sT_flat]; exact hl
  have d0 : W.cell? ⟨gt, 0, none⟩ = some (.pointer p) := by rw [blk_cell hb]; rfl
  have H := Aside0.mk (And.intro ht (And.intro hfl hb))
  clear ht hb hfl hr hl
  go_enter Tryd.func32, Tryd.ntmps32
  go_wp2_with (fail)
  refine (find_calls k t p _ H.out.1).mono ?_
  rintro e w1 ⟨p', rfl, hp, rfl⟩
  have hp2 : p' = none ∨ ∃ g, p' = some ⟨g, 0, none⟩ := by
    rcases hp with ⟨rfl, _⟩ | ⟨g, v, pl, pr, hh, ss, rfl, _⟩
    · exact .inl rfl
    · exact .inr ⟨g, rfl⟩
  clear hp
  rcases hp2 with rfl | ⟨g, rfl⟩
  all_goals
    go_wp2_with (fail)
    refine (put_calls k v t p _ H.out.1 (by omega)).mono ?_
    rintro e w2 ⟨p2, rfl, ht2, hb2⟩
    have hx := blk_belowX H.out.2.2 hb2
    have d0 : w2.cell? ⟨gt, 0, none⟩ = some (.pointer p) := by rw [blk_cell hx]; rfl
    have f0 := blk_frozen hx 0
    have hg := lt_of_some hx
    have H2 := Aside0.mk (And.intro ht2 (And.intro hx hb2))
    clear ht2 hx hb2
    go_wp2
    go_ret
    have hset : Oth gt w2 (w2.setCell ⟨gt, 0, none⟩ (.pointer p2)) := Oth.set w2 ⟨gt, 0, none⟩ _
    refine ⟨⟨_, rfl⟩, ⟨⟨p2, putT ltN k v t, blk_put H2.out.2.1 0 _ rfl, ?_, H.out.2.1⟩⟩, (oth_of_below H2.out.2.2).trans hset⟩
    refine TrAt.mono (fun g' cs hg' => ?_) H2.out.1
    exact hset.blk hg' (ne_blk hg' H2.out.2.1 (by decide))
end Go.Proofs.YtcnmbllafdeokaaDoor.H
/- package table at uint64 keys and int64 values: All, its func, and rise. -/
namespace Go.Proofs.YtcnmbllafdeokaaDoor.H
open Go.RowKit Go.Proofs.YtcnmbllafdeokaaDoorW.PrintWords Go.Proofs.YtcnmbllafdeokaaDoorW.PrintLast Go.Proofs.YtcnmbllafdeokaaDoorW.PrintMore Go.Proofs.YtcnmbllafdeokaaDoor.TrM Go.Proofs.YtcnmbllafdeokaaDoor.AtM
set_option linter.unusedVariables false
set_option linter.unusedSimpArgs false
set_option maxRecDepth 100000
attribute [local go_sem] Oper.semAt_some wide_fn wide_depth

/-- What the func tells a round. -/
def AllY (xs : List (Int × Int)) (pre : List (Int × Int)) (x : Int × Int) (vs : Array Value) (W : World) : Prop :=
  pre ++ [x] <+: xs ∧ vs = #[.int .u64 x.1, .int .i64 x.2]
theorem All_calls (gt : Nat) (w : World) : Calls Tryd.prog 33 #[.pointer (some ⟨gt, 0, none⟩)] w fun e w' =>
    e = .returned (.func (.func 42) #[] #[.pointer (some ⟨w.heap.size, 0, none⟩)]) ∧ w' = w.alloc (.cells #[.pointer (some ⟨gt, 0, none⟩)] 72) := by
  go_enter Tryd.func33, Tryd.ntmps33
  go_wp2
  go_ret
  exact ⟨rfl, rfl⟩
/-- A tree that lies so in all worlds of a kind. -/
def TrU (Q : World → Prop) : Option Addr → TN → Prop
  | p, .lf => p = none
  | p, .nd k v l r => ∃ g pl pr h s, p = some ⟨g, 0, none⟩ ∧ (∀ W, Q W → W.heap[g]? = some (.cells (ndCells k v pl pr h s) 75 (0, 0))) ∧ TrU Q pl l ∧ TrU Q pr r
theorem TrAt.u {Q : World → Prop} {w : World} (hQ : ∀ (g : Nat) (cs : Array Value), w.heap[g]? = some (.cells cs 75 (0, 0)) → ∀ W, Q W → W.heap[g]? = some (.cells cs 75 (0, 0))) : ∀ {t : TN} {p : Option Addr}, TrAt w p t → TrU Q p t := by
  intro t
  induction t with
  | lf => intro p h; exact h
  | nd k v l r hl hr =>
    rintro p ⟨g, pl, pr, e, hb, h1, h2⟩
    exact ⟨g, pl, pr, _, _, e, hQ g _ hb, hl h1, hr h2⟩
theorem prefix_left {α : Type} {a b c xs : List α} (h : a ++ (b ++ c) <+: xs) : a ++ b <+: xs := by
  obtain ⟨d, hd⟩ := h
  exact ⟨c ++ d, by rw [← hd]; simp⟩
theorem ret_bool {e : Ending} {A B : Prop} (h : (e = .returned (.bool true) ∧ A) ∨ (e = .returned (.bool false) ∧ B)) : ∃ b, e = .returned (.bool b) ∧ ((b = true ∧ A) ∨ (b = false ∧ B)) := by
  rcases h with ⟨h, a⟩ | ⟨h, a⟩
  · exact ⟨true, h, .inl ⟨rfl, a⟩⟩
  · exact ⟨false, h, .inr ⟨rfl, a⟩⟩
set_option maxHeartbeats 3200000 in
theorem rise_calls (l : Nat) (xs : List (Int × Int)) (n₀ : Nat) (Kb : Nat → Prop) (J Jx : List (Int × Int) → World → Prop) (w : World) (hn : n₀ ≤ w.heap.size)
    (hJ : ∀ s A B, J s A → Below A.heap.size A B → J s B) (hJx : ∀ s A B, Jx s A → Below A.heap.size A B → Jx s B) (m : Nat)
    (hY : ∀ pre x vs W1, J pre W1 → AllY xs pre x vs W1 → YieldAt Fence.wide m Tryd.prog l vs W1 fun e W' =>
      (e = .returned (.bool true) ∧ J (pre ++ [x]) W' ∧ Kp n₀ Kb W1 W') ∨ (e = .returned (.bool false) ∧ Jx (pre ++ [x]) W')) :
    ∀ (t : TN) (p : Option Addr) (pre : List (Int × Int)) (n : Nat) (W : World), TrU (Kp n₀ Kb w) p t → pre ++ flat t <+: xs → Kp n₀ Kb w W → J pre W →
    CallsIn Fence.wide n Tryd.prog 43 #[.pointer p, .pointer none, .func (.yield l) #[] #[]] W fun e W' =>
      (e = .returned (.bool true) ∧ J (pre ++ flat t) W' ∧ Kp n₀ Kb w W') ∨ (e = .returned (.bool false) ∧ ∃ q, Jx q W') := by
  intro t
  induction t with
  | lf =>
    intro p pre n W hT hpre hK h0
    obtain rfl : p = none := hT
    refine callsIn_of_wp Tryd.func43 rfl trivial ?_ rfl
    simp only [Tryd.ntmps43, List.size_toArray, List.length_cons, List.length_nil, Nat.reduceAdd, Nat.reduceSub, Array.replicate_succ, Array.replicate_zero, List.push_toArray, List.append_toArray, List.nil_append, List.cons_append]
    gi_wp2
    go_ret
    exact .inl ⟨rfl, by simpa [flat] using h0, hK⟩
  | nd k v tl tr hl hr =>
    intro p pre n W hT hpre hK h0
    obtain ⟨g, pl, pr, h, s, rfl, hb, h1, h2⟩ := hT
    obtain ⟨z0, z1, z2, z3, z4, z5⟩ := nd_cells (hb W hK)
    have H := Aside0.mk (And.intro hb (And.intro h1 (And.intro h2 (And.intro hpre (And.intro hK h0)))))
    have HI := Aside0.mk (And.intro hl hr)
    clear hb h1 h2 hpre hl hr hK h0 z4 z5
    refine callsIn_of_wp Tryd.func43 rfl trivial ?_ rfl
    simp only [Tryd.ntmps43, List.size_toArray, List.length_cons, List.length_nil, Nat.reduceAdd, Nat.reduceSub, Array.replicate_succ, Array.replicate_zero, List.push_toArray, List.append_toArray, List.nil_append, List.cons_append]
    gi_wp2
    gi_quiet (fail)
    gi_wp2
    have hmix : Tryd.prog.follows .mixedOrders = true := by kernel_rfl
    have hp1 : pre ++ flat tl <+: xs := prefix_left H.out.2.2.2.1
    have hp2 : (pre ++ flat tl) ++ [(k, v)] <+: xs := by
      have := H.out.2.2.2.1
      unfold flat at this
      rw [← List.append_assoc] at this
      exact prefix_left (c := flat tr) (by simpa using this)
    have hp3 : ((pre ++ flat tl) ++ [(k, v)]) ++ flat tr <+: xs := by
      have := H.out.2.2.2.1
      unfold flat at this
      simpa using this
    have hdr : ∀ q, Below W.heap.size W (W.drewN q) := fun q => pw_below_drewN (Below.refl _ _) _
    have hnW := H.out.2.2.2.2.1
    have HQ := H
    gi_region_with_o (first
      | (gi_at_call 43; have _t := H; refine (HI.out.1 pl pre _ _ HQ.out.2.1 hp1 (hnW.trans (.of_below (hdr _) (Nat.le_trans hn hnW.1))) (hJ _ _ _ HQ.out.2.2.2.2.2 (hdr _))).mono ?_; rintro e w1 (⟨rfl, hj1, hk1⟩ | ⟨rfl, q, hx1⟩); rotate_left; gi_wp2; refine wpAnyIn_take (i := 7) (v := ?_) rfl rfl (by kernel_rfl) (by kernel_rfl) (by kernel_rfl) (fun _ _ _ h => h) ⟨Or.inl ⟨by kernel_rfl, ?tk⟩, fun _ => rfl⟩ ?_; (case tk => intro w; first | (go_simp; done) | (go_simp; rfl)); refine wpAnyIn_take (i := 8) (v := undef) rfl rfl (by kernel_rfl) (by kernel_rfl) (by kernel_rfl) (fun _ _ _ h => h) ⟨Or.inr ⟨by kernel_rfl, rfl⟩, fun _ => rfl⟩ ?_; go_simp; refine wpAnyIn_take (i := 9) (v := undef) rfl rfl (by kernel_rfl) (by kernel_rfl) (by kernel_rfl) (fun _ _ _ h => h) ⟨Or.inr ⟨by kernel_rfl, rfl⟩, fun _ => rfl⟩ ?_; go_simp; refine wpAnyIn_take (i := 10) (v := undef) rfl rfl (by kernel_rfl) (by kernel_rfl) (by kernel_rfl) (fun _ _ _ h => h) ⟨Or.inr ⟨by kernel_rfl, rfl⟩, fun _ => rfl⟩ ?_; go_simp; refine wpAnyIn_take (i := 11) (v := undef) rfl rfl (by kernel_rfl) (by kernel_rfl) (by kernel_rfl) (fun _ _ _ h => h) ⟨Or.inr ⟨by kernel_rfl, rfl⟩, fun _ => rfl⟩ ?_; go_simp; refine wpAnyIn_take (i := 12) (v := undef) rfl rfl (by kernel_rfl) (by kernel_rfl) (by kernel_rfl) (fun _ _ _ h => h) ⟨Or.inr ⟨by kernel_rfl, rfl⟩, fun _ => rfl⟩ ?_; go_simp; refine wpAnyIn_take (i := 13) (v := undef) rfl rfl (by kernel_rfl) (by kernel_rfl) (by kernel_rfl) (fun _ _ _ h => h) ⟨Or.inr ⟨by kernel_rfl, rfl⟩, fun _ => rfl⟩ ?_; go_simp; refine wpAnyIn_take (i := 14) (v := undef) rfl rfl (by kernel_rfl) (by kernel_rfl) (by kernel_rfl) (fun _ _ _ h => h) ⟨Or.inr ⟨by kernel_rfl, rfl⟩, fun _ => rfl⟩ ?_; go_simp; refine wpAnyIn_take (i := 15) (v := undef) rfl rfl (by kernel_rfl) (by kernel_rfl) (by kernel_rfl) (fun _ _ _ h => h) ⟨Or.inr ⟨by kernel_rfl, rfl⟩, fun _ => rfl⟩ ?_; go_simp; refine wpAnyIn_take (i := 16) (v := undef) rfl rfl (by kernel_rfl) (by kernel_rfl) (by kernel_rfl) (fun _ _ _ h => h) ⟨Or.inr ⟨by kernel_rfl, rfl⟩, fun _ => rfl⟩ ?_; go_simp; refine wpAnyIn_take (i := 17) (v := undef) rfl rfl (by kernel_rfl) (by kernel_rfl) (by kernel_rfl) (fun _ _ _ h => h) ⟨Or.inr ⟨by kernel_rfl, rfl⟩, fun _ => rfl⟩ ?_; go_simp; refine wpAnyIn_take (i := 18) (v := ?_) rfl rfl (by kernel_rfl) (by kernel_rfl) (by kernel_rfl) (fun _ _ _ h => h) ⟨Or.inl ⟨by kernel_rfl, ?tk⟩, fun _ => rfl⟩ ?_; (case tk => intro w; first | (go_simp; done) | (go_simp; rfl)); refine wpAnyIn_take (i := 19) (v := ?_) rfl rfl (by kernel_rfl) (by kernel_rfl) (by kernel_rfl) (fun _ _ _ h => h) ⟨Or.inl ⟨by kernel_rfl, ?tk⟩, fun _ => rfl⟩ ?_; (case tk => intro w; first | (go_simp; done) | (go_simp; rfl)); refine wpAnyIn_take (i := 20) (v := undef) rfl rfl (by kernel_rfl) (by kernel_rfl) (by kernel_rfl) (fun _ _ _ h => h) ⟨Or.inr ⟨by kernel_rfl, rfl⟩, fun _ => rfl⟩ ?_; go_simp; refine wpAnyIn_take (i := 21) (v := undef) rfl rfl (by kernel_rfl) (by kernel_rfl) (by kernel_rfl) (fun _ _ _ h => h) ⟨Or.inr ⟨by kernel_rfl, rfl⟩, fun _ => rfl⟩ ?_; go_simp; refine wpAnyIn_take (i := 22) (v := undef) rfl rfl (by kernel_rfl) (by kernel_rfl) (by kernel_rfl) (fun _ _ _ h => h) ⟨Or.inr ⟨by kernel_rfl, rfl⟩, fun _ => rfl⟩ ?_; go_simp; refine wpAnyIn_take (i := 23) (v := undef) rfl rfl (by kernel_rfl) (by kernel_rfl) (by kernel_rfl) (fun _ _ _ h => h) ⟨Or.inr ⟨by kernel_rfl, rfl⟩, fun _ => rfl⟩ ?_; go_simp; refine wpAnyIn_take (i := 24) (v := undef) rfl rfl (by kernel_rfl) (by kernel_rfl) (by kernel_rfl) (fun _ _ _ h => h) ⟨Or.inr ⟨by kernel_rfl, rfl⟩, fun _ => rfl⟩ ?_; go_simp; refine wpAnyIn_ready (rs := [25]) (by kernel_rfl) (by simp) ?_; refine AllReadyIn.cons rfl (fun K hK => ?_) AllReadyIn.nil; go_simp; refine hK _ _ ?_; clear hK K; refine wpAnyIn_take (i := 26) (v := ?_) rfl rfl (by kernel_rfl) (by kernel_rfl) (by kernel_rfl) (fun _ _ _ h => h) ⟨Or.inl ⟨by kernel_rfl, ?tk⟩, fun _ => rfl⟩ ?_; (case tk => intro w; first | (go_simp; done) | (go_simp; rfl)); refine wpAnyIn_take (i := 27) (v := ?_) rfl rfl (by kernel_rfl) (by kernel_rfl) (by kernel_rfl) (fun _ _ _ h => h) ⟨Or.inl ⟨by kernel_rfl, ?tk⟩, fun _ => rfl⟩ ?_; (case tk => intro w; first | (go_simp; done) | (go_simp; rfl)); refine wpAnyIn_done (by kernel_rfl) ?_ _; gi_wp2; go_ret; exact .inr ⟨rfl, q, hx1⟩; obtain ⟨z0, z1, z2, z3, _, _⟩ := nd_cells (HQ.out.1 w1 hk1); obtain ⟨fn, tmps, asg, body, hy, hR⟩ := yieldAt_wide (m' := n - 1) (hY _ (k, v) _ w1 hj1 ⟨hp2, rfl⟩); have H1 := Aside0.mk hk1; clear _t H hk1)
      | (refine hR.mono ?_; clear hR; rintro e w2 (⟨rfl, hj2, hk2⟩ | ⟨rfl, hx2⟩); rotate_left; gi_wp2; refine wpAnyIn_take (i := 18) (v := ?_) rfl rfl (by kernel_rfl) (by kernel_rfl) (by kernel_rfl) (fun _ _ _ h => h) ⟨Or.inl ⟨by kernel_rfl, ?tk⟩, fun _ => rfl⟩ ?_; (case tk => intro w; first | (go_simp; done) | (go_simp; rfl)); refine wpAnyIn_take (i := 19) (v := ?_) rfl rfl (by kernel_rfl) (by kernel_rfl) (by kernel_rfl) (fun _ _ _ h => h) ⟨Or.inl ⟨by kernel_rfl, ?tk⟩, fun _ => rfl⟩ ?_; (case tk => intro w; first | (go_simp; done) | (go_simp; rfl)); refine wpAnyIn_take (i := 20) (v := undef) rfl rfl (by kernel_rfl) (by kernel_rfl) (by kernel_rfl) (fun _ _ _ h => h) ⟨Or.inr ⟨by kernel_rfl, rfl⟩, fun _ => rfl⟩ ?_; go_simp; refine wpAnyIn_take (i := 21) (v := undef) rfl rfl (by kernel_rfl) (by kernel_rfl) (by kernel_rfl) (fun _ _ _ h => h) ⟨Or.inr ⟨by kernel_rfl, rfl⟩, fun _ => rfl⟩ ?_; go_simp; refine wpAnyIn_take (i := 22) (v := undef) rfl rfl (by kernel_rfl) (by kernel_rfl) (by kernel_rfl) (fun _ _ _ h => h) ⟨Or.inr ⟨by kernel_rfl, rfl⟩, fun _ => rfl⟩ ?_; go_simp; refine wpAnyIn_take (i := 23) (v := undef) rfl rfl (by kernel_rfl) (by kernel_rfl) (by kernel_rfl) (fun _ _ _ h => h) ⟨Or.inr ⟨by kernel_rfl, rfl⟩, fun _ => rfl⟩ ?_; go_simp; refine wpAnyIn_take (i := 24) (v := undef) rfl rfl (by kernel_rfl) (by kernel_rfl) (by kernel_rfl) (fun _ _ _ h => h) ⟨Or.inr ⟨by kernel_rfl, rfl⟩, fun _ => rfl⟩ ?_; go_simp; refine wpAnyIn_ready (rs := [25]) (by kernel_rfl) (by simp) ?_; refine AllReadyIn.cons rfl (fun K hK => ?_) AllReadyIn.nil; go_simp; refine hK _ _ ?_; clear hK K; refine wpAnyIn_take (i := 26) (v := ?_) rfl rfl (by kernel_rfl) (by kernel_rfl) (by kernel_rfl) (fun _ _ _ h => h) ⟨Or.inl ⟨by kernel_rfl, ?tk⟩, fun _ => rfl⟩ ?_; (case tk => intro w; first | (go_simp; done) | (go_simp; rfl)); refine wpAnyIn_take (i := 27) (v := ?_) rfl rfl (by kernel_rfl) (by kernel_rfl) (by kernel_rfl) (fun _ _ _ h => h) ⟨Or.inl ⟨by kernel_rfl, ?tk⟩, fun _ => rfl⟩ ?_; (case tk => intro w; first | (go_simp; done) | (go_simp; rfl)); refine wpAnyIn_done (by kernel_rfl) ?_ _; gi_wp2; go_ret; exact .inr ⟨rfl, _, hx2⟩; have hk3 := H1.out.trans hk2; obtain ⟨z0, z1, z2, z3, _, _⟩ := nd_cells (HQ.out.1 w2 hk3); have H2 := Aside0.mk (And.intro hk3 hj2); clear hk2 hk3 hj2 hy)
      | (gi_at_call 43; have _t := H2; refine (HI.out.2 pr _ _ _ HQ.out.2.2.1 hp3 H2.out.1 H2.out.2).mono ?_; intro e w3 h3; obtain ⟨b, rfl, hb3⟩ := ret_bool h3; have H3 := Aside0.mk hb3; clear h3 hb3 _t H2))
    all_goals
      gi_wp2
      go_ret
      rcases H3.out with ⟨rfl, q1, q2⟩ | ⟨rfl, q, q1⟩
      · refine .inl ⟨rfl, ?_, q2⟩
        unfold flat
        simpa using q1
      · exact .inr ⟨rfl, q, q1⟩
end Go.Proofs.YtcnmbllafdeokaaDoor.H
/- package table at uint64 keys and int64 values: All's func. -/
namespace Go.Proofs.YtcnmbllafdeokaaDoor.H
open Go.RowKit Go.Proofs.YtcnmbllafdeokaaDoorW.PrintWords Go.Proofs.YtcnmbllafdeokaaDoorW.PrintLast Go.Proofs.YtcnmbllafdeokaaDoorW.PrintMore Go.Proofs.YtcnmbllafdeokaaDoor.TrM Go.Proofs.YtcnmbllafdeokaaDoor.AtM
set_option linter.unusedVariables false
set_option linter.unusedSimpArgs false
set_option maxRecDepth 100000
attribute [local go_sem] Oper.semAt_some wide_fn wide_depth

set_option maxHeartbeats 1600000 in
theorem All1_seq (n : Nat) (xs : List (Int × Int)) (t : TN) (p : Option Addr) (gt bb n₀ : Nat) (Kb : Nat → Prop) (w : World) (hf : flat t = xs)
    (hbox : ∀ W, Kp n₀ Kb w W → W.cell? ⟨bb, 0, none⟩ = some (.pointer (some ⟨gt, 0, none⟩))) (htb : ∀ W, Kp n₀ Kb w W → W.cell? ⟨gt, 0, none⟩ = some (.pointer p)) (hT : TrU (Kp n₀ Kb w) p t) (hn : n₀ ≤ w.heap.size) :
    SeqX Fence.wide n Tryd.prog 42 #[.pointer (some ⟨bb, 0, none⟩)] (AllY xs) n₀ Kb (fun ys => ys = xs) (fun _ => True) w := by
  intro l J Jx W hK hJ hJx hY h0
  subst hf
  have hrise := rise_calls l (flat t) n₀ Kb J Jx w hn hJ hJx (n - 1) hY t p [] (n - 1) W hT (by simp) hK h0
  have d0 := hbox W hK
  have d1 := htb W hK
  have HR := Aside0.mk hrise
  clear hrise hT hK h0 hY hbox htb
  refine callsIn_of_wp Tryd.func42 rfl trivial ?_ rfl
  simp only [Tryd.ntmps42, List.size_toArray, List.length_cons, List.length_nil, Nat.reduceAdd, Nat.reduceSub, Array.replicate_succ, Array.replicate_zero, List.push_toArray, List.append_toArray, List.nil_append, List.cons_append]
  gi_wp2_with (fail)
  refine HR.out.mono ?_
  intro e w3 h3
  obtain ⟨b, rfl, hb3⟩ : ∃ b, e = .returned (.bool b) ∧ ((b = true ∧ J ([] ++ flat t) w3 ∧ Kp n₀ Kb w w3) ∨ (b = false ∧ ∃ q, Jx q w3)) := by
    rcases h3 with ⟨h, a⟩ | ⟨h, a⟩
    · exact ⟨true, h, .inl ⟨rfl, a⟩⟩
    · exact ⟨false, h, .inr ⟨rfl, a⟩⟩
  have H3 := Aside0.mk hb3
  clear h3 hb3
  gi_wp2
  go_end0
  rcases H3.out with ⟨rfl, q1, q2⟩ | ⟨rfl, q, q1⟩
  · exact ⟨⟨_, rfl⟩, .inl ⟨_, rfl, by simpa using q1⟩⟩
  · exact ⟨⟨_, rfl⟩, .inr ⟨q, trivial, q1⟩⟩
end Go.Proofs.YtcnmbllafdeokaaDoor.H
/- set.Cmp's order is a strict weak order. -/
namespace Go.Proofs.YtcnmbllafdeokaaDoor.Sw
open Go Go.Proofs Go.Shelf Go.Sort Go.Proofs.YtcnmbllafdeokaaDoor.TrM Go.Proofs.YtcnmbllafdeokaaDoor.AtM
theorem ltOf_cmpS (x y : Int × Int) : ltOf (fun x y : Int × Int => cmpS x.1 y.1) x y = decide (pcS x.1 < pcS y.1 ∨ (pcS x.1 = pcS y.1 ∧ x.1 < y.1)) := by
  have h : (cmpS x.1 y.1 < 0) ↔ (pcS x.1 < pcS y.1 ∨ (pcS x.1 = pcS y.1 ∧ x.1 < y.1)) := by
    unfold cmpS; repeat' split
    all_goals omega
  unfold ltOf
  simp only [h]
theorem swoS : SWO (ltOf fun x y : Int × Int => cmpS x.1 y.1) where
  irrefl x := by rw [ltOf_cmpS]; simp
  trans x y z h1 h2 := by rw [ltOf_cmpS] at *; simp only [decide_eq_true_eq] at *; omega
  ntrans x y z h1 h2 := by rw [ltOf_cmpS] at *; simp only [decide_eq_false_iff_not] at *; omega
end Go.Proofs.YtcnmbllafdeokaaDoor.Sw
