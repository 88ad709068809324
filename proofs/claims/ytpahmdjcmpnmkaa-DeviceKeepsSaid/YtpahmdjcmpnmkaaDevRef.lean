/- The document's device: contracts of the functions of ref04. -/
import Derived.Test.YtpahmdjcmpnmkaaDevAl
namespace Go.Proofs.Ytpahmdjcmpnmkaa.H
open Go.RowKit Go.Proofs.YtpahmdjcmpnmkaaW.PrintWords Go.Proofs.YtpahmdjcmpnmkaaW.PrintLast Go.Proofs.YtpahmdjcmpnmkaaW.PrintMore
set_option linter.unusedVariables false
set_option linter.unusedSimpArgs false

/-- The rows of a document's device are read. -/
structure RvOf [Pl] (W : World) (A0 : Option Addr) (c0 : Nat) (A1 : Option Addr) (c1 : Nat) (d : Dv) : Prop where
  l0 : d.a.length ≤ c0
  l1 : d.b.length ≤ c1
  r0 : Rd W A0 d.a
  r1 : Rd W A1 d.b
abbrev rvCells (A0 : Option Addr) (c0 : Nat) (A1 : Option Addr) (c1 : Nat) (d : Dv) : Array Value := #[.slice A0 d.a.length c0, .slice A1 d.b.length c1, .int .i64 d.cap, .int .i64 d.left, .bool d.down, .int .i64 d.turned]
theorem RvOf.below [Pl] {W W' : World} {A0 : Option Addr} {c0 : Nat} {A1 : Option Addr} {c1 : Nat} {d : Dv} (h : RvOf W A0 c0 A1 c1 d) (hb : Below W.heap.size W W') : RvOf W' A0 c0 A1 c1 d := ⟨h.l0, h.l1, h.r0.below hb, h.r1.below hb⟩
theorem RvOf.oth [Pl] {W W' : World} {A0 : Option Addr} {c0 : Nat} {A1 : Option Addr} {c1 : Nat} {d : Dv} {g t : Nat} {cs : Array Value} {z : Nat × Nat} (h : RvOf W A0 c0 A1 c1 d) (hb : W.heap[g]? = some (.cells cs t z)) (hne : 5 ≠ t) (ho : Oth g W W') : RvOf W' A0 c0 A1 c1 d := ⟨h.l0, h.l1, h.r0.oth hb hne ho, h.r1.oth hb hne ho⟩
theorem info_rv : (Try.prog.info? 29).map (·.size) = some 6 := by kernel_rfl
/-- A block of a document's device. -/
def RvB (W : World) (g : Nat) (A0 : Option Addr) (c0 : Nat) (A1 : Option Addr) (c1 : Nat) (d : Dv) : Prop := W.heap[g]? = some (.cells (rvCells A0 c0 A1 c1 d) 29 (0, 0))
theorem RvB.cells {W : World} {g : Nat} {A0 : Option Addr} {c0 : Nat} {A1 : Option Addr} {c1 : Nat} {d : Dv} (h : RvB W g A0 c0 A1 c1 d) :
    W.cell? ⟨g, 0, none⟩ = some (.slice A0 d.a.length c0) ∧ W.cell? ⟨g, 1, none⟩ = some (.slice A1 d.b.length c1) ∧ W.cell? ⟨g, 2, none⟩ = some (.int .i64 d.cap) ∧ W.cell? ⟨g, 3, none⟩ = some (.int .i64 d.left) ∧ W.cell? ⟨g, 4, none⟩ = some (.bool d.down) ∧ W.cell? ⟨g, 5, none⟩ = some (.int .i64 d.turned) := by
  unfold RvB at h
  refine ⟨?_, ?_, ?_, ?_, ?_, ?_⟩ <;> · rw [blk_cell h]; rfl

theorem RNew_calls (n : Int) (W : World) : Calls Try.prog 9 #[.int .i64 n] W fun e W' => e = .returned (.agg (rvCells none 0 none 0 ⟨[], [], capC n, -1, false, 0⟩)) ∧ Below W.heap.size W W' := by
  have c1 : n < 0 → capC n = 0 := fun h => by unfold capC; rw [if_pos h]
  have c2 : 0 ≤ n → 1048576 < n → capC n = 1048576 := fun h h2 => by unfold capC; rw [if_neg (by omega), if_pos h2]
  have c3 : 0 ≤ n → n ≤ 1048576 → capC n = n := fun h h2 => by unfold capC; rw [if_neg (by omega), if_neg (by omega)]
  have C := Aside0.mk (And.intro c1 (And.intro c2 c3))
  clear c1 c2 c3
  go_enter Try.func9, Try.ntmps9
  go_wp2
  · refine bodyPost_ret (results_single rfl (.cell W.heap.size _ _ _ _ rfl (blk_new W _) Try.underlying29 rfl info_rv .nil)) rfl ?_
    exact ⟨by rw [C.out.1 (by assumption)]; rfl, below_alloc (Below.refl _ _) _⟩
  · refine bodyPost_ret (results_single rfl (.cell W.heap.size _ _ _ _ rfl (blk_new W _) Try.underlying29 rfl info_rv .nil)) rfl ?_
    exact ⟨by rw [C.out.2.1 (by assumption) (by assumption)]; rfl, below_alloc (Below.refl _ _) _⟩
  · refine bodyPost_ret (results_single rfl (.cell W.heap.size _ _ _ _ rfl (blk_new W _) Try.underlying29 rfl info_rv .nil)) rfl ?_
    exact ⟨by rw [C.out.2.2 (by assumption) (by assumption)]; rfl, below_alloc (Below.refl _ _) _⟩
theorem RRow_calls (A0 : Option Addr) (c0 : Nat) (A1 : Option Addr) (c1 : Nat) (d : Dv) (r : Int) (v : Value) (W : World) (hv : (if r = 0 then Value.slice A0 d.a.length c0 else if r = 1 then Value.slice A1 d.b.length c1 else .slice none 0 0) = v) :
    Calls Try.prog 25 #[.agg (rvCells A0 c0 A1 c1 d), .int .i64 r] W fun e W' => e = .returned v ∧ Below W.heap.size W W' := by
  subst hv
  by_cases h0 : r = 0
  · subst h0
    rw [if_pos rfl]
    go_enter Try.func25, Try.ntmps25
    go_wp2
    go_ret
    exact ⟨rfl, below_alloc (Below.refl _ _) _⟩
  · rw [if_neg h0]
    have b0 : (r == 0) = false := by rw [beq_eq_false_iff_ne]; exact h0
    by_cases h1 : r = 1
    · subst h1
      rw [if_pos rfl]
      go_enter Try.func25, Try.ntmps25
      go_wp2
      go_ret
      exact ⟨rfl, below_alloc (Below.refl _ _) _⟩
    · rw [if_neg h1]
      have b1 : (r == 1) = false := by rw [beq_eq_false_iff_ne]; exact h1
      clear h0 h1
      go_enter Try.func25, Try.ntmps25
      go_wp2
      go_ret
      exact ⟨rfl, below_alloc (Below.refl _ _) _⟩
theorem RCut_calls (A0 : Option Addr) (c0 : Nat) (A1 : Option Addr) (c1 : Nat) (d : Dv) (n : Int) (W : World) : Calls Try.prog 28 #[.agg (rvCells A0 c0 A1 c1 d), .int .i64 n] W fun e W' => e = .returned (.agg (rvCells A0 c0 A1 c1 (cutD d n))) ∧ Below W.heap.size W W' := by
  by_cases h : n < 0
  · have b0 : decide (n < 0) = true := decide_eq_true h
    have e : cutD d n = { d with left := -1 } := by unfold cutD; by_cases h2 : n < -1; rw [if_pos h2]; rw [if_neg h2]; congr; omega
    have E := Lib.hid e
    clear h e
    go_enter Try.func28, Try.ntmps28
    go_wp2
    refine bodyPost_ret (results_single rfl (.cell (W.heap.size + 1) _ _ _ _ rfl (blk_new2 W _ _) Try.underlying29 rfl info_rv .nil)) rfl ?_
    exact ⟨by rw [E.out], below_alloc (below_alloc (Below.refl _ _) _) _⟩
  · have b0 : decide (n < 0) = false := decide_eq_false h
    have e : cutD d n = { d with left := n } := by unfold cutD; rw [if_neg (by omega)]
    have E := Lib.hid e
    clear h e
    go_enter Try.func28, Try.ntmps28
    go_wp2
    refine bodyPost_ret (results_single rfl (.cell (W.heap.size + 1) _ _ _ _ rfl (blk_new2 W _ _) Try.underlying29 rfl info_rv .nil)) rfl ?_
    exact ⟨by rw [E.out], below_alloc (below_alloc (Below.refl _ _) _) _⟩
theorem RRest_calls (A0 : Option Addr) (c0 : Nat) (A1 : Option Addr) (c1 : Nat) (d : Dv) (W : World) : Calls Try.prog 29 #[.agg (rvCells A0 c0 A1 c1 d)] W fun e W' => e = .returned (.agg (rvCells A0 c0 A1 c1 (restD d))) ∧ Below W.heap.size W W' := by
  go_enter Try.func29, Try.ntmps29
  go_wp2
  refine bodyPost_ret (results_single rfl (.cell (W.heap.size + 1) _ _ _ _ rfl (blk_new2 W _ _) Try.underlying29 rfl info_rv .nil)) rfl ?_
  exact ⟨rfl, below_alloc (below_alloc (Below.refl _ _) _) _⟩
theorem RSet0_calls (A0 : Option Addr) (c0 : Nat) (A1 : Option Addr) (c1 : Nat) (d : Dv) (A : Option Addr) (n c : Nat) (l : List Int) (W : World) (hn : l.length = n) : Calls Try.prog 35 #[.agg (rvCells A0 c0 A1 c1 d), .int .i64 0, .slice A n c] W fun e W' => e = .returned (.agg (rvCells A c A1 c1 (d.set 0 l))) ∧ Below W.heap.size W W' := by
  subst hn
  go_enter Try.func35, Try.ntmps35
  go_wp2
  refine bodyPost_ret (results_single rfl (.cell (W.heap.size + 1) _ _ _ _ rfl (blk_new2 W _ _) Try.underlying29 rfl info_rv .nil)) rfl ?_
  exact ⟨rfl, below_alloc (below_alloc (Below.refl _ _) _) _⟩
theorem RSet1_calls (A0 : Option Addr) (c0 : Nat) (A1 : Option Addr) (c1 : Nat) (d : Dv) (A : Option Addr) (n c : Nat) (l : List Int) (W : World) (hn : l.length = n) : Calls Try.prog 35 #[.agg (rvCells A0 c0 A1 c1 d), .int .i64 1, .slice A n c] W fun e W' => e = .returned (.agg (rvCells A0 c0 A c (d.set 1 l))) ∧ Below W.heap.size W W' := by
  subst hn
  go_enter Try.func35, Try.ntmps35
  go_wp2
  refine bodyPost_ret (results_single rfl (.cell (W.heap.size + 1) _ _ _ _ rfl (blk_new2 W _ _) Try.underlying29 rfl info_rv .nil)) rfl ?_
  exact ⟨rfl, below_alloc (below_alloc (Below.refl _ _) _) _⟩
theorem RSetn_calls (A0 : Option Addr) (c0 : Nat) (A1 : Option Addr) (c1 : Nat) (d : Dv) (r : Int) (v : Value) (W : World) (hr : ¬(r = 0 ∨ r = 1)) : Calls Try.prog 35 #[.agg (rvCells A0 c0 A1 c1 d), .int .i64 r, v] W fun e W' => e = .returned (.agg (rvCells A0 c0 A1 c1 d)) ∧ Below W.heap.size W W' := by
  have b0 : (r == 0) = false := by rw [beq_eq_false_iff_ne]; omega
  have b1 : (r == 1) = false := by rw [beq_eq_false_iff_ne]; omega
  clear hr
  go_enter Try.func35, Try.ntmps35
  go_wp2
  refine bodyPost_ret (results_single rfl (.cell (W.heap.size + 1) _ _ _ _ rfl (blk_new2 W _ _) Try.underlying29 rfl info_rv .nil)) rfl ?_
  exact ⟨rfl, below_alloc (below_alloc (Below.refl _ _) _) _⟩
theorem RTurn_calls (A0 : Option Addr) (c0 : Nat) (A1 : Option Addr) (c1 : Nat) (d d' : Dv) (n k : Nat) (W : World) (hd : turnD d n = d') (hk : turnN d n = k) (hn : n ≤ 2000000) (h0 : 0 ≤ d.turned) (h1 : d.turned ≤ 1000000000000) (h2 : d.left ≤ 9223372036854775807) :
    Calls Try.prog 34 #[.agg (rvCells A0 c0 A1 c1 d), .int .i64 (n : Int)] W fun e W' => e = .returned (.tuple #[.agg (rvCells A0 c0 A1 c1 d'), .int .i64 (k : Int)]) ∧ Below W.heap.size W W' := by
  subst hd; subst hk
  obtain ⟨a, b, cap, left, down, turned⟩ := d
  simp only at h0 h1 h2
  by_cases hl : 0 ≤ left
  · have b0 : decide (0 ≤ left) = true := decide_eq_true hl
    by_cases hc : left < n
    · have b1 : decide (left < (n : Int)) = true := decide_eq_true hc
      have e1 : turnN ⟨a, b, cap, left, down, turned⟩ n = left.toNat := by unfold turnN; rw [if_pos ⟨hl, hc⟩]
      have e2 : turnD ⟨a, b, cap, left, down, turned⟩ n = ⟨a, b, cap, left - left, true, turned + left⟩ := by
        unfold turnD
        rw [e1]
        simp only [if_pos hl]
        rw [show decide (0 ≤ left ∧ left < (n : Int)) = true from decide_eq_true ⟨hl, hc⟩, Bool.or_true]
        congr 1 <;> omega
      rw [e2, e1, show ((left.toNat : Nat) : Int) = left by omega]
      rw [Int.sub_self]
      clear e1 e2
      go_enter Try.func34, Try.ntmps34
      go_wp2
      refine bodyPost_ret (results_list (rs := [.cell 4 29, .tmp 5]) rfl (by simp) (.cell (W.heap.size + 1) _ _ _ _ rfl (blk_new2 W _ _) Try.underlying29 rfl info_rv (.tmp .nil))) rfl ?_
      exact ⟨rfl, below_alloc (below_alloc (Below.refl _ _) _) _⟩
    · have b1 : decide (left < (n : Int)) = false := decide_eq_false hc
      have e1 : turnN ⟨a, b, cap, left, down, turned⟩ n = n := by unfold turnN; rw [if_neg (fun h => hc h.2)]
      have e2 : turnD ⟨a, b, cap, left, down, turned⟩ n = ⟨a, b, cap, left - n, down, turned + n⟩ := by
        unfold turnD
        rw [e1]
        simp only [if_pos hl]
        rw [show decide (0 ≤ left ∧ left < (n : Int)) = false from decide_eq_false (fun h => hc h.2), Bool.or_false]
      rw [e2, e1]
      clear e1 e2
      go_enter Try.func34, Try.ntmps34
      go_wp2
      refine bodyPost_ret (results_list (rs := [.cell 4 29, .tmp 5]) rfl (by simp) (.cell (W.heap.size + 1) _ _ _ _ rfl (blk_new2 W _ _) Try.underlying29 rfl info_rv (.tmp .nil))) rfl ?_
      exact ⟨rfl, below_alloc (below_alloc (Below.refl _ _) _) _⟩
  · have b0 : decide (0 ≤ left) = false := decide_eq_false hl
    have e1 : turnN ⟨a, b, cap, left, down, turned⟩ n = n := by unfold turnN; rw [if_neg (fun h => hl h.1)]
    have e2 : turnD ⟨a, b, cap, left, down, turned⟩ n = ⟨a, b, cap, left, down, turned + n⟩ := by
      unfold turnD
      rw [e1]
      simp only [if_neg hl]
      rw [show decide (0 ≤ left ∧ left < (n : Int)) = false from decide_eq_false (fun h => hl h.1), Bool.or_false]
    rw [e2, e1]
    clear e1 e2
    go_enter Try.func34, Try.ntmps34
    go_wp2
    refine bodyPost_ret (results_list (rs := [.cell 4 29, .tmp 5]) rfl (by simp) (.cell (W.heap.size + 1) _ _ _ _ rfl (blk_new2 W _ _) Try.underlying29 rfl info_rv (.tmp .nil))) rfl ?_
    exact ⟨rfl, below_alloc (below_alloc (Below.refl _ _) _) _⟩
/-- What a cell holds. -/
def cellV (g i : Nat) (w : World) : Value := (w.cell? ⟨g, i, none⟩).getD undef
theorem cellV_drew (g i : Nat) (w : World) : cellV g i w.drew = cellV g i w := rfl
theorem cellV_of {g i : Nat} {w : World} {v : Value} (h : w.cell? ⟨g, i, none⟩ = some v) : cellV g i w = v := by unfold cellV; rw [h]; rfl
attribute [local go_sem] cellV_drew
/-- A block of six cells. -/
def Six (w : World) (g : Nat) : Prop := ∃ cs t, w.heap[g]? = some (.cells cs t (0, 0)) ∧ cs.size = 6
theorem Six.set {w : World} {g : Nat} (h : Six w g) (j : Nat) (v : Value) (hj : j < 6) : Six (w.setCell ⟨g, j, none⟩ v) g := by
  obtain ⟨cs, t, h1, h2⟩ := h
  exact ⟨_, t, blk_set h1 j v, by rw [Array.size_setIfInBounds]; exact h2⟩
theorem Six.cell {w : World} {g : Nat} (h : Six w g) (i : Nat) (hi : i < 6) : w.cell? ⟨g, i, none⟩ = some (cellV g i w) := by
  obtain ⟨cs, t, h1, h2⟩ := h
  have hc := blk_cell h1 i
  rw [Array.getElem?_eq_getElem (by omega)] at hc
  rw [cellV_of hc, hc]
theorem Six.all {w : World} {g : Nat} (h : Six w g) : w.cell? ⟨g, 0, none⟩ = some (cellV g 0 w) ∧ w.cell? ⟨g, 1, none⟩ = some (cellV g 1 w) ∧ w.cell? ⟨g, 2, none⟩ = some (cellV g 2 w) ∧ w.cell? ⟨g, 3, none⟩ = some (cellV g 3 w) ∧ w.cell? ⟨g, 4, none⟩ = some (cellV g 4 w) ∧ w.cell? ⟨g, 5, none⟩ = some (cellV g 5 w) :=
  ⟨h.cell 0 (by decide), h.cell 1 (by decide), h.cell 2 (by decide), h.cell 3 (by decide), h.cell 4 (by decide), h.cell 5 (by decide)⟩
theorem oth_of {g : Nat} {w w1 : World} (hf : ∀ k, k ≠ g → w1.heap[k]? = w.heap[k]?) (hz : w1.heap.size = w.heap.size) (ho : w1.os = w.os) (ht : w1.tape = w.tape) (hu : w1.output = w.output) : Oth g w w1 := ⟨ho, ht, hu, Nat.le_of_eq hz.symm, fun k _ hk => hf k hk⟩
theorem RSet0_eq (A0 : Option Addr) (c0 : Nat) (A1 : Option Addr) (c1 : Nat) (d d' : Dv) (A : Option Addr) (n c : Nat) (l : List Int) (W : World) (hn : l.length = n) (hd : d.set 0 l = d') : Calls Try.prog 35 #[.agg (rvCells A0 c0 A1 c1 d), .int .i64 0, .slice A n c] W fun e W' => e = .returned (.agg (rvCells A c A1 c1 d')) ∧ Below W.heap.size W W' := by
  subst hd; exact RSet0_calls A0 c0 A1 c1 d A n c l W hn
theorem RSet1_eq (A0 : Option Addr) (c0 : Nat) (A1 : Option Addr) (c1 : Nat) (d d' : Dv) (A : Option Addr) (n c : Nat) (l : List Int) (W : World) (hn : l.length = n) (hd : d.set 1 l = d') : Calls Try.prog 35 #[.agg (rvCells A0 c0 A1 c1 d), .int .i64 1, .slice A n c] W fun e W' => e = .returned (.agg (rvCells A0 c0 A c d')) ∧ Below W.heap.size W W' := by
  subst hd; exact RSet1_calls A0 c0 A1 c1 d A n c l W hn
theorem C_two_k {e : Nat} {W : World} {A A2 : Option Addr} {c c2 k : Nat} {l l2 : List Int} (t : TypeId) (fr : Nat × Nat) (hc : l.length ≤ c) (h : (Kd.int .u8).C W A l.length l) (hc2 : k ≤ c2) (hk : l2.length = k) (h2 : (Kd.int .u8).C W A2 l2.length l2) :
    (Kd.slice e (Kd.int .u8)).C (W.alloc (.cells #[.slice A l.length c, .slice A2 k c2] t fr)) (some ⟨W.heap.size, 0, none⟩) 2 [l, l2] := by
  subst hk; exact C_two t fr hc h hc2 h2
theorem RTurn_eq (A0 : Option Addr) (c0 : Nat) (A1 : Option Addr) (c1 : Nat) (d d' : Dv) (n k : Nat) (m : Int) (W : World) (hm : m = n) (hd : turnD d n = d') (hk : turnN d n = k) (hn : n ≤ 2000000) (h0 : 0 ≤ d.turned) (h1 : d.turned ≤ 1000000000000) (h2 : d.left ≤ 9223372036854775807) :
    Calls Try.prog 34 #[.agg (rvCells A0 c0 A1 c1 d), .int .i64 m] W fun e W' => e = .returned (.tuple #[.agg (rvCells A0 c0 A1 c1 d'), .int .i64 (k : Int)]) ∧ Below W.heap.size W W' := by
  subst hm
  exact RTurn_calls A0 c0 A1 c1 d d' n k W hd hk hn h0 h1 h2
end Go.Proofs.Ytpahmdjcmpnmkaa.H
