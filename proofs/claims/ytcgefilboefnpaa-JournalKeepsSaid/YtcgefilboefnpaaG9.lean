/- Some texts of one seat in one file, in build order. -/
import Derived.Test.YtcgefilboefnpaaG8
import Derived.Test.YtcgefilboefnpaaG7
import Derived.Test.YtcgefilboefnpaaG4
/- Plain mathematics of the journal: what is read of a region, what is opened, appended and compacted. No program. -/
namespace Go.Proofs.Ytcgefilboefnpaa.H
open Go.RowKit Go.Proofs.YtcgefilboefnpaaW.PrintWords Go.Proofs.YtcgefilboefnpaaW.PrintLast Go.Proofs.YtcgefilboefnpaaW.PrintMore Go.Proofs.Ytcgefilboefnpaa.CrcM
set_option linter.unusedVariables false

theorem writeF_len (k : Int) (l : List Int) : (writeF k l).1.length ≤ 4103 ∧ ((writeF k l).2 = 0 → (writeF k l).1.length = l.length + 7) := by
  unfold writeF
  split
  · exact ⟨by simp, fun h => absurd h (by decide)⟩
  · split
    · exact ⟨by simp, fun h => absurd h (by decide)⟩
    · refine ⟨?_, fun _ => ?_⟩ <;> (simp only [List.length_append, bytesF, le4, List.length_cons, List.length_nil]; omega)
/-- A journal: its region, age, snapshot, records, and where they end. -/
structure Jn where
  region : Int
  age : Int
  snap : List Int
  recs : List (List Int)
  fin : Int
/-- A reader: the journal so far, the pieces that are wanted, whether it counts. -/
structure Rr where
  j : Jn
  left : Int
  ok : Bool
def headB (age n : Nat) : List Int := uintB age ++ uintB n
/-- How many pieces. -/
def cntJ (n : Int) : Int := (n + 4095) / 4096
/-- The pieces. -/
def chunksL : Nat → List Int → List (List Int)
  | 0, _ => []
  | k + 1, l => if l = [] then [] else l.take 4096 :: chunksL k (l.drop 4096)
def chunksF (l : List Int) : List (List Int) := chunksL (l.length + 1) l
def begF (age : Nat) (snap : List Int) : List Fb := (1, headB age (cntJ snap.length).toNat) :: (chunksF snap).map (fun p => (2, p)) ++ [(3, [])]
/-- The first frame. -/
def firstR (r : Rr) (k : Int) (b : List Int) : Rr × Bool :=
  let s := takeU (b, 0)
  let t := takeU s.1
  if k ≠ 1 ∨ t.1.2 ≠ 0 ∨ 0 < t.1.1.length ∨ s.2 = 0 ∨ t.2 > 1048576 then (r, false) else (⟨{ r.j with age := s.2 }, t.2, r.ok⟩, true)
/-- A frame. -/
def takeR (r : Rr) (k : Int) (b : List Int) : Rr × Bool :=
  if r.left < 0 then firstR r k b
  else if r.ok = true then (if k = 4 then ({ r with j := { r.j with recs := r.j.recs ++ [b] } }, true) else (r, false))
  else if 0 < r.left then (⟨{ r.j with snap := r.j.snap ++ b }, r.left - 1, r.ok⟩, decide (k = 2 ∧ ((b.length : Int) = 4096 ∨ r.left - 1 = 0 ∧ 0 < b.length)))
  else ({ r with ok := decide (k = 3 ∧ b.length = 0) }, decide (k = 3 ∧ b.length = 0))
/-- All frames, as far as they belong. -/
def runR : List Fr → Rr → Rr
  | [], r => r
  | x :: fs, r => if (takeR r x.2.1 x.2.2).2 = true then runR fs { (takeR r x.2.1 x.2.2).1 with j := { (takeR r x.2.1 x.2.2).1.j with fin := x.1 + ((x.2.2.length : Int) + 7) } } else (takeR r x.2.1 x.2.2).1
def readJ (region : Int) (b : List Int) : Rr := runR (scanF b) ⟨⟨region, 0, [], [], 0⟩, -1, false⟩
/-- Bytes one behind the other. -/
def foldA (d : Dv) (r : Int) : List (List Int) → Dv × Int
  | [] => (d, 0)
  | b :: bs => if (appendD d r b).2 = 0 then foldA (appendD d r b).1 r bs else appendD d r b
def beginJ (d : Dv) (j : Jn) (region : Int) (age : Nat) (snap : List Int) : Dv × Jn × Int :=
  if (truncD d region 0).2 ≠ 0 then ((truncD d region 0).1, j, (truncD d region 0).2)
  else if (foldA (truncD d region 0).1 region ((begF age snap).map fun x => (writeF x.1 x.2).1)).2 ≠ 0 then ((foldA (truncD d region 0).1 region ((begF age snap).map fun x => (writeF x.1 x.2).1)).1, j, (foldA (truncD d region 0).1 region ((begF age snap).map fun x => (writeF x.1 x.2).1)).2)
  else ((foldA (truncD d region 0).1 region ((begF age snap).map fun x => (writeF x.1 x.2).1)).1, ⟨region, age, snap, [], (((foldA (truncD d region 0).1 region ((begF age snap).map fun x => (writeF x.1 x.2).1)).1.row region).length : Int)⟩, 0)
def jn0 : Jn := ⟨0, 0, [], [], 0⟩
def anewJ (d : Dv) : Dv × Jn × Int :=
  if (truncD d 0 0).2 ≠ 0 then ((truncD d 0 0).1, jn0, (truncD d 0 0).2)
  else if (truncD (truncD d 0 0).1 1 0).2 ≠ 0 then ((truncD (truncD d 0 0).1 1 0).1, jn0, (truncD (truncD d 0 0).1 1 0).2)
  else if 16 > d.cap then ((truncD (truncD d 0 0).1 1 0).1, jn0, 6)
  else beginJ (truncD (truncD d 0 0).1 1 0).1 jn0 0 1 []
/-- Which region is the journal's. -/
def pickJ (d : Dv) : Rr := if (readJ 1 d.b).ok = true ∧ ((readJ 0 d.a).ok = false ∨ (readJ 1 d.b).j.age > (readJ 0 d.a).j.age) then readJ 1 d.b else readJ 0 d.a
def openJ (d : Dv) : Dv × Jn × Int :=
  if d.down = true then (d, jn0, 30)
  else if (pickJ d).ok = false then anewJ d
  else ((truncD d (pickJ d).j.region (pickJ d).j.fin).1, (pickJ d).j, (truncD d (pickJ d).j.region (pickJ d).j.fin).2)
def appendJ (d : Dv) (j : Jn) (rec : List Int) : Dv × Jn × Int :=
  if (writeF 4 rec).2 ≠ 0 then (d, j, (writeF 4 rec).2)
  else if (appendD d j.region (writeF 4 rec).1).2 ≠ 0 then ((appendD d j.region (writeF 4 rec).1).1, j, (appendD d j.region (writeF 4 rec).1).2)
  else ((appendD d j.region (writeF 4 rec).1).1, { j with recs := j.recs ++ [rec], fin := j.fin + ((writeF 4 rec).1.length : Int) }, 0)
/-- How many bytes a region begins with. -/
def heavyJ (age : Nat) (n : Int) : Int := ((headB age (cntJ n).toNat).length : Int) + 7 + cntJ n * 7 + n + 7
def compactJ (d : Dv) (j : Jn) (snap : List Int) : Dv × Jn × Int :=
  if j.age = 18446744073709551615 then (d, j, 3)
  else if heavyJ (j.age.toNat + 1) snap.length > d.cap then (d, j, 6)
  else if d.down = true then (d, j, 30)
  else beginJ d j (1 - j.region) (j.age.toNat + 1) snap
end Go.Proofs.Ytcgefilboefnpaa.H
/- journal.reader: first. -/
namespace Go.Proofs.Ytcgefilboefnpaa.H
open Go.RowKit Go.Proofs.YtcgefilboefnpaaW.PrintWords Go.Proofs.YtcgefilboefnpaaW.PrintLast Go.Proofs.YtcgefilboefnpaaW.PrintMore Go.Proofs.Ytcgefilboefnpaa.CrcM
set_option linter.unusedVariables false
set_option linter.unusedSimpArgs false

abbrev rdrCells (gd : Nat) (As : Option Addr) (ns cs : Nat) (Ar : Option Addr) (nr cr : Nat) (region age fin left : Int) (ok : Bool) : Array Value :=
  #[.pointer (some ⟨gd, 0, none⟩), .int .i64 region, .int .u64 age, .slice As ns cs, .slice Ar nr cr, .int .i64 fin, .int .i64 left, .bool ok]
/-- A reader's block, whose rows are its own from B on. -/
def RdrB (W : World) (gr gd : Nat) (As : Option Addr) (cs : Nat) (Ar : Option Addr) (cr : Nat) (r : Rr) : Prop :=
  W.heap[gr]? = some (.cells (rdrCells gd As r.j.snap.length cs Ar r.j.recs.length cr r.j.region r.j.age r.j.fin r.left r.ok) 88 (0, 0))
def RdrAt [Pl] (W : World) (B gr gd : Nat) (r : Rr) : Prop :=
  (r.ok = false → r.j.recs = []) ∧ ∃ As cs Ar cr os, RdrB W gr gd As cs Ar cr r ∧ Kd.R (Kd.int .u8) 5 W B (fun _ => True) (.slice As r.j.snap.length cs) r.j.snap ∧ KSl.R 32 W B (fun _ => True) (.slice Ar r.j.recs.length cr) os ∧ SlsOf W os r.j.recs
theorem RdrB.cells {W : World} {gr gd : Nat} {As : Option Addr} {cs : Nat} {Ar : Option Addr} {cr : Nat} {r : Rr} (h : RdrB W gr gd As cs Ar cr r) :
    W.cell? ⟨gr, 0, none⟩ = some (.pointer (some ⟨gd, 0, none⟩)) ∧ W.cell? ⟨gr, 1, none⟩ = some (.int .i64 r.j.region) ∧ W.cell? ⟨gr, 2, none⟩ = some (.int .u64 r.j.age) ∧ W.cell? ⟨gr, 3, none⟩ = some (.slice As r.j.snap.length cs) ∧ W.cell? ⟨gr, 4, none⟩ = some (.slice Ar r.j.recs.length cr) ∧ W.cell? ⟨gr, 5, none⟩ = some (.int .i64 r.j.fin) ∧ W.cell? ⟨gr, 6, none⟩ = some (.int .i64 r.left) ∧ W.cell? ⟨gr, 7, none⟩ = some (.bool r.ok) := by
  unfold RdrB at h
  refine ⟨?_, ?_, ?_, ?_, ?_, ?_, ?_, ?_⟩ <;> · rw [blk_cell h]; rfl
theorem RdrB.frozen {W : World} {gr gd : Nat} {As : Option Addr} {cs : Nat} {Ar : Option Addr} {cr : Nat} {r : Rr} (h : RdrB W gr gd As cs Ar cr r) (i : Nat) : W.frozen? ⟨gr, i, none⟩ = false := blk_frozen h i
/-- What a step of the reader may turn. -/
def RP (W : World) (B gr : Nat) (k : Nat) : Prop := k = gr ∨ (B ≤ k ∧ ∃ cs t z, W.heap[k]? = some (.cells cs t z) ∧ (t = 5 ∨ t = 32))
theorem RdrAt.below [Pl] {W W' : World} {B gr gd : Nat} {r : Rr} (h : RdrAt W B gr gd r) (hb : Below W.heap.size W W') : RdrAt W' B gr gd r := by
  obtain ⟨h0, As, cs, Ar, cr, os, h1, h2, h3, h4⟩ := h
  exact ⟨h0, As, cs, Ar, cr, os, blk_belowX h1 hb, Kd.R_below h2 hb, Kd.R_below h3 hb, h4.below hb⟩
theorem RdrAt.lies [Pl] {W W' : World} {B B' gr gd : Nat} {r : Rr} (h : RdrAt W B gr gd r) (hb : Lies B' W W') : RdrAt W' B gr gd r := by
  obtain ⟨h0, As, cs, Ar, cr, os, h1, h2, h3, h4⟩ := h
  exact ⟨h0, As, cs, Ar, cr, os, hb.blk h1, hb.R h2, hb.R h3, h4.imp (fun A l hr => hb.Rd hr)⟩
theorem RdrAt.lt [Pl] {W : World} {B gr gd : Nat} {r : Rr} (h : RdrAt W B gr gd r) : gr < W.heap.size := by
  obtain ⟨h0, As, cs, Ar, cr, os, h1, _⟩ := h
  exact lt_of_some h1
/-- A step that turns one block of another kind. -/
theorem RdrAt.oth [Pl] {W W' : World} {B gr gd g t : Nat} {r : Rr} {cs : Array Value} (h : RdrAt W B gr gd r) (hg : W.heap[g]? = some (.cells cs t (0, 0))) (h8 : 5 ≠ t) (h9 : 32 ≠ t) (hne : gr ≠ g) (ho : Oth g W W') : RdrAt W' B gr gd r := by
  obtain ⟨h0, As, cs, Ar, cr, os, h1, h2, h3, h4⟩ := h
  exact ⟨h0, As, cs, Ar, cr, os, ho.blk h1 hne, R_oth h2 hg (by intro q hq; simp [Kd.int, Kd.scalar] at hq; rw [hq]; exact h8) ho, R_oth h3 hg (by intro q hq; simp [KSl, Kd.scalar] at hq; rw [hq]; exact h9) ho, h4.imp (fun A l hr => hr.oth hg h8 ho)⟩
theorem RdrAt.inn [Pl] {W W' : World} {B gr gd gi : Nat} {r : Rr} {s : List Int × Int} (hr : RdrAt W B gr gd r) (h : InAt W gi s) (hne : gr ≠ gi) (ho : Oth gi W W') : RdrAt W' B gr gd r := by
  obtain ⟨_, A, c, h1, _⟩ := h
  exact hr.oth h1 (by decide) (by decide) hne ho
theorem InLeft_eq (g : Nat) (s : List Int × Int) (n : Nat) (w : World) (hn : s.1.length = n) (h : InAt w g s) : Calls Try.prog 78 #[.pointer (some ⟨g, 0, none⟩)] w fun e w' => e = .returned (.int .i64 n) ∧ w = w' := by
  subst hn; exact InLeft_calls g s w h
theorem InErr_eq (g : Nat) (s : List Int × Int) (e2 : Int) (w : World) (hn : s.2 = e2) (h : InAt w g s) : Calls Try.prog 77 #[.pointer (some ⟨g, 0, none⟩)] w fun e w' => e = .returned (.int .i64 e2) ∧ w = w' := by
  subst hn; exact InErr_calls g s w h
set_option maxHeartbeats 3200000 in
theorem first_calls [Pl] (gr gd B : Nat) (r : Rr) (k : Int) (A : Option Addr) (c : Nat) (b : List Int) (W : World) (h : RdrAt W B gr gd r) (hC : Rd W A b) (hc : b.length ≤ c) (hl : b.length ≤ 1000000) (hB : Bts b) :
    Calls Try.prog 68 #[.pointer (some ⟨gr, 0, none⟩), .agg #[.int .i64 k, .slice A b.length c]] W fun e W' => e = .returned (.bool (firstR r k b).2) ∧ RdrAt W' B gr gd (firstR r k b).1 ∧ But (fun i => i = gr) W W' := by
  obtain ⟨s, hs⟩ : ∃ s, takeU (b, 0) = s := ⟨_, rfl⟩
  obtain ⟨t, ht⟩ : ∃ t, takeU s.1 = t := ⟨_, rfl⟩
  have hF : firstR r k b = if k ≠ 1 ∨ t.1.2 ≠ 0 ∨ 0 < t.1.1.length ∨ s.2 = 0 ∨ t.2 > 1048576 then (r, false) else (⟨{ r.j with age := s.2 }, t.2, r.ok⟩, true) := by
    unfold firstR; simp only [hs, ht]
  have hgl := h.lt
  have hs1 : s.1.1.length ≤ 1000000 := by rw [← hs]; have := takeU_len (b, 0); simp only at this; omega
  have H := Aside0.mk (And.intro h (And.intro hC (And.intro hB (And.intro hs (And.intro ht hF)))))
  clear h hC hB hs ht hF
  go_enter Try.func68, Try.ntmps68
  go_wp2_with (fail)
  have hx1 : (W.alloc (.cells #[.int .i64 k, .slice A b.length c] 72)).heap[W.heap.size]? = some (.cells #[.int .i64 k, .slice A b.length c] 72 (0, 0)) := blk_new W _
  have hb1 : Below W.heap.size W (W.alloc (.cells #[.int .i64 k, .slice A b.length c] 72)) := below_alloc (Below.refl _ _) _
  generalize W.alloc (.cells #[.int .i64 k, .slice A b.length c] 72) = w1 at *
  refine (From_calls A c b _ (H.out.2.1.below hb1).1 hc hl H.out.2.2.1).mono ?_
  rintro e w2 ⟨gi, rfl, hgi, hi2, hb2⟩
  have hU := InUint_calls gi (b, 0) w2 hi2 hl
  rw [H.out.2.2.2.1] at hU
  have h12 := hb1.size
  have hlw := lt_of_some hx1
  have hne : gr ≠ gi := by omega
  have hne2 : W.heap.size ≠ gi := by omega
  have H2 := Aside0.mk (And.intro hi2 (And.intro (blk_belowX hx1 hb2) (And.intro ((H.out.1.below hb1).below hb2) (below_step hb1 hb2))))
  have HU := Aside0.mk hU
  have h2s := hb2.size
  clear hi2 hx1 hb1 hb2 hU
  go_wp2_with (fail)
  refine HU.out.mono ?_
  rintro e w3 ⟨rfl, hi3, ho3⟩
  have hU := InUint_calls gi s.1 w3 hi3 hs1
  rw [H.out.2.2.2.2.1] at hU
  have H3 := Aside0.mk (And.intro hi3 (And.intro (ho3.blk H2.out.2.1 hne2) (And.intro (H2.out.2.2.1.inn H2.out.1 hne ho3) (ho3.below H2.out.2.2.2 (by omega)))))
  have HU3 := Aside0.mk hU
  clear hi3 ho3 hU HU H2
  go_wp2_with (fail)
  refine HU3.out.mono ?_
  rintro e w4 ⟨rfl, hi4, ho4⟩
  have H4 := Aside0.mk (And.intro hi4 (And.intro (ho4.blk H3.out.2.1 hne2) (And.intro (H3.out.2.2.1.inn H3.out.1 hne ho4) (ho4.below H3.out.2.2.2 (by omega)))))
  clear hi4 ho4 HU3 H3
  have d0 : w4.cell? ⟨W.heap.size, 0, none⟩ = some (.int .i64 k) := (blk_cell H4.out.2.1 0).trans rfl
  obtain ⟨⟨b1, e1⟩, age⟩ := s
  obtain ⟨⟨b2, e2⟩, n⟩ := t
  have hF := H.out.2.2.2.2.2
  simp only at hF
  obtain ⟨n2, hn2⟩ : ∃ m, b2.length = m := ⟨_, rfl⟩
  rw [hn2] at hF
  have HN2 := Lib.hid hn2
  clear hn2
  by_cases c1 : k = 1
  · have a1 : (k != 1) = false := by rw [bne_eq_false_iff_eq]; exact c1
    by_cases c2 : e2 = 0
    · have a2 : (e2 != 0) = false := by rw [bne_eq_false_iff_eq]; exact c2
      by_cases c3 : 0 < n2
      · rw [if_pos (by simp [c3])] at hF
        have a3 : decide ((0 : Int) < (n2 : Int)) = true := decide_eq_true (by omega)
        have a3' : decide (0 < n2) = true := decide_eq_true c3
        have HF := Lib.hid hF
        clear c1 c2 c3 hF
        go_wp2_with (first
          | (go_at_call 77; refine (InErr_eq gi _ e2 _ rfl H4.out.1).mono ?_; rintro e w' ⟨rfl, rfl⟩)
          | (go_at_call 78; refine (InLeft_eq gi _ n2 _ HN2.out H4.out.1).mono ?_; rintro e w' ⟨rfl, rfl⟩))
        go_ret
        exact ⟨by rw [HF.out]; rfl, by rw [HF.out]; exact H4.out.2.2.1, .of_below H4.out.2.2.2⟩
      · have a3 : decide ((0 : Int) < (n2 : Int)) = false := decide_eq_false (by omega)
        have a3' : decide (0 < n2) = false := decide_eq_false c3
        by_cases c4 : age = 0
        · rw [if_pos (by simp [c4])] at hF
          have a4 : (age == 0) = true := by rw [beq_iff_eq]; exact c4
          have HF := Lib.hid hF
          clear c1 c2 c3 c4 hF
          go_wp2_with (first
            | (go_at_call 77; refine (InErr_eq gi _ e2 _ rfl H4.out.1).mono ?_; rintro e w' ⟨rfl, rfl⟩)
            | (go_at_call 78; refine (InLeft_eq gi _ n2 _ HN2.out H4.out.1).mono ?_; rintro e w' ⟨rfl, rfl⟩))
          go_ret
          exact ⟨by rw [HF.out]; rfl, by rw [HF.out]; exact H4.out.2.2.1, .of_below H4.out.2.2.2⟩
        · have a4 : (age == 0) = false := by rw [beq_eq_false_iff_ne]; exact c4
          by_cases c5 : 1048576 < n
          · rw [if_pos (by simp [c5])] at hF
            have a5 : decide (1048576 < n) = true := decide_eq_true c5
            have HF := Lib.hid hF
            clear c1 c2 c3 c4 c5 hF
            go_wp2_with (first
              | (go_at_call 77; refine (InErr_eq gi _ e2 _ rfl H4.out.1).mono ?_; rintro e w' ⟨rfl, rfl⟩)
              | (go_at_call 78; refine (InLeft_eq gi _ n2 _ HN2.out H4.out.1).mono ?_; rintro e w' ⟨rfl, rfl⟩))
            go_ret
            exact ⟨by rw [HF.out]; rfl, by rw [HF.out]; exact H4.out.2.2.1, .of_below H4.out.2.2.2⟩
          · rw [if_neg (by simp [c1, c2, c4]; omega)] at hF
            have a5 : decide (1048576 < n) = false := decide_eq_false c5
            have HF := Lib.hid hF
            have hn0 : 0 ≤ n := by have := takeU_nonneg (b1, e1); rw [H.out.2.2.2.2.1] at this; exact this
            have hn1 : n ≤ 1048576 := by omega
            clear c1 c2 c3 c4 c5 hF
            obtain ⟨q0, As, cs, Ar, cr, os, q1, q2, q3, q4⟩ := H4.out.2.2.1
            obtain ⟨z0, z1, z2, z3, z4, z5, z6, z7⟩ := q1.cells
            have f2 := q1.frozen 2
            have f6 := q1.frozen 6
            have hg4 : gr < w4.heap.size := lt_of_some q1
            have HQ := Aside0.mk (And.intro q0 (And.intro q1 (And.intro q2 (And.intro q3 q4))))
            clear q0 q1 q2 q3 q4 z0 z1 z3 z4 z5 z7
            go_wp2_with (first
              | (go_at_call 77; refine (InErr_eq gi _ e2 _ rfl H4.out.1).mono ?_; rintro e w' ⟨rfl, rfl⟩)
              | (go_at_call 78; refine (InLeft_eq gi _ n2 _ HN2.out H4.out.1).mono ?_; rintro e w' ⟨rfl, rfl⟩))
            go_ret
            have ho : Oth gr w4 ((w4.setCell ⟨gr, 2, none⟩ (.int .u64 age)).setCell ⟨gr, 6, none⟩ (.int .i64 n)) := (Oth.set w4 ⟨gr, 2, none⟩ _).trans (Oth.set _ ⟨gr, 6, none⟩ _)
            obtain ⟨q0, q1, q2, q3, q4⟩ := HQ.out
            refine ⟨by rw [HF.out]; rfl, ?_, (But.of_below H4.out.2.2.2).then (But.of_oth (P := fun i => i = gr) ho rfl) (fun i _ hi => hi)⟩
            rw [HF.out]
            exact ⟨q0, As, cs, Ar, cr, os, blk_put (blk_put q1 2 _ rfl) 6 _ rfl, R_oth q2 q1 (by decide) ho, R_oth q3 q1 (by decide) ho, q4.imp (fun A l hr => hr.oth q1 (by decide) ho)⟩
    · rw [if_pos (by simp [c2])] at hF
      have a2 : (e2 != 0) = true := by rw [bne_iff_ne]; exact c2
      have HF := Lib.hid hF
      clear c1 c2 hF
      go_wp2_with (first
        | (go_at_call 77; refine (InErr_eq gi _ e2 _ rfl H4.out.1).mono ?_; rintro e w' ⟨rfl, rfl⟩))
      go_ret
      exact ⟨by rw [HF.out]; rfl, by rw [HF.out]; exact H4.out.2.2.1, .of_below H4.out.2.2.2⟩
  · rw [if_pos (by simp [c1])] at hF
    have a1 : (k != 1) = true := by rw [bne_iff_ne]; exact c1
    have HF := Lib.hid hF
    clear c1 hF
    go_wp2
    go_ret
    exact ⟨by rw [HF.out]; rfl, by rw [HF.out]; exact H4.out.2.2.1, .of_below H4.out.2.2.2⟩
end Go.Proofs.Ytcgefilboefnpaa.H
/- journal.reader: take. -/
namespace Go.Proofs.Ytcgefilboefnpaa.H
open Go.RowKit Go.Proofs.YtcgefilboefnpaaW.PrintWords Go.Proofs.YtcgefilboefnpaaW.PrintLast Go.Proofs.YtcgefilboefnpaaW.PrintMore Go.Proofs.Ytcgefilboefnpaa.CrcM
set_option linter.unusedVariables false
set_option linter.unusedSimpArgs false

def TakePost [Pl] (gr gd B : Nat) (W : World) (x : Rr × Bool) (e : Ending) (W' : World) : Prop := e = .returned (.bool x.2) ∧ RdrAt W' B gr gd x.1 ∧ But (RP W B gr) W W'
theorem info_sl36 : (Try.prog.info? 32).map (fun i => (i.zero, i.size, i.bytes)) = some (some (.slice none 0 0), 1, 24) := by kernel_rfl
/-- The first frame. -/
theorem take_first [Pl] (gr gd B : Nat) (r : Rr) (k : Int) (A : Option Addr) (c : Nat) (b : List Int) (W : World) (h : RdrAt W B gr gd r) (hC : Rd W A b) (hc : b.length ≤ c) (hl : b.length ≤ 1000000) (hB : Bts b) (hleft : r.left < 0) :
    Calls Try.prog 55 #[.pointer (some ⟨gr, 0, none⟩), .agg #[.int .i64 k, .slice A b.length c]] W (TakePost gr gd B W (firstR r k b)) := by
  have b0 : decide (r.left < 0) = true := decide_eq_true hleft
  obtain ⟨q0, As, cs, Ar, cr, os, q1, q2, q3, q4⟩ := h
  obtain ⟨z0, z1, z2, z3, z4, z5, z6, z7⟩ := q1.cells
  have hgl : gr < W.heap.size := lt_of_some q1
  have H := Aside0.mk (And.intro (show RdrAt W B gr gd r from ⟨q0, As, cs, Ar, cr, os, q1, q2, q3, q4⟩) (And.intro hC hB))
  clear q0 q1 q2 q3 q4 hC hB z0 z1 z2 z3 z4 z5 z7 hleft
  go_enter Try.func55, Try.ntmps55
  go_wp2_with (fail)
  have hb1 : Below W.heap.size W (W.alloc (.cells #[.int .i64 k, .slice A b.length c] 72)) := below_alloc (Below.refl _ _) _
  refine (first_calls gr gd B r k A c b _ (H.out.1.below hb1) (H.out.2.1.below hb1) hc hl H.out.2.2).mono ?_
  rintro e w2 ⟨rfl, h2, hbut⟩
  have H2 := Aside0.mk (And.intro h2 ((But.of_below (P := RP W B gr) hb1).then hbut (fun i _ hi => .inl hi)))
  clear h2 hbut
  go_wp2
  go_ret
  exact ⟨rfl, H2.out⟩
/-- A record, or none. -/
theorem take_rec [Pl] (gr gd B : Nat) (r : Rr) (k : Int) (A : Option Addr) (c : Nat) (b : List Int) (W : World) (h : RdrAt W B gr gd r) (hC : Rd W A b) (hc : b.length ≤ c) (hleft : ¬ r.left < 0) (hok : r.ok = true) (hn : r.j.recs.length ≤ 1000000) (hBW : B ≤ W.heap.size) :
    Calls Try.prog 55 #[.pointer (some ⟨gr, 0, none⟩), .agg #[.int .i64 k, .slice A b.length c]] W (TakePost gr gd B W (if k = 4 then ({ r with j := { r.j with recs := r.j.recs ++ [b] } }, true) else (r, false))) := by
  have b0 : decide (r.left < 0) = false := decide_eq_false hleft
  obtain ⟨q0, As, cs, Ar, cr, os, q1, q2, q3, q4⟩ := h
  obtain ⟨z0, z1, z2, z3, z4, z5, z6, z7⟩ := q1.cells
  rw [hok] at z7
  have f4 := q1.frozen 4
  have hgl : gr < W.heap.size := lt_of_some q1
  obtain ⟨nr, hnr⟩ : ∃ n, r.j.recs.length = n := ⟨_, rfl⟩
  rw [hnr] at z4 hn q3
  have honr : os.length = nr := by rw [q4.1]; exact hnr
  have H := Aside0.mk (And.intro q0 (And.intro q1 (And.intro q2 (And.intro q3 (And.intro q4 (And.intro hC (And.intro hok (And.intro hnr honr))))))))
  clear q0 q1 q2 q3 q4 hC z0 z1 z2 z3 z5 hleft hok hnr honr
  by_cases hk : k = 4
  · rw [if_pos hk]
    have a1 : (k == 4) = true := by rw [beq_iff_eq]; exact hk
    clear hk
    go_enter Try.func55, Try.ntmps55
    go_wp2_with (fail)
    have hb1 : Below W.heap.size W (W.alloc (.cells #[.int .i64 k, .slice A b.length c] 72)) := below_alloc (Below.refl _ _) _
    have hx1 : (W.alloc (.cells #[.int .i64 k, .slice A b.length c] 72)).heap[W.heap.size]? = some (.cells #[.int .i64 k, .slice A b.length c] 72 (0, 0)) := blk_new W _
    generalize W.alloc (.cells #[.int .i64 k, .slice A b.length c] 72) = w1 at *
    have hw1 : w1.drew.heap = w1.heap := rfl
    have q1' := blk_belowX H.out.2.1 hb1
    have z4' : w1.cell? ⟨gr, 4, none⟩ = some (.slice Ar nr cr) := by rw [blk_cell q1']; exact (blk_cell H.out.2.1 4).symm.trans z4
    have g4' := blk_frozen q1' 4
    have zb : w1.cell? ⟨W.heap.size, 1, none⟩ = some (.slice A b.length c) := (blk_cell hx1 1).trans rfl
    have hgl1 : gr < w1.heap.size := lt_of_some q1'
    have hwl1 : W.heap.size < w1.heap.size := lt_of_some hx1
    have HQ := Aside0.mk (And.intro q1' (And.intro (Kd.R_drew (Kd.R_below H.out.2.2.2.1 hb1)) (And.intro hb1 hx1)))
    clear z4 f4 hw1 q1' hb1 hx1 z6 z7
    go_region_law
      ((refine Kd.R_append_step KSl B (by rfl) (.tmp 27) (.tmp 30) 36 32 (.slice none 0 0) 24 rfl Try.underlying36 info_sl36 rfl (by decide) (by omega) (.slice Ar nr cr) os (A, b.length, c) [.slice A b.length c] (fun _ => True) (fun _ => False) (by rfl) (by rfl) rfl (fun _ hk => hk.elim) (fun _ _ => trivial) HQ.out.2.1 (Below.refl _ _) ?s1 ?s2 ?_; (case s1 => exact Nat.le_trans hBW (by have := HQ.out.2.2.1.size; exact this)); (case s2 => rw [H.out.2.2.2.2.2.2.2.2]; omega); intro v8 w8 ho8 hb8 hg8 hat8; obtain ⟨A8, c8, e8⟩ := Kd.R_slice ho8; subst e8; rw [List.length_append, List.length_singleton, H.out.2.2.2.2.2.2.2.2] at ho8; have hx8 := blk_grown HQ.out.2.1 HQ.out.1 (by decide) hg8; have d8 : w8.cell? ⟨gr, 4, none⟩ = some (.slice Ar r.j.recs.length cr) := (blk_cell hx8 4).trans rfl; have f8 := blk_frozen hx8 4; have s8 := blk_lt hx8; have e8 : w8.cell? ⟨W.heap.size, 0, none⟩ = some (.int .i64 k) := (blk_cell (blk_grown HQ.out.2.1 HQ.out.2.2.2 (by decide) hg8) 0).trans rfl; have hsz8 : W.heap.size < w8.heap.size := blk_lt (blk_grown HQ.out.2.1 HQ.out.2.2.2 (by decide) hg8); have HO8 := Aside0.mk (And.intro ho8 (And.intro hg8 hx8)); clear ho8 hb8 hg8 hat8 hx8))
    all_goals
      go_wp2
      go_ret
      obtain ⟨j0, j1, j2, j3, j4, j5, j6, j7, j8⟩ := H.out
      obtain ⟨m1, m2, m3, m4⟩ := HQ.out
      obtain ⟨k1, k2d, k3⟩ := HO8.out
      have k2 : w1.grownBy w8 (Value.slice Ar nr cr).ownBlock := ⟨k2d.os, k2d.tape, k2d.output, k2d.size, k2d.block⟩
      rw [j8]
      have hoth : Oth gr w8 (w8.setCell ⟨gr, 4, none⟩ (.slice A8 (nr + 1) c8)) := Oth.set w8 ⟨gr, 4, none⟩ _
      have hbut : But (RP W B gr) W (w8.setCell ⟨gr, 4, none⟩ (.slice A8 (nr + 1) c8)) := by
        refine ((But.of_below (P := RP W B gr) m3).then (But.of_grown (P := fun i => some i = (Value.slice Ar nr cr).ownBlock) k2 (fun i hi => hi.symm)) (fun i hi h => ?_)).then (But.of_oth (P := fun i => i = gr) hoth rfl) (fun i _ h => .inl h)
        obtain ⟨_, ho'⟩ := Kd.R_own j3
        obtain ⟨cells, hc⟩ := own_typed ho' i h.symm
        exact .inr ⟨own_base ho' i h.symm, cells, _, _, hc, .inr rfl⟩
      have ht8 : ∀ (i : Nat) (cs : Array Value) (z : Nat × Nat), w1.heap[i]? = some (Obj.cells cs 5 z) → w8.heap[i]? = w1.heap[i]? := fun i cs z hi => k2.block i (lt_of_some hi) (fun e2 => by
        obtain ⟨_, ho'⟩ := Kd.R_own m2
        obtain ⟨cells, hc⟩ := own_typed ho' i e2.symm
        exact ne_block' hi hc (by decide) rfl)
      have hrd : ∀ A l, Rd W A l → Rd (w8.setCell ⟨gr, 4, none⟩ (.slice A8 (nr + 1) c8)) A l := fun A l hr => by
        have h1 := hr.below m3
        have h2 : Rd w8 A l := ⟨C_ty h1.2.1 h1.1 ht8, h1.2.1.of_ty ht8, Nat.le_trans h1.2.2.1 k2.size, h1.2.2.2⟩
        exact h2.oth k3 (by decide) hoth
      refine ⟨rfl, ⟨fun h => absurd h (by rw [j6]; simp), As, cs, A8, c8, os ++ [(A, b.length, c)], ?_, ?_, ?_, ?_⟩, hbut⟩
      · have := blk_put k3 4 (.slice A8 (nr + 1) c8) rfl
        unfold RdrB
        simp only [List.length_append, List.length_singleton, j7]
        exact this
      · exact R_oth (R_other (Kd.R_drew (Kd.R_below j2 m3)) m2 (by decide) k2d) k3 (by decide) hoth
      · simp only [List.length_append, List.length_singleton, j7]
        exact R_oth k1 k3 (by decide) hoth
      · exact (j4.imp hrd).snoc ⟨rfl, hc, hrd _ _ j5⟩
  · rw [if_neg hk]
    have a1 : (k == 4) = false := by rw [beq_eq_false_iff_ne]; exact hk
    clear hk
    go_enter Try.func55, Try.ntmps55
    go_wp2
    go_ret
    have hb1 : Below W.heap.size W (W.alloc (.cells #[.int .i64 k, .slice A b.length c] 72)) := below_alloc (Below.refl _ _) _
    obtain ⟨q0, q1, q2, q3, q4, _, _, hnr, _⟩ := H.out
    refine ⟨rfl, RdrAt.below ⟨q0, As, cs, Ar, cr, os, q1, q2, ?_, q4⟩ hb1, .of_below hb1⟩
    rw [hnr]; exact q3
/-- A piece. -/
theorem take_piece [Pl] (gr gd B : Nat) (r : Rr) (k : Int) (A : Option Addr) (c : Nat) (b : List Int) (W : World) (h : RdrAt W B gr gd r) (hC : Rd W A b) (hc : b.length ≤ c) (hleft : 0 < r.left) (hleft2 : r.left ≤ 1048576) (hok : r.ok = false) (hn : r.j.snap.length ≤ 1000000) (hl : b.length ≤ 1000000) (hBW : B ≤ W.heap.size) :
    Calls Try.prog 55 #[.pointer (some ⟨gr, 0, none⟩), .agg #[.int .i64 k, .slice A b.length c]] W (TakePost gr gd B W (⟨{ r.j with snap := r.j.snap ++ b }, r.left - 1, r.ok⟩, decide (k = 2 ∧ ((b.length : Int) = 4096 ∨ r.left - 1 = 0 ∧ 0 < b.length)))) := by
  have b0 : decide (r.left < 0) = false := decide_eq_false (by omega)
  have b1 : decide (0 < r.left) = true := decide_eq_true hleft
  obtain ⟨q0, As, cs, Ar, cr, os, q1, q2, q3, q4⟩ := h
  obtain ⟨z0, z1, z2, z3, z4, z5, z6, z7⟩ := q1.cells
  rw [hok] at z7
  have f3 := q1.frozen 3
  have f6 := q1.frozen 6
  have hgl : gr < W.heap.size := lt_of_some q1
  obtain ⟨ns, hns⟩ : ∃ n, r.j.snap.length = n := ⟨_, rfl⟩
  rw [hns] at z3 hn q2
  obtain ⟨bn, hbn⟩ : ∃ n, b.length = n := ⟨_, rfl⟩
  have hrecs := q0 hok
  obtain ⟨x, hx⟩ : ∃ x, decide (k = 2 ∧ ((b.length : Int) = 4096 ∨ r.left - 1 = 0 ∧ 0 < b.length)) = x := ⟨_, rfl⟩
  rw [hx]
  rw [hbn] at hx hc hl ⊢
  have H := Aside0.mk (And.intro q0 (And.intro q1 (And.intro q2 (And.intro q3 (And.intro q4 (And.intro hC (And.intro hok (And.intro hns (And.intro hbn (And.intro hrecs hx))))))))))
  clear q0 q1 q2 q3 q4 hC z0 z1 z2 z4 z5 hok hns hbn hx hrecs
  have hl1 : r.left - 1 ≤ 1048576 := by omega
  have hl0 : 0 ≤ r.left - 1 := by omega
  go_enter Try.func55, Try.ntmps55
  go_wp2_with (fail)
  have hb1 : Below W.heap.size W (W.alloc (.cells #[.int .i64 k, .slice A bn c] 72)) := below_alloc (Below.refl _ _) _
  have hx1 : (W.alloc (.cells #[.int .i64 k, .slice A bn c] 72)).heap[W.heap.size]? = some (.cells #[.int .i64 k, .slice A bn c] 72 (0, 0)) := blk_new W _
  generalize W.alloc (.cells #[.int .i64 k, .slice A bn c] 72) = w1 at *
  have q1' := blk_belowX H.out.2.1 hb1
  have z3' : w1.cell? ⟨gr, 3, none⟩ = some (.slice As ns cs) := by rw [blk_cell q1']; exact (blk_cell H.out.2.1 3).symm.trans z3
  have zb : w1.cell? ⟨W.heap.size, 1, none⟩ = some (.slice A bn c) := (blk_cell hx1 1).trans rfl
  have hgl1 : gr < w1.heap.size := lt_of_some q1'
  have hwl1 : W.heap.size < w1.heap.size := lt_of_some hx1
  have hCb := (H.out.2.2.2.2.2.1.below hb1).1
  rw [H.out.2.2.2.2.2.2.2.2.1] at hCb
  have HQ := Aside0.mk (And.intro q1' (And.intro (Kd.R_drew (Kd.R_below H.out.2.2.1 hb1)) (And.intro hb1 (And.intro hx1 (Kd.C_drew hCb)))))
  clear z3 f3 f6 q1' hb1 hx1 z6 z7 hCb
  go_region_law
    ((refine Kd.R_append_rows_step (Kd.int .u8) B (by rfl) (.tmp 49) (.tmp 51) 32 5 (.int .u8 0) 1 rfl Try.underlying32 info_u8 rfl (by decide) (by omega) (.slice As ns cs) r.j.snap b A bn c (fun _ => True) (fun _ => False) (by rfl) (by rfl) HQ.out.2.1 HQ.out.2.2.2.2 (fun _ _ h => h) (fun _ hk => hk.elim) (fun _ _ => trivial) (Below.refl _ _) ?s1 ?s2 ?_; (case s1 => exact Nat.le_trans hBW (by have := HQ.out.2.2.1.size; exact this)); (case s2 => rw [H.out.2.2.2.2.2.2.2.1]; omega); intro v8 w8 ho8 hb8 hg8 hat8; obtain ⟨A8, c8, e8⟩ := Kd.R_slice ho8; subst e8; rw [List.length_append, H.out.2.2.2.2.2.2.2.1, H.out.2.2.2.2.2.2.2.2.1] at ho8; have hx8 := blk_grown HQ.out.2.1 HQ.out.1 (by decide) hg8; have d8 : w8.cell? ⟨gr, 3, none⟩ = some (.slice As r.j.snap.length cs) := (blk_cell hx8 3).trans rfl; have f8 := blk_frozen hx8 3; have s8 := blk_lt hx8; have HO8 := Aside0.mk (And.intro ho8 (And.intro hg8 hx8)); clear ho8 hb8 hg8 hat8 hx8))
  all_goals
    rw [H.out.2.2.2.2.2.2.2.1, H.out.2.2.2.2.2.2.2.2.1]
    obtain ⟨j0, j1, j2, j3, j4, j5, j6, j7, j8, j9, j10⟩ := H.out
    obtain ⟨m1, m2, m3, m4, m5⟩ := HQ.out
    obtain ⟨k1, k2d, k3⟩ := HO8.out
    have k2 : w1.grownBy w8 (Value.slice As ns cs).ownBlock := ⟨k2d.os, k2d.tape, k2d.output, k2d.size, k2d.block⟩
    have k4 := blk_grown m2 m4 (by decide) k2d
    have hoth : Oth gr w8 (w8.setCell ⟨gr, 3, none⟩ (.slice A8 (ns + bn) c8)) := Oth.set w8 ⟨gr, 3, none⟩ _
    have hbut : But (RP W B gr) W (w8.setCell ⟨gr, 3, none⟩ (.slice A8 (ns + bn) c8)) := by
      refine ((But.of_below (P := RP W B gr) m3).then (But.of_grown (P := fun i => some i = (Value.slice As ns cs).ownBlock) k2 (fun i hi => hi.symm)) (fun i hi h => ?_)).then (But.of_oth (P := fun i => i = gr) hoth rfl) (fun i _ h => .inl h)
      obtain ⟨_, ho'⟩ := Kd.R_own j2
      obtain ⟨cells, hc⟩ := own_typed ho' i h.symm
      exact .inr ⟨own_base ho' i h.symm, cells, _, _, hc, .inl rfl⟩
    have hR9 := R_oth k1 k3 (by decide) hoth
    have hS9 := R_oth (R_other (Kd.R_drew (Kd.R_below j3 m3)) m2 (by decide) k2d) k3 (by decide) hoth
    have hq9 := blk_put k3 3 (.slice A8 (ns + bn) c8) rfl
    have hx9 := hoth.blk k4 (by omega)
    clear k1 k2 k2d k3 k4 m1 m2 m3 m4 m5 d8 f8 z3' zb HO8 HQ s8
    generalize w8.setCell ⟨gr, 3, none⟩ (.slice A8 (ns + bn) c8) = w9 at *
    have z6 : w9.cell? ⟨gr, 6, none⟩ = some (.int .i64 r.left) := (blk_cell hq9 6).trans rfl
    have g6 := blk_frozen hq9 6
    have e0 : w9.cell? ⟨W.heap.size, 0, none⟩ = some (.int .i64 k) := (blk_cell hx9 0).trans rfl
    have e1 : w9.cell? ⟨W.heap.size, 1, none⟩ = some (.slice A bn c) := (blk_cell hx9 1).trans rfl
    have hs1 : gr < w9.heap.size := lt_of_some hq9
    have hs2 : W.heap.size < w9.heap.size := lt_of_some hx9
    have ho2 : Oth gr w9 (w9.setCell ⟨gr, 6, none⟩ (.int .i64 (r.left - 1))) := Oth.set w9 ⟨gr, 6, none⟩ _
    have FIN : RdrAt (w9.setCell ⟨gr, 6, none⟩ (.int .i64 (r.left - 1))) B gr gd ⟨{ r.j with snap := r.j.snap ++ b }, r.left - 1, r.ok⟩ ∧ But (RP W B gr) W (w9.setCell ⟨gr, 6, none⟩ (.int .i64 (r.left - 1))) := by
      refine ⟨⟨j0, A8, c8, Ar, cr, os, ?_, ?_, R_oth hS9 hq9 (by decide) ho2, ?_⟩, hbut.then (But.of_oth (P := fun i => i = gr) ho2 rfl) (fun i _ h => .inl h)⟩
      · have := blk_put hq9 6 (.int .i64 (r.left - 1)) rfl
        unfold RdrB
        simp only [List.length_append, j7, j8]
        exact this
      · have := R_oth hR9 hq9 (by decide) ho2
        simp only [List.length_append, j7, j8]
        exact this
      · have h1 := j4.1
        simp only
        rw [j9] at h1 ⊢
        have h2 : os = [] := List.length_eq_zero_iff.1 h1
        rw [h2]
        exact SlsOf.nil _
    have HF := Aside0.mk FIN
    clear FIN ho2 hq9 hx9 hR9 hS9 hbut hoth j0 j1 j2 j3 j4 j5 j6 j7 j9
    by_cases c1 : k = 2
    · have a1 : (k == 2) = true := by rw [beq_iff_eq]; exact c1
      by_cases c2 : bn = 4096
      · have a2 : ((bn : Int) == 4096) = true := by rw [beq_iff_eq]; omega
        have hxt : x = true := by rw [← j10, decide_eq_true_iff]; exact ⟨c1, .inl (by omega)⟩
        subst hxt
        clear c1 c2 j8 j10
        go_wp2
        go_ret
        exact ⟨rfl, HF.out⟩
      · have a2 : ((bn : Int) == 4096) = false := by rw [beq_eq_false_iff_ne]; omega
        by_cases c3 : r.left - 1 = 0
        · have a3 : (r.left - 1 == 0) = true := by rw [beq_iff_eq]; exact c3
          by_cases c4 : 0 < bn
          · have a4 : decide ((0 : Int) < (bn : Int)) = true := decide_eq_true (by omega)
            have a5 : decide (0 < bn) = true := decide_eq_true c4
            have hxt : x = true := by rw [← j10, decide_eq_true_iff]; exact ⟨c1, .inr ⟨c3, by omega⟩⟩
            subst hxt
            clear c1 c2 c3 c4 j8 j10
            go_wp2
            go_ret
            exact ⟨rfl, HF.out⟩
          · have a4 : decide ((0 : Int) < (bn : Int)) = false := decide_eq_false (by omega)
            have a5 : decide (0 < bn) = false := decide_eq_false c4
            have hxt : x = false := by rw [← j10, decide_eq_false_iff_not]; rintro ⟨_, h | ⟨_, h⟩⟩ <;> omega
            subst hxt
            clear c1 c2 c3 c4 j8 j10
            go_wp2
            go_ret
            exact ⟨rfl, HF.out⟩
        · have a3 : (r.left - 1 == 0) = false := by rw [beq_eq_false_iff_ne]; exact c3
          have hxt : x = false := by rw [← j10, decide_eq_false_iff_not]; rintro ⟨_, h | ⟨h, _⟩⟩ <;> omega
          subst hxt
          clear c1 c2 c3 j8 j10
          go_wp2
          go_ret
          exact ⟨rfl, HF.out⟩
    · have a1 : (k == 2) = false := by rw [beq_eq_false_iff_ne]; exact c1
      have hxt : x = false := by rw [← j10, decide_eq_false_iff_not]; rintro ⟨h, _⟩; exact c1 h
      subst hxt
      clear c1 j8 j10
      go_wp2
      go_ret
      exact ⟨rfl, HF.out⟩
end Go.Proofs.Ytcgefilboefnpaa.H
/- journal.reader: take in all its kinds. -/
namespace Go.Proofs.Ytcgefilboefnpaa.H
open Go.RowKit Go.Proofs.YtcgefilboefnpaaW.PrintWords Go.Proofs.YtcgefilboefnpaaW.PrintLast Go.Proofs.YtcgefilboefnpaaW.PrintMore Go.Proofs.Ytcgefilboefnpaa.CrcM
set_option linter.unusedVariables false
set_option linter.unusedSimpArgs false

/-- The ready frame. -/
theorem take_ready [Pl] (gr gd B : Nat) (r : Rr) (k : Int) (A : Option Addr) (c : Nat) (b : List Int) (W : World) (h : RdrAt W B gr gd r) (hC : Rd W A b) (hc : b.length ≤ c) (hleft : r.left = 0) (hok : r.ok = false) :
    Calls Try.prog 55 #[.pointer (some ⟨gr, 0, none⟩), .agg #[.int .i64 k, .slice A b.length c]] W (TakePost gr gd B W ({ r with ok := decide (k = 3 ∧ b.length = 0) }, decide (k = 3 ∧ b.length = 0))) := by
  have b0 : decide (r.left < 0) = false := decide_eq_false (by omega)
  have b1 : decide (0 < r.left) = false := decide_eq_false (by omega)
  obtain ⟨q0, As, cs, Ar, cr, os, q1, q2, q3, q4⟩ := h
  obtain ⟨z0, z1, z2, z3, z4, z5, z6, z7⟩ := q1.cells
  rw [hok] at z7
  have f7 := q1.frozen 7
  have hgl : gr < W.heap.size := lt_of_some q1
  obtain ⟨bn, hbn⟩ : ∃ n, b.length = n := ⟨_, rfl⟩
  obtain ⟨x, hx⟩ : ∃ x, decide (k = 3 ∧ b.length = 0) = x := ⟨_, rfl⟩
  rw [hx]
  rw [hbn] at hx hc ⊢
  have hrecs := q0 hok
  have ho : Oth gr W (W.setCell ⟨gr, 7, none⟩ (.bool x)) := Oth.set W ⟨gr, 7, none⟩ _
  have hb1 : Below (W.setCell ⟨gr, 7, none⟩ (.bool x)).heap.size (W.setCell ⟨gr, 7, none⟩ (.bool x)) ((W.setCell ⟨gr, 7, none⟩ (.bool x)).alloc (.cells #[.int .i64 k, .slice A bn c] 72)) := below_alloc (Below.refl _ _) _
  have FIN : RdrAt ((W.setCell ⟨gr, 7, none⟩ (.bool x)).alloc (.cells #[.int .i64 k, .slice A bn c] 72)) B gr gd { r with ok := x } ∧ But (RP W B gr) W ((W.setCell ⟨gr, 7, none⟩ (.bool x)).alloc (.cells #[.int .i64 k, .slice A bn c] 72)) :=
    ⟨RdrAt.below ⟨fun _ => hrecs, As, cs, Ar, cr, os, blk_put q1 7 _ rfl, R_oth q2 q1 (by decide) ho, R_oth q3 q1 (by decide) ho, q4.imp (fun A l hr => hr.oth q1 (by decide) ho)⟩ hb1,
      (But.of_oth (P := RP W B gr) ho (.inl rfl)).trans (.of_below hb1)⟩
  have HF := Aside0.mk (And.intro FIN hx)
  clear FIN ho hb1 q0 q1 q2 q3 q4 hC z0 z1 z2 z3 z4 z5 hrecs hbn hx hok hleft
  by_cases c1 : k = 3
  · have a1 : (k == 3) = true := by rw [beq_iff_eq]; exact c1
    by_cases c2 : bn = 0
    · have a2 : ((bn : Int) == 0) = true := by rw [beq_iff_eq]; omega
      have a3 : (bn == 0) = true := by rw [beq_iff_eq]; omega
      have hxt : x = true := by rw [← HF.out.2, decide_eq_true_iff]; exact ⟨c1, c2⟩
      subst hxt
      clear c1 c2
      go_enter Try.func55, Try.ntmps55
      go_wp2
      go_ret
      exact ⟨rfl, HF.out.1⟩
    · have a2 : ((bn : Int) == 0) = false := by rw [beq_eq_false_iff_ne]; omega
      have a3 : (bn == 0) = false := by rw [beq_eq_false_iff_ne]; omega
      have hxt : x = false := by rw [← HF.out.2, decide_eq_false_iff_not]; rintro ⟨_, h⟩; exact c2 h
      subst hxt
      clear c1 c2
      go_enter Try.func55, Try.ntmps55
      go_wp2
      go_ret
      exact ⟨rfl, HF.out.1⟩
  · have a1 : (k == 3) = false := by rw [beq_eq_false_iff_ne]; exact c1
    have hxt : x = false := by rw [← HF.out.2, decide_eq_false_iff_not]; rintro ⟨h, _⟩; exact c1 h
    subst hxt
    clear c1
    go_enter Try.func55, Try.ntmps55
    go_wp2
    go_ret
    exact ⟨rfl, HF.out.1⟩
theorem take_calls [Pl] (gr gd B : Nat) (r : Rr) (k : Int) (A : Option Addr) (c : Nat) (b : List Int) (W : World) (h : RdrAt W B gr gd r) (hC : Rd W A b) (hc : b.length ≤ c) (hl : b.length ≤ 1000000) (hB : Bts b) (hleft : r.left ≤ 1048576) (hn : r.j.recs.length ≤ 1000000) (hs : r.j.snap.length ≤ 1000000) (hBW : B ≤ W.heap.size) :
    Calls Try.prog 55 #[.pointer (some ⟨gr, 0, none⟩), .agg #[.int .i64 k, .slice A b.length c]] W (TakePost gr gd B W (takeR r k b)) := by
  unfold takeR
  by_cases h1 : r.left < 0
  · rw [if_pos h1]; exact take_first gr gd B r k A c b W h hC hc hl hB h1
  · rw [if_neg h1]
    by_cases h2 : r.ok = true
    · rw [if_pos h2]; exact take_rec gr gd B r k A c b W h hC hc h1 h2 hn hBW
    · rw [if_neg h2]
      have h2' : r.ok = false := by simpa using h2
      by_cases h3 : 0 < r.left
      · rw [if_pos h3]; exact take_piece gr gd B r k A c b W h hC hc h3 hleft h2' hs hl hBW
      · rw [if_neg h3]; exact take_ready gr gd B r k A c b W h hC hc (by omega) h2'
end Go.Proofs.Ytcgefilboefnpaa.H
