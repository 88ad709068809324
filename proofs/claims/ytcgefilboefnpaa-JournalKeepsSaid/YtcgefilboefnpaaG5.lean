/- Some texts of one seat in one file, in build order. -/
import Derived.Test.YtcgefilboefnpaaG4
import Derived.Test.YtcgefilboefnpaaG1
import Derived.RangeFuncLeaves
import Derived.RangeFuncCalls
import Derived.RangeFuncRecord
import Derived.RangeFuncIn
import Derived.RangeFuncWrites
import Derived.RangeFuncFrom
import Derived.OwnWalkIn
import Derived.Shelf.Abstract
import Derived.TacticsInMore
import Derived.LoopNIn
import Derived.LoopIn
import Derived.Laws.BitsLemmas
import Derived.Laws.Entries
/- Rows that lie elsewhere: from one Pl to another, and over a store into a block outside. -/
namespace Go.Proofs.Ytcgefilboefnpaa.H
open Go.RowKit Go.Proofs.YtcgefilboefnpaaW.PrintWords Go.Proofs.YtcgefilboefnpaaW.PrintLast Go.Proofs.YtcgefilboefnpaaW.PrintMore
set_option linter.unusedVariables false
set_option linter.unusedSimpArgs false

theorem Rd.conv {p q : Pl} {W W' : World} {A : Option Addr} {l : List Int} (h : @Rd p W A l) (hb : Below W.heap.size W W') (hq : q.lo ≤ W'.heap.size) (hP : ∀ k, k < W.heap.size → q.P k) : @Rd q W' A l :=
  ⟨Kd.C_below h.1 hb, h.2.1.below hb, hq, fun ad e => by
    obtain ⟨cs, z, hc⟩ := h.2.1 ad e
    exact hP _ (lt_of_some hc)⟩
theorem DevAt.conv {p q : Pl} {W W' : World} {g : Nat} {d : Dv} (h : @DevAt p W g d) (hb : Below W.heap.size W W') (hq : q.lo ≤ W'.heap.size) (hP : ∀ k, k < W.heap.size → q.P k) : @DevAt q W' g d := by
  obtain ⟨A0, c0, A1, c1, h1, h2, h3, h4, h5⟩ := h
  exact ⟨A0, c0, A1, c1, blk_belowX h1 hb, h2, h3, h4.conv hb hq hP, h5.conv hb hq hP⟩
theorem C_at {W W' : World} {k : IntKind} {A : Option Addr} {n : Nat} {xs : List Int} (hc : Kd.C (Kd.int k) W A n xs) (h : ∀ ad, A = some ad → W'.heap[ad.block]? = W.heap[ad.block]?) : Kd.C (Kd.int k) W' A n xs :=
  ⟨hc.1, hc.2.1, fun hn => by
    obtain ⟨ad, e, hr⟩ := hc.2.2 hn
    refine ⟨ad, e, fun j p hj => ?_⟩
    obtain ⟨c, hs, hR, hcell⟩ := hr j p hj
    refine ⟨c, hs, hR, fun i u hu => ?_⟩
    have h1 := hcell i u hu
    have hblk : (ad.add (j * (Kd.int k).sz + i)).block = ad.block := by unfold Addr.add; split <;> rfl
    exact (World.cell?_of_block (by rw [hblk]; exact h ad e)).trans h1⟩
/-- A row of another block than the one that turned. -/
theorem Rd.apart [Pl] {W W' : World} {A : Option Addr} {l : List Int} {b : Nat} (h : Rd W A l) (hb : ¬ Pl.P b) (ho : Oth b W W') : Rd W' A l := by
  have hk : ∀ ad, A = some ad → W'.heap[ad.block]? = W.heap[ad.block]? := fun ad e => by
    obtain ⟨cs, z, hc⟩ := h.2.1 ad e
    exact ho.block _ (lt_of_some hc) (fun e2 => hb (e2 ▸ h.2.2.2 ad e))
  refine ⟨C_at h.1 hk, fun ad e => ?_, Nat.le_trans h.2.2.1 ho.size, h.2.2.2⟩
  obtain ⟨cs, z, hc⟩ := h.2.1 ad e
  exact ⟨cs, z, (hk ad e).trans hc⟩
theorem DevAt.apart [Pl] {W W' : World} {g b : Nat} {d : Dv} (h : DevAt W g d) (hb : ¬ Pl.P b) (hg : g ≠ b) (ho : Oth b W W') : DevAt W' g d := by
  obtain ⟨A0, c0, A1, c1, h1, h2, h3, h4, h5⟩ := h
  exact ⟨A0, c0, A1, c1, ho.blk h1 hg, h2, h3, h4.apart hb ho, h5.apart hb ho⟩
/-- Rows within the capacity. -/
def Dv.room (d : Dv) : Prop := (d.a.length : Int) ≤ d.cap ∧ (d.b.length : Int) ≤ d.cap
end Go.Proofs.Ytcgefilboefnpaa.H
/- A range over a func: the iterator tells the round what lies at the values that it yields; the caller's boxes may lie wherever. -/
namespace Go.Proofs.Ytcgefilboefnpaa.H
open Go.RowKit Go.Proofs.YtcgefilboefnpaaW.PrintWords Go.Proofs.YtcgefilboefnpaaW.PrintLast Go.Proofs.YtcgefilboefnpaaW.PrintMore
set_option linter.unusedVariables false

theorem wide_fn (f : FuncId) : Fence.wide.fn f = True := eq_true trivial
theorem wide_depth : Fence.wide.depth = none := rfl

/-- Nothing below B, and no cells, have turned. -/
structure Lies (B : Nat) (W W' : World) : Prop where
  os : W'.os = W.os
  tape : W'.tape = W.tape
  output : W'.output = W.output
  size : W.heap.size ≤ W'.heap.size
  same : ∀ (k : Nat) (o : Obj), W.heap[k]? = some o → (k < B ∨ o.isCells = true) → W'.heap[k]? = some o

theorem Lies.refl (B : Nat) (W : World) : Lies B W W := ⟨rfl, rfl, rfl, Nat.le_refl _, fun _ _ h _ => h⟩
theorem Lies.trans {B : Nat} {X Y Z : World} (h : Lies B X Y) (k : Lies B Y Z) : Lies B X Z := ⟨k.os.trans h.os, k.tape.trans h.tape, k.output.trans h.output, Nat.le_trans h.size k.size, fun i o hi ho => k.same i o (h.same i o hi ho) ho⟩
theorem Lies.of_below {B : Nat} {W W' : World} (h : Below W.heap.size W W') : Lies B W W' := ⟨h.os, h.tape, h.output, h.size, fun k o hk _ => (h.block k (lt_of_some hk)).trans hk⟩
theorem Lies.put {B : Nat} {W : World} {l : Nat} {o : Obj} (hB : B ≤ l) (hl : W.heap[l]? = some o) (ho : o.isCells = false) (o' : Obj) : Lies B W (W.putObj l o') :=
  ⟨rfl, rfl, rfl, by simp, fun k p hk hp => by
    by_cases e : k = l
    · subst e
      rw [hl] at hk
      cases hk
      rcases hp with hp | hp
      · omega
      · rw [ho] at hp; cases hp
    · exact (World.putObj_heap_other e).trans hk⟩
theorem Lies.cell {B : Nat} {W W' : World} (h : Lies B W W') {a : Addr} {v : Value} (hc : W.cell? a = some v) : W'.cell? a = some v := by
  have hlt := World.block_lt_of_cell? W a hc
  obtain ⟨o, ho⟩ : ∃ o, W.heap[a.block]? = some o := ⟨_, Array.getElem?_eq_getElem hlt⟩
  have hcells : o.isCells = true := by
    unfold World.cell? at hc
    rw [ho] at hc
    cases o <;> simp_all [Obj.isCells]
  have h1 := h.same _ _ ho (.inr hcells)
  exact (World.cell?_of_block (h1.trans ho.symm)).trans hc
theorem Lies.blk {B : Nat} {W W' : World} (h : Lies B W W') {k : Nat} {cs : Array Value} {t : Nat} {z : Nat × Nat} (hb : W.heap[k]? = some (.cells cs t z)) : W'.heap[k]? = some (.cells cs t z) := h.same _ _ hb (.inr rfl)
theorem Lies.C {B : Nat} {W W' : World} (h : Lies B W W') {k : IntKind} {A : Option Addr} {n : Nat} {xs : List Int} (hc : Kd.C (Kd.int k) W A n xs) : Kd.C (Kd.int k) W' A n xs :=
  ⟨hc.1, hc.2.1, fun hn => by
    obtain ⟨ad, e, hr⟩ := hc.2.2 hn
    refine ⟨ad, e, fun j p hj => ?_⟩
    obtain ⟨c, hs, hR, hcell⟩ := hr j p hj
    exact ⟨c, hs, hR, fun i u hu => h.cell (hcell i u hu)⟩⟩
theorem Lies.below {B n : Nat} {w W W' : World} (h : Lies B W W') (hb : Below n w W) (hn : n ≤ B) (hw : n ≤ w.heap.size) : Below n w W' :=
  ⟨h.os.trans hb.os, h.tape.trans hb.tape, h.output.trans hb.output, Nat.le_trans hb.size h.size, fun k hk => by
    have h1 := hb.block k hk
    have hlt : k < w.heap.size := by omega
    obtain ⟨o, ho⟩ : ∃ o, w.heap[k]? = some o := ⟨_, Array.getElem?_eq_getElem hlt⟩
    rw [ho] at h1
    rw [ho]
    exact h.same _ _ h1 (.inl (by omega))⟩

/-- The blocks of Kb below n₀ lie as they lay. -/
def Kp (n₀ : Nat) (Kb : Nat → Prop) (A B : World) : Prop := A.heap.size ≤ B.heap.size ∧ ∀ k, k < n₀ → Kb k → B.heap[k]? = A.heap[k]?
theorem Kp.refl (n₀ : Nat) (Kb : Nat → Prop) (A : World) : Kp n₀ Kb A A := ⟨Nat.le_refl _, fun _ _ _ => rfl⟩
theorem Kp.trans {n₀ : Nat} {Kb : Nat → Prop} {A B C : World} (h : Kp n₀ Kb A B) (k : Kp n₀ Kb B C) : Kp n₀ Kb A C := ⟨Nat.le_trans h.1 k.1, fun i hi hk => (k.2 i hi hk).trans (h.2 i hi hk)⟩
theorem Kp.of_below {n₀ : Nat} {Kb : Nat → Prop} {A B : World} (h : Below A.heap.size A B) (hn : n₀ ≤ A.heap.size) : Kp n₀ Kb A B := ⟨h.size, fun k hk _ => h.block k (by omega)⟩
theorem Kp.put {n₀ : Nat} {Kb : Nat → Prop} {A : World} {l : Nat} (hl : n₀ ≤ l) (o : Obj) : Kp n₀ Kb A (A.putObj l o) := ⟨by simp, fun k hk _ => World.putObj_heap_other (by omega)⟩
theorem Kp.set {n₀ : Nat} {Kb : Nat → Prop} {A : World} {p : Addr} (hp : Kb p.block → n₀ ≤ p.block) (v : Value) : Kp n₀ Kb A (A.setCell p v) :=
  ⟨by show A.heap.size ≤ (A.heap.modify _ _).size; rw [Array.size_modify]; exact Nat.le_refl _, fun k hk hb => Below.heap_setCell A p v k (fun e => by subst e; have := hp hb; omega)⟩
theorem Kp.of_lies {n₀ B : Nat} {Kb : Nat → Prop} {A A' : World} (h : Lies B A A') (hn : n₀ ≤ B) (hA : n₀ ≤ A.heap.size) : Kp n₀ Kb A A' := ⟨h.size, fun k hk _ => by
  obtain ⟨o, ho⟩ : ∃ o, A.heap[k]? = some o := ⟨_, Array.getElem?_eq_getElem (by omega)⟩
  rw [ho]; exact h.same _ _ ho (.inl (by omega))⟩

theorem KeepsFrom.of_below {B : Nat} {W W' : World} (h : Below W.heap.size W W') : KeepsFrom B W W' := ⟨h.size, fun k o _ hk _ => (h.block k (lt_of_some hk)).trans hk⟩
theorem KeepsFrom.set (B : Nat) (W : World) (a : Addr) (v : Value) : KeepsFrom B W (W.setCell a v) := (KeepsOthers.setCell W a v).from B
/-- **AN ITERATOR's CONTRACT**: Y pre x vs W: what the iterator tells the round of the values vs that it yields as the element x behind pre, in the world of the call. -/
def SeqX {α : Type} (F : Fence) (n : Nat) (P : Program) (g : Nat) (lb : Array Value) (Y : List α → α → Array Value → World → Prop) (n₀ : Nat) (Kb : Nat → Prop) (S Sp : List α → Prop) (w : World) : Prop :=
  ∀ (l : Nat) (J Jx : List α → World → Prop) (W : World), Kp n₀ Kb w W →
    (∀ s A B, J s A → Below A.heap.size A B → J s B) → (∀ s A B, Jx s A → Below A.heap.size A B → Jx s B) →
    (∀ pre x vs W1, J pre W1 → Y pre x vs W1 → YieldAt F (n - 1) P l vs W1 fun e W' =>
      (e = .returned (.bool true) ∧ J (pre ++ [x]) W' ∧ Kp n₀ Kb W1 W') ∨ (e = .returned (.bool false) ∧ Jx (pre ++ [x]) W')) →
    J [] W →
    CallsIn F n P g (#[.func (.yield l) #[] #[]] ++ lb) W fun e W' => (∃ v, e = .returned v) ∧ ((∃ xs, S xs ∧ J xs W') ∨ (∃ pre, Sp pre ∧ Jx pre W'))

/-- How a round's body may be left. -/
def xPost {α : Type} (B n₀ : Nat) (Kb : Nat → Prop) (I : List α → World → Prop) (Ix : Code → List α → World → Prop) (xs : List α) (W Wb : World) : Exit → Act → World → Prop
  | .normal, _, W' => KeepsFrom B Wb W' ∧ Kp n₀ Kb W W' ∧ I xs W'
  | .ret, _, W' => KeepsFrom B Wb W' ∧ Ix .ret xs W'
  | .exit id, _, W' => KeepsFrom B Wb W' ∧ Ix (.exit id) xs W'
  | .goto _, _, _ => False
  | .panic _, _, _ => False
  | .outgrown, _, _ => False

/-- **THE STATEMENT 'for .. := range seq { body }' BY THAT CONTRACT.** -/
theorem rangeX {F : Fence} {n : Nat} {P : Program} {α : Type} {g : Operand} {ps : Array Tmp} {assign body : Code} {Q : Exit → Act → World → Prop} {a : Act} {w : World}
    (hro : F.round = none) (h1 : 1 ≤ n) {gf : Nat} {lb : Array Value} (hg : a.eval g = .func (.func gf) #[] lb) (hFg : F.fn gf) (eg : ∀ args w, (callFunc gf args).run P w = .ok (.enter gf args) w)
    {Y : List α → α → Array Value → World → Prop} {n₀ : Nat} {Kb : Nat → Prop} {S Sp : List α → Prop} (hseq : SeqX F (n - 1) P gf lb Y n₀ Kb S Sp w) (hn : n₀ ≤ w.heap.size)
    (hps : ∀ pre x vs W, Y pre x vs W → vs.size = ps.size)
    (I : List α → World → Prop) (Ix : Code → List α → World → Prop) (hI : ∀ s A B, I s A → Lies w.heap.size A B → I s B) (hIx : ∀ c s A B, Ix c s A → Lies w.heap.size A B → Ix c s B) (h0 : I [] w)
    (hround : ∀ (l : Nat) (pre : List α) (x : α) (vs : Array Value) (W : World), w.heap.size ≤ l → I pre W → Y pre x vs W → w.heap.size ≤ W.heap.size →
      assign.wpIn (F.inRound l) (n - 1 - 1) P (Exit.then (fun a' Wa => KeepsFrom w.heap.size W Wa ∧ Kp n₀ Kb W Wa ∧ ∀ Wb, Lies w.heap.size Wa Wb → body.wpIn (F.inRound l) (n - 1 - 1) P (xPost w.heap.size n₀ Kb I Ix (pre ++ [x]) Wb Wb) a' Wb) (fun _ _ _ => False))
        { tmps := (ps.zip vs).foldl (fun t (p, v) => t.setIfInBounds p v) a.tmps, defers := [] } W)
    (hdone : ∀ (D : Nat) (xs : List α) (W : World), w.heap.size ≤ D → S xs → I xs W → W.heap[D]? = some (.deferred (some [])) → Q .normal { a with defers := { target := .collected D, args := #[] } :: a.defers } W)
    (hstop : ∀ (D : Nat) (c : Code) (pre : List α) (W : World), w.heap.size ≤ D → Sp pre → Ix c pre W → W.heap[D]? = some (.deferred (some [])) → c.wpIn F n P Q { a with defers := { target := .collected D, args := #[] } :: a.defers } W) :
    (Code.rangeFunc g ps assign body).wpIn F n P Q a w := by
  refine wpIn_rangeFunc fun fn hfn => ?_
  rw [hro]
  obtain ⟨D, eD⟩ : ∃ D, D = w.heap.size := ⟨_, rfl⟩
  obtain ⟨rec, hrec⟩ : ∃ rec : LoopState → Option Code → Loop, rec = fun st pe => { state := st, pending := pe, fn, tmps := a.tmps, params := ps, assign, body, defers := D } := ⟨_, rfl⟩
  have hst : ∀ st pe, (rec st pe).state = st := fun _ _ => by rw [hrec]
  have hpe : ∀ st pe, (rec st pe).pending = pe := fun _ _ => by rw [hrec]
  have hre : ∀ st pe st', ({ rec st pe with state := st' } : Loop) = rec st' pe := fun _ _ _ => by rw [hrec]
  have hre2 : ∀ st pe st' pe', ({ rec st pe with state := st', pending := pe' } : Loop) = rec st' pe' := fun _ _ _ _ => by rw [hrec]
  have hbW : Below w.heap.size w ((w.alloc (.deferred (some []))).alloc (.loop (rec .ready none))) := ((Below.refl _ w).alloc (Nat.le_refl _) _).alloc (by simp) _
  have hL1 : ((w.alloc (.deferred (some []))).alloc (.loop (rec .ready none))).heap[D + 1]? = some (.loop (rec .ready none)) := by
    have := World.alloc_heap_new (w.alloc (.deferred (some []))) (.loop (rec .ready none)); rwa [World.size_alloc, ← eD] at this
  have hD1 : ((w.alloc (.deferred (some []))).alloc (.loop (rec .ready none))).heap[D]? = some (.deferred (some [])) := by
    rw [eD]; exact (Below.heap_alloc _ _ _ (by simp)).trans (World.alloc_heap_new w _)
  have hrun : (Instr.enterLoop fn a.tmps ps assign body none).run P w = .ok (D + 1, [{ target := .collected D, args := #[] }]) ((w.alloc (.deferred (some []))).alloc (.loop (rec .ready none))) := by
    rw [hrec, eD]; exact run_enterLoop_outer _ _ _ _ _
  have hI1 : I [] ((w.alloc (.deferred (some []))).alloc (.loop (rec .ready none))) := hI _ _ _ h0 (.of_below hbW)
  have hkp1 : Kp n₀ Kb w ((w.alloc (.deferred (some []))).alloc (.loop (rec .ready none))) := .of_below hbW hn
  generalize ((w.alloc (.deferred (some []))).alloc (.loop (rec .ready none))) = W1 at hbW hL1 hD1 hrun hI1 hkp1
  refine ⟨D + 1, [{ target := .collected D, args := #[] }], W1, { target := .fn (.func gf) lb, args := #[.func (.yield (D + 1)) #[] #[]] }, W1, gf,
    #[.func (.yield (D + 1)) #[] #[]] ++ lb, W1, hrun, ?_, ?_, ?_, fun _ => h1, ?_⟩
  · simp only [resolve, hg]
    simp [go_sem]
  · intro f' hf'
    simp [Target.leads] at hf'
    subst hf'
    exact hFg
  · simp [invoke, go_sem, eg]
  · refine (hseq (D + 1)
      (fun pre W => I pre W ∧ W.heap[D + 1]? = some (.loop (rec .ready none)) ∧ W.heap[D]? = some (.deferred (some [])))
      (fun pre W => ∃ c, Ix c pre W ∧ W.heap[D + 1]? = some (.loop (rec .done (some c))) ∧ W.heap[D]? = some (.deferred (some [])))
      W1 hkp1
      (fun s A B h hb => ⟨hI _ _ _ h.1 (.of_below hb), (hb.block _ (lt_of_some h.2.1)).trans h.2.1, (hb.block _ (lt_of_some h.2.2)).trans h.2.2⟩)
      (fun s A B ⟨c, h1, h2, h3⟩ hb => ⟨c, hIx _ _ _ _ h1 (.of_below hb), (hb.block _ (lt_of_some h2)).trans h2, (hb.block _ (lt_of_some h3)).trans h3⟩)
      ?_ ⟨hI1, hL1, hD1⟩).mono ?_
    · rintro pre x vs W ⟨hi, hl, hd⟩ hy
      have hrunY := run_yield (P := P) (args := vs) hl (by rw [hrec]; exact hps _ _ _ _ hy)
      rw [hrec] at hrunY
      refine ⟨fn, _, assign, body, hrunY, roundIn_of_wpIn hfn ?_⟩
      have hlt := lt_of_some hl
      refine wpIn_mono (hround (D + 1) pre x vs W (by omega) hi hy (by omega)) ?_
      rintro e a1 Wa hpa
      cases e with
      | normal =>
        obtain ⟨hk1, hk2, hk3⟩ := hpa
        have hla := hk1.same _ _ (by omega) hl rfl
        have hda := hk1.same _ _ (by omega) hd rfl
        refine ⟨_, run_beginRound hla (hst _ _), ?_⟩
        rw [hre]
        have hlies : Lies w.heap.size Wa (Wa.putObj (D + 1) (.loop (rec .busy none))) := .put (by omega) hla rfl _
        have hlb : (Wa.putObj (D + 1) (.loop (rec .busy none))).heap[D + 1]? = some (.loop (rec .busy none)) := World.putObj_heap_same (lt_of_some hla)
        have hdb : (Wa.putObj (D + 1) (.loop (rec .busy none))).heap[D]? = some (.deferred (some [])) := (World.putObj_heap_other (by omega)).trans hda
        have hkb : Kp n₀ Kb W (Wa.putObj (D + 1) (.loop (rec .busy none))) := hk2.trans (.put (by omega) _)
        have hbody := hk3 _ hlies
        generalize Wa.putObj (D + 1) (.loop (rec .busy none)) = Wb at hlb hdb hkb hbody
        refine wpIn_mono hbody ?_
        have fin : ∀ (jump : Option Code) (W3 : World), KeepsFrom w.heap.size Wb W3 →
            (Instr.endRound (D + 1) jump).run P W3 = .ok (.bool jump.isNone) (W3.putObj (D + 1) (.loop (rec (if jump.isNone then .ready else .done) jump))) ∧
            Lies w.heap.size W3 (W3.putObj (D + 1) (.loop (rec (if jump.isNone then .ready else .done) jump))) ∧
            (W3.putObj (D + 1) (.loop (rec (if jump.isNone then .ready else .done) jump))).heap[D + 1]? = some (.loop (rec (if jump.isNone then .ready else .done) jump)) ∧
            (W3.putObj (D + 1) (.loop (rec (if jump.isNone then .ready else .done) jump))).heap[D]? = some (.deferred (some [])) := fun jump W3 hk => by
          have hl3 := hk.same _ _ (by omega) hlb rfl
          have hd3 := hk.same _ _ (by omega) hdb rfl
          have := run_endRound (P := P) jump hl3
          rw [hre2] at this
          exact ⟨this, .put (by omega) hl3 rfl _, World.putObj_heap_same (lt_of_some hl3), (World.putObj_heap_other (by omega)).trans hd3⟩
        rintro e a3 W3 hp
        cases e with
        | normal =>
          obtain ⟨q1, q2, q3⟩ := hp
          obtain ⟨f1, f2, f3, f4⟩ := fin none W3 q1
          exact ⟨_, _, f1, .inl ⟨rfl, ⟨hI _ _ _ q3 f2, f3, f4⟩, (hkb.trans q2).trans (.put (by omega) _)⟩⟩
        | ret =>
          obtain ⟨q1, q3⟩ := hp
          obtain ⟨f1, f2, f3, f4⟩ := fin (some .ret) W3 q1
          exact ⟨_, _, f1, .inr ⟨rfl, .ret, hIx _ _ _ _ q3 f2, f3, f4⟩⟩
        | exit id =>
          obtain ⟨q1, q3⟩ := hp
          obtain ⟨f1, f2, f3, f4⟩ := fin (some (.exit id)) W3 q1
          exact ⟨_, _, f1, .inr ⟨rfl, .exit id, hIx _ _ _ _ q3 f2, f3, f4⟩⟩
        | goto t => exact hp.elim
        | panic ch => exact hp.elim
        | outgrown => exact hp.elim
      | ret => exact hpa.elim
      | exit id => exact hpa.elim
      | goto t => exact hpa.elim
      | panic ch => exact hpa.elim
      | outgrown => exact hpa.elim
    · rintro e W2 ⟨⟨v, rfl⟩, (⟨xs, hS, hi, hl, hd⟩ | ⟨pre, hSp, c, hi, hl, hd⟩)⟩
      · refine ⟨none, _, by have := run_endLoop (P := P) hl (by rw [hst]; simp); rw [hpe] at this; exact this, ?_⟩
        exact hdone D xs _ (by omega) hS (hI _ _ _ hi (.put (by omega) hl rfl _)) ((World.putObj_heap_other (by omega)).trans hd)
      · refine ⟨some c, _, by have := run_endLoop (P := P) hl (by rw [hst]; simp); rw [hpe] at this; exact this, ?_⟩
        exact hstop D c pre _ (by omega) hSp (hIx _ _ _ _ hi (.put (by omega) hl rfl _)) ((World.putObj_heap_other (by omega)).trans hd)
end Go.Proofs.Ytcgefilboefnpaa.H
/- Contracts of slices.Clone, Grow, Concat over bytes. Conditions: the argument is read as a list; its length is below the model's bound for what grows. -/
namespace Go.Proofs.Ytcgefilboefnpaa.H
open Go.RowKit Go.Proofs.YtcgefilboefnpaaW.PrintWords Go.Proofs.YtcgefilboefnpaaW.PrintLast Go.Proofs.YtcgefilboefnpaaW.PrintMore
set_option linter.unusedVariables false
set_option linter.unusedSimpArgs false

set_option maxHeartbeats 800000 in
theorem Grow_nil (n : Int) (w : World) (h0 : 0 ≤ n) (h1 : n ≤ 1000000) :
    Calls Try.prog 87 #[.slice none 0 0, .int .i64 n] w fun e w' => ∃ v0_ : Value, e = .returned v0_ ∧ Kd.R (Kd.int .u8) 5 w' w.heap.size (fun _ => True) v0_ [] ∧ Below w.heap.size w w' := by
  have b0 : decide (n < 0) = false := decide_eq_false (by omega)
  by_cases hz : n = 0
  · subst hz
    go_enter Try.func87, Try.ntmps87
    go_wp2
    go_ret
    exact ⟨_, rfl, Kd.R_nil _ _ _ _ _, Below.refl _ _⟩
  · have b1 : decide (0 < n) = true := decide_eq_true (by omega)
    obtain ⟨i0, hi0, _, hsz, _⟩ := info_parts info_u8
    have hcut0 := fun (W : World) => (print_take_of (P := Try.prog) (Value.int .u8) 0 32 5 .i64 Try.underlying32 hi0 hsz none 0 [] 0 (by omega) (by simp) (by simp)).1 W
    simp only [List.take_nil, List.length_nil] at hcut0
    clear hz
    go_enter Try.func87, Try.ntmps87
    go_wp2_with (first
      | ((with_reducible refine gate_builtin (b := .append) (xs := #[.tmp 20, .tmp 21]) rfl ?_); at_builtin; refine Kd.R_append_zeros (Kd.int .u8) (w0 := w) w.heap.size rfl (.tmp 20) (.tmp 21) 32 3 5 (.int .u8 0) 1 rfl Try.underlying32 Try.underlying3 info_u8 rfl (by decide) (by omega) _ ([] : List Int) 0 n (fun _ => True) rfl rfl rfl (fun _ _ => trivial) (Kd.R_nil _ _ _ _ _) h0 (Below.refl _ _) (Nat.le_refl _) ?aL ?_; (case aL => simp; omega); intro v7 w7 ho7 hb7 hg7 hat7; obtain ⟨A7, c7, e7⟩ := Kd.R_slice ho7; subst e7; have ho8 := Kd.R_take (m := 0) ho7 (Nat.zero_le _); have hcut := fun W => cut_to (P := Try.prog) 32 5 .i64 Try.underlying32 hi0 A7 ([] ++ List.replicate n.toNat (0:Int)).length c7 0 (by omega) (by omega) (Kd.R_reads' ho7).2.1 W; simp only [List.take_zero, Int.toNat_zero] at ho8 hcut; have HO8 := Aside0.mk ho8; have HB8 := Aside0.mk hb7; clear ho8 ho7 hb7 hg7 hat7))
    go_ret
    exact ⟨_, rfl, HO8.out, HB8.out⟩

set_option maxHeartbeats 1600000 in
theorem Concat_calls (A0 : Option Addr) (c0 : Nat) (l0 : List (List Int)) (w : World) (hr0 : Kd.C (Kd.slice 5 (Kd.int .u8)) w A0 l0.length l0) (hc0 : l0.length ≤ c0) (hl : l0.flatten.length ≤ 1000000) :
    Calls Try.prog 80 #[.slice A0 l0.length c0] w fun e w' => ∃ v0_ : Value, e = .returned v0_ ∧ Kd.R (Kd.int .u8) 5 w' w.heap.size (fun _ => True) v0_ l0.flatten ∧ Below w.heap.size w w' := by
  have HR0 := Aside0.mk hr0
  have hm : l0.length ≤ 9223372036854775807 := hr0.2.1
  clear hr0
  go_enter Try.func80, Try.ntmps80
  go_wp2
  go_loop [3, 11] (fun s i => ∃ k : Nat, k ≤ l0.length ∧ i = .int .i64 k ∧ s = .int .i64 (upLen l0 k)) (fun _ i => l0.length - (intOf i).toNat)
  case atStart => exact ⟨0, Nat.zero_le _, rfl, by rw [upLen_zero]; rfl⟩
  case round =>
    obtain ⟨k, hk, rfl, rfl⟩ := hrel
    have hu := upLen_le l0 k
    by_cases hlt : k < l0.length
    · have hs := upLen_succ l0 k hlt
      have hu' := upLen_le l0 (k + 1)
      obtain ⟨ad, A1, c1, e1, hcell, hle, _⟩ := at_slice HR0.out k hlt
      subst e1
      generalize (l0.getD k []).length = m at hs hcell hle
      have b1 : decide (k < l0.length) = true := decide_eq_true hlt
      have hb : upLen l0 k + m ≤ 1000000 := by omega
      have b2 : decide ((upLen l0 k : Int) + (m : Int) < 0) = false := decide_eq_false (by omega)
      have HS := Lib.hid hs
      clear hs
      go_wp2
      go_round
      case rel => exact ⟨k + 1, by omega, by go_num, by rw [HS.out]; go_num⟩
      case measure => simp [intOf]; omega
    · obtain rfl : k = l0.length := by omega
      have hfull : upLen l0 l0.length = l0.flatten.length := by simp [upLen]
      have hb : upLen l0 l0.length ≤ 1000000 := by omega
      have HF := Lib.hid hfull
      clear hlt hk hfull
      go_wp2_with (go_at_call 87; refine (Grow_nil _ _ (by omega) (by omega)).mono ?_; rintro e w1 ⟨v1, rfl, ho1, hb1⟩; have HO1 := Aside0.mk ho1; have HB1 := Aside0.mk hb1; clear ho1 hb1)
      go_loopw [6, 27] (fun v i wr => ∃ k : Nat, k ≤ l0.length ∧ i = .int .i64 k ∧ Aside0 (Kd.R (Kd.int .u8) 5 wr w.heap.size (fun _ => True) v ((l0.take k).flatten)) ∧ Aside0 (Below w.heap.size w wr)) (fun _ i _ => l0.length - (intOf i).toNat)
      case atStart => exact ⟨0, Nat.zero_le _, rfl, ⟨by simpa using HO1.out⟩, HB1⟩
      case round =>
        obtain ⟨k, hk, rfl, HO, HB⟩ := hrel
        by_cases hlt : k < l0.length
        · obtain ⟨ad, A2, c2, e2, hcell, hle, hin⟩ := at_slice (Kd.C_below HR0.out HB.out) k hlt
          subst e2
          have hs := upLen_succ l0 k hlt
          have hu := upLen_le l0 (k + 1)
          have ht := take_flatten_succ l0 k hlt
          have HIN := Aside0.mk hin
          clear hin
          generalize hx : l0.getD k [] = x at hs hcell hle HIN ht
          have hb2 : ((l0.take k).flatten).length + x.length ≤ 1000000 := by unfold upLen at hs hu; omega
          have HT := Lib.hid ht
          clear hs hu hx ht
          have b1 : decide (k < l0.length) = true := decide_eq_true hlt
          go_wp2_with ((with_reducible refine gate_builtin (b := .append) (xs := #[.tmp 31, .tmp 32]) rfl ?_); at_builtin; refine Kd.R_append_rows (Kd.int .u8) (w0 := w) w.heap.size rfl (.tmp 31) (.tmp 32) 32 5 (.int .u8 0) 1 rfl Try.underlying32 info_u8 rfl (by decide) (by omega) _ _ x _ _ _ (fun _ => True) (fun _ => False) rfl rfl HO.out HIN.out (fun _ _ h => h) (fun _ h => h.elim) (fun _ _ => trivial) HB.out HB.out.size ?aL ?_; (case aL => omega); intro v7 w7 ho7 hb7 hg7 hat7; have HO7 := Aside0.mk ho7; have HB7 := Aside0.mk hb7; clear ho7 hb7 hg7 hat7)
          go_roundw
          case rel => exact ⟨k + 1, by omega, by go_num, ⟨by rw [HT.out]; exact HO7.out⟩, HB7⟩
          case measure => simp [intOf]; omega
        · obtain rfl : k = l0.length := by omega
          go_wp2
          go_ret
          exact ⟨_, rfl, by simpa using HO.out, HB.out⟩

end Go.Proofs.Ytcgefilboefnpaa.H
/- Plain mathematics of the check sum: the register's turns, the table, the sum of bytes. No program. -/
namespace Go.Proofs.Ytcgefilboefnpaa.CrcM
open Go

def poly : BitVec 32 := 0x82F63B78#32
def stp (r : BitVec 32) : BitVec 32 := if r.getLsbD 0 then (r >>> 1) ^^^ poly else r >>> 1
def stps : Nat → BitVec 32 → BitVec 32
  | 0, r => r
  | k + 1, r => stp (stps k r)
def v32 (r : BitVec 32) : Int := (r.toNat : Int)
def tab (i : Nat) : BitVec 32 := stps 8 (BitVec.ofNat 32 i)
/-- The table's place of a byte: both are held against each other, as eight bits. -/
def xb (r : BitVec 32) (c : Int) : Nat := (bits .xor .u8 (v32 r % 256) c).toNat
def byt (r : BitVec 32) (c : Int) : BitVec 32 := tab (xb r c) ^^^ (r >>> 8)
def run (r : BitVec 32) (l : List Int) : BitVec 32 := l.foldl byt r
def ext (s : BitVec 32) (l : List Int) : BitVec 32 := ~~~ (run (~~~ s) l)

theorem v32_lo (r : BitVec 32) : 0 ≤ v32 r := Int.natCast_nonneg _
theorem v32_hi (r : BitVec 32) : v32 r < 4294967296 := by unfold v32; have := r.isLt; omega
theorem v32_ofNat (n : Nat) (h : n < 4294967296) : v32 (BitVec.ofNat 32 n) = n := by
  unfold v32; rw [BitVec.toNat_ofNat, Nat.mod_eq_of_lt (by omega)]

theorem bits32 (r : BitVec 32) : BitVec.ofInt 32 (v32 r) = r := by
  unfold v32; rw [BitVec.ofInt_natCast, BitVec.ofNat_toNat, BitVec.setWidth_eq]
theorem v32_ofInt (n : Int) (h0 : 0 ≤ n) (h1 : n < 4294967296) : v32 (BitVec.ofInt 32 n) = n := by
  obtain ⟨a, rfl⟩ := Int.eq_ofNat_of_zero_le h0
  rw [BitVec.ofInt_natCast]; exact v32_ofNat a (by omega)
theorem wrap_v32 (r : BitVec 32) : IntKind.u32.wrap (v32 r) = v32 r := by
  rw [IntKind.wrap_u32]; have := v32_lo r; have := v32_hi r; omega
theorem and_v32 (a b : BitVec 32) : bits .and .u32 (v32 a) (v32 b) = v32 (a &&& b) := by
  have h := wrap_v32 (a &&& b); unfold v32 at h; simp only [bits, IntKind.bits, bits32]; exact h
theorem xor_v32 (a b : BitVec 32) : bits .xor .u32 (v32 a) (v32 b) = v32 (a ^^^ b) := by
  have h := wrap_v32 (a ^^^ b); unfold v32 at h; simp only [bits, IntKind.bits, bits32]; exact h
theorem shr_v32 (a : BitVec 32) (k : Nat) : v32 a / (2 ^ k : Nat) = v32 (a >>> k) := by
  unfold v32; rw [BitVec.toNat_ushiftRight, Nat.shiftRight_eq_div_pow]; norm_cast

theorem lsb_and (r : BitVec 32) : bits .and .u32 (v32 r) 1 = if r.getLsbD 0 then 1 else 0 := by
  have h : (1 : Int) = v32 1#32 := rfl
  have h2 : r &&& 1#32 = if r.getLsbD 0 then 1#32 else 0#32 := by
    apply BitVec.eq_of_getLsbD_eq; intro i hi
    cases i with
    | zero => rw [BitVec.getLsbD_and]; cases h : r.getLsbD 0 <;> rfl
    | succ n => rw [BitVec.getLsbD_and]; cases h : r.getLsbD 0 <;> simp [BitVec.getLsbD_one]
  rw [h, and_v32, h2]
  cases r.getLsbD 0 <;> rfl
theorem xor_poly (r : BitVec 32) : bits .xor .u32 (v32 r / 2) 2197175160 = v32 ((r >>> 1) ^^^ poly) := by
  have h : (2197175160 : Int) = v32 poly := rfl
  have h2 := shr_v32 r 1
  rw [h, show (2 : Int) = ((2 ^ 1 : Nat) : Int) from rfl, h2, xor_v32]
theorem half (r : BitVec 32) : v32 r / (2 : Int) = v32 (r >>> 1) := shr_v32 r 1
theorem stp_odd (r : BitVec 32) (h : r.getLsbD 0 = true) : bits .xor .u32 (v32 r / 2) 2197175160 = v32 (stp r) := by rw [xor_poly, stp, if_pos h]
theorem stp_even (r : BitVec 32) (h : r.getLsbD 0 = false) : v32 r / 2 = v32 (stp r) := by have := half r; rw [this, stp, if_neg (by rw [h]; decide)]
theorem xb_int (r : BitVec 32) (c : Int) : bits .xor .u8 (v32 r % 256) c = (xb r c : Int) ∧ xb r c < 256 := by
  have h := IntKind.wrap_u8 (((BitVec.ofInt 8 (v32 r % 256)) ^^^ (BitVec.ofInt 8 c)).toNat : Int)
  have e : bits .xor .u8 (v32 r % 256) c = IntKind.u8.wrap (((BitVec.ofInt 8 (v32 r % 256)) ^^^ (BitVec.ofInt 8 c)).toNat : Int) := rfl
  unfold xb
  rw [e, h]
  omega
theorem byt_int (r : BitVec 32) (c : Int) : bits .xor .u32 (v32 (tab (xb r c))) (v32 r / 256) = v32 (byt r c) := by
  have h := shr_v32 r 8
  have h2 : v32 r / (256 : Int) = v32 (r >>> 8) := h
  rw [h2, xor_v32, byt]
theorem not_v32 (r : BitVec 32) : IntKind.u32.wrap (-1 - v32 r) = v32 (~~~ r) := by
  rw [IntKind.wrap_u32]; unfold v32; rw [BitVec.toNat_not]; have := r.isLt; omega
theorem flip_v32 (r : BitVec 32) : bits .xor .u32 IntKind.u32.max (v32 r) = v32 (~~~ r) := by
  have h : IntKind.u32.max = v32 (BitVec.allOnes 32) := by decide
  rw [h, xor_v32]
  congr 1
theorem run_snoc (r : BitVec 32) (l : List Int) (c : Int) : run r (l ++ [c]) = byt (run r l) c := by simp [run]

/-! ### Bit by bit -/
theorem stp_xor (a b : BitVec 32) : stp (a ^^^ b) = stp a ^^^ stp b := by
  unfold stp
  rw [BitVec.getLsbD_xor, BitVec.ushiftRight_xor_distrib]
  cases a.getLsbD 0 <;> cases b.getLsbD 0 <;> simp only [Bool.xor_false, Bool.xor_true, Bool.not_true, Bool.not_false, if_true, Bool.false_eq_true, if_false]
  · rw [BitVec.xor_assoc]
  · rw [BitVec.xor_assoc, BitVec.xor_assoc, BitVec.xor_comm poly]
  · rw [BitVec.xor_assoc, BitVec.xor_comm (b >>> 1) poly, ← BitVec.xor_assoc poly, BitVec.xor_self, BitVec.zero_xor]
theorem stps_xor (k : Nat) (a b : BitVec 32) : stps k (a ^^^ b) = stps k a ^^^ stps k b := by
  induction k with
  | zero => rfl
  | succ k ih => simp only [stps, ih, stp_xor]
theorem stps_zero (k : Nat) : stps k 0#32 = 0#32 := by
  induction k with
  | zero => rfl
  | succ k ih => rw [stps, ih]; rfl
theorem stps_add (j k : Nat) (r : BitVec 32) : stps (j + k) r = stps j (stps k r) := by
  induction j with
  | zero => rw [Nat.zero_add]; rfl
  | succ j ih => rw [Nat.succ_add, stps, ih]; rfl
/-- Where the lowest bits are 0 the turns are shifts. -/
theorem stps_low (k : Nat) (r : BitVec 32) (h : ∀ i, i < k → r.getLsbD i = false) : stps k r = r >>> k := by
  induction k with
  | zero => simp [stps]
  | succ k ih =>
    rw [stps, ih (fun i hi => h i (by omega)), stp, if_neg (by rw [BitVec.getLsbD_ushiftRight, Nat.add_zero, h k (by omega)]; decide), ← BitVec.shiftRight_add]
/-- The register after j bits of c. -/
def ser (r c : BitVec 32) (j : Nat) : BitVec 32 := stps j (r ^^^ c) ^^^ (c >>> j)
theorem ser_zero (r c : BitVec 32) : ser r c 0 = r := by
  simp only [ser, stps, BitVec.ushiftRight_zero]
  rw [BitVec.xor_assoc, BitVec.xor_self, BitVec.xor_zero]
theorem ser_lsb (r c : BitVec 32) (j : Nat) : (ser r c j).getLsbD 0 = ((stps j (r ^^^ c)).getLsbD 0 != c.getLsbD j) := by
  rw [ser, BitVec.getLsbD_xor, BitVec.getLsbD_ushiftRight, Nat.add_zero]
theorem ser_succ (r c : BitVec 32) (j : Nat) : ser r c (j + 1) = if (c.getLsbD j != (ser r c j).getLsbD 0) = true then ((ser r c j) >>> 1) ^^^ poly else (ser r c j) >>> 1 := by
  have hb : (c.getLsbD j != (ser r c j).getLsbD 0) = (stps j (r ^^^ c)).getLsbD 0 := by
    rw [ser_lsb]; cases (stps j (r ^^^ c)).getLsbD 0 <;> cases c.getLsbD j <;> rfl
  have hs : (ser r c j) >>> 1 = (stps j (r ^^^ c)) >>> 1 ^^^ c >>> (j + 1) := by
    rw [ser, BitVec.ushiftRight_xor_distrib, ← BitVec.shiftRight_add]
  rw [hb, hs]
  show stp (stps j (r ^^^ c)) ^^^ c >>> (j + 1) = _
  unfold stp
  cases (stps j (r ^^^ c)).getLsbD 0
  · simp only [Bool.false_eq_true, if_false]
  · simp only [if_true]
    rw [BitVec.xor_assoc, BitVec.xor_assoc, BitVec.xor_comm poly]
def c32 (c : Int) : BitVec 32 := BitVec.ofInt 32 c
theorem c32_toNat (c : Int) (h0 : 0 ≤ c) (h1 : c < 256) : (c32 c).toNat = c.toNat := by
  obtain ⟨n, rfl⟩ := Int.eq_ofNat_of_zero_le h0
  unfold c32; rw [BitVec.ofInt_natCast, BitVec.toNat_ofNat, Int.toNat_natCast, Nat.mod_eq_of_lt (by omega)]
theorem c32_shr (c : Int) (h0 : 0 ≤ c) (h1 : c < 256) (k : Nat) (hk : 8 ≤ k) : c32 c >>> k = 0#32 := by
  apply BitVec.eq_of_toNat_eq
  rw [BitVec.toNat_ushiftRight, c32_toNat c h0 h1, Nat.shiftRight_eq_div_pow]
  have : c.toNat < 2 ^ k := Nat.lt_of_lt_of_le (by omega : c.toNat < 2 ^ 8) (Nat.pow_le_pow_right (by decide) hk)
  rw [Nat.div_eq_of_lt this]; rfl
theorem ser_eight (r : BitVec 32) (c : Int) (h0 : 0 ≤ c) (h1 : c < 256) : ser r (c32 c) 8 = byt r c := by
  have hx : ((xb r c : Nat) : Int) = ((r.toNat % 256) ^^^ c.toNat : Nat) := by
    have := (xb_int r c).1
    rw [← this]
    have e1 : v32 r % 256 = ((r.toNat % 256 : Nat) : Int) := by unfold v32; omega
    obtain ⟨n, rfl⟩ := Int.eq_ofNat_of_zero_le h0
    rw [e1]
    have e2 : bits .xor .u8 ((r.toNat % 256 : Nat) : Int) (n : Int) = IntKind.u8.wrap (((BitVec.ofInt 8 ((r.toNat % 256 : Nat) : Int)) ^^^ (BitVec.ofInt 8 (n : Int))).toNat : Int) := rfl
    rw [e2, IntKind.wrap_u8, BitVec.ofInt_natCast, BitVec.ofInt_natCast, BitVec.toNat_xor, BitVec.toNat_ofNat, BitVec.toNat_ofNat, Int.toNat_natCast]
    have m1 : r.toNat % 256 % 2 ^ 8 = r.toNat % 256 := Nat.mod_eq_of_lt (by omega)
    have m2 : n % 2 ^ 8 = n := Nat.mod_eq_of_lt (by omega)
    rw [m1, m2]
    have : (r.toNat % 256) ^^^ n < 2 ^ 8 := Nat.xor_lt_two_pow (by omega) (by omega)
    omega
  have hxn : xb r c = (r.toNat % 256) ^^^ c.toNat := by exact_mod_cast hx
  rw [ser, c32_shr c h0 h1 8 (by omega), BitVec.xor_zero, byt, tab, hxn]
  -- the register is its low byte and the rest
  have hsp : r ^^^ c32 c = BitVec.ofNat 32 ((r.toNat % 256) ^^^ c.toNat) ^^^ (r >>> 8 <<< 8) := by
    apply BitVec.eq_of_getLsbD_eq
    intro i hi
    rw [BitVec.getLsbD_xor, BitVec.getLsbD_xor, BitVec.getLsbD_shiftLeft, BitVec.getLsbD_ofNat, Nat.testBit_xor]
    have e3 : (c32 c).getLsbD i = c.toNat.testBit i := by
      rw [← c32_toNat c h0 h1]; rfl
    have e4 : (r.toNat % 256).testBit i = (decide (i < 8) && r.getLsbD i) := by
      rw [show (256 : Nat) = 2 ^ 8 from rfl, Nat.testBit_mod_two_pow]; rfl
    rw [e3, e4]
    by_cases h8 : i < 8
    · simp [h8, hi]
    · have hc : c.toNat.testBit i = false := Nat.testBit_lt_two_pow (Nat.lt_of_lt_of_le (by omega : c.toNat < 2 ^ 8) (Nat.pow_le_pow_right (by decide) (by omega)))
      have e5 : (r >>> 8).getLsbD (i - 8) = r.getLsbD i := by rw [BitVec.getLsbD_ushiftRight]; congr 1; omega
      rw [hc, e5]
      simp [h8, hi]
  rw [hsp, stps_xor]
  congr 1
  rw [stps_low 8 _ (fun i hi => by rw [BitVec.getLsbD_shiftLeft]; simp [hi])]
  apply BitVec.eq_of_getLsbD_eq
  intro i hi
  rw [BitVec.getLsbD_ushiftRight, BitVec.getLsbD_shiftLeft]
  by_cases h : 8 + i < 32
  · have e : 8 + i - 8 = i := by omega
    rw [e]; simp [h]
  · simp [h]; rw [BitVec.getLsbD_of_ge]; omega
theorem bit_c (c : Int) (h0 : 0 ≤ c) (h1 : c < 256) (j : Nat) : bits .and .u32 (c / 2 ^ j % 4294967296) 1 = if (c32 c).getLsbD j then 1 else 0 := by
  have e : c / 2 ^ j % 4294967296 = v32 (c32 c >>> j) := by
    have h := shr_v32 (c32 c) j
    have hv : v32 (c32 c) = c := by unfold v32; rw [c32_toNat c h0 h1]; omega
    rw [hv] at h
    have hp : ((2 ^ j : Nat) : Int) = (2 : Int) ^ j := by simp
    rw [hp] at h
    have h2 := v32_lo (c32 c >>> j)
    have h3 := v32_hi (c32 c >>> j)
    rw [h]; omega
  rw [e, lsb_and, BitVec.getLsbD_ushiftRight, Nat.add_zero]
theorem neq_c (c : Int) (h0 : 0 ≤ c) (h1 : c < 256) (j : Nat) (q : BitVec 32) : (bits .and .u32 (c / 2 ^ j % 4294967296) 1 != bits .and .u32 (v32 q) 1) = ((c32 c).getLsbD j != q.getLsbD 0) := by
  rw [bit_c c h0 h1, lsb_and]
  cases (c32 c).getLsbD j <;> cases q.getLsbD 0 <;> rfl
theorem half_t (q : BitVec 32) : (v32 q).tdiv (2 : Int) % (4294967296 : Int) = v32 (q >>> 1) := by
  have h := half q
  have h0 := v32_lo q
  have e : (v32 q).tdiv (2 : Int) = v32 q / (2 : Int) := Int.tdiv_eq_ediv_of_nonneg h0
  rw [e, h]
  exact Int.emod_eq_of_lt (v32_lo _) (v32_hi _)
theorem half_tx (q : BitVec 32) : bits .xor .u32 ((v32 q).tdiv (2 : Int) % (4294967296 : Int)) (2197175160 : Int) = v32 (q >>> 1 ^^^ poly) := by
  rw [half_t, ← xor_poly, half]
theorem xor_all (q : BitVec 32) : bits .xor .u32 (v32 q) 4294967295 = v32 (~~~ q) := by
  have h : (4294967295 : Int) = v32 (BitVec.allOnes 32) := by decide
  rw [h, xor_v32, BitVec.xor_comm]
  congr 1
end Go.Proofs.Ytcgefilboefnpaa.CrcM
