/- Some texts of one seat in one file, in build order. -/
import Derived.Test.YtmcapemlfplcgaaDoorG1
import Derived.RangeFuncLeaves
import Derived.RangeFuncCalls
import Derived.RangeFuncRecord
import Derived.RangeFuncIn
import Derived.RangeFuncWrites
import Derived.RangeFuncFrom
import Derived.OwnWalkIn
import Derived.Shelf.Abstract
import Derived.TacticsInMore
import Derived.LoopNIn
import Derived.LoopIn
import Derived.Maps.AppendAt
/- A range over a func: the iterator tells the round what lies at the values that it yields; the caller's boxes may lie wherever. -/
namespace Go.Proofs.YtmcapemlfplcgaaDoor.H
open Go.RowKit Go.Proofs.YtmcapemlfplcgaaDoorW.PrintWords Go.Proofs.YtmcapemlfplcgaaDoorW.PrintLast Go.Proofs.YtmcapemlfplcgaaDoorW.PrintMore
set_option linter.unusedVariables false

theorem wide_fn (f : FuncId) : Fence.wide.fn f = True := eq_true trivial
theorem wide_depth : Fence.wide.depth = none := rfl

/-- Nothing below B, and no cells, have turned. -/
structure Lies (B : Nat) (W W' : World) : Prop where
  os : W'.os = W.os
  tape : W'.tape = W.tape
  output : W'.output = W.output
  size : W.heap.size ≤ W'.heap.size
  same : ∀ (k : Nat) (o : Obj), W.heap[k]? = some o → (k < B ∨ o.isCells = true) → W'.heap[k]? = some o

theorem Lies.refl (B : Nat) (W : World) : Lies B W W := ⟨rfl, rfl, rfl, Nat.le_refl _, fun _ _ h _ => h⟩
theorem Lies.trans {B : Nat} {X Y Z : World} (h : Lies B X Y) (k : Lies B Y Z) : Lies B X Z := ⟨k.os.trans h.os, k.tape.trans h.tape, k.output.trans h.output, Nat.le_trans h.size k.size, fun i o hi ho => k.same i o (h.same i o hi ho) ho⟩
theorem Lies.of_below {B : Nat} {W W' : World} (h : Below W.heap.size W W') : Lies B W W' := ⟨h.os, h.tape, h.output, h.size, fun k o hk _ => (h.block k (lt_of_some hk)).trans hk⟩
theorem Lies.put {B : Nat} {W : World} {l : Nat} {o : Obj} (hB : B ≤ l) (hl : W.heap[l]? = some o) (ho : o.isCells = false) (o' : Obj) : Lies B W (W.putObj l o') :=
  ⟨rfl, rfl, rfl, by simp, fun k p hk hp => by
    by_cases e : k = l
    · subst e
      rw [hl] at hk
      cases hk
      rcases hp with hp | hp
      · omega
      · rw [ho] at hp; cases hp
    · exact (World.putObj_heap_other e).trans hk⟩
theorem Lies.cell {B : Nat} {W W' : World} (h : Lies B W W') {a : Addr} {v : Value} (hc : W.cell? a = some v) : W'.cell? a = some v := by
  have hlt := World.block_lt_of_cell? W a hc
  obtain ⟨o, ho⟩ : ∃ o, W.heap[a.block]? = some o := ⟨_, Array.getElem?_eq_getElem hlt⟩
  have hcells : o.isCells = true := by
    unfold World.cell? at hc
    rw [ho] at hc
    cases o <;> simp_all [Obj.isCells]
  have h1 := h.same _ _ ho (.inr hcells)
  exact (World.cell?_of_block (h1.trans ho.symm)).trans hc
theorem Lies.blk {B : Nat} {W W' : World} (h : Lies B W W') {k : Nat} {cs : Array Value} {t : Nat} {z : Nat × Nat} (hb : W.heap[k]? = some (.cells cs t z)) : W'.heap[k]? = some (.cells cs t z) := h.same _ _ hb (.inr rfl)
theorem Lies.C {B : Nat} {W W' : World} (h : Lies B W W') {k : IntKind} {A : Option Addr} {n : Nat} {xs : List Int} (hc : Kd.C (Kd.int k) W A n xs) : Kd.C (Kd.int k) W' A n xs :=
  ⟨hc.1, hc.2.1, fun hn => by
    obtain ⟨ad, e, hr⟩ := hc.2.2 hn
    refine ⟨ad, e, fun j p hj => ?_⟩
    obtain ⟨c, hs, hR, hcell⟩ := hr j p hj
    exact ⟨c, hs, hR, fun i u hu => h.cell (hcell i u hu)⟩⟩
theorem Lies.below {B n : Nat} {w W W' : World} (h : Lies B W W') (hb : Below n w W) (hn : n ≤ B) (hw : n ≤ w.heap.size) : Below n w W' :=
  ⟨h.os.trans hb.os, h.tape.trans hb.tape, h.output.trans hb.output, Nat.le_trans hb.size h.size, fun k hk => by
    have h1 := hb.block k hk
    have hlt : k < w.heap.size := by omega
    obtain ⟨o, ho⟩ : ∃ o, w.heap[k]? = some o := ⟨_, Array.getElem?_eq_getElem hlt⟩
    rw [ho] at h1
    rw [ho]
    exact h.same _ _ h1 (.inl (by omega))⟩

/-- The blocks of Kb below n₀ lie as they lay. -/
def Kp (n₀ : Nat) (Kb : Nat → Prop) (A B : World) : Prop := A.heap.size ≤ B.heap.size ∧ ∀ k, k < n₀ → Kb k → B.heap[k]? = A.heap[k]?
theorem Kp.refl (n₀ : Nat) (Kb : Nat → Prop) (A : World) : Kp n₀ Kb A A := ⟨Nat.le_refl _, fun _ _ _ => rfl⟩
theorem Kp.trans {n₀ : Nat} {Kb : Nat → Prop} {A B C : World} (h : Kp n₀ Kb A B) (k : Kp n₀ Kb B C) : Kp n₀ Kb A C := ⟨Nat.le_trans h.1 k.1, fun i hi hk => (k.2 i hi hk).trans (h.2 i hi hk)⟩
theorem Kp.of_below {n₀ : Nat} {Kb : Nat → Prop} {A B : World} (h : Below A.heap.size A B) (hn : n₀ ≤ A.heap.size) : Kp n₀ Kb A B := ⟨h.size, fun k hk _ => h.block k (by omega)⟩
theorem Kp.put {n₀ : Nat} {Kb : Nat → Prop} {A : World} {l : Nat} (hl : n₀ ≤ l) (o : Obj) : Kp n₀ Kb A (A.putObj l o) := ⟨by simp, fun k hk _ => World.putObj_heap_other (by omega)⟩
theorem Kp.set {n₀ : Nat} {Kb : Nat → Prop} {A : World} {p : Addr} (hp : Kb p.block → n₀ ≤ p.block) (v : Value) : Kp n₀ Kb A (A.setCell p v) :=
  ⟨by show A.heap.size ≤ (A.heap.modify _ _).size; rw [Array.size_modify]; exact Nat.le_refl _, fun k hk hb => Below.heap_setCell A p v k (fun e => by subst e; have := hp hb; omega)⟩
theorem Kp.of_lies {n₀ B : Nat} {Kb : Nat → Prop} {A A' : World} (h : Lies B A A') (hn : n₀ ≤ B) (hA : n₀ ≤ A.heap.size) : Kp n₀ Kb A A' := ⟨h.size, fun k hk _ => by
  obtain ⟨o, ho⟩ : ∃ o, A.heap[k]? = some o := ⟨_, Array.getElem?_eq_getElem (by omega)⟩
  rw [ho]; exact h.same _ _ ho (.inl (by omega))⟩

theorem KeepsFrom.of_below {B : Nat} {W W' : World} (h : Below W.heap.size W W') : KeepsFrom B W W' := ⟨h.size, fun k o _ hk _ => (h.block k (lt_of_some hk)).trans hk⟩
theorem KeepsFrom.set (B : Nat) (W : World) (a : Addr) (v : Value) : KeepsFrom B W (W.setCell a v) := (KeepsOthers.setCell W a v).from B
/-- **AN ITERATOR's CONTRACT**: Y pre x vs W: what the iterator tells the round of the values vs that it yields as the element x behind pre, in the world of the call. -/
def SeqX {α : Type} (F : Fence) (n : Nat) (P : Program) (g : Nat) (lb : Array Value) (Y : List α → α → Array Value → World → Prop) (n₀ : Nat) (Kb : Nat → Prop) (S Sp : List α → Prop) (w : World) : Prop :=
  ∀ (l : Nat) (J Jx : List α → World → Prop) (W : World), Kp n₀ Kb w W →
    (∀ s A B, J s A → Below A.heap.size A B → J s B) → (∀ s A B, Jx s A → Below A.heap.size A B → Jx s B) →
    (∀ pre x vs W1, J pre W1 → Y pre x vs W1 → YieldAt F (n - 1) P l vs W1 fun e W' =>
      (e = .returned (.bool true) ∧ J (pre ++ [x]) W' ∧ Kp n₀ Kb W1 W') ∨ (e = .returned (.bool false) ∧ Jx (pre ++ [x]) W')) →
    J [] W →
    CallsIn F n P g (#[.func (.yield l) #[] #[]] ++ lb) W fun e W' => (∃ v, e = .returned v) ∧ ((∃ xs, S xs ∧ J xs W') ∨ (∃ pre, Sp pre ∧ Jx pre W'))

/-- How a round's body may be left. -/
def xPost {α : Type} (B n₀ : Nat) (Kb : Nat → Prop) (I : List α → World → Prop) (Ix : Code → List α → World → Prop) (xs : List α) (W Wb : World) : Exit → Act → World → Prop
  | .normal, _, W' => KeepsFrom B Wb W' ∧ Kp n₀ Kb W W' ∧ I xs W'
  | .ret, _, W' => KeepsFrom B Wb W' ∧ Ix .ret xs W'
  | .exit id, _, W' => KeepsFrom B Wb W' ∧ Ix (.exit id) xs W'
  | .goto _, _, _ => False
  | .panic _, _, _ => False
  | .outgrown, _, _ => False

/-- **THE STATEMENT 'for .. := range seq { body }' BY THAT CONTRACT.** -/
theorem rangeX {F : Fence} {n : Nat} {P : Program} {α : Type} {g : Operand} {ps : Array Tmp} {assign body : Code} {Q : Exit → Act → World → Prop} {a : Act} {w : World}
    (hro : F.round = none) (h1 : 1 ≤ n) {gf : Nat} {lb : Array Value} (hg : a.eval g = .func (.func gf) #[] lb) (hFg : F.fn gf) (eg : ∀ args w, (callFunc gf args).run P w = .ok (.enter gf args) w)
    {Y : List α → α → Array Value → World → Prop} {n₀ : Nat} {Kb : Nat → Prop} {S Sp : List α → Prop} (hseq : SeqX F (n - 1) P gf lb Y n₀ Kb S Sp w) (hn : n₀ ≤ w.heap.size)
    (hps : ∀ pre x vs W, Y pre x vs W → vs.size = ps.size)
    (I : List α → World → Prop) (Ix : Code → List α → World → Prop) (hI : ∀ s A B, I s A → Lies w.heap.size A B → I s B) (hIx : ∀ c s A B, Ix c s A → Lies w.heap.size A B → Ix c s B) (h0 : I [] w)
    (hround : ∀ (l : Nat) (pre : List α) (x : α) (vs : Array Value) (W : World), w.heap.size ≤ l → I pre W → Y pre x vs W → w.heap.size ≤ W.heap.size →
      assign.wpIn (F.inRound l) (n - 1 - 1) P (Exit.then (fun a' Wa => KeepsFrom w.heap.size W Wa ∧ Kp n₀ Kb W Wa ∧ ∀ Wb, Lies w.heap.size Wa Wb → body.wpIn (F.inRound l) (n - 1 - 1) P (xPost w.heap.size n₀ Kb I Ix (pre ++ [x]) Wb Wb) a' Wb) (fun _ _ _ => False))
        { tmps := (ps.zip vs).foldl (fun t (p, v) => t.setIfInBounds p v) a.tmps, defers := [] } W)
    (hdone : ∀ (D : Nat) (xs : List α) (W : World), w.heap.size ≤ D → S xs → I xs W → W.heap[D]? = some (.deferred (some [])) → Q .normal { a with defers := { target := .collected D, args := #[] } :: a.defers } W)
    (hstop : ∀ (D : Nat) (c : Code) (pre : List α) (W : World), w.heap.size ≤ D → Sp pre → Ix c pre W → W.heap[D]? = some (.deferred (some [])) → c.wpIn F n P Q { a with defers := { target := .collected D, args := #[] } :: a.defers } W) :
    (Code.rangeFunc g ps assign body).wpIn F n P Q a w := by
  refine wpIn_rangeFunc fun fn hfn => ?_
  rw [hro]
  obtain ⟨D, eD⟩ : ∃ D, D = w.heap.size := ⟨_, rfl⟩
  obtain ⟨rec, hrec⟩ : ∃ rec : LoopState → Option Code → Loop, rec = fun st pe => { state := st, pending := pe, fn, tmps := a.tmps, params := ps, assign, body, defers := D } := ⟨_, rfl⟩
  have hst : ∀ st pe, (rec st pe).state = st := fun _ _ => by rw [hrec]
  have hpe : ∀ st pe, (rec st pe).pending = pe := fun _ _ => by rw [hrec]
  have hre : ∀ st pe st', ({ rec st pe with state := st' } : Loop) = rec st' pe := fun _ _ _ => by rw [hrec]
  have hre2 : ∀ st pe st' pe', ({ rec st pe with state := st', pending := pe' } : Loop) = rec st' pe' := fun _ _ _ _ => by rw [hrec]
  have hbW : Below w.heap.size w ((w.alloc (.deferred (some []))).alloc (.loop (rec .ready none))) := ((Below.refl _ w).alloc (Nat.le_refl _) _).alloc (by simp) _
  have hL1 : ((w.alloc (.deferred (some []))).alloc (.loop (rec .ready none))).heap[D + 1]? = some (.loop (rec .ready none)) := by
    have := World.alloc_heap_new (w.alloc (.deferred (some []))) (.loop (rec .ready none)); rwa [World.size_alloc, ← eD] at this
  have hD1 : ((w.alloc (.deferred (some []))).alloc (.loop (rec .ready none))).heap[D]? = some (.deferred (some [])) := by
    rw [eD]; exact (Below.heap_alloc _ _ _ (by simp)).trans (World.alloc_heap_new w _)
  have hrun : (Instr.enterLoop fn a.tmps ps assign body none).run P w = .ok (D + 1, [{ target := .collected D, args := #[] }]) ((w.alloc (.deferred (some []))).alloc (.loop (rec .ready none))) := by
    rw [hrec, eD]; exact run_enterLoop_outer _ _ _ _ _
  have hI1 : I [] ((w.alloc (.deferred (some []))).alloc (.loop (rec .ready none))) := hI _ _ _ h0 (.of_below hbW)
  have hkp1 : Kp n₀ Kb w ((w.alloc (.deferred (some []))).alloc (.loop (rec .ready none))) := .of_below hbW hn
  generalize ((w.alloc (.deferred (some []))).alloc (.loop (rec .ready none))) = W1 at hbW hL1 hD1 hrun hI1 hkp1
  refine ⟨D + 1, [{ target := .collected D, args := #[] }], W1, { target := .fn (.func gf) lb, args := #[.func (.yield (D + 1)) #[] #[]] }, W1, gf,
    #[.func (.yield (D + 1)) #[] #[]] ++ lb, W1, hrun, ?_, ?_, ?_, fun _ => h1, ?_⟩
  · simp only [resolve, hg]
    simp [go_sem]
  · intro f' hf'
    simp [Target.leads] at hf'
    subst hf'
    exact hFg
  · simp [invoke, go_sem, eg]
  · refine (hseq (D + 1)
      (fun pre W => I pre W ∧ W.heap[D + 1]? = some (.loop (rec .ready none)) ∧ W.heap[D]? = some (.deferred (some [])))
      (fun pre W => ∃ c, Ix c pre W ∧ W.heap[D + 1]? = some (.loop (rec .done (some c))) ∧ W.heap[D]? = some (.deferred (some [])))
      W1 hkp1
      (fun s A B h hb => ⟨hI _ _ _ h.1 (.of_below hb), (hb.block _ (lt_of_some h.2.1)).trans h.2.1, (hb.block _ (lt_of_some h.2.2)).trans h.2.2⟩)
      (fun s A B ⟨c, h1, h2, h3⟩ hb => ⟨c, hIx _ _ _ _ h1 (.of_below hb), (hb.block _ (lt_of_some h2)).trans h2, (hb.block _ (lt_of_some h3)).trans h3⟩)
      ?_ ⟨hI1, hL1, hD1⟩).mono ?_
    · rintro pre x vs W ⟨hi, hl, hd⟩ hy
      have hrunY := run_yield (P := P) (args := vs) hl (by rw [hrec]; exact hps _ _ _ _ hy)
      rw [hrec] at hrunY
      refine ⟨fn, _, assign, body, hrunY, roundIn_of_wpIn hfn ?_⟩
      have hlt := lt_of_some hl
      refine wpIn_mono (hround (D + 1) pre x vs W (by omega) hi hy (by omega)) ?_
      rintro e a1 Wa hpa
      cases e with
      | normal =>
        obtain ⟨hk1, hk2, hk3⟩ := hpa
        have hla := hk1.same _ _ (by omega) hl rfl
        have hda := hk1.same _ _ (by omega) hd rfl
        refine ⟨_, run_beginRound hla (hst _ _), ?_⟩
        rw [hre]
        have hlies : Lies w.heap.size Wa (Wa.putObj (D + 1) (.loop (rec .busy none))) := .put (by omega) hla rfl _
        have hlb : (Wa.putObj (D + 1) (.loop (rec .busy none))).heap[D + 1]? = some (.loop (rec .busy none)) := World.putObj_heap_same (lt_of_some hla)
        have hdb : (Wa.putObj (D + 1) (.loop (rec .busy none))).heap[D]? = some (.deferred (some [])) := (World.putObj_heap_other (by omega)).trans hda
        have hkb : Kp n₀ Kb W (Wa.putObj (D + 1) (.loop (rec .busy none))) := hk2.trans (.put (by omega) _)
        have hbody := hk3 _ hlies
        generalize Wa.putObj (D + 1) (.loop (rec .busy none)) = Wb at hlb hdb hkb hbody
        refine wpIn_mono hbody ?_
        have fin : ∀ (jump : Option Code) (W3 : World), KeepsFrom w.heap.size Wb W3 →
            (Instr.endRound (D + 1) jump).run P W3 = .ok (.bool jump.isNone) (W3.putObj (D + 1) (.loop (rec (if jump.isNone then .ready else .done) jump))) ∧
            Lies w.heap.size W3 (W3.putObj (D + 1) (.loop (rec (if jump.isNone then .ready else .done) jump))) ∧
            (W3.putObj (D + 1) (.loop (rec (if jump.isNone then .ready else .done) jump))).heap[D + 1]? = some (.loop (rec (if jump.isNone then .ready else .done) jump)) ∧
            (W3.putObj (D + 1) (.loop (rec (if jump.isNone then .ready else .done) jump))).heap[D]? = some (.deferred (some [])) := fun jump W3 hk => by
          have hl3 := hk.same _ _ (by omega) hlb rfl
          have hd3 := hk.same _ _ (by omega) hdb rfl
          have := run_endRound (P := P) jump hl3
          rw [hre2] at this
          exact ⟨this, .put (by omega) hl3 rfl _, World.putObj_heap_same (lt_of_some hl3), (World.putObj_heap_other (by omega)).trans hd3⟩
        rintro e a3 W3 hp
        cases e with
        | normal =>
          obtain ⟨q1, q2, q3⟩ := hp
          obtain ⟨f1, f2, f3, f4⟩ := fin none W3 q1
          exact ⟨_, _, f1, .inl ⟨rfl, ⟨hI _ _ _ q3 f2, f3, f4⟩, (hkb.trans q2).trans (.put (by omega) _)⟩⟩
        | ret =>
          obtain ⟨q1, q3⟩ := hp
          obtain ⟨f1, f2, f3, f4⟩ := fin (some .ret) W3 q1
          exact ⟨_, _, f1, .inr ⟨rfl, .ret, hIx _ _ _ _ q3 f2, f3, f4⟩⟩
        | exit id =>
          obtain ⟨q1, q3⟩ := hp
          obtain ⟨f1, f2, f3, f4⟩ := fin (some (.exit id)) W3 q1
          exact ⟨_, _, f1, .inr ⟨rfl, .exit id, hIx _ _ _ _ q3 f2, f3, f4⟩⟩
        | goto t => exact hp.elim
        | panic ch => exact hp.elim
        | outgrown => exact hp.elim
      | ret => exact hpa.elim
      | exit id => exact hpa.elim
      | goto t => exact hpa.elim
      | panic ch => exact hpa.elim
      | outgrown => exact hpa.elim
    · rintro e W2 ⟨⟨v, rfl⟩, (⟨xs, hS, hi, hl, hd⟩ | ⟨pre, hSp, c, hi, hl, hd⟩)⟩
      · refine ⟨none, _, by have := run_endLoop (P := P) hl (by rw [hst]; simp); rw [hpe] at this; exact this, ?_⟩
        exact hdone D xs _ (by omega) hS (hI _ _ _ hi (.put (by omega) hl rfl _)) ((World.putObj_heap_other (by omega)).trans hd)
      · refine ⟨some c, _, by have := run_endLoop (P := P) hl (by rw [hst]; simp); rw [hpe] at this; exact this, ?_⟩
        exact hstop D c pre _ (by omega) hSp (hIx _ _ _ _ hi (.put (by omega) hl rfl _)) ((World.putObj_heap_other (by omega)).trans hd)
end Go.Proofs.YtmcapemlfplcgaaDoor.H
/- A range over a func whose iterator writes a box of its own between two rounds (strings.SplitSeq). -/
namespace Go.Proofs.YtmcapemlfplcgaaDoor.H
open Go.RowKit Go.Proofs.YtmcapemlfplcgaaDoorW.PrintWords Go.Proofs.YtmcapemlfplcgaaDoorW.PrintLast Go.Proofs.YtmcapemlfplcgaaDoorW.PrintMore
set_option linter.unusedVariables false
/-- **AN ITERATOR's CONTRACT**, that turns the box bx between two rounds. -/
def SeqB {α : Type} (bx : Nat) (F : Fence) (n : Nat) (P : Program) (g : Nat) (lb : Array Value) (Y : List α → α → Array Value → World → Prop) (n₀ : Nat) (Kb : Nat → Prop) (S Sp : List α → Prop) (w : World) : Prop :=
  ∀ (l : Nat) (J Jx : List α → World → Prop) (W : World), Kp n₀ Kb w W →
    (∀ s A B, J s A → Below A.heap.size A B → J s B) → (∀ s A B, J s A → Oth bx A B → J s B) → (∀ s A B, Jx s A → Below A.heap.size A B → Jx s B) →
    (∀ pre x vs W1, J pre W1 → Y pre x vs W1 → YieldAt F (n - 1) P l vs W1 fun e W' =>
      (e = .returned (.bool true) ∧ J (pre ++ [x]) W' ∧ Kp n₀ Kb W1 W') ∨ (e = .returned (.bool false) ∧ Jx (pre ++ [x]) W')) →
    J [] W →
    CallsIn F n P g (#[.func (.yield l) #[] #[]] ++ lb) W fun e W' => (∃ v, e = .returned v) ∧ ((∃ xs, S xs ∧ J xs W') ∨ (∃ pre, Sp pre ∧ Jx pre W'))
/-- **THE STATEMENT 'for .. := range seq { body }' BY THAT CONTRACT.** -/
theorem rangeB {F : Fence} {n : Nat} {P : Program} {α : Type} {g : Operand} {ps : Array Tmp} {assign body : Code} {Q : Exit → Act → World → Prop} {a : Act} {w : World}
    (hro : F.round = none) (h1 : 1 ≤ n) {gf : Nat} {lb : Array Value} (hg : a.eval g = .func (.func gf) #[] lb) (hFg : F.fn gf) (eg : ∀ args w, (callFunc gf args).run P w = .ok (.enter gf args) w)
    {bx : Nat} (hbx : bx < w.heap.size) {Y : List α → α → Array Value → World → Prop} {n₀ : Nat} {Kb : Nat → Prop} {S Sp : List α → Prop} (hseq : SeqB bx F (n - 1) P gf lb Y n₀ Kb S Sp w) (hn : n₀ ≤ w.heap.size)
    (hps : ∀ pre x vs W, Y pre x vs W → vs.size = ps.size)
    (I : List α → World → Prop) (Ix : Code → List α → World → Prop) (hI : ∀ s A B, I s A → Lies w.heap.size A B → I s B) (hIx : ∀ c s A B, Ix c s A → Lies w.heap.size A B → Ix c s B) (hIo : ∀ s A B, I s A → Oth bx A B → I s B) (h0 : I [] w)
    (hround : ∀ (l : Nat) (pre : List α) (x : α) (vs : Array Value) (W : World), w.heap.size ≤ l → I pre W → Y pre x vs W → w.heap.size ≤ W.heap.size →
      assign.wpIn (F.inRound l) (n - 1 - 1) P (Exit.then (fun a' Wa => KeepsFrom w.heap.size W Wa ∧ Kp n₀ Kb W Wa ∧ ∀ Wb, Lies w.heap.size Wa Wb → body.wpIn (F.inRound l) (n - 1 - 1) P (xPost w.heap.size n₀ Kb I Ix (pre ++ [x]) Wb Wb) a' Wb) (fun _ _ _ => False))
        { tmps := (ps.zip vs).foldl (fun t (p, v) => t.setIfInBounds p v) a.tmps, defers := [] } W)
    (hdone : ∀ (D : Nat) (xs : List α) (W : World), w.heap.size ≤ D → S xs → I xs W → W.heap[D]? = some (.deferred (some [])) → Q .normal { a with defers := { target := .collected D, args := #[] } :: a.defers } W)
    (hstop : ∀ (D : Nat) (c : Code) (pre : List α) (W : World), w.heap.size ≤ D → Sp pre → Ix c pre W → W.heap[D]? = some (.deferred (some [])) → c.wpIn F n P Q { a with defers := { target := .collected D, args := #[] } :: a.defers } W) :
    (Code.rangeFunc g ps assign body).wpIn F n P Q a w := by
  refine wpIn_rangeFunc fun fn hfn => ?_
  rw [hro]
  obtain ⟨D, eD⟩ : ∃ D, D = w.heap.size := ⟨_, rfl⟩
  obtain ⟨rec, hrec⟩ : ∃ rec : LoopState → Option Code → Loop, rec = fun st pe => { state := st, pending := pe, fn, tmps := a.tmps, params := ps, assign, body, defers := D } := ⟨_, rfl⟩
  have hst : ∀ st pe, (rec st pe).state = st := fun _ _ => by rw [hrec]
  have hpe : ∀ st pe, (rec st pe).pending = pe := fun _ _ => by rw [hrec]
  have hre : ∀ st pe st', ({ rec st pe with state := st' } : Loop) = rec st' pe := fun _ _ _ => by rw [hrec]
  have hre2 : ∀ st pe st' pe', ({ rec st pe with state := st', pending := pe' } : Loop) = rec st' pe' := fun _ _ _ _ => by rw [hrec]
  have hbW : Below w.heap.size w ((w.alloc (.deferred (some []))).alloc (.loop (rec .ready none))) := ((Below.refl _ w).alloc (Nat.le_refl _) _).alloc (by simp) _
  have hL1 : ((w.alloc (.deferred (some []))).alloc (.loop (rec .ready none))).heap[D + 1]? = some (.loop (rec .ready none)) := by
    have := World.alloc_heap_new (w.alloc (.deferred (some []))) (.loop (rec .ready none)); rwa [World.size_alloc, ← eD] at this
  have hD1 : ((w.alloc (.deferred (some []))).alloc (.loop (rec .ready none))).heap[D]? = some (.deferred (some [])) := by
    rw [eD]; exact (Below.heap_alloc _ _ _ (by simp)).trans (World.alloc_heap_new w _)
  have hrun : (Instr.enterLoop fn a.tmps ps assign body none).run P w = .ok (D + 1, [{ target := .collected D, args := #[] }]) ((w.alloc (.deferred (some []))).alloc (.loop (rec .ready none))) := by
    rw [hrec, eD]; exact run_enterLoop_outer _ _ _ _ _
  have hI1 : I [] ((w.alloc (.deferred (some []))).alloc (.loop (rec .ready none))) := hI _ _ _ h0 (.of_below hbW)
  have hkp1 : Kp n₀ Kb w ((w.alloc (.deferred (some []))).alloc (.loop (rec .ready none))) := .of_below hbW hn
  generalize ((w.alloc (.deferred (some []))).alloc (.loop (rec .ready none))) = W1 at hbW hL1 hD1 hrun hI1 hkp1
  refine ⟨D + 1, [{ target := .collected D, args := #[] }], W1, { target := .fn (.func gf) lb, args := #[.func (.yield (D + 1)) #[] #[]] }, W1, gf,
    #[.func (.yield (D + 1)) #[] #[]] ++ lb, W1, hrun, ?_, ?_, ?_, fun _ => h1, ?_⟩
  · simp only [resolve, hg]
    simp [go_sem]
  · intro f' hf'
    simp [Target.leads] at hf'
    subst hf'
    exact hFg
  · simp [invoke, go_sem, eg]
  · refine (hseq (D + 1)
      (fun pre W => I pre W ∧ W.heap[D + 1]? = some (.loop (rec .ready none)) ∧ W.heap[D]? = some (.deferred (some [])))
      (fun pre W => ∃ c, Ix c pre W ∧ W.heap[D + 1]? = some (.loop (rec .done (some c))) ∧ W.heap[D]? = some (.deferred (some [])))
      W1 hkp1
      (fun s A B h hb => ⟨hI _ _ _ h.1 (.of_below hb), (hb.block _ (lt_of_some h.2.1)).trans h.2.1, (hb.block _ (lt_of_some h.2.2)).trans h.2.2⟩)
      (fun s A B h hb => ⟨hIo _ _ _ h.1 hb, hb.blk h.2.1 (by omega), hb.blk h.2.2 (by omega)⟩)
      (fun s A B ⟨c, h1, h2, h3⟩ hb => ⟨c, hIx _ _ _ _ h1 (.of_below hb), (hb.block _ (lt_of_some h2)).trans h2, (hb.block _ (lt_of_some h3)).trans h3⟩)
      ?_ ⟨hI1, hL1, hD1⟩).mono ?_
    · rintro pre x vs W ⟨hi, hl, hd⟩ hy
      have hrunY := run_yield (P := P) (args := vs) hl (by rw [hrec]; exact hps _ _ _ _ hy)
      rw [hrec] at hrunY
      refine ⟨fn, _, assign, body, hrunY, roundIn_of_wpIn hfn ?_⟩
      have hlt := lt_of_some hl
      refine wpIn_mono (hround (D + 1) pre x vs W (by omega) hi hy (by omega)) ?_
      rintro e a1 Wa hpa
      cases e with
      | normal =>
        obtain ⟨hk1, hk2, hk3⟩ := hpa
        have hla := hk1.same _ _ (by omega) hl rfl
        have hda := hk1.same _ _ (by omega) hd rfl
        refine ⟨_, run_beginRound hla (hst _ _), ?_⟩
        rw [hre]
        have hlies : Lies w.heap.size Wa (Wa.putObj (D + 1) (.loop (rec .busy none))) := .put (by omega) hla rfl _
        have hlb : (Wa.putObj (D + 1) (.loop (rec .busy none))).heap[D + 1]? = some (.loop (rec .busy none)) := World.putObj_heap_same (lt_of_some hla)
        have hdb : (Wa.putObj (D + 1) (.loop (rec .busy none))).heap[D]? = some (.deferred (some [])) := (World.putObj_heap_other (by omega)).trans hda
        have hkb : Kp n₀ Kb W (Wa.putObj (D + 1) (.loop (rec .busy none))) := hk2.trans (.put (by omega) _)
        have hbody := hk3 _ hlies
        generalize Wa.putObj (D + 1) (.loop (rec .busy none)) = Wb at hlb hdb hkb hbody
        refine wpIn_mono hbody ?_
        have fin : ∀ (jump : Option Code) (W3 : World), KeepsFrom w.heap.size Wb W3 →
            (Instr.endRound (D + 1) jump).run P W3 = .ok (.bool jump.isNone) (W3.putObj (D + 1) (.loop (rec (if jump.isNone then .ready else .done) jump))) ∧
            Lies w.heap.size W3 (W3.putObj (D + 1) (.loop (rec (if jump.isNone then .ready else .done) jump))) ∧
            (W3.putObj (D + 1) (.loop (rec (if jump.isNone then .ready else .done) jump))).heap[D + 1]? = some (.loop (rec (if jump.isNone then .ready else .done) jump)) ∧
            (W3.putObj (D + 1) (.loop (rec (if jump.isNone then .ready else .done) jump))).heap[D]? = some (.deferred (some [])) := fun jump W3 hk => by
          have hl3 := hk.same _ _ (by omega) hlb rfl
          have hd3 := hk.same _ _ (by omega) hdb rfl
          have := run_endRound (P := P) jump hl3
          rw [hre2] at this
          exact ⟨this, .put (by omega) hl3 rfl _, World.putObj_heap_same (lt_of_some hl3), (World.putObj_heap_other (by omega)).trans hd3⟩
        rintro e a3 W3 hp
        cases e with
        | normal =>
          obtain ⟨q1, q2, q3⟩ := hp
          obtain ⟨f1, f2, f3, f4⟩ := fin none W3 q1
          exact ⟨_, _, f1, .inl ⟨rfl, ⟨hI _ _ _ q3 f2, f3, f4⟩, (hkb.trans q2).trans (.put (by omega) _)⟩⟩
        | ret =>
          obtain ⟨q1, q3⟩ := hp
          obtain ⟨f1, f2, f3, f4⟩ := fin (some .ret) W3 q1
          exact ⟨_, _, f1, .inr ⟨rfl, .ret, hIx _ _ _ _ q3 f2, f3, f4⟩⟩
        | exit id =>
          obtain ⟨q1, q3⟩ := hp
          obtain ⟨f1, f2, f3, f4⟩ := fin (some (.exit id)) W3 q1
          exact ⟨_, _, f1, .inr ⟨rfl, .exit id, hIx _ _ _ _ q3 f2, f3, f4⟩⟩
        | goto t => exact hp.elim
        | panic ch => exact hp.elim
        | outgrown => exact hp.elim
      | ret => exact hpa.elim
      | exit id => exact hpa.elim
      | goto t => exact hpa.elim
      | panic ch => exact hpa.elim
      | outgrown => exact hpa.elim
    · rintro e W2 ⟨⟨v, rfl⟩, (⟨xs, hS, hi, hl, hd⟩ | ⟨pre, hSp, c, hi, hl, hd⟩)⟩
      · refine ⟨none, _, by have := run_endLoop (P := P) hl (by rw [hst]; simp); rw [hpe] at this; exact this, ?_⟩
        exact hdone D xs _ (by omega) hS (hI _ _ _ hi (.put (by omega) hl rfl _)) ((World.putObj_heap_other (by omega)).trans hd)
      · refine ⟨some c, _, by have := run_endLoop (P := P) hl (by rw [hst]; simp); rw [hpe] at this; exact this, ?_⟩
        exact hstop D c pre _ (by omega) hSp (hIx _ _ _ _ hi (.put (by omega) hl rfl _)) ((World.putObj_heap_other (by omega)).trans hd)
end Go.Proofs.YtmcapemlfplcgaaDoor.H
/- Worlds that differ in some blocks alone; an append to a row of one's own inside a fence. -/
namespace Go.Proofs.YtmcapemlfplcgaaDoor.H
open Go.RowKit Go.Proofs.YtmcapemlfplcgaaDoorW.PrintWords Go.Proofs.YtmcapemlfplcgaaDoorW.PrintLast Go.Proofs.YtmcapemlfplcgaaDoorW.PrintMore
set_option linter.unusedVariables false
set_option linter.unusedSimpArgs false


theorem Lies.R {α : Type} {d : Kd α} {e : Nat} {B base : Nat} {ok : Nat → Prop} {W W' : World} {v : Value} {xs : List α} (h : Lies B W W') (hr : d.R e W base ok v xs) : d.R e W' base ok v xs :=
  Kd.R_mono (Kd.R_move (Kd.R_bound hr) (fun k hk => by obtain ⟨_, _, _, q, _, cells, hc⟩ := hk; rw [hc]; exact h.blk hc)) (fun _ hk => hk.1)
theorem Lies.Ty {t : TypeId} {B : Nat} {W W' : World} {A : Option Addr} (h : Lies B W W') (ht : Ty t W A) : Ty t W' A := fun ad e => by
  obtain ⟨cs, z, hc⟩ := ht ad e
  exact ⟨cs, z, h.blk hc⟩
/-- W' is W but for the blocks of P, and new ones. -/
structure But (P : Nat → Prop) (W W' : World) : Prop where
  os : W'.os = W.os
  tape : W'.tape = W.tape
  output : W'.output = W.output
  size : W.heap.size ≤ W'.heap.size
  block : ∀ k, k < W.heap.size → ¬ P k → W'.heap[k]? = W.heap[k]?
theorem But.refl (P : Nat → Prop) (W : World) : But P W W := ⟨rfl, rfl, rfl, Nat.le_refl _, fun _ _ _ => rfl⟩
theorem But.trans {P : Nat → Prop} {X Y Z : World} (h : But P X Y) (k : But P Y Z) : But P X Z := ⟨k.os.trans h.os, k.tape.trans h.tape, k.output.trans h.output, Nat.le_trans h.size k.size, fun i hi hp => (k.block i (Nat.lt_of_lt_of_le hi h.size) hp).trans (h.block i hi hp)⟩
/-- The second step may turn what the first one made, too. -/
theorem But.then {P Q : Nat → Prop} {X Y Z : World} (h : But P X Y) (k : But Q Y Z) (hq : ∀ i, i < X.heap.size → Q i → P i) : But P X Z := ⟨k.os.trans h.os, k.tape.trans h.tape, k.output.trans h.output, Nat.le_trans h.size k.size, fun i hi hp => (k.block i (Nat.lt_of_lt_of_le hi h.size) (fun h2 => hp (hq i hi h2))).trans (h.block i hi hp)⟩
theorem But.mono {P Q : Nat → Prop} {W W' : World} (h : But P W W') (hq : ∀ k, k < W.heap.size → P k → Q k) : But Q W W' := ⟨h.os, h.tape, h.output, h.size, fun k hk hp => h.block k hk (fun h2 => hp (hq k hk h2))⟩
theorem But.of_below {P : Nat → Prop} {W W' : World} (h : Below W.heap.size W W') : But P W W' := ⟨h.os, h.tape, h.output, h.size, fun k hk _ => h.block k hk⟩
theorem But.of_oth {P : Nat → Prop} {g : Nat} {W W' : World} (h : Oth g W W') (hg : P g) : But P W W' := ⟨h.os, h.tape, h.output, h.size, fun k hk hp => h.block k hk (fun e => hp (e ▸ hg))⟩
theorem But.of_grown {P : Nat → Prop} {W W' : World} {r : Option Nat} (h : W.grownBy W' r) (hr : ∀ k, r = some k → P k) : But P W W' := ⟨h.os, h.tape, h.output, h.size, fun k hk hp => h.block k hk (fun e => hp (hr k e.symm))⟩
theorem But.below {P : Nat → Prop} {B : Nat} {w W W' : World} (h : But P W W') (hb : Below B w W) (hB : B ≤ W.heap.size) (hP : ∀ k, P k → B ≤ k) : Below B w W' :=
  ⟨h.os.trans hb.os, h.tape.trans hb.tape, h.output.trans hb.output, Nat.le_trans hb.size h.size, fun k hk => (h.block k (by omega) (fun hp => by have := hP k hp; omega)).trans (hb.block k hk)⟩
theorem But.blk {P : Nat → Prop} {W W' : World} (h : But P W W') {k : Nat} {o : Obj} (hb : W.heap[k]? = some o) (hp : ¬ P k) : W'.heap[k]? = some o := (h.block k (lt_of_some hb) hp).trans hb
theorem But.cell {P : Nat → Prop} {W W' : World} (h : But P W W') {a : Addr} {v : Value} (hc : W.cell? a = some v) (hp : ¬ P a.block) : W'.cell? a = some v :=
  (World.cell?_of_block (h.block _ (World.block_lt_of_cell? W a hc) hp)).trans hc
theorem But.C {P : Nat → Prop} {W W' : World} {t : TypeId} {k : IntKind} {A : Option Addr} {n : Nat} {xs : List Int} (h : But P W W') (hT : Ty t W A) (hc : Kd.C (Kd.int k) W A n xs) (hp : ∀ i cs z, W.heap[i]? = some (Obj.cells cs t z) → ¬ P i) : Kd.C (Kd.int k) W' A n xs :=
  C_ty hT hc (fun i cs z hi => h.block i (lt_of_some hi) (hp i cs z hi))
theorem But.Ty {P : Nat → Prop} {W W' : World} {t : TypeId} {A : Option Addr} (h : But P W W') (hT : Ty t W A) (hp : ∀ i cs z, W.heap[i]? = some (Obj.cells cs t z) → ¬ P i) : Ty t W' A :=
  hT.of_ty (fun i cs z hi => h.block i (lt_of_some hi) (hp i cs z hi))
theorem But.R {α : Type} {d : Kd α} {e : Nat} {P : Nat → Prop} {base : Nat} {ok : Nat → Prop} {W W' : World} {v : Value} {xs : List α} (h : But P W W') (hr : d.R e W base ok v xs) (hp : ∀ k, ok k → base ≤ k → (∃ q, q ∈ e :: d.E ∧ ∃ cells, W.heap[k]? = some (.cells cells q (0, 0))) → ¬ P k) : d.R e W' base ok v xs :=
  Kd.R_mono (Kd.R_move (Kd.R_bound hr) (fun k hk => h.block k hk.2.2.1 (hp k hk.1 hk.2.1 hk.2.2.2))) (fun _ hk => hk.1)
theorem ne_block' {w : World} {g : Nat} {cs cs' : Array Value} {t t' : TypeId} {z z' : Nat × Nat} {k : Nat} (h : w.heap[g]? = some (.cells cs t z)) (h' : w.heap[k]? = some (.cells cs' t' z')) (hne : t ≠ t') : g ≠ k := fun e => by
  subst e; rw [h] at h'; injection h' with h'; injection h' with _ h' _; exact hne h'
/-- A row of one's own of a kind whose cells tell all: its block alone counts. -/
theorem R_sharp {α : Type} {enc : α → Value} {h1 : ∀ x, (enc x).oneCell' = true} {e : Nat} {w : World} {base : Nat} {ok : Nat → Prop} {v : Value} {xs : List α} (h : (Kd.scalar enc h1).R e w base ok v xs) : (Kd.scalar enc h1).R e w base (fun k => v.ownBlock = some k) v xs := ⟨fun k hk => hk, h.2⟩
/-- A slice as a cell has it. -/
abbrev Sl := Option Addr × Nat × Nat
def KSl : Kd Sl := Kd.scalar (fun x => .slice x.1 x.2.1 x.2.2) (fun _ => rfl)
/-- A literal of one element. -/
theorem R_one {α : Type} {d : Kd α} {e base g : Nat} {W : World} {cs : List Value} {x : α} (hg : W.heap[g]? = some (.cells cs.toArray e (0, 0))) (hb : base ≤ g) (hM : ∀ ok, d.M W base ok x cs) : d.R e W base (fun _ => True) (.slice (some ⟨g, 0, none⟩) 1 1) [x] := by
  have hl : cs.length = d.sz := d.K_len (d.K_of_M (hM (fun _ => True)))
  refine ⟨fun _ _ => trivial, cs, ⟨by simp [hl], .inr ⟨g, 1, cs.toArray, rfl, hb, hg, Nat.le_refl _, by decide, by simp [hl], by simp [← hl]⟩⟩, ?_⟩
  exact Reps.snoc (Reps.none _ _) (hM _) hl
theorem Kp.of_grown {n₀ : Nat} {Kb : Nat → Prop} {A A' : World} {r : Option Nat} (h : A.grownBy A' r) (hr : ∀ k, r = some k → ¬ Kb k) (hn : n₀ ≤ A.heap.size) : Kp n₀ Kb A A' := ⟨h.size, fun k hk hb => h.block k (by omega) (fun e => hr k e.symm hb)⟩
theorem RIn_append {F : Fence} {n : Nat} {P : Program} {α : Type} {ops : Array Oper} {rest : List Oper} {o : Oper} {a : Act} {Q : Exit → Act → World → Prop} (d : Kd α) {w0 W : World} (base : Nat) (hgd : o.guard = none) (s x : Operand) (t e : TypeId) (z : Value) (bytes : Nat)
    (ho : o.op = .call { callee := .builtin .append, args := #[s, x], argTypes := #[t, t] })
    (ht : P.underlying t = some (.slice e)) (hinfo : (P.info? e).map (fun i => (i.zero, i.size, i.bytes)) = some (some z, d.sz, bytes)) (hz : z.cells.size = d.sz) (hs0 : 0 < d.sz) (hb0 : 0 < bytes)
    (v : Value) (xs : List α) (p : α) (cs : List Value) (ok okp : Nat → Prop) (hs : a.eval s = v) (hx : a.eval x = .slice (some ⟨W.heap.size, 0, none⟩) 1 1) (hp : d.M W base okp p cs) (hokp : ∀ k, okp k → ok k ∧ some k ≠ v.ownBlock) (hfresh : ∀ k, W.heap.size ≤ k → ok k)
    (HO : d.R e W base ok v xs) (HB : Below base w0 W) (hbase : base ≤ W.heap.size) (hl : (xs.length + 1) * bytes ≤ 140737488355328)
    (h : ∀ v1 w1, d.R e w1 base ok v1 (xs ++ [p]) → Below base w0 w1 → W.grownBy w1 v.ownBlock → (v1.ownBlock = v.ownBlock ∨ ∃ b, v1.ownBlock = some b ∧ W.heap.size ≤ b) → wpListIn F n P ops Q rest (a.put o.dst v1) w1) :
    wpListIn F n P ops Q (o :: rest) a (W.alloc (.cells cs.toArray e)) := by
  obtain ⟨h0, inner, hown, hr⟩ := HO
  obtain ⟨i0, hi, hzz⟩ := Option.map_eq_some_iff.1 hinfo
  simp only [Prod.mk.injEq] at hzz
  obtain ⟨hz0, hz1, hz2⟩ := hzz
  have hlen : xs.length + 1 ≤ 140737488355328 := Nat.le_trans (Nat.le_mul_of_pos_right _ hb0) hl
  have hys : cs.length = d.sz := d.K_len (d.K_of_M hp)
  refine wpListIn_plain hgd fun K hK' => ?_
  obtain ⟨v1, w1, hrun, r1, r2, r3, r4⟩ := run_append_own_at (P := P) (W.alloc (.cells cs.toArray e)) base t o.type e i0 z d.sz bytes ht hi hz0 hz1 hz2 hz hs0 v xs.length inner (hown.alloc _) ⟨W.heap.size, 0, none⟩ 1 1 cs (by rw [hys]; simp)
    (by simpa using World.news_of_block (cs := cs.toArray) (t := e) (fr := (0, 0)) (heap_alloc_new W (.cells cs.toArray e))) (d.K_one (d.K_of_M hp)) (by simp only [maxLen]; omega) hl (by simp; omega)
  have hat : v1.ownBlock = v.ownBlock ∨ ∃ b, v1.ownBlock = some b ∧ W.heap.size ≤ b := by
    rcases r4 with r4 | r4
    · exact .inl r4
    · exact .inr ⟨_, r4, by simp⟩
  have hg1 : W.grownBy w1 v.ownBlock := World.grownBy.trans (World.grownBy_alloc W _ _) r2
  have hfin := h v1 w1 (Kd.R_appended h0 hr hp hokp hfresh r1 hg1 hat) ((HB.alloc hbase _).grown r2 (by simp; omega) (own_base hown)) hg1 hat
  unfold Oper.wpIn
  refine ⟨?_, ?_⟩
  · simp [Oper.about, ho, resolve, Target.leads, Sem.run_pure]
  · rw [Oper.semAt_plain F _ _ (by rw [ho]; intro c hc'; cases hc')]
    simp [execOp, ho, resolve, invoke, builtin, hs, hx, hrun, Result.andThen]
    exact hK' _ _ hfin
theorem wpListIn_store_agg {F : Fence} {n : Nat} {P : Program} {ops : Array Oper} {rest : List Oper} {o : Oper} {a : Act} {Q : Exit → Act → World → Prop} {W : World} (hN : o.dst = none) (hgd : o.guard = none) (t : TypeId) (p x : Operand) (ho : o.op = .store t p x) (g : Nat) (e : TypeId) (cur V : Array Value)
    (hp : a.eval p = .pointer (some ⟨g, 0, none⟩)) (hx : a.eval x = .agg V) (hh : W.heap[g]? = some (.cells cur e (0, 0))) (ht : (P.info? t).map (·.size) = some V.size) (hs : cur.size = V.size)
    (h1 : ∀ q ∈ V.toList, q.oneCell' = true)
    (h : ∀ w1, w1.heap[g]? = some (.cells V e (0, 0)) → (∀ k, k ≠ g → w1.heap[k]? = W.heap[k]?) → w1.heap.size = W.heap.size → w1.os = W.os → w1.tape = W.tape → w1.output = W.output → wpListIn F n P ops Q rest a w1) : wpListIn F n P ops Q (o :: rest) a W := by
  have hl : V.toList.length = V.size := Array.length_toList
  have hrun : (Instr.storeAt t (.pointer (some ⟨g, 0, none⟩)) (.agg V)).run P W = .ok () (W.setCells g 0 V.toList) :=
    run_store_run t (.agg V) V.toList hh rfl (by rw [ht, hl]) (by omega) h1
  obtain ⟨cur', h3, h4, h5⟩ := setCells_row (g := g) V.toList 0 W cur hh (by omega)
  obtain ⟨s1, s2, s3, s4⟩ := setCells_same g V.toList 0 W
  have e2 : cur' = V := by
    apply Array.toList_inj.mp
    rw [h5, List.take_zero, List.nil_append, List.drop_of_length_le (by rw [Array.length_toList]; omega), List.append_nil]
  subst e2
  have hfin := h _ h3 (fun k hk => setCells_far _ 0 k hk) s4 s1 s2 s3
  refine wpListIn_plain hgd fun K hK => ?_
  unfold Oper.wpIn
  refine ⟨?_, ?_⟩
  · simp [Oper.about, ho]
  · rw [Oper.semAt_plain F _ _ (by rw [ho]; intro c hc'; cases hc')]
    unfold execOp
    simp only [ho, hp, hx, Sem.run_bind, Sem.run_pure, Result.andThen_ok, hrun]
    show K (a.put o.dst undef) _
    rw [hN]
    exact hK a _ hfin
theorem oth_of2 {g : Nat} {w w1 : World} (hf : ∀ k, k ≠ g → w1.heap[k]? = w.heap[k]?) (hz : w1.heap.size = w.heap.size) (ho : w1.os = w.os) (ht : w1.tape = w.tape) (hu : w1.output = w.output) : Oth g w w1 := ⟨ho, ht, hu, Nat.le_of_eq hz.symm, fun k _ hk => hf k hk⟩
theorem KeepsFrom.of_but {B : Nat} {P : Nat → Prop} {W W' : World} (h : But P W W') (hP : ∀ k o, P k → W.heap[k]? = some o → o.isCells = true) : KeepsFrom B W W' :=
  ⟨h.size, fun k o _ hk ho => h.blk hk (fun hp => by have := hP k o hp hk; rw [ho] at this; cases this)⟩
theorem Kp.of_but {n₀ : Nat} {Kb P : Nat → Prop} {A A' : World} (h : But P A A') (hr : ∀ k, k < n₀ → Kb k → ¬ P k) (hn : n₀ ≤ A.heap.size) : Kp n₀ Kb A A' := ⟨h.size, fun k hk hb => h.block k (by omega) (hr k hk hb)⟩
end Go.Proofs.YtmcapemlfplcgaaDoor.H
