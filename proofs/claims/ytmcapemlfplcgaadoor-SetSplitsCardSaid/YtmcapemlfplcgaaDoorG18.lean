/- Some texts of one seat in one file, in build order. -/
import Derived.Test.YtmcapemlfplcgaaDoorG4
import Derived.Test.YtmcapemlfplcgaaDoorG14
import Derived.Test.YtmcapemlfplcgaaDoorG17
/- A list that the rounds of a range over a func fill, one append a round. -/
namespace Go.Proofs.YtmcapemlfplcgaaDoor.H
open Go.RowKit Go.Proofs.YtmcapemlfplcgaaDoorW.PrintWords Go.Proofs.YtmcapemlfplcgaaDoorW.PrintLast Go.Proofs.YtmcapemlfplcgaaDoorW.PrintMore Go.Proofs.YtmcapemlfplcgaaDoor.AtM
set_option linter.unusedVariables false
set_option linter.unusedSimpArgs false
set_option maxRecDepth 100000
theorem and_mask2 (a : Int) (m : Nat) (hm : m < 9223372036854775808) : 0 ≤ bits .and .i64 a (m : Int) ∧ bits .and .i64 a (m : Int) ≤ m := by
  have e : bits .and .i64 a (m : Int) = IntKind.i64.wrap (((BitVec.ofInt 64 a) &&& (BitVec.ofInt 64 (m : Int))).toNat : Int) := rfl
  have hle : ((BitVec.ofInt 64 a) &&& (BitVec.ofInt 64 (m : Int))).toNat ≤ m := by
    rw [BitVec.ofInt_natCast, BitVec.toNat_and, BitVec.toNat_ofNat, Nat.mod_eq_of_lt (by omega : m < 2 ^ 64)]
    exact Nat.and_le_right
  rw [e, IntKind.wrap_i64]
  generalize ((BitVec.ofInt 64 a) &&& (BitVec.ofInt 64 (m : Int))).toNat = z at hle ⊢
  omega
theorem R_zero2 {α : Type} (d : Kd α) {e base g : Nat} {W : World} {ok : Nat → Prop} (hg : W.heap[g]? = some (.cells #[] e (0, 0))) (hb : base ≤ g) (hok : ok g) : d.R e W base ok (.slice (some ⟨g, 0, none⟩) 0 0) [] :=
  ⟨fun k hk => by have e : some g = some k := hk; injection e with e; exact e ▸ hok, [], ⟨by simp, .inr ⟨g, 0, #[], rfl, hb, hg, Nat.le_refl _, by decide, by simp, by simp⟩⟩, Reps.none _ _⟩
/-- What holds of the list between two rounds: w the world ahead of the range, gb the list's box, eb the block of the empty literal. -/
structure Got (k : IntKind) (t tS : TypeId) (w X : World) (gb eb : Nat) (pre : List Int) : Prop where
  row : ∃ A c, X.heap[gb]? = some (.cells #[.slice A pre.length c] tS (0, 0)) ∧ Kd.R (Kd.int k) t X eb (fun i => i = eb ∨ w.heap.size ≤ i) (.slice A pre.length c) pre
  but : But (fun i => i = eb ∨ i = gb) w X
theorem But.lies2 {P : Nat → Prop} {w X Y : World} {B : Nat} (h : But P w X) (hl : Lies B X Y) (hB : w.heap.size ≤ B) : But P w Y :=
  ⟨hl.os.trans h.os, hl.tape.trans h.tape, hl.output.trans h.output, Nat.le_trans h.size hl.size, fun k hk hp => by
    have e := h.block k hk hp
    obtain ⟨o, ho⟩ : ∃ o, w.heap[k]? = some o := ⟨_, Array.getElem?_eq_getElem hk⟩
    rw [ho] at e ⊢
    exact hl.same k o e (.inl (by omega))⟩
theorem Got.lies {k : IntKind} {t tS : TypeId} {w X Y : World} {gb eb B : Nat} {pre : List Int} (h : Got k t tS w X gb eb pre) (hl : Lies B X Y) (hB : w.heap.size ≤ B) : Got k t tS w Y gb eb pre := by
  obtain ⟨A, c, h1, h2⟩ := h.row
  exact ⟨⟨A, c, hl.blk h1, hl.R h2⟩, h.but.lies2 hl hB⟩
/-- A round. -/
theorem Got.step {k : IntKind} {t tS : TypeId} {w Wb w7 : World} {gb eb s : Nat} {pre : List Int} {x : Int} {Ap A7 : Option Addr} {n cp c7 : Nat} (h : Got k t tS w Wb gb eb pre) (hn : pre.length = n)
    (j1 : Wb.heap[gb]? = some (.cells #[.slice Ap n cp] tS (0, 0))) (j2 : Kd.R (Kd.int k) t Wb eb (fun i => i = eb ∨ w.heap.size ≤ i) (.slice Ap n cp) pre)
    (r1 : Kd.R (Kd.int k) t w7 eb (fun i => i = eb ∨ w.heap.size ≤ i) (.slice A7 (n + 1) c7) (pre ++ [x])) (r3 : Wb.grownBy w7 (Value.slice Ap n cp).ownBlock) (r4 : w7.heap[gb]? = some (.cells #[.slice Ap n cp] tS (0, 0))) (htt : tS ≠ t) (htt2 : ∀ q ∈ t :: (Kd.int k).E, q ≠ tS) (hgb : gb < w.heap.size) (hs : s ≤ Wb.heap.size) (he : eb < w.heap.size) :
    Got k t tS w (w7.setCell ⟨gb, 0, none⟩ (.slice A7 (n + 1) c7)) gb eb (pre ++ [x]) ∧ KeepsFrom w.heap.size Wb (w7.setCell ⟨gb, 0, none⟩ (.slice A7 (n + 1) c7)) ∧
    Kin (fun q => q = t) w.heap.size s Wb (w7.setCell ⟨gb, 0, none⟩ (.slice A7 (n + 1) c7)) ∧ Kp w.heap.size (fun i => i ≠ eb ∧ i ≠ gb) Wb (w7.setCell ⟨gb, 0, none⟩ (.slice A7 (n + 1) c7)) := by
  have hWbs := h.but.size
  have hbut : But (fun i => i = gb ∨ some i = (Value.slice Ap n cp).ownBlock) Wb (w7.setCell ⟨gb, 0, none⟩ (.slice A7 (n + 1) c7)) := (But.of_grown r3 (fun i hi => .inr hi.symm)).trans (.of_oth (Oth.set w7 ⟨gb, 0, none⟩ _) (.inl rfl))
  have hown : ∀ i, some i = (Value.slice Ap n cp).ownBlock → (i = eb ∨ w.heap.size ≤ i) ∧ ∃ cells, Wb.heap[i]? = some (.cells cells t (0, 0)) := fun i hi => by
    obtain ⟨_, ho'⟩ := Kd.R_own j2
    exact ⟨j2.1 i hi.symm, own_typed ho' i hi.symm⟩
  refine ⟨⟨⟨A7, c7, ?_, ?_⟩, h.but.then hbut (fun i hi h => ?_)⟩, KeepsFrom.of_but hbut ?_, ⟨hbut.size, fun i h1 h2 h3 => hbut.block i (by omega) ?_⟩, Kp.of_but hbut (fun i hi hb => ?_) hWbs⟩
  · simp only [List.length_append, List.length_singleton, hn]
    exact blk_put r4 0 (.slice A7 (n + 1) c7) rfl
  · simp only [List.length_append, List.length_singleton, hn]
    exact Kd.R_set r1 r4 htt2 0 _
  · rcases h with h | h
    · exact .inr h
    · rcases (hown i h).1 with h | h
      · exact .inl h
      · omega
  · rintro i o (rfl | hi) ho
    · rw [j1] at ho; cases ho; rfl
    · obtain ⟨_, cells, hc⟩ := hown i hi
      rw [hc] at ho; cases ho; rfl
  · rintro (h | h)
    · omega
    · obtain ⟨_, cells, hc⟩ := hown i h
      exact h3 _ _ _ hc rfl
  · rintro (h | h)
    · exact hb.2 h
    · rcases (hown i h).1 with h | h
      · exact hb.1 h
      · omega
end Go.Proofs.YtmcapemlfplcgaaDoor.H
/- A range over a func: as Rz has it, where a round keeps the first d blocks that the iterator lays, whatever their type. -/
namespace Go.Proofs.YtmcapemlfplcgaaDoor.H
open Go.RowKit Go.Proofs.YtmcapemlfplcgaaDoorW.PrintWords Go.Proofs.YtmcapemlfplcgaaDoorW.PrintLast Go.Proofs.YtmcapemlfplcgaaDoorW.PrintMore
set_option linter.unusedVariables false
/-- The blocks from B on, d of them, lie as they lay. -/
def Kd0 (B d : Nat) (A A' : World) : Prop := ∀ k, B ≤ k → k < B + d → A'.heap[k]? = A.heap[k]?
theorem Kd0.refl (B d : Nat) (A : World) : Kd0 B d A A := fun _ _ _ => rfl
theorem Kd0.trans {B d : Nat} {X Y Z : World} (h : Kd0 B d X Y) (k : Kd0 B d Y Z) : Kd0 B d X Z := fun i h1 h2 => (k i h1 h2).trans (h i h1 h2)
theorem Kd0.put {B d : Nat} {W : World} {l : Nat} (hl : l < B) (o : Obj) : Kd0 B d W (W.putObj l o) := fun k h1 _ => World.putObj_heap_other (by omega)
/-- How a round's body may be left. -/
def gPost {α : Type} (T : TypeId → Prop) (d B s n₀ : Nat) (Kb : Nat → Prop) (I : List α → World → Prop) (Ix : Code → List α → World → Prop) (xs : List α) (Wb : World) : Exit → Act → World → Prop
  | .normal, _, W' => Kin T B s Wb W' ∧ Kp n₀ Kb Wb W' ∧ Kd0 (B + 2) d Wb W' ∧ I xs W'
  | .ret, _, W' => Kin T B s Wb W' ∧ Ix .ret xs W'
  | .exit id, _, W' => Kin T B s Wb W' ∧ Ix (.exit id) xs W'
  | .goto _, _, _ => False
  | .panic _, _, _ => False
  | .outgrown, _, _ => False
/-- **AN ITERATOR's CONTRACT**, for callers that keep its first d blocks. -/
def SeqG {α : Type} (T : TypeId → Prop) (d : Nat) (F : Fence) (n : Nat) (P : Program) (g : Nat) (lb : Array Value) (Y : List α → α → Array Value → World → Prop) (n₀ : Nat) (Kb : Nat → Prop) (S Sp : List α → Prop) (w : World) : Prop :=
  ∀ (l : Nat) (J Jx : List α → World → Prop) (W : World), Kp n₀ Kb w W →
    (∀ s A B, J s A → Lies W.heap.size A B → J s B) → (∀ s A B, Jx s A → Lies W.heap.size A B → Jx s B) →
    (∀ pre x vs W1, J pre W1 → Y pre x vs W1 → W.heap.size + d ≤ W1.heap.size → YieldAt F (n - 1) P l vs W1 fun e W' =>
      (e = .returned (.bool true) ∧ J (pre ++ [x]) W' ∧ Kp n₀ Kb W1 W' ∧ Kin T W.heap.size W1.heap.size W1 W' ∧ Kd0 W.heap.size d W1 W') ∨ (e = .returned (.bool false) ∧ Jx (pre ++ [x]) W' ∧ Kin T W.heap.size W1.heap.size W1 W')) →
    J [] W →
    CallsIn F n P g (#[.func (.yield l) #[] #[]] ++ lb) W fun e W' => (∃ v, e = .returned v) ∧ ((∃ xs, S xs ∧ J xs W') ∨ (∃ pre, Sp pre ∧ Jx pre W'))
/-- **THE STATEMENT 'for .. := range seq { body }' BY THAT CONTRACT.** -/
theorem rangeG {d : Nat} {T : TypeId → Prop} {F : Fence} {n : Nat} {P : Program} {α : Type} {g : Operand} {ps : Array Tmp} {assign body : Code} {Q : Exit → Act → World → Prop} {a : Act} {w : World}
    (hro : F.round = none) (h1 : 1 ≤ n) {gf : Nat} {lb : Array Value} (hg : a.eval g = .func (.func gf) #[] lb) (hFg : F.fn gf) (eg : ∀ args w, (callFunc gf args).run P w = .ok (.enter gf args) w)
    {Y : List α → α → Array Value → World → Prop} {n₀ : Nat} {Kb : Nat → Prop} {S Sp : List α → Prop} (hseq : SeqG T d F (n - 1) P gf lb Y n₀ Kb S Sp w) (hn : n₀ ≤ w.heap.size)
    (hps : ∀ pre x vs W, Y pre x vs W → vs.size = ps.size)
    (I : List α → World → Prop) (Ix : Code → List α → World → Prop) (hI : ∀ s A B, I s A → Lies w.heap.size A B → I s B) (hIx : ∀ c s A B, Ix c s A → Lies w.heap.size A B → Ix c s B) (h0 : I [] w)
    (hround : ∀ (l : Nat) (pre : List α) (x : α) (vs : Array Value) (W : World), w.heap.size ≤ l → I pre W → Y pre x vs W → w.heap.size + 2 + d ≤ W.heap.size →
      assign.wpIn (F.inRound l) (n - 1 - 1) P (Exit.then (fun a' Wa => Kin T w.heap.size W.heap.size W Wa ∧ Kp n₀ Kb W Wa ∧ Kd0 (w.heap.size + 2) d W Wa ∧ ∀ Wb, Lies w.heap.size Wa Wb → body.wpIn (F.inRound l) (n - 1 - 1) P (gPost T d w.heap.size W.heap.size n₀ Kb I Ix (pre ++ [x]) Wb) a' Wb) (fun _ _ _ => False))
        { tmps := (ps.zip vs).foldl (fun t (p, v) => t.setIfInBounds p v) a.tmps, defers := [] } W)
    (hdone : ∀ (D : Nat) (xs : List α) (W : World), w.heap.size ≤ D → S xs → I xs W → W.heap[D]? = some (.deferred (some [])) → Q .normal { a with defers := { target := .collected D, args := #[] } :: a.defers } W)
    (hstop : ∀ (D : Nat) (c : Code) (pre : List α) (W : World), w.heap.size ≤ D → Sp pre → Ix c pre W → W.heap[D]? = some (.deferred (some [])) → c.wpIn F n P Q { a with defers := { target := .collected D, args := #[] } :: a.defers } W) :
    (Code.rangeFunc g ps assign body).wpIn F n P Q a w := by
  refine wpIn_rangeFunc fun fn hfn => ?_
  rw [hro]
  obtain ⟨D, eD⟩ : ∃ D, D = w.heap.size := ⟨_, rfl⟩
  obtain ⟨rec, hrec⟩ : ∃ rec : LoopState → Option Code → Loop, rec = fun st pe => { state := st, pending := pe, fn, tmps := a.tmps, params := ps, assign, body, defers := D } := ⟨_, rfl⟩
  have hst : ∀ st pe, (rec st pe).state = st := fun _ _ => by rw [hrec]
  have hpe : ∀ st pe, (rec st pe).pending = pe := fun _ _ => by rw [hrec]
  have hre : ∀ st pe st', ({ rec st pe with state := st' } : Loop) = rec st' pe := fun _ _ _ => by rw [hrec]
  have hre2 : ∀ st pe st' pe', ({ rec st pe with state := st', pending := pe' } : Loop) = rec st' pe' := fun _ _ _ _ => by rw [hrec]
  have hsz1 : ((w.alloc (.deferred (some []))).alloc (.loop (rec .ready none))).heap.size = w.heap.size + 2 := by simp
  have hbW : Below w.heap.size w ((w.alloc (.deferred (some []))).alloc (.loop (rec .ready none))) := ((Below.refl _ w).alloc (Nat.le_refl _) _).alloc (by simp) _
  have hL1 : ((w.alloc (.deferred (some []))).alloc (.loop (rec .ready none))).heap[D + 1]? = some (.loop (rec .ready none)) := by
    have := World.alloc_heap_new (w.alloc (.deferred (some []))) (.loop (rec .ready none)); rwa [World.size_alloc, ← eD] at this
  have hD1 : ((w.alloc (.deferred (some []))).alloc (.loop (rec .ready none))).heap[D]? = some (.deferred (some [])) := by
    rw [eD]; exact (Below.heap_alloc _ _ _ (by simp)).trans (World.alloc_heap_new w _)
  have hrun : (Instr.enterLoop fn a.tmps ps assign body none).run P w = .ok (D + 1, [{ target := .collected D, args := #[] }]) ((w.alloc (.deferred (some []))).alloc (.loop (rec .ready none))) := by
    rw [hrec, eD]; exact run_enterLoop_outer _ _ _ _ _
  have hI1 : I [] ((w.alloc (.deferred (some []))).alloc (.loop (rec .ready none))) := hI _ _ _ h0 (.of_below hbW)
  have hkp1 : Kp n₀ Kb w ((w.alloc (.deferred (some []))).alloc (.loop (rec .ready none))) := .of_below hbW hn
  generalize ((w.alloc (.deferred (some []))).alloc (.loop (rec .ready none))) = W1 at hsz1 hbW hL1 hD1 hrun hI1 hkp1
  have hlt1 := lt_of_some hL1
  refine ⟨D + 1, [{ target := .collected D, args := #[] }], W1, { target := .fn (.func gf) lb, args := #[.func (.yield (D + 1)) #[] #[]] }, W1, gf,
    #[.func (.yield (D + 1)) #[] #[]] ++ lb, W1, hrun, ?_, ?_, ?_, fun _ => h1, ?_⟩
  · simp only [resolve, hg]
    simp [go_sem]
  · intro f' hf'
    simp [Target.leads] at hf'
    subst hf'
    exact hFg
  · simp [invoke, go_sem, eg]
  · refine (hseq (D + 1)
      (fun pre W => I pre W ∧ W.heap[D + 1]? = some (.loop (rec .ready none)) ∧ W.heap[D]? = some (.deferred (some [])))
      (fun pre W => ∃ c, Ix c pre W ∧ W.heap[D + 1]? = some (.loop (rec .done (some c))) ∧ W.heap[D]? = some (.deferred (some [])))
      W1 hkp1
      (fun s A B h hb => ⟨hI _ _ _ h.1 (hb.wide hbW.size), hb.same _ _ h.2.1 (.inl hlt1), hb.same _ _ h.2.2 (.inl (by omega))⟩)
      (fun s A B ⟨c, h1, h2, h3⟩ hb => ⟨c, hIx _ _ _ _ h1 (hb.wide hbW.size), hb.same _ _ h2 (.inl hlt1), hb.same _ _ h3 (.inl (by omega))⟩)
      ?_ ⟨hI1, hL1, hD1⟩).mono ?_
    · rintro pre x vs W ⟨hi, hl, hd⟩ hy hdW
      have hrunY := run_yield (P := P) (args := vs) hl (by rw [hrec]; exact hps _ _ _ _ hy)
      rw [hrec] at hrunY
      refine ⟨fn, _, assign, body, hrunY, roundIn_of_wpIn hfn ?_⟩
      have hlt := lt_of_some hl
      refine wpIn_mono (hround (D + 1) pre x vs W (by omega) hi hy (by omega)) ?_
      rintro e a1 Wa hpa
      cases e with
      | normal =>
        obtain ⟨hk1, hk2, hkd, hk3⟩ := hpa
        have hla := (hk1.2 (D + 1) (by omega) hlt (noC hl rfl)).trans hl
        have hda := (hk1.2 D (by omega) (by omega) (noC hd rfl)).trans hd
        refine ⟨_, run_beginRound hla (hst _ _), ?_⟩
        rw [hre]
        have hlies : Lies w.heap.size Wa (Wa.putObj (D + 1) (.loop (rec .busy none))) := .put (by omega) hla rfl _
        have hlb : (Wa.putObj (D + 1) (.loop (rec .busy none))).heap[D + 1]? = some (.loop (rec .busy none)) := World.putObj_heap_same (lt_of_some hla)
        have hdb : (Wa.putObj (D + 1) (.loop (rec .busy none))).heap[D]? = some (.deferred (some [])) := (World.putObj_heap_other (by omega)).trans hda
        have hkb : Kp n₀ Kb W (Wa.putObj (D + 1) (.loop (rec .busy none))) := hk2.trans (.put (by omega) _)
        have hbody := hk3 _ hlies
        have hkd2 : Kd0 W1.heap.size d W (Wa.putObj (D + 1) (.loop (rec .busy none))) := by rw [hsz1]; exact hkd.trans (.put (by omega) _)
        have hkf : Kin T W1.heap.size W.heap.size W (Wa.putObj (D + 1) (.loop (rec .busy none))) := (hk1.wide hbW.size).trans (.put hlt1 _)
        generalize Wa.putObj (D + 1) (.loop (rec .busy none)) = Wb at hlb hdb hkb hbody hkf hkd2
        refine wpIn_mono hbody ?_
        have fin : ∀ (jump : Option Code) (W3 : World), Kin T w.heap.size W.heap.size Wb W3 →
            (Instr.endRound (D + 1) jump).run P W3 = .ok (.bool jump.isNone) (W3.putObj (D + 1) (.loop (rec (if jump.isNone then .ready else .done) jump))) ∧
            Lies w.heap.size W3 (W3.putObj (D + 1) (.loop (rec (if jump.isNone then .ready else .done) jump))) ∧
            (W3.putObj (D + 1) (.loop (rec (if jump.isNone then .ready else .done) jump))).heap[D + 1]? = some (.loop (rec (if jump.isNone then .ready else .done) jump)) ∧
            (W3.putObj (D + 1) (.loop (rec (if jump.isNone then .ready else .done) jump))).heap[D]? = some (.deferred (some [])) := fun jump W3 hk => by
          have hl3 := (hk.2 (D + 1) (by omega) hlt (noC hlb rfl)).trans hlb
          have hd3 := (hk.2 D (by omega) (by omega) (noC hdb rfl)).trans hdb
          have := run_endRound (P := P) jump hl3
          rw [hre2] at this
          exact ⟨this, .put (by omega) hl3 rfl _, World.putObj_heap_same (lt_of_some hl3), (World.putObj_heap_other (by omega)).trans hd3⟩
        rintro e a3 W3 hp
        cases e with
        | normal =>
          obtain ⟨q1, q2, qd, q3⟩ := hp
          obtain ⟨f1, f2, f3, f4⟩ := fin none W3 q1
          exact ⟨_, _, f1, .inl ⟨rfl, ⟨hI _ _ _ q3 f2, f3, f4⟩, (hkb.trans q2).trans (.put (by omega) _), (hkf.trans (q1.wide hbW.size)).trans (.put hlt1 _), (hkd2.trans (by rw [hsz1]; exact qd)).trans (.put hlt1 _)⟩⟩
        | ret =>
          obtain ⟨q1, q3⟩ := hp
          obtain ⟨f1, f2, f3, f4⟩ := fin (some .ret) W3 q1
          exact ⟨_, _, f1, .inr ⟨rfl, ⟨.ret, hIx _ _ _ _ q3 f2, f3, f4⟩, (hkf.trans (q1.wide hbW.size)).trans (.put hlt1 _)⟩⟩
        | exit id =>
          obtain ⟨q1, q3⟩ := hp
          obtain ⟨f1, f2, f3, f4⟩ := fin (some (.exit id)) W3 q1
          exact ⟨_, _, f1, .inr ⟨rfl, ⟨.exit id, hIx _ _ _ _ q3 f2, f3, f4⟩, (hkf.trans (q1.wide hbW.size)).trans (.put hlt1 _)⟩⟩
        | goto t => exact hp.elim
        | panic ch => exact hp.elim
        | outgrown => exact hp.elim
      | ret => exact hpa.elim
      | exit id => exact hpa.elim
      | goto t => exact hpa.elim
      | panic ch => exact hpa.elim
      | outgrown => exact hpa.elim
    · rintro e W2 ⟨⟨v, rfl⟩, (⟨xs, hS, hi, hl, hd⟩ | ⟨pre, hSp, c, hi, hl, hd⟩)⟩
      · refine ⟨none, _, by have := run_endLoop (P := P) hl (by rw [hst]; simp); rw [hpe] at this; exact this, ?_⟩
        exact hdone D xs _ (by omega) hS (hI _ _ _ hi (.put (by omega) hl rfl _)) ((World.putObj_heap_other (by omega)).trans hd)
      · refine ⟨some c, _, by have := run_endLoop (P := P) hl (by rw [hst]; simp); rw [hpe] at this; exact this, ?_⟩
        exact hstop D c pre _ (by omega) hSp (hIx _ _ _ _ hi (.put (by omega) hl rfl _)) ((World.putObj_heap_other (by omega)).trans hd)
end Go.Proofs.YtmcapemlfplcgaaDoor.H
/- Two rows of sets that grow side by side; and a list that the rounds of a range over a func fill, where the first blocks of the iterator stay. -/
namespace Go.Proofs.YtmcapemlfplcgaaDoor.H
open Go.RowKit Go.Proofs.YtmcapemlfplcgaaDoorW.PrintWords Go.Proofs.YtmcapemlfplcgaaDoorW.PrintLast Go.Proofs.YtmcapemlfplcgaaDoorW.PrintMore Go.Proofs.YtmcapemlfplcgaaDoor.AtM
set_option linter.unusedVariables false
set_option linter.unusedSimpArgs false
set_option maxRecDepth 100000
theorem own_lt {α : Type} {d : Kd α} {e base : Nat} {ok : Nat → Prop} {W : World} {v : Value} {xs : List α} (h : d.R e W base ok v xs) {k : Nat} (hk : v.ownBlock = some k) : k < W.heap.size := by
  obtain ⟨_, ho'⟩ := Kd.R_own h
  obtain ⟨cells, hc⟩ := own_typed ho' k hk
  exact lt_of_some hc
/-- w: the world ahead of the loop; E, E + 1: the blocks of the empty literals. -/
structure Two (w X : World) (E : Nat) (v1 v2 : Value) (p1 p2 : List Int) : Prop where
  r1 : Kd.R (Kd.int .u64) 22 X E (fun i => (i = E ∨ w.heap.size ≤ i) ∧ some i ≠ v2.ownBlock) v1 p1
  r2 : Kd.R (Kd.int .u64) 22 X E (fun i => (i = E + 1 ∨ w.heap.size ≤ i) ∧ some i ≠ v1.ownBlock) v2 p2
  but : But (fun i => i = E ∨ i = E + 1) w X
theorem Two.fresh1 {w X : World} {E : Nat} {v1 v2 : Value} {p1 p2 : List Int} (h : Two w X E v1 v2 p1 p2) : ∀ k, X.heap.size ≤ k → (k = E ∨ w.heap.size ≤ k) ∧ some k ≠ v2.ownBlock := fun k hk =>
  ⟨.inr (Nat.le_trans h.but.size hk), fun e => by have := own_lt h.r2 e.symm; omega⟩
theorem Two.fresh2 {w X : World} {E : Nat} {v1 v2 : Value} {p1 p2 : List Int} (h : Two w X E v1 v2 p1 p2) : ∀ k, X.heap.size ≤ k → (k = E + 1 ∨ w.heap.size ≤ k) ∧ some k ≠ v1.ownBlock := fun k hk =>
  ⟨.inr (Nat.le_trans h.but.size hk), fun e => by have := own_lt h.r1 e.symm; omega⟩
theorem Two.below {w X Y : World} {E : Nat} {v1 v2 : Value} {p1 p2 : List Int} (h : Two w X E v1 v2 p1 p2) (hb : Below X.heap.size X Y) : Two w Y E v1 v2 p1 p2 :=
  ⟨Kd.R_below h.r1 hb, Kd.R_below h.r2 hb, h.but.then (P := fun i => i = E ∨ i = E + 1) (Q := fun _ => False) (But.of_below hb) (fun _ _ h => h.elim)⟩
theorem Two.app1 {w X Y : World} {E : Nat} {v1 v2 v : Value} {p1 p2 q : List Int} (h : Two w X E v1 v2 p1 p2) (ho : Kd.R (Kd.int .u64) 22 Y E (fun i => (i = E ∨ w.heap.size ≤ i) ∧ some i ≠ v2.ownBlock) v q) (hg : X.grownBy Y v1.ownBlock) (hat : v.ownBlock = v1.ownBlock ∨ ∃ b, v.ownBlock = some b ∧ X.heap.size ≤ b) :
    Two w Y E v v2 q p2 := by
  have hbut : But (fun i => some i = v1.ownBlock) X Y := But.of_grown hg (fun i hi => hi.symm)
  refine ⟨ho, ?_, h.but.then hbut (fun i hi h4 => ?_)⟩
  · have hR := hbut.R h.r2 (fun k hk _ _ => hk.2)
    refine ⟨fun k hk => ⟨(hR.1 k hk).1, fun e => ?_⟩, hR.2⟩
    rcases hat with h5 | ⟨b, h5, h6⟩
    · exact (hR.1 k hk).2 (e.trans h5)
    · rw [h5] at e; injection e with e
      have := own_lt h.r2 hk
      omega
  · rcases (h.r1.1 i h4.symm).1 with h5 | h5
    · exact .inl h5
    · omega
theorem Two.app2 {w X Y : World} {E : Nat} {v1 v2 v : Value} {p1 p2 q : List Int} (h : Two w X E v1 v2 p1 p2) (ho : Kd.R (Kd.int .u64) 22 Y E (fun i => (i = E + 1 ∨ w.heap.size ≤ i) ∧ some i ≠ v1.ownBlock) v q) (hg : X.grownBy Y v2.ownBlock) (hat : v.ownBlock = v2.ownBlock ∨ ∃ b, v.ownBlock = some b ∧ X.heap.size ≤ b) :
    Two w Y E v1 v p1 q := by
  have hbut : But (fun i => some i = v2.ownBlock) X Y := But.of_grown hg (fun i hi => hi.symm)
  refine ⟨?_, ho, h.but.then hbut (fun i hi h4 => ?_)⟩
  · have hR := hbut.R h.r1 (fun k hk _ _ => hk.2)
    refine ⟨fun k hk => ⟨(hR.1 k hk).1, fun e => ?_⟩, hR.2⟩
    rcases hat with h5 | ⟨b, h5, h6⟩
    · exact (hR.1 k hk).2 (e.trans h5)
    · rw [h5] at e; injection e with e
      have := own_lt h.r1 hk
      omega
  · rcases (h.r2.1 i h4.symm).1 with h5 | h5
    · exact .inr h5
    · omega
theorem Two.start {w : World} {E : Nat} (h1 : w.heap[E]? = some (.cells #[] 22 (0, 0))) (h2 : w.heap[E + 1]? = some (.cells #[] 22 (0, 0))) : Two w w E (.slice (some ⟨E, 0, none⟩) 0 0) (.slice (some ⟨E + 1, 0, none⟩) 0 0) [] [] :=
  ⟨R_zero2 _ h1 (Nat.le_refl _) ⟨.inl rfl, fun e => by
    have e : some E = some (E + 1) := e
    injection e with e; omega⟩, R_zero2 _ h2 (Nat.le_succ _) ⟨.inl rfl, fun e => by
    have e : some (E + 1) = some E := e
    injection e with e; omega⟩, But.refl _ _⟩
theorem filt_step {p : Int → Bool} {xs : List Int} {k m : Nat} {x : Int} (hx : xs[k]? = some x) : ((xs.take (k + 1)).filter p).take m = if p x = true ∧ (((xs.take k).filter p).take m).length < m then ((xs.take k).filter p).take m ++ [x] else ((xs.take k).filter p).take m := by
  obtain ⟨hk, he⟩ := List.getElem?_eq_some_iff.1 hx
  rw [List.take_add_one, hx, Option.toList_some, List.filter_append]
  generalize (xs.take k).filter p = l
  by_cases hp : p x = true
  · have h1 : [x].filter p = [x] := by simp [hp]
    rw [h1, List.length_take]
    by_cases hl : l.length < m
    · rw [if_pos ⟨hp, by omega⟩, List.take_of_length_le (by simp; omega), List.take_of_length_le (by omega)]
    · rw [if_neg (by omega), List.take_append_of_le_length (by omega)]
  · have h1 : [x].filter p = [] := by simp [hp]
    rw [h1, List.append_nil, if_neg (fun h => hp h.1)]
/-- What holds of the list between two rounds; its row is the empty literal's block eb or lies from sN on. -/
structure GotG (k : IntKind) (t tS : TypeId) (w X : World) (gb eb sN : Nat) (pre : List Int) : Prop where
  row : ∃ A c, X.heap[gb]? = some (.cells #[.slice A pre.length c] tS (0, 0)) ∧ Kd.R (Kd.int k) t X eb (fun i => i = eb ∨ sN ≤ i) (.slice A pre.length c) pre
  but : But (fun i => i = eb ∨ i = gb) w X
theorem GotG.lies {k : IntKind} {t tS : TypeId} {w X Y : World} {gb eb sN B : Nat} {pre : List Int} (h : GotG k t tS w X gb eb sN pre) (hl : Lies B X Y) (hB : w.heap.size ≤ B) : GotG k t tS w Y gb eb sN pre := by
  obtain ⟨A, c, h1, h2⟩ := h.row
  exact ⟨⟨A, c, hl.blk h1, hl.R h2⟩, h.but.lies2 hl hB⟩
/-- A round. -/
theorem GotG.step {k : IntKind} {t tS : TypeId} {w Wb w7 : World} {gb eb sN s d : Nat} {pre : List Int} {x : Int} {Ap A7 : Option Addr} {n cp c7 : Nat} (h : GotG k t tS w Wb gb eb sN pre) (hn : pre.length = n)
    (j1 : Wb.heap[gb]? = some (.cells #[.slice Ap n cp] tS (0, 0))) (j2 : Kd.R (Kd.int k) t Wb eb (fun i => i = eb ∨ sN ≤ i) (.slice Ap n cp) pre)
    (r1 : Kd.R (Kd.int k) t w7 eb (fun i => i = eb ∨ sN ≤ i) (.slice A7 (n + 1) c7) (pre ++ [x])) (r3 : Wb.grownBy w7 (Value.slice Ap n cp).ownBlock) (r4 : w7.heap[gb]? = some (.cells #[.slice Ap n cp] tS (0, 0))) (htt : tS ≠ t) (htt2 : ∀ q ∈ t :: (Kd.int k).E, q ≠ tS) (hgb : gb < w.heap.size) (hs : s ≤ Wb.heap.size) (he : eb < w.heap.size) (hsN : w.heap.size + 2 + d ≤ sN) (hsW : sN ≤ Wb.heap.size) :
    GotG k t tS w (w7.setCell ⟨gb, 0, none⟩ (.slice A7 (n + 1) c7)) gb eb sN (pre ++ [x]) ∧ Kd0 (w.heap.size + 2) d Wb (w7.setCell ⟨gb, 0, none⟩ (.slice A7 (n + 1) c7)) ∧
    Kin (fun q => q = t) w.heap.size s Wb (w7.setCell ⟨gb, 0, none⟩ (.slice A7 (n + 1) c7)) ∧ Kp w.heap.size (fun i => i ≠ eb ∧ i ≠ gb) Wb (w7.setCell ⟨gb, 0, none⟩ (.slice A7 (n + 1) c7)) := by
  have hWbs := h.but.size
  have hbut : But (fun i => i = gb ∨ some i = (Value.slice Ap n cp).ownBlock) Wb (w7.setCell ⟨gb, 0, none⟩ (.slice A7 (n + 1) c7)) := (But.of_grown r3 (fun i hi => .inr hi.symm)).trans (.of_oth (Oth.set w7 ⟨gb, 0, none⟩ _) (.inl rfl))
  have hown : ∀ i, some i = (Value.slice Ap n cp).ownBlock → (i = eb ∨ sN ≤ i) ∧ ∃ cells, Wb.heap[i]? = some (.cells cells t (0, 0)) := fun i hi => by
    obtain ⟨_, ho'⟩ := Kd.R_own j2
    exact ⟨j2.1 i hi.symm, own_typed ho' i hi.symm⟩
  refine ⟨⟨⟨A7, c7, ?_, ?_⟩, h.but.then hbut (fun i hi h => ?_)⟩, fun i h1 h2 => hbut.block i (by omega) ?_, ⟨hbut.size, fun i h1 h2 h3 => hbut.block i (by omega) ?_⟩, Kp.of_but hbut (fun i hi hb => ?_) hWbs⟩
  · simp only [List.length_append, List.length_singleton, hn]
    exact blk_put r4 0 (.slice A7 (n + 1) c7) rfl
  · simp only [List.length_append, List.length_singleton, hn]
    exact Kd.R_set r1 r4 htt2 0 _
  · rcases h with h | h
    · exact .inr h
    · rcases (hown i h).1 with h | h
      · exact .inl h
      · omega
  · rintro (h | h)
    · omega
    · rcases (hown i h).1 with h | h <;> omega
  · rintro (h | h)
    · omega
    · obtain ⟨_, cells, hc⟩ := hown i h
      exact h3 _ _ _ hc rfl
  · rintro (h | h)
    · exact hb.2 h
    · rcases (hown i h).1 with h | h
      · exact hb.1 h
      · omega
end Go.Proofs.YtmcapemlfplcgaaDoor.H
/- Folder 02, plain: the splits of a set, and its subsets of so many items. -/
namespace Go.Proofs.YtmcapemlfplcgaaDoor.R02
open Go.RowKit Go.Proofs.YtmcapemlfplcgaaDoor.Ult Go.Proofs.YtmcapemlfplcgaaDoor.AtM Go.Proofs.YtmcapemlfplcgaaDoor.H Go.Proofs.YtmcapemlfplcgaaDoor.PAll2 Go.Proofs.YtmcapemlfplcgaaDoorW.PrintWords Go.Proofs.YtmcapemlfplcgaaDoorW.PrintLast Go.Proofs.YtmcapemlfplcgaaDoorW.PrintMore
set_option linter.unusedVariables false
set_option linter.unusedSimpArgs false
set_option maxRecDepth 100000
theorem sub_in (w : Nat) : ∀ s, s < 2 ^ w → ∀ e ∈ subR w s, e &&& s = e := by
  induction w with
  | zero => intro s hs e he; rw [List.mem_singleton.1 he]; exact Nat.zero_and _
  | succ w ih =>
    intro s hs e he
    have hp : 2 ^ (w + 1) = 2 * 2 ^ w := by rw [Nat.pow_succ]; omega
    rw [subR_low] at he
    have hs2 : s / 2 < 2 ^ w := by omega
    unfold dbl at he
    obtain ⟨s1, b, hb, hse⟩ : ∃ s1 b, b ≤ 1 ∧ s = 2 * s1 + b := ⟨s / 2, s % 2, by omega, by omega⟩
    have e1 : s / 2 = s1 := by omega
    rw [e1] at he hs2
    split at he
    · rename_i hbit
      have hb1 : b = 1 := by rw [Nat.testBit_zero] at hbit; simp at hbit; omega
      obtain ⟨y, hy, hye⟩ := List.mem_flatMap.1 he
      have h := ih s1 hs2 y hy
      subst hse; subst hb1
      rcases List.mem_cons.1 hye with rfl | hye
      · have := and_dbl y s1 0 1 (by omega) (by omega); rw [h] at this; simpa using this
      · rw [List.mem_singleton.1 hye]; have := and_dbl y s1 1 1 (by omega) (by omega); rw [h] at this; simpa using this
    · rename_i hbit
      have hb0 : b = 0 := by rw [Nat.testBit_zero] at hbit; simp at hbit; omega
      obtain ⟨y, hy, rfl⟩ := List.mem_map.1 he
      have h := ih s1 hs2 y hy
      subst hse; subst hb0
      have := and_dbl y s1 0 0 (by omega) (by omega); rw [h] at this; simpa using this
theorem split_sub (k : Nat) : ∀ (w m s : Nat), s = 2 ^ k * (2 * m + 1) → s < 2 ^ w → (subR w s).filter (fun e => e.testBit k) = (subR w (s - 2 ^ k)).map (· + 2 ^ k) := by
  induction k with
  | zero =>
    intro w m s hs hw
    have hs : s = 2 * m + 1 := by simpa using hs
    subst hs
    cases w with
    | zero => simp at hw
    | succ w =>
      rw [subR_low, show 2 * m + 1 - 2 ^ 0 = 2 * m by simp, subR_low, show (2 * m + 1) / 2 = m by omega, show 2 * m / 2 = m by omega]
      have h1 : (2 * m + 1).testBit 0 = true := by rw [Nat.testBit_zero]; simp
      have h2 : (2 * m).testBit 0 = false := by rw [Nat.testBit_zero]; simp
      rw [h1, h2]
      unfold dbl
      simp only [if_true, Bool.false_eq_true, if_false, List.map_map]
      generalize subR w m = l
      induction l with
      | nil => rfl
      | cons y ys ih =>
        have t1 : (2 * y).testBit 0 = false := by rw [Nat.testBit_zero]; simp
        have t2 : (2 * y + 1).testBit 0 = true := by rw [Nat.testBit_zero]; simp
        rw [List.flatMap_cons, List.filter_append, ih, List.map_cons]
        simp [List.filter, t1, t2]
  | succ k ih =>
    intro w m s hs hw
    obtain ⟨s1, hs1⟩ : ∃ s1, s1 = 2 ^ k * (2 * m + 1) := ⟨_, rfl⟩
    have he : s = 2 * s1 := by rw [hs, hs1, Nat.pow_succ, Nat.mul_comm (2 ^ k) 2, Nat.mul_assoc]
    subst he
    cases w with
    | zero =>
      exfalso
      have h1 : 0 < s1 := by rw [hs1]; exact Nat.mul_pos (Nat.pow_pos (by decide)) (by omega)
      rw [Nat.pow_zero] at hw
      omega
    | succ w =>
      have hp : 2 ^ (w + 1) = 2 * 2 ^ w := by rw [Nat.pow_succ]; omega
      have ih := ih w m s1 hs1 (by omega)
      have hk1 : 2 ^ (k + 1) = 2 * 2 ^ k := by rw [Nat.pow_succ]; omega
      rw [subR_low, show 2 * s1 - 2 ^ (k + 1) = 2 * (s1 - 2 ^ k) by omega, subR_low, show 2 * s1 / 2 = s1 by omega, show 2 * (s1 - 2 ^ k) / 2 = s1 - 2 ^ k by omega]
      have h1 : (2 * s1).testBit 0 = false := by rw [Nat.testBit_zero]; simp
      have h2 : (2 * (s1 - 2 ^ k)).testBit 0 = false := by rw [Nat.testBit_zero]; simp
      rw [h1, h2]
      unfold dbl
      simp only [Bool.false_eq_true, if_false, List.map_map]
      rw [List.filter_map]
      have hf : ((fun e : Nat => e.testBit (k + 1)) ∘ fun y => 2 * y) = fun e => e.testBit k := by
        funext y
        show (2 * y).testBit (k + 1) = y.testBit k
        rw [Nat.testBit_succ, show 2 * y / 2 = y by omega]
      rw [hf, ih, List.map_map]
      apply List.map_congr_left
      intro y _
      show 2 * (y + 2 ^ k) = 2 * y + 2 ^ (k + 1)
      omega
/-! ### so many items -/
/-- The choices, the greatest item first told. -/
def chV : List Nat → Int → Nat → List Nat
  | [], n, w => if n = 0 then [w] else []
  | i :: r, n, w => if n < 0 ∨ n > ((r.length + 1 : Nat) : Int) then [] else if n = 0 then [w] else chV r n w ++ chV r (n - 1) (w ||| 2 ^ i)
theorem chV_neg : ∀ (r : List Nat) (n : Int) (w : Nat), n < 0 → chV r n w = []
  | [], n, w, h => by unfold chV; rw [if_neg (by omega)]
  | i :: r, n, w, h => by unfold chV; rw [if_pos (.inl h)]
theorem chV_big : ∀ (r : List Nat) (n : Int) (w : Nat), n > (r.length : Int) → chV r n w = []
  | [], n, w, h => by unfold chV; rw [if_neg (by simp at h; omega)]
  | i :: r, n, w, h => by unfold chV; rw [if_pos (.inr (by simpa using h))]
theorem chV_zero : ∀ (r : List Nat) (w : Nat), chV r 0 w = [w]
  | [], w => rfl
  | i :: r, w => by unfold chV; rw [if_neg (by omega), if_pos rfl]
theorem chV_cons (i : Nat) (r : List Nat) (n : Int) (w : Nat) : chV (i :: r) n w = chV r n w ++ chV r (n - 1) (w ||| 2 ^ i) := by
  by_cases h0 : n < 0
  · rw [chV_neg _ _ _ h0, chV_neg _ _ _ h0, chV_neg _ _ _ (by omega)]; rfl
  · by_cases h1 : n > ((r.length + 1 : Nat) : Int)
    · rw [chV_big (i :: r) _ _ (by simpa using h1), chV_big _ _ _ (by omega), chV_big _ _ _ (by omega)]; rfl
    · by_cases h2 : n = 0
      · subst h2; rw [chV_zero, chV_zero, chV_neg _ _ _ (by omega)]; rfl
      · conv => lhs; unfold chV
        rw [if_neg (by omega), if_neg h2]
/-- The items of a set, the greatest first. -/
def rsN (s : Nat) : Nat → List Nat
  | 0 => []
  | w + 1 => if s.testBit w then w :: rsN s w else rsN s w
theorem rsN_rev (s : Nat) : ∀ w, ((List.range w).filter fun i => s.testBit i).reverse = rsN s w := by
  intro w
  induction w with
  | zero => rfl
  | succ w ih =>
    rw [List.range_succ, List.filter_append, filt1, List.reverse_append, ih, rsN]
    by_cases h : s.testBit w = true
    · rw [if_pos h, if_pos h]; rfl
    · rw [if_neg h, if_neg h]; rfl
theorem pcN_add {e w : Nat} (he : e < 2 ^ w) (hw : w < 64) : pcN (e + 2 ^ w) = pcN e + 1 := by
  have hb : e.testBit w = false := Nat.testBit_lt_two_pow he
  have h63 : 2 ^ w ≤ 2 ^ 63 := Nat.pow_le_pow_right (by decide) (by omega)
  have h64 : (2 : Nat) ^ 64 = 2 * 2 ^ 63 := by decide
  have hadd := or_add (show e < 2 ^ 64 by omega) hw hb
  rw [hadd]
  unfold pcN
  rw [range_split w hw, List.countP_append, List.countP_cons, List.countP_append, List.countP_cons]
  have e1 : (List.range w).countP (fun i => (e ||| 2 ^ w).testBit i) = (List.range w).countP fun i => e.testBit i := by
    apply List.countP_congr
    intro i hi
    have := List.mem_range.1 hi
    rw [Nat.testBit_or, Nat.testBit_two_pow, decide_eq_false (by omega), Bool.or_false]
  have e2 : (List.range' (w + 1) (63 - w)).countP (fun i => (e ||| 2 ^ w).testBit i) = (List.range' (w + 1) (63 - w)).countP fun i => e.testBit i := by
    apply List.countP_congr
    intro i hi
    have := List.mem_range'_1.1 hi
    rw [Nat.testBit_or, Nat.testBit_two_pow, decide_eq_false (by omega), Bool.or_false]
  have e3 : (e ||| 2 ^ w).testBit w = true := by rw [Nat.testBit_or, Nat.testBit_two_pow]; simp
  rw [e1, e2, e3, hb]
  simp; omega
theorem chV_sub (s : Nat) : ∀ (w : Nat), w ≤ 64 → ∀ (n : Int) (wi : Nat), wi % 2 ^ w = 0 → wi < 2 ^ 64 → chV (rsN s w) n wi = ((subR w s).filter fun e => decide ((pcN e : Int) = n)).map (wi + ·) := by
  intro w
  induction w with
  | zero =>
    intro _ n wi _ _
    show (if n = 0 then [wi] else []) = _
    by_cases h : n = 0
    · subst h; rw [if_pos rfl]; rfl
    · rw [if_neg h]
      show [] = (([0] : List Nat).filter _).map _
      have hz : pcN 0 = 0 := by decide
      have : decide (((pcN 0 : Nat) : Int) = n) = false := decide_eq_false (by rw [hz]; omega)
      rw [filt1, if_neg (by rw [this]; simp)]; rfl
  | succ w ih =>
    intro hw n wi hm hlt
    have hp : 2 ^ (w + 1) = 2 * 2 ^ w := by rw [Nat.pow_succ]; omega
    have hm2 : wi % 2 ^ w = 0 := by
      have := Nat.mod_mod_of_dvd wi (show 2 ^ w ∣ 2 ^ (w + 1) from ⟨2, by rw [Nat.pow_succ]⟩)
      rw [← this, hm]; exact Nat.zero_mod _
    rw [rsN, subR]
    by_cases h : s.testBit w = true
    · rw [if_pos h, if_pos h, chV_cons, ih (by omega) n wi hm2 hlt]
      have hbw : wi.testBit w = false := by
        rw [Nat.testBit_eq_decide_div_mod_eq]
        apply decide_eq_false
        intro hc
        obtain ⟨q, hq⟩ := Nat.dvd_of_mod_eq_zero hm
        rw [hq, hp, show 2 * 2 ^ w * q = 2 ^ w * (2 * q) by rw [Nat.mul_comm 2, Nat.mul_assoc], Nat.mul_div_cancel_left _ (Nat.pow_pos (by decide))] at hc
        omega
      have hadd := or_add hlt (by omega : w < 64) hbw
      have hlt2 := or_lt hlt (by omega : w < 64)
      have hm3 : (wi ||| 2 ^ w) % 2 ^ w = 0 := by rw [← hadd, Nat.add_mod_right]; exact hm2
      rw [ih (by omega) (n - 1) _ hm3 hlt2, List.filter_append, List.map_append, ← hadd, List.filter_map, List.map_map]
      congr 1
      have hf : (subR w s).filter ((fun e => decide ((pcN e : Int) = n)) ∘ fun x => x + 2 ^ w) = (subR w s).filter fun e => decide ((pcN e : Int) = n - 1) := by
        apply List.filter_congr
        intro e he
        have hpc := pcN_add (subR_lt s w e he) (by omega : w < 64)
        show decide ((pcN (e + 2 ^ w) : Int) = n) = _
        rw [hpc]
        apply Bool.eq_iff_iff.2
        simp only [decide_eq_true_iff]
        omega
      rw [hf]
      apply List.map_congr_left
      intro e _
      show wi + 2 ^ w + e = wi + (e + 2 ^ w)
      omega
    · rw [if_neg h, if_neg h]
      exact ih (by omega) n wi hm2 hlt
end Go.Proofs.YtmcapemlfplcgaaDoor.R02
