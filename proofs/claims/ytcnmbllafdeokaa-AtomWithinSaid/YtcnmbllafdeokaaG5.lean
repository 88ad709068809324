/- Some texts of one seat in one file, in build order. -/
import Derived.Test.YtcnmbllafdeokaaG4
import Derived.Test.YtcnmbllafdeokaaG1
import Derived.Laws.BitsAllLaws
import Derived.Test.YtcnmbllafdeokaaG3
/- A range over a func whose iterator itself goes over another one: the iterator's invariant abides what a loop's records do, and a round leaves those alone. -/
namespace Go.Proofs.Ytcnmbllafdeokaa.H
open Go.RowKit Go.Proofs.YtcnmbllafdeokaaW.PrintWords Go.Proofs.YtcnmbllafdeokaaW.PrintLast Go.Proofs.YtcnmbllafdeokaaW.PrintMore
set_option linter.unusedVariables false

theorem kf_put {B : Nat} {W : World} {l : Nat} (hl : l < B) (o : Obj) : KeepsFrom B W (W.putObj l o) := ⟨by simp, fun k p hB hk _ => (World.putObj_heap_other (by omega)).trans hk⟩
theorem kf_wide {B B' : Nat} {W W' : World} (h : KeepsFrom B W W') (hb : B ≤ B') : KeepsFrom B' W W' := ⟨h.size, fun k o hk => h.same k o (by omega)⟩
theorem kf_lies {B B' : Nat} {W W' : World} (h : Lies B' W W') (hs : W.heap.size ≤ B') : KeepsFrom B W W' := ⟨h.size, fun k o _ hk _ => h.same k o hk (.inl (by have := lt_of_some hk; omega))⟩
theorem Lies.wide {B B' : Nat} {W W' : World} (h : Lies B' W W') (hb : B ≤ B') : Lies B W W' := ⟨h.os, h.tape, h.output, h.size, fun k o hk ho => h.same k o hk (ho.imp (fun h => by omega) id)⟩
/-- What lies from B on and was there at s lies as it lay, but for blocks of the types T: rows that a round may write. -/
def Kin (T : TypeId → Prop) (B s : Nat) (A A' : World) : Prop := A.heap.size ≤ A'.heap.size ∧ ∀ k, B ≤ k → k < s → (∀ t cs z, A.heap[k]? = some (.cells cs t z) → ¬ T t) → A'.heap[k]? = A.heap[k]?
section
variable {T : TypeId → Prop}
theorem noC {W : World} {k : Nat} {o : Obj} (h : W.heap[k]? = some o) (ho : o.isCells = false) : ∀ t cs z, W.heap[k]? = some (.cells cs t z) → ¬ T t := fun t cs z e => by
  rw [h] at e; injection e with e; subst e; cases ho
theorem isC {W : World} {k : Nat} {cs : Array Value} {t : TypeId} {z : Nat × Nat} (h : W.heap[k]? = some (.cells cs t z)) (ht : ¬ T t) : ∀ t cs z, W.heap[k]? = some (.cells cs t z) → ¬ T t := fun t' cs' z' e => by
  rw [h] at e; injection e with e; injection e with _ e _; subst e; exact ht
theorem Kin.refl (B s : Nat) (A : World) : Kin T B s A A := ⟨Nat.le_refl _, fun _ _ _ _ => rfl⟩
theorem Kin.trans {B s : Nat} {X Y Z : World} (h : Kin T B s X Y) (k : Kin T B s Y Z) : Kin T B s X Z := ⟨Nat.le_trans h.1 k.1, fun i h1 h2 h3 => (k.2 i h1 h2 (fun t cs z e => h3 t cs z ((h.2 i h1 h2 h3).symm.trans e))).trans (h.2 i h1 h2 h3)⟩
theorem Kin.put {B s : Nat} {W : World} {l : Nat} (hl : l < B) (o : Obj) : Kin T B s W (W.putObj l o) := ⟨by simp, fun k h1 _ _ => World.putObj_heap_other (by omega)⟩
theorem Kin.wide {B B' s : Nat} {A A' : World} (h : Kin T B s A A') (hb : B ≤ B') : Kin T B' s A A' := ⟨h.1, fun k h1 h2 h3 => h.2 k (by omega) h2 h3⟩
theorem Kin.of_below {B s : Nat} {A A' : World} (h : Below A.heap.size A A') (hs : s ≤ A.heap.size) : Kin T B s A A' := ⟨h.size, fun k _ h2 _ => h.block k (by omega)⟩
theorem Kin.set {B s : Nat} {A : World} {p : Addr} (hp : p.block < B ∨ s ≤ p.block) (v : Value) : Kin T B s A (A.setCell p v) :=
  ⟨by show A.heap.size ≤ (A.heap.modify _ _).size; rw [Array.size_modify]; exact Nat.le_refl _, fun k h1 h2 _ => Below.heap_setCell A p v k (fun e => by subst e; omega)⟩
end
/-- **AN ITERATOR's CONTRACT**, where it may lay loops and boxes of its own. -/
def SeqZ {α : Type} (T : TypeId → Prop) (F : Fence) (n : Nat) (P : Program) (g : Nat) (lb : Array Value) (Y : List α → α → Array Value → World → Prop) (n₀ : Nat) (Kb : Nat → Prop) (S Sp : List α → Prop) (w : World) : Prop :=
  ∀ (l : Nat) (J Jx : List α → World → Prop) (W : World), Kp n₀ Kb w W →
    (∀ s A B, J s A → Lies W.heap.size A B → J s B) → (∀ s A B, Jx s A → Lies W.heap.size A B → Jx s B) →
    (∀ pre x vs W1, J pre W1 → Y pre x vs W1 → YieldAt F (n - 1) P l vs W1 fun e W' =>
      (e = .returned (.bool true) ∧ J (pre ++ [x]) W' ∧ Kp n₀ Kb W1 W' ∧ Kin T W.heap.size W1.heap.size W1 W') ∨ (e = .returned (.bool false) ∧ Jx (pre ++ [x]) W' ∧ Kin T W.heap.size W1.heap.size W1 W')) →
    J [] W →
    CallsIn F n P g (#[.func (.yield l) #[] #[]] ++ lb) W fun e W' => (∃ v, e = .returned v) ∧ ((∃ xs, S xs ∧ J xs W') ∨ (∃ pre, Sp pre ∧ Jx pre W'))
theorem yieldAt_mono {F : Fence} {m : Nat} {P : Program} {l : Nat} {args : Array Value} {W : World} {R R' : Ending → World → Prop} (h : YieldAt F m P l args W R) (hr : ∀ e w, R e w → R' e w) : YieldAt F m P l args W R' := by
  obtain ⟨fn, tmps, asg, body, hy, hR⟩ := h
  exact ⟨fn, tmps, asg, body, hy, hR.mono hr⟩
theorem SeqX.z {α : Type} {T : TypeId → Prop} {F : Fence} {n : Nat} {P : Program} {g : Nat} {lb : Array Value} {Y : List α → α → Array Value → World → Prop} {n₀ : Nat} {Kb : Nat → Prop} {S Sp : List α → Prop} {w : World} (h : SeqX F n P g lb Y n₀ Kb S Sp w) : SeqZ T F n P g lb Y n₀ Kb S Sp w :=
  fun l J Jx W hK hJ hJx hY h0 => h l J Jx W hK (fun s A B hs hb => hJ s A B hs (.of_below hb)) (fun s A B hs hb => hJx s A B hs (.of_below hb))
    (fun pre x vs W1 hj hy => yieldAt_mono (hY pre x vs W1 hj hy) (fun e W' h => h.imp (fun h => ⟨h.1, h.2.1, h.2.2.1⟩) (fun h => ⟨h.1, h.2.1⟩))) h0
theorem room_wide (n : Nat) : Fence.wide.room n := fun d hd => by simp [wide_depth] at hd
theorem yieldAt_wide {P : Program} {l m m' : Nat} {args : Array Value} {W : World} {R : Ending → World → Prop} (h : YieldAt Fence.wide m P l args W R) : YieldAt Fence.wide m' P l args W R := by
  obtain ⟨fn, tmps, asg, body, hy, h1, h2⟩ := h
  exact ⟨fn, tmps, asg, body, hy, h1, fun c cs _ => h2 c cs (room_wide _)⟩
theorem roundIn_in {F : Fence} {n : Nat} {P : Program} {l : Nat} {f : FuncId} {tmps : Array Value} {assign body : Code} {w : World} {R : Ending → World → Prop} (l2 : Nat) (h : RoundIn F n P l f tmps assign body w R) : RoundIn (F.inRound l2) n P l f tmps assign body w R := h
/-- How a round's body may be left. -/
def zPost {α : Type} (T : TypeId → Prop) (B s n₀ : Nat) (Kb : Nat → Prop) (I : List α → World → Prop) (Ix : Code → List α → World → Prop) (xs : List α) (Wb : World) : Exit → Act → World → Prop
  | .normal, _, W' => Kin T B s Wb W' ∧ Kp n₀ Kb Wb W' ∧ I xs W'
  | .ret, _, W' => Kin T B s Wb W' ∧ Ix .ret xs W'
  | .exit id, _, W' => Kin T B s Wb W' ∧ Ix (.exit id) xs W'
  | .goto _, _, _ => False
  | .panic _, _, _ => False
  | .outgrown, _, _ => False

/-- **THE STATEMENT 'for .. := range seq { body }' BY THAT CONTRACT.** -/
theorem rangeZ {T : TypeId → Prop} {F : Fence} {n : Nat} {P : Program} {α : Type} {g : Operand} {ps : Array Tmp} {assign body : Code} {Q : Exit → Act → World → Prop} {a : Act} {w : World}
    (hro : F.round = none) (h1 : 1 ≤ n) {gf : Nat} {lb : Array Value} (hg : a.eval g = .func (.func gf) #[] lb) (hFg : F.fn gf) (eg : ∀ args w, (callFunc gf args).run P w = .ok (.enter gf args) w)
    {Y : List α → α → Array Value → World → Prop} {n₀ : Nat} {Kb : Nat → Prop} {S Sp : List α → Prop} (hseq : SeqZ T F (n - 1) P gf lb Y n₀ Kb S Sp w) (hn : n₀ ≤ w.heap.size)
    (hps : ∀ pre x vs W, Y pre x vs W → vs.size = ps.size)
    (I : List α → World → Prop) (Ix : Code → List α → World → Prop) (hI : ∀ s A B, I s A → Lies w.heap.size A B → I s B) (hIx : ∀ c s A B, Ix c s A → Lies w.heap.size A B → Ix c s B) (h0 : I [] w)
    (hround : ∀ (l : Nat) (pre : List α) (x : α) (vs : Array Value) (W : World), w.heap.size ≤ l → I pre W → Y pre x vs W → w.heap.size ≤ W.heap.size →
      assign.wpIn (F.inRound l) (n - 1 - 1) P (Exit.then (fun a' Wa => Kin T w.heap.size W.heap.size W Wa ∧ Kp n₀ Kb W Wa ∧ ∀ Wb, Lies w.heap.size Wa Wb → body.wpIn (F.inRound l) (n - 1 - 1) P (zPost T w.heap.size W.heap.size n₀ Kb I Ix (pre ++ [x]) Wb) a' Wb) (fun _ _ _ => False))
        { tmps := (ps.zip vs).foldl (fun t (p, v) => t.setIfInBounds p v) a.tmps, defers := [] } W)
    (hdone : ∀ (D : Nat) (xs : List α) (W : World), w.heap.size ≤ D → S xs → I xs W → W.heap[D]? = some (.deferred (some [])) → Q .normal { a with defers := { target := .collected D, args := #[] } :: a.defers } W)
    (hstop : ∀ (D : Nat) (c : Code) (pre : List α) (W : World), w.heap.size ≤ D → Sp pre → Ix c pre W → W.heap[D]? = some (.deferred (some [])) → c.wpIn F n P Q { a with defers := { target := .collected D, args := #[] } :: a.defers } W) :
    (Code.rangeFunc g ps assign body).wpIn F n P Q a w := by
  refine wpIn_rangeFunc fun fn hfn => ?_
  rw [hro]
  obtain ⟨D, eD⟩ : ∃ D, D = w.heap.size := ⟨_, rfl⟩
  obtain ⟨rec, hrec⟩ : ∃ rec : LoopState → Option Code → Loop, rec = fun st pe => { state := st, pending := pe, fn, tmps := a.tmps, params := ps, assign, body, defers := D } := ⟨_, rfl⟩
  have hst : ∀ st pe, (rec st pe).state = st := fun _ _ => by rw [hrec]
  have hpe : ∀ st pe, (rec st pe).pending = pe := fun _ _ => by rw [hrec]
  have hre : ∀ st pe st', ({ rec st pe with state := st' } : Loop) = rec st' pe := fun _ _ _ => by rw [hrec]
  have hre2 : ∀ st pe st' pe', ({ rec st pe with state := st', pending := pe' } : Loop) = rec st' pe' := fun _ _ _ _ => by rw [hrec]
  have hbW : Below w.heap.size w ((w.alloc (.deferred (some []))).alloc (.loop (rec .ready none))) := ((Below.refl _ w).alloc (Nat.le_refl _) _).alloc (by simp) _
  have hL1 : ((w.alloc (.deferred (some []))).alloc (.loop (rec .ready none))).heap[D + 1]? = some (.loop (rec .ready none)) := by
    have := World.alloc_heap_new (w.alloc (.deferred (some []))) (.loop (rec .ready none)); rwa [World.size_alloc, ← eD] at this
  have hD1 : ((w.alloc (.deferred (some []))).alloc (.loop (rec .ready none))).heap[D]? = some (.deferred (some [])) := by
    rw [eD]; exact (Below.heap_alloc _ _ _ (by simp)).trans (World.alloc_heap_new w _)
  have hrun : (Instr.enterLoop fn a.tmps ps assign body none).run P w = .ok (D + 1, [{ target := .collected D, args := #[] }]) ((w.alloc (.deferred (some []))).alloc (.loop (rec .ready none))) := by
    rw [hrec, eD]; exact run_enterLoop_outer _ _ _ _ _
  have hI1 : I [] ((w.alloc (.deferred (some []))).alloc (.loop (rec .ready none))) := hI _ _ _ h0 (.of_below hbW)
  have hkp1 : Kp n₀ Kb w ((w.alloc (.deferred (some []))).alloc (.loop (rec .ready none))) := .of_below hbW hn
  generalize ((w.alloc (.deferred (some []))).alloc (.loop (rec .ready none))) = W1 at hbW hL1 hD1 hrun hI1 hkp1
  have hlt1 := lt_of_some hL1
  refine ⟨D + 1, [{ target := .collected D, args := #[] }], W1, { target := .fn (.func gf) lb, args := #[.func (.yield (D + 1)) #[] #[]] }, W1, gf,
    #[.func (.yield (D + 1)) #[] #[]] ++ lb, W1, hrun, ?_, ?_, ?_, fun _ => h1, ?_⟩
  · simp only [resolve, hg]
    simp [go_sem]
  · intro f' hf'
    simp [Target.leads] at hf'
    subst hf'
    exact hFg
  · simp [invoke, go_sem, eg]
  · refine (hseq (D + 1)
      (fun pre W => I pre W ∧ W.heap[D + 1]? = some (.loop (rec .ready none)) ∧ W.heap[D]? = some (.deferred (some [])))
      (fun pre W => ∃ c, Ix c pre W ∧ W.heap[D + 1]? = some (.loop (rec .done (some c))) ∧ W.heap[D]? = some (.deferred (some [])))
      W1 hkp1
      (fun s A B h hb => ⟨hI _ _ _ h.1 (hb.wide hbW.size), hb.same _ _ h.2.1 (.inl hlt1), hb.same _ _ h.2.2 (.inl (by omega))⟩)
      (fun s A B ⟨c, h1, h2, h3⟩ hb => ⟨c, hIx _ _ _ _ h1 (hb.wide hbW.size), hb.same _ _ h2 (.inl hlt1), hb.same _ _ h3 (.inl (by omega))⟩)
      ?_ ⟨hI1, hL1, hD1⟩).mono ?_
    · rintro pre x vs W ⟨hi, hl, hd⟩ hy
      have hrunY := run_yield (P := P) (args := vs) hl (by rw [hrec]; exact hps _ _ _ _ hy)
      rw [hrec] at hrunY
      refine ⟨fn, _, assign, body, hrunY, roundIn_of_wpIn hfn ?_⟩
      have hlt := lt_of_some hl
      refine wpIn_mono (hround (D + 1) pre x vs W (by omega) hi hy (by omega)) ?_
      rintro e a1 Wa hpa
      cases e with
      | normal =>
        obtain ⟨hk1, hk2, hk3⟩ := hpa
        have hla := (hk1.2 (D + 1) (by omega) hlt (noC hl rfl)).trans hl
        have hda := (hk1.2 D (by omega) (by omega) (noC hd rfl)).trans hd
        refine ⟨_, run_beginRound hla (hst _ _), ?_⟩
        rw [hre]
        have hlies : Lies w.heap.size Wa (Wa.putObj (D + 1) (.loop (rec .busy none))) := .put (by omega) hla rfl _
        have hlb : (Wa.putObj (D + 1) (.loop (rec .busy none))).heap[D + 1]? = some (.loop (rec .busy none)) := World.putObj_heap_same (lt_of_some hla)
        have hdb : (Wa.putObj (D + 1) (.loop (rec .busy none))).heap[D]? = some (.deferred (some [])) := (World.putObj_heap_other (by omega)).trans hda
        have hkb : Kp n₀ Kb W (Wa.putObj (D + 1) (.loop (rec .busy none))) := hk2.trans (.put (by omega) _)
        have hbody := hk3 _ hlies
        have hkf : Kin T W1.heap.size W.heap.size W (Wa.putObj (D + 1) (.loop (rec .busy none))) := (hk1.wide hbW.size).trans (.put hlt1 _)
        generalize Wa.putObj (D + 1) (.loop (rec .busy none)) = Wb at hlb hdb hkb hbody hkf
        refine wpIn_mono hbody ?_
        have fin : ∀ (jump : Option Code) (W3 : World), Kin T w.heap.size W.heap.size Wb W3 →
            (Instr.endRound (D + 1) jump).run P W3 = .ok (.bool jump.isNone) (W3.putObj (D + 1) (.loop (rec (if jump.isNone then .ready else .done) jump))) ∧
            Lies w.heap.size W3 (W3.putObj (D + 1) (.loop (rec (if jump.isNone then .ready else .done) jump))) ∧
            (W3.putObj (D + 1) (.loop (rec (if jump.isNone then .ready else .done) jump))).heap[D + 1]? = some (.loop (rec (if jump.isNone then .ready else .done) jump)) ∧
            (W3.putObj (D + 1) (.loop (rec (if jump.isNone then .ready else .done) jump))).heap[D]? = some (.deferred (some [])) := fun jump W3 hk => by
          have hl3 := (hk.2 (D + 1) (by omega) hlt (noC hlb rfl)).trans hlb
          have hd3 := (hk.2 D (by omega) (by omega) (noC hdb rfl)).trans hdb
          have := run_endRound (P := P) jump hl3
          rw [hre2] at this
          exact ⟨this, .put (by omega) hl3 rfl _, World.putObj_heap_same (lt_of_some hl3), (World.putObj_heap_other (by omega)).trans hd3⟩
        rintro e a3 W3 hp
        cases e with
        | normal =>
          obtain ⟨q1, q2, q3⟩ := hp
          obtain ⟨f1, f2, f3, f4⟩ := fin none W3 q1
          exact ⟨_, _, f1, .inl ⟨rfl, ⟨hI _ _ _ q3 f2, f3, f4⟩, (hkb.trans q2).trans (.put (by omega) _), (hkf.trans (q1.wide hbW.size)).trans (.put hlt1 _)⟩⟩
        | ret =>
          obtain ⟨q1, q3⟩ := hp
          obtain ⟨f1, f2, f3, f4⟩ := fin (some .ret) W3 q1
          exact ⟨_, _, f1, .inr ⟨rfl, ⟨.ret, hIx _ _ _ _ q3 f2, f3, f4⟩, (hkf.trans (q1.wide hbW.size)).trans (.put hlt1 _)⟩⟩
        | exit id =>
          obtain ⟨q1, q3⟩ := hp
          obtain ⟨f1, f2, f3, f4⟩ := fin (some (.exit id)) W3 q1
          exact ⟨_, _, f1, .inr ⟨rfl, ⟨.exit id, hIx _ _ _ _ q3 f2, f3, f4⟩, (hkf.trans (q1.wide hbW.size)).trans (.put hlt1 _)⟩⟩
        | goto t => exact hp.elim
        | panic ch => exact hp.elim
        | outgrown => exact hp.elim
      | ret => exact hpa.elim
      | exit id => exact hpa.elim
      | goto t => exact hpa.elim
      | panic ch => exact hpa.elim
      | outgrown => exact hpa.elim
    · rintro e W2 ⟨⟨v, rfl⟩, (⟨xs, hS, hi, hl, hd⟩ | ⟨pre, hSp, c, hi, hl, hd⟩)⟩
      · refine ⟨none, _, by have := run_endLoop (P := P) hl (by rw [hst]; simp); rw [hpe] at this; exact this, ?_⟩
        exact hdone D xs _ (by omega) hS (hI _ _ _ hi (.put (by omega) hl rfl _)) ((World.putObj_heap_other (by omega)).trans hd)
      · refine ⟨some c, _, by have := run_endLoop (P := P) hl (by rw [hst]; simp); rw [hpe] at this; exact this, ?_⟩
        exact hstop D c pre _ (by omega) hSp (hIx _ _ _ _ hi (.put (by omega) hl rfl _)) ((World.putObj_heap_other (by omega)).trans hd)
end Go.Proofs.Ytcnmbllafdeokaa.H
/- package atom: Right, the right atoms, those within a set; set.Within. -/
namespace Go.Proofs.Ytcnmbllafdeokaa.H
open Go.RowKit Go.Proofs.YtcnmbllafdeokaaW.PrintWords Go.Proofs.YtcnmbllafdeokaaW.PrintLast Go.Proofs.YtcnmbllafdeokaaW.PrintMore Go.Proofs.Ytcnmbllafdeokaa.TrM Go.Proofs.Ytcnmbllafdeokaa.AtM
set_option linter.unusedVariables false
set_option linter.unusedSimpArgs false
set_option maxRecDepth 100000
attribute [local go_sem] Oper.semAt_some wide_fn wide_depth

/-- Atoms in memory. -/
abbrev KAt : Kd At := Kd.pair (Kd.int .u64) (Kd.int .i64)
abbrev encA (x : At) : Value := .agg #[.int .u64 x.1, .int .i64 x.2]
theorem at_atom {w : World} {A : Option Addr} {n : Nat} {xs : List At} (h : Kd.C KAt w A n xs) {i : Nat} (hi : i < n) {s v : Int} (ho : xs[i]? = some (s, v)) :
    ∃ ad, A = some ad ∧ w.cell? (ad.add (i * 2)) = some (.int .u64 s) ∧ w.cell? ⟨(ad.add (i * 2)).block, (ad.add (i * 2)).off + 1, none⟩ = some (.int .i64 v) := by
  obtain ⟨ad, c, e, _, hK, hc0⟩ := Kd.C_get h ((0, 0) : At) (i : Int) (by omega) (by omega)
  rw [Int.toNat_natCast] at hK hc0
  have eg : xs.getD i ((0, 0) : At) = (s, v) := by rw [List.getD_eq_getElem?_getD, ho]; rfl
  rw [eg] at hK
  have hc : ∀ j u, c[j]? = some u → w.cell? (ad.add (i * 2 + j)) = some u := hc0
  obtain ⟨_, _, rfl, rfl, rfl⟩ := hK
  exact ⟨ad, e, hc 0 _ rfl, by rw [← add_field _ _ 1 (by omega)]; exact hc 1 _ rfl⟩
theorem Right_eq (s v : Int) (b : Bool) (W : World) (hb : rightA (s, v) = b) : Calls Try.prog 13 #[.agg #[.int .u64 s, .int .i64 v]] W fun e W' => e = .returned (.bool b) ∧ Below W.heap.size W W' := by
  have hx : rightA (s, v) = (!(decide (s = 0)) && decide (1 ≤ v) && decide (v ≤ 1099511627776)) := by
    unfold rightA; apply Bool.eq_iff_iff.2; simp [and_assoc]
  rw [hx] at hb
  subst hb
  have hB : Below W.heap.size W (W.alloc (.cells #[.int .u64 s, .int .i64 v] 29)) := below_alloc (Below.refl _ _) _
  have HB := Aside0.mk hB
  clear hB hx
  by_cases c1 : s = 0
  · subst c1
    go_enter Try.func13, Try.ntmps13
    go_wp2
    go_ret
    exact ⟨rfl, HB.out⟩
  · have a1 : (s != 0) = true := by rw [bne_iff_ne]; exact c1
    have a2 : decide (s = 0) = false := decide_eq_false c1
    rw [a2]
    by_cases c2 : 1 ≤ v
    · have a3 : decide (1 ≤ v) = true := decide_eq_true c2
      rw [a3]
      obtain ⟨b3, hb3⟩ : ∃ b, decide (v ≤ 1099511627776) = b := ⟨_, rfl⟩
      have HB3 := Lib.hid hb3
      clear c1 c2 a2 hb3
      go_enter Try.func13, Try.ntmps13
      go_wp2
      go_ret
      exact ⟨by simp, HB.out⟩
    · have a3 : decide (1 ≤ v) = false := decide_eq_false c2
      rw [a3]
      clear c1 c2 a2
      go_enter Try.func13, Try.ntmps13
      go_wp2
      go_ret
      exact ⟨by simp, HB.out⟩
theorem andNot_wth {a b : Int} (ha : U64 a) (hb : U64 b) : (bits .andNot .u64 a b == 0) = wthB a b := by
  have h64 : (2 : Nat) ^ 64 = 18446744073709551616 := by decide
  have hbn := nat_lt hb
  have han := nat_lt ha
  rw [u64_andNot a b ha.1 ha.2 hb.1 hb.2]
  have e1 : 18446744073709551615 - b.toNat = 2 ^ 64 - (b.toNat + 1) := by omega
  rw [e1]
  apply Bool.eq_iff_iff.2
  rw [beq_iff_eq, wth_iff]
  constructor
  · intro h i hi
    have h0 : a.toNat &&& (2 ^ 64 - (b.toNat + 1)) = 0 := by omega
    have h1 := congrArg (fun n => n.testBit i) h0
    simp only [Nat.testBit_and, Nat.zero_testBit, Nat.testBit_two_pow_sub_succ hbn, hi, Bool.true_and, testBit_big han hi, decide_true] at h1
    simpa using h1
  · intro h
    have h0 : a.toNat &&& (2 ^ 64 - (b.toNat + 1)) = 0 := by
      apply Nat.eq_of_testBit_eq
      intro i
      simp only [Nat.testBit_and, Nat.zero_testBit, Nat.testBit_two_pow_sub_succ hbn]
      cases hi : a.toNat.testBit i with
      | false => rfl
      | true => simp [h i hi]
    rw [h0]; rfl
theorem SWithin_eq (a b : Int) (r : Bool) (W : World) (ha : U64 a) (hb : U64 b) (hr : wthB a b = r) : Calls Try.prog 19 #[.int .u64 a, .int .u64 b] W fun e W' => e = .returned (.bool r) ∧ W = W' := by
  rw [← andNot_wth ha hb] at hr
  obtain ⟨x, hx⟩ : ∃ x, bits .andNot .u64 a b = x := ⟨_, rfl⟩
  rw [hx] at hr
  subst hr
  clear ha hb
  go_enter Try.func19, Try.ntmps19
  go_wp2
  go_ret
  exact ⟨rfl, rfl⟩
theorem right_calls (A : Option Addr) (n c : Nat) (w : World) : Calls Try.prog 18 #[.slice A n c] w fun e w' =>
    e = .returned (.func (.func 24) #[] #[.pointer (some ⟨w.heap.size, 0, none⟩)]) ∧ w' = w.alloc (.cells #[.slice A n c] 22) := by
  go_enter Try.func18, Try.ntmps18
  go_wp2
  go_ret
  exact ⟨rfl, rfl⟩
/-- What a func over atoms tells a round. -/
def AtY (xs : List At) (pre : List At) (x : At) (vs : Array Value) (W : World) : Prop := pre ++ [x] <+: xs ∧ vs = #[encA x]
theorem filter_take (p : At → Bool) (al : List At) (k : Nat) (x : At) (hx : al[k]? = some x) : (al.take (k + 1)).filter p = (al.take k).filter p ++ if p x = true then [x] else [] := by
  rw [List.take_add_one, hx, List.filter_append]
  congr 1
  simp [List.filter_cons]
theorem filter_take_pre (p : At → Bool) (al : List At) (k : Nat) : (al.take k).filter p <+: al.filter p := (List.take_prefix k al).filter p
set_option maxHeartbeats 1600000 in
theorem right1_seq (n : Nat) (al : List At) (A : Option Addr) (c bb n₀ : Nat) (Kb : Nat → Prop) (w : World)
    (hbox : ∀ W, Kp n₀ Kb w W → W.cell? ⟨bb, 0, none⟩ = some (.slice A al.length c)) (hC : ∀ W, Kp n₀ Kb w W → Kd.C KAt W A al.length al) (hn : n₀ ≤ w.heap.size) :
    SeqX Fence.wide n Try.prog 24 #[.pointer (some ⟨bb, 0, none⟩)] (AtY (al.filter rightA)) n₀ Kb (fun ys => ys = al.filter rightA) (fun _ => True) w := by
  intro l J Jx W hK hJ hJx hY h0
  have hm : al.length ≤ 9223372036854775807 := (hC W hK).2.1
  have hcell := hbox W hK
  refine callsIn_of_wp Try.func24 rfl trivial ?_ rfl
  simp only [Try.ntmps24, List.size_toArray, List.length_cons, List.length_nil, Nat.reduceAdd, Nat.reduceSub, Array.replicate_succ, Array.replicate_zero, List.push_toArray, List.append_toArray, List.nil_append, List.cons_append]
  gi_wp2
  gi_loopw [7] (fun p wr => ∃ k : Nat, p = .int .i64 (k : Int) ∧ k ≤ al.length ∧ J ((al.take k).filter rightA) wr ∧ Kp n₀ Kb w wr) (fun p _ => al.length - (intOf p).toNat)
  case atStart => exact ⟨0, rfl, Nat.zero_le _, by simpa using h0, hK⟩
  case round =>
    obtain ⟨k, rfl, hk, h4, h5⟩ := hrel
    by_cases hlt : k < al.length
    · obtain ⟨⟨s, v⟩, ho⟩ : ∃ o, al[k]? = some o := ⟨_, List.getElem?_eq_getElem hlt⟩
      obtain ⟨ad, e0, hx0, hx1⟩ := at_atom (hC wr h5) hlt ho
      subst e0
      have hllt : (k : Int) < (al.length : Int) := by omega
      have hft := filter_take rightA al k (s, v) ho
      have hpre := filter_take_pre rightA al (k + 1)
      have hba : Below wr.heap.size wr (wr.alloc (.cells #[.int .u64 s, .int .i64 v] 29)) := below_alloc (Below.refl _ _) _
      obtain ⟨b, hb⟩ : ∃ b, rightA (s, v) = b := ⟨_, rfl⟩
      rw [hb] at hft
      have HB := Lib.hid hb
      cases b with
      | false =>
        simp only [Bool.false_eq_true, if_false, List.append_nil] at hft
        have HF := Lib.hid hft
        clear hft hpre hb ho
        gi_wp2_with (fail)
        refine (callsIn_wide.2 (Right_eq s v false _ HB.out)).mono ?_
        rintro e w1 ⟨rfl, hb1⟩
        have hbb := below_step hba hb1
        clear hb1
        gi_wp2
        go_roundw
        case rel => exact ⟨k + 1, by go_num, by omega, by rw [HF.out]; exact hJ _ _ _ h4 hbb, h5.trans (.of_below hbb (by have := h5.1; omega))⟩
        case measure => simp [intOf]; omega
      | true =>
        simp only [if_true] at hft
        rw [hft] at hpre
        have HF := Lib.hid hft
        clear hft hb ho
        gi_wp2_with (fail)
        refine (callsIn_wide.2 (Right_eq s v true _ HB.out)).mono ?_
        rintro e w1 ⟨rfl, hb1⟩
        have hbx := blk_belowX (blk_new wr (.cells #[.int .u64 s, .int .i64 v] 29)) hb1
        have y0 : w1.cell? ⟨wr.heap.size, 0, none⟩ = some (.int .u64 s) := by rw [blk_cell hbx]; rfl
        have y1 : w1.cell? ⟨wr.heap.size, 1, none⟩ = some (.int .i64 v) := by rw [blk_cell hbx]; rfl
        have hbb := below_step hba hb1
        obtain ⟨fn, tmps, asg, body, hy, hR⟩ := hY _ (s, v) _ w1 (hJ _ _ _ h4 hbb) ⟨hpre, rfl⟩
        have hK1 := h5.trans (.of_below hbb (by have := h5.1; omega))
        clear hb1 hbx
        gi_wp2
        refine hR.mono ?_
        rintro e W3 (⟨rfl, hJ3, hk3⟩ | ⟨rfl, hJx3⟩)
        · gi_wp2
          go_roundw
          case rel => exact ⟨k + 1, by go_num, by omega, by rw [HF.out]; exact hJ3, hK1.trans hk3⟩
          case measure => simp [intOf]; omega
        · gi_wp2
          refine bodyPost_ret (results_none rfl _ _ _) rfl ?_
          exact ⟨⟨_, rfl⟩, .inr ⟨_, trivial, hJx3⟩⟩
    · obtain rfl : k = al.length := by omega
      rw [List.take_length] at h4
      gi_wp2
      go_end0
      exact ⟨⟨_, rfl⟩, .inl ⟨_, rfl, h4⟩⟩
end Go.Proofs.Ytcnmbllafdeokaa.H
/- The laws' arguments: rows of atoms. -/
namespace Go.Proofs.Ytcnmbllafdeokaa.R09
open Go.RowKit Go.Proofs.YtcnmbllafdeokaaW.PrintWords Go.Proofs.Ytcnmbllafdeokaa.H Go.Proofs.Ytcnmbllafdeokaa.AtM Go.Proofs.Ytcnmbllafdeokaa.PAll9
set_option linter.unusedVariables false
theorem opensA : Opens Try.prog 29 KAt (fun x => (Lit.int .u64 x.1).wf = true ∧ (Lit.int .i64 x.2).wf = true) :=
  opens_struct Try.underlying29 (by kernel_rfl) (opens_cons rfl (by kernel_rfl) (opens_int Try.underlying23) (opens_last rfl (by kernel_rfl) (opens_int Try.underlying2)))
theorem opensAs : Opens Try.prog 22 (Kd.slice 29 KAt) (fun l => ∀ x ∈ l, (Lit.int .u64 x.1).wf = true ∧ (Lit.int .i64 x.2).wf = true) := opens_slice (0, 0) Try.underlying22 (by kernel_rfl) opensA
theorem goodA {l : List At} (g : ∀ x ∈ l, (Lit.int .u64 x.1).wf = true ∧ (Lit.int .i64 x.2).wf = true) : ∀ x ∈ l, U64 x.1 := fun x hx => wf_u64 (g x hx).1
theorem C_of {W : World} {A : Option Addr} {l : List At} (m : Kd.C KAt W A l.length l) : Kd.C k29 W A (l.map ofA).length (l.map ofA) := by
  rw [List.length_map]
  exact C_iso' (by
    have : ((l.map ofA).map fun x : SA => (x.f0, x.f1)) = l := to_of l
    rw [this]; exact m)
theorem and_mask (a : Int) (m : Nat) (hm : m < 9223372036854775808) : 0 ≤ bits .and .i64 a (m : Int) ∧ bits .and .i64 a (m : Int) ≤ m := by
  have e : bits .and .i64 a (m : Int) = IntKind.i64.wrap (((BitVec.ofInt 64 a) &&& (BitVec.ofInt 64 (m : Int))).toNat : Int) := rfl
  have hle : ((BitVec.ofInt 64 a) &&& (BitVec.ofInt 64 (m : Int))).toNat ≤ m := by
    rw [BitVec.ofInt_natCast, BitVec.toNat_and, BitVec.toNat_ofNat, Nat.mod_eq_of_lt (by omega : m < 2 ^ 64)]
    exact Nat.and_le_right
  rw [e, IntKind.wrap_i64]
  generalize ((BitVec.ofInt 64 a) &&& (BitVec.ofInt 64 (m : Int))).toNat = z at hle ⊢
  omega
end Go.Proofs.Ytcnmbllafdeokaa.R09
/- The document's answers about atoms, and what the print tells of package atom: what they come to. -/
namespace Go.Proofs.Ytcnmbllafdeokaa.R09
open Go.RowKit Go.Proofs.Ytcnmbllafdeokaa.Ult Go.Proofs.Ytcnmbllafdeokaa.AtM Go.Proofs.Ytcnmbllafdeokaa.R02 Go.Proofs.Ytcnmbllafdeokaa.PAll9
set_option linter.unusedVariables false
set_option linter.unusedSimpArgs false
/-! ### Same, Equal -/
theorem ofA_inj {x y : At} : (x.1 = y.1 ∧ x.2 = y.2) ↔ x = y := by
  constructor
  · rintro ⟨h1, h2⟩; exact Prod.ext h1 h2
  · rintro rfl; exact ⟨rfl, rfl⟩
theorem same_l0 (a b : List At) (hl : a.length = b.length) (ha : a.length ≤ 600000) : ∀ (d i : Nat), i + d = a.length → Ult (fun k => saleroomref09_Same.l0 k (a.map ofA) (b.map ofA) (i : Int)) (decide (a.drop i = b.drop i)) := by
  intro d
  induction d with
  | zero =>
    intro i hi
    refine Ult.succ ?_
    simp only [saleroomref09_Same.l0, List.length_map]
    refine Ult.neg (by omega) (Ult.const ?_)
    rw [List.drop_of_length_le (by omega), List.drop_of_length_le (by omega)]; rfl
  | succ d ih =>
    intro i hi
    refine Ult.succ ?_
    simp only [saleroomref09_Same.l0, List.length_map, rd_of]
    have hil : i < a.length := by omega
    have hib : i < b.length := by omega
    refine Ult.pos (by omega) (Ult.pos (by omega) (Ult.pos (by omega) ?_))
    rw [show wrap64 ((i : Int) + 1) = ((i + 1 : Nat) : Int) by rw [w64 (by omega) (by omega)]; rfl]
    have hx : a[i] = g0 a i := by unfold g0; rw [List.getD_eq_getElem?_getD, List.getElem?_eq_getElem hil]; rfl
    have hy : b[i] = g0 b i := by unfold g0; rw [List.getD_eq_getElem?_getD, List.getElem?_eq_getElem hib]; rfl
    have hd : decide (a.drop i = b.drop i) = (decide (g0 a i = g0 b i) && decide (a.drop (i + 1) = b.drop (i + 1))) := by
      rw [List.drop_eq_getElem_cons hil, List.drop_eq_getElem_cons hib, hx, hy]
      simp
    rw [hd]
    refine Ult.ite (fun h => Ult.const ?_) (fun h => ?_)
    · rw [decide_eq_false (fun e => ?_)]
      · rfl
      · rw [e] at h; simp at h
    · have e : g0 a i = g0 b i := by
        apply ofA_inj.1
        simpa [ofA] using h
      rw [decide_eq_true e, Bool.true_and]
      exact ih (i + 1) (by omega)
theorem same_ev (a b : List At) (ha : a.length ≤ 600000) : Ult (fun k => saleroomref09_Same.f k (a.map ofA) (b.map ofA)) (decide (a = b)) := by
  unfold saleroomref09_Same.f
  rw [List.length_map, List.length_map]
  refine Ult.ite (fun h => same_l0 a b (by omega) ha a.length 0 (by omega)) (fun h => Ult.const ?_)
  rw [decide_eq_false (fun e => h (by rw [e]))]
theorem right1_f (v : Int) : saleroomref01_Right.f v = some (decide (0 ≤ v ∧ v ≤ 1099511627776)) := by
  unfold saleroomref01_Right.f
  split
  · congr 1; apply decide_eq_decide.2; omega
  · rw [decide_eq_false (by omega)]
end Go.Proofs.Ytcnmbllafdeokaa.R09
/- package atom: the right atoms within a set. -/
namespace Go.Proofs.Ytcnmbllafdeokaa.H
open Go.RowKit Go.Proofs.YtcnmbllafdeokaaW.PrintWords Go.Proofs.YtcnmbllafdeokaaW.PrintLast Go.Proofs.YtcnmbllafdeokaaW.PrintMore Go.Proofs.Ytcnmbllafdeokaa.TrM Go.Proofs.Ytcnmbllafdeokaa.AtM
set_option linter.unusedVariables false
set_option linter.unusedSimpArgs false
set_option maxRecDepth 100000
attribute [local go_sem] Oper.semAt_some wide_fn wide_depth

/-- Rows of atoms: a round may write its own. -/
def TA : TypeId → Prop := fun t => t = 29
theorem Within_calls (A : Option Addr) (n c : Nat) (s : Int) (w : World) : Calls Try.prog 5 #[.slice A n c, .int .u64 s] w fun e w' =>
    e = .returned (.func (.func 17) #[] #[.pointer (some ⟨w.heap.size, 0, none⟩), .pointer (some ⟨w.heap.size + 1, 0, none⟩)]) ∧ w' = (w.alloc (.cells #[.slice A n c] 22)).alloc (.cells #[.int .u64 s] 23) := by
  go_enter Try.func5, Try.ntmps5
  go_wp2
  go_ret
  exact ⟨rfl, rfl⟩
theorem filter_snoc (p : At → Bool) (xs : List At) (x : At) : (xs ++ [x]).filter p = xs.filter p ++ if p x = true then [x] else [] := by
  rw [List.filter_append]; congr 1; simp [List.filter_cons]
set_option maxHeartbeats 1600000 in
theorem Within1_seq (n : Nat) (al : List At) (s : Int) (A : Option Addr) (c ba bs n₀ : Nat) (Kb : Nat → Prop) (w : World) (hs : U64 s) (hu : ∀ x ∈ al, U64 x.1)
    (hA : ∀ W, Kp n₀ Kb w W → W.cell? ⟨ba, 0, none⟩ = some (.slice A al.length c)) (hS : ∀ W, Kp n₀ Kb w W → W.cell? ⟨bs, 0, none⟩ = some (.int .u64 s)) (hC : ∀ W, Kp n₀ Kb w W → Kd.C KAt W A al.length al) (hn : n₀ ≤ w.heap.size) :
    SeqZ TA Fence.wide n Try.prog 17 #[.pointer (some ⟨ba, 0, none⟩), .pointer (some ⟨bs, 0, none⟩)] (AtY (withinL al s)) n₀ Kb (fun ys => ys = withinL al s) (fun _ => True) w := by
  intro l J Jx W hK hJ hJx hY h0
  have hcA := hA W hK
  have hcS := hS W hK
  refine callsIn_wide.2 ((callsIn_wide (n := 5)).1 ?_)
  refine callsIn_of_wp_marks Try.func17 rfl trivial ?_ rfl
  simp only [Try.ntmps17, List.size_toArray, List.length_cons, List.length_nil, Nat.reduceAdd, Nat.reduceSub, Array.replicate_succ, Array.replicate_zero, List.push_toArray, List.append_toArray, List.nil_append, List.cons_append]
  have hWn := hK.1
  have hba : ba < W.heap.size := World.block_lt_of_cell? W ⟨ba, 0, none⟩ hcA
  have hbs : bs < W.heap.size := World.block_lt_of_cell? W ⟨bs, 0, none⟩ hcS
  gi_wp2_with (gi_at_call 18; refine (callsIn_wide.2 (right_calls _ _ _ _)).mono ?_; rintro e w1 ⟨rfl, rfl⟩)
  have hB2 : Below W.heap.size W ((W.alloc (.cells #[.func (.yield l) #[] #[]] 30)).alloc (.cells #[.slice A al.length c] 22)) := below_alloc (below_alloc (Below.refl _ _) _) _
  have g1 : ((W.alloc (.cells #[.func (.yield l) #[] #[]] 30)).alloc (.cells #[.slice A al.length c] 22)).heap[W.heap.size]? = some (.cells #[.func (.yield l) #[] #[]] 30 (0, 0)) := blk_alloc (blk_new W _) _
  have g2 := blk_new2 W (.cells #[.func (.yield l) #[] #[]] 30) (.cells #[.slice A al.length c] 22)
  have hsz : ((W.alloc (.cells #[.func (.yield l) #[] #[]] 30)).alloc (.cells #[.slice A al.length c] 22)).heap.size = W.heap.size + 2 := by simp
  generalize ((W.alloc (.cells #[.func (.yield l) #[] #[]] 30)).alloc (.cells #[.slice A al.length c] 22)) = w2 at hB2 g1 g2 hsz
  have hJ0 : J [] w2 := hJ _ _ _ h0 (.of_below hB2)
  have hK2 : Kp n₀ Kb w w2 := hK.trans (.of_below hB2 (by omega))
  have HY := Aside0.mk (And.intro hY (And.intro hJ (And.intro hJx (And.intro hA (And.intro hS (And.intro hC hu))))))
  have HK := Aside0.mk (And.intro hK (And.intro hB2 hsz))
  clear hY hA hS hu h0 hcA hcS
  refine rangeZ rfl (by omega) (gf := 24) (lb := #[.pointer (some ⟨W.heap.size + 1, 0, none⟩)]) rfl trivial (enters_of Try.func24 (by kernel_rfl) rfl)
    (Y := AtY (al.filter rightA)) (n₀ := w2.heap.size) (Kb := fun k => (k < n₀ ∧ Kb k) ∨ W.heap.size ≤ k) (S := fun xs => xs = al.filter rightA) (Sp := fun _ => True)
    (SeqX.z (T := TA) (right1_seq 4 al A c (W.heap.size + 1) w2.heap.size _ w2
      (fun X hk => by rw [blk_cell ((hk.2 (W.heap.size + 1) (by omega) (.inr (by omega))).trans g2) 0]; rfl)
      (fun X hk => hC X ⟨Nat.le_trans hK2.1 hk.1, fun k h1 h2 => (hk.2 k (by omega) (.inl ⟨h1, h2⟩)).trans (hK2.2 k h1 h2)⟩) (Nat.le_refl _))) (Nat.le_refl _)
    (fun _ _ _ _ hy => by obtain ⟨_, rfl⟩ := hy; rfl)
    (fun pre X => J (pre.filter (inA s)) X ∧ Kp n₀ Kb w X ∧ X.heap[W.heap.size]? = some (.cells #[.func (.yield l) #[] #[]] 30 (0, 0)) ∧ X.heap[W.heap.size + 1]? = some (.cells #[.slice A al.length c] 22 (0, 0)))
    (fun cd _ X => cd = .ret ∧ ∃ q, Jx q X)
    (fun _ P Q h hlie => ⟨hJ _ _ _ h.1 (hlie.wide hB2.size), h.2.1.trans (.of_lies hlie (by omega) (Nat.le_trans hn h.2.1.1)), hlie.blk h.2.2.1, hlie.blk h.2.2.2⟩)
    (fun _ _ P Q h hlie => ⟨h.1, by obtain ⟨q, hq⟩ := h.2; exact ⟨q, hJx _ _ _ hq (hlie.wide hB2.size)⟩⟩) ⟨hJ0, hK2, g1, g2⟩ ?round ?done ?stop
  case round =>
    rintro l2 pre ⟨xs, xv⟩ vs X hl2 ⟨hj, hk, hbox, hbo2⟩ ⟨hpre, rfl⟩ hXs
    have hux : U64 xs := by
      have hm : (xs, xv) ∈ al.filter rightA := hpre.subset (List.mem_append.2 (.inr (List.mem_singleton.2 rfl)))
      exact HY.out.2.2.2.2.2.2 _ (List.mem_filter.1 hm).1
    have hfs := filter_snoc (inA s) pre (xs, xv)
    have HP := Aside0.mk (And.intro hpre (And.intro hfs hux))
    clear hpre hfs hux
    gi_wp2
    refine ⟨Kin.of_below (below_alloc (Below.refl _ _) _) (Nat.le_refl _), Kp.of_below (below_alloc (Below.refl _ _) _) (by omega), ?_⟩
    intro Wb hlie
    have g3 := hlie.blk (blk_new X (.cells #[.int .u64 xs, .int .i64 xv] 29))
    have g4 := hlie.blk (blk_alloc hbox (.cells #[.int .u64 xs, .int .i64 xv] 29))
    have g5 := hlie.blk (blk_alloc hbo2 (.cells #[.int .u64 xs, .int .i64 xv] 29))
    have hka : Kp n₀ Kb w (X.alloc (.cells #[.int .u64 xs, .int .i64 xv] 29)) := hk.trans (.of_below (below_alloc (Below.refl _ _) _) (by omega))
    have hkb : Kp n₀ Kb w Wb := hka.trans (.of_lies hlie (by omega) (Nat.le_trans hn hka.1))
    have hjb : J (pre.filter (inA s)) Wb := HY.out.2.1 _ _ _ (HY.out.2.1 _ _ _ hj (.of_below (below_alloc (Below.refl _ _) _))) (hlie.wide (by omega))
    have gs := hlie.size
    rw [World.size_alloc] at gs
    have y0 : Wb.cell? ⟨X.heap.size, 0, none⟩ = some (.int .u64 xs) := by rw [blk_cell g3]; rfl
    have y1 : Wb.cell? ⟨X.heap.size, 1, none⟩ = some (.int .i64 xv) := by rw [blk_cell g3]; rfl
    have y2 : Wb.cell? ⟨W.heap.size, 0, none⟩ = some (.func (.yield l) #[] #[]) := by rw [blk_cell g4]; rfl
    have y3 : Wb.cell? ⟨bs, 0, none⟩ = some (.int .u64 s) := HY.out.2.2.2.2.1 Wb hkb
    have HB := Aside0.mk (And.intro hkb (And.intro hjb (And.intro g4 g5)))
    clear hj hk hbox hbo2 hlie hka hkb hjb g3 g4 g5
    obtain ⟨b, hb⟩ : ∃ b, wthB xs s = b := ⟨_, rfl⟩
    have HW := Lib.hid hb
    cases b with
    | false =>
      clear hb
      gi_wp2_with (gi_at_call 19; refine (CallsIn.inRound l2 (callsIn_wide.2 (SWithin_eq xs s false _ HP.out.2.2 hs HW.out))).mono ?_; rintro e w' ⟨rfl, rfl⟩)
      have hx : inA s (xs, xv) = false := HW.out
      refine ⟨Kin.refl _ _ _, Kp.refl _ _ _, ?_, HB.out.1, HB.out.2.2.1, HB.out.2.2.2⟩
      rw [HP.out.2.1, hx]
      simpa using HB.out.2.1
    | true =>
      clear hb
      obtain ⟨fn, tmps, asg, body, hy, hR⟩ := yieldAt_wide (m' := 2) (HY.out.1 (pre.filter (inA s)) (xs, xv) _ Wb HB.out.2.1 ⟨by
        have h1 := HP.out.1.filter (inA s)
        rw [HP.out.2.1] at h1
        have : inA s (xs, xv) = true := HW.out
        rw [if_pos this] at h1
        exact h1, rfl⟩)
      gi_wp2_with (gi_at_call 19; refine (CallsIn.inRound l2 (callsIn_wide.2 (SWithin_eq xs s true _ HP.out.2.2 hs HW.out))).mono ?_; rintro e w' ⟨rfl, rfl⟩)
      have hx : inA s (xs, xv) = true := HW.out
      have hsb := blk_lt HB.out.2.2.2
      have hsz2 := HK.out.2.2
      refine (roundIn_in l2 hR).mono ?_
      rintro e W3 (⟨rfl, hJ3, hk3, hin⟩ | ⟨rfl, hx3, hin⟩)
      · have HF := Aside0.mk (And.intro hJ3 (And.intro hk3 (And.intro hin hx)))
        clear hJ3 hk3 hin hx
        gi_wp2
        obtain ⟨hJ3, hk3, hin, hx⟩ := HF.out
        have hf1 := hin.2 W.heap.size (Nat.le_refl _) (by omega) (isC HB.out.2.2.1 (by unfold TA; decide))
        have hf2 := hin.2 (W.heap.size + 1) (by omega) hsb (isC HB.out.2.2.2 (by unfold TA; decide))
        refine ⟨⟨hin.1, fun k h1 h2 h3 => hin.2 k (by omega) (by omega) h3⟩, ⟨hin.1, fun k h1 h2 => ?_⟩, ?_, HB.out.1.trans hk3, hf1.trans HB.out.2.2.1, hf2.trans HB.out.2.2.2⟩
        · rcases h2 with ⟨h2, h3⟩ | h2
          · exact hk3.2 k h2 h3
          · by_cases e : k = W.heap.size
            · rw [e]; exact hf1
            · obtain rfl : k = W.heap.size + 1 := by omega
              exact hf2
        · rw [HP.out.2.1, if_pos hx]
          exact hJ3
      · have HF := Aside0.mk (And.intro hx3 hin)
        clear hx3 hin hx
        gi_wp2
        exact ⟨⟨HF.out.2.1, fun k h1 h2 h3 => HF.out.2.2 k (by omega) (by omega) h3⟩, rfl, _, HF.out.1⟩
  case done =>
    rintro D xs X hD rfl ⟨hj, hk, hbox, hbo2⟩ hKd
    have HF := Aside0.mk (And.intro hj hKd)
    clear hj hk hbox hbo2 hKd
    gi_wp2
    refine ⟨by simp, .inl ⟨_, _, rfl, run_takeDeferred HF.out.2, ?_⟩⟩
    refine ⟨_, results_none rfl _ _ _, ⟨_, rfl⟩, .inl ⟨_, rfl, ?_⟩⟩
    exact hJ _ _ _ HF.out.1 (.put (by omega) HF.out.2 rfl _)
  case stop =>
    rintro D cd pre X hD _ ⟨rfl, q, hq⟩ hKd
    have HF := Aside0.mk (And.intro hq hKd)
    clear hq hKd
    gi_wp2
    refine ⟨by simp, .inl ⟨_, _, rfl, run_takeDeferred HF.out.2, ?_⟩⟩
    refine ⟨_, results_none rfl _ _ _, ⟨_, rfl⟩, .inr ⟨q, trivial, ?_⟩⟩
    exact hJx _ _ _ HF.out.1 (.put (by omega) HF.out.2 rfl _)
end Go.Proofs.Ytcnmbllafdeokaa.H
