/- Some texts of one seat in one file, in build order. -/
import Derived.Test.YtmcapemlfplcgaaDoorG2
import Derived.Test.YtmcapemlfplcgaaDoorG3
import Derived.Laws.BitsAllLaws
/- A range over a func whose iterator itself goes over another one: the iterator's invariant abides what a loop's records do, and a round leaves those alone. -/
namespace Go.Proofs.YtmcapemlfplcgaaDoor.H
open Go.RowKit Go.Proofs.YtmcapemlfplcgaaDoorW.PrintWords Go.Proofs.YtmcapemlfplcgaaDoorW.PrintLast Go.Proofs.YtmcapemlfplcgaaDoorW.PrintMore
set_option linter.unusedVariables false

theorem kf_put {B : Nat} {W : World} {l : Nat} (hl : l < B) (o : Obj) : KeepsFrom B W (W.putObj l o) := ⟨by simp, fun k p hB hk _ => (World.putObj_heap_other (by omega)).trans hk⟩
theorem kf_wide {B B' : Nat} {W W' : World} (h : KeepsFrom B W W') (hb : B ≤ B') : KeepsFrom B' W W' := ⟨h.size, fun k o hk => h.same k o (by omega)⟩
theorem kf_lies {B B' : Nat} {W W' : World} (h : Lies B' W W') (hs : W.heap.size ≤ B') : KeepsFrom B W W' := ⟨h.size, fun k o _ hk _ => h.same k o hk (.inl (by have := lt_of_some hk; omega))⟩
theorem Lies.wide {B B' : Nat} {W W' : World} (h : Lies B' W W') (hb : B ≤ B') : Lies B W W' := ⟨h.os, h.tape, h.output, h.size, fun k o hk ho => h.same k o hk (ho.imp (fun h => by omega) id)⟩
/-- What lies from B on and was there at s lies as it lay, but for blocks of the types T: rows that a round may write. -/
def Kin (T : TypeId → Prop) (B s : Nat) (A A' : World) : Prop := A.heap.size ≤ A'.heap.size ∧ ∀ k, B ≤ k → k < s → (∀ t cs z, A.heap[k]? = some (.cells cs t z) → ¬ T t) → A'.heap[k]? = A.heap[k]?
section
variable {T : TypeId → Prop}
theorem noC {W : World} {k : Nat} {o : Obj} (h : W.heap[k]? = some o) (ho : o.isCells = false) : ∀ t cs z, W.heap[k]? = some (.cells cs t z) → ¬ T t := fun t cs z e => by
  rw [h] at e; injection e with e; subst e; cases ho
theorem isC {W : World} {k : Nat} {cs : Array Value} {t : TypeId} {z : Nat × Nat} (h : W.heap[k]? = some (.cells cs t z)) (ht : ¬ T t) : ∀ t cs z, W.heap[k]? = some (.cells cs t z) → ¬ T t := fun t' cs' z' e => by
  rw [h] at e; injection e with e; injection e with _ e _; subst e; exact ht
theorem Kin.refl (B s : Nat) (A : World) : Kin T B s A A := ⟨Nat.le_refl _, fun _ _ _ _ => rfl⟩
theorem Kin.trans {B s : Nat} {X Y Z : World} (h : Kin T B s X Y) (k : Kin T B s Y Z) : Kin T B s X Z := ⟨Nat.le_trans h.1 k.1, fun i h1 h2 h3 => (k.2 i h1 h2 (fun t cs z e => h3 t cs z ((h.2 i h1 h2 h3).symm.trans e))).trans (h.2 i h1 h2 h3)⟩
theorem Kin.put {B s : Nat} {W : World} {l : Nat} (hl : l < B) (o : Obj) : Kin T B s W (W.putObj l o) := ⟨by simp, fun k h1 _ _ => World.putObj_heap_other (by omega)⟩
theorem Kin.wide {B B' s : Nat} {A A' : World} (h : Kin T B s A A') (hb : B ≤ B') : Kin T B' s A A' := ⟨h.1, fun k h1 h2 h3 => h.2 k (by omega) h2 h3⟩
theorem Kin.of_below {B s : Nat} {A A' : World} (h : Below A.heap.size A A') (hs : s ≤ A.heap.size) : Kin T B s A A' := ⟨h.size, fun k _ h2 _ => h.block k (by omega)⟩
theorem Kin.set {B s : Nat} {A : World} {p : Addr} (hp : p.block < B ∨ s ≤ p.block) (v : Value) : Kin T B s A (A.setCell p v) :=
  ⟨by show A.heap.size ≤ (A.heap.modify _ _).size; rw [Array.size_modify]; exact Nat.le_refl _, fun k h1 h2 _ => Below.heap_setCell A p v k (fun e => by subst e; omega)⟩
end
/-- **AN ITERATOR's CONTRACT**, where it may lay loops and boxes of its own. -/
def SeqZ {α : Type} (T : TypeId → Prop) (F : Fence) (n : Nat) (P : Program) (g : Nat) (lb : Array Value) (Y : List α → α → Array Value → World → Prop) (n₀ : Nat) (Kb : Nat → Prop) (S Sp : List α → Prop) (w : World) : Prop :=
  ∀ (l : Nat) (J Jx : List α → World → Prop) (W : World), Kp n₀ Kb w W →
    (∀ s A B, J s A → Lies W.heap.size A B → J s B) → (∀ s A B, Jx s A → Lies W.heap.size A B → Jx s B) →
    (∀ pre x vs W1, J pre W1 → Y pre x vs W1 → YieldAt F (n - 1) P l vs W1 fun e W' =>
      (e = .returned (.bool true) ∧ J (pre ++ [x]) W' ∧ Kp n₀ Kb W1 W' ∧ Kin T W.heap.size W1.heap.size W1 W') ∨ (e = .returned (.bool false) ∧ Jx (pre ++ [x]) W' ∧ Kin T W.heap.size W1.heap.size W1 W')) →
    J [] W →
    CallsIn F n P g (#[.func (.yield l) #[] #[]] ++ lb) W fun e W' => (∃ v, e = .returned v) ∧ ((∃ xs, S xs ∧ J xs W') ∨ (∃ pre, Sp pre ∧ Jx pre W'))
theorem yieldAt_mono {F : Fence} {m : Nat} {P : Program} {l : Nat} {args : Array Value} {W : World} {R R' : Ending → World → Prop} (h : YieldAt F m P l args W R) (hr : ∀ e w, R e w → R' e w) : YieldAt F m P l args W R' := by
  obtain ⟨fn, tmps, asg, body, hy, hR⟩ := h
  exact ⟨fn, tmps, asg, body, hy, hR.mono hr⟩
theorem SeqX.z {α : Type} {T : TypeId → Prop} {F : Fence} {n : Nat} {P : Program} {g : Nat} {lb : Array Value} {Y : List α → α → Array Value → World → Prop} {n₀ : Nat} {Kb : Nat → Prop} {S Sp : List α → Prop} {w : World} (h : SeqX F n P g lb Y n₀ Kb S Sp w) : SeqZ T F n P g lb Y n₀ Kb S Sp w :=
  fun l J Jx W hK hJ hJx hY h0 => h l J Jx W hK (fun s A B hs hb => hJ s A B hs (.of_below hb)) (fun s A B hs hb => hJx s A B hs (.of_below hb))
    (fun pre x vs W1 hj hy => yieldAt_mono (hY pre x vs W1 hj hy) (fun e W' h => h.imp (fun h => ⟨h.1, h.2.1, h.2.2.1⟩) (fun h => ⟨h.1, h.2.1⟩))) h0
theorem room_wide (n : Nat) : Fence.wide.room n := fun d hd => by simp [wide_depth] at hd
theorem yieldAt_wide {P : Program} {l m m' : Nat} {args : Array Value} {W : World} {R : Ending → World → Prop} (h : YieldAt Fence.wide m P l args W R) : YieldAt Fence.wide m' P l args W R := by
  obtain ⟨fn, tmps, asg, body, hy, h1, h2⟩ := h
  exact ⟨fn, tmps, asg, body, hy, h1, fun c cs _ => h2 c cs (room_wide _)⟩
theorem roundIn_in {F : Fence} {n : Nat} {P : Program} {l : Nat} {f : FuncId} {tmps : Array Value} {assign body : Code} {w : World} {R : Ending → World → Prop} (l2 : Nat) (h : RoundIn F n P l f tmps assign body w R) : RoundIn (F.inRound l2) n P l f tmps assign body w R := h
/-- How a round's body may be left. -/
def zPost {α : Type} (T : TypeId → Prop) (B s n₀ : Nat) (Kb : Nat → Prop) (I : List α → World → Prop) (Ix : Code → List α → World → Prop) (xs : List α) (Wb : World) : Exit → Act → World → Prop
  | .normal, _, W' => Kin T B s Wb W' ∧ Kp n₀ Kb Wb W' ∧ I xs W'
  | .ret, _, W' => Kin T B s Wb W' ∧ Ix .ret xs W'
  | .exit id, _, W' => Kin T B s Wb W' ∧ Ix (.exit id) xs W'
  | .goto _, _, _ => False
  | .panic _, _, _ => False
  | .outgrown, _, _ => False

/-- **THE STATEMENT 'for .. := range seq { body }' BY THAT CONTRACT.** -/
theorem rangeZ {T : TypeId → Prop} {F : Fence} {n : Nat} {P : Program} {α : Type} {g : Operand} {ps : Array Tmp} {assign body : Code} {Q : Exit → Act → World → Prop} {a : Act} {w : World}
    (hro : F.round = none) (h1 : 1 ≤ n) {gf : Nat} {lb : Array Value} (hg : a.eval g = .func (.func gf) #[] lb) (hFg : F.fn gf) (eg : ∀ args w, (callFunc gf args).run P w = .ok (.enter gf args) w)
    {Y : List α → α → Array Value → World → Prop} {n₀ : Nat} {Kb : Nat → Prop} {S Sp : List α → Prop} (hseq : SeqZ T F (n - 1) P gf lb Y n₀ Kb S Sp w) (hn : n₀ ≤ w.heap.size)
    (hps : ∀ pre x vs W, Y pre x vs W → vs.size = ps.size)
    (I : List α → World → Prop) (Ix : Code → List α → World → Prop) (hI : ∀ s A B, I s A → Lies w.heap.size A B → I s B) (hIx : ∀ c s A B, Ix c s A → Lies w.heap.size A B → Ix c s B) (h0 : I [] w)
    (hround : ∀ (l : Nat) (pre : List α) (x : α) (vs : Array Value) (W : World), w.heap.size ≤ l → I pre W → Y pre x vs W → w.heap.size ≤ W.heap.size →
      assign.wpIn (F.inRound l) (n - 1 - 1) P (Exit.then (fun a' Wa => Kin T w.heap.size W.heap.size W Wa ∧ Kp n₀ Kb W Wa ∧ ∀ Wb, Lies w.heap.size Wa Wb → body.wpIn (F.inRound l) (n - 1 - 1) P (zPost T w.heap.size W.heap.size n₀ Kb I Ix (pre ++ [x]) Wb) a' Wb) (fun _ _ _ => False))
        { tmps := (ps.zip vs).foldl (fun t (p, v) => t.setIfInBounds p v) a.tmps, defers := [] } W)
    (hdone : ∀ (D : Nat) (xs : List α) (W : World), w.heap.size ≤ D → S xs → I xs W → W.heap[D]? = some (.deferred (some [])) → Q .normal { a with defers := { target := .collected D, args := #[] } :: a.defers } W)
    (hstop : ∀ (D : Nat) (c : Code) (pre : List α) (W : World), w.heap.size ≤ D → Sp pre → Ix c pre W → W.heap[D]? = some (.deferred (some [])) → c.wpIn F n P Q { a with defers := { target := .collected D, args := #[] } :: a.defers } W) :
    (Code.rangeFunc g ps assign body).wpIn F n P Q a w := by
  refine wpIn_rangeFunc fun fn hfn => ?_
  rw [hro]
  obtain ⟨D, eD⟩ : ∃ D, D = w.heap.size := ⟨_, rfl⟩
  obtain ⟨rec, hrec⟩ : ∃ rec : LoopState → Option Code → Loop, rec = fun st pe => { state := st, pending := pe, fn, tmps := a.tmps, params := ps, assign, body, defers := D } := ⟨_, rfl⟩
  have hst : ∀ st pe, (rec st pe).state = st := fun _ _ => by rw [hrec]
  have hpe : ∀ st pe, (rec st pe).pending = pe := fun _ _ => by rw [hrec]
  have hre : ∀ st pe st', ({ rec st pe with state := st' } : Loop) = rec st' pe := fun _ _ _ => by rw [hrec]
  have hre2 : ∀ st pe st' pe', ({ rec st pe with state := st', pending := pe' } : Loop) = rec st' pe' := fun _ _ _ _ => by rw [hrec]
  have hbW : Below w.heap.size w ((w.alloc (.deferred (some []))).alloc (.loop (rec .ready none))) := ((Below.refl _ w).alloc (Nat.le_refl _) _).alloc (by simp) _
  have hL1 : ((w.alloc (.deferred (some []))).alloc (.loop (rec .ready none))).heap[D + 1]? = some (.loop (rec .ready none)) := by
    have := World.alloc_heap_new (w.alloc (.deferred (some []))) (.loop (rec .ready none)); rwa [World.size_alloc, ← eD] at this
  have hD1 : ((w.alloc (.deferred (some []))).alloc (.loop (rec .ready none))).heap[D]? = some (.deferred (some [])) := by
    rw [eD]; exact (Below.heap_alloc _ _ _ (by simp)).trans (World.alloc_heap_new w _)
  have hrun : (Instr.enterLoop fn a.tmps ps assign body none).run P w = .ok (D + 1, [{ target := .collected D, args := #[] }]) ((w.alloc (.deferred (some []))).alloc (.loop (rec .ready none))) := by
    rw [hrec, eD]; exact run_enterLoop_outer _ _ _ _ _
  have hI1 : I [] ((w.alloc (.deferred (some []))).alloc (.loop (rec .ready none))) := hI _ _ _ h0 (.of_below hbW)
  have hkp1 : Kp n₀ Kb w ((w.alloc (.deferred (some []))).alloc (.loop (rec .ready none))) := .of_below hbW hn
  generalize ((w.alloc (.deferred (some []))).alloc (.loop (rec .ready none))) = W1 at hbW hL1 hD1 hrun hI1 hkp1
  have hlt1 := lt_of_some hL1
  refine ⟨D + 1, [{ target := .collected D, args := #[] }], W1, { target := .fn (.func gf) lb, args := #[.func (.yield (D + 1)) #[] #[]] }, W1, gf,
    #[.func (.yield (D + 1)) #[] #[]] ++ lb, W1, hrun, ?_, ?_, ?_, fun _ => h1, ?_⟩
  · simp only [resolve, hg]
    simp [go_sem]
  · intro f' hf'
    simp [Target.leads] at hf'
    subst hf'
    exact hFg
  · simp [invoke, go_sem, eg]
  · refine (hseq (D + 1)
      (fun pre W => I pre W ∧ W.heap[D + 1]? = some (.loop (rec .ready none)) ∧ W.heap[D]? = some (.deferred (some [])))
      (fun pre W => ∃ c, Ix c pre W ∧ W.heap[D + 1]? = some (.loop (rec .done (some c))) ∧ W.heap[D]? = some (.deferred (some [])))
      W1 hkp1
      (fun s A B h hb => ⟨hI _ _ _ h.1 (hb.wide hbW.size), hb.same _ _ h.2.1 (.inl hlt1), hb.same _ _ h.2.2 (.inl (by omega))⟩)
      (fun s A B ⟨c, h1, h2, h3⟩ hb => ⟨c, hIx _ _ _ _ h1 (hb.wide hbW.size), hb.same _ _ h2 (.inl hlt1), hb.same _ _ h3 (.inl (by omega))⟩)
      ?_ ⟨hI1, hL1, hD1⟩).mono ?_
    · rintro pre x vs W ⟨hi, hl, hd⟩ hy
      have hrunY := run_yield (P := P) (args := vs) hl (by rw [hrec]; exact hps _ _ _ _ hy)
      rw [hrec] at hrunY
      refine ⟨fn, _, assign, body, hrunY, roundIn_of_wpIn hfn ?_⟩
      have hlt := lt_of_some hl
      refine wpIn_mono (hround (D + 1) pre x vs W (by omega) hi hy (by omega)) ?_
      rintro e a1 Wa hpa
      cases e with
      | normal =>
        obtain ⟨hk1, hk2, hk3⟩ := hpa
        have hla := (hk1.2 (D + 1) (by omega) hlt (noC hl rfl)).trans hl
        have hda := (hk1.2 D (by omega) (by omega) (noC hd rfl)).trans hd
        refine ⟨_, run_beginRound hla (hst _ _), ?_⟩
        rw [hre]
        have hlies : Lies w.heap.size Wa (Wa.putObj (D + 1) (.loop (rec .busy none))) := .put (by omega) hla rfl _
        have hlb : (Wa.putObj (D + 1) (.loop (rec .busy none))).heap[D + 1]? = some (.loop (rec .busy none)) := World.putObj_heap_same (lt_of_some hla)
        have hdb : (Wa.putObj (D + 1) (.loop (rec .busy none))).heap[D]? = some (.deferred (some [])) := (World.putObj_heap_other (by omega)).trans hda
        have hkb : Kp n₀ Kb W (Wa.putObj (D + 1) (.loop (rec .busy none))) := hk2.trans (.put (by omega) _)
        have hbody := hk3 _ hlies
        have hkf : Kin T W1.heap.size W.heap.size W (Wa.putObj (D + 1) (.loop (rec .busy none))) := (hk1.wide hbW.size).trans (.put hlt1 _)
        generalize Wa.putObj (D + 1) (.loop (rec .busy none)) = Wb at hlb hdb hkb hbody hkf
        refine wpIn_mono hbody ?_
        have fin : ∀ (jump : Option Code) (W3 : World), Kin T w.heap.size W.heap.size Wb W3 →
            (Instr.endRound (D + 1) jump).run P W3 = .ok (.bool jump.isNone) (W3.putObj (D + 1) (.loop (rec (if jump.isNone then .ready else .done) jump))) ∧
            Lies w.heap.size W3 (W3.putObj (D + 1) (.loop (rec (if jump.isNone then .ready else .done) jump))) ∧
            (W3.putObj (D + 1) (.loop (rec (if jump.isNone then .ready else .done) jump))).heap[D + 1]? = some (.loop (rec (if jump.isNone then .ready else .done) jump)) ∧
            (W3.putObj (D + 1) (.loop (rec (if jump.isNone then .ready else .done) jump))).heap[D]? = some (.deferred (some [])) := fun jump W3 hk => by
          have hl3 := (hk.2 (D + 1) (by omega) hlt (noC hlb rfl)).trans hlb
          have hd3 := (hk.2 D (by omega) (by omega) (noC hdb rfl)).trans hdb
          have := run_endRound (P := P) jump hl3
          rw [hre2] at this
          exact ⟨this, .put (by omega) hl3 rfl _, World.putObj_heap_same (lt_of_some hl3), (World.putObj_heap_other (by omega)).trans hd3⟩
        rintro e a3 W3 hp
        cases e with
        | normal =>
          obtain ⟨q1, q2, q3⟩ := hp
          obtain ⟨f1, f2, f3, f4⟩ := fin none W3 q1
          exact ⟨_, _, f1, .inl ⟨rfl, ⟨hI _ _ _ q3 f2, f3, f4⟩, (hkb.trans q2).trans (.put (by omega) _), (hkf.trans (q1.wide hbW.size)).trans (.put hlt1 _)⟩⟩
        | ret =>
          obtain ⟨q1, q3⟩ := hp
          obtain ⟨f1, f2, f3, f4⟩ := fin (some .ret) W3 q1
          exact ⟨_, _, f1, .inr ⟨rfl, ⟨.ret, hIx _ _ _ _ q3 f2, f3, f4⟩, (hkf.trans (q1.wide hbW.size)).trans (.put hlt1 _)⟩⟩
        | exit id =>
          obtain ⟨q1, q3⟩ := hp
          obtain ⟨f1, f2, f3, f4⟩ := fin (some (.exit id)) W3 q1
          exact ⟨_, _, f1, .inr ⟨rfl, ⟨.exit id, hIx _ _ _ _ q3 f2, f3, f4⟩, (hkf.trans (q1.wide hbW.size)).trans (.put hlt1 _)⟩⟩
        | goto t => exact hp.elim
        | panic ch => exact hp.elim
        | outgrown => exact hp.elim
      | ret => exact hpa.elim
      | exit id => exact hpa.elim
      | goto t => exact hpa.elim
      | panic ch => exact hpa.elim
      | outgrown => exact hpa.elim
    · rintro e W2 ⟨⟨v, rfl⟩, (⟨xs, hS, hi, hl, hd⟩ | ⟨pre, hSp, c, hi, hl, hd⟩)⟩
      · refine ⟨none, _, by have := run_endLoop (P := P) hl (by rw [hst]; simp); rw [hpe] at this; exact this, ?_⟩
        exact hdone D xs _ (by omega) hS (hI _ _ _ hi (.put (by omega) hl rfl _)) ((World.putObj_heap_other (by omega)).trans hd)
      · refine ⟨some c, _, by have := run_endLoop (P := P) hl (by rw [hst]; simp); rw [hpe] at this; exact this, ?_⟩
        exact hstop D c pre _ (by omega) hSp (hIx _ _ _ _ hi (.put (by omega) hl rfl _)) ((World.putObj_heap_other (by omega)).trans hd)
end Go.Proofs.YtmcapemlfplcgaaDoor.H
/- package set: Items, as an iterator. -/
namespace Go.Proofs.YtmcapemlfplcgaaDoor.H
open Go.RowKit Go.Proofs.YtmcapemlfplcgaaDoorW.PrintWords Go.Proofs.YtmcapemlfplcgaaDoorW.PrintLast Go.Proofs.YtmcapemlfplcgaaDoorW.PrintMore Go.Proofs.YtmcapemlfplcgaaDoor.AtM Go.Proofs.YtmcapemlfplcgaaDoor.R02
set_option linter.unusedVariables false
set_option linter.unusedSimpArgs false
set_option maxRecDepth 100000
attribute [local go_sem] Oper.semAt_some wide_fn wide_depth
theorem Items_calls (s : Int) (w : World) : Calls Tryd.prog 38 #[.int .u64 s] w fun e w' =>
    e = .returned (.func (.func 59) #[] #[.pointer (some ⟨w.heap.size, 0, none⟩)]) ∧ w' = w.alloc (.cells #[.int .u64 s] 22) := by
  go_enter Tryd.func38, Tryd.ntmps38
  go_wp2
  go_ret
  exact ⟨rfl, rfl⟩
/-- What a func over items tells a round. -/
def ItY (xs : List Int) (pre : List Int) (x : Int) (vs : Array Value) (W : World) : Prop := pre ++ [x] <+: xs ∧ vs = #[.int .i64 x]
theorem and_low {x : Int} (hx : U64 x) (h0 : x ≠ 0) : bits BinOp.and IntKind.u64 x (IntKind.u64.wrap (x - 1)) = ((x.toNat &&& (x.toNat - 1) : Nat) : Int) := by
  obtain ⟨n, rfl⟩ : ∃ n : Nat, x = n := ⟨x.toNat, by have := hx.1; omega⟩
  have hn : n < 18446744073709551616 := by have := hx.2; omega
  rw [show IntKind.u64.wrap ((n : Int) - 1) = ((n - 1 : Nat) : Int) by rw [IntKind.wrap_u64]; omega, Int.toNat_natCast]
  exact bits_and_u64_nat n (n - 1) hn (by omega)
set_option maxHeartbeats 1600000 in
theorem Items1_seq (n : Nat) (s : Int) (bb n₀ : Nat) (Kb : Nat → Prop) (w : World) (hs : U64 s)
    (hbox : ∀ W, Kp n₀ Kb w W → W.cell? ⟨bb, 0, none⟩ = some (.int .u64 s)) (hT : ∀ W, Kp n₀ Kb w W → TabG W) (hn : n₀ ≤ w.heap.size) :
    SeqX Fence.wide n Tryd.prog 59 #[.pointer (some ⟨bb, 0, none⟩)] (ItY (listS s)) n₀ Kb (fun ys => ys = listS s) (fun _ => True) w := by
  intro l J Jx W hK hJ hJx hY h0
  have hcell := hbox W hK
  refine callsIn_of_wp Tryd.func59 rfl trivial ?_ rfl
  simp only [Tryd.ntmps59, List.size_toArray, List.length_cons, List.length_nil, Nat.reduceAdd, Nat.reduceSub, Array.replicate_succ, Array.replicate_zero, List.push_toArray, List.append_toArray, List.nil_append, List.cons_append]
  gi_wp2
  gi_loopw [3] (fun p wr => ∃ (pre : List Int) (x : Int), p = .int .u64 x ∧ U64 x ∧ listS s = pre ++ listS x ∧ J pre wr ∧ Kp n₀ Kb w wr) (fun p _ => (intOf p).toNat)
  case atStart => exact ⟨[], s, rfl, hs, rfl, h0, hK⟩
  case round =>
    obtain ⟨pre, x, rfl, hx, hl, h4, h5⟩ := hrel
    by_cases hx0 : x = 0
    · subst hx0
      rw [listS_zero, List.append_nil] at hl
      gi_wp2
      go_end0
      exact ⟨⟨_, rfl⟩, .inl ⟨_, hl.symm, h4⟩⟩
    · have hxb : (x == 0) = false := by simp [hx0]
      have hst := listS_step x hx hx0
      rw [hst] at hl
      have hnx := and_pred_lt hx hx0
      have hal := and_low hx hx0
      obtain ⟨c, hc⟩ : ∃ c : Int, ((Lib.ctz 64 x.toNat : Nat) : Int) = c := ⟨_, rfl⟩
      obtain ⟨y, hy⟩ : ∃ y : Int, ((x.toNat &&& (x.toNat - 1) : Nat) : Int) = y := ⟨_, rfl⟩
      have HC := Aside0.mk (TZ_calls x hx hx0 wr (hT wr h5))
      rw [hc] at hl HC
      rw [hy] at hl hnx hal
      have hpre : pre ++ [c] <+: listS s := ⟨listS y, by rw [hl]; simp⟩
      obtain ⟨fn, tmps, asg, body, hyy, hR⟩ := hY _ c _ wr h4 ⟨hpre, rfl⟩
      have HL := Lib.hid hl
      clear hl hc hy hpre hst
      gi_wp2_with (fail)
      refine (callsIn_wide.2 HC.out).mono ?_
      rintro e w1 ⟨rfl, rfl⟩
      clear HC
      gi_wp2
      refine hR.mono ?_
      rintro e W3 (⟨rfl, hJ3, hk3⟩ | ⟨rfl, hJx3⟩)
      · gi_wp2
        go_roundw
        case rel => exact ⟨pre ++ [c], y, by first | rfl | rw [hal], hnx.1, by rw [HL.out]; simp, hJ3, h5.trans hk3⟩
        case measure => (try rw [hal]); have := hnx.1.1; have := hnx.2; simp [intOf]; omega
      · gi_wp2
        refine bodyPost_ret (results_none rfl _ _ _) rfl ?_
        exact ⟨⟨_, rfl⟩, .inr ⟨_, trivial, hJx3⟩⟩
end Go.Proofs.YtmcapemlfplcgaaDoor.H
/- slices.Collect over an iterator's contract: the row of what came. -/
namespace Go.Proofs.YtmcapemlfplcgaaDoor.H
open Go.RowKit Go.Proofs.YtmcapemlfplcgaaDoorW.PrintWords Go.Proofs.YtmcapemlfplcgaaDoorW.PrintLast Go.Proofs.YtmcapemlfplcgaaDoorW.PrintMore Go.Proofs.YtmcapemlfplcgaaDoor.AtM Go.Proofs.YtmcapemlfplcgaaDoor.R02
set_option linter.unusedVariables false
set_option linter.unusedSimpArgs false
set_option maxRecDepth 100000
attribute [local go_sem] Oper.semAt_some wide_fn wide_depth
/-- What a func over sets tells a round. -/
def SuY (xs : List Int) (pre : List Int) (x : Int) (vs : Array Value) (W : World) : Prop := pre ++ [x] <+: xs ∧ vs = #[.int .u64 x]
theorem info_colli64 : (Tryd.prog.info? 3).map (fun i => (i.zero, i.size, i.bytes)) = some (some (.int .i64 0), 1, 8) := by kernel_rfl
structure Coi64 (W X : World) (gb : Nat) (pre : List Int) : Prop where
  row : ∃ A c, X.heap[gb]? = some (.cells #[.slice A pre.length c] 27 (0, 0)) ∧ Kd.R (Kd.int .i64) 3 X (gb + 1) (fun _ => True) (.slice A pre.length c) pre
  below : Below W.heap.size W X
theorem Coi64.lies {W X Y : World} {gb B : Nat} {pre : List Int} (h : Coi64 W X gb pre) (hl : Lies B X Y) (hB : W.heap.size ≤ B) : Coi64 W Y gb pre := by
  obtain ⟨A, c, h1, h2⟩ := h.row
  exact ⟨⟨A, c, hl.blk h1, hl.R h2⟩, hl.below h.below hB (Nat.le_refl _)⟩
set_option maxHeartbeats 1600000 in
theorem AppendSeqi64 (gf : FuncId) (lb : Array Value) (ent : ∀ args w, (callFunc gf args).run Tryd.prog w = .ok (.enter gf args) w) (xs : List Int) (W : World) (hlen : xs.length ≤ 100000)
    (hseq : SeqX Fence.wide 7 Tryd.prog gf lb (ItY xs) (W.heap.size + 1) (fun k => k ≠ W.heap.size) (fun ys => ys = xs) (fun _ => True) (W.alloc (.cells #[.slice none 0 0] 27))) :
    Calls Tryd.prog 58 #[.slice none 0 0, .func (.func gf) #[] lb] W fun e W' => ∃ v, e = .returned v ∧ Kd.R (Kd.int .i64) 3 W' W.heap.size (fun _ => True) v xs ∧ Below W.heap.size W W' := by
  refine (callsIn_wide (n := 8)).1 ?_
  refine callsIn_of_wp_marks Tryd.func58 rfl trivial ?_ rfl
  simp only [Tryd.ntmps58, List.size_toArray, List.length_cons, List.length_nil, Nat.reduceAdd, Nat.reduceSub, Array.replicate_succ, Array.replicate_zero, List.push_toArray, List.append_toArray, List.nil_append, List.cons_append]
  have HS := Aside0.mk hseq
  clear hseq
  gi_wp2
  have hb2 : Below W.heap.size W (W.alloc (.cells #[.slice none 0 0] 27)) := below_alloc (Below.refl _ _) _
  have g0 := blk_new W (.cells #[.slice none 0 0] 27)
  have hsz : (W.alloc (.cells #[.slice none 0 0] 27)).heap.size = W.heap.size + 1 := by simp
  have hS := HS.out
  generalize (W.alloc (.cells #[.slice none 0 0] 27)) = w2 at hb2 g0 hsz hS ⊢
  have hC0 : Coi64 W w2 W.heap.size [] := ⟨⟨none, 0, g0, Kd.R_nil _ _ _ _ _⟩, hb2⟩
  rw [← hsz] at hS
  clear HS
  refine rangeX rfl (by omega) (gf := gf) (lb := lb) rfl trivial ent
    (Y := ItY xs) (n₀ := w2.heap.size) (Kb := fun k => k ≠ W.heap.size) (S := fun ys => ys = xs) (Sp := fun _ => True) hS (Nat.le_refl _)
    (fun _ _ _ _ hy => by obtain ⟨_, rfl⟩ := hy; rfl)
    (fun pre X => Coi64 W X W.heap.size pre) (fun _ _ _ => False)
    (fun _ P Q h hlie => h.lies hlie (by omega)) (fun _ _ _ _ h _ => h) hC0 ?round ?done (fun _ _ _ _ _ _ h _ => h.elim)
  case round =>
    rintro l pre x vs Y hl2 hI ⟨hpre, rfl⟩ hYs
    have hpl : pre.length + 1 ≤ 100000 := by
      have h1 := hpre.length_le
      simp only [List.length_append, List.length_cons, List.length_nil] at h1
      omega
    clear hpre
    gi_wp2
    refine ⟨KeepsFrom.of_below (Below.refl _ _), Kp.refl _ _ _, ?_⟩
    intro Wb hlie
    have hI2 := hI.lies hlie (by omega)
    obtain ⟨Ap, cp, i1, i2⟩ := hI2.row
    have d0 : Wb.cell? ⟨W.heap.size, 0, none⟩ = some (.slice Ap pre.length cp) := by rw [blk_cell i1]; rfl
    have hWbs : w2.heap.size ≤ Wb.heap.size := Nat.le_trans hYs hlie.size
    obtain ⟨pn, hpn⟩ : ∃ n, pre.length = n := ⟨_, rfl⟩
    rw [hpn] at i1 i2 hpl d0
    have I := Aside0.mk (And.intro i1 (And.intro i2 (And.intro hI2 hpn)))
    clear i1 i2 hI2 hI hlie hpn
    gi_wp2_with (gi_at_builtin; refine RIn_append (Kd.int .i64) (w0 := Wb) (W.heap.size + 1) rfl (.tmp 8) (.tmp 10) 27 3 (.int .i64 0) 8 rfl Tryd.underlying27 info_colli64 rfl (by decide) (by omega) _ pre x [.int .i64 x] (fun _ => True) (fun _ => False) rfl rfl rfl (fun _ hk => hk.elim) (fun _ _ => trivial) I.out.2.1 (Below.refl _ _) (by omega) (by rw [I.out.2.2.2]; omega) ?_; intro v7 w7 ho7 hb7 hg7 hat7; obtain ⟨A7, c7, e7⟩ := Kd.R_slice ho7; subst e7; rw [List.length_append, List.length_singleton, I.out.2.2.2] at ho7; rw [List.length_append, List.length_singleton, I.out.2.2.2]; have hx7 := blk_grown I.out.2.1 I.out.1 (by decide) hg7; have d7 := blk_cell hx7 0; have f7 := blk_frozen hx7 0; have s7 := blk_lt hx7; have HO7 := Aside0.mk (And.intro ho7 (And.intro hb7 (And.intro hg7 hx7))); clear ho7 hb7 hg7 hat7 hx7)
    obtain ⟨j1, j2, j3, j4⟩ := I.out
    obtain ⟨q1, q2, q3, q4⟩ := HO7.out
    have hoth : Oth W.heap.size w7 (w7.setCell ⟨W.heap.size, 0, none⟩ (.slice A7 (pn + 1) c7)) := Oth.set w7 ⟨W.heap.size, 0, none⟩ _
    have hbut : But (fun i => i = W.heap.size ∨ some i = (Value.slice Ap pn cp).ownBlock) Wb (w7.setCell ⟨W.heap.size, 0, none⟩ (.slice A7 (pn + 1) c7)) := (But.of_grown q3 (fun i hi => .inr hi.symm)).trans (.of_oth hoth (.inl rfl))
    have hown : ∀ i, some i = (Value.slice Ap pn cp).ownBlock → ∃ cells, Wb.heap[i]? = some (.cells cells 3 (0, 0)) ∧ W.heap.size + 1 ≤ i := fun i hi => by
      obtain ⟨_, ho'⟩ := Kd.R_own j2
      obtain ⟨cells, hc⟩ := own_typed ho' i hi.symm
      exact ⟨cells, hc, by have := own_base ho' i hi.symm; omega⟩
    have hPc : ∀ i o, (i = W.heap.size ∨ some i = (Value.slice Ap pn cp).ownBlock) → Wb.heap[i]? = some o → o.isCells = true := by
      rintro i o (rfl | hi) ho
      · rw [j1] at ho; cases ho; rfl
      · obtain ⟨cells, hc, _⟩ := hown i hi
        rw [hc] at ho; cases ho; rfl
    refine ⟨KeepsFrom.of_but hbut hPc, Kp.of_but hbut (fun i hi hk => by
      rintro (rfl | h)
      · exact hk rfl
      · obtain ⟨_, _, h7⟩ := hown i h; omega) (by omega), ⟨⟨A7, c7, ?_, ?_⟩, hbut.below j3.below (j3.below.size) ?_⟩⟩
    · have := blk_put q4 0 (.slice A7 (pn + 1) c7) rfl
      simp only [List.length_append, List.length_singleton, j4]
      exact this
    · simp only [List.length_append, List.length_singleton, j4]
      exact Kd.R_set q1 q4 (by decide) 0 _
    · rintro k (rfl | h)
      · omega
      · obtain ⟨_, _, h7⟩ := hown k h; omega
  case done =>
    rintro D ys X hD rfl hI hKd
    obtain ⟨Ap, cp, i1, i2⟩ := hI.row
    have d0 : X.cell? ⟨W.heap.size, 0, none⟩ = some (.slice Ap ys.length cp) := by rw [blk_cell i1]; rfl
    have HJ := Aside0.mk (And.intro i2 (And.intro hI.below hKd))
    clear i1 i2 hI hKd
    gi_wp2
    have hl1 : Lies W.heap.size X (X.putObj D (.deferred none)) := .put (by omega) HJ.out.2.2 rfl _
    refine ⟨by simp, .inl ⟨_, _, rfl, run_takeDeferred HJ.out.2.2, ?_⟩⟩
    exact ⟨_, results_tmp rfl _ _ _, _, rfl, hl1.R (Kd.R_lower HJ.out.1 (by omega)), hl1.below HJ.out.2.1 (Nat.le_refl _) (Nat.le_refl _)⟩
theorem Collecti64 (gf : FuncId) (lb : Array Value) (ent : ∀ args w, (callFunc gf args).run Tryd.prog w = .ok (.enter gf args) w) (xs : List Int) (W : World) (hlen : xs.length ≤ 100000)
    (hseq : SeqX Fence.wide 7 Tryd.prog gf lb (ItY xs) (W.heap.size + 1) (fun k => k ≠ W.heap.size) (fun ys => ys = xs) (fun _ => True) (W.alloc (.cells #[.slice none 0 0] 27))) :
    Calls Tryd.prog 37 #[.func (.func gf) #[] lb] W fun e W' => ∃ v, e = .returned v ∧ Kd.R (Kd.int .i64) 3 W' W.heap.size (fun _ => True) v xs ∧ Below W.heap.size W W' := by
  have HA := Aside0.mk (AppendSeqi64 gf lb ent xs W hlen hseq)
  clear hseq ent
  go_enter Tryd.func37, Tryd.ntmps37
  go_wp2_with (fail)
  refine HA.out.mono ?_
  rintro e w1 ⟨v, rfl, hR, hB⟩
  have HB := Aside0.mk (And.intro hR hB)
  clear hR hB
  go_wp2
  go_ret
  exact ⟨_, rfl, HB.out⟩
theorem info_collu64 : (Tryd.prog.info? 22).map (fun i => (i.zero, i.size, i.bytes)) = some (some (.int .u64 0), 1, 8) := by kernel_rfl
structure Cou64 (W X : World) (gb : Nat) (pre : List Int) : Prop where
  row : ∃ A c, X.heap[gb]? = some (.cells #[.slice A pre.length c] 42 (0, 0)) ∧ Kd.R (Kd.int .u64) 22 X (gb + 1) (fun _ => True) (.slice A pre.length c) pre
  below : Below W.heap.size W X
theorem Cou64.lies {W X Y : World} {gb B : Nat} {pre : List Int} (h : Cou64 W X gb pre) (hl : Lies B X Y) (hB : W.heap.size ≤ B) : Cou64 W Y gb pre := by
  obtain ⟨A, c, h1, h2⟩ := h.row
  exact ⟨⟨A, c, hl.blk h1, hl.R h2⟩, hl.below h.below hB (Nat.le_refl _)⟩
set_option maxHeartbeats 1600000 in
theorem AppendSequ64 (gf : FuncId) (lb : Array Value) (ent : ∀ args w, (callFunc gf args).run Tryd.prog w = .ok (.enter gf args) w) (xs : List Int) (W : World) (hlen : xs.length ≤ 100000)
    (hseq : SeqX Fence.wide 7 Tryd.prog gf lb (SuY xs) (W.heap.size + 1) (fun k => k ≠ W.heap.size) (fun ys => ys = xs) (fun _ => True) (W.alloc (.cells #[.slice none 0 0] 42))) :
    Calls Tryd.prog 55 #[.slice none 0 0, .func (.func gf) #[] lb] W fun e W' => ∃ v, e = .returned v ∧ Kd.R (Kd.int .u64) 22 W' W.heap.size (fun _ => True) v xs ∧ Below W.heap.size W W' := by
  refine (callsIn_wide (n := 8)).1 ?_
  refine callsIn_of_wp_marks Tryd.func55 rfl trivial ?_ rfl
  simp only [Tryd.ntmps55, List.size_toArray, List.length_cons, List.length_nil, Nat.reduceAdd, Nat.reduceSub, Array.replicate_succ, Array.replicate_zero, List.push_toArray, List.append_toArray, List.nil_append, List.cons_append]
  have HS := Aside0.mk hseq
  clear hseq
  gi_wp2
  have hb2 : Below W.heap.size W (W.alloc (.cells #[.slice none 0 0] 42)) := below_alloc (Below.refl _ _) _
  have g0 := blk_new W (.cells #[.slice none 0 0] 42)
  have hsz : (W.alloc (.cells #[.slice none 0 0] 42)).heap.size = W.heap.size + 1 := by simp
  have hS := HS.out
  generalize (W.alloc (.cells #[.slice none 0 0] 42)) = w2 at hb2 g0 hsz hS ⊢
  have hC0 : Cou64 W w2 W.heap.size [] := ⟨⟨none, 0, g0, Kd.R_nil _ _ _ _ _⟩, hb2⟩
  rw [← hsz] at hS
  clear HS
  refine rangeX rfl (by omega) (gf := gf) (lb := lb) rfl trivial ent
    (Y := SuY xs) (n₀ := w2.heap.size) (Kb := fun k => k ≠ W.heap.size) (S := fun ys => ys = xs) (Sp := fun _ => True) hS (Nat.le_refl _)
    (fun _ _ _ _ hy => by obtain ⟨_, rfl⟩ := hy; rfl)
    (fun pre X => Cou64 W X W.heap.size pre) (fun _ _ _ => False)
    (fun _ P Q h hlie => h.lies hlie (by omega)) (fun _ _ _ _ h _ => h) hC0 ?round ?done (fun _ _ _ _ _ _ h _ => h.elim)
  case round =>
    rintro l pre x vs Y hl2 hI ⟨hpre, rfl⟩ hYs
    have hpl : pre.length + 1 ≤ 100000 := by
      have h1 := hpre.length_le
      simp only [List.length_append, List.length_cons, List.length_nil] at h1
      omega
    clear hpre
    gi_wp2
    refine ⟨KeepsFrom.of_below (Below.refl _ _), Kp.refl _ _ _, ?_⟩
    intro Wb hlie
    have hI2 := hI.lies hlie (by omega)
    obtain ⟨Ap, cp, i1, i2⟩ := hI2.row
    have d0 : Wb.cell? ⟨W.heap.size, 0, none⟩ = some (.slice Ap pre.length cp) := by rw [blk_cell i1]; rfl
    have hWbs : w2.heap.size ≤ Wb.heap.size := Nat.le_trans hYs hlie.size
    obtain ⟨pn, hpn⟩ : ∃ n, pre.length = n := ⟨_, rfl⟩
    rw [hpn] at i1 i2 hpl d0
    have I := Aside0.mk (And.intro i1 (And.intro i2 (And.intro hI2 hpn)))
    clear i1 i2 hI2 hI hlie hpn
    gi_wp2_with (gi_at_builtin; refine RIn_append (Kd.int .u64) (w0 := Wb) (W.heap.size + 1) rfl (.tmp 8) (.tmp 10) 42 22 (.int .u64 0) 8 rfl Tryd.underlying42 info_collu64 rfl (by decide) (by omega) _ pre x [.int .u64 x] (fun _ => True) (fun _ => False) rfl rfl rfl (fun _ hk => hk.elim) (fun _ _ => trivial) I.out.2.1 (Below.refl _ _) (by omega) (by rw [I.out.2.2.2]; omega) ?_; intro v7 w7 ho7 hb7 hg7 hat7; obtain ⟨A7, c7, e7⟩ := Kd.R_slice ho7; subst e7; rw [List.length_append, List.length_singleton, I.out.2.2.2] at ho7; rw [List.length_append, List.length_singleton, I.out.2.2.2]; have hx7 := blk_grown I.out.2.1 I.out.1 (by decide) hg7; have d7 := blk_cell hx7 0; have f7 := blk_frozen hx7 0; have s7 := blk_lt hx7; have HO7 := Aside0.mk (And.intro ho7 (And.intro hb7 (And.intro hg7 hx7))); clear ho7 hb7 hg7 hat7 hx7)
    obtain ⟨j1, j2, j3, j4⟩ := I.out
    obtain ⟨q1, q2, q3, q4⟩ := HO7.out
    have hoth : Oth W.heap.size w7 (w7.setCell ⟨W.heap.size, 0, none⟩ (.slice A7 (pn + 1) c7)) := Oth.set w7 ⟨W.heap.size, 0, none⟩ _
    have hbut : But (fun i => i = W.heap.size ∨ some i = (Value.slice Ap pn cp).ownBlock) Wb (w7.setCell ⟨W.heap.size, 0, none⟩ (.slice A7 (pn + 1) c7)) := (But.of_grown q3 (fun i hi => .inr hi.symm)).trans (.of_oth hoth (.inl rfl))
    have hown : ∀ i, some i = (Value.slice Ap pn cp).ownBlock → ∃ cells, Wb.heap[i]? = some (.cells cells 22 (0, 0)) ∧ W.heap.size + 1 ≤ i := fun i hi => by
      obtain ⟨_, ho'⟩ := Kd.R_own j2
      obtain ⟨cells, hc⟩ := own_typed ho' i hi.symm
      exact ⟨cells, hc, by have := own_base ho' i hi.symm; omega⟩
    have hPc : ∀ i o, (i = W.heap.size ∨ some i = (Value.slice Ap pn cp).ownBlock) → Wb.heap[i]? = some o → o.isCells = true := by
      rintro i o (rfl | hi) ho
      · rw [j1] at ho; cases ho; rfl
      · obtain ⟨cells, hc, _⟩ := hown i hi
        rw [hc] at ho; cases ho; rfl
    refine ⟨KeepsFrom.of_but hbut hPc, Kp.of_but hbut (fun i hi hk => by
      rintro (rfl | h)
      · exact hk rfl
      · obtain ⟨_, _, h7⟩ := hown i h; omega) (by omega), ⟨⟨A7, c7, ?_, ?_⟩, hbut.below j3.below (j3.below.size) ?_⟩⟩
    · have := blk_put q4 0 (.slice A7 (pn + 1) c7) rfl
      simp only [List.length_append, List.length_singleton, j4]
      exact this
    · simp only [List.length_append, List.length_singleton, j4]
      exact Kd.R_set q1 q4 (by decide) 0 _
    · rintro k (rfl | h)
      · omega
      · obtain ⟨_, _, h7⟩ := hown k h; omega
  case done =>
    rintro D ys X hD rfl hI hKd
    obtain ⟨Ap, cp, i1, i2⟩ := hI.row
    have d0 : X.cell? ⟨W.heap.size, 0, none⟩ = some (.slice Ap ys.length cp) := by rw [blk_cell i1]; rfl
    have HJ := Aside0.mk (And.intro i2 (And.intro hI.below hKd))
    clear i1 i2 hI hKd
    gi_wp2
    have hl1 : Lies W.heap.size X (X.putObj D (.deferred none)) := .put (by omega) HJ.out.2.2 rfl _
    refine ⟨by simp, .inl ⟨_, _, rfl, run_takeDeferred HJ.out.2.2, ?_⟩⟩
    exact ⟨_, results_tmp rfl _ _ _, _, rfl, hl1.R (Kd.R_lower HJ.out.1 (by omega)), hl1.below HJ.out.2.1 (Nat.le_refl _) (Nat.le_refl _)⟩
theorem Collectu64 (gf : FuncId) (lb : Array Value) (ent : ∀ args w, (callFunc gf args).run Tryd.prog w = .ok (.enter gf args) w) (xs : List Int) (W : World) (hlen : xs.length ≤ 100000)
    (hseq : SeqX Fence.wide 7 Tryd.prog gf lb (SuY xs) (W.heap.size + 1) (fun k => k ≠ W.heap.size) (fun ys => ys = xs) (fun _ => True) (W.alloc (.cells #[.slice none 0 0] 42))) :
    Calls Tryd.prog 33 #[.func (.func gf) #[] lb] W fun e W' => ∃ v, e = .returned v ∧ Kd.R (Kd.int .u64) 22 W' W.heap.size (fun _ => True) v xs ∧ Below W.heap.size W W' := by
  have HA := Aside0.mk (AppendSequ64 gf lb ent xs W hlen hseq)
  clear hseq ent
  go_enter Tryd.func33, Tryd.ntmps33
  go_wp2_with (fail)
  refine HA.out.mono ?_
  rintro e w1 ⟨v, rfl, hR, hB⟩
  have HB := Aside0.mk (And.intro hR hB)
  clear hR hB
  go_wp2
  go_ret
  exact ⟨_, rfl, HB.out⟩
theorem List_calls (s : Int) (W : World) (hs : U64 s) (hT : TabG W) : Calls Tryd.prog 24 #[.int .u64 s] W fun e W' => ∃ v, e = .returned v ∧ Kd.R (Kd.int .i64) 3 W' W.heap.size (fun _ => True) v (listS s) ∧ Below W.heap.size W W' := by
  have hb1 : Below W.heap.size W (W.alloc (.cells #[.int .u64 s] 22)) := below_alloc (Below.refl _ _) _
  have g0 := blk_new W (.cells #[.int .u64 s] 22)
  have hz : (W.alloc (.cells #[.int .u64 s] 22)).heap.size = W.heap.size + 1 := by simp
  have hp := hT.pos
  have HC := Aside0.mk (Collecti64 59 #[.pointer (some ⟨W.heap.size, 0, none⟩)] (enters_of Tryd.func59 (by kernel_rfl) rfl) (listS s) (W.alloc (.cells #[.int .u64 s] 22)) (by have := listS_le s; omega)
    (Items1_seq 7 s W.heap.size ((W.alloc (.cells #[.int .u64 s] 22)).heap.size + 1) _ _ hs
      (fun X hk => by rw [blk_cell ((hk.2 W.heap.size (by omega) (by omega)).trans (blk_alloc g0 _)) 0]; rfl)
      (fun X hk => hT.same ((hk.2 _ (by omega) (by omega)).trans (((below_alloc hb1 (.cells #[.slice none 0 0] 27)).block _ hp)))) (by simp)))
  clear g0 hT
  go_enter Tryd.func24, Tryd.ntmps24
  go_wp2_with (first
    | (go_at_call 38; refine (Items_calls _ _).mono ?_; rintro e w1 ⟨rfl, hw1⟩)
    | (go_at_call 37; refine HC.out.mono ?_; rintro e w2 ⟨v, rfl, hR, hB⟩; have HB := Aside0.mk (And.intro hR hB); clear hR hB))
  go_ret
  exact ⟨_, rfl, Kd.R_lower HB.out.1 (by omega), below_step hb1 HB.out.2⟩
end Go.Proofs.YtmcapemlfplcgaaDoor.H
