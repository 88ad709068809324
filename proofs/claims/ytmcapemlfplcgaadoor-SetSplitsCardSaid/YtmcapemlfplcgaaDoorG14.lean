/- Some texts of one seat in one file, in build order. -/
import Derived.Test.YtmcapemlfplcgaaDoorG13
import Derived.OrdersHeld
import Derived.Test.YtmcapemlfplcgaaDoorG4
/- A drawn region inside a fence: an operation whose value is the same in every world that the region meets may be taken first. -/
namespace Go.Proofs.YtmcapemlfplcgaaDoor.H
open Go
set_option linter.unusedVariables false
section
variable {F : Fence} {n : Nat} {P : Program} {ops : Array Oper} {Q : Exit → Act → World → Prop} {md : Region.Mode} {S : World → Prop}
/-- The same value in each world of S, and no call. -/
def SameIn (P : Program) (ops : Array Oper) (S : World → Prop) (o : Oper) (v : Value) (a : Act) : Prop := YieldsIf P ops S o v a ∧ ∀ w, o.about P w a.eval = none
/-- What one operation does is the same whether or not a value already lies in a temporary that it does not look at. -/
theorem op_late {Y : Act → Prop} {j : Nat} {oj : Oper} {dst : Option Tmp} {v : Value} (hro : F.round = none) (hj : ops[j]? = some oj)
    (hl : ∀ d, dst = some d → d ∉ oj.looksAt ops) (hne : ∀ (a : Act) u, (a.put oj.dst u).put dst v = (a.put dst v).put oj.dst u)
    (hsj : ∀ cs b, oj.op ≠ .select cs b) (hQ : ∀ c a w, Q (.panic c) (a.put dst v) w → Q (.panic c) a w)
    (hY : ∀ a u, Y a → Y (a.put oj.dst u)) (hYd : ∀ a d, Y a → Y { a with defers := d :: a.defers })
    {K : Act → World → Prop} {a : Act} {w : World} (hy : Y a) (h : wpOpIn F n P ops Q j K (a.put dst v) w) :
    wpOpIn F n P ops Q j (fun a' w' => Y a' ∧ K (a'.put dst v) w') a w := by
  unfold wpOpIn at *
  simp only [hj] at *
  rw [wanted_put oj a dst v hl, about_put oj w a dst v hl] at h
  split
  · rename_i hw
    simp only [hw, if_true] at h
    unfold Oper.wpIn at *
    rw [about_put oj w a dst v hl] at h
    obtain ⟨h1, h2⟩ := h
    refine ⟨h1, ?_⟩
    rw [hro, Oper.semAt_none, execOp_put oj hsj a dst v hl] at h2
    rw [hro, Oper.semAt_none]
    generalize (execOp a.eval oj).run P w = r at *
    cases r with
    | halt x w' =>
      cases x <;> simp only [Oper.uponIn] at h2 ⊢
      exact hQ _ _ _ h2
    | ok x w' =>
      cases x <;> simp only [Oper.uponIn] at h2 ⊢
      case value u => exact ⟨hY _ _ hy, by rw [hne]; exact h2⟩
      case skip => exact ⟨hY _ _ hy, by rw [hne]; exact h2⟩
      case defer d => exact ⟨hY _ _ (hYd _ _ hy), by rw [hne, ← Act.put_defers]; exact h2⟩
      case row row args => exact ⟨h2.1, RowsIn.mono h2.2 fun u w'' he => ⟨hY _ _ hy, by rw [hne]; exact he⟩⟩
      all_goals
        refine ⟨h2.1, ?_⟩
        first
          | (refine CallsIn.mono h2.2 fun e w'' he => ?_; cases e <;> first | exact ⟨hY _ _ hy, by rw [hne]; exact he⟩ | exact hQ _ _ _ he | exact he)
          | (refine RoundIn.mono h2.2 fun e w'' he => ?_; cases e <;> first | exact ⟨hY _ _ hy, by rw [hne]; exact he⟩ | exact hQ _ _ _ he | exact he)
  · rename_i hw
    simp only [hw] at h
    exact ⟨h.1, hY _ _ hy, by rw [hne]; exact h.2⟩
/-- Whatever comes up next, S holds behind it, but for those that N names. -/
def anyN (F : Fence) (n : Nat) (P : Program) (md : Region.Mode) (ops : Array Oper) (Q : Exit → Act → World → Prop) (S : World → Prop) (N : Nat → Bool) : Nat → Array Bool → Act → World → Prop
  | 0, listed, a, w => Region.ready md ops listed = [] ∧ Q .normal a w
  | k + 1, listed, a, w => (Region.ready md ops listed = [] → Q .normal a w) ∧
      ∀ i ∈ Region.ready md ops listed, wpOpIn F n P ops Q i (fun a' w' => (N i = false → S w') ∧ anyN F n P md ops Q S N k (listed.setIfInBounds i true) a' w') a w
theorem anyN_any {N : Nat → Bool} : ∀ (k : Nat) (listed : Array Bool) (a : Act) (w : World), anyN F n P md ops Q S N k listed a w → wpAnyIn F n P md ops Q k listed a w
  | 0, _, _, _, h => h
  | k + 1, _, _, _, h => ⟨h.1, fun i hi => wpOpIn_mono (fun a' w' h' => anyN_any k _ a' w' h'.2) (h.2 i hi)⟩
theorem SameIn.op {i : Nat} {o : Oper} {v : Value} {a : Act} (hro : F.round = none) (hi : ops[i]? = some o) (hy : SameIn P ops S o v a) {K : Act → World → Prop} {w : World} (hS : S w) (h : K (a.put o.dst v) w) : wpOpIn F n P ops Q i K a w := by
  unfold wpOpIn
  simp only [hi]
  have hab : ∀ f, o.about P w a.eval = some f → F.fn f := fun f hf => by rw [hy.2 w] at hf; cases hf
  rcases hy.1 with ⟨hw, hv⟩ | ⟨hw, rfl⟩
  · simp only [hw, if_true, Oper.wpIn, hro, Oper.semAt_none, hv w hS, Oper.uponIn]; exact ⟨hab, h⟩
  · simp only [hw, Bool.false_eq_true, if_false]; exact ⟨hab, h⟩
theorem anyN_first {N : Nat → Bool} {i : Nat} {oi : Oper} {v : Value} (hro : F.round = none) (hi : ops[i]? = some oi) (hsel : ∀ (j : Nat) (o : Oper) cs b, ops[j]? = some o → o.op ≠ .select cs b)
    (hQ : ∀ c a w, Q (.panic c) (a.put oi.dst v) w → Q (.panic c) a w) (hN : ∀ j oj, ops[j]? = some oj → N j = true → ∃ e ∈ oj.after, Region.binds md e = true ∧ e.on = i) : ∀ (k : Nat) (listed : Array Bool) (a : Act) (w : World),
      (∀ j oj, ops[j]? = some oj → j ≠ i → listed.getD j true = false → (∀ e ∈ oj.after, Region.binds md e = true → e.on ≠ i) → oi.apart ops oj = true) →
      i ∈ Region.ready md ops listed → SameIn P ops S oi v a → S w →
      anyN F n P md ops Q S N k (listed.setIfInBounds i true) (a.put oi.dst v) w → anyN F n P md ops Q S N (k + 1) listed a w := by
  intro k
  induction k with
  | zero =>
    intro listed a w _ hr hy hS H
    refine ⟨fun h => absurd hr (by rw [h]; simp), fun j hj => ?_⟩
    by_cases e : j = i
    · subst e; exact hy.op hro hi hS ⟨fun _ => hS, H⟩
    · have := ready_mono hj e
      rw [H.1] at this; cases this
  | succ k ih =>
    intro listed a w hfree hr hy hS H
    refine ⟨fun h => absurd hr (by rw [h]; simp), fun j hj => ?_⟩
    by_cases e : j = i
    · subst e; exact hy.op hro hi hS ⟨fun _ => hS, H⟩
    · obtain ⟨hun, oj, hoj, hall⟩ := mem_ready.1 hj
      have hnot : ∀ e ∈ oj.after, Region.binds md e = true → e.on ≠ i := fun e he hb heq => by
        have h1 := hall e he hb
        have h0 := (mem_ready.1 hr).1
        rw [heq] at h1
        rcases Nat.lt_or_ge i listed.size with h' | h'
        · simp [h'] at h0 h1; rw [h0] at h1; cases h1
        · simp [Array.getElem?_eq_none h'] at h1
      have hNj : N j = false := Bool.eq_false_iff.2 fun h => by
        obtain ⟨e, he, hb, hon⟩ := hN j oj hoj h
        exact hnot e he hb hon
      obtain ⟨p1, p2, p3⟩ := Oper.apart_spec (hfree j oj hoj e hun hnot)
      have hlate := op_late (Y := SameIn P ops S oi v) hro hoj p1 (fun a u => (Act.put_comm a v u p2).symm) (fun cs b => hsel j oj cs b hoj) hQ
        (fun a u hy => ⟨hy.1.of_same (execOp_put oi (fun cs b => hsel i oi cs b hi) a oj.dst u p3) (wanted_put oi a oj.dst u p3), fun w => by rw [about_put oi w a oj.dst u p3]; exact hy.2 w⟩)
        (fun a d hy => ⟨hy.1.of_same rfl rfl, hy.2⟩) hy (H.2 j (ready_mono hj e))
      refine wpOpIn_mono (fun a' w' h3 => ⟨h3.2.1, ih (listed.setIfInBounds j true) a' w' (fun m om hm hmi hum hno => hfree m om hm hmi ?_ hno) (ready_mono hr (Ne.symm e)) h3.1 (h3.2.1 hNj) ?_⟩) hlate
      · by_cases hjm : j = m
        · subst hjm; exact hun
        · rw [getD_set_ne true hjm] at hum; exact hum
      · rw [Array.setIfInBounds_comm _ _ e]; exact h3.2.2
theorem anyN_take {N : Nat → Bool} {i : Nat} {oi : Oper} {v : Value} {k : Nat} {listed : Array Bool} {a : Act} {w : World} (hro : F.round = none) (hi : ops[i]? = some oi)
    (hs : Region.noSelect ops = true) (hf : Region.free md ops listed i = true) (hr : (Region.ready md ops listed).contains i = true)
    (hN : (List.range ops.size).all (fun j => !N j || (ops[j]?).all fun o => o.after.any fun e => Region.binds md e && decide (e.on = i)) = true) (hN2 : ∀ j, N j = true → j < ops.size)
    (hQ : ∀ c a w, Q (.panic c) (a.put oi.dst v) w → Q (.panic c) a w) (hy : SameIn P ops S oi v a) (hS : S w)
    (h : anyN F n P md ops Q S N k (listed.setIfInBounds i true) (a.put oi.dst v) w) : anyN F n P md ops Q S N (k + 1) listed a w :=
  anyN_first hro hi (Region.noSelect_spec hs) hQ (fun j oj hj hn => by
    have h1 := List.all_eq_true.1 hN j (List.mem_range.2 (hN2 j hn))
    rw [hn, hj] at h1
    simp only [Bool.not_true, Bool.false_or, Option.all_some, Array.any_eq_true'] at h1
    obtain ⟨e, he, h2⟩ := h1
    rw [Bool.and_eq_true] at h2
    exact ⟨e, by first | exact he | exact Array.mem_def.1 he, h2.1, of_decide_eq_true h2.2⟩) k listed a w (Region.free_spec hi hf) (by simpa using hr) hy hS h
theorem anyN_one {N : Nat → Bool} {i : Nat} {k : Nat} {listed : Array Bool} {a : Act} {w : World} (hr : Region.ready md ops listed = [i])
    (h : wpOpIn F n P ops Q i (fun a' w' => (N i = false → S w') ∧ anyN F n P md ops Q S N k (listed.setIfInBounds i true) a' w') a w) : anyN F n P md ops Q S N (k + 1) listed a w := by
  refine ⟨fun h0 => ?_, fun j hj => ?_⟩
  · rw [hr] at h0; cases h0
  · rw [hr] at hj; obtain rfl := List.mem_singleton.1 hj; exact h
theorem anyN_two {N : Nat → Bool} {i i' : Nat} {k : Nat} {listed : Array Bool} {a : Act} {w : World} (hr : Region.ready md ops listed = [i, i'])
    (h : wpOpIn F n P ops Q i (fun a' w' => (N i = false → S w') ∧ anyN F n P md ops Q S N k (listed.setIfInBounds i true) a' w') a w)
    (h' : wpOpIn F n P ops Q i' (fun a' w' => (N i' = false → S w') ∧ anyN F n P md ops Q S N k (listed.setIfInBounds i' true) a' w') a w) : anyN F n P md ops Q S N (k + 1) listed a w := by
  refine ⟨fun h0 => ?_, fun j hj => ?_⟩
  · rw [hr] at h0; cases h0
  · rw [hr] at hj
    rcases List.mem_cons.1 hj with rfl | hj
    · exact h
    · obtain rfl := List.mem_singleton.1 hj; exact h'
theorem anyN_done {N : Nat → Bool} {listed : Array Bool} {a : Act} {w : World} (hr : Region.ready md ops listed = []) (h : Q .normal a w) : ∀ k, anyN F n P md ops Q S N k listed a w
  | 0 => ⟨hr, h⟩
  | _ + 1 => ⟨fun _ => h, by rw [hr]; simp⟩
/-- Where S holds behind each. -/
abbrev anyS (F : Fence) (n : Nat) (P : Program) (md : Region.Mode) (ops : Array Oper) (Q : Exit → Act → World → Prop) (S : World → Prop) : Nat → Array Bool → Act → World → Prop := anyN F n P md ops Q S (fun _ => false)
theorem anyS_any (k : Nat) (listed : Array Bool) (a : Act) (w : World) (h : anyS F n P md ops Q S k listed a w) : wpAnyIn F n P md ops Q k listed a w := anyN_any k listed a w h
theorem anyS_take {i : Nat} {oi : Oper} {v : Value} {k : Nat} {listed : Array Bool} {a : Act} {w : World} (hro : F.round = none) (hi : ops[i]? = some oi)
    (hs : Region.noSelect ops = true) (hf : Region.free md ops listed i = true) (hr : (Region.ready md ops listed).contains i = true)
    (hQ : ∀ c a w, Q (.panic c) (a.put oi.dst v) w → Q (.panic c) a w) (hy : SameIn P ops S oi v a) (hS : S w)
    (h : anyS F n P md ops Q S k (listed.setIfInBounds i true) (a.put oi.dst v) w) : anyS F n P md ops Q S (k + 1) listed a w :=
  anyN_first hro hi (Region.noSelect_spec hs) hQ (fun _ _ _ h => by cases h) k listed a w (Region.free_spec hi hf) (by simpa using hr) hy hS h
theorem anyS_one {i : Nat} {k : Nat} {listed : Array Bool} {a : Act} {w : World} (hr : Region.ready md ops listed = [i])
    (h : wpOpIn F n P ops Q i (fun a' w' => S w' ∧ anyS F n P md ops Q S k (listed.setIfInBounds i true) a' w') a w) : anyS F n P md ops Q S (k + 1) listed a w :=
  anyN_one hr (wpOpIn_mono (fun _ _ h => ⟨fun _ => h.1, h.2⟩) h)
theorem anyS_done {listed : Array Bool} {a : Act} {w : World} (hr : Region.ready md ops listed = []) (h : Q .normal a w) (k : Nat) : anyS F n P md ops Q S k listed a w := anyN_done hr h k
end
end Go.Proofs.YtmcapemlfplcgaaDoor.H
/- A range over a func: as Rz has it, where what a round leaves behind keeps the iterator's own things even when no more is asked for. -/
namespace Go.Proofs.YtmcapemlfplcgaaDoor.H
open Go.RowKit Go.Proofs.YtmcapemlfplcgaaDoorW.PrintWords Go.Proofs.YtmcapemlfplcgaaDoorW.PrintLast Go.Proofs.YtmcapemlfplcgaaDoorW.PrintMore
set_option linter.unusedVariables false
/-- **AN ITERATOR's CONTRACT**, for callers that keep its things to the end. -/
def SeqK {α : Type} (T : TypeId → Prop) (F : Fence) (n : Nat) (P : Program) (g : Nat) (lb : Array Value) (Y : List α → α → Array Value → World → Prop) (n₀ : Nat) (Kb : Nat → Prop) (S Sp : List α → Prop) (w : World) : Prop :=
  ∀ (l : Nat) (J Jx : List α → World → Prop) (W : World), Kp n₀ Kb w W →
    (∀ s A B, J s A → Lies W.heap.size A B → J s B) → (∀ s A B, Jx s A → Lies W.heap.size A B → Jx s B) → (∀ s A, Jx s A → Kp n₀ Kb w A) →
    (∀ pre x vs W1, J pre W1 → Y pre x vs W1 → YieldAt F (n - 1) P l vs W1 fun e W' =>
      (e = .returned (.bool true) ∧ J (pre ++ [x]) W' ∧ Kp n₀ Kb W1 W' ∧ Kin T W.heap.size W1.heap.size W1 W') ∨ (e = .returned (.bool false) ∧ Jx (pre ++ [x]) W' ∧ Kin T W.heap.size W1.heap.size W1 W')) →
    J [] W →
    CallsIn F n P g (#[.func (.yield l) #[] #[]] ++ lb) W fun e W' => (∃ v, e = .returned v) ∧ ((∃ xs, S xs ∧ J xs W') ∨ (∃ pre, Sp pre ∧ Jx pre W'))
theorem SeqZ.k {α : Type} {T : TypeId → Prop} {F : Fence} {n : Nat} {P : Program} {g : Nat} {lb : Array Value} {Y : List α → α → Array Value → World → Prop} {n₀ : Nat} {Kb : Nat → Prop} {S Sp : List α → Prop} {w : World} (h : SeqZ T F n P g lb Y n₀ Kb S Sp w) : SeqK T F n P g lb Y n₀ Kb S Sp w :=
  fun l J Jx W hK hJ hJx _ hY h0 => h l J Jx W hK hJ hJx hY h0
/-- **THE STATEMENT 'for .. := range seq { body }' BY THAT CONTRACT.** -/
theorem rangeK {T : TypeId → Prop} {F : Fence} {n : Nat} {P : Program} {α : Type} {g : Operand} {ps : Array Tmp} {assign body : Code} {Q : Exit → Act → World → Prop} {a : Act} {w : World}
    (hro : F.round = none) (h1 : 1 ≤ n) {gf : Nat} {lb : Array Value} (hg : a.eval g = .func (.func gf) #[] lb) (hFg : F.fn gf) (eg : ∀ args w, (callFunc gf args).run P w = .ok (.enter gf args) w)
    {Y : List α → α → Array Value → World → Prop} {n₀ : Nat} {Kb : Nat → Prop} {S Sp : List α → Prop} (hseq : SeqK T F (n - 1) P gf lb Y n₀ Kb S Sp w) (hn : n₀ ≤ w.heap.size)
    (hps : ∀ pre x vs W, Y pre x vs W → vs.size = ps.size)
    (I : List α → World → Prop) (Ix : Code → List α → World → Prop) (hI : ∀ s A B, I s A → Lies w.heap.size A B → I s B) (hIx : ∀ c s A B, Ix c s A → Lies w.heap.size A B → Ix c s B) (hIxK : ∀ c s A, Ix c s A → Kp n₀ Kb w A) (h0 : I [] w)
    (hround : ∀ (l : Nat) (pre : List α) (x : α) (vs : Array Value) (W : World), w.heap.size ≤ l → I pre W → Y pre x vs W → w.heap.size ≤ W.heap.size →
      assign.wpIn (F.inRound l) (n - 1 - 1) P (Exit.then (fun a' Wa => Kin T w.heap.size W.heap.size W Wa ∧ Kp n₀ Kb W Wa ∧ ∀ Wb, Lies w.heap.size Wa Wb → body.wpIn (F.inRound l) (n - 1 - 1) P (zPost T w.heap.size W.heap.size n₀ Kb I Ix (pre ++ [x]) Wb) a' Wb) (fun _ _ _ => False))
        { tmps := (ps.zip vs).foldl (fun t (p, v) => t.setIfInBounds p v) a.tmps, defers := [] } W)
    (hdone : ∀ (D : Nat) (xs : List α) (W : World), w.heap.size ≤ D → S xs → I xs W → W.heap[D]? = some (.deferred (some [])) → Q .normal { a with defers := { target := .collected D, args := #[] } :: a.defers } W)
    (hstop : ∀ (D : Nat) (c : Code) (pre : List α) (W : World), w.heap.size ≤ D → Sp pre → Ix c pre W → W.heap[D]? = some (.deferred (some [])) → c.wpIn F n P Q { a with defers := { target := .collected D, args := #[] } :: a.defers } W) :
    (Code.rangeFunc g ps assign body).wpIn F n P Q a w := by
  refine wpIn_rangeFunc fun fn hfn => ?_
  rw [hro]
  obtain ⟨D, eD⟩ : ∃ D, D = w.heap.size := ⟨_, rfl⟩
  obtain ⟨rec, hrec⟩ : ∃ rec : LoopState → Option Code → Loop, rec = fun st pe => { state := st, pending := pe, fn, tmps := a.tmps, params := ps, assign, body, defers := D } := ⟨_, rfl⟩
  have hst : ∀ st pe, (rec st pe).state = st := fun _ _ => by rw [hrec]
  have hpe : ∀ st pe, (rec st pe).pending = pe := fun _ _ => by rw [hrec]
  have hre : ∀ st pe st', ({ rec st pe with state := st' } : Loop) = rec st' pe := fun _ _ _ => by rw [hrec]
  have hre2 : ∀ st pe st' pe', ({ rec st pe with state := st', pending := pe' } : Loop) = rec st' pe' := fun _ _ _ _ => by rw [hrec]
  have hbW : Below w.heap.size w ((w.alloc (.deferred (some []))).alloc (.loop (rec .ready none))) := ((Below.refl _ w).alloc (Nat.le_refl _) _).alloc (by simp) _
  have hL1 : ((w.alloc (.deferred (some []))).alloc (.loop (rec .ready none))).heap[D + 1]? = some (.loop (rec .ready none)) := by
    have := World.alloc_heap_new (w.alloc (.deferred (some []))) (.loop (rec .ready none)); rwa [World.size_alloc, ← eD] at this
  have hD1 : ((w.alloc (.deferred (some []))).alloc (.loop (rec .ready none))).heap[D]? = some (.deferred (some [])) := by
    rw [eD]; exact (Below.heap_alloc _ _ _ (by simp)).trans (World.alloc_heap_new w _)
  have hrun : (Instr.enterLoop fn a.tmps ps assign body none).run P w = .ok (D + 1, [{ target := .collected D, args := #[] }]) ((w.alloc (.deferred (some []))).alloc (.loop (rec .ready none))) := by
    rw [hrec, eD]; exact run_enterLoop_outer _ _ _ _ _
  have hI1 : I [] ((w.alloc (.deferred (some []))).alloc (.loop (rec .ready none))) := hI _ _ _ h0 (.of_below hbW)
  have hkp1 : Kp n₀ Kb w ((w.alloc (.deferred (some []))).alloc (.loop (rec .ready none))) := .of_below hbW hn
  generalize ((w.alloc (.deferred (some []))).alloc (.loop (rec .ready none))) = W1 at hbW hL1 hD1 hrun hI1 hkp1
  have hlt1 := lt_of_some hL1
  refine ⟨D + 1, [{ target := .collected D, args := #[] }], W1, { target := .fn (.func gf) lb, args := #[.func (.yield (D + 1)) #[] #[]] }, W1, gf,
    #[.func (.yield (D + 1)) #[] #[]] ++ lb, W1, hrun, ?_, ?_, ?_, fun _ => h1, ?_⟩
  · simp only [resolve, hg]
    simp [go_sem]
  · intro f' hf'
    simp [Target.leads] at hf'
    subst hf'
    exact hFg
  · simp [invoke, go_sem, eg]
  · refine (hseq (D + 1)
      (fun pre W => I pre W ∧ W.heap[D + 1]? = some (.loop (rec .ready none)) ∧ W.heap[D]? = some (.deferred (some [])))
      (fun pre W => ∃ c, Ix c pre W ∧ W.heap[D + 1]? = some (.loop (rec .done (some c))) ∧ W.heap[D]? = some (.deferred (some [])))
      W1 hkp1
      (fun s A B h hb => ⟨hI _ _ _ h.1 (hb.wide hbW.size), hb.same _ _ h.2.1 (.inl hlt1), hb.same _ _ h.2.2 (.inl (by omega))⟩)
      (fun s A B ⟨c, h1, h2, h3⟩ hb => ⟨c, hIx _ _ _ _ h1 (hb.wide hbW.size), hb.same _ _ h2 (.inl hlt1), hb.same _ _ h3 (.inl (by omega))⟩)
      (fun s A ⟨c, h1, _, _⟩ => hIxK _ _ _ h1)
      ?_ ⟨hI1, hL1, hD1⟩).mono ?_
    · rintro pre x vs W ⟨hi, hl, hd⟩ hy
      have hrunY := run_yield (P := P) (args := vs) hl (by rw [hrec]; exact hps _ _ _ _ hy)
      rw [hrec] at hrunY
      refine ⟨fn, _, assign, body, hrunY, roundIn_of_wpIn hfn ?_⟩
      have hlt := lt_of_some hl
      refine wpIn_mono (hround (D + 1) pre x vs W (by omega) hi hy (by omega)) ?_
      rintro e a1 Wa hpa
      cases e with
      | normal =>
        obtain ⟨hk1, hk2, hk3⟩ := hpa
        have hla := (hk1.2 (D + 1) (by omega) hlt (noC hl rfl)).trans hl
        have hda := (hk1.2 D (by omega) (by omega) (noC hd rfl)).trans hd
        refine ⟨_, run_beginRound hla (hst _ _), ?_⟩
        rw [hre]
        have hlies : Lies w.heap.size Wa (Wa.putObj (D + 1) (.loop (rec .busy none))) := .put (by omega) hla rfl _
        have hlb : (Wa.putObj (D + 1) (.loop (rec .busy none))).heap[D + 1]? = some (.loop (rec .busy none)) := World.putObj_heap_same (lt_of_some hla)
        have hdb : (Wa.putObj (D + 1) (.loop (rec .busy none))).heap[D]? = some (.deferred (some [])) := (World.putObj_heap_other (by omega)).trans hda
        have hkb : Kp n₀ Kb W (Wa.putObj (D + 1) (.loop (rec .busy none))) := hk2.trans (.put (by omega) _)
        have hbody := hk3 _ hlies
        have hkf : Kin T W1.heap.size W.heap.size W (Wa.putObj (D + 1) (.loop (rec .busy none))) := (hk1.wide hbW.size).trans (.put hlt1 _)
        generalize Wa.putObj (D + 1) (.loop (rec .busy none)) = Wb at hlb hdb hkb hbody hkf
        refine wpIn_mono hbody ?_
        have fin : ∀ (jump : Option Code) (W3 : World), Kin T w.heap.size W.heap.size Wb W3 →
            (Instr.endRound (D + 1) jump).run P W3 = .ok (.bool jump.isNone) (W3.putObj (D + 1) (.loop (rec (if jump.isNone then .ready else .done) jump))) ∧
            Lies w.heap.size W3 (W3.putObj (D + 1) (.loop (rec (if jump.isNone then .ready else .done) jump))) ∧
            (W3.putObj (D + 1) (.loop (rec (if jump.isNone then .ready else .done) jump))).heap[D + 1]? = some (.loop (rec (if jump.isNone then .ready else .done) jump)) ∧
            (W3.putObj (D + 1) (.loop (rec (if jump.isNone then .ready else .done) jump))).heap[D]? = some (.deferred (some [])) := fun jump W3 hk => by
          have hl3 := (hk.2 (D + 1) (by omega) hlt (noC hlb rfl)).trans hlb
          have hd3 := (hk.2 D (by omega) (by omega) (noC hdb rfl)).trans hdb
          have := run_endRound (P := P) jump hl3
          rw [hre2] at this
          exact ⟨this, .put (by omega) hl3 rfl _, World.putObj_heap_same (lt_of_some hl3), (World.putObj_heap_other (by omega)).trans hd3⟩
        rintro e a3 W3 hp
        cases e with
        | normal =>
          obtain ⟨q1, q2, q3⟩ := hp
          obtain ⟨f1, f2, f3, f4⟩ := fin none W3 q1
          exact ⟨_, _, f1, .inl ⟨rfl, ⟨hI _ _ _ q3 f2, f3, f4⟩, (hkb.trans q2).trans (.put (by omega) _), (hkf.trans (q1.wide hbW.size)).trans (.put hlt1 _)⟩⟩
        | ret =>
          obtain ⟨q1, q3⟩ := hp
          obtain ⟨f1, f2, f3, f4⟩ := fin (some .ret) W3 q1
          exact ⟨_, _, f1, .inr ⟨rfl, ⟨.ret, hIx _ _ _ _ q3 f2, f3, f4⟩, (hkf.trans (q1.wide hbW.size)).trans (.put hlt1 _)⟩⟩
        | exit id =>
          obtain ⟨q1, q3⟩ := hp
          obtain ⟨f1, f2, f3, f4⟩ := fin (some (.exit id)) W3 q1
          exact ⟨_, _, f1, .inr ⟨rfl, ⟨.exit id, hIx _ _ _ _ q3 f2, f3, f4⟩, (hkf.trans (q1.wide hbW.size)).trans (.put hlt1 _)⟩⟩
        | goto t => exact hp.elim
        | panic ch => exact hp.elim
        | outgrown => exact hp.elim
      | ret => exact hpa.elim
      | exit id => exact hpa.elim
      | goto t => exact hpa.elim
      | panic ch => exact hpa.elim
      | outgrown => exact hpa.elim
    · rintro e W2 ⟨⟨v, rfl⟩, (⟨xs, hS, hi, hl, hd⟩ | ⟨pre, hSp, c, hi, hl, hd⟩)⟩
      · refine ⟨none, _, by have := run_endLoop (P := P) hl (by rw [hst]; simp); rw [hpe] at this; exact this, ?_⟩
        exact hdone D xs _ (by omega) hS (hI _ _ _ hi (.put (by omega) hl rfl _)) ((World.putObj_heap_other (by omega)).trans hd)
      · refine ⟨some c, _, by have := run_endLoop (P := P) hl (by rw [hst]; simp); rw [hpe] at this; exact this, ?_⟩
        exact hstop D c pre _ (by omega) hSp (hIx _ _ _ _ hi (.put (by omega) hl rfl _)) ((World.putObj_heap_other (by omega)).trans hd)
end Go.Proofs.YtmcapemlfplcgaaDoor.H
