/- Some texts of one seat in one file, in build order. -/
import Derived.Test.YtcnmbllafdeokaaWMore
import Derived.Test.YtcnmbllafdeokaaWLast
import Derived.Test.YtcnmbllafdeokaaWZeros
import Derived.Test.YtcnmbllafdeokaaWArr
import Derived.Test.YtcnmbllafdeokaaWRepsOne
import Derived.Below
import Derived.Deep.Draws
import Derived.OwnWalk
import Derived.Tactics
import Derived.Laws.Slices
import Derived.Laws.Rows
import Derived.WalkKit
import Derived.KernelRfl
import Derived.RowKit3
import Derived.Deep.QuietTactic
import Derived.BigQuiet
import Derived.Lib.SliceRun
import Derived.Outline
import Derived.LoopTactic
import Derived.Deep.LoopGhost
import Derived.Lib.Hide
import Derived.Lib.SlBytesConst
import Derived.ProofKit
import Derived.OpenShut
import Derived.ShutString
import Derived.ChangeOld
import Derived.SizedLaws
import Derived.ChangeSlices
/- Lemmas over any program: a store of a whole array or struct into a block; slices of slices that are read. -/
namespace Go.Proofs.Ytcnmbllafdeokaa.H
open Go.RowKit Go.Proofs.YtcnmbllafdeokaaW.PrintWords Go.Proofs.YtcnmbllafdeokaaW.PrintLast Go.Proofs.YtcnmbllafdeokaaW.PrintMore
set_option linter.unusedVariables false

theorem at_slice {α : Type} {d : Kd α} {e : Nat} {w : World} {A : Option Addr} {n : Nat} {xs : List (List α)} (h : Kd.C (Kd.slice e d) w A n xs) (k : Nat) (hk : k < n) :
    ∃ ad A0 c0, A = some ad ∧ w.cell? (ad.add k) = some (.slice A0 (xs.getD k []).length c0) ∧ (xs.getD k []).length ≤ c0 ∧ d.C w A0 (xs.getD k []).length (xs.getD k []) := by
  obtain ⟨ad, c, e, _, hK, hc0⟩ := Kd.C_get h ([] : List α) k (by omega) (by omega)
  have hc : ∀ j u, c[j]? = some u → w.cell? (ad.add ((k : Int).toNat * 1 + j)) = some u := hc0
  obtain ⟨A0, c0, rfl, l0, g0⟩ := hK
  exact ⟨ad, A0, c0, e, by have hq := hc 0 _ rfl; rwa [Nat.mul_one, Nat.add_zero] at hq, l0, g0⟩

section
variable {P : Program} {ops : Array Oper} {rest : List Oper} {o : Oper} {a : Act} {Q : Exit → Act → World → Prop} {W : World}
/-- A whole array (or struct) V stored over a block of as many cells. -/
theorem wpList_store_agg (hN : o.dst = none) (hgd : o.guard = none) (t : TypeId) (p x : Operand) (ho : o.op = .store t p x) (g : Nat) (e : TypeId) (cur V : Array Value)
    (hp : a.eval p = .pointer (some ⟨g, 0, none⟩)) (hx : a.eval x = .agg V) (hh : W.heap[g]? = some (.cells cur e (0, 0))) (ht : (P.info? t).map (·.size) = some V.size) (hs : cur.size = V.size)
    (h1 : ∀ q ∈ V.toList, q.oneCell' = true)
    (h : ∀ w1, w1.heap[g]? = some (.cells V e (0, 0)) → (∀ k, k ≠ g → w1.heap[k]? = W.heap[k]?) → w1.heap.size = W.heap.size → w1.os = W.os → w1.tape = W.tape → w1.output = W.output → wpList P ops Q rest a w1) : wpList P ops Q (o :: rest) a W := by
  have hl : V.toList.length = V.size := Array.length_toList
  have hrun : (Instr.storeAt t (.pointer (some ⟨g, 0, none⟩)) (.agg V)).run P W = .ok () (W.setCells g 0 V.toList) :=
    run_store_run t (.agg V) V.toList hh rfl (by rw [ht, hl]) (by omega) h1
  obtain ⟨cur', h3, h4, h5⟩ := setCells_row (g := g) V.toList 0 W cur hh (by omega)
  obtain ⟨s1, s2, s3, s4⟩ := setCells_same g V.toList 0 W
  have e2 : cur' = V := by
    apply Array.toList_inj.mp
    rw [h5, List.take_zero, List.nil_append, List.drop_of_length_le (by rw [Array.length_toList]; omega), List.append_nil]
  subst e2
  refine wpList_plain hgd fun K hK => ?_
  unfold Oper.wp execOp
  simp only [ho, hp, hx, Sem.run_bind, Sem.run_pure, Result.andThen_ok, hrun]
  show K (a.put o.dst undef) _
  rw [hN]
  exact hK a _ (h _ h3 (fun k hk => setCells_far _ 0 k hk) s4 s1 s2 s3)
end

/-- A block known whole, read as a row. -/
theorem C_row {α : Type} {d : Kd α} {W : World} {g : Nat} {t : TypeId} {fr : Nat × Nat} {cs : Array Value} {xs : List α} (hg : W.heap[g]? = some (.cells cs t fr)) (h : Reps (d.K W) d.sz xs cs.toList) (hl : xs.length ≤ 9223372036854775807) :
    d.C W (some ⟨g, 0, none⟩) xs.length xs := by
  refine ⟨rfl, hl, fun _ => ⟨_, rfl, fun j p hj => ⟨(cs.toList.drop (j * d.sz)).take d.sz, ?_, h.2 j p hj, fun i u hu => ?_⟩⟩⟩
  · exact d.K_len (h.2 j p hj)
  · rw [add_plain, cell_of_row _ _ _ _ _ _ hg]
    rw [List.getElem?_take] at hu
    split at hu
    · rw [List.getElem?_drop] at hu
      rw [← hu, Array.getElem?_toList]
    · cases hu
theorem K_slice {α : Type} {d : Kd α} {e : Nat} {W : World} {A : Option Addr} {c : Nat} {l : List α} (hc : l.length ≤ c) (h : d.C W A l.length l) : (Kd.slice e d).K W l [.slice A l.length c] := ⟨A, c, rfl, hc, h⟩
/-- A slice's value, as a call wants it: read, from what is owned. -/
theorem R_C {α : Type} {d : Kd α} {e : Nat} {W : World} {base : Nat} {ok : Nat → Prop} {v : Value} {l : List α} (h : d.R e W base ok v l) : ∃ A c, v = .slice A l.length c ∧ l.length ≤ c ∧ d.C W A l.length l := Kd.R_reads h
/-- The beginning of what is read. -/
theorem C_take' {α : Type} {d : Kd α} {W : World} {A : Option Addr} {l : List α} (h : d.C W A l.length l) (m : Nat) (hm : m ≤ l.length) : d.C W A (l.take m).length (l.take m) := Kd.C_take h hm

theorem reps_map {α : Type} {enc : α → Value} (l : List α) : Reps (fun (x : α) (cs : List Value) => cs = [enc x]) 1 l (l.map enc) := by
  induction l with
  | nil => exact Reps.none _ _
  | cons x xs ih => exact Reps.one rfl ih
/-- A literal row of scalars, read. -/
theorem C_lit {k : IntKind} (W : World) (l : List Int) (e : TypeId) (fr : Nat × Nat) (h : l.length ≤ 9223372036854775807) : (Kd.int k).C (W.alloc (.cells (l.map (Value.int k)).toArray e fr)) (some ⟨W.heap.size, 0, none⟩) l.length l :=
  C_row (blk_new _ _) (reps_map (enc := Value.int k) l) h
/-- A literal row of one slice. -/
theorem C_one {α : Type} {d : Kd α} {e : Nat} {W : World} {A : Option Addr} {c : Nat} {l : List α} (t : TypeId) (fr : Nat × Nat) (hc : l.length ≤ c) (h : d.C W A l.length l) : (Kd.slice e d).C (W.alloc (.cells #[.slice A l.length c] t fr)) (some ⟨W.heap.size, 0, none⟩) 1 [l] :=
  C_row (xs := [l]) (blk_new _ _) (Reps.one (K_slice hc (Kd.C_alloc h _)) (Reps.none _ _)) (by simp)
theorem C_two {α : Type} {d : Kd α} {e : Nat} {W : World} {A A2 : Option Addr} {c c2 : Nat} {l l2 : List α} (t : TypeId) (fr : Nat × Nat) (hc : l.length ≤ c) (h : d.C W A l.length l) (hc2 : l2.length ≤ c2) (h2 : d.C W A2 l2.length l2) :
    (Kd.slice e d).C (W.alloc (.cells #[.slice A l.length c, .slice A2 l2.length c2] t fr)) (some ⟨W.heap.size, 0, none⟩) 2 [l, l2] :=
  C_row (xs := [l, l2]) (blk_new _ _) (Reps.one (K_slice hc (Kd.C_alloc h _)) (Reps.one (K_slice hc2 (Kd.C_alloc h2 _)) (Reps.none _ _))) (by simp)
theorem C_nil {α : Type} {d : Kd α} (W : World) (A : Option Addr) : d.C W A 0 [] := ⟨rfl, Nat.zero_le _, fun h => absurd h (Nat.lt_irrefl 0)⟩
/-! The same where the block's number is told otherwise. -/
theorem C_litg {k : IntKind} (W : World) (g : Nat) (l : List Int) (e : TypeId) (fr : Nat × Nat) (hg : W.heap.size = g) (h : l.length ≤ 9223372036854775807) : (Kd.int k).C (W.alloc (.cells (l.map (Value.int k)).toArray e fr)) (some ⟨g, 0, none⟩) l.length l := by
  subst hg; exact C_lit W l e fr h
theorem C_oneg {α : Type} {d : Kd α} {e : Nat} {W : World} {A : Option Addr} {c : Nat} {l : List α} (g : Nat) (t : TypeId) (fr : Nat × Nat) (hg : W.heap.size = g) (hc : l.length ≤ c) (h : d.C W A l.length l) : (Kd.slice e d).C (W.alloc (.cells #[.slice A l.length c] t fr)) (some ⟨g, 0, none⟩) 1 [l] := by
  subst hg; exact C_one t fr hc h
theorem C_twog {α : Type} {d : Kd α} {e : Nat} {W : World} {A A2 : Option Addr} {c c2 : Nat} {l l2 : List α} (g : Nat) (t : TypeId) (fr : Nat × Nat) (hg : W.heap.size = g) (hc : l.length ≤ c) (h : d.C W A l.length l) (hc2 : l2.length ≤ c2) (h2 : d.C W A2 l2.length l2) :
    (Kd.slice e d).C (W.alloc (.cells #[.slice A l.length c, .slice A2 l2.length c2] t fr)) (some ⟨g, 0, none⟩) 2 [l, l2] := by
  subst hg; exact C_two t fr hc h hc2 h2
end Go.Proofs.Ytcnmbllafdeokaa.H
/- The openings of a law's arguments: what can be read as data is read as numbers, lists and structs. Over any program. -/
namespace Go.Proofs.Ytcnmbllafdeokaa.H
open Go.RowKit Go.ChangeShapes Go.WideShapes Go.ChangeAt Go.Proofs.YtcnmbllafdeokaaW.PrintWords Go.Proofs.YtcnmbllafdeokaaW.PrintLast Go.Proofs.YtcnmbllafdeokaaW.PrintMore
set_option linter.unusedVariables false

/-- What is read of type t is of kind d, and good. -/
def Opens (P : Program) (t : TypeId) {α : Type} (d : Kd α) (G : α → Prop) : Prop :=
  ∀ (H : Type) (enc : TypeId × Value → H) (W : World) (fuel : Nat) (cs : List Value) (x : DataW H × List MemPlace), DataW.trod enc P W 0 (fun _ => true) true fuel t cs = some x → ∃ a : α, d.K W a cs ∧ G a
section
variable {P : Program} {α β : Type}
theorem opens_int {t : TypeId} {k : IntKind} (hu : P.underlying t = some (.int k)) : Opens P t (Kd.int k) (fun n => (Lit.int k n).wf = true) := by
  intro H enc W fuel cs x h
  obtain ⟨n, hc, _, hw⟩ := DataW.trod_int hu h
  exact ⟨n, hc, hw⟩
theorem opens_bool {t : TypeId} (hu : P.underlying t = some .bool) : Opens P t Kd.bool (fun _ => True) := by
  intro H enc W fuel cs x h
  obtain ⟨n, hc, _⟩ := DataW.trod_bool hu h
  exact ⟨n, hc, trivial⟩
theorem opens_string {t : TypeId} (hu : P.underlying t = some .string) : Opens P t Kd.string (fun s => s.size ≤ maxLen) := by
  intro H enc W fuel cs x h
  cases fuel with
  | zero => simp [DataW.trod] at h
  | succ n =>
    unfold DataW.trod at h
    rw [hu] at h
    split at h <;> simp_all
    rename_i s
    exact ⟨s, rfl, h.1⟩
theorem opens_slice {t e : TypeId} {d : Kd α} {G : α → Prop} (z : α) (hu : P.underlying t = some (.slice e)) (hsz : P.cellsOf e = d.sz) (hop : Opens P e d G) : Opens P t (Kd.slice e d) (fun l => ∀ x ∈ l, G x) := by
  intro H enc W fuel cs x h
  rcases DataW.trod_slice hu h with ⟨rfl, _⟩ | ⟨a, len, cap, elems, rest, n, _, rfl, rfl, hb, hl, hm, hlen, hel, hsp, hns⟩
  · exact ⟨[], ⟨none, 0, rfl, Nat.le_refl _, ⟨rfl, Nat.zero_le _, fun h => absurd h (Nat.lt_irrefl 0)⟩⟩, fun x hx => by cases hx⟩
  · have each : ∀ i, i < len → ∃ v : α, ∃ c : List Value, c.length = d.sz ∧ d.K W v c ∧ G v ∧ ∀ j u, c[j]? = some u → W.cell? (a.add (i * d.sz + j)) = some u := by
      intro i hi
      have h1 := hel i hi
      have hi2 : i < elems.length := by omega
      rw [List.getElem?_eq_getElem hi2] at h1
      obtain ⟨c, hc, ht⟩ := Option.bind_eq_some_iff.1 h1
      obtain ⟨_, hcl, hcell⟩ := World.cells?_some hc
      obtain ⟨v, hk, hg⟩ := hop H enc W n c _ ht
      refine ⟨v, c, by rw [hcl, hsz], hk, hg, fun j u hu => ?_⟩
      have hj : j < P.cellsOf e := by rw [← hcl]; exact (List.getElem?_eq_some_iff.1 hu).1
      have := hcell j hj
      rw [add_add, hsz] at this
      rw [this, hu]
    have hex : ∃ l : List α, l.length = len ∧ ∀ i, i < len → ∃ c : List Value, c.length = d.sz ∧ d.K W (l.getD i z) c ∧ G (l.getD i z) ∧ ∀ j u, c[j]? = some u → W.cell? (a.add (i * d.sz + j)) = some u := by
      clear hel hsp hns hlen hl h hm
      induction len with
      | zero => exact ⟨[], rfl, fun i hi => by omega⟩
      | succ len ih =>
        obtain ⟨l, hl, hall⟩ := ih (fun i hi => each i (by omega))
        obtain ⟨v, c, h1, h2, h3, h4⟩ := each len (by omega)
        refine ⟨l ++ [v], by simp [hl], fun i hi => ?_⟩
        by_cases hi2 : i < len
        · obtain ⟨c, h⟩ := hall i hi2
          refine ⟨c, ?_⟩
          have e : (l ++ [v]).getD i z = l.getD i z := by simp [List.getD_eq_getElem?_getD, List.getElem?_append_left (show i < l.length by omega)]
          rw [e]; exact h
        · obtain rfl : i = len := by omega
          have e : (l ++ [v]).getD i z = v := by simp [List.getD_eq_getElem?_getD, ← hl]
          rw [e]; exact ⟨c, h1, h2, h3, h4⟩
    obtain ⟨l, hll, hall⟩ := hex
    refine ⟨l, ⟨some a, cap, by rw [hll], by omega, ⟨rfl, by unfold maxLen at hm; omega, fun _ => ⟨a, rfl, fun j p hj => ?_⟩⟩⟩, fun x hx => ?_⟩
    · have hjl := (List.getElem?_eq_some_iff.1 hj).1
      obtain ⟨c, h1, h2, _, h4⟩ := hall j (by omega)
      have e : l.getD j z = p := by rw [List.getD_eq_getElem?_getD, hj]; rfl
      rw [e] at h2
      exact ⟨c, h1, h2, h4⟩
    · obtain ⟨j, hjl, rfl⟩ := List.mem_iff_getElem.1 hx
      obtain ⟨c, _, _, h3, _⟩ := hall j (by omega)
      have e : l.getD j z = l[j] := by rw [List.getD_eq_getElem?_getD, List.getElem?_eq_getElem hjl]; rfl
      rw [e] at h3; exact h3

/-- The fields from the cell o on. -/
def OpensFrom (P : Program) (fs : List Field) (o : Nat) {α : Type} (d : Kd α) (G : α → Prop) : Prop :=
  ∀ (H : Type) (enc : TypeId × Value → H) (W : World) (fuel : Nat) (cs : List Value), o + d.sz = cs.length →
    (∀ (i : Nat) (f : Field), fs[i]? = some f → ∃ y : DataW H × List MemPlace, DataW.trod enc P W 0 (fun _ => true) true fuel f.type ((cs.drop f.offset).take (P.cellsOf f.type)) = some y) → ∃ a : α, d.K W a (cs.drop o) ∧ G a
theorem opens_last {f : Field} {o : Nat} {d : Kd α} {G : α → Prop} (ho : f.offset = o) (hsz : P.cellsOf f.type = d.sz) (h : Opens P f.type d G) : OpensFrom P [f] o d G := by
  intro H enc W fuel cs hl hall
  obtain ⟨y, hy⟩ := hall 0 f rfl
  obtain ⟨a, hk, hg⟩ := h H enc W fuel _ y hy
  rw [ho, hsz, List.take_of_length_le (by rw [List.length_drop]; omega)] at hk
  exact ⟨a, hk, hg⟩
theorem opens_cons {f : Field} {fs : List Field} {o : Nat} {d : Kd α} {G : α → Prop} {d2 : Kd β} {G2 : β → Prop} (ho : f.offset = o) (hsz : P.cellsOf f.type = d.sz) (h : Opens P f.type d G) (h2 : OpensFrom P fs (o + d.sz) d2 G2) :
    OpensFrom P (f :: fs) o (Kd.pair d d2) (fun x => G x.1 ∧ G2 x.2) := by
  intro H enc W fuel cs hl hall
  have hl' : o + (d.sz + d2.sz) = cs.length := hl
  obtain ⟨y, hy⟩ := hall 0 f rfl
  obtain ⟨a, hk, hg⟩ := h H enc W fuel _ y hy
  obtain ⟨b, hk2, hg2⟩ := h2 H enc W fuel cs (by omega) (fun i f' hf => hall (i + 1) f' hf)
  rw [ho, hsz] at hk
  refine ⟨(a, b), ⟨_, _, ?_, hk, hk2⟩, hg, hg2⟩
  rw [← List.drop_drop, List.take_append_drop]
theorem opens_struct {t : TypeId} {fs : Array Field} {d : Kd α} {G : α → Prop} (hu : P.underlying t = some (.struct fs)) (hsz : P.cellsOf t = d.sz) (h : OpensFrom P fs.toList 0 d G) : Opens P t d G := by
  intro H enc W fuel cs x hx
  obtain ⟨xs, n, rfl, rfl, hcl, hxl, hall⟩ := DataW.trod_struct hu hx
  obtain ⟨a, hk, hg⟩ := h H enc W n cs (by omega) (fun i f hf => by
    have hf2 : fs[i]? = some f := by rw [← Array.getElem?_toList]; exact hf
    have := hall i f hf2
    have hi : i < xs.length := by rw [hxl]; exact (Array.getElem?_eq_some_iff.1 hf2).1
    rw [List.getElem?_eq_getElem hi] at this
    exact ⟨_, this⟩)
  exact ⟨a, hk, hg⟩
/-- By a structure's fields: mk makes the structure. -/
theorem opens_iso {t : TypeId} {d : Kd α} {G : α → Prop} {f : β → α} (mk : α → β) (hmk : ∀ x, f (mk x) = x) (h : Opens P t d G) : Opens P t (Kd.iso d f) (fun x => G (f x)) := by
  intro H enc W fuel cs x hx
  obtain ⟨a, hk, hg⟩ := h H enc W fuel cs x hx
  exact ⟨mk a, by show d.K W (f (mk a)) cs; rw [hmk]; exact hk, by show G (f (mk a)); rw [hmk]; exact hg⟩
theorem opens_weaken {t : TypeId} {d : Kd α} {G G' : α → Prop} (hi : ∀ x, G x → G' x) (h : Opens P t d G) : Opens P t d G' := by
  intro H enc W fuel cs x hx
  obtain ⟨a, hk, hg⟩ := h H enc W fuel cs x hx
  exact ⟨a, hk, hi _ hg⟩

section
variable {H : Type} {enc : TypeId × Value → H} {W : World} {v : Value} {dd : DataW H} {ps : List MemPlace} {r : Reach} {b0 : Nat} {t : TypeId} {d : Kd α} {G : α → Prop}
/-- An argument that is a slice. -/
theorem top_slice {e : TypeId} (hu : P.underlying t = some (.slice e)) (hop : Opens P t (Kd.slice e d) (fun l => ∀ x ∈ l, G x)) (hval : Value.okWide P W r b0 t v) (h : DataW.Trod enc P W 0 (fun _ => true) true t v dd ps) :
    ∃ A c l, v = .slice A (List.length l) c ∧ l.length ≤ c ∧ d.C W A l.length l ∧ ∀ x ∈ l, G x := by
  obtain ⟨a, n, c, rfl⟩ := okWide_slice hu hval
  obtain ⟨fuel, hf⟩ := h
  obtain ⟨l, ⟨A, c', hcs, hl, hc⟩, hg⟩ := hop H enc W fuel _ _ hf
  simp [Value.cells] at hcs
  obtain ⟨rfl, rfl, rfl⟩ := hcs
  exact ⟨_, _, l, rfl, hl, hc, hg⟩
theorem top_int {k : IntKind} (hu : P.underlying t = some (.int k)) (hval : Value.okWide P W r b0 t v) (h : DataW.Trod enc P W 0 (fun _ => true) true t v dd ps) : ∃ n, v = .int k n ∧ (Lit.int k n).wf = true := by
  obtain ⟨n, rfl, _, _, hw⟩ := open_int hu hval h
  exact ⟨n, rfl, hw⟩
theorem top_bool (hu : P.underlying t = some .bool) (hval : Value.okWide P W r b0 t v) : ∃ b, v = .bool b := okWide_bool hu hval
theorem top_string (hu : P.underlying t = some .string) (hval : Value.okWide P W r b0 t v) (h : DataW.Trod enc P W 0 (fun _ => true) true t v dd ps) : ∃ s, v = .string s ∧ s.size ≤ maxLen := by
  obtain ⟨s, rfl⟩ := okWide_string hu hval
  obtain ⟨fuel, hf⟩ := h
  obtain ⟨s', hk, hg⟩ := opens_string hu H enc W fuel _ _ hf
  have : s = s' := by
    have hk' : (Value.string s).cells.toList = [.string s'] := hk
    simpa [Value.cells] using hk'
  subst this
  exact ⟨s, rfl, hg⟩
/-- An argument that is a struct. -/
theorem top_struct {fs : Array Field} (hu : P.underlying t = some (.struct fs)) (hop : Opens P t d G) (hval : Value.okWide P W r b0 t v) (h : DataW.Trod enc P W 0 (fun _ => true) true t v dd ps) :
    ∃ (cs : List Value) (x : α), v = .agg cs.toArray ∧ d.K W x cs ∧ G x := by
  simp only [Value.okWide, hu] at hval
  obtain ⟨cs, rfl, _, _⟩ := hval
  obtain ⟨fuel, hf⟩ := h
  obtain ⟨x, hk, hg⟩ := hop H enc W fuel _ _ hf
  exact ⟨cs.toList, x, by simp, hk, hg⟩
end
end
theorem wf_u8 {n : Int} (h : (Lit.int .u8 n).wf = true) : 0 ≤ n ∧ n < 256 := by
  simp only [Lit.wf, Bool.and_eq_true, decide_eq_true_eq] at h
  have e1 : IntKind.u8.min = 0 := by decide
  have e2 : IntKind.u8.max = 255 := by decide
  rw [e1, e2] at h; omega
theorem wf_u32 {n : Int} (h : (Lit.int .u32 n).wf = true) : 0 ≤ n ∧ n < 4294967296 := by
  simp only [Lit.wf, Bool.and_eq_true, decide_eq_true_eq] at h
  have e1 : IntKind.u32.min = 0 := by decide
  have e2 : IntKind.u32.max = 4294967295 := by decide
  rw [e1, e2] at h; omega
theorem wf_u64 {n : Int} (h : (Lit.int .u64 n).wf = true) : 0 ≤ n ∧ n < 18446744073709551616 := by
  simp only [Lit.wf, Bool.and_eq_true, decide_eq_true_eq] at h
  have e1 : IntKind.u64.min = 0 := by decide
  have e2 : IntKind.u64.max = 18446744073709551615 := by decide
  rw [e1, e2] at h; omega
theorem wf_i64 {n : Int} (h : (Lit.int .i64 n).wf = true) : -9223372036854775808 ≤ n ∧ n ≤ 9223372036854775807 := by
  simp only [Lit.wf, Bool.and_eq_true, decide_eq_true_eq] at h
  have e1 : IntKind.i64.min = -9223372036854775808 := by decide
  have e2 : IntKind.i64.max = 9223372036854775807 := by decide
  rw [e1, e2] at h; omega
end Go.Proofs.Ytcnmbllafdeokaa.H
/- What a function with rounds comes to, given enough of them. No program. -/
namespace Go.Proofs.Ytcnmbllafdeokaa.Ult
set_option linter.unusedVariables false
variable {α β : Type}
def Ult (g : Nat → Option α) (r : α) : Prop := ∃ k0, ∀ k, k0 ≤ k → g k = some r
theorem Ult.get {g : Nat → Option α} {r : α} (h : Ult g r) : ∃ k, g k = some r := by obtain ⟨k, h⟩ := h; exact ⟨k, h k (Nat.le_refl _)⟩
theorem Ult.pure (r : α) : Ult (fun _ => some r) r := ⟨0, fun _ _ => rfl⟩
theorem Ult.const {o : Option α} {r : α} (h : o = some r) : Ult (fun _ => o) r := ⟨0, fun _ _ => h⟩
theorem Ult.succ {g : Nat → Option α} {r : α} (h : Ult (fun k => g (k + 1)) r) : Ult g r := by
  obtain ⟨k0, h⟩ := h
  refine ⟨k0 + 1, fun k hk => ?_⟩
  have h1 : g (k - 1 + 1) = some r := h (k - 1) (by omega)
  rwa [show k - 1 + 1 = k by omega] at h1
theorem Ult.bind {g : Nat → Option β} {h : Nat → β → Option α} {x : β} {r : α} (hg : Ult g x) (hh : Ult (fun k => h k x) r) : Ult (fun k => (g k).bind (h k)) r := by
  obtain ⟨k0, hg⟩ := hg
  obtain ⟨k1, hh⟩ := hh
  refine ⟨max k0 k1, fun k hk => ?_⟩
  show (g k).bind (h k) = some r
  rw [hg k (by omega)]
  exact hh k (by omega)
/-- What is told at once. -/
theorem Ult.bind0 {o : Option β} {h : Nat → β → Option α} {x : β} {r : α} (ho : o = some x) (hh : Ult (fun k => h k x) r) : Ult (fun k => o.bind (h k)) r := Ult.bind (.const ho) hh
theorem Ult.pos {c : Prop} [Decidable c] {a b : Nat → Option α} {r : α} (hc : c) (h : Ult a r) : Ult (fun k => if c then a k else b k) r := by
  simp only [if_pos hc]; exact h
theorem Ult.neg {c : Prop} [Decidable c] {a b : Nat → Option α} {r : α} (hc : ¬ c) (h : Ult b r) : Ult (fun k => if c then a k else b k) r := by
  simp only [if_neg hc]; exact h
theorem Ult.ite {c : Prop} [Decidable c] {a b : Nat → Option α} {r : α} (h1 : c → Ult a r) (h2 : ¬ c → Ult b r) : Ult (fun k => if c then a k else b k) r := by
  by_cases hc : c
  · exact .pos hc (h1 hc)
  · exact .neg hc (h2 hc)
/-- Told once, and told the same with more rounds. -/
theorem Ult.of_mono {g : Nat → Option α} {r : α} (hm : ∀ k r, g k = some r → g (k + 1) = some r) {k0 : Nat} (h : g k0 = some r) : Ult g r := by
  refine ⟨k0, fun k hk => ?_⟩
  obtain ⟨d, rfl⟩ : ∃ d, k = k0 + d := ⟨k - k0, by omega⟩
  clear hk
  induction d with
  | zero => exact h
  | succ d ih => exact hm _ _ ih
theorem Ult.eq {g : Nat → Option α} {r r' : α} (h : Ult g r) (e : r = r') : Ult g r' := e ▸ h
end Go.Proofs.Ytcnmbllafdeokaa.Ult
/- Plain mathematics of package table: trees whose sides are at most one apart, as lists of keys with values. No program. -/
namespace Go.Proofs.Ytcnmbllafdeokaa.TrM

inductive Tr (α β : Type) where
  | lf
  | nd (k : α) (v : β) (l r : Tr α β)
variable {α β : Type}
def hT : Tr α β → Nat
  | .lf => 0
  | .nd _ _ l r => max (hT l) (hT r) + 1
def sT : Tr α β → Nat
  | .lf => 0
  | .nd _ _ l r => sT l + sT r + 1
def leanT : Tr α β → Int
  | .lf => 0
  | .nd _ _ l r => (hT l : Int) - hT r
def flat : Tr α β → List (α × β)
  | .lf => []
  | .nd k v l r => flat l ++ (k, v) :: flat r
def turnR : Tr α β → Tr α β
  | .nd k v (.nd k' v' l r) r' => .nd k' v' l (.nd k v r r')
  | t => t
def turnL : Tr α β → Tr α β
  | .nd k v l (.nd k' v' l' r') => .nd k' v' (.nd k v l l') r'
  | t => t
def evenT (k : α) (v : β) (l r : Tr α β) : Tr α β :=
  if (hT l : Int) - hT r > 1 then (if leanT l < 0 then turnR (.nd k v (turnL l) r) else turnR (.nd k v l r))
  else if (hT l : Int) - hT r < -1 then (if leanT r > 0 then turnL (.nd k v l (turnR r)) else turnL (.nd k v l r))
  else .nd k v l r
theorem flat_turnR (t : Tr α β) : flat (turnR t) = flat t := by
  unfold turnR; split
  · simp [flat]
  · rfl
theorem flat_turnL (t : Tr α β) : flat (turnL t) = flat t := by
  unfold turnL; split
  · simp [flat]
  · rfl
theorem flat_even (k : α) (v : β) (l r : Tr α β) : flat (evenT k v l r) = flat l ++ (k, v) :: flat r := by
  unfold evenT
  split
  · split
    · rw [flat_turnR, flat, flat_turnL]
    · rw [flat_turnR, flat]
  · split
    · split
      · rw [flat_turnL, flat, flat_turnR]
      · rw [flat_turnL, flat]
    · rfl
theorem sT_flat (t : Tr α β) : sT t = (flat t).length := by
  induction t with
  | lf => rfl
  | nd k v l r hl hr => simp [sT, flat, hl, hr]; omega
theorem hT_le (t : Tr α β) : hT t ≤ sT t := by
  induction t with
  | lf => exact Nat.le_refl _
  | nd k v l r hl hr => simp only [hT, sT]; omega
/-- A side that is more than one higher is none that is empty. -/
theorem hT_pos {t : Tr α β} (h : 0 < hT t) : ∃ k v l r, t = .nd k v l r := by
  cases t with
  | lf => simp [hT] at h
  | nd k v l r => exact ⟨k, v, l, r, rfl⟩
section
variable (lt : α → α → Bool)
def putT (k : α) (v : β) : Tr α β → Tr α β
  | .lf => .nd k v .lf .lf
  | .nd k' v' l r => if lt k k' then evenT k' v' (putT k v l) r else if lt k' k then evenT k' v' l (putT k v r) else .nd k v l r
def findT (k : α) : Tr α β → Option (α × β)
  | .lf => none
  | .nd k' v' l r => if lt k k' then findT k l else if lt k' k then findT k r else some (k', v')
/-- In a list that rises. -/
def insL (k : α) (v : β) : List (α × β) → List (α × β)
  | [] => [(k, v)]
  | (k', v') :: xs => if lt k k' then (k, v) :: (k', v') :: xs else if lt k' k then (k', v') :: insL k v xs else (k, v) :: xs
def getL (k : α) : List (α × β) → Option (α × β)
  | [] => none
  | (k', v') :: xs => if lt k' k then getL k xs else if lt k k' then none else some (k', v')
structure Ord : Prop where
  irr : ∀ a, lt a a = false
  trans : ∀ a b c, lt a b = true → lt b c = true → lt a c = true
  tot : ∀ a b, lt a b = false → lt b a = false → a = b
variable {lt}
theorem Ord.asym (h : Ord lt) {a b : α} (hab : lt a b = true) : lt b a = false := by
  cases hb : lt b a with
  | false => rfl
  | true => have := h.trans _ _ _ hab hb; rw [h.irr] at this; cases this
def Rises (lt : α → α → Bool) (xs : List (α × β)) : Prop := xs.Pairwise fun x y => lt x.1 y.1 = true
theorem insL_app (h : Ord lt) (k : α) (v : β) (k' : α) (v' : β) : ∀ (xs ys : List (α × β)), Rises lt (xs ++ (k', v') :: ys) →
    insL lt k v (xs ++ (k', v') :: ys) = if lt k k' then insL lt k v xs ++ (k', v') :: ys else if lt k' k then xs ++ (k', v') :: insL lt k v ys else xs ++ (k, v) :: ys := by
  intro xs
  induction xs with
  | nil => intro ys _; simp only [List.nil_append, insL]; split <;> rfl
  | cons x xs ih =>
    obtain ⟨a, b⟩ := x
    intro ys hr
    have hr1 : Rises lt (xs ++ (k', v') :: ys) := (List.pairwise_cons.1 hr).2
    have hak : lt a k' = true := (List.pairwise_cons.1 hr).1 (k', v') (by simp)
    simp only [List.cons_append, insL]
    by_cases h1 : lt k a = true
    · rw [if_pos h1, if_pos (h.trans _ _ _ h1 hak), if_pos h1]; rfl
    · by_cases h2 : lt a k = true
      · rw [if_neg h1, if_pos h2, ih ys hr1, if_neg h1, if_pos h2]
        split
        · rfl
        · split <;> rfl
      · have e := h.tot a k (by simpa using h2) (by simpa using h1)
        subst e
        rw [if_neg h1, if_neg h1, if_pos hak, if_neg h1, if_neg h1]
        rfl
theorem flat_put (h : Ord lt) (k : α) (v : β) : ∀ t : Tr α β, Rises lt (flat t) → flat (putT lt k v t) = insL lt k v (flat t) := by
  intro t
  induction t with
  | lf => intro _; rfl
  | nd k' v' l r hl hr =>
    intro hs
    have hs' : Rises lt (flat l ++ (k', v') :: flat r) := hs
    have h1 : Rises lt (flat l) := (List.pairwise_append.1 hs').1
    have h2 : Rises lt (flat r) := (List.pairwise_cons.1 (List.pairwise_append.1 hs').2.1).2
    simp only [putT, flat]
    rw [insL_app h k v k' v' _ _ hs']
    split
    · rw [flat_even, hl h1]
    · split
      · rw [flat_even, hr h2]
      · rfl
theorem getL_app (h : Ord lt) (k : α) (k' : α) (v' : β) : ∀ (xs ys : List (α × β)), Rises lt (xs ++ (k', v') :: ys) →
    getL lt k (xs ++ (k', v') :: ys) = if lt k k' then getL lt k xs else if lt k' k then getL lt k ys else some (k', v') := by
  intro xs
  induction xs with
  | nil =>
    intro ys _
    simp only [List.nil_append, getL]
    by_cases h1 : lt k' k = true
    · rw [if_pos h1, if_neg (by rw [h.asym h1]; simp), if_pos h1]
    · rw [if_neg h1]; split
      · rfl
      · rfl
  | cons x xs ih =>
    obtain ⟨a, b⟩ := x
    intro ys hr
    have hr1 : Rises lt (xs ++ (k', v') :: ys) := (List.pairwise_cons.1 hr).2
    have hak : lt a k' = true := (List.pairwise_cons.1 hr).1 (k', v') (by simp)
    simp only [List.cons_append, getL]
    by_cases h2 : lt a k = true
    · rw [if_pos h2, ih ys hr1, if_pos h2]
    · by_cases h1 : lt k a = true
      · rw [if_neg h2, if_pos h1, if_pos (h.trans _ _ _ h1 hak), if_neg h2]
      · have e := h.tot a k (by simpa using h2) (by simpa using h1)
        subst e
        rw [if_neg h1, if_neg h1, if_pos hak, if_neg h1]
theorem find_flat (h : Ord lt) (k : α) : ∀ t : Tr α β, Rises lt (flat t) → findT lt k t = getL lt k (flat t) := by
  intro t
  induction t with
  | lf => intro _; rfl
  | nd k' v' l r hl hr =>
    intro hs
    have hs' : Rises lt (flat l ++ (k', v') :: flat r) := hs
    have h1 : Rises lt (flat l) := (List.pairwise_append.1 hs').1
    have h2 : Rises lt (flat r) := (List.pairwise_cons.1 (List.pairwise_append.1 hs').2.1).2
    simp only [findT, flat]
    rw [getL_app h k k' v' _ _ hs', hl h1, hr h2]
/-- What an insertion puts in. -/
theorem ins_mem (h : Ord lt) (k : α) (v : β) : ∀ (xs : List (α × β)), Rises lt xs → ∀ y, y ∈ insL lt k v xs ↔ y = (k, v) ∨ (y ∈ xs ∧ y.1 ≠ k) := by
  intro xs
  induction xs with
  | nil => intro _ y; simp [insL]
  | cons x xs ih =>
    obtain ⟨a, b⟩ := x
    intro hr y
    have hr1 : Rises lt xs := (List.pairwise_cons.1 hr).2
    have ha := (List.pairwise_cons.1 hr).1
    simp only [insL]
    by_cases h1 : lt k a = true
    · rw [if_pos h1]
      constructor
      · intro hy
        rcases List.mem_cons.1 hy with e | hy
        · exact .inl e
        · refine .inr ⟨hy, fun e => ?_⟩
          rcases List.mem_cons.1 hy with rfl | hy
          · simp only at e; subst e; rw [h.irr] at h1; cases h1
          · have h3 := h.trans _ _ _ h1 (ha y hy); rw [e, h.irr] at h3; cases h3
      · rintro (rfl | ⟨hy, _⟩)
        · simp
        · exact List.mem_cons_of_mem _ hy
    · rw [if_neg h1]
      by_cases h2 : lt a k = true
      · rw [if_pos h2, List.mem_cons, List.mem_cons, ih hr1 y]
        constructor
        · rintro (rfl | rfl | ⟨h3, h4⟩)
          · exact .inr ⟨.inl rfl, fun e => by simp only at e; subst e; rw [h.irr] at h2; cases h2⟩
          · exact .inl rfl
          · exact .inr ⟨.inr h3, h4⟩
        · rintro (rfl | ⟨rfl | h3, h4⟩)
          · exact .inr (.inl rfl)
          · exact .inl rfl
          · exact .inr (.inr ⟨h3, h4⟩)
      · rw [if_neg h2]
        have e := h.tot a k (by simpa using h2) (by simpa using h1)
        subst e
        rw [List.mem_cons, List.mem_cons]
        constructor
        · rintro (rfl | h3)
          · exact .inl rfl
          · exact .inr ⟨.inr h3, fun e => by have := ha y h3; rw [e, h.irr] at this; cases this⟩
        · rintro (rfl | ⟨rfl | h3, h4⟩)
          · exact .inl rfl
          · exact absurd rfl h4
          · exact .inr h3
theorem ins_rises (h : Ord lt) (k : α) (v : β) : ∀ (xs : List (α × β)), Rises lt xs → Rises lt (insL lt k v xs) := by
  intro xs
  induction xs with
  | nil => intro _; simp [insL, Rises]
  | cons x xs ih =>
    obtain ⟨a, b⟩ := x
    intro hr
    have hr1 : Rises lt xs := (List.pairwise_cons.1 hr).2
    have ha := (List.pairwise_cons.1 hr).1
    simp only [insL]
    by_cases h1 : lt k a = true
    · rw [if_pos h1]
      refine List.pairwise_cons.2 ⟨fun y hy => ?_, hr⟩
      rcases List.mem_cons.1 hy with rfl | hy
      · exact h1
      · exact h.trans _ _ _ h1 (ha y hy)
    · rw [if_neg h1]
      by_cases h2 : lt a k = true
      · rw [if_pos h2]
        refine List.pairwise_cons.2 ⟨fun y hy => ?_, ih hr1⟩
        rcases (ins_mem h k v xs hr1 y).1 hy with rfl | ⟨hy, _⟩
        · exact h2
        · exact ha y hy
      · rw [if_neg h2]
        have e := h.tot a k (by simpa using h2) (by simpa using h1)
        subst e
        exact List.pairwise_cons.2 ⟨ha, hr1⟩
theorem get_mem (h : Ord lt) (k : α) : ∀ (xs : List (α × β)), Rises lt xs → ∀ y, getL lt k xs = some y ↔ y ∈ xs ∧ y.1 = k := by
  intro xs
  induction xs with
  | nil => intro _ y; simp [getL]
  | cons x xs ih =>
    obtain ⟨a, b⟩ := x
    intro hr y
    have hr1 : Rises lt xs := (List.pairwise_cons.1 hr).2
    have ha := (List.pairwise_cons.1 hr).1
    simp only [getL]
    by_cases h2 : lt a k = true
    · rw [if_pos h2, ih hr1 y, List.mem_cons]
      constructor
      · rintro ⟨h3, h4⟩; exact ⟨.inr h3, h4⟩
      · rintro ⟨rfl | h3, h4⟩
        · simp only at h4; subst h4; rw [h.irr] at h2; cases h2
        · exact ⟨h3, h4⟩
    · rw [if_neg h2]
      by_cases h1 : lt k a = true
      · rw [if_pos h1]
        constructor
        · intro h; cases h
        · rintro ⟨h3, h4⟩
          rcases List.mem_cons.1 h3 with rfl | h3
          · simp only at h4; subst h4; rw [h.irr] at h1; cases h1
          · have := h.trans _ _ _ h1 (ha y h3); rw [h4, h.irr] at this; cases this
      · rw [if_neg h1]
        have e := h.tot a k (by simpa using h2) (by simpa using h1)
        subst e
        constructor
        · intro h; injection h with h; subst h; exact ⟨by simp, rfl⟩
        · rintro ⟨h3, h4⟩
          rcases List.mem_cons.1 h3 with rfl | h3
          · rfl
          · have := ha y h3; rw [h4, h.irr] at this; cases this
end
end Go.Proofs.Ytcnmbllafdeokaa.TrM
/- Plain mathematics of sets of items and of atoms: how sets stand, the normal list. No program. -/
namespace Go.Proofs.Ytcnmbllafdeokaa.AtM
open Go.Proofs.Ytcnmbllafdeokaa.TrM

/-! ### sets -/
def wthB (a b : Int) : Bool := decide (a.toNat &&& b.toNat = a.toNat)
def pcN (n : Nat) : Nat := (List.range 64).countP fun i => n.testBit i
def pcS (a : Int) : Nat := pcN a.toNat
/-- A whole number of 64 bits. -/
def U64 (a : Int) : Prop := 0 ≤ a ∧ a < 18446744073709551616
theorem nat_lt {a : Int} (h : U64 a) : a.toNat < 2 ^ 64 := by
  have : (2 : Nat) ^ 64 = 18446744073709551616 := by decide
  unfold U64 at h; omega
theorem wth_iff (a b : Int) : wthB a b = true ↔ ∀ i, a.toNat.testBit i = true → b.toNat.testBit i = true := by
  unfold wthB
  rw [decide_eq_true_iff]
  constructor
  · intro h i hi
    rw [← h, Nat.testBit_and] at hi
    simp only [Bool.and_eq_true] at hi
    exact hi.2
  · intro h
    apply Nat.eq_of_testBit_eq
    intro i
    rw [Nat.testBit_and]
    cases ha : a.toNat.testBit i with
    | false => rfl
    | true => rw [h i ha]; rfl
theorem wth_refl (a : Int) : wthB a a = true := (wth_iff a a).2 fun _ h => h
theorem wth_trans {a b c : Int} (h : wthB a b = true) (k : wthB b c = true) : wthB a c = true := (wth_iff a c).2 fun i hi => (wth_iff b c).1 k i ((wth_iff a b).1 h i hi)
theorem testBit_big {n i : Nat} (hn : n < 2 ^ 64) (hi : n.testBit i = true) : i < 64 := by
  rcases Nat.lt_or_ge i 64 with h | h
  · exact h
  · rw [Nat.testBit_lt_two_pow (Nat.lt_of_lt_of_le hn (Nat.pow_le_pow_right (by omega) h))] at hi; cases hi
theorem cnt_le {α : Type} (p q : α → Bool) : ∀ l : List α, (∀ x ∈ l, p x = true → q x = true) → l.countP p ≤ l.countP q := by
  intro l h; exact List.countP_mono_left h
theorem cnt_lt {α : Type} (p q : α → Bool) : ∀ l : List α, (∀ x ∈ l, p x = true → q x = true) → (∃ x ∈ l, q x = true ∧ p x = false) → l.countP p < l.countP q := by
  intro l
  induction l with
  | nil => rintro _ ⟨x, hx, _⟩; simp at hx
  | cons y ys ih =>
    intro h ⟨x, hx, hq, hp⟩
    have hle := cnt_le p q ys (fun z hz => h z (List.mem_cons_of_mem _ hz))
    rw [List.countP_cons, List.countP_cons]
    rcases List.mem_cons.1 hx with rfl | hx
    · rw [if_neg (by rw [hp]; simp), if_pos hq]; omega
    · have h1 := ih (fun z hz => h z (List.mem_cons_of_mem _ hz)) ⟨x, hx, hq, hp⟩
      by_cases hy : p y = true
      · rw [if_pos hy, if_pos (h y (by simp) hy)]; omega
      · rw [if_neg hy]; split <;> omega
theorem pc_lt {a b : Int} (ha : U64 a) (hb : U64 b) (h : wthB a b = true) (hne : a ≠ b) : pcS a < pcS b := by
  have h1 := (wth_iff a b).1 h
  refine cnt_lt _ _ _ (fun i _ hi => h1 i hi) ?_
  have hne' : a.toNat ≠ b.toNat := by unfold U64 at ha hb; omega
  obtain ⟨i, hi⟩ := Nat.exists_testBit_ne_of_ne hne'
  cases hai : a.toNat.testBit i with
  | true => rw [h1 i hai, hai] at hi; exact absurd rfl hi
  | false =>
    have hbi : b.toNat.testBit i = true := by
      cases hbi : b.toNat.testBit i with
      | true => rfl
      | false => rw [hai, hbi] at hi; exact absurd rfl hi
    exact ⟨i, List.mem_range.2 (testBit_big (nat_lt hb) hbi), hbi, hai⟩
/-- How two sets stand. -/
def ltS (a b : Int) : Bool := decide (pcS a < pcS b ∨ (pcS a = pcS b ∧ a < b))
def cmpS (a b : Int) : Int := if pcS a < pcS b then -1 else if pcS b < pcS a then 1 else if a < b then -1 else if b < a then 1 else 0
theorem cmp_lt (a b : Int) : decide (cmpS a b < 0) = ltS a b := by
  unfold cmpS ltS
  (repeat' split) <;> (apply Bool.eq_iff_iff.2; simp; try omega)
theorem ordS : Ord ltS where
  irr a := by unfold ltS; simp
  trans a b c h k := by unfold ltS at *; simp at *; omega
  tot a b h k := by unfold ltS at *; simp at *; omega
theorem wth_ltS {a b : Int} (ha : U64 a) (hb : U64 b) (h : wthB a b = true) (hne : a ≠ b) : ltS a b = true := by
  have := pc_lt ha hb h hne
  unfold ltS; simp; omega
def ltN (a b : Int) : Bool := decide (a < b)
theorem ordN : Ord ltN where
  irr a := by unfold ltN; simp
  trans a b c h k := by unfold ltN at *; simp at *; omega
  tot a b h k := by unfold ltN at *; simp at *; omega
/-! ### atoms -/
abbrev At := Int × Int
def rightA (x : At) : Bool := decide (x.1 ≠ 0 ∧ 1 ≤ x.2 ∧ x.2 ≤ 1099511627776)
def inA (s : Int) (x : At) : Bool := wthB x.1 s
def withinL (al : List At) (s : Int) : List At := (al.filter rightA).filter (inA s)
def maxL (xs : List At) : Int := xs.foldl (fun m x => max m x.2) 0
def valueL (al : List At) (s : Int) : Int := maxL (withinL al s)
/-- The greatest values so far. -/
def valOf (s : Int) (xs : List At) : Int := match getL ltN s xs with | some y => y.2 | none => 0
def great1 (xs : List At) (x : At) : List At := insL ltN x.1 (max (valOf x.1 xs) x.2) xs
def greatL (al : List At) : List At := (al.filter rightA).foldl great1 []
/-- Sorted al sets stand. -/
def insS (x : At) : List At → List At
  | [] => [x]
  | y :: ys => if ltS x.1 y.1 then x :: y :: ys else y :: insS x ys
def sortS (xs : List At) : List At := xs.foldr insS []
def beatB (x : At) (out : List At) : Bool := out.any fun b => wthB b.1 x.1 && decide (x.2 ≤ b.2)
def norm1 (out : List At) (x : At) : List At := if beatB x out then out else out ++ [x]
def normL (al : List At) : List At := (sortS (greatL al)).foldl norm1 []
end Go.Proofs.Ytcnmbllafdeokaa.AtM
