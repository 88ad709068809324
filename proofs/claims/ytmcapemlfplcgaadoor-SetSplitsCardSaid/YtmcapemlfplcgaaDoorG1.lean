/- Some texts of one seat in one file, in build order. -/
import Derived.Test.YtmcapemlfplcgaaDoorWMore
import Derived.Test.YtmcapemlfplcgaaDoorWLast
import Derived.Test.YtmcapemlfplcgaaDoorWZeros
import Derived.Test.YtmcapemlfplcgaaDoorWArr
import Derived.Test.YtmcapemlfplcgaaDoorWRepsOne
import Derived.Below
import Derived.Deep.Draws
import Derived.OwnWalk
import Derived.Tactics
import Derived.Laws.Slices
import Derived.Laws.Rows
import Derived.WalkKit
import Derived.KernelRfl
import Derived.RowKit3
import Derived.Deep.QuietTactic
import Derived.BigQuiet
import Derived.Lib.SliceRun
import Derived.Outline
import Derived.LoopTactic
import Derived.Deep.LoopGhost
import Derived.Lib.Hide
import Derived.Lib.SlBytesConst
import Derived.ProofKit
import Derived.OpenShut
import Derived.ShutString
import Derived.ChangeOld
import Derived.SizedLaws
import Derived.ChangeSlices
import Derived.Test.YtmcapemlfplcgaaDoorProg
/- Lemmas over any program: a store of a whole array or struct into a block; slices of slices that are read. -/
namespace Go.Proofs.YtmcapemlfplcgaaDoor.H
open Go.RowKit Go.Proofs.YtmcapemlfplcgaaDoorW.PrintWords Go.Proofs.YtmcapemlfplcgaaDoorW.PrintLast Go.Proofs.YtmcapemlfplcgaaDoorW.PrintMore
set_option linter.unusedVariables false

theorem at_slice {α : Type} {d : Kd α} {e : Nat} {w : World} {A : Option Addr} {n : Nat} {xs : List (List α)} (h : Kd.C (Kd.slice e d) w A n xs) (k : Nat) (hk : k < n) :
    ∃ ad A0 c0, A = some ad ∧ w.cell? (ad.add k) = some (.slice A0 (xs.getD k []).length c0) ∧ (xs.getD k []).length ≤ c0 ∧ d.C w A0 (xs.getD k []).length (xs.getD k []) := by
  obtain ⟨ad, c, e, _, hK, hc0⟩ := Kd.C_get h ([] : List α) k (by omega) (by omega)
  have hc : ∀ j u, c[j]? = some u → w.cell? (ad.add ((k : Int).toNat * 1 + j)) = some u := hc0
  obtain ⟨A0, c0, rfl, l0, g0⟩ := hK
  exact ⟨ad, A0, c0, e, by have hq := hc 0 _ rfl; rwa [Nat.mul_one, Nat.add_zero] at hq, l0, g0⟩

section
variable {P : Program} {ops : Array Oper} {rest : List Oper} {o : Oper} {a : Act} {Q : Exit → Act → World → Prop} {W : World}
/-- A whole array (or struct) V stored over a block of as many cells. -/
theorem wpList_store_agg (hN : o.dst = none) (hgd : o.guard = none) (t : TypeId) (p x : Operand) (ho : o.op = .store t p x) (g : Nat) (e : TypeId) (cur V : Array Value)
    (hp : a.eval p = .pointer (some ⟨g, 0, none⟩)) (hx : a.eval x = .agg V) (hh : W.heap[g]? = some (.cells cur e (0, 0))) (ht : (P.info? t).map (·.size) = some V.size) (hs : cur.size = V.size)
    (h1 : ∀ q ∈ V.toList, q.oneCell' = true)
    (h : ∀ w1, w1.heap[g]? = some (.cells V e (0, 0)) → (∀ k, k ≠ g → w1.heap[k]? = W.heap[k]?) → w1.heap.size = W.heap.size → w1.os = W.os → w1.tape = W.tape → w1.output = W.output → wpList P ops Q rest a w1) : wpList P ops Q (o :: rest) a W := by
  have hl : V.toList.length = V.size := Array.length_toList
  have hrun : (Instr.storeAt t (.pointer (some ⟨g, 0, none⟩)) (.agg V)).run P W = .ok () (W.setCells g 0 V.toList) :=
    run_store_run t (.agg V) V.toList hh rfl (by rw [ht, hl]) (by omega) h1
  obtain ⟨cur', h3, h4, h5⟩ := setCells_row (g := g) V.toList 0 W cur hh (by omega)
  obtain ⟨s1, s2, s3, s4⟩ := setCells_same g V.toList 0 W
  have e2 : cur' = V := by
    apply Array.toList_inj.mp
    rw [h5, List.take_zero, List.nil_append, List.drop_of_length_le (by rw [Array.length_toList]; omega), List.append_nil]
  subst e2
  refine wpList_plain hgd fun K hK => ?_
  unfold Oper.wp execOp
  simp only [ho, hp, hx, Sem.run_bind, Sem.run_pure, Result.andThen_ok, hrun]
  show K (a.put o.dst undef) _
  rw [hN]
  exact hK a _ (h _ h3 (fun k hk => setCells_far _ 0 k hk) s4 s1 s2 s3)
end

/-- A block known whole, read as a row. -/
theorem C_row {α : Type} {d : Kd α} {W : World} {g : Nat} {t : TypeId} {fr : Nat × Nat} {cs : Array Value} {xs : List α} (hg : W.heap[g]? = some (.cells cs t fr)) (h : Reps (d.K W) d.sz xs cs.toList) (hl : xs.length ≤ 9223372036854775807) :
    d.C W (some ⟨g, 0, none⟩) xs.length xs := by
  refine ⟨rfl, hl, fun _ => ⟨_, rfl, fun j p hj => ⟨(cs.toList.drop (j * d.sz)).take d.sz, ?_, h.2 j p hj, fun i u hu => ?_⟩⟩⟩
  · exact d.K_len (h.2 j p hj)
  · rw [add_plain, cell_of_row _ _ _ _ _ _ hg]
    rw [List.getElem?_take] at hu
    split at hu
    · rw [List.getElem?_drop] at hu
      rw [← hu, Array.getElem?_toList]
    · cases hu
theorem K_slice {α : Type} {d : Kd α} {e : Nat} {W : World} {A : Option Addr} {c : Nat} {l : List α} (hc : l.length ≤ c) (h : d.C W A l.length l) : (Kd.slice e d).K W l [.slice A l.length c] := ⟨A, c, rfl, hc, h⟩
/-- A slice's value, as a call wants it: read, from what is owned. -/
theorem R_C {α : Type} {d : Kd α} {e : Nat} {W : World} {base : Nat} {ok : Nat → Prop} {v : Value} {l : List α} (h : d.R e W base ok v l) : ∃ A c, v = .slice A l.length c ∧ l.length ≤ c ∧ d.C W A l.length l := Kd.R_reads h
/-- The beginning of what is read. -/
theorem C_take' {α : Type} {d : Kd α} {W : World} {A : Option Addr} {l : List α} (h : d.C W A l.length l) (m : Nat) (hm : m ≤ l.length) : d.C W A (l.take m).length (l.take m) := Kd.C_take h hm

theorem reps_map {α : Type} {enc : α → Value} (l : List α) : Reps (fun (x : α) (cs : List Value) => cs = [enc x]) 1 l (l.map enc) := by
  induction l with
  | nil => exact Reps.none _ _
  | cons x xs ih => exact Reps.one rfl ih
/-- A literal row of scalars, read. -/
theorem C_lit {k : IntKind} (W : World) (l : List Int) (e : TypeId) (fr : Nat × Nat) (h : l.length ≤ 9223372036854775807) : (Kd.int k).C (W.alloc (.cells (l.map (Value.int k)).toArray e fr)) (some ⟨W.heap.size, 0, none⟩) l.length l :=
  C_row (blk_new _ _) (reps_map (enc := Value.int k) l) h
/-- A literal row of one slice. -/
theorem C_one {α : Type} {d : Kd α} {e : Nat} {W : World} {A : Option Addr} {c : Nat} {l : List α} (t : TypeId) (fr : Nat × Nat) (hc : l.length ≤ c) (h : d.C W A l.length l) : (Kd.slice e d).C (W.alloc (.cells #[.slice A l.length c] t fr)) (some ⟨W.heap.size, 0, none⟩) 1 [l] :=
  C_row (xs := [l]) (blk_new _ _) (Reps.one (K_slice hc (Kd.C_alloc h _)) (Reps.none _ _)) (by simp)
theorem C_two {α : Type} {d : Kd α} {e : Nat} {W : World} {A A2 : Option Addr} {c c2 : Nat} {l l2 : List α} (t : TypeId) (fr : Nat × Nat) (hc : l.length ≤ c) (h : d.C W A l.length l) (hc2 : l2.length ≤ c2) (h2 : d.C W A2 l2.length l2) :
    (Kd.slice e d).C (W.alloc (.cells #[.slice A l.length c, .slice A2 l2.length c2] t fr)) (some ⟨W.heap.size, 0, none⟩) 2 [l, l2] :=
  C_row (xs := [l, l2]) (blk_new _ _) (Reps.one (K_slice hc (Kd.C_alloc h _)) (Reps.one (K_slice hc2 (Kd.C_alloc h2 _)) (Reps.none _ _))) (by simp)
theorem C_nil {α : Type} {d : Kd α} (W : World) (A : Option Addr) : d.C W A 0 [] := ⟨rfl, Nat.zero_le _, fun h => absurd h (Nat.lt_irrefl 0)⟩
/-! The same where the block's number is told otherwise. -/
theorem C_litg {k : IntKind} (W : World) (g : Nat) (l : List Int) (e : TypeId) (fr : Nat × Nat) (hg : W.heap.size = g) (h : l.length ≤ 9223372036854775807) : (Kd.int k).C (W.alloc (.cells (l.map (Value.int k)).toArray e fr)) (some ⟨g, 0, none⟩) l.length l := by
  subst hg; exact C_lit W l e fr h
theorem C_oneg {α : Type} {d : Kd α} {e : Nat} {W : World} {A : Option Addr} {c : Nat} {l : List α} (g : Nat) (t : TypeId) (fr : Nat × Nat) (hg : W.heap.size = g) (hc : l.length ≤ c) (h : d.C W A l.length l) : (Kd.slice e d).C (W.alloc (.cells #[.slice A l.length c] t fr)) (some ⟨g, 0, none⟩) 1 [l] := by
  subst hg; exact C_one t fr hc h
theorem C_twog {α : Type} {d : Kd α} {e : Nat} {W : World} {A A2 : Option Addr} {c c2 : Nat} {l l2 : List α} (g : Nat) (t : TypeId) (fr : Nat × Nat) (hg : W.heap.size = g) (hc : l.length ≤ c) (h : d.C W A l.length l) (hc2 : l2.length ≤ c2) (h2 : d.C W A2 l2.length l2) :
    (Kd.slice e d).C (W.alloc (.cells #[.slice A l.length c, .slice A2 l2.length c2] t fr)) (some ⟨g, 0, none⟩) 2 [l, l2] := by
  subst hg; exact C_two t fr hc h hc2 h2
end Go.Proofs.YtmcapemlfplcgaaDoor.H
/- The openings of a law's arguments: what can be read as data is read as numbers, lists and structs. Over any program. -/
namespace Go.Proofs.YtmcapemlfplcgaaDoor.H
open Go.RowKit Go.ChangeShapes Go.WideShapes Go.ChangeAt Go.Proofs.YtmcapemlfplcgaaDoorW.PrintWords Go.Proofs.YtmcapemlfplcgaaDoorW.PrintLast Go.Proofs.YtmcapemlfplcgaaDoorW.PrintMore
set_option linter.unusedVariables false

/-- What is read of type t is of kind d, and good. -/
def Opens (P : Program) (t : TypeId) {α : Type} (d : Kd α) (G : α → Prop) : Prop :=
  ∀ (H : Type) (enc : TypeId × Value → H) (W : World) (fuel : Nat) (cs : List Value) (x : DataW H × List MemPlace), DataW.trod enc P W 0 (fun _ => true) true fuel t cs = some x → ∃ a : α, d.K W a cs ∧ G a
section
variable {P : Program} {α β : Type}
theorem opens_int {t : TypeId} {k : IntKind} (hu : P.underlying t = some (.int k)) : Opens P t (Kd.int k) (fun n => (Lit.int k n).wf = true) := by
  intro H enc W fuel cs x h
  obtain ⟨n, hc, _, hw⟩ := DataW.trod_int hu h
  exact ⟨n, hc, hw⟩
theorem opens_bool {t : TypeId} (hu : P.underlying t = some .bool) : Opens P t Kd.bool (fun _ => True) := by
  intro H enc W fuel cs x h
  obtain ⟨n, hc, _⟩ := DataW.trod_bool hu h
  exact ⟨n, hc, trivial⟩
theorem opens_string {t : TypeId} (hu : P.underlying t = some .string) : Opens P t Kd.string (fun s => s.size ≤ maxLen) := by
  intro H enc W fuel cs x h
  cases fuel with
  | zero => simp [DataW.trod] at h
  | succ n =>
    unfold DataW.trod at h
    rw [hu] at h
    split at h <;> simp_all
    rename_i s
    exact ⟨s, rfl, h.1⟩
theorem opens_slice {t e : TypeId} {d : Kd α} {G : α → Prop} (z : α) (hu : P.underlying t = some (.slice e)) (hsz : P.cellsOf e = d.sz) (hop : Opens P e d G) : Opens P t (Kd.slice e d) (fun l => ∀ x ∈ l, G x) := by
  intro H enc W fuel cs x h
  rcases DataW.trod_slice hu h with ⟨rfl, _⟩ | ⟨a, len, cap, elems, rest, n, _, rfl, rfl, hb, hl, hm, hlen, hel, hsp, hns⟩
  · exact ⟨[], ⟨none, 0, rfl, Nat.le_refl _, ⟨rfl, Nat.zero_le _, fun h => absurd h (Nat.lt_irrefl 0)⟩⟩, fun x hx => by cases hx⟩
  · have each : ∀ i, i < len → ∃ v : α, ∃ c : List Value, c.length = d.sz ∧ d.K W v c ∧ G v ∧ ∀ j u, c[j]? = some u → W.cell? (a.add (i * d.sz + j)) = some u := by
      intro i hi
      have h1 := hel i hi
      have hi2 : i < elems.length := by omega
      rw [List.getElem?_eq_getElem hi2] at h1
      obtain ⟨c, hc, ht⟩ := Option.bind_eq_some_iff.1 h1
      obtain ⟨_, hcl, hcell⟩ := World.cells?_some hc
      obtain ⟨v, hk, hg⟩ := hop H enc W n c _ ht
      refine ⟨v, c, by rw [hcl, hsz], hk, hg, fun j u hu => ?_⟩
      have hj : j < P.cellsOf e := by rw [← hcl]; exact (List.getElem?_eq_some_iff.1 hu).1
      have := hcell j hj
      rw [add_add, hsz] at this
      rw [this, hu]
    have hex : ∃ l : List α, l.length = len ∧ ∀ i, i < len → ∃ c : List Value, c.length = d.sz ∧ d.K W (l.getD i z) c ∧ G (l.getD i z) ∧ ∀ j u, c[j]? = some u → W.cell? (a.add (i * d.sz + j)) = some u := by
      clear hel hsp hns hlen hl h hm
      induction len with
      | zero => exact ⟨[], rfl, fun i hi => by omega⟩
      | succ len ih =>
        obtain ⟨l, hl, hall⟩ := ih (fun i hi => each i (by omega))
        obtain ⟨v, c, h1, h2, h3, h4⟩ := each len (by omega)
        refine ⟨l ++ [v], by simp [hl], fun i hi => ?_⟩
        by_cases hi2 : i < len
        · obtain ⟨c, h⟩ := hall i hi2
          refine ⟨c, ?_⟩
          have e : (l ++ [v]).getD i z = l.getD i z := by simp [List.getD_eq_getElem?_getD, List.getElem?_append_left (show i < l.length by omega)]
          rw [e]; exact h
        · obtain rfl : i = len := by omega
          have e : (l ++ [v]).getD i z = v := by simp [List.getD_eq_getElem?_getD, ← hl]
          rw [e]; exact ⟨c, h1, h2, h3, h4⟩
    obtain ⟨l, hll, hall⟩ := hex
    refine ⟨l, ⟨some a, cap, by rw [hll], by omega, ⟨rfl, by unfold maxLen at hm; omega, fun _ => ⟨a, rfl, fun j p hj => ?_⟩⟩⟩, fun x hx => ?_⟩
    · have hjl := (List.getElem?_eq_some_iff.1 hj).1
      obtain ⟨c, h1, h2, _, h4⟩ := hall j (by omega)
      have e : l.getD j z = p := by rw [List.getD_eq_getElem?_getD, hj]; rfl
      rw [e] at h2
      exact ⟨c, h1, h2, h4⟩
    · obtain ⟨j, hjl, rfl⟩ := List.mem_iff_getElem.1 hx
      obtain ⟨c, _, _, h3, _⟩ := hall j (by omega)
      have e : l.getD j z = l[j] := by rw [List.getD_eq_getElem?_getD, List.getElem?_eq_getElem hjl]; rfl
      rw [e] at h3; exact h3

/-- The fields from the cell o on. -/
def OpensFrom (P : Program) (fs : List Field) (o : Nat) {α : Type} (d : Kd α) (G : α → Prop) : Prop :=
  ∀ (H : Type) (enc : TypeId × Value → H) (W : World) (fuel : Nat) (cs : List Value), o + d.sz = cs.length →
    (∀ (i : Nat) (f : Field), fs[i]? = some f → ∃ y : DataW H × List MemPlace, DataW.trod enc P W 0 (fun _ => true) true fuel f.type ((cs.drop f.offset).take (P.cellsOf f.type)) = some y) → ∃ a : α, d.K W a (cs.drop o) ∧ G a
theorem opens_last {f : Field} {o : Nat} {d : Kd α} {G : α → Prop} (ho : f.offset = o) (hsz : P.cellsOf f.type = d.sz) (h : Opens P f.type d G) : OpensFrom P [f] o d G := by
  intro H enc W fuel cs hl hall
  obtain ⟨y, hy⟩ := hall 0 f rfl
  obtain ⟨a, hk, hg⟩ := h H enc W fuel _ y hy
  rw [ho, hsz, List.take_of_length_le (by rw [List.length_drop]; omega)] at hk
  exact ⟨a, hk, hg⟩
theorem opens_cons {f : Field} {fs : List Field} {o : Nat} {d : Kd α} {G : α → Prop} {d2 : Kd β} {G2 : β → Prop} (ho : f.offset = o) (hsz : P.cellsOf f.type = d.sz) (h : Opens P f.type d G) (h2 : OpensFrom P fs (o + d.sz) d2 G2) :
    OpensFrom P (f :: fs) o (Kd.pair d d2) (fun x => G x.1 ∧ G2 x.2) := by
  intro H enc W fuel cs hl hall
  have hl' : o + (d.sz + d2.sz) = cs.length := hl
  obtain ⟨y, hy⟩ := hall 0 f rfl
  obtain ⟨a, hk, hg⟩ := h H enc W fuel _ y hy
  obtain ⟨b, hk2, hg2⟩ := h2 H enc W fuel cs (by omega) (fun i f' hf => hall (i + 1) f' hf)
  rw [ho, hsz] at hk
  refine ⟨(a, b), ⟨_, _, ?_, hk, hk2⟩, hg, hg2⟩
  rw [← List.drop_drop, List.take_append_drop]
theorem opens_struct {t : TypeId} {fs : Array Field} {d : Kd α} {G : α → Prop} (hu : P.underlying t = some (.struct fs)) (hsz : P.cellsOf t = d.sz) (h : OpensFrom P fs.toList 0 d G) : Opens P t d G := by
  intro H enc W fuel cs x hx
  obtain ⟨xs, n, rfl, rfl, hcl, hxl, hall⟩ := DataW.trod_struct hu hx
  obtain ⟨a, hk, hg⟩ := h H enc W n cs (by omega) (fun i f hf => by
    have hf2 : fs[i]? = some f := by rw [← Array.getElem?_toList]; exact hf
    have := hall i f hf2
    have hi : i < xs.length := by rw [hxl]; exact (Array.getElem?_eq_some_iff.1 hf2).1
    rw [List.getElem?_eq_getElem hi] at this
    exact ⟨_, this⟩)
  exact ⟨a, hk, hg⟩
/-- By a structure's fields: mk makes the structure. -/
theorem opens_iso {t : TypeId} {d : Kd α} {G : α → Prop} {f : β → α} (mk : α → β) (hmk : ∀ x, f (mk x) = x) (h : Opens P t d G) : Opens P t (Kd.iso d f) (fun x => G (f x)) := by
  intro H enc W fuel cs x hx
  obtain ⟨a, hk, hg⟩ := h H enc W fuel cs x hx
  exact ⟨mk a, by show d.K W (f (mk a)) cs; rw [hmk]; exact hk, by show G (f (mk a)); rw [hmk]; exact hg⟩
theorem opens_weaken {t : TypeId} {d : Kd α} {G G' : α → Prop} (hi : ∀ x, G x → G' x) (h : Opens P t d G) : Opens P t d G' := by
  intro H enc W fuel cs x hx
  obtain ⟨a, hk, hg⟩ := h H enc W fuel cs x hx
  exact ⟨a, hk, hi _ hg⟩

section
variable {H : Type} {enc : TypeId × Value → H} {W : World} {v : Value} {dd : DataW H} {ps : List MemPlace} {r : Reach} {b0 : Nat} {t : TypeId} {d : Kd α} {G : α → Prop}
/-- An argument that is a slice. -/
theorem top_slice {e : TypeId} (hu : P.underlying t = some (.slice e)) (hop : Opens P t (Kd.slice e d) (fun l => ∀ x ∈ l, G x)) (hval : Value.okWide P W r b0 t v) (h : DataW.Trod enc P W 0 (fun _ => true) true t v dd ps) :
    ∃ A c l, v = .slice A (List.length l) c ∧ l.length ≤ c ∧ d.C W A l.length l ∧ ∀ x ∈ l, G x := by
  obtain ⟨a, n, c, rfl⟩ := okWide_slice hu hval
  obtain ⟨fuel, hf⟩ := h
  obtain ⟨l, ⟨A, c', hcs, hl, hc⟩, hg⟩ := hop H enc W fuel _ _ hf
  simp [Value.cells] at hcs
  obtain ⟨rfl, rfl, rfl⟩ := hcs
  exact ⟨_, _, l, rfl, hl, hc, hg⟩
theorem top_int {k : IntKind} (hu : P.underlying t = some (.int k)) (hval : Value.okWide P W r b0 t v) (h : DataW.Trod enc P W 0 (fun _ => true) true t v dd ps) : ∃ n, v = .int k n ∧ (Lit.int k n).wf = true := by
  obtain ⟨n, rfl, _, _, hw⟩ := open_int hu hval h
  exact ⟨n, rfl, hw⟩
theorem top_bool (hu : P.underlying t = some .bool) (hval : Value.okWide P W r b0 t v) : ∃ b, v = .bool b := okWide_bool hu hval
theorem top_string (hu : P.underlying t = some .string) (hval : Value.okWide P W r b0 t v) (h : DataW.Trod enc P W 0 (fun _ => true) true t v dd ps) : ∃ s, v = .string s ∧ s.size ≤ maxLen := by
  obtain ⟨s, rfl⟩ := okWide_string hu hval
  obtain ⟨fuel, hf⟩ := h
  obtain ⟨s', hk, hg⟩ := opens_string hu H enc W fuel _ _ hf
  have : s = s' := by
    have hk' : (Value.string s).cells.toList = [.string s'] := hk
    simpa [Value.cells] using hk'
  subst this
  exact ⟨s, rfl, hg⟩
/-- An argument that is a struct. -/
theorem top_struct {fs : Array Field} (hu : P.underlying t = some (.struct fs)) (hop : Opens P t d G) (hval : Value.okWide P W r b0 t v) (h : DataW.Trod enc P W 0 (fun _ => true) true t v dd ps) :
    ∃ (cs : List Value) (x : α), v = .agg cs.toArray ∧ d.K W x cs ∧ G x := by
  simp only [Value.okWide, hu] at hval
  obtain ⟨cs, rfl, _, _⟩ := hval
  obtain ⟨fuel, hf⟩ := h
  obtain ⟨x, hk, hg⟩ := hop H enc W fuel _ _ hf
  exact ⟨cs.toList, x, by simp, hk, hg⟩
end
end
theorem wf_u8 {n : Int} (h : (Lit.int .u8 n).wf = true) : 0 ≤ n ∧ n < 256 := by
  simp only [Lit.wf, Bool.and_eq_true, decide_eq_true_eq] at h
  have e1 : IntKind.u8.min = 0 := by decide
  have e2 : IntKind.u8.max = 255 := by decide
  rw [e1, e2] at h; omega
theorem wf_u32 {n : Int} (h : (Lit.int .u32 n).wf = true) : 0 ≤ n ∧ n < 4294967296 := by
  simp only [Lit.wf, Bool.and_eq_true, decide_eq_true_eq] at h
  have e1 : IntKind.u32.min = 0 := by decide
  have e2 : IntKind.u32.max = 4294967295 := by decide
  rw [e1, e2] at h; omega
theorem wf_u64 {n : Int} (h : (Lit.int .u64 n).wf = true) : 0 ≤ n ∧ n < 18446744073709551616 := by
  simp only [Lit.wf, Bool.and_eq_true, decide_eq_true_eq] at h
  have e1 : IntKind.u64.min = 0 := by decide
  have e2 : IntKind.u64.max = 18446744073709551615 := by decide
  rw [e1, e2] at h; omega
theorem wf_i64 {n : Int} (h : (Lit.int .i64 n).wf = true) : -9223372036854775808 ≤ n ∧ n ≤ 9223372036854775807 := by
  simp only [Lit.wf, Bool.and_eq_true, decide_eq_true_eq] at h
  have e1 : IntKind.i64.min = -9223372036854775808 := by decide
  have e2 : IntKind.i64.max = 9223372036854775807 := by decide
  rw [e1, e2] at h; omega
end Go.Proofs.YtmcapemlfplcgaaDoor.H
/- A row's block has its type; a cut's block is the row's. -/
namespace Go.Proofs.YtmcapemlfplcgaaDoor.H
open Go.RowKit Go.Proofs.YtmcapemlfplcgaaDoorW.PrintWords Go.Proofs.YtmcapemlfplcgaaDoorW.PrintLast Go.Proofs.YtmcapemlfplcgaaDoorW.PrintMore
set_option linter.unusedVariables false
set_option linter.unusedSimpArgs false

/-- The slice's block, if it has one, is a block of type t. -/
def Ty (t : TypeId) (W : World) (A : Option Addr) : Prop := ∀ ad, A = some ad → ∃ cs z, W.heap[ad.block]? = some (.cells cs t z)
theorem Ty.nil (t : TypeId) (W : World) : Ty t W none := fun _ h => by cases h
theorem Ty.below {t : TypeId} {W W' : World} {A : Option Addr} (h : Ty t W A) (hb : Below W.heap.size W W') : Ty t W' A := fun ad e => by
  obtain ⟨cs, z, hc⟩ := h ad e
  exact ⟨cs, z, (hb.block _ (Array.getElem?_eq_some_iff.1 hc).1).trans hc⟩
theorem Ty.of_R {α : Type} {d : Kd α} {t : Nat} {W : World} {base : Nat} {ok : Nat → Prop} {A : Option Addr} {n c : Nat} {xs : List α} (h : Kd.R d t W base ok (.slice A n c) xs) : Ty t W A := fun ad e => by
  subst e
  obtain ⟨inner, ho⟩ := Kd.R_own h
  rcases ho.2 with ⟨h1, _⟩ | ⟨g, cap, cur, h1, _, hh, _⟩
  · cases h1
  · injection h1 with h1 _ _
    injection h1 with h1
    subst h1
    exact ⟨cur, (0, 0), hh⟩
theorem slice_block {P : Program} {t e : TypeId} {A A' : Option Addr} {n c m k : Nat} {lo hi : Option Value} {W W' : World} (ht : P.underlying t = some (.slice e))
    (h : (Instr.slice t (.slice A n c) lo hi none).run P W = .ok (.slice A' m k) W') : ∀ a, A' = some a → ∃ b, A = some b ∧ a.block = b.block := by
  have he : P.underlying t = some (.slice (P.elem t)) := by simp [Program.elem, ht]
  rw [run_slice_any (w := W) (t := t) (a := A) (len := n) (cap := c) he] at h
  revert h
  cases (Instr.sliceBounds true n c lo hi none).run P W with
  | halt x w => intro h; cases h
  | ok b w =>
    simp only [Result.andThen]
    cases (sizeOf (P.elem t)).run P w with
    | halt x w => intro h; cases h
    | ok s w =>
      simp only [sliced]
      intro h
      injection h with h _
      injection h with h _ _
      intro a ha
      subst ha
      by_cases hc : b.2.2 = b.1
      · rw [if_pos hc] at h; exact ⟨a, h, rfl⟩
      · rw [if_neg hc] at h
        cases A with
        | none => cases h
        | some b' => simp at h; exact ⟨b', rfl, by rw [← h]; unfold Addr.add; split <;> rfl⟩
theorem Ty.slice {P : Program} {t e ty : TypeId} {A A' : Option Addr} {n c m k : Nat} {lo hi : Option Value} {W W' V : World} (ht : P.underlying t = some (.slice e)) (hT : Ty ty V A)
    (h : (Instr.slice t (.slice A n c) lo hi none).run P W = .ok (.slice A' m k) W') : Ty ty V A' := fun a ha => by
  obtain ⟨b, hb, hab⟩ := slice_block ht h a ha
  rw [hab]; exact hT b hb
theorem Ty.set3 {t t' : TypeId} {W : World} {A : Option Addr} {g : Nat} {cs : Array Value} {q : Nat × Nat} (h : Ty t W A) (hg : W.heap[g]? = some (.cells cs t' q)) (hne : t ≠ t') (x y z : Value) :
    Ty t (((W.setCell ⟨g, 0, none⟩ x).setCell ⟨g, 1, none⟩ y).setCell ⟨g, 2, none⟩ z).drew A := fun ad e => by
  obtain ⟨cs', z', hc⟩ := h ad e
  have hb : ad.block ≠ g := fun e' => by
    rw [e', hg] at hc
    injection hc with hc
    injection hc with _ hc _
    exact hne hc.symm
  exact ⟨cs', z', ((Below.heap_setCell ((W.setCell ⟨g, 0, none⟩ x).setCell ⟨g, 1, none⟩ y) ⟨g, 2, none⟩ z _ hb).trans ((Below.heap_setCell (W.setCell ⟨g, 0, none⟩ x) ⟨g, 1, none⟩ y _ hb).trans (Below.heap_setCell W ⟨g, 0, none⟩ x _ hb))).trans hc⟩
/-- Numbers in rows of type t are read on where no block of that type has turned. -/
theorem C_ty {W W' : World} {t : TypeId} {k : IntKind} {A : Option Addr} {n : Nat} {xs : List Int} (hT : Ty t W A) (hc : Kd.C (Kd.int k) W A n xs) (h : ∀ (i : Nat) (cs : Array Value) (z : Nat × Nat), W.heap[i]? = some (Obj.cells cs t z) → W'.heap[i]? = W.heap[i]?) : Kd.C (Kd.int k) W' A n xs :=
  ⟨hc.1, hc.2.1, fun hn => by
    obtain ⟨ad, e, hr⟩ := hc.2.2 hn
    obtain ⟨cs, z, hb⟩ := hT ad e
    refine ⟨ad, e, fun j p hj => ?_⟩
    obtain ⟨c, hs, hR, hcell⟩ := hr j p hj
    refine ⟨c, hs, hR, fun i u hu => ?_⟩
    have h1 := hcell i u hu
    have hblk : (ad.add (j * (Kd.int k).sz + i)).block = ad.block := by unfold Addr.add; split <;> rfl
    exact (World.cell?_of_block (by rw [hblk]; exact h _ _ _ hb)).trans h1⟩
theorem Ty.of_ty {W W' : World} {t : TypeId} {A : Option Addr} (hT : Ty t W A) (h : ∀ (i : Nat) (cs : Array Value) (z : Nat × Nat), W.heap[i]? = some (Obj.cells cs t z) → W'.heap[i]? = W.heap[i]?) : Ty t W' A := fun ad e => by
  obtain ⟨cs, z, hb⟩ := hT ad e
  exact ⟨cs, z, (h _ _ _ hb).trans hb⟩
end Go.Proofs.YtmcapemlfplcgaaDoor.H
/- What abides but one block; blocks and rows where others grow. -/
namespace Go.Proofs.YtmcapemlfplcgaaDoor.H
open Go.RowKit Go.Proofs.YtmcapemlfplcgaaDoorW.PrintWords Go.Proofs.YtmcapemlfplcgaaDoorW.PrintLast Go.Proofs.YtmcapemlfplcgaaDoorW.PrintMore
set_option linter.unusedVariables false
set_option linter.unusedSimpArgs false

theorem lt_of_some {W : World} {k : Nat} {o : Obj} (h : W.heap[k]? = some o) : k < W.heap.size := (Array.getElem?_eq_some_iff.1 h).1
/-- All that lay, but for the block g, lies as it lay. -/
structure Oth (g : Nat) (W W' : World) : Prop where
  os : W'.os = W.os
  tape : W'.tape = W.tape
  output : W'.output = W.output
  size : W.heap.size ≤ W'.heap.size
  block : ∀ k, k < W.heap.size → k ≠ g → W'.heap[k]? = W.heap[k]?
theorem Oth.refl (g : Nat) (W : World) : Oth g W W := ⟨rfl, rfl, rfl, Nat.le_refl _, fun _ _ _ => rfl⟩
theorem Oth.trans {g : Nat} {X Y Z : World} (h : Oth g X Y) (k : Oth g Y Z) : Oth g X Z := ⟨k.os.trans h.os, k.tape.trans h.tape, k.output.trans h.output, Nat.le_trans h.size k.size, fun i hi hg => (k.block i (Nat.lt_of_lt_of_le hi h.size) hg).trans (h.block i hi hg)⟩
theorem Oth.of_below {g : Nat} {W W' : World} (h : Below W.heap.size W W') : Oth g W W' := ⟨h.os, h.tape, h.output, h.size, fun k hk _ => h.block k hk⟩
theorem Oth.set (W : World) (p : Addr) (v : Value) : Oth p.block W (W.setCell p v) :=
  ⟨rfl, rfl, rfl, by show W.heap.size ≤ (W.heap.modify _ _).size; rw [Array.size_modify]; exact Nat.le_refl _, fun k _ hk => Below.heap_setCell W p v k hk⟩
theorem Oth.below {g : Nat} {w W W' : World} (h : Oth g W W') (hb : Below w.heap.size w W) (hg : w.heap.size ≤ g) : Below w.heap.size w W' :=
  ⟨h.os.trans hb.os, h.tape.trans hb.tape, h.output.trans hb.output, Nat.le_trans hb.size h.size, fun k hk => (h.block k (Nat.lt_of_lt_of_le hk hb.size) (by omega)).trans (hb.block k hk)⟩
theorem Oth.blk {g : Nat} {W W' : World} (h : Oth g W W') {k : Nat} {o : Obj} (hb : W.heap[k]? = some o) (hk : k ≠ g) : W'.heap[k]? = some o := (h.block k (lt_of_some hb) hk).trans hb
theorem C_but {g : Nat} {W W' : World} (h : ∀ k, k < W.heap.size → k ≠ g → W'.heap[k]? = W.heap[k]?) {k : IntKind} {A : Option Addr} {n : Nat} {xs : List Int} {cs : Array Value} {t : Nat} {z : Nat × Nat} (hg : W.heap[g]? = some (.cells cs t z)) (hcs : ∀ v ∈ cs.toList, ∀ i, v ≠ .int k i)
    (hc : Kd.C (Kd.int k) W A n xs) : Kd.C (Kd.int k) W' A n xs :=
  ⟨hc.1, hc.2.1, fun hn => by
    obtain ⟨ad, e, hr⟩ := hc.2.2 hn
    refine ⟨ad, e, fun j p hj => ?_⟩
    obtain ⟨c, hs, hR, hcell⟩ := hr j p hj
    refine ⟨c, hs, hR, fun i u hu => ?_⟩
    have h1 := hcell i u hu
    by_cases hb : (ad.add (j * (Kd.int k).sz + i)).block = g
    · exfalso
      have hu2 : u = .int k p := by
        have hRc : c = [.int k p] := hR
        subst hRc
        have : i < 1 := by have := (List.getElem?_eq_some_iff.1 hu).1; simpa using this
        obtain rfl : i = 0 := by omega
        simpa using hu.symm
      subst hu2
      unfold World.cell? at h1
      rw [hb, hg] at h1
      simp only [Option.bind_some] at h1
      revert h1
      split
      · intro h1; cases h1
      · intro h1
        exact hcs _ (Array.mem_toList_iff.2 (Array.mem_of_getElem? h1)) p rfl
    · exact (World.cell?_of_block (h _ (World.block_lt_of_cell? _ _ h1) hb)).trans h1⟩
theorem Oth.C {g : Nat} {W W' : World} (h : Oth g W W') {k : IntKind} {A : Option Addr} {n : Nat} {xs : List Int} {cs : Array Value} {t : Nat} {z : Nat × Nat} (hg : W.heap[g]? = some (.cells cs t z)) (hcs : ∀ v ∈ cs.toList, ∀ i, v ≠ .int k i)
    (hc : Kd.C (Kd.int k) W A n xs) : Kd.C (Kd.int k) W' A n xs := C_but h.block hg hcs hc
theorem blk_new2 (W : World) (o o' : Obj) : ((W.alloc o).alloc o').heap[W.heap.size + 1]? = some o' := by
  have := blk_new (W.alloc o) o'
  rwa [World.size_alloc] at this
theorem size_two (W : World) (o o' : Obj) : W.heap.size + 2 ≤ ((W.alloc o).alloc o').heap.size := by
  rw [World.size_alloc, World.size_alloc]
  omega
theorem blk_belowX {W W' : World} {k : Nat} {o : Obj} (h : W.heap[k]? = some o) (hb : Below W.heap.size W W') : W'.heap[k]? = some o := (hb.block k (lt_of_some h)).trans h
theorem addr_add_add (a : Addr) (i j : Nat) : (a.add i).add j = a.add (i + j) := by
  unfold Addr.add
  by_cases hi : i = 0 <;> by_cases hj : j = 0 <;> simp [hi, hj, Nat.add_assoc]
/-- A row of other types stays where a row grows. -/
theorem R_other {α β : Type} {d : Kd α} {d' : Kd β} {e e' : Nat} {w w1 : World} {base base' : Nat} {ok ok' : Nat → Prop} {v v' : Value} {xs : List α} {ys : List β} (h : d.R e w base ok v xs) (h' : d'.R e' w base' ok' v' ys) (hne : ∀ q, q ∈ e :: d.E → q ≠ e') (hg : w.grownBy w1 v'.ownBlock) : d.R e w1 base ok v xs :=
  Kd.R_mono (Kd.R_step (Kd.R_bound h) (fun k hk hlt => hg.block k hlt (fun hrow => by
    obtain ⟨inner, ho⟩ := Kd.R_own h'
    obtain ⟨cells, hc⟩ := own_typed ho k hrow.symm
    obtain ⟨_, _, _, q, hq, cells', hc'⟩ := hk
    rw [hc] at hc'
    injection hc' with hc'
    injection hc' with _ hc' _
    exact hne q hq hc'.symm))) (fun _ hk => hk.1)
/-- A block of another type lies where a row grows. -/
theorem blk_grown {α : Type} {d : Kd α} {e : Nat} {w w1 : World} {base : Nat} {ok : Nat → Prop} {v : Value} {xs : List α} {g t : Nat} {cs : Array Value} (h : d.R e w base ok v xs) (hb : w.heap[g]? = some (.cells cs t (0, 0))) (ht : e ≠ t) (hg : w.grownBy w1 v.ownBlock) : w1.heap[g]? = some (.cells cs t (0, 0)) :=
  (hg.block g (lt_of_some hb) (Kd.R_ne h hb ht)).trans hb
theorem blk_grown0 {w w1 : World} {g t : Nat} {cs : Array Value} (hb : w.heap[g]? = some (.cells cs t (0, 0))) (hg : w.grownBy w1 none) : w1.heap[g]? = some (.cells cs t (0, 0)) :=
  (hg.block g (lt_of_some hb) (by simp)).trans hb
theorem C_take_n {d : Kd Int} {w : World} {A : Option Addr} {l : List Int} {m n : Nat} (h : d.C w A l.length l) (hn : (l.take m).length = n) (hm : m ≤ l.length) : d.C w A n (l.take m) := by
  subst hn; exact Kd.C_take h hm
/-- A function whose one result lies in a box. -/
theorem results_one_cell {fn : Func} {tmps : Array Value} {w : World} {k : Tmp} {ty : TypeId} {g : Nat} {v : Value} (h : fn.results = #[.cell k 4]) (hb : w.heap[g]? = some (.cells #[v] ty (0, 0))) (hp : tmps.getD k undef = .pointer (some ⟨g, 0, none⟩)) :
    (results fn tmps).run Tryd.prog w = .ok v w := by
  have hc : w.cell? ⟨g, 0, none⟩ = some v := by rw [blk_cell hb 0]; rfl
  have hp2 : tmps[k]?.getD undef = .pointer (some ⟨g, 0, none⟩) := by simpa using hp
  unfold results
  rw [h]
  simp [go_sem, hp2, hc, Tryd.underlying4]
/-- A row of numbers is read wherever the blocks that lay lie as they lay. -/
theorem C_of_blocks {W W' : World} {k : IntKind} {A : Option Addr} {n : Nat} {xs : List Int} (hc : Kd.C (Kd.int k) W A n xs) (h : ∀ i, i < W.heap.size → W'.heap[i]? = W.heap[i]?) : Kd.C (Kd.int k) W' A n xs :=
  ⟨hc.1, hc.2.1, fun hn => by
    obtain ⟨ad, e, hr⟩ := hc.2.2 hn
    refine ⟨ad, e, fun j p hj => ?_⟩
    obtain ⟨c, hs, hR, hcell⟩ := hr j p hj
    exact ⟨c, hs, hR, fun i u hu => (World.cell?_of_block (h _ (World.block_lt_of_cell? _ _ (hcell i u hu)))).trans (hcell i u hu)⟩⟩
end Go.Proofs.YtmcapemlfplcgaaDoor.H
