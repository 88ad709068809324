/- Lemmas over any program: a store of a whole array or struct into a block; slices of slices that are read. -/
import Derived.Test.YtpahmdjcmpnmkaaWMore
import Derived.Test.YtpahmdjcmpnmkaaWLast
import Derived.Test.YtpahmdjcmpnmkaaWZeros
import Derived.Test.YtpahmdjcmpnmkaaWArr
import Derived.Test.YtpahmdjcmpnmkaaWRepsOne
import Derived.Below
import Derived.Deep.Draws
import Derived.OwnWalk
import Derived.Tactics
import Derived.Laws.Slices
import Derived.Laws.Rows
import Derived.WalkKit
import Derived.KernelRfl
import Derived.RowKit3
import Derived.Deep.QuietTactic
import Derived.BigQuiet
import Derived.Lib.SliceRun
import Derived.Outline
import Derived.LoopTactic
import Derived.Deep.LoopGhost
import Derived.Lib.Hide
import Derived.Lib.SlBytesConst
namespace Go.Proofs.Ytpahmdjcmpnmkaa.H
open Go.RowKit Go.Proofs.YtpahmdjcmpnmkaaW.PrintWords Go.Proofs.YtpahmdjcmpnmkaaW.PrintLast Go.Proofs.YtpahmdjcmpnmkaaW.PrintMore
set_option linter.unusedVariables false

theorem at_slice {α : Type} {d : Kd α} {e : Nat} {w : World} {A : Option Addr} {n : Nat} {xs : List (List α)} (h : Kd.C (Kd.slice e d) w A n xs) (k : Nat) (hk : k < n) :
    ∃ ad A0 c0, A = some ad ∧ w.cell? (ad.add k) = some (.slice A0 (xs.getD k []).length c0) ∧ (xs.getD k []).length ≤ c0 ∧ d.C w A0 (xs.getD k []).length (xs.getD k []) := by
  obtain ⟨ad, c, e, _, hK, hc0⟩ := Kd.C_get h ([] : List α) k (by omega) (by omega)
  have hc : ∀ j u, c[j]? = some u → w.cell? (ad.add ((k : Int).toNat * 1 + j)) = some u := hc0
  obtain ⟨A0, c0, rfl, l0, g0⟩ := hK
  exact ⟨ad, A0, c0, e, by have hq := hc 0 _ rfl; rwa [Nat.mul_one, Nat.add_zero] at hq, l0, g0⟩

section
variable {P : Program} {ops : Array Oper} {rest : List Oper} {o : Oper} {a : Act} {Q : Exit → Act → World → Prop} {W : World}
/-- A whole array (or struct) V stored over a block of as many cells. -/
theorem wpList_store_agg (hN : o.dst = none) (hgd : o.guard = none) (t : TypeId) (p x : Operand) (ho : o.op = .store t p x) (g : Nat) (e : TypeId) (cur V : Array Value)
    (hp : a.eval p = .pointer (some ⟨g, 0, none⟩)) (hx : a.eval x = .agg V) (hh : W.heap[g]? = some (.cells cur e (0, 0))) (ht : (P.info? t).map (·.size) = some V.size) (hs : cur.size = V.size)
    (h1 : ∀ q ∈ V.toList, q.oneCell' = true)
    (h : ∀ w1, w1.heap[g]? = some (.cells V e (0, 0)) → (∀ k, k ≠ g → w1.heap[k]? = W.heap[k]?) → w1.heap.size = W.heap.size → w1.os = W.os → w1.tape = W.tape → w1.output = W.output → wpList P ops Q rest a w1) : wpList P ops Q (o :: rest) a W := by
  have hl : V.toList.length = V.size := Array.length_toList
  have hrun : (Instr.storeAt t (.pointer (some ⟨g, 0, none⟩)) (.agg V)).run P W = .ok () (W.setCells g 0 V.toList) :=
    run_store_run t (.agg V) V.toList hh rfl (by rw [ht, hl]) (by omega) h1
  obtain ⟨cur', h3, h4, h5⟩ := setCells_row (g := g) V.toList 0 W cur hh (by omega)
  obtain ⟨s1, s2, s3, s4⟩ := setCells_same g V.toList 0 W
  have e2 : cur' = V := by
    apply Array.toList_inj.mp
    rw [h5, List.take_zero, List.nil_append, List.drop_of_length_le (by rw [Array.length_toList]; omega), List.append_nil]
  subst e2
  refine wpList_plain hgd fun K hK => ?_
  unfold Oper.wp execOp
  simp only [ho, hp, hx, Sem.run_bind, Sem.run_pure, Result.andThen_ok, hrun]
  show K (a.put o.dst undef) _
  rw [hN]
  exact hK a _ (h _ h3 (fun k hk => setCells_far _ 0 k hk) s4 s1 s2 s3)
end

/-- A block known whole, read as a row. -/
theorem C_row {α : Type} {d : Kd α} {W : World} {g : Nat} {t : TypeId} {fr : Nat × Nat} {cs : Array Value} {xs : List α} (hg : W.heap[g]? = some (.cells cs t fr)) (h : Reps (d.K W) d.sz xs cs.toList) (hl : xs.length ≤ 9223372036854775807) :
    d.C W (some ⟨g, 0, none⟩) xs.length xs := by
  refine ⟨rfl, hl, fun _ => ⟨_, rfl, fun j p hj => ⟨(cs.toList.drop (j * d.sz)).take d.sz, ?_, h.2 j p hj, fun i u hu => ?_⟩⟩⟩
  · exact d.K_len (h.2 j p hj)
  · rw [add_plain, cell_of_row _ _ _ _ _ _ hg]
    rw [List.getElem?_take] at hu
    split at hu
    · rw [List.getElem?_drop] at hu
      rw [← hu, Array.getElem?_toList]
    · cases hu
theorem K_slice {α : Type} {d : Kd α} {e : Nat} {W : World} {A : Option Addr} {c : Nat} {l : List α} (hc : l.length ≤ c) (h : d.C W A l.length l) : (Kd.slice e d).K W l [.slice A l.length c] := ⟨A, c, rfl, hc, h⟩
/-- A slice's value, as a call wants it: read, from what is owned. -/
theorem R_C {α : Type} {d : Kd α} {e : Nat} {W : World} {base : Nat} {ok : Nat → Prop} {v : Value} {l : List α} (h : d.R e W base ok v l) : ∃ A c, v = .slice A l.length c ∧ l.length ≤ c ∧ d.C W A l.length l := Kd.R_reads h
/-- The beginning of what is read. -/
theorem C_take' {α : Type} {d : Kd α} {W : World} {A : Option Addr} {l : List α} (h : d.C W A l.length l) (m : Nat) (hm : m ≤ l.length) : d.C W A (l.take m).length (l.take m) := Kd.C_take h hm

theorem reps_map {α : Type} {enc : α → Value} (l : List α) : Reps (fun (x : α) (cs : List Value) => cs = [enc x]) 1 l (l.map enc) := by
  induction l with
  | nil => exact Reps.none _ _
  | cons x xs ih => exact Reps.one rfl ih
/-- A literal row of scalars, read. -/
theorem C_lit {k : IntKind} (W : World) (l : List Int) (e : TypeId) (fr : Nat × Nat) (h : l.length ≤ 9223372036854775807) : (Kd.int k).C (W.alloc (.cells (l.map (Value.int k)).toArray e fr)) (some ⟨W.heap.size, 0, none⟩) l.length l :=
  C_row (blk_new _ _) (reps_map (enc := Value.int k) l) h
/-- A literal row of one slice. -/
theorem C_one {α : Type} {d : Kd α} {e : Nat} {W : World} {A : Option Addr} {c : Nat} {l : List α} (t : TypeId) (fr : Nat × Nat) (hc : l.length ≤ c) (h : d.C W A l.length l) : (Kd.slice e d).C (W.alloc (.cells #[.slice A l.length c] t fr)) (some ⟨W.heap.size, 0, none⟩) 1 [l] :=
  C_row (xs := [l]) (blk_new _ _) (Reps.one (K_slice hc (Kd.C_alloc h _)) (Reps.none _ _)) (by simp)
theorem C_two {α : Type} {d : Kd α} {e : Nat} {W : World} {A A2 : Option Addr} {c c2 : Nat} {l l2 : List α} (t : TypeId) (fr : Nat × Nat) (hc : l.length ≤ c) (h : d.C W A l.length l) (hc2 : l2.length ≤ c2) (h2 : d.C W A2 l2.length l2) :
    (Kd.slice e d).C (W.alloc (.cells #[.slice A l.length c, .slice A2 l2.length c2] t fr)) (some ⟨W.heap.size, 0, none⟩) 2 [l, l2] :=
  C_row (xs := [l, l2]) (blk_new _ _) (Reps.one (K_slice hc (Kd.C_alloc h _)) (Reps.one (K_slice hc2 (Kd.C_alloc h2 _)) (Reps.none _ _))) (by simp)
theorem C_nil {α : Type} {d : Kd α} (W : World) (A : Option Addr) : d.C W A 0 [] := ⟨rfl, Nat.zero_le _, fun h => absurd h (Nat.lt_irrefl 0)⟩
/-! The same where the block's number is told otherwise. -/
theorem C_litg {k : IntKind} (W : World) (g : Nat) (l : List Int) (e : TypeId) (fr : Nat × Nat) (hg : W.heap.size = g) (h : l.length ≤ 9223372036854775807) : (Kd.int k).C (W.alloc (.cells (l.map (Value.int k)).toArray e fr)) (some ⟨g, 0, none⟩) l.length l := by
  subst hg; exact C_lit W l e fr h
theorem C_oneg {α : Type} {d : Kd α} {e : Nat} {W : World} {A : Option Addr} {c : Nat} {l : List α} (g : Nat) (t : TypeId) (fr : Nat × Nat) (hg : W.heap.size = g) (hc : l.length ≤ c) (h : d.C W A l.length l) : (Kd.slice e d).C (W.alloc (.cells #[.slice A l.length c] t fr)) (some ⟨g, 0, none⟩) 1 [l] := by
  subst hg; exact C_one t fr hc h
theorem C_twog {α : Type} {d : Kd α} {e : Nat} {W : World} {A A2 : Option Addr} {c c2 : Nat} {l l2 : List α} (g : Nat) (t : TypeId) (fr : Nat × Nat) (hg : W.heap.size = g) (hc : l.length ≤ c) (h : d.C W A l.length l) (hc2 : l2.length ≤ c2) (h2 : d.C W A2 l2.length l2) :
    (Kd.slice e d).C (W.alloc (.cells #[.slice A l.length c, .slice A2 l2.length c2] t fr)) (some ⟨g, 0, none⟩) 2 [l, l2] := by
  subst hg; exact C_two t fr hc h hc2 h2
end Go.Proofs.Ytpahmdjcmpnmkaa.H
