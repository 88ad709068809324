/- What abides but one block; blocks and rows where others grow. -/
import Derived.Test.YtpahmdjcmpnmkaaTy
import Derived.Test.YtpahmdjcmpnmkaaProg
namespace Go.Proofs.Ytpahmdjcmpnmkaa.H
open Go.RowKit Go.Proofs.YtpahmdjcmpnmkaaW.PrintWords Go.Proofs.YtpahmdjcmpnmkaaW.PrintLast Go.Proofs.YtpahmdjcmpnmkaaW.PrintMore
set_option linter.unusedVariables false
set_option linter.unusedSimpArgs false

theorem lt_of_some {W : World} {k : Nat} {o : Obj} (h : W.heap[k]? = some o) : k < W.heap.size := (Array.getElem?_eq_some_iff.1 h).1
/-- All that lay, but for the block g, lies as it lay. -/
structure Oth (g : Nat) (W W' : World) : Prop where
  os : W'.os = W.os
  tape : W'.tape = W.tape
  output : W'.output = W.output
  size : W.heap.size ≤ W'.heap.size
  block : ∀ k, k < W.heap.size → k ≠ g → W'.heap[k]? = W.heap[k]?
theorem Oth.refl (g : Nat) (W : World) : Oth g W W := ⟨rfl, rfl, rfl, Nat.le_refl _, fun _ _ _ => rfl⟩
theorem Oth.trans {g : Nat} {X Y Z : World} (h : Oth g X Y) (k : Oth g Y Z) : Oth g X Z := ⟨k.os.trans h.os, k.tape.trans h.tape, k.output.trans h.output, Nat.le_trans h.size k.size, fun i hi hg => (k.block i (Nat.lt_of_lt_of_le hi h.size) hg).trans (h.block i hi hg)⟩
theorem Oth.of_below {g : Nat} {W W' : World} (h : Below W.heap.size W W') : Oth g W W' := ⟨h.os, h.tape, h.output, h.size, fun k hk _ => h.block k hk⟩
theorem Oth.set (W : World) (p : Addr) (v : Value) : Oth p.block W (W.setCell p v) :=
  ⟨rfl, rfl, rfl, by show W.heap.size ≤ (W.heap.modify _ _).size; rw [Array.size_modify]; exact Nat.le_refl _, fun k _ hk => Below.heap_setCell W p v k hk⟩
theorem Oth.below {g : Nat} {w W W' : World} (h : Oth g W W') (hb : Below w.heap.size w W) (hg : w.heap.size ≤ g) : Below w.heap.size w W' :=
  ⟨h.os.trans hb.os, h.tape.trans hb.tape, h.output.trans hb.output, Nat.le_trans hb.size h.size, fun k hk => (h.block k (Nat.lt_of_lt_of_le hk hb.size) (by omega)).trans (hb.block k hk)⟩
theorem Oth.blk {g : Nat} {W W' : World} (h : Oth g W W') {k : Nat} {o : Obj} (hb : W.heap[k]? = some o) (hk : k ≠ g) : W'.heap[k]? = some o := (h.block k (lt_of_some hb) hk).trans hb
theorem C_but {g : Nat} {W W' : World} (h : ∀ k, k < W.heap.size → k ≠ g → W'.heap[k]? = W.heap[k]?) {k : IntKind} {A : Option Addr} {n : Nat} {xs : List Int} {cs : Array Value} {t : Nat} {z : Nat × Nat} (hg : W.heap[g]? = some (.cells cs t z)) (hcs : ∀ v ∈ cs.toList, ∀ i, v ≠ .int k i)
    (hc : Kd.C (Kd.int k) W A n xs) : Kd.C (Kd.int k) W' A n xs :=
  ⟨hc.1, hc.2.1, fun hn => by
    obtain ⟨ad, e, hr⟩ := hc.2.2 hn
    refine ⟨ad, e, fun j p hj => ?_⟩
    obtain ⟨c, hs, hR, hcell⟩ := hr j p hj
    refine ⟨c, hs, hR, fun i u hu => ?_⟩
    have h1 := hcell i u hu
    by_cases hb : (ad.add (j * (Kd.int k).sz + i)).block = g
    · exfalso
      have hu2 : u = .int k p := by
        have hRc : c = [.int k p] := hR
        subst hRc
        have : i < 1 := by have := (List.getElem?_eq_some_iff.1 hu).1; simpa using this
        obtain rfl : i = 0 := by omega
        simpa using hu.symm
      subst hu2
      unfold World.cell? at h1
      rw [hb, hg] at h1
      simp only [Option.bind_some] at h1
      revert h1
      split
      · intro h1; cases h1
      · intro h1
        exact hcs _ (Array.mem_toList_iff.2 (Array.mem_of_getElem? h1)) p rfl
    · exact (World.cell?_of_block (h _ (World.block_lt_of_cell? _ _ h1) hb)).trans h1⟩
theorem Oth.C {g : Nat} {W W' : World} (h : Oth g W W') {k : IntKind} {A : Option Addr} {n : Nat} {xs : List Int} {cs : Array Value} {t : Nat} {z : Nat × Nat} (hg : W.heap[g]? = some (.cells cs t z)) (hcs : ∀ v ∈ cs.toList, ∀ i, v ≠ .int k i)
    (hc : Kd.C (Kd.int k) W A n xs) : Kd.C (Kd.int k) W' A n xs := C_but h.block hg hcs hc
theorem blk_new2 (W : World) (o o' : Obj) : ((W.alloc o).alloc o').heap[W.heap.size + 1]? = some o' := by
  have := blk_new (W.alloc o) o'
  rwa [World.size_alloc] at this
theorem size_two (W : World) (o o' : Obj) : W.heap.size + 2 ≤ ((W.alloc o).alloc o').heap.size := by
  rw [World.size_alloc, World.size_alloc]
  omega
theorem blk_belowX {W W' : World} {k : Nat} {o : Obj} (h : W.heap[k]? = some o) (hb : Below W.heap.size W W') : W'.heap[k]? = some o := (hb.block k (lt_of_some h)).trans h
theorem addr_add_add (a : Addr) (i j : Nat) : (a.add i).add j = a.add (i + j) := by
  unfold Addr.add
  by_cases hi : i = 0 <;> by_cases hj : j = 0 <;> simp [hi, hj, Nat.add_assoc]
/-- A row of other types stays where a row grows. -/
theorem R_other {α β : Type} {d : Kd α} {d' : Kd β} {e e' : Nat} {w w1 : World} {base base' : Nat} {ok ok' : Nat → Prop} {v v' : Value} {xs : List α} {ys : List β} (h : d.R e w base ok v xs) (h' : d'.R e' w base' ok' v' ys) (hne : ∀ q, q ∈ e :: d.E → q ≠ e') (hg : w.grownBy w1 v'.ownBlock) : d.R e w1 base ok v xs :=
  Kd.R_mono (Kd.R_step (Kd.R_bound h) (fun k hk hlt => hg.block k hlt (fun hrow => by
    obtain ⟨inner, ho⟩ := Kd.R_own h'
    obtain ⟨cells, hc⟩ := own_typed ho k hrow.symm
    obtain ⟨_, _, _, q, hq, cells', hc'⟩ := hk
    rw [hc] at hc'
    injection hc' with hc'
    injection hc' with _ hc' _
    exact hne q hq hc'.symm))) (fun _ hk => hk.1)
/-- A block of another type lies where a row grows. -/
theorem blk_grown {α : Type} {d : Kd α} {e : Nat} {w w1 : World} {base : Nat} {ok : Nat → Prop} {v : Value} {xs : List α} {g t : Nat} {cs : Array Value} (h : d.R e w base ok v xs) (hb : w.heap[g]? = some (.cells cs t (0, 0))) (ht : e ≠ t) (hg : w.grownBy w1 v.ownBlock) : w1.heap[g]? = some (.cells cs t (0, 0)) :=
  (hg.block g (lt_of_some hb) (Kd.R_ne h hb ht)).trans hb
theorem blk_grown0 {w w1 : World} {g t : Nat} {cs : Array Value} (hb : w.heap[g]? = some (.cells cs t (0, 0))) (hg : w.grownBy w1 none) : w1.heap[g]? = some (.cells cs t (0, 0)) :=
  (hg.block g (lt_of_some hb) (by simp)).trans hb
theorem C_take_n {d : Kd Int} {w : World} {A : Option Addr} {l : List Int} {m n : Nat} (h : d.C w A l.length l) (hn : (l.take m).length = n) (hm : m ≤ l.length) : d.C w A n (l.take m) := by
  subst hn; exact Kd.C_take h hm
/-- A function whose one result lies in a box. -/
theorem results_one_cell {fn : Func} {tmps : Array Value} {w : World} {k : Tmp} {ty : TypeId} {g : Nat} {v : Value} (h : fn.results = #[.cell k 4]) (hb : w.heap[g]? = some (.cells #[v] ty (0, 0))) (hp : tmps.getD k undef = .pointer (some ⟨g, 0, none⟩)) :
    (results fn tmps).run Try.prog w = .ok v w := by
  have hc : w.cell? ⟨g, 0, none⟩ = some v := by rw [blk_cell hb 0]; rfl
  have hp2 : tmps[k]?.getD undef = .pointer (some ⟨g, 0, none⟩) := by simpa using hp
  unfold results
  rw [h]
  simp [go_sem, hp2, hc, Try.underlying4]
/-- A row of numbers is read wherever the blocks that lay lie as they lay. -/
theorem C_of_blocks {W W' : World} {k : IntKind} {A : Option Addr} {n : Nat} {xs : List Int} (hc : Kd.C (Kd.int k) W A n xs) (h : ∀ i, i < W.heap.size → W'.heap[i]? = W.heap[i]?) : Kd.C (Kd.int k) W' A n xs :=
  ⟨hc.1, hc.2.1, fun hn => by
    obtain ⟨ad, e, hr⟩ := hc.2.2 hn
    refine ⟨ad, e, fun j p hj => ?_⟩
    obtain ⟨c, hs, hR, hcell⟩ := hr j p hj
    exact ⟨c, hs, hR, fun i u hu => (World.cell?_of_block (h _ (World.block_lt_of_cell? _ _ (hcell i u hu)))).trans (hcell i u hu)⟩⟩
end Go.Proofs.Ytpahmdjcmpnmkaa.H
