/- Some texts of one seat in one file, in build order. -/
import Derived.Test.YtcnmbllafdeokaaG1
import Derived.Test.YtcnmbllafdeokaaProg
import Derived.RangeFuncLeaves
import Derived.RangeFuncCalls
import Derived.RangeFuncRecord
import Derived.RangeFuncIn
import Derived.RangeFuncWrites
import Derived.RangeFuncFrom
import Derived.OwnWalkIn
import Derived.Shelf.Abstract
import Derived.TacticsInMore
import Derived.LoopNIn
import Derived.LoopIn
/- A row's block has its type; a cut's block is the row's. -/
namespace Go.Proofs.Ytcnmbllafdeokaa.H
open Go.RowKit Go.Proofs.YtcnmbllafdeokaaW.PrintWords Go.Proofs.YtcnmbllafdeokaaW.PrintLast Go.Proofs.YtcnmbllafdeokaaW.PrintMore
set_option linter.unusedVariables false
set_option linter.unusedSimpArgs false

/-- The slice's block, if it has one, is a block of type t. -/
def Ty (t : TypeId) (W : World) (A : Option Addr) : Prop := ∀ ad, A = some ad → ∃ cs z, W.heap[ad.block]? = some (.cells cs t z)
theorem Ty.nil (t : TypeId) (W : World) : Ty t W none := fun _ h => by cases h
theorem Ty.below {t : TypeId} {W W' : World} {A : Option Addr} (h : Ty t W A) (hb : Below W.heap.size W W') : Ty t W' A := fun ad e => by
  obtain ⟨cs, z, hc⟩ := h ad e
  exact ⟨cs, z, (hb.block _ (Array.getElem?_eq_some_iff.1 hc).1).trans hc⟩
theorem Ty.of_R {α : Type} {d : Kd α} {t : Nat} {W : World} {base : Nat} {ok : Nat → Prop} {A : Option Addr} {n c : Nat} {xs : List α} (h : Kd.R d t W base ok (.slice A n c) xs) : Ty t W A := fun ad e => by
  subst e
  obtain ⟨inner, ho⟩ := Kd.R_own h
  rcases ho.2 with ⟨h1, _⟩ | ⟨g, cap, cur, h1, _, hh, _⟩
  · cases h1
  · injection h1 with h1 _ _
    injection h1 with h1
    subst h1
    exact ⟨cur, (0, 0), hh⟩
theorem slice_block {P : Program} {t e : TypeId} {A A' : Option Addr} {n c m k : Nat} {lo hi : Option Value} {W W' : World} (ht : P.underlying t = some (.slice e))
    (h : (Instr.slice t (.slice A n c) lo hi none).run P W = .ok (.slice A' m k) W') : ∀ a, A' = some a → ∃ b, A = some b ∧ a.block = b.block := by
  have he : P.underlying t = some (.slice (P.elem t)) := by simp [Program.elem, ht]
  rw [run_slice_any (w := W) (t := t) (a := A) (len := n) (cap := c) he] at h
  revert h
  cases (Instr.sliceBounds true n c lo hi none).run P W with
  | halt x w => intro h; cases h
  | ok b w =>
    simp only [Result.andThen]
    cases (sizeOf (P.elem t)).run P w with
    | halt x w => intro h; cases h
    | ok s w =>
      simp only [sliced]
      intro h
      injection h with h _
      injection h with h _ _
      intro a ha
      subst ha
      by_cases hc : b.2.2 = b.1
      · rw [if_pos hc] at h; exact ⟨a, h, rfl⟩
      · rw [if_neg hc] at h
        cases A with
        | none => cases h
        | some b' => simp at h; exact ⟨b', rfl, by rw [← h]; unfold Addr.add; split <;> rfl⟩
theorem Ty.slice {P : Program} {t e ty : TypeId} {A A' : Option Addr} {n c m k : Nat} {lo hi : Option Value} {W W' V : World} (ht : P.underlying t = some (.slice e)) (hT : Ty ty V A)
    (h : (Instr.slice t (.slice A n c) lo hi none).run P W = .ok (.slice A' m k) W') : Ty ty V A' := fun a ha => by
  obtain ⟨b, hb, hab⟩ := slice_block ht h a ha
  rw [hab]; exact hT b hb
theorem Ty.set3 {t t' : TypeId} {W : World} {A : Option Addr} {g : Nat} {cs : Array Value} {q : Nat × Nat} (h : Ty t W A) (hg : W.heap[g]? = some (.cells cs t' q)) (hne : t ≠ t') (x y z : Value) :
    Ty t (((W.setCell ⟨g, 0, none⟩ x).setCell ⟨g, 1, none⟩ y).setCell ⟨g, 2, none⟩ z).drew A := fun ad e => by
  obtain ⟨cs', z', hc⟩ := h ad e
  have hb : ad.block ≠ g := fun e' => by
    rw [e', hg] at hc
    injection hc with hc
    injection hc with _ hc _
    exact hne hc.symm
  exact ⟨cs', z', ((Below.heap_setCell ((W.setCell ⟨g, 0, none⟩ x).setCell ⟨g, 1, none⟩ y) ⟨g, 2, none⟩ z _ hb).trans ((Below.heap_setCell (W.setCell ⟨g, 0, none⟩ x) ⟨g, 1, none⟩ y _ hb).trans (Below.heap_setCell W ⟨g, 0, none⟩ x _ hb))).trans hc⟩
/-- Numbers in rows of type t are read on where no block of that type has turned. -/
theorem C_ty {W W' : World} {t : TypeId} {k : IntKind} {A : Option Addr} {n : Nat} {xs : List Int} (hT : Ty t W A) (hc : Kd.C (Kd.int k) W A n xs) (h : ∀ (i : Nat) (cs : Array Value) (z : Nat × Nat), W.heap[i]? = some (Obj.cells cs t z) → W'.heap[i]? = W.heap[i]?) : Kd.C (Kd.int k) W' A n xs :=
  ⟨hc.1, hc.2.1, fun hn => by
    obtain ⟨ad, e, hr⟩ := hc.2.2 hn
    obtain ⟨cs, z, hb⟩ := hT ad e
    refine ⟨ad, e, fun j p hj => ?_⟩
    obtain ⟨c, hs, hR, hcell⟩ := hr j p hj
    refine ⟨c, hs, hR, fun i u hu => ?_⟩
    have h1 := hcell i u hu
    have hblk : (ad.add (j * (Kd.int k).sz + i)).block = ad.block := by unfold Addr.add; split <;> rfl
    exact (World.cell?_of_block (by rw [hblk]; exact h _ _ _ hb)).trans h1⟩
theorem Ty.of_ty {W W' : World} {t : TypeId} {A : Option Addr} (hT : Ty t W A) (h : ∀ (i : Nat) (cs : Array Value) (z : Nat × Nat), W.heap[i]? = some (Obj.cells cs t z) → W'.heap[i]? = W.heap[i]?) : Ty t W' A := fun ad e => by
  obtain ⟨cs, z, hb⟩ := hT ad e
  exact ⟨cs, z, (h _ _ _ hb).trans hb⟩
end Go.Proofs.Ytcnmbllafdeokaa.H
/- What abides but one block; blocks and rows where others grow. -/
namespace Go.Proofs.Ytcnmbllafdeokaa.H
open Go.RowKit Go.Proofs.YtcnmbllafdeokaaW.PrintWords Go.Proofs.YtcnmbllafdeokaaW.PrintLast Go.Proofs.YtcnmbllafdeokaaW.PrintMore
set_option linter.unusedVariables false
set_option linter.unusedSimpArgs false

theorem lt_of_some {W : World} {k : Nat} {o : Obj} (h : W.heap[k]? = some o) : k < W.heap.size := (Array.getElem?_eq_some_iff.1 h).1
/-- All that lay, but for the block g, lies as it lay. -/
structure Oth (g : Nat) (W W' : World) : Prop where
  os : W'.os = W.os
  tape : W'.tape = W.tape
  output : W'.output = W.output
  size : W.heap.size ≤ W'.heap.size
  block : ∀ k, k < W.heap.size → k ≠ g → W'.heap[k]? = W.heap[k]?
theorem Oth.refl (g : Nat) (W : World) : Oth g W W := ⟨rfl, rfl, rfl, Nat.le_refl _, fun _ _ _ => rfl⟩
theorem Oth.trans {g : Nat} {X Y Z : World} (h : Oth g X Y) (k : Oth g Y Z) : Oth g X Z := ⟨k.os.trans h.os, k.tape.trans h.tape, k.output.trans h.output, Nat.le_trans h.size k.size, fun i hi hg => (k.block i (Nat.lt_of_lt_of_le hi h.size) hg).trans (h.block i hi hg)⟩
theorem Oth.of_below {g : Nat} {W W' : World} (h : Below W.heap.size W W') : Oth g W W' := ⟨h.os, h.tape, h.output, h.size, fun k hk _ => h.block k hk⟩
theorem Oth.set (W : World) (p : Addr) (v : Value) : Oth p.block W (W.setCell p v) :=
  ⟨rfl, rfl, rfl, by show W.heap.size ≤ (W.heap.modify _ _).size; rw [Array.size_modify]; exact Nat.le_refl _, fun k _ hk => Below.heap_setCell W p v k hk⟩
theorem Oth.below {g : Nat} {w W W' : World} (h : Oth g W W') (hb : Below w.heap.size w W) (hg : w.heap.size ≤ g) : Below w.heap.size w W' :=
  ⟨h.os.trans hb.os, h.tape.trans hb.tape, h.output.trans hb.output, Nat.le_trans hb.size h.size, fun k hk => (h.block k (Nat.lt_of_lt_of_le hk hb.size) (by omega)).trans (hb.block k hk)⟩
theorem Oth.blk {g : Nat} {W W' : World} (h : Oth g W W') {k : Nat} {o : Obj} (hb : W.heap[k]? = some o) (hk : k ≠ g) : W'.heap[k]? = some o := (h.block k (lt_of_some hb) hk).trans hb
theorem C_but {g : Nat} {W W' : World} (h : ∀ k, k < W.heap.size → k ≠ g → W'.heap[k]? = W.heap[k]?) {k : IntKind} {A : Option Addr} {n : Nat} {xs : List Int} {cs : Array Value} {t : Nat} {z : Nat × Nat} (hg : W.heap[g]? = some (.cells cs t z)) (hcs : ∀ v ∈ cs.toList, ∀ i, v ≠ .int k i)
    (hc : Kd.C (Kd.int k) W A n xs) : Kd.C (Kd.int k) W' A n xs :=
  ⟨hc.1, hc.2.1, fun hn => by
    obtain ⟨ad, e, hr⟩ := hc.2.2 hn
    refine ⟨ad, e, fun j p hj => ?_⟩
    obtain ⟨c, hs, hR, hcell⟩ := hr j p hj
    refine ⟨c, hs, hR, fun i u hu => ?_⟩
    have h1 := hcell i u hu
    by_cases hb : (ad.add (j * (Kd.int k).sz + i)).block = g
    · exfalso
      have hu2 : u = .int k p := by
        have hRc : c = [.int k p] := hR
        subst hRc
        have : i < 1 := by have := (List.getElem?_eq_some_iff.1 hu).1; simpa using this
        obtain rfl : i = 0 := by omega
        simpa using hu.symm
      subst hu2
      unfold World.cell? at h1
      rw [hb, hg] at h1
      simp only [Option.bind_some] at h1
      revert h1
      split
      · intro h1; cases h1
      · intro h1
        exact hcs _ (Array.mem_toList_iff.2 (Array.mem_of_getElem? h1)) p rfl
    · exact (World.cell?_of_block (h _ (World.block_lt_of_cell? _ _ h1) hb)).trans h1⟩
theorem Oth.C {g : Nat} {W W' : World} (h : Oth g W W') {k : IntKind} {A : Option Addr} {n : Nat} {xs : List Int} {cs : Array Value} {t : Nat} {z : Nat × Nat} (hg : W.heap[g]? = some (.cells cs t z)) (hcs : ∀ v ∈ cs.toList, ∀ i, v ≠ .int k i)
    (hc : Kd.C (Kd.int k) W A n xs) : Kd.C (Kd.int k) W' A n xs := C_but h.block hg hcs hc
theorem blk_new2 (W : World) (o o' : Obj) : ((W.alloc o).alloc o').heap[W.heap.size + 1]? = some o' := by
  have := blk_new (W.alloc o) o'
  rwa [World.size_alloc] at this
theorem size_two (W : World) (o o' : Obj) : W.heap.size + 2 ≤ ((W.alloc o).alloc o').heap.size := by
  rw [World.size_alloc, World.size_alloc]
  omega
theorem blk_belowX {W W' : World} {k : Nat} {o : Obj} (h : W.heap[k]? = some o) (hb : Below W.heap.size W W') : W'.heap[k]? = some o := (hb.block k (lt_of_some h)).trans h
theorem addr_add_add (a : Addr) (i j : Nat) : (a.add i).add j = a.add (i + j) := by
  unfold Addr.add
  by_cases hi : i = 0 <;> by_cases hj : j = 0 <;> simp [hi, hj, Nat.add_assoc]
/-- A row of other types stays where a row grows. -/
theorem R_other {α β : Type} {d : Kd α} {d' : Kd β} {e e' : Nat} {w w1 : World} {base base' : Nat} {ok ok' : Nat → Prop} {v v' : Value} {xs : List α} {ys : List β} (h : d.R e w base ok v xs) (h' : d'.R e' w base' ok' v' ys) (hne : ∀ q, q ∈ e :: d.E → q ≠ e') (hg : w.grownBy w1 v'.ownBlock) : d.R e w1 base ok v xs :=
  Kd.R_mono (Kd.R_step (Kd.R_bound h) (fun k hk hlt => hg.block k hlt (fun hrow => by
    obtain ⟨inner, ho⟩ := Kd.R_own h'
    obtain ⟨cells, hc⟩ := own_typed ho k hrow.symm
    obtain ⟨_, _, _, q, hq, cells', hc'⟩ := hk
    rw [hc] at hc'
    injection hc' with hc'
    injection hc' with _ hc' _
    exact hne q hq hc'.symm))) (fun _ hk => hk.1)
/-- A block of another type lies where a row grows. -/
theorem blk_grown {α : Type} {d : Kd α} {e : Nat} {w w1 : World} {base : Nat} {ok : Nat → Prop} {v : Value} {xs : List α} {g t : Nat} {cs : Array Value} (h : d.R e w base ok v xs) (hb : w.heap[g]? = some (.cells cs t (0, 0))) (ht : e ≠ t) (hg : w.grownBy w1 v.ownBlock) : w1.heap[g]? = some (.cells cs t (0, 0)) :=
  (hg.block g (lt_of_some hb) (Kd.R_ne h hb ht)).trans hb
theorem blk_grown0 {w w1 : World} {g t : Nat} {cs : Array Value} (hb : w.heap[g]? = some (.cells cs t (0, 0))) (hg : w.grownBy w1 none) : w1.heap[g]? = some (.cells cs t (0, 0)) :=
  (hg.block g (lt_of_some hb) (by simp)).trans hb
theorem C_take_n {d : Kd Int} {w : World} {A : Option Addr} {l : List Int} {m n : Nat} (h : d.C w A l.length l) (hn : (l.take m).length = n) (hm : m ≤ l.length) : d.C w A n (l.take m) := by
  subst hn; exact Kd.C_take h hm
/-- A function whose one result lies in a box. -/
theorem results_one_cell {fn : Func} {tmps : Array Value} {w : World} {k : Tmp} {ty : TypeId} {g : Nat} {v : Value} (h : fn.results = #[.cell k 4]) (hb : w.heap[g]? = some (.cells #[v] ty (0, 0))) (hp : tmps.getD k undef = .pointer (some ⟨g, 0, none⟩)) :
    (results fn tmps).run Try.prog w = .ok v w := by
  have hc : w.cell? ⟨g, 0, none⟩ = some v := by rw [blk_cell hb 0]; rfl
  have hp2 : tmps[k]?.getD undef = .pointer (some ⟨g, 0, none⟩) := by simpa using hp
  unfold results
  rw [h]
  simp [go_sem, hp2, hc, Try.underlying4]
/-- A row of numbers is read wherever the blocks that lay lie as they lay. -/
theorem C_of_blocks {W W' : World} {k : IntKind} {A : Option Addr} {n : Nat} {xs : List Int} (hc : Kd.C (Kd.int k) W A n xs) (h : ∀ i, i < W.heap.size → W'.heap[i]? = W.heap[i]?) : Kd.C (Kd.int k) W' A n xs :=
  ⟨hc.1, hc.2.1, fun hn => by
    obtain ⟨ad, e, hr⟩ := hc.2.2 hn
    refine ⟨ad, e, fun j p hj => ?_⟩
    obtain ⟨c, hs, hR, hcell⟩ := hr j p hj
    exact ⟨c, hs, hR, fun i u hu => (World.cell?_of_block (h _ (World.block_lt_of_cell? _ _ (hcell i u hu)))).trans (hcell i u hu)⟩⟩
end Go.Proofs.Ytcnmbllafdeokaa.H
/- A range over a func: the iterator tells the round what lies at the values that it yields; the caller's boxes may lie wherever. -/
namespace Go.Proofs.Ytcnmbllafdeokaa.H
open Go.RowKit Go.Proofs.YtcnmbllafdeokaaW.PrintWords Go.Proofs.YtcnmbllafdeokaaW.PrintLast Go.Proofs.YtcnmbllafdeokaaW.PrintMore
set_option linter.unusedVariables false

theorem wide_fn (f : FuncId) : Fence.wide.fn f = True := eq_true trivial
theorem wide_depth : Fence.wide.depth = none := rfl

/-- Nothing below B, and no cells, have turned. -/
structure Lies (B : Nat) (W W' : World) : Prop where
  os : W'.os = W.os
  tape : W'.tape = W.tape
  output : W'.output = W.output
  size : W.heap.size ≤ W'.heap.size
  same : ∀ (k : Nat) (o : Obj), W.heap[k]? = some o → (k < B ∨ o.isCells = true) → W'.heap[k]? = some o

theorem Lies.refl (B : Nat) (W : World) : Lies B W W := ⟨rfl, rfl, rfl, Nat.le_refl _, fun _ _ h _ => h⟩
theorem Lies.trans {B : Nat} {X Y Z : World} (h : Lies B X Y) (k : Lies B Y Z) : Lies B X Z := ⟨k.os.trans h.os, k.tape.trans h.tape, k.output.trans h.output, Nat.le_trans h.size k.size, fun i o hi ho => k.same i o (h.same i o hi ho) ho⟩
theorem Lies.of_below {B : Nat} {W W' : World} (h : Below W.heap.size W W') : Lies B W W' := ⟨h.os, h.tape, h.output, h.size, fun k o hk _ => (h.block k (lt_of_some hk)).trans hk⟩
theorem Lies.put {B : Nat} {W : World} {l : Nat} {o : Obj} (hB : B ≤ l) (hl : W.heap[l]? = some o) (ho : o.isCells = false) (o' : Obj) : Lies B W (W.putObj l o') :=
  ⟨rfl, rfl, rfl, by simp, fun k p hk hp => by
    by_cases e : k = l
    · subst e
      rw [hl] at hk
      cases hk
      rcases hp with hp | hp
      · omega
      · rw [ho] at hp; cases hp
    · exact (World.putObj_heap_other e).trans hk⟩
theorem Lies.cell {B : Nat} {W W' : World} (h : Lies B W W') {a : Addr} {v : Value} (hc : W.cell? a = some v) : W'.cell? a = some v := by
  have hlt := World.block_lt_of_cell? W a hc
  obtain ⟨o, ho⟩ : ∃ o, W.heap[a.block]? = some o := ⟨_, Array.getElem?_eq_getElem hlt⟩
  have hcells : o.isCells = true := by
    unfold World.cell? at hc
    rw [ho] at hc
    cases o <;> simp_all [Obj.isCells]
  have h1 := h.same _ _ ho (.inr hcells)
  exact (World.cell?_of_block (h1.trans ho.symm)).trans hc
theorem Lies.blk {B : Nat} {W W' : World} (h : Lies B W W') {k : Nat} {cs : Array Value} {t : Nat} {z : Nat × Nat} (hb : W.heap[k]? = some (.cells cs t z)) : W'.heap[k]? = some (.cells cs t z) := h.same _ _ hb (.inr rfl)
theorem Lies.C {B : Nat} {W W' : World} (h : Lies B W W') {k : IntKind} {A : Option Addr} {n : Nat} {xs : List Int} (hc : Kd.C (Kd.int k) W A n xs) : Kd.C (Kd.int k) W' A n xs :=
  ⟨hc.1, hc.2.1, fun hn => by
    obtain ⟨ad, e, hr⟩ := hc.2.2 hn
    refine ⟨ad, e, fun j p hj => ?_⟩
    obtain ⟨c, hs, hR, hcell⟩ := hr j p hj
    exact ⟨c, hs, hR, fun i u hu => h.cell (hcell i u hu)⟩⟩
theorem Lies.below {B n : Nat} {w W W' : World} (h : Lies B W W') (hb : Below n w W) (hn : n ≤ B) (hw : n ≤ w.heap.size) : Below n w W' :=
  ⟨h.os.trans hb.os, h.tape.trans hb.tape, h.output.trans hb.output, Nat.le_trans hb.size h.size, fun k hk => by
    have h1 := hb.block k hk
    have hlt : k < w.heap.size := by omega
    obtain ⟨o, ho⟩ : ∃ o, w.heap[k]? = some o := ⟨_, Array.getElem?_eq_getElem hlt⟩
    rw [ho] at h1
    rw [ho]
    exact h.same _ _ h1 (.inl (by omega))⟩

/-- The blocks of Kb below n₀ lie as they lay. -/
def Kp (n₀ : Nat) (Kb : Nat → Prop) (A B : World) : Prop := A.heap.size ≤ B.heap.size ∧ ∀ k, k < n₀ → Kb k → B.heap[k]? = A.heap[k]?
theorem Kp.refl (n₀ : Nat) (Kb : Nat → Prop) (A : World) : Kp n₀ Kb A A := ⟨Nat.le_refl _, fun _ _ _ => rfl⟩
theorem Kp.trans {n₀ : Nat} {Kb : Nat → Prop} {A B C : World} (h : Kp n₀ Kb A B) (k : Kp n₀ Kb B C) : Kp n₀ Kb A C := ⟨Nat.le_trans h.1 k.1, fun i hi hk => (k.2 i hi hk).trans (h.2 i hi hk)⟩
theorem Kp.of_below {n₀ : Nat} {Kb : Nat → Prop} {A B : World} (h : Below A.heap.size A B) (hn : n₀ ≤ A.heap.size) : Kp n₀ Kb A B := ⟨h.size, fun k hk _ => h.block k (by omega)⟩
theorem Kp.put {n₀ : Nat} {Kb : Nat → Prop} {A : World} {l : Nat} (hl : n₀ ≤ l) (o : Obj) : Kp n₀ Kb A (A.putObj l o) := ⟨by simp, fun k hk _ => World.putObj_heap_other (by omega)⟩
theorem Kp.set {n₀ : Nat} {Kb : Nat → Prop} {A : World} {p : Addr} (hp : Kb p.block → n₀ ≤ p.block) (v : Value) : Kp n₀ Kb A (A.setCell p v) :=
  ⟨by show A.heap.size ≤ (A.heap.modify _ _).size; rw [Array.size_modify]; exact Nat.le_refl _, fun k hk hb => Below.heap_setCell A p v k (fun e => by subst e; have := hp hb; omega)⟩
theorem Kp.of_lies {n₀ B : Nat} {Kb : Nat → Prop} {A A' : World} (h : Lies B A A') (hn : n₀ ≤ B) (hA : n₀ ≤ A.heap.size) : Kp n₀ Kb A A' := ⟨h.size, fun k hk _ => by
  obtain ⟨o, ho⟩ : ∃ o, A.heap[k]? = some o := ⟨_, Array.getElem?_eq_getElem (by omega)⟩
  rw [ho]; exact h.same _ _ ho (.inl (by omega))⟩

theorem KeepsFrom.of_below {B : Nat} {W W' : World} (h : Below W.heap.size W W') : KeepsFrom B W W' := ⟨h.size, fun k o _ hk _ => (h.block k (lt_of_some hk)).trans hk⟩
theorem KeepsFrom.set (B : Nat) (W : World) (a : Addr) (v : Value) : KeepsFrom B W (W.setCell a v) := (KeepsOthers.setCell W a v).from B
/-- **AN ITERATOR's CONTRACT**: Y pre x vs W: what the iterator tells the round of the values vs that it yields as the element x behind pre, in the world of the call. -/
def SeqX {α : Type} (F : Fence) (n : Nat) (P : Program) (g : Nat) (lb : Array Value) (Y : List α → α → Array Value → World → Prop) (n₀ : Nat) (Kb : Nat → Prop) (S Sp : List α → Prop) (w : World) : Prop :=
  ∀ (l : Nat) (J Jx : List α → World → Prop) (W : World), Kp n₀ Kb w W →
    (∀ s A B, J s A → Below A.heap.size A B → J s B) → (∀ s A B, Jx s A → Below A.heap.size A B → Jx s B) →
    (∀ pre x vs W1, J pre W1 → Y pre x vs W1 → YieldAt F (n - 1) P l vs W1 fun e W' =>
      (e = .returned (.bool true) ∧ J (pre ++ [x]) W' ∧ Kp n₀ Kb W1 W') ∨ (e = .returned (.bool false) ∧ Jx (pre ++ [x]) W')) →
    J [] W →
    CallsIn F n P g (#[.func (.yield l) #[] #[]] ++ lb) W fun e W' => (∃ v, e = .returned v) ∧ ((∃ xs, S xs ∧ J xs W') ∨ (∃ pre, Sp pre ∧ Jx pre W'))

/-- How a round's body may be left. -/
def xPost {α : Type} (B n₀ : Nat) (Kb : Nat → Prop) (I : List α → World → Prop) (Ix : Code → List α → World → Prop) (xs : List α) (W Wb : World) : Exit → Act → World → Prop
  | .normal, _, W' => KeepsFrom B Wb W' ∧ Kp n₀ Kb W W' ∧ I xs W'
  | .ret, _, W' => KeepsFrom B Wb W' ∧ Ix .ret xs W'
  | .exit id, _, W' => KeepsFrom B Wb W' ∧ Ix (.exit id) xs W'
  | .goto _, _, _ => False
  | .panic _, _, _ => False
  | .outgrown, _, _ => False

/-- **THE STATEMENT 'for .. := range seq { body }' BY THAT CONTRACT.** -/
theorem rangeX {F : Fence} {n : Nat} {P : Program} {α : Type} {g : Operand} {ps : Array Tmp} {assign body : Code} {Q : Exit → Act → World → Prop} {a : Act} {w : World}
    (hro : F.round = none) (h1 : 1 ≤ n) {gf : Nat} {lb : Array Value} (hg : a.eval g = .func (.func gf) #[] lb) (hFg : F.fn gf) (eg : ∀ args w, (callFunc gf args).run P w = .ok (.enter gf args) w)
    {Y : List α → α → Array Value → World → Prop} {n₀ : Nat} {Kb : Nat → Prop} {S Sp : List α → Prop} (hseq : SeqX F (n - 1) P gf lb Y n₀ Kb S Sp w) (hn : n₀ ≤ w.heap.size)
    (hps : ∀ pre x vs W, Y pre x vs W → vs.size = ps.size)
    (I : List α → World → Prop) (Ix : Code → List α → World → Prop) (hI : ∀ s A B, I s A → Lies w.heap.size A B → I s B) (hIx : ∀ c s A B, Ix c s A → Lies w.heap.size A B → Ix c s B) (h0 : I [] w)
    (hround : ∀ (l : Nat) (pre : List α) (x : α) (vs : Array Value) (W : World), w.heap.size ≤ l → I pre W → Y pre x vs W → w.heap.size ≤ W.heap.size →
      assign.wpIn (F.inRound l) (n - 1 - 1) P (Exit.then (fun a' Wa => KeepsFrom w.heap.size W Wa ∧ Kp n₀ Kb W Wa ∧ ∀ Wb, Lies w.heap.size Wa Wb → body.wpIn (F.inRound l) (n - 1 - 1) P (xPost w.heap.size n₀ Kb I Ix (pre ++ [x]) Wb Wb) a' Wb) (fun _ _ _ => False))
        { tmps := (ps.zip vs).foldl (fun t (p, v) => t.setIfInBounds p v) a.tmps, defers := [] } W)
    (hdone : ∀ (D : Nat) (xs : List α) (W : World), w.heap.size ≤ D → S xs → I xs W → W.heap[D]? = some (.deferred (some [])) → Q .normal { a with defers := { target := .collected D, args := #[] } :: a.defers } W)
    (hstop : ∀ (D : Nat) (c : Code) (pre : List α) (W : World), w.heap.size ≤ D → Sp pre → Ix c pre W → W.heap[D]? = some (.deferred (some [])) → c.wpIn F n P Q { a with defers := { target := .collected D, args := #[] } :: a.defers } W) :
    (Code.rangeFunc g ps assign body).wpIn F n P Q a w := by
  refine wpIn_rangeFunc fun fn hfn => ?_
  rw [hro]
  obtain ⟨D, eD⟩ : ∃ D, D = w.heap.size := ⟨_, rfl⟩
  obtain ⟨rec, hrec⟩ : ∃ rec : LoopState → Option Code → Loop, rec = fun st pe => { state := st, pending := pe, fn, tmps := a.tmps, params := ps, assign, body, defers := D } := ⟨_, rfl⟩
  have hst : ∀ st pe, (rec st pe).state = st := fun _ _ => by rw [hrec]
  have hpe : ∀ st pe, (rec st pe).pending = pe := fun _ _ => by rw [hrec]
  have hre : ∀ st pe st', ({ rec st pe with state := st' } : Loop) = rec st' pe := fun _ _ _ => by rw [hrec]
  have hre2 : ∀ st pe st' pe', ({ rec st pe with state := st', pending := pe' } : Loop) = rec st' pe' := fun _ _ _ _ => by rw [hrec]
  have hbW : Below w.heap.size w ((w.alloc (.deferred (some []))).alloc (.loop (rec .ready none))) := ((Below.refl _ w).alloc (Nat.le_refl _) _).alloc (by simp) _
  have hL1 : ((w.alloc (.deferred (some []))).alloc (.loop (rec .ready none))).heap[D + 1]? = some (.loop (rec .ready none)) := by
    have := World.alloc_heap_new (w.alloc (.deferred (some []))) (.loop (rec .ready none)); rwa [World.size_alloc, ← eD] at this
  have hD1 : ((w.alloc (.deferred (some []))).alloc (.loop (rec .ready none))).heap[D]? = some (.deferred (some [])) := by
    rw [eD]; exact (Below.heap_alloc _ _ _ (by simp)).trans (World.alloc_heap_new w _)
  have hrun : (Instr.enterLoop fn a.tmps ps assign body none).run P w = .ok (D + 1, [{ target := .collected D, args := #[] }]) ((w.alloc (.deferred (some []))).alloc (.loop (rec .ready none))) := by
    rw [hrec, eD]; exact run_enterLoop_outer _ _ _ _ _
  have hI1 : I [] ((w.alloc (.deferred (some []))).alloc (.loop (rec .ready none))) := hI _ _ _ h0 (.of_below hbW)
  have hkp1 : Kp n₀ Kb w ((w.alloc (.deferred (some []))).alloc (.loop (rec .ready none))) := .of_below hbW hn
  generalize ((w.alloc (.deferred (some []))).alloc (.loop (rec .ready none))) = W1 at hbW hL1 hD1 hrun hI1 hkp1
  refine ⟨D + 1, [{ target := .collected D, args := #[] }], W1, { target := .fn (.func gf) lb, args := #[.func (.yield (D + 1)) #[] #[]] }, W1, gf,
    #[.func (.yield (D + 1)) #[] #[]] ++ lb, W1, hrun, ?_, ?_, ?_, fun _ => h1, ?_⟩
  · simp only [resolve, hg]
    simp [go_sem]
  · intro f' hf'
    simp [Target.leads] at hf'
    subst hf'
    exact hFg
  · simp [invoke, go_sem, eg]
  · refine (hseq (D + 1)
      (fun pre W => I pre W ∧ W.heap[D + 1]? = some (.loop (rec .ready none)) ∧ W.heap[D]? = some (.deferred (some [])))
      (fun pre W => ∃ c, Ix c pre W ∧ W.heap[D + 1]? = some (.loop (rec .done (some c))) ∧ W.heap[D]? = some (.deferred (some [])))
      W1 hkp1
      (fun s A B h hb => ⟨hI _ _ _ h.1 (.of_below hb), (hb.block _ (lt_of_some h.2.1)).trans h.2.1, (hb.block _ (lt_of_some h.2.2)).trans h.2.2⟩)
      (fun s A B ⟨c, h1, h2, h3⟩ hb => ⟨c, hIx _ _ _ _ h1 (.of_below hb), (hb.block _ (lt_of_some h2)).trans h2, (hb.block _ (lt_of_some h3)).trans h3⟩)
      ?_ ⟨hI1, hL1, hD1⟩).mono ?_
    · rintro pre x vs W ⟨hi, hl, hd⟩ hy
      have hrunY := run_yield (P := P) (args := vs) hl (by rw [hrec]; exact hps _ _ _ _ hy)
      rw [hrec] at hrunY
      refine ⟨fn, _, assign, body, hrunY, roundIn_of_wpIn hfn ?_⟩
      have hlt := lt_of_some hl
      refine wpIn_mono (hround (D + 1) pre x vs W (by omega) hi hy (by omega)) ?_
      rintro e a1 Wa hpa
      cases e with
      | normal =>
        obtain ⟨hk1, hk2, hk3⟩ := hpa
        have hla := hk1.same _ _ (by omega) hl rfl
        have hda := hk1.same _ _ (by omega) hd rfl
        refine ⟨_, run_beginRound hla (hst _ _), ?_⟩
        rw [hre]
        have hlies : Lies w.heap.size Wa (Wa.putObj (D + 1) (.loop (rec .busy none))) := .put (by omega) hla rfl _
        have hlb : (Wa.putObj (D + 1) (.loop (rec .busy none))).heap[D + 1]? = some (.loop (rec .busy none)) := World.putObj_heap_same (lt_of_some hla)
        have hdb : (Wa.putObj (D + 1) (.loop (rec .busy none))).heap[D]? = some (.deferred (some [])) := (World.putObj_heap_other (by omega)).trans hda
        have hkb : Kp n₀ Kb W (Wa.putObj (D + 1) (.loop (rec .busy none))) := hk2.trans (.put (by omega) _)
        have hbody := hk3 _ hlies
        generalize Wa.putObj (D + 1) (.loop (rec .busy none)) = Wb at hlb hdb hkb hbody
        refine wpIn_mono hbody ?_
        have fin : ∀ (jump : Option Code) (W3 : World), KeepsFrom w.heap.size Wb W3 →
            (Instr.endRound (D + 1) jump).run P W3 = .ok (.bool jump.isNone) (W3.putObj (D + 1) (.loop (rec (if jump.isNone then .ready else .done) jump))) ∧
            Lies w.heap.size W3 (W3.putObj (D + 1) (.loop (rec (if jump.isNone then .ready else .done) jump))) ∧
            (W3.putObj (D + 1) (.loop (rec (if jump.isNone then .ready else .done) jump))).heap[D + 1]? = some (.loop (rec (if jump.isNone then .ready else .done) jump)) ∧
            (W3.putObj (D + 1) (.loop (rec (if jump.isNone then .ready else .done) jump))).heap[D]? = some (.deferred (some [])) := fun jump W3 hk => by
          have hl3 := hk.same _ _ (by omega) hlb rfl
          have hd3 := hk.same _ _ (by omega) hdb rfl
          have := run_endRound (P := P) jump hl3
          rw [hre2] at this
          exact ⟨this, .put (by omega) hl3 rfl _, World.putObj_heap_same (lt_of_some hl3), (World.putObj_heap_other (by omega)).trans hd3⟩
        rintro e a3 W3 hp
        cases e with
        | normal =>
          obtain ⟨q1, q2, q3⟩ := hp
          obtain ⟨f1, f2, f3, f4⟩ := fin none W3 q1
          exact ⟨_, _, f1, .inl ⟨rfl, ⟨hI _ _ _ q3 f2, f3, f4⟩, (hkb.trans q2).trans (.put (by omega) _)⟩⟩
        | ret =>
          obtain ⟨q1, q3⟩ := hp
          obtain ⟨f1, f2, f3, f4⟩ := fin (some .ret) W3 q1
          exact ⟨_, _, f1, .inr ⟨rfl, .ret, hIx _ _ _ _ q3 f2, f3, f4⟩⟩
        | exit id =>
          obtain ⟨q1, q3⟩ := hp
          obtain ⟨f1, f2, f3, f4⟩ := fin (some (.exit id)) W3 q1
          exact ⟨_, _, f1, .inr ⟨rfl, .exit id, hIx _ _ _ _ q3 f2, f3, f4⟩⟩
        | goto t => exact hp.elim
        | panic ch => exact hp.elim
        | outgrown => exact hp.elim
      | ret => exact hpa.elim
      | exit id => exact hpa.elim
      | goto t => exact hpa.elim
      | panic ch => exact hpa.elim
      | outgrown => exact hpa.elim
    · rintro e W2 ⟨⟨v, rfl⟩, (⟨xs, hS, hi, hl, hd⟩ | ⟨pre, hSp, c, hi, hl, hd⟩)⟩
      · refine ⟨none, _, by have := run_endLoop (P := P) hl (by rw [hst]; simp); rw [hpe] at this; exact this, ?_⟩
        exact hdone D xs _ (by omega) hS (hI _ _ _ hi (.put (by omega) hl rfl _)) ((World.putObj_heap_other (by omega)).trans hd)
      · refine ⟨some c, _, by have := run_endLoop (P := P) hl (by rw [hst]; simp); rw [hpe] at this; exact this, ?_⟩
        exact hstop D c pre _ (by omega) hSp (hIx _ _ _ _ hi (.put (by omega) hl rfl _)) ((World.putObj_heap_other (by omega)).trans hd)
end Go.Proofs.Ytcnmbllafdeokaa.H
