/- The contracts of frames with the answer and the lengths under names; what abides but one box. -/
import Derived.Test.YtagjnjdaookdgaaEnd
namespace Go.Proofs.Ytagjnjdaookdgaa.H
open Go.RowKit Go.Proofs.YtagjnjdaookdgaaW.PrintWords Go.Proofs.YtagjnjdaookdgaaW.PrintLast Go.Proofs.YtagjnjdaookdgaaW.PrintMore Go.Proofs.Ytagjnjdaookdgaa.CrcM
set_option linter.unusedVariables false
set_option linter.unusedSimpArgs false

theorem Copy_eq (A : Option Addr) (c n : Nat) (l : List Int) (w : World) (hn : l.length = n) (hC : Kd.C (Kd.int .u8) w A n l) (hl : n ≤ 1000000) :
    Calls Try.prog 21 #[.slice A n c] w fun e w' => ∃ A1 c1, e = .returned (.slice A1 n c1) ∧ Kd.R (Kd.int .u8) 5 w' w.heap.size (fun _ => True) (.slice A1 n c1) l ∧ Below w.heap.size w w' := by
  subst hn
  refine (Copy_calls A c l w hC hl).mono ?_
  rintro e w' ⟨v, rfl, ho, hb⟩
  obtain ⟨A1, c1, rfl⟩ := Kd.R_slice ho
  exact ⟨A1, c1, rfl, ho, hb⟩
theorem Write_eq (kind : Int) (A : Option Addr) (c n m : Nat) (l r : List Int) (e : Int) (w : World) (hn : l.length = n) (hm : r.length = m) (hw : writeF kind l = (r, e)) (hC : Kd.C (Kd.int .u8) w A n l) (hc : n ≤ c) :
    Calls Try.prog 9 #[.agg #[.int .i64 kind, .slice A n c]] w fun e' w' => ∃ A1 c1, e' = .returned (.tuple #[.slice A1 m c1, .int .i64 e]) ∧ m ≤ c1 ∧ Kd.C (Kd.int .u8) w' A1 m r ∧ Below w.heap.size w w' := by
  subst hn; subst hm
  refine (Write_calls kind A c l w hC hc).mono ?_
  rintro e' w' ⟨v, rfl, ho, hb⟩
  rw [hw] at ho ⊢
  obtain ⟨A1, c1, rfl, hc1, hr1⟩ := R_C ho
  exact ⟨A1, c1, rfl, hc1, hr1, hb⟩
theorem Read_eq (A : Option Addr) (c n m : Nat) (l rb : List Int) (rk rn re : Int) (w : World) (hn : l.length = n) (hm : rb.length = m) (hr : readF l = (rk, rb, rn, re)) (hC : Kd.C (Kd.int .u8) w A n l) (hc : n ≤ c) (hB : Bts l) (hl : n ≤ 1000000) :
    Calls Try.prog 14 #[.slice A n c] w fun e' w' => ∃ A1 c1, e' = .returned (.tuple #[.agg #[.int .i64 rk, .slice A1 m c1], .int .i64 rn, .int .i64 re]) ∧ m ≤ c1 ∧ Kd.C (Kd.int .u8) w' A1 m rb ∧ Below w.heap.size w w' := by
  subst hn; subst hm
  refine (Read_calls A c l w hC hc hB hl).mono ?_
  rintro e' w' ⟨v, rfl, ho, hb⟩
  rw [hr] at ho ⊢
  obtain ⟨A1, c1, rfl, hc1, hr1⟩ := R_C ho
  exact ⟨A1, c1, rfl, hc1, hr1, hb⟩
theorem End_eq (A : Option Addr) (c n : Nat) (l : List Int) (e er : Int) (w : World) (hn : l.length = n) (he : (endF l : Int) = e) (her : endErr l = er) (hC : Kd.C (Kd.int .u8) w A n l) (hc : n ≤ c) (hB : Bts l) (hl : n ≤ 1000000) :
    Calls Try.prog 17 #[.slice A n c] w fun e' w' => e' = .returned (.tuple #[.int .i64 e, .int .i64 er]) ∧ Below w.heap.size w w' := by
  subst hn; subst he; subst her
  exact End_calls l hB hl A c hc w hC
theorem Weight_eq (n r : Int) (w : World) (h : n ≤ 4611686018427387904) (hr : weightF n = r) : Calls Try.prog 12 #[.int .i64 n] w fun e w' => e = .returned (.int .i64 r) ∧ w = w' := by
  subst hr; exact Weight_calls n w h

/-- All that lay, but for the block g, lies as it lay. -/
structure Oth (g : Nat) (W W' : World) : Prop where
  os : W'.os = W.os
  tape : W'.tape = W.tape
  output : W'.output = W.output
  size : W.heap.size ≤ W'.heap.size
  block : ∀ k, k < W.heap.size → k ≠ g → W'.heap[k]? = W.heap[k]?
theorem Oth.refl (g : Nat) (W : World) : Oth g W W := ⟨rfl, rfl, rfl, Nat.le_refl _, fun _ _ _ => rfl⟩
theorem Oth.trans {g : Nat} {X Y Z : World} (h : Oth g X Y) (k : Oth g Y Z) : Oth g X Z := ⟨k.os.trans h.os, k.tape.trans h.tape, k.output.trans h.output, Nat.le_trans h.size k.size, fun i hi hg => (k.block i (Nat.lt_of_lt_of_le hi h.size) hg).trans (h.block i hi hg)⟩
theorem Oth.of_below {g : Nat} {W W' : World} (h : Below W.heap.size W W') : Oth g W W' := ⟨h.os, h.tape, h.output, h.size, fun k hk _ => h.block k hk⟩
theorem Oth.set (W : World) (p : Addr) (v : Value) : Oth p.block W (W.setCell p v) :=
  ⟨rfl, rfl, rfl, by show W.heap.size ≤ (W.heap.modify _ _).size; rw [Array.size_modify]; exact Nat.le_refl _, fun k _ hk => Below.heap_setCell W p v k hk⟩
theorem Oth.lies {B g : Nat} {w W W' : World} (h : Oth g w W) (hl : Lies B W W') (hB : w.heap.size ≤ B) : Oth g w W' :=
  ⟨hl.os.trans h.os, hl.tape.trans h.tape, hl.output.trans h.output, Nat.le_trans h.size hl.size, fun k hk hg => by
    have h1 := h.block k hk hg
    obtain ⟨o, ho⟩ : ∃ o, w.heap[k]? = some o := ⟨_, Array.getElem?_eq_getElem hk⟩
    rw [ho] at h1 ⊢
    exact hl.same _ _ h1 (.inl (by omega))⟩
theorem Oth.below {g : Nat} {w W W' : World} (h : Oth g W W') (hb : Below w.heap.size w W) (hg : w.heap.size ≤ g) : Below w.heap.size w W' :=
  ⟨h.os.trans hb.os, h.tape.trans hb.tape, h.output.trans hb.output, Nat.le_trans hb.size h.size, fun k hk => (h.block k (Nat.lt_of_lt_of_le hk hb.size) (by omega)).trans (hb.block k hk)⟩
theorem Oth.blk {g : Nat} {W W' : World} (h : Oth g W W') {k : Nat} {o : Obj} (hb : W.heap[k]? = some o) (hk : k ≠ g) : W'.heap[k]? = some o := (h.block k (lt_of_some hb) hk).trans hb
theorem C_but {g : Nat} {W W' : World} (h : ∀ k, k < W.heap.size → k ≠ g → W'.heap[k]? = W.heap[k]?) {k : IntKind} {A : Option Addr} {n : Nat} {xs : List Int} {cs : Array Value} {t : Nat} {z : Nat × Nat} (hg : W.heap[g]? = some (.cells cs t z)) (hcs : ∀ v ∈ cs.toList, ∀ i, v ≠ .int k i)
    (hc : Kd.C (Kd.int k) W A n xs) : Kd.C (Kd.int k) W' A n xs :=
  ⟨hc.1, hc.2.1, fun hn => by
    obtain ⟨ad, e, hr⟩ := hc.2.2 hn
    refine ⟨ad, e, fun j p hj => ?_⟩
    obtain ⟨c, hs, hR, hcell⟩ := hr j p hj
    refine ⟨c, hs, hR, fun i u hu => ?_⟩
    have h1 := hcell i u hu
    by_cases hb : (ad.add (j * (Kd.int k).sz + i)).block = g
    · exfalso
      have hu2 : u = .int k p := by
        have hRc : c = [.int k p] := hR
        subst hRc
        have : i < 1 := by have := (List.getElem?_eq_some_iff.1 hu).1; simpa using this
        obtain rfl : i = 0 := by omega
        simpa using hu.symm
      subst hu2
      unfold World.cell? at h1
      rw [hb, hg] at h1
      simp only [Option.bind_some] at h1
      revert h1
      split
      · intro h1; cases h1
      · intro h1
        exact hcs _ (Array.mem_toList_iff.2 (Array.mem_of_getElem? h1)) p rfl
    · exact (World.cell?_of_block (h _ (World.block_lt_of_cell? _ _ h1) hb)).trans h1⟩
theorem Oth.C {g : Nat} {W W' : World} (h : Oth g W W') {k : IntKind} {A : Option Addr} {n : Nat} {xs : List Int} {cs : Array Value} {t : Nat} {z : Nat × Nat} (hg : W.heap[g]? = some (.cells cs t z)) (hcs : ∀ v ∈ cs.toList, ∀ i, v ≠ .int k i)
    (hc : Kd.C (Kd.int k) W A n xs) : Kd.C (Kd.int k) W' A n xs := C_but h.block hg hcs hc
end Go.Proofs.Ytagjnjdaookdgaa.H
