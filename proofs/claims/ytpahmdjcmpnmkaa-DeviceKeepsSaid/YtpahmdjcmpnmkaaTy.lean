/- A row's block has its type; a cut's block is the row's. -/
import Derived.Test.YtpahmdjcmpnmkaaLib
namespace Go.Proofs.Ytpahmdjcmpnmkaa.H
open Go.RowKit Go.Proofs.YtpahmdjcmpnmkaaW.PrintWords Go.Proofs.YtpahmdjcmpnmkaaW.PrintLast Go.Proofs.YtpahmdjcmpnmkaaW.PrintMore
set_option linter.unusedVariables false
set_option linter.unusedSimpArgs false

/-- The slice's block, if it has one, is a block of type t. -/
def Ty (t : TypeId) (W : World) (A : Option Addr) : Prop := ∀ ad, A = some ad → ∃ cs z, W.heap[ad.block]? = some (.cells cs t z)
theorem Ty.nil (t : TypeId) (W : World) : Ty t W none := fun _ h => by cases h
theorem Ty.below {t : TypeId} {W W' : World} {A : Option Addr} (h : Ty t W A) (hb : Below W.heap.size W W') : Ty t W' A := fun ad e => by
  obtain ⟨cs, z, hc⟩ := h ad e
  exact ⟨cs, z, (hb.block _ (Array.getElem?_eq_some_iff.1 hc).1).trans hc⟩
theorem Ty.of_R {α : Type} {d : Kd α} {t : Nat} {W : World} {base : Nat} {ok : Nat → Prop} {A : Option Addr} {n c : Nat} {xs : List α} (h : Kd.R d t W base ok (.slice A n c) xs) : Ty t W A := fun ad e => by
  subst e
  obtain ⟨inner, ho⟩ := Kd.R_own h
  rcases ho.2 with ⟨h1, _⟩ | ⟨g, cap, cur, h1, _, hh, _⟩
  · cases h1
  · injection h1 with h1 _ _
    injection h1 with h1
    subst h1
    exact ⟨cur, (0, 0), hh⟩
theorem slice_block {P : Program} {t e : TypeId} {A A' : Option Addr} {n c m k : Nat} {lo hi : Option Value} {W W' : World} (ht : P.underlying t = some (.slice e))
    (h : (Instr.slice t (.slice A n c) lo hi none).run P W = .ok (.slice A' m k) W') : ∀ a, A' = some a → ∃ b, A = some b ∧ a.block = b.block := by
  have he : P.underlying t = some (.slice (P.elem t)) := by simp [Program.elem, ht]
  rw [run_slice_any (w := W) (t := t) (a := A) (len := n) (cap := c) he] at h
  revert h
  cases (Instr.sliceBounds true n c lo hi none).run P W with
  | halt x w => intro h; cases h
  | ok b w =>
    simp only [Result.andThen]
    cases (sizeOf (P.elem t)).run P w with
    | halt x w => intro h; cases h
    | ok s w =>
      simp only [sliced]
      intro h
      injection h with h _
      injection h with h _ _
      intro a ha
      subst ha
      by_cases hc : b.2.2 = b.1
      · rw [if_pos hc] at h; exact ⟨a, h, rfl⟩
      · rw [if_neg hc] at h
        cases A with
        | none => cases h
        | some b' => simp at h; exact ⟨b', rfl, by rw [← h]; unfold Addr.add; split <;> rfl⟩
theorem Ty.slice {P : Program} {t e ty : TypeId} {A A' : Option Addr} {n c m k : Nat} {lo hi : Option Value} {W W' V : World} (ht : P.underlying t = some (.slice e)) (hT : Ty ty V A)
    (h : (Instr.slice t (.slice A n c) lo hi none).run P W = .ok (.slice A' m k) W') : Ty ty V A' := fun a ha => by
  obtain ⟨b, hb, hab⟩ := slice_block ht h a ha
  rw [hab]; exact hT b hb
theorem Ty.set3 {t t' : TypeId} {W : World} {A : Option Addr} {g : Nat} {cs : Array Value} {q : Nat × Nat} (h : Ty t W A) (hg : W.heap[g]? = some (.cells cs t' q)) (hne : t ≠ t') (x y z : Value) :
    Ty t (((W.setCell ⟨g, 0, none⟩ x).setCell ⟨g, 1, none⟩ y).setCell ⟨g, 2, none⟩ z).drew A := fun ad e => by
  obtain ⟨cs', z', hc⟩ := h ad e
  have hb : ad.block ≠ g := fun e' => by
    rw [e', hg] at hc
    injection hc with hc
    injection hc with _ hc _
    exact hne hc.symm
  exact ⟨cs', z', ((Below.heap_setCell ((W.setCell ⟨g, 0, none⟩ x).setCell ⟨g, 1, none⟩ y) ⟨g, 2, none⟩ z _ hb).trans ((Below.heap_setCell (W.setCell ⟨g, 0, none⟩ x) ⟨g, 1, none⟩ y _ hb).trans (Below.heap_setCell W ⟨g, 0, none⟩ x _ hb))).trans hc⟩
/-- Numbers in rows of type t are read on where no block of that type has turned. -/
theorem C_ty {W W' : World} {t : TypeId} {k : IntKind} {A : Option Addr} {n : Nat} {xs : List Int} (hT : Ty t W A) (hc : Kd.C (Kd.int k) W A n xs) (h : ∀ (i : Nat) (cs : Array Value) (z : Nat × Nat), W.heap[i]? = some (Obj.cells cs t z) → W'.heap[i]? = W.heap[i]?) : Kd.C (Kd.int k) W' A n xs :=
  ⟨hc.1, hc.2.1, fun hn => by
    obtain ⟨ad, e, hr⟩ := hc.2.2 hn
    obtain ⟨cs, z, hb⟩ := hT ad e
    refine ⟨ad, e, fun j p hj => ?_⟩
    obtain ⟨c, hs, hR, hcell⟩ := hr j p hj
    refine ⟨c, hs, hR, fun i u hu => ?_⟩
    have h1 := hcell i u hu
    have hblk : (ad.add (j * (Kd.int k).sz + i)).block = ad.block := by unfold Addr.add; split <;> rfl
    exact (World.cell?_of_block (by rw [hblk]; exact h _ _ _ hb)).trans h1⟩
theorem Ty.of_ty {W W' : World} {t : TypeId} {A : Option Addr} (hT : Ty t W A) (h : ∀ (i : Nat) (cs : Array Value) (z : Nat × Nat), W.heap[i]? = some (Obj.cells cs t z) → W'.heap[i]? = W.heap[i]?) : Ty t W' A := fun ad e => by
  obtain ⟨cs, z, hb⟩ := hT ad e
  exact ⟨cs, z, (h _ _ _ hb).trans hb⟩
end Go.Proofs.Ytpahmdjcmpnmkaa.H
