/- Plain mathematics of frames: what a frame's bytes are, and what is read. No program. -/
import Derived.Test.YtagjnjdaookdgaaSum2
import Derived.Test.YtagjnjdaookdgaaRef03
namespace Go.Proofs.Ytagjnjdaookdgaa.H
open Go.RowKit Go.Proofs.YtagjnjdaookdgaaW.PrintWords Go.Proofs.YtagjnjdaookdgaaW.PrintLast Go.Proofs.YtagjnjdaookdgaaW.PrintMore Go.Proofs.Ytagjnjdaookdgaa.CrcM
set_option linter.unusedVariables false

/-- The length that bytes begin with. -/
def lenF (b : List Int) : Int := rd b 0 + 256 * rd b 1
/-- The frame that bytes begin with: kind, body, how many bytes, the error's number. -/
def readF (b : List Int) : Int × List Int × Int × Int :=
  if b.length < 2 then (0, [], 0, 21)
  else if lenF b > 4096 then (0, [], 0, 2)
  else if (b.length : Int) < lenF b + 7 then (0, [], 0, 21)
  else if (openB (b.take (lenF b + 7).toNat)).2 = false then (0, [], 0, 22)
  else if rd (openB (b.take (lenF b + 7).toNat)).1 2 = 0 then (0, [], 0, 20)
  else (rd (openB (b.take (lenF b + 7).toNat)).1 2, (openB (b.take (lenF b + 7).toNat)).1.drop 3, lenF b + 7, 0)
/-- A frame's bytes. -/
def bytesF (kind : Int) (body : List Int) : List Int := [(body.length : Int) % 256, (body.length : Int) / 256 % 256, kind % 256] ++ body
def writeF (kind : Int) (body : List Int) : List Int × Int :=
  if kind < 1 ∨ kind > 255 then ([], 1) else if body.length > 4096 then ([], 2) else (bytesF kind body ++ le4 (ext 0#32 (bytesF kind body)), 0)
theorem lenF_range {b : List Int} (h : Bts b) (hl : 2 ≤ b.length) : 0 ≤ lenF b ∧ lenF b ≤ 65535 := by
  have h0 := bts_rd h 0 (by omega)
  have h1 := bts_rd h 1 (by omega)
  have e0 : rd b ((0 : Nat) : Int) = rd b 0 := rfl
  have e1 : rd b ((1 : Nat) : Int) = rd b 1 := rfl
  rw [e0] at h0; rw [e1] at h1
  unfold lenF; omega
theorem or_len (x y : Int) (hx : 0 ≤ x ∧ x < 256) (hy : 0 ≤ y ∧ y < 256) : bits .or .i64 x (y * 256) = x + 256 * y := by
  have e : bits .or .i64 x (y * 256) = bits .or .i64 (y * 256) x := by
    unfold bits
    simp only [BitVec.or_comm]
  have h := bits_join .i64 62 (by decide) (fun n h0 h1 => by rw [IntKind.wrap_i64]; omega) 8 (y * 256) x (by omega) (by omega) (by omega) (by omega) (by omega) (by omega)
  rw [e, h]; omega
theorem bts_le4 (r : BitVec 32) : Bts (le4 r) := by
  intro x hx
  have h := v32_lo r
  simp [le4] at hx
  rcases hx with rfl | rfl | rfl | rfl <;> omega
theorem bts_take {l : List Int} (h : Bts l) (n : Nat) : Bts (l.take n) := fun x hx => h x (List.mem_of_mem_take hx)
theorem bts_drop {l : List Int} (h : Bts l) (n : Nat) : Bts (l.drop n) := fun x hx => h x (List.mem_of_mem_drop hx)
theorem bts_append {a b : List Int} (ha : Bts a) (hb : Bts b) : Bts (a ++ b) := fun x hx => by
  rcases List.mem_append.1 hx with h | h
  · exact ha x h
  · exact hb x h
theorem openB_len {b : List Int} : (openB b).2 = true → (openB b).1 = b.take (b.length - 4) ∧ 4 ≤ b.length := by
  unfold openB
  split
  · intro h; cases h
  · split
    · intro _; exact ⟨rfl, by omega⟩
    · intro h; cases h
end Go.Proofs.Ytagjnjdaookdgaa.H
