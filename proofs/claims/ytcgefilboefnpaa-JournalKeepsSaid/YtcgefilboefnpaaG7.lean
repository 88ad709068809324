/- Some texts of one seat in one file, in build order. -/
import Derived.Test.YtcgefilboefnpaaG6
import Derived.Test.YtcgefilboefnpaaG1
import Derived.Test.YtcgefilboefnpaaG5
import Derived.OwnWalkIn
import Derived.Maps.AppendAt
/- Plain mathematics of frames one behind the other. No program. -/
namespace Go.Proofs.Ytcgefilboefnpaa.H
open Go.RowKit Go.Proofs.YtcgefilboefnpaaW.PrintWords Go.Proofs.YtcgefilboefnpaaW.PrintLast Go.Proofs.YtcgefilboefnpaaW.PrintMore Go.Proofs.Ytcgefilboefnpaa.CrcM
set_option linter.unusedVariables false
set_option linter.unusedSimpArgs false

/-- A frame that is scanned: where, kind, body. -/
abbrev Fr := Int × Int × List Int
def scanL (b : List Int) : Nat → Nat → List Fr
  | 0, _ => []
  | k + 1, at_ => if (readF (b.drop at_)).2.2.2 = 0 then ((at_ : Int), (readF (b.drop at_)).1, (readF (b.drop at_)).2.1) :: scanL b k (at_ + (readF (b.drop at_)).2.2.1.toNat) else []
/-- Where the last frame ends. -/
def endL (b : List Int) : Nat → Nat → Nat
  | 0, at_ => at_
  | k + 1, at_ => if (readF (b.drop at_)).2.2.2 = 0 then endL b k (at_ + (readF (b.drop at_)).2.2.1.toNat) else at_
theorem readF_ok {b : List Int} (hB : Bts b) (h : (readF b).2.2.2 = 0) : (readF b).2.2.1 = (readF b).2.1.length + 7 ∧ (readF b).2.1.length + 7 ≤ b.length ∧ (readF b).2.1.length ≤ 4096 ∧ Bts (readF b).2.1 ∧ 0 < (readF b).1 ∧ (readF b).1 < 256 := by
  revert h
  unfold readF
  by_cases h1 : b.length < 2
  · rw [if_pos h1]; intro h; cases h
  rw [if_neg h1]
  by_cases h2 : lenF b > 4096
  · rw [if_pos h2]; intro h; cases h
  rw [if_neg h2]
  by_cases h3 : (b.length : Int) < lenF b + 7
  · rw [if_pos h3]; intro h; cases h
  rw [if_neg h3]
  have hr := lenF_range hB (by omega)
  generalize hn : lenF b = n at *
  have hbb : Bts (b.take (n + 7).toNat) := bts_take hB _
  have hlx : (b.take (n + 7).toNat).length = (n + 7).toNat := by rw [List.length_take]; omega
  generalize b.take (n + 7).toNat = t at *
  have ho := openB_len (b := t)
  generalize openB t = o at *
  obtain ⟨o1, o2⟩ := o
  by_cases h4 : o2 = false
  · rw [if_pos h4]; intro h; cases h
  rw [if_neg h4]
  obtain ⟨e1, e2⟩ := ho (by cases o2 <;> simp_all)
  simp only at e1
  have hbo : Bts o1 := by rw [e1]; exact bts_take hbb _
  have hol : o1.length = (n + 3).toNat := by rw [e1, List.length_take]; omega
  by_cases h5 : rd o1 2 = 0
  · simp only [h5, if_true]; intro h; cases h
  rw [if_neg h5]
  intro _
  have h6 := bts_rd hbo 2 (by omega)
  have e6 : rd o1 ((2 : Nat) : Int) = rd o1 2 := rfl
  rw [e6] at h6
  simp only [List.length_drop]
  refine ⟨by omega, by omega, by omega, bts_drop hbo _, by omega, by omega⟩
theorem readF_err {b : List Int} : 0 ≤ (readF b).2.2.2 ∧ (readF b).2.2.2 < 256 := by
  unfold readF
  split
  · exact ⟨by decide, by decide⟩
  · split
    · exact ⟨by decide, by decide⟩
    · split
      · exact ⟨by decide, by decide⟩
      · split
        · exact ⟨by decide, by decide⟩
        · split
          · exact ⟨by decide, by decide⟩
          · exact ⟨(by decide : (0 : Int) ≤ 0), (by decide : (0 : Int) < 256)⟩
theorem readF_nil : readF [] = (0, [], 0, 21) := rfl
theorem endL_le (b : List Int) (hB : Bts b) : ∀ (k at_ : Nat), at_ ≤ b.length → endL b k at_ ≤ b.length := by
  intro k
  induction k with
  | zero => intro at_ h; exact h
  | succ k ih =>
    intro at_ h
    unfold endL
    split
    · rename_i h0
      obtain ⟨e1, e2, _⟩ := readF_ok (bts_drop hB at_) h0
      rw [List.length_drop] at e2
      exact ih _ (by omega)
    · exact h
theorem endL_err (b : List Int) (hB : Bts b) : ∀ (k at_ : Nat), at_ ≤ b.length → b.length + 1 ≤ k + at_ → (readF (b.drop (endL b k at_))).2.2.2 ≠ 0 := by
  intro k
  induction k with
  | zero => intro at_ h h2; omega
  | succ k ih =>
    intro at_ h h2
    unfold endL
    split
    · rename_i h0
      obtain ⟨e1, e2, _⟩ := readF_ok (bts_drop hB at_) h0
      rw [List.length_drop] at e2
      exact ih _ (by omega) (by omega)
    · assumption
/-- What a scanned frame is. -/
theorem scanL_mem (b : List Int) (hB : Bts b) : ∀ (k at_ : Nat) (x : Fr), x ∈ scanL b k at_ → at_ ≤ b.length → 0 ≤ x.1 ∧ x.1 ≤ b.length ∧ 0 < x.2.1 ∧ x.2.1 < 256 ∧ x.2.2.length ≤ 4096 ∧ Bts x.2.2 := by
  intro k
  induction k with
  | zero => intro at_ x h; cases h
  | succ k ih =>
    intro at_ x h hl
    unfold scanL at h
    split at h
    · rename_i h0
      obtain ⟨e1, e2, e3, e4, e5, e6⟩ := readF_ok (bts_drop hB at_) h0
      rw [List.length_drop] at e2
      rcases List.mem_cons.1 h with rfl | h
      · exact ⟨by simp, by simp; omega, e5, e6, e3, e4⟩
      · exact ih _ _ h (by omega)
    · cases h
/-- The end by the last of the frames. -/
theorem endL_fold (b : List Int) (hB : Bts b) : ∀ (k at_ : Nat), at_ ≤ b.length → (scanL b k at_).foldl (fun (_ : Int) x => x.1 + ((x.2.2.length : Int) + 7)) (at_ : Int) = endL b k at_ := by
  intro k
  induction k with
  | zero => intro at_ h; rfl
  | succ k ih =>
    intro at_ h
    unfold scanL endL
    split
    · rename_i h0
      obtain ⟨e1, e2, _⟩ := readF_ok (bts_drop hB at_) h0
      rw [List.length_drop] at e2
      rw [List.foldl_cons, ← ih _ (by omega)]
      congr 1
      simp only
      omega
    · rfl
theorem scanL_len (b : List Int) (hB : Bts b) : ∀ (k at_ : Nat), at_ ≤ b.length → (scanL b k at_).length * 7 ≤ b.length - at_ := by
  intro k
  induction k with
  | zero => intro at_ h; simp [scanL]
  | succ k ih =>
    intro at_ h
    unfold scanL
    split
    · rename_i h0
      obtain ⟨e1, e2, _⟩ := readF_ok (bts_drop hB at_) h0
      rw [List.length_drop] at e2
      have := ih (at_ + (readF (b.drop at_)).2.2.1.toNat) (by omega)
      rw [List.length_cons]
      omega
    · simp
def scanF (b : List Int) : List Fr := scanL b (b.length + 1) 0
def endF (b : List Int) : Nat := endL b (b.length + 1) 0
def endErr (b : List Int) : Int := if endF b = b.length then 0 else (readF (b.drop (endF b))).2.2.2
end Go.Proofs.Ytcgefilboefnpaa.H
/- Plain law: what is written is read as it. No program. -/
namespace Go.Proofs.Ytcgefilboefnpaa.H
open Go.RowKit Go.Proofs.YtcgefilboefnpaaW.PrintWords Go.Proofs.YtcgefilboefnpaaW.PrintLast Go.Proofs.YtcgefilboefnpaaW.PrintMore Go.Proofs.Ytcgefilboefnpaa.CrcM
set_option linter.unusedVariables false
set_option linter.unusedSimpArgs false

theorem and_mask (a : Int) (m : Nat) (hm : m < 9223372036854775808) : 0 ≤ bits .and .i64 a (m : Int) ∧ bits .and .i64 a (m : Int) ≤ m := by
  have e : bits .and .i64 a (m : Int) = IntKind.i64.wrap (((BitVec.ofInt 64 a) &&& (BitVec.ofInt 64 (m : Int))).toNat : Int) := rfl
  have hle : ((BitVec.ofInt 64 a) &&& (BitVec.ofInt 64 (m : Int))).toNat ≤ m := by
    rw [BitVec.ofInt_natCast, BitVec.toNat_and, BitVec.toNat_ofNat, Nat.mod_eq_of_lt (by omega : m < 2 ^ 64)]
    exact Nat.and_le_right
  rw [e, IntKind.wrap_i64]
  generalize ((BitVec.ofInt 64 a) &&& (BitVec.ofInt 64 (m : Int))).toNat = z at hle ⊢
  omega
theorem open_seal (l : List Int) : openB (l ++ le4 (ext 0#32 l)) = (l, true) := by
  have h4 : (l ++ le4 (ext 0#32 l)).length = l.length + 4 := by simp [le4]
  unfold openB
  rw [h4, if_neg (by omega), Nat.add_sub_cancel, List.take_left' rfl, if_pos rfl]
theorem writeF_ok {kind : Int} {l r : List Int} (h : writeF kind l = (r, 0)) : 1 ≤ kind ∧ kind ≤ 255 ∧ l.length ≤ 4096 ∧ r = bytesF kind l ++ le4 (ext 0#32 (bytesF kind l)) ∧ r.length = l.length + 7 := by
  revert h
  unfold writeF
  by_cases h1 : kind < 1 ∨ kind > 255
  · rw [if_pos h1]; intro h; simp at h
  rw [if_neg h1]
  by_cases h2 : l.length > 4096
  · rw [if_pos h2]; intro h; simp at h
  rw [if_neg h2]
  intro h
  injection h with h _
  refine ⟨by omega, by omega, by omega, h.symm, ?_⟩
  rw [← h]; simp [le4, bytesF]
theorem writeF_err {kind : Int} {l r : List Int} {e : Int} (h : writeF kind l = (r, e)) : e = 0 ∨ (r = [] ∧ (e = 1 ∨ e = 2)) := by
  revert h
  unfold writeF
  split
  · intro h; injection h with h1 h2; exact .inr ⟨h1.symm, .inl h2.symm⟩
  · split
    · intro h; injection h with h1 h2; exact .inr ⟨h1.symm, .inr h2.symm⟩
    · intro h; injection h with h1 h2; exact .inl h2.symm
theorem bts_bytesF {kind : Int} {l : List Int} (hB : Bts l) : Bts (bytesF kind l) := by
  unfold bytesF
  refine bts_append ?_ hB
  intro x hx
  simp at hx
  rcases hx with rfl | rfl | rfl <;> omega
theorem bts_writeF {kind : Int} {l r : List Int} (hB : Bts l) (h : writeF kind l = (r, 0)) : Bts r := by
  obtain ⟨_, _, _, rfl, _⟩ := writeF_ok h
  exact bts_append (bts_bytesF hB) (bts_le4 _)
theorem len_writeF {kind : Int} {l r more : List Int} (h : writeF kind l = (r, 0)) : lenF (r ++ more) = l.length := by
  obtain ⟨h1, h2, h3, rfl, _⟩ := writeF_ok h
  unfold lenF rd bytesF
  simp
  omega
theorem back {kind : Int} {l r more : List Int} (h : writeF kind l = (r, 0)) : readF (r ++ more) = (kind, l, (l.length : Int) + 7, 0) := by
  have hl := len_writeF (more := more) h
  obtain ⟨h1, h2, h3, hr, h5⟩ := writeF_ok h
  have hlen : (r ++ more).length = l.length + 7 + more.length := by rw [List.length_append, h5]
  unfold readF
  rw [hl, if_neg (by omega), if_neg (by omega), if_neg (by omega), show ((l.length : Int) + 7).toNat = r.length by omega, List.take_left' rfl, hr, open_seal]
  rw [if_neg (by simp)]
  have e2 : rd (bytesF kind l) 2 = kind := by unfold rd bytesF; simp; omega
  have e3 : (bytesF kind l).drop 3 = l := by unfold bytesF; simp
  simp only [e2, e3]
  rw [if_neg (by omega)]
theorem back_cut {kind : Int} {l r : List Int} (h : writeF kind l = (r, 0)) (m : Nat) (hm : m < r.length) : readF (r.take m) = (0, [], 0, 21) := by
  have hl := len_writeF (more := []) h
  obtain ⟨h1, h2, h3, hr, h5⟩ := writeF_ok h
  have hlen : (r.take m).length = m := by rw [List.length_take]; omega
  unfold readF
  by_cases hm2 : m < 2
  · rw [if_pos (by omega)]
  rw [if_neg (by omega)]
  have e : lenF (r.take m) = l.length := by
    rw [← hl, List.append_nil]
    unfold lenF rd
    simp [List.getD_eq_getElem?_getD, List.getElem?_take, show 0 < m by omega, show 1 < m by omega]
  rw [e, if_neg (by omega), if_pos (by omega)]
end Go.Proofs.Ytcgefilboefnpaa.H
/- Plain law: frames one behind the other, and a beginning of another, are scanned as they are; rows of frames as their cells have them. -/
namespace Go.Proofs.Ytcgefilboefnpaa.H
open Go.RowKit Go.Proofs.YtcgefilboefnpaaW.PrintWords Go.Proofs.YtcgefilboefnpaaW.PrintLast Go.Proofs.YtcgefilboefnpaaW.PrintMore Go.Proofs.Ytcgefilboefnpaa.CrcM
set_option linter.unusedVariables false
set_option linter.unusedSimpArgs false

/-- A kind and a body. -/
abbrev Fb := Int × List Int
def okW (x : Fb) : Bool := (writeF x.1 x.2).2 == 0
def flatF (ks : List Fb) : List Int := ks.flatMap fun x => (writeF x.1 x.2).1
def posF : List Fb → Nat → List Fr
  | [], _ => []
  | x :: r, at_ => ((at_ : Int), x.1, x.2) :: posF r (at_ + (x.2.length + 7))
theorem okW_eq {x : Fb} (h : okW x = true) : writeF x.1 x.2 = ((writeF x.1 x.2).1, 0) := by
  unfold okW at h
  rw [beq_iff_eq] at h
  rw [← h]
theorem posF_len (ks : List Fb) : ∀ at_, (posF ks at_).length = ks.length := by
  induction ks with
  | nil => intro _; rfl
  | cons x r ih => intro at_; simp [posF, ih]
theorem posF_get (ks : List Fb) : ∀ (at_ i : Nat) (y : Fr), (posF ks at_)[i]? = some y → ks[i]? = some y.2 := by
  induction ks with
  | nil => intro _ i y h; simp [posF] at h
  | cons x r ih =>
    intro at_ i y h
    cases i with
    | zero => simp [posF] at h ⊢; rw [← h]
    | succ i => simp [posF] at h ⊢; exact ih _ _ _ h
theorem drop_pre (p r : List Int) : (p ++ r).drop p.length = r := by simp
theorem scan_join (tail : List Int) (ht : (readF tail).2.2.2 = 21) (ks : List Fb) (hk : ∀ x ∈ ks, okW x = true) : ∀ (p : List Int) (k : Nat), (p ++ flatF ks ++ tail).length + 1 ≤ k + p.length →
    scanL (p ++ flatF ks ++ tail) k p.length = posF ks p.length ∧ endL (p ++ flatF ks ++ tail) k p.length = (p ++ flatF ks).length := by
  induction ks with
  | nil =>
    intro p k h
    obtain ⟨k, rfl⟩ : ∃ m, k = m + 1 := ⟨k - 1, by simp [flatF] at h; omega⟩
    have e : (p ++ flatF [] ++ tail).drop p.length = tail := by simp [flatF]
    unfold scanL endL
    rw [e, ht]
    simp [posF, flatF]
  | cons x r ih =>
    intro p k h
    have hx := okW_eq (hk x List.mem_cons_self)
    generalize (writeF x.1 x.2).1 = wx at hx
    obtain ⟨h1, h2, h3, _, h5⟩ := writeF_ok hx
    have ef : flatF (x :: r) = wx ++ flatF r := by simp [flatF, hx]
    obtain ⟨k, rfl⟩ : ∃ m, k = m + 1 := ⟨k - 1, by simp at h; omega⟩
    have e : (p ++ flatF (x :: r) ++ tail).drop p.length = wx ++ (flatF r ++ tail) := by rw [ef]; simp
    have hb := back (more := flatF r ++ tail) hx
    have e2 : p ++ flatF (x :: r) ++ tail = (p ++ wx) ++ flatF r ++ tail := by rw [ef]; simp
    have e3 : p ++ flatF (x :: r) = (p ++ wx) ++ flatF r := by rw [ef]; simp
    have e4 : p.length + ((x.2.length : Int) + 7).toNat = (p ++ wx).length := by rw [List.length_append, h5]; omega
    have i := ih (fun y hy => hk y (List.mem_cons_of_mem _ hy)) (p ++ wx) k (by rw [← e2, show (p ++ wx).length = p.length + (x.2.length + 7) by rw [List.length_append, h5]]; omega)
    unfold scanL endL
    rw [e, hb]
    simp only [if_true]
    rw [e4, e2, i.1, i.2, e3]
    refine ⟨?_, rfl⟩
    rw [posF, List.length_append, h5]
theorem scanF_join (tail : List Int) (ht : (readF tail).2.2.2 = 21) (ks : List Fb) (hk : ∀ x ∈ ks, okW x = true) : scanF (flatF ks ++ tail) = posF ks 0 ∧ endF (flatF ks ++ tail) = (flatF ks).length := by
  have := scan_join tail ht ks hk [] ((flatF ks ++ tail).length + 1) (by simp)
  simpa [scanF, endF] using this
theorem endErr_join (tail : List Int) (ht : (readF tail).2.2.2 = 21) (ks : List Fb) (hk : ∀ x ∈ ks, okW x = true) : endErr (flatF ks ++ tail) = if tail = [] then 0 else 21 := by
  have e := (scanF_join tail ht ks hk).2
  unfold endErr
  rw [e]
  cases tail with
  | nil => simp
  | cons a t => rw [if_neg (by simp), List.drop_left, ht, if_neg (by simp)]
theorem flatF_append (a b : List Fb) : flatF (a ++ b) = flatF a ++ flatF b := by simp [flatF]
theorem bts_flatF (ks : List Fb) (hB : ∀ x ∈ ks, Bts x.2) (hk : ∀ x ∈ ks, okW x = true) : Bts (flatF ks) := by
  intro z hz
  obtain ⟨x, hx, hm⟩ := List.mem_flatMap.1 hz
  exact bts_writeF (hB x hx) (okW_eq (hk x hx)) z hm
theorem len_flatF (ks : List Fb) (hk : ∀ x ∈ ks, okW x = true) (h : ∀ x ∈ ks, x.2.length ≤ 500) : (flatF ks).length ≤ 507 * ks.length := by
  induction ks with
  | nil => simp [flatF]
  | cons x r ih =>
    have hx := okW_eq (hk x List.mem_cons_self)
    obtain ⟨_, _, _, _, h5⟩ := writeF_ok hx
    have := h x List.mem_cons_self
    have i := ih (fun y hy => hk y (List.mem_cons_of_mem _ hy)) (fun y hy => h y (List.mem_cons_of_mem _ hy))
    have ef : flatF (x :: r) = (writeF x.1 x.2).1 ++ flatF r := by simp [flatF]
    rw [ef, List.length_append, List.length_cons]
    omega

/-- A frame as its cells have it: kind, the slice. -/
abbrev Rb := Int × Option Addr × Nat × Nat
def rbCells (x : Rb) : List Value := [.int .i64 x.1, .slice x.2.1 x.2.2.1 x.2.2.2]
def KRb : Kd Rb where
  sz := 2
  E := []
  K := fun _ x cs => cs = rbCells x
  M := fun _ _ _ x cs => cs = rbCells x
  K_len := fun h => by rw [h]; rfl
  K_one := fun h u hu => by
    rw [h] at hu
    simp [rbCells] at hu
    rcases hu with rfl | rfl <;> rfl
  K_below := fun _ h => h
  K_of_M := fun h => h
  M_mono := fun _ h => h
  M_bound := fun h => h
  M_move := fun _ h => h
  M_lower := fun _ h => h
/-- The frame that cells tell, in a world. -/
def RbOf (W : World) (o : Rb) (x : Fb) : Prop := o.1 = x.1 ∧ o.2.2.1 = x.2.length ∧ x.2.length ≤ o.2.2.2 ∧ Kd.C (Kd.int .u8) W o.2.1 x.2.length x.2
theorem RbOf.below {W W' : World} {o : Rb} {x : Fb} (h : RbOf W o x) (hb : Below W.heap.size W W') : RbOf W' o x := ⟨h.1, h.2.1, h.2.2.1, Kd.C_below h.2.2.2 hb⟩
theorem pairs_of {α β : Type} (Q : β → α → Prop) : ∀ (l : List α), (∀ x ∈ l, ∃ o, Q o x) → ∃ ps : List (β × α), ps.map (·.2) = l ∧ ∀ p ∈ ps, Q p.1 p.2
  | [], _ => ⟨[], rfl, fun _ h => by cases h⟩
  | x :: r, h => by
    obtain ⟨o, ho⟩ := h x List.mem_cons_self
    obtain ⟨ps, h1, h2⟩ := pairs_of Q r (fun y hy => h y (List.mem_cons_of_mem _ hy))
    refine ⟨(o, x) :: ps, by simp [h1], fun p hp => ?_⟩
    rcases List.mem_cons.1 hp with rfl | hp
    · exact ho
    · exact h2 p hp
theorem pairs_at {α β : Type} (Q : Nat → β → α → Prop) (l : List α) (h : ∀ (i : Nat) (x : α), l[i]? = some x → ∃ o, Q i o x) : ∃ ps : List (β × α), ps.map (·.2) = l ∧ ∀ (i : Nat) (p : β × α), ps[i]? = some p → Q i p.1 p.2 := by
  induction l generalizing Q with
  | nil => exact ⟨[], rfl, fun i p hp => by simp at hp⟩
  | cons x r ih =>
    obtain ⟨o, ho⟩ := h 0 x rfl
    obtain ⟨ps, h1, h2⟩ := ih (fun i => Q (i + 1)) (fun i y hy => h (i + 1) y (by simpa using hy))
    refine ⟨(o, x) :: ps, by simp [h1], fun i p hp => ?_⟩
    cases i with
    | zero => simp at hp; subst hp; exact ho
    | succ i => simp at hp; exact h2 i p hp
/-- Rows of frames that are read, as their cells have them. -/
theorem rows_of {e : Nat} {W : World} {A : Option Addr} {n : Nat} {fs : List Fb} (h : Kd.C (Kd.pair (Kd.int .i64) (Kd.slice e (Kd.int .u8))) W A n fs) :
    ∃ ps : List (Rb × Fb), ps.map (·.2) = fs ∧ Kd.C KRb W A n (ps.map (·.1)) ∧ ∀ p ∈ ps, RbOf W p.1 p.2 := by
  obtain ⟨h1, h2, h3⟩ := h
  by_cases hn : 0 < n
  · obtain ⟨ad, rfl, hr⟩ := h3 hn
    obtain ⟨ps, e1, e2⟩ := pairs_at (fun i (o : Rb) x => RbOf W o x ∧ ∀ j u, (rbCells o)[j]? = some u → W.cell? (ad.add (i * 2 + j)) = some u) fs (fun i x hx => by
      obtain ⟨c, _, hK, hc⟩ := hr i x hx
      obtain ⟨c0, c1, rfl, hk0, A1, cp, rfl, hl, hC⟩ := hK
      have hk0' : c0 = [.int .i64 x.1] := hk0
      subst hk0'
      exact ⟨(x.1, A1, x.2.length, cp), ⟨rfl, rfl, hl, hC⟩, fun j u hu => hc j u hu⟩)
    have hlen : (ps.map (·.1)).length = fs.length := by rw [← e1]; simp
    refine ⟨ps, e1, ⟨by rw [hlen]; exact h1, h2, fun _ => ⟨ad, rfl, fun j p hj => ?_⟩⟩, fun p hp => ?_⟩
    · rw [List.getElem?_map] at hj
      cases hq : ps[j]? with
      | none => rw [hq] at hj; cases hj
      | some q =>
        rw [hq] at hj
        injection hj with hj
        subst hj
        exact ⟨_, rfl, rfl, (e2 j q hq).2⟩
    · obtain ⟨i, hi, rfl⟩ := List.mem_iff_getElem.1 hp
      exact (e2 i _ (List.getElem?_eq_getElem hi)).1
  · have : fs = [] := by
      cases fs with
      | nil => rfl
      | cons a t => simp at h1; omega
    subst this
    exact ⟨[], rfl, ⟨h1, h2, fun h => absurd h hn⟩, fun _ h => by cases h⟩
theorem KRb_ty {W W' : World} {t : TypeId} {A : Option Addr} {n : Nat} {xs : List Rb} (hT : Ty t W A) (hc : Kd.C KRb W A n xs) (h : ∀ (i : Nat) (cs : Array Value) (z : Nat × Nat), W.heap[i]? = some (Obj.cells cs t z) → W'.heap[i]? = W.heap[i]?) : Kd.C KRb W' A n xs :=
  ⟨hc.1, hc.2.1, fun hn => by
    obtain ⟨ad, e, hr⟩ := hc.2.2 hn
    obtain ⟨cs, z, hb⟩ := hT ad e
    refine ⟨ad, e, fun j p hj => ?_⟩
    obtain ⟨c, hs, hR, hcell⟩ := hr j p hj
    refine ⟨c, hs, hR, fun i u hu => ?_⟩
    have h1 := hcell i u hu
    have hblk : (ad.add (j * KRb.sz + i)).block = ad.block := by unfold Addr.add; split <;> rfl
    exact (World.cell?_of_block (by rw [hblk]; exact h _ _ _ hb)).trans h1⟩
/-- A row's element, cell by cell, as the walk writes the cells. -/
theorem KRb_at {W : World} {A : Option Addr} {n : Nat} {os : List Rb} (h : Kd.C KRb W A n os) {i : Nat} {o : Rb} (ho : os[i]? = some o) : ∃ ad, A = some ad ∧ W.cell? (ad.add (i * 2)) = some (.int .i64 o.1) ∧ W.cell? ⟨(ad.add (i * 2)).block, (ad.add (i * 2)).off + 1, none⟩ = some (.slice o.2.1 o.2.2.1 o.2.2.2) := by
  have hi := (List.getElem?_eq_some_iff.1 ho).1
  obtain ⟨h1, _, h3⟩ := h
  obtain ⟨ad, rfl, hr⟩ := h3 (by omega)
  obtain ⟨c, _, hK, hc⟩ := hr i o ho
  have hK' : c = rbCells o := hK
  subst hK'
  have c0 := hc 0 _ rfl
  have c1 := hc 1 _ rfl
  replace c0 : W.cell? (ad.add (i * 2 + 0)) = some (.int .i64 o.1) := c0
  replace c1 : W.cell? (ad.add (i * 2 + 1)) = some (.slice o.2.1 o.2.2.1 o.2.2.2) := c1
  rw [Nat.add_zero] at c0
  rw [← addr_add_add] at c1
  exact ⟨ad, rfl, c0, c1⟩
end Go.Proofs.Ytcgefilboefnpaa.H
/- Worlds that differ in some blocks alone; rows under such worlds; rows of slices as their cells have them. -/
namespace Go.Proofs.Ytcgefilboefnpaa.H
open Go.RowKit Go.Proofs.YtcgefilboefnpaaW.PrintWords Go.Proofs.YtcgefilboefnpaaW.PrintLast Go.Proofs.YtcgefilboefnpaaW.PrintMore
set_option linter.unusedVariables false
set_option linter.unusedSimpArgs false

theorem Lies.R {α : Type} {d : Kd α} {e : Nat} {B base : Nat} {ok : Nat → Prop} {W W' : World} {v : Value} {xs : List α} (h : Lies B W W') (hr : d.R e W base ok v xs) : d.R e W' base ok v xs :=
  Kd.R_mono (Kd.R_move (Kd.R_bound hr) (fun k hk => by obtain ⟨_, _, _, q, _, cells, hc⟩ := hk; rw [hc]; exact h.blk hc)) (fun _ hk => hk.1)
theorem Lies.Ty {t : TypeId} {B : Nat} {W W' : World} {A : Option Addr} (h : Lies B W W') (ht : Ty t W A) : Ty t W' A := fun ad e => by
  obtain ⟨cs, z, hc⟩ := ht ad e
  exact ⟨cs, z, h.blk hc⟩
/-- W' is W but for the blocks of P, and new ones. -/
structure But (P : Nat → Prop) (W W' : World) : Prop where
  os : W'.os = W.os
  tape : W'.tape = W.tape
  output : W'.output = W.output
  size : W.heap.size ≤ W'.heap.size
  block : ∀ k, k < W.heap.size → ¬ P k → W'.heap[k]? = W.heap[k]?
theorem But.refl (P : Nat → Prop) (W : World) : But P W W := ⟨rfl, rfl, rfl, Nat.le_refl _, fun _ _ _ => rfl⟩
theorem But.trans {P : Nat → Prop} {X Y Z : World} (h : But P X Y) (k : But P Y Z) : But P X Z := ⟨k.os.trans h.os, k.tape.trans h.tape, k.output.trans h.output, Nat.le_trans h.size k.size, fun i hi hp => (k.block i (Nat.lt_of_lt_of_le hi h.size) hp).trans (h.block i hi hp)⟩
/-- The second step may turn what the first one made, too. -/
theorem But.then {P Q : Nat → Prop} {X Y Z : World} (h : But P X Y) (k : But Q Y Z) (hq : ∀ i, i < X.heap.size → Q i → P i) : But P X Z := ⟨k.os.trans h.os, k.tape.trans h.tape, k.output.trans h.output, Nat.le_trans h.size k.size, fun i hi hp => (k.block i (Nat.lt_of_lt_of_le hi h.size) (fun h2 => hp (hq i hi h2))).trans (h.block i hi hp)⟩
theorem But.mono {P Q : Nat → Prop} {W W' : World} (h : But P W W') (hq : ∀ k, k < W.heap.size → P k → Q k) : But Q W W' := ⟨h.os, h.tape, h.output, h.size, fun k hk hp => h.block k hk (fun h2 => hp (hq k hk h2))⟩
theorem But.of_below {P : Nat → Prop} {W W' : World} (h : Below W.heap.size W W') : But P W W' := ⟨h.os, h.tape, h.output, h.size, fun k hk _ => h.block k hk⟩
theorem But.of_oth {P : Nat → Prop} {g : Nat} {W W' : World} (h : Oth g W W') (hg : P g) : But P W W' := ⟨h.os, h.tape, h.output, h.size, fun k hk hp => h.block k hk (fun e => hp (e ▸ hg))⟩
theorem But.of_grown {P : Nat → Prop} {W W' : World} {r : Option Nat} (h : W.grownBy W' r) (hr : ∀ k, r = some k → P k) : But P W W' := ⟨h.os, h.tape, h.output, h.size, fun k hk hp => h.block k hk (fun e => hp (hr k e.symm))⟩
theorem But.below {P : Nat → Prop} {B : Nat} {w W W' : World} (h : But P W W') (hb : Below B w W) (hB : B ≤ W.heap.size) (hP : ∀ k, P k → B ≤ k) : Below B w W' :=
  ⟨h.os.trans hb.os, h.tape.trans hb.tape, h.output.trans hb.output, Nat.le_trans hb.size h.size, fun k hk => (h.block k (by omega) (fun hp => by have := hP k hp; omega)).trans (hb.block k hk)⟩
theorem But.blk {P : Nat → Prop} {W W' : World} (h : But P W W') {k : Nat} {o : Obj} (hb : W.heap[k]? = some o) (hp : ¬ P k) : W'.heap[k]? = some o := (h.block k (lt_of_some hb) hp).trans hb
theorem But.cell {P : Nat → Prop} {W W' : World} (h : But P W W') {a : Addr} {v : Value} (hc : W.cell? a = some v) (hp : ¬ P a.block) : W'.cell? a = some v :=
  (World.cell?_of_block (h.block _ (World.block_lt_of_cell? W a hc) hp)).trans hc
theorem But.C {P : Nat → Prop} {W W' : World} {t : TypeId} {k : IntKind} {A : Option Addr} {n : Nat} {xs : List Int} (h : But P W W') (hT : Ty t W A) (hc : Kd.C (Kd.int k) W A n xs) (hp : ∀ i cs z, W.heap[i]? = some (Obj.cells cs t z) → ¬ P i) : Kd.C (Kd.int k) W' A n xs :=
  C_ty hT hc (fun i cs z hi => h.block i (lt_of_some hi) (hp i cs z hi))
theorem But.Ty {P : Nat → Prop} {W W' : World} {t : TypeId} {A : Option Addr} (h : But P W W') (hT : Ty t W A) (hp : ∀ i cs z, W.heap[i]? = some (Obj.cells cs t z) → ¬ P i) : Ty t W' A :=
  hT.of_ty (fun i cs z hi => h.block i (lt_of_some hi) (hp i cs z hi))
theorem But.Rd [Pl] {P : Nat → Prop} {W W' : World} {A : Option Addr} {l : List Int} (h : But P W W') (hr : Rd W A l) (hp : ∀ i cs z, W.heap[i]? = some (Obj.cells cs 5 z) → ¬ P i) : Rd W' A l :=
  ⟨h.C hr.2.1 hr.1 hp, h.Ty hr.2.1 hp, Nat.le_trans hr.2.2.1 h.size, hr.2.2.2⟩
theorem But.R {α : Type} {d : Kd α} {e : Nat} {P : Nat → Prop} {base : Nat} {ok : Nat → Prop} {W W' : World} {v : Value} {xs : List α} (h : But P W W') (hr : d.R e W base ok v xs) (hp : ∀ k, ok k → base ≤ k → (∃ q, q ∈ e :: d.E ∧ ∃ cells, W.heap[k]? = some (.cells cells q (0, 0))) → ¬ P k) : d.R e W' base ok v xs :=
  Kd.R_mono (Kd.R_move (Kd.R_bound hr) (fun k hk => h.block k hk.2.2.1 (hp k hk.1 hk.2.1 hk.2.2.2))) (fun _ hk => hk.1)
theorem But.DevAt [Pl] {P : Nat → Prop} {W W' : World} {g : Nat} {d : Dv} (h : But P W W') (hd : DevAt W g d) (hg : ¬ P g) (hp : ∀ i cs z, W.heap[i]? = some (Obj.cells cs 5 z) → ¬ P i) : DevAt W' g d := by
  obtain ⟨A0, c0, A1, c1, h1, h2, h3, h4, h5⟩ := hd
  exact ⟨A0, c0, A1, c1, h.blk h1 hg, h2, h3, h.Rd h4 hp, h.Rd h5 hp⟩
theorem ne_block' {w : World} {g : Nat} {cs cs' : Array Value} {t t' : TypeId} {z z' : Nat × Nat} {k : Nat} (h : w.heap[g]? = some (.cells cs t z)) (h' : w.heap[k]? = some (.cells cs' t' z')) (hne : t ≠ t') : g ≠ k := fun e => by
  subst e; rw [h] at h'; injection h' with h'; injection h' with _ h' _; exact hne h'
/-- A row of one's own of a kind whose cells tell all: its block alone counts. -/
theorem R_sharp {α : Type} {enc : α → Value} {h1 : ∀ x, (enc x).oneCell' = true} {e : Nat} {w : World} {base : Nat} {ok : Nat → Prop} {v : Value} {xs : List α} (h : (Kd.scalar enc h1).R e w base ok v xs) : (Kd.scalar enc h1).R e w base (fun k => v.ownBlock = some k) v xs := ⟨fun k hk => hk, h.2⟩
/-- A slice as a cell has it. -/
abbrev Sl := Option Addr × Nat × Nat
def KSl : Kd Sl := Kd.scalar (fun x => .slice x.1 x.2.1 x.2.2) (fun _ => rfl)
/-- The row that a cell tells. -/
def SlOf [Pl] (W : World) (o : Sl) (x : List Int) : Prop := o.2.1 = x.length ∧ x.length ≤ o.2.2 ∧ Rd W o.1 x
def SlsOf [Pl] (W : World) (os : List Sl) (xs : List (List Int)) : Prop := os.length = xs.length ∧ ∀ (i : Nat) (o : Sl) (x : List Int), os[i]? = some o → xs[i]? = some x → SlOf W o x
theorem SlsOf.imp [Pl] {W W' : World} {os : List Sl} {xs : List (List Int)} (h : SlsOf W os xs) (hr : ∀ A l, Rd W A l → Rd W' A l) : SlsOf W' os xs := ⟨h.1, fun i o x ho hx => by obtain ⟨h1, h2, h3⟩ := h.2 i o x ho hx; exact ⟨h1, h2, hr _ _ h3⟩⟩
theorem SlsOf.below [Pl] {W W' : World} {os : List Sl} {xs : List (List Int)} (h : SlsOf W os xs) (hb : Below W.heap.size W W') : SlsOf W' os xs := h.imp (fun A l hr => hr.below hb)
theorem SlsOf.snoc [Pl] {W : World} {os : List Sl} {xs : List (List Int)} {o : Sl} {x : List Int} (h : SlsOf W os xs) (h1 : SlOf W o x) : SlsOf W (os ++ [o]) (xs ++ [x]) := by
  refine ⟨by simp [h.1], fun i o' x' ho hx => ?_⟩
  by_cases hi : i < os.length
  · rw [List.getElem?_append_left hi] at ho
    rw [List.getElem?_append_left (by rw [← h.1]; exact hi)] at hx
    exact h.2 i o' x' ho hx
  · rw [List.getElem?_append_right (by omega)] at ho
    rw [List.getElem?_append_right (by rw [← h.1]; omega)] at hx
    rw [h.1] at ho
    have : i - xs.length = 0 := by
      cases hq : i - xs.length with
      | zero => rfl
      | succ q => rw [hq] at ho; simp at ho
    rw [this] at ho hx
    simp at ho hx
    subst ho; subst hx
    exact h1
theorem SlsOf.nil [Pl] (W : World) : SlsOf W [] [] := ⟨rfl, fun i o x ho => by simp at ho⟩
theorem Lies.Rd [Pl] {B : Nat} {W W' : World} {A : Option Addr} {l : List Int} (h : Lies B W W') (hr : Rd W A l) : Rd W' A l := ⟨h.C hr.1, h.Ty hr.2.1, Nat.le_trans hr.2.2.1 h.size, hr.2.2.2⟩
/-- A literal of one element. -/
theorem R_one {α : Type} {d : Kd α} {e base g : Nat} {W : World} {cs : List Value} {x : α} (hg : W.heap[g]? = some (.cells cs.toArray e (0, 0))) (hb : base ≤ g) (hM : ∀ ok, d.M W base ok x cs) : d.R e W base (fun _ => True) (.slice (some ⟨g, 0, none⟩) 1 1) [x] := by
  have hl : cs.length = d.sz := d.K_len (d.K_of_M (hM (fun _ => True)))
  refine ⟨fun _ _ => trivial, cs, ⟨by simp [hl], .inr ⟨g, 1, cs.toArray, rfl, hb, hg, Nat.le_refl _, by decide, by simp [hl], by simp [← hl]⟩⟩, ?_⟩
  exact Reps.snoc (Reps.none _ _) (hM _) hl
theorem Kp.of_grown {n₀ : Nat} {Kb : Nat → Prop} {A A' : World} {r : Option Nat} (h : A.grownBy A' r) (hr : ∀ k, r = some k → ¬ Kb k) (hn : n₀ ≤ A.heap.size) : Kp n₀ Kb A A' := ⟨h.size, fun k hk hb => h.block k (by omega) (fun e => hr k e.symm hb)⟩
/-- Rows of slices that are read, as the reading form has them. -/
theorem C_rows [Pl] {W : World} {base : Nat} {ok : Nat → Prop} {A : Option Addr} {n c : Nat} {os : List Sl} {xs : List (List Int)} (h : KSl.R 32 W base ok (.slice A n c) os) (hs : SlsOf W os xs) : Kd.C (Kd.slice 5 (Kd.int .u8)) W A n xs := by
  obtain ⟨h1, h2, h3⟩ := Kd.R_reads' h
  refine ⟨by rw [h1, hs.1], by rw [h1]; exact h3.2.1, fun hn => ?_⟩
  obtain ⟨ad, e, hr⟩ := h3.2.2 (by omega)
  refine ⟨ad, e, fun j x hj => ?_⟩
  have hjl : j < os.length := by rw [hs.1]; exact (List.getElem?_eq_some_iff.1 hj).1
  obtain ⟨o, ho⟩ : ∃ o, os[j]? = some o := ⟨_, List.getElem?_eq_getElem hjl⟩
  obtain ⟨c1, hl1, hK, hc1⟩ := hr j o ho
  obtain ⟨A1, n1, m1⟩ := o
  obtain ⟨q1, q2, q3⟩ := hs.2 j _ x ho hj
  simp only at q1 q2 q3
  subst q1
  exact ⟨c1, hl1, ⟨A1, m1, hK, q2, q3.1⟩, hc1⟩
end Go.Proofs.Ytcgefilboefnpaa.H
/- An append to a row of one's own inside a fence; what a step that writes a block of cells leaves of the loop's own blocks. -/
namespace Go.Proofs.Ytcgefilboefnpaa.H
open Go.RowKit Go.Proofs.YtcgefilboefnpaaW.PrintWords Go.Proofs.YtcgefilboefnpaaW.PrintLast Go.Proofs.YtcgefilboefnpaaW.PrintMore
set_option linter.unusedVariables false
set_option linter.unusedSimpArgs false

theorem RIn_append {F : Fence} {n : Nat} {P : Program} {α : Type} {ops : Array Oper} {rest : List Oper} {o : Oper} {a : Act} {Q : Exit → Act → World → Prop} (d : Kd α) {w0 W : World} (base : Nat) (hgd : o.guard = none) (s x : Operand) (t e : TypeId) (z : Value) (bytes : Nat)
    (ho : o.op = .call { callee := .builtin .append, args := #[s, x], argTypes := #[t, t] })
    (ht : P.underlying t = some (.slice e)) (hinfo : (P.info? e).map (fun i => (i.zero, i.size, i.bytes)) = some (some z, d.sz, bytes)) (hz : z.cells.size = d.sz) (hs0 : 0 < d.sz) (hb0 : 0 < bytes)
    (v : Value) (xs : List α) (p : α) (cs : List Value) (ok okp : Nat → Prop) (hs : a.eval s = v) (hx : a.eval x = .slice (some ⟨W.heap.size, 0, none⟩) 1 1) (hp : d.M W base okp p cs) (hokp : ∀ k, okp k → ok k ∧ some k ≠ v.ownBlock) (hfresh : ∀ k, W.heap.size ≤ k → ok k)
    (HO : d.R e W base ok v xs) (HB : Below base w0 W) (hbase : base ≤ W.heap.size) (hl : (xs.length + 1) * bytes ≤ 140737488355328)
    (h : ∀ v1 w1, d.R e w1 base ok v1 (xs ++ [p]) → Below base w0 w1 → W.grownBy w1 v.ownBlock → (v1.ownBlock = v.ownBlock ∨ ∃ b, v1.ownBlock = some b ∧ W.heap.size ≤ b) → wpListIn F n P ops Q rest (a.put o.dst v1) w1) :
    wpListIn F n P ops Q (o :: rest) a (W.alloc (.cells cs.toArray e)) := by
  obtain ⟨h0, inner, hown, hr⟩ := HO
  obtain ⟨i0, hi, hzz⟩ := Option.map_eq_some_iff.1 hinfo
  simp only [Prod.mk.injEq] at hzz
  obtain ⟨hz0, hz1, hz2⟩ := hzz
  have hlen : xs.length + 1 ≤ 140737488355328 := Nat.le_trans (Nat.le_mul_of_pos_right _ hb0) hl
  have hys : cs.length = d.sz := d.K_len (d.K_of_M hp)
  refine wpListIn_plain hgd fun K hK' => ?_
  obtain ⟨v1, w1, hrun, r1, r2, r3, r4⟩ := run_append_own_at (P := P) (W.alloc (.cells cs.toArray e)) base t o.type e i0 z d.sz bytes ht hi hz0 hz1 hz2 hz hs0 v xs.length inner (hown.alloc _) ⟨W.heap.size, 0, none⟩ 1 1 cs (by rw [hys]; simp)
    (by simpa using World.news_of_block (cs := cs.toArray) (t := e) (fr := (0, 0)) (heap_alloc_new W (.cells cs.toArray e))) (d.K_one (d.K_of_M hp)) (by simp only [maxLen]; omega) hl (by simp; omega)
  have hat : v1.ownBlock = v.ownBlock ∨ ∃ b, v1.ownBlock = some b ∧ W.heap.size ≤ b := by
    rcases r4 with r4 | r4
    · exact .inl r4
    · exact .inr ⟨_, r4, by simp⟩
  have hg1 : W.grownBy w1 v.ownBlock := World.grownBy.trans (World.grownBy_alloc W _ _) r2
  have hfin := h v1 w1 (Kd.R_appended h0 hr hp hokp hfresh r1 hg1 hat) ((HB.alloc hbase _).grown r2 (by simp; omega) (own_base hown)) hg1 hat
  unfold Oper.wpIn
  refine ⟨?_, ?_⟩
  · simp [Oper.about, ho, resolve, Target.leads, Sem.run_pure]
  · rw [Oper.semAt_plain F _ _ (by rw [ho]; intro c hc'; cases hc')]
    simp [execOp, ho, resolve, invoke, builtin, hs, hx, hrun, Result.andThen]
    exact hK' _ _ hfin
theorem wpListIn_store_agg {F : Fence} {n : Nat} {P : Program} {ops : Array Oper} {rest : List Oper} {o : Oper} {a : Act} {Q : Exit → Act → World → Prop} {W : World} (hN : o.dst = none) (hgd : o.guard = none) (t : TypeId) (p x : Operand) (ho : o.op = .store t p x) (g : Nat) (e : TypeId) (cur V : Array Value)
    (hp : a.eval p = .pointer (some ⟨g, 0, none⟩)) (hx : a.eval x = .agg V) (hh : W.heap[g]? = some (.cells cur e (0, 0))) (ht : (P.info? t).map (·.size) = some V.size) (hs : cur.size = V.size)
    (h1 : ∀ q ∈ V.toList, q.oneCell' = true)
    (h : ∀ w1, w1.heap[g]? = some (.cells V e (0, 0)) → (∀ k, k ≠ g → w1.heap[k]? = W.heap[k]?) → w1.heap.size = W.heap.size → w1.os = W.os → w1.tape = W.tape → w1.output = W.output → wpListIn F n P ops Q rest a w1) : wpListIn F n P ops Q (o :: rest) a W := by
  have hl : V.toList.length = V.size := Array.length_toList
  have hrun : (Instr.storeAt t (.pointer (some ⟨g, 0, none⟩)) (.agg V)).run P W = .ok () (W.setCells g 0 V.toList) :=
    run_store_run t (.agg V) V.toList hh rfl (by rw [ht, hl]) (by omega) h1
  obtain ⟨cur', h3, h4, h5⟩ := setCells_row (g := g) V.toList 0 W cur hh (by omega)
  obtain ⟨s1, s2, s3, s4⟩ := setCells_same g V.toList 0 W
  have e2 : cur' = V := by
    apply Array.toList_inj.mp
    rw [h5, List.take_zero, List.nil_append, List.drop_of_length_le (by rw [Array.length_toList]; omega), List.append_nil]
  subst e2
  have hfin := h _ h3 (fun k hk => setCells_far _ 0 k hk) s4 s1 s2 s3
  refine wpListIn_plain hgd fun K hK => ?_
  unfold Oper.wpIn
  refine ⟨?_, ?_⟩
  · simp [Oper.about, ho]
  · rw [Oper.semAt_plain F _ _ (by rw [ho]; intro c hc'; cases hc')]
    unfold execOp
    simp only [ho, hp, hx, Sem.run_bind, Sem.run_pure, Result.andThen_ok, hrun]
    show K (a.put o.dst undef) _
    rw [hN]
    exact hK a _ hfin
theorem oth_of2 {g : Nat} {w w1 : World} (hf : ∀ k, k ≠ g → w1.heap[k]? = w.heap[k]?) (hz : w1.heap.size = w.heap.size) (ho : w1.os = w.os) (ht : w1.tape = w.tape) (hu : w1.output = w.output) : Oth g w w1 := ⟨ho, ht, hu, Nat.le_of_eq hz.symm, fun k _ hk => hf k hk⟩
theorem KeepsFrom.of_but {B : Nat} {P : Nat → Prop} {W W' : World} (h : But P W W') (hP : ∀ k o, P k → W.heap[k]? = some o → o.isCells = true) : KeepsFrom B W W' :=
  ⟨h.size, fun k o _ hk ho => h.blk hk (fun hp => by have := hP k o hp hk; rw [ho] at this; cases this)⟩
theorem Kp.of_but {n₀ : Nat} {Kb P : Nat → Prop} {A A' : World} (h : But P A A') (hr : ∀ k, k < n₀ → Kb k → ¬ P k) (hn : n₀ ≤ A.heap.size) : Kp n₀ Kb A A' := ⟨h.size, fun k hk hb => h.block k (by omega) (hr k hk hb)⟩
end Go.Proofs.Ytcgefilboefnpaa.H
