/- Plain law: frames one behind the other, and a beginning of another, are scanned as they are; rows of frames as their cells have them. -/
import Derived.Test.YtagjnjdaookdgaaFrBack
import Derived.Test.YtagjnjdaookdgaaEnd
import Derived.Test.YtagjnjdaookdgaaTy
namespace Go.Proofs.Ytagjnjdaookdgaa.H
open Go.RowKit Go.Proofs.YtagjnjdaookdgaaW.PrintWords Go.Proofs.YtagjnjdaookdgaaW.PrintLast Go.Proofs.YtagjnjdaookdgaaW.PrintMore Go.Proofs.Ytagjnjdaookdgaa.CrcM
set_option linter.unusedVariables false
set_option linter.unusedSimpArgs false

/-- A kind and a body. -/
abbrev Fb := Int × List Int
def okW (x : Fb) : Bool := (writeF x.1 x.2).2 == 0
def flatF (ks : List Fb) : List Int := ks.flatMap fun x => (writeF x.1 x.2).1
def posF : List Fb → Nat → List Fr
  | [], _ => []
  | x :: r, at_ => ((at_ : Int), x.1, x.2) :: posF r (at_ + (x.2.length + 7))
theorem okW_eq {x : Fb} (h : okW x = true) : writeF x.1 x.2 = ((writeF x.1 x.2).1, 0) := by
  unfold okW at h
  rw [beq_iff_eq] at h
  rw [← h]
theorem posF_len (ks : List Fb) : ∀ at_, (posF ks at_).length = ks.length := by
  induction ks with
  | nil => intro _; rfl
  | cons x r ih => intro at_; simp [posF, ih]
theorem posF_get (ks : List Fb) : ∀ (at_ i : Nat) (y : Fr), (posF ks at_)[i]? = some y → ks[i]? = some y.2 := by
  induction ks with
  | nil => intro _ i y h; simp [posF] at h
  | cons x r ih =>
    intro at_ i y h
    cases i with
    | zero => simp [posF] at h ⊢; rw [← h]
    | succ i => simp [posF] at h ⊢; exact ih _ _ _ h
theorem drop_pre (p r : List Int) : (p ++ r).drop p.length = r := by simp
theorem scan_join (tail : List Int) (ht : (readF tail).2.2.2 = 21) (ks : List Fb) (hk : ∀ x ∈ ks, okW x = true) : ∀ (p : List Int) (k : Nat), (p ++ flatF ks ++ tail).length + 1 ≤ k + p.length →
    scanL (p ++ flatF ks ++ tail) k p.length = posF ks p.length ∧ endL (p ++ flatF ks ++ tail) k p.length = (p ++ flatF ks).length := by
  induction ks with
  | nil =>
    intro p k h
    obtain ⟨k, rfl⟩ : ∃ m, k = m + 1 := ⟨k - 1, by simp [flatF] at h; omega⟩
    have e : (p ++ flatF [] ++ tail).drop p.length = tail := by simp [flatF]
    unfold scanL endL
    rw [e, ht]
    simp [posF, flatF]
  | cons x r ih =>
    intro p k h
    have hx := okW_eq (hk x List.mem_cons_self)
    generalize (writeF x.1 x.2).1 = wx at hx
    obtain ⟨h1, h2, h3, _, h5⟩ := writeF_ok hx
    have ef : flatF (x :: r) = wx ++ flatF r := by simp [flatF, hx]
    obtain ⟨k, rfl⟩ : ∃ m, k = m + 1 := ⟨k - 1, by simp at h; omega⟩
    have e : (p ++ flatF (x :: r) ++ tail).drop p.length = wx ++ (flatF r ++ tail) := by rw [ef]; simp
    have hb := back (more := flatF r ++ tail) hx
    have e2 : p ++ flatF (x :: r) ++ tail = (p ++ wx) ++ flatF r ++ tail := by rw [ef]; simp
    have e3 : p ++ flatF (x :: r) = (p ++ wx) ++ flatF r := by rw [ef]; simp
    have e4 : p.length + ((x.2.length : Int) + 7).toNat = (p ++ wx).length := by rw [List.length_append, h5]; omega
    have i := ih (fun y hy => hk y (List.mem_cons_of_mem _ hy)) (p ++ wx) k (by rw [← e2, show (p ++ wx).length = p.length + (x.2.length + 7) by rw [List.length_append, h5]]; omega)
    unfold scanL endL
    rw [e, hb]
    simp only [if_true]
    rw [e4, e2, i.1, i.2, e3]
    refine ⟨?_, rfl⟩
    rw [posF, List.length_append, h5]
theorem scanF_join (tail : List Int) (ht : (readF tail).2.2.2 = 21) (ks : List Fb) (hk : ∀ x ∈ ks, okW x = true) : scanF (flatF ks ++ tail) = posF ks 0 ∧ endF (flatF ks ++ tail) = (flatF ks).length := by
  have := scan_join tail ht ks hk [] ((flatF ks ++ tail).length + 1) (by simp)
  simpa [scanF, endF] using this
theorem endErr_join (tail : List Int) (ht : (readF tail).2.2.2 = 21) (ks : List Fb) (hk : ∀ x ∈ ks, okW x = true) : endErr (flatF ks ++ tail) = if tail = [] then 0 else 21 := by
  have e := (scanF_join tail ht ks hk).2
  unfold endErr
  rw [e]
  cases tail with
  | nil => simp
  | cons a t => rw [if_neg (by simp), List.drop_left, ht, if_neg (by simp)]
theorem flatF_append (a b : List Fb) : flatF (a ++ b) = flatF a ++ flatF b := by simp [flatF]
theorem bts_flatF (ks : List Fb) (hB : ∀ x ∈ ks, Bts x.2) (hk : ∀ x ∈ ks, okW x = true) : Bts (flatF ks) := by
  intro z hz
  obtain ⟨x, hx, hm⟩ := List.mem_flatMap.1 hz
  exact bts_writeF (hB x hx) (okW_eq (hk x hx)) z hm
theorem len_flatF (ks : List Fb) (hk : ∀ x ∈ ks, okW x = true) (h : ∀ x ∈ ks, x.2.length ≤ 500) : (flatF ks).length ≤ 507 * ks.length := by
  induction ks with
  | nil => simp [flatF]
  | cons x r ih =>
    have hx := okW_eq (hk x List.mem_cons_self)
    obtain ⟨_, _, _, _, h5⟩ := writeF_ok hx
    have := h x List.mem_cons_self
    have i := ih (fun y hy => hk y (List.mem_cons_of_mem _ hy)) (fun y hy => h y (List.mem_cons_of_mem _ hy))
    have ef : flatF (x :: r) = (writeF x.1 x.2).1 ++ flatF r := by simp [flatF]
    rw [ef, List.length_append, List.length_cons]
    omega

/-- A frame as its cells have it: kind, the slice. -/
abbrev Rb := Int × Option Addr × Nat × Nat
def rbCells (x : Rb) : List Value := [.int .i64 x.1, .slice x.2.1 x.2.2.1 x.2.2.2]
def KRb : Kd Rb where
  sz := 2
  E := []
  K := fun _ x cs => cs = rbCells x
  M := fun _ _ _ x cs => cs = rbCells x
  K_len := fun h => by rw [h]; rfl
  K_one := fun h u hu => by
    rw [h] at hu
    simp [rbCells] at hu
    rcases hu with rfl | rfl <;> rfl
  K_below := fun _ h => h
  K_of_M := fun h => h
  M_mono := fun _ h => h
  M_bound := fun h => h
  M_move := fun _ h => h
  M_lower := fun _ h => h
/-- The frame that cells tell, in a world. -/
def RbOf (W : World) (o : Rb) (x : Fb) : Prop := o.1 = x.1 ∧ o.2.2.1 = x.2.length ∧ x.2.length ≤ o.2.2.2 ∧ Kd.C (Kd.int .u8) W o.2.1 x.2.length x.2
theorem RbOf.below {W W' : World} {o : Rb} {x : Fb} (h : RbOf W o x) (hb : Below W.heap.size W W') : RbOf W' o x := ⟨h.1, h.2.1, h.2.2.1, Kd.C_below h.2.2.2 hb⟩
theorem pairs_of {α β : Type} (Q : β → α → Prop) : ∀ (l : List α), (∀ x ∈ l, ∃ o, Q o x) → ∃ ps : List (β × α), ps.map (·.2) = l ∧ ∀ p ∈ ps, Q p.1 p.2
  | [], _ => ⟨[], rfl, fun _ h => by cases h⟩
  | x :: r, h => by
    obtain ⟨o, ho⟩ := h x List.mem_cons_self
    obtain ⟨ps, h1, h2⟩ := pairs_of Q r (fun y hy => h y (List.mem_cons_of_mem _ hy))
    refine ⟨(o, x) :: ps, by simp [h1], fun p hp => ?_⟩
    rcases List.mem_cons.1 hp with rfl | hp
    · exact ho
    · exact h2 p hp
theorem pairs_at {α β : Type} (Q : Nat → β → α → Prop) (l : List α) (h : ∀ (i : Nat) (x : α), l[i]? = some x → ∃ o, Q i o x) : ∃ ps : List (β × α), ps.map (·.2) = l ∧ ∀ (i : Nat) (p : β × α), ps[i]? = some p → Q i p.1 p.2 := by
  induction l generalizing Q with
  | nil => exact ⟨[], rfl, fun i p hp => by simp at hp⟩
  | cons x r ih =>
    obtain ⟨o, ho⟩ := h 0 x rfl
    obtain ⟨ps, h1, h2⟩ := ih (fun i => Q (i + 1)) (fun i y hy => h (i + 1) y (by simpa using hy))
    refine ⟨(o, x) :: ps, by simp [h1], fun i p hp => ?_⟩
    cases i with
    | zero => simp at hp; subst hp; exact ho
    | succ i => simp at hp; exact h2 i p hp
/-- Rows of frames that are read, as their cells have them. -/
theorem rows_of {e : Nat} {W : World} {A : Option Addr} {n : Nat} {fs : List Fb} (h : Kd.C (Kd.pair (Kd.int .i64) (Kd.slice e (Kd.int .u8))) W A n fs) :
    ∃ ps : List (Rb × Fb), ps.map (·.2) = fs ∧ Kd.C KRb W A n (ps.map (·.1)) ∧ ∀ p ∈ ps, RbOf W p.1 p.2 := by
  obtain ⟨h1, h2, h3⟩ := h
  by_cases hn : 0 < n
  · obtain ⟨ad, rfl, hr⟩ := h3 hn
    obtain ⟨ps, e1, e2⟩ := pairs_at (fun i (o : Rb) x => RbOf W o x ∧ ∀ j u, (rbCells o)[j]? = some u → W.cell? (ad.add (i * 2 + j)) = some u) fs (fun i x hx => by
      obtain ⟨c, _, hK, hc⟩ := hr i x hx
      obtain ⟨c0, c1, rfl, hk0, A1, cp, rfl, hl, hC⟩ := hK
      have hk0' : c0 = [.int .i64 x.1] := hk0
      subst hk0'
      exact ⟨(x.1, A1, x.2.length, cp), ⟨rfl, rfl, hl, hC⟩, fun j u hu => hc j u hu⟩)
    have hlen : (ps.map (·.1)).length = fs.length := by rw [← e1]; simp
    refine ⟨ps, e1, ⟨by rw [hlen]; exact h1, h2, fun _ => ⟨ad, rfl, fun j p hj => ?_⟩⟩, fun p hp => ?_⟩
    · rw [List.getElem?_map] at hj
      cases hq : ps[j]? with
      | none => rw [hq] at hj; cases hj
      | some q =>
        rw [hq] at hj
        injection hj with hj
        subst hj
        exact ⟨_, rfl, rfl, (e2 j q hq).2⟩
    · obtain ⟨i, hi, rfl⟩ := List.mem_iff_getElem.1 hp
      exact (e2 i _ (List.getElem?_eq_getElem hi)).1
  · have : fs = [] := by
      cases fs with
      | nil => rfl
      | cons a t => simp at h1; omega
    subst this
    exact ⟨[], rfl, ⟨h1, h2, fun h => absurd h hn⟩, fun _ h => by cases h⟩
/-- A row of other types stays where a row grows. -/
theorem R_other {α β : Type} {d : Kd α} {d' : Kd β} {e e' : Nat} {w w1 : World} {base base' : Nat} {ok ok' : Nat → Prop} {v v' : Value} {xs : List α} {ys : List β} (h : d.R e w base ok v xs) (h' : d'.R e' w base' ok' v' ys) (hne : ∀ q, q ∈ e :: d.E → q ≠ e') (hg : w.grownBy w1 v'.ownBlock) : d.R e w1 base ok v xs :=
  Kd.R_mono (Kd.R_step (Kd.R_bound h) (fun k hk hlt => hg.block k hlt (fun hrow => by
    obtain ⟨inner, ho⟩ := Kd.R_own h'
    obtain ⟨cells, hc⟩ := own_typed ho k hrow.symm
    obtain ⟨_, _, _, q, hq, cells', hc'⟩ := hk
    rw [hc] at hc'
    injection hc' with hc'
    injection hc' with _ hc' _
    exact hne q hq hc'.symm))) (fun _ hk => hk.1)
theorem KRb_ty {W W' : World} {t : TypeId} {A : Option Addr} {n : Nat} {xs : List Rb} (hT : Ty t W A) (hc : Kd.C KRb W A n xs) (h : ∀ (i : Nat) (cs : Array Value) (z : Nat × Nat), W.heap[i]? = some (Obj.cells cs t z) → W'.heap[i]? = W.heap[i]?) : Kd.C KRb W' A n xs :=
  ⟨hc.1, hc.2.1, fun hn => by
    obtain ⟨ad, e, hr⟩ := hc.2.2 hn
    obtain ⟨cs, z, hb⟩ := hT ad e
    refine ⟨ad, e, fun j p hj => ?_⟩
    obtain ⟨c, hs, hR, hcell⟩ := hr j p hj
    refine ⟨c, hs, hR, fun i u hu => ?_⟩
    have h1 := hcell i u hu
    have hblk : (ad.add (j * KRb.sz + i)).block = ad.block := by unfold Addr.add; split <;> rfl
    exact (World.cell?_of_block (by rw [hblk]; exact h _ _ _ hb)).trans h1⟩
theorem addr_add_add (a : Addr) (i j : Nat) : (a.add i).add j = a.add (i + j) := by
  unfold Addr.add
  by_cases hi : i = 0 <;> by_cases hj : j = 0 <;> simp [hi, hj, Nat.add_assoc]
/-- A row's element, cell by cell, as the walk writes the cells. -/
theorem KRb_at {W : World} {A : Option Addr} {n : Nat} {os : List Rb} (h : Kd.C KRb W A n os) {i : Nat} {o : Rb} (ho : os[i]? = some o) : ∃ ad, A = some ad ∧ W.cell? (ad.add (i * 2)) = some (.int .i64 o.1) ∧ W.cell? ⟨(ad.add (i * 2)).block, (ad.add (i * 2)).off + 1, none⟩ = some (.slice o.2.1 o.2.2.1 o.2.2.2) := by
  have hi := (List.getElem?_eq_some_iff.1 ho).1
  obtain ⟨h1, _, h3⟩ := h
  obtain ⟨ad, rfl, hr⟩ := h3 (by omega)
  obtain ⟨c, _, hK, hc⟩ := hr i o ho
  have hK' : c = rbCells o := hK
  subst hK'
  have c0 := hc 0 _ rfl
  have c1 := hc 1 _ rfl
  replace c0 : W.cell? (ad.add (i * 2 + 0)) = some (.int .i64 o.1) := c0
  replace c1 : W.cell? (ad.add (i * 2 + 1)) = some (.slice o.2.1 o.2.2.1 o.2.2.2) := c1
  rw [Nat.add_zero] at c0
  rw [← addr_add_add] at c1
  exact ⟨ad, rfl, c0, c1⟩
/-- A function whose one result lies in a box. -/
theorem results_one_cell {fn : Func} {tmps : Array Value} {w : World} {k : Tmp} {ty : TypeId} {g : Nat} {v : Value} (h : fn.results = #[.cell k 4]) (hb : w.heap[g]? = some (.cells #[v] ty (0, 0))) (hp : tmps.getD k undef = .pointer (some ⟨g, 0, none⟩)) :
    (results fn tmps).run Try.prog w = .ok v w := by
  have hc : w.cell? ⟨g, 0, none⟩ = some v := by rw [blk_cell hb 0]; rfl
  have hp2 : tmps[k]?.getD undef = .pointer (some ⟨g, 0, none⟩) := by simpa using hp
  unfold results
  rw [h]
  simp [go_sem, hp2, hc, Try.underlying4]
/-- A block of another type lies where a row grows. -/
theorem blk_grown {α : Type} {d : Kd α} {e : Nat} {w w1 : World} {base : Nat} {ok : Nat → Prop} {v : Value} {xs : List α} {g t : Nat} {cs : Array Value} (h : d.R e w base ok v xs) (hb : w.heap[g]? = some (.cells cs t (0, 0))) (ht : e ≠ t) (hg : w.grownBy w1 v.ownBlock) : w1.heap[g]? = some (.cells cs t (0, 0)) :=
  (hg.block g (lt_of_some hb) (Kd.R_ne h hb ht)).trans hb
theorem blk_grown0 {w w1 : World} {g t : Nat} {cs : Array Value} (hb : w.heap[g]? = some (.cells cs t (0, 0))) (hg : w.grownBy w1 none) : w1.heap[g]? = some (.cells cs t (0, 0)) :=
  (hg.block g (lt_of_some hb) (by simp)).trans hb
theorem C_take_n {d : Kd Int} {w : World} {A : Option Addr} {l : List Int} {m n : Nat} (h : d.C w A l.length l) (hn : (l.take m).length = n) (hm : m ≤ l.length) : d.C w A n (l.take m) := by
  subst hn; exact Kd.C_take h hm
end Go.Proofs.Ytagjnjdaookdgaa.H
