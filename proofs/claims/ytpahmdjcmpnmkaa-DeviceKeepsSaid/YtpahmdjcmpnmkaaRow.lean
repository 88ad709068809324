/- The openings of a law's arguments: what can be read as data is read as numbers, lists and structs. Over any program. -/
import Derived.Test.YtpahmdjcmpnmkaaLib
import Derived.ProofKit
import Derived.OpenShut
import Derived.ShutString
import Derived.ChangeOld
import Derived.SizedLaws
import Derived.ChangeSlices
namespace Go.Proofs.Ytpahmdjcmpnmkaa.H
open Go.RowKit Go.ChangeShapes Go.WideShapes Go.ChangeAt Go.Proofs.YtpahmdjcmpnmkaaW.PrintWords Go.Proofs.YtpahmdjcmpnmkaaW.PrintLast Go.Proofs.YtpahmdjcmpnmkaaW.PrintMore
set_option linter.unusedVariables false

/-- What is read of type t is of kind d, and good. -/
def Opens (P : Program) (t : TypeId) {α : Type} (d : Kd α) (G : α → Prop) : Prop :=
  ∀ (H : Type) (enc : TypeId × Value → H) (W : World) (fuel : Nat) (cs : List Value) (x : DataW H × List MemPlace), DataW.trod enc P W 0 (fun _ => true) true fuel t cs = some x → ∃ a : α, d.K W a cs ∧ G a
section
variable {P : Program} {α β : Type}
theorem opens_int {t : TypeId} {k : IntKind} (hu : P.underlying t = some (.int k)) : Opens P t (Kd.int k) (fun n => (Lit.int k n).wf = true) := by
  intro H enc W fuel cs x h
  obtain ⟨n, hc, _, hw⟩ := DataW.trod_int hu h
  exact ⟨n, hc, hw⟩
theorem opens_bool {t : TypeId} (hu : P.underlying t = some .bool) : Opens P t Kd.bool (fun _ => True) := by
  intro H enc W fuel cs x h
  obtain ⟨n, hc, _⟩ := DataW.trod_bool hu h
  exact ⟨n, hc, trivial⟩
theorem opens_string {t : TypeId} (hu : P.underlying t = some .string) : Opens P t Kd.string (fun s => s.size ≤ maxLen) := by
  intro H enc W fuel cs x h
  cases fuel with
  | zero => simp [DataW.trod] at h
  | succ n =>
    unfold DataW.trod at h
    rw [hu] at h
    split at h <;> simp_all
    rename_i s
    exact ⟨s, rfl, h.1⟩
theorem opens_slice {t e : TypeId} {d : Kd α} {G : α → Prop} (z : α) (hu : P.underlying t = some (.slice e)) (hsz : P.cellsOf e = d.sz) (hop : Opens P e d G) : Opens P t (Kd.slice e d) (fun l => ∀ x ∈ l, G x) := by
  intro H enc W fuel cs x h
  rcases DataW.trod_slice hu h with ⟨rfl, _⟩ | ⟨a, len, cap, elems, rest, n, _, rfl, rfl, hb, hl, hm, hlen, hel, hsp, hns⟩
  · exact ⟨[], ⟨none, 0, rfl, Nat.le_refl _, ⟨rfl, Nat.zero_le _, fun h => absurd h (Nat.lt_irrefl 0)⟩⟩, fun x hx => by cases hx⟩
  · have each : ∀ i, i < len → ∃ v : α, ∃ c : List Value, c.length = d.sz ∧ d.K W v c ∧ G v ∧ ∀ j u, c[j]? = some u → W.cell? (a.add (i * d.sz + j)) = some u := by
      intro i hi
      have h1 := hel i hi
      have hi2 : i < elems.length := by omega
      rw [List.getElem?_eq_getElem hi2] at h1
      obtain ⟨c, hc, ht⟩ := Option.bind_eq_some_iff.1 h1
      obtain ⟨_, hcl, hcell⟩ := World.cells?_some hc
      obtain ⟨v, hk, hg⟩ := hop H enc W n c _ ht
      refine ⟨v, c, by rw [hcl, hsz], hk, hg, fun j u hu => ?_⟩
      have hj : j < P.cellsOf e := by rw [← hcl]; exact (List.getElem?_eq_some_iff.1 hu).1
      have := hcell j hj
      rw [add_add, hsz] at this
      rw [this, hu]
    have hex : ∃ l : List α, l.length = len ∧ ∀ i, i < len → ∃ c : List Value, c.length = d.sz ∧ d.K W (l.getD i z) c ∧ G (l.getD i z) ∧ ∀ j u, c[j]? = some u → W.cell? (a.add (i * d.sz + j)) = some u := by
      clear hel hsp hns hlen hl h hm
      induction len with
      | zero => exact ⟨[], rfl, fun i hi => by omega⟩
      | succ len ih =>
        obtain ⟨l, hl, hall⟩ := ih (fun i hi => each i (by omega))
        obtain ⟨v, c, h1, h2, h3, h4⟩ := each len (by omega)
        refine ⟨l ++ [v], by simp [hl], fun i hi => ?_⟩
        by_cases hi2 : i < len
        · obtain ⟨c, h⟩ := hall i hi2
          refine ⟨c, ?_⟩
          have e : (l ++ [v]).getD i z = l.getD i z := by simp [List.getD_eq_getElem?_getD, List.getElem?_append_left (show i < l.length by omega)]
          rw [e]; exact h
        · obtain rfl : i = len := by omega
          have e : (l ++ [v]).getD i z = v := by simp [List.getD_eq_getElem?_getD, ← hl]
          rw [e]; exact ⟨c, h1, h2, h3, h4⟩
    obtain ⟨l, hll, hall⟩ := hex
    refine ⟨l, ⟨some a, cap, by rw [hll], by omega, ⟨rfl, by unfold maxLen at hm; omega, fun _ => ⟨a, rfl, fun j p hj => ?_⟩⟩⟩, fun x hx => ?_⟩
    · have hjl := (List.getElem?_eq_some_iff.1 hj).1
      obtain ⟨c, h1, h2, _, h4⟩ := hall j (by omega)
      have e : l.getD j z = p := by rw [List.getD_eq_getElem?_getD, hj]; rfl
      rw [e] at h2
      exact ⟨c, h1, h2, h4⟩
    · obtain ⟨j, hjl, rfl⟩ := List.mem_iff_getElem.1 hx
      obtain ⟨c, _, _, h3, _⟩ := hall j (by omega)
      have e : l.getD j z = l[j] := by rw [List.getD_eq_getElem?_getD, List.getElem?_eq_getElem hjl]; rfl
      rw [e] at h3; exact h3

/-- The fields from the cell o on. -/
def OpensFrom (P : Program) (fs : List Field) (o : Nat) {α : Type} (d : Kd α) (G : α → Prop) : Prop :=
  ∀ (H : Type) (enc : TypeId × Value → H) (W : World) (fuel : Nat) (cs : List Value), o + d.sz = cs.length →
    (∀ (i : Nat) (f : Field), fs[i]? = some f → ∃ y : DataW H × List MemPlace, DataW.trod enc P W 0 (fun _ => true) true fuel f.type ((cs.drop f.offset).take (P.cellsOf f.type)) = some y) → ∃ a : α, d.K W a (cs.drop o) ∧ G a
theorem opens_last {f : Field} {o : Nat} {d : Kd α} {G : α → Prop} (ho : f.offset = o) (hsz : P.cellsOf f.type = d.sz) (h : Opens P f.type d G) : OpensFrom P [f] o d G := by
  intro H enc W fuel cs hl hall
  obtain ⟨y, hy⟩ := hall 0 f rfl
  obtain ⟨a, hk, hg⟩ := h H enc W fuel _ y hy
  rw [ho, hsz, List.take_of_length_le (by rw [List.length_drop]; omega)] at hk
  exact ⟨a, hk, hg⟩
theorem opens_cons {f : Field} {fs : List Field} {o : Nat} {d : Kd α} {G : α → Prop} {d2 : Kd β} {G2 : β → Prop} (ho : f.offset = o) (hsz : P.cellsOf f.type = d.sz) (h : Opens P f.type d G) (h2 : OpensFrom P fs (o + d.sz) d2 G2) :
    OpensFrom P (f :: fs) o (Kd.pair d d2) (fun x => G x.1 ∧ G2 x.2) := by
  intro H enc W fuel cs hl hall
  have hl' : o + (d.sz + d2.sz) = cs.length := hl
  obtain ⟨y, hy⟩ := hall 0 f rfl
  obtain ⟨a, hk, hg⟩ := h H enc W fuel _ y hy
  obtain ⟨b, hk2, hg2⟩ := h2 H enc W fuel cs (by omega) (fun i f' hf => hall (i + 1) f' hf)
  rw [ho, hsz] at hk
  refine ⟨(a, b), ⟨_, _, ?_, hk, hk2⟩, hg, hg2⟩
  rw [← List.drop_drop, List.take_append_drop]
theorem opens_struct {t : TypeId} {fs : Array Field} {d : Kd α} {G : α → Prop} (hu : P.underlying t = some (.struct fs)) (hsz : P.cellsOf t = d.sz) (h : OpensFrom P fs.toList 0 d G) : Opens P t d G := by
  intro H enc W fuel cs x hx
  obtain ⟨xs, n, rfl, rfl, hcl, hxl, hall⟩ := DataW.trod_struct hu hx
  obtain ⟨a, hk, hg⟩ := h H enc W n cs (by omega) (fun i f hf => by
    have hf2 : fs[i]? = some f := by rw [← Array.getElem?_toList]; exact hf
    have := hall i f hf2
    have hi : i < xs.length := by rw [hxl]; exact (Array.getElem?_eq_some_iff.1 hf2).1
    rw [List.getElem?_eq_getElem hi] at this
    exact ⟨_, this⟩)
  exact ⟨a, hk, hg⟩
/-- By a structure's fields: mk makes the structure. -/
theorem opens_iso {t : TypeId} {d : Kd α} {G : α → Prop} {f : β → α} (mk : α → β) (hmk : ∀ x, f (mk x) = x) (h : Opens P t d G) : Opens P t (Kd.iso d f) (fun x => G (f x)) := by
  intro H enc W fuel cs x hx
  obtain ⟨a, hk, hg⟩ := h H enc W fuel cs x hx
  exact ⟨mk a, by show d.K W (f (mk a)) cs; rw [hmk]; exact hk, by show G (f (mk a)); rw [hmk]; exact hg⟩
theorem opens_weaken {t : TypeId} {d : Kd α} {G G' : α → Prop} (hi : ∀ x, G x → G' x) (h : Opens P t d G) : Opens P t d G' := by
  intro H enc W fuel cs x hx
  obtain ⟨a, hk, hg⟩ := h H enc W fuel cs x hx
  exact ⟨a, hk, hi _ hg⟩

section
variable {H : Type} {enc : TypeId × Value → H} {W : World} {v : Value} {dd : DataW H} {ps : List MemPlace} {r : Reach} {b0 : Nat} {t : TypeId} {d : Kd α} {G : α → Prop}
/-- An argument that is a slice. -/
theorem top_slice {e : TypeId} (hu : P.underlying t = some (.slice e)) (hop : Opens P t (Kd.slice e d) (fun l => ∀ x ∈ l, G x)) (hval : Value.okWide P W r b0 t v) (h : DataW.Trod enc P W 0 (fun _ => true) true t v dd ps) :
    ∃ A c l, v = .slice A (List.length l) c ∧ l.length ≤ c ∧ d.C W A l.length l ∧ ∀ x ∈ l, G x := by
  obtain ⟨a, n, c, rfl⟩ := okWide_slice hu hval
  obtain ⟨fuel, hf⟩ := h
  obtain ⟨l, ⟨A, c', hcs, hl, hc⟩, hg⟩ := hop H enc W fuel _ _ hf
  simp [Value.cells] at hcs
  obtain ⟨rfl, rfl, rfl⟩ := hcs
  exact ⟨_, _, l, rfl, hl, hc, hg⟩
theorem top_int {k : IntKind} (hu : P.underlying t = some (.int k)) (hval : Value.okWide P W r b0 t v) (h : DataW.Trod enc P W 0 (fun _ => true) true t v dd ps) : ∃ n, v = .int k n ∧ (Lit.int k n).wf = true := by
  obtain ⟨n, rfl, _, _, hw⟩ := open_int hu hval h
  exact ⟨n, rfl, hw⟩
theorem top_bool (hu : P.underlying t = some .bool) (hval : Value.okWide P W r b0 t v) : ∃ b, v = .bool b := okWide_bool hu hval
theorem top_string (hu : P.underlying t = some .string) (hval : Value.okWide P W r b0 t v) (h : DataW.Trod enc P W 0 (fun _ => true) true t v dd ps) : ∃ s, v = .string s ∧ s.size ≤ maxLen := by
  obtain ⟨s, rfl⟩ := okWide_string hu hval
  obtain ⟨fuel, hf⟩ := h
  obtain ⟨s', hk, hg⟩ := opens_string hu H enc W fuel _ _ hf
  have : s = s' := by
    have hk' : (Value.string s).cells.toList = [.string s'] := hk
    simpa [Value.cells] using hk'
  subst this
  exact ⟨s, rfl, hg⟩
/-- An argument that is a struct. -/
theorem top_struct {fs : Array Field} (hu : P.underlying t = some (.struct fs)) (hop : Opens P t d G) (hval : Value.okWide P W r b0 t v) (h : DataW.Trod enc P W 0 (fun _ => true) true t v dd ps) :
    ∃ (cs : List Value) (x : α), v = .agg cs.toArray ∧ d.K W x cs ∧ G x := by
  simp only [Value.okWide, hu] at hval
  obtain ⟨cs, rfl, _, _⟩ := hval
  obtain ⟨fuel, hf⟩ := h
  obtain ⟨x, hk, hg⟩ := hop H enc W fuel _ _ hf
  exact ⟨cs.toList, x, by simp, hk, hg⟩
end
end
theorem wf_u8 {n : Int} (h : (Lit.int .u8 n).wf = true) : 0 ≤ n ∧ n < 256 := by
  simp only [Lit.wf, Bool.and_eq_true, decide_eq_true_eq] at h
  have e1 : IntKind.u8.min = 0 := by decide
  have e2 : IntKind.u8.max = 255 := by decide
  rw [e1, e2] at h; omega
theorem wf_u32 {n : Int} (h : (Lit.int .u32 n).wf = true) : 0 ≤ n ∧ n < 4294967296 := by
  simp only [Lit.wf, Bool.and_eq_true, decide_eq_true_eq] at h
  have e1 : IntKind.u32.min = 0 := by decide
  have e2 : IntKind.u32.max = 4294967295 := by decide
  rw [e1, e2] at h; omega
theorem wf_u64 {n : Int} (h : (Lit.int .u64 n).wf = true) : 0 ≤ n ∧ n < 18446744073709551616 := by
  simp only [Lit.wf, Bool.and_eq_true, decide_eq_true_eq] at h
  have e1 : IntKind.u64.min = 0 := by decide
  have e2 : IntKind.u64.max = 18446744073709551615 := by decide
  rw [e1, e2] at h; omega
theorem wf_i64 {n : Int} (h : (Lit.int .i64 n).wf = true) : -9223372036854775808 ≤ n ∧ n ≤ 9223372036854775807 := by
  simp only [Lit.wf, Bool.and_eq_true, decide_eq_true_eq] at h
  have e1 : IntKind.i64.min = -9223372036854775808 := by decide
  have e2 : IntKind.i64.max = 9223372036854775807 := by decide
  rw [e1, e2] at h; omega
end Go.Proofs.Ytpahmdjcmpnmkaa.H
