/- SumLinear: whatever the two rows, the statement's function answers true. No condition. -/
import Derived.Test.YtbbnapdkiohefaaPSumLinearx2
import Derived.Test.YtbbnapdkiohefaaCrcB
import Derived.Test.YtbbnapdkiohefaaRow
namespace Go.Proofs.Ytbbnapdkiohefaa.MSumLinear
open Go.RowKit Go.Proofs.YtbbnapdkiohefaaW.PrintWords Go.Proofs.YtbbnapdkiohefaaW.PrintMore Go.Proofs.Ytbbnapdkiohefaa.PSumLinear Go.Proofs.Ytbbnapdkiohefaa.H Go.Proofs.Ytbbnapdkiohefaa.CrcM
set_option linter.unusedVariables false
set_option linter.unusedSimpArgs false

abbrev fx (p q : Int) : Int := bits .xor .u8 p q
theorem fx_nat (n m : Nat) (hn : n < 256) (hm : m < 256) : fx (n : Int) (m : Int) = ((n ^^^ m : Nat) : Int) ∧ n ^^^ m < 256 := by
  have hx : n ^^^ m < 2 ^ 8 := Nat.xor_lt_two_pow hn hm
  have e : fx (n : Int) (m : Int) = IntKind.u8.wrap (((BitVec.ofInt 8 (n : Int)) ^^^ (BitVec.ofInt 8 (m : Int))).toNat : Int) := rfl
  refine ⟨?_, hx⟩
  rw [e, BitVec.ofInt_natCast, BitVec.ofInt_natCast, BitVec.toNat_xor, BitVec.toNat_ofNat, BitVec.toNat_ofNat, Nat.mod_eq_of_lt hn, Nat.mod_eq_of_lt hm]
  generalize n ^^^ m = z at hx ⊢
  rw [IntKind.wrap_u8]; omega
theorem fx_byte {x y : Int} (hx : 0 ≤ x ∧ x < 256) (hy : 0 ≤ y ∧ y < 256) : (0 ≤ fx x y ∧ fx x y < 256) ∧ c32 (fx x y) = c32 x ^^^ c32 y := by
  obtain ⟨n, rfl⟩ := Int.eq_ofNat_of_zero_le hx.1
  obtain ⟨m, rfl⟩ := Int.eq_ofNat_of_zero_le hy.1
  obtain ⟨e, h⟩ := fx_nat n m (by omega) (by omega)
  rw [e]
  refine ⟨by omega, ?_⟩
  apply BitVec.eq_of_toNat_eq
  unfold c32
  rw [BitVec.toNat_xor, BitVec.ofInt_natCast, BitVec.ofInt_natCast, BitVec.ofInt_natCast, BitVec.toNat_ofNat, BitVec.toNat_ofNat, BitVec.toNat_ofNat, Nat.mod_eq_of_lt (by omega), Nat.mod_eq_of_lt (by omega), Nat.mod_eq_of_lt (by omega)]
abbrev zx (a b : List Int) : List Int := List.zipWith fx a b
theorem byt_zx : ∀ (a b : List Int), Byt a → Byt b → Byt (zx a b)
  | [], _, _, _ => by intro x hx; simp at hx
  | _ :: _, [], _, _ => by intro x hx; simp at hx
  | x :: xs, y :: ys, ha, hb => by
    intro z hz
    rw [zx, List.zipWith_cons_cons] at hz
    rcases List.mem_cons.1 hz with rfl | hz
    · exact (fx_byte (ha x List.mem_cons_self) (hb y List.mem_cons_self)).1
    · exact byt_zx xs ys (fun z hz => ha z (List.mem_cons_of_mem _ hz)) (fun z hz => hb z (List.mem_cons_of_mem _ hz)) z hz
theorem diffs_zx : ∀ (a b : List Int), a.length = b.length → Byt a → Byt b → diffs (zx a b) a = diffs b (List.replicate b.length 0)
  | [], [], _, _, _ => rfl
  | x :: xs, y :: ys, hl, ha, hb => by
    have ih := diffs_zx xs ys (by simpa using hl) (fun z hz => ha z (List.mem_cons_of_mem _ hz)) (fun z hz => hb z (List.mem_cons_of_mem _ hz))
    have hc := (fx_byte (ha x List.mem_cons_self) (hb y List.mem_cons_self)).2
    have h0 : c32 0 = 0#32 := by decide
    have hd : dbits (fx x y) x = dbits y 0 := by
      unfold dbits
      rw [hc, h0, BitVec.xor_zero, BitVec.xor_comm (c32 x), BitVec.xor_assoc, BitVec.xor_self, BitVec.xor_zero]
    rw [zx, List.zipWith_cons_cons, List.length_cons, List.replicate_succ]
    show dbits (fx x y) x ++ diffs (zx xs ys) xs = dbits y 0 ++ diffs ys (List.replicate ys.length 0)
    rw [hd, ih]
theorem ext_xor (p q : List Int) (hl : p.length = q.length) (hp : Byt p) (hq : Byt q) : ext 0#32 p ^^^ ext 0#32 q = brun 0#32 (diffs p q) := by
  unfold ext
  have h := run_diff p q (~~~ 0#32) (~~~ 0#32) hl hp hq
  rw [BitVec.xor_self] at h
  rw [← h, ← BitVec.xor_allOnes, ← BitVec.xor_allOnes (x := run (~~~ 0#32) q), BitVec.xor_assoc, BitVec.xor_comm (BitVec.allOnes 32), BitVec.xor_assoc, BitVec.xor_self, BitVec.xor_zero]
theorem linear (a b : List Int) (hl : a.length = b.length) (ha : Byt a) (hb : Byt b) : ext 0#32 (zx a b) = (ext 0#32 a ^^^ ext 0#32 b) ^^^ ext 0#32 (List.replicate b.length 0) := by
  have hz : Byt (List.replicate b.length 0) := fun x hx => by rw [List.eq_of_mem_replicate hx]; decide
  have h1 := ext_xor (zx a b) a (by rw [zx, List.length_zipWith]; omega) (byt_zx a b ha hb) ha
  have h2 := ext_xor b (List.replicate b.length 0) (by simp) hb hz
  rw [diffs_zx a b hl ha hb, ← h2] at h1
  generalize ext 0#32 (zx a b) = p at h1 ⊢
  generalize ext 0#32 a = q at h1 ⊢
  generalize ext 0#32 b = s at h1 ⊢
  generalize ext 0#32 (List.replicate b.length 0) = t at h1 ⊢
  have h3 : p = (p ^^^ q) ^^^ q := by rw [BitVec.xor_assoc, BitVec.xor_self, BitVec.xor_zero]
  rw [h3, h1, BitVec.xor_comm (s ^^^ t) q, BitVec.xor_assoc]
theorem zx_take (a b : List Int) (n : Nat) (hn : n = min a.length b.length) : zx a b = zx (a.take n) (b.take n) := by
  unfold zx
  rw [← List.take_zipWith, List.take_of_length_le (by rw [List.length_zipWith]; omega)]
theorem fin (a b : List Int) (n : Nat) (hn : n = min a.length b.length) (h5 : n ≤ 1000) (ha : Byt a) (hb : Byt b) (k : Nat) :
    saleroomlaw03_SumLinear.l0 (k + 1) a b (n : Int) (zx a b) (n : Int) (n : Int) = some true := by
  have la : (a.take n).length = n := by rw [List.length_take]; omega
  have lb : (b.take n).length = n := by rw [List.length_take]; omega
  have lz : (zx a b).length = n := by unfold zx; rw [List.length_zipWith]; omega
  have hlin := linear (a.take n) (b.take n) (by rw [la, lb]) (fun x hx => ha x (List.mem_of_mem_take hx)) (fun x hx => hb x (List.mem_of_mem_take hx))
  rw [← zx_take a b n hn, lb] at hlin
  simp only [saleroomlaw03_SumLinear.l0]
  have f1 : ∀ l : List Int, ([l] : List (List Int)).flatten = l := fun l => by simp
  rw [if_neg (Int.lt_irrefl _)]
  unfold sum_Of.f
  simp only [f1, Int.toNat_natCast]
  rw [if_pos (by rw [lz]; omega), Option.bind_some, if_pos (by omega), if_pos (by omega), if_pos (by rw [la]; omega), Option.bind_some, if_pos (by omega), if_pos (by rw [lb]; omega), Option.bind_some, if_pos (by omega), if_pos (by rw [List.length_replicate]; omega), Option.bind_some]
  rw [xor_v32, xor_v32, hlin, beq_self_eq_true]
theorem loop (a b : List Int) (n : Nat) (hn : n = min a.length b.length) (h5 : n ≤ 1000) (ha : Byt a) (hb : Byt b) (k : Nat) : ∀ (m i : Nat) (x : List Int), i + m = n → x.length = n → x.take i = (zx a b).take i →
    saleroomlaw03_SumLinear.l0 (k + m + 1) a b (n : Int) x (n : Int) (i : Int) = some true
  | 0, i, x, hi, hx, ht => by
    obtain rfl : i = n := by omega
    have lz : (zx a b).length = i := by unfold zx; rw [List.length_zipWith]; omega
    rw [List.take_of_length_le (by omega), List.take_of_length_le (by omega)] at ht
    subst ht
    exact fin a b i hn h5 ha hb k
  | m + 1, i, x, hi, hx, ht => by
    have lz : (zx a b).length = n := by unfold zx; rw [List.length_zipWith]; omega
    have ih := loop a b n hn h5 ha hb k m (i + 1) (x.set i (fx (rd a i) (rd b i))) (by omega) (by rw [List.length_set]; exact hx) (by
      have e1 : rd a (i : Int) = a[i]'(by omega) := by unfold rd; rw [Int.toNat_natCast, List.getD_eq_getElem?_getD, List.getElem?_eq_getElem (by omega)]; rfl
      have e2 : rd b (i : Int) = b[i]'(by omega) := by unfold rd; rw [Int.toNat_natCast, List.getD_eq_getElem?_getD, List.getElem?_eq_getElem (by omega)]; rfl
      rw [List.take_add_one, List.take_add_one, List.take_set_of_le (Nat.le_refl _), ht, List.getElem?_set_self (by omega), List.getElem?_eq_getElem (by omega : i < (zx a b).length)]
      unfold zx
      rw [List.getElem_zipWith, e1, e2])
    rw [show k + (m + 1) + 1 = (k + m + 1) + 1 by omega]
    rw [saleroomlaw03_SumLinear.l0]
    rw [if_pos (by omega), if_pos (by omega), if_pos (by omega), if_pos (by omega), if_pos (by omega)]
    have hw : wrap64 ((i : Int) + 1) = ((i + 1 : Nat) : Int) := by
      have hi2 : i < 1000 := by omega
      clear ih ht hx lz
      unfold wrap64; omega
    rw [hw, Int.toNat_natCast]
    exact ih
theorem pure (a b : List Int) (ha : Byt a) (hb : Byt b) : saleroomlaw03_SumLinear.f (min a.length b.length + 1) a b = some true := by
  unfold saleroomlaw03_SumLinear.f saleroomlaw03_alive.f
  simp only [Option.bind_some, if_true]
  have e : mn (a.length : Int) (b.length : Int) = ((min a.length b.length : Nat) : Int) := by unfold mn; split <;> omega
  rw [e]
  by_cases h : ((min a.length b.length : Nat) : Int) > 1000
  · rw [if_pos h]
  · rw [if_neg h, if_pos (by omega), if_pos (by omega), Int.toNat_natCast, List.length_replicate]
    have := loop a b (min a.length b.length) rfl (by omega) ha hb 0 (min a.length b.length) 0 (List.replicate (min a.length b.length) 0) (by omega) (by simp) (by simp)
    rw [Nat.zero_add] at this
    exact this
theorem opens : Opens Try.prog 25 (Kd.slice 5 (Kd.int .u8)) (fun l => ∀ x ∈ l, (Lit.int .u8 x).wf = true) := opens_slice 0 Try.underlying25 (by kernel_rfl) (opens_int Try.underlying5)
theorem main (A : Option Addr) (c : Nat) (l : List Int) (e : l.length ≤ c) {W0 : World} (m : Kd.C (Kd.int .u8) W0 A l.length l) (g : ∀ x ∈ l, (Lit.int .u8 x).wf = true)
    (A1 : Option Addr) (c1 : Nat) (l1 : List Int) (e1 : l1.length ≤ c1) (m1 : Kd.C (Kd.int .u8) W0 A1 l1.length l1) (g1 : ∀ x ∈ l1, (Lit.int .u8 x).wf = true) (W : World) (hW : W0 = W := by rfl) :
    Calls Try.prog 6 #[.slice A l.length c, .slice A1 l1.length c1] W fun e W' => e = .returned (.bool true) ∧ Below W.heap.size W W' := by
  subst hW
  exact saleroomlaw03_SumLinear.calls (min l.length l1.length + 1) (fun k => k < W0.heap.size) A c l (fun k => k < W0.heap.size) A1 c1 l1 true W0 (Kd.V_mk e (Kd.C_F (Kd.heap_int .u8) m)) (Kd.V_mk e1 (Kd.C_F (Kd.heap_int .u8) m1)) (pure l l1 (fun x hx => wf_u8 (g x hx)) (fun x hx => wf_u8 (g1 x hx)))
end Go.Proofs.Ytbbnapdkiohefaa.MSumLinear
