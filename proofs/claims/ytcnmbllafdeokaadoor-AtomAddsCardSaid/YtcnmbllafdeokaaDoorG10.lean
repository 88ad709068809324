/- Some texts of one seat in one file, in build order. -/
import Derived.Test.YtcnmbllafdeokaaDoorG9
import Derived.Test.YtcnmbllafdeokaaDoorG5
import Derived.Test.YtcnmbllafdeokaaDoorG1
import Derived.Test.YtcnmbllafdeokaaDoorG3
import Derived.Deep.RegionHeld3
import Derived.LaidEqlPtr
/- What the document's answer says of what a set's value grows by, item by item; the document's small functions as the law calls them. -/
namespace Go.Proofs.YtcnmbllafdeokaaDoor.H
open Go.RowKit Go.Proofs.YtcnmbllafdeokaaDoorW.PrintWords Go.Proofs.YtcnmbllafdeokaaDoorW.PrintLast Go.Proofs.YtcnmbllafdeokaaDoorW.PrintMore Go.Proofs.YtcnmbllafdeokaaDoor.TrM Go.Proofs.YtcnmbllafdeokaaDoor.AtM Go.Proofs.YtcnmbllafdeokaaDoor.R02 Go.Proofs.YtcnmbllafdeokaaDoor.R09 Go.Proofs.YtcnmbllafdeokaaDoor.Ult Go.Proofs.YtcnmbllafdeokaaDoor.PAll9
set_option linter.unusedVariables false
set_option linter.unusedSimpArgs false
def inI (al : List At) (i : Nat) : Bool := al.any fun x => rightA x && x.1.toNat.testBit i
def condI (al : List At) (s : Int) (i : Nat) : Bool := inI al i && !s.toNat.testBit i
def adE (al : List At) (s : Int) (i : Nat) : Int × Int := ((i : Int), valueL al (s + oneS i) - valueL al s)
def adR (al : List At) (s : Int) (k : Nat) : List (Int × Int) := ((List.range k).filter (condI al s)).map (adE al s)
theorem adR_succ (al : List At) (s : Int) (k : Nat) : adR al s (k + 1) = adR al s k ++ if condI al s k = true then [adE al s k] else [] := by
  unfold adR
  rw [List.range_succ, List.filter_append, List.map_append]
  congr 1
  by_cases h : condI al s k = true
  · simp [h]
  · simp [h]
theorem adR_len (al : List At) (s : Int) (k : Nat) : (adR al s k).length ≤ k := by
  unfold adR
  rw [List.length_map]
  have := List.length_filter_le (condI al s) (List.range k)
  rw [List.length_range] at this
  exact this
theorem uni_bit (al : List At) (hu : ∀ x ∈ al, U64 x.1) (i : Nat) : (uniA al).toNat.testBit i = inI al i := by
  have h : ∀ (xs : List At) (m : Int), U64 m → (∀ x ∈ xs, U64 x.1) → (xs.foldl (fun m x => bits .or .u64 m x.1) m).toNat.testBit i = (m.toNat.testBit i || xs.any fun x => x.1.toNat.testBit i) := by
    intro xs
    induction xs with
    | nil => intro m hm _; simp
    | cons x xs ih =>
      intro m hm hx
      rw [List.foldl_cons, ih _ (or_u64 hm (hx x (by simp))).1 (fun y hy => hx y (List.mem_cons_of_mem _ hy)), (or_u64 hm (hx x (by simp))).2, Nat.testBit_or, List.any_cons, Bool.or_assoc]
  unfold uniA uniL inI
  rw [h _ 0 (by unfold U64; omega) (fun x hx => hu x (List.mem_filter.1 hx).1), List.any_filter]
  simp
theorem andNot_bit {a b : Int} (ha : U64 a) (hb : U64 b) {i : Nat} (hi : i < 64) : (bits .andNot .u64 a b).toNat.testBit i = (a.toNat.testBit i && !b.toNat.testBit i) := by
  rw [u64_andNot a b ha.1 ha.2 hb.1 hb.2, Int.toNat_natCast, Nat.testBit_and]
  have h64 : (2 : Nat) ^ 64 = 18446744073709551616 := by decide
  have e1 : 18446744073709551615 - b.toNat = 2 ^ 64 - (b.toNat + 1) := by omega
  rw [e1, Nat.testBit_two_pow_sub_succ (nat_lt hb)]
  simp [hi]
theorem or_bit_add {s : Int} (hs : U64 s) {i : Nat} (hi : i < 64) (h : s.toNat.testBit i = false) : bits .or .u64 s (oneS i) = s + oneS i ∧ U64 (s + oneS i) := by
  have hp : (2 : Nat) ^ i ≤ 2 ^ 63 := Nat.pow_le_pow_right (by decide) (by omega)
  have h63 : (2 : Nat) ^ 63 = 9223372036854775808 := by decide
  have hsl := nat_lt hs
  have h64 : (2 : Nat) ^ 64 = 18446744073709551616 := by decide
  have e1 : oneS i = ((2 ^ i : Nat) : Int) := by unfold oneS; rw [Int.toNat_natCast]
  have hand : BitVec.ofNat 64 s.toNat &&& BitVec.ofNat 64 (2 ^ i) = 0#64 := by
    apply BitVec.eq_of_toNat_eq
    rw [BitVec.toNat_and, BitVec.toNat_ofNat, BitVec.toNat_ofNat, Nat.mod_eq_of_lt hsl, Nat.mod_eq_of_lt (by omega)]
    apply Nat.eq_of_testBit_eq
    intro j
    rw [Nat.testBit_and, Nat.testBit_two_pow]
    by_cases hj : i = j
    · subst hj; rw [h]; simp
    · simp [hj]
  have hadd := BitVec.add_eq_or_of_and_eq_zero _ _ hand
  have hn := congrArg BitVec.toNat hadd
  rw [BitVec.toNat_add, BitVec.toNat_or, BitVec.toNat_ofNat, BitVec.toNat_ofNat, Nat.mod_eq_of_lt hsl, Nat.mod_eq_of_lt (show 2 ^ i < 2 ^ 64 by omega)] at hn
  have hge : s.toNat ≤ s.toNat ||| 2 ^ i := Nat.left_le_or
  have h2 : s.toNat + 2 ^ i = s.toNat ||| 2 ^ i := by
    by_cases hlt : s.toNat + 2 ^ i < 2 ^ 64
    · rw [Nat.mod_eq_of_lt hlt] at hn; exact hn
    · exfalso
      have : (s.toNat + 2 ^ i) % 2 ^ 64 = s.toNat + 2 ^ i - 2 ^ 64 := by
        rw [Nat.mod_eq_sub_mod (by omega), Nat.mod_eq_of_lt (by omega)]
      omega
  have hol : s.toNat ||| 2 ^ i < 2 ^ 64 := Nat.or_lt_two_pow hsl (by omega)
  have hs0 := hs.1
  constructor
  · rw [e1, u64_or s _ hs.1 hs.2 (by omega) (by omega), Int.toNat_natCast, ← h2]
    omega
  · rw [e1]; unfold U64; omega
theorem adR_end (al : List At) (s : Int) (hs : U64 s) (hu : ∀ x ∈ al, U64 x.1) : adR al s 64 = addsL al s := by
  unfold adR addsL listS
  rw [List.map_map]
  have hf : (List.range 64).filter (fun i => (bits BinOp.andNot IntKind.u64 (uniA al) s).toNat.testBit i) = (List.range 64).filter (condI al s) := by
    refine List.filter_congr fun i hi => ?_
    rw [andNot_bit (uniA_u al hu) hs (List.mem_range.1 hi), uni_bit al hu]; rfl
  rw [hf]
  refine List.map_congr_left fun i hi => ?_
  obtain ⟨h1, h2⟩ := List.mem_filter.1 hi
  have h3 : s.toNat.testBit i = false := by unfold condI at h2; simp at h2; exact h2.2
  show adE al s i = addE al s (i : Int)
  unfold adE addE
  rw [(or_bit_add hs (List.mem_range.1 h1) h3).1]
theorem val_grow {al : List At} {s : Int} (hs : U64 s) {i : Nat} (hi : i < 64) (h : s.toNat.testBit i = false) : valueL al s ≤ valueL al (s + oneS i) := by
  obtain ⟨h1, h2⟩ := or_bit_add hs hi h
  refine value_mono ((wth_iff _ _).2 fun j hj => ?_)
  rw [← h1, (or_u64 hs (oneS_lt ⟨by omega, by omega⟩).1).2, Nat.testBit_or, hj]; rfl
theorem inI_take (al : List At) (i k : Nat) (x : At) (hx : al[k]? = some x) : inI (al.take (k + 1)) i = (inI (al.take k) i || (rightA x && x.1.toNat.testBit i)) := by
  unfold inI
  rw [List.take_add_one, hx, List.any_append]
  simp
theorem one_l0 (n : Nat) (hn : n ≤ 63) : ∀ (d i : Nat), i + d = n → Ult (fun k => saleroomref02_One.l0 k (n : Int) (oneS i) (i : Int)) (oneS n) := by
  intro d
  induction d with
  | zero =>
    intro i hi
    refine Ult.succ ?_
    simp only [saleroomref02_One.l0]
    refine Ult.neg (by omega) (Ult.const ?_)
    rw [show i = n by omega]
  | succ d ih =>
    intro i hi
    refine Ult.succ ?_
    simp only [saleroomref02_One.l0]
    refine Ult.pos (by omega) ?_
    have e : IntKind.u64.wrap (oneS i * 2) = oneS ((i + 1 : Nat) : Int) := by
      have hp : (2 : Nat) ^ i ≤ 2 ^ 62 := Nat.pow_le_pow_right (by decide) (by omega)
      have h62 : (2 : Nat) ^ 62 = 4611686018427387904 := by decide
      unfold oneS
      rw [Int.toNat_natCast, Int.toNat_natCast, Nat.pow_succ, IntKind.wrap_u64]
      omega
    rw [e, show wrap64 ((i : Int) + 1) = ((i + 1 : Nat) : Int) by rw [w64 (by omega) (by omega)]; rfl]
    exact ih (i + 1) (by omega)
theorem one_ev (n : Nat) (hn : n ≤ 63) : Ult (fun k => saleroomref02_One.f k (n : Int)) (oneS n) := one_l0 n hn n 0 (by omega)
theorem rone_eq (n : Nat) (hn : n ≤ 63) (W : World) : Calls Tryd.prog 8 #[.int .i64 n] W fun e W' => e = .returned (.int .u64 (oneS n)) ∧ Below W.heap.size W W' := by
  obtain ⟨k, hk⟩ := (one_ev n hn).get
  exact (saleroomref02_One.calls k n _ W hk).mono fun e W' h => ⟨h.1, by first | exact h.2.below | exact h.2⟩
theorem rhas_eq (x : Int) (n : Nat) (r : Bool) (W : World) (hx : U64 x) (hn : n < 64) (h : x.toNat.testBit n = r) : Calls Tryd.prog 6 #[.int .u64 x, .int .i64 n] W fun e W' => e = .returned (.bool r) ∧ Below W.heap.size W W' := by
  subst h
  obtain ⟨k, hk⟩ := (has_item x n hx hn).get
  exact (saleroomref02_Has.calls k x n _ W hk).mono fun e W' h => ⟨h.1, by first | exact h.2.below | exact h.2⟩
theorem rright_eq (x : At) (r : Bool) (W : World) (h : rightA x = r) : Calls Tryd.prog 5 #[H.encA x] W fun e W' => e = .returned (.bool r) ∧ Below W.heap.size W W' := by
  subst h; exact (saleroomref09_Right.calls x.1 x.2 (rightA x) W (right_f x)).mono fun e W' h => ⟨h.1, by first | exact h.2.below | exact h.2⟩
theorem C_of9 {W : World} {A : Option Addr} {l : List At} (m : Kd.C KAt W A l.length l) : Kd.C k28 W A (l.map ofA).length (l.map ofA) := by
  rw [List.length_map]
  exact C_iso' (by
    have : ((l.map ofA).map fun x : SA => (x.f0, x.f1)) = l := to_of l
    rw [this]; exact m)
theorem rval_eq (al : List At) (A : Option Addr) (c : Nat) (s r : Int) (W : World) (hc : al.length ≤ c) (hC : Kd.C KAt W A al.length al) (hs : U64 s) (hu : ∀ x ∈ al, U64 x.1) (hl : al.length ≤ 600000) (h : valueL al s = r) :
    Calls Tryd.prog 7 #[.slice A al.length c, .int .u64 s] W fun e W' => e = .returned (.int .i64 r) ∧ Below W.heap.size W W' := by
  subst h
  obtain ⟨k, hk⟩ := (value_ev al s hs hu hl).get
  have h := saleroomref09_Value.calls k A c (al.map ofA) s _ W (C_of9 hC) (by rw [List.length_map]; exact hc) hk
  simp only [List.length_map] at h
  exact h.mono fun e W' h => ⟨h.1, by first | exact h.2.below | exact h.2⟩
end Go.Proofs.YtcnmbllafdeokaaDoor.H
/- The laws' arguments: rows of atoms. -/
namespace Go.Proofs.YtcnmbllafdeokaaDoor.R09
open Go.RowKit Go.Proofs.YtcnmbllafdeokaaDoorW.PrintWords Go.Proofs.YtcnmbllafdeokaaDoor.H Go.Proofs.YtcnmbllafdeokaaDoor.AtM Go.Proofs.YtcnmbllafdeokaaDoor.PAll9
set_option linter.unusedVariables false
set_option maxRecDepth 100000
theorem opensA : Opens Tryd.prog 28 KAt (fun x => (Lit.int .u64 x.1).wf = true ∧ (Lit.int .i64 x.2).wf = true) :=
  opens_struct Tryd.underlying28 (by kernel_rfl) (opens_cons rfl (by kernel_rfl) (opens_int Tryd.underlying23) (opens_last rfl (by kernel_rfl) (opens_int Tryd.underlying2)))
theorem opensAs : Opens Tryd.prog 22 (Kd.slice 28 KAt) (fun l => ∀ x ∈ l, (Lit.int .u64 x.1).wf = true ∧ (Lit.int .i64 x.2).wf = true) := opens_slice (0, 0) Tryd.underlying22 (by kernel_rfl) opensA
theorem goodA {l : List At} (g : ∀ x ∈ l, (Lit.int .u64 x.1).wf = true ∧ (Lit.int .i64 x.2).wf = true) : ∀ x ∈ l, U64 x.1 := fun x hx => wf_u64 (g x hx).1
theorem C_of {W : World} {A : Option Addr} {l : List At} (m : Kd.C KAt W A l.length l) : Kd.C k28 W A (l.map ofA).length (l.map ofA) := by
  rw [List.length_map]
  exact C_iso' (by
    have : ((l.map ofA).map fun x : SA => (x.f0, x.f1)) = l := to_of l
    rw [this]; exact m)
theorem and_mask (a : Int) (m : Nat) (hm : m < 9223372036854775808) : 0 ≤ bits .and .i64 a (m : Int) ∧ bits .and .i64 a (m : Int) ≤ m := by
  have e : bits .and .i64 a (m : Int) = IntKind.i64.wrap (((BitVec.ofInt 64 a) &&& (BitVec.ofInt 64 (m : Int))).toNat : Int) := rfl
  have hle : ((BitVec.ofInt 64 a) &&& (BitVec.ofInt 64 (m : Int))).toNat ≤ m := by
    rw [BitVec.ofInt_natCast, BitVec.toNat_and, BitVec.toNat_ofNat, Nat.mod_eq_of_lt (by omega : m < 2 ^ 64)]
    exact Nat.and_le_right
  rw [e, IntKind.wrap_i64]
  generalize ((BitVec.ofInt 64 a) &&& (BitVec.ofInt 64 (m : Int))).toNat = z at hle ⊢
  omega
end Go.Proofs.YtcnmbllafdeokaaDoor.R09
/- package table at uint64 keys and int64 values: trees in memory; join, even, put, find. -/
namespace Go.Proofs.YtcnmbllafdeokaaDoor.H
open Go.RowKit Go.Proofs.YtcnmbllafdeokaaDoorW.PrintWords Go.Proofs.YtcnmbllafdeokaaDoorW.PrintLast Go.Proofs.YtcnmbllafdeokaaDoorW.PrintMore Go.Proofs.YtcnmbllafdeokaaDoor.TrM Go.Proofs.YtcnmbllafdeokaaDoor.AtM
set_option linter.unusedVariables false
set_option linter.unusedSimpArgs false
set_option maxRecDepth 100000

abbrev TN := Tr Int Int
abbrev ndCells (k v : Int) (pl pr : Option Addr) (h s : Int) : Array Value := #[.int .u64 k, .int .i64 v, .pointer pl, .pointer pr, .int .i64 h, .int .i64 s]
/-- A tree in memory. -/
def TrAt (W : World) : Option Addr → TN → Prop
  | p, .lf => p = none
  | p, .nd k v l r => ∃ g pl pr, p = some ⟨g, 0, none⟩ ∧ W.heap[g]? = some (.cells (ndCells k v pl pr (hT (.nd k v l r)) (sT (.nd k v l r))) 75 (0, 0)) ∧ TrAt W pl l ∧ TrAt W pr r
theorem TrAt.mono {W W' : World} (hw : ∀ (g : Nat) (cs : Array Value), W.heap[g]? = some (.cells cs 75 (0, 0)) → W'.heap[g]? = some (.cells cs 75 (0, 0))) : ∀ {t : TN} {p : Option Addr}, TrAt W p t → TrAt W' p t := by
  intro t
  induction t with
  | lf => intro p h; exact h
  | nd k v l r hl hr =>
    rintro p ⟨g, pl, pr, e, hb, h1, h2⟩
    exact ⟨g, pl, pr, e, hw _ _ hb, hl h1, hr h2⟩
theorem TrAt.below {W W' : World} (hb : Below W.heap.size W W') {t : TN} {p : Option Addr} (h : TrAt W p t) : TrAt W' p t := h.mono (fun g cs hg => blk_belowX hg hb)
theorem TrAt.drew {W : World} {t : TN} {p : Option Addr} (h : TrAt W p t) : TrAt W.drew p t := by
  refine TrAt.mono (W := W) (W' := W.drew) (fun g cs hg => ?_) h
  exact hg
theorem TrAt.drewN {W : World} {t : TN} {p : Option Addr} (n : Nat) (h : TrAt W p t) : TrAt (W.drewN n) p t := by
  refine TrAt.mono (W := W) (W' := W.drewN n) (fun g cs hg => ?_) h
  exact hg
theorem quietL {P : Program} {f : FuncId} {args : Array Value} {w : World} {n : Nat} {v : Value}
    (h : Calls P f args (w.drewN n) fun e w' => e = .returned v ∧ w.drewN n = w') : Calls P f args (w.drewN n) fun e w'' => e = .returned v ∧ ∃ m, w'' = w.drewN m :=
  h.mono fun _ _ ⟨he, hm⟩ => ⟨he, n, hm.symm⟩
theorem nd_cells {W : World} {g : Nat} {k v : Int} {pl pr : Option Addr} {h s : Int} {t : TypeId} (hb : W.heap[g]? = some (.cells (ndCells k v pl pr h s) t (0, 0))) :
    W.cell? ⟨g, 0, none⟩ = some (.int .u64 k) ∧ W.cell? ⟨g, 1, none⟩ = some (.int .i64 v) ∧ W.cell? ⟨g, 2, none⟩ = some (.pointer pl) ∧ W.cell? ⟨g, 3, none⟩ = some (.pointer pr) ∧ W.cell? ⟨g, 4, none⟩ = some (.int .i64 h) ∧ W.cell? ⟨g, 5, none⟩ = some (.int .i64 s) := by
  refine ⟨?_, ?_, ?_, ?_, ?_, ?_⟩ <;> · rw [blk_cell hb]; rfl
theorem height_eq (p : Option Addr) (t : TN) (n : Int) (W : World) (h : TrAt W p t) (hn : (hT t : Int) = n) : Calls Tryd.prog 66 #[.pointer p] W fun e W' => e = .returned (.int .i64 n) ∧ W = W' := by
  subst hn
  cases t with
  | lf =>
    obtain rfl : p = none := h
    go_enter Tryd.func66, Tryd.ntmps66
    go_wp2
    go_ret
    exact ⟨rfl, rfl⟩
  | nd k v l r =>
    obtain ⟨g, pl, pr, rfl, hb, _, _⟩ := h
    obtain ⟨z0, z1, z2, z3, z4, z5⟩ := nd_cells hb
    clear hb
    go_enter Tryd.func66, Tryd.ntmps66
    go_wp2
    go_ret
    exact ⟨rfl, rfl⟩
theorem size_eq (p : Option Addr) (t : TN) (n : Int) (W : World) (h : TrAt W p t) (hn : (sT t : Int) = n) : Calls Tryd.prog 67 #[.pointer p] W fun e W' => e = .returned (.int .i64 n) ∧ W = W' := by
  subst hn
  cases t with
  | lf =>
    obtain rfl : p = none := h
    go_enter Tryd.func67, Tryd.ntmps67
    go_wp2
    go_ret
    exact ⟨rfl, rfl⟩
  | nd k v l r =>
    obtain ⟨g, pl, pr, rfl, hb, _, _⟩ := h
    obtain ⟨z0, z1, z2, z3, z4, z5⟩ := nd_cells hb
    clear hb
    go_enter Tryd.func67, Tryd.ntmps67
    go_wp2
    go_ret
    exact ⟨rfl, rfl⟩
set_option maxHeartbeats 800000 in
theorem join_calls (k v : Int) (pl pr : Option Addr) (l r : TN) (W : World) (hl : TrAt W pl l) (hr : TrAt W pr r) (hs : sT l + sT r ≤ 1000000) :
    Calls Tryd.prog 51 #[.int .u64 k, .int .i64 v, .pointer pl, .pointer pr] W fun e W' => ∃ p, e = .returned (.pointer p) ∧ TrAt W' p (.nd k v l r) ∧ Below W.heap.size W W' := by
  obtain ⟨h1, hh1⟩ : ∃ n : Int, (hT l : Int) = n := ⟨_, rfl⟩
  obtain ⟨h2, hh2⟩ : ∃ n : Int, (hT r : Int) = n := ⟨_, rfl⟩
  obtain ⟨s1, hs1⟩ : ∃ n : Int, (sT l : Int) = n := ⟨_, rfl⟩
  obtain ⟨s2, hs2⟩ : ∃ n : Int, (sT r : Int) = n := ⟨_, rfl⟩
  have b1 := hT_le l
  have b2 := hT_le r
  have k1 : 0 ≤ h1 := by omega
  have k2 : h1 ≤ 1000000 := by omega
  have k3 : 0 ≤ h2 := by omega
  have k4 : h2 ≤ 1000000 := by omega
  have k5 : 0 ≤ s1 := by omega
  have k6 : s1 ≤ 1000000 := by omega
  have k7 : 0 ≤ s2 := by omega
  have k8 : s2 ≤ 1000000 := by omega
  have H := Aside0.mk (And.intro hl (And.intro hr (And.intro hh1 (And.intro hh2 (And.intro hs1 hs2)))))
  clear hl hr hh1 hh2 hs1 hs2 b1 b2 hs
  go_enter Tryd.func51, Tryd.ntmps51
  go_wp2_with (first
    | ((with_reducible refine (height_eq pl l h1 _ H.out.1 H.out.2.2.1).mono ?_); rintro e w' ⟨rfl, rfl⟩)
    | ((with_reducible refine (height_eq pr r h2 _ H.out.2.1 H.out.2.2.2.1).mono ?_); rintro e w' ⟨rfl, rfl⟩)
    | ((with_reducible refine (size_eq pl l s1 _ H.out.1 H.out.2.2.2.2.1).mono ?_); rintro e w' ⟨rfl, rfl⟩)
    | ((with_reducible refine (size_eq pr r s2 _ H.out.2.1 H.out.2.2.2.2.2).mono ?_); rintro e w' ⟨rfl, rfl⟩))
  all_goals
    go_ret
    obtain ⟨q1, q2, q3, q4, q5, q6⟩ := H.out
    have hb : Below W.heap.size W (W.alloc (.cells #[] 0)) := below_alloc (Below.refl _ _) _
    refine ⟨_, rfl, ⟨W.heap.size, pl, pr, rfl, ?_, q1.below (below_alloc (Below.refl _ _) _), q2.below (below_alloc (Below.refl _ _) _)⟩, below_alloc (Below.refl _ _) _⟩
    rw [blk_new]
    have e2 : ((sT (Tr.nd k v l r) : Nat) : Int) = s1 + s2 + 1 := by simp only [sT]; omega
    rw [e2]
    first
      | (have e1 : ((hT (Tr.nd k v l r) : Nat) : Int) = h1 + 1 := (by simp only [hT]; omega); rw [e1])
      | (have e1 : ((hT (Tr.nd k v l r) : Nat) : Int) = h2 + 1 := (by simp only [hT]; omega); rw [e1])
set_option maxHeartbeats 800000 in
theorem lean_eq (p : Option Addr) (k v : Int) (l r : TN) (n : Int) (W : World) (h : TrAt W p (.nd k v l r)) (hn : (hT l : Int) - hT r = n) (hs : sT l + sT r ≤ 1000000) :
    Calls Tryd.prog 68 #[.pointer p] W fun e W' => e = .returned (.int .i64 n) ∧ Below W.heap.size W W' := by
  subst hn
  obtain ⟨g, pl, pr, rfl, hb, h1, h2⟩ := h
  obtain ⟨z0, z1, z2, z3, z4, z5⟩ := nd_cells hb
  obtain ⟨n1, hn1⟩ : ∃ n : Int, (hT l : Int) = n := ⟨_, rfl⟩
  obtain ⟨n2, hn2⟩ : ∃ n : Int, (hT r : Int) = n := ⟨_, rfl⟩
  have b1 := hT_le l
  have b2 := hT_le r
  have k1 : 0 ≤ n1 := by omega
  have k2 : n1 ≤ 1000000 := by omega
  have k3 : 0 ≤ n2 := by omega
  have k4 : n2 ≤ 1000000 := by omega
  have hw : IntKind.i64.wrap (n1 - n2) = n1 - n2 := by rw [IntKind.wrap_i64]; omega
  have H := Aside0.mk (And.intro h1 (And.intro h2 (And.intro hn1 hn2)))
  rw [hn1, hn2]
  clear h1 h2 hn1 hn2 hb b1 b2 hs
  go_enter Tryd.func68, Tryd.ntmps68
  go_wp2
  go_quiet ((first | (go_at_call_of 66 (Value.pointer pl); with_reducible exact quietL (height_eq pl l n1 _ (TrAt.drewN _ H.out.1) H.out.2.2.1)) | (go_at_call_of 66 (Value.pointer pr); with_reducible exact quietL (height_eq pr r n2 _ (TrAt.drewN _ H.out.2.1) H.out.2.2.2))))
  go_wp2
  go_ret
  exact ⟨rfl, pw_below_drewN (Below.refl _ _) _⟩
theorem nd_keep {W : World} {g : Nat} {k v : Int} {pl pr : Option Addr} {h s : Int} {t : TypeId} (hb : W.heap[g]? = some (.cells (ndCells k v pl pr h s) t (0, 0))) :
    W.cell? ⟨g, 0, none⟩ = some (.int .u64 k) ∧ W.cell? ⟨g, 1, none⟩ = some (.int .i64 v) ∧ W.cell? ⟨g, 2, none⟩ = some (.pointer pl) ∧ W.cell? ⟨g, 3, none⟩ = some (.pointer pr) := by
  obtain ⟨a, b, c, d, _⟩ := nd_cells hb; exact ⟨a, b, c, d⟩
set_option maxHeartbeats 1600000 in
theorem turnR_calls (p : Option Addr) (k v k' v' : Int) (l' r' r : TN) (W : World) (h : TrAt W p (.nd k v (.nd k' v' l' r') r)) (hs : sT l' + sT r' + sT r ≤ 900000) :
    Calls Tryd.prog 69 #[.pointer p] W fun e W' => ∃ p, e = .returned (.pointer p) ∧ TrAt W' p (.nd k' v' l' (.nd k v r' r)) ∧ Below W.heap.size W W' := by
  obtain ⟨g, _, pr, rfl, hb, ⟨g', pl', pr', rfl, hb', h3, h4⟩, h2⟩ := h
  obtain ⟨z0, z1, z2, z3, z4, z5⟩ := nd_cells hb
  obtain ⟨y0, y1, y2, y3, y4, y5⟩ := nd_cells hb'
  have hg := lt_of_some hb
  have hg' := lt_of_some hb'
  have H := Aside0.mk (And.intro h2 (And.intro h3 (And.intro h4 (And.intro hb hb'))))
  clear h2 h3 h4 hb hb'
  go_enter Tryd.func69, Tryd.ntmps69
  go_wp2_with (fail)
  go_region_held3 (fun w' => (w'.cell? ⟨g, 0, none⟩ = some (.int .u64 k) ∧ w'.cell? ⟨g, 1, none⟩ = some (.int .i64 v) ∧ w'.cell? ⟨g, 2, none⟩ = some (.pointer (some ⟨g', 0, none⟩)) ∧ w'.cell? ⟨g, 3, none⟩ = some (.pointer pr)) ∧ (w'.cell? ⟨g', 0, none⟩ = some (.int .u64 k') ∧ w'.cell? ⟨g', 1, none⟩ = some (.int .i64 v') ∧ w'.cell? ⟨g', 2, none⟩ = some (.pointer pl') ∧ w'.cell? ⟨g', 3, none⟩ = some (.pointer pr'))) (first | (with_reducible exact KK.out) | go_keep)
    (first
      | (go_at_call 51; have KZ := H; refine (join_calls k v pr' pr r' r _ ?a1 ?a2 (by omega)).mono ?_; (case a1 => exact H.out.2.2.1.drew); (case a2 => exact H.out.1.drew); rintro e w1 ⟨p1, rfl, ht1, hb1'⟩; have hb1 : Below W.heap.size W w1 := ⟨hb1'.os, hb1'.tape, hb1'.output, hb1'.size, hb1'.block⟩; have KK := Aside0.mk (And.intro (nd_keep (blk_belowX H.out.2.2.2.1 hb1)) (nd_keep (blk_belowX H.out.2.2.2.2 hb1))); have H1 := Aside0.mk (And.intro ht1 (And.intro hb1 (And.intro (H.out.1.below hb1) (And.intro (H.out.2.1.below hb1) (And.intro (H.out.2.2.1.below hb1) (And.intro (blk_belowX H.out.2.2.2.1 hb1) (blk_belowX H.out.2.2.2.2 hb1))))))); clear ht1 hb1 hb1' H KZ)
      | (go_at_call 51; have KZ := H1; refine (join_calls k' v' pl' p1 l' (.nd k v r' r) _ ?a1 ?a2 (by simp only [sT]; omega)).mono ?_; (case a1 => exact H1.out.2.2.2.1); (case a2 => exact H1.out.1); rintro e w2 ⟨p2, rfl, ht2, hb2⟩; have KK := Aside0.mk (And.intro (nd_keep (blk_belowX H1.out.2.2.2.2.2.1 hb2)) (nd_keep (blk_belowX H1.out.2.2.2.2.2.2 hb2))); have H2 := Aside0.mk (And.intro ht2 (below_step H1.out.2.1 hb2)); clear ht2 hb2 KZ))
  all_goals
    go_wp2
    go_ret
    exact ⟨p2, rfl, H2.out⟩
set_option maxHeartbeats 1600000 in
theorem turnL_calls (p : Option Addr) (k v k' v' : Int) (l' r' r : TN) (W : World) (h : TrAt W p (.nd k v r (.nd k' v' l' r'))) (hs : sT l' + sT r' + sT r ≤ 900000) :
    Calls Tryd.prog 70 #[.pointer p] W fun e W' => ∃ p, e = .returned (.pointer p) ∧ TrAt W' p (.nd k' v' (.nd k v r l') r') ∧ Below W.heap.size W W' := by
  obtain ⟨g, pr, _, rfl, hb, h2, ⟨g', pl', pr', rfl, hb', h3, h4⟩⟩ := h
  obtain ⟨z0, z1, z2, z3, z4, z5⟩ := nd_cells hb
  obtain ⟨y0, y1, y2, y3, y4, y5⟩ := nd_cells hb'
  have hg := lt_of_some hb
  have hg' := lt_of_some hb'
  have H := Aside0.mk (And.intro h2 (And.intro h3 (And.intro h4 (And.intro hb hb'))))
  clear h2 h3 h4 hb hb'
  go_enter Tryd.func70, Tryd.ntmps70
  go_wp2_with (fail)
  go_region_held3 (fun w' => (w'.cell? ⟨g, 0, none⟩ = some (.int .u64 k) ∧ w'.cell? ⟨g, 1, none⟩ = some (.int .i64 v) ∧ w'.cell? ⟨g, 2, none⟩ = some (.pointer pr) ∧ w'.cell? ⟨g, 3, none⟩ = some (.pointer (some ⟨g', 0, none⟩))) ∧ (w'.cell? ⟨g', 0, none⟩ = some (.int .u64 k') ∧ w'.cell? ⟨g', 1, none⟩ = some (.int .i64 v') ∧ w'.cell? ⟨g', 2, none⟩ = some (.pointer pl') ∧ w'.cell? ⟨g', 3, none⟩ = some (.pointer pr'))) (first | (with_reducible exact KK.out) | go_keep)
    (first
      | (go_at_call 51; have KZ := H; refine (join_calls k v pr pl' r l' _ ?a1 ?a2 (by omega)).mono ?_; (case a1 => exact H.out.1.drew); (case a2 => exact H.out.2.1.drew); rintro e w1 ⟨p1, rfl, ht1, hb1'⟩; have hb1 : Below W.heap.size W w1 := ⟨hb1'.os, hb1'.tape, hb1'.output, hb1'.size, hb1'.block⟩; have KK := Aside0.mk (And.intro (nd_keep (blk_belowX H.out.2.2.2.1 hb1)) (nd_keep (blk_belowX H.out.2.2.2.2 hb1))); have H1 := Aside0.mk (And.intro ht1 (And.intro hb1 (And.intro (H.out.1.below hb1) (And.intro (H.out.2.1.below hb1) (And.intro (H.out.2.2.1.below hb1) (And.intro (blk_belowX H.out.2.2.2.1 hb1) (blk_belowX H.out.2.2.2.2 hb1))))))); clear ht1 hb1 hb1' H KZ)
      | (go_at_call 51; have KZ := H1; refine (join_calls k' v' p1 pr' (.nd k v r l') r' _ ?a1 ?a2 (by simp only [sT]; omega)).mono ?_; (case a1 => exact H1.out.1); (case a2 => exact H1.out.2.2.2.2.1); rintro e w2 ⟨p2, rfl, ht2, hb2⟩; have KK := Aside0.mk (And.intro (nd_keep (blk_belowX H1.out.2.2.2.2.2.1 hb2)) (nd_keep (blk_belowX H1.out.2.2.2.2.2.2 hb2))); have H2 := Aside0.mk (And.intro ht2 (below_step H1.out.2.1 hb2)); clear ht2 hb2 KZ))
  all_goals
    go_wp2
    go_ret
    exact ⟨p2, rfl, H2.out⟩
end Go.Proofs.YtcnmbllafdeokaaDoor.H
/- package table at uint64 keys and int64 values: even. -/
namespace Go.Proofs.YtcnmbllafdeokaaDoor.H
open Go.RowKit Go.Proofs.YtcnmbllafdeokaaDoorW.PrintWords Go.Proofs.YtcnmbllafdeokaaDoorW.PrintLast Go.Proofs.YtcnmbllafdeokaaDoorW.PrintMore Go.Proofs.YtcnmbllafdeokaaDoor.TrM Go.Proofs.YtcnmbllafdeokaaDoor.AtM
set_option linter.unusedVariables false
set_option linter.unusedSimpArgs false
set_option maxRecDepth 100000

theorem sT_turnR (t : TN) : sT (turnR t) = sT t := by rw [sT_flat, sT_flat, flat_turnR]
theorem sT_turnL (t : TN) : sT (turnL t) = sT t := by rw [sT_flat, sT_flat, flat_turnL]
/-- What abides in even. -/
structure EV (W : World) (p1 pl pr : Option Addr) (tn l r : TN) (w : World) : Prop where
  n : TrAt w p1 tn
  l : TrAt w pl l
  r : TrAt w pr r
  b : Below W.heap.size W w
theorem EV.step {W : World} {p1 pl pr : Option Addr} {tn l r : TN} {w w' : World} (h : EV W p1 pl pr tn l r w) (hb : Below w.heap.size w w') : EV W p1 pl pr tn l r w' := ⟨h.n.below hb, h.l.below hb, h.r.below hb, below_step h.b hb⟩
set_option maxHeartbeats 3200000 in
theorem even_calls (k v : Int) (pl pr : Option Addr) (l r : TN) (W : World) (hl : TrAt W pl l) (hr : TrAt W pr r) (hs : sT l + sT r ≤ 800000) :
    Calls Tryd.prog 52 #[.int .u64 k, .int .i64 v, .pointer pl, .pointer pr] W fun e W' => ∃ p, e = .returned (.pointer p) ∧ TrAt W' p (evenT k v l r) ∧ Below W.heap.size W W' := by
  obtain ⟨d, hd⟩ : ∃ d : Int, (hT l : Int) - hT r = d := ⟨_, rfl⟩
  have hx : evenT k v l r = if d > 1 then (if leanT l < 0 then turnR (.nd k v (turnL l) r) else turnR (.nd k v l r)) else if d < -1 then (if leanT r > 0 then turnL (.nd k v l (turnR r)) else turnL (.nd k v l r)) else .nd k v l r := by unfold evenT; rw [hd]
  have H := Aside0.mk (And.intro hl (And.intro hr hx))
  have HS := Lib.hid (show sT l + sT r ≤ 1000000 by omega)
  have HSS := Lib.hid hs
  clear hl hr hx hs
  by_cases c1 : d > 1
  · have hx := H.out.2.2
    rw [if_pos c1] at hx
    obtain ⟨a, b, ll, lr, rfl⟩ := hT_pos (t := l) (by omega)
    obtain ⟨d2, hd2⟩ : ∃ d : Int, (hT ll : Int) - hT lr = d := ⟨_, rfl⟩
    have hln : leanT (Tr.nd a b ll lr) = d2 := hd2
    rw [hln] at hx
    have b0 : decide (1 < d) = true := decide_eq_true c1
    have HD := Lib.hid hd
    have hs2 : sT ll + sT lr + 1 + sT r ≤ 800000 := HSS.out
    have HS2 := Lib.hid (show sT ll + sT lr ≤ 1000000 by omega)
    by_cases c2 : d2 < 0
    · rw [if_pos c2] at hx
      obtain ⟨a', b', l', r', rfl⟩ := hT_pos (t := lr) (by omega)
      have b1 : decide (d2 < 0) = true := decide_eq_true c2
      have HX := Lib.hid hx
      have HD2 := Lib.hid hd2
      have hs3 : sT ll + (sT l' + sT r' + 1) + 1 + sT r ≤ 800000 := hs2
      clear hx hd hd2 hln c1 c2 hs2
      go_enter Tryd.func52, Tryd.ntmps52
      go_wp2_with (fail)
      refine (join_calls k v pl pr _ r _ H.out.1 H.out.2.1 HS.out).mono ?_
      rintro e w1 ⟨p1, rfl, ht1, hb1⟩
      have HE := Aside0.mk (EV.mk (p1 := p1) ht1 (H.out.1.below hb1) (H.out.2.1.below hb1) hb1)
      clear ht1 hb1
      go_wp2_with (first | (go_at_call_of 68 (Value.pointer p1); refine (lean_eq p1 k v _ _ d _ HE.out.n HD.out HS.out).mono ?_; rintro e w' ⟨rfl, hb⟩; have HE := Aside0.mk (HE.out.step hb); clear hb) | (go_at_call_of 68 (Value.pointer pl); refine (lean_eq pl _ _ _ _ d2 _ HE.out.l HD2.out HS2.out).mono ?_; rintro e w' ⟨rfl, hb⟩; have HE := Aside0.mk (HE.out.step hb); clear hb))
      refine (turnL_calls pl a b a' b' l' r' ll _ HE.out.l (by omega)).mono ?_
      rintro e w2 ⟨p2, rfl, ht2, hb2⟩
      have HE2 := Aside0.mk (And.intro (HE.out.step hb2) ht2)
      clear ht2 hb2
      go_wp2_with (fail)
      refine (join_calls k v p2 pr _ r _ HE2.out.2 HE2.out.1.r (by simp only [sT]; omega)).mono ?_
      rintro e w3 ⟨p3, rfl, ht3, hb3⟩
      have HE3 := Aside0.mk (And.intro (HE2.out.1.step hb3) ht3)
      clear ht3 hb3
      go_wp2_with (fail)
      refine (turnR_calls p3 k v a' b' (.nd a b ll l') r' r _ HE3.out.2 (by simp only [sT]; omega)).mono ?_
      rintro e w4 ⟨p4, rfl, ht4, hb4⟩
      have HE4 := Aside0.mk (And.intro (HE3.out.1.step hb4) ht4)
      clear ht4 hb4
      go_wp2
      go_ret
      rw [HX.out]
      exact ⟨p4, rfl, HE4.out.2, HE4.out.1.b⟩
    · rw [if_neg c2] at hx
      have b1 : decide (d2 < 0) = false := decide_eq_false c2
      have HX := Lib.hid hx
      have HD2 := Lib.hid hd2
      clear hx hd hd2 hln c1 c2
      go_enter Tryd.func52, Tryd.ntmps52
      go_wp2_with (fail)
      refine (join_calls k v pl pr _ r _ H.out.1 H.out.2.1 HS.out).mono ?_
      rintro e w1 ⟨p1, rfl, ht1, hb1⟩
      have HE := Aside0.mk (EV.mk (p1 := p1) ht1 (H.out.1.below hb1) (H.out.2.1.below hb1) hb1)
      clear ht1 hb1
      go_wp2_with (first | (go_at_call_of 68 (Value.pointer p1); refine (lean_eq p1 k v _ _ d _ HE.out.n HD.out HS.out).mono ?_; rintro e w' ⟨rfl, hb⟩; have HE := Aside0.mk (HE.out.step hb); clear hb) | (go_at_call_of 68 (Value.pointer pl); refine (lean_eq pl _ _ _ _ d2 _ HE.out.l HD2.out HS2.out).mono ?_; rintro e w' ⟨rfl, hb⟩; have HE := Aside0.mk (HE.out.step hb); clear hb))
      refine (turnR_calls p1 k v a b ll lr r _ HE.out.n (by omega)).mono ?_
      rintro e w4 ⟨p4, rfl, ht4, hb4⟩
      have HE4 := Aside0.mk (And.intro (HE.out.step hb4) ht4)
      clear ht4 hb4
      go_wp2
      go_ret
      rw [HX.out]
      exact ⟨p4, rfl, HE4.out.2, HE4.out.1.b⟩
  · have hx := H.out.2.2
    rw [if_neg c1] at hx
    have b0 : decide (1 < d) = false := decide_eq_false c1
    have HD := Lib.hid hd
    by_cases c3 : d < -1
    · rw [if_pos c3] at hx
      obtain ⟨a, b, rl, rr, rfl⟩ := hT_pos (t := r) (by omega)
      obtain ⟨d2, hd2⟩ : ∃ d : Int, (hT rl : Int) - hT rr = d := ⟨_, rfl⟩
      have hln : leanT (Tr.nd a b rl rr) = d2 := hd2
      rw [hln] at hx
      have b3 : decide (d < -1) = true := decide_eq_true c3
      have hs2 : sT l + (sT rl + sT rr + 1) ≤ 800000 := HSS.out
      have HS2 := Lib.hid (show sT rl + sT rr ≤ 1000000 by omega)
      by_cases c2 : d2 > 0
      · rw [if_pos c2] at hx
        obtain ⟨a', b', l', r', rfl⟩ := hT_pos (t := rl) (by omega)
        have b1 : decide (0 < d2) = true := decide_eq_true c2
        have HX := Lib.hid hx
        have HD2 := Lib.hid hd2
        have hs3 : sT l + (sT l' + sT r' + 1 + sT rr + 1) ≤ 800000 := hs2
        clear hx hd hd2 hln c1 c2 c3 hs2
        go_enter Tryd.func52, Tryd.ntmps52
        go_wp2_with (fail)
        refine (join_calls k v pl pr l _ _ H.out.1 H.out.2.1 HS.out).mono ?_
        rintro e w1 ⟨p1, rfl, ht1, hb1⟩
        have HE := Aside0.mk (EV.mk (p1 := p1) ht1 (H.out.1.below hb1) (H.out.2.1.below hb1) hb1)
        clear ht1 hb1
        go_wp2_with (first | (go_at_call_of 68 (Value.pointer p1); refine (lean_eq p1 k v _ _ d _ HE.out.n HD.out HS.out).mono ?_; rintro e w' ⟨rfl, hb⟩; have HE := Aside0.mk (HE.out.step hb); clear hb) | (go_at_call_of 68 (Value.pointer pr); refine (lean_eq pr _ _ _ _ d2 _ HE.out.r HD2.out HS2.out).mono ?_; rintro e w' ⟨rfl, hb⟩; have HE := Aside0.mk (HE.out.step hb); clear hb))
        refine (turnR_calls pr a b a' b' l' r' rr _ HE.out.r (by omega)).mono ?_
        rintro e w2 ⟨p2, rfl, ht2, hb2⟩
        have HE2 := Aside0.mk (And.intro (HE.out.step hb2) ht2)
        clear ht2 hb2
        go_wp2_with (fail)
        refine (join_calls k v pl p2 l _ _ HE2.out.1.l HE2.out.2 (by simp only [sT]; omega)).mono ?_
        rintro e w3 ⟨p3, rfl, ht3, hb3⟩
        have HE3 := Aside0.mk (And.intro (HE2.out.1.step hb3) ht3)
        clear ht3 hb3
        go_wp2_with (fail)
        refine (turnL_calls p3 k v a' b' l' (.nd a b r' rr) l _ HE3.out.2 (by simp only [sT]; omega)).mono ?_
        rintro e w4 ⟨p4, rfl, ht4, hb4⟩
        have HE4 := Aside0.mk (And.intro (HE3.out.1.step hb4) ht4)
        clear ht4 hb4
        go_wp2
        go_ret
        rw [HX.out]
        exact ⟨p4, rfl, HE4.out.2, HE4.out.1.b⟩
      · rw [if_neg c2] at hx
        have b1 : decide (0 < d2) = false := decide_eq_false c2
        have HX := Lib.hid hx
        have HD2 := Lib.hid hd2
        clear hx hd hd2 hln c1 c2 c3
        go_enter Tryd.func52, Tryd.ntmps52
        go_wp2_with (fail)
        refine (join_calls k v pl pr l _ _ H.out.1 H.out.2.1 HS.out).mono ?_
        rintro e w1 ⟨p1, rfl, ht1, hb1⟩
        have HE := Aside0.mk (EV.mk (p1 := p1) ht1 (H.out.1.below hb1) (H.out.2.1.below hb1) hb1)
        clear ht1 hb1
        go_wp2_with (first | (go_at_call_of 68 (Value.pointer p1); refine (lean_eq p1 k v _ _ d _ HE.out.n HD.out HS.out).mono ?_; rintro e w' ⟨rfl, hb⟩; have HE := Aside0.mk (HE.out.step hb); clear hb) | (go_at_call_of 68 (Value.pointer pr); refine (lean_eq pr _ _ _ _ d2 _ HE.out.r HD2.out HS2.out).mono ?_; rintro e w' ⟨rfl, hb⟩; have HE := Aside0.mk (HE.out.step hb); clear hb))
        refine (turnL_calls p1 k v a b rl rr l _ HE.out.n (by omega)).mono ?_
        rintro e w4 ⟨p4, rfl, ht4, hb4⟩
        have HE4 := Aside0.mk (And.intro (HE.out.step hb4) ht4)
        clear ht4 hb4
        go_wp2
        go_ret
        rw [HX.out]
        exact ⟨p4, rfl, HE4.out.2, HE4.out.1.b⟩
    · rw [if_neg c3] at hx
      have b3 : decide (d < -1) = false := decide_eq_false c3
      have HX := Lib.hid hx
      clear hx hd c1 c3
      go_enter Tryd.func52, Tryd.ntmps52
      go_wp2_with (fail)
      refine (join_calls k v pl pr l r _ H.out.1 H.out.2.1 HS.out).mono ?_
      rintro e w1 ⟨p1, rfl, ht1, hb1⟩
      have HE := Aside0.mk (EV.mk (p1 := p1) ht1 (H.out.1.below hb1) (H.out.2.1.below hb1) hb1)
      clear ht1 hb1
      go_wp2_with ((go_at_call_of 68 (Value.pointer p1); refine (lean_eq p1 k v _ _ d _ HE.out.n HD.out HS.out).mono ?_; rintro e w' ⟨rfl, hb⟩; have HE := Aside0.mk (HE.out.step hb); clear hb))
      go_ret
      rw [HX.out]
      exact ⟨p1, rfl, HE.out.n, HE.out.b⟩
end Go.Proofs.YtcnmbllafdeokaaDoor.H
