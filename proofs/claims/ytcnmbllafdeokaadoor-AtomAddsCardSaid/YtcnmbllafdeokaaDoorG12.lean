/- Some texts of one seat in one file, in build order. -/
import Derived.Test.YtcnmbllafdeokaaDoorG3
import Derived.Test.YtcnmbllafdeokaaDoorG1
import Derived.Laws.BitsAllLaws
import Derived.Laws.Bits128
import Derived.Test.YtcnmbllafdeokaaDoorG11
import Derived.Shelf.SlGeneric
import Derived.Shelf.SlSortCmp.PivotK
import Derived.Ground.SlsfProg
import Derived.Test.YtcnmbllafdeokaaDoorProg
import Derived.Test.YtcnmbllafdeokaaDoorG5
import Derived.Test.YtcnmbllafdeokaaDoorG4
import Derived.Test.YtcnmbllafdeokaaDoorG6
/- math/bits.OnesCount64: the plain law of the count, byte by byte. No program. -/
namespace Go.Proofs.YtcnmbllafdeokaaDoor.On
set_option linter.unusedVariables false
set_option linter.unusedSimpArgs false
open Go.Proofs.YtcnmbllafdeokaaDoor.TrM Go.Proofs.YtcnmbllafdeokaaDoor.AtM
def pc8 (y : Nat) : Nat := y%2 + y/2%2 + y/4%2 + y/8%2 + y/16%2 + y/32%2 + y/64%2 + y/128%2
theorem and_split (a b c d : Nat) (hb : b < 256) (hd : d < 256) : (256*a+b) &&& (256*c+d) = 256*(a &&& c) + (b &&& d) := by
  have h : (256*a+b) &&& (256*c+d) = 256*(((256*a+b) &&& (256*c+d))/256) + ((256*a+b) &&& (256*c+d)) % 256 := by omega
  rw [h]
  have h1 : ((256*a+b) &&& (256*c+d))/256 = a &&& c := by
    have : (256:Nat) = 2^8 := rfl
    rw [this, Nat.and_div_two_pow]
    congr 1 <;> omega
  have h2 : ((256*a+b) &&& (256*c+d)) % 256 = b &&& d := by
    have : (256:Nat) = 2^8 := rfl
    rw [this, Nat.and_mod_two_pow]
    congr 1 <;> omega
  rw [h1, h2]
def M (d : Nat) : Nat → Nat
  | 0 => 0
  | k+1 => 256 * M d k + d
def A (k x : Nat) : Nat := (x/2 &&& M 0x55 k) + (x &&& M 0x55 k)
def B (k x : Nat) : Nat := (A k x/4 &&& M 0x33 k) + (A k x &&& M 0x33 k)
def C (k x : Nat) : Nat := (B k x/16 + B k x) &&& M 0x0f k
def a8 (y : Nat) : Nat := (y/2 &&& 0x55) + (y &&& 0x55)
def b8 (y : Nat) : Nat := (a8 y/4 &&& 0x33) + (a8 y &&& 0x33)
def c8 (y : Nat) : Nat := (b8 y/16 + b8 y) &&& 0x0f
set_option maxRecDepth 100000
theorem M_succ (d k : Nat) : M d (k+1) = 256 * M d k + d := rfl
theorem dec1 : ∀ y : Fin 256, c8 y.1 = pc8 y.1 ∧ a8 y.1 < 256 ∧ b8 y.1 < 69 ∧ (128 + y.1/2) &&& 0x55 = y.1/2 &&& 0x55 ∧ pc8 y.1 ≤ 8 ∧ b8 y.1 % 16 ≤ 4 := by decide
theorem dec2 : ∀ j : Fin 4, ∀ y : Fin 256, (64*j.1 + y.1/4) &&& 0x33 = y.1/4 &&& 0x33 := by decide
theorem and15 (n : Nat) : n &&& 15 = n % 16 := Nat.and_two_pow_sub_one_eq_mod n 4
theorem A_step (k h y : Nat) (hy : y < 256) : A (k+1) (256*h+y) = 256 * A k h + a8 y := by
  unfold A a8
  rw [M_succ]
  have e : (256*h+y)/2 = 256*(h/2) + (128*(h%2) + y/2) := by omega
  rw [e, and_split _ _ _ _ (by omega) (by omega), and_split _ _ _ _ hy (by omega)]
  have e2 : (128*(h%2) + y/2) &&& 0x55 = y/2 &&& 0x55 := by
    rcases Nat.mod_two_eq_zero_or_one h with hh | hh
    · rw [hh]; simp
    · rw [hh]; exact (dec1 ⟨y, hy⟩).2.2.2.1
  rw [e2]; omega
theorem B_step (k h y : Nat) (hy : y < 256) : B (k+1) (256*h+y) = 256 * B k h + b8 y := by
  have ha : a8 y < 256 := (dec1 ⟨y, hy⟩).2.1
  unfold B b8
  rw [A_step k h y hy, M_succ]
  generalize A k h = a at *
  generalize a8 y = z at *
  have e : (256*a+z)/4 = 256*(a/4) + (64*(a%4) + z/4) := by omega
  rw [e, and_split _ _ _ _ (by omega) (by omega), and_split _ _ _ _ ha (by omega)]
  have e2 : (64*(a%4) + z/4) &&& 0x33 = z/4 &&& 0x33 := dec2 ⟨a%4, by omega⟩ ⟨z, ha⟩
  rw [e2]; omega
theorem B_nib (k h : Nat) : B k h % 16 ≤ 4 := by
  cases k with
  | zero => simp [B, A, M]
  | succ k =>
    have hh : h = 256*(h/256) + h%256 := by omega
    rw [hh, B_step k _ _ (by omega)]
    have := (dec1 ⟨h%256, by omega⟩).2.2.2.2.2
    simp only at this
    omega
theorem C_step (k h y : Nat) (hy : y < 256) : C (k+1) (256*h+y) = 256 * C k h + pc8 y := by
  have hb : b8 y < 69 := (dec1 ⟨y, hy⟩).2.2.1
  have hc : c8 y = pc8 y := (dec1 ⟨y, hy⟩).1
  have hn := B_nib k h
  rw [← hc]
  unfold C c8
  rw [B_step k h y hy, M_succ]
  generalize B k h = b at *
  generalize b8 y = z at *
  have e : (256*b+z)/16 + (256*b+z) = 256*(b/16+b) + (16*(b%16) + z/16 + z) := by omega
  rw [e, and_split _ _ _ _ (by omega) (by omega), and15, and15]
  omega
theorem C_step' (k x : Nat) : C (k+1) x = 256 * C k (x/256) + pc8 (x%256) := by
  have hh : x = 256*(x/256) + x%256 := by omega
  have := C_step k (x/256) (x%256) (by omega)
  rw [← hh] at this; exact this
theorem C_all (x : Nat) : ∃ c0 c1 c2 c3 c4 c5 c6 c7 : Nat, c0 = pc8 (x%256) ∧ c1 = pc8 (x/256%256) ∧ c2 = pc8 (x/256/256%256) ∧ c3 = pc8 (x/256/256/256%256) ∧ c4 = pc8 (x/256/256/256/256%256) ∧ c5 = pc8 (x/256/256/256/256/256%256) ∧ c6 = pc8 (x/256/256/256/256/256/256%256) ∧ c7 = pc8 (x/256/256/256/256/256/256/256%256) ∧ c0 ≤ 8 ∧ c1 ≤ 8 ∧ c2 ≤ 8 ∧ c3 ≤ 8 ∧ c4 ≤ 8 ∧ c5 ≤ 8 ∧ c6 ≤ 8 ∧ c7 ≤ 8 ∧ C 8 x = c0 + 256*c1 + 65536*c2 + 16777216*c3 + 4294967296*c4 + 1099511627776*c5 + 281474976710656*c6 + 72057594037927936*c7 := by
  have p : ∀ y, pc8 (y % 256) ≤ 8 := fun y => (dec1 ⟨y % 256, by omega⟩).2.2.2.2.1
  refine ⟨_, _, _, _, _, _, _, _, rfl, rfl, rfl, rfl, rfl, rfl, rfl, rfl, p _, p _, p _, p _, p _, p _, p _, p _, ?_⟩
  have z : ∀ x, C 0 x = 0 := fun x => by simp [C, M]
  rw [C_step', C_step', C_step', C_step', C_step', C_step', C_step', C_step', z]
  omega
theorem dv (m q r n : Nat) (hn : n = m*q+r) (h : r < m) : n/m = q := by
  rw [hn, Nat.mul_add_div (by omega), Nat.div_eq_of_lt h, Nat.add_zero]
theorem md (m q r n : Nat) (hn : n = m*q+r) (h : r < m) : n%m = r := by
  rw [hn, Nat.mul_add_mod, Nat.mod_eq_of_lt h]
theorem fold_ones (c c0 c1 c2 c3 c4 c5 c6 c7 : Nat) (h0 : c0 ≤ 8) (h1 : c1 ≤ 8) (h2 : c2 ≤ 8) (h3 : c3 ≤ 8) (h4 : c4 ≤ 8) (h5 : c5 ≤ 8) (h6 : c6 ≤ 8) (h7 : c7 ≤ 8)
    (h : c = c0 + 256*c1 + 65536*c2 + 16777216*c3 + 4294967296*c4 + 1099511627776*c5 + 281474976710656*c6 + 72057594037927936*c7) (d e f : Nat)
    (hd : d = c + c/256) (he : e = d + d/65536) (hf : f = e + e/4294967296) :
    f < 18446744073709551616 ∧ f % 128 = c0+c1+c2+c3+c4+c5+c6+c7 := by
  have e1 : c/256 = c1 + 256*c2 + 65536*c3 + 16777216*c4 + 4294967296*c5 + 1099511627776*c6 + 281474976710656*c7 := dv 256 _ c0 c (by omega) (by omega)
  rw [e1] at hd
  clear e1
  have e2 : d/65536 = (c2+c3) + 256*(c3+c4) + 65536*(c4+c5) + 16777216*(c5+c6) + 4294967296*(c6+c7) + 1099511627776*c7 := dv 65536 _ ((c0+c1) + 256*(c1+c2)) d (by omega) (by omega)
  rw [e2] at he
  clear e2
  have e3 : e/4294967296 = (c4+c5+c6+c7) + 256*(c5+c6+c7) + 65536*(c6+c7) + 16777216*c7 := dv 4294967296 _ ((c0+c1+c2+c3) + 256*(c1+c2+c3+c4) + 65536*(c2+c3+c4+c5) + 16777216*(c3+c4+c5+c6)) e (by omega) (by omega)
  rw [e3] at hf
  clear e3
  subst hd he h
  refine ⟨by omega, md 128 (2*(c1+c2+c3+c4+c5+c6+c7) + 512*(c2+c3+c4+c5+c6+c7) + 131072*(c3+c4+c5+c6+c7) + 33554432*(c4+c5+c6+c7) + 8589934592*(c5+c6+c7) + 2199023255552*(c6+c7) + 562949953421312*c7) _ f (by omega) (by omega)⟩
theorem cnt8 (x s : Nat) (n : Nat) : (List.range' s 8).countP (fun i => x.testBit i) = pc8 (x / 2^s % 256) := by
  have t : ∀ i, i < 8 → x.testBit (s+i) = (x / 2^s % 256).testBit i := by
    intro i hi
    have : (256:Nat) = 2^8 := rfl
    rw [this, Nat.testBit_mod_two_pow, Nat.testBit_div_two_pow]
    simp [hi, Nat.add_comm]
  have e : List.range' s 8 = [s+0, s+1, s+2, s+3, s+4, s+5, s+6, s+7] := by simp [List.range']
  rw [e]
  simp only [List.countP_cons, List.countP_nil]
  rw [t 0 (by omega), t 1 (by omega), t 2 (by omega), t 3 (by omega), t 4 (by omega), t 5 (by omega), t 6 (by omega), t 7 (by omega)]
  have hy : x / 2^s % 256 < 256 := by omega
  generalize x / 2^s % 256 = y at hy
  have : ∀ y : Fin 256, (0 + (if y.1.testBit 7 = true then 1 else 0) + (if y.1.testBit 6 = true then 1 else 0) + (if y.1.testBit 5 = true then 1 else 0) + (if y.1.testBit 4 = true then 1 else 0) + (if y.1.testBit 3 = true then 1 else 0) + (if y.1.testBit 2 = true then 1 else 0) + (if y.1.testBit 1 = true then 1 else 0) + (if y.1.testBit 0 = true then 1 else 0)) = pc8 y.1 := by decide
  exact this ⟨y, hy⟩
theorem pcN_eq (x : Nat) : pcN x = pc8 (x%256) + pc8 (x/256%256) + pc8 (x/256/256%256) + pc8 (x/256/256/256%256) + pc8 (x/256/256/256/256%256) + pc8 (x/256/256/256/256/256%256) + pc8 (x/256/256/256/256/256/256%256) + pc8 (x/256/256/256/256/256/256/256%256) := by
  have e : List.range 64 = List.range' 0 8 ++ (List.range' 8 8 ++ (List.range' 16 8 ++ (List.range' 24 8 ++ (List.range' 32 8 ++ (List.range' 40 8 ++ (List.range' 48 8 ++ List.range' 56 8)))))) := by decide
  unfold pcN
  rw [e]
  simp only [List.countP_append, cnt8 x _ 0, Nat.div_div_eq_div_mul]
  simp
  omega
/-- What the program's steps give at a whole number of 64 bits is its count of ones. -/
theorem ones_eq (x c d e f : Nat) (hc : c = C 8 x) (hd : d = c + c/256) (he : e = d + d/65536) (hf : f = e + e/4294967296) : f < 18446744073709551616 ∧ f % 128 = pcN x := by
  obtain ⟨c0, c1, c2, c3, c4, c5, c6, c7, g0, g1, g2, g3, g4, g5, g6, g7, l0, l1, l2, l3, l4, l5, l6, l7, hC⟩ := C_all x
  rw [hC] at hc
  obtain ⟨r1, r2⟩ := fold_ones c c0 c1 c2 c3 c4 c5 c6 c7 l0 l1 l2 l3 l4 l5 l6 l7 hc d e f hd he hf
  refine ⟨r1, ?_⟩
  rw [r2, pcN_eq, g0, g1, g2, g3, g4, g5, g6, g7]
end Go.Proofs.YtcnmbllafdeokaaDoor.On
/- math/bits.OnesCount64, set.Count. -/
namespace Go.Proofs.YtcnmbllafdeokaaDoor.H
open Go.RowKit Go.Proofs.YtcnmbllafdeokaaDoorW.PrintWords Go.Proofs.YtcnmbllafdeokaaDoorW.PrintLast Go.Proofs.YtcnmbllafdeokaaDoorW.PrintMore Go.Proofs.YtcnmbllafdeokaaDoor.TrM Go.Proofs.YtcnmbllafdeokaaDoor.AtM
set_option linter.unusedVariables false
set_option linter.unusedSimpArgs false
set_option maxRecDepth 100000
theorem and_un {a m : Nat} {x : Int} (hx : x = (a : Int)) (ha : a < 18446744073709551616) (hm : m < 18446744073709551616) : bits .and .u64 x (m : Int) = ((a &&& m : Nat) : Int) := by
  subst hx; exact u64_and_nat a m ha hm
theorem half_of {x : Int} {a : Nat} (k : Nat) (h : x = (a : Int)) : x / (k : Int) = ((a / k : Nat) : Int) := by
  subst h; exact (Int.natCast_ediv a k).symm
theorem wrap_of {x : Int} {a : Nat} (h : x = (a : Int)) (ha : a < 18446744073709551616) : IntKind.u64.wrap x = (a : Int) := by
  subst h; rw [IntKind.wrap_u64]; omega
theorem M55 : On.M 0x55 8 = 6148914691236517205 := by decide
theorem M33 : On.M 0x33 8 = 3689348814741910323 := by decide
theorem M0f : On.M 0x0f 8 = 1085102592571150095 := by decide
theorem ones_walk (x : Int) (hx : U64 x) (A B C D E F : Int)
    (hA : A = IntKind.u64.wrap (bits BinOp.and IntKind.u64 (x / 2) 6148914691236517205 + bits BinOp.and IntKind.u64 x 6148914691236517205))
    (hB : B = IntKind.u64.wrap (bits BinOp.and IntKind.u64 (A / 4) 3689348814741910323 + bits BinOp.and IntKind.u64 A 3689348814741910323))
    (hC : C = bits BinOp.and IntKind.u64 (IntKind.u64.wrap (B / 16 + B)) 1085102592571150095)
    (hD : D = IntKind.u64.wrap (C + C / 256)) (hE : E = IntKind.u64.wrap (D + D / 65536)) (hF : F = IntKind.u64.wrap (E + E / 4294967296)) :
    bits .and .i64 (wrap64 F) 127 = (pcS x : Int) := by
  obtain ⟨n, rfl⟩ : ∃ n : Nat, x = (n : Int) := ⟨x.toNat, by have := hx.1; omega⟩
  have hn : n < 18446744073709551616 := by have := hx.2; omega
  have le : ∀ a m : Nat, (a &&& m) ≤ m := fun a m => Nat.and_le_right
  have a1 : A = (On.A 8 n : Int) := by
    rw [hA]
    have e1 : bits .and .u64 ((n : Int) / 2) 6148914691236517205 = ((n/2 &&& 6148914691236517205 : Nat) : Int) := and_un (m := 6148914691236517205) (half_of 2 rfl) (by omega) (by omega)
    have e2 : bits .and .u64 (n : Int) 6148914691236517205 = ((n &&& 6148914691236517205 : Nat) : Int) := and_un (m := 6148914691236517205) rfl hn (by omega)
    have l1 := le (n/2) 6148914691236517205
    have l2 := le n 6148914691236517205
    unfold On.A; rw [M55]
    rw [e1, e2]
    exact wrap_of (Int.natCast_add _ _).symm (by omega)
  have la : On.A 8 n ≤ 12297829382473034410 := by
    have l1 := le (n/2) 6148914691236517205
    have l2 := le n 6148914691236517205
    unfold On.A; rw [M55]; omega
  have b1 : B = (On.B 8 n : Int) := by
    rw [hB, a1]
    have e1 : bits .and .u64 ((On.A 8 n : Int) / 4) 3689348814741910323 = ((On.A 8 n/4 &&& 3689348814741910323 : Nat) : Int) := and_un (m := 3689348814741910323) (half_of 4 rfl) (by omega) (by omega)
    have e2 : bits .and .u64 (On.A 8 n : Int) 3689348814741910323 = ((On.A 8 n &&& 3689348814741910323 : Nat) : Int) := and_un (m := 3689348814741910323) rfl (by omega) (by omega)
    have l1 := le (On.A 8 n/4) 3689348814741910323
    have l2 := le (On.A 8 n) 3689348814741910323
    unfold On.B; rw [M33]
    rw [e1, e2]
    exact wrap_of (Int.natCast_add _ _).symm (by omega)
  have lb : On.B 8 n ≤ 7378697629483820646 := by
    have l1 := le (On.A 8 n/4) 3689348814741910323
    have l2 := le (On.A 8 n) 3689348814741910323
    unfold On.B; rw [M33]; omega
  have c1 : C = (On.C 8 n : Int) := by
    rw [hC, b1]
    have w : IntKind.u64.wrap ((On.B 8 n : Int) / 16 + (On.B 8 n : Int)) = ((On.B 8 n / 16 + On.B 8 n : Nat) : Int) := wrap_of (by omega) (by omega)
    rw [w]
    have e := and_un (m := 1085102592571150095) (rfl : ((On.B 8 n / 16 + On.B 8 n : Nat) : Int) = _) (by omega) (by omega)
    unfold On.C; rw [M0f]; exact e
  have lc : On.C 8 n ≤ 1085102592571150095 := by unfold On.C; rw [M0f]; exact le _ _
  obtain ⟨d, hd⟩ : ∃ d, d = On.C 8 n + On.C 8 n / 256 := ⟨_, rfl⟩
  obtain ⟨e, he⟩ : ∃ e, e = d + d / 65536 := ⟨_, rfl⟩
  obtain ⟨f, hf⟩ : ∃ f, f = e + e / 4294967296 := ⟨_, rfl⟩
  obtain ⟨r1, r2⟩ := On.ones_eq n (On.C 8 n) d e f rfl hd he hf
  have d1 : D = (d : Int) := by rw [hD, c1]; exact wrap_of (by omega) (by omega)
  have ee1 : E = (e : Int) := by rw [hE, d1]; exact wrap_of (by omega) (by omega)
  have f1 : F = (f : Int) := by rw [hF, ee1]; exact wrap_of (by omega) (by omega)
  have lf : f < 4611686018427387904 := by omega
  have r3 : (pcS (n : Int) : Int) = ((f % 128 : Nat) : Int) := by rw [r2]; rfl
  rw [r3, f1, i64_and127]
  have w : wrap64 (f : Int) = (f : Int) := by unfold wrap64; omega
  rw [w]; omega
theorem ones_calls (x : Int) (W : World) (hx : U64 x) : Calls Tryd.prog 64 #[.int .u64 x] W fun e W' => e = .returned (.int .i64 (pcS x)) ∧ W = W' := by
  go_enter Tryd.func64, Tryd.ntmps64
  go_wp2
  go_ret
  refine ⟨?_, rfl⟩
  generalize hA : IntKind.u64.wrap (bits BinOp.and IntKind.u64 (x / 2) 6148914691236517205 + bits BinOp.and IntKind.u64 x 6148914691236517205) = A
  generalize hB : IntKind.u64.wrap (bits BinOp.and IntKind.u64 (A / 4) 3689348814741910323 + bits BinOp.and IntKind.u64 A 3689348814741910323) = B
  generalize hC : bits BinOp.and IntKind.u64 (IntKind.u64.wrap (B / 16 + B)) 1085102592571150095 = C
  generalize hD : IntKind.u64.wrap (C + C / 256) = D
  generalize hE : IntKind.u64.wrap (D + D / 65536) = E
  generalize hF : IntKind.u64.wrap (E + E / 4294967296) = F
  show Ending.returned (.int .i64 (bits .and .i64 (wrap64 F) 127)) = _
  have h := ones_walk x hx A B C D E F hA.symm hB.symm hC.symm hD.symm hE.symm hF.symm
  rw [h]
end Go.Proofs.YtcnmbllafdeokaaDoor.H
/- cmp.Compare[int], set.Count. -/
namespace Go.Proofs.YtcnmbllafdeokaaDoor.H
open Go.RowKit Go.Proofs.YtcnmbllafdeokaaDoorW.PrintWords Go.Proofs.YtcnmbllafdeokaaDoorW.PrintLast Go.Proofs.YtcnmbllafdeokaaDoorW.PrintMore Go.Proofs.YtcnmbllafdeokaaDoor.TrM Go.Proofs.YtcnmbllafdeokaaDoor.AtM
set_option linter.unusedVariables false
set_option linter.unusedSimpArgs false
set_option maxRecDepth 100000
theorem isNaN_int (x : Int) (W : World) : Calls Tryd.prog 63 #[.int .i64 x] W fun e W' => e = .returned (.bool false) ∧ W = W' := by
  go_enter Tryd.func63, Tryd.ntmps63
  go_wp2
  go_ret
  simp
theorem cmp_int (x y : Int) (W : World) : Calls Tryd.prog 47 #[.int .i64 x, .int .i64 y] W fun e W' => e = .returned (.int .i64 (cmpN x y)) ∧ W = W' := by
  by_cases c1 : x < y
  · have e : cmpN x y = -1 := by unfold cmpN; rw [if_pos c1]
    rw [e]
    have b0 : decide (x < y) = true := decide_eq_true c1
    clear c1 e
    go_enter Tryd.func47, Tryd.ntmps47
    go_wp2_with (go_at_call 63; refine (isNaN_int _ _).mono ?_; rintro e w' ⟨rfl, rfl⟩)
    go_ret
    exact ⟨rfl, rfl⟩
  · by_cases c2 : y < x
    · have e : cmpN x y = 1 := by unfold cmpN; rw [if_neg c1, if_pos c2]
      rw [e]
      have b0 : decide (x < y) = false := decide_eq_false c1
      have b1 : decide (y < x) = true := decide_eq_true c2
      clear c1 c2 e
      go_enter Tryd.func47, Tryd.ntmps47
      go_wp2_with (go_at_call 63; refine (isNaN_int _ _).mono ?_; rintro e w' ⟨rfl, rfl⟩)
      go_ret
      exact ⟨rfl, rfl⟩
    · have e : cmpN x y = 0 := by unfold cmpN; rw [if_neg c1, if_neg c2]
      rw [e]
      have b0 : decide (x < y) = false := decide_eq_false c1
      have b1 : decide (y < x) = false := decide_eq_false c2
      clear c1 c2 e
      go_enter Tryd.func47, Tryd.ntmps47
      go_wp2_with (go_at_call 63; refine (isNaN_int _ _).mono ?_; rintro e w' ⟨rfl, rfl⟩)
      go_ret
      exact ⟨rfl, rfl⟩
theorem Count_calls (x : Int) (W : World) (hx : U64 x) : Calls Tryd.prog 48 #[.int .u64 x] W fun e W' => e = .returned (.int .i64 (pcS x)) ∧ W = W' := by
  go_enter Tryd.func48, Tryd.ntmps48
  go_wp2_with (go_at_call 64; refine (ones_calls _ _ hx).mono ?_; rintro e w' ⟨rfl, rfl⟩)
  go_ret
  exact ⟨rfl, rfl⟩
end Go.Proofs.YtcnmbllafdeokaaDoor.H
/- cmp.Or[int], set.Cmp. -/
namespace Go.Proofs.YtcnmbllafdeokaaDoor.H
open Go.RowKit Go.Proofs.YtcnmbllafdeokaaDoorW.PrintWords Go.Proofs.YtcnmbllafdeokaaDoorW.PrintLast Go.Proofs.YtcnmbllafdeokaaDoorW.PrintMore Go.Proofs.YtcnmbllafdeokaaDoor.TrM Go.Proofs.YtcnmbllafdeokaaDoor.AtM
set_option linter.unusedVariables false
set_option linter.unusedSimpArgs false
set_option maxRecDepth 100000
theorem Or_calls (p q : Int) (b : Nat) (W : World) (r0 : W.cell? { block := b, off := 0 } = some (.int .i64 p)) (r1 : W.cell? { block := b, off := 1 } = some (.int .i64 q)) : Calls Tryd.prog 46 #[.slice (some { block := b, off := 0 }) 2 2] W fun e W' => e = .returned (.int .i64 (if p = 0 then q else p)) ∧ W = W' := by
  go_enter Tryd.func46, Tryd.ntmps46
  go_wp2
  go_loop [8] (fun i => ∃ k : Int, 0 ≤ k ∧ k ≤ 2 ∧ i = .int .i64 k ∧ (1 ≤ k → p = 0) ∧ (2 ≤ k → q = 0)) (fun i => 2 - (intOf i).toNat)
  case atStart => exact ⟨0, by omega, by omega, rfl, by omega, by omega⟩
  case round =>
    obtain ⟨k, h1, h2, rfl, h3, h4⟩ := hrel
    rcases (by omega : k = 0 ∨ k = 1 ∨ k = 2) with rfl | rfl | rfl
    · by_cases c : p = 0
      · have b2 : (p != 0) = false := by simp [c]
        have HC := Lib.hid c
        clear c h3 h4
        go_wp2
        go_round
        case rel => exact ⟨1, by omega, by omega, rfl, fun _ => HC.out, by omega⟩
        case measure => simp [intOf]
      · have b2 : (p != 0) = true := by simp [c]
        have HC := Lib.hid c
        clear c h3 h4
        go_wp2
        go_ret
        exact ⟨by have h := HC.out; simp [h], rfl⟩
    · have HP := Lib.hid (h3 (by omega))
      by_cases c : q = 0
      · have b2 : (q != 0) = false := by simp [c]
        have HC := Lib.hid c
        clear c h3 h4
        go_wp2
        go_round
        case rel => exact ⟨2, by omega, by omega, rfl, fun _ => HP.out, fun _ => HC.out⟩
        case measure => simp [intOf]
      · have b2 : (q != 0) = true := by simp [c]
        have HC := Lib.hid c
        clear c h3 h4
        go_wp2
        go_ret
        exact ⟨by have h := HP.out; simp [h], rfl⟩
    · have HP := Lib.hid (h3 (by omega))
      have HC := Lib.hid (h4 (by omega))
      clear h3 h4
      go_wp2
      go_ret
      exact ⟨by have h := HP.out; have h2 := HC.out; simp [h, h2], rfl⟩
theorem cell_new0 (W : World) (p q : Value) (t : Nat) : (W.alloc (.cells #[p, q] t)).cell? { block := W.heap.size, off := 0 } = some p := by
  unfold World.cell? World.alloc
  simp only [Array.getElem?_push_size]
  rfl
theorem cell_new1 (W : World) (p q : Value) (t : Nat) : (W.alloc (.cells #[p, q] t)).cell? { block := W.heap.size, off := 1 } = some q := by
  unfold World.cell? World.alloc
  simp only [Array.getElem?_push_size]
  rfl
theorem Cmp_calls (x y : Int) (W : World) (hx : U64 x) (hy : U64 y) : Calls Tryd.prog 36 #[.int .u64 x, .int .u64 y] W fun e W' => e = .returned (.int .i64 (cmpS x y)) ∧ ∃ o, W' = W.alloc o := by
  go_enter Tryd.func36, Tryd.ntmps36
  go_wp2_with first
    | (go_at_call 48; refine (Count_calls _ _ (by assumption)).mono ?_; rintro e w' ⟨rfl, rfl⟩)
    | (go_at_call 47; refine (cmp_int _ _ _).mono ?_; rintro e w' ⟨rfl, rfl⟩)
    | (go_at_call 49; refine (cmp_u64 _ _ _).mono ?_; rintro e w' ⟨rfl, rfl⟩)
  refine (Or_calls _ _ _ _ (cell_new0 _ _ _ _) (cell_new1 _ _ _ _)).mono ?_
  rintro e w' ⟨rfl, rfl⟩
  have hs : cmpS x y = if cmpN (pcS x) (pcS y) = 0 then cmpN x y else cmpN (pcS x) (pcS y) := by
    unfold cmpS cmpN; repeat' split
    all_goals first | rfl | omega
  rw [← hs]
  clear hs
  go_wp2
  go_ret
  exact ⟨rfl, _, rfl⟩
end Go.Proofs.YtcnmbllafdeokaaDoor.H
/-
  DERIVED: THE SHELF's CONTRACTS AT THIS DUMP, IN PLAIN WORDS (tools/lay-plain.mjs out of 'YtcnmbllafdeokaaDoorShl.lean', which tools/lay-shelf.mjs wrote): THE SAME DECLARATIONS UNDER THE SAME NAMES: 'import', 'namespace', 'open', 'def', 'theorem' AND NOTHING ELSE: no command of the shelf's: FOR A HAND-IN. Each laying: the table of numbers ('.._ren') and one theorem, a field a fact of the dump's own or the kernel's comparison; each contract: ONE APPLICATION.
-/
namespace Go.Proofs
open Go.Shelf
def Tryd.sortIv_ren : Go.Shelf.Ren := ⟨fun | 6 => 34 | 15 => 45 | 14 => 44 | 28 => 61 | 29 => 62 | 20 => 53 | 21 => 54 | 22 => 55 | 23 => 56 | 24 => 57 | 25 => 58 | 26 => 59 | 27 => 60 | 46 => 71 | 47 => 72 | 48 => 73 | 49 => 74 | 50 => 75 | 57 => 76 | n => n, fun | 22 => 22 | 24 => 28 | 25 => 68 | 3 => 3 | 39 => 71 | 0 => 0 | 53 => 94 | 55 => 23 | 4 => 4 | 46 => 87 | 45 => 86 | 50 => 91 | 5 => 5 | 9 => 9 | 66 => 98 | 70 => 102 | 76 => 104 | 77 => 105 | n => n, fun | n => n⟩
theorem Tryd.sortIv : Go.Proofs.SlLaysF0.n6 Tryd.prog Tryd.sortIv_ren := {
  mixed := by kernel_rfl
  f6 := ⟨Tryd.f34.name, by decide, Tryd.func34.trans (congrArg some (by kernel_rfl))⟩
  f14 := ⟨Tryd.f44.name, by decide, Tryd.func44.trans (congrArg some (by kernel_rfl))⟩
  f15 := Tryd.func45.trans (congrArg some (by kernel_rfl))
  f20 := ⟨Tryd.f53.name, by decide, Tryd.func53.trans (congrArg some (by kernel_rfl))⟩
  f21 := ⟨Tryd.f54.name, by decide, Tryd.func54.trans (congrArg some (by kernel_rfl))⟩
  f22 := ⟨Tryd.f55.name, by decide, Tryd.func55.trans (congrArg some (by kernel_rfl))⟩
  f23 := ⟨Tryd.f56.name, by decide, Tryd.func56.trans (congrArg some (by kernel_rfl))⟩
  f24 := ⟨Tryd.f57.name, by decide, Tryd.func57.trans (congrArg some (by kernel_rfl))⟩
  f25 := ⟨Tryd.f58.name, by decide, Tryd.func58.trans (congrArg some (by kernel_rfl))⟩
  f26 := ⟨Tryd.f59.name, by decide, Tryd.func59.trans (congrArg some (by kernel_rfl))⟩
  f27 := ⟨Tryd.f60.name, by decide, Tryd.func60.trans (congrArg some (by kernel_rfl))⟩
  f28 := Tryd.func61.trans (congrArg some (by kernel_rfl))
  f29 := Tryd.func62.trans (congrArg some (by kernel_rfl))
  f46 := ⟨Tryd.f71.name, by decide, Tryd.func71.trans (congrArg some (by kernel_rfl))⟩
  f47 := Tryd.func72.trans (congrArg some (by kernel_rfl))
  f48 := Tryd.func73.trans (congrArg some (by kernel_rfl))
  f49 := ⟨Tryd.f74.name, by decide, Tryd.func74.trans (congrArg some (by kernel_rfl))⟩
  f50 := ⟨Tryd.f75.name, by decide, Tryd.func75.trans (congrArg some (by kernel_rfl))⟩
  f57 := ⟨Tryd.f76.name, by decide, Tryd.func76.trans (congrArg some (by kernel_rfl))⟩
  t0 := Tryd.underlying0
  a0 := Tryd.isAgg0
  z0 := Tryd.sizeOf0
  v0 := Tryd.zeroValue0
  t3 := Tryd.underlying3
  a3 := Tryd.isAgg3
  z3 := Tryd.sizeOf3
  v3 := Tryd.zeroValue3
  t4 := Tryd.underlying4
  a4 := Tryd.isAgg4
  z4 := Tryd.sizeOf4
  v4 := Tryd.zeroValue4
  t5 := Tryd.underlying5
  a5 := Tryd.isAgg5
  z5 := Tryd.sizeOf5
  v5 := Tryd.zeroValue5
  t9 := Tryd.underlying9
  a9 := Tryd.isAgg9
  z9 := Tryd.sizeOf9
  v9 := Tryd.zeroValue9
  t22 := Tryd.underlying22
  a22 := Tryd.isAgg22
  z22 := Tryd.sizeOf22
  v22 := Tryd.zeroValue22
  t25 := Tryd.underlying68
  a25 := Tryd.isAgg68
  z25 := Tryd.sizeOf68
  v25 := Tryd.zeroValue68
  t39 := Tryd.underlying71
  a39 := Tryd.isAgg71
  z39 := Tryd.sizeOf71
  v39 := Tryd.zeroValue71
  t45 := Tryd.underlying86
  a45 := Tryd.isAgg86
  z45 := Tryd.sizeOf86
  v45 := Tryd.zeroValue86
  t46 := Tryd.underlying87
  a46 := Tryd.isAgg87
  z46 := Tryd.sizeOf87
  v46 := Tryd.zeroValue87
  t50 := Tryd.underlying91
  a50 := Tryd.isAgg91
  z50 := Tryd.sizeOf91
  v50 := Tryd.zeroValue91
  t53 := Tryd.underlying94
  a53 := Tryd.isAgg94
  z53 := Tryd.sizeOf94
  v53 := Tryd.zeroValue94
  t55 := Tryd.underlying23
  a55 := Tryd.isAgg23
  z55 := Tryd.sizeOf23
  v55 := Tryd.zeroValue23
  t66 := Tryd.underlying98
  a66 := Tryd.isAgg98
  z66 := Tryd.sizeOf98
  v66 := Tryd.zeroValue98
  t70 := Tryd.underlying102
  a70 := Tryd.isAgg102
  z70 := Tryd.sizeOf102
  v70 := Tryd.zeroValue102
  t76 := Tryd.underlying104
  a76 := Tryd.isAgg104
  z76 := Tryd.sizeOf104
  v76 := Tryd.zeroValue104
  t77 := Tryd.underlying105
  a77 := Tryd.isAgg105
  z77 := Tryd.sizeOf105
  v77 := Tryd.zeroValue105 }
end Go.Proofs
/- slices.SortFunc at atoms: the laying, the order's func. -/
namespace Go.Proofs
set_option linter.unusedVariables false
set_option linter.unusedSimpArgs false
open Go.Shelf Go.RowKit Go.Lib Go.Sort
open Go.Proofs.YtcnmbllafdeokaaDoorW.PrintWords Go.Proofs.YtcnmbllafdeokaaDoorW.PrintLast Go.Proofs.YtcnmbllafdeokaaDoorW.PrintMore Go.Proofs.YtcnmbllafdeokaaDoor.TrM Go.Proofs.YtcnmbllafdeokaaDoor.AtM
def YtcnmbllafdeokaaDoor.encA (x : Int × Int) : List Value := [.int .u64 x.1, .int .i64 x.2]
theorem YtcnmbllafdeokaaDoor.normCmp (x y : Int × Int) (W : World) (hx : U64 x.1) (hy : U64 y.1) : Calls Tryd.prog 35 #[.agg #[.int .u64 x.1, .int .i64 x.2], .agg #[.int .u64 y.1, .int .i64 y.2]] W fun e w' => e = .returned (.int .i64 (cmpS x.1 y.1)) ∧ ∃ q os', w' = grow (W.drewN q) os' := by
  have hcon := fun W' => YtcnmbllafdeokaaDoor.H.Cmp_calls x.1 y.1 W' hx hy
  generalize cmpS x.1 y.1 = r at hcon ⊢
  go_enter Tryd.func35, Tryd.ntmps35
  go_wp2_with (go_at_call 36; refine (hcon _).mono ?_; rintro e w' ⟨rfl, o, rfl⟩)
  go_ret
  exact ⟨rfl, 0, _, by rw [alloc_eq_grow, alloc_eq_grow, alloc_eq_grow, grow_grow, grow_grow]; rfl⟩
end Go.Proofs
/- slices.SortFunc at atoms whose sets are apart: the row then holds them as sets stand. -/
--NT
namespace Go.Proofs.YtcnmbllafdeokaaDoor.AtM
open Go Go.Proofs Go.Shelf Go.Sort Go.Proofs.YtcnmbllafdeokaaDoor.TrM
/-- The atoms of a list, for the order's func speaks of all of a type. -/
abbrev AtIn (L : List At) := {x : At // x ∈ L}
def cfIn (L : List At) (x y : AtIn L) : Int := cmpS x.1.1 y.1.1
theorem ltOf_in (L : List At) (x y : AtIn L) : ltOf (cfIn L) x y = ltS x.1.1 y.1.1 := by
  unfold ltOf cfIn; exact cmp_lt _ _
theorem swoIn (L : List At) : SWO (ltOf (cfIn L)) where
  irrefl x := Sw.swoS.irrefl x.1
  trans x y z h1 h2 := Sw.swoS.trans x.1 y.1 z.1 h1 h2
  ntrans x y z h1 h2 := Sw.swoS.ntrans x.1 y.1 z.1 h1 h2
theorem apart_inj : ∀ {L : List At}, L.Pairwise (fun x y => x.1 ≠ y.1) → ∀ x ∈ L, ∀ y ∈ L, x.1 = y.1 → x = y := by
  intro L
  induction L with
  | nil => intro _ x hx; simp at hx
  | cons a L ih =>
    intro h x hx y hy e
    obtain ⟨h1, h2⟩ := List.pairwise_cons.1 h
    rcases List.mem_cons.1 hx with hxa | hx
    · rcases List.mem_cons.1 hy with hya | hy
      · rw [hxa, hya]
      · exact absurd (hxa ▸ e) (h1 y hy)
    · rcases List.mem_cons.1 hy with hya | hy
      · exact absurd (hya ▸ e).symm (h1 x hx)
      · exact ih h2 x hx y hy e
theorem totIn {L : List At} (hd : L.Pairwise (fun x y => x.1 ≠ y.1)) (x y : AtIn L) (h : ltOf (cfIn L) x y = false) (k : ltOf (cfIn L) y x = false) : x = y := by
  rw [ltOf_in] at h k
  exact Subtype.ext (apart_inj hd _ x.2 _ y.2 (ordS.tot _ _ h k))
theorem merged {L : List At} (hd : L.Pairwise (fun x y => x.1 ≠ y.1)) : (L.attach.mergeSort fun x y => !(ltOf (cfIn L)) y x).map Subtype.val = sortS L := by
  have hp : ((L.attach.mergeSort fun x y => !(ltOf (cfIn L)) y x).map Subtype.val).Perm L := by
    have h := (List.mergeSort_perm L.attach (fun x y => !(ltOf (cfIn L)) y x)).map Subtype.val
    rwa [List.attach_map_subtype_val] at h
  have hs : (L.attach.mergeSort fun x y => !(ltOf (cfIn L)) y x).Pairwise (fun x y => (!(ltOf (cfIn L)) y x) = true) := by
    refine List.pairwise_mergeSort ?_ ?_ _
    · intro a b c h1 h2
      simp only [Bool.not_eq_true'] at *
      exact (swoIn L).ntrans _ _ _ h2 h1
    · intro a b
      simp only [Bool.or_eq_true, Bool.not_eq_true']
      rw [ltOf_in, ltOf_in]
      cases h : ltS b.1.1 a.1.1 with
      | false => exact .inl rfl
      | true => exact .inr (ordS.asym h)
  have hne : ((L.attach.mergeSort fun x y => !(ltOf (cfIn L)) y x).map Subtype.val).Pairwise (fun x y : At => x.1 ≠ y.1) :=
    (hp.pairwise_iff (fun {a b} h => fun e => h e.symm)).2 hd
  refine risesS_ext ?_ (sortS_rises L hd) (fun a => by rw [hp.mem_iff, sortS_mem])
  unfold RisesS
  rw [List.pairwise_map] at hne ⊢
  refine (hs.and hne).imp (fun {a b} h => ?_)
  have h1 := h.1
  simp only [Bool.not_eq_true', ltOf_in] at h1
  cases h2 : ltS a.1.1 b.1.1 with
  | true => rfl
  | false => exact absurd (ordS.tot _ _ h2 h1) h.2
end Go.Proofs.YtcnmbllafdeokaaDoor.AtM
namespace Go.Proofs.YtcnmbllafdeokaaDoor.H
open Go.Shelf Go.Lib Go.Sort Go.RowKit Go.Proofs.YtcnmbllafdeokaaDoorW.PrintWords Go.Proofs.YtcnmbllafdeokaaDoorW.PrintLast Go.Proofs.YtcnmbllafdeokaaDoorW.PrintMore Go.Proofs.YtcnmbllafdeokaaDoor.TrM Go.Proofs.YtcnmbllafdeokaaDoor.AtM
set_option linter.unusedVariables false
set_option linter.unusedSimpArgs false
theorem oth_sortK {α : Type} [Inhabited α] (enc : α → List Value) (k : Nat) (w : World) (blk off m : Nat) (dk : Array α) (os : Array Obj) : Oth blk w (sortWorldK enc k w blk off m dk os) := by
  have hs : (mapBlock (Sort.ahead w m) blk (putCells id off (flatK enc k dk))).heap.size = w.heap.size := by
    show (w.heap.modify _ _).size = _
    rw [Array.size_modify]
  refine ⟨rfl, rfl, rfl, ?_, fun i hi hne => ?_⟩
  · show w.heap.size ≤ ((mapBlock (Sort.ahead w m) blk (putCells id off (flatK enc k dk))).heap ++ os).size
    rw [Array.size_append, hs]; omega
  · show ((mapBlock (Sort.ahead w m) blk (putCells id off (flatK enc k dk))).heap ++ os)[i]? = _
    rw [Array.getElem?_append_left (by rw [hs]; exact hi)]
    show (w.heap.modify _ _)[i]? = _
    rw [Array.getElem?_modify, if_neg (fun e => hne e.symm)]
theorem add_at (g o n : Nat) : (⟨g, o, none⟩ : Addr).add n = ⟨g, o + n, none⟩ := by
  unfold Addr.add
  split
  · rename_i h; subst h; rfl
  · rfl
theorem C_holds {L : List At} [Inhabited (AtIn L)] {w : World} {blk off : Nat} {d : Array (AtIn L)} (h : HoldsK (fun x : AtIn L => YtcnmbllafdeokaaDoor.encA x.1) 2 w blk off d) (hl : d.size ≤ 9223372036854775807) : Kd.C KAt w (some ⟨blk, off, none⟩) d.size (d.toList.map Subtype.val) := by
  refine ⟨by simp, hl, fun _ => ⟨_, rfl, fun j p hj => ?_⟩⟩
  rw [List.getElem?_map] at hj
  obtain ⟨q, hq, rfl⟩ := Option.map_eq_some_iff.1 hj
  obtain ⟨hjl, hjq⟩ := List.getElem?_eq_some_iff.1 hq
  have hjs : j < d.size := by simpa using hjl
  have e : d[j]! = q := by
    rw [getElem!_pos d j hjs]; simpa using hjq
  refine ⟨[.int .u64 q.1.1, .int .i64 q.1.2], rfl, ⟨[_], [_], rfl, rfl, rfl⟩, fun i u hu => ?_⟩
  have hi : i < 2 := by have := (List.getElem?_eq_some_iff.1 hu).1; simpa using this
  have := (h.cell hjs hi).1
  rw [e] at this
  show w.cell? ((⟨blk, off, none⟩ : Addr).add (j * 2 + i)) = _
  rw [add_at, ← Nat.add_assoc, this]
  obtain ⟨hi2, hu2⟩ := List.getElem?_eq_some_iff.1 hu
  rcases i with _ | _ | i
  · simpa [YtcnmbllafdeokaaDoor.encA] using hu2
  · simpa [YtcnmbllafdeokaaDoor.encA] using hu2
  · omega
theorem holds_R {L : List At} [Inhabited (AtIn L)] {e : Nat} {w : World} {base g c : Nat} {ok : Nat → Prop} (h : Kd.R KAt e w base ok (.slice (some ⟨g, 0, none⟩) L.length c) L) : HoldsK (fun x : AtIn L => YtcnmbllafdeokaaDoor.encA x.1) 2 w g 0 L.attach.toArray := by
  obtain ⟨A, c', h1, _, hC⟩ := Kd.R_reads h
  injection h1 with h1 _ _
  subst h1
  have hz : ∀ off, w.frozen? ⟨g, off, none⟩ = false := by
    obtain ⟨_, inner, ho, _⟩ := h
    rcases ho.2 with ⟨h1, _⟩ | ⟨g', cap, cur, h1, _, hh, _⟩
    · cases h1
    · injection h1 with h1 _ _
      injection h1 with h1
      injection h1 with h1
      subst h1
      exact fun off => blk_frozen hh off
  intro t ht
  rw [size_flatK] at ht
  rw [get_flatK _ _ _ _ ht]
  have hj : t / 2 < L.length := by simp at ht; omega
  have hja : L.attach.toArray[t / 2]! = ⟨L[t / 2], List.getElem_mem hj⟩ := by
    rw [getElem!_pos _ _ (by simpa using hj)]
    simp
  rw [hja]
  obtain ⟨ad, e1, hx0, hx1⟩ := at_atom (i := t / 2) hC hj (s := (L[t / 2]).1) (v := (L[t / 2]).2) (List.getElem?_eq_getElem hj)
  injection e1 with e1
  subst e1
  refine ⟨?_, hz _⟩
  rw [add_at] at hx0 hx1
  have hm := Nat.div_add_mod t 2
  have hm2 : t % 2 < 2 := Nat.mod_lt _ (by omega)
  rcases hq : t % 2 with _ | _ | q
  · rw [show 0 + t = 0 + t / 2 * 2 by omega, hx0]; rfl
  · rw [show 0 + t = 0 + t / 2 * 2 + 1 by omega, hx1]; rfl
  · omega
theorem sortK_blk {α : Type} [Inhabited α] (enc : α → List Value) (k : Nat) (w : World) (blk m : Nat) (dk : Array α) (os : Array Obj) {cur : Array Value} {e : Nat} {fr : Nat × Nat} (h : w.heap[blk]? = some (.cells cur e fr)) :
    (sortWorldK enc k w blk 0 m dk os).heap[blk]? = some (.cells (putCells id 0 (flatK enc k dk) cur) e fr) := by
  have hs : (mapBlock (Sort.ahead w m) blk (putCells id 0 (flatK enc k dk))).heap.size = w.heap.size := by
    show (w.heap.modify _ _).size = _
    rw [Array.size_modify]
  show ((mapBlock (Sort.ahead w m) blk (putCells id 0 (flatK enc k dk))).heap ++ os)[blk]? = _
  rw [Array.getElem?_append_left (by rw [hs]; exact lt_of_some h)]
  show (w.heap.modify _ _)[blk]? = _
  rw [Array.getElem?_modify, if_pos rfl, h]
  rfl
theorem put_take (F cur : Array Value) (h : F.size ≤ cur.size) : (putCells id 0 F cur).toList.take F.size = F.toList := by
  apply List.ext_getElem?
  intro i
  unfold putCells
  rw [List.getElem?_take]
  by_cases hi : i < F.size
  · rw [if_pos hi, Array.getElem?_toList, Array.getElem?_mapIdx, Array.getElem?_eq_getElem (by omega), Option.map_some, if_pos (by omega), Array.getElem?_toList, Array.getElem?_eq_getElem hi, Nat.sub_zero, id, getElem!_pos F i hi]
  · rw [if_neg hi, Array.getElem?_toList, Array.getElem?_eq_none (by omega)]
theorem two_at {l : List Value} {i : Nat} (h : i + 1 < l.length) : (l.drop i).take 2 = [l[i], l[i + 1]] := by
  rw [List.drop_eq_getElem_cons (by omega), List.drop_eq_getElem_cons (by omega)]
  rfl
theorem R_sorted {L : List At} [Inhabited (AtIn L)] {e : Nat} {w : World} {base g c : Nat} {ok : Nat → Prop} (h : Kd.R KAt e w base ok (.slice (some ⟨g, 0, none⟩) L.length c) L) (m : Nat) (dk : Array (AtIn L)) (os : Array Obj) (hd : dk.size = L.length) :
    Kd.R KAt e (sortWorldK (fun x : AtIn L => YtcnmbllafdeokaaDoor.encA x.1) 2 w g 0 m dk os) base ok (.slice (some ⟨g, 0, none⟩) L.length c) (dk.toList.map Subtype.val) := by
  obtain ⟨h0, inner, ho, hr⟩ := h
  rcases ho.2 with ⟨h1, _⟩ | ⟨g', cap, cur, h1, h2, hh, h3, h4, h5, h6⟩
  · cases h1
  · injection h1 with h1 _ hcap
    injection h1 with h1
    injection h1 with h1
    subst h1; subst hcap
    have hF : (flatK (fun x : AtIn L => YtcnmbllafdeokaaDoor.encA x.1) 2 dk).size = L.length * 2 := by rw [size_flatK, hd]
    have hFc : (flatK (fun x : AtIn L => YtcnmbllafdeokaaDoor.encA x.1) 2 dk).size ≤ cur.size := by rw [hF, h5]; exact Nat.mul_le_mul_right _ h3
    have hlm : (dk.toList.map Subtype.val).length = L.length := by simp [hd]
    refine ⟨h0, (flatK (fun x : AtIn L => YtcnmbllafdeokaaDoor.encA x.1) 2 dk).toList, ⟨?_, .inr ⟨g, c, _, by rw [hlm], h2, sortK_blk _ _ _ _ _ _ _ hh, by rw [hlm]; exact h3, h4, ?_, ?_⟩⟩, ?_, ?_⟩
    · rw [Array.length_toList, hF, hlm]; rfl
    · unfold putCells; rw [Array.size_mapIdx]; exact h5
    · have := put_take _ _ hFc
      rw [hF] at this
      rw [hlm]; exact this
    · rw [Array.length_toList, hF, hlm]; rfl
    · intro j p hj
      rw [List.getElem?_map] at hj
      obtain ⟨q, hq, rfl⟩ := Option.map_eq_some_iff.1 hj
      obtain ⟨hjl, hjq⟩ := List.getElem?_eq_some_iff.1 hq
      have hjs : j < dk.size := by simpa using hjl
      have e1 : dk[j]! = q := by rw [getElem!_pos dk j hjs]; simpa using hjq
      have hl2 : j * 2 + 1 < (flatK (fun x : AtIn L => YtcnmbllafdeokaaDoor.encA x.1) 2 dk).toList.length := by rw [Array.length_toList, hF]; omega
      have e2 : ∀ t (ht : t < (flatK (fun x : AtIn L => YtcnmbllafdeokaaDoor.encA x.1) 2 dk).toList.length), (flatK (fun x : AtIn L => YtcnmbllafdeokaaDoor.encA x.1) 2 dk).toList[t] = (YtcnmbllafdeokaaDoor.encA dk[t / 2]!.1)[t % 2]! := fun t ht => by
        have h7 := get_flatK (fun x : AtIn L => YtcnmbllafdeokaaDoor.encA x.1) 2 dk t (by rw [Array.length_toList, size_flatK] at ht; exact ht)
        rw [getElem!_pos _ t (by rw [Array.length_toList] at ht; exact ht)] at h7
        rw [Array.getElem_toList]; exact h7
      show KAt.M _ _ _ _ (List.take 2 (List.drop (j * 2) _))
      rw [two_at hl2, e2, e2, show j * 2 / 2 = j by omega, show (j * 2 + 1) / 2 = j by omega, show j * 2 % 2 = 0 by omega, show (j * 2 + 1) % 2 = 1 by omega, e1]
      exact ⟨[_], [_], rfl, rfl, rfl⟩
end Go.Proofs.YtcnmbllafdeokaaDoor.H
