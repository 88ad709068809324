/- The example of the statements about devices: alive() is true; the methods' contracts with the answer under a name. -/
import Derived.Test.YtpahmdjcmpnmkaaDev4
import Derived.Lib.ConvBytes
namespace Go.Proofs.Ytpahmdjcmpnmkaa.H
open Go.RowKit Go.Proofs.YtpahmdjcmpnmkaaW.PrintWords Go.Proofs.YtpahmdjcmpnmkaaW.PrintLast Go.Proofs.YtpahmdjcmpnmkaaW.PrintMore
set_option linter.unusedVariables false
set_option linter.unusedSimpArgs false

theorem Append_eq [Pl] (g : Nat) (d d' : Dv) (r : Int) (A : Option Addr) (c n : Nat) (l : List Int) (e : Int) (W : World) (hn : l.length = n) (ha : appendD d r l = (d', e)) (h : DevAt W g d) (hl : ∀ W', Oth g W W' → Kd.C (Kd.int .u8) W' A l.length l) (hc : n ≤ c) (hf : d.fit 1000000 1000000000000) (hm : n ≤ 1000000) :
    Calls Try.prog 14 #[.pointer (some ⟨g, 0, none⟩), .int .i64 r, .slice A n c] W fun e' W' => e' = .returned (.int .i64 e) ∧ DevAt W' g d' ∧ Oth g W W' := by
  subst hn
  have := Append_calls g d r A c l W h hl hc hf hm
  rwa [ha] at this
theorem Truncate_eq [Pl] (g : Nat) (d d' : Dv) (r n e : Int) (W : World) (ha : truncD d r n = (d', e)) (h : DevAt W g d) (hf : d.fit 1000000 1000000000000) :
    Calls Try.prog 19 #[.pointer (some ⟨g, 0, none⟩), .int .i64 r, .int .i64 n] W fun e' W' => e' = .returned (.int .i64 e) ∧ DevAt W' g d' ∧ Oth g W W' := by
  have := Truncate_calls g d r n W h hf
  rwa [ha] at this
theorem Load_eq [Pl] (g : Nat) (d d' : Dv) (r : Int) (A : Option Addr) (c n : Nat) (l : List Int) (W : World) (hn : l.length = n) (ha : d.set r (l.take d.cap.toNat) = d') (h : DevAt W g d) (hl : Kd.C (Kd.int .u8) W A l.length l) (hc : n ≤ c) (hcap : 0 ≤ d.cap ∧ d.cap ≤ 1048576) (hm : n ≤ 1000000) :
    Calls Try.prog 12 #[.pointer (some ⟨g, 0, none⟩), .int .i64 r, .slice A n c] W fun e' W' => e' = .returned (.tuple #[]) ∧ DevAt W' g d' ∧ Oth g W W' := by
  subst hn; subst ha
  exact Load_calls g d r A c l W h hl hc hcap hm
theorem Cut_eq [Pl] (g : Nat) (d d' : Dv) (n : Int) (W : World) (ha : cutD d n = d') (h : DevAt W g d) :
    Calls Try.prog 13 #[.pointer (some ⟨g, 0, none⟩), .int .i64 n] W fun e' W' => e' = .returned (.tuple #[]) ∧ DevAt W' g d' ∧ Oth g W W' := by
  subst ha; exact Cut_calls g d n W h
theorem Restore_eq [Pl] (g : Nat) (d d' : Dv) (W : World) (ha : restD d = d') (h : DevAt W g d) :
    Calls Try.prog 18 #[.pointer (some ⟨g, 0, none⟩)] W fun e' W' => e' = .returned (.tuple #[]) ∧ DevAt W' g d' ∧ Oth g W W' := by
  subst ha; exact Restore_calls g d W h
theorem DevAt.lo [Pl] {W : World} {g : Nat} {d : Dv} (h : DevAt W g d) : Pl.lo ≤ W.heap.size := by
  obtain ⟨_, _, _, _, _, _, _, hr, _⟩ := h
  exact hr.lo
theorem Bytes_eq [Pl] (g : Nat) (d : Dv) (r : Int) (l : List Int) (n : Nat) (W : World) (hr : d.row r = l) (hn : l.length = n) (h : DevAt W g d) (ha : d.a.length ≤ 1000000) (hb : d.b.length ≤ 1000000) :
    Calls Try.prog 17 #[.pointer (some ⟨g, 0, none⟩), .int .i64 r] W fun e W' => ∃ A c, e = .returned (.slice A n c) ∧ n ≤ c ∧ Rd W' A l ∧ Below W.heap.size W W' := by
  subst hr; subst hn
  have hlo := h.lo
  refine (Bytes_calls g d r W h (by omega) (by omega)).mono ?_
  rintro e W' ⟨v, rfl, ho, hb⟩
  obtain ⟨A, c, rfl, hc, hr⟩ := Rd.of_R ho hlo hb.size
  exact ⟨A, c, rfl, hc, hr, hb⟩
theorem Len_eq [Pl] (g : Nat) (d : Dv) (r n : Int) (W : World) (hn : ((d.row r).length : Int) = n) (h : DevAt W g d) : Calls Try.prog 21 #[.pointer (some ⟨g, 0, none⟩), .int .i64 r] W fun e W' => e = .returned (.int .i64 n) ∧ W = W' := by
  subst hn; exact Len_calls g d r W h

theorem Down_eq [Pl] (g : Nat) (d : Dv) (b : Bool) (W : World) (hn : d.down = b) (h : DevAt W g d) : Calls Try.prog 23 #[.pointer (some ⟨g, 0, none⟩)] W fun e W' => e = .returned (.bool b) ∧ W = W' := by
  subst hn; exact Down_calls g d W h
theorem Capacity_eq [Pl] (g : Nat) (d : Dv) (b : Int) (W : World) (hn : d.cap = b) (h : DevAt W g d) : Calls Try.prog 22 #[.pointer (some ⟨g, 0, none⟩)] W fun e W' => e = .returned (.int .i64 b) ∧ W = W' := by
  subst hn; exact Capacity_calls g d W h
theorem Turned_eq [Pl] (g : Nat) (d : Dv) (b : Int) (W : World) (hn : d.turned = b) (h : DevAt W g d) : Calls Try.prog 24 #[.pointer (some ⟨g, 0, none⟩)] W fun e W' => e = .returned (.int .i64 b) ∧ W = W' := by
  subst hn; exact Turned_calls g d W h
/-- A row in a block of bytes abides where a device turns. -/
theorem Rd.abides [Pl] {W : World} {A : Option Addr} {l : List Int} {g : Nat} {d : Dv} (h : Rd W A l) (hd : DevAt W g d) : ∀ W', Oth g W W' → Kd.C (Kd.int .u8) W' A l.length l := fun W' ho => by
  obtain ⟨A0, c0, A1, c1, hB, _⟩ := hd
  exact (h.oth hB (by decide) ho).1
/-- What came in abides where what was made turns. -/
theorem C_in {W0 W : World} {A : Option Addr} {l : List Int} {g : Nat} (h : Kd.C (Kd.int .u8) W0 A l.length l) (hb : Below W0.heap.size W0 W) (hg : W0.heap.size ≤ g) : ∀ W', Oth g W W' → Kd.C (Kd.int .u8) W' A l.length l := fun W' ho =>
  C_of_blocks h (fun i hi => (ho.block i (Nat.lt_of_lt_of_le hi hb.size) (by omega)).trans (hb.block i hi))
def dA : Dv := ⟨[97, 98], [], 10, 0, true, 2⟩
def dB : Dv := ⟨[97, 98], [], 10, 1, false, 2⟩
def dC : Dv := ⟨[97], [], 10, 0, true, 3⟩
def dD : Dv := ⟨[97], [], 10, -1, false, 3⟩
def dE : Dv := ⟨[97], [120, 121, 122], 10, -1, false, 3⟩
theorem al1 : appendD ⟨[], [], 10, 2, false, 0⟩ 0 [97, 98, 99] = (dA, 30) := rfl
theorem al2 : truncD dB 0 0 = (dC, 30) := rfl
theorem al3 : appendD dD 0 (List.replicate 10 0) = (dD, 6) := rfl
theorem al4 : dD.set 1 ([120, 121, 122].take dD.cap.toNat) = dE := rfl
theorem al5 : appendD dE 2 [] = (dE, 1) := rfl
theorem fit_small (a b : List Int) (left turned : Int) (dn : Bool) (ha : (a.length : Int) ≤ 1000000) (hb : (b.length : Int) ≤ 1000000) (h1 : -1 ≤ left) (h2 : left ≤ 1000000) (h3 : 0 ≤ turned) (h4 : turned ≤ 1000) : (⟨a, b, 10, left, dn, turned⟩ : Dv).fit 1000000 1000000000000 := ⟨ha, hb, (by decide : (0 : Int) ≤ 10), (by decide : (10 : Int) ≤ 1048576), h1, by simp only; omega, h3, by simp only; omega⟩
theorem Rd.lit [Pl] (W : World) (l : List Int) (fr : Nat × Nat) (h : l.length ≤ 9223372036854775807) (hlo : Pl.lo ≤ W.heap.size) : Rd (W.alloc (.cells (l.map (Value.int .u8)).toArray 5 fr)) (some ⟨W.heap.size, 0, none⟩) l :=
  ⟨C_lit W l _ _ h, fun ad e => by injection e with e; subst e; exact ⟨_, _, blk_new W _⟩, by rw [World.size_alloc]; omega, fun ad e => by injection e with e; subst e; exact Pl.up _ hlo⟩
set_option maxHeartbeats 3200000 in
theorem alive4_calls (w : World) : Calls Try.prog 6 #[] w fun e w' => e = .returned (.bool true) ∧ Below w.heap.size w w' := by
  letI : Pl := ⟨fun _ => True, 0, fun _ _ => trivial⟩
  have kc := fun (W : World) (C : Array Value) (n c : Nat) => Lib.run_convert_bytes_const (P := Try.prog) W 27 5 C n c Try.underlying27 Try.underlying5
  have T0 := trivial
  go_enter Try.func6, Try.ntmps6
  go_wp2_with (first
    | (go_at_call 8; refine (New_calls _ _ (Nat.zero_le _)).mono ?_; rintro e w1 ⟨rfl, hd1, hb1⟩; have hs1 := hd1.lt; have S1 := Aside0.mk (And.intro hb1 (show DevAt w1 w.heap.size ⟨[], [], 10, -1, false, 0⟩ from hd1)); clear hb1 hd1)
    | (go_at_call 13; have _t := S1; refine (Cut_eq _ _ ⟨[], [], 10, 2, false, 0⟩ _ _ ?s1 S1.out.2).mono ?_; (case s1 => rfl); rintro e w2 ⟨rfl, hd2, ho2⟩; have S2 := Aside0.mk (And.intro (ho2.below S1.out.1 (Nat.le_refl _)) hd2); clear S1 _t hd2 ho2)
    | (go_at_call 14; have _t := S2; refine (Append_eq _ _ dA _ _ _ 3 [97, 98, 99] 30 _ ?s1 al1 ?s2 ?s3 ?s4 ?s5 ?s6).mono ?_; (case s1 => rfl); (case s2 => exact S2.out.2.below (below_alloc (Below.refl _ _) _)); (case s3 => exact (Rd.lit _ [97, 98, 99] _ (by simp) (Nat.zero_le _)).abides (S2.out.2.below (below_alloc (Below.refl _ _) _))); (case s4 => decide); (case s5 => exact fit_small _ _ _ _ _ (by decide) (by decide) (by decide) (by decide) (by decide) (by decide)); (case s6 => decide); rintro e w3 ⟨rfl, hd3, ho3⟩; have S3 := Aside0.mk (And.intro (ho3.below (below_alloc S2.out.1 _) (Nat.le_refl _)) hd3); clear S2 _t hd3 ho3)
    | (go_at_call 17; have _t := S3; refine (Bytes_eq _ _ _ [97, 98] 2 _ ?s1 rfl S3.out.2 ?s2 ?s3).mono ?_; (case s1 => rfl); (case s2 => decide); (case s3 => decide); rintro e w4 ⟨A4, c4, rfl, hc4, hr4, hb4⟩; have hstr : (convert 27 9 (.slice A4 2 c4)).run Try.prog w4 = .ok (.string ⟨#[97, 98]⟩) w4 := Kd.C_string (P := Try.prog) (xs := [97, 98]) Try.underlying27 Try.underlying5 Try.underlying9 hr4.1; have S4 := Aside0.mk (And.intro (below_step S3.out.1 hb4) (S3.out.2.below hb4)); clear S3 _t hr4 hb4)
    | (go_at_call 23; have _t := S4; refine (Down_eq _ _ true _ rfl S4.out.2).mono ?_; rintro e w5 ⟨rfl, rfl⟩; have S5 := S4; clear S4 _t)
    | (go_at_call 18; have _t := S5; refine (Restore_eq _ _ ⟨[97, 98], [], 10, -1, false, 2⟩ _ ?s1 S5.out.2).mono ?_; (case s1 => rfl); rintro e w6 ⟨rfl, hd6, ho6⟩; have S6 := Aside0.mk (And.intro (ho6.below S5.out.1 (Nat.le_refl _)) hd6); clear S5 _t hd6 ho6)
    | (go_at_call 13; have _t := S6; refine (Cut_eq _ _ dB _ _ ?s1 S6.out.2).mono ?_; (case s1 => rfl); rintro e w7 ⟨rfl, hd7, ho7⟩; have S7 := Aside0.mk (And.intro (ho7.below S6.out.1 (Nat.le_refl _)) hd7); clear S6 _t hd7 ho7)
    | (go_at_call 19; have _t := S7; refine (Truncate_eq _ _ dC _ _ 30 _ al2 S7.out.2 ?s1).mono ?_; (case s1 => exact fit_small _ _ _ _ _ (by decide) (by decide) (by decide) (by decide) (by decide) (by decide)); rintro e w8 ⟨rfl, hd8, ho8⟩; have S8 := Aside0.mk (And.intro (ho8.below S7.out.1 (Nat.le_refl _)) hd8); clear S7 _t hd8 ho8)
    | (go_at_call 17; have _t := S8; refine (Bytes_eq _ _ _ [97] 1 _ ?s1 rfl S8.out.2 ?s2 ?s3).mono ?_; (case s1 => rfl); (case s2 => decide); (case s3 => decide); rintro e w9 ⟨A9, c9, rfl, hc9, hr9, hb9⟩; have hstr2 : (convert 27 9 (.slice A9 1 c9)).run Try.prog w9 = .ok (.string ⟨#[97]⟩) w9 := Kd.C_string (P := Try.prog) (xs := [97]) Try.underlying27 Try.underlying5 Try.underlying9 hr9.1; have S9 := Aside0.mk (And.intro (below_step S8.out.1 hb9) (S8.out.2.below hb9)); clear S8 _t hr9 hb9)
    | (go_at_call 18; have _t := S9; refine (Restore_eq _ _ dD _ ?s1 S9.out.2).mono ?_; (case s1 => rfl); rintro e w10 ⟨rfl, hd10, ho10⟩; have S10 := Aside0.mk (And.intro (ho10.below S9.out.1 (Nat.le_refl _)) hd10); clear S9 _t hd10 ho10)
    | (go_at_call 20; have _t := S10; refine (DClone_calls _ _ _ S10.out.2 ?s2 ?s3).mono ?_; (case s2 => decide); (case s3 => decide); rintro e w11 ⟨gc, rfl, hgc, hd11, hb11⟩; have hgw := S10.out.2.lt; have S11 := Aside0.mk (And.intro (below_step S10.out.1 hb11) (And.intro (S10.out.2.below hb11) hd11)); clear S10 _t hd11 hb11)
    | ((with_reducible refine gate_dst (N := 35) rfl ?_); refine Kd.R_make (Kd.int .u8) (w0 := w) w.heap.size 5 rfl (N := 35) rfl 27 (.const (.int .i64 10)) (.const (.int .i64 10)) rfl 10 rfl rfl Try.underlying27 (.int .u8 0) 1 info_u8 rfl (by decide) (by decide) 0 (ok := fun _ => True) (okp := fun _ => True) rfl (fun _ h => h) trivial (by decide) (by decide) S11.out.1 S11.out.1.size ?_; intro v12 w12 ho12 hb12 hg12 hn12; obtain ⟨A12, c12, e12, hc12, hr12⟩ := Rd.of_R ho12 (Nat.zero_le _) hb12.size; replace e12 : v12 = .slice A12 10 c12 := e12; subst e12; have hx : Below w11.heap.size w11 w12 := ⟨hb12.os.trans S11.out.1.os.symm, hb12.tape.trans S11.out.1.tape.symm, hb12.output.trans S11.out.1.output.symm, hg12.size, fun k hk => hg12.block k hk (by simp)⟩; have S12 := Aside0.mk (And.intro hb12 (And.intro (S11.out.2.1.below hx) (And.intro (S11.out.2.2.below hx) hr12))); clear S11 ho12 hb12 hg12 hn12 hr12 hx)
    | (go_at_call 14; have _t := S12; refine (Append_eq _ _ dD _ _ _ 10 (List.replicate 10 0) 6 _ ?s1 al3 S12.out.2.2.1 (S12.out.2.2.2.abides S12.out.2.2.1) ?s4 ?s5 ?s6).mono ?_; (case s1 => rfl); (case s4 => exact hc12); (case s5 => exact fit_small _ _ _ _ _ (by decide) (by decide) (by decide) (by decide) (by decide) (by decide)); (case s6 => decide); rintro e w13 ⟨rfl, hd13, ho13⟩; have S13 := Aside0.mk (And.intro (ho13.below S12.out.1 (by omega)) (And.intro (S12.out.2.1.other S12.out.2.2.1 (by omega) ho13) hd13)); clear S12 _t hd13 ho13)
    | (go_at_call 12; have _t := S13; refine (Load_eq _ _ dE _ _ _ 3 [120, 121, 122] _ ?s1 al4 ?s2 ?s3 ?s4 ?s5 ?s6).mono ?_; (case s1 => rfl); (case s2 => exact S13.out.2.1.below (below_alloc (Below.refl _ _) _)); (case s3 => exact (Rd.lit _ [120, 121, 122] _ (by simp) (Nat.zero_le _)).1); (case s4 => decide); (case s5 => decide); (case s6 => decide); rintro e w14 ⟨rfl, hd14, ho14⟩; have S14 := Aside0.mk (And.intro (ho14.below (below_alloc S13.out.1 _) (Nat.le_refl _)) (And.intro hd14 ((S13.out.2.2.below (below_alloc (Below.refl _ _) _)).other (S13.out.2.1.below (below_alloc (Below.refl _ _) _)) (by omega) ho14))); clear S13 _t hd14 ho14)
    | (go_at_call 21; (with_reducible refine (Len_eq w.heap.size dE _ 3 _ ?s1 ?s2).mono ?_); (case s2 => exact S14.out.2.1); (case s1 => rfl); rintro e w15 ⟨rfl, rfl⟩)
    | (go_at_call 21; (with_reducible refine (Len_eq gc dD _ 0 _ ?s1 ?s2).mono ?_); (case s2 => exact S14.out.2.2); (case s1 => rfl); rintro e w15 ⟨rfl, rfl⟩)
    | (go_at_call 22; refine (Capacity_eq _ _ 10 _ rfl S14.out.2.1).mono ?_; rintro e w15 ⟨rfl, rfl⟩)
    | (go_at_call 24; refine (Turned_eq _ _ 3 _ rfl S14.out.2.1).mono ?_; rintro e w15 ⟨rfl, rfl⟩)
    | (go_at_call 14; have _t := S14; refine (Append_eq _ _ dE _ _ _ 0 [] 1 _ ?s1 al5 S14.out.2.1 ?s3 ?s4 ?s5 ?s6).mono ?_; (case s1 => rfl); (case s3 => exact (Rd.nil _ (Nat.zero_le _)).abides S14.out.2.1); (case s4 => decide); (case s5 => exact fit_small _ _ _ _ _ (by decide) (by decide) (by decide) (by decide) (by decide) (by decide)); (case s6 => decide); rintro e w16 ⟨rfl, hd16, ho16⟩; have S16 := Aside0.mk (ho16.below S14.out.1 (Nat.le_refl _)); clear S14 _t hd16 ho16))
  go_ret
  exact ⟨rfl, S16.out⟩
end Go.Proofs.Ytpahmdjcmpnmkaa.H
