/- Some texts of one seat in one file, in build order. -/
import Derived.Test.YtcnmbllafdeokaaDoorG7
import Derived.Test.YtcnmbllafdeokaaDoorG8
import Derived.Test.YtcnmbllafdeokaaDoorG4
import Derived.Test.YtcnmbllafdeokaaDoorG5
import Derived.Test.YtcnmbllafdeokaaDoorG6
import Derived.Test.YtcnmbllafdeokaaDoorG1
import Derived.Deep.RegionHeld3
import Derived.Test.YtcnmbllafdeokaaDoorG3
-- PRINTED BY A CHANGED COPY OF THE PRINT (wip/tools/patch_print.py), over contracts by hand
namespace Go.Proofs.YtcnmbllafdeokaaDoor.PAll9
open Go.RowKit Go.Proofs.YtcnmbllafdeokaaDoorW.PrintWords Go.Proofs.YtcnmbllafdeokaaDoorW.PrintLast Go.Proofs.YtcnmbllafdeokaaDoorW.PrintMore
attribute [local go_sem] max2_int min2_int max_two min_two max_three min_three max_four min_four   -- for this text's walks alone
set_option linter.unusedVariables false
set_option linter.unusedSimpArgs false

end Go.Proofs.YtcnmbllafdeokaaDoor.PAll9
/- package atom: Adds, as an iterator. -/
namespace Go.Proofs.YtcnmbllafdeokaaDoor.H
open Go.RowKit Go.Proofs.YtcnmbllafdeokaaDoorW.PrintWords Go.Proofs.YtcnmbllafdeokaaDoorW.PrintLast Go.Proofs.YtcnmbllafdeokaaDoorW.PrintMore Go.Proofs.YtcnmbllafdeokaaDoor.TrM Go.Proofs.YtcnmbllafdeokaaDoor.AtM Go.Proofs.YtcnmbllafdeokaaDoor.R02
set_option linter.unusedVariables false
set_option linter.unusedSimpArgs false
set_option maxRecDepth 100000
attribute [local go_sem] Oper.semAt_some wide_fn wide_depth
def oneS (i : Int) : Int := ((2 ^ i.toNat : Nat) : Int)
theorem oneS_lt {i : Int} (h : 0 ≤ i ∧ i ≤ 63) : U64 (oneS i) ∧ oneS i ≠ 0 := by
  unfold oneS U64
  have h1 : 0 < 2 ^ i.toNat := Nat.pow_pos (by decide)
  have h2 : 2 ^ i.toNat ≤ 2 ^ 63 := Nat.pow_le_pow_right (by decide) (by omega)
  have h3 : (2 : Nat) ^ 63 = 9223372036854775808 := by decide
  omega
theorem SOf_one (i : Int) (g : Nat) (W : World) (hi : 0 ≤ i ∧ i ≤ 63) (hg : W.heap[g]? = some (.cells #[.int .i64 i] 3 (0, 0))) :
    Calls Tryd.prog 21 #[.slice (some ⟨g, 0, none⟩) 1 1] W fun e W' => e = .returned (.int .u64 (oneS i)) ∧ Below W.heap.size W W' := by
  have hC : Kd.C (Kd.int .i64) W (some ⟨g, 0, none⟩) [i].length [i] := C_row hg (reps_map (enc := Value.int .i64) [i]) (by simp)
  obtain ⟨u1, u2⟩ := oneS_lt hi
  have hshl : shl .u64 1 i = oneS i := by
    unfold shl
    rw [show min i.toNat IntKind.u64.bits = i.toNat by simp [IntKind.bits]; omega, Int.one_mul]
    have : ((2 : Int) ^ i.toNat) = oneS i := by unfold oneS; simp
    rw [this]
    simp only [IntKind.wrap, IntKind.bits, IntKind.signed]
    unfold U64 at u1
    simp; omega
  have hor : bits .or .u64 0 (oneS i) = oneS i := by
    rw [u64_or 0 (oneS i) (by omega) (by omega) u1.1 u1.2]
    have := u1.1
    simp; omega
  have hf : PAll9.set_Of.f 2 [i] = some (oneS i) := by
    unfold PAll9.set_Of.f
    simp only [PAll9.set_Of.l0, PAll9.set_item.f, List.length_singleton, rd, Int.toNat_zero, List.getD_cons_zero]
    simp only [show (0 : Int) < ((1 : Nat) : Int) by decide, if_true, show (0 : Int) ≤ 0 by decide, show i ≥ 0 from hi.1, decide_eq_true (show i < 64 by omega), Option.bind_some, hi.1, hshl, hor]
    rw [show wrap64 (0 + 1) = 1 by unfold wrap64; omega, if_neg (by decide)]
  exact (PAll9.set_Of.calls 2 _ 1 [i] _ W hC (by simp) hf).mono fun e W' h => ⟨h.1, by first | exact h.2.below | exact h.2⟩
/-- All items of the atoms. -/
def uniA (al : List At) : Int := uniL (al.filter rightA)
theorem or_u64 {a b : Int} (ha : U64 a) (hb : U64 b) : U64 (bits .or .u64 a b) ∧ (bits .or .u64 a b).toNat = a.toNat ||| b.toNat := by
  rw [u64_or a b ha.1 ha.2 hb.1 hb.2]
  have h1 := Nat.or_lt_two_pow (nat_lt ha) (nat_lt hb)
  have h2 : (2 : Nat) ^ 64 = 18446744073709551616 := by decide
  unfold U64
  rw [Int.toNat_natCast]
  omega
theorem uniA_u (al : List At) (hu : ∀ x ∈ al, U64 x.1) : U64 (uniA al) := by
  unfold uniA uniL
  have : ∀ (xs : List At) (m : Int), U64 m → (∀ x ∈ xs, U64 x.1) → U64 (xs.foldl (fun m x => bits .or .u64 m x.1) m) := by
    intro xs
    induction xs with
    | nil => intro m hm _; exact hm
    | cons x xs ih => intro m hm hx; exact ih _ (or_u64 hm (hx x (by simp))).1 (fun y hy => hx y (List.mem_cons_of_mem _ hy))
  exact this _ 0 (by unfold U64; omega) (fun x hx => hu x (List.mem_filter.1 hx).1)
theorem andNot_u {a b : Int} (ha : U64 a) (hb : U64 b) : U64 (bits .andNot .u64 a b) := by
  rw [u64_andNot a b ha.1 ha.2 hb.1 hb.2]
  have h1 : a.toNat &&& (18446744073709551615 - b.toNat) ≤ a.toNat := Nat.and_le_left
  have := ha.1; have := ha.2
  unfold U64
  omega
/-- What stands to be told: each item beside what it adds. -/
def addE (al : List At) (s : Int) (i : Int) : Int × Int := (i, valueL al (bits .or .u64 s (oneS i)) - valueL al s)
def addsL (al : List At) (s : Int) : List (Int × Int) := (listS (bits .andNot .u64 (uniA al) s)).map (addE al s)
theorem Adds_calls (A : Option Addr) (n c : Nat) (s : Int) (w : World) : Calls Tryd.prog 9 #[.slice A n c, .int .u64 s] w fun e w' =>
    e = .returned (.func (.func 19) #[] #[.pointer (some ⟨w.heap.size, 0, none⟩), .pointer (some ⟨w.heap.size + 1, 0, none⟩)]) ∧ w' = (w.alloc (.cells #[.slice A n c] 22)).alloc (.cells #[.int .u64 s] 23) := by
  go_enter Tryd.func9, Tryd.ntmps9
  go_wp2
  go_ret
  exact ⟨rfl, rfl⟩
/-- What a func over items and numbers tells a round. -/
def AdY (xs : List (Int × Int)) (pre : List (Int × Int)) (x : Int × Int) (vs : Array Value) (W : World) : Prop := pre ++ [x] <+: xs ∧ vs = #[.int .i64 x.1, .int .i64 x.2]
/-- No rows: a round writes none. -/
def TNo : TypeId → Prop := fun _ => False
theorem Union_eq (al : List At) (A : Option Addr) (c : Nat) (r : Int) (W : World) (hC : Kd.C KAt W A al.length al) (h : uniA al = r) :
    Calls Tryd.prog 17 #[.slice A al.length c] W fun e W' => e = .returned (.int .u64 r) ∧ Below W.heap.size W W' := by
  subst h; exact Union_calls al A c W hC
theorem Value_eq (al : List At) (s : Int) (A : Option Addr) (c : Nat) (r : Int) (W : World) (hC : Kd.C KAt W A al.length al) (hs : U64 s) (hu : ∀ x ∈ al, U64 x.1) (h : valueL al s = r) :
    Calls Tryd.prog 15 #[.slice A al.length c, .int .u64 s] W fun e W' => e = .returned (.int .i64 r) ∧ Below W.heap.size W W' := by
  subst h; exact Value_calls al s A c W hC hs hu
set_option maxHeartbeats 3200000 in
theorem Adds1_seq (n : Nat) (al : List At) (s : Int) (A : Option Addr) (c ba bs n₀ : Nat) (Kb : Nat → Prop) (w : World) (hs : U64 s) (hu : ∀ x ∈ al, U64 x.1)
    (hA : ∀ W, Kp n₀ Kb w W → W.cell? ⟨ba, 0, none⟩ = some (.slice A al.length c)) (hS : ∀ W, Kp n₀ Kb w W → W.cell? ⟨bs, 0, none⟩ = some (.int .u64 s)) (hC : ∀ W, Kp n₀ Kb w W → Kd.C KAt W A al.length al)
    (hT : ∀ W, Kp n₀ Kb w W → TabG W) (hn : n₀ ≤ w.heap.size) :
    SeqK TNo Fence.wide n Tryd.prog 19 #[.pointer (some ⟨ba, 0, none⟩), .pointer (some ⟨bs, 0, none⟩)] (AdY (addsL al s)) n₀ Kb (fun ys => ys = addsL al s) (fun _ => True) w := by
  intro l J Jx W hK hJ hJx hJK hY h0
  have hcA := hA W hK
  have hcS := hS W hK
  refine callsIn_wide.2 ((callsIn_wide (n := 8)).1 ?_)
  refine callsIn_of_wp_marks Tryd.func19 rfl trivial ?_ rfl
  simp only [Tryd.ntmps19, List.size_toArray, List.length_cons, List.length_nil, Nat.reduceAdd, Nat.reduceSub, Array.replicate_succ, Array.replicate_zero, List.push_toArray, List.append_toArray, List.nil_append, List.cons_append]
  have hWn := hK.1
  have hba : ba < W.heap.size := World.block_lt_of_cell? W ⟨ba, 0, none⟩ hcA
  have hbs : bs < W.heap.size := World.block_lt_of_cell? W ⟨bs, 0, none⟩ hcS
  have HV0 := Aside0.mk (hC W hK)
  obtain ⟨v0, hv0⟩ : ∃ v, valueL al s = v := ⟨_, rfl⟩
  have HY := Aside0.mk (And.intro hY (And.intro hJ (And.intro hJx (And.intro hA (And.intro hS (And.intro hC (And.intro hu (And.intro hT hJK))))))))
  have HJ0 := Aside0.mk (And.intro h0 hK)
  have HVV := Lib.hid hv0
  clear hY hA hS hu h0 hK hJ hJx hC hT hv0 hJK
  refine wpIn_wide.2 ?_
  go_wp2_with (go_at_call 15; refine (Value_calls al s A c _ (Kd.C_below HV0.out (below_alloc (Below.refl _ _) _)) hs HY.out.2.2.2.2.2.2.1).mono ?_; rintro e w1 ⟨rfl, hb1⟩; rw [HVV.out]; have H1 := Aside0.mk hb1; clear hb1)
  obtain ⟨un, hun⟩ : ∃ u, uniA al = u := ⟨_, rfl⟩
  have huu : U64 un := by rw [← hun]; exact uniA_u al HY.out.2.2.2.2.2.2.1
  obtain ⟨xx, hxx⟩ : ∃ x, bits .andNot .u64 un s = x := ⟨_, rfl⟩
  have hxu : U64 xx := by rw [← hxx]; exact andNot_u huu hs
  have HU := Aside0.mk (And.intro hun (And.intro hxx hxu))
  have hWn1 : W.heap.size < w1.heap.size := by have := H1.out.size; simp at this; omega
  have hbn : Below W.heap.size W (w1.alloc (.cells #[.int .i64 v0] 2)) := below_alloc (below_step (below_alloc (Below.refl _ _) _) H1.out) _
  have gy : (w1.alloc (.cells #[.int .i64 v0] 2)).heap[W.heap.size]? = some (.cells #[.func (.yield l) #[] #[]] 47 (0, 0)) := blk_alloc (blk_belowX (blk_new W _) H1.out) _
  have gn := blk_new w1 (.cells #[.int .i64 v0] 2)
  have hcA1 := (hbn.cell hba).trans hcA
  have hcS1 := (hbn.cell hbs).trans hcS
  have hszn : (w1.alloc (.cells #[.int .i64 v0] 2)).heap.size = w1.heap.size + 1 := by simp
  generalize (w1.alloc (.cells #[.int .i64 v0] 2)) = X1 at hbn gy gn hcA1 hcS1 hszn ⊢
  have HX1 := Aside0.mk (And.intro hbn (And.intro gy gn))
  have HS : Aside0 (∀ w', Below X1.heap.size X1 w' → w'.cell? ⟨ba, 0, none⟩ = some (.slice A al.length c) ∧ w'.cell? ⟨bs, 0, none⟩ = some (.int .u64 s)) :=
    ⟨fun w' hb => by
      have hcl : ∀ {b o v}, X1.cell? ⟨b, o, none⟩ = some v → w'.cell? ⟨b, o, none⟩ = some v := fun h => (hb.cell (World.block_lt_of_cell? _ _ h)).trans h
      exact ⟨hcl hcA1, hcl hcS1⟩⟩
  have B0 : Aside0 (Below X1.heap.size X1 X1.drew) := ⟨pw_below_drewN (Below.refl _ _) 1⟩
  have S0 := Aside0.mk (HS.out _ B0.out)
  clear hbn gy gn hcA hcS hcA1 hcS1 H1 hun hxx huu hxu
  go_region_held3 (fun w' => w'.cell? ⟨ba, 0, none⟩ = some (.slice A al.length c) ∧ w'.cell? ⟨bs, 0, none⟩ = some (.int .u64 s))
    (first | (with_reducible exact S0.out) | (with_reducible exact S1.out) | (with_reducible exact S2.out))
    (first
      | (go_at_call 17; have _t := B0; (with_reducible refine (Union_eq al A c un _ (Kd.C_below HV0.out (below_step HX1.out.1 B0.out)) HU.out.1).mono ?_); rintro e w4 ⟨rfl, hb⟩; have S1 := Aside0.mk (HS.out _ (below_step B0.out hb)); have B1 := Aside0.mk (below_step B0.out hb); clear hb _t B0)
      | (go_at_call 20; have _t := B1; rw [HU.out.2.1]; (with_reducible refine (Items_calls xx _).mono ?_); rintro e w5 ⟨rfl, hw5⟩; have hb := (show Below w4.heap.size w4 w5 by rw [hw5]; exact below_alloc (Below.refl _ _) _); have S2 := Aside0.mk (HS.out _ (below_step B1.out hb)); have B2 := Aside0.mk (below_step B1.out hb); have H5 := Aside0.mk (And.intro hw5 B1.out.size); clear hb hw5 _t B1))
  have hb5 : Below W.heap.size W w5 := below_step HX1.out.1 B2.out
  have gy := blk_belowX HX1.out.2.1 B2.out
  have gn := blk_belowX HX1.out.2.2 B2.out
  have h45 := H5.out.2
  have g5 : w5.heap[w4.heap.size]? = some (.cells #[.int .u64 xx] 23 (0, 0)) := by rw [H5.out.1]; exact blk_new _ _
  have hs5 : w5.heap.size = w4.heap.size + 1 := by rw [H5.out.1]; simp
  have hK5 : Kp n₀ Kb w w5 := HJ0.out.2.trans (.of_below hb5 (by omega))
  have hJ5 : J [] w5 := HY.out.2.1 _ _ _ HJ0.out.1 (.of_below hb5)
  have G := Aside0.mk (And.intro hb5 (And.intro gy (And.intro gn (And.intro g5 (And.intro hK5 hJ5)))))
  clear hb5 gy gn g5 hK5 hJ5 S0 S1 S2 B2 H5 HS HX1
  go_wp2
  refine (wpIn_wide (n := 8)).1 (rangeZ rfl (by omega) (gf := 28) (lb := #[.pointer (some ⟨w4.heap.size, 0, none⟩)]) rfl trivial (enters_of Tryd.func28 (by kernel_rfl) rfl)
    (Y := ItY (listS xx)) (n₀ := w5.heap.size) (Kb := fun k => (k < n₀ ∧ Kb k) ∨ W.heap.size ≤ k) (S := fun xs => xs = listS xx) (Sp := fun _ => True)
    (SeqX.z (T := TNo) (Items1_seq 7 xx w4.heap.size w5.heap.size _ w5 HU.out.2.2
      (fun X hk => by rw [blk_cell ((hk.2 w4.heap.size (by omega) (.inr (by omega))).trans G.out.2.2.2.1) 0]; rfl)
      (fun X hk => HY.out.2.2.2.2.2.2.2.1 X ⟨Nat.le_trans G.out.2.2.2.2.1.1 hk.1, fun k h1 h2 => (hk.2 k (by have := G.out.2.2.2.2.1.1; omega) (.inl ⟨h1, h2⟩)).trans (G.out.2.2.2.2.1.2 k h1 h2)⟩) (Nat.le_refl _))) (Nat.le_refl _)
    (fun _ _ _ _ hy => by obtain ⟨_, rfl⟩ := hy; rfl)
    (fun pre X => J (pre.map (addE al s)) X ∧ Kp n₀ Kb w X ∧ X.heap[W.heap.size]? = some (.cells #[.func (.yield l) #[] #[]] 47 (0, 0)) ∧ X.heap[w1.heap.size]? = some (.cells #[.int .i64 v0] 2 (0, 0)) ∧ X.heap[w4.heap.size]? = some (.cells #[.int .u64 xx] 23 (0, 0)))
    (fun cd _ X => cd = .ret ∧ ∃ q, Jx q X)
    (fun _ P Q h hlie => ⟨HY.out.2.1 _ _ _ h.1 (hlie.wide (by omega)), h.2.1.trans (.of_lies hlie (by omega) (Nat.le_trans hn h.2.1.1)), hlie.blk h.2.2.1, hlie.blk h.2.2.2.1, hlie.blk h.2.2.2.2⟩)
    (fun _ _ P Q h hlie => ⟨h.1, by obtain ⟨q, hq⟩ := h.2; exact ⟨q, HY.out.2.2.1 _ _ _ hq (hlie.wide (by omega))⟩⟩) ⟨G.out.2.2.2.2.2, G.out.2.2.2.2.1, G.out.2.1, G.out.2.2.1, G.out.2.2.2.1⟩ ?round ?done ?stop)
  case round =>
    rintro l2 pre i vs X hl2 ⟨hj, hk, hy1, hy2, hy3⟩ ⟨hpre, rfl⟩ hXs
    have him : i ∈ listS xx := hpre.subset (List.mem_append.2 (.inr (List.mem_singleton.2 rfl)))
    have hi := (listS_mem xx i).1 him
    have hap : (pre ++ [i]).map (addE al s) = pre.map (addE al s) ++ [addE al s i] := by simp
    have hpm : pre.map (addE al s) ++ [addE al s i] <+: addsL al s := by
      have h1 := hpre.map (addE al s)
      rw [hap] at h1
      unfold addsL
      rw [HU.out.1, HU.out.2.1]
      exact h1
    gi_wp2
    refine ⟨Kin.refl _ _ _, Kp.refl _ _ _, ?_⟩
    intro Wb hlie
    have hjb := HY.out.2.1 _ _ _ hj (hlie.wide (by omega))
    have hkb : Kp n₀ Kb w Wb := hk.trans (.of_lies hlie (by omega) (Nat.le_trans hn hk.1))
    have k1 := hlie.blk hy1
    have k2 := hlie.blk hy2
    have k3 := hlie.blk hy3
    have hWbs : w5.heap.size ≤ Wb.heap.size := Nat.le_trans hXs hlie.size
    have hXW : X.heap.size ≤ Wb.heap.size := hlie.size
    have c0 : Wb.cell? ⟨W.heap.size, 0, none⟩ = some (.func (.yield l) #[] #[]) := by rw [blk_cell k1]; rfl
    have c1 := HY.out.2.2.2.1 Wb hkb
    have c2 := HY.out.2.2.2.2.1 Wb hkb
    have c3 : Wb.cell? ⟨w1.heap.size, 0, none⟩ = some (.int .i64 v0) := by rw [blk_cell k2]; rfl
    have HS : Aside0 (∀ w', Below Wb.heap.size Wb w' → w'.cell? ⟨W.heap.size, 0, none⟩ = some (.func (.yield l) #[] #[]) ∧ w'.cell? ⟨ba, 0, none⟩ = some (.slice A al.length c) ∧ w'.cell? ⟨bs, 0, none⟩ = some (.int .u64 s) ∧ w'.cell? ⟨w1.heap.size, 0, none⟩ = some (.int .i64 v0)) :=
      ⟨fun w' hb => by
        have hcl : ∀ {b o v}, Wb.cell? ⟨b, o, none⟩ = some v → w'.cell? ⟨b, o, none⟩ = some v := fun h => (hb.cell (World.block_lt_of_cell? _ _ h)).trans h
        exact ⟨hcl c0, hcl c1, hcl c2, hcl c3⟩⟩
    have HI := Aside0.mk (And.intro hi (And.intro hap (And.intro hpm (And.intro hjb (And.intro hkb (And.intro k1 (And.intro k2 k3)))))))
    clear him hi hap hpm hpre hj hk hy1 hy2 hy3 hjb hkb k1 k2 k3 c0 c1 c2 c3 hlie
    have hmix : Tryd.prog.follows .mixedOrders = true := by kernel_rfl
    gi_wp2
    refine wpIn_region_any hmix ?_
    refine anyIn_round l2 (by intro o ho c; simp at ho; rcases ho with rfl | rfl | rfl | rfl | rfl | rfl | rfl | rfl | rfl | rfl | rfl | rfl | rfl <;> simp) _ _ _ _ ?_
    change wpAnyIn _ _ _ _ _ _ _ _ _ (World.drew _)
    have B0 : Aside0 (Below Wb.heap.size Wb Wb.drew) := ⟨pw_below_drewN (Below.refl _ _) 1⟩
    refine anyS_any (S := fun w' => w'.cell? ⟨W.heap.size, 0, none⟩ = some (.func (.yield l) #[] #[]) ∧ w'.cell? ⟨ba, 0, none⟩ = some (.slice A al.length c) ∧ w'.cell? ⟨bs, 0, none⟩ = some (.int .u64 s) ∧ w'.cell? ⟨w1.heap.size, 0, none⟩ = some (.int .i64 v0)) _ _ _ _ ?_
    refine anyS_take (i := 0) (v := .func (.yield l) #[] #[]) rfl rfl (by kernel_rfl) (by kernel_rfl) (by kernel_rfl) (fun _ _ _ h => h) ⟨Or.inl ⟨by kernel_rfl, ?tk⟩, fun _ => rfl⟩ (HS.out _ B0.out) ?_
    case tk => intro w' hw; obtain ⟨s0, s1, s2, s3⟩ := hw; go_simp
    refine anyS_take (i := 1) (v := .int .i64 i) rfl rfl (by kernel_rfl) (by kernel_rfl) (by kernel_rfl) (fun _ _ _ h => h) ⟨Or.inl ⟨by kernel_rfl, ?tk⟩, fun _ => rfl⟩ (HS.out _ B0.out) ?_
    case tk => intro w' hw; obtain ⟨s0, s1, s2, s3⟩ := hw; first | (go_simp; done) | (go_simp; rfl)
    refine anyS_take (i := 2) (v := .slice A al.length c) rfl rfl (by kernel_rfl) (by kernel_rfl) (by kernel_rfl) (fun _ _ _ h => h) ⟨Or.inl ⟨by kernel_rfl, ?tk⟩, fun _ => rfl⟩ (HS.out _ B0.out) ?_
    case tk => intro w' hw; obtain ⟨s0, s1, s2, s3⟩ := hw; first | (go_simp; done) | (go_simp; rfl)
    refine anyS_take (i := 3) (v := .int .u64 s) rfl rfl (by kernel_rfl) (by kernel_rfl) (by kernel_rfl) (fun _ _ _ h => h) ⟨Or.inl ⟨by kernel_rfl, ?tk⟩, fun _ => rfl⟩ (HS.out _ B0.out) ?_
    case tk => intro w' hw; obtain ⟨s0, s1, s2, s3⟩ := hw; first | (go_simp; done) | (go_simp; rfl)
    refine anyS_take (i := 4) (v := .int .i64 i) rfl rfl (by kernel_rfl) (by kernel_rfl) (by kernel_rfl) (fun _ _ _ h => h) ⟨Or.inl ⟨by kernel_rfl, ?tk⟩, fun _ => rfl⟩ (HS.out _ B0.out) ?_
    case tk => intro w' hw; obtain ⟨s0, s1, s2, s3⟩ := hw; first | (go_simp; done) | (go_simp; rfl)
    refine anyS_take (i := 9) (v := .int .i64 v0) rfl rfl (by kernel_rfl) (by kernel_rfl) (by kernel_rfl) (fun _ _ _ h => h) ⟨Or.inl ⟨by kernel_rfl, ?tk⟩, fun _ => rfl⟩ (HS.out _ B0.out) ?_
    case tk => intro w' hw; obtain ⟨s0, s1, s2, s3⟩ := hw; first | (go_simp; done) | (go_simp; rfl)
    refine anyS_one (i := 5) (by kernel_rfl) (wpOpIn_step rfl fun K hK => ?_)
    go_simp
    have b5 : Aside0 (Below Wb.heap.size Wb (Wb.alloc (.cells #[.int .i64 i] 3)).drew) := ⟨below_drew (below_alloc (Below.refl _ _) _)⟩
    refine hK _ _ ⟨HS.out _ b5.out, ?_⟩
    clear hK K
    refine anyS_one (i := 6) (by kernel_rfl) (wpOpIn_step rfl fun K hK => ?_)
    go_simp
    refine (callsIn_wide.2 (SOf_one i Wb.heap.size (Wb.alloc (.cells #[.int .i64 i] 3)).drew ⟨HI.out.1.1, HI.out.1.2.1⟩ (blk_new Wb _))).mono ?_
    rintro e w6 ⟨rfl, hb6⟩
    have b6 := Aside0.mk (below_step b5.out hb6)
    refine hK _ _ ⟨HS.out _ b6.out, ?_⟩
    clear hK K hb6
    obtain ⟨oo, hoo⟩ : ∃ o, bits BinOp.or IntKind.u64 s (oneS i) = o := ⟨_, rfl⟩
    have hou : U64 oo := by rw [← hoo]; exact (or_u64 hs (oneS_lt ⟨HI.out.1.1, HI.out.1.2.1⟩).1).1
    obtain ⟨v1, hv1⟩ : ∃ v, valueL al oo = v := ⟨_, rfl⟩
    have hbd : 0 ≤ v0 ∧ v0 ≤ 1099511627776 ∧ 0 ≤ v1 ∧ v1 ≤ 1099511627776 := by rw [← HVV.out, ← hv1]; exact ⟨value_ge0 _ _, value_bound _ _, value_ge0 _ _, value_bound _ _⟩
    have hadd : addE al s i = (i, v1 - v0) := by unfold addE; rw [hoo, hv1, HVV.out]
    have HO := Aside0.mk (And.intro hoo (And.intro hou (And.intro hv1 (And.intro hbd hadd))))
    clear hoo hou hv1 hbd hadd
    refine anyS_one (i := 7) (by kernel_rfl) (wpOpIn_step rfl fun K hK => ?_)
    go_simp
    rw [HO.out.1]
    refine hK _ _ ⟨HS.out _ b6.out, ?_⟩
    clear hK K
    refine anyS_one (i := 8) (by kernel_rfl) (wpOpIn_step rfl fun K hK => ?_)
    go_simp
    refine (callsIn_wide.2 (Value_eq al oo A c v1 _ (Kd.C_below (HY.out.2.2.2.2.2.1 Wb HI.out.2.2.2.2.1) b6.out) HO.out.2.1 HY.out.2.2.2.2.2.2.1 HO.out.2.2.1)).mono ?_
    rintro e w8 ⟨rfl, hb8⟩
    have b8 := Aside0.mk (below_step b6.out hb8)
    refine hK _ _ ⟨HS.out _ b8.out, ?_⟩
    clear hK K hb8
    have hsub : IntKind.i64.wrap (v1 - v0) = v1 - v0 := by have := HO.out.2.2.2.1; rw [IntKind.wrap_i64]; omega
    refine anyS_one (i := 10) (by kernel_rfl) (wpOpIn_step rfl fun K hK => ?_)
    go_simp
    try rw [hsub]
    refine hK _ _ ⟨HS.out _ b8.out, ?_⟩
    clear hK K hsub
    have hk8 : Kp n₀ Kb w w8 := HI.out.2.2.2.2.1.trans (.of_below b8.out (by omega))
    have hj8 : J (pre.map (addE al s)) w8 := HY.out.2.1 _ _ _ HI.out.2.2.2.1 (.of_below b8.out)
    obtain ⟨fn, tmps, asg, body, hy, hR⟩ := yieldAt_wide (m' := 5) (HY.out.1 (pre.map (addE al s)) (addE al s i) _ w8 hj8 ⟨HI.out.2.2.1, rfl⟩)
    rw [HO.out.2.2.2.2] at hy hR
    dsimp only at hy
    have e1 := blk_belowX HI.out.2.2.2.2.2.1 b8.out
    have e2 := blk_belowX HI.out.2.2.2.2.2.2.1 b8.out
    have e3 := blk_belowX HI.out.2.2.2.2.2.2.2 b8.out
    have HE := Aside0.mk (And.intro e1 (And.intro e2 (And.intro e3 hk8)))
    clear e1 e2 e3 hk8 hj8
    refine anyS_one (i := 11) (by kernel_rfl) (wpOpIn_step rfl fun K hK => ?_)
    go_simp
    refine hR.mono ?_
    rintro e W3 (⟨rfl, hJ3, hk3, hin⟩ | ⟨rfl, hx3, hin⟩)
    · have hkw : Kp n₀ Kb w W3 := HE.out.2.2.2.trans hk3
      have f1 := (hin.2 W.heap.size (Nat.le_refl _) (lt_of_some HE.out.1) (isC HE.out.1 (fun h => h))).trans HE.out.1
      have f2 := (hin.2 w1.heap.size (by omega) (lt_of_some HE.out.2.1) (isC HE.out.2.1 (fun h => h))).trans HE.out.2.1
      have f3 := (hin.2 w4.heap.size (by omega) (lt_of_some HE.out.2.2.1) (isC HE.out.2.2.1 (fun h => h))).trans HE.out.2.2.1
      have hkin : Kin TNo w5.heap.size X.heap.size Wb W3 := ⟨Nat.le_trans b8.out.size hin.1, fun k h1 h2 h3 => (hin.2 k (by omega) (by have := b8.out.size; omega) (fun _ _ _ _ h => h)).trans (b8.out.block k (by omega))⟩
      have hS3 : W3.cell? ⟨W.heap.size, 0, none⟩ = some (.func (.yield l) #[] #[]) ∧ W3.cell? ⟨ba, 0, none⟩ = some (.slice A al.length c) ∧ W3.cell? ⟨bs, 0, none⟩ = some (.int .u64 s) ∧ W3.cell? ⟨w1.heap.size, 0, none⟩ = some (.int .i64 v0) :=
        ⟨by rw [blk_cell f1]; rfl, HY.out.2.2.2.1 W3 hkw, HY.out.2.2.2.2.1 W3 hkw, by rw [blk_cell f2]; rfl⟩
      have hkp : Kp w5.heap.size (fun k => (k < n₀ ∧ Kb k) ∨ W.heap.size ≤ k) Wb W3 := ⟨Nat.le_trans b8.out.size hin.1, fun k h1 h2 => by
        refine Eq.trans ?_ (b8.out.block k (by omega))
        rcases h2 with ⟨h2, h3⟩ | h2
        · exact hk3.2 k h2 h3
        · exact hin.2 k h2 (by have := b8.out.size; omega) (fun _ _ _ _ h => h)⟩
      have HF := Aside0.mk (And.intro hkin (And.intro hkp (And.intro hJ3 (And.intro hkw (And.intro f1 (And.intro f2 f3))))))
      clear hkin hkp hJ3 hkw f1 f2 f3 hk3 hin
      refine hK _ _ ⟨hS3, ?_⟩
      clear hK K
      refine anyS_one (i := 12) (by kernel_rfl) (wpOpIn_step rfl fun K hK => ?_)
      go_simp
      refine hK _ _ ⟨hS3, ?_⟩
      clear hK K hS3
      refine anyS_done (by kernel_rfl) ?_ _
      gi_wp2
      refine ⟨HF.out.1, HF.out.2.1, ?_, HF.out.2.2.2.1, HF.out.2.2.2.2.1, HF.out.2.2.2.2.2.1, HF.out.2.2.2.2.2.2⟩
      rw [HI.out.2.1, HO.out.2.2.2.2]
      exact HF.out.2.2.1
    · have hkw : Kp n₀ Kb w W3 := HY.out.2.2.2.2.2.2.2.2 _ _ hx3
      have f1 := (hin.2 W.heap.size (Nat.le_refl _) (lt_of_some HE.out.1) (isC HE.out.1 (fun h => h))).trans HE.out.1
      have f2 := (hin.2 w1.heap.size (by omega) (lt_of_some HE.out.2.1) (isC HE.out.2.1 (fun h => h))).trans HE.out.2.1
      have f3 := (hin.2 w4.heap.size (by omega) (lt_of_some HE.out.2.2.1) (isC HE.out.2.2.1 (fun h => h))).trans HE.out.2.2.1
      have hkin : Kin TNo w5.heap.size X.heap.size Wb W3 := ⟨Nat.le_trans b8.out.size hin.1, fun k h1 h2 h3 => (hin.2 k (by omega) (by have := b8.out.size; omega) (fun _ _ _ _ h => h)).trans (b8.out.block k (by omega))⟩
      have hS3 : W3.cell? ⟨W.heap.size, 0, none⟩ = some (.func (.yield l) #[] #[]) ∧ W3.cell? ⟨ba, 0, none⟩ = some (.slice A al.length c) ∧ W3.cell? ⟨bs, 0, none⟩ = some (.int .u64 s) ∧ W3.cell? ⟨w1.heap.size, 0, none⟩ = some (.int .i64 v0) :=
        ⟨by rw [blk_cell f1]; rfl, HY.out.2.2.2.1 W3 hkw, HY.out.2.2.2.2.1 W3 hkw, by rw [blk_cell f2]; rfl⟩
      have HF := Aside0.mk (And.intro hkin hx3)
      clear hkin hx3 hkw f1 f2 f3 hin
      refine hK _ _ ⟨hS3, ?_⟩
      clear hK K
      refine anyS_one (i := 12) (by kernel_rfl) (wpOpIn_step rfl fun K hK => ?_)
      go_simp
      refine hK _ _ ⟨hS3, ?_⟩
      clear hK K hS3
      refine anyS_done (by kernel_rfl) ?_ _
      gi_wp2
      exact ⟨HF.out.1, rfl, _, HF.out.2⟩
  case done =>
    rintro D xs X hD rfl ⟨hj, hk, hy1, hy2, hy3⟩ hKd
    have hj2 : J (addsL al s) X := by
      unfold addsL
      rw [HU.out.1, HU.out.2.1]
      exact hj
    have HF := Aside0.mk (And.intro hj2 hKd)
    clear hj hk hy1 hy2 hy3 hKd hj2
    go_wp2
    refine ⟨by simp, .inl ⟨_, _, rfl, run_takeDeferred HF.out.2, ?_⟩⟩
    refine ⟨_, results_none rfl _ _ _, ⟨_, rfl⟩, .inl ⟨_, rfl, ?_⟩⟩
    exact HY.out.2.1 _ _ _ HF.out.1 (.put (by omega) HF.out.2 rfl _)
  case stop =>
    rintro D cd pre X hD - ⟨rfl, q, hq⟩ hKd
    have HF := Aside0.mk (And.intro hq hKd)
    clear hq hKd
    refine wpIn_wide.2 ?_
    go_wp2
    refine ⟨by simp, .inl ⟨_, _, rfl, run_takeDeferred HF.out.2, ?_⟩⟩
    refine ⟨_, results_none rfl _ _ _, ⟨_, rfl⟩, .inr ⟨q, trivial, ?_⟩⟩
    exact HY.out.2.2.1 _ _ _ HF.out.1 (.put (by omega) HF.out.2 rfl _)
end Go.Proofs.YtcnmbllafdeokaaDoor.H
/- What a function with rounds comes to, given enough of them. No program. -/
namespace Go.Proofs.YtcnmbllafdeokaaDoor.Ult
set_option linter.unusedVariables false
variable {α β : Type}
def Ult (g : Nat → Option α) (r : α) : Prop := ∃ k0, ∀ k, k0 ≤ k → g k = some r
theorem Ult.get {g : Nat → Option α} {r : α} (h : Ult g r) : ∃ k, g k = some r := by obtain ⟨k, h⟩ := h; exact ⟨k, h k (Nat.le_refl _)⟩
theorem Ult.pure (r : α) : Ult (fun _ => some r) r := ⟨0, fun _ _ => rfl⟩
theorem Ult.const {o : Option α} {r : α} (h : o = some r) : Ult (fun _ => o) r := ⟨0, fun _ _ => h⟩
theorem Ult.succ {g : Nat → Option α} {r : α} (h : Ult (fun k => g (k + 1)) r) : Ult g r := by
  obtain ⟨k0, h⟩ := h
  refine ⟨k0 + 1, fun k hk => ?_⟩
  have h1 : g (k - 1 + 1) = some r := h (k - 1) (by omega)
  rwa [show k - 1 + 1 = k by omega] at h1
theorem Ult.bind {g : Nat → Option β} {h : Nat → β → Option α} {x : β} {r : α} (hg : Ult g x) (hh : Ult (fun k => h k x) r) : Ult (fun k => (g k).bind (h k)) r := by
  obtain ⟨k0, hg⟩ := hg
  obtain ⟨k1, hh⟩ := hh
  refine ⟨max k0 k1, fun k hk => ?_⟩
  show (g k).bind (h k) = some r
  rw [hg k (by omega)]
  exact hh k (by omega)
/-- What is told at once. -/
theorem Ult.bind0 {o : Option β} {h : Nat → β → Option α} {x : β} {r : α} (ho : o = some x) (hh : Ult (fun k => h k x) r) : Ult (fun k => o.bind (h k)) r := Ult.bind (.const ho) hh
theorem Ult.pos {c : Prop} [Decidable c] {a b : Nat → Option α} {r : α} (hc : c) (h : Ult a r) : Ult (fun k => if c then a k else b k) r := by
  simp only [if_pos hc]; exact h
theorem Ult.neg {c : Prop} [Decidable c] {a b : Nat → Option α} {r : α} (hc : ¬ c) (h : Ult b r) : Ult (fun k => if c then a k else b k) r := by
  simp only [if_neg hc]; exact h
theorem Ult.ite {c : Prop} [Decidable c] {a b : Nat → Option α} {r : α} (h1 : c → Ult a r) (h2 : ¬ c → Ult b r) : Ult (fun k => if c then a k else b k) r := by
  by_cases hc : c
  · exact .pos hc (h1 hc)
  · exact .neg hc (h2 hc)
/-- Told once, and told the same with more rounds. -/
theorem Ult.of_mono {g : Nat → Option α} {r : α} (hm : ∀ k r, g k = some r → g (k + 1) = some r) {k0 : Nat} (h : g k0 = some r) : Ult g r := by
  refine ⟨k0, fun k hk => ?_⟩
  obtain ⟨d, rfl⟩ : ∃ d, k = k0 + d := ⟨k - k0, by omega⟩
  clear hk
  induction d with
  | zero => exact h
  | succ d ih => exact hm _ _ ih
theorem Ult.eq {g : Nat → Option α} {r r' : α} (h : Ult g r) (e : r = r') : Ult g r' := e ▸ h
end Go.Proofs.YtcnmbllafdeokaaDoor.Ult
/- The document's answers about sets, as the print has them: what they come to (Has, Within). -/
namespace Go.Proofs.YtcnmbllafdeokaaDoor.R02
open Go.RowKit Go.Proofs.YtcnmbllafdeokaaDoor.Ult Go.Proofs.YtcnmbllafdeokaaDoor.AtM Go.Proofs.YtcnmbllafdeokaaDoor.PAll9
set_option linter.unusedVariables false
set_option linter.unusedSimpArgs false
theorem w64 {n : Int} (h0 : -9223372036854775808 ≤ n) (h1 : n ≤ 9223372036854775807) : wrap64 n = n := by
  unfold wrap64; omega
theorem tdiv2 {x : Int} (h : U64 x) : IntKind.u64.wrap (Int.tdiv x 2) = x / 2 ∧ U64 (x / 2) := by
  unfold U64 at *
  rw [Int.tdiv_eq_ediv_of_nonneg h.1]
  refine ⟨?_, by omega⟩
  simp [IntKind.wrap, IntKind.bits, IntKind.signed]; omega
theorem has_l0 (n : Int) : ∀ (d : Nat) (x i : Int), U64 x → i + d = n → 0 ≤ i → n ≤ 64 → Ult (fun k => saleroomref02_Has.l0 k x n i) (x.toNat.testBit d) := by
  intro d
  induction d with
  | zero =>
    intro x i hx hi h0 hn
    refine Ult.succ ?_
    simp only [saleroomref02_Has.l0]
    refine Ult.neg (by omega) (Ult.const ?_)
    congr 1
    rw [Int.tmod_eq_emod_of_nonneg hx.1, Nat.testBit_zero]
    apply Bool.eq_iff_iff.2
    simp only [beq_iff_eq, decide_eq_true_iff]
    have := hx.1
    omega
  | succ d ih =>
    intro x i hx hi h0 hn
    refine Ult.succ ?_
    simp only [saleroomref02_Has.l0]
    refine Ult.pos (by omega) ?_
    obtain ⟨h1, h2⟩ := tdiv2 hx
    rw [h1, w64 (by omega) (by omega)]
    refine (ih (x / 2) (i + 1) h2 (by omega) (by omega) hn).eq ?_
    rw [Nat.testBit_succ, show x.toNat / 2 = (x / 2).toNat from by have := hx.1; omega]
theorem has_ev (x n : Int) (hx : U64 x) : Ult (fun k => saleroomref02_Has.f k x n) (decide (0 ≤ n ∧ n ≤ 63) && x.toNat.testBit n.toNat) := by
  unfold saleroomref02_Has.f
  refine Ult.ite (fun h => ?_) (fun h => ?_)
  · refine Ult.succ ?_
    simp only [saleroomref02_Has.j0, if_true]
    refine Ult.const ?_
    rw [decide_eq_false (by omega)]; rfl
  · refine Ult.succ ?_
    simp only [saleroomref02_Has.j0]
    refine Ult.ite (fun h2 => Ult.const ?_) (fun h2 => ?_)
    · have := of_decide_eq_true h2
      rw [decide_eq_false (by omega)]; rfl
    · have h3 : ¬ n > 63 := fun h3 => h2 (decide_eq_true h3)
      rw [decide_eq_true (show 0 ≤ n ∧ n ≤ 63 by omega), Bool.true_and]
      exact has_l0 n n.toNat x 0 hx (by omega) (Int.le_refl _) (by omega)
/-- Of an item. -/
theorem has_item (x : Int) (i : Nat) (hx : U64 x) (hi : i < 64) : Ult (fun k => saleroomref02_Has.f k x (i : Int)) (x.toNat.testBit i) :=
  (has_ev x i hx).eq (by rw [decide_eq_true (by omega), Bool.true_and, Int.toNat_natCast])
/-- From an item on. -/
theorem within_l0 (x y : Int) (hx : U64 x) (hy : U64 y) : ∀ (d i : Nat), i + d = 64 → (∀ j, j < i → x.toNat.testBit j = true → y.toNat.testBit j = true) → Ult (fun k => saleroomref02_Within.l0 k x y (i : Int)) (wthB x y) := by
  intro d
  induction d with
  | zero =>
    intro i hi hall
    refine Ult.succ ?_
    simp only [saleroomref02_Within.l0]
    refine Ult.neg (by omega) (Ult.const ?_)
    congr 1
    symm
    rw [wth_iff]
    intro j hj
    exact hall j (by have := testBit_big (nat_lt hx) hj; omega) hj
  | succ d ih =>
    intro i hi hall
    refine Ult.succ ?_
    simp only [saleroomref02_Within.l0]
    refine Ult.pos (by omega) ?_
    refine Ult.bind (has_item x i hx (by omega)) ?_
    rw [show wrap64 ((i : Int) + 1) = ((i + 1 : Nat) : Int) by rw [w64 (by omega) (by omega)]; rfl]
    refine Ult.ite (fun h => Ult.bind (has_item y i hy (by omega)) (Ult.ite (fun h2 => ih (i + 1) (by omega) (fun j hj hjx => ?_)) (fun h2 => Ult.const ?_))) (fun h => ih (i + 1) (by omega) (fun j hj hjx => ?_))
    · by_cases e : j = i
      · rw [e]; exact h2
      · exact hall j (by omega) hjx
    · congr 1
      symm
      cases hw : wthB x y with
      | false => rfl
      | true => exact absurd ((wth_iff x y).1 hw i h) h2
    · by_cases e : j = i
      · rw [e] at hjx; exact absurd hjx h
      · exact hall j (by omega) hjx
theorem within_ev (x y : Int) (hx : U64 x) (hy : U64 y) : Ult (fun k => saleroomref02_Within.f k x y) (wthB x y) :=
  within_l0 x y hx hy 64 0 rfl (fun j hj => by omega)
end Go.Proofs.YtcnmbllafdeokaaDoor.R02
/- The document's answers about atoms, and what the print tells of package atom: what they come to. -/
namespace Go.Proofs.YtcnmbllafdeokaaDoor.R09
open Go.RowKit Go.Proofs.YtcnmbllafdeokaaDoor.Ult Go.Proofs.YtcnmbllafdeokaaDoor.AtM Go.Proofs.YtcnmbllafdeokaaDoor.R02 Go.Proofs.YtcnmbllafdeokaaDoor.PAll9
set_option linter.unusedVariables false
set_option linter.unusedSimpArgs false
abbrev SA := S28
def ofA (x : At) : SA := ⟨x.1, x.2⟩
def toA (x : SA) : At := (x.f0, x.f1)
theorem to_of (al : List At) : (al.map ofA).map toA = al := by
  rw [List.map_map]
  exact (List.map_congr_left (fun x _ => rfl)).trans (List.map_id al)
theorem of_to (l : List SA) : (l.map toA).map ofA = l := by
  rw [List.map_map]
  exact (List.map_congr_left (fun x _ => rfl)).trans (List.map_id l)
theorem rd_of (al : List At) (i : Nat) : rd_T28 (al.map ofA) (i : Int) = ofA (g0 al i) := by
  unfold rd_T28 g0
  rw [Int.toNat_natCast, List.getD_eq_getElem?_getD, List.getD_eq_getElem?_getD, List.getElem?_map]
  cases al[i]? with
  | none => rfl
  | some x => rfl
theorem right_f (x : At) : saleroomref09_Right.f x.1 x.2 = some (rightA x) := by
  unfold saleroomref09_Right.f rightA
  split
  · rename_i h; rw [decide_eq_false (by omega)]
  · split
    · congr 1; apply decide_eq_decide.2; omega
    · rw [decide_eq_false (by omega)]
end Go.Proofs.YtcnmbllafdeokaaDoor.R09
/- The document's answers about atoms, and what the print tells of package atom: what they come to. -/
namespace Go.Proofs.YtcnmbllafdeokaaDoor.R09
open Go.RowKit Go.Proofs.YtcnmbllafdeokaaDoor.Ult Go.Proofs.YtcnmbllafdeokaaDoor.AtM Go.Proofs.YtcnmbllafdeokaaDoor.R02 Go.Proofs.YtcnmbllafdeokaaDoor.PAll9
set_option linter.unusedVariables false
set_option linter.unusedSimpArgs false
/-! ### Value -/
theorem value_l0 (al : List At) (s : Int) (hs : U64 s) (hu : ∀ x ∈ al, U64 x.1) (hl : al.length ≤ 600000) : ∀ (d i : Nat) (out : Int), i + d = al.length → Ult (fun k => saleroomref09_Value.l0 k (al.map ofA) s out (i : Int)) ((withinL (al.drop i) s).foldl (fun m x => max m x.2) out) := by
  intro d
  induction d with
  | zero =>
    intro i out hi
    refine Ult.succ ?_
    simp only [saleroomref09_Value.l0, List.length_map]
    refine Ult.neg (by omega) (Ult.const ?_)
    rw [List.drop_of_length_le (by omega)]; rfl
  | succ d ih =>
    intro i out hi
    have hil : i < al.length := by omega
    refine Ult.succ ?_
    simp only [saleroomref09_Value.l0, List.length_map, rd_of]
    refine Ult.pos (by omega) (Ult.pos (by omega) (Ult.bind0 (right_f (g0 al i)) ?_))
    rw [show wrap64 ((i : Int) + 1) = ((i + 1 : Nat) : Int) by rw [w64 (by omega) (by omega)]; rfl]
    have hx : al[i] = g0 al i := by unfold g0; rw [List.getD_eq_getElem?_getD, List.getElem?_eq_getElem hil]; rfl
    have hd : withinL (al.drop i) s = if rightA (g0 al i) = true ∧ wthB (g0 al i).1 s = true then g0 al i :: withinL (al.drop (i + 1)) s else withinL (al.drop (i + 1)) s := by
      rw [List.drop_eq_getElem_cons hil, hx]
      unfold withinL
      rw [List.filter_cons]
      by_cases h1 : rightA (g0 al i) = true
      · rw [if_pos h1, List.filter_cons]
        by_cases h2 : wthB (g0 al i).1 s = true
        · rw [if_pos (show inA s (g0 al i) = true from h2), if_pos ⟨h1, h2⟩]
        · rw [if_neg (show ¬ inA s (g0 al i) = true from h2), if_neg (fun h => h2 h.2)]
      · rw [if_neg h1, if_neg (fun h => h1 h.1)]
    rw [hd]
    refine Ult.ite (fun h1 => Ult.bind (within_ev _ _ (hu _ (g0_mem hil)) hs) ?_) (fun h1 => ?_)
    · refine Ult.ite (fun h2 => ?_) (fun h2 => ?_)
      · rw [if_pos ⟨h1, h2⟩, List.foldl_cons]
        refine Ult.ite (fun h3 => ?_) (fun h3 => ?_)
        · have : max out (g0 al i).2 = (ofA (g0 al i)).f1 := by show max out _ = (g0 al i).2; have h3 : (g0 al i).2 > out := h3; omega
          rw [this]; exact ih (i + 1) _ (by omega)
        · have : max out (g0 al i).2 = out := by have h3 : ¬ (g0 al i).2 > out := h3; omega
          rw [this]; exact ih (i + 1) _ (by omega)
      · rw [if_neg (fun h => h2 h.2)]; exact ih (i + 1) _ (by omega)
    · rw [if_neg (fun h => h1 h.1)]; exact ih (i + 1) _ (by omega)
theorem value_ev (al : List At) (s : Int) (hs : U64 s) (hu : ∀ x ∈ al, U64 x.1) (hl : al.length ≤ 600000) : Ult (fun k => saleroomref09_Value.f k (al.map ofA) s) (valueL al s) :=
  value_l0 al s hs hu hl al.length 0 0 (by omega)
end Go.Proofs.YtcnmbllafdeokaaDoor.R09
/- Kinds by a Lean structure: rows of structures as rows of pairs. -/
namespace Go.Proofs.YtcnmbllafdeokaaDoor.H
open Go.RowKit Go.Proofs.YtcnmbllafdeokaaDoorW.PrintWords Go.Proofs.YtcnmbllafdeokaaDoorW.PrintLast Go.Proofs.YtcnmbllafdeokaaDoorW.PrintMore
set_option linter.unusedVariables false
section
variable {α β : Type} {d : Kd α} {f : β → α} {w : World}
theorem C_iso {A : Option Addr} {n : Nat} {xs : List β} (h : Kd.C (Kd.iso d f) w A n xs) : Kd.C d w A n (xs.map f) :=
  ⟨by rw [List.length_map]; exact h.1, h.2.1, fun hn => by
    obtain ⟨ad, e, hr⟩ := h.2.2 hn
    refine ⟨ad, e, fun j p hj => ?_⟩
    rw [List.getElem?_map] at hj
    obtain ⟨q, hq, rfl⟩ := Option.map_eq_some_iff.1 hj
    exact hr j q hq⟩
theorem C_iso' {A : Option Addr} {n : Nat} {xs : List β} (h : Kd.C d w A n (xs.map f)) : Kd.C (Kd.iso d f) w A n xs :=
  ⟨by have := h.1; rwa [List.length_map] at this, h.2.1, fun hn => by
    obtain ⟨ad, e, hr⟩ := h.2.2 hn
    refine ⟨ad, e, fun j p hj => ?_⟩
    exact hr j (f p) (by rw [List.getElem?_map, hj]; rfl)⟩
theorem reps_iso {R : α → List Value → Prop} {sz : Nat} {xs : List β} {cs : List Value} (h : Reps (fun x c => R (f x) c) sz xs cs) : Reps R sz (xs.map f) cs :=
  ⟨by rw [List.length_map]; exact h.1, fun j p hj => by
    rw [List.getElem?_map] at hj
    obtain ⟨q, hq, rfl⟩ := Option.map_eq_some_iff.1 hj
    exact h.2 j q hq⟩
theorem reps_iso' {R : α → List Value → Prop} {sz : Nat} {xs : List β} {cs : List Value} (h : Reps R sz (xs.map f) cs) : Reps (fun x c => R (f x) c) sz xs cs :=
  ⟨by have := h.1; rwa [List.length_map] at this, fun j p hj => h.2 j (f p) (by rw [List.getElem?_map, hj]; rfl)⟩
theorem R_iso {e : Nat} {base : Nat} {ok : Nat → Prop} {v : Value} {xs : List β} (h : Kd.R (Kd.iso d f) e w base ok v xs) : Kd.R d e w base ok v (xs.map f) := by
  obtain ⟨h0, inner, ho, hr⟩ := h
  refine ⟨h0, inner, ?_, reps_iso hr⟩
  rw [List.length_map]; exact ho
theorem R_iso' {e : Nat} {base : Nat} {ok : Nat → Prop} {v : Value} {xs : List β} (h : Kd.R d e w base ok v (xs.map f)) : Kd.R (Kd.iso d f) e w base ok v xs := by
  obtain ⟨h0, inner, ho, hr⟩ := h
  refine ⟨h0, inner, ?_, reps_iso' (R := d.M w base fun k => ok k ∧ some k ≠ v.ownBlock) (f := f) hr⟩
  rw [List.length_map] at ho; exact ho
theorem R_slice_iso' {e e2 : Nat} {base : Nat} {ok : Nat → Prop} {v : Value} {xs : List (List β)} (h : Kd.R (Kd.slice e2 d) e w base ok v (xs.map fun ys => ys.map f)) : Kd.R (Kd.slice e2 (Kd.iso d f)) e w base ok v xs := by
  obtain ⟨h0, inner, ho, hr⟩ := h
  rw [List.length_map] at ho
  refine ⟨h0, inner, ho, by have := hr.1; rwa [List.length_map] at this, fun j p hj => ?_⟩
  obtain ⟨u, hu, hR⟩ := hr.2 j (p.map f) (by rw [List.getElem?_map, hj]; rfl)
  exact ⟨u, hu, R_iso' hR⟩
end
end Go.Proofs.YtcnmbllafdeokaaDoor.H
