/- Some texts of one seat in one file, in build order. -/
import Derived.Test.YtmcapemlfplcgaaDoorG18
import Derived.Test.YtmcapemlfplcgaaDoorG13
import Derived.Test.YtmcapemlfplcgaaDoorG17
/- Folder 02, plain: splits and choices as the program's words have them. -/
namespace Go.Proofs.YtmcapemlfplcgaaDoor.R02
open Go.RowKit Go.Proofs.YtmcapemlfplcgaaDoor.Ult Go.Proofs.YtmcapemlfplcgaaDoor.AtM Go.Proofs.YtmcapemlfplcgaaDoor.H Go.Proofs.YtmcapemlfplcgaaDoor.PAll2 Go.Proofs.YtmcapemlfplcgaaDoorW.PrintWords Go.Proofs.YtmcapemlfplcgaaDoorW.PrintLast Go.Proofs.YtmcapemlfplcgaaDoorW.PrintMore
set_option linter.unusedVariables false
set_option linter.unusedSimpArgs false
set_option maxRecDepth 100000
/-- The least item. -/
def lowS (a : Int) : Int := bits BinOp.and IntKind.u64 a (IntKind.u64.wrap (-a))
theorem low_nat {x k m : Nat} (h : x = 2 ^ k * (2 * m + 1)) (hx : x < 2 ^ 64) : x &&& (2 ^ 64 - x) = 2 ^ k := by
  have hp : 0 < 2 ^ k := Nat.pow_pos (by decide)
  have h0 : 0 < x := by rw [h]; exact Nat.mul_pos hp (by omega)
  have e1 : 2 ^ 64 - x = 2 ^ 64 - ((x - 1) + 1) := by rw [Nat.sub_add_cancel h0]
  have hlow : ∀ j, j < k → x.testBit j = false := fun j hj => by
    rw [h, Nat.mul_comm, Nat.testBit_mul_two_pow]
    simp; omega
  have hk : x.testBit k = true := by
    rw [h, Nat.mul_comm, Nat.testBit_mul_two_pow]
    simp
  apply Nat.eq_of_testBit_eq
  intro i
  rw [e1, Nat.testBit_and, Nat.testBit_two_pow_sub_succ (by omega), Nat.testBit_two_pow]
  have hd := drop_low h i
  rw [Nat.testBit_and] at hd
  by_cases hik : i = k
  · subst hik
    rw [hk] at hd ⊢
    have h3 := testBit_big hx hk
    have : (x - 1).testBit i = false := by simpa using hd
    rw [this]; simp [h3]
  · rw [show decide (k = i) = false from decide_eq_false (fun e => hik e.symm)]
    rcases Nat.lt_or_ge i k with h2 | h2
    · rw [hlow i h2]; rfl
    · have h3 : k < i := by omega
      cases hb : x.testBit i with
      | false => rfl
      | true =>
        rw [hb] at hd
        have : (x - 1).testBit i = true := by simpa [h3] using hd
        rw [this]; simp
theorem low_eq {a : Int} (ha : U64 a) (h0 : a ≠ 0) : ∃ k m : Nat, k < 64 ∧ lowS a = ((2 ^ k : Nat) : Int) ∧ a.toNat = 2 ^ k * (2 * m + 1) ∧ a.toNat.testBit k = true := by
  obtain ⟨x, rfl⟩ : ∃ x : Nat, a = x := ⟨a.toNat, by have := ha.1; omega⟩
  have hx := nat_lt ha
  rw [Int.toNat_natCast] at hx ⊢
  have hx0 : x ≠ 0 := fun e => h0 (by rw [e]; rfl)
  obtain ⟨hk, m, hm⟩ := ctz_low hx0 hx
  refine ⟨Lib.ctz 64 x, m, hk, ?_, hm, ?_⟩
  · unfold lowS
    have h64 : (2 : Nat) ^ 64 = 18446744073709551616 := by decide
    have e : IntKind.u64.wrap (-(x : Int)) = ((2 ^ 64 - x : Nat) : Int) := by rw [IntKind.wrap_u64, h64]; omega
    rw [e, u64_and_nat _ _ (by omega) (by omega), low_nat hm hx]
  · generalize Lib.ctz 64 x = k at hm
    rw [hm, Nat.mul_comm, Nat.testBit_mul_two_pow]
    simp
/-- The rest of a set without one that lies within. -/
theorem andNot_sub {a x : Nat} (ha : a < 2 ^ 64) (hx : x &&& a = x) : bits BinOp.andNot IntKind.u64 (a : Int) (x : Int) = ((a - x : Nat) : Int) ∧ x &&& (a - x) = 0 ∧ x ||| (a - x) = a := by
  have h64 : (2 : Nat) ^ 64 = 18446744073709551616 := by decide
  have hle : x ≤ a := by rw [← hx]; exact Nat.and_le_right
  have hxl : x < 2 ^ 64 := by omega
  have hsub : ∀ i, x.testBit i = true → a.testBit i = true := fun i hi => by
    have := congrArg (fun n => n.testBit i) hx
    simp only [Nat.testBit_and, hi, Bool.true_and] at this
    exact this
  obtain ⟨y, hy⟩ : ∃ y, a &&& (2 ^ 64 - (x + 1)) = y := ⟨_, rfl⟩
  have hyb : ∀ i, y.testBit i = (a.testBit i && !x.testBit i) := fun i => by
    rw [← hy, Nat.testBit_and, Nat.testBit_two_pow_sub_succ hxl]
    cases hai : a.testBit i with
    | false => rfl
    | true => simp [testBit_big ha hai]
  have hxy : x &&& y = 0 := by
    apply Nat.eq_of_testBit_eq
    intro i
    rw [Nat.testBit_and, hyb, Nat.zero_testBit]
    cases x.testBit i <;> simp
  have hor : x ||| y = a := by
    apply Nat.eq_of_testBit_eq
    intro i
    rw [Nat.testBit_or, hyb]
    cases hi : x.testBit i with
    | false => simp
    | true => rw [hsub i hi]; rfl
  have hyl : y < 2 ^ 64 := by rw [← hy]; exact Nat.lt_of_le_of_lt Nat.and_le_left ha
  have hadd : x + y = a := by
    have hand : BitVec.ofNat 64 x &&& BitVec.ofNat 64 y = 0#64 := by
      apply BitVec.eq_of_toNat_eq
      rw [BitVec.toNat_and, BitVec.toNat_ofNat, BitVec.toNat_ofNat, Nat.mod_eq_of_lt hxl, Nat.mod_eq_of_lt hyl, hxy]; rfl
    have hadd := BitVec.add_eq_or_of_and_eq_zero _ _ hand
    have hn := congrArg BitVec.toNat hadd
    rw [BitVec.toNat_add, BitVec.toNat_or, BitVec.toNat_ofNat, BitVec.toNat_ofNat, Nat.mod_eq_of_lt hxl, Nat.mod_eq_of_lt hyl, hor] at hn
    have hya : y ≤ a := by rw [← hy]; exact Nat.and_le_left
    by_cases hlt : x + y < 2 ^ 64
    · rw [Nat.mod_eq_of_lt hlt] at hn; exact hn
    · exfalso
      have : (x + y) % 2 ^ 64 = x + y - 2 ^ 64 := by rw [Nat.mod_eq_sub_mod (by omega), Nat.mod_eq_of_lt (by omega)]
      omega
  have ey : y = a - x := by omega
  refine ⟨?_, by rw [← ey]; exact hxy, by rw [← ey]; exact hor⟩
  rw [u64_andNot_nat _ _ (by omega) (by omega), ← ey, ← hy]
  congr 2
  omega
/-- What Splits tells. -/
def splL (a : Int) : List Int := if a = 0 then [] else (subsS (bits BinOp.andNot IntKind.u64 a (lowS a))).map fun x => bits BinOp.or IntKind.u64 x (lowS a)
theorem spl_want {a : Int} (ha : U64 a) (h0 : a ≠ 0) : (subsS a).filter (fun s => bits BinOp.and IntKind.u64 s (lowS a) != 0) = splL a := by
  obtain ⟨k, m, hk, hl, hm, hb⟩ := low_eq ha h0
  have hlt := nat_lt ha
  have h64 : (2 : Nat) ^ 64 = 18446744073709551616 := by decide
  have hp : (2 : Nat) ^ k < 2 ^ 64 := Nat.pow_lt_pow_right (by decide) hk
  unfold splL
  rw [if_neg h0, hl]
  obtain ⟨x, rfl⟩ : ∃ x : Nat, a = x := ⟨a.toNat, by have := ha.1; omega⟩
  rw [Int.toNat_natCast] at hm hb hlt
  have hsub : 2 ^ k &&& x = 2 ^ k := by
    apply Nat.eq_of_testBit_eq
    intro i
    rw [Nat.testBit_and, Nat.testBit_two_pow]
    by_cases e : k = i
    · subst e; rw [hb]; simp
    · simp [e]
  have han := (andNot_sub hlt hsub).1
  rw [han]
  unfold subsS
  rw [Int.toNat_natCast, Int.toNat_natCast, List.filter_map, List.map_map]
  have hf : (subR 64 x).filter ((fun s => bits BinOp.and IntKind.u64 s ((2 ^ k : Nat) : Int) != 0) ∘ fun (n : Nat) => (n : Int)) = (subR 64 x).filter fun e => e.testBit k := by
    apply List.filter_congr
    intro e he
    have hel := subR_lt x 64 e he
    show (bits BinOp.and IntKind.u64 (e : Int) ((2 ^ k : Nat) : Int) != 0) = e.testBit k
    rw [u64_and_nat _ _ (by omega) (by omega)]
    cases hbe : e.testBit k with
    | true =>
      have hand : e &&& 2 ^ k ≠ 0 := fun h => by
        have := congrArg (fun n => n.testBit k) h
        simp only [Nat.testBit_and, hbe, Nat.testBit_two_pow, Nat.zero_testBit] at this
        simp at this
      simp; exact hand
    | false =>
      have hand : e &&& 2 ^ k = 0 := by
        apply Nat.eq_of_testBit_eq
        intro i
        rw [Nat.testBit_and, Nat.testBit_two_pow, Nat.zero_testBit]
        by_cases ei : k = i
        · subst ei; rw [hbe]; rfl
        · simp [ei]
      rw [hand]; rfl
  rw [hf, split_sub k 64 m x hm hlt, List.map_map]
  apply List.map_congr_left
  intro e he
  have hel : e < 2 ^ 64 := subR_lt _ 64 e he
  have hin := sub_in 64 (x - 2 ^ k) (by omega) e he
  have heb : e.testBit k = false := by
    have hxb : (x - 2 ^ k).testBit k = false := by
      have h2 := (andNot_sub hlt hsub).2.1
      have := congrArg (fun n => n.testBit k) h2
      simp only [Nat.testBit_and, Nat.testBit_two_pow, Nat.zero_testBit] at this
      simpa using this
    rw [← hin, Nat.testBit_and, hxb, Bool.and_false]
  show ((e + 2 ^ k : Nat) : Int) = bits BinOp.or IntKind.u64 (e : Int) ((2 ^ k : Nat) : Int)
  rw [u64_or_nat _ _ (by omega) (by omega), or_add hel hk heb]
/-- What is split off and what is left. -/
theorem spl_parts {a x : Int} (ha : U64 a) (hx : x ∈ splL a) : U64 x ∧ U64 (bits BinOp.andNot IntKind.u64 a x) ∧ bits BinOp.and IntKind.u64 x (bits BinOp.andNot IntKind.u64 a x) = 0 ∧ bits BinOp.or IntKind.u64 x (bits BinOp.andNot IntKind.u64 a x) = a := by
  by_cases h0 : a = 0
  · subst h0; simp [splL] at hx
  · rw [← spl_want ha h0] at hx
    have hx := (List.mem_filter.1 hx).1
    obtain ⟨e, he, rfl⟩ := List.mem_map.1 hx
    have hlt := nat_lt ha
    have h64 : (2 : Nat) ^ 64 = 18446744073709551616 := by decide
    obtain ⟨y, rfl⟩ : ∃ y : Nat, a = y := ⟨a.toNat, by have := ha.1; omega⟩
    rw [Int.toNat_natCast] at he hlt
    have hin := sub_in 64 y hlt e he
    have hel := subR_lt _ 64 e he
    obtain ⟨h1, h2, h3⟩ := andNot_sub hlt hin
    rw [h1]
    refine ⟨by unfold U64; omega, by unfold U64; omega, ?_, ?_⟩
    · rw [u64_and_nat _ _ (by omega) (by omega), h2]; rfl
    · rw [u64_or_nat _ _ (by omega) (by omega), h3]
/-- What Choose tells. -/
def chL (a n : Int) : List Int := zs (chV (rsN a.toNat 64) n 0)
theorem ch_want {a : Int} (n : Int) : (subsS a).filter (fun s => decide ((pcS s : Int) = n)) = chL a n := by
  unfold chL subsS zs
  rw [chV_sub a.toNat 64 (by omega) n 0 (by decide) (by decide), List.filter_map, List.map_map]
  rw [show ((fun s => decide ((pcS s : Int) = n)) ∘ fun (n : Nat) => (n : Int)) = fun e : Nat => decide ((pcN e : Int) = n) from by funext e; show decide ((pcN (e : Int).toNat : Int) = n) = _; rw [Int.toNat_natCast]]
  apply List.map_congr_left
  intro e _
  show (e : Int) = ((0 + e : Nat) : Int)
  rw [Nat.zero_add]
end Go.Proofs.YtmcapemlfplcgaaDoor.R02
/- package set: Splits, as an iterator. -/
namespace Go.Proofs.YtmcapemlfplcgaaDoor.H
open Go.RowKit Go.Proofs.YtmcapemlfplcgaaDoorW.PrintWords Go.Proofs.YtmcapemlfplcgaaDoorW.PrintLast Go.Proofs.YtmcapemlfplcgaaDoorW.PrintMore Go.Proofs.YtmcapemlfplcgaaDoor.AtM Go.Proofs.YtmcapemlfplcgaaDoor.R02
set_option linter.unusedVariables false
set_option linter.unusedSimpArgs false
set_option maxRecDepth 100000
attribute [local go_sem] Oper.semAt_some wide_fn wide_depth
def TU : TypeId → Prop := fun q => q = 22
def SqY (a : Int) (pre : List Int) (x : Int) (vs : Array Value) (W : World) : Prop := pre ++ [x] <+: splL a ∧ vs = #[.int .u64 x, .int .u64 (bits BinOp.andNot IntKind.u64 a x)]
theorem low_rest {a : Int} (ha : U64 a) (h0 : a ≠ 0) : U64 (bits BinOp.andNot IntKind.u64 a (lowS a)) := by
  obtain ⟨k, m, hk, hl, hm, hb⟩ := low_eq ha h0
  have hlt := nat_lt ha
  have h64 : (2 : Nat) ^ 64 = 18446744073709551616 := by decide
  obtain ⟨x, rfl⟩ : ∃ x : Nat, a = x := ⟨a.toNat, by have := ha.1; omega⟩
  rw [Int.toNat_natCast] at hb hlt
  have hsub : 2 ^ k &&& x = 2 ^ k := by
    apply Nat.eq_of_testBit_eq
    intro i
    rw [Nat.testBit_and, Nat.testBit_two_pow]
    by_cases e : k = i
    · subst e; rw [hb]; simp
    · simp [e]
  rw [hl, (andNot_sub hlt hsub).1]
  unfold U64
  omega
theorem Splits_calls (s : Int) (w : World) : Calls Tryd.prog 39 #[.int .u64 s] w fun e w' =>
    e = .returned (.func (.func 61) #[] #[.pointer (some ⟨w.heap.size, 0, none⟩)]) ∧ w' = w.alloc (.cells #[.int .u64 s] 22) := by
  go_enter Tryd.func39, Tryd.ntmps39
  go_wp2
  go_ret
  exact ⟨rfl, rfl⟩
set_option maxHeartbeats 1600000 in
theorem Splits1_seq (n : Nat) (a : Int) (bb n₀ : Nat) (Kb : Nat → Prop) (w : World) (ha : U64 a)
    (hbox : ∀ W, Kp n₀ Kb w W → W.cell? ⟨bb, 0, none⟩ = some (.int .u64 a)) (hn : n₀ ≤ w.heap.size) :
    SeqG TU 3 Fence.wide n Tryd.prog 61 #[.pointer (some ⟨bb, 0, none⟩)] (SqY a) n₀ Kb (fun ys => ys = splL a) (fun _ => True) w := by
  intro l J Jx W hK hJ hJx hY h0
  have hcS := hbox W hK
  refine callsIn_wide.2 ((callsIn_wide (n := 8)).1 ?_)
  have hWn := hK.1
  have hbs : bb < W.heap.size := World.block_lt_of_cell? W ⟨bb, 0, none⟩ hcS
  have HY := Aside0.mk (And.intro hY (And.intro hJ (And.intro hJx hbox)))
  have HJ0 := Aside0.mk (And.intro h0 hK)
  clear hY hbox h0 hK hJ hJx
  by_cases h00 : a = 0
  · subst h00
    have hsp : splL 0 = [] := by decide
    refine callsIn_of_wp Tryd.func61 rfl trivial ?_ rfl
    simp only [Tryd.ntmps61, List.size_toArray, List.length_cons, List.length_nil, Nat.reduceAdd, Nat.reduceSub, Array.replicate_succ, Array.replicate_zero, List.push_toArray, List.append_toArray, List.nil_append, List.cons_append]
    gi_wp2
    refine bodyPost_ret (results_none rfl _ _ _) rfl ?_
    refine ⟨⟨_, rfl⟩, .inl ⟨_, rfl, ?_⟩⟩
    rw [hsp]
    exact HY.out.2.1 _ _ _ HJ0.out.1 (.of_below (below_alloc (below_alloc (Below.refl _ _) _) _))
  · refine callsIn_of_wp_marks Tryd.func61 rfl trivial ?_ rfl
    simp only [Tryd.ntmps61, List.size_toArray, List.length_cons, List.length_nil, Nat.reduceAdd, Nat.reduceSub, Array.replicate_succ, Array.replicate_zero, List.push_toArray, List.append_toArray, List.nil_append, List.cons_append]
    have hab : (a == 0) = false := by simp [h00]
    have hrest := low_rest ha h00
    have hdef : splL a = (subsS (bits BinOp.andNot IntKind.u64 a (lowS a))).map fun x => bits BinOp.or IntKind.u64 x (lowS a) := if_neg h00
    obtain ⟨s, hs⟩ : ∃ s, bits BinOp.andNot IntKind.u64 a (lowS a) = s := ⟨_, rfl⟩
    rw [hs] at hrest hdef
    have hch := chain_subs hrest
    obtain ⟨xs, hxs⟩ : ∃ xs, subsS s = xs := ⟨_, rfl⟩
    rw [hxs] at hch hdef
    obtain ⟨t, ht⟩ : ∃ t, bits BinOp.and IntKind.u64 a (IntKind.u64.wrap (-a)) = t := ⟨_, rfl⟩
    have ht2 : lowS a = t := ht
    rw [ht2] at hs hdef
    have HP := Aside0.mk (And.intro hch hdef)
    clear hch hdef hxs hrest ht2
    gi_wp2_with (fail)
    try simp only [ht, hs]
    have hb2 : Below W.heap.size W ((W.alloc (.cells #[.func (.yield l) #[] #[]] 29)).alloc (.cells #[.int .u64 t] 22)) := below_alloc (below_alloc (Below.refl _ _) _) _
    have g0 := blk_alloc (blk_new W (.cells #[.func (.yield l) #[] #[]] 29)) (.cells #[.int .u64 t] 22)
    have g1 := blk_new2 W (.cells #[.func (.yield l) #[] #[]] 29) (.cells #[.int .u64 t] 22)
    have hz2 : ((W.alloc (.cells #[.func (.yield l) #[] #[]] 29)).alloc (.cells #[.int .u64 t] 22)).heap.size = W.heap.size + 2 := by simp
    generalize (W.alloc (.cells #[.func (.yield l) #[] #[]] 29)).alloc (.cells #[.int .u64 t] 22) = w2 at hb2 g0 g1 hz2 ⊢
    refine (callsIn_wide.2 (Subsets_calls s w2)).mono ?_
    rintro e w5 ⟨rfl, hw5⟩
    have hb5 : Below w2.heap.size w2 w5 := by rw [hw5]; exact below_alloc (Below.refl _ _) _
    have g2 : w5.heap[w2.heap.size]? = some (.cells #[.int .u64 s] 22 (0, 0)) := by rw [hw5]; exact blk_new _ _
    have hs5 : w5.heap.size = W.heap.size + 3 := by rw [hw5]; simp [hz2]
    have g0 := blk_belowX g0 hb5
    have g1 := blk_belowX g1 hb5
    have hb5 := below_step hb2 hb5
    rw [hz2] at g2 ⊢
    have hK5 : Kp n₀ Kb w w5 := HJ0.out.2.trans (.of_below hb5 (by omega))
    have hJ5 : J [] w5 := HY.out.2.1 _ _ _ HJ0.out.1 (.of_below hb5)
    have G := Aside0.mk (And.intro hb5 (And.intro g0 (And.intro g1 (And.intro g2 (And.intro hK5 hJ5)))))
    clear hb2 hb5 g0 g1 g2 hK5 hJ5 hw5 hcS hz2
    gi_wp2_with (fail)
    refine rangeZ rfl (by omega) (gf := 56) (lb := #[.pointer (some ⟨W.heap.size + 2, 0, none⟩)]) rfl trivial (enters_of Tryd.func56 (by kernel_rfl) rfl)
      (Y := SuY xs) (n₀ := w5.heap.size) (Kb := fun k => (k < n₀ ∧ Kb k) ∨ W.heap.size ≤ k) (S := fun ys => ys = xs) (Sp := fun _ => True)
      (SeqX.z (T := TU) (Subsets1_seq 7 s xs (W.heap.size + 2) w5.heap.size _ w5 HP.out.1
        (fun X hk => by rw [blk_cell ((hk.2 (W.heap.size + 2) (by omega) (.inr (by omega))).trans G.out.2.2.2.1) 0]; rfl) (Nat.le_refl _))) (Nat.le_refl _)
      (fun _ _ _ _ hy => by obtain ⟨_, rfl⟩ := hy; rfl)
      (fun pre X => J (pre.map fun x => bits BinOp.or IntKind.u64 x t) X ∧ Kp n₀ Kb w X ∧ Kp w5.heap.size (fun k => (k < n₀ ∧ Kb k) ∨ W.heap.size ≤ k) w5 X)
      (fun cd _ X => cd = .ret ∧ ∃ q, Jx q X)
      (fun _ P Q h hlie => ⟨HY.out.2.1 _ _ _ h.1 (hlie.wide (by omega)), h.2.1.trans (.of_lies hlie (by omega) (Nat.le_trans hn h.2.1.1)), h.2.2.trans (.of_lies hlie (Nat.le_refl _) h.2.2.1)⟩)
      (fun _ _ P Q h hlie => ⟨h.1, by obtain ⟨q, hq⟩ := h.2; exact ⟨q, HY.out.2.2.1 _ _ _ hq (hlie.wide (by omega))⟩⟩)
      ⟨G.out.2.2.2.2.2, G.out.2.2.2.2.1, Kp.refl _ _ _⟩ ?round ?done ?stop
    case round =>
      rintro l2 pre x vs X hl2 ⟨hj, hk, hk5⟩ ⟨hpre, rfl⟩ hXs
      have hpm : (pre.map fun x => bits BinOp.or IntKind.u64 x t) ++ [bits BinOp.or IntKind.u64 x t] <+: splL a := by
        rw [HP.out.2]
        have := hpre.map (fun x => bits BinOp.or IntKind.u64 x t)
        rwa [List.map_append] at this
      gi_wp2
      refine ⟨Kin.refl _ _ _, Kp.refl _ _ _, ?_⟩
      intro Wb hlie
      have hjb := HY.out.2.1 _ _ _ hj (hlie.wide (by omega))
      have hkb : Kp n₀ Kb w Wb := hk.trans (.of_lies hlie (by omega) (Nat.le_trans hn hk.1))
      have hk5b : Kp w5.heap.size (fun k => (k < n₀ ∧ Kb k) ∨ W.heap.size ≤ k) w5 Wb := hk5.trans (.of_lies hlie (by omega) hk5.1)
      have hXW : X.heap.size ≤ Wb.heap.size := hlie.size
      have e0 := (hk5b.2 W.heap.size (by omega) (.inr (Nat.le_refl _))).trans G.out.2.1
      have e1 := (hk5b.2 (W.heap.size + 1) (by omega) (.inr (by omega))).trans G.out.2.2.1
      have y0 : Wb.cell? ⟨W.heap.size, 0, none⟩ = some (.func (.yield l) #[] #[]) := by rw [blk_cell e0]; rfl
      have y1 : Wb.cell? ⟨W.heap.size + 1, 0, none⟩ = some (.int .u64 t) := by rw [blk_cell e1]; rfl
      have y2 : Wb.cell? ⟨bb, 0, none⟩ = some (.int .u64 a) := HY.out.2.2.2 Wb hkb
      obtain ⟨fn, tmps, asg, body, hy, hR⟩ := yieldAt_wide (m' := 5) (HY.out.1 _ _ _ Wb hjb ⟨hpm, rfl⟩ (by omega))
      try dsimp only at hy
      have HI := Aside0.mk (And.intro hjb (And.intro hkb hk5b))
      clear hj hk hk5 hpre hpm hjb hkb hk5b hlie e0 e1
      gi_wp2
      refine (roundIn_in l2 hR).mono ?_
      rintro e W3 (⟨rfl, hJ3, hk3, hin, hd3⟩ | ⟨rfl, hx3, hin⟩)
      · have HF := Aside0.mk (And.intro hJ3 (And.intro hk3 (And.intro hin hd3)))
        clear hJ3 hk3 hin hd3
        gi_wp2
        obtain ⟨hJ3, hk3, hin, hd3⟩ := HF.out
        have hkp : Kp w5.heap.size (fun k => (k < n₀ ∧ Kb k) ∨ W.heap.size ≤ k) Wb W3 := ⟨hin.1, fun k h1 h2 => by
          rcases h2 with ⟨h2, h3⟩ | h2
          · exact hk3.2 k h2 h3
          · exact hd3 k h2 (by omega)⟩
        refine ⟨⟨hin.1, fun k h1 h2 h3 => hin.2 k (by omega) (by omega) h3⟩, hkp, ?_, HI.out.2.1.trans hk3, HI.out.2.2.trans hkp⟩
        rw [List.map_append]
        exact hJ3
      · have HF := Aside0.mk (And.intro hx3 hin)
        clear hx3 hin
        gi_wp2
        exact ⟨⟨HF.out.2.1, fun k h1 h2 h3 => HF.out.2.2 k (by omega) (by omega) h3⟩, rfl, _, HF.out.1⟩
    case done =>
      rintro D ys X hD rfl ⟨hj, hk, hk5⟩ hKd
      rw [← HP.out.2] at hj
      have HF := Aside0.mk (And.intro hj hKd)
      clear hj hk hk5 hKd
      gi_wp2
      refine ⟨by simp, .inl ⟨_, _, rfl, run_takeDeferred HF.out.2, ?_⟩⟩
      refine ⟨_, results_none rfl _ _ _, ⟨_, rfl⟩, .inl ⟨_, rfl, ?_⟩⟩
      exact HY.out.2.1 _ _ _ HF.out.1 (.put (by omega) HF.out.2 rfl _)
    case stop =>
      rintro D cd pre X hD _ ⟨rfl, q, hq⟩ hKd
      have HF := Aside0.mk (And.intro hq hKd)
      clear hq hKd
      gi_wp2
      refine ⟨by simp, .inl ⟨_, _, rfl, run_takeDeferred HF.out.2, ?_⟩⟩
      refine ⟨_, results_none rfl _ _ _, ⟨_, rfl⟩, .inr ⟨q, trivial, ?_⟩⟩
      exact HY.out.2.2.1 _ _ _ HF.out.1 (.put (by omega) HF.out.2 rfl _)
end Go.Proofs.YtmcapemlfplcgaaDoor.H
