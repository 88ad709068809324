/- Some texts of one seat in one file, in build order. -/
import Derived.Test.YtmcapemlfplcgaaDoorG4
import Derived.Test.YtmcapemlfplcgaaDoorG14
/- package set: Pairs, as an iterator (over bytes, over numbers). -/
namespace Go.Proofs.YtmcapemlfplcgaaDoor.H
open Go.RowKit Go.Proofs.YtmcapemlfplcgaaDoorW.PrintWords Go.Proofs.YtmcapemlfplcgaaDoorW.PrintLast Go.Proofs.YtmcapemlfplcgaaDoorW.PrintMore Go.Proofs.YtmcapemlfplcgaaDoor.AtM Go.Proofs.YtmcapemlfplcgaaDoor.R02
set_option linter.unusedVariables false
set_option linter.unusedSimpArgs false
set_option maxRecDepth 100000
attribute [local go_sem] Oper.semAt_some wide_fn wide_depth
/-- Items that have a place in a list, and what stands there. -/
def pairsOf (is : List Int) (all : List Int) : List (Int × Int) := (is.filter fun i => decide (i < (all.length : Int))).map fun i => (i, all.getD i.toNat 0)
def pairsL (s : Int) (all : List Int) : List (Int × Int) := pairsOf (listS s) all
def TNp : TypeId → Prop := fun _ => False
def PaY (k : IntKind) (xs : List (Int × Int)) (pre : List (Int × Int)) (x : Int × Int) (vs : Array Value) (W : World) : Prop := pre ++ [x] <+: xs ∧ vs = #[.int .i64 x.1, .int k x.2]
theorem pairs_snoc (pre all : List Int) (i : Int) : pairsOf (pre ++ [i]) all = pairsOf pre all ++ if i < (all.length : Int) then [(i, all.getD i.toNat 0)] else [] := by
  unfold pairsOf
  rw [List.filter_append, List.map_append]
  congr 1
  by_cases h : i < (all.length : Int)
  · simp [h]
  · simp [h]
theorem pairs_pre {p q all : List Int} (h : p <+: q) : pairsOf p all <+: pairsOf q all := (h.filter _).map _
theorem listS_sorted (s : Int) : (listS s).Pairwise (fun a b => a < b) := by
  unfold listS
  rw [List.pairwise_map]
  exact ((List.pairwise_lt_range (n := 64)).filter _).imp (fun {a b} h => by omega)
/-- Behind an item that has no place none has one. -/
theorem pairs_end {s i : Int} {pre all : List Int} (h : pre ++ [i] <+: listS s) (hi : ¬ i < (all.length : Int)) : pairsL s all = pairsOf pre all := by
  obtain ⟨t, ht⟩ := h
  have hs := listS_sorted s
  rw [← ht] at hs
  unfold pairsL
  rw [← ht]
  unfold pairsOf
  rw [List.filter_append, List.filter_append, List.map_append, List.map_append]
  have h1 : ([i].filter fun i => decide (i < (all.length : Int))) = [] := by simp [hi]
  have h2 : (t.filter fun i => decide (i < (all.length : Int))) = [] := List.filter_eq_nil_iff.2 fun j hj => by
    have := (List.pairwise_append.1 hs).2.2 i (by simp) j hj
    simp; omega
  rw [h1, h2]; simp
theorem ite_no {b : Bool} {A B : Prop} (h : b = false) (hb : B) : if b = true then A else B := by subst h; exact hb
theorem Pairs_callsu8 (s : Int) (A : Option Addr) (n c : Nat) (w : World) : Calls Tryd.prog 41 #[.int .u64 s, .slice A n c] w fun e w' =>
    e = .returned (.func (.func 64) #[] #[.pointer (some ⟨w.heap.size, 0, none⟩), .pointer (some ⟨w.heap.size + 1, 0, none⟩)]) ∧ w' = (w.alloc (.cells #[.int .u64 s] 22)).alloc (.cells #[.slice A n c] 69) := by
  go_enter Tryd.func41, Tryd.ntmps41
  go_wp2
  go_ret
  exact ⟨rfl, rfl⟩
theorem at_elemu8 {w : World} {A : Option Addr} {n : Nat} {xs : List Int} (h : Kd.C (Kd.int .u8) w A n xs) {i : Nat} (hi : i < n) : ∃ ad, A = some ad ∧ w.cell? (ad.add i) = some (.int .u8 (xs.getD i 0)) := by
  obtain ⟨ad, c, e, _, hK, hc0⟩ := Kd.C_get h (0 : Int) (i : Int) (by omega) (by omega)
  rw [Int.toNat_natCast] at hK hc0
  have hK : c = [.int .u8 (xs.getD i 0)] := hK
  subst hK
  have h1 := hc0 0 (.int .u8 (xs.getD i 0)) rfl
  refine ⟨ad, e, ?_⟩
  have e2 : i * (Kd.int .u8).sz + 0 = i := by show i * 1 + 0 = i; omega
  rw [e2] at h1
  exact h1
set_option maxHeartbeats 800000 in
theorem Pairs1_sequ8 (T : TypeId → Prop) (hTf : ¬ T 95) (hTu : ¬ T 22) (n : Nat) (s : Int) (all : List Int) (A : Option Addr) (c bs ba n₀ : Nat) (Kb : Nat → Prop) (w : World) (hs : U64 s)
    (hS : ∀ W, Kp n₀ Kb w W → W.cell? ⟨bs, 0, none⟩ = some (.int .u64 s)) (hA : ∀ W, Kp n₀ Kb w W → W.cell? ⟨ba, 0, none⟩ = some (.slice A all.length c)) (hC : ∀ W, Kp n₀ Kb w W → Kd.C (Kd.int .u8) W A all.length all)
    (hT : ∀ W, Kp n₀ Kb w W → TabG W) (hn : n₀ ≤ w.heap.size) :
    SeqK T Fence.wide n Tryd.prog 64 #[.pointer (some ⟨bs, 0, none⟩), .pointer (some ⟨ba, 0, none⟩)] (PaY .u8 (pairsL s all)) n₀ Kb (fun ys => ys = pairsL s all) (fun _ => True) w := by
  intro l J Jx W hK hJ hJx hJK hY h0
  have hcS := hS W hK
  refine callsIn_wide.2 ((callsIn_wide (n := 8)).1 ?_)
  refine callsIn_of_wp_marks Tryd.func64 rfl trivial ?_ rfl
  simp only [Tryd.ntmps64, List.size_toArray, List.length_cons, List.length_nil, Nat.reduceAdd, Nat.reduceSub, Array.replicate_succ, Array.replicate_zero, List.push_toArray, List.append_toArray, List.nil_append, List.cons_append]
  have hWn := hK.1
  have hbs : bs < W.heap.size := World.block_lt_of_cell? W ⟨bs, 0, none⟩ hcS
  have HY := Aside0.mk (And.intro hY (And.intro hJ (And.intro hJx (And.intro hA (And.intro hS (And.intro hC (And.intro hT hJK)))))))
  have HJ0 := Aside0.mk (And.intro h0 hK)
  clear hY hA hS h0 hK hJ hJx hC hT hJK
  gi_wp2_with (gi_at_call 38; refine (callsIn_wide.2 (Items_calls _ _)).mono ?_; rintro e w5 ⟨rfl, hw5⟩)
  rw [← hw5]
  have hb5 : Below W.heap.size W w5 := by rw [hw5]; exact below_alloc (below_alloc (Below.refl _ _) _) _
  have gy : w5.heap[W.heap.size]? = some (.cells #[.func (.yield l) #[] #[]] 95 (0, 0)) := by rw [hw5]; exact blk_alloc (blk_new W _) _
  have g5 : w5.heap[W.heap.size + 1]? = some (.cells #[.int .u64 s] 22 (0, 0)) := by rw [hw5]; exact blk_new2 W _ _
  have hs5 : w5.heap.size = W.heap.size + 2 := by rw [hw5]; simp
  have hK5 : Kp n₀ Kb w w5 := HJ0.out.2.trans (.of_below hb5 (by omega))
  have hJ5 : J [] w5 := HY.out.2.1 _ _ _ HJ0.out.1 (.of_below hb5)
  have G := Aside0.mk (And.intro hb5 (And.intro gy (And.intro g5 (And.intro hK5 hJ5))))
  clear hb5 gy g5 hK5 hJ5 hw5 hcS
  refine rangeK rfl (by omega) (gf := 59) (lb := #[.pointer (some ⟨W.heap.size + 1, 0, none⟩)]) rfl trivial (enters_of Tryd.func59 (by kernel_rfl) rfl)
    (Y := ItY (listS s)) (n₀ := w5.heap.size) (Kb := fun k => (k < n₀ ∧ Kb k) ∨ W.heap.size + 1 ≤ k) (S := fun xs => xs = listS s) (Sp := fun _ => True)
    (SeqZ.k (SeqX.z (T := T) (Items1_seq 7 s (W.heap.size + 1) w5.heap.size _ w5 hs
      (fun X hk => by rw [blk_cell ((hk.2 (W.heap.size + 1) (by omega) (.inr (by omega))).trans G.out.2.2.1) 0]; rfl)
      (fun X hk => HY.out.2.2.2.2.2.2.1 X ⟨Nat.le_trans G.out.2.2.2.1.1 hk.1, fun k h1 h2 => (hk.2 k (by have := G.out.2.2.2.1.1; omega) (.inl ⟨h1, h2⟩)).trans (G.out.2.2.2.1.2 k h1 h2)⟩) (Nat.le_refl _)))) (Nat.le_refl _)
    (fun _ _ _ _ hy => by obtain ⟨_, rfl⟩ := hy; rfl)
    (fun pre X => J (pairsOf pre all) X ∧ Kp n₀ Kb w X ∧ X.heap[W.heap.size]? = some (.cells #[.func (.yield l) #[] #[]] 95 (0, 0)) ∧ Kp w5.heap.size (fun k => (k < n₀ ∧ Kb k) ∨ W.heap.size + 1 ≤ k) w5 X)
    (fun cd _ X => cd = .ret ∧ Kp w5.heap.size (fun k => (k < n₀ ∧ Kb k) ∨ W.heap.size + 1 ≤ k) w5 X ∧ (J (pairsL s all) X ∨ ∃ q, Jx q X))
    (fun _ P Q h hlie => ⟨HY.out.2.1 _ _ _ h.1 (hlie.wide (by omega)), h.2.1.trans (.of_lies hlie (by omega) (Nat.le_trans hn h.2.1.1)), hlie.blk h.2.2.1, h.2.2.2.trans (.of_lies hlie (Nat.le_refl _) h.2.2.2.1)⟩)
    (fun _ _ P Q h hlie => ⟨h.1, h.2.1.trans (.of_lies hlie (Nat.le_refl _) h.2.1.1), h.2.2.imp (fun h => HY.out.2.1 _ _ _ h (hlie.wide (by omega))) (fun ⟨q, hq⟩ => ⟨q, HY.out.2.2.1 _ _ _ hq (hlie.wide (by omega))⟩)⟩)
    (fun _ _ _ h => h.2.1) ⟨G.out.2.2.2.2, G.out.2.2.2.1, G.out.2.1, Kp.refl _ _ _⟩ ?round ?done ?stop
  case round =>
    rintro l2 pre i vs X hl2 ⟨hj, hk, hy1, hk5⟩ ⟨hpre, rfl⟩ hXs
    have him : i ∈ listS s := hpre.subset (List.mem_append.2 (.inr (List.mem_singleton.2 rfl)))
    have hi := (listS_mem s i).1 him
    have hsn := pairs_snoc pre all i
    obtain ⟨v, hv⟩ : ∃ v, all.getD i.toNat 0 = v := ⟨_, rfl⟩
    rw [hv] at hsn
    have hpp := pairs_pre (all := all) hpre
    have hpe := fun h => pairs_end (all := all) hpre h
    gi_wp2
    refine ⟨Kin.refl _ _ _, Kp.refl _ _ _, ?_⟩
    intro Wb hlie
    have hjb := HY.out.2.1 _ _ _ hj (hlie.wide (by omega))
    have hkb : Kp n₀ Kb w Wb := hk.trans (.of_lies hlie (by omega) (Nat.le_trans hn hk.1))
    have hk5b : Kp w5.heap.size (fun k => (k < n₀ ∧ Kb k) ∨ W.heap.size + 1 ≤ k) w5 Wb := hk5.trans (.of_lies hlie (by omega) hk5.1)
    have k1 := hlie.blk hy1
    have hWbs : w5.heap.size ≤ Wb.heap.size := Nat.le_trans hXs hlie.size
    have hXW : X.heap.size ≤ Wb.heap.size := hlie.size
    have hSK : ∀ Y : World, Kp n₀ Kb w Y → Y.heap[W.heap.size]? = some (.cells #[.func (.yield l) #[] #[]] 95 (0, 0)) → (fun w' => w'.cell? ⟨W.heap.size, 0, none⟩ = some (.func (.yield l) #[] #[]) ∧ w'.cell? ⟨ba, 0, none⟩ = some (.slice A all.length c) ∧ (i < (all.length : Int) → ∃ ad, A = some ad ∧ w'.cell? (ad.add i.toNat) = some (.int .u8 v))) Y := fun Y hy hb =>
      ⟨by rw [blk_cell hb]; rfl, HY.out.2.2.2.1 Y hy, fun hlt => by
        obtain ⟨ad, e, h1⟩ := at_elemu8 (HY.out.2.2.2.2.2.1 Y hy) (i := i.toNat) (by omega)
        rw [hv] at h1
        exact ⟨ad, e, h1⟩⟩
    have HI := Aside0.mk (And.intro hi (And.intro hsn (And.intro hpp (And.intro hpe (And.intro hjb (And.intro hkb (And.intro hk5b (And.intro k1 hSK))))))))
    clear hv him hi hsn hpp hpe hpre hj hk hy1 hk5 hjb hkb hk5b k1 hlie hSK
    have hmix : Tryd.prog.follows .mixedOrders = true := by kernel_rfl
    have B0 : Aside0 (Below Wb.heap.size Wb Wb.drew) := ⟨pw_below_drewN (Below.refl _ _) 1⟩
    obtain ⟨SS, hSS⟩ : ∃ S : World → Prop, S = (fun w' => w'.cell? ⟨W.heap.size, 0, none⟩ = some (.func (.yield l) #[] #[]) ∧ w'.cell? ⟨ba, 0, none⟩ = some (.slice A all.length c) ∧ (i < (all.length : Int) → ∃ ad, A = some ad ∧ w'.cell? (ad.add i.toNat) = some (.int .u8 v))) := ⟨_, rfl⟩
    have HSS := Lib.hid hSS
    have s0 : Aside0 (SS Wb.drew) := Aside0.mk (by rw [hSS]; exact HI.out.2.2.2.2.2.2.2.2 Wb.drew (HI.out.2.2.2.2.2.1.trans (.of_below B0.out (by omega))) (blk_belowX HI.out.2.2.2.2.2.2.2.1 B0.out))
    clear hSS
    gi_wp2
    refine wpIn_region_any hmix ?_
    refine anyIn_round l2 (by intro o ho c; simp at ho; rcases ho with rfl | rfl | rfl | rfl | rfl | rfl | rfl | rfl | rfl | rfl | rfl | rfl | rfl | rfl <;> simp) _ _ _ _ ?_
    change wpAnyIn _ _ _ _ _ _ _ _ _ (World.drew _)
    refine anyS_any (S := SS) _ _ _ _ ?_
    refine anyS_take (i := 0) (v := .int .i64 i) rfl rfl (by kernel_rfl) (by kernel_rfl) (by kernel_rfl) (fun _ _ _ h => h) ⟨Or.inl ⟨by kernel_rfl, ?tk⟩, fun _ => rfl⟩ s0.out ?_
    case tk => intro w' hw; rw [HSS.out] at hw; obtain ⟨y0, y1, y2⟩ := hw; first | (go_simp; done) | (go_simp; rfl) | (go_simp; simp [*]; done)
    refine anyS_take (i := 1) (v := .slice A all.length c) rfl rfl (by kernel_rfl) (by kernel_rfl) (by kernel_rfl) (fun _ _ _ h => h) ⟨Or.inl ⟨by kernel_rfl, ?tk⟩, fun _ => rfl⟩ s0.out ?_
    case tk => intro w' hw; rw [HSS.out] at hw; obtain ⟨y0, y1, y2⟩ := hw; first | (go_simp; done) | (go_simp; rfl) | (go_simp; simp [*]; done)
    refine anyS_take (i := 2) (v := .int .i64 all.length) rfl rfl (by kernel_rfl) (by kernel_rfl) (by kernel_rfl) (fun _ _ _ h => h) ⟨Or.inl ⟨by kernel_rfl, ?tk⟩, fun _ => rfl⟩ s0.out ?_
    case tk => intro w' hw; rw [HSS.out] at hw; obtain ⟨y0, y1, y2⟩ := hw; first | (go_simp; done) | (go_simp; rfl) | (go_simp; simp [*]; done)
    by_cases hlt : i < (all.length : Int)
    · have hge : decide ((all.length : Int) ≤ i) = false := decide_eq_false (by omega)
      refine anyS_take (i := 3) (v := .bool false) rfl rfl (by kernel_rfl) (by kernel_rfl) (by kernel_rfl) (fun _ _ _ h => h) ⟨Or.inl ⟨by kernel_rfl, ?tk⟩, fun _ => rfl⟩ s0.out ?_
      case tk => intro w' hw; rw [HSS.out] at hw; obtain ⟨y0, y1, y2⟩ := hw; first | (go_simp; done) | (go_simp; rfl) | (go_simp; simp [*]; done)
      refine anyS_take (i := 4) (v := .bool false) rfl rfl (by kernel_rfl) (by kernel_rfl) (by kernel_rfl) (fun _ _ _ h => h) ⟨Or.inl ⟨by kernel_rfl, ?tk⟩, fun _ => rfl⟩ s0.out ?_
      case tk => intro w' hw; rw [HSS.out] at hw; obtain ⟨y0, y1, y2⟩ := hw; first | (go_simp; done) | (go_simp; rfl) | (go_simp; simp [*]; done)
      try go_simp
      obtain ⟨ad, ea, _⟩ : ∃ ad, A = some ad ∧ True := by
        have h := s0.out
        rw [HSS.out] at h
        obtain ⟨ad, e, _⟩ := h.2.2 hlt
        exact ⟨ad, e, trivial⟩
      subst ea
      have hi0 := HI.out.1.1
      have hi1 : ¬ i < 0 := by omega
      refine anyS_take (i := 5) (v := .func (.yield l) #[] #[]) rfl rfl (by kernel_rfl) (by kernel_rfl) (by kernel_rfl) (fun _ _ _ h => h) ⟨Or.inl ⟨by kernel_rfl, ?tk⟩, fun _ => rfl⟩ s0.out ?_
      case tk => intro w' hw; rw [HSS.out] at hw; obtain ⟨y0, y1, y2⟩ := hw; first | (go_simp; done) | (go_simp; rfl) | (go_simp; simp [*]; done)
      refine anyS_take (i := 6) (v := .int .i64 i) rfl rfl (by kernel_rfl) (by kernel_rfl) (by kernel_rfl) (fun _ _ _ h => h) ⟨Or.inl ⟨by kernel_rfl, ?tk⟩, fun _ => rfl⟩ s0.out ?_
      case tk => intro w' hw; rw [HSS.out] at hw; obtain ⟨y0, y1, y2⟩ := hw; first | (go_simp; done) | (go_simp; rfl) | (go_simp; simp [*]; done)
      refine anyS_take (i := 7) (v := .slice (some ad) all.length c) rfl rfl (by kernel_rfl) (by kernel_rfl) (by kernel_rfl) (fun _ _ _ h => h) ⟨Or.inl ⟨by kernel_rfl, ?tk⟩, fun _ => rfl⟩ s0.out ?_
      case tk => intro w' hw; rw [HSS.out] at hw; obtain ⟨y0, y1, y2⟩ := hw; first | (go_simp; done) | (go_simp; rfl) | (go_simp; simp [*]; done)
      refine anyS_take (i := 8) (v := .int .i64 i) rfl rfl (by kernel_rfl) (by kernel_rfl) (by kernel_rfl) (fun _ _ _ h => h) ⟨Or.inl ⟨by kernel_rfl, ?tk⟩, fun _ => rfl⟩ s0.out ?_
      case tk => intro w' hw; rw [HSS.out] at hw; obtain ⟨y0, y1, y2⟩ := hw; first | (go_simp; done) | (go_simp; rfl) | (go_simp; simp [*]; done)
      try go_simp
      refine anyS_take (i := 9) (v := .pointer (some (ad.add i.toNat))) rfl rfl (by kernel_rfl) (by kernel_rfl) (by kernel_rfl) (fun _ _ _ h => h) ⟨Or.inl ⟨by kernel_rfl, ?tk⟩, fun _ => rfl⟩ s0.out ?_
      case tk => intro w' hw; rw [HSS.out] at hw; obtain ⟨y0, y1, y2⟩ := hw; first | (go_simp; done) | (go_simp; rfl) | (go_simp; simp [*]; done)
      refine anyS_take (i := 10) (v := .int .u8 (v)) rfl rfl (by kernel_rfl) (by kernel_rfl) (by kernel_rfl) (fun _ _ _ h => h) ⟨Or.inl ⟨by kernel_rfl, ?tk⟩, fun _ => rfl⟩ s0.out ?_
      case tk => intro w' hw; rw [HSS.out] at hw; obtain ⟨y0, y1, y2⟩ := hw; obtain ⟨ad', e', y3⟩ := y2 hlt; injection e' with e'; subst e'; first | (go_simp; done) | (go_simp; rfl) | (go_simp; simp [*]; done)
      try go_simp
      have hk8 : Kp n₀ Kb w Wb.drew := HI.out.2.2.2.2.2.1.trans (.of_below B0.out (by omega))
      have hj8 : J (pairsOf pre all) Wb.drew := HY.out.2.1 _ _ _ HI.out.2.2.2.2.1 (.of_below B0.out)
      have hsn2 : pairsOf (pre ++ [i]) all = pairsOf pre all ++ [(i, v)] := by rw [HI.out.2.1, if_pos hlt]
      have hpm : pairsOf pre all ++ [(i, v)] <+: pairsL s all := by rw [← hsn2]; exact HI.out.2.2.1
      obtain ⟨fn, tmps, asg, body, hy, hR⟩ := yieldAt_wide (m' := 5) (HY.out.1 (pairsOf pre all) (i, v) _ Wb.drew hj8 ⟨hpm, rfl⟩)
      dsimp only at hy
      have e1 := blk_belowX HI.out.2.2.2.2.2.2.2.1 B0.out
      have e1u := blk_belowX ((HI.out.2.2.2.2.2.2.1.2 (W.heap.size + 1) (by omega) (.inr (Nat.le_refl _))).trans G.out.2.2.1) B0.out
      have HE := Aside0.mk (And.intro (And.intro e1 e1u) (And.intro hk8 hsn2))
      clear e1 e1u hk8 hj8 hsn2 hpm
      refine anyS_one (i := 11) (by kernel_rfl) (wpOpIn_step rfl fun K hK => ?_)
      go_simp
      refine hR.mono ?_
      rintro e W3 (⟨rfl, hJ3, hk3, hin⟩ | ⟨rfl, hx3, hin⟩)
      · have hkw : Kp n₀ Kb w W3 := HE.out.2.1.trans hk3
        have f1 := (hin.2 W.heap.size (Nat.le_refl _) (lt_of_some HE.out.1.1) (isC HE.out.1.1 hTf)).trans HE.out.1.1
        have hS3 : SS W3 := by rw [HSS.out]; exact HI.out.2.2.2.2.2.2.2.2 W3 hkw f1
        have hkin : Kin T w5.heap.size X.heap.size Wb W3 := ⟨Nat.le_trans B0.out.size hin.1, fun k h1 h2 h3 => (hin.2 k (by omega) (by have := B0.out.size; omega) (fun t cs z e => h3 t cs z ((B0.out.block k (by omega)).symm.trans e))).trans (B0.out.block k (by omega))⟩
        have hkp : Kp w5.heap.size (fun k => (k < n₀ ∧ Kb k) ∨ W.heap.size + 1 ≤ k) Wb W3 := ⟨Nat.le_trans B0.out.size hin.1, fun k h1 h2 => by
          refine Eq.trans ?_ (B0.out.block k (by omega))
          rcases h2 with ⟨h2, h3⟩ | h2
          · exact (hkw.2 k h2 h3).trans ((HI.out.2.2.2.2.2.1.trans (.of_below B0.out (by omega))).2 k h2 h3).symm
          · obtain rfl : k = W.heap.size + 1 := by omega
            exact hin.2 _ (by omega) (lt_of_some HE.out.1.2) (isC HE.out.1.2 hTu)⟩
        have HF := Aside0.mk (And.intro hkin (And.intro hkp (And.intro hJ3 (And.intro hkw f1))))
        clear hkin hkp hJ3 hkw f1 hk3 hin
        refine hK _ _ ⟨hS3, ?_⟩
        clear hK K
        refine anyS_one (i := 12) (by kernel_rfl) (wpOpIn_step rfl fun K hK => ?_)
        go_simp
        refine hK _ _ ⟨hS3, ?_⟩
        clear hK K
        refine anyS_one (i := 13) (by kernel_rfl) (wpOpIn_step rfl fun K hK => ?_)
        go_simp
        refine hK _ _ ⟨hS3, ?_⟩
        clear hK K hS3
        refine anyS_done (by kernel_rfl) ?_ _
        gi_wp2
        have e9 := HI.out.2.2.2.2.2.2.1.trans HF.out.2.1
        have e8 := HF.out.1
        have e7 := HF.out.2.1
        rw [hs5] at e7 e8 e9
        refine ⟨e8, e7, ?_, HF.out.2.2.2.1, HF.out.2.2.2.2, e9⟩
        rw [HE.out.2.2]
        exact HF.out.2.2.1
      · have hkw : Kp n₀ Kb w W3 := HY.out.2.2.2.2.2.2.2 _ _ hx3
        have f1 := (hin.2 W.heap.size (Nat.le_refl _) (lt_of_some HE.out.1.1) (isC HE.out.1.1 hTf)).trans HE.out.1.1
        have hS3 : SS W3 := by rw [HSS.out]; exact HI.out.2.2.2.2.2.2.2.2 W3 hkw f1
        have hkin : Kin T w5.heap.size X.heap.size Wb W3 := ⟨Nat.le_trans B0.out.size hin.1, fun k h1 h2 h3 => (hin.2 k (by omega) (by have := B0.out.size; omega) (fun t cs z e => h3 t cs z ((B0.out.block k (by omega)).symm.trans e))).trans (B0.out.block k (by omega))⟩
        have hkp : Kp w5.heap.size (fun k => (k < n₀ ∧ Kb k) ∨ W.heap.size + 1 ≤ k) Wb W3 := ⟨Nat.le_trans B0.out.size hin.1, fun k h1 h2 => by
          refine Eq.trans ?_ (B0.out.block k (by omega))
          rcases h2 with ⟨h2, h3⟩ | h2
          · exact (hkw.2 k h2 h3).trans ((HI.out.2.2.2.2.2.1.trans (.of_below B0.out (by omega))).2 k h2 h3).symm
          · obtain rfl : k = W.heap.size + 1 := by omega
            exact hin.2 _ (by omega) (lt_of_some HE.out.1.2) (isC HE.out.1.2 hTu)⟩
        have HF := Aside0.mk (And.intro hkin (And.intro hx3 hkp))
        clear hkin hx3 hkw f1 hin hkp
        refine hK _ _ ⟨hS3, ?_⟩
        clear hK K
        refine anyS_one (i := 12) (by kernel_rfl) (wpOpIn_step rfl fun K hK => ?_)
        go_simp
        refine hK _ _ ⟨hS3, ?_⟩
        clear hK K
        refine anyS_one (i := 13) (by kernel_rfl) (wpOpIn_step rfl fun K hK => ?_)
        go_simp
        refine hK _ _ ⟨hS3, ?_⟩
        clear hK K hS3
        refine anyS_done (by kernel_rfl) ?_ _
        gi_wp2
        have e9 := HI.out.2.2.2.2.2.2.1.trans HF.out.2.2
        rw [hs5] at e9
        have e8 := HF.out.1
        rw [hs5] at e8
        exact ⟨e8, rfl, e9, .inr ⟨_, HF.out.2.1⟩⟩
    · have hge : decide ((all.length : Int) ≤ i) = true := decide_eq_true (by omega)
      refine anyS_take (i := 3) (v := .bool true) rfl rfl (by kernel_rfl) (by kernel_rfl) (by kernel_rfl) (fun _ _ _ h => h) ⟨Or.inl ⟨by kernel_rfl, ?tk⟩, fun _ => rfl⟩ s0.out ?_
      case tk => intro w' hw; rw [HSS.out] at hw; obtain ⟨y0, y1, y2⟩ := hw; first | (go_simp; done) | (go_simp; rfl) | (go_simp; simp [*]; done)
      refine anyS_take (i := 4) (v := .bool true) rfl rfl (by kernel_rfl) (by kernel_rfl) (by kernel_rfl) (fun _ _ _ h => h) ⟨Or.inl ⟨by kernel_rfl, ?tk⟩, fun _ => rfl⟩ s0.out ?_
      case tk => intro w' hw; rw [HSS.out] at hw; obtain ⟨y0, y1, y2⟩ := hw; first | (go_simp; done) | (go_simp; rfl) | (go_simp; simp [*]; done)
      try go_simp
      refine anyS_take (i := 5) (v := undef) rfl rfl (by kernel_rfl) (by kernel_rfl) (by kernel_rfl) (fun _ _ _ h => h) ⟨Or.inr ⟨by kernel_rfl, rfl⟩, fun _ => rfl⟩ s0.out ?_
      refine anyS_take (i := 6) (v := undef) rfl rfl (by kernel_rfl) (by kernel_rfl) (by kernel_rfl) (fun _ _ _ h => h) ⟨Or.inr ⟨by kernel_rfl, rfl⟩, fun _ => rfl⟩ s0.out ?_
      try go_simp
      refine anyS_take (i := 7) (v := undef) rfl rfl (by kernel_rfl) (by kernel_rfl) (by kernel_rfl) (fun _ _ _ h => h) ⟨Or.inr ⟨by kernel_rfl, rfl⟩, fun _ => rfl⟩ s0.out ?_
      refine anyS_take (i := 8) (v := undef) rfl rfl (by kernel_rfl) (by kernel_rfl) (by kernel_rfl) (fun _ _ _ h => h) ⟨Or.inr ⟨by kernel_rfl, rfl⟩, fun _ => rfl⟩ s0.out ?_
      try go_simp
      refine anyS_take (i := 9) (v := undef) rfl rfl (by kernel_rfl) (by kernel_rfl) (by kernel_rfl) (fun _ _ _ h => h) ⟨Or.inr ⟨by kernel_rfl, rfl⟩, fun _ => rfl⟩ s0.out ?_
      refine anyS_take (i := 10) (v := undef) rfl rfl (by kernel_rfl) (by kernel_rfl) (by kernel_rfl) (fun _ _ _ h => h) ⟨Or.inr ⟨by kernel_rfl, rfl⟩, fun _ => rfl⟩ s0.out ?_
      try go_simp
      refine anyS_one (i := 11) (by kernel_rfl) (wpOpIn_step rfl fun K hK => ?_)
      refine ite_no (by rfl) ?_
      refine ⟨fun _ _ => trivial, hK _ _ ⟨s0.out, ?_⟩⟩
      clear hK K
      refine anyS_take (i := 12) (v := undef) rfl rfl (by kernel_rfl) (by kernel_rfl) (by kernel_rfl) (fun _ _ _ h => h) ⟨Or.inr ⟨by kernel_rfl, rfl⟩, fun _ => rfl⟩ s0.out ?_
      refine anyS_take (i := 13) (v := .bool true) rfl rfl (by kernel_rfl) (by kernel_rfl) (by kernel_rfl) (fun _ _ _ h => h) ⟨Or.inl ⟨by kernel_rfl, ?tk⟩, fun _ => rfl⟩ s0.out ?_
      case tk => intro w' hw; rw [HSS.out] at hw; obtain ⟨y0, y1, y2⟩ := hw; first | (go_simp; done) | (go_simp; rfl) | (go_simp; simp [*]; done)
      refine anyS_done (by kernel_rfl) ?_ _
      have hjd : J (pairsL s all) Wb.drew := by rw [HI.out.2.2.2.1 (by first | exact hlt | omega)]; exact HY.out.2.1 _ _ _ HI.out.2.2.2.2.1 (.of_below B0.out)
      have hkd : Kp w5.heap.size (fun k => (k < n₀ ∧ Kb k) ∨ W.heap.size + 1 ≤ k) w5 Wb.drew := HI.out.2.2.2.2.2.2.1.trans (.of_below B0.out (by omega))
      have HF := Aside0.mk (And.intro hjd hkd)
      clear hjd hkd
      gi_wp2
      have e9 := HF.out.2
      rw [hs5] at e9
      exact ⟨Kin.of_below B0.out (by omega), rfl, e9, .inl HF.out.1⟩
  case done =>
    rintro D xs X hD rfl ⟨hj, hk, hy1, hk5⟩ hKd
    have HF := Aside0.mk (And.intro hj hKd)
    clear hj hk hy1 hk5 hKd
    gi_wp2
    refine ⟨by simp, .inl ⟨_, _, rfl, run_takeDeferred HF.out.2, ?_⟩⟩
    refine ⟨_, results_none rfl _ _ _, ⟨_, rfl⟩, .inl ⟨_, rfl, ?_⟩⟩
    exact HY.out.2.1 _ _ _ HF.out.1 (.put (by omega) HF.out.2 rfl _)
  case stop =>
    rintro D cd pre X hD - ⟨rfl, hk5, hq⟩ hKd
    have HF := Aside0.mk (And.intro hq hKd)
    clear hq hKd hk5
    gi_wp2
    refine ⟨by simp, .inl ⟨_, _, rfl, run_takeDeferred HF.out.2, ?_⟩⟩
    refine ⟨_, results_none rfl _ _ _, ⟨_, rfl⟩, ?_⟩
    rcases HF.out.1 with h | ⟨q, hq⟩
    · exact .inl ⟨_, rfl, HY.out.2.1 _ _ _ h (.put (by omega) HF.out.2 rfl _)⟩
    · exact .inr ⟨q, trivial, HY.out.2.2.1 _ _ _ hq (.put (by omega) HF.out.2 rfl _)⟩
theorem Pairs_callsi64 (s : Int) (A : Option Addr) (n c : Nat) (w : World) : Calls Tryd.prog 35 #[.int .u64 s, .slice A n c] w fun e w' =>
    e = .returned (.func (.func 57) #[] #[.pointer (some ⟨w.heap.size, 0, none⟩), .pointer (some ⟨w.heap.size + 1, 0, none⟩)]) ∧ w' = (w.alloc (.cells #[.int .u64 s] 22)).alloc (.cells #[.slice A n c] 49) := by
  go_enter Tryd.func35, Tryd.ntmps35
  go_wp2
  go_ret
  exact ⟨rfl, rfl⟩
theorem at_elemi64 {w : World} {A : Option Addr} {n : Nat} {xs : List Int} (h : Kd.C (Kd.int .i64) w A n xs) {i : Nat} (hi : i < n) : ∃ ad, A = some ad ∧ w.cell? (ad.add i) = some (.int .i64 (xs.getD i 0)) := by
  obtain ⟨ad, c, e, _, hK, hc0⟩ := Kd.C_get h (0 : Int) (i : Int) (by omega) (by omega)
  rw [Int.toNat_natCast] at hK hc0
  have hK : c = [.int .i64 (xs.getD i 0)] := hK
  subst hK
  have h1 := hc0 0 (.int .i64 (xs.getD i 0)) rfl
  refine ⟨ad, e, ?_⟩
  have e2 : i * (Kd.int .i64).sz + 0 = i := by show i * 1 + 0 = i; omega
  rw [e2] at h1
  exact h1
set_option maxHeartbeats 800000 in
theorem Pairs1_seqi64 (T : TypeId → Prop) (hTf : ¬ T 92) (hTu : ¬ T 22) (n : Nat) (s : Int) (all : List Int) (A : Option Addr) (c bs ba n₀ : Nat) (Kb : Nat → Prop) (w : World) (hs : U64 s)
    (hS : ∀ W, Kp n₀ Kb w W → W.cell? ⟨bs, 0, none⟩ = some (.int .u64 s)) (hA : ∀ W, Kp n₀ Kb w W → W.cell? ⟨ba, 0, none⟩ = some (.slice A all.length c)) (hC : ∀ W, Kp n₀ Kb w W → Kd.C (Kd.int .i64) W A all.length all)
    (hT : ∀ W, Kp n₀ Kb w W → TabG W) (hn : n₀ ≤ w.heap.size) :
    SeqK T Fence.wide n Tryd.prog 57 #[.pointer (some ⟨bs, 0, none⟩), .pointer (some ⟨ba, 0, none⟩)] (PaY .i64 (pairsL s all)) n₀ Kb (fun ys => ys = pairsL s all) (fun _ => True) w := by
  intro l J Jx W hK hJ hJx hJK hY h0
  have hcS := hS W hK
  refine callsIn_wide.2 ((callsIn_wide (n := 8)).1 ?_)
  refine callsIn_of_wp_marks Tryd.func57 rfl trivial ?_ rfl
  simp only [Tryd.ntmps57, List.size_toArray, List.length_cons, List.length_nil, Nat.reduceAdd, Nat.reduceSub, Array.replicate_succ, Array.replicate_zero, List.push_toArray, List.append_toArray, List.nil_append, List.cons_append]
  have hWn := hK.1
  have hbs : bs < W.heap.size := World.block_lt_of_cell? W ⟨bs, 0, none⟩ hcS
  have HY := Aside0.mk (And.intro hY (And.intro hJ (And.intro hJx (And.intro hA (And.intro hS (And.intro hC (And.intro hT hJK)))))))
  have HJ0 := Aside0.mk (And.intro h0 hK)
  clear hY hA hS h0 hK hJ hJx hC hT hJK
  gi_wp2_with (gi_at_call 38; refine (callsIn_wide.2 (Items_calls _ _)).mono ?_; rintro e w5 ⟨rfl, hw5⟩)
  rw [← hw5]
  have hb5 : Below W.heap.size W w5 := by rw [hw5]; exact below_alloc (below_alloc (Below.refl _ _) _) _
  have gy : w5.heap[W.heap.size]? = some (.cells #[.func (.yield l) #[] #[]] 92 (0, 0)) := by rw [hw5]; exact blk_alloc (blk_new W _) _
  have g5 : w5.heap[W.heap.size + 1]? = some (.cells #[.int .u64 s] 22 (0, 0)) := by rw [hw5]; exact blk_new2 W _ _
  have hs5 : w5.heap.size = W.heap.size + 2 := by rw [hw5]; simp
  have hK5 : Kp n₀ Kb w w5 := HJ0.out.2.trans (.of_below hb5 (by omega))
  have hJ5 : J [] w5 := HY.out.2.1 _ _ _ HJ0.out.1 (.of_below hb5)
  have G := Aside0.mk (And.intro hb5 (And.intro gy (And.intro g5 (And.intro hK5 hJ5))))
  clear hb5 gy g5 hK5 hJ5 hw5 hcS
  refine rangeK rfl (by omega) (gf := 59) (lb := #[.pointer (some ⟨W.heap.size + 1, 0, none⟩)]) rfl trivial (enters_of Tryd.func59 (by kernel_rfl) rfl)
    (Y := ItY (listS s)) (n₀ := w5.heap.size) (Kb := fun k => (k < n₀ ∧ Kb k) ∨ W.heap.size + 1 ≤ k) (S := fun xs => xs = listS s) (Sp := fun _ => True)
    (SeqZ.k (SeqX.z (T := T) (Items1_seq 7 s (W.heap.size + 1) w5.heap.size _ w5 hs
      (fun X hk => by rw [blk_cell ((hk.2 (W.heap.size + 1) (by omega) (.inr (by omega))).trans G.out.2.2.1) 0]; rfl)
      (fun X hk => HY.out.2.2.2.2.2.2.1 X ⟨Nat.le_trans G.out.2.2.2.1.1 hk.1, fun k h1 h2 => (hk.2 k (by have := G.out.2.2.2.1.1; omega) (.inl ⟨h1, h2⟩)).trans (G.out.2.2.2.1.2 k h1 h2)⟩) (Nat.le_refl _)))) (Nat.le_refl _)
    (fun _ _ _ _ hy => by obtain ⟨_, rfl⟩ := hy; rfl)
    (fun pre X => J (pairsOf pre all) X ∧ Kp n₀ Kb w X ∧ X.heap[W.heap.size]? = some (.cells #[.func (.yield l) #[] #[]] 92 (0, 0)) ∧ Kp w5.heap.size (fun k => (k < n₀ ∧ Kb k) ∨ W.heap.size + 1 ≤ k) w5 X)
    (fun cd _ X => cd = .ret ∧ Kp w5.heap.size (fun k => (k < n₀ ∧ Kb k) ∨ W.heap.size + 1 ≤ k) w5 X ∧ (J (pairsL s all) X ∨ ∃ q, Jx q X))
    (fun _ P Q h hlie => ⟨HY.out.2.1 _ _ _ h.1 (hlie.wide (by omega)), h.2.1.trans (.of_lies hlie (by omega) (Nat.le_trans hn h.2.1.1)), hlie.blk h.2.2.1, h.2.2.2.trans (.of_lies hlie (Nat.le_refl _) h.2.2.2.1)⟩)
    (fun _ _ P Q h hlie => ⟨h.1, h.2.1.trans (.of_lies hlie (Nat.le_refl _) h.2.1.1), h.2.2.imp (fun h => HY.out.2.1 _ _ _ h (hlie.wide (by omega))) (fun ⟨q, hq⟩ => ⟨q, HY.out.2.2.1 _ _ _ hq (hlie.wide (by omega))⟩)⟩)
    (fun _ _ _ h => h.2.1) ⟨G.out.2.2.2.2, G.out.2.2.2.1, G.out.2.1, Kp.refl _ _ _⟩ ?round ?done ?stop
  case round =>
    rintro l2 pre i vs X hl2 ⟨hj, hk, hy1, hk5⟩ ⟨hpre, rfl⟩ hXs
    have him : i ∈ listS s := hpre.subset (List.mem_append.2 (.inr (List.mem_singleton.2 rfl)))
    have hi := (listS_mem s i).1 him
    have hsn := pairs_snoc pre all i
    obtain ⟨v, hv⟩ : ∃ v, all.getD i.toNat 0 = v := ⟨_, rfl⟩
    rw [hv] at hsn
    have hpp := pairs_pre (all := all) hpre
    have hpe := fun h => pairs_end (all := all) hpre h
    gi_wp2
    refine ⟨Kin.refl _ _ _, Kp.refl _ _ _, ?_⟩
    intro Wb hlie
    have hjb := HY.out.2.1 _ _ _ hj (hlie.wide (by omega))
    have hkb : Kp n₀ Kb w Wb := hk.trans (.of_lies hlie (by omega) (Nat.le_trans hn hk.1))
    have hk5b : Kp w5.heap.size (fun k => (k < n₀ ∧ Kb k) ∨ W.heap.size + 1 ≤ k) w5 Wb := hk5.trans (.of_lies hlie (by omega) hk5.1)
    have k1 := hlie.blk hy1
    have hWbs : w5.heap.size ≤ Wb.heap.size := Nat.le_trans hXs hlie.size
    have hXW : X.heap.size ≤ Wb.heap.size := hlie.size
    have hSK : ∀ Y : World, Kp n₀ Kb w Y → Y.heap[W.heap.size]? = some (.cells #[.func (.yield l) #[] #[]] 92 (0, 0)) → (fun w' => w'.cell? ⟨W.heap.size, 0, none⟩ = some (.func (.yield l) #[] #[]) ∧ w'.cell? ⟨ba, 0, none⟩ = some (.slice A all.length c) ∧ (i < (all.length : Int) → ∃ ad, A = some ad ∧ w'.cell? (ad.add i.toNat) = some (.int .i64 v))) Y := fun Y hy hb =>
      ⟨by rw [blk_cell hb]; rfl, HY.out.2.2.2.1 Y hy, fun hlt => by
        obtain ⟨ad, e, h1⟩ := at_elemi64 (HY.out.2.2.2.2.2.1 Y hy) (i := i.toNat) (by omega)
        rw [hv] at h1
        exact ⟨ad, e, h1⟩⟩
    have HI := Aside0.mk (And.intro hi (And.intro hsn (And.intro hpp (And.intro hpe (And.intro hjb (And.intro hkb (And.intro hk5b (And.intro k1 hSK))))))))
    clear hv him hi hsn hpp hpe hpre hj hk hy1 hk5 hjb hkb hk5b k1 hlie hSK
    have hmix : Tryd.prog.follows .mixedOrders = true := by kernel_rfl
    have B0 : Aside0 (Below Wb.heap.size Wb Wb.drew) := ⟨pw_below_drewN (Below.refl _ _) 1⟩
    obtain ⟨SS, hSS⟩ : ∃ S : World → Prop, S = (fun w' => w'.cell? ⟨W.heap.size, 0, none⟩ = some (.func (.yield l) #[] #[]) ∧ w'.cell? ⟨ba, 0, none⟩ = some (.slice A all.length c) ∧ (i < (all.length : Int) → ∃ ad, A = some ad ∧ w'.cell? (ad.add i.toNat) = some (.int .i64 v))) := ⟨_, rfl⟩
    have HSS := Lib.hid hSS
    have s0 : Aside0 (SS Wb.drew) := Aside0.mk (by rw [hSS]; exact HI.out.2.2.2.2.2.2.2.2 Wb.drew (HI.out.2.2.2.2.2.1.trans (.of_below B0.out (by omega))) (blk_belowX HI.out.2.2.2.2.2.2.2.1 B0.out))
    clear hSS
    gi_wp2
    refine wpIn_region_any hmix ?_
    refine anyIn_round l2 (by intro o ho c; simp at ho; rcases ho with rfl | rfl | rfl | rfl | rfl | rfl | rfl | rfl | rfl | rfl | rfl | rfl | rfl | rfl <;> simp) _ _ _ _ ?_
    change wpAnyIn _ _ _ _ _ _ _ _ _ (World.drew _)
    refine anyS_any (S := SS) _ _ _ _ ?_
    refine anyS_take (i := 0) (v := .int .i64 i) rfl rfl (by kernel_rfl) (by kernel_rfl) (by kernel_rfl) (fun _ _ _ h => h) ⟨Or.inl ⟨by kernel_rfl, ?tk⟩, fun _ => rfl⟩ s0.out ?_
    case tk => intro w' hw; rw [HSS.out] at hw; obtain ⟨y0, y1, y2⟩ := hw; first | (go_simp; done) | (go_simp; rfl) | (go_simp; simp [*]; done)
    refine anyS_take (i := 1) (v := .slice A all.length c) rfl rfl (by kernel_rfl) (by kernel_rfl) (by kernel_rfl) (fun _ _ _ h => h) ⟨Or.inl ⟨by kernel_rfl, ?tk⟩, fun _ => rfl⟩ s0.out ?_
    case tk => intro w' hw; rw [HSS.out] at hw; obtain ⟨y0, y1, y2⟩ := hw; first | (go_simp; done) | (go_simp; rfl) | (go_simp; simp [*]; done)
    refine anyS_take (i := 2) (v := .int .i64 all.length) rfl rfl (by kernel_rfl) (by kernel_rfl) (by kernel_rfl) (fun _ _ _ h => h) ⟨Or.inl ⟨by kernel_rfl, ?tk⟩, fun _ => rfl⟩ s0.out ?_
    case tk => intro w' hw; rw [HSS.out] at hw; obtain ⟨y0, y1, y2⟩ := hw; first | (go_simp; done) | (go_simp; rfl) | (go_simp; simp [*]; done)
    by_cases hlt : i < (all.length : Int)
    · have hge : decide ((all.length : Int) ≤ i) = false := decide_eq_false (by omega)
      refine anyS_take (i := 3) (v := .bool false) rfl rfl (by kernel_rfl) (by kernel_rfl) (by kernel_rfl) (fun _ _ _ h => h) ⟨Or.inl ⟨by kernel_rfl, ?tk⟩, fun _ => rfl⟩ s0.out ?_
      case tk => intro w' hw; rw [HSS.out] at hw; obtain ⟨y0, y1, y2⟩ := hw; first | (go_simp; done) | (go_simp; rfl) | (go_simp; simp [*]; done)
      refine anyS_take (i := 4) (v := .bool false) rfl rfl (by kernel_rfl) (by kernel_rfl) (by kernel_rfl) (fun _ _ _ h => h) ⟨Or.inl ⟨by kernel_rfl, ?tk⟩, fun _ => rfl⟩ s0.out ?_
      case tk => intro w' hw; rw [HSS.out] at hw; obtain ⟨y0, y1, y2⟩ := hw; first | (go_simp; done) | (go_simp; rfl) | (go_simp; simp [*]; done)
      try go_simp
      obtain ⟨ad, ea, _⟩ : ∃ ad, A = some ad ∧ True := by
        have h := s0.out
        rw [HSS.out] at h
        obtain ⟨ad, e, _⟩ := h.2.2 hlt
        exact ⟨ad, e, trivial⟩
      subst ea
      have hi0 := HI.out.1.1
      have hi1 : ¬ i < 0 := by omega
      refine anyS_take (i := 5) (v := .func (.yield l) #[] #[]) rfl rfl (by kernel_rfl) (by kernel_rfl) (by kernel_rfl) (fun _ _ _ h => h) ⟨Or.inl ⟨by kernel_rfl, ?tk⟩, fun _ => rfl⟩ s0.out ?_
      case tk => intro w' hw; rw [HSS.out] at hw; obtain ⟨y0, y1, y2⟩ := hw; first | (go_simp; done) | (go_simp; rfl) | (go_simp; simp [*]; done)
      refine anyS_take (i := 6) (v := .int .i64 i) rfl rfl (by kernel_rfl) (by kernel_rfl) (by kernel_rfl) (fun _ _ _ h => h) ⟨Or.inl ⟨by kernel_rfl, ?tk⟩, fun _ => rfl⟩ s0.out ?_
      case tk => intro w' hw; rw [HSS.out] at hw; obtain ⟨y0, y1, y2⟩ := hw; first | (go_simp; done) | (go_simp; rfl) | (go_simp; simp [*]; done)
      refine anyS_take (i := 7) (v := .slice (some ad) all.length c) rfl rfl (by kernel_rfl) (by kernel_rfl) (by kernel_rfl) (fun _ _ _ h => h) ⟨Or.inl ⟨by kernel_rfl, ?tk⟩, fun _ => rfl⟩ s0.out ?_
      case tk => intro w' hw; rw [HSS.out] at hw; obtain ⟨y0, y1, y2⟩ := hw; first | (go_simp; done) | (go_simp; rfl) | (go_simp; simp [*]; done)
      refine anyS_take (i := 8) (v := .int .i64 i) rfl rfl (by kernel_rfl) (by kernel_rfl) (by kernel_rfl) (fun _ _ _ h => h) ⟨Or.inl ⟨by kernel_rfl, ?tk⟩, fun _ => rfl⟩ s0.out ?_
      case tk => intro w' hw; rw [HSS.out] at hw; obtain ⟨y0, y1, y2⟩ := hw; first | (go_simp; done) | (go_simp; rfl) | (go_simp; simp [*]; done)
      try go_simp
      refine anyS_take (i := 9) (v := .pointer (some (ad.add i.toNat))) rfl rfl (by kernel_rfl) (by kernel_rfl) (by kernel_rfl) (fun _ _ _ h => h) ⟨Or.inl ⟨by kernel_rfl, ?tk⟩, fun _ => rfl⟩ s0.out ?_
      case tk => intro w' hw; rw [HSS.out] at hw; obtain ⟨y0, y1, y2⟩ := hw; first | (go_simp; done) | (go_simp; rfl) | (go_simp; simp [*]; done)
      refine anyS_take (i := 10) (v := .int .i64 (v)) rfl rfl (by kernel_rfl) (by kernel_rfl) (by kernel_rfl) (fun _ _ _ h => h) ⟨Or.inl ⟨by kernel_rfl, ?tk⟩, fun _ => rfl⟩ s0.out ?_
      case tk => intro w' hw; rw [HSS.out] at hw; obtain ⟨y0, y1, y2⟩ := hw; obtain ⟨ad', e', y3⟩ := y2 hlt; injection e' with e'; subst e'; first | (go_simp; done) | (go_simp; rfl) | (go_simp; simp [*]; done)
      try go_simp
      have hk8 : Kp n₀ Kb w Wb.drew := HI.out.2.2.2.2.2.1.trans (.of_below B0.out (by omega))
      have hj8 : J (pairsOf pre all) Wb.drew := HY.out.2.1 _ _ _ HI.out.2.2.2.2.1 (.of_below B0.out)
      have hsn2 : pairsOf (pre ++ [i]) all = pairsOf pre all ++ [(i, v)] := by rw [HI.out.2.1, if_pos hlt]
      have hpm : pairsOf pre all ++ [(i, v)] <+: pairsL s all := by rw [← hsn2]; exact HI.out.2.2.1
      obtain ⟨fn, tmps, asg, body, hy, hR⟩ := yieldAt_wide (m' := 5) (HY.out.1 (pairsOf pre all) (i, v) _ Wb.drew hj8 ⟨hpm, rfl⟩)
      dsimp only at hy
      have e1 := blk_belowX HI.out.2.2.2.2.2.2.2.1 B0.out
      have e1u := blk_belowX ((HI.out.2.2.2.2.2.2.1.2 (W.heap.size + 1) (by omega) (.inr (Nat.le_refl _))).trans G.out.2.2.1) B0.out
      have HE := Aside0.mk (And.intro (And.intro e1 e1u) (And.intro hk8 hsn2))
      clear e1 e1u hk8 hj8 hsn2 hpm
      refine anyS_one (i := 11) (by kernel_rfl) (wpOpIn_step rfl fun K hK => ?_)
      go_simp
      refine hR.mono ?_
      rintro e W3 (⟨rfl, hJ3, hk3, hin⟩ | ⟨rfl, hx3, hin⟩)
      · have hkw : Kp n₀ Kb w W3 := HE.out.2.1.trans hk3
        have f1 := (hin.2 W.heap.size (Nat.le_refl _) (lt_of_some HE.out.1.1) (isC HE.out.1.1 hTf)).trans HE.out.1.1
        have hS3 : SS W3 := by rw [HSS.out]; exact HI.out.2.2.2.2.2.2.2.2 W3 hkw f1
        have hkin : Kin T w5.heap.size X.heap.size Wb W3 := ⟨Nat.le_trans B0.out.size hin.1, fun k h1 h2 h3 => (hin.2 k (by omega) (by have := B0.out.size; omega) (fun t cs z e => h3 t cs z ((B0.out.block k (by omega)).symm.trans e))).trans (B0.out.block k (by omega))⟩
        have hkp : Kp w5.heap.size (fun k => (k < n₀ ∧ Kb k) ∨ W.heap.size + 1 ≤ k) Wb W3 := ⟨Nat.le_trans B0.out.size hin.1, fun k h1 h2 => by
          refine Eq.trans ?_ (B0.out.block k (by omega))
          rcases h2 with ⟨h2, h3⟩ | h2
          · exact (hkw.2 k h2 h3).trans ((HI.out.2.2.2.2.2.1.trans (.of_below B0.out (by omega))).2 k h2 h3).symm
          · obtain rfl : k = W.heap.size + 1 := by omega
            exact hin.2 _ (by omega) (lt_of_some HE.out.1.2) (isC HE.out.1.2 hTu)⟩
        have HF := Aside0.mk (And.intro hkin (And.intro hkp (And.intro hJ3 (And.intro hkw f1))))
        clear hkin hkp hJ3 hkw f1 hk3 hin
        refine hK _ _ ⟨hS3, ?_⟩
        clear hK K
        refine anyS_one (i := 12) (by kernel_rfl) (wpOpIn_step rfl fun K hK => ?_)
        go_simp
        refine hK _ _ ⟨hS3, ?_⟩
        clear hK K
        refine anyS_one (i := 13) (by kernel_rfl) (wpOpIn_step rfl fun K hK => ?_)
        go_simp
        refine hK _ _ ⟨hS3, ?_⟩
        clear hK K hS3
        refine anyS_done (by kernel_rfl) ?_ _
        gi_wp2
        have e9 := HI.out.2.2.2.2.2.2.1.trans HF.out.2.1
        have e8 := HF.out.1
        have e7 := HF.out.2.1
        rw [hs5] at e7 e8 e9
        refine ⟨e8, e7, ?_, HF.out.2.2.2.1, HF.out.2.2.2.2, e9⟩
        rw [HE.out.2.2]
        exact HF.out.2.2.1
      · have hkw : Kp n₀ Kb w W3 := HY.out.2.2.2.2.2.2.2 _ _ hx3
        have f1 := (hin.2 W.heap.size (Nat.le_refl _) (lt_of_some HE.out.1.1) (isC HE.out.1.1 hTf)).trans HE.out.1.1
        have hS3 : SS W3 := by rw [HSS.out]; exact HI.out.2.2.2.2.2.2.2.2 W3 hkw f1
        have hkin : Kin T w5.heap.size X.heap.size Wb W3 := ⟨Nat.le_trans B0.out.size hin.1, fun k h1 h2 h3 => (hin.2 k (by omega) (by have := B0.out.size; omega) (fun t cs z e => h3 t cs z ((B0.out.block k (by omega)).symm.trans e))).trans (B0.out.block k (by omega))⟩
        have hkp : Kp w5.heap.size (fun k => (k < n₀ ∧ Kb k) ∨ W.heap.size + 1 ≤ k) Wb W3 := ⟨Nat.le_trans B0.out.size hin.1, fun k h1 h2 => by
          refine Eq.trans ?_ (B0.out.block k (by omega))
          rcases h2 with ⟨h2, h3⟩ | h2
          · exact (hkw.2 k h2 h3).trans ((HI.out.2.2.2.2.2.1.trans (.of_below B0.out (by omega))).2 k h2 h3).symm
          · obtain rfl : k = W.heap.size + 1 := by omega
            exact hin.2 _ (by omega) (lt_of_some HE.out.1.2) (isC HE.out.1.2 hTu)⟩
        have HF := Aside0.mk (And.intro hkin (And.intro hx3 hkp))
        clear hkin hx3 hkw f1 hin hkp
        refine hK _ _ ⟨hS3, ?_⟩
        clear hK K
        refine anyS_one (i := 12) (by kernel_rfl) (wpOpIn_step rfl fun K hK => ?_)
        go_simp
        refine hK _ _ ⟨hS3, ?_⟩
        clear hK K
        refine anyS_one (i := 13) (by kernel_rfl) (wpOpIn_step rfl fun K hK => ?_)
        go_simp
        refine hK _ _ ⟨hS3, ?_⟩
        clear hK K hS3
        refine anyS_done (by kernel_rfl) ?_ _
        gi_wp2
        have e9 := HI.out.2.2.2.2.2.2.1.trans HF.out.2.2
        rw [hs5] at e9
        have e8 := HF.out.1
        rw [hs5] at e8
        exact ⟨e8, rfl, e9, .inr ⟨_, HF.out.2.1⟩⟩
    · have hge : decide ((all.length : Int) ≤ i) = true := decide_eq_true (by omega)
      refine anyS_take (i := 3) (v := .bool true) rfl rfl (by kernel_rfl) (by kernel_rfl) (by kernel_rfl) (fun _ _ _ h => h) ⟨Or.inl ⟨by kernel_rfl, ?tk⟩, fun _ => rfl⟩ s0.out ?_
      case tk => intro w' hw; rw [HSS.out] at hw; obtain ⟨y0, y1, y2⟩ := hw; first | (go_simp; done) | (go_simp; rfl) | (go_simp; simp [*]; done)
      refine anyS_take (i := 4) (v := .bool true) rfl rfl (by kernel_rfl) (by kernel_rfl) (by kernel_rfl) (fun _ _ _ h => h) ⟨Or.inl ⟨by kernel_rfl, ?tk⟩, fun _ => rfl⟩ s0.out ?_
      case tk => intro w' hw; rw [HSS.out] at hw; obtain ⟨y0, y1, y2⟩ := hw; first | (go_simp; done) | (go_simp; rfl) | (go_simp; simp [*]; done)
      try go_simp
      refine anyS_take (i := 5) (v := undef) rfl rfl (by kernel_rfl) (by kernel_rfl) (by kernel_rfl) (fun _ _ _ h => h) ⟨Or.inr ⟨by kernel_rfl, rfl⟩, fun _ => rfl⟩ s0.out ?_
      refine anyS_take (i := 6) (v := undef) rfl rfl (by kernel_rfl) (by kernel_rfl) (by kernel_rfl) (fun _ _ _ h => h) ⟨Or.inr ⟨by kernel_rfl, rfl⟩, fun _ => rfl⟩ s0.out ?_
      try go_simp
      refine anyS_take (i := 7) (v := undef) rfl rfl (by kernel_rfl) (by kernel_rfl) (by kernel_rfl) (fun _ _ _ h => h) ⟨Or.inr ⟨by kernel_rfl, rfl⟩, fun _ => rfl⟩ s0.out ?_
      refine anyS_take (i := 8) (v := undef) rfl rfl (by kernel_rfl) (by kernel_rfl) (by kernel_rfl) (fun _ _ _ h => h) ⟨Or.inr ⟨by kernel_rfl, rfl⟩, fun _ => rfl⟩ s0.out ?_
      try go_simp
      refine anyS_take (i := 9) (v := undef) rfl rfl (by kernel_rfl) (by kernel_rfl) (by kernel_rfl) (fun _ _ _ h => h) ⟨Or.inr ⟨by kernel_rfl, rfl⟩, fun _ => rfl⟩ s0.out ?_
      refine anyS_take (i := 10) (v := undef) rfl rfl (by kernel_rfl) (by kernel_rfl) (by kernel_rfl) (fun _ _ _ h => h) ⟨Or.inr ⟨by kernel_rfl, rfl⟩, fun _ => rfl⟩ s0.out ?_
      try go_simp
      refine anyS_one (i := 11) (by kernel_rfl) (wpOpIn_step rfl fun K hK => ?_)
      refine ite_no (by rfl) ?_
      refine ⟨fun _ _ => trivial, hK _ _ ⟨s0.out, ?_⟩⟩
      clear hK K
      refine anyS_take (i := 12) (v := undef) rfl rfl (by kernel_rfl) (by kernel_rfl) (by kernel_rfl) (fun _ _ _ h => h) ⟨Or.inr ⟨by kernel_rfl, rfl⟩, fun _ => rfl⟩ s0.out ?_
      refine anyS_take (i := 13) (v := .bool true) rfl rfl (by kernel_rfl) (by kernel_rfl) (by kernel_rfl) (fun _ _ _ h => h) ⟨Or.inl ⟨by kernel_rfl, ?tk⟩, fun _ => rfl⟩ s0.out ?_
      case tk => intro w' hw; rw [HSS.out] at hw; obtain ⟨y0, y1, y2⟩ := hw; first | (go_simp; done) | (go_simp; rfl) | (go_simp; simp [*]; done)
      refine anyS_done (by kernel_rfl) ?_ _
      have hjd : J (pairsL s all) Wb.drew := by rw [HI.out.2.2.2.1 (by first | exact hlt | omega)]; exact HY.out.2.1 _ _ _ HI.out.2.2.2.2.1 (.of_below B0.out)
      have hkd : Kp w5.heap.size (fun k => (k < n₀ ∧ Kb k) ∨ W.heap.size + 1 ≤ k) w5 Wb.drew := HI.out.2.2.2.2.2.2.1.trans (.of_below B0.out (by omega))
      have HF := Aside0.mk (And.intro hjd hkd)
      clear hjd hkd
      gi_wp2
      have e9 := HF.out.2
      rw [hs5] at e9
      exact ⟨Kin.of_below B0.out (by omega), rfl, e9, .inl HF.out.1⟩
  case done =>
    rintro D xs X hD rfl ⟨hj, hk, hy1, hk5⟩ hKd
    have HF := Aside0.mk (And.intro hj hKd)
    clear hj hk hy1 hk5 hKd
    gi_wp2
    refine ⟨by simp, .inl ⟨_, _, rfl, run_takeDeferred HF.out.2, ?_⟩⟩
    refine ⟨_, results_none rfl _ _ _, ⟨_, rfl⟩, .inl ⟨_, rfl, ?_⟩⟩
    exact HY.out.2.1 _ _ _ HF.out.1 (.put (by omega) HF.out.2 rfl _)
  case stop =>
    rintro D cd pre X hD - ⟨rfl, hk5, hq⟩ hKd
    have HF := Aside0.mk (And.intro hq hKd)
    clear hq hKd hk5
    gi_wp2
    refine ⟨by simp, .inl ⟨_, _, rfl, run_takeDeferred HF.out.2, ?_⟩⟩
    refine ⟨_, results_none rfl _ _ _, ⟨_, rfl⟩, ?_⟩
    rcases HF.out.1 with h | ⟨q, hq⟩
    · exact .inl ⟨_, rfl, HY.out.2.1 _ _ _ h (.put (by omega) HF.out.2 rfl _)⟩
    · exact .inr ⟨q, trivial, HY.out.2.2.1 _ _ _ hq (.put (by omega) HF.out.2 rfl _)⟩
end Go.Proofs.YtmcapemlfplcgaaDoor.H
