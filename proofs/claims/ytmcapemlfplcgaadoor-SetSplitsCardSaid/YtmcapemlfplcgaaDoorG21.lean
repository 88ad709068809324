/- Some texts of one seat in one file, in build order. -/
import Derived.Test.YtmcapemlfplcgaaDoorG17
import Derived.Test.YtmcapemlfplcgaaDoorG18
import Derived.Test.YtmcapemlfplcgaaDoorG19
import Derived.Test.YtmcapemlfplcgaaDoorG20
import Derived.Test.YtmcapemlfplcgaaDoorG1
import Derived.Deep.RegionHeld3
import Derived.Deep.CutBlock
import Derived.Deep.DeepCutAuto
/- SetSplits: the splits and the choices are those that are said, and no more are made. No condition but what the row lists of the variables. -/
namespace Go.Proofs.YtmcapemlfplcgaaDoor.MSetSplits
open Go.RowKit Go.Proofs.YtmcapemlfplcgaaDoorW.PrintWords Go.Proofs.YtmcapemlfplcgaaDoorW.PrintLast Go.Proofs.YtmcapemlfplcgaaDoorW.PrintMore Go.Proofs.YtmcapemlfplcgaaDoor.AtM Go.Proofs.YtmcapemlfplcgaaDoor.R02 Go.Proofs.YtmcapemlfplcgaaDoor.H Go.Proofs.YtmcapemlfplcgaaDoor.Ult
set_option linter.unusedVariables false
set_option linter.unusedSimpArgs false
set_option maxRecDepth 100000
attribute [local go_sem] Oper.semAt_some wide_fn wide_depth
theorem results_b {fn : Func} {p : Tmp} (h : fn.results = #[.cell p 4]) (tmps : Array Value) (w : World) (g : Nat) (b : Bool) (hp : tmps.getD p undef = .pointer (some ⟨g, 0, none⟩)) (hg : w.cell? ⟨g, 0, none⟩ = some (.bool b)) :
    (results fn tmps).run Tryd.prog w = .ok (.bool b) w := by
  have hp' : tmps[p]?.getD undef = .pointer (some ⟨g, 0, none⟩) := by simpa using hp
  have hu := Tryd.underlying4
  simp [results, h, hp', asAddr]
  go_simp
theorem C_one {k : IntKind} {W W' : World} {ad : Addr} {n : Nat} {xs : List Int} (hc : Kd.C (Kd.int k) W (some ad) n xs) (h : W'.heap[ad.block]? = W.heap[ad.block]?) : Kd.C (Kd.int k) W' (some ad) n xs :=
  ⟨hc.1, hc.2.1, fun hn => by
    obtain ⟨ad', e, hr⟩ := hc.2.2 hn
    injection e with e; subst e
    refine ⟨ad, rfl, fun j p hj => ?_⟩
    obtain ⟨c, hs, hR, hcell⟩ := hr j p hj
    refine ⟨c, hs, hR, fun i u hu => (World.cell?_of_block ?_).trans (hcell i u hu)⟩
    rw [show (ad.add (j * (Kd.int k).sz + i)).block = ad.block by unfold Addr.add; split <;> rfl]
    exact h⟩
theorem lt_of_some_C {k : IntKind} {W : World} {g : Nat} {n : Nat} {xs : List Int} (hc : Kd.C (Kd.int k) W (some ⟨g, 0, none⟩) n xs) (hn : 0 < n) : g < W.heap.size := by
  obtain ⟨ad, c, e, hl, hK, hcell⟩ := Kd.C_get hc (0 : Int) (0 : Int) (by omega) (by omega)
  injection e with e; subst e
  cases c with
  | nil => exact absurd ((Kd.int k).K_len hK) (by show ¬ (0 = 1); decide)
  | cons u r => exact World.block_lt_of_cell? W _ (hcell 0 u rfl)
theorem C_blocksU {k : IntKind} {W W' : World} {A : Option Addr} {n F : Nat} {xs : List Int} {e base : Nat} {ok : Nat → Prop} {c : Nat} (hr : Kd.R (Kd.int k) e W base ok (.slice A n c) xs) (hn : xs.length = n) (h : ∀ i, i < W.heap.size → W'.heap[i]? = W.heap[i]?) : Kd.C (Kd.int k) W' A n xs ∧ n ≤ c := by
  obtain ⟨A', c', e1, hc, hC⟩ := R_C hr
  rw [hn] at e1 hc hC
  injection e1 with q1 _ q2
  subst q1; subst q2
  exact ⟨⟨hC.1, hC.2.1, fun hn => by
    obtain ⟨ad, e, hr⟩ := hC.2.2 hn
    refine ⟨ad, e, fun j p hj => ?_⟩
    obtain ⟨c, hs, hR, hcell⟩ := hr j p hj
    exact ⟨c, hs, hR, fun i u hu => (World.cell?_of_block (h _ (World.block_lt_of_cell? W _ (hcell i u hu)))).trans (hcell i u hu)⟩⟩, hc⟩
theorem RSubsets_eq (s : Int) (n : Nat) (W : World) (hs : U64 s) (hc : pcS s ≤ 10) (h : (subsS s).length = n) : Calls Tryd.prog 31 #[.int .u64 s] W fun e W' =>
    ∃ g c, e = .returned (.slice (some ⟨g, 0, none⟩) n c) ∧ n ≤ c ∧ Kd.C (Kd.int .u64) W' (some ⟨g, 0, none⟩) n (subsS s) ∧ W.heap.size ≤ g ∧ Below W.heap.size W W' := by
  subst h
  obtain ⟨k, hk⟩ := (subsets_ev s hs hc).get
  refine (PAll2.saleroomref02_Subsets.calls k s _ W hk).mono ?_
  rintro e w' ⟨v, rfl, hR, hb⟩
  obtain ⟨g, c, rfl, hc, hC⟩ := own_at2 hR (by rw [subsS_len]; exact Nat.ne_of_gt (Nat.pow_pos (by decide)))
  obtain ⟨_, ho'⟩ := Kd.R_own hR
  exact ⟨g, c, rfl, hc, hC, own_base ho' g rfl, hb⟩
/-- The number that a box holds. -/
def inAt (b : Nat) (W : World) : Nat := match W.heap[b]? with
  | some (.cells cs _ _) => (intOf (cs.getD 0 undef)).toNat
  | _ => 0
theorem inAt_eq {b : Nat} {W : World} {x : Int} {t : TypeId} {z : Nat × Nat} (h : W.heap[b]? = some (.cells #[.int .u64 x] t z)) : inAt b W = x.toNat := by unfold inAt; rw [h]; rfl
def Bxs (W X : World) (x : Int) (m : Int) : Prop := Below W.heap.size W X ∧ X.heap[W.heap.size]? = some (.cells #[.int .u64 x] 22 (0, 0)) ∧ X.heap[W.heap.size + 1]? = some (.cells #[.int .i64 m] 3 (0, 0)) ∧ X.heap[W.heap.size + 1 + 1]? = some (.cells #[.bool false] 4 (0, 0))
/-- Whether a subset is wanted; whether it has so many items. -/
def f1 (x : Int) (s : Int) : Bool := x != 0 && bits BinOp.and IntKind.u64 s (lowS x) != 0
def f2 (n : Int) (s : Int) : Bool := decide ((pcS s : Int) = n)
/-- The state between two rounds over the subsets. -/
def RelS (w : World) (E : Nat) (xs : List Int) (m : Nat) (p1 p2 : Int → Bool) (v1 v2 p : Value) (X : World) : Prop := ∃ (k n1 n2 : Nat) (A1 A2 : Option Addr) (c1 c2 : Nat), v1 = .slice A1 n1 c1 ∧ v2 = .slice A2 n2 c2 ∧ p = .int .i64 (k : Int) ∧ k ≤ xs.length ∧ n1 ≤ m ∧ n2 ≤ m ∧
  Aside0 ((((xs.take k).filter p1).take m).length = n1 ∧ (((xs.take k).filter p2).take m).length = n2) ∧ Aside0 (Two w X E (.slice A1 n1 c1) (.slice A2 n2 c2) (((xs.take k).filter p1).take m) (((xs.take k).filter p2).take m))
theorem Bxs.but {W w X : World} {x m : Int} {E : Nat} (h : Bxs W w x m) (hE : W.heap.size + 3 ≤ E) (hb : But (fun i => i = E ∨ i = E + 1) w X) : Bxs W X x m :=
  ⟨hb.below h.1 h.1.size (by rintro k (rfl | rfl) <;> omega), hb.blk h.2.1 (by omega), hb.blk h.2.2.1 (by omega), hb.blk h.2.2.2 (by omega)⟩
theorem at_elemu64 {w : World} {A : Option Addr} {n : Nat} {xs : List Int} (h : Kd.C (Kd.int .u64) w A n xs) {i : Nat} {v : Int} (hi : i < n) (hv : xs[i]? = some v) : ∃ ad, A = some ad ∧ w.cell? (ad.add i) = some (.int .u64 v) := by
  obtain ⟨ad, c, e, _, hK, hc0⟩ := Kd.C_get h (0 : Int) (i : Int) (by omega) (by omega)
  rw [Int.toNat_natCast] at hK hc0
  have eg : xs.getD i (0 : Int) = v := by rw [List.getD_eq_getElem?_getD, hv]; rfl
  rw [eg] at hK
  have hK : c = [.int .u64 v] := hK
  subst hK
  have h1 := hc0 0 (.int .u64 v) rfl
  refine ⟨ad, e, ?_⟩
  have e2 : i * (Kd.int .u64).sz + 0 = i := by show i * 1 + 0 = i; omega
  rw [e2] at h1
  exact h1
set_option maxHeartbeats 6400000 in
theorem main (a : Int) (wa : (Lit.int .u64 a).wf = true) (n : Int) (wn : (Lit.int .i64 n).wf = true) (most : Int) (wm : (Lit.int .i64 most).wf = true) (W : World) (hT : TabE W) :
    Calls Tryd.prog 9 #[.int .u64 a, .int .i64 n, .int .i64 most] W fun e W' => e = .returned (.bool true) ∧ Below W.heap.size W W' := by
  have ha := wf2_u64 wa
  have hnn := wf2_i64 wn
  have hmm := and_mask2 most 1023 (by decide)
  rw [show ((1023 : Nat) : Int) = 1023 from rfl] at hmm
  have HU := Aside0.mk (And.intro ha (And.intro hT hnn))
  clear wa wm wn ha hT hnn
  refine (callsIn_wide (n := 8)).1 ?_
  refine callsIn_of_wp_marks Tryd.func9 rfl trivial ?_ rfl
  simp only [Tryd.ntmps9, List.size_toArray, List.length_cons, List.length_nil, Nat.reduceAdd, Nat.reduceSub, Array.replicate_succ, Array.replicate_zero, List.push_toArray, List.append_toArray, List.nil_append, List.cons_append]
  refine wpIn_wide.2 ?_
  have hb0 : Bxs W (((W.alloc (.cells #[.int .u64 a] 22)).alloc (.cells #[.int .i64 most] 3)).alloc (.cells #[.bool false] 4)) a most := ⟨below_alloc (below_alloc (below_alloc (Below.refl _ _) _) _) _, blk_alloc (blk_alloc (blk_new _ _) _) _, blk_alloc (blk_new2 _ _ _) _, by
    rw [show W.heap.size + 1 + 1 = ((W.alloc (.cells #[.int .u64 a] 22)).alloc (.cells #[.int .i64 most] 3)).heap.size by simp]
    exact blk_new _ _⟩
  have B0 := Aside0.mk hb0
  clear hb0
  go_wp2_with (fail)
  refine (alive2_calls _ (HU.out.2.1.below B0.out.1)).mono ?_
  rintro e w1 ⟨rfl, hb1⟩
  have B : Aside0 (Bxs W w1 a most) := Aside0.mk ⟨below_step B0.out.1 hb1, blk_belowX B0.out.2.1 hb1, blk_belowX B0.out.2.2.1 hb1, blk_belowX B0.out.2.2.2 hb1⟩
  clear B0 hb1
  go_wp2_with (fail)
  go_loopw [] (fun wr => ∃ x : Int, Aside0 (U64 x) ∧ Aside0 (Bxs W wr x most)) (fun wr => inAt W.heap.size wr)
  case atStart => exact ⟨a, ⟨HU.out.1⟩, B⟩
  case round =>
    obtain ⟨x, HX, HB⟩ := hrel
    have hcx := blk_cell HB.out.2.1 0
    have hfx := blk_frozen HB.out.2.1 0
    simp at hcx
    by_cases h10 : 9 < pcS x
    · have g1 : decide ((9 : Int) < (pcS x : Int)) = true := decide_eq_true (by omega)
      have g2 : decide ((pcS x : Int) > 9) = true := decide_eq_true (by omega)
      have hx0 : x ≠ 0 := fun e => by subst e; revert h10; decide
      have hlow := and_low HX.out hx0
      obtain ⟨q1, q2⟩ := and_pred_lt HX.out hx0
      obtain ⟨y, hy⟩ : ∃ y, ((x.toNat &&& (x.toNat - 1) : Nat) : Int) = y := ⟨_, rfl⟩
      rw [hy] at hlow q1 q2
      have HY := Aside0.mk q1
      have hx1 := HX.out.1
      have hy1 := q1.1
      clear q1 hy
      go_wp2_with (fail)
      refine (Count_calls x _ HX.out).mono ?_
      rintro e w2 ⟨rfl, rfl⟩
      go_wp2
      go_roundw
      have hset : (wr.setCell ⟨W.heap.size, 0, none⟩ (.int .u64 y)).heap[W.heap.size]? = some (.cells #[.int .u64 y] 22 (0, 0)) := blk_put HB.out.2.1 0 (.int .u64 y) rfl
      case rel => exact ⟨y, HY, ⟨below_set HB.out.1 (Nat.le_refl _), hset, blk_far HB.out.2.2.1 (p := ⟨W.heap.size, 0, none⟩) (by show W.heap.size + 1 ≠ W.heap.size; omega) _, blk_far HB.out.2.2.2 (p := ⟨W.heap.size, 0, none⟩) (by show W.heap.size + 1 + 1 ≠ W.heap.size; omega) _⟩⟩
      case measure => rw [inAt_eq (blk_put HB.out.2.1 0 (.int .u64 y) rfl), inAt_eq HB.out.2.1]; omega
    · have g1 : decide ((9 : Int) < (pcS x : Int)) = false := decide_eq_false (by omega)
      have g2 : decide ((pcS x : Int) > 9) = false := decide_eq_false (by omega)
      have hcm := blk_cell HB.out.2.2.1 0
      have hfm := blk_frozen HB.out.2.2.1 0
      simp at hcm
      have hl0 : W.heap.size + 1 + 1 < wr.heap.size := lt_of_some HB.out.2.2.2
      have hl1 : W.heap.size < wr.heap.size := by omega
      have hl2 : W.heap.size + 1 < wr.heap.size := by omega
      go_wp2_with (fail)
      refine (Count_calls x _ HX.out).mono ?_
      rintro e w2 ⟨rfl, rfl⟩
      go_wp2_with (fail)
      obtain ⟨m, hm⟩ : ∃ m : Nat, 1 + bits BinOp.and IntKind.i64 most 1023 = (m : Int) := ⟨(1 + bits BinOp.and IntKind.i64 most 1023).toNat, by omega⟩
      have hm0 : 1 ≤ m ∧ m ≤ 1024 := by omega
      rw [hm]
      have e1 : (wr.setCell ⟨W.heap.size + 1, 0, none⟩ (.int .i64 (m : Int))).heap.size = wr.heap.size := by
        show (wr.heap.modify _ _).size = _; rw [Array.size_modify]
      have hbs : Bxs W (wr.setCell ⟨W.heap.size + 1, 0, none⟩ (.int .i64 (m : Int))) x m := ⟨below_set HB.out.1 (by show W.heap.size ≤ W.heap.size + 1; omega), blk_far HB.out.2.1 (p := ⟨W.heap.size + 1, 0, none⟩) (by show W.heap.size ≠ W.heap.size + 1; omega) _, blk_put HB.out.2.2.1 0 _ rfl, blk_far HB.out.2.2.2 (p := ⟨W.heap.size + 1, 0, none⟩) (by show W.heap.size + 1 + 1 ≠ W.heap.size + 1; omega) _⟩
      obtain ⟨E, hE⟩ : ∃ E, E = wr.heap.size := ⟨_, rfl⟩
      have hb3 : Bxs W (((wr.setCell ⟨W.heap.size + 1, 0, none⟩ (.int .i64 (m : Int))).alloc (.cells #[] 22)).alloc (.cells #[] 22)) x m := ⟨below_alloc (below_alloc hbs.1 _) _, blk_alloc (blk_alloc hbs.2.1 _) _, blk_alloc (blk_alloc hbs.2.2.1 _) _, blk_alloc (blk_alloc hbs.2.2.2 _) _⟩
      have q0 : (((wr.setCell ⟨W.heap.size + 1, 0, none⟩ (.int .i64 (m : Int))).alloc (.cells #[] 22)).alloc (.cells #[] 22)).heap[E]? = some (.cells #[] 22 (0, 0)) := by rw [hE, ← e1]; exact blk_alloc (blk_new _ _) _
      have q1 : (((wr.setCell ⟨W.heap.size + 1, 0, none⟩ (.int .i64 (m : Int))).alloc (.cells #[] 22)).alloc (.cells #[] 22)).heap[E + 1]? = some (.cells #[] 22 (0, 0)) := by rw [hE, ← e1]; exact blk_new2 _ _ _
      generalize (((wr.setCell ⟨W.heap.size + 1, 0, none⟩ (.int .i64 (m : Int))).alloc (.cells #[] 22)).alloc (.cells #[] 22)) = w3 at hb3 q0 q1 ⊢
      obtain ⟨xs, hxs⟩ : ∃ l, subsS x = l := ⟨_, rfl⟩
      have hlen := subsS_len x
      have hp10 : 2 ^ pcS x ≤ 2 ^ 9 := Nat.pow_le_pow_right (by decide) (by omega)
      have hp1 : 1 ≤ 2 ^ pcS x := Nat.pow_pos (by decide)
      have hu := subsS_u (s := x)
      have hRS := RSubsets_eq x xs.length w3 HX.out (by omega) (by rw [hxs])
      rw [hxs] at hlen hRS hu
      have hn1 : 1 ≤ xs.length ∧ xs.length ≤ 512 := by omega
      have hEW : W.heap.size + 3 ≤ E := by omega
      refine hRS.mono ?_
      rintro e w4 ⟨gS, c2, rfl, hc2, hC2, hgS, hb4⟩
      have B4 : Aside0 (Bxs W w4 x m) := Aside0.mk ⟨below_step hb3.1 hb4, blk_belowX hb3.2.1 hb4, blk_belowX hb3.2.2.1 hb4, blk_belowX hb3.2.2.2 hb4⟩
      have hs3 : E + 1 < w3.heap.size := lt_of_some q1
      have hT4 : Two w4 w4 E _ _ [] [] := Two.start (blk_belowX q0 hb4) (blk_belowX q1 hb4)
      have hCX : ∀ X, But (fun i => i = E ∨ i = E + 1) w4 X → Kd.C (Kd.int .u64) X (some ⟨gS, 0, none⟩) xs.length xs := fun X hX => C_one hC2 (hX.block gS (lt_of_some_C hC2 (by omega)) (by omega))
      have C4 := Aside0.mk (And.intro hCX (And.intro hu hxs))
      have T4 := Aside0.mk (HU.out.2.1.below B4.out.1)
      have hE4 : E + 1 < w4.heap.size := lt_of_some (blk_belowX q1 hb4)
      rw [← hE]
      clear hRS hC2 hgS hb4 hb3 q0 q1 hbs e1 hCX hu hxs hlen hp10 hp1 hmm hm HB hcx hfx hcm hfm hl0 hl1 hl2 hE h10 g1 g2 B
      obtain ⟨ad, had⟩ : ∃ ad : Addr, (⟨gS, 0, none⟩ : Addr) = ad := ⟨_, rfl⟩
      rw [had] at C4 ⊢
      clear had
      go_wp2_with (fail)
      go_loopw [7, 8, 33] (fun v1 v2 p wx => RelS w4 E xs m (f1 x) (f2 n) v1 v2 p wx) (fun _ _ p _ => xs.length - (intOf p).toNat)
      case atStart => exact ⟨0, 0, 0, _, _, _, _, rfl, rfl, rfl, by omega, by omega, by omega, ⟨by simp, by simp⟩, ⟨by simpa using hT4⟩⟩
      case round =>
        obtain ⟨k, n1, n2, A1, A2, c1, c3, rfl, rfl, rfl, hk, h1, h2, HL, HT⟩ := hrel
        by_cases hlt : k < xs.length
        · have g0 : decide ((k : Int) < (xs.length : Int)) = true := decide_eq_true (by omega)
          obtain ⟨s, hs⟩ : ∃ s, xs[k]? = some s := ⟨_, List.getElem?_eq_getElem hlt⟩
          have hus := C4.out.2.1 s (List.mem_of_getElem? hs)
          have hst1 := filt_step (p := f1 x) (m := m) hs
          have hst2 := filt_step (p := f2 n) (m := m) hs
          obtain ⟨ad', ea, d0⟩ := at_elemu64 (C4.out.1 wr HT.out.but) hlt hs
          injection ea with ea; subst ea
          have hB5 := B4.out.but hEW HT.out.but
          have E5 := Aside0.mk (And.intro hB5 (And.intro hus (And.intro hst1 hst2)))
          have hcx := blk_cell hB5.2.1 0
          have hcm := blk_cell hB5.2.2.1 0
          simp at hcx hcm
          clear hB5 hus hst1 hst2 hs
          have hm1 : ∀ b : Bool, (b = true ∧ (((xs.take k).filter (f1 x)).take m).length < m) = (b = true ∧ n1 < m) := fun b => by rw [HL.out.1]
          clear hm1
          go_upto_region 10 with (fail)
          go_cut [53] from 34 to 73 (fun s53 wx => s53 = .bool (f1 x s && decide (n1 < m)) ∧ wx = wr)
          case first =>
            by_cases hx0 : x = 0
            · have hf : f1 x s = false := by unfold f1; simp [hx0]
              have hb : (x != 0) = false := by simp [hx0]
              go_wp2
              go_meet
              case rel => exact ⟨by rw [hf]; rfl, rfl⟩
            · by_cases hb1 : bits BinOp.and IntKind.u64 s (lowS x) = 0
              · have hf : f1 x s = false := by unfold f1; simp [hb1]
                have hb : (x != 0) = true := by simp [hx0]
                have hb2 : (bits BinOp.and IntKind.u64 s (bits BinOp.and IntKind.u64 x (IntKind.u64.wrap (-x))) != 0) = false := by
                  have : bits BinOp.and IntKind.u64 s (bits BinOp.and IntKind.u64 x (IntKind.u64.wrap (-x))) = 0 := hb1
                  simp [this]
                clear hb1
                go_wp2
                go_meet
                case rel => exact ⟨by rw [hf]; rfl, rfl⟩
              · have hf : f1 x s = true := by unfold f1; simp [hb1, hx0]
                have hb : (x != 0) = true := by simp [hx0]
                have hb2 : (bits BinOp.and IntKind.u64 s (bits BinOp.and IntKind.u64 x (IntKind.u64.wrap (-x))) != 0) = true := by
                  have : ¬ bits BinOp.and IntKind.u64 s (bits BinOp.and IntKind.u64 x (IntKind.u64.wrap (-x))) = 0 := hb1
                  simp [this]
                clear hb1
                go_wp2
                go_meet
                case rel => exact ⟨by rw [hf]; simp, rfl⟩
          case rest =>
            obtain ⟨rfl, rfl⟩ := hcut
            obtain ⟨p1, hp1⟩ : ∃ l, ((xs.take k).filter (f1 x)).take m = l := ⟨_, rfl⟩
            obtain ⟨p2, hp2⟩ : ∃ l, ((xs.take k).filter (f2 n)).take m = l := ⟨_, rfl⟩
            obtain ⟨p3, hp3⟩ : ∃ l, ((xs.take (k + 1)).filter (f1 x)).take m = l := ⟨_, rfl⟩
            obtain ⟨p4, hp4⟩ : ∃ l, ((xs.take (k + 1)).filter (f2 n)).take m = l := ⟨_, rfl⟩
            rw [hp1, hp2] at HT HL
            rw [hp1, hp2, hp3, hp4, HL.out.1, HL.out.2] at E5
            obtain ⟨b, hb⟩ : ∃ b, (f1 x s && decide (n1 < m)) = b := ⟨_, rfl⟩
            rw [hb]
            go_upto_if 53 with (fail)
            go_cut [7] from 34 to 73 (fun s7 wx => ∃ (B1 : Option Addr) (d1 n3 : Nat), s7 = .slice B1 n3 d1 ∧ n3 ≤ m ∧ Aside0 (p3.length = n3) ∧ Aside0 (Two w4 wx E (.slice B1 n3 d1) (.slice A2 n2 c3) p3 p2))
            case first =>
              cases b with
              | false =>
                have hf : ¬ (f1 x s = true ∧ n1 < m) := fun h => by rw [h.1, decide_eq_true h.2] at hb; cases hb
                have hpe := E5.out.2.2.1
                rw [if_neg hf] at hpe
                go_wp2
                go_meet
                case rel => exact ⟨A1, c1, n1, rfl, h1, ⟨by rw [hpe]; exact HL.out.1⟩, ⟨by rw [hpe]; exact HT.out⟩⟩
              | true =>
                have hf : f1 x s = true ∧ n1 < m := by
                  rw [Bool.and_eq_true] at hb
                  exact ⟨hb.1, of_decide_eq_true hb.2⟩
                have hpe := E5.out.2.2.1
                rw [if_pos hf] at hpe
                have hws := HT.out.but.size
                go_wp2_with ((with_reducible refine gate_builtin (b := .append) (xs := #[.tmp 54, .tmp 56]) rfl ?_); at_builtin; refine Kd.R_append (Kd.int .u64) (w0 := wc) E rfl (.tmp 54) (.tmp 56) 42 22 (.int .u64 0) 8 rfl Tryd.underlying42 info_collu64 rfl (by decide) (by omega) (.slice A1 n1 c1) p1 s [.int .u64 s] (fun i => (i = E ∨ w4.heap.size ≤ i) ∧ some i ≠ (Value.slice A2 n2 c3).ownBlock) (fun _ => False) rfl rfl rfl (fun _ hk => hk.elim) HT.out.fresh1 HT.out.r1 (Below.refl _ _) (by omega) (by have := HL.out.1; omega) ?_; intro v8 w8 ho8 hb8 hg8 hat8)
                have hT8 := HT.out.app1 ho8 hg8 hat8
                obtain ⟨B1, d1, rfl⟩ := Kd.R_slice ho8
                rw [List.length_append, List.length_singleton, HL.out.1] at hT8 ⊢
                go_meet
                case rel => exact ⟨B1, d1, n1 + 1, rfl, by omega, ⟨by rw [hpe, List.length_append, HL.out.1]; rfl⟩, ⟨by rw [hpe]; exact hT8⟩⟩
            case rest =>
              obtain ⟨B1, d1, n3, rfl, h3, HL3, HT3⟩ := hcut
              have hB6 := B4.out.but hEW HT3.out.but
              have hcx := blk_cell hB6.2.1 0
              have hcm := blk_cell hB6.2.2.1 0
              simp at hcx hcm
              clear hB6
              obtain ⟨b2, hb2⟩ : ∃ b, (f2 n s && decide (n2 < m)) = b := ⟨_, rfl⟩
              go_upto_region 12 with (fail)
              go_cut [68] from 34 to 73 (fun s68 wx => s68 = .bool b2 ∧ Aside0 (Two w4 wx E (.slice B1 n3 d1) (.slice A2 n2 c3) p3 p2))
              case first =>
                have hus := E5.out.2.1
                have hcmX : ∀ X, Below wc.heap.size wc X → X.cell? ⟨W.heap.size + 1, 0, none⟩ = some (.int .i64 m) := fun X hX => (hX.cell (World.block_lt_of_cell? wc _ hcm)).trans hcm
                go_wp2_with (fail)
                refine (RList_eq s (pcS s) wc hus (listS_len s)).mono ?_
                rintro e w9 ⟨A9, c9, rfl, hc9, hC9, hb9⟩
                have hcm9 := hcmX w9 hb9
                have hT9 := HT3.out.below hb9
                have T9 := Aside0.mk hT9
                clear hC9 hb9 hT9 hcmX hcm
                by_cases hq : (pcS s : Int) = n
                · have hf : f2 n s = true := decide_eq_true hq
                  have hqb : ((pcS s : Int) == n) = true := beq_iff_eq.2 hq
                  go_wp2
                  go_meet
                  case rel => exact ⟨by rw [← hb2, hf]; simp, T9⟩
                · have hf : f2 n s = false := decide_eq_false hq
                  have hqb : ((pcS s : Int) == n) = false := by simpa using hq
                  go_wp2
                  go_meet
                  case rel => exact ⟨by rw [← hb2, hf]; rfl, T9⟩
              case rest =>
                obtain ⟨rfl, HT4⟩ := hcut
                have hws := HT4.out.but.size
                cases b2 with
                | false =>
                  have hf : ¬ (f2 n s = true ∧ n2 < m) := fun h => by rw [h.1, decide_eq_true h.2] at hb2; cases hb2
                  have hpe := E5.out.2.2.2
                  rw [if_neg hf] at hpe
                  go_wp2
                  go_roundw
                  case rel =>
                    refine ⟨k + 1, n3, n2, B1, A2, d1, c3, rfl, rfl, by go_num, by omega, h3, h2, ⟨by rw [hp3]; exact HL3.out, by rw [hp4, hpe]; exact HL.out.2⟩, ⟨by rw [hp3, hp4, hpe]; exact HT4.out⟩⟩
                  case measure => simp [intOf]; omega
                | true =>
                  have hf : f2 n s = true ∧ n2 < m := by
                    rw [Bool.and_eq_true] at hb2
                    exact ⟨hb2.1, of_decide_eq_true hb2.2⟩
                  have hpe := E5.out.2.2.2
                  rw [if_pos hf] at hpe
                  go_wp2_with ((with_reducible refine gate_builtin (b := .append) (xs := #[.tmp 69, .tmp 71]) rfl ?_); at_builtin; refine Kd.R_append (Kd.int .u64) (w0 := wc) E rfl (.tmp 69) (.tmp 71) 42 22 (.int .u64 0) 8 rfl Tryd.underlying42 info_collu64 rfl (by decide) (by omega) (.slice A2 n2 c3) p2 s [.int .u64 s] (fun i => (i = E + 1 ∨ w4.heap.size ≤ i) ∧ some i ≠ (Value.slice B1 n3 d1).ownBlock) (fun _ => False) rfl rfl rfl (fun _ hk => hk.elim) HT4.out.fresh2 HT4.out.r2 (Below.refl _ _) (by omega) (by have := HL.out.2; omega) ?_; intro v8 w8 ho8 hb8 hg8 hat8)
                  have hT8 := HT4.out.app2 ho8 hg8 hat8
                  obtain ⟨B2, d2, rfl⟩ := Kd.R_slice ho8
                  rw [List.length_append, List.length_singleton, HL.out.2] at hT8
                  rw [List.length_append, List.length_singleton, HL.out.2]
                  go_roundw
                  case rel =>
                    refine ⟨k + 1, n3, n2 + 1, B1, B2, d1, d2, rfl, rfl, by go_num, by omega, h3, by omega, ⟨by rw [hp3]; exact HL3.out, by rw [hp4, hpe, List.length_append, HL.out.2]; rfl⟩, ⟨by rw [hp3, hp4, hpe]; exact hT8⟩⟩
                  case measure => simp [intOf]; omega
        · have g0 : decide ((k : Int) < (xs.length : Int)) = false := decide_eq_false (by omega)
          have hTk : xs.take k = xs := List.take_of_length_le (by omega)
          rw [hTk] at HT HL
          have hB5 := B4.out.but hEW HT.out.but
          have hcx := blk_cell hB5.2.1 0
          have hcm := blk_cell hB5.2.2.1 0
          simp at hcx hcm
          have hl0 : W.heap.size + 1 + 1 < wr.heap.size := lt_of_some hB5.2.2.2
          have hl1 : W.heap.size < wr.heap.size := by omega
          have hl2 : W.heap.size + 1 < wr.heap.size := by omega
          obtain ⟨P1, hP1⟩ : ∃ l, (xs.filter (f1 x)).take m = l := ⟨_, rfl⟩
          obtain ⟨P2, hP2⟩ : ∃ l, (xs.filter (f2 n)).take m = l := ⟨_, rfl⟩
          have hw1 : P1 = (splL x).take m := by
            rw [← hP1]
            congr 1
            rw [← C4.out.2.2]
            by_cases hx0 : x = 0
            · have e1 : splL x = [] := by rw [hx0]; decide
              rw [e1]
              exact List.filter_eq_nil_iff.2 fun s _ => by unfold f1; simp [hx0]
            · rw [← spl_want HX.out hx0]
              congr 1
              funext s
              unfold f1
              simp [hx0]
          have hw2 : P2 = (chL x n).take m := by
            rw [← hP2, ← ch_want n, ← C4.out.2.2]
            rfl
          rw [hP1, hP2] at HT HL
          have hCC1 : ∀ X : World, (∀ i, i < wr.heap.size → X.heap[i]? = wr.heap[i]?) → Kd.C (Kd.int .u64) X A1 n1 P1 ∧ n1 ≤ c1 := fun X hX => C_blocksU (F := 0) HT.out.r1 HL.out.1 hX
          have hCC2 : ∀ X : World, (∀ i, i < wr.heap.size → X.heap[i]? = wr.heap[i]?) → Kd.C (Kd.int .u64) X A2 n2 P2 ∧ n2 ≤ c3 := fun X hX => C_blocksU (F := 0) HT.out.r2 HL.out.2 hX
          have hTr := HU.out.2.1.below hB5.1
          obtain ⟨F, hF⟩ : ∃ F, F = wr.heap.size := ⟨_, rfl⟩
          rw [← hF] at hCC1 hCC2
          have R5 := Aside0.mk (And.intro hCC1 (And.intro hCC2 (And.intro hw1 (And.intro hw2 HL.out))))
          have E5 := Aside0.mk (And.intro hB5 hTr)
          clear hB5 hTr hCC1 hCC2 hw1 hw2 hP1 hP2 HL HT hTk C4 T4 hT4
          go_wp2_with (fail)
          have hb6 : Below wr.heap.size wr ((wr.alloc (.cells #[] 22)).alloc (.cells #[.slice (some ⟨wr.heap.size, 0, none⟩) 0 0] 42)) := below_alloc (below_alloc (Below.refl _ _) _) _
          have q0 : ((wr.alloc (.cells #[] 22)).alloc (.cells #[.slice (some ⟨wr.heap.size, 0, none⟩) 0 0] 42)).heap[wr.heap.size]? = some (.cells #[] 22 (0, 0)) := blk_alloc (blk_new _ _) _
          have q1 : ((wr.alloc (.cells #[] 22)).alloc (.cells #[.slice (some ⟨wr.heap.size, 0, none⟩) 0 0] 42)).heap[wr.heap.size + 1]? = some (.cells #[.slice (some ⟨wr.heap.size, 0, none⟩) 0 0] 42 (0, 0)) := blk_new2 _ _ _
          have q3 : ((wr.alloc (.cells #[] 22)).alloc (.cells #[.slice (some ⟨wr.heap.size, 0, none⟩) 0 0] 42)).heap.size = wr.heap.size + 2 := by simp
          generalize ((wr.alloc (.cells #[] 22)).alloc (.cells #[.slice (some ⟨wr.heap.size, 0, none⟩) 0 0] 42)) = w6 at hb6 q0 q1 q3 ⊢
          refine (Splits_calls x w6).mono ?_
          rintro e w7 ⟨rfl, hw7⟩
          have hb7 : Below w6.heap.size w6 w7 := by rw [hw7]; exact below_alloc (Below.refl _ _) _
          have q4 : w7.heap[w6.heap.size]? = some (.cells #[.int .u64 x] 22 (0, 0)) := by rw [hw7]; exact blk_new _ _
          have q5 : w7.heap.size = w6.heap.size + 1 := by rw [hw7]; simp
          have q0 := blk_belowX q0 hb7
          have q1 := blk_belowX q1 hb7
          have hbw : Below wr.heap.size wr w7 := below_step hb6 hb7
          rw [q3, ← hF] at q4 q5
          rw [q3]
          rw [← hF] at q0 q1 hbw ⊢
          have hB7 : Bxs W w7 x m := ⟨below_step E5.out.1.1 (by rw [← hF]; exact hbw), blk_belowX E5.out.1.2.1 (by rw [← hF]; exact hbw), blk_belowX E5.out.1.2.2.1 (by rw [← hF]; exact hbw), blk_belowX E5.out.1.2.2.2 (by rw [← hF]; exact hbw)⟩
          have hT7 := HU.out.2.1.below hB7.1
          have G := Aside0.mk (And.intro hB7 (And.intro hT7 (And.intro hbw (And.intro q0 (And.intro q1 q4)))))
          have hFW : W.heap.size + 1 + 1 < F := by omega
          clear hb6 hb7 hw7 q0 q1 q3 q4 hB7 hT7 hbw E5 hcx hcm hl0 hl1 hl2
          subst hF
          generalize wr.heap.size = F at *
          go_wp2_with (fail)
          have hI0 : GotG .u64 22 42 w7 w7 (F + 1) F (F + 8) [] := ⟨⟨_, _, G.out.2.2.2.2.1, R_zero2 (Kd.int .u64) G.out.2.2.2.1 (Nat.le_refl _) (.inl rfl)⟩, But.refl _ _⟩
          refine (wpIn_wide (n := 8)).1 (rangeG (d := 3) (T := TU) rfl (by omega) (gf := 61) (lb := #[.pointer (some ⟨F + 2, 0, none⟩)]) rfl trivial (enters_of Tryd.func61 (by kernel_rfl) rfl)
            (Y := SqY x) (n₀ := w7.heap.size) (Kb := fun k => k ≠ F ∧ k ≠ F + 1) (S := fun ys => ys = splL x) (Sp := fun _ => True)
            (Splits1_seq 7 x (F + 2) w7.heap.size _ w7 HX.out
              (fun X hk => by rw [blk_cell ((hk.2 (F + 2) (by omega) (by omega)).trans G.out.2.2.2.2.2) 0]; rfl) (Nat.le_refl _)) (Nat.le_refl _)
            (fun _ _ _ _ hy => by obtain ⟨_, rfl⟩ := hy; rfl)
            (fun pre X => GotG .u64 22 42 w7 X (F + 1) F (F + 8) pre ∧ pre.length < m) (fun cd pre X => cd = .exit 4 ∧ GotG .u64 22 42 w7 X (F + 1) F (F + 8) pre ∧ pre = (splL x).take m)
            (fun _ P Q h hlie => ⟨h.1.lies hlie (Nat.le_refl _), h.2⟩) (fun _ _ P Q h hlie => ⟨h.1, h.2.1.lies hlie (Nat.le_refl _), h.2.2⟩) ⟨hI0, by simp; omega⟩ ?round ?done ?stop)
          case round =>
            rintro lp pre y vs Y hl2 ⟨hI, hlt2⟩ ⟨hpre, rfl⟩ hYs
            have hy := spl_parts HX.out (hpre.subset (List.mem_append.2 (.inr (List.mem_singleton.2 rfl))))
            obtain ⟨y2, hy2⟩ : ∃ y2, bits BinOp.andNot IntKind.u64 x y = y2 := ⟨_, rfl⟩
            rw [hy2] at hy ⊢
            obtain ⟨-, -, z1, z2⟩ := hy
            have HP := Aside0.mk hpre
            clear hpre hy2
            gi_wp2
            refine ⟨Kin.refl _ _ _, Kp.refl _ _ _, Kd0.refl _ _ _, ?_⟩
            intro Wb hlie
            have hI2 := hI.lies hlie (Nat.le_refl _)
            obtain ⟨Ap, cp, i1, i2⟩ := hI2.row
            have i3 := hI2.but.blk G.out.1.2.2.1 (by omega)
            have i4 := hI2.but.blk G.out.1.2.1 (by omega)
            have d0 : Wb.cell? ⟨F + 1, 0, none⟩ = some (.slice Ap pre.length cp) := by rw [blk_cell i1]; rfl
            have d3 : Wb.cell? ⟨W.heap.size + 1, 0, none⟩ = some (.int .i64 m) := by rw [blk_cell i3]; rfl
            have d4 : Wb.cell? ⟨W.heap.size, 0, none⟩ = some (.int .u64 x) := by rw [blk_cell i4]; rfl
            have hWbs : w7.heap.size ≤ Wb.heap.size := hI2.but.size
            have hYW : Y.heap.size ≤ Wb.heap.size := hlie.size
            obtain ⟨pn, hpn⟩ : ∃ n, pre.length = n := ⟨_, rfl⟩
            rw [hpn] at i1 i2 d0 hlt2
            have I := Aside0.mk (And.intro i1 (And.intro i2 (And.intro hI2 (And.intro hpn i3))))
            clear i1 i2 i3 i4 hI2 hI hlie hpn
            gi_wp2_with (gi_at_builtin; refine RIn_append (Kd.int .u64) (w0 := Wb) F rfl (.tmp 90) (.tmp 92) 42 22 (.int .u64 0) 8 rfl Tryd.underlying42 info_collu64 rfl (by decide) (by omega) _ pre y [.int .u64 y] (fun k => k = F ∨ F + 8 ≤ k) (fun _ => False) rfl rfl rfl (fun _ hk => hk.elim) (fun k hk => .inr (by omega)) I.out.2.1 (Below.refl _ _) (by omega) (by rw [I.out.2.2.2.1]; omega) ?_; intro v7 w8 ho7 hb7 hg7 hat7; obtain ⟨A7, c7, e7⟩ := Kd.R_slice ho7; subst e7; rw [List.length_append, List.length_singleton, I.out.2.2.2.1] at ho7; rw [List.length_append, List.length_singleton, I.out.2.2.2.1]; have hx7 := blk_grown I.out.2.1 I.out.1 (by decide) hg7; have hy7 := blk_grown I.out.2.1 I.out.2.2.2.2 (by decide) hg7; have d7 := blk_cell hx7 0; have f7 := blk_frozen hx7 0; have s7 := blk_lt hx7; have d8 := blk_cell hy7 0; simp at d8; have HO7 := Aside0.mk (And.intro ho7 (And.intro hb7 (And.intro hg7 hx7))); clear ho7 hb7 hg7 hat7 hx7 hy7)
            all_goals
              rename_i hcm
              have r3 : Wb.grownBy w8 (Value.slice Ap pn cp).ownBlock := HO7.out.2.2.1
              obtain ⟨s1, s2, s3, s4⟩ := GotG.step (s := Y.heap.size) (d := 3) I.out.2.2.1 I.out.2.2.2.1 I.out.1 I.out.2.1 HO7.out.1 r3 HO7.out.2.2.2 (by decide) (by decide) (by omega) (by omega) (by omega) (by omega) (by omega)
              have j4 := I.out.2.2.2.1
              have hpl := HP.out.length_le
              rw [List.length_append, List.length_singleton, j4] at hpl
              first
                | (refine ⟨s3, rfl, s1, ?_⟩
                   have e := beq_iff_eq.1 hcm
                   rw [List.prefix_iff_eq_take.1 HP.out, List.length_append, List.length_singleton, j4]
                   congr 1; omega)
                | (refine ⟨s3, s4, s2, s1, ?_⟩
                   have e : ¬ ((pn : Int) + 1 = (m : Int)) := fun h => by rw [h] at hcm; simp at hcm
                   rw [List.length_append, List.length_singleton, j4]; omega)
          case' done =>
            rintro D ys X hD hys ⟨hI, hlt2⟩ hKd
            rw [hys] at hlt2 hI
            have hys2 : splL x = (splL x).take m := (List.take_of_length_le (by omega)).symm
            have hI : GotG .u64 22 42 w7 X (F + 1) F (F + 8) ((splL x).take m) := by rw [← hys2]; exact hI
            clear hlt2 hys hys2
          case' stop =>
            rintro D cd ys X hD - ⟨rfl, hI, rfl⟩ hKd
            refine wpIn_wide.2 ?_
          all_goals
            have hB9 : Bxs W X x m := G.out.1.but (E := F) (by omega) hI.but
            have hcx := blk_cell hB9.2.1 0
            simp at hcx
            have hl1 : W.heap.size < X.heap.size := lt_of_some hB9.2.1
            have hw7X : w7.heap.size ≤ X.heap.size := hI.but.size
            have hblX : ∀ i, i < F → X.heap[i]? = wr.heap[i]? := fun i hi => (hI.but.block i (by omega) (by omega)).trans (G.out.2.2.1.block i hi)
            obtain ⟨Ag, cg, i1, i2⟩ := hI.row
            obtain ⟨j, hj⟩ : ∃ j, ((splL x).take m).length = j := ⟨_, rfl⟩
            rw [hj] at i1 i2
            have hCg : ∀ Z : World, (∀ i, i < X.heap.size → Z.heap[i]? = X.heap[i]?) → Kd.C (Kd.int .u64) Z Ag j ((splL x).take m) ∧ j ≤ cg := fun Z hZ => C_blocksU (F := 0) i2 hj hZ
            have hTX := HU.out.2.1.below hB9.1
            have hDM : D < X.heap.size := lt_of_some hKd
            have Z5 := Aside0.mk (And.intro hB9 (And.intro hTX (And.intro hblX (And.intro hCg (And.intro i1 (And.intro hj hKd))))))
            clear hB9 hTX hblX hCg i1 i2 hj hKd hI
            go_wp2_with (fail)
            have hb6 : Below X.heap.size X ((X.alloc (.cells #[] 22)).alloc (.cells #[.slice (some ⟨X.heap.size, 0, none⟩) 0 0] 42)) := below_alloc (below_alloc (Below.refl _ _) _) _
            have q0 : ((X.alloc (.cells #[] 22)).alloc (.cells #[.slice (some ⟨X.heap.size, 0, none⟩) 0 0] 42)).heap[X.heap.size]? = some (.cells #[] 22 (0, 0)) := blk_alloc (blk_new _ _) _
            have q1 : ((X.alloc (.cells #[] 22)).alloc (.cells #[.slice (some ⟨X.heap.size, 0, none⟩) 0 0] 42)).heap[X.heap.size + 1]? = some (.cells #[.slice (some ⟨X.heap.size, 0, none⟩) 0 0] 42 (0, 0)) := blk_new2 _ _ _
            have q3 : ((X.alloc (.cells #[] 22)).alloc (.cells #[.slice (some ⟨X.heap.size, 0, none⟩) 0 0] 42)).heap.size = X.heap.size + 2 := by simp
            generalize ((X.alloc (.cells #[] 22)).alloc (.cells #[.slice (some ⟨X.heap.size, 0, none⟩) 0 0] 42)) = w6 at hb6 q0 q1 q3 ⊢
            refine (Choose_calls x n w6).mono ?_
            rintro e w8 ⟨rfl, hw8⟩
            have hb8 : Below w6.heap.size w6 w8 := by rw [hw8]; exact below_alloc (below_alloc (Below.refl _ _) _) _
            have q4 : w8.heap[w6.heap.size]? = some (.cells #[.int .u64 x] 22 (0, 0)) := by rw [hw8]; exact blk_alloc (blk_new _ _) _
            have q6 : w8.heap[w6.heap.size + 1]? = some (.cells #[.int .i64 n] 3 (0, 0)) := by rw [hw8]; exact blk_new2 _ _ _
            have q5 : w8.heap.size = w6.heap.size + 2 := by rw [hw8]; simp
            have q0 := blk_belowX q0 hb8
            have q1 := blk_belowX q1 hb8
            have hbx : Below X.heap.size X w8 := below_step hb6 hb8
            rw [q3] at q4 q5 q6 ⊢
            have hB8 : Bxs W w8 x m := ⟨below_step Z5.out.1.1 hbx, blk_belowX Z5.out.1.2.1 hbx, blk_belowX Z5.out.1.2.2.1 hbx, blk_belowX Z5.out.1.2.2.2 hbx⟩
            have hT8 := HU.out.2.1.below hB8.1
            have H := Aside0.mk (And.intro hB8 (And.intro hT8 (And.intro hbx (And.intro q0 (And.intro q1 (And.intro q4 q6))))))
            clear hb6 hb8 hw8 q0 q1 q3 q4 q6 hB8 hT8 hbx hcx hl1
            generalize X.heap.size = M at *
            go_wp2_with (fail)
            have hJ0 : GotG .u64 22 42 w8 w8 (M + 1) M (M + 6) [] := ⟨⟨_, _, H.out.2.2.2.2.1, R_zero2 (Kd.int .u64) H.out.2.2.2.1 (Nat.le_refl _) (.inl rfl)⟩, But.refl _ _⟩
            refine (wpIn_wide (n := 8)).1 (rangeG (d := 0) (T := TU) rfl (by omega) (gf := 62) (lb := #[.pointer (some ⟨M + 2, 0, none⟩), .pointer (some ⟨M + 2 + 1, 0, none⟩)]) rfl trivial (enters_of Tryd.func62 (by kernel_rfl) rfl)
              (Y := SuY (chL x n)) (n₀ := w8.heap.size) (Kb := fun k => k ≠ M ∧ k ≠ M + 1) (S := fun ys => ys = chL x n) (Sp := fun _ => True)
              (Choose1_seq 7 x n (M + 2) (M + 2 + 1) w8.heap.size _ w8 HX.out (by have := HU.out.2.2; omega)
                (fun Z hk => by rw [blk_cell ((hk.2 (M + 2) (by omega) (by omega)).trans H.out.2.2.2.2.2.1) 0]; rfl)
                (fun Z hk => by rw [blk_cell ((hk.2 (M + 2 + 1) (by omega) (by omega)).trans H.out.2.2.2.2.2.2) 0]; rfl)
                (fun Z hk => H.out.2.1.tab.same (hk.2 _ H.out.2.1.tab.pos (by have := HU.out.2.1.tab.pos; omega))) (Nat.le_refl _)) (Nat.le_refl _)
              (fun _ _ _ _ hy => by obtain ⟨_, rfl⟩ := hy; rfl)
              (fun pre Z => GotG .u64 22 42 w8 Z (M + 1) M (M + 6) pre ∧ pre.length < m) (fun cd pre Z => cd = .exit 6 ∧ GotG .u64 22 42 w8 Z (M + 1) M (M + 6) pre ∧ pre = (chL x n).take m)
              (fun _ P Q h hlie => ⟨h.1.lies hlie (Nat.le_refl _), h.2⟩) (fun _ _ P Q h hlie => ⟨h.1, h.2.1.lies hlie (Nat.le_refl _), h.2.2⟩) ⟨hJ0, by simp; omega⟩ ?_ ?_ ?_)
            · rintro lp pre y vs Y hl2 ⟨hI, hlt2⟩ ⟨hpre, rfl⟩ hYs
              have HP := Aside0.mk hpre
              clear hpre
              gi_wp2
              refine ⟨Kin.refl _ _ _, Kp.refl _ _ _, Kd0.refl _ _ _, ?_⟩
              intro Wb hlie
              have hI2 := hI.lies hlie (Nat.le_refl _)
              obtain ⟨Ap, cp, i1, i2⟩ := hI2.row
              have i3 := hI2.but.blk H.out.1.2.2.1 (by omega)
              have d0 : Wb.cell? ⟨M + 1, 0, none⟩ = some (.slice Ap pre.length cp) := by rw [blk_cell i1]; rfl
              have d3 : Wb.cell? ⟨W.heap.size + 1, 0, none⟩ = some (.int .i64 m) := by rw [blk_cell i3]; rfl
              have hWbs : w8.heap.size ≤ Wb.heap.size := hI2.but.size
              have hYW : Y.heap.size ≤ Wb.heap.size := hlie.size
              obtain ⟨pn, hpn⟩ : ∃ n, pre.length = n := ⟨_, rfl⟩
              rw [hpn] at i1 i2 d0 hlt2
              have I := Aside0.mk (And.intro i1 (And.intro i2 (And.intro hI2 (And.intro hpn i3))))
              clear i1 i2 i3 hI2 hI hlie hpn
              gi_wp2_with (gi_at_builtin; refine RIn_append (Kd.int .u64) (w0 := Wb) M rfl (.tmp 103) (.tmp 105) 42 22 (.int .u64 0) 8 rfl Tryd.underlying42 info_collu64 rfl (by decide) (by omega) _ pre y [.int .u64 y] (fun k => k = M ∨ M + 6 ≤ k) (fun _ => False) rfl rfl rfl (fun _ hk => hk.elim) (fun k hk => .inr (by omega)) I.out.2.1 (Below.refl _ _) (by omega) (by rw [I.out.2.2.2.1]; omega) ?_; intro v7 w9 ho7 hb7 hg7 hat7; obtain ⟨A7, c7, e7⟩ := Kd.R_slice ho7; subst e7; rw [List.length_append, List.length_singleton, I.out.2.2.2.1] at ho7; rw [List.length_append, List.length_singleton, I.out.2.2.2.1]; have hx7 := blk_grown I.out.2.1 I.out.1 (by decide) hg7; have hy7 := blk_grown I.out.2.1 I.out.2.2.2.2 (by decide) hg7; have d7 := blk_cell hx7 0; have f7 := blk_frozen hx7 0; have s7 := blk_lt hx7; have d8 := blk_cell hy7 0; simp at d8; have HO7 := Aside0.mk (And.intro ho7 (And.intro hb7 (And.intro hg7 hx7))); clear ho7 hb7 hg7 hat7 hx7 hy7)
              all_goals
                rename_i hcm
                have r3 : Wb.grownBy w9 (Value.slice Ap pn cp).ownBlock := HO7.out.2.2.1
                obtain ⟨s1, s2, s3, s4⟩ := GotG.step (s := Y.heap.size) (d := 0) I.out.2.2.1 I.out.2.2.2.1 I.out.1 I.out.2.1 HO7.out.1 r3 HO7.out.2.2.2 (by decide) (by decide) (by omega) (by omega) (by omega) (by omega) (by omega)
                have j4 := I.out.2.2.2.1
                have hpl := HP.out.length_le
                rw [List.length_append, List.length_singleton, j4] at hpl
                first
                  | (refine ⟨s3, rfl, s1, ?_⟩
                     have e := beq_iff_eq.1 hcm
                     rw [List.prefix_iff_eq_take.1 HP.out, List.length_append, List.length_singleton, j4]
                     congr 1; omega)
                  | (refine ⟨s3, s4, s2, s1, ?_⟩
                     have e : ¬ ((pn : Int) + 1 = (m : Int)) := fun h => by rw [h] at hcm; simp at hcm
                     rw [List.length_append, List.length_singleton, j4]; omega)
            all_goals
              first
                | (rintro D2 ys Z hD2 hys ⟨hI, hlt2⟩ hKd2
                   rw [hys] at hlt2 hI
                   have hys2 : chL x n = (chL x n).take m := (List.take_of_length_le (by omega)).symm
                   have hI : GotG .u64 22 42 w8 Z (M + 1) M (M + 6) ((chL x n).take m) := by rw [← hys2]; exact hI
                   clear hlt2 hys hys2)
                | (rintro D2 cd2 ys Z hD2 - ⟨rfl, hI, rfl⟩ hKd2
                   refine wpIn_wide.2 ?_)
              have hB9 : Bxs W Z x m := H.out.1.but (E := M) (by omega) hI.but
              have hMF : F + 1 < M := by omega
              have hbl : ∀ i, i < M → Z.heap[i]? = X.heap[i]? := fun i hi => (hI.but.block i (by omega) (by omega)).trans (H.out.2.2.1.block i hi)
              have hg := (hbl (F + 1) hMF).trans Z5.out.2.2.2.2.1
              obtain ⟨Aq, cq, i1, i2⟩ := hI.row
              obtain ⟨jq, hjq⟩ : ∃ j, ((chL x n).take m).length = j := ⟨_, rfl⟩
              rw [hjq] at i1 i2
              have hCq : ∀ V : World, (∀ i, i < Z.heap.size → V.heap[i]? = Z.heap[i]?) → Kd.C (Kd.int .u64) V Aq jq ((chL x n).take m) ∧ jq ≤ cq := fun V hV => C_blocksU (F := 0) i2 hjq hV
              have hCgZ := Z5.out.2.2.2.1 Z hbl
              have hC1 := R5.out.1 Z (fun i hi => (hbl i (by omega)).trans (Z5.out.2.2.1 i hi))
              have hC2 := R5.out.2.1 Z (fun i hi => (hbl i (by omega)).trans (Z5.out.2.2.1 i hi))
              have hDD := (hbl D hDM).trans Z5.out.2.2.2.2.2.2
              have d0 : Z.cell? ⟨F + 1, 0, none⟩ = some (.slice Ag j cg) := by rw [blk_cell hg]; rfl
              have hjm : j ≤ 600000 := by have := Z5.out.2.2.2.2.2.1; rw [List.length_take] at this; omega
              have hjqm : jq ≤ 600000 := by rw [List.length_take] at hjq; omega
              have V5 := Aside0.mk (And.intro hB9 (And.intro i1 (And.intro hCq (And.intro hCgZ (And.intro hC1 (And.intro hC2 (And.intro hDD (And.intro hKd2 hjq))))))))
              clear hB9 hbl hg i1 i2 hCq hCgZ hC1 hC2 hDD hKd2 hjq hI
              go_wp2_with (fail)
              refine (SameSets_eq _ _ j n1 _ _ _ _ _ R5.out.2.2.1.symm Z5.out.2.2.2.2.2.1 R5.out.2.2.2.2.1 V5.out.2.2.2.1.1 V5.out.2.2.2.1.2 V5.out.2.2.2.2.1.1 V5.out.2.2.2.2.1.2 hjm).mono ?_
              rintro e z1 ⟨rfl, hbz⟩
              have d1 : z1.cell? ⟨M + 1, 0, none⟩ = some (.slice Aq jq cq) := by rw [blk_cell (blk_belowX V5.out.2.1 hbz)]; rfl
              have F5 := Aside0.mk hbz
              clear hbz
              go_wp2_with (fail)
              refine (SameSets_eq _ _ jq n2 _ _ _ _ _ R5.out.2.2.2.1.symm V5.out.2.2.2.2.2.2.2.2 R5.out.2.2.2.2.2 (V5.out.2.2.1 z1 F5.out.block).1 (V5.out.2.2.1 z1 F5.out.block).2 (Kd.C_below V5.out.2.2.2.2.2.1.1 F5.out) V5.out.2.2.2.2.2.1.2 hjqm).mono ?_
              rintro e z2 ⟨rfl, hbz⟩
              have F6 := Aside0.mk (below_step F5.out hbz)
              clear hbz
              have hr2 := blk_belowX V5.out.1.2.2.2 F6.out
              have dr := blk_cell hr2 0
              have fr := blk_frozen hr2 0
              simp at dr
              have F7 := Aside0.mk hr2
              clear hr2
              go_wp2
              have hzs : (z2.setCell ⟨W.heap.size + 1 + 1, 0, none⟩ (.bool true)).heap[D2]? = some (.deferred (some [])) := (Below.heap_setCell z2 ⟨W.heap.size + 1 + 1, 0, none⟩ _ D2 (by show D2 ≠ W.heap.size + 1 + 1; omega)).trans ((F6.out.block D2 (lt_of_some V5.out.2.2.2.2.2.2.2.1)).trans V5.out.2.2.2.2.2.2.2.1)
              have hzd : (z2.setCell ⟨W.heap.size + 1 + 1, 0, none⟩ (.bool true)).heap[D]? = some (.deferred (some [])) := (Below.heap_setCell z2 ⟨W.heap.size + 1 + 1, 0, none⟩ _ D (by show D ≠ W.heap.size + 1 + 1; omega)).trans ((F6.out.block D (lt_of_some V5.out.2.2.2.2.2.2.1)).trans V5.out.2.2.2.2.2.2.1)
              have hbf : Below W.heap.size W (z2.setCell ⟨W.heap.size + 1 + 1, 0, none⟩ (.bool true)) := below_set (below_step V5.out.1.1 F6.out) (by show W.heap.size ≤ W.heap.size + 1 + 1; omega)
              have hrf := blk_put F7.out 0 (.bool true) rfl
              have hne : D ≠ D2 := by omega
              have hzd2 : ((z2.setCell ⟨W.heap.size + 1 + 1, 0, none⟩ (.bool true)).putObj D2 (.deferred none)).heap[D]? = some (.deferred (some [])) := (World.putObj_heap_other hne).trans hzd
              have hl1 : Lies W.heap.size _ ((z2.setCell ⟨W.heap.size + 1 + 1, 0, none⟩ (.bool true)).putObj D2 (.deferred none)) := .put (by omega) hzs rfl _
              have hl2 : Lies W.heap.size _ (((z2.setCell ⟨W.heap.size + 1 + 1, 0, none⟩ (.bool true)).putObj D2 (.deferred none)).putObj D (.deferred none)) := .put (by omega) hzd2 rfl _
              have hl := hl1.trans hl2
              refine ⟨by simp, .inl ⟨_, _, rfl, run_takeDeferred hzs, ?_⟩⟩
              refine ⟨by simp, .inl ⟨_, _, rfl, run_takeDeferred hzd2, ?_⟩⟩
              refine ⟨_, results_b rfl _ _ (W.heap.size + 1 + 1) true rfl ?_, rfl, hl.below hbf (Nat.le_refl _) (Nat.le_refl _)⟩
              rw [blk_cell (hl.blk hrf)]; rfl
end Go.Proofs.YtmcapemlfplcgaaDoor.MSetSplits
