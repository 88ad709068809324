/- The document's scanning: ref06.Scan. -/
import Derived.Test.YtagjnjdaookdgaaFrRead
namespace Go.Proofs.Ytagjnjdaookdgaa.H
open Go.RowKit Go.Proofs.YtagjnjdaookdgaaW.PrintWords Go.Proofs.YtagjnjdaookdgaaW.PrintLast Go.Proofs.YtagjnjdaookdgaaW.PrintMore Go.Proofs.Ytagjnjdaookdgaa.CrcM
set_option linter.unusedVariables false
set_option linter.unusedSimpArgs false

/-- A frame of the document's as its cells have it: where, kind, the slice. -/
abbrev Raw := Int × Int × Option Addr × Nat × Nat
def rawCells (x : Raw) : List Value := [.int .i64 x.1, .int .i64 x.2.1, .slice x.2.2.1 x.2.2.2.1 x.2.2.2.2]
def KRaw : Kd Raw where
  sz := 3
  E := []
  K := fun _ x cs => cs = rawCells x
  M := fun _ _ _ x cs => cs = rawCells x
  K_len := fun h => by rw [h]; rfl
  K_one := fun h u hu => by
    rw [h] at hu
    simp [rawCells] at hu
    rcases hu with rfl | rfl | rfl <;> rfl
  K_below := fun _ h => h
  K_of_M := fun h => h
  M_mono := fun _ h => h
  M_bound := fun h => h
  M_move := fun _ h => h
  M_lower := fun _ h => h
def RawOf (W : World) (o : Raw) (x : Fr) : Prop := o.1 = x.1 ∧ o.2.1 = x.2.1 ∧ o.2.2.2.1 = x.2.2.length ∧ x.2.2.length ≤ o.2.2.2.2 ∧ Kd.C (Kd.int .u8) W o.2.2.1 x.2.2.length x.2.2 ∧ Ty 5 W o.2.2.1
def RawsOf (W : World) (os : List Raw) (xs : List Fr) : Prop := os.length = xs.length ∧ ∀ (i : Nat) (o : Raw) (x : Fr), os[i]? = some o → xs[i]? = some x → RawOf W o x
theorem RawOf.below {W W' : World} {o : Raw} {x : Fr} (h : RawOf W o x) (hb : Below W.heap.size W W') : RawOf W' o x := ⟨h.1, h.2.1, h.2.2.1, h.2.2.2.1, Kd.C_below h.2.2.2.2.1 hb, h.2.2.2.2.2.below hb⟩
theorem RawOf.of_ty {W W' : World} {o : Raw} {x : Fr} (hr : RawOf W o x) (h : ∀ (i : Nat) (cs : Array Value) (z : Nat × Nat), W.heap[i]? = some (Obj.cells cs 5 z) → W'.heap[i]? = W.heap[i]?) : RawOf W' o x := ⟨hr.1, hr.2.1, hr.2.2.1, hr.2.2.2.1, C_ty hr.2.2.2.2.2 hr.2.2.2.2.1 h, hr.2.2.2.2.2.of_ty h⟩
theorem RawsOf.below {W W' : World} {os : List Raw} {xs : List Fr} (h : RawsOf W os xs) (hb : Below W.heap.size W W') : RawsOf W' os xs := ⟨h.1, fun i o x ho hx => (h.2 i o x ho hx).below hb⟩
theorem RawsOf.of_ty {W W' : World} {os : List Raw} {xs : List Fr} (hr : RawsOf W os xs) (h : ∀ (i : Nat) (cs : Array Value) (z : Nat × Nat), W.heap[i]? = some (Obj.cells cs 5 z) → W'.heap[i]? = W.heap[i]?) : RawsOf W' os xs := ⟨hr.1, fun i o x ho hx => (hr.2 i o x ho hx).of_ty h⟩
theorem RawsOf.snoc {W : World} {os : List Raw} {xs : List Fr} {o : Raw} {x : Fr} (h : RawsOf W os xs) (h1 : RawOf W o x) : RawsOf W (os ++ [o]) (xs ++ [x]) := by
  refine ⟨by simp [h.1], fun i o' x' ho hx => ?_⟩
  by_cases hi : i < os.length
  · rw [List.getElem?_append_left hi] at ho
    rw [List.getElem?_append_left (by rw [← h.1]; exact hi)] at hx
    exact h.2 i o' x' ho hx
  · have hl := (List.getElem?_eq_some_iff.1 ho).1
    rw [List.length_append] at hl
    have e : i = os.length := by simp at hl; omega
    subst e
    rw [List.getElem?_append_right (Nat.le_refl _), Nat.sub_self] at ho
    rw [h.1, List.getElem?_append_right (Nat.le_refl _), Nat.sub_self] at hx
    simp at ho hx
    subst ho; subst hx
    exact h1
theorem info_rfr : (Try.prog.info? 37).map (fun i => (i.zero, i.size, i.bytes)) = some (some (.agg #[.int .i64 0, .int .i64 0, .slice none 0 0]), 3, 40) := by kernel_rfl

theorem tyGrown {W W' : World} {base : Nat} {ok : Nat → Prop} {v : Value} {os : List Raw} (h : Kd.R KRaw 37 W base ok v os) (hg : W.grownBy W' v.ownBlock) :
    ∀ (i : Nat) (cs : Array Value) (z : Nat × Nat), W.heap[i]? = some (Obj.cells cs 5 z) → W'.heap[i]? = W.heap[i]? := fun i cs z hc => by
  refine hg.block i (Array.getElem?_eq_some_iff.1 hc).1 (fun e => ?_)
  obtain ⟨inner, ho⟩ := Kd.R_own h
  obtain ⟨cells, hk⟩ := own_typed ho i e.symm
  rw [hc] at hk
  injection hk with hk
  injection hk with _ hk _
  exact absurd hk (by decide)
set_option maxHeartbeats 1600000 in
theorem RScan_calls (A0 : Option Addr) (c0 : Nat) (b : List Int) (w : World) (hr0 : Kd.C (Kd.int .u8) w A0 b.length b) (hc0 : b.length ≤ c0) (hB : Bts b) (hl : b.length ≤ 1000000) :
    Calls Try.prog 16 #[.slice A0 b.length c0] w fun e w' => ∃ A1 c1 os, e = .returned (.tuple #[.slice A1 os.length c1, .int .i64 (endF b), .int .i64 (endErr b)]) ∧ os.length ≤ c1 ∧ Kd.C KRaw w' A1 os.length os ∧ Ty 37 w' A1 ∧ RawsOf w' os (scanF b) ∧ Below w.heap.size w w' := by
  have HR0 := Aside0.mk hr0
  have HBT := Aside0.mk hB
  clear hr0 hB
  go_enter Try.func16, Try.ntmps16
  go_wp2_with (first
    | ((with_reducible refine gate_dst (N := 10) rfl ?_); refine Kd.R_lit KRaw (w0 := w) w.heap.size 37 ?hg (N := 10) ?hd (xs := ([] : List Raw)) (inner := []) (ok := fun _ => True) (okp := fun _ => True) ?hr ?hp (fun _ hk => hk) trivial (Below.refl _ _) (Nat.le_refl _) (by simp) ?_; (case hd => rfl); (case hg => rfl); (case hr => first | (go_simp; done) | (go_simp; rfl)); (case hp => exact Reps.none _ _); intro v5 w5 ho5 hb5 hg5 hn5; have HO5 := Aside0.mk ho5; have HB5 := Aside0.mk hb5; clear ho5 hb5 hg5 hn5))
  go_loopw [5, 6] (fun v a wr => ∃ (os : List Raw) (pre : List Fr) (at_ k : Nat), a = .int .i64 at_ ∧ at_ ≤ b.length ∧ b.length + 1 ≤ k + at_ ∧ Aside0 (scanF b = pre ++ scanL b k at_ ∧ endF b = endL b k at_) ∧ Aside0 (Kd.R KRaw 37 wr w.heap.size (fun _ => True) v os) ∧ Aside0 (RawsOf wr os pre ∧ os.length * 7 ≤ at_) ∧ Aside0 (Below w.heap.size w wr)) (fun _ a _ => b.length + 1 - (intOf a).toNat)
  case atStart => exact ⟨[], [], 0, b.length + 1, rfl, by omega, by omega, ⟨rfl, rfl⟩, HO5, ⟨⟨rfl, fun i o x ho => by simp at ho⟩, by simp⟩, HB5⟩
  case round =>
    obtain ⟨os, pre, at_, k, rfl, h1, h2, HS, HO, HP, HB⟩ := hrel
    have t0 : (at_ : Int) ≤ 1000000 := by omega
    have t1 : 0 ≤ (at_ : Int) := by omega
    obtain ⟨k', rfl⟩ : ∃ k', k = k' + 1 := ⟨k - 1, by omega⟩
    by_cases hlt : at_ < b.length
    · have b1 : decide (at_ < b.length) = true := decide_eq_true hlt
      have b2 : decide ((at_ : Int) < (b.length : Int)) = true := decide_eq_true (by omega)
      have hrd := fun w h => RRead_calls A0 c0 b at_ w h hc0 HBT.out hl h1
      have hok := readF_ok (bts_drop HBT.out at_)
      have hs1 : scanL b (k' + 1) at_ = if (readF (b.drop at_)).2.2.2 = 0 then ((at_ : Int), (readF (b.drop at_)).1, (readF (b.drop at_)).2.1) :: scanL b k' (at_ + (readF (b.drop at_)).2.2.1.toNat) else [] := rfl
      have hs2 : endL b (k' + 1) at_ = if (readF (b.drop at_)).2.2.2 = 0 then endL b k' (at_ + (readF (b.drop at_)).2.2.1.toNat) else at_ := rfl
      have hee : endErr b = if endF b = b.length then 0 else (readF (b.drop (endF b))).2.2.2 := rfl
      have hee2 : endF b = at_ → endErr b = (readF (b.drop at_)).2.2.2 := fun e => by rw [hee, if_neg (by omega), e]
      rw [List.length_drop] at hok
      generalize readF (b.drop at_) = r at hrd hok hs1 hs2 hee2
      unfold RPost at hrd
      obtain ⟨rk, rb, rn, re⟩ := r
      simp only at hrd hok hs1 hs2 hee2
      have HRD := Aside0.mk hrd
      have HSS := Aside0.mk (And.intro hs1 (And.intro hs2 hee2))
      clear hrd hs1 hs2 hee hee2
      by_cases he : re = 0
      · obtain ⟨q1, q2, q3, q4, q5, q6⟩ := hok he
        subst he
        have hr0 : 7 ≤ rn := by omega
        have hr1 : rn ≤ 1000000 := by omega
        have HQ1 := Lib.hid q1
        clear q1 hok
        go_wp2_with (first
          | (go_at_call 15; refine (HRD.out _ (Kd.C_below HR0.out HB.out)).mono ?_; rintro e w1 ⟨A1, c1, rfl, hc1, hr1', hty1, hb1⟩; have HR1 := Aside0.mk (And.intro hr1' hty1); have HB1 := Aside0.mk hb1; clear hr1' hty1 hb1)
          | ((with_reducible refine gate_builtin (b := .append) (xs := #[.tmp 27, .tmp 29]) rfl ?_); at_builtin; have hbx := below_alloc (Below.refl _ w1) (.cells #[.int .i64 at_, .int .i64 rk, .slice A1 rb.length c1] 37); have HOX := Aside0.mk (Kd.R_below (Kd.R_below HO.out HB1.out) hbx); refine Kd.R_append KRaw (w0 := w) w.heap.size rfl (.tmp 27) (.tmp 29) 40 37 (.agg #[.int .i64 0, .int .i64 0, .slice none 0 0]) 40 rfl Try.underlying40 info_rfr rfl (by decide) (by decide) u5 os ((at_ : Int), rk, A1, rb.length, c1) [.int .i64 at_, .int .i64 rk, .slice A1 rb.length c1] (fun _ => True) (fun _ => False) rfl (by rw [World.size_alloc]; rfl) rfl (fun _ h => h.elim) (fun _ _ => trivial) HOX.out (below_step (below_step HB.out HB1.out) hbx) (below_step (below_step HB.out HB1.out) hbx).size ?aL ?_; (case aL => have := HP.out.2; omega); intro v7 w7 ho7 hb7 hg7 hat7; have hq7 := tyGrown HOX.out hg7; have HO7 := Aside0.mk ho7; have HB7 := Aside0.mk hb7; have HP7 := Aside0.mk (RawsOf.snoc (x := ((at_ : Int), rk, rb)) (((HP.out.1.below HB1.out).below hbx).of_ty hq7) (RawOf.of_ty (o := ((at_ : Int), rk, A1, rb.length, c1)) ⟨rfl, rfl, rfl, hc1, Kd.C_below HR1.out.1 hbx, HR1.out.2.below hbx⟩ hq7)); clear ho7 hb7 hg7 hat7 hq7 hbx))
        have e1 := HSS.out.1
        have e2 := HSS.out.2.1
        rw [if_pos trivial] at e1 e2
        refine ⟨⟨os ++ [((at_ : Int), rk, A1, rb.length, c1)], pre ++ [((at_ : Int), rk, rb)], at_ + rn.toNat, k', by rw [show ((at_ + rn.toNat : Nat) : Int) = at_ + rn by omega], by have := HQ1.out; omega, by omega, ⟨?_, ?_⟩, HO7, ⟨HP7.out, ?_⟩, HB7⟩, ?_⟩
        · rw [HS.out.1, e1, List.append_assoc]; rfl
        · rw [HS.out.2, e2]
        · have := HP.out.2; rw [List.length_append, List.length_singleton]; omega
        · simp [intOf]; omega
      · have b3 : (re == 0) = false := by rw [beq_eq_false_iff_ne]; exact he
        have b4 : decide (re = 0) = false := decide_eq_false he
        have e1 := HSS.out.1
        have e2 := HSS.out.2.1
        rw [if_neg he] at e1 e2
        have e3 := HSS.out.2.2 (by rw [HS.out.2, e2])
        have HE := Aside0.mk (And.intro e1 (And.intro e2 e3))
        clear hok HSS e1 e2 e3
        go_wp2_with (first
          | (go_at_call 15; refine (HRD.out _ (Kd.C_below HR0.out HB.out)).mono ?_; rintro e w1 ⟨A1, c1, rfl, hc1, hr1', hty1, hb1⟩; have HB1 := Aside0.mk hb1; clear hr1' hty1 hb1))
        have hbx := below_step HB1.out (below_alloc (Below.refl _ w1) (.cells #[.int .i64 0, .int .i64 rk, .slice A1 rb.length c1] 37))
        obtain ⟨A2, c2, eu, hc2, hr2⟩ := R_C (Kd.R_below HO.out hbx)
        subst eu
        have hty := Ty.of_R (Kd.R_below HO.out hbx)
        refine bodyPost_ret (results_list (rs := [.tmp 2, .tmp 3, .tmp 4]) rfl (by simp) (.tmp (.tmp (.tmp .nil)))) rfl ?_
        exact ⟨A2, c2, os, by rw [HS.out.2, HE.out.2.1, HE.out.2.2]; rfl, hc2, hr2, hty, by rw [HS.out.1, HE.out.1, List.append_nil]; exact HP.out.1.below hbx, below_step HB.out hbx⟩
    · obtain rfl : at_ = b.length := by omega
      have e0 : b.drop b.length = [] := List.drop_length
      have e1 : scanL b (k' + 1) b.length = [] := by unfold scanL; rw [e0, readF_nil]; rfl
      have e2 : endL b (k' + 1) b.length = b.length := by unfold endL; rw [e0, readF_nil]; rfl
      have e3 : endErr b = 0 := by unfold endErr; rw [HS.out.2, e2, if_pos rfl]
      have HE := Aside0.mk (And.intro e1 (And.intro e2 e3))
      clear e0 e1 e2 e3 hlt
      go_wp2
      obtain ⟨A2, c2, eu, hc2, hr2⟩ := R_C HO.out
      subst eu
      have hty := Ty.of_R HO.out
      refine bodyPost_ret (results_list (rs := [.tmp 2, .tmp 3, .tmp 4]) rfl (by simp) (.tmp (.tmp (.tmp .nil)))) rfl ?_
      exact ⟨A2, c2, os, by rw [HS.out.2, HE.out.2.1, HE.out.2.2]; rfl, hc2, hr2, hty, by rw [HS.out.1, HE.out.1, List.append_nil]; exact HP.out.1, HB.out⟩
theorem KRaw_ty {W W' : World} {t : TypeId} {A : Option Addr} {n : Nat} {xs : List Raw} (hT : Ty t W A) (hc : Kd.C KRaw W A n xs) (h : ∀ (i : Nat) (cs : Array Value) (z : Nat × Nat), W.heap[i]? = some (Obj.cells cs t z) → W'.heap[i]? = W.heap[i]?) : Kd.C KRaw W' A n xs :=
  ⟨hc.1, hc.2.1, fun hn => by
    obtain ⟨ad, e, hr⟩ := hc.2.2 hn
    obtain ⟨cs, z, hb⟩ := hT ad e
    refine ⟨ad, e, fun j p hj => ?_⟩
    obtain ⟨c, hs, hR, hcell⟩ := hr j p hj
    refine ⟨c, hs, hR, fun i u hu => ?_⟩
    have h1 := hcell i u hu
    have hblk : (ad.add (j * KRaw.sz + i)).block = ad.block := by unfold Addr.add; split <;> rfl
    exact (World.cell?_of_block (by rw [hblk]; exact h _ _ _ hb)).trans h1⟩
end Go.Proofs.Ytagjnjdaookdgaa.H
