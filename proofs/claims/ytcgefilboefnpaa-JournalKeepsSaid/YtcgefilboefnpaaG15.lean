/- Some texts of one seat in one file, in build order. -/
import Derived.Test.YtcgefilboefnpaaG14
import Derived.Deep.QuietTactic
import Derived.BigQuiet
/- journal.anew, Open, Compact. -/
namespace Go.Proofs.Ytcgefilboefnpaa.H
open Go.RowKit Go.Proofs.YtcgefilboefnpaaW.PrintWords Go.Proofs.YtcgefilboefnpaaW.PrintLast Go.Proofs.YtcgefilboefnpaaW.PrintMore Go.Proofs.Ytcgefilboefnpaa.CrcM
set_option linter.unusedVariables false
set_option linter.unusedSimpArgs false

/-- How many bytes rows have. -/
def costL (bs : List (List Int)) : Nat := (bs.map List.length).sum
theorem fit_fold (r : Int) : ∀ (bs : List (List Int)) {d : Dv} {m t : Int}, d.fit m t → 0 ≤ m → (foldA d r bs).1.fit (m + costL bs) (t + costL bs)
  | [], d, m, t, h, _ => by simpa [foldA, costL] using h
  | b :: bs, d, m, t, h, hm => by
    have h1 := fit_app h hm r b
    have e : costL (b :: bs) = b.length + costL bs := by simp [costL]
    simp only [foldA]
    split
    · have h2 := fit_fold r bs h1 (by omega)
      exact h2.wide (by rw [e]; push_cast; omega) (by rw [e]; push_cast; omega)
    · exact h1.wide (by rw [e]; push_cast; omega) (by rw [e]; push_cast; omega)
theorem chunks_cost : ∀ (k : Nat) (l : List Int), (((chunksL k l).map (fun p => wrF (2, p))).map List.length).sum ≤ 8 * l.length
  | 0, l => by simp [chunksL]
  | k + 1, l => by
    by_cases h : l = []
    · subst h; simp [chunksL]
    · have hl : 0 < l.length := List.length_pos_iff.2 h
      rw [chunksL_cons k l hl]
      have ih := chunks_cost k (l.drop 4096)
      have hw := (writeF_len 2 (l.take 4096)).2 (by unfold writeF; rw [if_neg (by decide), if_neg (by rw [List.length_take]; omega)])
      rw [List.length_drop] at ih
      have e : (wrF (2, l.take 4096)).length = min 4096 l.length + 7 := by unfold wrF; rw [hw, List.length_take]
      simp only [List.map_cons, List.sum_cons, e]
      omega
theorem begF_cost (age : Nat) (snap : List Int) : costL ((begF age snap).map wrF) ≤ 8 * snap.length + 60 := by
  have h1 := chunks_cost (snap.length + 1) snap
  have h2 := (uintB_len age).2
  have h3 := (uintB_len (cntJ snap.length).toNat).2
  have h4 : (wrF (1, headB age (cntJ snap.length).toNat)).length ≤ 27 := by
    have := (writeF_len 1 (headB age (cntJ snap.length).toNat)).2 (by unfold writeF; rw [if_neg (by decide), if_neg (by unfold headB; simp; omega)])
    unfold wrF; rw [this]; unfold headB; simp; omega
  have h5 : (wrF (3, [])).length = 7 := by
    have := (writeF_len 3 []).2 (by unfold writeF; rw [if_neg (by decide), if_neg (by simp)])
    unfold wrF; rw [this]; rfl
  unfold costL begF chunksF
  simp only [List.map_cons, List.map_append, List.map_map, List.map_nil, List.sum_append, List.sum_cons, List.sum_nil, List.cons_append] at h1 ⊢
  simp only [Function.comp_def] at h1 ⊢
  omega
theorem cost_take (bs : List (List Int)) (k : Nat) : costL (bs.take k) ≤ costL bs := by
  have e : costL bs = costL (bs.take k) + costL (bs.drop k) := by
    unfold costL; rw [← List.sum_append, ← List.map_append, List.take_append_drop]
  omega
theorem begin_eq [Pl] (gj gd B : Nat) (Ar : Option Addr) (cr : Nat) (j : Jn) (d : Dv) (region : Int) (age n : Nat) (A : Option Addr) (c : Nat) (snap : List Int) (x : Dv × Jn × Int) (W : World) (hx : beginJ d j region age snap = x) (hsn : snap.length = n) (h : JAt W B gj gd Ar cr j) (hd : DevAt W gd d) (hBW : B ≤ W.heap.size)
    (hl : ∀ W', But (JP gj gd Ar) W W' → Kd.C (Kd.int .u8) W' A n snap) (hc : n ≤ c) (hn : n ≤ 100000) (hage : age < 2 ^ 64) (hf : d.fit 100000 100000000000) :
    Calls Try.prog 43 #[.pointer (some ⟨gj, 0, none⟩), .int .i64 region, .int .u64 age, .slice A n c] W (JPost B gj gd Ar x W) := by
  subst hsn
  refine begin_calls gj gd B Ar cr j d region age A c snap x W hx h hd hBW hl hc hn hage hf (fun k hk => ?_)
  have h1 := fit_trunc hf (by omega) region 0
  have h2 := fit_fold region (((begF age snap).map wrF).take k) h1 (by omega)
  have h3 := cost_take ((begF age snap).map wrF) k
  have h4 := begF_cost age snap
  exact h2.wide (by omega) (by omega)
theorem cap_trunc (d : Dv) (r n : Int) : (truncD d r n).1.cap = d.cap := by
  have hs : ∀ (d : Dv) (r : Int) (l : List Int), (d.set r l).cap = d.cap := fun d r l => by unfold Dv.set; split; rfl; split <;> rfl
  unfold truncD; split; rfl; split; rfl; exact hs _ _ _
def anewS (k : Nat) (d : Dv) : Dv × Jn × Int :=
  if k = 0 then anewJ d
  else if k = 1 then (if (truncD d 1 0).2 ≠ 0 then ((truncD d 1 0).1, jn0, (truncD d 1 0).2) else if 16 > d.cap then ((truncD d 1 0).1, jn0, 6) else beginJ (truncD d 1 0).1 jn0 0 1 [])
  else if 16 > d.cap then (d, jn0, 6) else beginJ d jn0 0 1 []
theorem anewS_step (k : Nat) (hk : k < 2) (d d' : Dv) (e : Int) (h : truncD d k 0 = (d', e)) : anewS k d = if e ≠ 0 then (d', jn0, e) else anewS (k + 1) d' := by
  have hc := cap_trunc d k 0
  rw [h] at hc
  simp only at hc
  rcases (by omega : k = 0 ∨ k = 1) with rfl | rfl
  · have h' : truncD d 0 0 = (d', e) := h
    show anewJ d = if e ≠ 0 then (d', jn0, e) else (if (truncD d' 1 0).2 ≠ 0 then ((truncD d' 1 0).1, jn0, (truncD d' 1 0).2) else if 16 > d'.cap then ((truncD d' 1 0).1, jn0, 6) else beginJ (truncD d' 1 0).1 jn0 0 1 [])
    unfold anewJ
    rw [h', hc]
  · have h' : truncD d 1 0 = (d', e) := h
    show (if (truncD d 1 0).2 ≠ 0 then ((truncD d 1 0).1, jn0, (truncD d 1 0).2) else if 16 > d.cap then ((truncD d 1 0).1, jn0, 6) else beginJ (truncD d 1 0).1 jn0 0 1 []) = if e ≠ 0 then (d', jn0, e) else (if 16 > d'.cap then (d', jn0, 6) else beginJ d' jn0 0 1 [])
    rw [h', hc]
/-- What opening leaves. -/
def OPost [Pl] (gd : Nat) (x : Dv × Jn × Int) (W : World) (e : Ending) (W' : World) : Prop :=
  DevAt W' gd x.1 ∧ But (fun k => k = gd) W W' ∧ ((x.2.2 = 0 ∧ ∃ gj Ar cr, e = .returned (.tuple #[.pointer (some ⟨gj, 0, none⟩), .int .i64 0]) ∧ JAt W' W.heap.size gj gd Ar cr x.2.1) ∨ (x.2.2 ≠ 0 ∧ e = .returned (.tuple #[.pointer none, .int .i64 x.2.2])))
set_option maxHeartbeats 3200000 in
theorem anew_calls [Pl] (gd : Nat) (d : Dv) (x : Dv × Jn × Int) (W : World) (hx : anewJ d = x) (hd : DevAt W gd d) (hf : d.fit 90000 90000000000) :
    Calls Try.prog 36 #[.pointer (some ⟨gd, 0, none⟩)] W (OPost gd x W) := by
  have H := Aside0.mk (And.intro hd (And.intro hf hx))
  have hgd := hd.lt
  have hlo := hd.lo
  clear hd hf hx
  go_enter Try.func36, Try.ntmps36
  go_wp2_with (fail)
  have hx1 : (W.alloc (.cells #[.pointer (some ⟨gd, 0, none⟩), .int .i64 0, .int .u64 0, .slice none 0 0, .slice none 0 0, .int .i64 0] 67)).heap[W.heap.size]? = some (.cells #[.pointer (some ⟨gd, 0, none⟩), .int .i64 0, .int .u64 0, .slice none 0 0, .slice none 0 0, .int .i64 0] 67 (0, 0)) := blk_new W _
  have hb1 : Below W.heap.size W (W.alloc (.cells #[.pointer (some ⟨gd, 0, none⟩), .int .i64 0, .int .u64 0, .slice none 0 0, .slice none 0 0, .int .i64 0] 67)) := below_alloc (Below.refl _ _) _
  have hz1 : W.heap.size < (W.alloc (.cells #[.pointer (some ⟨gd, 0, none⟩), .int .i64 0, .int .u64 0, .slice none 0 0, .slice none 0 0, .int .i64 0] 67)).heap.size := lt_of_some hx1
  generalize W.alloc (.cells #[.pointer (some ⟨gd, 0, none⟩), .int .i64 0, .int .u64 0, .slice none 0 0, .slice none 0 0, .int .i64 0] 67) = w1 at *
  have hJ1 : JAt w1 W.heap.size W.heap.size gd none 0 jn0 := ⟨Nat.le_refl _, none, 0, [], ⟨[], _, .inl rfl, hx1⟩, Nat.le_refl _, Rd.nil _ (by omega), Kd.R_nil _ _ _ _ _, SlsOf.nil _⟩
  have H1 := Aside0.mk (And.intro hJ1 (And.intro (H.out.1.below hb1) (But.of_below (P := fun k => k = gd) hb1)))
  clear hx1 hb1 hJ1
  go_loopw [11] (fun i wr => ∃ (k : Nat) (dk : Dv), i = .int .i64 (k : Int) ∧ k ≤ 2 ∧ Aside0 (anewS k dk = x ∧ dk.fit 90000 (90000000000 + 90000 * k)) ∧ Aside0 (JAt wr W.heap.size W.heap.size gd none 0 jn0 ∧ DevAt wr gd dk ∧ But (fun k => k = gd) W wr)) (fun i _ => 2 - (intOf i).toNat)
  case atStart => exact ⟨0, d, rfl, by omega, ⟨H.out.2.2, H.out.2.1⟩, H1⟩
  case round =>
    obtain ⟨k, dk, rfl, hk, HF, HW⟩ := hrel
    by_cases hlt : k < 2
    · obtain ⟨d', e', ht⟩ : ∃ d' e', truncD dk (k : Int) 0 = (d', e') := ⟨_, _, rfl⟩
      have hst := anewS_step k hlt dk d' e' ht
      rw [HF.out.1] at hst
      have hft := fit_trunc HF.out.2 (by omega) (k : Int) 0
      rw [ht] at hft
      have hk2 : (k : Int) < 2 := by omega
      have HT := Aside0.mk (And.intro ht (And.intro hst hft))
      clear ht hst hft
      go_wp2_with (fail)
      refine (Truncate_eq gd dk d' (k : Int) 0 e' _ HT.out.1 HW.out.2.1 (HF.out.2.wide (by omega) (by omega))).mono ?_
      rintro e w2 ⟨rfl, hd2, ho2⟩
      have H2 : Aside0 (JAt w2 W.heap.size W.heap.size gd none 0 jn0 ∧ DevAt w2 gd d' ∧ But (fun k => k = gd) W w2) := ⟨HW.out.1.dev HW.out.2.1 ho2, hd2, HW.out.2.2.trans (.of_oth ho2 rfl)⟩
      clear hd2 ho2
      by_cases he : e' = 0
      · have a2 : (e' != 0) = false := by rw [bne_eq_false_iff_eq]; exact he
        have h7 := HT.out.2.1
        rw [if_neg (by simp [he])] at h7
        have H7 : Aside0 (anewS (k + 1) d' = x ∧ d'.fit 90000 (90000000000 + 90000 * ((k + 1 : Nat) : Int))) := ⟨h7.symm, HT.out.2.2.wide (Int.le_refl _) (by push_cast; omega)⟩
        clear h7 he
        go_wp2
        go_roundw
        case rel => exact ⟨k + 1, d', by go_num, by omega, H7, H2⟩
        case measure => simp [intOf]; omega
      · have a2 : (e' != 0) = true := by rw [bne_iff_ne]; exact he
        have h7 := HT.out.2.1
        rw [if_pos he] at h7
        have H7 := Aside0.mk (And.intro h7 he)
        clear h7 he
        go_wp2
        go_ret2
        rw [H7.out.1]
        exact ⟨H2.out.2.1, H2.out.2.2, .inr ⟨H7.out.2, rfl⟩⟩
    · obtain rfl : k = 2 := by omega
      have hst := HF.out.1
      rw [show anewS 2 dk = if 16 > dk.cap then (dk, jn0, 6) else beginJ dk jn0 0 1 [] from rfl] at hst
      by_cases hcap : 16 > dk.cap
      · rw [if_pos hcap] at hst
        have a3 : decide (dk.cap < 16) = true := decide_eq_true hcap
        have HS := Aside0.mk hst
        clear hst hcap
        go_wp2_with (fail)
        refine (Heavy_calls 1 0 16 _ (by decide) (by decide) (by decide)).mono ?_
        rintro e w2 ⟨rfl, hb2⟩
        have HB := Aside0.mk hb2
        clear hb2
        go_wp2_with (fail)
        refine (Capacity_eq gd dk dk.cap _ rfl (HW.out.2.1.below HB.out)).mono ?_
        rintro e w3 ⟨rfl, rfl⟩
        go_wp2
        go_ret2
        rw [← HS.out]
        exact ⟨HW.out.2.1.below HB.out, HW.out.2.2.trans (.of_below HB.out), .inr ⟨fun h => absurd h (by decide : ¬ (6 : Int) = 0), rfl⟩⟩
      · rw [if_neg hcap] at hst
        have a3 : decide (dk.cap < 16) = false := decide_eq_false hcap
        have HS := Aside0.mk hst
        clear hst hcap
        go_wp2_with (fail)
        refine (Heavy_calls 1 0 16 _ (by decide) (by decide) (by decide)).mono ?_
        rintro e w2 ⟨rfl, hb2⟩
        have HB := Aside0.mk hb2
        clear hb2
        go_wp2_with (fail)
        refine (Capacity_eq gd dk dk.cap _ rfl (HW.out.2.1.below HB.out)).mono ?_
        rintro e w3 ⟨rfl, rfl⟩
        go_wp2_with (fail)
        have hj2 := HW.out.1.below HB.out
        have hd2 := HW.out.2.1.below HB.out
        refine (begin_eq W.heap.size gd W.heap.size none 0 jn0 dk 0 1 0 none 0 [] x _ HS.out rfl hj2 hd2 (by have := HW.out.2.2.size; have := HB.out.size; omega) (fun W' _ => C_nil _ _) (Nat.le_refl _) (by decide) (by decide) (HF.out.2.wide (by omega) (by omega))).mono ?_
        rintro e w4 ⟨rfl, hd4, ⟨Ar', cr', hj4, _⟩, hbut4⟩
        have hbut : But (fun k => k = gd) W w4 := (HW.out.2.2.trans (.of_below HB.out)).then hbut4 (fun i hi h => by
          rcases h with rfl | rfl | ⟨ad, e, _⟩
          · omega
          · rfl
          · cases e)
        have H4 := Aside0.mk (And.intro hd4 (And.intro hj4 hbut))
        clear hd4 hj4 hbut4 hbut hj2 hd2
        obtain ⟨x1, x2, x3⟩ := x
        by_cases hx3 : x3 = 0
        · have a4 : (x3 != 0) = false := by rw [bne_eq_false_iff_eq]; exact hx3
          have HX3 := Lib.hid hx3
          clear hx3
          go_wp2
          go_ret2
          exact ⟨H4.out.1, H4.out.2.2, .inl ⟨HX3.out, _, Ar', cr', rfl, H4.out.2.1⟩⟩
        · have a4 : (x3 != 0) = true := by rw [bne_iff_ne]; exact hx3
          have HX3 := Aside0.mk hx3
          clear hx3
          go_wp2
          go_ret2
          exact ⟨H4.out.1, H4.out.2.2, .inr ⟨HX3.out, rfl⟩⟩
end Go.Proofs.Ytcgefilboefnpaa.H
/- journal.Open. -/
namespace Go.Proofs.Ytcgefilboefnpaa.H
open Go.RowKit Go.Proofs.YtcgefilboefnpaaW.PrintWords Go.Proofs.YtcgefilboefnpaaW.PrintLast Go.Proofs.YtcgefilboefnpaaW.PrintMore Go.Proofs.Ytcgefilboefnpaa.CrcM
set_option linter.unusedVariables false
set_option linter.unusedSimpArgs false

theorem RdrAt.age [Pl] {W : World} {B gr gd : Nat} {r : Rr} (h : RdrAt W B gr gd r) : W.cell? ⟨gr, 1, none⟩ = some (.int .i64 r.j.region) ∧ W.cell? ⟨gr, 2, none⟩ = some (.int .u64 r.j.age) ∧ W.cell? ⟨gr, 5, none⟩ = some (.int .i64 r.j.fin) := by
  obtain ⟨_, As, cs, Ar, cr, os, q1, _⟩ := h
  exact ⟨q1.cells.2.1, q1.cells.2.2.1, q1.cells.2.2.2.2.2.1⟩
theorem JAt.lower [Pl] {W : World} {B B' gj gd : Nat} {Ar : Option Addr} {cr : Nat} {j : Jn} (h : JAt W B gj gd Ar cr j) (hb : B' ≤ B) : JAt W B' gj gd Ar cr j := by
  obtain ⟨h0, As, cs, os, h1, h2, h3, h4, h5⟩ := h
  exact ⟨Nat.le_trans hb h0, As, cs, os, h1, h2, h3, Kd.R_lower h4 hb, h5⟩
/-- The end: the region is truncated behind what counts. -/
def openR (d : Dv) (r : Rr) : Dv × Jn × Int := if r.ok = false then anewJ d else ((truncD d r.j.region r.j.fin).1, r.j, (truncD d r.j.region r.j.fin).2)
set_option maxHeartbeats 3200000 in
theorem JOpen_calls [Pl] (gd : Nat) (d : Dv) (x : Dv × Jn × Int) (W : World) (hx : openJ d = x) (hd : DevAt W gd d) (hf : d.fit 90000 90000000000) (hB0 : Bts d.a) (hB1 : Bts d.b) :
    Calls Try.prog 10 #[.pointer (some ⟨gd, 0, none⟩)] W (OPost gd x W) := by
  have hgd := hd.lt
  have hlo := hd.lo
  have ha : d.a.length ≤ 1000000 := by have := hf.a; omega
  have hb : d.b.length ≤ 1000000 := by have := hf.b; omega
  have H := Aside0.mk (And.intro hd (And.intro hf (And.intro hx (And.intro hB0 hB1))))
  clear hd hf hx hB0 hB1
  obtain ⟨dn, hdn⟩ : ∃ b, d.down = b := ⟨_, rfl⟩
  have hx0 := H.out.2.2.1
  unfold openJ at hx0
  rw [hdn] at hx0
  cases dn with
  | true =>
    rw [if_pos rfl] at hx0
    have HX := Aside0.mk (And.intro hx0 hdn)
    clear hx0 hdn
    go_enter Try.func10, Try.ntmps10
    go_wp2_with (fail)
    refine (Down_eq gd d true _ HX.out.2 H.out.1).mono ?_
    rintro e w1 ⟨rfl, rfl⟩
    go_wp2
    go_ret2
    rw [← HX.out.1]
    exact ⟨H.out.1, But.refl _ _, .inr ⟨fun h => absurd h (by decide : ¬ (30 : Int) = 0), rfl⟩⟩
  | false =>
    rw [if_neg (by simp)] at hx0
    obtain ⟨r0, hr0⟩ : ∃ r, readJ 0 d.a = r := ⟨_, rfl⟩
    obtain ⟨r1, hr1⟩ : ∃ r, readJ 1 d.b = r := ⟨_, rfl⟩
    have hpk : pickJ d = if r1.ok = true ∧ (r0.ok = false ∨ r1.j.age > r0.j.age) then r1 else r0 := by unfold pickJ; rw [hr0, hr1]
    have hxo : openR d (pickJ d) = x := hx0
    have HX := Aside0.mk (And.intro hdn (And.intro hr0 (And.intro hr1 (And.intro hpk hxo))))
    clear hx0 hdn hr0 hr1 hpk hxo
    go_enter Try.func10, Try.ntmps10
    go_wp2_with (fail)
    refine (Down_eq gd d false _ HX.out.1 H.out.1).mono ?_
    rintro e w1 ⟨rfl, rfl⟩
    go_wp2_with (fail)
    refine (read_calls gd d 0 d.a _ H.out.1 rfl ha hb ha H.out.2.2.2.1).mono ?_
    rintro e w2 ⟨g0, rfl, hR2, hg0, hb2⟩
    rw [HX.out.2.1] at hR2
    have hs2 := hb2.size
    have H2 := Aside0.mk (And.intro hR2 (And.intro hb2 (H.out.1.below hb2)))
    clear hR2 hb2
    go_wp2_with (fail)
    refine (read_calls gd d 1 d.b _ H2.out.2.2 rfl ha hb hb H.out.2.2.2.2).mono ?_
    rintro e w3 ⟨g1, rfl, hR3, hg1, hb3⟩
    rw [HX.out.2.2.1] at hR3
    rw [HX.out.2.1, HX.out.2.2.1]
    have hs3 := hb3.size
    have hz := (H2.out.1.below hb3).age
    have hz1 := hR3.age
    have H3 := Aside0.mk (And.intro (H2.out.1.below hb3) (And.intro (hR3.lower hs2) (And.intro (below_step H2.out.2.1 hb3) (H2.out.2.2.below hb3))))
    clear hR3 hb3 H2
    obtain ⟨z1, z2, z3⟩ := hz
    obtain ⟨y1, y2, y3⟩ := hz1
    go_wp2_with (fail)
    -- CASES
    have hpk := HX.out.2.2.2.1
    have hxo := HX.out.2.2.2.2
    obtain ⟨ok0, h0⟩ : ∃ b, r0.ok = b := ⟨_, rfl⟩
    obtain ⟨ok1, h1⟩ : ∃ b, r1.ok = b := ⟨_, rfl⟩
    rw [h0, h1] at hpk ⊢
    cases ok1 with
    | false =>
      rw [if_neg (by simp)] at hpk
      cases ok0 with
      | false =>
        rw [hpk] at hxo
        have HXO := Lib.hid hxo
        have HOK := Lib.hid h0
        clear hxo hpk h0 h1
        go_quiet (fail)
        have hbq : Below w3.heap.size w3 (w3.drewN nq) := ⟨rfl, rfl, rfl, Nat.le_refl _, fun _ _ => rfl⟩
        have hA := (H3.out.1.below hbq).age
        have hA1 := (H3.out.2.1.below hbq).age
        have H4 := Aside0.mk (And.intro (H3.out.1.below hbq) (And.intro (H3.out.2.1.below hbq) (And.intro (below_step H3.out.2.2.1 hbq) (H3.out.2.2.2.below hbq))))
        have hs4 := hbq.size
        clear hbq z1 z2 z3 y1 y2 y3
        generalize w3.drewN nq = w4 at *
        obtain ⟨z1, z2, z3⟩ := hA
        obtain ⟨y1, y2, y3⟩ := hA1
        have hxx : anewJ d = x := by rw [← HXO.out]; unfold openR; rw [if_pos HOK.out]
        have HT := Lib.hid hxx
        clear hxx
        go_wp2_with (fail)
        refine (anew_calls gd d x _ HT.out H4.out.2.2.2 H.out.2.1).mono ?_
        rintro e w5 ⟨hd5, hb5, hres⟩
        have hbut : But (fun k => k = gd) W w5 := (But.of_below H4.out.2.2.1).trans hb5
        have hsz := H4.out.2.2.1.size
        rcases hres with ⟨hx3, gj, Ar, cr, rfl, hj⟩ | ⟨hx3, rfl⟩
        · have H5 := Aside0.mk (And.intro hd5 (And.intro hbut (And.intro hx3 hj)))
          clear hd5 hbut hx3 hj hb5
          go_wp2
          go_ret2
          exact ⟨H5.out.1, H5.out.2.1, .inl ⟨H5.out.2.2.1, gj, Ar, cr, rfl, H5.out.2.2.2.lower hsz⟩⟩
        · have H5 := Aside0.mk (And.intro hd5 (And.intro hbut hx3))
          clear hd5 hbut hx3 hb5
          go_wp2
          go_ret2
          exact ⟨H5.out.1, H5.out.2.1, .inr ⟨H5.out.2.2, rfl⟩⟩
      | true =>
        rw [hpk] at hxo
        have HXO := Lib.hid hxo
        have HOK := Lib.hid h0
        clear hxo hpk h0 h1
        go_quiet (fail)
        have hbq : Below w3.heap.size w3 (w3.drewN nq) := ⟨rfl, rfl, rfl, Nat.le_refl _, fun _ _ => rfl⟩
        have hA := (H3.out.1.below hbq).age
        have hA1 := (H3.out.2.1.below hbq).age
        have H4 := Aside0.mk (And.intro (H3.out.1.below hbq) (And.intro (H3.out.2.1.below hbq) (And.intro (below_step H3.out.2.2.1 hbq) (H3.out.2.2.2.below hbq))))
        have hs4 := hbq.size
        clear hbq z1 z2 z3 y1 y2 y3
        generalize w3.drewN nq = w4 at *
        obtain ⟨z1, z2, z3⟩ := hA
        obtain ⟨y1, y2, y3⟩ := hA1
        obtain ⟨d', e', ht⟩ : ∃ d' e', truncD d r0.j.region r0.j.fin = (d', e') := ⟨_, _, rfl⟩
        have hxx : x = (d', r0.j, e') := by rw [← HXO.out]; unfold openR; rw [if_neg (by rw [HOK.out]; simp), ht]
        have HT := Aside0.mk (And.intro ht hxx)
        clear ht hxx
        go_wp2_with (fail)
        go_region_held3 (fun w' => w'.cell? ⟨g0, 1, none⟩ = some (.int .i64 r0.j.region) ∧ w'.cell? ⟨g0, 5, none⟩ = some (.int .i64 r0.j.fin)) (first | (with_reducible exact KK.out) | go_keep)
          ((go_at_call 37; refine (Truncate_eq gd d d' r0.j.region r0.j.fin e' _ HT.out.1 ?s0 (H.out.2.1.wide (by omega) (by omega))).mono ?_; (case s0 => exact H4.out.2.2.2.dr); rintro e w5 ⟨rfl, hd5, ho5'⟩; have ho5 := ho5'.of_dr; have hr5 : RdrAt w5 W.heap.size g0 gd r0 := (by obtain ⟨A0, c0, A1, c1, hB, _⟩ := H4.out.2.2.2; exact RdrAt.lower (H4.out.1.oth hB (by decide) (by decide) (by omega) ho5) (by omega)); have KK : Aside0 (w5.cell? ⟨g0, 1, none⟩ = some (.int .i64 r0.j.region) ∧ w5.cell? ⟨g0, 5, none⟩ = some (.int .i64 r0.j.fin)) := ⟨⟨hr5.age.1, hr5.age.2.2⟩⟩; have H5 := Aside0.mk (And.intro hd5 (And.intro hr5 ((But.of_below (P := fun k => k = gd) H4.out.2.2.1).trans (.of_oth ho5 rfl)))); clear hd5 ho5 ho5' hr5))
        clear KK
        by_cases he : e' = 0
        · have a4 : (e' != 0) = false := by rw [bne_eq_false_iff_eq]; exact he
          have HE := Lib.hid he
          clear he
          go_wp2
          go_ret2
          rw [HT.out.2]
          obtain ⟨Ar, cr, hj⟩ := JAt.of_rdr H5.out.2.1 (by omega) hlo H5.out.2.2.size
          exact ⟨H5.out.1, H5.out.2.2, .inl ⟨HE.out, _, Ar, cr, rfl, hj⟩⟩
        · have a4 : (e' != 0) = true := by rw [bne_iff_ne]; exact he
          have HE := Aside0.mk he
          clear he
          go_wp2
          go_ret2
          rw [HT.out.2]
          exact ⟨H5.out.1, H5.out.2.2, .inr ⟨HE.out, rfl⟩⟩
    | true =>
      cases ok0 with
      | false =>
        rw [if_pos (by simp)] at hpk
        rw [hpk] at hxo
        have HXO := Lib.hid hxo
        have HOK := Lib.hid h1
        clear hxo hpk h0 h1
        go_quiet (fail)
        have hbq : Below w3.heap.size w3 (w3.drewN nq) := ⟨rfl, rfl, rfl, Nat.le_refl _, fun _ _ => rfl⟩
        have hA := (H3.out.1.below hbq).age
        have hA1 := (H3.out.2.1.below hbq).age
        have H4 := Aside0.mk (And.intro (H3.out.1.below hbq) (And.intro (H3.out.2.1.below hbq) (And.intro (below_step H3.out.2.2.1 hbq) (H3.out.2.2.2.below hbq))))
        have hs4 := hbq.size
        clear hbq z1 z2 z3 y1 y2 y3
        generalize w3.drewN nq = w4 at *
        obtain ⟨z1, z2, z3⟩ := hA
        obtain ⟨y1, y2, y3⟩ := hA1
        obtain ⟨d', e', ht⟩ : ∃ d' e', truncD d r1.j.region r1.j.fin = (d', e') := ⟨_, _, rfl⟩
        have hxx : x = (d', r1.j, e') := by rw [← HXO.out]; unfold openR; rw [if_neg (by rw [HOK.out]; simp), ht]
        have HT := Aside0.mk (And.intro ht hxx)
        clear ht hxx
        go_wp2_with (fail)
        go_region_held3 (fun w' => w'.cell? ⟨g1, 1, none⟩ = some (.int .i64 r1.j.region) ∧ w'.cell? ⟨g1, 5, none⟩ = some (.int .i64 r1.j.fin)) (first | (with_reducible exact KK.out) | go_keep)
          ((go_at_call 37; refine (Truncate_eq gd d d' r1.j.region r1.j.fin e' _ HT.out.1 ?s0 (H.out.2.1.wide (by omega) (by omega))).mono ?_; (case s0 => exact H4.out.2.2.2.dr); rintro e w5 ⟨rfl, hd5, ho5'⟩; have ho5 := ho5'.of_dr; have hr5 : RdrAt w5 W.heap.size g1 gd r1 := (by obtain ⟨A0, c0, A1, c1, hB, _⟩ := H4.out.2.2.2; exact RdrAt.lower (H4.out.2.1.oth hB (by decide) (by decide) (by omega) ho5) (by omega)); have KK : Aside0 (w5.cell? ⟨g1, 1, none⟩ = some (.int .i64 r1.j.region) ∧ w5.cell? ⟨g1, 5, none⟩ = some (.int .i64 r1.j.fin)) := ⟨⟨hr5.age.1, hr5.age.2.2⟩⟩; have H5 := Aside0.mk (And.intro hd5 (And.intro hr5 ((But.of_below (P := fun k => k = gd) H4.out.2.2.1).trans (.of_oth ho5 rfl)))); clear hd5 ho5 ho5' hr5))
        clear KK
        by_cases he : e' = 0
        · have a4 : (e' != 0) = false := by rw [bne_eq_false_iff_eq]; exact he
          have HE := Lib.hid he
          clear he
          go_wp2
          go_ret2
          rw [HT.out.2]
          obtain ⟨Ar, cr, hj⟩ := JAt.of_rdr H5.out.2.1 (by omega) hlo H5.out.2.2.size
          exact ⟨H5.out.1, H5.out.2.2, .inl ⟨HE.out, _, Ar, cr, rfl, hj⟩⟩
        · have a4 : (e' != 0) = true := by rw [bne_iff_ne]; exact he
          have HE := Aside0.mk he
          clear he
          go_wp2
          go_ret2
          rw [HT.out.2]
          exact ⟨H5.out.1, H5.out.2.2, .inr ⟨HE.out, rfl⟩⟩
      | true =>
        by_cases hag : r1.j.age > r0.j.age
        · rw [if_pos ⟨rfl, .inr hag⟩] at hpk
          have b0 : decide (r0.j.age < r1.j.age) = true := decide_eq_true hag
          clear hag
          rw [hpk] at hxo
          have HXO := Lib.hid hxo
          have HOK := Lib.hid h1
          clear hxo hpk h0 h1
          go_quiet (fail)
          have hbq : Below w3.heap.size w3 (w3.drewN nq) := ⟨rfl, rfl, rfl, Nat.le_refl _, fun _ _ => rfl⟩
          have hA := (H3.out.1.below hbq).age
          have hA1 := (H3.out.2.1.below hbq).age
          have H4 := Aside0.mk (And.intro (H3.out.1.below hbq) (And.intro (H3.out.2.1.below hbq) (And.intro (below_step H3.out.2.2.1 hbq) (H3.out.2.2.2.below hbq))))
          have hs4 := hbq.size
          clear hbq z1 z2 z3 y1 y2 y3
          generalize w3.drewN nq = w4 at *
          obtain ⟨z1, z2, z3⟩ := hA
          obtain ⟨y1, y2, y3⟩ := hA1
          obtain ⟨d', e', ht⟩ : ∃ d' e', truncD d r1.j.region r1.j.fin = (d', e') := ⟨_, _, rfl⟩
          have hxx : x = (d', r1.j, e') := by rw [← HXO.out]; unfold openR; rw [if_neg (by rw [HOK.out]; simp), ht]
          have HT := Aside0.mk (And.intro ht hxx)
          clear ht hxx
          go_wp2_with (fail)
          go_region_held3 (fun w' => w'.cell? ⟨g1, 1, none⟩ = some (.int .i64 r1.j.region) ∧ w'.cell? ⟨g1, 5, none⟩ = some (.int .i64 r1.j.fin)) (first | (with_reducible exact KK.out) | go_keep)
            ((go_at_call 37; refine (Truncate_eq gd d d' r1.j.region r1.j.fin e' _ HT.out.1 ?s0 (H.out.2.1.wide (by omega) (by omega))).mono ?_; (case s0 => exact H4.out.2.2.2.dr); rintro e w5 ⟨rfl, hd5, ho5'⟩; have ho5 := ho5'.of_dr; have hr5 : RdrAt w5 W.heap.size g1 gd r1 := (by obtain ⟨A0, c0, A1, c1, hB, _⟩ := H4.out.2.2.2; exact RdrAt.lower (H4.out.2.1.oth hB (by decide) (by decide) (by omega) ho5) (by omega)); have KK : Aside0 (w5.cell? ⟨g1, 1, none⟩ = some (.int .i64 r1.j.region) ∧ w5.cell? ⟨g1, 5, none⟩ = some (.int .i64 r1.j.fin)) := ⟨⟨hr5.age.1, hr5.age.2.2⟩⟩; have H5 := Aside0.mk (And.intro hd5 (And.intro hr5 ((But.of_below (P := fun k => k = gd) H4.out.2.2.1).trans (.of_oth ho5 rfl)))); clear hd5 ho5 ho5' hr5))
          clear KK
          by_cases he : e' = 0
          · have a4 : (e' != 0) = false := by rw [bne_eq_false_iff_eq]; exact he
            have HE := Lib.hid he
            clear he
            go_wp2
            go_ret2
            rw [HT.out.2]
            obtain ⟨Ar, cr, hj⟩ := JAt.of_rdr H5.out.2.1 (by omega) hlo H5.out.2.2.size
            exact ⟨H5.out.1, H5.out.2.2, .inl ⟨HE.out, _, Ar, cr, rfl, hj⟩⟩
          · have a4 : (e' != 0) = true := by rw [bne_iff_ne]; exact he
            have HE := Aside0.mk he
            clear he
            go_wp2
            go_ret2
            rw [HT.out.2]
            exact ⟨H5.out.1, H5.out.2.2, .inr ⟨HE.out, rfl⟩⟩
        · rw [if_neg (by rintro ⟨_, h | h⟩; exact absurd h (by simp); exact hag h)] at hpk
          have b0 : decide (r0.j.age < r1.j.age) = false := decide_eq_false hag
          clear hag
          rw [hpk] at hxo
          have HXO := Lib.hid hxo
          have HOK := Lib.hid h0
          clear hxo hpk h0 h1
          go_quiet (fail)
          have hbq : Below w3.heap.size w3 (w3.drewN nq) := ⟨rfl, rfl, rfl, Nat.le_refl _, fun _ _ => rfl⟩
          have hA := (H3.out.1.below hbq).age
          have hA1 := (H3.out.2.1.below hbq).age
          have H4 := Aside0.mk (And.intro (H3.out.1.below hbq) (And.intro (H3.out.2.1.below hbq) (And.intro (below_step H3.out.2.2.1 hbq) (H3.out.2.2.2.below hbq))))
          have hs4 := hbq.size
          clear hbq z1 z2 z3 y1 y2 y3
          generalize w3.drewN nq = w4 at *
          obtain ⟨z1, z2, z3⟩ := hA
          obtain ⟨y1, y2, y3⟩ := hA1
          obtain ⟨d', e', ht⟩ : ∃ d' e', truncD d r0.j.region r0.j.fin = (d', e') := ⟨_, _, rfl⟩
          have hxx : x = (d', r0.j, e') := by rw [← HXO.out]; unfold openR; rw [if_neg (by rw [HOK.out]; simp), ht]
          have HT := Aside0.mk (And.intro ht hxx)
          clear ht hxx
          go_wp2_with (fail)
          go_region_held3 (fun w' => w'.cell? ⟨g0, 1, none⟩ = some (.int .i64 r0.j.region) ∧ w'.cell? ⟨g0, 5, none⟩ = some (.int .i64 r0.j.fin)) (first | (with_reducible exact KK.out) | go_keep)
            ((go_at_call 37; refine (Truncate_eq gd d d' r0.j.region r0.j.fin e' _ HT.out.1 ?s0 (H.out.2.1.wide (by omega) (by omega))).mono ?_; (case s0 => exact H4.out.2.2.2.dr); rintro e w5 ⟨rfl, hd5, ho5'⟩; have ho5 := ho5'.of_dr; have hr5 : RdrAt w5 W.heap.size g0 gd r0 := (by obtain ⟨A0, c0, A1, c1, hB, _⟩ := H4.out.2.2.2; exact RdrAt.lower (H4.out.1.oth hB (by decide) (by decide) (by omega) ho5) (by omega)); have KK : Aside0 (w5.cell? ⟨g0, 1, none⟩ = some (.int .i64 r0.j.region) ∧ w5.cell? ⟨g0, 5, none⟩ = some (.int .i64 r0.j.fin)) := ⟨⟨hr5.age.1, hr5.age.2.2⟩⟩; have H5 := Aside0.mk (And.intro hd5 (And.intro hr5 ((But.of_below (P := fun k => k = gd) H4.out.2.2.1).trans (.of_oth ho5 rfl)))); clear hd5 ho5 ho5' hr5))
          clear KK
          by_cases he : e' = 0
          · have a4 : (e' != 0) = false := by rw [bne_eq_false_iff_eq]; exact he
            have HE := Lib.hid he
            clear he
            go_wp2
            go_ret2
            rw [HT.out.2]
            obtain ⟨Ar, cr, hj⟩ := JAt.of_rdr H5.out.2.1 (by omega) hlo H5.out.2.2.size
            exact ⟨H5.out.1, H5.out.2.2, .inl ⟨HE.out, _, Ar, cr, rfl, hj⟩⟩
          · have a4 : (e' != 0) = true := by rw [bne_iff_ne]; exact he
            have HE := Aside0.mk he
            clear he
            go_wp2
            go_ret2
            rw [HT.out.2]
            exact ⟨H5.out.1, H5.out.2.2, .inr ⟨HE.out, rfl⟩⟩
end Go.Proofs.Ytcgefilboefnpaa.H
/- journal.Compact. -/
namespace Go.Proofs.Ytcgefilboefnpaa.H
open Go.RowKit Go.Proofs.YtcgefilboefnpaaW.PrintWords Go.Proofs.YtcgefilboefnpaaW.PrintLast Go.Proofs.YtcgefilboefnpaaW.PrintMore Go.Proofs.Ytcgefilboefnpaa.CrcM
set_option linter.unusedVariables false
set_option linter.unusedSimpArgs false

set_option maxHeartbeats 3200000 in
theorem JCompact_calls [Pl] (gj gd B : Nat) (Ar : Option Addr) (cr : Nat) (j : Jn) (d : Dv) (A : Option Addr) (c n : Nat) (snap : List Int) (x : Dv × Jn × Int) (W : World) (hx : compactJ d j snap = x) (hsn : snap.length = n) (h : JAt W B gj gd Ar cr j) (hd : DevAt W gd d) (hBW : B ≤ W.heap.size)
    (hl : ∀ W', But (JP gj gd Ar) W W' → Kd.C (Kd.int .u8) W' A n snap) (hc : n ≤ c) (hn : n ≤ 100000) (ha0 : 0 ≤ j.age) (ha1 : j.age < 18446744073709551616) (hr : j.region = 0 ∨ j.region = 1) (hf : d.fit 100000 100000000000) :
    Calls Try.prog 21 #[.pointer (some ⟨gj, 0, none⟩), .slice A n c] W (JPost B gj gd Ar x W) := by
  obtain ⟨ag, hag⟩ : ∃ n : Nat, j.age = n := ⟨j.age.toNat, by omega⟩
  have hx0 : (if j.age = 18446744073709551615 then (d, j, 3) else if heavyJ (ag + 1) n > d.cap then (d, j, 6) else if d.down = true then (d, j, 30) else beginJ d j (1 - j.region) (ag + 1) snap) = x := by
    rw [← hx]; unfold compactJ; rw [hag, Int.toNat_natCast, hsn]
  have haw : j.age ≠ 18446744073709551615 → IntKind.u64.wrap ((ag : Int) + 1) = ((ag + 1 : Nat) : Int) ∧ ag + 1 < 2 ^ 64 := fun h => by
    have h1 : (2 : Nat) ^ 64 = 18446744073709551616 := by decide
    exact ⟨by rw [wraps_u64 _ (by omega) (by have : (2 : Int) ^ 64 = 18446744073709551616 := by decide
                                             omega)]; omega, by omega⟩
  obtain ⟨z0, z1, z2, hglj⟩ : W.cell? ⟨gj, 0, none⟩ = some (.pointer (some ⟨gd, 0, none⟩)) ∧ W.cell? ⟨gj, 1, none⟩ = some (.int .i64 j.region) ∧ W.cell? ⟨gj, 2, none⟩ = some (.int .u64 (ag : Int)) ∧ gj < W.heap.size := by
    obtain ⟨_, As, cs, os, q1, _⟩ := h
    exact ⟨q1.cells.1, q1.cells.2.1, by rw [← hag]; exact q1.cells.2.2.1, q1.lt⟩
  have hr0 : 0 ≤ j.region ∧ j.region ≤ 1 := by omega
  by_cases c1 : j.age = 18446744073709551615
  · rw [if_pos c1] at hx0
    have a1 : ((ag : Int) == 18446744073709551615) = true := by rw [beq_iff_eq, ← hag]; exact c1
    have H := Aside0.mk (And.intro h (And.intro hd hx0))
    clear h hd hl hx hx0 haw c1 hag ha0 ha1 hr
    go_enter Try.func21, Try.ntmps21
    go_wp2
    go_ret
    rw [← H.out.2.2]
    exact ⟨rfl, H.out.2.1, ⟨Ar, cr, H.out.1, fun ad e => .inl ⟨ad, e, rfl⟩⟩, But.refl _ _⟩
  · rw [if_neg c1] at hx0
    have a1 : ((ag : Int) == 18446744073709551615) = false := by rw [beq_eq_false_iff_ne, ← hag]; exact c1
    obtain ⟨hw, hag2⟩ := haw c1
    obtain ⟨hv, hhv⟩ : ∃ r, heavyJ (ag + 1) (n : Int) = r := ⟨_, rfl⟩
    rw [hhv] at hx0
    have H := Aside0.mk (And.intro h (And.intro hd (And.intro hx0 (And.intro hhv (And.intro hl (And.intro hf hag2))))))
    have HA1 := Lib.hid a1
    clear h hd hl hx hx0 haw c1 hag ha0 ha1 hr hag2 hhv hf
    obtain ⟨hr1, hr2⟩ := hr0
    by_cases c2 : hv > d.cap
    · have hx0 := H.out.2.2.1
      rw [if_pos c2] at hx0
      have a2 : decide (d.cap < hv) = true := decide_eq_true c2
      have HX := Aside0.mk hx0
      clear c2 hx0
      go_enter Try.func21, Try.ntmps21
      go_wp2_with (fail)
      go_region_held3 (fun w' => w'.cell? ⟨gj, 0, none⟩ = some (.pointer (some ⟨gd, 0, none⟩)) ∧ w'.cell? ⟨gj, 2, none⟩ = some (.int .u64 (ag : Int))) (first | (with_reducible exact KK.out) | go_keep)
        (first
          | (go_at_call 33; refine (Heavy_calls (ag + 1) n hv _ H.out.2.2.2.2.2.2 (by omega) H.out.2.2.2.1).mono ?_; rintro e w1 ⟨rfl, hb1'⟩; have hb1 : Below W.heap.size W w1 := ⟨hb1'.os, hb1'.tape, hb1'.output, hb1'.size, hb1'.block⟩; have hj1 := H.out.1.below hb1; have KK : Aside0 (w1.cell? ⟨gj, 0, none⟩ = some (.pointer (some ⟨gd, 0, none⟩)) ∧ w1.cell? ⟨gj, 2, none⟩ = some (.int .u64 (ag : Int))) := ⟨⟨(hb1.cell (p := ⟨gj, 0, none⟩) hglj).trans z0, (hb1.cell (p := ⟨gj, 2, none⟩) hglj).trans z2⟩⟩; have HB := Aside0.mk (And.intro hb1 hj1); clear hb1 hb1' hj1)
          | (go_at_call 11; refine (Capacity_eq gd d d.cap _ rfl ?s0).mono ?_; (case s0 => first | exact H.out.2.1.below HB.out.1 | exact H.out.2.1.dr); rintro e w' ⟨rfl, rfl⟩))
      all_goals
        go_wp2
        go_ret
        rw [← HX.out]
        exact ⟨rfl, H.out.2.1.below HB.out.1, ⟨Ar, cr, HB.out.2, fun ad e => .inl ⟨ad, e, rfl⟩⟩, .of_below HB.out.1⟩
    · have hx0 := H.out.2.2.1
      rw [if_neg c2] at hx0
      have a2 : decide (d.cap < hv) = false := decide_eq_false c2
      have HX := Aside0.mk hx0
      clear c2 hx0
      obtain ⟨dn, hdn⟩ : ∃ b, d.down = b := ⟨_, rfl⟩
      have HDN := Lib.hid hdn
      clear hdn
      have hwr : IntKind.i64.wrap (1 - j.region) = 1 - j.region := by rw [IntKind.wrap_i64]; omega
      have HWR := Lib.hid hwr
      clear hwr
      go_enter Try.func21, Try.ntmps21
      go_wp2_with (fail)
      go_region_held3 (fun w' => w'.cell? ⟨gj, 0, none⟩ = some (.pointer (some ⟨gd, 0, none⟩)) ∧ w'.cell? ⟨gj, 2, none⟩ = some (.int .u64 (ag : Int))) (first | (with_reducible exact KK.out) | go_keep)
        (first
          | (go_at_call 33; refine (Heavy_calls (ag + 1) n hv _ H.out.2.2.2.2.2.2 (by omega) H.out.2.2.2.1).mono ?_; rintro e w1 ⟨rfl, hb1'⟩; have hb1 : Below W.heap.size W w1 := ⟨hb1'.os, hb1'.tape, hb1'.output, hb1'.size, hb1'.block⟩; have hj1 := H.out.1.below hb1; have KK : Aside0 (w1.cell? ⟨gj, 0, none⟩ = some (.pointer (some ⟨gd, 0, none⟩)) ∧ w1.cell? ⟨gj, 2, none⟩ = some (.int .u64 (ag : Int))) := ⟨⟨(hb1.cell (p := ⟨gj, 0, none⟩) hglj).trans z0, (hb1.cell (p := ⟨gj, 2, none⟩) hglj).trans z2⟩⟩; have HB := Aside0.mk (And.intro hb1 hj1); clear hb1 hb1' hj1)
          | (go_at_call 11; refine (Capacity_eq gd d d.cap _ rfl ?s0).mono ?_; (case s0 => first | exact H.out.2.1.below HB.out.1 | exact H.out.2.1.dr); rintro e w' ⟨rfl, rfl⟩))
      all_goals
        obtain ⟨y0, y1, y2, hgl1⟩ : w1.cell? ⟨gj, 0, none⟩ = some (.pointer (some ⟨gd, 0, none⟩)) ∧ w1.cell? ⟨gj, 1, none⟩ = some (.int .i64 j.region) ∧ w1.cell? ⟨gj, 2, none⟩ = some (.int .u64 (ag : Int)) ∧ gj < w1.heap.size := by
          exact ⟨KK.out.1, (HB.out.1.cell (p := ⟨gj, 1, none⟩) hglj).trans z1, KK.out.2, Nat.lt_of_lt_of_le hglj HB.out.1.size⟩
        clear KK
        go_wp2_with (fail)
        refine (Down_eq gd d dn _ HDN.out (H.out.2.1.below HB.out.1)).mono ?_
        rintro e w' ⟨rfl, rfl⟩
        cases dn with
        | true =>
          have hx0 := HX.out
          rw [HDN.out, if_pos rfl] at hx0
          have HXX := Lib.hid hx0
          clear hx0
          go_wp2
          go_ret
          rw [← HXX.out]
          exact ⟨rfl, H.out.2.1.below HB.out.1, ⟨Ar, cr, HB.out.2, fun ad e => .inl ⟨ad, e, rfl⟩⟩, .of_below HB.out.1⟩
        | false =>
          have hx0 := HX.out
          rw [HDN.out, if_neg (by simp)] at hx0
          have HXX := Lib.hid hx0
          clear hx0
          have hwr := HWR.out
          go_wp2_with (fail)
          go_region_law
            ((go_simp; go_at_call 43; refine (begin_eq gj gd B Ar cr j d (1 - j.region) (ag + 1) n A c snap x _ HXX.out hsn ?s0 ?s1 ?s2 ?s3 hc hn H.out.2.2.2.2.2.2 H.out.2.2.2.2.2.1).mono ?_; (case s0 => exact HB.out.2.below ⟨rfl, rfl, rfl, Nat.le_refl _, fun _ _ => rfl⟩); (case s1 => exact (H.out.2.1.below HB.out.1).dr); (case s2 => exact Nat.le_trans hBW HB.out.1.size); (case s3 => exact fun W' hW' => H.out.2.2.2.2.1 W' ((But.of_below HB.out.1).trans ⟨hW'.os, hW'.tape, hW'.output, hW'.size, hW'.block⟩)); rintro e w2 ⟨rfl, hd2, ⟨Ar', cr', hj2, hA2⟩, hbut2⟩; have H2 := Aside0.mk (And.intro hd2 (And.intro hj2 (And.intro hA2 hbut2))); clear hd2 hj2 hA2 hbut2))
          all_goals
           go_wp2
           go_ret
           have hbut : But (JP gj gd Ar) W w2 := (But.of_below HB.out.1).trans ⟨H2.out.2.2.2.os, H2.out.2.2.2.tape, H2.out.2.2.2.output, H2.out.2.2.2.size, H2.out.2.2.2.block⟩
           exact ⟨rfl, H2.out.1, ⟨Ar', cr', H2.out.2.1, fun ad e => by
            rcases H2.out.2.2.1 ad e with h | h
            · exact .inl h
            · exact .inr (Nat.le_trans HB.out.1.size h)⟩, hbut⟩
end Go.Proofs.Ytcgefilboefnpaa.H
