/- Some texts of one seat in one file, in build order. -/
import Derived.Test.YtcgefilboefnpaaG12
import Derived.Test.YtcgefilboefnpaaG5
import Derived.Sort.QuietIn
/- journal.Append. -/
namespace Go.Proofs.Ytcgefilboefnpaa.H
open Go.RowKit Go.Proofs.YtcgefilboefnpaaW.PrintWords Go.Proofs.YtcgefilboefnpaaW.PrintLast Go.Proofs.YtcgefilboefnpaaW.PrintMore Go.Proofs.Ytcgefilboefnpaa.CrcM
set_option linter.unusedVariables false
set_option linter.unusedSimpArgs false

/-- What a method that turns a journal leaves. -/
def JPost [Pl] (B gj gd : Nat) (Ar : Option Addr) (x : Dv × Jn × Int) (W : World) (e : Ending) (W' : World) : Prop :=
  e = .returned (.int .i64 x.2.2) ∧ DevAt W' gd x.1 ∧ (∃ Ar' cr', JAt W' B gj gd Ar' cr' x.2.1 ∧ ∀ ad, Ar' = some ad → (∃ ad0, Ar = some ad0 ∧ ad.block = ad0.block) ∨ W.heap.size ≤ ad.block) ∧ But (JP gj gd Ar) W W'
theorem JAt.dev [Pl] {W W' : World} {B gj gd : Nat} {Ar : Option Addr} {cr : Nat} {j : Jn} {d : Dv} (h : JAt W B gj gd Ar cr j) (hd : DevAt W gd d) (ho : Oth gd W W') : JAt W' B gj gd Ar cr j := by
  obtain ⟨h0, As, cs, os, h1, h2, h3, h4, h5⟩ := h
  obtain ⟨A0, c0, A1, c1, hB, _⟩ := hd
  have hne : gj ≠ gd := by
    obtain ⟨cells, t, h6, _, _, h9⟩ := h1.some
    exact ne_block' h6 hB (Ne.symm h9)
  exact ⟨h0, As, cs, os, h1.blk (ho.block _ h1.lt hne), h2, h3.oth hB (by decide) ho, R_oth h4 hB (by decide) ho, h5.imp (fun A l hr => hr.oth hB (by decide) ho)⟩
theorem JB.put4 {W : World} {gj gd : Nat} {As : Option Addr} {cs : Nat} {Ar : Option Addr} {cr : Nat} {j : Jn} (h : JB W gj gd As cs Ar cr j) (A : Option Addr) (c : Nat) (recs : List (List Int)) (n : Nat) (hn : recs.length = n) : JB (W.setCell ⟨gj, 4, none⟩ (.slice A n c)) gj gd As cs A c { j with recs := recs } := by
  subst hn
  obtain ⟨rest, t, ht, h⟩ := h
  exact ⟨rest, t, ht, blk_put h 4 _ (by simp [jCells])⟩
theorem JB.put5 {W : World} {gj gd : Nat} {As : Option Addr} {cs : Nat} {Ar : Option Addr} {cr : Nat} {j : Jn} (h : JB W gj gd As cs Ar cr j) (x : Int) : JB (W.setCell ⟨gj, 5, none⟩ (.int .i64 x)) gj gd As cs Ar cr { j with fin := x } := by
  obtain ⟨rest, t, ht, h⟩ := h
  exact ⟨rest, t, ht, blk_put h 5 _ (by simp [jCells])⟩
theorem C_dev [Pl] {W : World} {gd : Nat} {d : Dv} {A : Option Addr} {l : List Int} {n : Nat} (hd : DevAt W gd d) (hC : Kd.C (Kd.int .u8) W A n l) : ∀ W', Oth gd W W' → Kd.C (Kd.int .u8) W' A n l := fun W' ho => by
  obtain ⟨A0, c0, A1, c1, hB, _⟩ := hd
  exact ho.C hB (by intro v hv i; simp at hv; rcases hv with rfl | rfl | rfl | rfl | rfl | rfl <;> simp) hC
theorem DevAt.dr [Pl] {W : World} {g : Nat} {d : Dv} (h : DevAt W g d) : DevAt W.drew g d := h.below ⟨rfl, rfl, rfl, Nat.le_refl _, fun _ _ => rfl⟩
theorem Oth.of_dr {g : Nat} {W W' : World} (h : Oth g W.drew W') : Oth g W W' := ⟨h.os, h.tape, h.output, h.size, h.block⟩
set_option maxHeartbeats 3200000 in
theorem JAppend_calls [Pl] (gj gd B : Nat) (Ar : Option Addr) (cr : Nat) (j : Jn) (d : Dv) (A : Option Addr) (c : Nat) (l : List Int) (x : Dv × Jn × Int) (W : World) (hx : appendJ d j l = x) (h : JAt W B gj gd Ar cr j) (hd : DevAt W gd d) (hBW : B ≤ W.heap.size)
    (hl : ∀ W', But (JP gj gd Ar) W W' → Kd.C (Kd.int .u8) W' A l.length l) (hc : l.length ≤ c) (hn : l.length ≤ 1000000) (hf : d.fit 1000000 1000000000000) (hrl : j.recs.length ≤ 1000000) (hf0 : 0 ≤ j.fin) (hf1 : j.fin ≤ 10000000) :
    Calls Try.prog 16 #[.pointer (some ⟨gj, 0, none⟩), .slice A l.length c] W (JPost B gj gd Ar x W) := by
  obtain ⟨wb, we, hw⟩ : ∃ wb we, writeF 4 l = (wb, we) := ⟨_, _, rfl⟩
  obtain ⟨wn, hwn⟩ : ∃ n, wb.length = n := ⟨_, rfl⟩
  obtain ⟨d', e', ha⟩ : ∃ d' e', appendD d j.region wb = (d', e') := ⟨_, _, rfl⟩
  have hwl : wn ≤ 5000 := by rw [← hwn]; have := writeF_len 4 l; rw [hw] at this; simp only at this; omega
  have hX : x = if we ≠ 0 then (d, j, we) else if e' ≠ 0 then (d', j, e') else (d', { j with recs := j.recs ++ [l], fin := j.fin + (wn : Int) }, 0) := by
    rw [← hx]; unfold appendJ; simp only [hw, ha, hwn]
  have hlo := h.lo
  have H := Aside0.mk (And.intro h (And.intro hd (And.intro hl (And.intro hf (And.intro hw (And.intro hwn (And.intro ha hX)))))))
  clear h hd hl hf hw hwn ha hX hx
  go_enter Try.func16, Try.ntmps16
  go_wp2_with (fail)
  refine (Write_eq 4 A c l.length wn l wb we _ rfl H.out.2.2.2.2.2.1 H.out.2.2.2.2.1 (H.out.2.2.1 _ (But.refl _ _)) hc).mono ?_
  rintro e w1 ⟨A1, c1, rfl, hc1, hC1, hb1⟩
  have H1 := Aside0.mk (And.intro hC1 hb1)
  clear hC1 hb1
  by_cases hwe : we = 0
  · have a1 : (we != 0) = false := by rw [bne_eq_false_iff_eq]; exact hwe
    have hX := H.out.2.2.2.2.2.2.2
    rw [if_neg (by simp [hwe])] at hX
    have hJ1 := H.out.1.below H1.out.2
    have hD1 := H.out.2.1.below H1.out.2
    have HX := Aside0.mk (And.intro hX (And.intro hJ1 hD1))
    obtain ⟨z0, z1⟩ : w1.cell? ⟨gj, 0, none⟩ = some (.pointer (some ⟨gd, 0, none⟩)) ∧ w1.cell? ⟨gj, 1, none⟩ = some (.int .i64 j.region) := by
      obtain ⟨_, As, cs, os, q1, _⟩ := hJ1
      exact ⟨q1.cells.1, q1.cells.2.1⟩
    clear hX hJ1 hD1 hwe
    go_wp2_with (fail)
    go_region_held3 (fun w' => w'.cell? ⟨gj, 0, none⟩ = some (.pointer (some ⟨gd, 0, none⟩)) ∧ w'.cell? ⟨gj, 1, none⟩ = some (.int .i64 j.region)) (first | (with_reducible exact KK.out) | go_keep)
      ((go_at_call 39; refine (Append_eq gd d d' j.region A1 c1 wn wb e' _ H.out.2.2.2.2.2.1 H.out.2.2.2.2.2.2.1 ?s0 ?s1 hc1 H.out.2.2.2.1 (by omega)).mono ?_; (case s0 => exact HX.out.2.2.dr); (case s1 => rw [H.out.2.2.2.2.2.1]; exact C_dev HX.out.2.2.dr (Kd.C_drew H1.out.1)); rintro e w2 ⟨rfl, hd2, ho2'⟩; have ho2 := ho2'.of_dr; have hj2 := HX.out.2.1.dev HX.out.2.2 ho2; have KK : Aside0 (w2.cell? ⟨gj, 0, none⟩ = some (.pointer (some ⟨gd, 0, none⟩)) ∧ w2.cell? ⟨gj, 1, none⟩ = some (.int .i64 j.region)) := (by obtain ⟨_, As, cs, os, q1, _⟩ := hj2; exact ⟨⟨q1.cells.1, q1.cells.2.1⟩⟩); have H2 := Aside0.mk (And.intro hd2 (And.intro hj2 ho2)); clear hd2 ho2' ho2 hj2))
    have hbut2 : But (JP gj gd Ar) W w2 := (But.of_below H1.out.2).trans (.of_oth H2.out.2.2 (.inr (.inl rfl)))
    have HB2 := Aside0.mk hbut2
    clear hbut2 KK z0 z1
    by_cases he : e' = 0
    · have a2 : (e' != 0) = false := by rw [bne_eq_false_iff_eq]; exact he
      have hX := HX.out.1
      rw [if_neg (by simp [he])] at hX
      have HXX := Lib.hid hX
      have hCl := H.out.2.2.1 _ HB2.out
      obtain ⟨q0, As, cs, os, q1, q2, q3, q4, q5⟩ := H2.out.2.1
      obtain ⟨z0, z1, z2, z3, z4, z5⟩ := q1.cells
      have f4 := q1.frozen 4
      have hgl := q1.lt
      obtain ⟨nr, hnr⟩ : ∃ n, j.recs.length = n := ⟨_, rfl⟩
      rw [hnr] at z4 q4 hrl
      have honr : os.length = nr := by rw [q5.1]; exact hnr
      obtain ⟨cells, tj, hcj, hn8, hn32, _⟩ := q1.some
      have HQ := Aside0.mk (And.intro q1 (And.intro q2 (And.intro q3 (And.intro q4 (And.intro q5 (And.intro hnr (And.intro honr (And.intro hcj (And.intro hn8 (And.intro hn32 (And.intro hCl q0)))))))))))
      have hBs2 : B ≤ w2.heap.size := Nat.le_trans hBW HB2.out.size
      clear hX he q0 q1 q2 q3 q4 q5 hnr honr hcj hn8 hn32 hCl z0 z1 z2 z3
      go_wp2_with (fail)
      go_region_law
        (first
          | (go_simp; go_at_call 40; refine (Clone_calls A c l _ ?s0 hc (by omega)).mono ?_; (case s0 => exact Kd.C_drew HQ.out.2.2.2.2.2.2.2.2.2.2.1); rintro e w3 ⟨v3, rfl, ho3, hb3'⟩; have hb3 : Below w2.heap.size w2 w3 := ⟨hb3'.os, hb3'.tape, hb3'.output, hb3'.size, hb3'.block⟩; obtain ⟨A3, c3, e3, hc3, hr3⟩ := Rd.of_R ho3 (Nat.le_trans hlo HB2.out.size) hb3.size; subst e3; have hs3 : w2.heap.size ≤ w3.heap.size := hb3.size; have hgl3 : gj < w3.heap.size := (Nat.lt_of_lt_of_le hgl hs3); have z4 : w3.cell? ⟨gj, 4, none⟩ = some (.slice Ar nr cr) := (hb3.cell (p := ⟨gj, 4, none⟩) hgl).trans z4; have H3 := Aside0.mk (And.intro hb3 (And.intro hr3 hc3)); clear ho3 hb3 hb3' hr3 hc3)
          | (refine Kd.R_append_step KSl B (by rfl) (.tmp 34) (.tmp 37) 36 32 (.slice none 0 0) 24 rfl Try.underlying36 info_sl36 rfl (by decide) (by omega) (.slice Ar nr cr) os (A3, l.length, c3) [.slice A3 l.length c3] (fun _ => True) (fun _ => False) (by rfl) (by rfl) rfl (fun _ hk => hk.elim) (fun _ _ => trivial) (Kd.R_below HQ.out.2.2.2.1 H3.out.1) (Below.refl _ _) ?s1 ?s2 ?_; (case s1 => exact Nat.le_trans hBs2 hs3); (case s2 => rw [HQ.out.2.2.2.2.2.2.1]; omega); intro v8 w8 ho8 hb8 hg8 hat8; obtain ⟨A8, c8, e8⟩ := Kd.R_slice ho8; subst e8; have hx8 := blk_grown (Kd.R_below HQ.out.2.2.2.1 H3.out.1) (blk_belowX HQ.out.2.2.2.2.2.2.2.1 H3.out.1) HQ.out.2.2.2.2.2.2.2.2.2.1 hg8; have hj8 := HQ.out.1.blk (hx8.trans HQ.out.2.2.2.2.2.2.2.1.symm); have d8 := hj8.cells.2.2.2.2.1; have f8 := hj8.frozen 4; have s8 := hj8.lt; have HO8 := Aside0.mk (And.intro ho8 (And.intro hg8 (And.intro hj8 (And.intro hat8 hx8)))); clear ho8 hb8 hg8 hat8 hx8 hj8))
      all_goals
        rw [HQ.out.2.2.2.2.2.2.1]
        obtain ⟨q1, q2, q3, q4, q5, hnr, honr, hcj, hn8, hn32, hCl, q0⟩ := HQ.out
        obtain ⟨m1, m2, m3⟩ := H3.out
        obtain ⟨k1, k2, k3, k4, k5⟩ := HO8.out
        have hJ9 := k3.put4 A8 c8 (j.recs ++ [l]) (nr + 1) (by simp [hnr])
        have ho9 : Oth gj w8 (w8.setCell ⟨gj, 4, none⟩ (.slice A8 (nr + 1) c8)) := Oth.set w8 ⟨gj, 4, none⟩ _
        obtain ⟨cells9, t9, hc9, _⟩ := hJ9.some
        have hR9 : KSl.R 32 (w8.setCell ⟨gj, 4, none⟩ (.slice A8 (nr + 1) c8)) B (fun _ => True) (.slice A8 (nr + 1) c8) (os ++ [(A3, l.length, c3)]) := by
          rw [List.length_append, List.length_singleton, honr] at k1
          exact R_oth k1 k5 (by intro q hq; simp [KSl, Kd.scalar] at hq; rw [hq]; exact hn32) ho9
        have hown : ∀ i, some i = (Value.slice Ar nr cr).ownBlock → ∃ cells, w2.heap[i]? = some (.cells cells 32 (0, 0)) := fun i hi => by
          obtain ⟨_, ho'⟩ := Kd.R_own q4
          exact own_typed ho' i hi.symm
        have hbut9 : But (fun i => i = gj ∨ some i = (Value.slice Ar nr cr).ownBlock) w2 (w8.setCell ⟨gj, 4, none⟩ (.slice A8 (nr + 1) c8)) :=
          ((But.of_below m1).trans (.of_grown k2 (fun i hi => .inr hi.symm))).trans (.of_oth ho9 (.inl rfl))
        have hrow9 : Rd (w8.setCell ⟨gj, 4, none⟩ (.slice A8 (nr + 1) c8)) A3 l :=
          Rd.oth ⟨C_ty m2.2.1 m2.1 (tyGrown3 (Kd.R_below q4 m1) (by decide) k2), m2.2.1.of_ty (tyGrown3 (Kd.R_below q4 m1) (by decide) k2), Nat.le_trans m2.2.2.1 k2.size, m2.2.2.2⟩ k5 hn8 ho9
        have z5' := hJ9.cells.2.2.2.2.2
        have g5' := hJ9.frozen 5
        have hgl9 := hJ9.lt
        have HJ9 := Aside0.mk (And.intro hJ9 (And.intro hR9 (And.intro hbut9 (And.intro hrow9 (And.intro hown k4)))))
        clear hJ9 ho9 hc9 hR9 hown hbut9 hrow9 q0 q1 q2 q3 q4 q5 hnr honr hcj hn8 hn32 hCl m1 m2 m3 k1 k2 k3 k4 k5 z4 f4 f8 d8 s8
        generalize w8.setCell ⟨gj, 4, none⟩ (.slice A8 (nr + 1) c8) = w9 at *
        go_wp2
        go_ret
        obtain ⟨q1, q2, q3, q4, q5, hnr, honr, hcj, hn8, hn32, hCl, q0⟩ := HQ.out
        obtain ⟨m1, m2, m3, m4, m5, m6⟩ := HJ9.out
        have hs3' := H3.out.1.size
        have hs2' := HB2.out.size
        have hJ10 := m1.put5 (j.fin + (wn : Int))
        have ho10 : Oth gj w9 (w9.setCell ⟨gj, 5, none⟩ (.int .i64 (j.fin + (wn : Int)))) := Oth.set w9 ⟨gj, 5, none⟩ _
        obtain ⟨cells9, t9, hc9, hd8, hd32, hdd⟩ := m1.some
        have hbut10 := m3.trans (.of_oth ho10 (.inl rfl))
        have hno : ∀ (i : Nat) (cs : Array Value) (t : TypeId) (z : Nat × Nat), w2.heap[i]? = some (.cells cs t z) → t ≠ 32 → i ≠ gj → ¬ (i = gj ∨ some i = (Value.slice Ar nr cr).ownBlock) := by
          rintro i cs t z hi ht hg (h | h)
          · exact hg h
          · obtain ⟨cells, hc⟩ := m5 i h
            exact ne_block' hi hc ht rfl
        have hno8 : ∀ (i : Nat) (cs : Array Value) (z : Nat × Nat), w2.heap[i]? = some (.cells cs 5 z) → ¬ (i = gj ∨ some i = (Value.slice Ar nr cr).ownBlock) := fun i cs z hi => hno i cs _ z hi (by decide) (ne_block' hi hcj hn8)
        rw [HXX.out]
        refine ⟨rfl, hbut10.DevAt H2.out.1 ?_ hno8, ⟨A8, c8, ⟨q0, As, cs, os ++ [(A3, l.length, c3)], hJ10, q2, hbut10.Rd q3 hno8, ?_, ?_⟩, ?_⟩, HB2.out.trans (hbut10.mono ?_)⟩
        · obtain ⟨A0, c0, A1', c1', hB, _⟩ := H2.out.1
          refine hno gd _ _ _ hB (by decide) ?_
          obtain ⟨cells, t, h6, _, _, h9⟩ := q1.some
          exact (ne_block' h6 hB (Ne.symm h9)).symm
        · have := R_oth m2 hc9 (by intro q hq; simp [KSl, Kd.scalar] at hq; rw [hq]; exact hd32) ho10
          simp only [List.length_append, List.length_singleton, hnr]
          exact this
        · exact (q5.imp (fun A l hr => hbut10.Rd hr hno8)).snoc ⟨rfl, H3.out.2.2, m4.oth hc9 hd8 ho10⟩
        · intro ad e
          rcases m6 with h | ⟨b, h, hb⟩
          · rw [e] at h
            cases hAr : Ar with
            | none => rw [hAr] at h; simp [Value.ownBlock] at h
            | some ad0 => rw [hAr] at h; simp [Value.ownBlock] at h; exact .inl ⟨ad0, rfl, h⟩
          · rw [e] at h; simp [Value.ownBlock] at h; exact .inr (by omega)
        · rintro i hi (rfl | h)
          · exact .inl rfl
          · cases hAr : Ar with
            | none => rw [hAr] at h; simp [Value.ownBlock] at h
            | some ad0 => rw [hAr] at h; simp [Value.ownBlock] at h; exact .inr (.inr ⟨ad0, rfl, h⟩)
    · have a2 : (e' != 0) = true := by rw [bne_iff_ne]; exact he
      have hX := HX.out.1
      rw [if_pos (by simp [he])] at hX
      have HXX := Lib.hid hX
      clear hX he
      go_wp2
      go_ret
      rw [HXX.out]
      exact ⟨rfl, H2.out.1, ⟨Ar, cr, H2.out.2.1, fun ad e => .inl ⟨ad, e, rfl⟩⟩, HB2.out⟩
  · have a1 : (we != 0) = true := by rw [bne_iff_ne]; exact hwe
    have hX := H.out.2.2.2.2.2.2.2
    rw [if_pos (by simp [hwe])] at hX
    have HX := Lib.hid hX
    clear hX hwe
    go_wp2
    go_ret
    rw [HX.out]
    exact ⟨rfl, H.out.2.1.below H1.out.2, ⟨Ar, cr, H.out.1.below H1.out.2, fun ad e => .inl ⟨ad, e, rfl⟩⟩, .of_below H1.out.2⟩
end Go.Proofs.Ytcgefilboefnpaa.H
/- slices.Chunk over bytes: the pieces, one by one. -/
namespace Go.Proofs.Ytcgefilboefnpaa.H
open Go.RowKit Go.Proofs.YtcgefilboefnpaaW.PrintWords Go.Proofs.YtcgefilboefnpaaW.PrintLast Go.Proofs.YtcgefilboefnpaaW.PrintMore Go.Proofs.Ytcgefilboefnpaa.CrcM
set_option linter.unusedVariables false
set_option linter.unusedSimpArgs false
attribute [local go_sem] Oper.semAt_some wide_fn wide_depth max2_int min2_int

/-- A part of a row, with no room behind it. -/
theorem mid_of {P : Program} {t e : TypeId} {ti : TypeInfo} (ht : P.underlying t = some (.slice e)) (hi : P.info? e = some ti) (hsz : ti.size = 1) (A : Option Addr) (c i j : Nat) (xs : List Int) (hij : i < j) (hj : j ≤ xs.length) (hc : xs.length ≤ c) :
    ∃ A' : Option Addr, (∀ W : World, (Instr.slice t (.slice A xs.length c) (some (.int .i64 (i : Int))) (some (.int .i64 (j : Int))) (some (.int .i64 (j : Int)))).run P W = .ok (.slice A' (j - i) (j - i)) W) ∧
      ∀ w, Kd.C (Kd.int .u8) w A xs.length xs → Kd.C (Kd.int .u8) w A' (j - i) ((xs.drop i).take (j - i)) := by
  refine ⟨if c = i then A else A.map (·.add i), fun W => ?_, fun w h => ?_⟩
  · have hel : P.elem t = e := by simp [Program.elem, ht]
    have hu : P.underlying t = some (.slice (P.elem t)) := by rw [hel]; exact ht
    rw [run_slice_lhm W t A xs.length c hu .i64 .i64 .i64 (i : Int) (j : Int) (j : Int) (by omega) (by omega) (by omega) (by omega), hel]
    have h1 : ¬ j = i := by omega
    have h2 : ¬ c = i := by omega
    simp [sizeOf, typeInfo, hi, hsz, sliced, Result.andThen, h1, h2]
  · have h1 := Kd.C_of_reads (h1 := fun _ => rfl) ((Kd.reads_of_C (d := (0 : Int)) h).drop_ i (by omega) hc)
    rw [← List.length_drop] at h1
    exact C_take_n h1 (by rw [List.length_take, List.length_drop]; omega) (by rw [List.length_drop]; omega)
theorem chunksL_cons (k : Nat) (l : List Int) (h : 0 < l.length) : chunksL (k + 1) l = l.take 4096 :: chunksL k (l.drop 4096) := by
  have e : chunksL (k + 1) l = if l = [] then [] else l.take 4096 :: chunksL k (l.drop 4096) := rfl
  rw [e, if_neg (fun h2 => by subst h2; exact absurd h (by simp))]
/-- What the func tells a round. -/
def ChY (A0 : Option Addr) (l : List Int) (pre : List (List Int)) (x : List Int) (vs : Array Value) (W : World) : Prop :=
  pre ++ [x] <+: chunksF l ∧ ∃ A c, vs = #[.slice A x.length c] ∧ x.length ≤ c ∧ ∀ w, Kd.C (Kd.int .u8) w A0 l.length l → Kd.C (Kd.int .u8) w A x.length x

set_option maxHeartbeats 1600000 in
theorem Chunk1_seq (n : Nat) (b : List Int) (hl : b.length ≤ 1000000) (A : Option Addr) (c : Nat) (hc : b.length ≤ c) (bb b2 n₀ : Nat) (Kb : Nat → Prop) (w : World)
    (hbox : ∀ W, Kp n₀ Kb w W → W.cell? ⟨bb, 0, none⟩ = some (.slice A b.length c)) (hbox2 : ∀ W, Kp n₀ Kb w W → W.cell? ⟨b2, 0, none⟩ = some (.int .i64 4096)) (hn : n₀ ≤ w.heap.size) :
    SeqX Fence.wide n Try.prog 88 #[.pointer (some ⟨bb, 0, none⟩), .pointer (some ⟨b2, 0, none⟩)] (ChY A b) n₀ Kb (fun xs => xs = chunksF b) (fun _ => True) w := by
  intro l J Jx W hK hJ hJx hY h0
  refine callsIn_of_wp Try.func88 rfl trivial ?_ rfl
  simp only [Try.ntmps88, List.size_toArray, List.length_cons, List.length_nil, Nat.reduceAdd, Nat.reduceSub, Array.replicate_succ, Array.replicate_zero, List.push_toArray, List.append_toArray, List.nil_append, List.cons_append]
  gi_wp2
  gi_loopw [4] (fun p wr => ∃ (pre : List (List Int)) (at_ k : Nat), p = .int .i64 (at_ : Int) ∧ at_ ≤ b.length + 4096 ∧ b.length + 1 ≤ k + at_ ∧ chunksF b = pre ++ chunksL k (b.drop at_) ∧ J pre wr ∧ Kp n₀ Kb w wr)
    (fun p wr => match p with | .int _ v => b.length + 1 - v.toNat | _ => 0)
  case atStart => exact ⟨[], 0, b.length + 1, rfl, by omega, by omega, rfl, h0, hK⟩
  case round =>
    obtain ⟨pre, at_, k, rfl, h1, h2, h3, h4, h5⟩ := hrel
    have hcell := hbox wr h5
    have hcell2 := hbox2 wr h5
    by_cases hlt : at_ < b.length
    · obtain ⟨i0, hi0, _, hsz, _⟩ := info_parts info_u8
      obtain ⟨A2, hcut, hreads, hld⟩ := print_drop_of (P := Try.prog) (Value.int .u8) 0 32 5 .i64 Try.underlying32 hi0 hsz A c b (at_ : Int) (by omega) (by omega) hc
      rw [Int.toNat_natCast] at hcut hreads hld
      obtain ⟨en, hen⟩ : ∃ en : Nat, en = min 4096 (b.length - at_) := ⟨_, rfl⟩
      obtain ⟨A3, hmid, hmc⟩ := mid_of (P := Try.prog) (t := 32) (e := 5) Try.underlying32 hi0 hsz A c at_ (at_ + en) b (by omega) (by omega) hc
      rw [show at_ + en - at_ = en by omega, show ((at_ + en : Nat) : Int) = (at_ : Int) + (en : Int) by omega] at hmid
      rw [show at_ + en - at_ = en by omega] at hmc
      have hxl : ((b.drop at_).take en).length = en := by rw [List.length_take, List.length_drop]; omega
      have hdl : (b.drop at_).length = b.length - at_ := List.length_drop
      obtain ⟨k', rfl⟩ : ∃ k', k = k' + 1 := ⟨k - 1, by omega⟩
      have hch : chunksL (k' + 1) (b.drop at_) = (b.drop at_).take en :: chunksL k' (b.drop (at_ + 4096)) := by
        have e : (b.drop at_).take en = (b.drop at_).take 4096 := by
          rcases (by omega : en = 4096 ∨ (b.drop at_).length ≤ en ∧ (b.drop at_).length ≤ 4096) with h | ⟨h1, h2⟩
          · rw [h]
          · rw [List.take_of_length_le h1, List.take_of_length_le h2]
        rw [chunksL_cons k' _ (by omega), List.drop_drop, e]
      rw [hch] at h3
      generalize (b.drop at_).take en = x at hmc hxl h3
      rw [hdl] at hcut
      have b0 : (at_ : Int) < (b.length : Int) := by omega
      have H3 := Lib.hid h3
      have HX := Aside0.mk (And.intro hmc hxl)
      have henI : (en : Int) ≤ 4096 := by omega
      have hp1 : (at_ : Int) ≤ 1000000 := by omega
      clear hreads hi0 hsz hmc hch h3 hxl hdl hld
      have hmin : (if ((b.length - at_ : Nat) : Int) < 4096 then ((b.length - at_ : Nat) : Int) else (4096 : Int)) = (en : Int) := by split <;> omega
      have hsub : ((b.length - at_ : Nat) : Int) ≤ 1000000 := by omega
      have hen0 : 0 < en := by omega
      have henc : (at_ : Int) + en ≤ c := by omega
      have hfin : at_ + en = b.length ∨ en = 4096 := by omega
      have HF := Lib.hid hfin
      clear hfin hen
      gi_wp2
      gi_quiet (fail)
      try simp only [hmin]
      have hbw : Below wr.heap.size wr (wr.drewN nq) := ⟨rfl, rfl, rfl, Nat.le_refl _, fun _ _ => rfl⟩
      obtain ⟨fn, tmps, asg, body, hy, hR⟩ := hY pre x #[.slice A3 en en] _ (hJ _ _ _ h4 hbw) ⟨by rw [H3.out]; exact ⟨_, by rw [List.append_assoc, List.singleton_append]⟩, A3, en, by rw [HX.out.2], by rw [HX.out.2]; exact Nat.le_refl _, by rw [HX.out.2]; exact HX.out.1⟩
      have e1 : (at_ : Int) + en = ((at_ + en : Nat) : Int) := by omega
      have HE := Lib.hid e1
      have hK5 := h5.trans (.of_below hbw (by have := h5.1; omega))
      have c1 := hbox _ hK5
      have c2 := hbox2 _ hK5
      clear hmin hsub e1
      generalize wr.drewN nq = w2 at *
      gi_wp2
      refine hR.mono ?_
      rintro e W3 (⟨rfl, hJ3, hk3⟩ | ⟨rfl, hJx3⟩)
      · have c3 := hbox2 _ (hK5.trans hk3)
        gi_wp2
        go_roundw
        case rel => exact ⟨pre ++ [x], at_ + 4096, k', by go_num, by omega, by omega, by rw [H3.out]; simp, hJ3, hK5.trans hk3⟩
        case measure => simp; omega
      · gi_wp2
        refine bodyPost_ret (results_none rfl _ _ _) rfl ?_
        exact ⟨⟨_, rfl⟩, .inr ⟨_, trivial, hJx3⟩⟩
    · have hd : b.drop at_ = [] := List.drop_eq_nil_of_le (by omega)
      have hch : chunksL k (b.drop at_) = [] := by rw [hd]; cases k <;> rfl
      rw [hch, List.append_nil] at h3
      have H3 := Lib.hid h3
      have b0 : ¬ (at_ : Int) < (b.length : Int) := by omega
      clear hd hch h3
      gi_wp2
      go_end0
      exact ⟨⟨_, rfl⟩, .inl (by rw [H3.out]; exact h4)⟩
theorem Chunk_calls (A : Option Addr) (n c : Nat) (w : World) : Calls Try.prog 81 #[.slice A n c, .int .i64 4096] w fun e w' =>
    e = .returned (.func (.func 88) #[] #[.pointer (some ⟨w.heap.size, 0, none⟩), .pointer (some ⟨w.heap.size + 1, 0, none⟩)]) ∧ w' = (w.alloc (.cells #[.slice A n c] 32)).alloc (.cells #[.int .i64 4096] 3) := by
  go_enter Try.func81, Try.ntmps81
  go_wp2
  go_ret
  exact ⟨rfl, rfl⟩
theorem pieces_calls (A : Option Addr) (n c : Nat) (w : World) : Calls Try.prog 70 #[.slice A n c] w fun e w' =>
    e = .returned (.func (.func 88) #[] #[.pointer (some ⟨w.heap.size, 0, none⟩), .pointer (some ⟨w.heap.size + 1, 0, none⟩)]) ∧ w' = (w.alloc (.cells #[.slice A n c] 32)).alloc (.cells #[.int .i64 4096] 3) := by
  go_enter Try.func70, Try.ntmps70
  go_wp2_with (go_at_call 81; refine (Chunk_calls A n c _).mono ?_; rintro e w1 ⟨rfl, rfl⟩)
  go_ret
  exact ⟨rfl, rfl⟩
end Go.Proofs.Ytcgefilboefnpaa.H
