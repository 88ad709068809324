/- Some texts of one seat in one file, in build order. -/
import Derived.Test.YtcgefilboefnpaaG19
/- JournalKeeps: bytes abide, power that is back, and what else the walk wants of its bundle. -/
namespace Go.Proofs.Ytcgefilboefnpaa.H
open Go.RowKit Go.Proofs.YtcgefilboefnpaaW.PrintWords Go.Proofs.YtcgefilboefnpaaW.PrintLast Go.Proofs.YtcgefilboefnpaaW.PrintMore Go.Proofs.Ytcgefilboefnpaa.CrcM
set_option linter.unusedVariables false
set_option linter.unusedSimpArgs false
set_option maxRecDepth 100000

theorem bts_nil : Bts [] := fun x hx => by simp at hx
theorem bts_wr (k : Int) {l : List Int} (hB : Bts l) (hk : 0 ≤ k ∧ k < 256) : Bts (writeF k l).1 := by
  by_cases h : (writeF k l).2 = 0
  · exact bts_writeF hB (kind := k) (r := (writeF k l).1) (by rw [← h])
  · have : (writeF k l).1 = [] := by
      unfold writeF at h ⊢
      split
      · rfl
      · split
        · rfl
        · rename_i h1 h2
          exact absurd (by rw [if_neg h1, if_neg h2]) h
    rw [this]; exact bts_nil
theorem Same7_xs (As : Option Addr) (cs : Nat) (Ar : Option Addr) (cr : Nat) (As' : Option Addr) (cs' : Nat) (Ar' : Option Addr) (cr' : Nat) (s : List Int) (r : List (List Int)) (ns nr : Nat) (hns : s.length = ns) (hnr : r.length = nr) (W : World) (hx1 : Kd.C (Kd.int .u8) W As s.length s) (hy1 : Kd.C (Kd.int .u8) W As' s.length s)
    (hx2 : Kd.C (Kd.slice 5 (Kd.int .u8)) W Ar r.length r) (hy2 : Kd.C (Kd.slice 5 (Kd.int .u8)) W Ar' r.length r) :
    Calls Try.prog 19 #[.agg (xjCells As ns cs Ar nr cr), .agg (xjCells As' ns cs' Ar' nr cr')] W fun e W' => e = .returned (.bool true) ∧ Below W.heap.size W W' := by
  subst hns; subst hnr
  exact Same7_calls ⟨none, 0, 0, none, 0, 0, 0, 0, 0, As, s.length, cs, Ar, r.length, cr, 0⟩ ⟨none, 0, 0, none, 0, 0, 0, 0, 0, As', s.length, cs', Ar', r.length, cr', 0⟩ s s r r W true (decide_eq_true ⟨rfl, rfl⟩) hx1 hy1 hx2 hy2
theorem has_eq [Pl] (gj gd B : Nat) (Ar : Option Addr) (cr : Nat) (j : Jn) (ns nr : Nat) (w : World) (h : JAt w B gj gd Ar cr j) (hns : j.snap.length = ns) (hnr : j.recs.length = nr) (hs : ns ≤ 1000000) (hrl : nr ≤ 1000000) (hr : ∀ x ∈ j.recs, x.length ≤ 1000000) :
    Calls Try.prog 14 #[.pointer (some ⟨gj, 0, none⟩)] w fun e w' => ∃ As cs Ar cr, e = .returned (.agg (xjCells As ns cs Ar nr cr)) ∧ HasOf w' w.heap.size As cs Ar cr j.snap j.recs ∧ Below w.heap.size w w' := by
  subst hns; subst hnr
  exact has_calls gj gd B Ar cr j j.snap j.recs w h rfl rfl hs hrl hr
structure BtD (d : Dv) : Prop where
  a : Bts d.a
  b : Bts d.b
theorem BtD.row {d : Dv} (h : BtD d) (r : Int) : Bts (d.row r) := by
  unfold Dv.row; (repeat' split) <;> first | exact h.a | exact h.b | exact bts_nil
theorem BtD.set {d : Dv} (h : BtD d) (n : Nat) (r : Int) {l : List Int} (hl : Bts l) : BtD ((turnD d n).set r l) := by
  have q0 : (turnD d n).a = d.a := rfl
  have q1 : (turnD d n).b = d.b := rfl
  unfold Dv.set
  (repeat' split) <;> constructor <;> first | exact hl | (simp only [q0]; exact h.a) | (simp only [q1]; exact h.b)
theorem BtD.append {d : Dv} (h : BtD d) (r : Int) {l : List Int} (hl : Bts l) : BtD (appendD d r l).1 := by
  unfold appendD
  split
  · exact h
  · split
    · exact h
    · split
      · exact h
      · exact h.set _ _ (bts_append (h.row r) (bts_take hl _))
theorem BtD.trunc {d : Dv} (h : BtD d) (r n : Int) : BtD (truncD d r n).1 := by
  unfold truncD
  split
  · exact h
  · split
    · exact h
    · exact h.set _ _ (bts_take (h.row r) _)
theorem BtD.fold : ∀ (bs : List (List Int)) {d : Dv} (r : Int), BtD d → (∀ b ∈ bs, Bts b) → BtD (foldA d r bs).1 := by
  intro bs
  induction bs with
  | nil => intro d r h _; exact h
  | cons b bs ih =>
    intro d r h hb
    unfold foldA
    split
    · exact ih r (h.append r (hb b (by simp))) (fun x hx => hb x (List.mem_cons_of_mem _ hx))
    · exact h.append r (hb b (by simp))
theorem bts_chunks : ∀ (k : Nat) {l : List Int}, Bts l → ∀ x ∈ chunksL k l, Bts x := by
  intro k
  induction k with
  | zero => intro l _ x hx; simp [chunksL] at hx
  | succ k ih =>
    intro l hl x hx
    unfold chunksL at hx
    split at hx
    · simp at hx
    · rcases List.mem_cons.1 hx with rfl | hx
      · exact bts_take hl _
      · exact ih (bts_drop hl _) x hx
theorem bts_begF (age : Nat) (ha : age < 2 ^ 64) {snap : List Int} (hs : Bts snap) (hl : snap.length ≤ 100000) : ∀ x ∈ (begF age snap).map fun x => (writeF x.1 x.2).1, Bts x := by
  intro x hx
  obtain ⟨y, hy, rfl⟩ := List.mem_map.1 hx
  unfold begF at hy
  rcases List.mem_append.1 hy with hy | hy
  · rcases List.mem_cons.1 hy with rfl | hy
    · refine bts_wr 1 ?_ (by decide)
      unfold headB cntJ
      refine bts_append (bts_uintB _ ha) (bts_uintB _ ?_)
      have : (2 : Nat) ^ 64 = 18446744073709551616 := by decide
      omega
    · obtain ⟨p, hp, rfl⟩ := List.mem_map.1 hy
      exact bts_wr 2 (bts_chunks _ hs p hp) (by decide)
  · rcases List.mem_cons.1 hy with rfl | hy
    · exact bts_wr _ bts_nil (by decide)
    · simp at hy
theorem BtD.appendJ {d : Dv} (h : BtD d) (j : Jn) {l : List Int} (hl : Bts l) : BtD (appendJ d j l).1 := by
  have ha := h.append j.region (bts_wr 4 hl (by decide))
  unfold H.appendJ
  split
  · exact h
  · split
    · exact ha
    · exact ha
theorem BtD.compactJ {d : Dv} (h : BtD d) (j : Jn) {l : List Int} (hl : Bts l) (hn : l.length ≤ 100000) (h0 : 0 ≤ j.age) (h1 : j.age < 1000) : BtD (compactJ d j l).1 := by
  unfold H.compactJ
  split
  · exact h
  · split
    · exact h
    · split
      · exact h
      · have ht := h.trunc (1 - j.region) 0
        have hf := BtD.fold ((begF (j.age.toNat + 1) l).map fun x => (writeF x.1 x.2).1) (1 - j.region) ht (bts_begF _ (by
          have : (2 : Nat) ^ 64 = 18446744073709551616 := by decide
          omega) hl hn)
        unfold H.beginJ
        split
        · exact ht
        · split
          · exact hf
          · exact hf
/-- Power that is back, and that goes again. -/
theorem Stand.same {d d' : Dv} {j : Jn} {age : Nat} {tail : List Int} (h : Stand d j age tail) (hr : ∀ r, d'.row r = d.row r) : Stand d' j age tail :=
  { reg := h.reg, ag := h.ag, a0 := h.a0, a1 := h.a1, sn := h.sn, rc := h.rc, row := by rw [hr]; exact h.row, fin := h.fin, tl := h.tl, old := by rw [hr]; exact h.old }
theorem rest_row (d : Dv) (r : Int) : (restD d).row r = d.row r := rfl
theorem cut_row (d : Dv) (n r : Int) : (cutD d n).row r = d.row r := rfl
theorem Fk.rest {d : Dv} {t : Int} (h : Fk d t) : Fk (restD d) t := { h with l0 := by show (-1 : Int) ≤ -1; decide, l1 := by show (-1 : Int) ≤ 16383; decide }
theorem Fk.cut {d : Dv} {t : Int} (h : Fk d t) {n : Int} (h0 : 0 ≤ n) (h1 : n ≤ 16383) : Fk (cutD d n) t :=
  { h with l0 := by show -1 ≤ (if n < -1 then -1 else n); rw [if_neg (by omega)]; omega, l1 := by show (if n < -1 then -1 else n) ≤ 16383; rw [if_neg (by omega)]; omega }
theorem BtD.rest {d : Dv} (h : BtD d) : BtD (restD d) := ⟨h.a, h.b⟩
theorem BtD.cut {d : Dv} (h : BtD d) (n : Int) : BtD (cutD d n) := ⟨h.a, h.b⟩
theorem openJ_stand {d : Dv} {j : Jn} {age : Nat} {tail : List Int} (h : Stand d j age tail) (hd : d.down = false) : openJ d = ((truncD d j.region j.fin).1, j, (truncD d j.region j.fin).2) := by
  unfold openJ
  rw [if_neg (by rw [hd]; simp), h.pick, if_neg (by simp)]
/-- Opened: what it is then, all told. -/
structure Opn (d : Dv) (j : Jn) (age : Nat) (T : Int) (d' : Dv) (e : Int) : Prop where
  run : openJ d = (d', j, e)
  fk : Fk d' (T + 30000)
  bt : BtD d'
  res : (e = 0 ∧ d'.down = false ∧ Stand d' j age []) ∨ (e = 30 ∧ d'.down = true ∧ ∃ tail, Stand d' j age tail)
  up : d.left < 0 → d'.left < 0 ∧ e = 0
theorem trunc_up {d : Dv} (hl : d.left < 0) (hd : d.down = false) (r n : Int) : (truncD d r n).1.left < 0 ∧ (truncD d r n).1.down = false := by
  unfold truncD
  split
  · exact ⟨hl, hd⟩
  · split
    · exact ⟨hl, hd⟩
    · obtain ⟨_, h2, h3, _⟩ := set_rest (turnD d ((d.row r).length - n.toNat)) r ((d.row r).take ((d.row r).length - turnN d ((d.row r).length - n.toNat)))
      simp only
      rw [h2, h3]
      unfold turnD
      simp only
      refine ⟨?_, ?_⟩
      · split <;> omega
      · rw [hd]; simp; omega
theorem Stand.opn {d : Dv} {j : Jn} {age : Nat} {tail : List Int} {T : Int} (h : Stand d j age tail) (hd : d.down = false) (hf : Fk d T) (hb : BtD d) : ∃ d' e, Opn d j age T d' e := by
  have hr := openJ_stand h hd
  obtain ⟨_, _, h3⟩ := h.open hd hr
  refine ⟨_, _, hr, hf.trunc _ _, hb.trunc _ _, h3, fun hl => ?_⟩
  obtain ⟨u1, u2⟩ := trunc_up hl hd j.region j.fin
  refine ⟨u1, ?_⟩
  rcases h3 with h3 | h3
  · exact h3.1
  · rw [u2] at h3; exact absurd h3.2.1 (by decide)
theorem Stand.fin_le {d : Dv} {j : Jn} {age : Nat} {tail : List Int} {T : Int} (h : Stand d j age tail) (hf : Fk d T) : 0 ≤ j.fin ∧ j.fin ≤ 30000 := by
  have h1 := h.fin
  have h2 := hf.row j.region
  rw [h.row, List.length_append] at h2
  omega
section
variable [Pl] {W0 : World} {B gd gj gn gx : Nat} {Ar : Option Addr} {cr : Nat} {bn bx : Bx} {d : Dv} {j : Jn} {w w' : World}
theorem KB.fr (h : KB W0 B gd gj gn gx Ar cr bn bx d j w) : ∀ k, JP gj gd Ar k → W0.heap.size ≤ k := by
  have h6 := h.jj.from7
  have h7 := h.h0
  rintro k (rfl | rfl | hk)
  · have := h.jj.1; omega
  · exact h.hd
  · have := h6 k hk; omega
/-- What was handed in abides while the journal turns. -/
theorem KB.given (h : KB W0 B gd gj gn gx Ar cr bn bx d j w) {A : Option Addr} {n : Nat} {l : List Int} (hC : Kd.C (Kd.int .u8) W0 A n l) : ∀ W', But (JP gj gd Ar) w W' → Kd.C (Kd.int .u8) W' A n l := fun W' hb => Kd.C_below hC (hb.below h.below h.below.size h.fr)
/-- Over the append of a record: of a row that is made anew. -/
theorem KB.more (h : KB W0 B gd gj gn gx Ar cr bn bn d j w) (hb : Below w.heap.size w w') {A8 : Option Addr} {n c8 : Nat} {A3 : Option Addr} {c3 : Nat} {l : List Int} (hn : bn.recs.length = n)
    (hr : KSl.R 32 w' w.heap.size (fun _ => True) (.slice A8 (n + 1) c8) (bn.os ++ [(A3, l.length, c3)])) (hC : Kd.C (Kd.int .u8) W0 A3 l.length l) (hc : l.length ≤ c3) :
    KB W0 B gd gj gn gx Ar cr bn ⟨bn.A, bn.c, A8, c8, bn.os ++ [(A3, l.length, c3)], bn.snap, bn.recs ++ [l]⟩ d j (w'.setCell ⟨gx, 6, none⟩ (.slice A8 (n + 1) c8)) := by
  have h1 := h.step hb
  have hl : (bn.recs ++ [l]).length = n + 1 := by rw [List.length_append, hn]; rfl
  refine h1.store (b := ⟨bn.A, bn.c, A8, c8, bn.os ++ [(A3, l.length, c3)], bn.snap, bn.recs ++ [l]⟩) ?_ (Oth.set w' ⟨gx, 6, none⟩ _) h.kn.snap ?_ ⟨by simp [h.kn.rows.1], fun i o x ho hx => ?_⟩ ?_
  · simp only [hl]
    exact blk_put h1.kx.box 6 _ rfl
  · simp only [hl]
    exact Kd.R_lower hr h.below.size
  · rcases Nat.lt_or_ge i bn.os.length with hi | hi
    · rw [List.getElem?_append_left hi] at ho
      rw [List.getElem?_append_left (by rw [← h.kn.rows.1]; exact hi)] at hx
      exact h.kn.rows.2 i o x ho hx
    · rw [List.getElem?_append_right hi] at ho
      rw [List.getElem?_append_right (by rw [← h.kn.rows.1]; exact hi), ← h.kn.rows.1] at hx
      cases hk : i - bn.os.length with
      | zero =>
        rw [hk] at ho hx
        simp at ho hx
        subst ho; subst hx
        exact ⟨rfl, hc, hC⟩
      | succ k => rw [hk] at ho; simp at ho
  · intro ad ad' e1 e2 e3
    simp only at e2
    subst e2
    obtain ⟨_, ho⟩ := Kd.R_own hr
    have h4 := own_base ho ad'.block rfl
    obtain ⟨_, _, _, os, _, _, _, q4, _⟩ := h.jj
    rw [e1] at q4
    obtain ⟨_, ho'⟩ := Kd.R_own q4
    obtain ⟨cells, hc'⟩ := own_typed ho' ad.block rfl
    have := lt_of_some hc'
    omega
omit [Pl] in
theorem R_grown0 {os : List Sl} {base : Nat} {ok : Nat → Prop} {v : Value} (h : KSl.R 32 w base ok v os) (hg : w.grownBy w' none) : KSl.R 32 w' base ok v os :=
  Kd.R_mono (Kd.R_move (Kd.R_bound h) (fun k hb => hg.block k hb.2.2.1 (by simp))) (fun _ h => h.1)
omit [Pl] in
theorem own_new {os : List Sl} {base : Nat} {ok : Nat → Prop} {v v' : Value} (h : KSl.R 32 w base ok v os) (hn : ∃ b, v'.ownBlock = some b ∧ w.heap.size ≤ b) : v.ownBlock ≠ v'.ownBlock := by
  intro e
  obtain ⟨b, h1, h2⟩ := hn
  rw [h1] at e
  obtain ⟨_, ho⟩ := Kd.R_own h
  obtain ⟨cells, hc⟩ := own_typed ho b e
  have := lt_of_some hc
  omega
omit [Pl] in
theorem R_grownX {os : List Sl} {base : Nat} {ok : Nat → Prop} {v v' : Value} (h : KSl.R 32 w base (fun _ => True) v os) (hg : w.grownBy w' v'.ownBlock) (hne : v.ownBlock ≠ v'.ownBlock) : KSl.R 32 w' base (fun _ => True) v os :=
  Kd.R_mono (Kd.R_move (Kd.R_bound (R_sharp h)) (fun k hb => hg.block k hb.2.2.1 (by rw [← hb.1]; exact hne))) (fun _ _ => trivial)
omit [Pl] in
/-- A row that is made empty. -/
theorem R_empty7 {base g : Nat} (h : w.heap[g]? = some (.cells #[] 32 (0, 0))) (hb : base ≤ g) : KSl.R 32 w base (fun _ => True) (.slice (some ⟨g, 0, none⟩) 0 0) [] :=
  ⟨fun _ _ => trivial, [], ⟨rfl, .inr ⟨g, 0, #[], rfl, hb, h, by simp, by simp, by simp⟩⟩, Reps.none _ _⟩
omit [Pl] in
theorem keep_lit {o : Obj} {g k n c : Nat} (hg : w.grownBy w' (Value.slice (some ⟨g, 0, none⟩) n c).ownBlock) (hb : w.heap[k]? = some o) (hne : k ≠ g) : w'.heap[k]? = some o :=
  (hg.block k (lt_of_some hb) (by simp only [Value.ownBlock]; intro e; injection e with e; exact hne e)).trans hb
omit [Pl] in
theorem bd1 (o : Obj) : Below w.heap.size w (w.alloc o).drew := ⟨rfl, rfl, rfl, by show w.heap.size ≤ (w.alloc o).heap.size; rw [World.size_alloc]; omega, fun k hk => (below_alloc (Below.refl w.heap.size w) o).block k hk⟩
omit [Pl] in
theorem bd2 (o o' : Obj) : Below w.heap.size w ((w.alloc o).alloc o').drew := ⟨rfl, rfl, rfl, by show w.heap.size ≤ ((w.alloc o).alloc o').heap.size; rw [World.size_alloc, World.size_alloc]; omega, fun k hk => (below_alloc (below_alloc (Below.refl w.heap.size w) o) o').block k hk⟩
omit [Pl] in
theorem R_C7 {os : List Sl} {base n c : Nat} {A : Option Addr} {ok : Nat → Prop} (h : KSl.R 32 w base ok (.slice A n c) os) : KSl.C w A n os := by
  obtain ⟨e, _, hc⟩ := Kd.R_reads' h
  subst e
  exact hc
/-- What is left of it where no journal is looked at. -/
structure KD [Pl] (W0 : World) (gd gn gx : Nat) (bn bx : Bx) (d : Dv) (w : World) : Prop where
  below : Below W0.heap.size W0 w
  dd : DevAt w gd d
  kn : BoxAt W0 gn bn w
  kx : BoxAt W0 gx bx w
  hd : W0.heap.size ≤ gd
  hn : W0.heap.size ≤ gn
  hx : W0.heap.size ≤ gx
theorem KB.kd (h : KB W0 B gd gj gn gx Ar cr bn bx d j w) : KD W0 gd gn gx bn bx d w := ⟨h.below, h.dd, h.kn, h.kx, h.hd, h.hn, h.hx⟩
theorem KD.step (h : KD W0 gd gn gx bn bx d w) (hb : Below w.heap.size w w') : KD W0 gd gn gx bn bx d w' :=
  { h with below := below_step h.below hb, dd := h.dd.below hb, kn := h.kn.below hb, kx := h.kx.below hb }
/-- Over what turns the device alone. -/
theorem KD.dev (h : KD W0 gd gn gx bn bx d w) {d' : Dv} (hd : DevAt w' gd d') (ho : Oth gd w w') : KD W0 gd gn gx bn bx d' w' := by
  obtain ⟨_, _, _, _, hB, _⟩ := h.dd
  exact { h with below := ho.below h.below h.hd, dd := hd, kn := ⟨ho.blk h.kn.box (ne_block' h.kn.box hB (by decide)), h.kn.snap, R_oth h.kn.row hB (by decide) ho, h.kn.rows⟩, kx := ⟨ho.blk h.kx.box (ne_block' h.kx.box hB (by decide)), h.kx.snap, R_oth h.kx.row hB (by decide) ho, h.kx.rows⟩ }
theorem KD.but (h : KD W0 gd gn gx bn bx d w) {d' : Dv} (hd : DevAt w' gd d') (ho : But (fun k => k = gd) w w') : KD W0 gd gn gx bn bx d' w' := by
  obtain ⟨_, _, _, _, hB, _⟩ := h.dd
  have hr : ∀ {b : Bx} {g : Nat}, BoxAt W0 g b w → ∀ ad, b.Ar = some ad → ¬ ad.block = gd := fun hb ad e => by
    have hr := hb.row
    rw [e] at hr
    obtain ⟨_, ho⟩ := Kd.R_own hr
    obtain ⟨cells, hc⟩ := own_typed ho ad.block rfl
    exact ne_block' hc hB (by decide)
  exact { h with below := ho.below h.below h.below.size (fun k hk => by rw [hk]; exact h.hd), dd := hd, kn := h.kn.but ho (ne_block' h.kn.box hB (by decide)) (hr h.kn), kx := h.kx.but ho (ne_block' h.kx.box hB (by decide)) (hr h.kx) }
theorem KD.jdev (h : KD W0 gd gn gx bn bx d w) {d' : Dv} {B gj cr : Nat} {Ar : Option Addr} {j : Jn} (hj : JAt w B gj gd Ar cr j) (hd : DevAt w' gd d') (ho : Oth gd w w') : KD W0 gd gn gx bn bx d' w' ∧ JAt w' B gj gd Ar cr j := ⟨h.dev hd ho, hj.dev h.dd ho⟩
/-- What opening leaves, its two answers at once. -/
theorem OPost.two {x : Dv × Jn × Int} {e : Ending} (h : OPost gd x w e w') : DevAt w' gd x.1 ∧ But (fun k => k = gd) w w' ∧ ∃ p, e = .returned (.tuple #[p, .int .i64 x.2.2]) ∧ (x.2.2 = 0 → ∃ gj Ar cr, p = .pointer (some ⟨gj, 0, none⟩) ∧ JAt w' w.heap.size gj gd Ar cr x.2.1) := by
  obtain ⟨h1, h2, ⟨h3, gj, Ar, cr, h4, h5⟩ | ⟨h3, h4⟩⟩ := h
  · exact ⟨h1, h2, _, by rw [h3]; exact h4, fun _ => ⟨gj, Ar, cr, rfl, h5⟩⟩
  · exact ⟨h1, h2, _, h4, fun h => absurd h h3⟩
/-- A box of what has told, over what turns the device alone. -/
theorem HasOf.dev (hd : DevAt w gd d) {B cs cr : Nat} {As Ar : Option Addr} {snap : List Int} {recs : List (List Int)} (h : HasOf w B As cs Ar cr snap recs) (hb : But (fun k => k = gd) w w') (hg : gd < B) : HasOf w' B As cs Ar cr snap recs := by
  obtain ⟨_, _, _, _, hB, _⟩ := hd
  exact h.but hb (fun i cs z hi e => by rw [e] at hi; exact ne_block' hi hB (by decide) rfl) (fun k hk => by rw [hk]; exact hg)
end
end Go.Proofs.Ytcgefilboefnpaa.H
