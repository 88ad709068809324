/- Some texts of one seat in one file, in build order. -/
import Derived.Test.YtmmingnkepifoaaG5
import Derived.Test.YtmmingnkepifoaaG9
import Derived.Test.YtmmingnkepifoaaG10
import Derived.Deep.RegionHeld3
import Derived.Test.YtmmingnkepifoaaProg
/- package limit: Split. -/
namespace Go.Proofs.Ytmmingnkepifoaa.LmM
open Go.Proofs.Ytmmingnkepifoaa.AtM
def one22 (i : Int) : Int := ((2 ^ i.toNat : Nat) : Int)
def val22 (x : Int × Int) : List At := [(one22 x.1, x.2)]
def splitL (rs : List Int) : List (List At) := (resL rs).map val22
end Go.Proofs.Ytmmingnkepifoaa.LmM
namespace Go.Proofs.Ytmmingnkepifoaa.H
open Go.RowKit Go.Proofs.YtmmingnkepifoaaW.PrintWords Go.Proofs.YtmmingnkepifoaaW.PrintLast Go.Proofs.YtmmingnkepifoaaW.PrintMore Go.Proofs.Ytmmingnkepifoaa.TrM Go.Proofs.Ytmmingnkepifoaa.AtM Go.Proofs.Ytmmingnkepifoaa.LmM
set_option linter.unusedVariables false
set_option linter.unusedSimpArgs false
set_option maxRecDepth 100000
attribute [local go_sem] Oper.semAt_some wide_fn wide_depth
abbrev KV : Kd (List At) := Kd.slice 45 KAt
/-- What Split's loop holds. -/
structure SpI (W X : World) (gb : Nat) (base : Nat) (pre : List (Int × Int)) : Prop where
  row : ∃ A c, X.heap[gb]? = some (.cells #[.slice A pre.length c] 37 (0, 0)) ∧ Kd.R KV 43 X base (fun _ => True) (.slice A pre.length c) (pre.map val22)
  below : Below W.heap.size W X
theorem SpI.lies {W X Y : World} {gb base B : Nat} {pre : List (Int × Int)} (h : SpI W X gb base pre) (hl : Lies B X Y) (hB : W.heap.size ≤ B) : SpI W Y gb base pre := by
  obtain ⟨A, c, h1, h2⟩ := h.row
  exact ⟨⟨A, c, hl.blk h1, hl.R h2⟩, hl.below h.below hB (Nat.le_refl _)⟩
theorem run_app {P : Program} {α : Type} (d : Kd α) {w0 W : World} (base : Nat) (t e ty : TypeId) (z : Value) (bytes : Nat)
    (ht : P.underlying t = some (.slice e)) (hinfo : (P.info? e).map (fun i => (i.zero, i.size, i.bytes)) = some (some z, d.sz, bytes)) (hz : z.cells.size = d.sz) (hs0 : 0 < d.sz) (hb0 : 0 < bytes)
    (v : Value) (xs : List α) (p : α) (cs : List Value) (ok okp : Nat → Prop) (hp : d.M W base okp p cs) (hokp : ∀ k, okp k → ok k ∧ some k ≠ v.ownBlock) (hfresh : ∀ k, W.heap.size ≤ k → ok k)
    (HO : d.R e W base ok v xs) (HB : Below base w0 W) (hbase : base ≤ W.heap.size) (hl : (xs.length + 1) * bytes ≤ 140737488355328) :
    ∃ v1 w1, (Builtin.append_ #[t, t] ty #[v, .slice (some ⟨W.heap.size, 0, none⟩) 1 1]).run P (W.alloc (.cells cs.toArray e)) = .ok v1 w1 ∧ d.R e w1 base ok v1 (xs ++ [p]) ∧ Below base w0 w1 ∧ W.grownBy w1 v.ownBlock := by
  obtain ⟨h0, inner, hown, hr⟩ := HO
  obtain ⟨i0, hi, hzz⟩ := Option.map_eq_some_iff.1 hinfo
  simp only [Prod.mk.injEq] at hzz
  obtain ⟨hz0, hz1, hz2⟩ := hzz
  have hlen : xs.length + 1 ≤ 140737488355328 := Nat.le_trans (Nat.le_mul_of_pos_right _ hb0) hl
  have hys : cs.length = d.sz := d.K_len (d.K_of_M hp)
  obtain ⟨v1, w1, hrun, r1, r2, r3, r4⟩ := run_append_own_at (P := P) (W.alloc (.cells cs.toArray e)) base t ty e i0 z d.sz bytes ht hi hz0 hz1 hz2 hz hs0 v xs.length inner (hown.alloc _) ⟨W.heap.size, 0, none⟩ 1 1 cs (by rw [hys]; simp)
    (by simpa using World.news_of_block (cs := cs.toArray) (t := e) (fr := (0, 0)) (heap_alloc_new W (.cells cs.toArray e))) (d.K_one (d.K_of_M hp)) (by simp only [maxLen]; omega) hl (by simp; omega)
  have hat : v1.ownBlock = v.ownBlock ∨ ∃ b, v1.ownBlock = some b ∧ W.heap.size ≤ b := by
    rcases r4 with r4 | r4
    · exact .inl r4
    · exact .inr ⟨_, r4, by simp⟩
  have hg1 : W.grownBy w1 v.ownBlock := World.grownBy.trans (World.grownBy_alloc W _ _) r2
  exact ⟨v1, w1, hrun, Kd.R_appended h0 hr hp hokp hfresh r1 hg1 hat, (HB.alloc hbase _).grown r2 (by simp; omega) (own_base hown), hg1⟩
theorem one22_lt {i : Int} (h : 0 ≤ i ∧ i ≤ 63) : U64 (one22 i) ∧ one22 i ≠ 0 := by
  unfold one22 U64
  have h1 : 0 < 2 ^ i.toNat := Nat.pow_pos (by decide)
  have h2 : 2 ^ i.toNat ≤ 2 ^ 63 := Nat.pow_le_pow_right (by decide) (by omega)
  have h3 : (2 : Nat) ^ 63 = 9223372036854775808 := by decide
  omega
theorem Of_one (i : Int) (g : Nat) (W : World) (hi : 0 ≤ i ∧ i ≤ 63) (hg : W.heap[g]? = some (.cells #[.int .i64 i] 3 (0, 0))) :
    Calls Try.prog 31 #[.slice (some ⟨g, 0, none⟩) 1 1] W fun e W' => e = .returned (.int .u64 (one22 i)) ∧ ∃ n, W' = W.drewN n := by
  have hC : Kd.C (Kd.int .i64) W (some ⟨g, 0, none⟩) [i].length [i] := C_row hg (reps_map (enc := Value.int .i64) [i]) (by simp)
  obtain ⟨u1, u2⟩ := one22_lt hi
  have hshl : shl .u64 1 i = one22 i := by
    unfold shl
    rw [show min i.toNat IntKind.u64.bits = i.toNat by simp [IntKind.bits]; omega, Int.one_mul]
    have : ((2 : Int) ^ i.toNat) = one22 i := by unfold one22; simp
    rw [this]
    simp only [IntKind.wrap, IntKind.bits, IntKind.signed]
    unfold U64 at u1
    simp; omega
  have hor : bits .or .u64 0 (one22 i) = one22 i := by
    rw [u64_or 0 (one22 i) (by omega) (by omega) u1.1 u1.2]
    have := u1.1
    simp; omega
  have hf : PNew.set_Of.f 2 [i] = some (one22 i) := by
    unfold PNew.set_Of.f
    simp only [PNew.set_Of.l0, PNew.set_item.f, List.length_singleton, rd, Int.toNat_zero, List.getD_cons_zero]
    simp only [show (0 : Int) < ((1 : Nat) : Int) by decide, if_true, show (0 : Int) ≤ 0 by decide, show i ≥ 0 from hi.1, decide_eq_true (show i < 64 by omega), Option.bind_some, hi.1, hshl, hor]
    rw [show wrap64 (0 + 1) = 1 by unfold wrap64; omega, if_neg (by decide)]
  exact (PNew.set_Of.calls 2 _ 1 [i] _ W hC (by simp) hf).mono fun e W' h => ⟨h.1, by obtain ⟨⟨n, hn⟩⟩ := h.2; exact ⟨n, hn⟩⟩
theorem norm_one {x : At} (hu : U64 x.1) (hr : rightA x = true) : normL [x] = [x] := by
  obtain ⟨h1, h2⟩ := norm_spec [x] (fun y hy => by rw [List.mem_singleton.1 hy]; exact hu)
  refine risesS_ext h1 (by simp [RisesS]) (fun a => ?_)
  rw [h2]
  have hf : [x].filter rightA = [x] := by simp [hr]
  rw [hf]
  constructor
  · intro h; exact h.1
  · intro h
    rw [List.mem_singleton] at h
    subst h
    exact ⟨by simp, fun y hy _ _ => List.mem_singleton.1 hy⟩
theorem New_one (x : At) (g : Nat) (W : World) (hu : U64 x.1) (hr : rightA x = true) (hg : W.heap[g]? = some (.cells #[.int .u64 x.1, .int .i64 x.2] 45 (0, 0))) :
    Calls Try.prog 30 #[.slice (some ⟨g, 0, none⟩) 1 1] W fun e W' => ∃ v, e = .returned (.agg #[v]) ∧ Kd.R KAt 45 W' W.heap.size (fun _ => True) v [x] ∧ Below W.heap.size W W' := by
  have hC : Kd.C KAt W (some ⟨g, 0, none⟩) 1 [x] := C_row hg (Reps.snoc (Reps.none _ _) ⟨[_], [_], rfl, rfl, rfl⟩ rfl) (by simp)
  have hC2 : Kd.C PNew.k45 W (some ⟨g, 0, none⟩) 1 [(⟨x.1, x.2⟩ : PNew.S45)] := C_iso' hC
  have hf : PNew.xor_New.f [(⟨x.1, x.2⟩ : PNew.S45)] = some [(⟨x.1, x.2⟩ : PNew.S45)] := by
    unfold PNew.xor_New.f PNew.atom_Normal.f
    rw [if_pos ⟨(uB_iff _).2 (fun y hy => by simp at hy; rw [hy]; exact hu), by simp⟩]
    have : normL (List.map (fun x : PNew.S45 => (x.f0, x.f1)) [(⟨x.1, x.2⟩ : PNew.S45)]) = [x] := norm_one hu hr
    rw [this]; rfl
  refine (PNew.xor_New.calls _ 1 [⟨x.1, x.2⟩] _ W hC2 (by simp) hf).mono ?_
  rintro e W' ⟨v, h1, h2, h3⟩
  exact ⟨v, h1, R_iso h2, h3⟩
theorem info_val : (Try.prog.info? 43).map (fun i => (i.zero, i.size, i.bytes)) = some (some (.agg #[.slice none 0 0]), 1, 24) := by kernel_rfl
theorem app_val {Wb w3 w5 : World} {base gb pn cp : Nat} {Ap : Option Addr} {L : List (List At)} {o1 v : Int} {v5 : Value} {cs : Array Value}
    (hrow : Kd.R KV 43 Wb base (fun _ => True) (.slice Ap pn cp) L) (hlen : L.length = pn) (hbox : Wb.heap[gb]? = some (.cells cs 37 (0, 0))) (hbase : base ≤ Wb.heap.size) (hpl : pn ≤ 64)
    (hb3 : Below Wb.heap.size Wb w3) (hr5 : Kd.R KAt 45 w5 (w3.alloc (.cells #[.int .u64 o1, .int .i64 v] 45)).heap.size (fun _ => True) v5 [(o1, v)])
    (hb5 : Below (w3.alloc (.cells #[.int .u64 o1, .int .i64 v] 45)).heap.size (w3.alloc (.cells #[.int .u64 o1, .int .i64 v] 45)) w5) :
    ∃ A7 c7 w7, (Builtin.append_ #[37, 37] 37 #[.slice Ap pn cp, .slice (some ⟨w5.heap.size, 0, none⟩) 1 1]).run Try.prog (w5.alloc (.cells #[v5] 43)) = .ok (.slice A7 (pn + 1) c7) w7 ∧
      Kd.R KV 43 w7 base (fun _ => True) (.slice A7 (pn + 1) c7) (L ++ [[(o1, v)]]) ∧ w5.grownBy w7 (Value.slice Ap pn cp).ownBlock ∧ Below Wb.heap.size Wb w5 ∧ w7.heap[gb]? = some (.cells cs 37 (0, 0)) := by
  have hba : Below w3.heap.size w3 (w3.alloc (.cells #[.int .u64 o1, .int .i64 v] 45)) := below_alloc (Below.refl _ _) _
  have hb4 : Below Wb.heap.size Wb (w3.alloc (.cells #[.int .u64 o1, .int .i64 v] 45)) := below_step hb3 hba
  have hbw5 : Below Wb.heap.size Wb w5 := below_step hb4 hb5
  have hR4 := Kd.R_below hrow hb4
  obtain ⟨inner, ho4⟩ := Kd.R_own hR4
  have hel := Kd.R_new hr5 ho4
  have hM : KV.M w5 base (fun k => True ∧ some k ≠ (Value.slice Ap pn cp).ownBlock) [(o1, v)] [v5] := ⟨v5, rfl, Kd.R_lower hel (Nat.le_trans hbase hb4.size)⟩
  obtain ⟨v7, w7, h1, h2, h3, h4⟩ := run_app (P := Try.prog) KV (w0 := w5) (W := w5) base 37 43 37 (.agg #[.slice none 0 0]) 24 Try.underlying37 info_val rfl (by decide) (by decide) (.slice Ap pn cp) L [(o1, v)] [v5] (fun _ => True) _ hM
    (fun k hk => hk) (fun _ _ => trivial) (Kd.R_below hrow hbw5) (Below.refl _ _) (Nat.le_trans hbase hbw5.size) (by omega)
  obtain ⟨A7, c7, e7⟩ := Kd.R_slice h2
  rw [List.length_append, List.length_singleton, hlen] at e7
  subst e7
  exact ⟨A7, c7, w7, h1, h2, h4, hbw5, blk_grown (Kd.R_below hrow hbw5) (blk_belowX hbox hbw5) (by decide) h4⟩
theorem spl_round {W w2 Wb w5 w7 : World} {Ap A7 : Option Addr} {cp c7 pn : Nat} {o1 v i : Int} {pre : List (Int × Int)} (hW2 : W.heap.size ≤ w2.heap.size)
    (hI : SpI W Wb W.heap.size w2.heap.size pre) (hpn : pre.length = pn) (hbox : Wb.heap[W.heap.size]? = some (.cells #[.slice Ap pre.length cp] 37 (0, 0))) (hrow : Kd.R KV 43 Wb w2.heap.size (fun _ => True) (.slice Ap pre.length cp) (pre.map val22))
    (hWbs : w2.heap.size ≤ Wb.heap.size) (hgb : W.heap.size < Wb.heap.size)
    (hR7 : Kd.R KV 43 w7 w2.heap.size (fun _ => True) (.slice A7 (pn + 1) c7) (pre.map val22 ++ [[(o1, v)]])) (hg7 : w5.grownBy w7 (Value.slice Ap pn cp).ownBlock) (hb5 : Below Wb.heap.size Wb w5) (hx7 : w7.heap[W.heap.size]? = some (.cells #[.slice Ap pn cp] 37 (0, 0))) (ho : one22 i = o1) :
    KeepsFrom w2.heap.size Wb (w7.setCell ⟨W.heap.size, 0, none⟩ (.slice A7 (pn + 1) c7)) ∧ Kp w2.heap.size (fun k => k ≠ W.heap.size) Wb (w7.setCell ⟨W.heap.size, 0, none⟩ (.slice A7 (pn + 1) c7)) ∧ SpI W (w7.setCell ⟨W.heap.size, 0, none⟩ (.slice A7 (pn + 1) c7)) W.heap.size w2.heap.size (pre ++ [(i, v)]) := by
  subst hpn
  have hoth : Oth W.heap.size w7 (w7.setCell ⟨W.heap.size, 0, none⟩ (.slice A7 (pre.length + 1) c7)) := Oth.set w7 ⟨W.heap.size, 0, none⟩ _
  have hbut : But (fun k => k = W.heap.size ∨ some k = (Value.slice Ap pre.length cp).ownBlock) Wb (w7.setCell ⟨W.heap.size, 0, none⟩ (.slice A7 (pre.length + 1) c7)) := ((But.of_below hb5).trans (But.of_grown hg7 (fun k hk => .inr hk.symm))).trans (.of_oth hoth (.inl rfl))
  have hown : ∀ k, some k = (Value.slice Ap pre.length cp).ownBlock → ∃ cells, Wb.heap[k]? = some (.cells cells 43 (0, 0)) ∧ w2.heap.size ≤ k := fun k hk => by
    obtain ⟨_, ho'⟩ := Kd.R_own hrow
    obtain ⟨cells, hc⟩ := own_typed ho' k hk.symm
    exact ⟨cells, hc, own_base ho' k hk.symm⟩
  have hPc : ∀ k o, (k = W.heap.size ∨ some k = (Value.slice Ap pre.length cp).ownBlock) → Wb.heap[k]? = some o → o.isCells = true := by
    rintro k o (rfl | hk) ho
    · rw [hbox] at ho; cases ho; rfl
    · obtain ⟨cells, hc, _⟩ := hown k hk
      rw [hc] at ho; cases ho; rfl
  have hWw := hI.below.size
  refine ⟨KeepsFrom.of_but hbut hPc, Kp.of_but hbut (fun k hk hne => by
    rintro (rfl | h)
    · exact hne rfl
    · obtain ⟨_, _, h7⟩ := hown k h; omega) hWbs, ⟨⟨A7, c7, ?_, ?_⟩, hbut.below hI.below hWw ?_⟩⟩
  · have := blk_put hx7 0 (.slice A7 (pre.length + 1) c7) rfl
    simp only [List.length_append, List.length_singleton]
    exact this
  · simp only [List.length_append, List.length_singleton, List.map_append, List.map_cons, List.map_nil]
    have e : val22 (i, v) = [(o1, v)] := by unfold val22; rw [← ho]
    rw [e]
    exact Kd.R_set hR7 hx7 (by decide) 0 _
  · rintro k (rfl | h)
    · exact Nat.le_refl _
    · obtain ⟨_, _, h7⟩ := hown k h
      omega
set_option maxHeartbeats 3200000 in
theorem Split_calls (rs : List Int) (A : Option Addr) (c : Nat) (W : World) (hc : rs.length ≤ c) (hC : Kd.C (Kd.int .i64) W A rs.length rs) :
    Calls Try.prog 15 #[.slice A rs.length c] W fun e W' => ∃ v, e = .returned (.tuple #[v, .int .i64 (keptL rs 18446744073709551615)]) ∧ Kd.R KV 43 W' W.heap.size (fun _ => True) v (splitL rs) ∧ Below W.heap.size W W' := by
  refine (callsIn_wide (n := 8)).1 ?_
  refine callsIn_of_wp_marks Try.func15 rfl trivial ?_ rfl
  simp only [Try.ntmps15, List.size_toArray, List.length_cons, List.length_nil, Nat.reduceAdd, Nat.reduceSub, Array.replicate_succ, Array.replicate_zero, List.push_toArray, List.append_toArray, List.nil_append, List.cons_append]
  have HC := Aside0.mk hC
  clear hC
  gi_wp2_with (gi_at_call 29; refine (callsIn_wide.2 (reserved_calls _ _ _ _)).mono ?_; rintro e w1 ⟨rfl, rfl⟩)
  have hB : Below W.heap.size W ((W.alloc (.cells #[.slice none 0 0] 37)).alloc (.cells #[.slice A rs.length c] 22)) := below_alloc (below_alloc (Below.refl _ _) _) _
  have g0 : ((W.alloc (.cells #[.slice none 0 0] 37)).alloc (.cells #[.slice A rs.length c] 22)).heap[W.heap.size]? = some (.cells #[.slice none 0 0] 37 (0, 0)) := blk_alloc (blk_new W _) _
  have g1 : ((W.alloc (.cells #[.slice none 0 0] 37)).alloc (.cells #[.slice A rs.length c] 22)).heap[W.heap.size + 1]? = some (.cells #[.slice A rs.length c] 22 (0, 0)) := blk_new2 W _ _
  have hsz : ((W.alloc (.cells #[.slice none 0 0] 37)).alloc (.cells #[.slice A rs.length c] 22)).heap.size = W.heap.size + 2 := by simp
  generalize ((W.alloc (.cells #[.slice none 0 0] 37)).alloc (.cells #[.slice A rs.length c] 22)) = w2 at hB g0 g1 hsz
  replace hsz : W.heap.size + 1 < w2.heap.size := by omega
  have hS0 : SpI W w2 W.heap.size w2.heap.size [] := ⟨⟨none, 0, g0, Kd.R_nil _ _ _ _ _⟩, hB⟩
  refine rangeX rfl (by omega) (gf := 38) (lb := #[.pointer (some ⟨W.heap.size + 1, 0, none⟩)]) rfl trivial (enters_of Try.func38 (by kernel_rfl) rfl)
    (Y := ResY (resL rs)) (n₀ := w2.heap.size) (Kb := fun k => k ≠ W.heap.size) (S := fun xs => xs = resL rs) (Sp := fun _ => True)
    (reserved1_seq _ rs A c (W.heap.size + 1) w2.heap.size _ w2 hc
      (fun X hk => by rw [blk_cell ((hk.2 (W.heap.size + 1) (by omega) (by omega)).trans g1) 0]; rfl)
      (fun X hk => C_of_blocks HC.out (fun i hi => (hk.2 i (by omega) (by omega)).trans (hB.block i hi))) (Nat.le_refl _)) (Nat.le_refl _)
    (fun _ _ _ _ hy => by obtain ⟨_, rfl⟩ := hy; rfl)
    (fun pre X => SpI W X W.heap.size w2.heap.size pre) (fun _ _ _ => False)
    (fun _ P Q h hlie => h.lies hlie (by omega)) (fun _ _ _ _ h _ => h) hS0 ?round ?done (fun _ _ _ _ _ _ h _ => h.elim)
  case round =>
    rintro l pre ⟨i, v⟩ vs X hl2 hI ⟨hpre, rfl⟩ hXs
    have hm : (i, v) ∈ resL rs := hpre.subset (List.mem_append.2 (.inr (List.mem_singleton.2 rfl)))
    have hmi := resL_mem hm
    have hpl : pre.length ≤ 64 := by
      have h1 := hpre.length_le
      have h2 := resL_len rs
      simp only [List.length_append] at h1
      omega
    have HM := Aside0.mk hmi
    clear hmi hm hpre
    gi_wp2
    refine ⟨KeepsFrom.of_below (Below.refl _ _), Kp.refl _ _ _, ?_⟩
    intro Wb hlie
    have hI2 := hI.lies hlie (by omega)
    have hWbs : w2.heap.size ≤ Wb.heap.size := Nat.le_trans hXs hlie.size
    obtain ⟨Ap, cp, i1, i2⟩ := hI2.row
    have d0 : Wb.cell? ⟨W.heap.size, 0, none⟩ = some (.slice Ap pre.length cp) := by rw [blk_cell i1]; rfl
    have I := Aside0.mk (And.intro i1 (And.intro i2 hI2))
    clear hI hI2 i1 i2 hlie
    have hmix : Try.prog.follows .mixedOrders = true := by kernel_rfl
    have hgb : W.heap.size < Wb.heap.size := by omega
    have f0 := blk_frozen I.out.1 0
    obtain ⟨u1, u2⟩ := one22_lt ⟨HM.out.1, HM.out.2.1⟩
    have hrA : rightA (one22 i, v) = true := decide_eq_true ⟨u2, HM.out.2.2⟩
    have HU := Aside0.mk (And.intro u1 hrA)
    obtain ⟨o1, ho1⟩ : ∃ o, one22 i = o := ⟨_, rfl⟩
    have HO1 := Lib.hid ho1
    obtain ⟨pn, hpn⟩ : ∃ n, pre.length = n := ⟨_, rfl⟩
    rw [hpn] at d0 hpl
    have HPN := Lib.hid hpn
    clear u1 u2 hrA ho1 hpn
    gi_wp2
    refine wpIn_region_any hmix ?_
    refine anyIn_round l (by intro o ho c; simp at ho; rcases ho with rfl | rfl | rfl | rfl | rfl | rfl | rfl | rfl | rfl | rfl | rfl <;> simp) _ _ _ _ ?_
    change wpAnyIn _ _ _ _ _ _ _ _ _ (World.drew _)
    refine wpAnyIn_take (i := 1) (v := ?_) rfl rfl (by kernel_rfl) (by kernel_rfl) (by kernel_rfl) (fun _ _ _ h => h) ⟨Or.inl ⟨by kernel_rfl, ?tk⟩, fun _ => rfl⟩ ?_
    (case tk => intro w; first | (go_simp; done) | (go_simp; rfl))
    refine wpAnyIn_take (i := 4) (v := ?_) rfl rfl (by kernel_rfl) (by kernel_rfl) (by kernel_rfl) (fun _ _ _ h => h) ⟨Or.inl ⟨by kernel_rfl, ?tk⟩, fun _ => rfl⟩ ?_
    (case tk => intro w; first | (go_simp; done) | (go_simp; rfl))
    refine wpAnyIn_ready (rs := [0, 2]) (by kernel_rfl) (by simp) ?_
    refine AllReadyIn.cons rfl (fun K hK => ?_) (AllReadyIn.cons rfl (fun K hK => ?_) AllReadyIn.nil)
    · go_simp
      refine hK _ _ ?_
      clear hK K
      refine wpAnyIn_ready (rs := [2]) (by kernel_rfl) (by simp) ?_
      refine AllReadyIn.cons rfl (fun K hK => ?_) AllReadyIn.nil
      go_simp
      refine hK _ _ ?_
      clear hK K
      refine wpAnyIn_ready (rs := [3]) (by kernel_rfl) (by simp) ?_
      refine AllReadyIn.cons rfl (fun K hK => ?_) AllReadyIn.nil
      go_simp
      refine (callsIn_wide.2 (Of_one i Wb.heap.size (Wb.alloc (.cells #[.int .i64 i] 3)).drew ⟨HM.out.1, HM.out.2.1⟩ (blk_new Wb _))).mono ?_
      rintro e w3 ⟨rfl, nn, hw3⟩
      have hb3 : Below Wb.heap.size Wb w3 := (by rw [hw3]; exact pw_below_drewN (below_drew (below_alloc (Below.refl _ _) _)) nn)
      clear hw3
      have hx3 := blk_belowX I.out.1 hb3
      rw [HPN.out] at hx3
      have d3 : w3.cell? ⟨W.heap.size, 0, none⟩ = some (.slice Ap pn cp) := (by rw [blk_cell hx3]; rfl)
      have z3 : W.heap.size < w3.heap.size := lt_of_some hx3
      rw [HO1.out]
      have H3 := Aside0.mk (And.intro hb3 hx3)
      clear hb3 hx3
      refine hK _ _ ?_
      clear hK K
      refine wpAnyIn_take (i := 5) (v := ?_) rfl rfl (by kernel_rfl) (by kernel_rfl) (by kernel_rfl) (fun _ _ _ h => h) ⟨Or.inl ⟨by kernel_rfl, ?tk⟩, fun _ => rfl⟩ ?_
      (case tk => intro w; first | (go_simp; done) | (go_simp; rfl))
      refine wpAnyIn_ready (rs := [6]) (by kernel_rfl) (by simp) ?_
      refine AllReadyIn.cons rfl (fun K hK => ?_) AllReadyIn.nil
      go_simp
      refine hK _ _ ?_
      clear hK K
      refine wpAnyIn_ready (rs := [7]) (by kernel_rfl) (by simp) ?_
      refine AllReadyIn.cons rfl (fun K hK => ?_) AllReadyIn.nil
      go_simp
      refine (callsIn_wide.2 (New_one (o1, v) w3.heap.size (w3.alloc (.cells #[.int .u64 o1, .int .i64 v] 45)) (by rw [← HO1.out]; exact HU.out.1) (by rw [← HO1.out]; exact HU.out.2) (blk_new w3 _))).mono ?_
      rintro e w5 ⟨v5, rfl, hr5, hb5⟩
      obtain ⟨A7, c7, w7, hrun7, hR7, hg7, hbw5, hx7⟩ := app_val (pn := pn) (gb := W.heap.size) (by rw [← HPN.out]; exact I.out.2.1) (by rw [List.length_map]; exact HPN.out) I.out.1 hWbs hpl H3.out.1 hr5 hb5
      rw [HPN.out] at hx7
      have hx5 := blk_belowX H3.out.2 (below_step (below_alloc (Below.refl _ _) _) hb5)
      have d5 : w5.cell? ⟨W.heap.size, 0, none⟩ = some (.slice Ap pn cp) := (by rw [blk_cell hx5]; rfl)
      have z5 : W.heap.size < w5.heap.size := lt_of_some hx5
      have f7 := blk_frozen hx7 0
      have s7 := blk_lt hx7
      have d7 := blk_cell hx7 0
      simp at d7
      have S7 := Aside0.mk (And.intro hR7 (And.intro hg7 (And.intro hbw5 hx7)))
      have HRUN := Lib.hid hrun7
      clear hr5 hb5 hR7 hg7 hbw5 hx7 hx5 hrun7
      refine hK _ _ ?_
      clear hK K
      refine wpAnyIn_ready (rs := [8]) (by kernel_rfl) (by simp) ?_
      refine AllReadyIn.cons rfl (fun K hK => ?_) AllReadyIn.nil
      go_simp
      refine hK _ _ ?_
      clear hK K
      refine wpAnyIn_ready (rs := [9]) (by kernel_rfl) (by simp) ?_
      refine AllReadyIn.cons rfl (fun K hK => ?_) AllReadyIn.nil
      refine ite_yes (by rfl) ?_
      refine op_append (s := .tmp 11) (x := .tmp 19) (t := 37) rfl rfl rfl HRUN.out ?_
      refine hK _ _ ?_
      clear hK K
      refine wpAnyIn_ready (rs := [10]) (by kernel_rfl) (by simp) ?_
      refine AllReadyIn.cons rfl (fun K hK => ?_) AllReadyIn.nil
      go_simp
      refine hK _ _ ?_
      clear hK K
      refine wpAnyIn_done (by kernel_rfl) ?_ _
      exact spl_round (by omega) I.out.2.2 HPN.out I.out.1 I.out.2.1 hWbs hgb S7.out.1 S7.out.2.1 S7.out.2.2.1 S7.out.2.2.2 HO1.out
    · go_simp
      refine hK _ _ ?_
      clear hK K
      refine wpAnyIn_ready (rs := [0, 3]) (by kernel_rfl) (by simp) ?_
      refine AllReadyIn.cons rfl (fun K hK => ?_) (AllReadyIn.cons rfl (fun K hK => ?_) AllReadyIn.nil)
      · go_simp
        refine hK _ _ ?_
        clear hK K
        refine wpAnyIn_ready (rs := [3]) (by kernel_rfl) (by simp) ?_
        refine AllReadyIn.cons rfl (fun K hK => ?_) AllReadyIn.nil
        go_simp
        refine (callsIn_wide.2 (Of_one i Wb.heap.size (Wb.alloc (.cells #[.int .i64 i] 3)).drew ⟨HM.out.1, HM.out.2.1⟩ (blk_new Wb _))).mono ?_
        rintro e w3 ⟨rfl, nn, hw3⟩
        have hb3 : Below Wb.heap.size Wb w3 := (by rw [hw3]; exact pw_below_drewN (below_drew (below_alloc (Below.refl _ _) _)) nn)
        clear hw3
        have hx3 := blk_belowX I.out.1 hb3
        rw [HPN.out] at hx3
        have d3 : w3.cell? ⟨W.heap.size, 0, none⟩ = some (.slice Ap pn cp) := (by rw [blk_cell hx3]; rfl)
        have z3 : W.heap.size < w3.heap.size := lt_of_some hx3
        rw [HO1.out]
        have H3 := Aside0.mk (And.intro hb3 hx3)
        clear hb3 hx3
        refine hK _ _ ?_
        clear hK K
        refine wpAnyIn_take (i := 5) (v := ?_) rfl rfl (by kernel_rfl) (by kernel_rfl) (by kernel_rfl) (fun _ _ _ h => h) ⟨Or.inl ⟨by kernel_rfl, ?tk⟩, fun _ => rfl⟩ ?_
        (case tk => intro w; first | (go_simp; done) | (go_simp; rfl))
        refine wpAnyIn_ready (rs := [6]) (by kernel_rfl) (by simp) ?_
        refine AllReadyIn.cons rfl (fun K hK => ?_) AllReadyIn.nil
        go_simp
        refine hK _ _ ?_
        clear hK K
        refine wpAnyIn_ready (rs := [7]) (by kernel_rfl) (by simp) ?_
        refine AllReadyIn.cons rfl (fun K hK => ?_) AllReadyIn.nil
        go_simp
        refine (callsIn_wide.2 (New_one (o1, v) w3.heap.size (w3.alloc (.cells #[.int .u64 o1, .int .i64 v] 45)) (by rw [← HO1.out]; exact HU.out.1) (by rw [← HO1.out]; exact HU.out.2) (blk_new w3 _))).mono ?_
        rintro e w5 ⟨v5, rfl, hr5, hb5⟩
        obtain ⟨A7, c7, w7, hrun7, hR7, hg7, hbw5, hx7⟩ := app_val (pn := pn) (gb := W.heap.size) (by rw [← HPN.out]; exact I.out.2.1) (by rw [List.length_map]; exact HPN.out) I.out.1 hWbs hpl H3.out.1 hr5 hb5
        rw [HPN.out] at hx7
        have hx5 := blk_belowX H3.out.2 (below_step (below_alloc (Below.refl _ _) _) hb5)
        have d5 : w5.cell? ⟨W.heap.size, 0, none⟩ = some (.slice Ap pn cp) := (by rw [blk_cell hx5]; rfl)
        have z5 : W.heap.size < w5.heap.size := lt_of_some hx5
        have f7 := blk_frozen hx7 0
        have s7 := blk_lt hx7
        have d7 := blk_cell hx7 0
        simp at d7
        have S7 := Aside0.mk (And.intro hR7 (And.intro hg7 (And.intro hbw5 hx7)))
        have HRUN := Lib.hid hrun7
        clear hr5 hb5 hR7 hg7 hbw5 hx7 hx5 hrun7
        refine hK _ _ ?_
        clear hK K
        refine wpAnyIn_ready (rs := [8]) (by kernel_rfl) (by simp) ?_
        refine AllReadyIn.cons rfl (fun K hK => ?_) AllReadyIn.nil
        go_simp
        refine hK _ _ ?_
        clear hK K
        refine wpAnyIn_ready (rs := [9]) (by kernel_rfl) (by simp) ?_
        refine AllReadyIn.cons rfl (fun K hK => ?_) AllReadyIn.nil
        refine ite_yes (by rfl) ?_
        refine op_append (s := .tmp 11) (x := .tmp 19) (t := 37) rfl rfl rfl HRUN.out ?_
        refine hK _ _ ?_
        clear hK K
        refine wpAnyIn_ready (rs := [10]) (by kernel_rfl) (by simp) ?_
        refine AllReadyIn.cons rfl (fun K hK => ?_) AllReadyIn.nil
        go_simp
        refine hK _ _ ?_
        clear hK K
        refine wpAnyIn_done (by kernel_rfl) ?_ _
        exact spl_round (by omega) I.out.2.2 HPN.out I.out.1 I.out.2.1 hWbs hgb S7.out.1 S7.out.2.1 S7.out.2.2.1 S7.out.2.2.2 HO1.out
      · go_simp
        refine (callsIn_wide.2 (Of_one i Wb.heap.size (Wb.alloc (.cells #[.int .i64 i] 3)).drew ⟨HM.out.1, HM.out.2.1⟩ (blk_new Wb _))).mono ?_
        rintro e w3 ⟨rfl, nn, hw3⟩
        have hb3 : Below Wb.heap.size Wb w3 := (by rw [hw3]; exact pw_below_drewN (below_drew (below_alloc (Below.refl _ _) _)) nn)
        clear hw3
        have hx3 := blk_belowX I.out.1 hb3
        rw [HPN.out] at hx3
        have d3 : w3.cell? ⟨W.heap.size, 0, none⟩ = some (.slice Ap pn cp) := (by rw [blk_cell hx3]; rfl)
        have z3 : W.heap.size < w3.heap.size := lt_of_some hx3
        rw [HO1.out]
        have H3 := Aside0.mk (And.intro hb3 hx3)
        clear hb3 hx3
        refine hK _ _ ?_
        clear hK K
        refine wpAnyIn_take (i := 5) (v := ?_) rfl rfl (by kernel_rfl) (by kernel_rfl) (by kernel_rfl) (fun _ _ _ h => h) ⟨Or.inl ⟨by kernel_rfl, ?tk⟩, fun _ => rfl⟩ ?_
        (case tk => intro w; first | (go_simp; done) | (go_simp; rfl))
        refine wpAnyIn_ready (rs := [0, 6]) (by kernel_rfl) (by simp) ?_
        refine AllReadyIn.cons rfl (fun K hK => ?_) (AllReadyIn.cons rfl (fun K hK => ?_) AllReadyIn.nil)
        · go_simp
          refine hK _ _ ?_
          clear hK K
          refine wpAnyIn_ready (rs := [6]) (by kernel_rfl) (by simp) ?_
          refine AllReadyIn.cons rfl (fun K hK => ?_) AllReadyIn.nil
          go_simp
          refine hK _ _ ?_
          clear hK K
          refine wpAnyIn_ready (rs := [7]) (by kernel_rfl) (by simp) ?_
          refine AllReadyIn.cons rfl (fun K hK => ?_) AllReadyIn.nil
          go_simp
          refine (callsIn_wide.2 (New_one (o1, v) w3.heap.size (w3.alloc (.cells #[.int .u64 o1, .int .i64 v] 45)) (by rw [← HO1.out]; exact HU.out.1) (by rw [← HO1.out]; exact HU.out.2) (blk_new w3 _))).mono ?_
          rintro e w5 ⟨v5, rfl, hr5, hb5⟩
          obtain ⟨A7, c7, w7, hrun7, hR7, hg7, hbw5, hx7⟩ := app_val (pn := pn) (gb := W.heap.size) (by rw [← HPN.out]; exact I.out.2.1) (by rw [List.length_map]; exact HPN.out) I.out.1 hWbs hpl H3.out.1 hr5 hb5
          rw [HPN.out] at hx7
          have hx5 := blk_belowX H3.out.2 (below_step (below_alloc (Below.refl _ _) _) hb5)
          have d5 : w5.cell? ⟨W.heap.size, 0, none⟩ = some (.slice Ap pn cp) := (by rw [blk_cell hx5]; rfl)
          have z5 : W.heap.size < w5.heap.size := lt_of_some hx5
          have f7 := blk_frozen hx7 0
          have s7 := blk_lt hx7
          have d7 := blk_cell hx7 0
          simp at d7
          have S7 := Aside0.mk (And.intro hR7 (And.intro hg7 (And.intro hbw5 hx7)))
          have HRUN := Lib.hid hrun7
          clear hr5 hb5 hR7 hg7 hbw5 hx7 hx5 hrun7
          refine hK _ _ ?_
          clear hK K
          refine wpAnyIn_ready (rs := [8]) (by kernel_rfl) (by simp) ?_
          refine AllReadyIn.cons rfl (fun K hK => ?_) AllReadyIn.nil
          go_simp
          refine hK _ _ ?_
          clear hK K
          refine wpAnyIn_ready (rs := [9]) (by kernel_rfl) (by simp) ?_
          refine AllReadyIn.cons rfl (fun K hK => ?_) AllReadyIn.nil
          refine ite_yes (by rfl) ?_
          refine op_append (s := .tmp 11) (x := .tmp 19) (t := 37) rfl rfl rfl HRUN.out ?_
          refine hK _ _ ?_
          clear hK K
          refine wpAnyIn_ready (rs := [10]) (by kernel_rfl) (by simp) ?_
          refine AllReadyIn.cons rfl (fun K hK => ?_) AllReadyIn.nil
          go_simp
          refine hK _ _ ?_
          clear hK K
          refine wpAnyIn_done (by kernel_rfl) ?_ _
          exact spl_round (by omega) I.out.2.2 HPN.out I.out.1 I.out.2.1 hWbs hgb S7.out.1 S7.out.2.1 S7.out.2.2.1 S7.out.2.2.2 HO1.out
        · go_simp
          refine hK _ _ ?_
          clear hK K
          refine wpAnyIn_ready (rs := [0, 7]) (by kernel_rfl) (by simp) ?_
          refine AllReadyIn.cons rfl (fun K hK => ?_) (AllReadyIn.cons rfl (fun K hK => ?_) AllReadyIn.nil)
          · go_simp
            refine hK _ _ ?_
            clear hK K
            refine wpAnyIn_ready (rs := [7]) (by kernel_rfl) (by simp) ?_
            refine AllReadyIn.cons rfl (fun K hK => ?_) AllReadyIn.nil
            go_simp
            refine (callsIn_wide.2 (New_one (o1, v) w3.heap.size (w3.alloc (.cells #[.int .u64 o1, .int .i64 v] 45)) (by rw [← HO1.out]; exact HU.out.1) (by rw [← HO1.out]; exact HU.out.2) (blk_new w3 _))).mono ?_
            rintro e w5 ⟨v5, rfl, hr5, hb5⟩
            obtain ⟨A7, c7, w7, hrun7, hR7, hg7, hbw5, hx7⟩ := app_val (pn := pn) (gb := W.heap.size) (by rw [← HPN.out]; exact I.out.2.1) (by rw [List.length_map]; exact HPN.out) I.out.1 hWbs hpl H3.out.1 hr5 hb5
            rw [HPN.out] at hx7
            have hx5 := blk_belowX H3.out.2 (below_step (below_alloc (Below.refl _ _) _) hb5)
            have d5 : w5.cell? ⟨W.heap.size, 0, none⟩ = some (.slice Ap pn cp) := (by rw [blk_cell hx5]; rfl)
            have z5 : W.heap.size < w5.heap.size := lt_of_some hx5
            have f7 := blk_frozen hx7 0
            have s7 := blk_lt hx7
            have d7 := blk_cell hx7 0
            simp at d7
            have S7 := Aside0.mk (And.intro hR7 (And.intro hg7 (And.intro hbw5 hx7)))
            have HRUN := Lib.hid hrun7
            clear hr5 hb5 hR7 hg7 hbw5 hx7 hx5 hrun7
            refine hK _ _ ?_
            clear hK K
            refine wpAnyIn_ready (rs := [8]) (by kernel_rfl) (by simp) ?_
            refine AllReadyIn.cons rfl (fun K hK => ?_) AllReadyIn.nil
            go_simp
            refine hK _ _ ?_
            clear hK K
            refine wpAnyIn_ready (rs := [9]) (by kernel_rfl) (by simp) ?_
            refine AllReadyIn.cons rfl (fun K hK => ?_) AllReadyIn.nil
            refine ite_yes (by rfl) ?_
            refine op_append (s := .tmp 11) (x := .tmp 19) (t := 37) rfl rfl rfl HRUN.out ?_
            refine hK _ _ ?_
            clear hK K
            refine wpAnyIn_ready (rs := [10]) (by kernel_rfl) (by simp) ?_
            refine AllReadyIn.cons rfl (fun K hK => ?_) AllReadyIn.nil
            go_simp
            refine hK _ _ ?_
            clear hK K
            refine wpAnyIn_done (by kernel_rfl) ?_ _
            exact spl_round (by omega) I.out.2.2 HPN.out I.out.1 I.out.2.1 hWbs hgb S7.out.1 S7.out.2.1 S7.out.2.2.1 S7.out.2.2.2 HO1.out
          · go_simp
            refine (callsIn_wide.2 (New_one (o1, v) w3.heap.size (w3.alloc (.cells #[.int .u64 o1, .int .i64 v] 45)) (by rw [← HO1.out]; exact HU.out.1) (by rw [← HO1.out]; exact HU.out.2) (blk_new w3 _))).mono ?_
            rintro e w5 ⟨v5, rfl, hr5, hb5⟩
            obtain ⟨A7, c7, w7, hrun7, hR7, hg7, hbw5, hx7⟩ := app_val (pn := pn) (gb := W.heap.size) (by rw [← HPN.out]; exact I.out.2.1) (by rw [List.length_map]; exact HPN.out) I.out.1 hWbs hpl H3.out.1 hr5 hb5
            rw [HPN.out] at hx7
            have hx5 := blk_belowX H3.out.2 (below_step (below_alloc (Below.refl _ _) _) hb5)
            have d5 : w5.cell? ⟨W.heap.size, 0, none⟩ = some (.slice Ap pn cp) := (by rw [blk_cell hx5]; rfl)
            have z5 : W.heap.size < w5.heap.size := lt_of_some hx5
            have f7 := blk_frozen hx7 0
            have s7 := blk_lt hx7
            have d7 := blk_cell hx7 0
            simp at d7
            have S7 := Aside0.mk (And.intro hR7 (And.intro hg7 (And.intro hbw5 hx7)))
            have HRUN := Lib.hid hrun7
            clear hr5 hb5 hR7 hg7 hbw5 hx7 hx5 hrun7
            refine hK _ _ ?_
            clear hK K
            refine wpAnyIn_ready (rs := [0, 8]) (by kernel_rfl) (by simp) ?_
            refine AllReadyIn.cons rfl (fun K hK => ?_) (AllReadyIn.cons rfl (fun K hK => ?_) AllReadyIn.nil)
            · go_simp
              refine hK _ _ ?_
              clear hK K
              refine wpAnyIn_ready (rs := [8]) (by kernel_rfl) (by simp) ?_
              refine AllReadyIn.cons rfl (fun K hK => ?_) AllReadyIn.nil
              go_simp
              refine hK _ _ ?_
              clear hK K
              refine wpAnyIn_ready (rs := [9]) (by kernel_rfl) (by simp) ?_
              refine AllReadyIn.cons rfl (fun K hK => ?_) AllReadyIn.nil
              refine ite_yes (by rfl) ?_
              refine op_append (s := .tmp 11) (x := .tmp 19) (t := 37) rfl rfl rfl HRUN.out ?_
              refine hK _ _ ?_
              clear hK K
              refine wpAnyIn_ready (rs := [10]) (by kernel_rfl) (by simp) ?_
              refine AllReadyIn.cons rfl (fun K hK => ?_) AllReadyIn.nil
              go_simp
              refine hK _ _ ?_
              clear hK K
              refine wpAnyIn_done (by kernel_rfl) ?_ _
              exact spl_round (by omega) I.out.2.2 HPN.out I.out.1 I.out.2.1 hWbs hgb S7.out.1 S7.out.2.1 S7.out.2.2.1 S7.out.2.2.2 HO1.out
            · go_simp
              refine hK _ _ ?_
              clear hK K
              refine wpAnyIn_ready (rs := [0]) (by kernel_rfl) (by simp) ?_
              refine AllReadyIn.cons rfl (fun K hK => ?_) AllReadyIn.nil
              go_simp
              refine hK _ _ ?_
              clear hK K
              refine wpAnyIn_ready (rs := [9]) (by kernel_rfl) (by simp) ?_
              refine AllReadyIn.cons rfl (fun K hK => ?_) AllReadyIn.nil
              refine ite_yes (by rfl) ?_
              refine op_append (s := .tmp 11) (x := .tmp 19) (t := 37) rfl rfl rfl HRUN.out ?_
              refine hK _ _ ?_
              clear hK K
              refine wpAnyIn_ready (rs := [10]) (by kernel_rfl) (by simp) ?_
              refine AllReadyIn.cons rfl (fun K hK => ?_) AllReadyIn.nil
              go_simp
              refine hK _ _ ?_
              clear hK K
              refine wpAnyIn_done (by kernel_rfl) ?_ _
              exact spl_round (by omega) I.out.2.2 HPN.out I.out.1 I.out.2.1 hWbs hgb S7.out.1 S7.out.2.1 S7.out.2.2.1 S7.out.2.2.2 HO1.out
  case done =>
    rintro D xs X hD rfl hI hKd
    obtain ⟨Ap, cp, i1, i2⟩ := hI.row
    have HK := Aside0.mk (Kept_calls rs 18446744073709551615 A c X.drew hc (C_of_blocks HC.out (fun i hi => hI.below.block i hi)) (by unfold U64; omega))
    have d0 : X.drew.cell? ⟨W.heap.size, 0, none⟩ = some (.slice Ap (resL rs).length cp) := (blk_cell i1 0).trans rfl
    have S0 := Aside0.mk d0
    have F := Aside0.mk (And.intro i1 (And.intro i2 (And.intro hI.below hKd)))
    clear i1 i2 hI hKd d0
    gi_wp2
    refine wpIn_wide.2 ?_
    go_wp2
    go_region_held3 (fun w' => w'.cell? ⟨W.heap.size, 0, none⟩ = some (.slice Ap (resL rs).length cp))
      (first | (with_reducible exact S0.out) | (with_reducible exact S1.out))
      (first
        | (go_at_call 20; refine HK.out.mono ?_; rintro e w5 ⟨rfl, hb⟩; have hb2 : Below X.heap.size X w5 := (show Below X.heap.size X X.drew from below_drew (Below.refl _ _)) |> fun h => below_step h hb; have d1 : w5.cell? ⟨W.heap.size, 0, none⟩ = some (.slice Ap (resL rs).length cp) := (blk_cell (blk_belowX F.out.1 hb2) 0).trans rfl; have S1 := Aside0.mk d1; have B5 := Aside0.mk hb2; clear hb hb2 d1))
    all_goals
      gi_wp2
      have hK' := blk_belowX F.out.2.2.2 B5.out
      have hl : Lies W.heap.size w5 (w5.putObj D (.deferred none)) := .put (by omega) hK' rfl _
      have hR5 := Kd.R_below F.out.2.1 B5.out
      refine ⟨by simp, .inl ⟨_, _, rfl, run_takeDeferred hK', ?_⟩⟩
      exact ⟨_, results_tmp2 rfl _ _ _, _, rfl, hl.R (Kd.R_lower hR5 (by omega)), hl.below (below_step F.out.2.2.1 B5.out) (Nat.le_refl _) (Nat.le_refl _)⟩
end Go.Proofs.Ytmmingnkepifoaa.H
/- money.Ceil. -/
namespace Go.Proofs.Ytmmingnkepifoaa.H
open Go.RowKit Go.Proofs.YtmmingnkepifoaaW.PrintWords Go.Proofs.YtmmingnkepifoaaW.PrintLast Go.Proofs.YtmmingnkepifoaaW.PrintMore
set_option linter.unusedVariables false
set_option linter.unusedSimpArgs false
theorem Ceil_calls (a b : Int) (W : World) (h0 : 0 ≤ a) (h1 : a ≤ 1099511627776) (h2 : 1 ≤ b) :
    Calls Try.prog 26 #[.int .i64 a, .int .i64 b] W fun e W' => e = .returned (.int .i64 (if a % b = 0 then a / b else a / b + 1)) ∧ W = W' := by
  have h3 : 0 ≤ a / b := Int.ediv_nonneg h0 (by omega)
  have h4 : a / b ≤ a := Int.ediv_le_self _ h0
  have h5 : a / b ≤ 1099511627776 := by omega
  have n1 : ¬ a < 0 := by omega
  have n2 : ¬ b < 1 := by omega
  have n3 : ¬ b = 0 := by omega
  have n4 : (b == 0) = false := by rw [beq_eq_false_iff_ne]; exact n3
  have td : Int.tdiv a b = a / b := Int.tdiv_eq_ediv_of_nonneg h0
  have tm : Int.tmod a b = a % b := Int.tmod_eq_emod_of_nonneg h0
  have hw : wrap64 (a / b) = a / b := by unfold wrap64; omega
  have hw2 : wrap64 (a / b + 1) = a / b + 1 := by unfold wrap64; omega
  have mA : max a 0 = a := by omega
  have mB : max b 1 = b := by omega
  have n5 : (max b 1 == 0) = false := by rw [mB]; exact n4
  have td2 : Int.tdiv (max a 0) (max b 1) = a / b := by rw [mA, mB]; exact td
  have tm2 : Int.tmod (max a 0) (max b 1) = a % b := by rw [mA, mB]; exact tm
  by_cases hz : a % b = 0
  · have z1 : (a % b == 0) = true := beq_iff_eq.2 hz
    have z2 : (a % b != 0) = false := by rw [bne_eq_false_iff_eq]; exact hz
    have z3 : (max a 0 % max b 1 == 0) = true := by rw [mA, mB]; exact z1
    have z4 : (max a 0 % max b 1 != 0) = false := by rw [mA, mB]; exact z2
    have z5 : (Int.tmod (max a 0) (max b 1) == 0) = true := by rw [tm2]; exact z1
    have z6 : (Int.tmod (max a 0) (max b 1) != 0) = false := by rw [tm2]; exact z2
    rw [if_pos hz]
    go_enter Try.func26, Try.ntmps26
    go_wp2
    go_ret
    exact ⟨by first | rfl | simp [*], rfl⟩
  · have z1 : (a % b == 0) = false := by rw [beq_eq_false_iff_ne]; exact hz
    have z2 : (a % b != 0) = true := by rw [bne_iff_ne]; exact hz
    have z3 : (max a 0 % max b 1 == 0) = false := by rw [mA, mB]; exact z1
    have z4 : (max a 0 % max b 1 != 0) = true := by rw [mA, mB]; exact z2
    have z5 : (Int.tmod (max a 0) (max b 1) == 0) = false := by rw [tm2]; exact z1
    have z6 : (Int.tmod (max a 0) (max b 1) != 0) = true := by rw [tm2]; exact z2
    rw [if_neg hz]
    go_enter Try.func26, Try.ntmps26
    go_wp2
    go_ret
    exact ⟨by first | rfl | simp [*], rfl⟩
end Go.Proofs.Ytmmingnkepifoaa.H
