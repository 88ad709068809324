/- Some texts of one seat in one file, in build order. -/
import Derived.Test.YtmcapemlfplcgaaDoorG2
import Derived.Test.YtmcapemlfplcgaaDoorG4
import Derived.Lib.Builder
import Derived.Lib.AppendStr
/- strings.Builder: one that the call itself has made: copyCheck. -/
namespace Go.Proofs.YtmcapemlfplcgaaDoor.H
open Go.RowKit Go.Proofs.YtmcapemlfplcgaaDoorW.PrintWords Go.Proofs.YtmcapemlfplcgaaDoorW.PrintLast Go.Proofs.YtmcapemlfplcgaaDoorW.PrintMore
set_option linter.unusedVariables false
set_option linter.unusedSimpArgs false
set_option maxRecDepth 100000
theorem size_bd : (Tryd.prog.info? 82).map (·.size) = some 2 := by kernel_rfl
theorem lies_bd : liesAt Tryd.prog Tryd.prog.depth 82 (2 / Tryd.prog.cellsOf 82) 0 82 1 = true := by kernel_rfl
set_option maxHeartbeats 1000000 in
theorem copyCheck0 (g : Nat) (v : Value) (W : World) (h : W.heap[g]? = some (.cells #[.pointer none, v] 82 (0, 0))) :
    Calls Tryd.prog 71 #[.pointer (some ⟨g, 0, none⟩)] W fun e W' => e = .returned (.tuple #[]) ∧ W' = W.setCell ⟨g, 0, none⟩ (.pointer (some ⟨g, 0, none⟩)) := by
  have d0 := blk_cell h 0
  have f0 := blk_frozen h 0
  have z0 := blk_lt h
  simp at d0
  obtain ⟨j, hj, hjs⟩ := Option.map_eq_some_iff.1 size_bd
  have hsh : W.shape? g = some (82, 2) := by simp [World.shape?, h]
  go_enter Tryd.func71, Tryd.ntmps71
  go_wp2
  rw [Lib.run_to_unsafe W ⟨g, 0, none⟩ Tryd.underlying80 Tryd.underlying106 hj (by rw [hjs]; decide) hsh (Nat.zero_lt_succ 1)]
  simp only [Result.andThen]
  rw [Oper.upon_value]
  go_wp2
  rw [run_callFunc_extern Tryd.func80 (by kernel_rfl) (by kernel_rfl) (by kernel_rfl) (e := Extern.AbiNoEscape.same) (by kernel_rfl)]
  rw [Lib.run_noEscape]
  simp only [Result.andThen]
  rw [Oper.upon_value]
  go_wp2
  rw [Lib.run_from_unsafe W ⟨g, 0, none⟩ Tryd.underlying106 Tryd.underlying80 hj hsh lies_bd]
  simp only [Result.andThen]
  rw [Oper.upon_value]
  go_wp2
  go_end0
  exact ⟨rfl, rfl⟩
set_option maxHeartbeats 1000000 in
theorem copyCheck1 (g : Nat) (v : Value) (W : World) (h : W.heap[g]? = some (.cells #[.pointer (some ⟨g, 0, none⟩), v] 82 (0, 0))) :
    Calls Tryd.prog 71 #[.pointer (some ⟨g, 0, none⟩)] W fun e W' => e = .returned (.tuple #[]) ∧ W' = W := by
  have d0 := blk_cell h 0
  have f0 := blk_frozen h 0
  have z0 := blk_lt h
  simp at d0
  obtain ⟨j, hj, hjs⟩ := Option.map_eq_some_iff.1 size_bd
  go_enter Tryd.func71, Tryd.ntmps71
  go_wp2
  rw [Lib.run_neq_ptr_same W _ Tryd.underlying80 hj]
  go_wp2
  go_end0
  exact ⟨rfl, rfl⟩
theorem copyCheck_calls (g : Nat) (a : Option Addr) (v : Value) (W : World) (h : W.heap[g]? = some (.cells #[.pointer a, v] 82 (0, 0))) (ha : a = none ∨ a = some ⟨g, 0, none⟩) :
    Calls Tryd.prog 71 #[.pointer (some ⟨g, 0, none⟩)] W fun e W' => e = .returned (.tuple #[]) ∧ W'.heap[g]? = some (.cells #[.pointer (some ⟨g, 0, none⟩), v] 82 (0, 0)) ∧ Oth g W W' := by
  rcases ha with rfl | rfl
  · refine (copyCheck0 g v W h).mono ?_
    rintro e W' ⟨rfl, rfl⟩
    exact ⟨rfl, blk_put h 0 _ rfl, Oth.set W ⟨g, 0, none⟩ _⟩
  · refine (copyCheck1 g v W h).mono ?_
    rintro e W' ⟨rfl, rfl⟩
    exact ⟨rfl, h, Oth.refl _ _⟩
/-- What is no cells lies as it lay. -/
def NC (W W' : World) : Prop := ∀ (k : Nat) (o : Obj), W.heap[k]? = some o → o.isCells = false → W'.heap[k]? = some o
theorem NC.trans {X Y Z : World} (h : NC X Y) (k : NC Y Z) : NC X Z := fun i o hi ho => k i o (h i o hi ho) ho
theorem nc_of_oth {g : Nat} {W W' : World} (h : Oth g W W') {cs : Array Value} {t : TypeId} {z : Nat × Nat} (hg : W.heap[g]? = some (.cells cs t z)) : NC W W' := fun k o hk ho => h.blk hk (by rintro rfl; rw [hg] at hk; cases hk; cases ho)
theorem nc_of_grown {W W' : World} {r : Option Nat} (h : W.grownBy W' r) (ht : ∀ k, r = some k → ∃ (cells : Array Value) (t : TypeId), W.heap[k]? = some (.cells cells t (0, 0))) : NC W W' := fun k o hk ho =>
  (h.block k (lt_of_some hk) (fun e => by obtain ⟨c, t, hc⟩ := ht k e.symm; rw [hc] at hk; cases hk; cases ho)).trans hk
/-- A builder at block g that holds bytes. -/
structure BdAt (X : World) (g B : Nat) (l : List Int) : Prop where
  lt : g < B
  cells : ∃ a A c, X.heap[g]? = some (.cells #[.pointer a, .slice A l.length c] 82 (0, 0)) ∧ (a = none ∨ a = some ⟨g, 0, none⟩) ∧ Kd.R (Kd.int .u8) 5 X B (fun _ => True) (.slice A l.length c) l
theorem info_b8 : (Tryd.prog.info? 5).map (fun i => (i.zero, i.size, i.bytes)) = some (some (.int .u8 0), 1, 1) := by kernel_rfl
theorem BdAt.oth {X Y : World} {g B : Nat} {v : Value} {l : List Int} {A : Option Addr} {c : Nat} {a : Option Addr} (hR : Kd.R (Kd.int .u8) 5 X B (fun _ => True) (.slice A l.length c) l) (hB : g < B) (ho : Oth g X Y) : Kd.R (Kd.int .u8) 5 Y B (fun _ => True) (.slice A l.length c) l :=
  (But.of_oth (P := fun k => k = g) ho rfl).R hR (fun k _ hk _ e => by omega)
set_option maxHeartbeats 1600000 in
theorem WriteByte_calls (g B : Nat) (l : List Int) (x : Int) (W : World) (h : BdAt W g B l) (hBW : B ≤ W.heap.size) (hl : l.length ≤ 100000) :
    Calls Tryd.prog 51 #[.pointer (some ⟨g, 0, none⟩), .int .u8 x] W fun e W' => e = .returned .nilIface ∧ BdAt W' g B (l ++ [x]) ∧ But (fun k => k = g ∨ B ≤ k) W W' ∧ NC W W' := by
  obtain ⟨a, A, c, h1, h2, h3⟩ := h.cells
  have hgB := h.lt
  obtain ⟨n, hn⟩ : ∃ n, l.length = n := ⟨_, rfl⟩
  rw [hn] at h1 hl
  have H3 := Aside0.mk (And.intro h3 (And.intro h1 hn))
  have HC := Aside0.mk (copyCheck_calls g a (.slice A n c) W h1 h2)
  clear h h1 h2 h3 hn
  go_enter Tryd.func51, Tryd.ntmps51
  go_wp2_with (fail)
  refine HC.out.mono ?_
  rintro e w1 ⟨rfl, hg1, ho1⟩
  have d0 := blk_cell hg1 0
  have d1 := blk_cell hg1 1
  have f1 := blk_frozen hg1 1
  have z1 := blk_lt hg1
  simp at d0 d1
  have hR1 := BdAt.oth (a := none) (v := undef) H3.out.1 hgB ho1
  rw [H3.out.2.2] at hR1
  have S1 := Aside0.mk (And.intro hg1 (And.intro ho1 hR1))
  clear hg1 ho1 hR1
  go_wp2_with (first
    | ((with_reducible refine gate_builtin (b := .append) (xs := #[.tmp 11, .tmp 13]) rfl ?_); at_builtin; refine Kd.R_append (Kd.int .u8) (w0 := w1) B rfl (.tmp 11) (.tmp 13) 69 5 (.int .u8 0) 1 rfl Tryd.underlying69 info_b8 rfl (by decide) (by omega) _ l x [.int .u8 x] (fun _ => True) (fun _ => False) rfl rfl rfl (fun _ hk => hk.elim) (fun _ _ => trivial) S1.out.2.2 (Below.refl _ _) (Nat.le_trans hBW S1.out.2.1.size) (by rw [H3.out.2.2]; omega) ?_; intro v7 w7 ho7 hb7 hg7 hat7; obtain ⟨A7, c7, e7⟩ := Kd.R_slice ho7; subst e7; rw [List.length_append, List.length_singleton, H3.out.2.2] at ho7; rw [List.length_append, List.length_singleton, H3.out.2.2]; have hx7 := blk_grown S1.out.2.2 S1.out.1 (by decide) hg7; have d7 := blk_cell hx7 1; have d70 := blk_cell hx7 0; have f7 := blk_frozen hx7 1; have s7 := blk_lt hx7; simp at d7 d70; have HO7 := Aside0.mk (And.intro ho7 (And.intro hb7 (And.intro hg7 hx7))); clear ho7 hb7 hg7 hat7 hx7))
  obtain ⟨q1, q2, q3, q4⟩ := HO7.out
  have q3 : w1.grownBy w7 (Value.slice A n c).ownBlock := q3
  have hgW : g < W.heap.size := lt_of_some H3.out.2.1
  have hset : Oth g w7 (w7.setCell ⟨g, 1, none⟩ (.slice A7 (n + 1) c7)) := Oth.set w7 ⟨g, 1, none⟩ _
  have hbut : But (fun k => k = g ∨ B ≤ k) W (w7.setCell ⟨g, 1, none⟩ (.slice A7 (n + 1) c7)) :=
    ((But.of_oth (P := fun k => k = g ∨ B ≤ k) S1.out.2.1 (.inl rfl)).trans (But.of_grown (P := fun k => k = g ∨ B ≤ k) q3 (fun k hk => by
      obtain ⟨_, ho'⟩ := Kd.R_own S1.out.2.2
      exact .inr (own_base ho' k hk)))).trans (But.of_oth (P := fun k => k = g ∨ B ≤ k) hset (.inl rfl))
  have hnc : NC W (w7.setCell ⟨g, 1, none⟩ (.slice A7 (n + 1) c7)) := ((nc_of_oth S1.out.2.1 H3.out.2.1).trans (nc_of_grown q3 (fun k hk => by
    obtain ⟨_, ho'⟩ := Kd.R_own S1.out.2.2
    obtain ⟨cells, hc⟩ := own_typed ho' k hk
    exact ⟨cells, _, hc⟩))).trans (nc_of_oth hset q4)
  go_ret
  refine ⟨rfl, ⟨hgB, ⟨_, A7, c7, ?_, .inr rfl, ?_⟩⟩, hbut, hnc⟩
  · rw [List.length_append, List.length_singleton, H3.out.2.2]
    exact blk_put q4 1 (.slice A7 (n + 1) c7) rfl
  · rw [List.length_append, List.length_singleton, H3.out.2.2]
    exact Kd.R_set q1 q4 (by decide) 1 _
/-- A text's bytes. -/
def bytesI (s : ByteArray) : List Int := s.data.toList.map fun b => (b.toNat : Int)
theorem bytesI_len (s : ByteArray) : (bytesI s).length = s.size := by unfold bytesI; rw [List.length_map, Array.length_toList]; rfl
theorem reps_str (s : ByteArray) : Reps (fun (x : Int) (cs : List Value) => cs = [.int .u8 x]) 1 (bytesI s) (Lib.strCells s) := by
  have h := reps_map (enc := Value.int .u8) (bytesI s)
  have e : (bytesI s).map (Value.int .u8) = Lib.strCells s := by unfold bytesI Lib.strCells; rw [List.map_map]; rfl
  rw [e] at h; exact h
set_option maxHeartbeats 1600000 in
theorem WriteString_calls (g B : Nat) (l : List Int) (s : ByteArray) (W : World) (h : BdAt W g B l) (hBW : B ≤ W.heap.size) (hl : l.length ≤ 100000) (hs : s.size ≤ 100000) :
    Calls Tryd.prog 52 #[.pointer (some ⟨g, 0, none⟩), .string s] W fun e W' => (∃ v, e = .returned v) ∧ BdAt W' g B (l ++ bytesI s) ∧ But (fun k => k = g ∨ B ≤ k) W W' ∧ NC W W' := by
  obtain ⟨a, A, c, h1, h2, h3⟩ := h.cells
  have hgB := h.lt
  obtain ⟨n, hn⟩ : ∃ n, l.length = n := ⟨_, rfl⟩
  rw [hn] at h1 hl
  have H3 := Aside0.mk (And.intro h3 (And.intro h1 hn))
  have HC := Aside0.mk (copyCheck_calls g a (.slice A n c) W h1 h2)
  obtain ⟨i0, hi, hz0, hz1, hz2⟩ := info_parts info_b8
  clear h h1 h2 h3 hn
  go_enter Tryd.func52, Tryd.ntmps52
  go_wp2_with (fail)
  refine HC.out.mono ?_
  rintro e w1 ⟨rfl, hg1, ho1⟩
  have d0 := blk_cell hg1 0
  have d1 := blk_cell hg1 1
  have f1 := blk_frozen hg1 1
  have z1 := blk_lt hg1
  simp at d0 d1
  have hR1 := BdAt.oth (a := none) (v := undef) H3.out.1 hgB ho1
  rw [H3.out.2.2] at hR1
  obtain ⟨hr0, inner, hown, hrep⟩ := hR1
  rw [H3.out.2.2] at hown
  have hne := Kd.R_ne (e := 5) (d := Kd.int .u8) ⟨hr0, inner, by rw [H3.out.2.2]; exact hown, hrep⟩ hg1 (by decide)
  have S1 := Aside0.mk (And.intro hg1 (And.intro ho1 (And.intro hown (And.intro hrep hne))))
  clear hg1 ho1 hown hrep hr0 hne
  go_wp2_with (first
    | (at_builtin; refine Lib.wpList_append_own_string _ rfl (.tmp 12) (.tmp 13) 69 9 rfl B 5 i0 Tryd.underlying69 Tryd.underlying9 hi hz0 hz1 hz2 (.slice A n c) n inner rfl S1.out.2.2.1 s rfl (by unfold maxLen; omega) (by omega) (Nat.le_trans hBW S1.out.2.1.size) ?_; intro v7 w7 ho7 hg7 _; have hR7 : Kd.R (Kd.int .u8) 5 w7 B (fun _ => True) v7 (l ++ bytesI s) := ⟨fun _ _ => trivial, inner ++ Lib.strCells s, (by rw [List.length_append, bytesI_len, H3.out.2.2]; exact ho7), Kd.reps_append S1.out.2.2.2.1 (reps_str s)⟩; obtain ⟨A7, c7, e7⟩ := Kd.R_slice hR7; rw [List.length_append, bytesI_len, H3.out.2.2] at e7; subst e7; have hx7 := (hg7.block g z1 S1.out.2.2.2.2).trans S1.out.1; have d7 := blk_cell hx7 1; have d70 := blk_cell hx7 0; have f7 := blk_frozen hx7 1; have s7 := blk_lt hx7; simp at d7 d70; have HO7 := Aside0.mk (And.intro hR7 (And.intro hg7 hx7)); clear ho7 hg7 hx7 hR7))
  obtain ⟨q1, q3, q4⟩ := HO7.out
  have hgW : g < W.heap.size := lt_of_some H3.out.2.1
  have hset : Oth g w7 (w7.setCell ⟨g, 1, none⟩ (.slice A7 (n + s.size) c7)) := Oth.set w7 ⟨g, 1, none⟩ _
  have hbut : But (fun k => k = g ∨ B ≤ k) W (w7.setCell ⟨g, 1, none⟩ (.slice A7 (n + s.size) c7)) :=
    ((But.of_oth (P := fun k => k = g ∨ B ≤ k) S1.out.2.1 (.inl rfl)).trans (But.of_grown (P := fun k => k = g ∨ B ≤ k) q3 (fun k hk => by
      exact .inr (own_base S1.out.2.2.1 k hk)))).trans (But.of_oth (P := fun k => k = g ∨ B ≤ k) hset (.inl rfl))
  have hnc : NC W (w7.setCell ⟨g, 1, none⟩ (.slice A7 (n + s.size) c7)) := ((nc_of_oth S1.out.2.1 H3.out.2.1).trans (nc_of_grown q3 (fun k hk => by
    obtain ⟨cells, hc⟩ := own_typed S1.out.2.2.1 k hk
    exact ⟨cells, _, hc⟩))).trans (nc_of_oth hset q4)
  have hln : (l ++ bytesI s).length = n + s.size := by rw [List.length_append, bytesI_len, H3.out.2.2]
  refine bodyPost_ret (results_list (rs := [.tmp 4, .tmp 5]) rfl (by simp) (.tmp (.tmp .nil))) rfl ?_
  refine ⟨⟨_, rfl⟩, ⟨hgB, ⟨_, A7, c7, ?_, .inr rfl, ?_⟩⟩, hbut, hnc⟩
  · rw [hln]
    exact blk_put q4 1 (.slice A7 (n + s.size) c7) rfl
  · rw [hln]
    exact Kd.R_set q1 q4 (by decide) 1 _
theorem BdAt.is {X : World} {g B : Nat} {l : List Int} (h : BdAt X g B l) : Lib.IsBuilder 82 5 g g (l.map (Value.int .u8)) X := by
  obtain ⟨a, A, c, h1, h2, hr0, inner, hown, hrep⟩ := h.cells
  have e : inner = l.map (Value.int .u8) := by
    refine List.ext_getElem? fun j => ?_
    by_cases hj : j < l.length
    · have h1 := hrep.2 j l[j] (List.getElem?_eq_getElem hj)
      have h2 : (inner.drop (j * 1)).take 1 = [Value.int .u8 l[j]] := h1
      rw [Nat.mul_one] at h2
      have h3 := congrArg (fun q => q[0]?) h2
      simp at h3
      rw [List.getElem?_map, List.getElem?_eq_getElem hj]
      simpa using h3
    · have h1 : inner.length = l.length * 1 := hrep.1
      rw [List.getElem?_eq_none (by omega), List.getElem?_eq_none (by rw [List.length_map]; omega)]
  subst e
  have hne : (Value.slice A l.length c).ownBlock ≠ some g := fun e => by have := own_base hown g e; have := h.lt; omega
  rcases h2 with rfl | rfl
  · exact .inl ⟨Nat.le_refl _, _, h1, by rw [List.length_map]; exact ⟨hown.1, hown.2.imp id (fun ⟨g1, cap, cur, e, hb, r⟩ => ⟨g1, cap, cur, e, by have := h.lt; omega, r⟩)⟩, hne⟩
  · exact .inr ⟨Nat.le_refl _, _, h1, by rw [List.length_map]; exact ⟨hown.1, hown.2.imp id (fun ⟨g1, cap, cur, e, hb, r⟩ => ⟨g1, cap, cur, e, by have := h.lt; omega, r⟩)⟩, hne⟩
end Go.Proofs.YtmcapemlfplcgaaDoor.H
