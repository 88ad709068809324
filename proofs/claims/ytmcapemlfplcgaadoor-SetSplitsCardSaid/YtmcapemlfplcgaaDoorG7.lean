/- Some texts of one seat in one file, in build order. -/
import Derived.Test.YtmcapemlfplcgaaDoorG2
import Derived.Test.YtmcapemlfplcgaaDoorG5
import Derived.Test.YtmcapemlfplcgaaDoorG6
import Derived.Test.YtmcapemlfplcgaaDoorG3
/- strings.SplitSeq at a sign of one byte, as an iterator. -/
namespace Go.Proofs.YtmcapemlfplcgaaDoor.H
open Go.RowKit Go.Proofs.YtmcapemlfplcgaaDoorW.PrintWords Go.Proofs.YtmcapemlfplcgaaDoorW.PrintLast Go.Proofs.YtmcapemlfplcgaaDoorW.PrintMore Go.Proofs.YtmcapemlfplcgaaDoor.AtM Go.Proofs.YtmcapemlfplcgaaDoor.R02
set_option linter.unusedVariables false
set_option linter.unusedSimpArgs false
set_option maxRecDepth 100000
attribute [local go_sem] Oper.semAt_some wide_fn wide_depth
/-- A text's parts between signs. -/
def splitC (c : UInt8) : List UInt8 → List (List UInt8)
  | [] => [[]]
  | b :: r => if b = c then [] :: splitC c r else match splitC c r with
    | [] => [[b]]
    | p :: q => (b :: p) :: q
theorem splitC_ne (c : UInt8) (l : List UInt8) : splitC c l ≠ [] := by
  cases l with
  | nil => simp [splitC]
  | cons b r =>
    unfold splitC
    split
    · simp
    · split <;> simp
theorem splitC_none : ∀ {l : List UInt8} {c : UInt8}, Lib.indexByte l c = -1 → splitC c l = [l]
  | [], c, _ => rfl
  | b :: r, c, h => by
    unfold Lib.indexByte at h
    split at h
    · simp at h
    · rename_i hb
      have hb : b ≠ c := by simpa using hb
      split at h
      · rename_i h1
        have h1 : Lib.indexByte r c = -1 := by simpa using h1
        unfold splitC
        rw [if_neg hb, splitC_none h1]
      · rename_i h1
        have := Lib.indexByte_ge r c
        have h1 : Lib.indexByte r c ≠ -1 := by simpa using h1
        omega
theorem splitC_some : ∀ {l : List UInt8} {c : UInt8} {i : Nat}, Lib.indexByte l c = i → splitC c l = l.take i :: splitC c (l.drop (i + 1))
  | [], c, i, h => by simp [Lib.indexByte] at h
  | b :: r, c, i, h => by
    unfold Lib.indexByte at h
    split at h
    · rename_i hb
      have hb : b = c := by simpa using hb
      obtain rfl : i = 0 := by omega
      show (if b = c then _ else _) = _
      rw [if_pos hb]; simp
    · rename_i hb
      have hb : b ≠ c := by simpa using hb
      split at h
      · omega
      · rename_i h1
        have h1 : Lib.indexByte r c ≠ -1 := by simpa using h1
        have h0 := Lib.indexByte_ge r c
        obtain ⟨j, rfl⟩ : ∃ j, i = j + 1 := ⟨i - 1, by omega⟩
        have h2 : Lib.indexByte r c = (j : Int) := by omega
        have h3 := splitC_some h2
        show (if b = c then _ else match splitC c r with | [] => [[b]] | p :: q => (b :: p) :: q) = _
        rw [if_neg hb, h3]
        simp
theorem ext_list (r : ByteArray) (a b : Nat) : (r.extract a b).data.toList = (r.data.toList.drop a).take (b - a) := by
  rw [ByteArray.data_extract, Array.toList_extract, List.extract_eq_take_drop]
theorem ext_eq (r : ByteArray) (a b : Nat) : r.extract a b = ⟨((r.data.toList.drop a).take (b - a)).toArray⟩ := by
  rw [← ext_list]
def SpY (parts : List (List UInt8)) (pre : List (List UInt8)) (x : List UInt8) (vs : Array Value) (W : World) : Prop := pre ++ [x] <+: parts ∧ vs = #[.string ⟨x.toArray⟩]
/-- How many bytes a box's text has. -/
def szAt (b : Nat) (W : World) : Nat := match W.cell? ⟨b, 0, none⟩ with
  | some (.string r) => r.size
  | _ => 0
theorem szAt_of {b : Nat} {W : World} {r : ByteArray} (h : W.cell? ⟨b, 0, none⟩ = some (.string r)) : szAt b W = r.size := by unfold szAt; rw [h]
theorem Kp.oth {n₀ b : Nat} {Kb : Nat → Prop} {X Y : World} (h : Oth b X Y) (hn : n₀ ≤ X.heap.size) : Kp n₀ (fun k => Kb k ∧ k ≠ b) X Y := ⟨h.size, fun k hk hb => h.block k (by omega) hb.2⟩
theorem Kp.less {n₀ : Nat} {Kb Kc : Nat → Prop} {X Y : World} (h : Kp n₀ Kb X Y) (hc : ∀ k, Kc k → Kb k) : Kp n₀ Kc X Y := ⟨h.1, fun k hk hb => h.2 k hk (hc k hb)⟩
theorem SplitSeq_calls (s sep : ByteArray) (w : World) : Calls Tryd.prog 49 #[.string s, .string sep] w fun e w' =>
    e = .returned (.func (.func 75) #[] #[.pointer (some ⟨w.heap.size + 1, 0, none⟩), .pointer (some ⟨w.heap.size, 0, none⟩), .pointer (some ⟨w.heap.size + 2, 0, none⟩)]) ∧
    w' = ((w.alloc (.cells #[.string s] 9)).alloc (.cells #[.string sep] 9)).alloc (.cells #[.int .i64 0] 3) := by
  go_enter Tryd.func49, Tryd.ntmps49
  have hin : Calls Tryd.prog 69 #[.string s, .string sep, .int .i64 0] w fun e w' =>
    e = .returned (.func (.func 75) #[] #[.pointer (some ⟨w.heap.size + 1, 0, none⟩), .pointer (some ⟨w.heap.size, 0, none⟩), .pointer (some ⟨w.heap.size + 2, 0, none⟩)]) ∧
    w' = ((w.alloc (.cells #[.string s] 9)).alloc (.cells #[.string sep] 9)).alloc (.cells #[.int .i64 0] 3) := by
    go_enter Tryd.func69, Tryd.ntmps69
    go_wp2
    go_ret
    exact ⟨rfl, rfl⟩
  go_wp2_with (go_at_call 69; refine hin.mono ?_; rintro e w1 ⟨rfl, rfl⟩)
  go_ret
  exact ⟨rfl, rfl⟩
set_option maxHeartbeats 1600000 in
theorem Split1_seq (n : Nat) (s : ByteArray) (sg : UInt8) (bs bp bq n₀ : Nat) (Kb : Nat → Prop) (w : World) (hsz : s.size ≤ 100000)
    (hbs : w.heap[bs]? = some (.cells #[.string s] 9 (0, 0))) (hbp : w.heap[bp]? = some (.cells #[.string ⟨#[sg]⟩] 9 (0, 0))) (hbq : w.heap[bq]? = some (.cells #[.int .i64 0] 3 (0, 0)))
    (h1 : bs < n₀ ∧ Kb bs) (h2 : bp < n₀ ∧ Kb bp) (h3 : bq < n₀ ∧ Kb bq) (hd : bs ≠ bp ∧ bs ≠ bq) (hn : n₀ ≤ w.heap.size) :
    SeqB bs Fence.wide n Tryd.prog 75 #[.pointer (some ⟨bp, 0, none⟩), .pointer (some ⟨bs, 0, none⟩), .pointer (some ⟨bq, 0, none⟩)] (SpY (splitC sg s.data.toList)) n₀ Kb (fun ys => ys = splitC sg s.data.toList) (fun _ => True) w := by
  intro l J Jx W hK hJ hJo hJx hY h0
  refine callsIn_wide.2 ((callsIn_wide (n := 8)).1 ?_)
  refine callsIn_of_wp Tryd.func75 rfl trivial ?_ rfl
  simp only [Tryd.ntmps75, List.size_toArray, List.length_cons, List.length_nil, Nat.reduceAdd, Nat.reduceSub, Array.replicate_succ, Array.replicate_zero, List.push_toArray, List.append_toArray, List.nil_append, List.cons_append]
  have gs := (hK.2 bs h1.1 h1.2).trans hbs
  have gp := (hK.2 bp h2.1 h2.2).trans hbp
  have gq := (hK.2 bq h3.1 h3.2).trans hbq
  have d0 := blk_cell gs 0
  have d1 := blk_cell gp 0
  simp at d0 d1
  gi_wp2_with (fail)
  gi_loopw [] (fun wr => ∃ (pre : List (List UInt8)) (r : ByteArray), wr.heap[bs]? = some (.cells #[.string r] 9 (0, 0)) ∧ splitC sg s.data.toList = pre ++ splitC sg r.data.toList ∧ r.size ≤ 100000 ∧ J pre wr ∧ Kp n₀ (fun k => Kb k ∧ k ≠ bs) w wr) (fun wr => szAt bs wr)
  case atStart => exact ⟨[], s, gs, rfl, hsz, h0, hK.less (fun _ h => h.1)⟩
  case round =>
    obtain ⟨pre, r, hr, hl, hrs, h4, h5⟩ := hrel
    clear gs gp gq d0 d1
    have d0 := blk_cell hr 0
    have gp := (h5.2 bp h2.1 ⟨h2.2, hd.1.symm⟩).trans hbp
    have gq := (h5.2 bq h3.1 ⟨h3.2, hd.2.symm⟩).trans hbq
    have d1 := blk_cell gp 0
    have d2 := blk_cell gq 0
    have f0 := blk_frozen hr 0
    have z0 := blk_lt hr
    simp at d0 d1 d2
    have HC := Aside0.mk (Tryd.strings_Index_one r sg wr)
    obtain ⟨iv, hiv⟩ : ∃ v, Lib.indexByte r.data.toList sg = v := ⟨_, rfl⟩
    rw [hiv] at HC
    gi_wp2_with (fail)
    refine (callsIn_wide.2 HC.out).mono ?_
    rintro e w1 ⟨rfl, rfl⟩
    have hge := Lib.indexByte_ge r.data.toList sg
    rw [hiv] at hge
    by_cases hneg : iv = -1
    · subst hneg
      have hlt : (decide ((-1 : Int) < 0)) = true := by decide
      rw [splitC_none hiv] at hl
      have hpre : pre ++ [r.data.toList] <+: splitC sg s.data.toList := ⟨[], by rw [hl]; simp⟩
      obtain ⟨fn, tmps, asg, body, hyy, hR⟩ := yieldAt_wide (m' := 7) (hY _ r.data.toList _ w1 h4 ⟨hpre, rfl⟩)
      have hrr : (⟨r.data.toList.toArray⟩ : ByteArray) = r := by cases r; simp
      rw [hrr] at hyy
      have HL := Lib.hid hl
      clear hl hpre HC hJ hJo hJx hY
      gi_wp2
      refine hR.mono ?_
      rintro e W3 (⟨rfl, hJ3, hk3⟩ | ⟨rfl, hJx3⟩)
      · gi_wp2
        go_end0
        exact ⟨⟨_, rfl⟩, .inl ⟨_, rfl, by rw [HL.out]; exact hJ3⟩⟩
      · gi_wp2
        go_end0
        exact ⟨⟨_, rfl⟩, .inr ⟨_, trivial, hJx3⟩⟩
    · obtain ⟨i, rfl⟩ : ∃ i : Nat, iv = i := ⟨iv.toNat, by omega⟩
      have hlt : (decide ((i : Int) < 0)) = false := by simp
      rw [splitC_some hiv] at hl
      have hil : i < r.size := by
        have := (Lib.indexByte_some hiv).1
        rw [List.getElem?_eq_some_iff] at this
        obtain ⟨h, _⟩ := this
        rw [Lib.size_eq]; exact h
      have hpre : pre ++ [r.data.toList.take i] <+: splitC sg s.data.toList := ⟨splitC sg (r.data.toList.drop (i + 1)), by rw [hl]; simp⟩
      obtain ⟨fn, tmps, asg, body, hyy, hR⟩ := yieldAt_wide (m' := 7) (hY _ (r.data.toList.take i) _ w1 h4 ⟨hpre, rfl⟩)
      rw [show (⟨(r.data.toList.take i).toArray⟩ : ByteArray) = r.extract 0 i by rw [ext_eq]; simp] at hyy
      have hx2 : (r.extract (i + 1) r.size).data.toList = r.data.toList.drop (i + 1) := by
        rw [ext_list, List.take_of_length_le (by rw [List.length_drop, Lib.size_eq]; omega)]
      have hx3 : (r.extract (i + 1) r.size).size = r.size - (i + 1) := by rw [ByteArray.size_extract]; omega
      have HL := Lib.hid hl
      have HJ := Aside0.mk hJo
      clear hl hpre HC hJ hJo hJx hY
      gi_wp2
      refine hR.mono ?_
      rintro e W3 (⟨rfl, hJ3, hk3⟩ | ⟨rfl, hJx3⟩)
      · have gs3 := (hk3.2 bs h1.1 h1.2).trans hr
        have gp3 := (hk3.2 bp h2.1 h2.2).trans gp
        have d03 := blk_cell gs3 0
        have d13 := blk_cell gp3 0
        have f03 := blk_frozen gs3 0
        have z03 := blk_lt gs3
        simp at d03 d13
        gi_wp2
        have hset : Oth bs W3 (W3.setCell ⟨bs, 0, none⟩ (.string (r.extract (i + 1) r.size))) := Oth.set W3 ⟨bs, 0, none⟩ _
        have hput := blk_put gs3 0 (.string (r.extract (i + 1) r.size)) rfl
        refine ⟨⟨pre ++ [r.data.toList.take i], r.extract (i + 1) r.size, hput, by rw [HL.out, hx2]; simp, by omega, HJ.out _ _ _ hJ3 hset, ?_⟩, ?_⟩
        · exact (h5.trans (hk3.less (fun _ h => h.1))).trans (Kp.oth hset (Nat.le_trans hn (Nat.le_trans h5.1 hk3.1)))
        · have e1 := blk_cell hput 0
          have e2 := blk_cell hr 0
          simp at e1 e2
          rw [szAt_of e1, szAt_of e2, hx3]
          omega
      · gi_wp2
        refine bodyPost_ret (results_none rfl _ _ _) rfl ?_
        exact ⟨⟨_, rfl⟩, .inr ⟨_, trivial, hJx3⟩⟩
end Go.Proofs.YtmcapemlfplcgaaDoor.H
/- What folder 02's walks need of the variables: the table of math/bits, the errors of strconv. -/
namespace Go.Proofs.YtmcapemlfplcgaaDoor.H
open Go.RowKit
set_option linter.unusedVariables false
/-- A variable holds an error, or none. -/
def ErC (g : Nat) (w : World) : Prop := ∃ ev, w.cell? ⟨g, 0, none⟩ = some ev ∧ (ev = .nilIface ∨ ∃ te pe, ev = .iface te pe)
structure TabE (w : World) : Prop where
  tab : TabG w
  syn : ErC 4 w
  rng : ErC 5 w
theorem ErC.below {g : Nat} {w w' : World} (h : ErC g w) (hb : Below w.heap.size w w') : ErC g w' := by
  obtain ⟨ev, h1, h2⟩ := h
  exact ⟨ev, (hb.cell (World.block_lt_of_cell? _ _ h1)).trans h1, h2⟩
theorem ErC.lies {g B : Nat} {w w' : World} (h : ErC g w) (hl : Lies B w w') : ErC g w' := by
  obtain ⟨ev, h1, h2⟩ := h
  exact ⟨ev, hl.cell h1, h2⟩
theorem ErC.pos {g : Nat} {w : World} (h : ErC g w) : g < w.heap.size := by obtain ⟨ev, h1, h2⟩ := h; exact World.block_lt_of_cell? _ _ h1
theorem ErC.but {g : Nat} {P : Nat → Prop} {w w' : World} (h : ErC g w) (hb : But P w w') (hg : ¬ P g) : ErC g w' := by
  obtain ⟨ev, h1, h2⟩ := h
  exact ⟨ev, hb.cell h1 hg, h2⟩
theorem TabG.but {P : Nat → Prop} {w w' : World} (h : TabG w) (hb : But P w w') (hg : ¬ P 0) : TabG w' := fun j hj => hb.cell (h j hj) hg
theorem TabE.below {w w' : World} (h : TabE w) (hb : Below w.heap.size w w') : TabE w' := ⟨h.tab.below hb, h.syn.below hb, h.rng.below hb⟩
theorem TabE.lies {B : Nat} {w w' : World} (h : TabE w) (hl : Lies B w w') : TabE w' := ⟨h.tab.lies hl, h.syn.lies hl, h.rng.lies hl⟩
/-- What abides all but blocks made since. -/
theorem TabE.but {P : Nat → Prop} {B : Nat} {w0 w w' : World} (h0 : TabE w0) (hB : w0.heap.size ≤ B) (h : TabE w) (hb : But P w w') (hP : ∀ k, P k → B ≤ k) : TabE w' := by
  have e1 := h0.tab.pos
  have e2 := h0.syn.pos
  have e3 := h0.rng.pos
  exact ⟨h.tab.but hb (fun hp => by have := hP _ hp; omega), h.syn.but hb (fun hp => by have := hP _ hp; omega), h.rng.but hb (fun hp => by have := hP _ hp; omega)⟩
end Go.Proofs.YtmcapemlfplcgaaDoor.H
/- package set: item, number. -/
namespace Go.Proofs.YtmcapemlfplcgaaDoor.H
open Go.RowKit Go.Proofs.YtmcapemlfplcgaaDoorW.PrintWords Go.Proofs.YtmcapemlfplcgaaDoorW.PrintLast Go.Proofs.YtmcapemlfplcgaaDoorW.PrintMore Go.Proofs.YtmcapemlfplcgaaDoor.AtM Go.Proofs.YtmcapemlfplcgaaDoor.R02
set_option linter.unusedVariables false
set_option linter.unusedSimpArgs false
set_option maxRecDepth 100000
attribute [local go_sem] Oper.semAt_some
/-- The text of a small number. -/
def dig2 (i : Nat) : List UInt8 := if i < 10 then [UInt8.ofNat (48 + i)] else [UInt8.ofNat (48 + i / 10), UInt8.ofNat (48 + i % 10)]
theorem dec_dig2 {i : Nat} (h : i < 100) : Lib.decDigits i = dig2 i := by
  unfold dig2
  by_cases h1 : i < 10
  · rw [if_pos h1, Lib.decDigits_one h1]
  · rw [if_neg h1, Lib.decDigits_two h1 h]
theorem dig2_atoi : ∀ i, i < 64 → Lib.atoiAll (dig2 i) = .ok (i : Int) := by decide
theorem dig2_inj : ∀ i, i < 64 → ∀ j, j < 64 → dig2 i = dig2 j → i = j := fun i hi j hj h => by
  have h1 := dig2_atoi i hi
  have h2 := dig2_atoi j hj
  rw [h, h2] at h1
  injection h1 with h1
  omega
theorem Atoi_any (s : ByteArray) (hs : s.size ≤ 100000) (w : World) (hT : TabE w) : Calls Tryd.prog 70 #[.string s] w fun e w' =>
    ∃ (v : Int) (er : Value), e = .returned (.tuple #[.int .i64 v, er]) ∧ Below w.heap.size w w' ∧ ((er = .nilIface ∧ -9223372036854775808 ≤ v ∧ v ≤ 9223372036854775807 ∧ Lib.atoiAll s.data.toList = .ok v) ∨ (∃ a b, er = .iface a b ∧ ∀ v, Lib.atoiAll s.data.toList ≠ .ok v)) := by
  rcases h : Lib.atoiAll s.data.toList with v | _ | _
  · refine (Tryd.strconv_Atoi_ok s (by omega) v h w).mono ?_
    rintro e w' ⟨rfl, hw⟩
    obtain ⟨v0, v1⟩ := Lib.atoiAll_bounds h
    refine ⟨v, _, rfl, ?_, .inl ⟨rfl, v0, v1, rfl⟩⟩
    rcases hw with rfl | ⟨t, rfl⟩
    · exact Below.refl _ _
    · exact Lib.bytesWorld_below _ _ _
  · obtain ⟨ev, h1, h2⟩ := hT.syn
    refine (Tryd.strconv_Atoi_syntax s (by omega) h ev w h1 h2).mono ?_
    rintro e w' ⟨N, rfl, -, -, hb⟩
    exact ⟨_, _, rfl, hb, .inr ⟨_, _, rfl, by simp⟩⟩
  · obtain ⟨ev, h1, h2⟩ := hT.rng
    refine (Tryd.strconv_Atoi_range s (by omega) h ev w h1 h2).mono ?_
    rintro e w' ⟨N, rfl, -, -, hb⟩
    exact ⟨_, _, rfl, hb, .inr ⟨_, _, rfl, by simp⟩⟩
theorem item_calls (n : Int) (w : World) : Calls Tryd.prog 42 #[.int .i64 n] w fun e w' => e = .returned (.bool (decide (0 ≤ n) && decide (n < 64))) ∧ w' = w := by
  go_enter Tryd.func42, Tryd.ntmps42
  by_cases h1 : 0 ≤ n
  · have g1 : decide (0 ≤ n) = true := by simpa using h1
    have g1' : decide (n ≥ 0) = true := by simpa using h1
    go_wp2
    go_ret
    simp [h1]
  · have g1 : decide (0 ≤ n) = false := by simpa using h1
    have g1' : decide (n ≥ 0) = false := by simpa using h1
    go_wp2
    go_ret
    simp [h1]
/-- The item of a text. -/
theorem number_calls (s : ByteArray) (hs : s.size ≤ 100000) (w : World) (hT : TabE w) : Calls Tryd.prog 50 #[.string s] w fun e w' =>
    ∃ (v : Int) (b : Bool), e = .returned (.tuple #[.int .i64 v, .bool b]) ∧ Below w.heap.size w w' ∧ (b = true → ∃ i : Nat, i < 64 ∧ v = i ∧ s.data.toList = dig2 i) ∧ (b = false → ∀ i, i < 64 → s.data.toList ≠ dig2 i) := by
  go_enter Tryd.func50, Tryd.ntmps50
  go_wp2_with (fail)
  refine (Atoi_any s hs w hT).mono ?_
  rintro e w1 ⟨v, er, rfl, hb, (⟨rfl, hv0, hv1, ha⟩ | ⟨a, b, rfl, ha⟩)⟩
  · have HA := Aside0.mk ha
    clear ha
    go_wp2_with (fail)
    refine (item_calls v w1).mono ?_
    rintro e w2 ⟨rfl, rfl⟩
    by_cases hi : 0 ≤ v ∧ v < 64
    · obtain ⟨i, rfl⟩ : ∃ i : Nat, v = i := ⟨v.toNat, by omega⟩
      have g0 : decide (0 ≤ (i : Int)) = true := by simp
      have g1 : decide ((i : Int) < 64) = true := by simpa using hi.2
      go_wp2_with (fail)
      refine (Tryd.strconv_Itoa_small i (by omega) _).mono ?_
      rintro e w3 ⟨rfl, rfl⟩
      go_wp2
      go_ret2
      refine ⟨_, _, rfl, hb, ?_, ?_⟩
      · intro h
        have h : (Lib.decDigits i == s.toList) = true := h
        rw [ByteArray.toList_eq, dec_dig2 (by omega)] at h
        exact ⟨i, by omega, rfl, (eq_of_beq h).symm⟩
      · intro h j hj he
        have h : (Lib.decDigits i == s.toList) = false := h
        rw [ByteArray.toList_eq, dec_dig2 (by omega), he] at h
        have h2 := HA.out
        rw [he, dig2_atoi j hj] at h2
        injection h2 with h2
        obtain rfl : i = j := by omega
        simp at h
    · have g0 : (decide (0 ≤ v) && decide (v < 64)) = false := by
        simp only [Bool.and_eq_false_iff, decide_eq_false_iff_not]
        omega
      go_wp2
      go_ret2
      refine ⟨_, _, rfl, hb, ?_, ?_⟩
      · intro h; cases h
      · intro _ i hi h
        have := HA.out
        rw [h, dig2_atoi i hi] at this
        injection this
        omega
  · have HA := Aside0.mk ha
    clear ha
    go_wp2
    go_ret2
    refine ⟨_, _, rfl, hb, ?_, ?_⟩
    · intro h; cases h
    · intro _ i hi h
      exact HA.out i (by rw [h]; exact dig2_atoi i hi)
end Go.Proofs.YtmcapemlfplcgaaDoor.H
/- package set: Text. -/
namespace Go.Proofs.YtmcapemlfplcgaaDoor.H
open Go.RowKit Go.Proofs.YtmcapemlfplcgaaDoorW.PrintWords Go.Proofs.YtmcapemlfplcgaaDoorW.PrintLast Go.Proofs.YtmcapemlfplcgaaDoorW.PrintMore Go.Proofs.YtmcapemlfplcgaaDoor.AtM Go.Proofs.YtmcapemlfplcgaaDoor.R02
set_option linter.unusedVariables false
set_option linter.unusedSimpArgs false
set_option maxRecDepth 100000
attribute [local go_sem] Oper.semAt_some wide_fn wide_depth
/-- A number's digits. -/
def digB (n : Int) : List Int := (Lib.decDigits n.toNat).map fun b => (b.toNat : Int)
def sgn (acc : List Int) : Int := if acc = [] then 123 else 44
/-- What has been written behind some items. -/
def txtB (pre : List Int) : List Int := pre.foldl (fun acc n => acc ++ (sgn acc :: digB n)) []
theorem txt_snoc (pre : List Int) (n : Int) : txtB (pre ++ [n]) = txtB pre ++ [sgn (txtB pre)] ++ digB n := by unfold txtB; rw [List.foldl_append]; simp
theorem dig_len (n : Nat) (h : n < 64) : (Lib.decDigits n).length ≤ 2 := by
  by_cases h1 : n < 10
  · rw [Lib.decDigits_one h1]; simp
  · rw [Lib.decDigits_two h1 (by omega)]; simp
theorem txt_len : ∀ pre : List Int, (∀ n ∈ pre, 0 ≤ n ∧ n ≤ 63) → (txtB pre).length ≤ 3 * pre.length := by
  intro pre
  have h : ∀ (xs acc : List Int), (∀ n ∈ xs, 0 ≤ n ∧ n ≤ 63) → (xs.foldl (fun acc n => acc ++ (sgn acc :: digB n)) acc).length ≤ acc.length + 3 * xs.length := by
    intro xs
    induction xs with
    | nil => intro acc _; simp
    | cons x xs ih =>
      intro acc hx
      rw [List.foldl_cons]
      have h1 := ih (acc ++ (sgn acc :: digB x)) (fun n hn => hx n (List.mem_cons_of_mem _ hn))
      have h2 := dig_len x.toNat (by have := hx x (by simp); omega)
      have h3 : (digB x).length = (Lib.decDigits x.toNat).length := by unfold digB; rw [List.length_map]
      simp only [List.length_append, List.length_cons] at h1 ⊢
      omega
  intro hp
  have := h pre [] hp
  simpa [txtB] using this
theorem bytesI_dig (n : Int) : bytesI ⟨(Lib.decDigits n.toNat).toArray⟩ = digB n := by unfold bytesI digB; rfl
theorem BdAt.lies {X Y : World} {g B b : Nat} {l : List Int} (h : BdAt X g B l) (hl : Lies b X Y) : BdAt Y g B l := by
  obtain ⟨a, A, c, h1, h2, h3⟩ := h.cells
  exact ⟨h.lt, a, A, c, hl.blk h1, h2, hl.R h3⟩
theorem but_lies {P : Nat → Prop} {W X Y : World} {B : Nat} (h : But P W X) (hl : Lies B X Y) (hB : W.heap.size ≤ B) : But P W Y :=
  ⟨hl.os.trans h.os, hl.tape.trans h.tape, hl.output.trans h.output, Nat.le_trans h.size hl.size, fun k hk hp => by
    have e := h.block k hk hp
    obtain ⟨o, ho⟩ : ∃ o, W.heap[k]? = some o := ⟨_, Array.getElem?_eq_getElem hk⟩
    rw [ho] at e ⊢
    exact hl.same k o e (.inl (by omega))⟩
theorem txt_bytes (pre : List Int) : ∃ bs : List UInt8, txtB pre = bs.map fun b => (b.toNat : Int) := by
  have h : ∀ (xs acc : List Int), (∃ bs : List UInt8, acc = bs.map fun b => (b.toNat : Int)) → ∃ bs : List UInt8, xs.foldl (fun acc n => acc ++ (sgn acc :: digB n)) acc = bs.map fun b => (b.toNat : Int) := by
    intro xs
    induction xs with
    | nil => intro acc h; exact h
    | cons x xs ih =>
      rintro acc ⟨bs, hb⟩
      rw [List.foldl_cons]
      refine ih _ ⟨bs ++ (UInt8.ofNat (sgn acc).toNat :: Lib.decDigits x.toNat), ?_⟩
      rw [List.map_append, ← hb, List.map_cons]
      congr 2
      unfold sgn; split <;> rfl
  exact h pre [] ⟨[], rfl⟩
theorem BdAt.far {X Y : World} {g B b : Nat} {l : List Int} (h : BdAt X g B l) (ho : Oth b X Y) (hb : b ≠ g) (hbB : b < B) : BdAt Y g B l := by
  obtain ⟨a, A, c, h1, h2, h3⟩ := h.cells
  exact ⟨h.lt, a, A, c, ho.blk h1 (Ne.symm hb), h2, (But.of_oth (P := fun k => k = b) ho rfl).R h3 (fun k _ hk _ e => by omega)⟩
theorem sgn_u (l : List Int) : sgn l = 123 ∨ sgn l = 44 := by unfold sgn; split <;> simp
set_option maxHeartbeats 1600000 in
theorem Text_calls (s : Int) (W : World) (hs : U64 s) (hT : TabG W) :
    Calls Tryd.prog 29 #[.int .u64 s] W fun e W' => ∃ bs : List UInt8, e = .returned (.string ⟨bs.toArray⟩) ∧ bs.map (fun b => (b.toNat : Int)) = txtB (listS s) ++ (if s = 0 then [123] else []) ++ [125] ∧ Below W.heap.size W W' := by
  refine (callsIn_wide (n := 8)).1 ?_
  refine callsIn_of_wp_marks Tryd.func29 rfl trivial ?_ rfl
  simp only [Tryd.ntmps29, List.size_toArray, List.length_cons, List.length_nil, Nat.reduceAdd, Nat.reduceSub, Array.replicate_succ, Array.replicate_zero, List.push_toArray, List.append_toArray, List.nil_append, List.cons_append]
  have HT := Aside0.mk hT
  clear hT
  gi_wp2_with (gi_at_call 38; refine (callsIn_wide.2 (Items_calls _ _)).mono ?_; rintro e w5 ⟨rfl, hw5⟩)
  rw [← hw5]
  have hb5 : Below W.heap.size W w5 := by rw [hw5]; exact below_alloc (below_alloc (below_alloc (Below.refl _ _) _) _) _
  have k0 : w5.heap[W.heap.size]? = some (.cells #[.pointer none, .slice none 0 0] 82 (0, 0)) := by rw [hw5]; exact blk_alloc (blk_alloc (blk_new _ _) _) _
  have k1 : w5.heap[W.heap.size + 1]? = some (.cells #[.int .u8 (sgn (txtB []))] 5 (0, 0)) := by rw [hw5]; exact blk_alloc (blk_new2 _ _ _) _
  have k2 : w5.heap[W.heap.size + 2]? = some (.cells #[.int .u64 s] 22 (0, 0)) := by
    rw [hw5, show W.heap.size + 2 = (W.alloc (.cells #[.pointer none, .slice none 0 0] 82)).heap.size + 1 by simp]
    exact blk_new2 _ _ _
  have hs5 : w5.heap.size = W.heap.size + 3 := by rw [hw5]; simp
  have hB0 : BdAt w5 W.heap.size (W.heap.size + 3) (txtB []) := ⟨by omega, none, none, 0, k0, .inl rfl, Kd.R_nil _ _ _ _ _⟩
  have G := Aside0.mk (And.intro hb5 (And.intro k1 (And.intro k2 hB0)))
  clear hb5 k0 k1 k2 hB0 hw5
  have hT5 := HT.out.below G.out.1
  refine rangeX rfl (by omega) (gf := 59) (lb := #[.pointer (some ⟨W.heap.size + 1 + 1, 0, none⟩)]) rfl trivial (enters_of Tryd.func59 (by kernel_rfl) rfl)
    (Y := ItY (listS s)) (n₀ := w5.heap.size) (Kb := fun k => k ≠ W.heap.size ∧ k ≠ W.heap.size + 1) (S := fun xs => xs = listS s) (Sp := fun _ => True)
    (Items1_seq _ s (W.heap.size + 1 + 1) w5.heap.size _ w5 hs
      (fun X hk => by rw [blk_cell ((hk.2 (W.heap.size + 1 + 1) (by omega) (by omega)).trans G.out.2.2.1) 0]; rfl)
      (fun X hk => hT5.same (hk.2 _ hT5.pos (by have := HT.out.pos; omega))) (Nat.le_refl _)) (Nat.le_refl _)
    (fun _ _ _ _ hy => by obtain ⟨_, rfl⟩ := hy; rfl)
    (fun pre X => BdAt X W.heap.size (W.heap.size + 3) (txtB pre) ∧ X.heap[W.heap.size + 1]? = some (.cells #[.int .u8 (sgn (txtB pre))] 5 (0, 0)) ∧ But (fun k => k = W.heap.size ∨ k = W.heap.size + 1 ∨ W.heap.size + 3 ≤ k) w5 X)
    (fun _ _ _ => False)
    (fun _ P Q h hlie => ⟨h.1.lies hlie, hlie.blk h.2.1, but_lies h.2.2 hlie (Nat.le_refl _)⟩) (fun _ _ _ _ h _ => h) ⟨G.out.2.2.2, G.out.2.1, But.refl _ _⟩ ?round ?done (fun _ _ _ _ _ _ h _ => h.elim)
  case round =>
    rintro l pre n vs Y hl2 ⟨hI1, hI2, hI3⟩ ⟨hpre, rfl⟩ hYs
    have him : n ∈ listS s := hpre.subset (List.mem_append.2 (.inr (List.mem_singleton.2 rfl)))
    have hn := (listS_mem s n).1 him
    have hall : ∀ x ∈ pre, 0 ≤ x ∧ x ≤ 63 := fun x hx => by
      have := (listS_mem s x).1 (hpre.subset (List.mem_append.2 (.inl hx)))
      omega
    have hpl : pre.length ≤ 64 := by
      have h1 := hpre.length_le
      have h2 := listS_le s
      simp only [List.length_append, List.length_singleton] at h1
      omega
    have htl := txt_len pre hall
    obtain ⟨i, rfl⟩ : ∃ i : Nat, n = (i : Int) := ⟨n.toNat, by omega⟩
    have hi : i < 64 := by omega
    have hsn := txt_snoc pre (i : Int)
    obtain ⟨tx, htx⟩ : ∃ t, txtB pre = t := ⟨_, rfl⟩
    rw [htx] at hI1 hI2 htl hsn
    obtain ⟨sg, hsg⟩ : ∃ v, sgn tx = v := ⟨_, rfl⟩
    rw [hsg] at hI2 hsn
    have HP := Aside0.mk (And.intro hsn (And.intro htx hsg))
    clear him hn hall hsn htx hsg hpre
    gi_wp2
    refine ⟨KeepsFrom.of_below (Below.refl _ _), Kp.refl _ _ _, ?_⟩
    intro Wb hlie
    have b1 := hI1.lies hlie
    have b2 := hlie.blk hI2
    have b3 := but_lies hI3 hlie (by omega)
    have hWb : W.heap.size + 3 ≤ Wb.heap.size := by have := b3.size; omega
    have d0 : Wb.cell? ⟨W.heap.size + 1, 0, none⟩ = some (.int .u8 sg) := by rw [blk_cell b2]; rfl
    have HB := Aside0.mk (And.intro b1 (And.intro b2 b3))
    clear hI1 hI2 hI3 hlie b1 b2 b3
    gi_wp2_with (fail)
    refine (CallsIn.inRound l (callsIn_wide.2 (WriteByte_calls W.heap.size (W.heap.size + 3) tx sg Wb HB.out.1 hWb (by omega)))).mono ?_
    rintro e w1 ⟨rfl, p1, p2, p3⟩
    have P1 := Aside0.mk (And.intro p1 (And.intro p2 p3))
    have hw1 : Wb.heap.size ≤ w1.heap.size := p2.size
    clear p1 p2 p3 d0
    gi_wp2_with (fail)
    refine (CallsIn.inRound l (callsIn_wide.2 (Tryd.strconv_Itoa_small i (by omega) _))).mono ?_
    rintro e w2 ⟨rfl, rfl⟩
    gi_wp2_with (fail)
    refine (CallsIn.inRound l (callsIn_wide.2 (WriteString_calls W.heap.size (W.heap.size + 3) (tx ++ [sg]) _ _ P1.out.1 (by omega) (by rw [List.length_append, List.length_singleton]; omega) (by have := dig_len i hi; simp [ByteArray.size]; omega)))).mono ?_
    rintro e w3 ⟨⟨v3, rfl⟩, p1, p2, p3⟩
    have i1 := P1.out.2.1.blk HB.out.2.1 (by omega)
    have i3 := p2.blk i1 (by omega)
    have f3 := blk_frozen i3 0
    have d3 := blk_cell i3 0
    simp at d3
    have P3 := Aside0.mk (And.intro p1 (And.intro p2 (And.intro p3 i3)))
    clear p1 p2 p3 i1 i3
    gi_wp2
    have hset : Oth (W.heap.size + 1) w3 (w3.setCell ⟨W.heap.size + 1, 0, none⟩ (.int .u8 44)) := Oth.set w3 ⟨W.heap.size + 1, 0, none⟩ _
    have hnc : NC Wb (w3.setCell ⟨W.heap.size + 1, 0, none⟩ (.int .u8 44)) := (P1.out.2.2.trans P3.out.2.2.1).trans (nc_of_oth hset P3.out.2.2.2)
    have hbut : But (fun k => k = W.heap.size ∨ k = W.heap.size + 1 ∨ W.heap.size + 3 ≤ k) Wb (w3.setCell ⟨W.heap.size + 1, 0, none⟩ (.int .u8 44)) :=
      ((P1.out.2.1.mono (fun k _ h => by omega)).trans (P3.out.2.1.mono (fun k _ h => by omega))).trans (But.of_oth hset (.inr (.inl rfl)))
    have htx : txtB (pre ++ [(i : Int)]) = tx ++ [sg] ++ digB (i : Int) := HP.out.1
    refine ⟨⟨hbut.size, fun k o _ hk ho => hnc k o hk ho⟩, ⟨hbut.size, fun k h1 h2 => hbut.block k (by omega) (by omega)⟩, ?_, ?_, HB.out.2.2.trans hbut⟩
    · rw [htx]
      exact P3.out.1.far hset (by omega) (by omega)
    · rw [htx, show sgn (tx ++ [sg] ++ digB (i : Int)) = 44 by unfold sgn; rw [if_neg (by simp)]]
      exact blk_put P3.out.2.2.2 0 (.int .u8 44) rfl
  case done =>
    rintro D xs X hD rfl ⟨hI1, hI2, hI3⟩ hKd
    have hall : ∀ x ∈ listS s, 0 ≤ x ∧ x ≤ 63 := fun x hx => by have := (listS_mem s x).1 hx; omega
    have htl := txt_len _ hall
    have hll := listS_le s
    obtain ⟨bs, hbs⟩ := txt_bytes (listS s)
    have hX := hI3.size
    have hbX : Below W.heap.size W X := hI3.below G.out.1 (by omega) (by rintro k (rfl | rfl | h) <;> omega)
    have hst : ∀ (w1 : World) (bs' : List UInt8), BdAt w1 W.heap.size (W.heap.size + 3) (bs'.map fun b => (b.toNat : Int)) → W.heap.size ≤ w1.heap.size → w1.heap[D]? = some (.deferred (some [])) → Below W.heap.size W w1 →
        Calls Tryd.prog 54 #[.pointer (some ⟨W.heap.size, 0, none⟩)] w1 fun e w' => e = .returned (.string ⟨bs'.toArray⟩) ∧ w'.heap[D]? = some (.deferred (some [])) ∧ Below W.heap.size W w' := by
      intro w1 bs' hb hsz hD1 hb1
      have h1 := hb.is
      rw [List.map_map] at h1
      refine (Tryd.Builder_String_any_k W.heap.size W.heap.size bs' w1 (Lib.IsBuilderF.of h1) hsz).mono ?_
      rintro e w' ⟨rfl, -, q2, q3⟩
      exact ⟨rfl, q3 D _ hD1 (by intro h; injection h with h; omega) (by rintro c fz h; cases h), hb1.trans q2⟩
    by_cases hs0 : s = 0
    · have hsb : (s == 0) = true := by simp [hs0]
      have hl0 : listS s = [] := by rw [hs0]; decide
      have hsg : sgn (txtB []) = 123 := by decide
      have hsc : X.cell? ⟨W.heap.size + 1, 0, none⟩ = some (.int .u8 123) := by rw [blk_cell hI2, hl0, hsg]; rfl
      rw [hl0] at hI1 hbs
      have HB := Aside0.mk (And.intro hI1 (And.intro hKd (And.intro hbX (And.intro hbs hst))))
      clear hI1 hI2 hI3 hKd hbX hbs hall hst
      gi_wp2_with (fail)
      refine (callsIn_wide.2 (WriteByte_calls W.heap.size (W.heap.size + 3) _ 123 X HB.out.1 (by omega) (by decide))).mono ?_
      rintro e w1 ⟨rfl, p1, p2, p3⟩
      have hD1 := p3 _ _ HB.out.2.1 rfl
      have hb1 : Below W.heap.size W w1 := p2.below HB.out.2.2.1 (by omega) (by rintro k (rfl | h) <;> omega)
      have hsz1 := p2.size
      have P1 := Aside0.mk (And.intro p1 (And.intro hD1 hb1))
      clear p1 p2 p3 hD1 hb1
      gi_wp2_with (fail)
      refine (callsIn_wide.2 (WriteByte_calls W.heap.size (W.heap.size + 3) _ 125 w1 P1.out.1 (by omega) (by decide))).mono ?_
      rintro e w2 ⟨rfl, p1, p2, p3⟩
      have hD1 := p3 _ _ P1.out.2.1 rfl
      have hb1 : Below W.heap.size W w2 := p2.below P1.out.2.2 (by omega) (by rintro k (rfl | h) <;> omega)
      have hsz2 := p2.size
      have P2 := Aside0.mk (And.intro p1 (And.intro hD1 hb1))
      clear p1 p2 p3 hD1 hb1
      have hl2 : txtB [] ++ [123] ++ [125] = ([123, 125] : List UInt8).map fun b => (b.toNat : Int) := by decide
      gi_wp2_with (fail)
      refine (callsIn_wide.2 (HB.out.2.2.2.2 w2 [123, 125] (by rw [← hl2]; exact P2.out.1) (by omega) P2.out.2.1 P2.out.2.2)).mono ?_
      rintro e w3 ⟨rfl, hD3, hb3⟩
      have HJ := Aside0.mk (And.intro hD3 hb3)
      clear hD3 hb3
      gi_wp2
      have hl1 : Lies W.heap.size w3 (w3.putObj D (.deferred none)) := .put (by omega) HJ.out.1 rfl _
      refine ⟨by simp, .inl ⟨_, _, rfl, run_takeDeferred HJ.out.1, ?_⟩⟩
      exact ⟨_, results_tmp rfl _ _ _, _, rfl, by simp [hs0, show listS 0 = [] from by decide, txtB], hl1.below HJ.out.2 (Nat.le_refl _) (Nat.le_refl _)⟩
    · have hsb : (s == 0) = false := by simp [hs0]
      have HB := Aside0.mk (And.intro hI1 (And.intro hKd (And.intro hbX (And.intro hbs hst))))
      clear hI1 hI2 hI3 hKd hbX hbs hall hst
      gi_wp2_with (fail)
      refine (callsIn_wide.2 (WriteByte_calls W.heap.size (W.heap.size + 3) _ 125 X HB.out.1 (by omega) (by omega))).mono ?_
      rintro e w1 ⟨rfl, p1, p2, p3⟩
      have hD1 := p3 _ _ HB.out.2.1 rfl
      have hb1 : Below W.heap.size W w1 := p2.below HB.out.2.2.1 (by omega) (by rintro k (rfl | h) <;> omega)
      have hsz1 := p2.size
      have P1 := Aside0.mk (And.intro p1 (And.intro hD1 hb1))
      clear p1 p2 p3 hD1 hb1
      have hl2 : txtB (listS s) ++ [125] = (bs ++ [125]).map fun (b : UInt8) => (b.toNat : Int) := by rw [HB.out.2.2.2.1, List.map_append]; rfl
      gi_wp2_with (fail)
      refine (callsIn_wide.2 (HB.out.2.2.2.2 w1 (bs ++ [125]) (by rw [← hl2]; exact P1.out.1) (by omega) P1.out.2.1 P1.out.2.2)).mono ?_
      rintro e w3 ⟨rfl, hD3, hb3⟩
      have HJ := Aside0.mk (And.intro hD3 hb3)
      clear hD3 hb3
      gi_wp2
      have hl1 : Lies W.heap.size w3 (w3.putObj D (.deferred none)) := .put (by omega) HJ.out.1 rfl _
      refine ⟨by simp, .inl ⟨_, _, rfl, run_takeDeferred HJ.out.1, ?_⟩⟩
      exact ⟨_, results_tmp rfl _ _ _, _, rfl, by simp [hs0, HB.out.2.2.2.1], hl1.below HJ.out.2 (Nat.le_refl _) (Nat.le_refl _)⟩
end Go.Proofs.YtmcapemlfplcgaaDoor.H
/- Two results that stand in boxes of one cell. -/
namespace Go.Proofs.YtmcapemlfplcgaaDoor.H
open Go.RowKit
set_option linter.unusedVariables false
theorem run_loadVar_one {P : Program} (w : World) (ty : TypeId) (a : Addr) (v : Value) (d : TypeDesc) (hu : P.underlying ty = some d) (hd : (match d with | .struct _ | .array _ _ => true | _ => false) = false) (hc : w.cell? a = some v) :
    (loadVar ty a).run P w = .ok v w := by
  have hagg : (isAgg ty).run P w = .ok false w := by
    unfold isAgg
    rw [Sem.run_bind, run_underlying hu w]
    cases d <;> simp_all
  simp [loadVar, Sem.run_bind, hagg, Result.andThen, hc, go_sem]
theorem results_cells2 {P : Program} {fn : Func} {tmps : Array Value} {w : World} {p q : Tmp} {t u : TypeId} (h : fn.results = #[.cell p t, .cell q u]) (a b : Addr) (v x : Value) (d e : TypeDesc)
    (hp : tmps.getD p undef = .pointer (some a)) (hq : tmps.getD q undef = .pointer (some b)) (ha : w.cell? a = some v) (hb : w.cell? b = some x)
    (hu : P.underlying t = some d) (hd : (match d with | .struct _ | .array _ _ => true | _ => false) = false) (hv : P.underlying u = some e) (he : (match e with | .struct _ | .array _ _ => true | _ => false) = false) :
    (results fn tmps).run P w = .ok (.tuple #[v, x]) w := by
  have hp' : tmps[p]?.getD undef = .pointer (some a) := by simpa using hp
  have hq' : tmps[q]?.getD undef = .pointer (some b) := by simpa using hq
  simp [results, h, hp', hq', asAddr, run_loadVar_one w t a v d hu hd ha, run_loadVar_one w u b x e hv he hb]
end Go.Proofs.YtmcapemlfplcgaaDoor.H
