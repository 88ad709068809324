/- Some texts of one seat in one file, in build order. -/
import Derived.Test.YtmcapemlfplcgaaDoorG17
import Derived.Lib.SmallJoins
import Derived.Test.YtmcapemlfplcgaaDoorG13
/- Folder 02, plain: the way through a text's inner bytes is that by parts. -/
namespace Go.Proofs.YtmcapemlfplcgaaDoor.R02
open Go.RowKit Go.Proofs.YtmcapemlfplcgaaDoor.Ult Go.Proofs.YtmcapemlfplcgaaDoor.AtM Go.Proofs.YtmcapemlfplcgaaDoor.H Go.Proofs.YtmcapemlfplcgaaDoor.PAll2 Go.Proofs.YtmcapemlfplcgaaDoorW.PrintWords Go.Proofs.YtmcapemlfplcgaaDoorW.PrintLast Go.Proofs.YtmcapemlfplcgaaDoorW.PrintMore
set_option linter.unusedVariables false
set_option linter.unusedSimpArgs false
set_option maxRecDepth 100000
def valB (cur : List UInt8) : Nat := cur.foldl (fun v b => v * 10 + (b.toNat - 48)) 0
def digB2 (b : UInt8) : Prop := 48 ≤ b.toNat ∧ b.toNat ≤ 57
def resP : Option Nat → Int × Int
  | none => (0, 20)
  | some o => ((o : Int), 0)
/-- What has been taken so far. -/
def InvO (out : List Int) (o : Nat) : Prop := o = ofN 0 out ∧ ((out = [] ∧ o = 0) ∨ ∃ (out' : List Int) (z : Nat), out = out' ++ [(z : Int)] ∧ 2 ^ z ≤ o ∧ o < 2 ^ (z + 1) ∧ z ≤ 63)
theorem shr_zero {o v : Nat} : o >>> v = 0 ↔ o < 2 ^ v := by
  rw [Nat.shiftRight_eq_div_pow, Nat.div_eq_zero_iff]
  constructor
  · rintro (h | h)
    · exact absurd h (Nat.ne_of_gt (Nat.pow_pos (by decide)))
    · exact h
  · intro h; exact .inr h
theorem inv_last {out : List Int} {o : Nat} (h : InvO out o) (v : Nat) : o >>> v = 0 ↔ (out = [] ∨ rd out ((out.length : Int) - 1) < (v : Int)) := by
  rw [shr_zero]
  rcases h.2 with ⟨rfl, rfl⟩ | ⟨out', z, rfl, h1, h2, h3⟩
  · simp; exact Nat.pow_pos (by decide)
  · have e : rd (out' ++ [(z : Int)]) (((out' ++ [(z : Int)]).length : Int) - 1) = (z : Int) := by
      unfold rd
      rw [List.length_append, List.length_singleton, show (((out'.length + 1 : Nat) : Int) - 1).toNat = out'.length by omega]
      simp [List.getD_eq_getElem?_getD]
    rw [e]
    have hne : ¬ (out' ++ [(z : Int)] = []) := by simp
    constructor
    · intro h
      right
      have : z < v := by
        rcases Nat.lt_or_ge z v with h4 | h4
        · exact h4
        · have := Nat.pow_le_pow_right (n := 2) (by decide) h4; omega
      omega
    · rintro (h | h)
      · exact absurd h hne
      · have h4 : z + 1 ≤ v := by omega
        have := Nat.pow_le_pow_right (n := 2) (by decide) h4; omega
theorem inv_add {out : List Int} {o v : Nat} (h : InvO out o) (hv : v ≤ 63) (hs : o >>> v = 0) : InvO (out ++ [(v : Int)]) (o ||| 1 <<< v) := by
  have hlt := shr_zero.1 hs
  have hb : o.testBit v = false := Nat.testBit_lt_two_pow hlt
  have h63 : 2 ^ v ≤ 2 ^ 63 := Nat.pow_le_pow_right (by decide) hv
  have ho64 : o < 2 ^ 64 := by rw [Nat.pow_succ]; omega
  have hadd := or_add ho64 (by omega : v < 64) hb
  have e : 1 <<< v = 2 ^ v := Nat.one_shiftLeft v
  refine ⟨?_, .inr ⟨out, v, rfl, ?_, ?_, hv⟩⟩
  · unfold ofN
    rw [List.foldl_append]
    show _ = ofStep (ofN 0 out) (v : Int)
    rw [← h.1, e]
    unfold ofStep
    rw [if_pos ⟨by omega, by omega⟩, Int.toNat_natCast]
  · rw [e, ← hadd]; omega
  · rw [e, ← hadd, Nat.pow_succ]; omega
theorem u8_back (b : UInt8) : UInt8.ofNat b.toNat = b := by simp
theorem num_one {a : UInt8} (ha : digB2 a) : numB [a] = some (a.toNat - 48) := by
  rw [numB_some]
  refine ⟨by have := ha.2; omega, ?_⟩
  unfold dig2
  rw [if_pos (by have := ha.2; omega), show 48 + (a.toNat - 48) = a.toNat by have := ha.1; omega, u8_back]
theorem num_two {a b : UInt8} (ha : digB2 a) (hb : digB2 b) : numB [a, b] = if 10 ≤ valB [a, b] ∧ valB [a, b] ≤ 63 then some (valB [a, b]) else none := by
  have hv : valB [a, b] = (a.toNat - 48) * 10 + (b.toNat - 48) := by unfold valB; simp
  obtain ⟨a1, a2⟩ := ha
  obtain ⟨b1, b2⟩ := hb
  by_cases h : 10 ≤ valB [a, b] ∧ valB [a, b] ≤ 63
  · rw [if_pos h, numB_some]
    refine ⟨by omega, ?_⟩
    unfold dig2
    rw [if_neg (by omega)]
    have e1 : 48 + valB [a, b] / 10 = a.toNat := by omega
    have e2 : 48 + valB [a, b] % 10 = b.toNat := by omega
    rw [e1, e2, u8_back, u8_back]
  · rw [if_neg h, numB_none]
    intro i hi he
    apply h
    unfold dig2 at he
    split at he
    · cases he
    · rename_i h10
      injection he with h1 he
      injection he with h2 he
      have e1 : a.toNat = 48 + i / 10 := by rw [h1, UInt8.toNat_ofNat']; omega
      have e2 : b.toNat = 48 + i % 10 := by rw [h2, UInt8.toNat_ofNat']; omega
      omega
theorem num_nil : numB [] = none := by
  rw [numB_none]; intro i _ h; unfold dig2 at h; split at h <;> cases h
theorem partS_ok {out : List Int} {o : Nat} {cur : List UInt8} (h : InvO out o) (hc : ∀ b ∈ cur, digB2 b) (hl : cur.length ≤ 2) :
    partS o cur = if okN out (valB cur) cur.length then some (o ||| 1 <<< valB cur) else none := by
  have hfin : ∀ (hn : numB cur = some (valB cur)) (h63 : valB cur ≤ 63) (h0 : cur.length ≠ 0) (h2 : ¬ (cur.length = 2 ∧ valB cur < 10)), partS o cur = if okN out (valB cur) cur.length then some (o ||| 1 <<< valB cur) else none := by
    intro hn h63 h0 h2
    unfold partS
    rw [hn]
    simp only
    by_cases hs : o >>> valB cur = 0
    · rw [if_pos hs, if_pos ⟨h0, h63, h2, (inv_last h _).1 hs⟩]
    · rw [if_neg hs, if_neg (fun hk => hs ((inv_last h _).2 hk.2.2.2))]
  match cur, hc, hl with
  | [], _, _ =>
    unfold partS
    rw [num_nil, if_neg (fun hk => hk.1 rfl)]
  | [a], hc, _ =>
    have ha := hc a (by simp)
    have e : valB [a] = a.toNat - 48 := by unfold valB; simp
    exact hfin (by rw [e]; exact num_one ha) (by rw [e]; have := ha.2; omega) (by simp) (by simp)
  | [a, b], hc, _ =>
    have ha := hc a (by simp)
    have hb := hc b (by simp)
    have hn := num_two ha hb
    by_cases hk : 10 ≤ valB [a, b] ∧ valB [a, b] ≤ 63
    · rw [if_pos hk] at hn
      exact hfin hn hk.2 (by simp) (fun h => by omega)
    · rw [if_neg hk] at hn
      unfold partS
      rw [hn, if_neg]
      intro ho
      exact hk ⟨by have := ho.2.2.1; simp at this; omega, ho.2.1⟩
  | a :: b :: c :: r, _, hl => simp at hl
theorem dig2_len (i : Nat) : (dig2 i).length ≤ 2 := by unfold dig2; split <;> simp
theorem dig2_digs {i : Nat} (h : i < 64) : ∀ b ∈ dig2 i, digB2 b := by
  intro b hb
  unfold dig2 at hb
  split at hb
  · rw [List.mem_singleton.1 hb]; unfold digB2; rw [UInt8.toNat_ofNat']; omega
  · rcases List.mem_cons.1 hb with rfl | hb
    · unfold digB2; rw [UInt8.toNat_ofNat']; omega
    · rw [List.mem_singleton.1 hb]; unfold digB2; rw [UInt8.toNat_ofNat']; omega
theorem partsS_bad {o : Nat} {p : List UInt8} {ps : List (List UInt8)} (h : numB p = none) : partsS o (p :: ps) = none := by
  unfold partsS partS
  rw [h]
theorem auto_parts : ∀ (r : List UInt8) (out : List Int) (cur : List UInt8) (o : Nat), InvO out o → (∀ b ∈ cur, digB2 b) → cur.length ≤ 2 → (out ≠ [] ∨ cur ≠ [] ∨ r ≠ []) →
    ∀ (p : List UInt8) (ps : List (List UInt8)), splitC 44 r = p :: ps → auto out (valB cur) cur.length r = resP (partsS o ((cur ++ p) :: ps)) := by
  intro r
  induction r with
  | nil =>
    intro out cur o hi hc hl hne p ps hs
    have hs : [([] : List UInt8)] = p :: ps := hs
    injection hs with h1 h2
    subst h1; subst h2
    rw [List.append_nil]
    unfold auto
    rw [if_neg (by rintro ⟨h0, h1⟩; rcases hne with h | h | h; exact h h1; exact h (List.length_eq_zero_iff.1 h0); exact h rfl)]
    have hp := partS_ok hi hc hl
    show _ = resP (match partS o cur with | none => none | some o' => partsS o' [])
    rw [hp]
    by_cases hk : okN out (valB cur) cur.length
    · rw [if_pos hk, if_pos hk]
      have hk63 := hk.2.1
      have hinv := inv_add hi hk63 ((inv_last hi _).2 hk.2.2.2)
      show _ = (((o ||| 1 <<< valB cur : Nat) : Int), (0 : Int))
      rw [hinv.1]
    · rw [if_neg hk, if_neg hk]; rfl
  | cons c r ih =>
    intro out cur o hi hc hl hne p ps hs
    unfold auto
    by_cases h44 : c.toNat = 44
    · have hc44 : c = 44 := UInt8.toNat_inj.1 h44
      rw [if_neg (by omega), if_pos h44]
      unfold splitC at hs
      rw [if_pos hc44] at hs
      injection hs with h1 h2
      subst h1
      rw [List.append_nil]
      have hp := partS_ok hi hc hl
      show _ = resP (match partS o cur with | none => none | some o' => partsS o' ps)
      rw [hp]
      by_cases hk : okN out (valB cur) cur.length
      · rw [if_pos hk, if_pos hk]
        have hinv := inv_add hi hk.2.1 ((inv_last hi _).2 hk.2.2.2)
        obtain ⟨p', ps', hps⟩ : ∃ p' ps', splitC 44 r = p' :: ps' := by
          cases hq : splitC 44 r with
          | nil => exact absurd hq (splitC_ne _ _)
          | cons a b => exact ⟨a, b, rfl⟩
        have := ih (out ++ [(valB cur : Int)]) [] _ hinv (by simp) (by simp) (.inl (by simp)) p' ps' hps
        rw [List.nil_append, ← hps, h2] at this
        exact this
      · rw [if_neg hk, if_neg hk]; rfl
    · have hc44 : c ≠ 44 := fun h => h44 (by rw [h]; rfl)
      unfold splitC at hs
      rw [if_neg hc44] at hs
      obtain ⟨p', ps', hps⟩ : ∃ p' ps', splitC 44 r = p' :: ps' := by
        cases hq : splitC 44 r with
        | nil => exact absurd hq (splitC_ne _ _)
        | cons a b => exact ⟨a, b, rfl⟩
      rw [hps] at hs
      simp only at hs
      injection hs with h1 h2
      subst h1; subst h2
      by_cases hd : 48 ≤ c.toNat ∧ c.toNat ≤ 57 ∧ cur.length < 2
      · rw [if_pos hd]
        have := ih out (cur ++ [c]) o hi (by
          intro b hb
          rcases List.mem_append.1 hb with h | h
          · exact hc b h
          · rw [List.mem_singleton.1 h]; exact ⟨hd.1, hd.2.1⟩) (by rw [List.length_append, List.length_singleton]; omega) (.inr (.inl (by simp))) p' ps' hps
        rw [List.append_assoc, List.length_append, List.length_singleton] at this
        have ev : valB (cur ++ [c]) = valB cur * 10 + (c.toNat - 48) := by unfold valB; rw [List.foldl_append]; rfl
        rw [ev] at this
        exact this
      · rw [if_neg hd, if_neg h44, partsS_bad]
        · rfl
        · rw [numB_none]
          intro i hi' he
          have hlen := dig2_len i
          have hdig := dig2_digs hi' c (by rw [← he]; simp)
          rw [← he] at hlen
          simp only [List.length_append, List.length_cons] at hlen
          exact hd ⟨hdig.1, hdig.2, by omega⟩
theorem pre_cons (a : UInt8) (rest : List UInt8) : Lib.hasPrefix (a :: rest) [123] = decide (a = 123) := by
  unfold Lib.hasPrefix
  simp only [List.isPrefixOf, Bool.and_true]
  apply Bool.eq_iff_iff.2
  simp only [beq_iff_eq, decide_eq_true_iff]
  exact eq_comm
theorem suf_snoc (m : List UInt8) (z : UInt8) : Lib.hasSuffix (m ++ [z]) [125] = decide (z = 125) := by
  unfold Lib.hasSuffix List.isSuffixOf
  rw [List.reverse_append]
  simp only [List.reverse_singleton, List.singleton_append, List.isPrefixOf, Bool.and_true]
  apply Bool.eq_iff_iff.2
  simp only [beq_iff_eq, decide_eq_true_iff]
  exact eq_comm
theorem readS_no {l : List UInt8} (h : Lib.hasPrefix l [123] = false) : readS l = (0, 20) := by unfold readS; rw [h]; rfl
theorem readS_in (m : List UInt8) : readS (123 :: (m ++ [125])) = auto [] 0 0 m := by
  have h1 := pre_cons 123 (m ++ [125])
  have h2 := suf_snoc m 125
  have h3 : Lib.trimPrefix (123 :: (m ++ [125])) [123] = m ++ [125] := by unfold Lib.trimPrefix; rw [h1]; rfl
  have h4 : Lib.trimSuffix (m ++ [125]) [125] = m := by unfold Lib.trimSuffix; rw [h2]; simp
  unfold readS
  rw [h1, h3, h2, h4]
  simp only [decide_true, Bool.and_true, if_true]
  by_cases hm : m = []
  · rw [if_pos hm]; subst hm; rfl
  · rw [if_neg hm]
    obtain ⟨p, ps, hp⟩ : ∃ p ps, splitC 44 m = p :: ps := by
      cases hq : splitC 44 m with
      | nil => exact absurd hq (splitC_ne _ _)
      | cons a b => exact ⟨a, b, rfl⟩
    have := auto_parts m [] [] 0 ⟨rfl, .inl ⟨rfl, rfl⟩⟩ (by simp) (by simp) (.inr (.inr hm)) p ps hp
    rw [hp]
    rw [List.nil_append] at this
    show _ = auto [] (valB []) ([] : List UInt8).length m
    rw [this]
    unfold resP
    cases partsS 0 (p :: ps) <;> rfl
theorem readS_out (m : List UInt8) {z : UInt8} (hz : z ≠ 125) : readS (123 :: (m ++ [z])) = (0, 20) := by
  have h1 := pre_cons 123 (m ++ [z])
  have h2 := suf_snoc m z
  have h3 : Lib.trimPrefix (123 :: (m ++ [z])) [123] = m ++ [z] := by unfold Lib.trimPrefix; rw [h1]; rfl
  unfold readS
  rw [h1, h3, h2, decide_eq_false hz]
  rfl
/-- **THE DOCUMENT's READ IS THE ONE BY PARTS.** -/
theorem read_ev (s : ByteArray) (hs : s.size ≤ 600000) : Ult (fun k => saleroomref02_Read.f k s) (readS s.data.toList) := by
  have hsz := Lib.size_eq s
  have hj : Ult (fun k => saleroomref02_Read.j0 k s true) ((0 : Int), (20 : Int)) := by
    refine Ult.succ ?_
    simp only [saleroomref02_Read.j0, if_true]
    exact Ult.pure _
  unfold saleroomref02_Read.f
  rcases hl : s.data.toList with _ | ⟨a, rest⟩
  · rw [hl, List.length_nil] at hsz
    refine Ult.pos (by omega) ?_
    exact hj
  · rw [hl] at hsz
    rcases List.eq_nil_or_concat rest with rfl | ⟨m, z, rfl⟩
    · rw [List.length_singleton] at hsz
      refine Ult.pos (by omega) ?_
      have e : readS [a] = (0, 20) := by
        by_cases ha : a = 123
        · subst ha; decide
        · exact readS_no (by rw [pre_cons, decide_eq_false ha])
      rw [e]; exact hj
    · rw [List.concat_eq_append] at hl hsz ⊢
      have hn : s.size = m.length + 2 := by rw [hsz]; simp
      have hw : wrap64 ((s.size : Int) - 1) = ((m.length + 1 : Nat) : Int) := by rw [w64 (by omega) (by omega)]; omega
      obtain ⟨hb0, hd1, _⟩ := bt_drop (x0 := s) (i := 0) (c := a) (r := m ++ [z]) (by rw [hl]; rfl)
      have hb0 : bt s 0 = (a.toNat : Int) := hb0
      refine Ult.neg (by omega) (Ult.pos (by omega) ?_)
      rw [hb0, hw]
      refine Ult.ite (fun h => ?_) (fun h => ?_)
      · have ha : a = 123 := UInt8.toNat_inj.1 (by show a.toNat = 123; omega)
        subst ha
        refine Ult.pos (by omega) (Ult.pos (by omega) ?_)
        have hdz : s.data.toList.drop (m.length + 1) = [z] := by rw [hl]; simp
        obtain ⟨hbz, _, _⟩ := bt_drop hdz
        rw [hbz]
        by_cases hz : z = 125
        · subst hz
          have e : ((((125 : UInt8).toNat : Nat) : Int) != 125) = false := by decide
          rw [e, readS_in]
          refine Ult.succ ?_
          simp only [saleroomref02_Read.j0, Bool.false_eq_true, if_false]
          exact l0_ev s hs m 1 0 0 [] hd1 (by omega) (by decide) (by simp)
        · have e : (((z.toNat : Nat) : Int) != 125) = true := by
            have : z.toNat ≠ 125 := fun h => hz (UInt8.toNat_inj.1 (by rw [h]; rfl))
            simp; omega
          rw [e, readS_out m hz]
          exact hj
      · have ha : a ≠ 123 := fun e => h (by rw [e]; rfl)
        rw [readS_no (by rw [pre_cons, decide_eq_false ha])]
        exact hj
end Go.Proofs.YtmcapemlfplcgaaDoor.R02
/- Folder 02: the document's Text. -/
namespace Go.Proofs.YtmcapemlfplcgaaDoor.H
open Go.RowKit Go.Proofs.YtmcapemlfplcgaaDoorW.PrintWords Go.Proofs.YtmcapemlfplcgaaDoorW.PrintLast Go.Proofs.YtmcapemlfplcgaaDoorW.PrintMore Go.Proofs.YtmcapemlfplcgaaDoor.AtM Go.Proofs.YtmcapemlfplcgaaDoor.R02
set_option linter.unusedVariables false
set_option linter.unusedSimpArgs false
set_option maxRecDepth 100000
attribute [local go_sem] Oper.semAt_some
theorem snocInd {P : List Int → Prop} (h0 : P []) (hs : ∀ l x, P l → P (l ++ [x])) : ∀ l, P l := by
  have h : ∀ (n : Nat) (l : List Int), l.length = n → P l := by
    intro n
    induction n with
    | zero => intro l hl; rw [List.length_eq_zero_iff.1 hl]; exact h0
    | succ n ih =>
      intro l hl
      rcases List.eq_nil_or_concat l with rfl | ⟨m, z, rfl⟩
      · simp at hl
      · rw [List.concat_eq_append] at hl ⊢
        exact hs m z (ih m (by simpa using hl))
  exact fun l => h _ l rfl
/-- What the document's Text has written behind some items. -/
def refB (pre : List Int) : List UInt8 := pre.foldl (fun acc n => (if acc = [123] then acc else acc ++ [44]) ++ Lib.decDigits n.toNat) [123]
theorem refB_snoc (pre : List Int) (n : Int) : refB (pre ++ [n]) = (if refB pre = [123] then refB pre else refB pre ++ [44]) ++ Lib.decDigits n.toNat := by unfold refB; rw [List.foldl_append]; rfl
theorem dec_ne {n : Nat} (h : n < 64) : Lib.decDigits n ≠ [] := by rw [dec_dig2 (by omega)]; unfold dig2; split <;> simp
theorem refB_first {pre : List Int} (h : ∀ x ∈ pre, 0 ≤ x ∧ x ≤ 63) : (refB pre = [123] ↔ pre = []) ∧ ∃ t, refB pre = 123 :: t := by
  induction pre using snocInd with
  | h0 => exact ⟨by simp [refB], [], rfl⟩
  | hs p n ih =>
    obtain ⟨_, t, ht⟩ := ih (fun x hx => h x (by simp [hx]))
    have hn := h n (by simp)
    have hd := dec_ne (n := n.toNat) (by omega)
    rw [refB_snoc, ht]
    obtain ⟨a, b, hab⟩ : ∃ a b, Lib.decDigits n.toNat = a :: b := by
      cases hq : Lib.decDigits n.toNat with
      | nil => exact absurd hq hd
      | cons a b => exact ⟨a, b, rfl⟩
    rw [hab]
    refine ⟨⟨fun he => ?_, fun he => ?_⟩, ?_⟩
    · split at he
      · simp at he
      · simp at he
    · simp at he
    · split
      · exact ⟨_, rfl⟩
      · exact ⟨_, rfl⟩
theorem txt_ref {pre : List Int} (h : ∀ x ∈ pre, 0 ≤ x ∧ x ≤ 63) : txtB pre ++ (if pre = [] then [123] else []) = (refB pre).map fun b => (b.toNat : Int) := by
  induction pre using snocInd with
  | h0 => decide
  | hs p n ih =>
    have hp : ∀ x ∈ p, 0 ≤ x ∧ x ≤ 63 := fun x hx => h x (by simp [hx])
    have ih := ih hp
    obtain ⟨h1, t, h2⟩ := refB_first hp
    have hd : digB n = (Lib.decDigits n.toNat).map fun b => (b.toNat : Int) := rfl
    rw [if_neg (by simp), List.append_nil, txt_snoc, refB_snoc]
    by_cases he : p = []
    · subst he
      rw [if_pos (h1.2 rfl), List.map_append, hd]; rfl
    · rw [if_neg he, List.append_nil] at ih
      have hne : txtB p ≠ [] := by rw [ih, h2]; simp
      rw [if_neg (fun e => he (h1.1 e)), List.map_append, List.map_append, ← ih, hd]
      unfold sgn
      rw [if_neg hne]; rfl
theorem listS_nil {s : Int} (hs : U64 s) : listS s = [] ↔ s = 0 := by
  constructor
  · intro h
    have hp := listS_len s
    rw [h] at hp
    have hz : ∀ i, s.toNat.testBit i = false := fun i => by
      cases hb : s.toNat.testBit i with
      | false => rfl
      | true =>
        have := (listS_mem s (i : Int)).2 ⟨by omega, by have := testBit_big (nat_lt hs) hb; omega, by rw [Int.toNat_natCast]; exact hb⟩
        rw [h] at this; simp at this
    have : s.toNat = 0 := Nat.eq_of_testBit_eq fun i => by rw [hz i, Nat.zero_testBit]
    have := hs.1
    omega
  · rintro rfl; exact listS_zero
theorem textS_ref {s : Int} (hs : U64 s) : textS s = refB (listS s) ++ [125] := by
  have h := txt_ref (pre := listS s) (fun x hx => by have := (listS_mem s x).1 hx; exact ⟨this.1, this.2.1⟩)
  unfold textS
  have e : (if s = 0 then [(123 : Int)] else []) = if listS s = [] then [123] else [] := by
    by_cases hz : s = 0
    · rw [if_pos hz, if_pos ((listS_nil hs).2 hz)]
    · rw [if_neg hz, if_neg (fun h => hz ((listS_nil hs).1 h))]
  rw [e, h, List.map_append, bytes_back]; rfl
theorem str_cat (l m : List UInt8) : (⟨l.toArray⟩ : ByteArray) ++ (⟨m.toArray⟩ : ByteArray) = ⟨(l ++ m).toArray⟩ := by
  have h := Go.Joins.data_append (⟨l.toArray⟩ : ByteArray) (⟨m.toArray⟩ : ByteArray)
  have : ((⟨l.toArray⟩ : ByteArray) ++ (⟨m.toArray⟩ : ByteArray)).data = (l ++ m).toArray := by
    rw [← Array.toArray_toList (xs := ((⟨l.toArray⟩ : ByteArray) ++ (⟨m.toArray⟩ : ByteArray)).data), h]
  cases hq : (⟨l.toArray⟩ : ByteArray) ++ (⟨m.toArray⟩ : ByteArray) with
  | mk d => rw [hq] at this; simp only at this; rw [this]
theorem refB_len {pre : List Int} (h : ∀ x ∈ pre, 0 ≤ x ∧ x ≤ 63) : (refB pre).length ≤ 1 + 3 * pre.length := by
  induction pre using snocInd with
  | h0 => decide
  | hs p n ih =>
    have := ih (fun x hx => h x (by simp [hx]))
    have hn := h n (by simp)
    have hd := dig_len n.toNat (by omega)
    rw [refB_snoc, List.length_append, List.length_append, List.length_singleton]
    split
    · omega
    · rw [List.length_append, List.length_singleton]; omega
theorem RText_eq (s : Int) (W : World) (hs : U64 s) : Calls Tryd.prog 30 #[.int .u64 s] W fun e W' => e = .returned (.string ⟨(textS s).toArray⟩) ∧ Below W.heap.size W W' := by
  have HS := Aside0.mk hs
  clear hs
  go_enter Tryd.func30, Tryd.ntmps30
  go_wp2_with (fail)
  obtain ⟨n0, hn0⟩ : ∃ n, (listS s).length = n := ⟨_, rfl⟩
  have hn64 : n0 ≤ 64 := by have := listS_le s; omega
  refine (RList_eq s n0 W HS.out hn0).mono ?_
  rintro e w1 ⟨A1, c1, rfl, hc1, hC1, hb1⟩
  have L := Aside0.mk (And.intro hC1 (And.intro hb1 hn0))
  clear hC1 hb1 hn0
  go_wp2_with (fail)
  go_loopw [4, 5] (fun v p wr => ∃ k : Nat, k ≤ n0 ∧ v = .string ⟨(refB ((listS s).take k)).toArray⟩ ∧ p = .int .i64 (k : Int) ∧ wr = w1) (fun v p _ => n0 - (intOf p).toNat)
  case atStart => exact ⟨0, by omega, rfl, rfl, rfl⟩
  case round =>
    obtain ⟨k, hk, rfl, rfl, rfl⟩ := hrel
    by_cases hlt : k < n0
    · obtain ⟨ad, e0, hx0⟩ := at_elem L.out.1 hlt
      subst e0
      have hkl : k < (listS s).length := by rw [L.out.2.2]; exact hlt
      have htk : (listS s).take (k + 1) = (listS s).take k ++ [(listS s).getD k 0] := by
        rw [List.take_succ_eq_append_getElem hkl, List.getD_eq_getElem?_getD, List.getElem?_eq_getElem hkl]; rfl
      have him := (listS_mem s ((listS s).getD k 0)).1 (by rw [List.getD_eq_getElem?_getD, List.getElem?_eq_getElem hkl]; exact List.getElem_mem hkl)
      have hall : ∀ x ∈ (listS s).take k, 0 ≤ x ∧ x ≤ 63 := fun x hx => by have := (listS_mem s x).1 (List.mem_of_mem_take hx); exact ⟨this.1, this.2.1⟩
      obtain ⟨i, hi⟩ : ∃ i, (listS s).getD k 0 = i := ⟨_, rfl⟩
      rw [hi] at hx0 htk him
      obtain ⟨i, rfl⟩ : ∃ j : Nat, i = (j : Int) := ⟨i.toNat, by omega⟩
      have hsn := refB_snoc ((listS s).take k) (i : Int)
      rw [← htk, Int.toNat_natCast] at hsn
      obtain ⟨hf1, _⟩ := refB_first hall
      have hln := refB_len hall
      have htl : ((listS s).take k).length = k := by rw [List.length_take]; omega
      have hfk : refB ((listS s).take k) = [123] ↔ k = 0 := by
        rw [hf1]; constructor
        · intro e; rw [e] at htl; simpa using htl.symm
        · intro e; subst e; rfl
      obtain ⟨cur, hcur⟩ : ∃ c, refB ((listS s).take k) = c := ⟨_, rfl⟩
      rw [hcur] at hsn hfk hln
      rw [htl] at hln
      rw [hcur]
      have hg0 : decide ((k : Int) < (n0 : Int)) = true := decide_eq_true (by omega)
      have hi64 : i < 64 := by omega
      have HN := Aside0.mk (And.intro hsn (And.intro hfk hln))
      have hlt' : (k : Int) < (n0 : Int) := by omega
      clear htk him hall hi hsn hf1 hln htl hfk hcur hkl
      have HI := Aside0.mk (Tryd.strconv_Itoa_small i (by omega))
      have hdl := dig_len i hi64
      obtain ⟨dd, hdd⟩ : ∃ d, Lib.decDigits i = d := ⟨_, rfl⟩
      rw [hdd] at HI HN hdl
      have hcl := HN.out.2.2
      have n1 : ¬ (9223372036854775807 < cur.length + 1) := by omega
      have n2 : ¬ (9223372036854775807 < cur.length + 1 + dd.length) := by omega
      have n3 : ¬ (9223372036854775807 < cur.length + dd.length) := by omega
      clear hdd hdl hcl
      by_cases hk0 : k = 0
      · have gk : decide ((0 : Int) < (k : Int)) = false := decide_eq_false (by omega)
        have gk2 : decide ((k : Int) > 0) = false := decide_eq_false (by omega)
        have gk3 : decide (0 < k) = false := decide_eq_false (by omega)
        have gk4 : ¬ (0 < k) := by omega
        have HK := Aside0.mk hk0
        clear hk0
        go_wp2_with (fail)
        refine (HI.out _).mono ?_
        rintro e w2 ⟨rfl, rfl⟩
        go_wp2
        go_roundw
        case rel => exact ⟨k + 1, by omega, by rw [str_cat cur dd, HN.out.1, if_pos (HN.out.2.1.2 HK.out)], by go_num, by trivial⟩
        case measure => simp [intOf]; omega
      · have gk : decide ((0 : Int) < (k : Int)) = true := decide_eq_true (by omega)
        have gk2 : decide ((k : Int) > 0) = true := decide_eq_true (by omega)
        have gk3 : decide (0 < k) = true := decide_eq_true (by omega)
        have gk4 : 0 < k := by omega
        have HK := Aside0.mk hk0
        clear hk0
        go_wp2_with (fail)
        refine (HI.out _).mono ?_
        rintro e w2 ⟨rfl, rfl⟩
        go_wp2
        go_roundw
        case rel => exact ⟨k + 1, by omega, by rw [str_cat cur [44], str_cat, HN.out.1, if_neg (fun h => HK.out (HN.out.2.1.1 h))], by go_num, by trivial⟩
        case measure => simp [intOf]; omega
    · have hg0 : decide ((k : Int) < (n0 : Int)) = false := decide_eq_false (by omega)
      have hlt' : ¬ ((k : Int) < (n0 : Int)) := by omega
      have htk : (listS s).take k = listS s := List.take_of_length_le (by have := L.out.2.2; omega)
      rw [htk]
      have hln := refB_len (pre := listS s) (fun x hx => by have := (listS_mem s x).1 hx; exact ⟨this.1, this.2.1⟩)
      have hll := listS_le s
      have ht := textS_ref HS.out
      obtain ⟨cur, hcur⟩ : ∃ c, refB (listS s) = c := ⟨_, rfl⟩
      rw [hcur] at hln ht ⊢
      have n1 : ¬ (9223372036854775807 < cur.length + 1) := by omega
      have HT := Aside0.mk ht
      clear ht hcur htk hln hll
      go_wp2
      go_ret
      exact ⟨by rw [HT.out, ← str_cat]; rfl, L.out.2.1⟩
end Go.Proofs.YtmcapemlfplcgaaDoor.H
/- Folder 02, plain: the subsets of a set, rising, and the step from one to the next. -/
namespace Go.Proofs.YtmcapemlfplcgaaDoor.R02
open Go.RowKit Go.Proofs.YtmcapemlfplcgaaDoor.Ult Go.Proofs.YtmcapemlfplcgaaDoor.AtM Go.Proofs.YtmcapemlfplcgaaDoor.H
set_option linter.unusedVariables false
set_option linter.unusedSimpArgs false
set_option maxRecDepth 100000
/-- The subsets by the greatest item. -/
def subR : Nat → Nat → List Nat
  | 0, _ => [0]
  | w + 1, s => if s.testBit w then subR w s ++ (subR w s).map (· + 2 ^ w) else subR w s
/-- The two texts below one. -/
def dbl (b : Bool) (l : List Nat) : List Nat := if b then l.flatMap fun y => [2 * y, 2 * y + 1] else l.map fun y => 2 * y
theorem dbl_append (b : Bool) (l m : List Nat) : dbl b (l ++ m) = dbl b l ++ dbl b m := by
  unfold dbl; cases b <;> simp
theorem dbl_shift (b : Bool) (l : List Nat) (w : Nat) : dbl b (l.map (· + 2 ^ w)) = (dbl b l).map (· + 2 ^ (w + 1)) := by
  have h : ∀ y : Nat, 2 * (y + 2 ^ w) = 2 * y + 2 ^ (w + 1) := fun y => by rw [Nat.pow_succ]; omega
  have h2 : ∀ y : Nat, 2 * (y + 2 ^ w) + 1 = 2 * y + 1 + 2 ^ (w + 1) := fun y => by rw [Nat.pow_succ]; omega
  unfold dbl
  cases b
  · simp only [Bool.false_eq_true, if_false, List.map_map]
    exact List.map_congr_left fun y _ => h y
  · simp only [if_true]
    induction l with
    | nil => rfl
    | cons y ys ih =>
      simp only [List.map_cons, List.flatMap_cons, List.map_append, ih, List.map_nil, h]
      rw [show 2 * y + 2 ^ (w + 1) + 1 = 2 * y + 1 + 2 ^ (w + 1) by omega]
/-- The subsets by the least item. -/
theorem subR_low (w : Nat) : ∀ s, subR (w + 1) s = dbl (s.testBit 0) (subR w (s / 2)) := by
  induction w with
  | zero =>
    intro s
    simp only [subR, dbl]
    cases s.testBit 0 <;> simp
  | succ w ih =>
    intro s
    rw [subR, ih s]
    rw [show subR (w + 1) (s / 2) = if (s / 2).testBit w then subR w (s / 2) ++ (subR w (s / 2)).map (· + 2 ^ w) else subR w (s / 2) from rfl]
    rw [Nat.testBit_succ]
    by_cases h : (s / 2).testBit w = true
    · rw [if_pos h, if_pos h, dbl_append, dbl_shift]
    · rw [if_neg h, if_neg h]
/-- The step. -/
def nxN (w s x : Nat) : Nat := (x + 2 ^ w - s) &&& s
theorem and_dbl (a b c d : Nat) (hc : c ≤ 1) (hd : d ≤ 1) : (2 * a + c) &&& (2 * b + d) = 2 * (a &&& b) + c * d := by
  apply Nat.eq_of_testBit_eq
  intro i
  cases i with
  | zero =>
    rw [Nat.testBit_and, Nat.testBit_zero, Nat.testBit_zero, Nat.testBit_zero]
    rcases (by omega : c = 0 ∨ c = 1) with rfl | rfl <;> rcases (by omega : d = 0 ∨ d = 1) with rfl | rfl <;> (apply Bool.eq_iff_iff.2; simp <;> omega)
  | succ i =>
    rw [Nat.testBit_and, Nat.testBit_succ, Nat.testBit_succ, Nat.testBit_succ]
    have e1 : (2 * a + c) / 2 = a := by omega
    have e2 : (2 * b + d) / 2 = b := by omega
    have e3 : (2 * (a &&& b) + c * d) / 2 = a &&& b := by
      rcases (by omega : c = 0 ∨ c = 1) with rfl | rfl <;> rcases (by omega : d = 0 ∨ d = 1) with rfl | rfl <;> omega
    rw [e1, e2, e3, Nat.testBit_and]
/-- What lies in a set, with all that does not joined, cut down to it again. -/
theorem add_not_and (w : Nat) : ∀ (s x : Nat), s < 2 ^ w → x &&& s = x → (x + (2 ^ w - 1 - s)) &&& s = x := by
  induction w with
  | zero =>
    intro s x hs hx
    have : s = 0 := by simpa using hs
    subst this
    rw [Nat.and_zero] at hx; subst hx; rfl
  | succ w ih =>
    intro s x hs hx
    obtain ⟨s1, b, hb, rfl⟩ : ∃ s1 b, b ≤ 1 ∧ s = 2 * s1 + b := ⟨s / 2, s % 2, by omega, by omega⟩
    obtain ⟨x1, c, hc, rfl⟩ : ∃ x1 c, c ≤ 1 ∧ x = 2 * x1 + c := ⟨x / 2, x % 2, by omega, by omega⟩
    rw [and_dbl _ _ _ _ hc hb] at hx
    have hp : 2 ^ (w + 1) = 2 * 2 ^ w := by rw [Nat.pow_succ]; omega
    rw [hp] at hs ⊢
    have hs1 : s1 < 2 ^ w := by omega
    have hcb : c ≤ b := by
      rcases (by omega : c = 0 ∨ c = 1) with rfl | rfl <;> rcases (by omega : b = 0 ∨ b = 1) with rfl | rfl <;> omega
    have hx1 : x1 &&& s1 = x1 := by
      rcases (by omega : c = 0 ∨ c = 1) with rfl | rfl <;> rcases (by omega : b = 0 ∨ b = 1) with rfl | rfl <;> omega
    have h := ih s1 x1 hs1 hx1
    have e : 2 * x1 + c + (2 * 2 ^ w - 1 - (2 * s1 + b)) = 2 * (x1 + (2 ^ w - 1 - s1)) + (c + 1 - b) := by omega
    rw [e, and_dbl _ _ _ _ (by omega) hb, h]
    rcases (by omega : c = 0 ∨ c = 1) with rfl | rfl <;> rcases (by omega : b = 0 ∨ b = 1) with rfl | rfl <;> omega
/-- A row of steps from x up to s. -/
def chN (w s : Nat) : Nat → List Nat → Prop
  | _, [] => False
  | x, y :: r => y = x ∧ x &&& s = x ∧ (match r with | [] => x = s | _ :: _ => x < s ∧ x < nxN w s x ∧ chN w s (nxN w s x) r)
theorem nx_low {w s1 x1 b : Nat} (hb : b ≤ 1) (hs : s1 < 2 ^ w) (hx : x1 ≤ s1) : nxN (w + 1) (2 * s1 + b) (2 * x1 + b) = 2 * nxN w s1 x1 := by
  have hp : 2 ^ (w + 1) = 2 * 2 ^ w := by rw [Nat.pow_succ]; omega
  unfold nxN
  rw [show 2 * x1 + b + 2 ^ (w + 1) - (2 * s1 + b) = 2 * (x1 + 2 ^ w - s1) + 0 by omega, and_dbl _ _ _ _ (by omega) hb]
  omega
theorem nx_odd {w s1 x1 : Nat} (hs : s1 < 2 ^ w) (hx : x1 &&& s1 = x1) : nxN (w + 1) (2 * s1 + 1) (2 * x1) = 2 * x1 + 1 := by
  have hp : 2 ^ (w + 1) = 2 * 2 ^ w := by rw [Nat.pow_succ]; omega
  have hle : x1 ≤ s1 := by rw [← hx]; exact Nat.and_le_right
  have h := add_not_and w s1 x1 hs hx
  unfold nxN
  rw [show 2 * x1 + 2 ^ (w + 1) - (2 * s1 + 1) = 2 * (x1 + (2 ^ w - 1 - s1)) + 1 by omega, and_dbl _ _ _ _ (by omega) (by omega), h]
theorem ch_even (w s1 : Nat) (hs : s1 < 2 ^ w) : ∀ (l : List Nat) (x : Nat), chN w s1 x l → chN (w + 1) (2 * s1) (2 * x) (l.map fun y => 2 * y)
  | [], x, h => h.elim
  | y :: r, x, ⟨h1, h2, h3⟩ => by
    subst h1
    have hle : y ≤ s1 := by rw [← h2]; exact Nat.and_le_right
    have e2 : 2 * y &&& 2 * s1 = 2 * y := by
      have := and_dbl y s1 0 0 (by omega) (by omega)
      rw [h2] at this; simpa using this
    cases r with
    | nil =>
      have h3 : y = s1 := h3
      exact ⟨rfl, e2, by show 2 * y = 2 * s1; rw [h3]⟩
    | cons z r2 =>
      obtain ⟨h4, h5, h6⟩ := h3
      have en : nxN (w + 1) (2 * s1) (2 * y) = 2 * nxN w s1 y := nx_low (b := 0) (by omega) hs hle
      refine ⟨rfl, e2, ?_⟩
      show 2 * y < 2 * s1 ∧ 2 * y < nxN (w + 1) (2 * s1) (2 * y) ∧ chN (w + 1) (2 * s1) (nxN (w + 1) (2 * s1) (2 * y)) ((z :: r2).map fun y => 2 * y)
      rw [en]
      exact ⟨by omega, by omega, ch_even w s1 hs (z :: r2) _ h6⟩
theorem ch_odd (w s1 : Nat) (hs : s1 < 2 ^ w) : ∀ (l : List Nat) (x : Nat), chN w s1 x l → chN (w + 1) (2 * s1 + 1) (2 * x) (l.flatMap fun y => [2 * y, 2 * y + 1])
  | [], x, h => h.elim
  | y :: r, x, ⟨h1, h2, h3⟩ => by
    subst h1
    have hle : y ≤ s1 := by rw [← h2]; exact Nat.and_le_right
    have e2 : 2 * y &&& (2 * s1 + 1) = 2 * y := by
      have := and_dbl y s1 0 1 (by omega) (by omega)
      rw [h2] at this; simpa using this
    have e3 : (2 * y + 1) &&& (2 * s1 + 1) = 2 * y + 1 := by
      have := and_dbl y s1 1 1 (by omega) (by omega)
      rw [h2] at this; simpa using this
    have e4 := nx_odd hs h2
    cases r with
    | nil =>
      have h3 : y = s1 := h3
      show chN (w + 1) (2 * s1 + 1) (2 * y) [2 * y, 2 * y + 1]
      refine ⟨rfl, e2, ?_⟩
      show 2 * y < 2 * s1 + 1 ∧ 2 * y < nxN (w + 1) (2 * s1 + 1) (2 * y) ∧ chN (w + 1) (2 * s1 + 1) (nxN (w + 1) (2 * s1 + 1) (2 * y)) [2 * y + 1]
      rw [e4]
      exact ⟨by omega, by omega, rfl, e3, by show 2 * y + 1 = 2 * s1 + 1; rw [h3]⟩
    | cons z r2 =>
      obtain ⟨h4, h5, h6⟩ := h3
      have en : nxN (w + 1) (2 * s1 + 1) (2 * y + 1) = 2 * nxN w s1 y := nx_low (b := 1) (by omega) hs hle
      have ih := ch_odd w s1 hs (z :: r2) _ h6
      show chN (w + 1) (2 * s1 + 1) (2 * y) (2 * y :: (2 * y + 1) :: 2 * z :: (2 * z + 1) :: r2.flatMap fun y => [2 * y, 2 * y + 1])
      refine ⟨rfl, e2, ?_⟩
      show 2 * y < 2 * s1 + 1 ∧ 2 * y < nxN (w + 1) (2 * s1 + 1) (2 * y) ∧ chN (w + 1) (2 * s1 + 1) (nxN (w + 1) (2 * s1 + 1) (2 * y)) ((2 * y + 1) :: 2 * z :: (2 * z + 1) :: r2.flatMap fun y => [2 * y, 2 * y + 1])
      rw [e4]
      refine ⟨by omega, by omega, rfl, e3, ?_⟩
      show 2 * y + 1 < 2 * s1 + 1 ∧ 2 * y + 1 < nxN (w + 1) (2 * s1 + 1) (2 * y + 1) ∧ chN (w + 1) (2 * s1 + 1) (nxN (w + 1) (2 * s1 + 1) (2 * y + 1)) (2 * z :: (2 * z + 1) :: r2.flatMap fun y => [2 * y, 2 * y + 1])
      rw [en]
      exact ⟨by omega, by omega, ih⟩
theorem ch_sub (w : Nat) : ∀ s, s < 2 ^ w → chN w s 0 (subR w s) := by
  induction w with
  | zero => intro s hs; exact ⟨rfl, Nat.zero_and _, by show 0 = s; simp at hs; omega⟩
  | succ w ih =>
    intro s hs
    rw [subR_low]
    have hp : 2 ^ (w + 1) = 2 * 2 ^ w := by rw [Nat.pow_succ]; omega
    have h := ih (s / 2) (by omega)
    unfold dbl
    rw [Nat.testBit_zero]
    by_cases hb : s % 2 = 1
    · have := ch_odd w (s / 2) (by omega) _ _ h
      rw [show 2 * (s / 2) + 1 = s by omega] at this
      rw [if_pos (by simpa using hb)]
      exact this
    · have := ch_even w (s / 2) (by omega) _ _ h
      rw [show 2 * (s / 2) = s by omega] at this
      rw [if_neg (by simpa using hb)]
      exact this
/-- The set's subsets, rising. -/
def subsS (s : Int) : List Int := (subR 64 s.toNat).map fun (n : Nat) => (n : Int)
theorem next_nat {s x : Nat} (hs : s < 2 ^ 64) (hx : x < s) : nextS (s : Int) (x : Int) = ((nxN 64 s x : Nat) : Int) := by
  have h64 : (2 : Nat) ^ 64 = 18446744073709551616 := by decide
  unfold nextS nxN
  have e : IntKind.u64.wrap ((x : Int) - (s : Int)) = ((x + 2 ^ 64 - s : Nat) : Int) := by
    rw [IntKind.wrap_u64, h64]
    omega
  rw [e, u64_and_nat _ _ (by omega) (by omega)]
theorem chS_of {s : Nat} (hs : s < 2 ^ 64) : ∀ (l : List Nat) (x : Nat), chN 64 s x l → chainS (s : Int) (x : Int) (l.map fun (n : Nat) => (n : Int))
  | [], x, h => h.elim
  | y :: r, x, ⟨h1, h2, h3⟩ => by
    subst h1
    have hle : y ≤ s := by rw [← h2]; exact Nat.and_le_right
    cases r with
    | nil =>
      have h3 : y = s := h3
      exact ⟨rfl, by omega, by show (y : Int) = s; rw [h3]⟩
    | cons z r2 =>
      obtain ⟨h4, h5, h6⟩ := h3
      have ih := chS_of hs (z :: r2) _ h6
      refine ⟨rfl, by omega, ?_⟩
      show (y : Int) ≠ s ∧ (y : Int) < nextS s y ∧ chainS s (nextS s y) ((z :: r2).map fun (n : Nat) => (n : Int))
      rw [next_nat hs h4]
      exact ⟨by omega, by omega, ih⟩
theorem chain_subs {s : Int} (hs : U64 s) : chainS s 0 (subsS s) := by
  obtain ⟨n, rfl⟩ : ∃ n : Nat, s = n := ⟨s.toNat, by have := hs.1; omega⟩
  have hn := nat_lt hs
  rw [Int.toNat_natCast] at hn
  have := chS_of hn _ _ (ch_sub 64 n hn)
  unfold subsS
  rw [Int.toNat_natCast]
  exact this
end Go.Proofs.YtmcapemlfplcgaaDoor.R02
