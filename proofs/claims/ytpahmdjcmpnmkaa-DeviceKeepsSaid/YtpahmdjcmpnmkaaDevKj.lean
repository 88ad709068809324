/- DeviceKeeps: what abides in a round (two devices, two rows that may be written over, two boxes), and short contracts. -/
import Derived.Test.YtpahmdjcmpnmkaaDevP
import Derived.Test.YtpahmdjcmpnmkaaDevRoom
namespace Go.Proofs.Ytpahmdjcmpnmkaa.H
open Go.RowKit Go.Proofs.YtpahmdjcmpnmkaaW.PrintWords Go.Proofs.YtpahmdjcmpnmkaaW.PrintLast Go.Proofs.YtpahmdjcmpnmkaaW.PrintMore
set_option linter.unusedVariables false
set_option linter.unusedSimpArgs false

/-- A row of one's own of so many bytes. -/
def Ro (w : World) (base : Nat) (A : Option Addr) (n c : Nat) : Prop := ∃ l, l.length = n ∧ Kd.R (Kd.int .u8) 5 w base (fun _ => True) (.slice A n c) l
theorem Ro.block {w : World} {base : Nat} {A : Option Addr} {n c : Nat} (h : Ro w base A n c) {ad : Addr} (e : A = some ad) : base ≤ ad.block ∧ ∃ cs, w.heap[ad.block]? = some (.cells cs 5 (0, 0)) := by
  obtain ⟨l, hl, hr⟩ := h
  subst e
  obtain ⟨inner, ho⟩ := Kd.R_own hr
  rcases ho.2 with ⟨h1, h2⟩ | ⟨g, cap, cur, h1, h2, h3, h4⟩
  · cases h1
  · cases h1; exact ⟨h2, cur, h3⟩
theorem Ro.apart {w w' : World} {base : Nat} {A : Option Addr} {n c b : Nat} (h : Ro w base A n c) (hb : ∀ ad, A = some ad → ad.block ≠ b) (ho : Oth b w w') : Ro w' base A n c := by
  obtain ⟨l, hl, hr⟩ := h
  obtain ⟨h1, inner, h2, h3⟩ := hr
  refine ⟨l, hl, h1, inner, own_move h2 (fun k hk => ?_), h3⟩
  cases A with
  | none => simp [Value.ownBlock] at hk
  | some ad =>
    have hk' : ad.block = k := by
      rcases h2.2 with ⟨h4, _⟩ | ⟨g, cap, cur, h4, _⟩
      · cases h4
      · cases h4; simpa [Value.ownBlock] using hk
    subst hk'
    obtain ⟨cs, hc⟩ := own_typed h2 _ hk
    exact ho.block _ (lt_of_some hc) (hb ad rfl)
theorem Ro.below {w w' : World} {base : Nat} {A : Option Addr} {n c : Nat} (h : Ro w base A n c) (hb : Below w.heap.size w w') : Ro w' base A n c := by
  obtain ⟨l, hl, hr⟩ := h
  exact ⟨l, hl, Kd.R_below hr hb⟩
theorem Ro.put {w : World} {base g : Nat} {n c : Nat} (h : Ro w base (some ⟨g, 0, none⟩) n c) (i : Int) (x : Int) : Ro (w.setCell ⟨g, i.toNat, none⟩ (.int .u8 x)) base (some ⟨g, 0, none⟩) n c := by
  obtain ⟨l, hl, hr⟩ := h
  exact ⟨l.set i.toNat x, by rw [List.length_set, hl], Kd.R_putn hr i x⟩
/-- An element of such a row: where it lies. -/
theorem Ro.at {w : World} {base : Nat} {A : Option Addr} {n c : Nat} (h : Ro w base A n c) {j : Nat} (hj : j < n) : ∃ g x, A = some ⟨g, 0, none⟩ ∧ base ≤ g ∧ n ≤ c ∧ w.cell? ⟨g, j, none⟩ = some (.int .u8 x) ∧ w.frozen? ⟨g, j, none⟩ = false := by
  obtain ⟨l, hl, hr⟩ := h
  obtain ⟨g, cap, e, hb, hlt, cs, hc⟩ := Kd.R_form hr (by omega)
  cases e
  obtain ⟨hx, hf⟩ := Kd.R_celln 0 hr (j : Int) (by omega) (by omega)
  rw [Int.toNat_natCast] at hx hf
  exact ⟨g, _, rfl, hb, (Kd.R_reads' hr).2.1, hx, hf⟩
/-- What abides. -/
structure KJ [Pl] (W0 : World) (gd gc go gm : Nat) (d1 d2 : Dv) (ocs mcs : Array Value) (Am : Option Addr) (nm cm base1 : Nat) (Ab : Option Addr) (nb cb base2 : Nat) (w : World) : Prop where
  below : Below W0.heap.size W0 w
  dd : DevAt w gd d1
  dc : DevAt w gc d2
  ob : w.heap[go]? = some (.cells ocs 33 (0, 0))
  mb : w.heap[gm]? = some (.cells mcs 33 (0, 0))
  rm : Ro w base1 Am nm cm
  rb : Ro w base2 Ab nb cb
  ne : gd ≠ gc
  h1 : W0.heap.size ≤ base1
  h2 : W0.heap.size ≤ base2
  hd : W0.heap.size ≤ gd
  hc : W0.heap.size ≤ gc
  nmb : ∀ ad ad', Am = some ad → Ab = some ad' → ad.block ≠ ad'.block
  pm : ∀ ad, Am = some ad → ¬ Pl.P ad.block
  pb : ∀ ad, Ab = some ad → ¬ Pl.P ad.block
section
variable [Pl] {W0 : World} {gd gc go gm : Nat} {d1 d2 : Dv} {ocs mcs : Array Value} {Am : Option Addr} {nm cm base1 : Nat} {Ab : Option Addr} {nb cb base2 : Nat} {w w' : World}
theorem KJ.step (h : KJ W0 gd gc go gm d1 d2 ocs mcs Am nm cm base1 Ab nb cb base2 w) (hb : Below w.heap.size w w') : KJ W0 gd gc go gm d1 d2 ocs mcs Am nm cm base1 Ab nb cb base2 w' :=
  { h with below := below_step h.below hb, dd := h.dd.below hb, dc := h.dc.below hb, ob := blk_belowX h.ob hb, mb := blk_belowX h.mb hb, rm := h.rm.below hb, rb := h.rb.below hb }
theorem KJ.drew (h : KJ W0 gd gc go gm d1 d2 ocs mcs Am nm cm base1 Ab nb cb base2 w) : KJ W0 gd gc go gm d1 d2 ocs mcs Am nm cm base1 Ab nb cb base2 w.drew := h.step ⟨rfl, rfl, rfl, Nat.le_refl _, fun _ _ => rfl⟩
omit [Pl] in
theorem ne_block {g : Nat} {cs cs' : Array Value} {t t' : TypeId} {z z' : Nat × Nat} {k : Nat} (h : w.heap[g]? = some (.cells cs t z)) (h' : w.heap[k]? = some (.cells cs' t' z')) (hne : t ≠ t') : g ≠ k := fun e => by
  subst e; rw [h] at h'; injection h' with h'; injection h' with _ h' _; exact hne h'
theorem KJ.dev (h : KJ W0 gd gc go gm d1 d2 ocs mcs Am nm cm base1 Ab nb cb base2 w) {d' : Dv} (ho : Oth gd w w') (hD : DevAt w' gd d') : KJ W0 gd gc go gm d' d2 ocs mcs Am nm cm base1 Ab nb cb base2 w' := by
  obtain ⟨A0, c0, A1, c1, hB, hr⟩ := h.dd
  exact { h with below := ho.below h.below h.hd, dd := hD, dc := h.dc.other ⟨A0, c0, A1, c1, hB, hr⟩ h.ne.symm ho, ob := ho.blk h.ob (ne_block h.ob hB (by decide)), mb := ho.blk h.mb (ne_block h.mb hB (by decide)), rm := h.rm.apart (fun ad e => by obtain ⟨_, cs, hcs⟩ := h.rm.block e; exact ne_block hcs hB (by decide)) ho, rb := h.rb.apart (fun ad e => by obtain ⟨_, cs, hcs⟩ := h.rb.block e; exact ne_block hcs hB (by decide)) ho }
theorem KJ.devc (h : KJ W0 gd gc go gm d1 d2 ocs mcs Am nm cm base1 Ab nb cb base2 w) {d' : Dv} (ho : Oth gc w w') (hD : DevAt w' gc d') : KJ W0 gd gc go gm d1 d' ocs mcs Am nm cm base1 Ab nb cb base2 w' := by
  obtain ⟨A0, c0, A1, c1, hB, hr⟩ := h.dc
  exact { h with below := ho.below h.below h.hc, dc := hD, dd := h.dd.other ⟨A0, c0, A1, c1, hB, hr⟩ h.ne ho, ob := ho.blk h.ob (ne_block h.ob hB (by decide)), mb := ho.blk h.mb (ne_block h.mb hB (by decide)), rm := h.rm.apart (fun ad e => by obtain ⟨_, cs, hcs⟩ := h.rm.block e; exact ne_block hcs hB (by decide)) ho, rb := h.rb.apart (fun ad e => by obtain ⟨_, cs, hcs⟩ := h.rb.block e; exact ne_block hcs hB (by decide)) ho }
theorem KJ.rowm {g : Nat} (h : KJ W0 gd gc go gm d1 d2 ocs mcs (some ⟨g, 0, none⟩) nm cm base1 Ab nb cb base2 w) (j : Nat) (x : Int) : KJ W0 gd gc go gm d1 d2 ocs mcs (some ⟨g, 0, none⟩) nm cm base1 Ab nb cb base2 (w.setCell ⟨g, j, none⟩ (.int .u8 x)) := by
  have ho : Oth g w (w.setCell ⟨g, j, none⟩ (.int .u8 x)) := Oth.set w ⟨g, j, none⟩ _
  obtain ⟨hb, cs, hcs⟩ := h.rm.block rfl
  obtain ⟨A0, c0, A1, c1, hB, _⟩ := h.dd
  obtain ⟨A2, c2, A3, c3, hB2, _⟩ := h.dc
  have hp := h.rm.put (j : Int) x
  rw [Int.toNat_natCast] at hp
  exact { h with below := ho.below h.below (Nat.le_trans h.h1 hb), dd := h.dd.apart (h.pm _ rfl) (ne_block hB hcs (by decide)) ho, dc := h.dc.apart (h.pm _ rfl) (ne_block hB2 hcs (by decide)) ho, ob := ho.blk h.ob (ne_block h.ob hcs (by decide)), mb := ho.blk h.mb (ne_block h.mb hcs (by decide)), rm := hp, rb := h.rb.apart (fun ad e => (h.nmb _ _ rfl e).symm) ho }
theorem KJ.rowb {g : Nat} (h : KJ W0 gd gc go gm d1 d2 ocs mcs Am nm cm base1 (some ⟨g, 0, none⟩) nb cb base2 w) (j : Nat) (x : Int) : KJ W0 gd gc go gm d1 d2 ocs mcs Am nm cm base1 (some ⟨g, 0, none⟩) nb cb base2 (w.setCell ⟨g, j, none⟩ (.int .u8 x)) := by
  have ho : Oth g w (w.setCell ⟨g, j, none⟩ (.int .u8 x)) := Oth.set w ⟨g, j, none⟩ _
  obtain ⟨hb, cs, hcs⟩ := h.rb.block rfl
  obtain ⟨A0, c0, A1, c1, hB, _⟩ := h.dd
  obtain ⟨A2, c2, A3, c3, hB2, _⟩ := h.dc
  have hp := h.rb.put (j : Int) x
  rw [Int.toNat_natCast] at hp
  exact { h with below := ho.below h.below (Nat.le_trans h.h2 hb), dd := h.dd.apart (h.pb _ rfl) (ne_block hB hcs (by decide)) ho, dc := h.dc.apart (h.pb _ rfl) (ne_block hB2 hcs (by decide)) ho, ob := ho.blk h.ob (ne_block h.ob hcs (by decide)), mb := ho.blk h.mb (ne_block h.mb hcs (by decide)), rb := hp, rm := h.rm.apart (fun ad e => h.nmb _ _ e rfl) ho }
end
/-- A step of one device beside the empty document's device. -/
theorem do_one [Pl] (g : Nat) (d d' : Dv) (k r n : Int) (A : Option Addr) (c : Nat) (l : List Int) (W : World) (hd : doD d (k, r, n, l) = d') (hD : DevAt W g d) (hl : ∀ W', Oth g W W' → Kd.C (Kd.int .u8) W' A l.length l) (hc : l.length ≤ c) (hn : l.length ≤ 500000) (hf : d.fit 500000 1000000000000) :
    Calls Try.prog 11 #[.pointer (some ⟨g, 0, none⟩), .agg #[.slice none 0 0, .slice none 0 0, .int .i64 0, .int .i64 0, .bool false, .int .i64 0], .agg #[.int .i64 k, .int .i64 r, .int .i64 n, .slice A l.length c]] W fun e W' => (∃ v, e = .returned v) ∧ DevAt W' g d' ∧ Oth g W W' := by
  have hlo : Pl.lo ≤ W.heap.size := by obtain ⟨_, _, _, _, _, _, _, h, _⟩ := hD; exact h.lo
  have h := do_calls g d ⟨[], [], 0, 0, false, 0⟩ none 0 none 0 k r n A c l W hD ⟨Nat.le_refl _, Nat.le_refl _, Rd.nil _ hlo, Rd.nil _ hlo⟩ hl hc hn hf (by constructor <;> simp)
  refine h.mono ?_
  rintro e W' ⟨A0', c0', A1', c1', rfl, h1, h2, h3⟩
  rw [hd] at h1
  exact ⟨⟨_, rfl⟩, h1, h3⟩
theorem Bytes_two [Pl] (gd gc g : Nat) (d : Dv) (r : Int) (l : List Int) (n : Nat) (W : World) (hr : d.row r = l) (hn : l.length = n) (hg : g = gd ∨ g = gc) (h : DevAt W gd d) (h' : DevAt W gc d) (ha : d.a.length ≤ 140737488355328) (hb : d.b.length ≤ 140737488355328) :
    Calls Try.prog 17 #[.pointer (some ⟨g, 0, none⟩), .int .i64 r] W fun e W' => ∃ A c, e = .returned (.slice A n c) ∧ n ≤ c ∧ Kd.C (Kd.int .u8) W' A n l ∧ Below W.heap.size W W' := by
  subst hr; subst hn
  refine (Bytes_calls g d r W (by rcases hg with rfl | rfl; exact h; exact h') ha hb).mono ?_
  rintro e W' ⟨v, rfl, ho, hb⟩
  obtain ⟨A, c, rfl, hc, hr⟩ := R_C ho
  exact ⟨A, c, rfl, hc, hr, hb⟩
/-- What Bytes tells as a row of one's own. -/
theorem Bytes_own [Pl] (g : Nat) (d : Dv) (r : Int) (n : Nat) (W : World) (hn : (d.row r).length = n) (h : DevAt W g d) (ha : d.a.length ≤ 140737488355328) (hb : d.b.length ≤ 140737488355328) :
    Calls Try.prog 17 #[.pointer (some ⟨g, 0, none⟩), .int .i64 r] W fun e W' => ∃ A c, e = .returned (.slice A n c) ∧ n ≤ c ∧ Ro W' W.heap.size A n c ∧ Below W.heap.size W W' := by
  subst hn
  refine (Bytes_calls g d r W h ha hb).mono ?_
  rintro e W' ⟨v, rfl, ho, hb⟩
  obtain ⟨A, c, rfl, hc, hr⟩ := R_C ho
  exact ⟨A, c, rfl, hc, ⟨_, rfl, ho⟩, hb⟩
theorem Copy_own (A0 : Option Addr) (c0 : Nat) (l0 : List Int) (n : Nat) (w : World) (hn : l0.length = n) (hr0 : Kd.C (Kd.int .u8) w A0 n l0) (hl : n ≤ 1000000) :
    Calls Try.prog 15 #[.slice A0 n c0] w fun e w' => ∃ A c, e = .returned (.slice A n c) ∧ n ≤ c ∧ Kd.R (Kd.int .u8) 5 w' w.heap.size (fun _ => True) (.slice A n c) l0 ∧ Below w.heap.size w w' := by
  subst hn
  refine (Copy_calls A0 c0 l0 w hr0 hl).mono ?_
  rintro e w' ⟨v, rfl, ho, hb⟩
  obtain ⟨A, c, rfl, hc, hr⟩ := R_C ho
  exact ⟨A, c, rfl, hc, ho, hb⟩
theorem R_in [Pl] {w : World} {base : Nat} {A : Option Addr} {n c g : Nat} {l : List Int} {d : Dv} (h : Kd.R (Kd.int .u8) 5 w base (fun _ => True) (.slice A n c) l) (hD : DevAt w g d) : ∀ W', Oth g w W' → Kd.C (Kd.int .u8) W' A l.length l := fun W' ho => by
  obtain ⟨_, _, _, _, hB, _⟩ := hD
  exact (Kd.R_reads' (R_oth h hB (by decide) ho)).2.2
end Go.Proofs.Ytpahmdjcmpnmkaa.H
