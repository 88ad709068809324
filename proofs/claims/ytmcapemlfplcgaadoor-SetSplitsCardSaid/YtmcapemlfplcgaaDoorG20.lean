/- Some texts of one seat in one file, in build order. -/
import Derived.Test.YtmcapemlfplcgaaDoorG19
import Derived.Test.YtmcapemlfplcgaaDoorG14
import Derived.Test.YtmcapemlfplcgaaDoorG4
/- package set: choose and Choose, as an iterator. -/
namespace Go.Proofs.YtmcapemlfplcgaaDoor.H
open Go.RowKit Go.Proofs.YtmcapemlfplcgaaDoorW.PrintWords Go.Proofs.YtmcapemlfplcgaaDoorW.PrintLast Go.Proofs.YtmcapemlfplcgaaDoorW.PrintMore Go.Proofs.YtmcapemlfplcgaaDoor.AtM Go.Proofs.YtmcapemlfplcgaaDoor.R02
set_option linter.unusedVariables false
set_option linter.unusedSimpArgs false
set_option maxRecDepth 100000
attribute [local go_sem] Oper.semAt_some wide_fn wide_depth
theorem Choose_calls (s n : Int) (w : World) : Calls Tryd.prog 40 #[.int .u64 s, .int .i64 n] w fun e w' =>
    e = .returned (.func (.func 62) #[] #[.pointer (some ⟨w.heap.size, 0, none⟩), .pointer (some ⟨w.heap.size + 1, 0, none⟩)]) ∧ w' = (w.alloc (.cells #[.int .u64 s] 22)).alloc (.cells #[.int .i64 n] 3) := by
  go_enter Tryd.func40, Tryd.ntmps40
  go_wp2
  go_ret
  exact ⟨rfl, rfl⟩
theorem ite_no' {b : Bool} {A B : Prop} (h : b = false) (hb : B) : if b = true then A else B := by subst h; exact hb
/-- The items lie so from the address on. -/
def ItAt (rs : List Nat) (A : Option Addr) (X : World) : Prop := ∀ j, j < rs.length → ∃ ad, A = some ad ∧ X.cell? (ad.add j) = some (.int .i64 ((rs.getD (rs.length - 1 - j) 0 : Nat) : Int))
theorem ItAt.tail {i : Nat} {r : List Nat} {A : Option Addr} {X : World} (h : ItAt (i :: r) A X) : ItAt r A X := fun j hj => by
  obtain ⟨ad, e, hc⟩ := h j (by simp; omega)
  refine ⟨ad, e, hc.trans ?_⟩
  have h1 : (i :: r).length - 1 - j = (r.length - 1 - j) + 1 := by simp; omega
  rw [h1, List.getD_cons_succ]
theorem ItAt.last {i : Nat} {r : List Nat} {A : Option Addr} {X : World} (h : ItAt (i :: r) A X) : ∃ ad, A = some ad ∧ X.cell? (ad.add r.length) = some (.int .i64 (i : Int)) := by
  obtain ⟨ad, e, hc⟩ := h r.length (by simp)
  refine ⟨ad, e, hc.trans ?_⟩
  have h1 : (i :: r).length - 1 - r.length = 0 := by simp
  rw [h1]; rfl
def ChP (m l : Nat) (J Jx : List Int → World → Prop) (B : Nat) (all : List Int) : Prop :=
  (∀ s X Y, J s X → Lies B X Y → J s Y) ∧ (∀ s X Y, Jx s X → Lies B X Y → Jx s Y) ∧
  (∀ pre x vs W1, J pre W1 → SuY all pre x vs W1 → B ≤ W1.heap.size → YieldAt Fence.wide m Tryd.prog l vs W1 fun e W' =>
      (e = .returned (.bool true) ∧ J (pre ++ [x]) W' ∧ Kin TU B W1.heap.size W1 W') ∨ (e = .returned (.bool false) ∧ Jx (pre ++ [x]) W' ∧ Kin TU B W1.heap.size W1 W'))
def ChQ (J Jx : List Int → World → Prop) (B : Nat) (ys : List Int) (X : World) (e : Ending) (X' : World) : Prop :=
  (e = .returned (.bool true) ∧ J ys X' ∧ Kin TU B X.heap.size X X') ∨ (e = .returned (.bool false) ∧ (∃ q, Jx q X') ∧ Kin TU B X.heap.size X X')
set_option maxHeartbeats 1600000 in
theorem choose_base (m : Nat) (l : Nat) (J Jx : List Int → World → Prop) (B : Nat) (all : List Int) (hP : ChP m l J Jx B all) (rs : List Nat) (A : Option Addr) (n c : Nat) (nn : Int) (wi : Nat) (pre : List Int) (X : World) (hn : rs.length = n)
    (hb : nn ≤ 0 ∨ nn > (n : Int)) (hB : B ≤ X.heap.size) (hj : J pre X) (hp : pre ++ zs (chV rs nn wi) <+: all) :
      Calls Tryd.prog 63 #[.slice A n c, .int .i64 nn, .int .u64 (wi : Int), .func (.yield l) #[] #[]] X (ChQ J Jx B (pre ++ zs (chV rs nn wi)) X) := by
  by_cases h0 : nn = 0
  · subst h0
    have hz : zs (chV rs 0 wi) = [(wi : Int)] := by rw [chV_zero]; rfl
    rw [hz] at hp ⊢
    obtain ⟨fn, tmps, asg, body, hy, hR⟩ := yieldAt_wide (m' := 7) (hP.2.2 pre (wi : Int) _ X hj ⟨hp, rfl⟩ hB)
    have g1 : decide ((0 : Int) > (n : Int)) = false := decide_eq_false (by omega)
    have g2 : decide ((n : Int) < 0) = false := decide_eq_false (by omega)
    refine (callsIn_wide (n := 8)).1 ?_
    refine callsIn_of_wp Tryd.func63 rfl trivial ?_ rfl
    simp only [Tryd.ntmps63, List.size_toArray, List.length_cons, List.length_nil, Nat.reduceAdd, Nat.reduceSub, Array.replicate_succ, Array.replicate_zero, List.push_toArray, List.append_toArray, List.nil_append, List.cons_append]
    gi_wp2
    refine hR.mono ?_
    rintro e W3 (⟨rfl, hJ3, hin⟩ | ⟨rfl, hx3, hin⟩)
    · gi_wp2
      refine bodyPost_ret (results_tmp rfl _ _ _) rfl ?_
      exact .inl ⟨rfl, hJ3, hin⟩
    · gi_wp2
      refine bodyPost_ret (results_tmp rfl _ _ _) rfl ?_
      exact .inr ⟨rfl, ⟨_, hx3⟩, hin⟩
  · have hz : zs (chV rs nn wi) = [] := by
      rcases hb with h | h
      · rw [chV_neg _ _ _ (by omega)]; rfl
      · rw [chV_big _ _ _ (by omega)]; rfl
    rw [hz, List.append_nil] at hp ⊢
    by_cases h1 : nn < 0
    · have g1 : decide (nn < 0) = true := decide_eq_true h1
      refine (callsIn_wide (n := 8)).1 ?_
      refine callsIn_of_wp Tryd.func63 rfl trivial ?_ rfl
      simp only [Tryd.ntmps63, List.size_toArray, List.length_cons, List.length_nil, Nat.reduceAdd, Nat.reduceSub, Array.replicate_succ, Array.replicate_zero, List.push_toArray, List.append_toArray, List.nil_append, List.cons_append]
      gi_wp2
      refine bodyPost_ret (results_tmp rfl _ _ _) rfl ?_
      exact .inl ⟨rfl, hj, Kin.refl _ _ _⟩
    · have g1 : decide (nn < 0) = false := decide_eq_false h1
      have g2 : decide (nn > (n : Int)) = true := decide_eq_true (by omega)
      have g3 : decide ((n : Int) < nn) = true := decide_eq_true (by omega)
      have g4 : nn > (n : Int) := by omega
      refine (callsIn_wide (n := 8)).1 ?_
      refine callsIn_of_wp Tryd.func63 rfl trivial ?_ rfl
      simp only [Tryd.ntmps63, List.size_toArray, List.length_cons, List.length_nil, Nat.reduceAdd, Nat.reduceSub, Array.replicate_succ, Array.replicate_zero, List.push_toArray, List.append_toArray, List.nil_append, List.cons_append]
      gi_wp2
      refine bodyPost_ret (results_tmp rfl _ _ _) rfl ?_
      exact .inl ⟨rfl, hj, Kin.refl _ _ _⟩
set_option maxHeartbeats 1600000 in
theorem choose_calls (m : Nat) (l : Nat) (J Jx : List Int → World → Prop) (B s0 : Nat) (Wr : World) (all : List Int) (hP : ChP m l J Jx B all) :
    ∀ (rs : List Nat) (A : Option Addr) (n c : Nat) (nn : Int) (wi : Nat) (pre : List Int) (X : World), rs.length = n → n ≤ c → n ≤ 64 → (∀ i ∈ rs, i < 64) → wi < 2 ^ 64 →
      (∀ Y, Kin TU B s0 Wr Y → ItAt rs A Y) → Kin TU B s0 Wr X → s0 ≤ X.heap.size → B ≤ X.heap.size → J pre X → pre ++ zs (chV rs nn wi) <+: all →
      Calls Tryd.prog 63 #[.slice A n c, .int .i64 nn, .int .u64 (wi : Int), .func (.yield l) #[] #[]] X (ChQ J Jx B (pre ++ zs (chV rs nn wi)) X) := by
  intro rs
  induction rs with
  | nil =>
    intro A n c nn wi pre X hn hc h64 hi hwi hC hX hs hB hj hp
    have hn0 : n = 0 := hn.symm
    exact choose_base m l J Jx B all hP [] A n c nn wi pre X hn (by omega) hB hj hp
  | cons i r ih =>
    intro A n1 c nn wi pre X hn1 hc h64 hi hwi hC hX hs hB hj hp
    by_cases hb : nn ≤ 0 ∨ nn > (n1 : Int)
    · exact choose_base m l J Jx B all hP (i :: r) A n1 c nn wi pre X hn1 hb hB hj hp
    · obtain ⟨n, hn⟩ : ∃ n, r.length = n := ⟨_, rfl⟩
      obtain rfl : n1 = n + 1 := by rw [← hn1, List.length_cons, hn]
      obtain ⟨ad, rfl, _⟩ := (hC X hX).last
      have hi64 := hi i (List.mem_cons_self ..)
      have hir : ∀ j ∈ r, j < 64 := fun j hj => hi j (List.mem_cons_of_mem _ hj)
      have hS : ∀ Y, Kin TU B s0 Wr Y → Y.cell? (ad.add n) = some (.int .i64 (i : Int)) := fun Y hY => by
        obtain ⟨ad', e, h⟩ := (hC Y hY).last
        injection e with e; subst e
        rw [hn] at h; exact h
      have hCr : ∀ Y, Kin TU B s0 Wr Y → ItAt r (some ad) Y := fun Y hY => (hC Y hY).tail
      rw [chV_cons, ← zs_append, ← List.append_assoc] at hp ⊢
      have hp1 : pre ++ zs (chV r nn wi) <+: all := (List.prefix_append _ _).trans hp
      have g1 : decide (nn < 0) = false := decide_eq_false (by omega)
      have g2 : decide (nn > ((n + 1 : Nat) : Int)) = false := decide_eq_false (by omega)
      have g3 : decide (nn > (n : Int) + 1) = false := decide_eq_false (by omega)
      have g4 : decide ((n : Int) + 1 < nn) = false := decide_eq_false (by omega)
      have g5 : (nn == 0) = false := by simp; omega
      have g6 : ¬ (nn > (n : Int) + 1) := by omega
      have HP := Aside0.mk hP
      have HI := Aside0.mk (And.intro hC (And.intro hX (And.intro hs (And.intro hB (And.intro hj (And.intro hp (And.intro hp1 (And.intro hS (And.intro hCr (And.intro hir (And.intro ih (And.intro hn (And.intro hb hwi)))))))))))))
      clear hP hC hX hs hB hj hp hp1 hS hCr hi hir ih hn hn1 hb hwi
      refine (callsIn_wide (n := 8)).1 ?_
      refine callsIn_of_wp Tryd.func63 rfl trivial ?_ rfl
      simp only [Tryd.ntmps63, List.size_toArray, List.length_cons, List.length_nil, Nat.reduceAdd, Nat.reduceSub, Array.replicate_succ, Array.replicate_zero, List.push_toArray, List.append_toArray, List.nil_append, List.cons_append]
      gi_wp2
      have hsh : shl .u64 1 (i : Int) = ((2 ^ i : Nat) : Int) := by have := shl_one (n := (i : Int)) (by omega); rwa [Int.toNat_natCast] at this
      have hp2 : (2 : Nat) ^ i < 2 ^ 64 := Nat.pow_lt_pow_right (by decide) hi64
      have h264 : (2 : Nat) ^ 64 = 18446744073709551616 := by decide
      obtain ⟨wi2, hwi2⟩ : ∃ x, wi ||| 2 ^ i = x := ⟨_, rfl⟩
      have hor : bits BinOp.or IntKind.u64 (wi : Int) ((2 ^ i : Nat) : Int) = (wi2 : Int) := by
        rw [u64_or_nat _ _ (by have := HI.out.2.2.2.2.2.2.2.2.2.2.2.2.2; omega) (by omega), hwi2]
      have hlt2 : wi2 < 2 ^ 64 := by rw [← hwi2]; exact or_lt HI.out.2.2.2.2.2.2.2.2.2.2.2.2.2 hi64
      obtain ⟨p2, hp2e⟩ : ∃ x, 2 ^ i = x := ⟨_, rfl⟩
      have hsh2 : IntKind.u64.wrap ((2 : Int) ^ i) = ((2 ^ i : Nat) : Int) := by
        rw [IntKind.wrap_u64, show ((2 : Int) ^ i) = ((2 ^ i : Nat) : Int) by norm_cast]
        generalize 2 ^ i = p at hp2 ⊢
        omega
      rw [hp2e] at hor hsh hp2 hsh2
      have hnz : (0 : Int) < nn ∧ nn ≤ 64 := by have := HI.out.2.2.2.2.2.2.2.2.2.2.2.2.1; omega
      have hsub : IntKind.i64.wrap (nn - 1) = nn - 1 := by rw [IntKind.wrap_i64]; omega
      have hnc : (n : Int) ≤ (c : Int) := by omega
      have hnc2 : n ≤ c := by omega
      have hn0 : ¬ ((n : Int) < 0) := by omega
      have hn1 : (n : Int) < (n : Int) + 1 := by omega
      have hmix : Tryd.prog.follows .mixedOrders = true := by kernel_rfl
      have B0 : Aside0 (Below X.heap.size X X.drew) := ⟨pw_below_drewN (Below.refl _ _) 1⟩
      have hkX : ∀ Z, Kin TU B X.drew.heap.size X.drew Z → Kin TU B X.heap.size X Z := fun Z hz => (Kin.of_below B0.out (Nat.le_refl _)).trans ⟨hz.1, fun k h1 h2 h3 => hz.2 k h1 (by have := B0.out.size; omega) h3⟩
      have hkW : ∀ Z, Kin TU B X.heap.size X Z → Kin TU B s0 Wr Z := fun Z hz => HI.out.2.1.trans ⟨hz.1, fun k h1 h2 h3 => hz.2 k h1 (by have := HI.out.2.2.1; omega) h3⟩
      obtain ⟨SS, hSS⟩ : ∃ S : World → Prop, S = (fun w' => w'.cell? (ad.add n) = some (.int .i64 (i : Int))) := ⟨_, rfl⟩
      have HSS := Lib.hid hSS
      have s0' : Aside0 (SS X.drew) := Aside0.mk (by rw [hSS]; exact HI.out.2.2.2.2.2.2.2.1 _ (hkW _ (hkX _ (Kin.refl _ _ _))))
      have HK := Aside0.mk (And.intro hkX (And.intro hkW (And.intro hp2e hwi2)))
      clear hSS hp2e hkX hkW hwi2
      refine wpIn_region_any hmix ?_
      change wpAnyIn _ _ _ _ _ _ _ _ _ (World.drew _)
      refine anyS_any (S := SS) _ _ _ _ ?_
      refine anyS_take (i := 0) (v := .slice (some ad) (n + 1) c) rfl rfl (by kernel_rfl) (by kernel_rfl) (by kernel_rfl) (fun _ _ _ h => h) ⟨Or.inl ⟨by kernel_rfl, ?tk⟩, fun _ => rfl⟩ s0'.out ?_
      case tk => intro w' hw; first | (go_simp; done) | (go_simp; rfl) | (go_simp; simp [*]; done)
      refine anyS_take (i := 1) (v := .int .i64 (n : Int)) rfl rfl (by kernel_rfl) (by kernel_rfl) (by kernel_rfl) (fun _ _ _ h => h) ⟨Or.inl ⟨by kernel_rfl, ?tk⟩, fun _ => rfl⟩ s0'.out ?_
      case tk => intro w' hw; first | (go_simp; done) | (go_simp; rfl) | (go_simp; simp [*]; done)
      refine anyS_take (i := 2) (v := .slice (some ad) n c) rfl rfl (by kernel_rfl) (by kernel_rfl) (by kernel_rfl) (fun _ _ _ h => h) ⟨Or.inl ⟨by kernel_rfl, ?tk⟩, fun _ => rfl⟩ s0'.out ?_
      case tk => intro w' hw; first | (go_simp; done) | (go_simp; rfl) | (go_simp; simp [*]; done)
      refine anyS_take (i := 3) (v := .int .i64 nn) rfl rfl (by kernel_rfl) (by kernel_rfl) (by kernel_rfl) (fun _ _ _ h => h) ⟨Or.inl ⟨by kernel_rfl, ?tk⟩, fun _ => rfl⟩ s0'.out ?_
      case tk => intro w' hw; first | (go_simp; done) | (go_simp; rfl) | (go_simp; simp [*]; done)
      try go_simp
      refine anyS_take (i := 4) (v := .int .u64 (wi : Int)) rfl rfl (by kernel_rfl) (by kernel_rfl) (by kernel_rfl) (fun _ _ _ h => h) ⟨Or.inl ⟨by kernel_rfl, ?tk⟩, fun _ => rfl⟩ s0'.out ?_
      case tk => intro w' hw; first | (go_simp; done) | (go_simp; rfl) | (go_simp; simp [*]; done)
      refine anyS_take (i := 5) (v := .func (.yield l) #[] #[]) rfl rfl (by kernel_rfl) (by kernel_rfl) (by kernel_rfl) (fun _ _ _ h => h) ⟨Or.inl ⟨by kernel_rfl, ?tk⟩, fun _ => rfl⟩ s0'.out ?_
      case tk => intro w' hw; first | (go_simp; done) | (go_simp; rfl) | (go_simp; simp [*]; done)
      try go_simp
      have hcall := HI.out.2.2.2.2.2.2.2.2.2.2.1 (some ad) n c nn wi pre X.drew HI.out.2.2.2.2.2.2.2.2.2.2.2.1 (by omega) (by omega) HI.out.2.2.2.2.2.2.2.2.2.1 HI.out.2.2.2.2.2.2.2.2.2.2.2.2.2 HI.out.2.2.2.2.2.2.2.2.1 (HK.out.2.1 _ (HK.out.1 _ (Kin.refl _ _ _))) (Nat.le_trans HI.out.2.2.1 B0.out.size) (Nat.le_trans HI.out.2.2.2.1 B0.out.size) (HP.out.1 _ _ _ HI.out.2.2.2.2.1 (.of_below B0.out)) HI.out.2.2.2.2.2.2.1
      refine anyS_one (i := 6) (by kernel_rfl) (wpOpIn_step rfl fun K hK => ?_)
      go_simp
      refine (callsIn_wide.2 hcall).mono ?_
      rintro e W3 (⟨rfl, hJ3, hin⟩ | ⟨rfl, ⟨q, hx3⟩, hin⟩)
      · have hkin := HK.out.1 _ hin
        have s3 : Aside0 (SS W3) := Aside0.mk (by rw [HSS.out]; exact HI.out.2.2.2.2.2.2.2.1 _ (HK.out.2.1 _ hkin))
        have hcall2 := HI.out.2.2.2.2.2.2.2.2.2.2.1 (some ad) n c (nn - 1) wi2 (pre ++ zs (chV r nn wi)) W3 HI.out.2.2.2.2.2.2.2.2.2.2.2.1 (by omega) (by omega) HI.out.2.2.2.2.2.2.2.2.2.1 hlt2 HI.out.2.2.2.2.2.2.2.2.1 (HK.out.2.1 _ hkin) (Nat.le_trans HI.out.2.2.1 hkin.1) (Nat.le_trans HI.out.2.2.2.1 hkin.1) hJ3 (by rw [← HK.out.2.2.2]; exact HI.out.2.2.2.2.2.1)
        have HE := Aside0.mk (And.intro hcall2 hkin)
        clear hJ3 hin hcall hcall2 hkin
        refine hK _ _ ⟨s3.out, ?_⟩
        clear hK K
        refine anyS_one (i := 7) (by kernel_rfl) (wpOpIn_step rfl fun K hK => ?_)
        go_simp
        refine hK _ _ ⟨s3.out, ?_⟩
        clear hK K
        refine anyS_take (i := 8) (v := .slice (some ad) (n + 1) c) rfl rfl (by kernel_rfl) (by kernel_rfl) (by kernel_rfl) (fun _ _ _ h => h) ⟨Or.inl ⟨by kernel_rfl, ?tk⟩, fun _ => rfl⟩ s3.out ?_
        case tk => intro w' hw; first | (go_simp; done) | (go_simp; rfl) | (go_simp; simp [*]; done)
        refine anyS_take (i := 9) (v := .int .i64 (n : Int)) rfl rfl (by kernel_rfl) (by kernel_rfl) (by kernel_rfl) (fun _ _ _ h => h) ⟨Or.inl ⟨by kernel_rfl, ?tk⟩, fun _ => rfl⟩ s3.out ?_
        case tk => intro w' hw; first | (go_simp; done) | (go_simp; rfl) | (go_simp; simp [*]; done)
        refine anyS_take (i := 10) (v := .slice (some ad) n c) rfl rfl (by kernel_rfl) (by kernel_rfl) (by kernel_rfl) (fun _ _ _ h => h) ⟨Or.inl ⟨by kernel_rfl, ?tk⟩, fun _ => rfl⟩ s3.out ?_
        case tk => intro w' hw; first | (go_simp; done) | (go_simp; rfl) | (go_simp; simp [*]; done)
        try go_simp
        refine anyS_take (i := 11) (v := .int .i64 nn) rfl rfl (by kernel_rfl) (by kernel_rfl) (by kernel_rfl) (fun _ _ _ h => h) ⟨Or.inl ⟨by kernel_rfl, ?tk⟩, fun _ => rfl⟩ s3.out ?_
        case tk => intro w' hw; first | (go_simp; done) | (go_simp; rfl) | (go_simp; simp [*]; done)
        refine anyS_take (i := 12) (v := .int .i64 (nn - 1)) rfl rfl (by kernel_rfl) (by kernel_rfl) (by kernel_rfl) (fun _ _ _ h => h) ⟨Or.inl ⟨by kernel_rfl, ?tk⟩, fun _ => rfl⟩ s3.out ?_
        case tk => intro w' hw; first | (go_simp; done) | (go_simp; rfl) | (go_simp; simp [*]; done)
        refine anyS_take (i := 13) (v := .int .u64 (wi : Int)) rfl rfl (by kernel_rfl) (by kernel_rfl) (by kernel_rfl) (fun _ _ _ h => h) ⟨Or.inl ⟨by kernel_rfl, ?tk⟩, fun _ => rfl⟩ s3.out ?_
        case tk => intro w' hw; first | (go_simp; done) | (go_simp; rfl) | (go_simp; simp [*]; done)
        try go_simp
        refine anyS_take (i := 14) (v := .slice (some ad) (n + 1) c) rfl rfl (by kernel_rfl) (by kernel_rfl) (by kernel_rfl) (fun _ _ _ h => h) ⟨Or.inl ⟨by kernel_rfl, ?tk⟩, fun _ => rfl⟩ s3.out ?_
        case tk => intro w' hw; first | (go_simp; done) | (go_simp; rfl) | (go_simp; simp [*]; done)
        refine anyS_take (i := 15) (v := .int .i64 (n : Int)) rfl rfl (by kernel_rfl) (by kernel_rfl) (by kernel_rfl) (fun _ _ _ h => h) ⟨Or.inl ⟨by kernel_rfl, ?tk⟩, fun _ => rfl⟩ s3.out ?_
        case tk => intro w' hw; first | (go_simp; done) | (go_simp; rfl) | (go_simp; simp [*]; done)
        refine anyS_take (i := 16) (v := .pointer (some (ad.add n))) rfl rfl (by kernel_rfl) (by kernel_rfl) (by kernel_rfl) (fun _ _ _ h => h) ⟨Or.inl ⟨by kernel_rfl, ?tk⟩, fun _ => rfl⟩ s3.out ?_
        case tk => intro w' hw; first | (go_simp; done) | (go_simp; rfl) | (go_simp; simp [*]; done)
        try go_simp
        refine anyS_take (i := 17) (v := .int .i64 (i : Int)) rfl rfl (by kernel_rfl) (by kernel_rfl) (by kernel_rfl) (fun _ _ _ h => h) ⟨Or.inl ⟨by kernel_rfl, ?tk⟩, fun _ => rfl⟩ s3.out ?_
        case tk => intro w' hw; rw [HSS.out] at hw; first | (go_simp; done) | (go_simp; rfl) | (go_simp; simp [*]; done)
        try go_simp
        refine anyS_take (i := 18) (v := .int .u64 (p2 : Int)) rfl rfl (by kernel_rfl) (by kernel_rfl) (by kernel_rfl) (fun _ _ _ h => h) ⟨Or.inl ⟨by kernel_rfl, ?tk⟩, fun _ => rfl⟩ s3.out ?_
        case tk => intro w' hw; first | (go_simp; done) | (go_simp; exact hsh2)
        refine anyS_take (i := 19) (v := .int .u64 (wi2 : Int)) rfl rfl (by kernel_rfl) (by kernel_rfl) (by kernel_rfl) (fun _ _ _ h => h) ⟨Or.inl ⟨by kernel_rfl, ?tk⟩, fun _ => rfl⟩ s3.out ?_
        case tk => intro w' hw; first | (go_simp; done) | (go_simp; rfl) | (go_simp; simp [*]; done)
        try go_simp
        refine anyS_take (i := 20) (v := .func (.yield l) #[] #[]) rfl rfl (by kernel_rfl) (by kernel_rfl) (by kernel_rfl) (fun _ _ _ h => h) ⟨Or.inl ⟨by kernel_rfl, ?tk⟩, fun _ => rfl⟩ s3.out ?_
        case tk => intro w' hw; first | (go_simp; done) | (go_simp; rfl) | (go_simp; simp [*]; done)
        try go_simp
        refine anyS_one (i := 21) (by kernel_rfl) (wpOpIn_step rfl fun K hK => ?_)
        go_simp
        refine (callsIn_wide.2 HE.out.1).mono ?_
        rintro e W5 (⟨rfl, hJ5, hin⟩ | ⟨rfl, hx5, hin⟩)
        · have hkin5 : Kin TU B X.heap.size X W5 := HE.out.2.trans ⟨hin.1, fun k h1 h2 h3 => hin.2 k h1 (by have := HE.out.2.1; omega) h3⟩
          have s5 : Aside0 (SS W5) := Aside0.mk (by rw [HSS.out]; exact HI.out.2.2.2.2.2.2.2.1 _ (HK.out.2.1 _ hkin5))
          have HF := Aside0.mk (And.intro hJ5 hkin5)
          clear hJ5 hin hkin5
          refine hK _ _ ⟨s5.out, ?_⟩
          clear hK K
          refine anyS_one (i := 22) (by kernel_rfl) (wpOpIn_step rfl fun K hK => ?_)
          go_simp
          refine hK _ _ ⟨s5.out, ?_⟩
          clear hK K
          refine anyS_one (i := 23) (by kernel_rfl) (wpOpIn_step rfl fun K hK => ?_)
          go_simp
          refine hK _ _ ⟨s5.out, ?_⟩
          clear hK K
          refine anyS_done (by kernel_rfl) ?_ _
          gi_wp2
          refine bodyPost_ret (results_tmp rfl _ _ _) rfl ?_
          refine .inl ⟨rfl, ?_, HF.out.2⟩
          have h := HF.out.1
          rw [← HK.out.2.2.2] at h
          first | exact h | (rw [List.append_assoc] at h; exact h)
        · have hkin5 : Kin TU B X.heap.size X W5 := HE.out.2.trans ⟨hin.1, fun k h1 h2 h3 => hin.2 k h1 (by have := HE.out.2.1; omega) h3⟩
          have s5 : Aside0 (SS W5) := Aside0.mk (by rw [HSS.out]; exact HI.out.2.2.2.2.2.2.2.1 _ (HK.out.2.1 _ hkin5))
          have HF := Aside0.mk (And.intro hx5 hkin5)
          clear hx5 hin hkin5
          refine hK _ _ ⟨s5.out, ?_⟩
          clear hK K
          refine anyS_one (i := 22) (by kernel_rfl) (wpOpIn_step rfl fun K hK => ?_)
          go_simp
          refine hK _ _ ⟨s5.out, ?_⟩
          clear hK K
          refine anyS_one (i := 23) (by kernel_rfl) (wpOpIn_step rfl fun K hK => ?_)
          go_simp
          refine hK _ _ ⟨s5.out, ?_⟩
          clear hK K
          refine anyS_done (by kernel_rfl) ?_ _
          gi_wp2
          refine bodyPost_ret (results_tmp rfl _ _ _) rfl ?_
          exact .inr ⟨rfl, HF.out.1, HF.out.2⟩
      · have hkin := HK.out.1 _ hin
        have s3 : Aside0 (SS W3) := Aside0.mk (by rw [HSS.out]; exact HI.out.2.2.2.2.2.2.2.1 _ (HK.out.2.1 _ hkin))
        have HE := Aside0.mk (And.intro hx3 hkin)
        clear hx3 hin hcall hkin
        refine hK _ _ ⟨s3.out, ?_⟩
        clear hK K
        refine anyS_one (i := 7) (by kernel_rfl) (wpOpIn_step rfl fun K hK => ?_)
        go_simp
        refine hK _ _ ⟨s3.out, ?_⟩
        clear hK K
        refine anyS_take (i := 8) (v := undef) rfl rfl (by kernel_rfl) (by kernel_rfl) (by kernel_rfl) (fun _ _ _ h => h) ⟨Or.inr ⟨by kernel_rfl, rfl⟩, fun _ => rfl⟩ s3.out ?_
        try go_simp
        refine anyS_take (i := 9) (v := undef) rfl rfl (by kernel_rfl) (by kernel_rfl) (by kernel_rfl) (fun _ _ _ h => h) ⟨Or.inr ⟨by kernel_rfl, rfl⟩, fun _ => rfl⟩ s3.out ?_
        refine anyS_take (i := 10) (v := undef) rfl rfl (by kernel_rfl) (by kernel_rfl) (by kernel_rfl) (fun _ _ _ h => h) ⟨Or.inr ⟨by kernel_rfl, rfl⟩, fun _ => rfl⟩ s3.out ?_
        try go_simp
        refine anyS_take (i := 11) (v := undef) rfl rfl (by kernel_rfl) (by kernel_rfl) (by kernel_rfl) (fun _ _ _ h => h) ⟨Or.inr ⟨by kernel_rfl, rfl⟩, fun _ => rfl⟩ s3.out ?_
        refine anyS_take (i := 12) (v := undef) rfl rfl (by kernel_rfl) (by kernel_rfl) (by kernel_rfl) (fun _ _ _ h => h) ⟨Or.inr ⟨by kernel_rfl, rfl⟩, fun _ => rfl⟩ s3.out ?_
        try go_simp
        refine anyS_take (i := 13) (v := undef) rfl rfl (by kernel_rfl) (by kernel_rfl) (by kernel_rfl) (fun _ _ _ h => h) ⟨Or.inr ⟨by kernel_rfl, rfl⟩, fun _ => rfl⟩ s3.out ?_
        refine anyS_take (i := 14) (v := undef) rfl rfl (by kernel_rfl) (by kernel_rfl) (by kernel_rfl) (fun _ _ _ h => h) ⟨Or.inr ⟨by kernel_rfl, rfl⟩, fun _ => rfl⟩ s3.out ?_
        try go_simp
        refine anyS_take (i := 15) (v := undef) rfl rfl (by kernel_rfl) (by kernel_rfl) (by kernel_rfl) (fun _ _ _ h => h) ⟨Or.inr ⟨by kernel_rfl, rfl⟩, fun _ => rfl⟩ s3.out ?_
        refine anyS_take (i := 16) (v := undef) rfl rfl (by kernel_rfl) (by kernel_rfl) (by kernel_rfl) (fun _ _ _ h => h) ⟨Or.inr ⟨by kernel_rfl, rfl⟩, fun _ => rfl⟩ s3.out ?_
        try go_simp
        refine anyS_take (i := 17) (v := undef) rfl rfl (by kernel_rfl) (by kernel_rfl) (by kernel_rfl) (fun _ _ _ h => h) ⟨Or.inr ⟨by kernel_rfl, rfl⟩, fun _ => rfl⟩ s3.out ?_
        try go_simp
        refine anyS_take (i := 18) (v := undef) rfl rfl (by kernel_rfl) (by kernel_rfl) (by kernel_rfl) (fun _ _ _ h => h) ⟨Or.inr ⟨by kernel_rfl, rfl⟩, fun _ => rfl⟩ s3.out ?_
        try go_simp
        refine anyS_take (i := 19) (v := undef) rfl rfl (by kernel_rfl) (by kernel_rfl) (by kernel_rfl) (fun _ _ _ h => h) ⟨Or.inr ⟨by kernel_rfl, rfl⟩, fun _ => rfl⟩ s3.out ?_
        refine anyS_take (i := 20) (v := undef) rfl rfl (by kernel_rfl) (by kernel_rfl) (by kernel_rfl) (fun _ _ _ h => h) ⟨Or.inr ⟨by kernel_rfl, rfl⟩, fun _ => rfl⟩ s3.out ?_
        try go_simp
        refine anyS_one (i := 21) (by kernel_rfl) (wpOpIn_step rfl fun K hK => ?_)
        refine ite_no' (by rfl) ?_
        refine ⟨fun _ _ => trivial, hK _ _ ⟨s3.out, ?_⟩⟩
        clear hK K
        refine anyS_one (i := 22) (by kernel_rfl) (wpOpIn_step rfl fun K hK => ?_)
        go_simp
        refine hK _ _ ⟨s3.out, ?_⟩
        clear hK K
        refine anyS_one (i := 23) (by kernel_rfl) (wpOpIn_step rfl fun K hK => ?_)
        go_simp
        refine hK _ _ ⟨s3.out, ?_⟩
        clear hK K
        refine anyS_done (by kernel_rfl) ?_ _
        gi_wp2
        refine bodyPost_ret (results_tmp rfl _ _ _) rfl ?_
        exact .inr ⟨rfl, ⟨_, HE.out.1⟩, HE.out.2⟩
end Go.Proofs.YtmcapemlfplcgaaDoor.H
/- package set: Choose, as an iterator. -/
namespace Go.Proofs.YtmcapemlfplcgaaDoor.H
open Go.RowKit Go.Proofs.YtmcapemlfplcgaaDoorW.PrintWords Go.Proofs.YtmcapemlfplcgaaDoorW.PrintLast Go.Proofs.YtmcapemlfplcgaaDoorW.PrintMore Go.Proofs.YtmcapemlfplcgaaDoor.AtM Go.Proofs.YtmcapemlfplcgaaDoor.R02
set_option linter.unusedVariables false
set_option linter.unusedSimpArgs false
set_option maxRecDepth 100000
attribute [local go_sem] Oper.semAt_some wide_fn wide_depth
theorem at_elemCh {w : World} {A : Option Addr} {n : Nat} {xs : List Int} (h : Kd.C (Kd.int .i64) w A n xs) {i : Nat} (hi : i < n) : ∃ ad, A = some ad ∧ w.cell? (ad.add i) = some (.int .i64 (xs.getD i 0)) := by
  obtain ⟨ad, c, e, _, hK, hc0⟩ := Kd.C_get h (0 : Int) (i : Int) (by omega) (by omega)
  rw [Int.toNat_natCast] at hK hc0
  have hK : c = [.int .i64 (xs.getD i 0)] := hK
  subst hK
  have h1 := hc0 0 (.int .i64 (xs.getD i 0)) rfl
  refine ⟨ad, e, ?_⟩
  have e2 : i * (Kd.int .i64).sz + 0 = i := by show i * 1 + 0 = i; omega
  rw [e2] at h1
  exact h1
theorem listS_rs (s : Int) : (listS s).length = (rsN s.toNat 64).length ∧ (rsN s.toNat 64).length ≤ 64 ∧ (∀ i ∈ rsN s.toNat 64, i < 64) ∧ ∀ j, j < (rsN s.toNat 64).length → (listS s).getD j 0 = (((rsN s.toNat 64).getD ((rsN s.toNat 64).length - 1 - j) 0 : Nat) : Int) := by
  have hr := rsN_rev s.toNat 64
  obtain ⟨l, hl⟩ : ∃ l, (List.range 64).filter (fun i => s.toNat.testBit i) = l := ⟨_, rfl⟩
  have hls : listS s = l.map fun (n : Nat) => (n : Int) := by rw [← hl]; rfl
  rw [hl] at hr
  rw [← hr, hls]
  have hle : l.length ≤ 64 := by rw [← hl]; exact Nat.le_trans (List.length_filter_le _ _) (by simp)
  refine ⟨by simp, by simpa using hle, fun i hi => ?_, fun j hj => ?_⟩
  · rw [List.mem_reverse, ← hl] at hi
    exact List.mem_range.1 (List.mem_filter.1 hi).1
  · rw [List.length_reverse] at hj ⊢
    simp only [List.getD_eq_getElem?_getD]
    rw [List.getElem?_eq_getElem (by simpa using hj), List.getElem?_eq_getElem (by rw [List.length_reverse]; omega), List.getElem_map, List.getElem_reverse]
    show ((l[j] : Nat) : Int) = ((l[l.length - 1 - (l.length - 1 - j)] : Nat) : Int)
    congr 2
    omega
theorem rows_stay {B : Nat} {W' : World} {v : Value} {s : Int} (hR : Kd.R (Kd.int .i64) 3 W' B (fun _ => True) v (listS s)) :
    ∃ A c, v = .slice A (rsN s.toNat 64).length c ∧ (rsN s.toNat 64).length ≤ c ∧ ∀ Y, Kin TU B W'.heap.size W' Y → ItAt (rsN s.toNat 64) A Y := by
  obtain ⟨h1, h2, h3, h4⟩ := listS_rs s
  obtain ⟨A, c, rfl, hc, hC⟩ := R_C hR
  rw [h1] at hc hC hR ⊢
  refine ⟨A, c, rfl, hc, fun Y hY j hj => ?_⟩
  obtain ⟨ad, rfl, h5⟩ := at_elemCh hC hj
  refine ⟨ad, rfl, ?_⟩
  rw [h4 j hj] at h5
  obtain ⟨_, ho'⟩ := Kd.R_own hR
  have hown : some ad.block = (Value.slice (some ad) (rsN s.toNat 64).length c).ownBlock := rfl
  obtain ⟨cells, hc'⟩ := own_typed ho' ad.block hown.symm
  have hb := own_base ho' ad.block hown.symm
  have hbl : Y.heap[(ad.add j).block]? = W'.heap[(ad.add j).block]? := by
    rw [show (ad.add j).block = ad.block by unfold Addr.add; split <;> rfl]
    exact hY.2 ad.block hb (lt_of_some hc') (isC hc' (by unfold TU; decide))
  exact (World.cell?_of_block hbl).trans h5
set_option maxHeartbeats 1600000 in
theorem Choose1_seq (n : Nat) (s k : Int) (bs bn n₀ : Nat) (Kb : Nat → Prop) (w : World) (hs : U64 s) (hk : -9223372036854775808 ≤ k ∧ k < 9223372036854775808)
    (hS : ∀ W, Kp n₀ Kb w W → W.cell? ⟨bs, 0, none⟩ = some (.int .u64 s)) (hN : ∀ W, Kp n₀ Kb w W → W.cell? ⟨bn, 0, none⟩ = some (.int .i64 k)) (hT : ∀ W, Kp n₀ Kb w W → TabG W) (hn : n₀ ≤ w.heap.size) :
    SeqG TU 0 Fence.wide n Tryd.prog 62 #[.pointer (some ⟨bs, 0, none⟩), .pointer (some ⟨bn, 0, none⟩)] (SuY (chL s k)) n₀ Kb (fun ys => ys = chL s k) (fun _ => True) w := by
  intro l J Jx W hK hJ hJx hY h0
  have hcS := hS W hK
  have hcN := hN W hK
  have hTW := hT W hK
  have hWn := hK.1
  obtain ⟨hl1, hl2, hl3, hl4⟩ := listS_rs s
  obtain ⟨rs, hrs⟩ : ∃ rs, rsN s.toNat 64 = rs := ⟨_, rfl⟩
  have hP : ChP (n - 1) l J Jx W.heap.size (chL s k) := ⟨hJ, hJx, fun pre x vs W1 hj hy hb => yieldAt_mono (hY pre x vs W1 hj hy (by omega)) (fun e W' h => h.imp (fun h => ⟨h.1, h.2.1, h.2.2.2.1⟩) id)⟩
  have hbs : bs < W.heap.size := World.block_lt_of_cell? W ⟨bs, 0, none⟩ hcS
  have hbn : bn < W.heap.size := World.block_lt_of_cell? W ⟨bn, 0, none⟩ hcN
  rw [hrs] at hl2 hl3
  clear hl1 hl4
  have HP := Aside0.mk (And.intro hP (And.intro h0 (And.intro hTW (And.intro hs (And.intro hJ hrs)))))
  clear hP h0 hTW hs hS hN hT hY hK hJ hJx
  refine callsIn_wide.2 ((callsIn_wide (n := 8)).1 ?_)
  refine callsIn_of_wp Tryd.func62 rfl trivial ?_ rfl
  simp only [Tryd.ntmps62, List.size_toArray, List.length_cons, List.length_nil, Nat.reduceAdd, Nat.reduceSub, Array.replicate_succ, Array.replicate_zero, List.push_toArray, List.append_toArray, List.nil_append, List.cons_append]
  have hmix : Tryd.prog.follows .mixedOrders = true := by kernel_rfl
  have B0 : Aside0 (Below W.heap.size W W.drew) := ⟨pw_below_drewN (Below.refl _ _) 1⟩
  obtain ⟨SS, hSS⟩ : ∃ S : World → Prop, S = (fun w' => w'.cell? ⟨bs, 0, none⟩ = some (.int .u64 s) ∧ w'.cell? ⟨bn, 0, none⟩ = some (.int .i64 k)) := ⟨_, rfl⟩
  have HSS := Lib.hid hSS
  have hb0 := B0.out
  have s0' : Aside0 (SS W.drew) := Aside0.mk (by rw [hSS]; exact ⟨(World.cell?_of_block (hb0.block _ hbs)).trans hcS, (World.cell?_of_block (hb0.block _ hbn)).trans hcN⟩)
  clear hSS hb0
  gi_wp2
  refine wpIn_region_any hmix ?_
  change wpAnyIn _ _ _ _ _ _ _ _ _ (World.drew _)
  refine anyN_any (S := SS) (N := fun j => j == 4) _ _ _ _ ?_
  refine anyN_take (i := 2) (v := .int .i64 k) rfl rfl (by kernel_rfl) (by kernel_rfl) (by kernel_rfl) (by kernel_rfl) (by intro j hj; have e : j = 4 := (by simpa using hj); rw [e]; decide) (fun _ _ _ h => h) ⟨Or.inl ⟨by kernel_rfl, ?tk⟩, fun _ => rfl⟩ s0'.out ?_
  case tk => intro w' hw; rw [HSS.out] at hw; obtain ⟨y0, y1⟩ := hw; first | (go_simp; done) | (go_simp; rfl) | (go_simp; simp [*]; done)
  refine anyN_take (i := 3) (v := .func (.yield l) #[] #[]) rfl rfl (by kernel_rfl) (by kernel_rfl) (by kernel_rfl) (by kernel_rfl) (by intro j hj; have e : j = 4 := (by simpa using hj); rw [e]; decide) (fun _ _ _ h => h) ⟨Or.inl ⟨by kernel_rfl, ?tk⟩, fun _ => rfl⟩ s0'.out ?_
  case tk => intro w' hw; rw [HSS.out] at hw; obtain ⟨y0, y1⟩ := hw; first | (go_simp; done) | (go_simp; rfl) | (go_simp; simp [*]; done)
  try go_simp
  refine anyN_one (i := 0) (by kernel_rfl) (wpOpIn_step rfl fun K hK => ?_)
  have y0 := s0'.out
  rw [HSS.out] at y0
  obtain ⟨y0, -⟩ := y0
  go_simp
  refine hK _ _ ⟨fun _ => s0'.out, ?_⟩
  clear hK K y0
  refine anyN_one (i := 1) (by kernel_rfl) (wpOpIn_step rfl fun K hK => ?_)
  go_simp
  refine (callsIn_wide.2 (List_calls s W.drew HP.out.2.2.2.1 (HP.out.2.2.1.below B0.out))).mono ?_
  rintro e W2 ⟨v, rfl, hR, hb2⟩
  obtain ⟨A, c, rfl, hc, hst⟩ := rows_stay (Kd.R_lower hR B0.out.size)
  have hb2 := below_step B0.out hb2
  have s2 : Aside0 (SS W2) := Aside0.mk (by rw [HSS.out]; exact ⟨(World.cell?_of_block (hb2.block _ hbs)).trans hcS, (World.cell?_of_block (hb2.block _ hbn)).trans hcN⟩)
  have hj2 := HP.out.2.2.2.2.1 _ _ _ HP.out.2.1 (.of_below hb2)
  rw [HP.out.2.2.2.2.2] at hc hst ⊢
  have hcall := choose_calls (n - 1) l J Jx W.heap.size W2.heap.size W2 (chL s k) HP.out.1 rs A rs.length c k 0 [] W2 rfl hc hl2 hl3 (by decide) hst (Kin.refl _ _ _) (Nat.le_refl _) hb2.size hj2 (by
    rw [← HP.out.2.2.2.2.2]; exact List.prefix_refl _)
  have HE := Aside0.mk hcall
  clear hcall hst hR hb2 hj2
  refine hK _ _ ⟨fun _ => s2.out, ?_⟩
  clear hK K
  refine anyN_one (i := 4) (by kernel_rfl) (wpOpIn_step rfl fun K hK => ?_)
  go_simp
  refine (callsIn_wide.2 HE.out).mono ?_
  rintro e W3 (⟨rfl, hJ3, hin⟩ | ⟨rfl, ⟨q, hx3⟩, hin⟩)
  · have HF := Aside0.mk hJ3
    clear hJ3 hin
    refine hK _ _ ⟨fun h => by simp at h, ?_⟩
    clear hK K
    refine anyN_done (by kernel_rfl) ?_ _
    gi_wp2
    go_end0
    refine ⟨⟨_, rfl⟩, .inl ⟨_, rfl, ?_⟩⟩
    have h := HF.out
    rw [← HP.out.2.2.2.2.2] at h
    exact h
  · have HF := Aside0.mk hx3
    clear hx3 hin
    refine hK _ _ ⟨fun h => by simp at h, ?_⟩
    clear hK K
    refine anyN_done (by kernel_rfl) ?_ _
    gi_wp2
    go_end0
    exact ⟨⟨_, rfl⟩, .inr ⟨_, trivial, HF.out⟩⟩
end Go.Proofs.YtmcapemlfplcgaaDoor.H
