/- A drawn region that only reads, in a round of a range over a func. -/
import Derived.Test.YtagjnjdaookdgaaRf
import Derived.Sort.QuietIn
namespace Go.Proofs.Ytagjnjdaookdgaa.H
open Go.RowKit Go.Proofs.YtagjnjdaookdgaaW.PrintWords Go.Proofs.YtagjnjdaookdgaaW.PrintLast Go.Proofs.YtagjnjdaookdgaaW.PrintMore
set_option linter.unusedVariables false
set_option linter.unusedSimpArgs false

def Calm (ops : Array Oper) : Prop := ∀ (i : Nat) (o : Oper), ops[i]? = some o → ∀ c, o.op ≠ .defer c
theorem calm_of {l : List Oper} (h : l.all (fun o => match o.op with | .defer _ => false | _ => true) = true) : Calm l.toArray := fun i o hi c hc => by
  have hm : o ∈ l := by rw [List.getElem?_toArray] at hi; exact List.mem_of_getElem? hi
  have := List.all_eq_true.1 h o hm
  rw [hc] at this
  cases this
section
variable {n : Nat} {P : Program} {md : Region.Mode} {ops : Array Oper} {l : Nat}
theorem oper_round {o : Oper} {a : Act} {w : World} {K : Act → World → Prop} {Q : Exit → Act → World → Prop} (hd : ∀ c, o.op ≠ .defer c) (h : o.wpIn Fence.wide n P a w K Q) : o.wpIn (Fence.wide.inRound l) n P a w K Q := by
  obtain ⟨h1, h2⟩ := h
  refine ⟨h1, ?_⟩
  rw [Fence.wide_round, Oper.semAt_none] at h2
  rw [show (Fence.wide.inRound l).round = some l from rfl, Oper.semAt_some l _ _ hd]
  revert h2
  generalize (execOp a.eval o).run P w = r
  intro h2
  exact h2
theorem any_round (hc : Calm ops) {Q : Exit → Act → World → Prop} : ∀ (fuel : Nat) (listed : Array Bool) (a : Act) (w : World), wpAnyIn Fence.wide n P md ops Q fuel listed a w → wpAnyIn (Fence.wide.inRound l) n P md ops Q fuel listed a w
  | 0, _, _, _, h => h
  | fuel + 1, listed, a, w, h => ⟨h.1, fun i hi => by
      have hh := h.2 i hi
      unfold wpOpIn at hh ⊢
      split
      · rename_i ho
        simp only [ho] at hh
        exact any_round hc fuel _ _ _ hh
      · rename_i o ho
        simp only [ho] at hh
        split
        · rename_i hw
          simp only [hw, if_true] at hh
          exact Oper.wpIn_mono (fun a w => any_round hc fuel _ a w) (oper_round (hc i o ho) hh)
        · rename_i hw
          simp only [hw] at hh
          exact ⟨hh.1, any_round hc fuel _ _ _ hh.2⟩⟩
theorem quiet_round {id : Nat} {Q : Exit → Act → World → Prop} {a : Act} {w : World} {ls : List Oper} (hc : Calm ls.toArray) (hm : P.follows .mixedOrders = true) (hB : Region.lexB .any ls.toArray = true)
    (h : wpQuietIn Fence.wide n P ls.toArray (fun w' => ∃ n, w' = w.drewN n) (fun a' => ∀ w', (∃ n, w' = w.drewN n) → Q .normal a' w') ls a) : (Code.region id ls.toArray true).wpIn (Fence.wide.inRound l) n P Q a w := by
  simp only [Region.lexB, Bool.and_eq_true] at hB
  refine wpIn_region_any hm (any_round hc _ _ _ _ (wpAnyIn_of_quiet (C := fun w' => ∃ n, w' = w.drewN n) (Q := fun a' => ∀ w', (∃ n, w' = w.drewN n) → Q .normal a' w') rfl (fun _ w' hw' h => h w' hw') _ _ _ _ ⟨1, rfl⟩ ?_))
  have := wpAnyQIn_lex (F := Fence.wide) (n := n) (C := fun w' => ∃ n, w' = w.drewN n) (md := .any) hB.1 ls.toArray.toList 0 (Array.replicate ls.toArray.size false) a (by simp) (by simpa using hB.2) (by simpa using h)
  simpa using this
end
macro "rq_quiet " "(" tac:tactic ")" : tactic => `(tactic|
  (refine quiet_round (calm_of (by kernel_rfl)) (by kernel_rfl) (by kernel_rfl) ?_
   repeat (gi_big_quiet_step ($tac:tactic))
   refine wpQuietIn_nil ?_
   intro _ hw'
   obtain ⟨$(Lean.mkIdent `nq):ident, hw''⟩ := hw'
   subst hw''))
end Go.Proofs.Ytagjnjdaookdgaa.H
