/- Mix in a round of a loop over an iterator. No program is named. -/
import Derived.Test.YtloogollfconpaaMix
import Derived.Test.YtloogollfconpaaRound
set_option linter.unusedSimpArgs false
set_option linter.unusedVariables false
namespace Go.Proofs.Ytloogollfconpaa
open Go.RowKit

section
variable {P : Program} {md : Region.Mode} {ops : Array Oper} {C : World → Prop} {r n : Nat}
theorem rowsIn_wide {m : Nat} {row : String} {args : Array Value} {w : World} {R : Value → World → Prop} (h : Rows P row args w R) : RowsIn (Fence.wide.inRound r) m P row args w R :=
  fun c cs _ => let ⟨v, w', q, s⟩ := h c cs; ⟨v, w', q, stepsIn_wide.2 s⟩
theorem oper_round {o : Oper} {a : Act} {w : World} {K K' : Act → World → Prop} {Q : Exit → Act → World → Prop} (hd : ∀ c, o.op ≠ .defer c) (hK : ∀ a w, K a w → K' a w) (h : Oper.wp P o a w K Qz) : o.wpIn (Fence.wide.inRound r) n P a w K' Q := by
  refine ⟨fun _ _ => trivial, ?_⟩
  rw [Fence.inRound_round, Oper.semAt_some r _ _ hd]
  unfold Oper.wp at h
  generalize (execOp a.eval o).run P w = q at *
  cases q with
  | ok x w' =>
    cases x with
    | value u => exact hK _ _ h
    | skip => exact hK _ _ h
    | defer d => exact hK _ _ h
    | enter f args =>
      refine ⟨fun hf => by simp [Fence.wide] at hf, ?_⟩
      exact CallsIn.inRound r ((callsIn_wide.2 h).mono fun e w'' he => by
        cases e with
        | returned v => exact hK _ _ he
        | panicked c => exact absurd he (by simp [Qz])
        | outgrown => exact letsOut_z Q he)
    | row s args => exact ⟨fun hf => by simp [Fence.wide] at hf, (rowsIn_wide h).mono fun v w'' he => hK _ _ he⟩
    | _ => exact h.elim
  | halt x w' =>
    cases x with
    | panic v => exact absurd h (by simp [Oper.upon, Qz])
    | _ => exact h.elim
theorem wpC_round {l : List Oper} (hg : noGuard l.toArray = true) (hd : noDefer l = true) {Q : Exit → Act → World → Prop} : ∀ (f : Nat) (listed : Array Bool) (a : Act) (w : World), wpC P md l.toArray C Q f listed a w → wpAnyIn (Fence.wide.inRound r) n P md l.toArray Q f listed a w
  | 0, _, _, _, h => h
  | f + 1, listed, a, w, h => ⟨h.1, fun i hi => by
      obtain ⟨o, ho, hw⟩ := h.2 i hi
      unfold wpOpIn
      rw [ho]
      simp only [noGuard_spec hg ho, if_true]
      exact oper_round (noDefer_spec hd i o ho) (fun a' w' hh => wpC_round hg hd f _ a' w' hh.2) hw⟩
theorem wpIn_round_mix {id : Nat} {Q : Exit → Act → World → Prop} {a : Act} {w : World} {l : List Oper} (hm : P.follows .mixedOrders = true) (hg : noGuard l.toArray = true) (hd : noDefer l = true)
    (h : wpC P .any l.toArray (fun W => ∃ x : Later w, W = x.val) Q l.length (Array.replicate l.length false) a w.drew) : (Code.region id l.toArray true).wpIn (Fence.wide.inRound r) n P Q a w :=
  wpIn_region_any hm (wpC_round hg hd _ _ _ _ (by simpa using h))
end
end Go.Proofs.Ytloogollfconpaa
