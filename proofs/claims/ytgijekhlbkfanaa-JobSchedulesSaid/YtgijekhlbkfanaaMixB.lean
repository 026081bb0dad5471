/- Mix, with the built-in functions max and min among the plain operations. No program is named. -/
import Derived.Test.YtgijekhlbkfanaaMix
set_option linter.unusedSimpArgs false
set_option linter.unusedVariables false
namespace Go.Proofs.Ytgijekhlbkfanaa
open Go.RowKit

section
variable {P : Program} {md : Region.Mode} {ops : Array Oper} {C : World → Prop}

def plainOp2 (o : Op) : Bool := plainOp o || match o with
  | .call c => match c.callee with
    | .builtin .max => true
    | _ => false
  | _ => false
theorem plain_ne2 {o : Oper} (h : plainOp2 o.op = true) (ρ : Operand → Value) (w w' : World) (f : FuncId) (args : Array Value) : (execOp ρ o).run P w ≠ .ok (.enter f args) w' := by
  unfold plainOp2 at h
  rw [Bool.or_eq_true] at h
  rcases h with h | h
  · exact plain_ne h ρ w w' f args
  · split at h
    · rename_i c hop
      split at h
      · rename_i hc
        unfold execOp
        simp only [hop, resolve, hc, pure_bind, invoke, builtin]
        exact seq_ne
      · cases h
    · cases h
theorem plain_same2 {o : Oper} (h : plainOp2 o.op = true) (hg : noGuard ops = true) {i : Nat} (hi : ops[i]? = some o) {v : Value} (w : World) (hw : C w) (a : Act) (hy : YieldsIn P ops C o v a) : Oper.wp P o a w (fun a' w' => a' = a.put o.dst v ∧ w' = w) Qz := by
  rcases hy with ⟨-, h2⟩ | ⟨h2, -⟩
  · have h3 := h2 w hw
    have h4 := plain_ne2 (P := P) h a.eval w
    unfold Oper.quietAt at h3
    unfold Oper.wp
    generalize (execOp a.eval o).run P w = r at *
    cases r with
    | ok n w' =>
      cases n <;> simp only [Oper.quietUpon] at h3 <;> simp only [Oper.upon]
      case value u => exact ⟨by rw [h3.2], h3.1⟩
      case skip => exact ⟨by rw [h3.2], h3.1⟩
      case enter f args => exact absurd rfl (h4 w' f args)
    | halt x w' => simp only [Oper.quietUpon] at h3
  · rw [noGuard_spec hg hi] at h2; cases h2
/-- Which operations are taken first, in this order. -/
def takeB2 (md : Region.Mode) (ops : Array Oper) : List Nat → Array Bool → Bool
  | [], _ => true
  | i :: is, listed => ((ops[i]?).map (fun o => plainOp2 o.op)).getD false && ((Region.ready md ops listed).contains i && (Region.free md ops listed i && takeB2 md ops is (listed.setIfInBounds i true)))
theorem wpC_take2 (hg : noGuard ops = true) (hs : Region.noSelect ops = true) {Q : Exit → Act → World → Prop} {f : Nat} {w : World} (hw : C w) : ∀ (is : List Nat) (listed : Array Bool) (a : Act), takeB2 md ops is listed = true →
    wpQuiet P ops C (fun a' => wpC P md ops C Q f (setAll is listed) a' w) (is.map fun i => ops[i]?.getD { dst := none, op := .move (.tmp 0), type := 0, pos := "", after := #[], guard := none }) a → wpC P md ops C Q (f + is.length) listed a w
  | [], _, _, _, h => h
  | i :: is, listed, a, hb, h => by
    simp only [takeB2, Bool.and_eq_true] at hb
    obtain ⟨h1, h2, h3, h4⟩ := hb
    cases ho : ops[i]? with
    | none => rw [ho] at h1; cases h1
    | some o =>
      rw [ho] at h1
      have hp : plainOp2 o.op = true := by simpa using h1
      have hq : qOp P ops C i (fun a' => wpQuiet P ops C (fun a' => wpC P md ops C Q f (setAll is (listed.setIfInBounds i true)) a' w) (is.map fun i => ops[i]?.getD { dst := none, op := .move (.tmp 0), type := 0, pos := "", after := #[], guard := none }) a') a := by
        unfold qOp
        rw [List.map_cons, ho] at h
        simp only [ho]
        exact h
      obtain ⟨v, hy, hK⟩ := yieldsIn_of_qOp ho hq
      rw [show f + (i :: is).length = (f + is.length) + 1 by simp; omega]
      exact wpC_first hg hs ho (fun w hw a hy => plain_same2 hp hg ho w hw a hy) (f + is.length) listed a w hw (Region.free_spec ho h3) (by simpa using h2) hy (wpC_take2 hg hs hw is _ _ h4 hK)
end
end Go.Proofs.Ytgijekhlbkfanaa
