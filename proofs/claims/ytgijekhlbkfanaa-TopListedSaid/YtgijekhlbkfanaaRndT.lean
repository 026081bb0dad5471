/- In a round of a loop over an iterator: a region that draws its order, whose operation number k waits for all that stand ahead of it and which goes in order from there on. No program is named. -/
import Derived.Test.YtgijekhlbkfanaaMixR
set_option linter.unusedSimpArgs false
set_option linter.unusedVariables false
namespace Go.Proofs.Ytgijekhlbkfanaa
open Go.RowKit

section
variable {P : Program} {md : Region.Mode} {r n : Nat}
/-- Only the normal end. -/
def Qn (Q : Exit → Act → World → Prop) : Exit → Act → World → Prop := fun e a w => e = .normal ∧ Q .normal a w
theorem letsOut_n {Q : Exit → Act → World → Prop} (h : LetsOut (Qn Q)) : LetsOut Qz := by
  unfold LetsOut at *
  exact absurd h (by simp [Qn])
theorem wp_zn {o : Oper} {a : Act} {w : World} {K : Act → World → Prop} {Q : Exit → Act → World → Prop} (h : Oper.wp P o a w K (Qn Q)) : Oper.wp P o a w K Qz := by
  unfold Oper.wp at *
  generalize (execOp a.eval o).run P w = r at *
  cases r with
  | ok n w' =>
    cases n <;> simp only [Oper.upon] at h ⊢
    case value u => exact h
    case skip => exact h
    case defer d => exact h
    case enter f args =>
      refine Calls.mono h fun e w'' he => ?_
      cases e with
      | returned u => exact he
      | panicked c => exact absurd he (by simp [Qn])
      | outgrown => exact letsOut_n he
    case row row args => exact h
  | halt x w' =>
    cases x <;> simp only [Oper.upon] at h ⊢
    case panic u => exact absurd h (by simp [Qn])
theorem wpAny_round {l : List Oper} (hg : noGuard l.toArray = true) (hd : noDefer l = true) {Q : Exit → Act → World → Prop} : ∀ (f : Nat) (listed : Array Bool) (a : Act) (w : World), wpAny P md l.toArray (Qn Q) f listed a w → wpAnyIn (Fence.wide.inRound r) n P md l.toArray Q f listed a w
  | 0, _, _, _, h => ⟨h.1, h.2.2⟩
  | f + 1, listed, a, w, h => ⟨fun h0 => (h.1 h0).2, fun i hi => by
      have hw := h.2 i hi
      unfold wpOp at hw
      unfold wpOpIn
      cases ho : l.toArray[i]? with
      | none => rw [ho] at hw; exact wpAny_round hg hd f _ a w hw
      | some o =>
        rw [ho] at hw
        simp only [noGuard_spec hg ho, if_true] at hw ⊢
        rcases hw with hw | ⟨-, hw⟩
        · exact oper_round (noDefer_spec hd i o ho) (fun a' w' hh => wpAny_round hg hd f _ a' w' hh) (wp_zn hw)
        · unfold LetsOut at hw; exact absurd hw (by simp [Qn])⟩
theorem wpIn_round_tail {id : Nat} {Q : Exit → Act → World → Prop} {a : Act} {w : World} {l : List Oper} (k : Nat) (hm : P.follows .mixedOrders = true) (hg : noGuard l.toArray = true) (hd : noDefer l = true) (hB : Region.lexTailB .any l.toArray k = true)
    (h : wpQuiet P l.toArray (fun W => ∃ x : Same w.drew, W = x.val) (fun a' => wpList P l.toArray (Qn Q) (l.drop k) a' w.drew) (l.take k) a) : (Code.region id l.toArray true).wpIn (Fence.wide.inRound r) n P Q a w := by
  have h := wpStill_of_quiet _ _ h
  simp only [Region.lexTailB, Bool.and_eq_true, decide_eq_true_eq] at hB
  obtain ⟨⟨⟨⟨hsel, hn⟩, hs⟩, hc⟩, hlex⟩ := hB
  have hn' : k < l.length := by simpa using hn
  have htl : (l.take k).length = k := by simp; omega
  have hdl : (l.drop k).length = l.toArray.size - k := by simp
  have inv0 : HeadInv .any l.toArray k (Array.replicate l.toArray.size false) :=
    ⟨by simp, fun j oj _ hl => (by rw [getD_replicate_false] at hl; cases hl), fun t _ ht => getD_in (by simpa using ht) (getD_replicate_false _ _)⟩
  have H := wpAnyL_lex (md := .any) (g := l.toArray.size - k) hsel hs hc hn (l.take k) 0 _ a (fun j hj => by
    have hj' : j < k := by rw [htl] at hj; exact hj
    simp [hj']) (by simpa using htl) inv0 (by rw [htl]; exact hlex) h
  refine wpIn_region_any hm ?_
  have := wpAny_of_head (Q' := Qn Q) (g := l.toArray.size - k) (fun listed a' hL => by
    have := wpAny_of_seq (md := .any) (Q' := Qn Q) (l.drop k) k listed a' w.drew (fun j => by simp [List.getElem?_drop]) (by rw [hdl]; exact hL.1) hL.2
    rwa [hdl] at this) _ _ _ H
  rw [htl, show k + (l.toArray.size - k) = l.toArray.size by omega] at this
  exact wpAny_round hg hd _ _ _ _ this
end
end Go.Proofs.Ytgijekhlbkfanaa
