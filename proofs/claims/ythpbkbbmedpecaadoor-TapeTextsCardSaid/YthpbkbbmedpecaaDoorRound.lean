/- In a round of a loop over an iterator, the widest fence: a region that draws its order and only reads, by one walk of its lexical order. No program is named. -/
import Derived.Test.YthpbkbbmedpecaaDoorTail
import Derived.RangeFuncCalls
import Derived.RangeFuncLeaves
import Derived.TacticsIn
import Derived.RegionIn
set_option linter.unusedSimpArgs false
set_option linter.unusedVariables false
namespace Go.Proofs.YthpbkbbmedpecaaDoor
open Go.RowKit

/-- No operation defers a call. -/
def noDefer (l : List Oper) : Bool := l.all fun o => match o.op with | .defer _ => false | _ => true
theorem noDefer_spec {l : List Oper} (h : noDefer l = true) (i : Nat) (o : Oper) (ho : l.toArray[i]? = some o) : ∀ c, o.op ≠ .defer c := by
  intro c hc
  rw [List.getElem?_toArray] at ho
  have := List.all_eq_true.1 h o (List.mem_of_getElem? ho)
  rw [hc] at this
  cases this
section
variable {P : Program} {r n : Nat} {C : World → Prop}
theorem round_oper {o : Oper} {a : Act} {K : Act → Prop} {K' : Act → World → Prop} {Q' : Exit → Act → World → Prop} {w : World} (hd : ∀ c, o.op ≠ .defer c) (hw : C w) (h : ∀ a w', C w' → K a → K' a w') (hh : o.quiet P a C K) :
    o.wpIn (Fence.wide.inRound r) n P a w K' Q' := by
  obtain ⟨v, h1, h2⟩ := hh
  have h3 := h1 w hw
  refine ⟨fun _ _ => trivial, ?_⟩
  rw [Fence.inRound_round, Oper.semAt_some r _ _ hd]
  unfold Oper.quietAt at h3
  cases hr : (execOp a.eval o).run P w with
  | ok x w' =>
    rw [hr] at h3
    cases x with
    | value u => obtain ⟨rfl, rfl⟩ := h3; exact h _ _ hw h2
    | skip => obtain ⟨rfl, rfl⟩ := h3; exact h _ _ hw h2
    | enter f args =>
      obtain ⟨rfl, hc⟩ := h3
      refine ⟨fun hf => by simp [Fence.wide] at hf, ?_⟩
      exact CallsIn.inRound r ((callsIn_wide.2 hc).mono fun e w'' ⟨he, hw''⟩ => by subst he; exact h _ _ hw'' h2)
    | _ => exact h3.elim
  | halt x w' => rw [hr] at h3; exact h3.elim
theorem round_any {l : List Oper} {md : Region.Mode} {Q : Act → Prop} {Q' : Exit → Act → World → Prop} (hd : noDefer l = true) (hQ : ∀ a w, C w → Q a → Q' .normal a w) : ∀ (fuel : Nat) (listed : Array Bool) (a : Act) (w : World), C w →
    wpAnyQ P md l.toArray C Q fuel listed a → wpAnyIn (Fence.wide.inRound r) n P md l.toArray Q' fuel listed a w := by
  intro fuel
  induction fuel with
  | zero => intro listed a w hw h; exact ⟨h.1, hQ _ _ hw h.2⟩
  | succ fuel ih =>
    intro listed a w hw h
    refine ⟨fun h0 => hQ _ _ hw (h.1 h0), fun i hi => ?_⟩
    have h2 := h.2 i hi
    unfold qOp at h2
    unfold wpOpIn
    cases ho : l.toArray[i]? with
    | none => rw [ho] at h2; exact ih _ _ _ hw h2
    | some o =>
      rw [ho] at h2
      by_cases hwa : Region.wanted o (yielded l.toArray a.tmps) = true
      · simp only [hwa, if_true] at h2 ⊢
        exact round_oper (noDefer_spec hd i o ho) hw (fun a' w' hw' h' => ih _ a' w' hw' h') h2
      · simp only [hwa] at h2 ⊢
        exact ⟨fun _ _ => trivial, ih _ _ _ hw h2⟩
theorem wpIn_round_quiet {l : List Oper} {id : Nat} {Q : Exit → Act → World → Prop} {a : Act} {w : World} (hd : noDefer l = true) (hm : P.follows .mixedOrders = true) (hB : Region.lexB .any l.toArray = true) (hC : C w.drew)
    (h : wpQuiet P l.toArray C (fun a' => ∀ w', C w' → Q .normal a' w') l a) : (Code.region id l.toArray true).wpIn (Fence.wide.inRound r) n P Q a w := by
  simp only [Region.lexB, Bool.and_eq_true] at hB
  refine wpIn_region_any hm (round_any (C := C) (Q := fun a' => ∀ w', C w' → Q .normal a' w') hd (fun _ w' hw' h => h w' hw') _ _ _ _ hC ?_)
  have := wpAnyQ_lex (C := C) (md := .any) hB.1 l 0 (Array.replicate l.toArray.size false) a (by simp) (by simpa using hB.2) h
  simpa using this
theorem wpIn_round_later {l : List Oper} {id : Nat} {Q : Exit → Act → World → Prop} {a : Act} {w : World} (hd : noDefer l = true) (hm : P.follows .mixedOrders = true) (hB : Region.lexB .any l.toArray = true)
    (h : wpQuiet P l.toArray (fun W => ∃ x : Later w, W = x.val) (fun a' => ∀ w', Below w.heap.size w w' → Q .normal a' w') l a) : (Code.region id l.toArray true).wpIn (Fence.wide.inRound r) n P Q a w :=
  wpIn_round_quiet (C := fun W => ∃ x : Later w, W = x.val) hd hm hB ⟨⟨_, (Below.refl _ w).drew⟩, rfl⟩ (by
    have e : (fun a' => ∀ w', Below w.heap.size w w' → Q .normal a' w') = (fun a' => ∀ w', (∃ x : Later w, w' = x.val) → Q .normal a' w') := by
      funext a'
      exact propext ⟨fun h w' ⟨x, hx⟩ => hx ▸ h x.val x.h, fun h w' hb => h _ ⟨⟨w', hb⟩, rfl⟩⟩
    rw [← e]
    exact h)
theorem wpIn_round_same {l : List Oper} {id : Nat} {Q : Exit → Act → World → Prop} {a : Act} {w : World} (hd : noDefer l = true) (hm : P.follows .mixedOrders = true) (hB : Region.lexB .any l.toArray = true)
    (h : wpQuiet P l.toArray (fun W => ∃ x : Same w.drew, W = x.val) (fun a' => Q .normal a' w.drew) l a) : (Code.region id l.toArray true).wpIn (Fence.wide.inRound r) n P Q a w :=
  wpIn_round_quiet (C := fun W => ∃ x : Same w.drew, W = x.val) hd hm hB ⟨⟨_, rfl⟩, rfl⟩ (by
    have e : (fun a' => Q .normal a' w.drew) = (fun a' => ∀ w', (∃ x : Same w.drew, w' = x.val) → Q .normal a' w') := by
      funext a'
      exact propext ⟨fun h w' ⟨x, hx⟩ => by rw [hx, x.h]; exact h, fun h => h _ ⟨⟨w.drew, rfl⟩, rfl⟩⟩
    rw [← e]
    exact h)
end
end Go.Proofs.YthpbkbbmedpecaaDoor
