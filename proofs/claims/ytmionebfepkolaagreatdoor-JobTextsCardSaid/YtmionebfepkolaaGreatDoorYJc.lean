/- Joined by merge.py from: Tail Mix Round MixR RndT OffB. -/
import Derived.Test.YtmionebfepkolaaGreatDoorLater
import Derived.StillTail
import Derived.StillTailTactics
import Derived.Deep.QuietTactic
import Derived.BigQuiet
import Derived.RangeFuncCalls
import Derived.RangeFuncLeaves
import Derived.TacticsIn
import Derived.RegionIn
import Derived.Laws.AppendOwn
import Derived.OwnWalk
set_option linter.unusedSimpArgs false
set_option linter.unusedVariables false
namespace Go.Proofs.YtmionebfepkolaaGreatDoor
open Go.RowKit

/-- The world w and no other. -/
structure Same (w : World) where
  val : World
  h : val = w
instance sameSome (w : World) : Nonempty (Same w) := ⟨⟨w, rfl⟩⟩
theorem Same.cell {w : World} (x : Same w) (p : Addr) : x.val.cell? p = w.cell? p := by rw [x.h]
theorem same_same {P : Program} {f : FuncId} {args : Array Value} {w : World} {x : Same w} {v : Value}
    (h : Calls P f args x.val fun e w' => e = .returned v ∧ x.val = w') : Calls P f args x.val fun e w'' => e = .returned v ∧ ∃ y : Same w, w'' = y.val :=
  h.mono fun _ _ ⟨he, hb⟩ => ⟨he, x, hb.symm⟩
theorem still_of_quiet {P : Program} {w : World} {o : Oper} {a : Act} {K : Act → Prop} (h : o.quiet P a (fun W => ∃ x : Same w, W = x.val) K) : o.still P a w K := by
  obtain ⟨v, h1, h2⟩ := h
  have h3 := h1 w ⟨⟨w, rfl⟩, rfl⟩
  unfold Oper.quietAt at h3
  unfold Oper.still
  generalize (execOp a.eval o).run P w = r at *
  cases r with
  | ok n w' =>
    cases n <;> simp only [Oper.quietUpon] at h3 <;> simp only [Oper.stillUpon]
    case value u => exact ⟨h3.1, by rw [h3.2]; exact h2⟩
    case skip => exact ⟨h3.1, by rw [← h3.2]; exact h2⟩
    case enter f args => exact ⟨h3.1, v, h3.2.mono fun e w'' ⟨he, y, hy⟩ => ⟨he, by rw [hy, y.h]⟩, h2⟩
  | halt x w' => simp only [Oper.quietUpon] at h3
theorem wpStill_of_quiet {P : Program} {ops : Array Oper} {w : World} {Q : Act → Prop} : ∀ (l : List Oper) (a : Act), wpQuiet P ops (fun W => ∃ x : Same w, W = x.val) Q l a → wpStill P ops w Q l a := by
  intro l
  induction l with
  | nil => intro a h; exact h
  | cons o l ih =>
    intro a h
    unfold wpQuiet at h
    unfold wpStill
    split
    · rename_i hw
      rw [if_pos hw] at h
      exact still_of_quiet (Oper.quiet_mono ih h)
    · rename_i hw
      rw [if_neg hw] at h
      exact ih _ h
theorem wp_region_tail {P : Program} {id : Nat} {Q : Exit → Act → World → Prop} {a : Act} {w : World} {l : List Oper} (n : Nat) (hm : P.follows .mixedOrders = true) (hB : Region.lexTailB .any l.toArray n = true)
    (h : wpQuiet P l.toArray (fun W => ∃ x : Same w.drew, W = x.val) (fun a' => wpList P l.toArray Q (l.drop n) a' w.drew) (l.take n) a) : (Code.region id l.toArray true).wp P Q a w :=
  wp_region_still_tail n hm hB (wpStill_of_quiet _ _ h)
end Go.Proofs.YtmionebfepkolaaGreatDoor

namespace Go.Proofs.YtmionebfepkolaaGreatDoor
open Go.RowKit

section
variable {P : Program} {md : Region.Mode} {ops : Array Oper} {C : World → Prop}

def Qz : Exit → Act → World → Prop := fun _ _ _ => False
theorem letsOut_z (Q : Exit → Act → World → Prop) (h : LetsOut Qz) : LetsOut Q := by
  unfold LetsOut at *
  exact absurd h (by simp [Qz])
/-- Each order, in a class of worlds. -/
def wpC (P : Program) (md : Region.Mode) (ops : Array Oper) (C : World → Prop) (Q : Exit → Act → World → Prop) : Nat → Array Bool → Act → World → Prop
  | 0, listed, a, w => Region.ready md ops listed = [] ∧ Q .normal a w
  | f + 1, listed, a, w => (Region.ready md ops listed = [] → Q .normal a w) ∧
    ∀ i ∈ Region.ready md ops listed, ∃ o, ops[i]? = some o ∧ Oper.wp P o a w (fun a' w' => C w' ∧ wpC P md ops C Q f (listed.setIfInBounds i true) a' w') Qz
theorem wp_z {o : Oper} {a : Act} {w : World} {K K' : Act → World → Prop} {Q : Exit → Act → World → Prop} (hK : ∀ a w, K a w → K' a w) (h : Oper.wp P o a w K Qz) : Oper.wp P o a w K' Q := by
  unfold Oper.wp at *
  generalize (execOp a.eval o).run P w = r at *
  cases r with
  | ok n w' =>
    cases n <;> simp only [Oper.upon] at h ⊢
    case value u => exact hK _ _ h
    case skip => exact hK _ _ h
    case defer d => exact hK _ _ h
    case enter f args =>
      refine Calls.mono h fun e w'' he => ?_
      cases e with
      | returned u => exact hK _ _ he
      | panicked c => exact absurd he (by simp [Qz])
      | outgrown => exact letsOut_z Q he
    case row row args => exact Rows.mono h fun u w'' he => hK _ _ he
  | halt x w' =>
    cases x <;> simp only [Oper.upon] at h ⊢
    case panic u => exact absurd h (by simp [Qz])
def noGuard (ops : Array Oper) : Bool := ops.all fun o => o.guard.isNone
theorem noGuard_spec (h : noGuard ops = true) {i : Nat} {o : Oper} (hi : ops[i]? = some o) (y : Nat → Option Bool) : Region.wanted o y = true := by
  have := Array.all_eq_true_iff_forall_mem.1 h o (Array.mem_of_getElem? hi)
  have hg : o.guard = none := by simpa using this
  unfold Region.wanted; rw [hg]
theorem wpC_any (hg : noGuard ops = true) {Q : Exit → Act → World → Prop} : ∀ (f : Nat) (listed : Array Bool) (a : Act) (w : World), wpC P md ops C Q f listed a w → wpAny P md ops Q f listed a w
  | 0, _, _, _, h => h
  | f + 1, listed, a, w, h => ⟨h.1, fun i hi => by
      obtain ⟨o, ho, hw⟩ := h.2 i hi
      unfold wpOp
      rw [ho]
      simp only [noGuard_spec hg ho, if_true]
      exact .inl (wp_z (fun a' w' hh => wpC_any hg f _ a' w' hh.2) hw)⟩
theorem wp_past {o : Oper} {x : Option Tmp} {v : Value} {a : Act} {w : World} {K : Act → World → Prop} (he : execOp (a.put x v).eval o = execOp a.eval o) (hd : ∀ d, x = some d → o.dst ≠ some d) (h : Oper.wp P o (a.put x v) w K Qz) :
    Oper.wp P o a w (fun a' w' => (∃ u ds, a' = ({ a with defers := ds } : Act).put o.dst u) ∧ K (a'.put x v) w') Qz := by
  unfold Oper.wp at *
  rw [he] at h
  generalize (execOp a.eval o).run P w = r at *
  have e1 : ∀ u, (a.put x v).put o.dst u = (a.put o.dst u).put x v := fun u => Act.put_comm a v u hd
  cases r with
  | ok n w' =>
    cases n <;> simp only [Oper.upon] at h ⊢
    case value u => exact ⟨⟨u, a.defers, rfl⟩, by rw [← e1]; exact h⟩
    case skip => exact ⟨⟨undef, a.defers, rfl⟩, by rw [← e1]; exact h⟩
    case defer d =>
      refine ⟨⟨undef, _, rfl⟩, ?_⟩
      rw [Act.put_defers] at h
      rw [← Act.put_comm _ v undef hd]
      exact h
    case enter f args =>
      refine Calls.mono h fun e w'' he => ?_
      cases e with
      | returned u => exact ⟨⟨u, a.defers, rfl⟩, by rw [← e1]; exact he⟩
      | panicked c => exact he
      | outgrown => exact he
    case row row args => exact Rows.mono h fun u w'' he => ⟨⟨u, a.defers, rfl⟩, by rw [← e1]; exact he⟩
  | halt x w' =>
    cases x <;> simp only [Oper.upon] at h ⊢
    case panic u => exact h
theorem wp_in {o : Oper} {v : Value} {a : Act} {w : World} {K : Act → World → Prop} (hg : noGuard ops = true) {i : Nat} (hi : ops[i]? = some o) (hw : C w) (hy : YieldsIn P ops C o v a) (hK : ∀ w', C w' → K (a.put o.dst v) w') : Oper.wp P o a w K Qz := by
  rcases hy with ⟨-, h⟩ | ⟨h, -⟩
  · exact Oper.wp_of_quiet (C := C) (K := fun a' => a' = a.put o.dst v) hw (fun a' w' hw' e => by rw [e]; exact hK w' hw') ⟨v, h, rfl⟩
  · rw [noGuard_spec hg hi] at h; cases h
/-- The world of the class may change under a quiet operation: what follows is asked in every world that it may leave. -/
theorem wpC_first (hg : noGuard ops = true) (hs : Region.noSelect ops = true) {Q : Exit → Act → World → Prop} {i : Nat} {oi : Oper} {v : Value} (hi : ops[i]? = some oi) (hsame : ∀ w : World, C w → ∀ a, YieldsIn P ops C oi v a → Oper.wp P oi a w (fun a' w' => a' = a.put oi.dst v ∧ w' = w) Qz) :
    ∀ (f : Nat) (listed : Array Bool) (a : Act) (w : World), C w →
      (∀ j oj, ops[j]? = some oj → j ≠ i → listed.getD j true = false → (∀ e ∈ oj.after, Region.binds md e = true → e.on ≠ i) → oi.apart ops oj = true) →
      i ∈ Region.ready md ops listed → YieldsIn P ops C oi v a →
      wpC P md ops C Q f (listed.setIfInBounds i true) (a.put oi.dst v) w → wpC P md ops C Q (f + 1) listed a w := by
  intro f
  induction f with
  | zero =>
    intro listed a w hw _ hr hy H
    refine ⟨(fun h => by rw [h] at hr; cases hr), fun j hj => ?_⟩
    by_cases hji : j = i
    · subst hji
      exact ⟨oi, hi, wp_z (fun a' w' hh => by obtain ⟨e1, e2⟩ := hh; subst e1 e2; exact ⟨hw, H⟩) (hsame w hw a hy)⟩
    · have := ready_mono hj hji
      rw [H.1] at this
      cases this
  | succ f ih =>
    intro listed a w hw hfree hr hy H
    refine ⟨(fun h => by rw [h] at hr; cases hr), fun j hj => ?_⟩
    by_cases hji : j = i
    · subst hji
      exact ⟨oi, hi, wp_z (fun a' w' hh => by obtain ⟨e1, e2⟩ := hh; subst e1 e2; exact ⟨hw, H⟩) (hsame w hw a hy)⟩
    · obtain ⟨oj, hoj, h1⟩ := H.2 j (ready_mono hj hji)
      obtain ⟨hjun, oj', hoj', hall⟩ := mem_ready.1 hj
      have : oj' = oj := Option.some.inj (hoj'.symm.trans hoj)
      subst this
      have hiu := (mem_ready.1 hr).1
      have hnot : ∀ e ∈ oj'.after, Region.binds md e = true → e.on ≠ i := fun e he hb heq => by
        have h2 := hall e he hb
        rw [heq] at h2
        rcases Nat.lt_or_ge i listed.size with h' | h'
        · simp [h'] at hiu h2; rw [hiu] at h2; cases h2
        · simp [Array.getElem?_eq_none h'] at h2
      obtain ⟨p1, p2, p3⟩ := Oper.apart_spec (hfree j oj' hoj hji hjun hnot)
      have hsi := fun cs b => Region.noSelect_spec hs i oi cs b hi
      have hsj := fun cs b => Region.noSelect_spec hs j oj' cs b hoj
      refine ⟨oj', hoj, wp_z ?_ (wp_past (execOp_put oj' hsj a oi.dst v p1) p2 h1)⟩
      rintro a' w' ⟨⟨u, ds, e⟩, hc', hK⟩
      refine ⟨hc', ih (listed.setIfInBounds j true) a' w' hc' ?_ (ready_mono hr (Ne.symm hji)) ?_ ?_⟩
      · intro k ok hk hki hun hno
        refine hfree k ok hk hki ?_ hno
        by_cases hjk : j = k
        · subst hjk; exact hjun
        · rw [getD_set_ne true hjk] at hun; exact hun
      · rw [e]
        refine hy.of_same ?_ ?_
        · exact execOp_put oi hsi ({ a with defers := ds } : Act) oj'.dst u p3
        · exact wanted_put oi ({ a with defers := ds } : Act) oj'.dst u p3
      · rw [Array.setIfInBounds_comm _ _ hji]
        exact hK
/-- Operations that never enter a function. -/
def plainOp : Op → Bool
  | .move _ | .assign _ | .build .. | .load .. | .fieldAddr .. | .indexAddr .. | .binOp .. | .unOp .. | .slice .. | .field .. | .index .. | .extract .. => true
  | _ => false
theorem seq_ne {s : Sem Value} {w w' : World} {f : FuncId} {args : Array Value} : (do pure (Next.value (← s)) : Sem Next).run P w ≠ .ok (.enter f args) w' := by
  intro h
  simp only [Sem.run_bind, Sem.run_pure] at h
  generalize s.run P w = r at h
  cases r <;> simp [Result.andThen] at h
theorem plain_ne {o : Oper} (h : plainOp o.op = true) (ρ : Operand → Value) (w w' : World) (f : FuncId) (args : Array Value) : (execOp ρ o).run P w ≠ .ok (.enter f args) w' := by
  unfold execOp
  cases hop : o.op <;> simp only [hop, plainOp] at h ⊢ <;> first | exact seq_ne | (intro hh; simp at hh; done) | (exact absurd h (by simp))
theorem plain_same {o : Oper} (h : plainOp o.op = true) (hg : noGuard ops = true) {i : Nat} (hi : ops[i]? = some o) {v : Value} (w : World) (hw : C w) (a : Act) (hy : YieldsIn P ops C o v a) : Oper.wp P o a w (fun a' w' => a' = a.put o.dst v ∧ w' = w) Qz := by
  rcases hy with ⟨-, h2⟩ | ⟨h2, -⟩
  · have h3 := h2 w hw
    have h4 := plain_ne (P := P) h a.eval w
    unfold Oper.quietAt at h3
    unfold Oper.wp
    generalize (execOp a.eval o).run P w = r at *
    cases r with
    | ok n w' =>
      cases n <;> simp only [Oper.quietUpon] at h3 <;> simp only [Oper.upon]
      case value u => exact ⟨by rw [h3.2], h3.1⟩
      case skip => exact ⟨by rw [h3.2], h3.1⟩
      case enter f args => exact absurd rfl (h4 w' f args)
    | halt x w' => simp only [Oper.quietUpon] at h3
  · rw [noGuard_spec hg hi] at h2; cases h2
/-- Which operations are taken first, in this order. -/
def takeB (md : Region.Mode) (ops : Array Oper) : List Nat → Array Bool → Bool
  | [], _ => true
  | i :: is, listed => ((ops[i]?).map (fun o => plainOp o.op)).getD false && ((Region.ready md ops listed).contains i && (Region.free md ops listed i && takeB md ops is (listed.setIfInBounds i true)))
def setAll : List Nat → Array Bool → Array Bool
  | [], listed => listed
  | i :: is, listed => setAll is (listed.setIfInBounds i true)
theorem wpC_take (hg : noGuard ops = true) (hs : Region.noSelect ops = true) {Q : Exit → Act → World → Prop} {f : Nat} {w : World} (hw : C w) : ∀ (is : List Nat) (listed : Array Bool) (a : Act), takeB md ops is listed = true →
    wpQuiet P ops C (fun a' => wpC P md ops C Q f (setAll is listed) a' w) (is.map fun i => ops[i]?.getD { dst := none, op := .move (.tmp 0), type := 0, pos := "", after := #[], guard := none }) a → wpC P md ops C Q (f + is.length) listed a w
  | [], _, _, _, h => h
  | i :: is, listed, a, hb, h => by
    simp only [takeB, Bool.and_eq_true] at hb
    obtain ⟨h1, h2, h3, h4⟩ := hb
    cases ho : ops[i]? with
    | none => rw [ho] at h1; cases h1
    | some o =>
      rw [ho] at h1
      have hp : plainOp o.op = true := by simpa using h1
      have hq : qOp P ops C i (fun a' => wpQuiet P ops C (fun a' => wpC P md ops C Q f (setAll is (listed.setIfInBounds i true)) a' w) (is.map fun i => ops[i]?.getD { dst := none, op := .move (.tmp 0), type := 0, pos := "", after := #[], guard := none }) a') a := by
        unfold qOp
        rw [List.map_cons, ho] at h
        simp only [ho]
        exact h
      obtain ⟨v, hy, hK⟩ := yieldsIn_of_qOp ho hq
      rw [show f + (i :: is).length = (f + is.length) + 1 by simp; omega]
      exact wpC_first hg hs ho (fun w hw a hy => plain_same hp hg ho w hw a hy) (f + is.length) listed a w hw (Region.free_spec ho h3) (by simpa using h2) hy (wpC_take hg hs hw is _ _ h4 hK)
theorem wpC_all {Q : Exit → Act → World → Prop} {rs : List Nat} {f : Nat} {listed : Array Bool} {a : Act} {w : World} (hr : Region.ready md ops listed = rs) (hne : rs ≠ [])
    (h : ∀ i ∈ rs, ∃ o, ops[i]? = some o ∧ Oper.wp P o a w (fun a' w' => C w' ∧ wpC P md ops C Q f (listed.setIfInBounds i true) a' w') Qz) : wpC P md ops C Q (f + 1) listed a w :=
  ⟨fun h0 => absurd (hr.symm.trans h0) hne, hr ▸ h⟩
theorem wpC_done {Q : Exit → Act → World → Prop} {listed : Array Bool} {a : Act} {w : World} (hr : Region.ready md ops listed = []) (h : Q .normal a w) : wpC P md ops C Q 0 listed a w := ⟨hr, h⟩
theorem wp_region_mix {id : Nat} {Q : Exit → Act → World → Prop} {a : Act} {w : World} {l : List Oper} (hm : P.follows .mixedOrders = true) (hg : noGuard l.toArray = true)
    (h : wpC P .any l.toArray (fun W => ∃ x : Later w, W = x.val) Q l.length (Array.replicate l.length false) a w.drew) : (Code.region id l.toArray true).wp P Q a w :=
  wp_region_any hm (wpC_any hg _ _ _ _ (by simpa using h))
end
end Go.Proofs.YtmionebfepkolaaGreatDoor

namespace Go.Proofs.YtmionebfepkolaaGreatDoor
open Go.RowKit

/-- No operation defers a call. -/
def noDefer (l : List Oper) : Bool := l.all fun o => match o.op with | .defer _ => false | _ => true
theorem noDefer_spec {l : List Oper} (h : noDefer l = true) (i : Nat) (o : Oper) (ho : l.toArray[i]? = some o) : ∀ c, o.op ≠ .defer c := by
  intro c hc
  rw [List.getElem?_toArray] at ho
  have := List.all_eq_true.1 h o (List.mem_of_getElem? ho)
  rw [hc] at this
  cases this
section
variable {P : Program} {r n : Nat} {C : World → Prop}
theorem round_oper {o : Oper} {a : Act} {K : Act → Prop} {K' : Act → World → Prop} {Q' : Exit → Act → World → Prop} {w : World} (hd : ∀ c, o.op ≠ .defer c) (hw : C w) (h : ∀ a w', C w' → K a → K' a w') (hh : o.quiet P a C K) :
    o.wpIn (Fence.wide.inRound r) n P a w K' Q' := by
  obtain ⟨v, h1, h2⟩ := hh
  have h3 := h1 w hw
  refine ⟨fun _ _ => trivial, ?_⟩
  rw [Fence.inRound_round, Oper.semAt_some r _ _ hd]
  unfold Oper.quietAt at h3
  cases hr : (execOp a.eval o).run P w with
  | ok x w' =>
    rw [hr] at h3
    cases x with
    | value u => obtain ⟨rfl, rfl⟩ := h3; exact h _ _ hw h2
    | skip => obtain ⟨rfl, rfl⟩ := h3; exact h _ _ hw h2
    | enter f args =>
      obtain ⟨rfl, hc⟩ := h3
      refine ⟨fun hf => by simp [Fence.wide] at hf, ?_⟩
      exact CallsIn.inRound r ((callsIn_wide.2 hc).mono fun e w'' ⟨he, hw''⟩ => by subst he; exact h _ _ hw'' h2)
    | _ => exact h3.elim
  | halt x w' => rw [hr] at h3; exact h3.elim
theorem round_any {l : List Oper} {md : Region.Mode} {Q : Act → Prop} {Q' : Exit → Act → World → Prop} (hd : noDefer l = true) (hQ : ∀ a w, C w → Q a → Q' .normal a w) : ∀ (fuel : Nat) (listed : Array Bool) (a : Act) (w : World), C w →
    wpAnyQ P md l.toArray C Q fuel listed a → wpAnyIn (Fence.wide.inRound r) n P md l.toArray Q' fuel listed a w := by
  intro fuel
  induction fuel with
  | zero => intro listed a w hw h; exact ⟨h.1, hQ _ _ hw h.2⟩
  | succ fuel ih =>
    intro listed a w hw h
    refine ⟨fun h0 => hQ _ _ hw (h.1 h0), fun i hi => ?_⟩
    have h2 := h.2 i hi
    unfold qOp at h2
    unfold wpOpIn
    cases ho : l.toArray[i]? with
    | none => rw [ho] at h2; exact ih _ _ _ hw h2
    | some o =>
      rw [ho] at h2
      by_cases hwa : Region.wanted o (yielded l.toArray a.tmps) = true
      · simp only [hwa, if_true] at h2 ⊢
        exact round_oper (noDefer_spec hd i o ho) hw (fun a' w' hw' h' => ih _ a' w' hw' h') h2
      · simp only [hwa] at h2 ⊢
        exact ⟨fun _ _ => trivial, ih _ _ _ hw h2⟩
theorem wpIn_round_quiet {l : List Oper} {id : Nat} {Q : Exit → Act → World → Prop} {a : Act} {w : World} (hd : noDefer l = true) (hm : P.follows .mixedOrders = true) (hB : Region.lexB .any l.toArray = true) (hC : C w.drew)
    (h : wpQuiet P l.toArray C (fun a' => ∀ w', C w' → Q .normal a' w') l a) : (Code.region id l.toArray true).wpIn (Fence.wide.inRound r) n P Q a w := by
  simp only [Region.lexB, Bool.and_eq_true] at hB
  refine wpIn_region_any hm (round_any (C := C) (Q := fun a' => ∀ w', C w' → Q .normal a' w') hd (fun _ w' hw' h => h w' hw') _ _ _ _ hC ?_)
  have := wpAnyQ_lex (C := C) (md := .any) hB.1 l 0 (Array.replicate l.toArray.size false) a (by simp) (by simpa using hB.2) h
  simpa using this
theorem wpIn_round_later {l : List Oper} {id : Nat} {Q : Exit → Act → World → Prop} {a : Act} {w : World} (hd : noDefer l = true) (hm : P.follows .mixedOrders = true) (hB : Region.lexB .any l.toArray = true)
    (h : wpQuiet P l.toArray (fun W => ∃ x : Later w, W = x.val) (fun a' => ∀ w', Below w.heap.size w w' → Q .normal a' w') l a) : (Code.region id l.toArray true).wpIn (Fence.wide.inRound r) n P Q a w :=
  wpIn_round_quiet (C := fun W => ∃ x : Later w, W = x.val) hd hm hB ⟨⟨_, (Below.refl _ w).drew⟩, rfl⟩ (by
    have e : (fun a' => ∀ w', Below w.heap.size w w' → Q .normal a' w') = (fun a' => ∀ w', (∃ x : Later w, w' = x.val) → Q .normal a' w') := by
      funext a'
      exact propext ⟨fun h w' ⟨x, hx⟩ => hx ▸ h x.val x.h, fun h w' hb => h _ ⟨⟨w', hb⟩, rfl⟩⟩
    rw [← e]
    exact h)
theorem wpIn_round_same {l : List Oper} {id : Nat} {Q : Exit → Act → World → Prop} {a : Act} {w : World} (hd : noDefer l = true) (hm : P.follows .mixedOrders = true) (hB : Region.lexB .any l.toArray = true)
    (h : wpQuiet P l.toArray (fun W => ∃ x : Same w.drew, W = x.val) (fun a' => Q .normal a' w.drew) l a) : (Code.region id l.toArray true).wpIn (Fence.wide.inRound r) n P Q a w :=
  wpIn_round_quiet (C := fun W => ∃ x : Same w.drew, W = x.val) hd hm hB ⟨⟨_, rfl⟩, rfl⟩ (by
    have e : (fun a' => Q .normal a' w.drew) = (fun a' => ∀ w', (∃ x : Same w.drew, w' = x.val) → Q .normal a' w') := by
      funext a'
      exact propext ⟨fun h w' ⟨x, hx⟩ => by rw [hx, x.h]; exact h, fun h => h _ ⟨⟨w.drew, rfl⟩, rfl⟩⟩
    rw [← e]
    exact h)
end
end Go.Proofs.YtmionebfepkolaaGreatDoor

namespace Go.Proofs.YtmionebfepkolaaGreatDoor
open Go.RowKit

section
variable {P : Program} {md : Region.Mode} {ops : Array Oper} {C : World → Prop} {r n : Nat}
theorem rowsIn_wide {m : Nat} {row : String} {args : Array Value} {w : World} {R : Value → World → Prop} (h : Rows P row args w R) : RowsIn (Fence.wide.inRound r) m P row args w R :=
  fun c cs _ => let ⟨v, w', q, s⟩ := h c cs; ⟨v, w', q, stepsIn_wide.2 s⟩
theorem oper_round {o : Oper} {a : Act} {w : World} {K K' : Act → World → Prop} {Q : Exit → Act → World → Prop} (hd : ∀ c, o.op ≠ .defer c) (hK : ∀ a w, K a w → K' a w) (h : Oper.wp P o a w K Qz) : o.wpIn (Fence.wide.inRound r) n P a w K' Q := by
  refine ⟨fun _ _ => trivial, ?_⟩
  rw [Fence.inRound_round, Oper.semAt_some r _ _ hd]
  unfold Oper.wp at h
  generalize (execOp a.eval o).run P w = q at *
  cases q with
  | ok x w' =>
    cases x with
    | value u => exact hK _ _ h
    | skip => exact hK _ _ h
    | defer d => exact hK _ _ h
    | enter f args =>
      refine ⟨fun hf => by simp [Fence.wide] at hf, ?_⟩
      exact CallsIn.inRound r ((callsIn_wide.2 h).mono fun e w'' he => by
        cases e with
        | returned v => exact hK _ _ he
        | panicked c => exact absurd he (by simp [Qz])
        | outgrown => exact letsOut_z Q he)
    | row s args => exact ⟨fun hf => by simp [Fence.wide] at hf, (rowsIn_wide h).mono fun v w'' he => hK _ _ he⟩
    | _ => exact h.elim
  | halt x w' =>
    cases x with
    | panic v => exact absurd h (by simp [Oper.upon, Qz])
    | _ => exact h.elim
theorem wpC_round {l : List Oper} (hg : noGuard l.toArray = true) (hd : noDefer l = true) {Q : Exit → Act → World → Prop} : ∀ (f : Nat) (listed : Array Bool) (a : Act) (w : World), wpC P md l.toArray C Q f listed a w → wpAnyIn (Fence.wide.inRound r) n P md l.toArray Q f listed a w
  | 0, _, _, _, h => h
  | f + 1, listed, a, w, h => ⟨h.1, fun i hi => by
      obtain ⟨o, ho, hw⟩ := h.2 i hi
      unfold wpOpIn
      rw [ho]
      simp only [noGuard_spec hg ho, if_true]
      exact oper_round (noDefer_spec hd i o ho) (fun a' w' hh => wpC_round hg hd f _ a' w' hh.2) hw⟩
theorem wpIn_round_mix {id : Nat} {Q : Exit → Act → World → Prop} {a : Act} {w : World} {l : List Oper} (hm : P.follows .mixedOrders = true) (hg : noGuard l.toArray = true) (hd : noDefer l = true)
    (h : wpC P .any l.toArray (fun W => ∃ x : Later w, W = x.val) Q l.length (Array.replicate l.length false) a w.drew) : (Code.region id l.toArray true).wpIn (Fence.wide.inRound r) n P Q a w :=
  wpIn_region_any hm (wpC_round hg hd _ _ _ _ (by simpa using h))
end
end Go.Proofs.YtmionebfepkolaaGreatDoor

namespace Go.Proofs.YtmionebfepkolaaGreatDoor
open Go.RowKit

section
variable {P : Program} {md : Region.Mode} {r n : Nat}
/-- Only the normal end. -/
def Qn (Q : Exit → Act → World → Prop) : Exit → Act → World → Prop := fun e a w => e = .normal ∧ Q .normal a w
theorem letsOut_n {Q : Exit → Act → World → Prop} (h : LetsOut (Qn Q)) : LetsOut Qz := by
  unfold LetsOut at *
  exact absurd h (by simp [Qn])
theorem wp_zn {o : Oper} {a : Act} {w : World} {K : Act → World → Prop} {Q : Exit → Act → World → Prop} (h : Oper.wp P o a w K (Qn Q)) : Oper.wp P o a w K Qz := by
  unfold Oper.wp at *
  generalize (execOp a.eval o).run P w = r at *
  cases r with
  | ok n w' =>
    cases n <;> simp only [Oper.upon] at h ⊢
    case value u => exact h
    case skip => exact h
    case defer d => exact h
    case enter f args =>
      refine Calls.mono h fun e w'' he => ?_
      cases e with
      | returned u => exact he
      | panicked c => exact absurd he (by simp [Qn])
      | outgrown => exact letsOut_n he
    case row row args => exact h
  | halt x w' =>
    cases x <;> simp only [Oper.upon] at h ⊢
    case panic u => exact absurd h (by simp [Qn])
theorem wpAny_round {l : List Oper} (hg : noGuard l.toArray = true) (hd : noDefer l = true) {Q : Exit → Act → World → Prop} : ∀ (f : Nat) (listed : Array Bool) (a : Act) (w : World), wpAny P md l.toArray (Qn Q) f listed a w → wpAnyIn (Fence.wide.inRound r) n P md l.toArray Q f listed a w
  | 0, _, _, _, h => ⟨h.1, h.2.2⟩
  | f + 1, listed, a, w, h => ⟨fun h0 => (h.1 h0).2, fun i hi => by
      have hw := h.2 i hi
      unfold wpOp at hw
      unfold wpOpIn
      cases ho : l.toArray[i]? with
      | none => rw [ho] at hw; exact wpAny_round hg hd f _ a w hw
      | some o =>
        rw [ho] at hw
        simp only [noGuard_spec hg ho, if_true] at hw ⊢
        rcases hw with hw | ⟨-, hw⟩
        · exact oper_round (noDefer_spec hd i o ho) (fun a' w' hh => wpAny_round hg hd f _ a' w' hh) (wp_zn hw)
        · unfold LetsOut at hw; exact absurd hw (by simp [Qn])⟩
theorem wpIn_round_tail {id : Nat} {Q : Exit → Act → World → Prop} {a : Act} {w : World} {l : List Oper} (k : Nat) (hm : P.follows .mixedOrders = true) (hg : noGuard l.toArray = true) (hd : noDefer l = true) (hB : Region.lexTailB .any l.toArray k = true)
    (h : wpQuiet P l.toArray (fun W => ∃ x : Same w.drew, W = x.val) (fun a' => wpList P l.toArray (Qn Q) (l.drop k) a' w.drew) (l.take k) a) : (Code.region id l.toArray true).wpIn (Fence.wide.inRound r) n P Q a w := by
  have h := wpStill_of_quiet _ _ h
  simp only [Region.lexTailB, Bool.and_eq_true, decide_eq_true_eq] at hB
  obtain ⟨⟨⟨⟨hsel, hn⟩, hs⟩, hc⟩, hlex⟩ := hB
  have hn' : k < l.length := by simpa using hn
  have htl : (l.take k).length = k := by simp; omega
  have hdl : (l.drop k).length = l.toArray.size - k := by simp
  have inv0 : HeadInv .any l.toArray k (Array.replicate l.toArray.size false) :=
    ⟨by simp, fun j oj _ hl => (by rw [getD_replicate_false] at hl; cases hl), fun t _ ht => getD_in (by simpa using ht) (getD_replicate_false _ _)⟩
  have H := wpAnyL_lex (md := .any) (g := l.toArray.size - k) hsel hs hc hn (l.take k) 0 _ a (fun j hj => by
    have hj' : j < k := by rw [htl] at hj; exact hj
    simp [hj']) (by simpa using htl) inv0 (by rw [htl]; exact hlex) h
  refine wpIn_region_any hm ?_
  have := wpAny_of_head (Q' := Qn Q) (g := l.toArray.size - k) (fun listed a' hL => by
    have := wpAny_of_seq (md := .any) (Q' := Qn Q) (l.drop k) k listed a' w.drew (fun j => by simp [List.getElem?_drop]) (by rw [hdl]; exact hL.1) hL.2
    rwa [hdl] at this) _ _ _ H
  rw [htl, show k + (l.toArray.size - k) = l.toArray.size by omega] at this
  exact wpAny_round hg hd _ _ _ _ this
end
end Go.Proofs.YtmionebfepkolaaGreatDoor

namespace Go.Proofs.YtmionebfepkolaaGreatDoor
open Go.RowKit

structure OffB (w : World) (ob : Option Nat) where
  val : World
  h : w.grownBy val ob
instance offbSome (w : World) (ob : Option Nat) : Nonempty (OffB w ob) := ⟨⟨w, World.grownBy.refl _ _⟩⟩
theorem OffB.cell {w : World} {ob : Option Nat} (x : OffB w ob) (b o : Nat) (hb : b < w.heap.size) (hne : some b ≠ ob) : x.val.cell? ⟨b, o, none⟩ = w.cell? ⟨b, o, none⟩ := by
  have := x.h.block b hb hne
  simp [World.cell?, this]
theorem grown_drew {w W : World} {ob : Option Nat} (h : w.grownBy W ob) : w.grownBy W.drew ob := ⟨h.os, h.tape, h.output, h.size, h.block⟩
theorem grown_of_below {w W : World} (h : Below w.heap.size w W) (ob : Option Nat) : w.grownBy W ob := ⟨h.os, h.tape, h.output, h.size, fun k hk _ => h.block k hk⟩
theorem grown_trans {w W W' : World} {ob : Option Nat} (h : w.grownBy W ob) (k : W.grownBy W' ob) : w.grownBy W' ob :=
  ⟨k.os.trans h.os, k.tape.trans h.tape, k.output.trans h.output, Nat.le_trans h.size k.size, fun j hj hne => (k.block j (Nat.lt_of_lt_of_le hj h.size) hne).trans (h.block j hj hne)⟩
theorem wp_region_offb {P : Program} {id : Nat} {Q : Exit → Act → World → Prop} {a : Act} {w : World} {l : List Oper} (ob : Option Nat) (hm : P.follows .mixedOrders = true) (hg : noGuard l.toArray = true)
    (h : wpC P .any l.toArray (fun W => ∃ x : OffB w ob, W = x.val) Q l.length (Array.replicate l.length false) a w.drew) : (Code.region id l.toArray true).wp P Q a w :=
  wp_region_any hm (wpC_any hg _ _ _ _ (by simpa using h))
end Go.Proofs.YtmionebfepkolaaGreatDoor
