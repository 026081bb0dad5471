/- A region that draws its order: what is quiet in a class of worlds may be taken first, wherever it stands; all other operations in each order. No program is named. -/
import Derived.Test.YthpbkbbmedpecaaDoorTail
import Derived.Deep.QuietTactic
import Derived.BigQuiet
set_option linter.unusedSimpArgs false
set_option linter.unusedVariables false
namespace Go.Proofs.YthpbkbbmedpecaaDoor
open Go.RowKit

section
variable {P : Program} {md : Region.Mode} {ops : Array Oper} {C : World → Prop}

def Qz : Exit → Act → World → Prop := fun _ _ _ => False
theorem letsOut_z (Q : Exit → Act → World → Prop) (h : LetsOut Qz) : LetsOut Q := by
  unfold LetsOut at *
  exact absurd h (by simp [Qz])
/-- Each order, in a class of worlds. -/
def wpC (P : Program) (md : Region.Mode) (ops : Array Oper) (C : World → Prop) (Q : Exit → Act → World → Prop) : Nat → Array Bool → Act → World → Prop
  | 0, listed, a, w => Region.ready md ops listed = [] ∧ Q .normal a w
  | f + 1, listed, a, w => (Region.ready md ops listed = [] → Q .normal a w) ∧
    ∀ i ∈ Region.ready md ops listed, ∃ o, ops[i]? = some o ∧ Oper.wp P o a w (fun a' w' => C w' ∧ wpC P md ops C Q f (listed.setIfInBounds i true) a' w') Qz
theorem wp_z {o : Oper} {a : Act} {w : World} {K K' : Act → World → Prop} {Q : Exit → Act → World → Prop} (hK : ∀ a w, K a w → K' a w) (h : Oper.wp P o a w K Qz) : Oper.wp P o a w K' Q := by
  unfold Oper.wp at *
  generalize (execOp a.eval o).run P w = r at *
  cases r with
  | ok n w' =>
    cases n <;> simp only [Oper.upon] at h ⊢
    case value u => exact hK _ _ h
    case skip => exact hK _ _ h
    case defer d => exact hK _ _ h
    case enter f args =>
      refine Calls.mono h fun e w'' he => ?_
      cases e with
      | returned u => exact hK _ _ he
      | panicked c => exact absurd he (by simp [Qz])
      | outgrown => exact letsOut_z Q he
    case row row args => exact Rows.mono h fun u w'' he => hK _ _ he
  | halt x w' =>
    cases x <;> simp only [Oper.upon] at h ⊢
    case panic u => exact absurd h (by simp [Qz])
def noGuard (ops : Array Oper) : Bool := ops.all fun o => o.guard.isNone
theorem noGuard_spec (h : noGuard ops = true) {i : Nat} {o : Oper} (hi : ops[i]? = some o) (y : Nat → Option Bool) : Region.wanted o y = true := by
  have := Array.all_eq_true_iff_forall_mem.1 h o (Array.mem_of_getElem? hi)
  have hg : o.guard = none := by simpa using this
  unfold Region.wanted; rw [hg]
theorem wpC_any (hg : noGuard ops = true) {Q : Exit → Act → World → Prop} : ∀ (f : Nat) (listed : Array Bool) (a : Act) (w : World), wpC P md ops C Q f listed a w → wpAny P md ops Q f listed a w
  | 0, _, _, _, h => h
  | f + 1, listed, a, w, h => ⟨h.1, fun i hi => by
      obtain ⟨o, ho, hw⟩ := h.2 i hi
      unfold wpOp
      rw [ho]
      simp only [noGuard_spec hg ho, if_true]
      exact .inl (wp_z (fun a' w' hh => wpC_any hg f _ a' w' hh.2) hw)⟩
theorem wp_past {o : Oper} {x : Option Tmp} {v : Value} {a : Act} {w : World} {K : Act → World → Prop} (he : execOp (a.put x v).eval o = execOp a.eval o) (hd : ∀ d, x = some d → o.dst ≠ some d) (h : Oper.wp P o (a.put x v) w K Qz) :
    Oper.wp P o a w (fun a' w' => (∃ u ds, a' = ({ a with defers := ds } : Act).put o.dst u) ∧ K (a'.put x v) w') Qz := by
  unfold Oper.wp at *
  rw [he] at h
  generalize (execOp a.eval o).run P w = r at *
  have e1 : ∀ u, (a.put x v).put o.dst u = (a.put o.dst u).put x v := fun u => Act.put_comm a v u hd
  cases r with
  | ok n w' =>
    cases n <;> simp only [Oper.upon] at h ⊢
    case value u => exact ⟨⟨u, a.defers, rfl⟩, by rw [← e1]; exact h⟩
    case skip => exact ⟨⟨undef, a.defers, rfl⟩, by rw [← e1]; exact h⟩
    case defer d =>
      refine ⟨⟨undef, _, rfl⟩, ?_⟩
      rw [Act.put_defers] at h
      rw [← Act.put_comm _ v undef hd]
      exact h
    case enter f args =>
      refine Calls.mono h fun e w'' he => ?_
      cases e with
      | returned u => exact ⟨⟨u, a.defers, rfl⟩, by rw [← e1]; exact he⟩
      | panicked c => exact he
      | outgrown => exact he
    case row row args => exact Rows.mono h fun u w'' he => ⟨⟨u, a.defers, rfl⟩, by rw [← e1]; exact he⟩
  | halt x w' =>
    cases x <;> simp only [Oper.upon] at h ⊢
    case panic u => exact h
theorem wp_in {o : Oper} {v : Value} {a : Act} {w : World} {K : Act → World → Prop} (hg : noGuard ops = true) {i : Nat} (hi : ops[i]? = some o) (hw : C w) (hy : YieldsIn P ops C o v a) (hK : ∀ w', C w' → K (a.put o.dst v) w') : Oper.wp P o a w K Qz := by
  rcases hy with ⟨-, h⟩ | ⟨h, -⟩
  · exact Oper.wp_of_quiet (C := C) (K := fun a' => a' = a.put o.dst v) hw (fun a' w' hw' e => by rw [e]; exact hK w' hw') ⟨v, h, rfl⟩
  · rw [noGuard_spec hg hi] at h; cases h
/-- The world of the class may change under a quiet operation: what follows is asked in every world that it may leave. -/
theorem wpC_first (hg : noGuard ops = true) (hs : Region.noSelect ops = true) {Q : Exit → Act → World → Prop} {i : Nat} {oi : Oper} {v : Value} (hi : ops[i]? = some oi) (hsame : ∀ w : World, C w → ∀ a, YieldsIn P ops C oi v a → Oper.wp P oi a w (fun a' w' => a' = a.put oi.dst v ∧ w' = w) Qz) :
    ∀ (f : Nat) (listed : Array Bool) (a : Act) (w : World), C w →
      (∀ j oj, ops[j]? = some oj → j ≠ i → listed.getD j true = false → (∀ e ∈ oj.after, Region.binds md e = true → e.on ≠ i) → oi.apart ops oj = true) →
      i ∈ Region.ready md ops listed → YieldsIn P ops C oi v a →
      wpC P md ops C Q f (listed.setIfInBounds i true) (a.put oi.dst v) w → wpC P md ops C Q (f + 1) listed a w := by
  intro f
  induction f with
  | zero =>
    intro listed a w hw _ hr hy H
    refine ⟨(fun h => by rw [h] at hr; cases hr), fun j hj => ?_⟩
    by_cases hji : j = i
    · subst hji
      exact ⟨oi, hi, wp_z (fun a' w' hh => by obtain ⟨e1, e2⟩ := hh; subst e1 e2; exact ⟨hw, H⟩) (hsame w hw a hy)⟩
    · have := ready_mono hj hji
      rw [H.1] at this
      cases this
  | succ f ih =>
    intro listed a w hw hfree hr hy H
    refine ⟨(fun h => by rw [h] at hr; cases hr), fun j hj => ?_⟩
    by_cases hji : j = i
    · subst hji
      exact ⟨oi, hi, wp_z (fun a' w' hh => by obtain ⟨e1, e2⟩ := hh; subst e1 e2; exact ⟨hw, H⟩) (hsame w hw a hy)⟩
    · obtain ⟨oj, hoj, h1⟩ := H.2 j (ready_mono hj hji)
      obtain ⟨hjun, oj', hoj', hall⟩ := mem_ready.1 hj
      have : oj' = oj := Option.some.inj (hoj'.symm.trans hoj)
      subst this
      have hiu := (mem_ready.1 hr).1
      have hnot : ∀ e ∈ oj'.after, Region.binds md e = true → e.on ≠ i := fun e he hb heq => by
        have h2 := hall e he hb
        rw [heq] at h2
        rcases Nat.lt_or_ge i listed.size with h' | h'
        · simp [h'] at hiu h2; rw [hiu] at h2; cases h2
        · simp [Array.getElem?_eq_none h'] at h2
      obtain ⟨p1, p2, p3⟩ := Oper.apart_spec (hfree j oj' hoj hji hjun hnot)
      have hsi := fun cs b => Region.noSelect_spec hs i oi cs b hi
      have hsj := fun cs b => Region.noSelect_spec hs j oj' cs b hoj
      refine ⟨oj', hoj, wp_z ?_ (wp_past (execOp_put oj' hsj a oi.dst v p1) p2 h1)⟩
      rintro a' w' ⟨⟨u, ds, e⟩, hc', hK⟩
      refine ⟨hc', ih (listed.setIfInBounds j true) a' w' hc' ?_ (ready_mono hr (Ne.symm hji)) ?_ ?_⟩
      · intro k ok hk hki hun hno
        refine hfree k ok hk hki ?_ hno
        by_cases hjk : j = k
        · subst hjk; exact hjun
        · rw [getD_set_ne true hjk] at hun; exact hun
      · rw [e]
        refine hy.of_same ?_ ?_
        · exact execOp_put oi hsi ({ a with defers := ds } : Act) oj'.dst u p3
        · exact wanted_put oi ({ a with defers := ds } : Act) oj'.dst u p3
      · rw [Array.setIfInBounds_comm _ _ hji]
        exact hK
/-- Operations that never enter a function. -/
def plainOp : Op → Bool
  | .move _ | .assign _ | .build .. | .load .. | .fieldAddr .. | .indexAddr .. | .binOp .. | .unOp .. | .slice .. | .field .. | .index .. | .extract .. => true
  | _ => false
theorem seq_ne {s : Sem Value} {w w' : World} {f : FuncId} {args : Array Value} : (do pure (Next.value (← s)) : Sem Next).run P w ≠ .ok (.enter f args) w' := by
  intro h
  simp only [Sem.run_bind, Sem.run_pure] at h
  generalize s.run P w = r at h
  cases r <;> simp [Result.andThen] at h
theorem plain_ne {o : Oper} (h : plainOp o.op = true) (ρ : Operand → Value) (w w' : World) (f : FuncId) (args : Array Value) : (execOp ρ o).run P w ≠ .ok (.enter f args) w' := by
  unfold execOp
  cases hop : o.op <;> simp only [hop, plainOp] at h ⊢ <;> first | exact seq_ne | (intro hh; simp at hh; done) | (exact absurd h (by simp))
theorem plain_same {o : Oper} (h : plainOp o.op = true) (hg : noGuard ops = true) {i : Nat} (hi : ops[i]? = some o) {v : Value} (w : World) (hw : C w) (a : Act) (hy : YieldsIn P ops C o v a) : Oper.wp P o a w (fun a' w' => a' = a.put o.dst v ∧ w' = w) Qz := by
  rcases hy with ⟨-, h2⟩ | ⟨h2, -⟩
  · have h3 := h2 w hw
    have h4 := plain_ne (P := P) h a.eval w
    unfold Oper.quietAt at h3
    unfold Oper.wp
    generalize (execOp a.eval o).run P w = r at *
    cases r with
    | ok n w' =>
      cases n <;> simp only [Oper.quietUpon] at h3 <;> simp only [Oper.upon]
      case value u => exact ⟨by rw [h3.2], h3.1⟩
      case skip => exact ⟨by rw [h3.2], h3.1⟩
      case enter f args => exact absurd rfl (h4 w' f args)
    | halt x w' => simp only [Oper.quietUpon] at h3
  · rw [noGuard_spec hg hi] at h2; cases h2
/-- Which operations are taken first, in this order. -/
def takeB (md : Region.Mode) (ops : Array Oper) : List Nat → Array Bool → Bool
  | [], _ => true
  | i :: is, listed => ((ops[i]?).map (fun o => plainOp o.op)).getD false && ((Region.ready md ops listed).contains i && (Region.free md ops listed i && takeB md ops is (listed.setIfInBounds i true)))
def setAll : List Nat → Array Bool → Array Bool
  | [], listed => listed
  | i :: is, listed => setAll is (listed.setIfInBounds i true)
theorem wpC_take (hg : noGuard ops = true) (hs : Region.noSelect ops = true) {Q : Exit → Act → World → Prop} {f : Nat} {w : World} (hw : C w) : ∀ (is : List Nat) (listed : Array Bool) (a : Act), takeB md ops is listed = true →
    wpQuiet P ops C (fun a' => wpC P md ops C Q f (setAll is listed) a' w) (is.map fun i => ops[i]?.getD { dst := none, op := .move (.tmp 0), type := 0, pos := "", after := #[], guard := none }) a → wpC P md ops C Q (f + is.length) listed a w
  | [], _, _, _, h => h
  | i :: is, listed, a, hb, h => by
    simp only [takeB, Bool.and_eq_true] at hb
    obtain ⟨h1, h2, h3, h4⟩ := hb
    cases ho : ops[i]? with
    | none => rw [ho] at h1; cases h1
    | some o =>
      rw [ho] at h1
      have hp : plainOp o.op = true := by simpa using h1
      have hq : qOp P ops C i (fun a' => wpQuiet P ops C (fun a' => wpC P md ops C Q f (setAll is (listed.setIfInBounds i true)) a' w) (is.map fun i => ops[i]?.getD { dst := none, op := .move (.tmp 0), type := 0, pos := "", after := #[], guard := none }) a') a := by
        unfold qOp
        rw [List.map_cons, ho] at h
        simp only [ho]
        exact h
      obtain ⟨v, hy, hK⟩ := yieldsIn_of_qOp ho hq
      rw [show f + (i :: is).length = (f + is.length) + 1 by simp; omega]
      exact wpC_first hg hs ho (fun w hw a hy => plain_same hp hg ho w hw a hy) (f + is.length) listed a w hw (Region.free_spec ho h3) (by simpa using h2) hy (wpC_take hg hs hw is _ _ h4 hK)
theorem wpC_all {Q : Exit → Act → World → Prop} {rs : List Nat} {f : Nat} {listed : Array Bool} {a : Act} {w : World} (hr : Region.ready md ops listed = rs) (hne : rs ≠ [])
    (h : ∀ i ∈ rs, ∃ o, ops[i]? = some o ∧ Oper.wp P o a w (fun a' w' => C w' ∧ wpC P md ops C Q f (listed.setIfInBounds i true) a' w') Qz) : wpC P md ops C Q (f + 1) listed a w :=
  ⟨fun h0 => absurd (hr.symm.trans h0) hne, hr ▸ h⟩
theorem wpC_done {Q : Exit → Act → World → Prop} {listed : Array Bool} {a : Act} {w : World} (hr : Region.ready md ops listed = []) (h : Q .normal a w) : wpC P md ops C Q 0 listed a w := ⟨hr, h⟩
theorem wp_region_mix {id : Nat} {Q : Exit → Act → World → Prop} {a : Act} {w : World} {l : List Oper} (hm : P.follows .mixedOrders = true) (hg : noGuard l.toArray = true)
    (h : wpC P .any l.toArray (fun W => ∃ x : Later w, W = x.val) Q l.length (Array.replicate l.length false) a w.drew) : (Code.region id l.toArray true).wp P Q a w :=
  wp_region_any hm (wpC_any hg _ _ _ _ (by simpa using h))
end
end Go.Proofs.YthpbkbbmedpecaaDoor
