/- A region that draws its order and holds guarded operations: what is quiet may be taken first; all other operations in each order. No program is named. -/
import Derived.Test.YtfahdgmnlpkaiaaMixN
set_option linter.unusedSimpArgs false
set_option linter.unusedVariables false
namespace Go.Proofs.Ytfahdgmnlpkaiaa
open Go.RowKit

section
variable {P : Program} {md : Region.Mode} {ops : Array Oper} {C : World → Prop}

/-- One operation, if its guard lets it. -/
def wpO (P : Program) (ops : Array Oper) (o : Oper) (a : Act) (w : World) (K : Act → World → Prop) : Prop := if Region.wanted o (yielded ops a.tmps) then Oper.wp P o a w K Qz else K (a.put o.dst undef) w
theorem wpO_mono {o : Oper} {a : Act} {w : World} {K K' : Act → World → Prop} (hK : ∀ a w, K a w → K' a w) (h : wpO P ops o a w K) : wpO P ops o a w K' := by
  unfold wpO at *
  split at h
  · rename_i hw; rw [if_pos hw]; exact wp_z hK h
  · rename_i hw; rw [if_neg hw]; exact hK _ _ h
def wpG (P : Program) (md : Region.Mode) (ops : Array Oper) (C : World → Prop) (Q : Exit → Act → World → Prop) : Nat → Array Bool → Act → World → Prop
  | 0, listed, a, w => Region.ready md ops listed = [] ∧ Q .normal a w
  | f + 1, listed, a, w => (Region.ready md ops listed = [] → Q .normal a w) ∧
    ∀ i ∈ Region.ready md ops listed, ∃ o, ops[i]? = some o ∧ wpO P ops o a w (fun a' w' => C w' ∧ wpG P md ops C Q f (listed.setIfInBounds i true) a' w')
theorem wpG_any {Q : Exit → Act → World → Prop} : ∀ (f : Nat) (listed : Array Bool) (a : Act) (w : World), wpG P md ops C Q f listed a w → wpAny P md ops Q f listed a w
  | 0, _, _, _, h => h
  | f + 1, listed, a, w, h => ⟨h.1, fun i hi => by
      obtain ⟨o, ho, hw⟩ := h.2 i hi
      unfold wpOp
      rw [ho]
      simp only
      unfold wpO at hw
      split at hw
      · rename_i hg; rw [if_pos hg]; exact .inl (wp_z (fun a' w' hh => wpG_any f _ a' w' hh.2) hw)
      · rename_i hg; rw [if_neg hg]; exact wpG_any f _ _ _ hw.2⟩
theorem wpO_past {o : Oper} {x : Option Tmp} {v : Value} {a : Act} {w : World} {K : Act → World → Prop} (he : execOp (a.put x v).eval o = execOp a.eval o) (hd : ∀ d, x = some d → o.dst ≠ some d) (hwt : Region.wanted o (yielded ops (a.put x v).tmps) = Region.wanted o (yielded ops a.tmps)) (h : wpO P ops o (a.put x v) w K) :
    wpO P ops o a w (fun a' w' => (∃ u ds, a' = ({ a with defers := ds } : Act).put o.dst u) ∧ K (a'.put x v) w') := by
  unfold wpO at *
  rw [hwt] at h
  split
  · rename_i hg
    rw [if_pos hg] at h
    exact wp_past he hd h
  · rename_i hg
    rw [if_neg hg] at h
    refine ⟨⟨undef, a.defers, rfl⟩, ?_⟩
    rw [← Act.put_comm a v undef hd]
    exact h
/-- The world of the class may change under a quiet operation: what follows is asked in every world that it may leave. -/
theorem wpG_first (hs : Region.noSelect ops = true) {Q : Exit → Act → World → Prop} {i : Nat} {oi : Oper} {v : Value} (hi : ops[i]? = some oi) (hsame : ∀ w : World, C w → ∀ a, YieldsIn P ops C oi v a → wpO P ops oi a w (fun a' w' => a' = a.put oi.dst v ∧ w' = w)) :
    ∀ (f : Nat) (listed : Array Bool) (a : Act) (w : World), C w →
      (∀ j oj, ops[j]? = some oj → j ≠ i → listed.getD j true = false → (∀ e ∈ oj.after, Region.binds md e = true → e.on ≠ i) → oi.apart ops oj = true) →
      i ∈ Region.ready md ops listed → YieldsIn P ops C oi v a →
      wpG P md ops C Q f (listed.setIfInBounds i true) (a.put oi.dst v) w → wpG P md ops C Q (f + 1) listed a w := by
  intro f
  induction f with
  | zero =>
    intro listed a w hw _ hr hy H
    refine ⟨(fun h => by rw [h] at hr; cases hr), fun j hj => ?_⟩
    by_cases hji : j = i
    · subst hji
      exact ⟨oi, hi, wpO_mono (fun a' w' hh => by obtain ⟨e1, e2⟩ := hh; subst e1 e2; exact ⟨hw, H⟩) (hsame w hw a hy)⟩
    · have := ready_mono hj hji
      rw [H.1] at this
      cases this
  | succ f ih =>
    intro listed a w hw hfree hr hy H
    refine ⟨(fun h => by rw [h] at hr; cases hr), fun j hj => ?_⟩
    by_cases hji : j = i
    · subst hji
      exact ⟨oi, hi, wpO_mono (fun a' w' hh => by obtain ⟨e1, e2⟩ := hh; subst e1 e2; exact ⟨hw, H⟩) (hsame w hw a hy)⟩
    · obtain ⟨oj, hoj, h1⟩ := H.2 j (ready_mono hj hji)
      obtain ⟨hjun, oj', hoj', hall⟩ := mem_ready.1 hj
      have : oj' = oj := Option.some.inj (hoj'.symm.trans hoj)
      subst this
      have hiu := (mem_ready.1 hr).1
      have hnot : ∀ e ∈ oj'.after, Region.binds md e = true → e.on ≠ i := fun e he hb heq => by
        have h2 := hall e he hb
        rw [heq] at h2
        rcases Nat.lt_or_ge i listed.size with h' | h'
        · simp [h'] at hiu h2; rw [hiu] at h2; cases h2
        · simp [Array.getElem?_eq_none h'] at h2
      obtain ⟨p1, p2, p3⟩ := Oper.apart_spec (hfree j oj' hoj hji hjun hnot)
      have hsi := fun cs b => Region.noSelect_spec hs i oi cs b hi
      have hsj := fun cs b => Region.noSelect_spec hs j oj' cs b hoj
      refine ⟨oj', hoj, wpO_mono ?_ (wpO_past (execOp_put oj' hsj a oi.dst v p1) p2 (wanted_put oj' a oi.dst v p1) h1)⟩
      rintro a' w' ⟨⟨u, ds, e⟩, hc', hK⟩
      refine ⟨hc', ih (listed.setIfInBounds j true) a' w' hc' ?_ (ready_mono hr (Ne.symm hji)) ?_ ?_⟩
      · intro k ok hk hki hun hno
        refine hfree k ok hk hki ?_ hno
        by_cases hjk : j = k
        · subst hjk; exact hjun
        · rw [getD_set_ne true hjk] at hun; exact hun
      · rw [e]
        refine hy.of_same ?_ ?_
        · exact execOp_put oi hsi ({ a with defers := ds } : Act) oj'.dst u p3
        · exact wanted_put oi ({ a with defers := ds } : Act) oj'.dst u p3
      · rw [Array.setIfInBounds_comm _ _ hji]
        exact hK
theorem pickG_ne {s : Sem Bool} {x y : Value} {w w' : World} {f : FuncId} {args : Array Value} : (do pure (Next.value (if (← s) then x else y)) : Sem Next).run P w ≠ .ok (.enter f args) w' := by
  intro h
  simp only [Sem.run_bind, Sem.run_pure] at h
  generalize s.run P w = r at h
  cases r <;> simp [Result.andThen] at h
theorem lenG_ne {ρ : Operand → Value} {c : Call} {t : TypeId} (hc : c.callee = .builtin .len) {w w' : World} {f : FuncId} {args : Array Value} : (do let d ← resolve ρ c t; invoke d.target d.args : Sem Next).run P w ≠ .ok (.enter f args) w' := by
  intro h
  unfold resolve at h
  rw [hc] at h
  simp only [Sem.run_bind, Sem.run_pure, Result.andThen, invoke, builtin] at h
  generalize (Builtin.len_ c.argTypes t (c.args.map ρ)).run P w = r at h
  cases r <;> simp [Result.andThen] at h
def lenOp : Op → Bool
  | .call c => match c.callee with | .builtin .len => true | _ => false
  | _ => false
def pickOp : Op → Bool
  | .pick .. => true
  | _ => false
def plainH (o : Op) : Bool := plainOp o || (pickOp o || lenOp o)
theorem plainH_ne {o : Oper} (h : plainH o.op = true) (ρ : Operand → Value) (w w' : World) (f : FuncId) (args : Array Value) : (execOp ρ o).run P w ≠ .ok (.enter f args) w' := by
  unfold plainH at h
  rw [Bool.or_eq_true, Bool.or_eq_true] at h
  rcases h with h | h | h
  · exact plain_ne h ρ w w' f args
  · unfold execOp
    cases hop : o.op
    case pick => exact pickG_ne
    all_goals (simp only [hop, pickOp] at h; cases h)
  · unfold execOp
    cases hop : o.op
    case call c =>
      simp only [hop, lenOp] at h ⊢
      refine lenG_ne ?_
      split at h <;> first | assumption | cases h
    all_goals (simp only [hop, lenOp] at h; cases h)
theorem plainH_same {o : Oper} (h : plainH o.op = true) {v : Value} (w : World) (hw : C w) (a : Act) (hy : YieldsIn P ops C o v a) : wpO P ops o a w (fun a' w' => a' = a.put o.dst v ∧ w' = w) := by
  unfold wpO
  rcases hy with ⟨hg, h2⟩ | ⟨hg, h2⟩
  · rw [if_pos hg]
    have h3 := h2 w hw
    have h4 := plainH_ne (P := P) h a.eval w
    unfold Oper.quietAt at h3
    unfold Oper.wp
    generalize (execOp a.eval o).run P w = r at *
    cases r with
    | ok n w' =>
      cases n <;> simp only [Oper.quietUpon] at h3 <;> simp only [Oper.upon]
      case value u => exact ⟨by rw [h3.2], h3.1⟩
      case skip => exact ⟨by rw [h3.2], h3.1⟩
      case enter f args => exact absurd rfl (h4 w' f args)
    | halt x w' => simp only [Oper.quietUpon] at h3
  · rw [if_neg (by rw [hg]; simp)]
    exact ⟨by rw [h2], rfl⟩
/-- Which operations are taken first, in this order. -/
def takeG (md : Region.Mode) (ops : Array Oper) : List Nat → Array Bool → Bool
  | [], _ => true
  | i :: is, listed => ((ops[i]?).map (fun o => plainH o.op)).getD false && ((Region.ready md ops listed).contains i && (Region.free md ops listed i && takeG md ops is (listed.setIfInBounds i true)))
theorem wpG_take (hs : Region.noSelect ops = true) {Q : Exit → Act → World → Prop} {f : Nat} {w : World} (hw : C w) : ∀ (is : List Nat) (listed : Array Bool) (a : Act), takeG md ops is listed = true →
    wpQuiet P ops C (fun a' => wpG P md ops C Q f (setAll is listed) a' w) (is.map fun i => ops[i]?.getD { dst := none, op := .move (.tmp 0), type := 0, pos := "", after := #[], guard := none }) a → wpG P md ops C Q (f + is.length) listed a w
  | [], _, _, _, h => h
  | i :: is, listed, a, hb, h => by
    simp only [takeG, Bool.and_eq_true] at hb
    obtain ⟨h1, h2, h3, h4⟩ := hb
    cases ho : ops[i]? with
    | none => rw [ho] at h1; cases h1
    | some o =>
      rw [ho] at h1
      have hp : plainH o.op = true := by simpa using h1
      have hq : qOp P ops C i (fun a' => wpQuiet P ops C (fun a' => wpG P md ops C Q f (setAll is (listed.setIfInBounds i true)) a' w) (is.map fun i => ops[i]?.getD { dst := none, op := .move (.tmp 0), type := 0, pos := "", after := #[], guard := none }) a') a := by
        unfold qOp
        rw [List.map_cons, ho] at h
        simp only [ho]
        exact h
      obtain ⟨v, hy, hK⟩ := yieldsIn_of_qOp ho hq
      rw [show f + (i :: is).length = (f + is.length) + 1 by simp; omega]
      exact wpG_first hs ho (fun w hw a hy => plainH_same hp w hw a hy) (f + is.length) listed a w hw (Region.free_spec ho h3) (by simpa using h2) hy (wpG_take hs hw is _ _ h4 hK)
theorem wpG_all {Q : Exit → Act → World → Prop} {rs : List Nat} {f : Nat} {listed : Array Bool} {a : Act} {w : World} (hr : Region.ready md ops listed = rs) (hne : rs ≠ [])
    (h : ∀ i ∈ rs, ∃ o, ops[i]? = some o ∧ wpO P ops o a w (fun a' w' => C w' ∧ wpG P md ops C Q f (listed.setIfInBounds i true) a' w')) : wpG P md ops C Q (f + 1) listed a w :=
  ⟨fun h0 => absurd (hr.symm.trans h0) hne, hr ▸ h⟩
/-- One alone is ready. -/
theorem wpG_one {Q : Exit → Act → World → Prop} {i : Nat} {o : Oper} {f : Nat} {listed : Array Bool} {a : Act} {w : World} (hr : Region.ready md ops listed = [i]) (ho : ops[i]? = some o)
    (h : wpO P ops o a w (fun a' w' => C w' ∧ wpG P md ops C Q f (listed.setIfInBounds i true) a' w')) : wpG P md ops C Q (f + 1) listed a w :=
  wpG_all hr (by simp) (fun j hj => by rw [List.mem_singleton.1 hj]; exact ⟨o, ho, h⟩)
theorem wpG_done {Q : Exit → Act → World → Prop} {listed : Array Bool} {a : Act} {w : World} (hr : Region.ready md ops listed = []) (h : Q .normal a w) : wpG P md ops C Q 0 listed a w := ⟨hr, h⟩
theorem wpO_yes {o : Oper} {a : Act} {w : World} {K : Act → World → Prop} (hg : Region.wanted o (yielded ops a.tmps) = true) (h : Oper.wp P o a w K Qz) : wpO P ops o a w K := by unfold wpO; rw [if_pos hg]; exact h
theorem wpO_no {o : Oper} {a : Act} {w : World} {K : Act → World → Prop} (hg : Region.wanted o (yielded ops a.tmps) = false) (h : K (a.put o.dst undef) w) : wpO P ops o a w K := by unfold wpO; rw [if_neg (by rw [hg]; simp)]; exact h
theorem wp_region_ltg {id : Nat} {Q : Exit → Act → World → Prop} {a : Act} {w : World} {l : List Oper} (N : Nat) (hm : P.follows .mixedOrders = true)
    (h : wpG P .any l.toArray (fun W => ∃ x : LtN w N, W = x.val) Q l.length (Array.replicate l.length false) a w.drew) : (Code.region id l.toArray true).wp P Q a w :=
  wp_region_any hm (wpG_any _ _ _ _ (by simpa using h))
end
end Go.Proofs.Ytfahdgmnlpkaiaa
