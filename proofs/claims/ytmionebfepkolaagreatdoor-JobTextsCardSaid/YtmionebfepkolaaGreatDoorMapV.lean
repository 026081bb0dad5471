/- Maps that the call makes, as functions of their keys: integers and bools by integers and strings. No program is named. -/
import Derived.Test.YtmionebfepkolaaGreatDoorBase
import Derived.Maps.OwnSet
import Derived.Maps.OwnOps
set_option linter.unusedSimpArgs false
set_option linter.unusedVariables false
namespace Go.Proofs.YtmionebfepkolaaGreatDoor
open Go.RowKit Go.Maps

/-- Block b is a map of at most n entries; at the key q it holds M q (none: the key is not there). -/
def MapV {κ ε : Type} (P : Program) (k e : TypeId) (kl : κ → Lit) (el : ε → Lit) (z : ε) (w : World) (b n : Nat) (M : κ → Option ε) : Prop :=
  ∃ D : DataW Unit, w.ownsMap P k (plainElem P e) b n D ∧ IsMap D ∧ (∀ q, Maps.has D (kl q) = (M q).isSome) ∧ ∀ q, D.atKey (kl q) (.lit (el z)) = .lit (el ((M q).getD z))
def upd {κ ε : Type} [DecidableEq κ] (M : κ → Option ε) (q : κ) (v : ε) : κ → Option ε := fun x => if x = q then some v else M x
def dlt {κ ε : Type} [DecidableEq κ] (M : κ → Option ε) (q : κ) : κ → Option ε := fun x => if x = q then none else M x
theorem dlt_same {κ ε : Type} [DecidableEq κ] (M : κ → Option ε) (q : κ) : dlt M q q = none := if_pos rfl
theorem dlt_other {κ ε : Type} [DecidableEq κ] {M : κ → Option ε} {q x : κ} (h : x ≠ q) : dlt M q x = M x := if_neg h
theorem upd_same {κ ε : Type} [DecidableEq κ] (M : κ → Option ε) (q : κ) (v : ε) : upd M q v q = some v := if_pos rfl
theorem upd_other {κ ε : Type} [DecidableEq κ] {M : κ → Option ε} {q x : κ} {v : ε} (h : x ≠ q) : upd M q v x = M x := if_neg h
/-- The keys and elements as the reader has them. -/
def ilit (q : Int) : Lit := .int .i64 q
def slit (s : ByteArray) : Lit := .string s.data.toList
def blit (b : Bool) : Lit := .bool b
theorem ilit_inj {a b : Int} (h : ilit a = ilit b) : a = b := by injection h
theorem slit_inj {a b : ByteArray} (h : slit a = slit b) : a = b := by
  have h2 : a.data.toList = b.data.toList := by injection h
  have h3 : a.data = b.data := Array.toList_inj.1 h2
  exact ByteArray.ext h3
section
variable {κ ε : Type} {P : Program} {k e : TypeId} {kl : κ → Lit} {el : ε → Lit} {z : ε} {w : World} {b n : Nat} {M : κ → Option ε}
theorem MapV.lt (h : MapV P k e kl el z w b n M) : b < w.heap.size := by obtain ⟨D, h1, _⟩ := h; exact h1.lt
theorem MapV.mono {n' : Nat} (h : MapV P k e kl el z w b n M) (hn : n ≤ n') : MapV P k e kl el z w b n' M := by obtain ⟨D, h1, h2⟩ := h; exact ⟨D, h1.mono hn, h2⟩
theorem MapV.kept {w' : World} {row : Option Nat} (h : MapV P k e kl el z w b n M) (hg : w.grownBy w' row) (hne : some b ≠ row) : MapV P k e kl el z w' b n M := by
  obtain ⟨D, h1, h2⟩ := h; exact ⟨D, h1.kept hg hne, h2⟩
theorem MapV.alloc (h : MapV P k e kl el z w b n M) (o : Obj) : MapV P k e kl el z (w.alloc o) b n M := h.kept (World.grownBy_alloc w o none) (by simp)
theorem MapV.below {w' : World} (h : MapV P k e kl el z w b n M) (hb : Below w.heap.size w w') : MapV P k e kl el z w' b n M :=
  h.kept (row := none) ⟨hb.os, hb.tape, hb.output, hb.size, fun k hk _ => hb.block k hk⟩ (by simp)
theorem MapV.setCell (h : MapV P k e kl el z w b n M) {p : Addr} (hp : p.block ≠ b) (v : Value) : MapV P k e kl el z (w.setCell p v) b n M := by
  obtain ⟨D, h1, h2⟩ := h
  exact ⟨D, h1.setCell (Ne.symm hp) v, h2⟩
theorem mapv_made (w : World) (P : Program) (k e : TypeId) (kl : κ → Lit) (el : ε → Lit) (z : ε) : MapV P k e kl el z (w.alloc (.map #[] 0)) w.heap.size 0 (fun _ => none) :=
  ⟨.map [], World.ownsMap_made _ _ _ _, isMap_empty, fun q => rfl, fun q => rfl⟩

theorem plainElem_bool_inv {H : Type} (he : P.underlying e = some .bool) {v : Value} {y : DataW H × List MemPlace} (h : plainElem P e v = some y) : ∃ x, v = .bool x ∧ y = (.lit (.bool x), []) := by
  unfold plainElem at h
  rw [he] at h
  cases v <;> simp at h
  subst h
  exact ⟨_, rfl, rfl⟩

variable {ops : Array Oper} {rest : List Oper} {o : Oper} {a : Act} {Q : Exit → Act → World → Prop}
/-- m[k] = v. -/
theorem wpList_mapv_put [DecidableEq κ] (hg : o.guard = none) (m x v : Operand) (t : TypeId) (hop : o.op = Op.mapUpdate t m x v) (K : Keyed P k) (ht : P.underlying t = some (.map k e))
    (hinj : ∀ q q', kl q = kl q' → q = q') (hkl : ∀ q, WideAt.IsKeyLit (kl q)) (hm : a.eval m = .map (some b)) (hown : MapV P k e kl el z w b n M) (hn : n < maxLen) (q : κ) (c : ε) (key val : Value) (hx : a.eval x = key) (hv : a.eval v = val)
    (hkey : keyOf P k key = some (kl q)) (hval : plainElem (H := Unit) P e val = some (.lit (el c), []))
    (hK : ∀ w', MapV P k e kl el z w' b (n + 1) (upd M q c) → w.grownBy w' (some b) → wpList P ops Q rest (a.put o.dst undef) w') :
    wpList P ops Q (o :: rest) a w := by
  obtain ⟨D, h1, h2, h3, h4⟩ := hown
  refine wpList_mapUpdate_own w hg m x v t hop k e K ht (plainElem P e) b n D hm h1 hn key val (kl q) hx hv hkey (.lit (el c)) [] hval fun w' hw hg' => hK w' ⟨_, hw, h2.put _ _, fun q' => ?_, fun q' => ?_⟩ hg'
  · by_cases hq : q' = q
    · subst hq; rw [has_put_same h2 (hkl _), upd_same]; rfl
    · rw [has_put_other (fun h => hq (hinj _ _ h)), upd_other hq]; exact h3 q'
  · by_cases hq : q' = q
    · subst hq; rw [atKey_put_same h2 (hkl _), upd_same]; rfl
    · rw [atKey_put_other (fun h => hq (hinj _ _ h)), upd_other hq]; exact h4 q'
/-- An entry of a map's literal. -/
theorem wpList_mapv_ins [DecidableEq κ] (hg : o.guard = none) (m x v : Operand) (t : TypeId) (hop : o.op = Op.insert t m x v) (K : Keyed P k) (ht : P.underlying t = some (.map k e))
    (hinj : ∀ q q', kl q = kl q' → q = q') (hkl : ∀ q, WideAt.IsKeyLit (kl q)) (hm : a.eval m = .map (some b)) (hown : MapV P k e kl el z w b n M) (hn : n < maxLen) (q : κ) (c : ε) (key val : Value) (hx : a.eval x = key) (hv : a.eval v = val)
    (hkey : keyOf P k key = some (kl q)) (hval : plainElem (H := Unit) P e val = some (.lit (el c), []))
    (hK : ∀ w', MapV P k e kl el z w' b (n + 1) (upd M q c) → w.grownBy w' (some b) → wpList P ops Q rest (a.put o.dst undef) w') :
    wpList P ops Q (o :: rest) a w := by
  obtain ⟨D, h1, h2, h3, h4⟩ := hown
  refine wpList_plain hg fun K' hK' => ?_
  obtain ⟨w', hrun, r1, r2⟩ := h1.update K ht hn hkey hval
  unfold Oper.wp
  simp [execOp, hop, hm, hx, hv, hrun, Result.andThen]
  refine hK' _ _ (hK w' ⟨_, r1, h2.put _ _, fun q' => ?_, fun q' => ?_⟩ r2)
  · by_cases hq : q' = q
    · subst hq; rw [has_put_same h2 (hkl _), upd_same]; rfl
    · rw [has_put_other (fun h => hq (hinj _ _ h)), upd_other hq]; exact h3 q'
  · by_cases hq : q' = q
    · subst hq; rw [atKey_put_same h2 (hkl _), upd_same]; rfl
    · rw [atKey_put_other (fun h => hq (hinj _ _ h)), upd_other hq]; exact h4 q'
/-- delete(m, k). -/
theorem wpList_mapv_del [DecidableEq κ] (hg : o.guard = none) (m x : Operand) (t : TypeId) (hop : o.op = Op.call { callee := Callee.builtin Builtin.delete, args := #[m, x], argTypes := #[t, k] }) (K : Keyed P k) (ht : P.underlying t = some (.map k e))
    (hinj : ∀ q q', kl q = kl q' → q = q') (hm : a.eval m = .map (some b)) (hown : MapV P k e kl el z w b n M) (q : κ) (key : Value) (hx : a.eval x = key) (hkey : keyOf P k key = some (kl q))
    (hK : ∀ w', MapV P k e kl el z w' b n (dlt M q) → w.mapTurned w' b → wpList P ops Q rest (a.put o.dst (.tuple #[])) w') :
    wpList P ops Q (o :: rest) a w := by
  obtain ⟨D, h1, h2, h3, h4⟩ := hown
  refine wpList_delete_own w hg m x t k hop e K ht (plainElem P e) b n D hm h1 key (kl q) hx hkey fun w' hw hg' => hK w' ⟨_, hw, h2.del _, fun q' => ?_, fun q' => ?_⟩ hg'
  · by_cases hq : q' = q
    · subst hq; rw [has_del_same, dlt_same]; rfl
    · rw [has_del_other (fun h => hq (hinj _ _ h)), dlt_other hq]; exact h3 q'
  · by_cases hq : q' = q
    · subst hq; rw [atKey_del_same, dlt_same]; rfl
    · rw [atKey_del_other (fun h => hq (hinj _ _ h)), dlt_other hq]; exact h4 q'
end
section
variable {κ : Type} {P : Program} {k e : TypeId} {kl : κ → Lit} {w : World} {b n : Nat}
variable {ops : Array Oper} {rest : List Oper} {o : Oper} {a : Act} {Q : Exit → Act → World → Prop}
/-- The look-up's run, integers. -/
theorem MapV.run_int {M : κ → Option Int} {t : TypeId} (hown : MapV P k e kl ilit 0 w b n M) (K : Keyed P k) (ht : P.underlying t = some (.map k e)) (he : P.underlying e = some (.int .i64)) (hz : (zeroValue e).run P w = .ok (.int .i64 0) w) (q : κ) {key : Value} (hkey : keyOf P k key = some (kl q)) :
    (Instr.lookup t (.map (some b)) key false).run P w = .ok (.int .i64 ((M q).getD 0)) w := by
  obtain ⟨D, h1, h2, h3, h4⟩ := hown
  obtain ⟨c, hrun, hc, _⟩ := h1.lookup_int K ht he hz hkey
  have h6 : (Lit.int .i64 c) = ilit ((M q).getD 0) := by
    have : (DataW.lit (H := Unit) (.int .i64 c)) = .lit (ilit ((M q).getD 0)) := hc.symm.trans (h4 q)
    injection this
  rw [hrun, ilit_inj h6]
/-- The look-up's run, bools. -/
theorem MapV.run_bool {M : κ → Option Bool} {t : TypeId} (hown : MapV P k e kl blit false w b n M) (K : Keyed P k) (ht : P.underlying t = some (.map k e)) (he : P.underlying e = some .bool) (hz : (zeroValue e).run P w = .ok (.bool false) w) (q : κ) {key : Value} (hkey : keyOf P k key = some (kl q)) :
    (Instr.lookup t (.map (some b)) key false).run P w = .ok (.bool ((M q).getD false)) w := by
  obtain ⟨D, h1, h2, h3, h4⟩ := hown
  obtain ⟨v, ps, hrun, hv⟩ := h1.lookup K ht hz (plainElem_bool he false) hkey
  obtain ⟨c, rfl, hc⟩ := plainElem_bool_inv he hv
  have h6 : (Lit.bool c) = blit ((M q).getD false) := by
    have hc' : D.atKey (kl q) (.lit (.bool false)) = .lit (.bool c) := congrArg Prod.fst hc
    have : (DataW.lit (H := Unit) (.bool c)) = .lit (blit ((M q).getD false)) := hc'.symm.trans (h4 q)
    injection this
  have h7 : c = (M q).getD false := by injection h6
  rw [hrun, h7]
/-- m[k], integers. -/
theorem wpList_mapv_int {M : κ → Option Int} {z : Int} (hg : o.guard = none) (m x : Operand) (t : TypeId) (hop : o.op = Op.lookup t m x false) (K : Keyed P k) (ht : P.underlying t = some (.map k e)) (he : P.underlying e = some (.int .i64)) (hz : (zeroValue e).run P w = .ok (.int .i64 0) w)
    (hm : a.eval m = .map (some b)) (hown : MapV P k e kl ilit 0 w b n M) (q : κ) (key : Value) (hx : a.eval x = key) (hkey : keyOf P k key = some (kl q))
    (hK : wpList P ops Q rest (a.put o.dst (.int .i64 ((M q).getD 0))) w) :
    wpList P ops Q (o :: rest) a w := by
  obtain ⟨D, h1, h2, h3, h4⟩ := hown
  refine wpList_lookup_own_int w hg m x t hop k e .i64 K ht he hz b n D hm h1 key (kl q) hx hkey fun c hc _ => ?_
  have h5 := h4 q
  have h6 : (Lit.int .i64 c) = ilit ((M q).getD 0) := by
    have : (DataW.lit (H := Unit) (.int .i64 c)) = .lit (ilit ((M q).getD 0)) := hc.symm.trans h5
    injection this
  have h7 : c = (M q).getD 0 := ilit_inj h6
  rw [h7]
  exact hK
/-- v, ok := m[k], integers. -/
theorem wpList_mapv_int_ok {M : κ → Option Int} (hg : o.guard = none) (m x : Operand) (t : TypeId) (hop : o.op = Op.lookup t m x true) (K : Keyed P k) (ht : P.underlying t = some (.map k e)) (he : P.underlying e = some (.int .i64)) (hz : (zeroValue e).run P w = .ok (.int .i64 0) w)
    (hm : a.eval m = .map (some b)) (hown : MapV P k e kl ilit 0 w b n M) (q : κ) (key : Value) (hx : a.eval x = key) (hkey : keyOf P k key = some (kl q))
    (hK : wpList P ops Q rest (a.put o.dst (.tuple #[.int .i64 ((M q).getD 0), .bool (M q).isSome])) w) :
    wpList P ops Q (o :: rest) a w := by
  obtain ⟨D, h1, h2, h3, h4⟩ := hown
  refine wpList_lookup_own_ok_int w hg m x t hop k e .i64 K ht he hz b n D hm h1 key (kl q) hx hkey fun c hc _ => ?_
  have h5 := h4 q
  have h6 : (Lit.int .i64 c) = ilit ((M q).getD 0) := by
    have : (DataW.lit (H := Unit) (.int .i64 c)) = .lit (ilit ((M q).getD 0)) := hc.symm.trans h5
    injection this
  have h7 : c = (M q).getD 0 := ilit_inj h6
  rw [h7, h3 q]
  exact hK
/-- m[k], bools. -/
theorem wpList_mapv_bool {M : κ → Option Bool} (hg : o.guard = none) (m x : Operand) (t : TypeId) (hop : o.op = Op.lookup t m x false) (K : Keyed P k) (ht : P.underlying t = some (.map k e)) (he : P.underlying e = some .bool) (hz : (zeroValue e).run P w = .ok (.bool false) w)
    (hm : a.eval m = .map (some b)) (hown : MapV P k e kl blit false w b n M) (q : κ) (key : Value) (hx : a.eval x = key) (hkey : keyOf P k key = some (kl q))
    (hK : wpList P ops Q rest (a.put o.dst (.bool ((M q).getD false))) w) :
    wpList P ops Q (o :: rest) a w := by
  obtain ⟨D, h1, h2, h3, h4⟩ := hown
  refine wpList_plain hg fun K' hK' => ?_
  obtain ⟨v, ps, hrun, hv⟩ := h1.lookup K ht hz (plainElem_bool he false) hkey
  obtain ⟨c, rfl, hc⟩ := plainElem_bool_inv he hv
  have h5 := h4 q
  have h6 : (Lit.bool c) = blit ((M q).getD false) := by
    have hc' : D.atKey (kl q) (.lit (.bool false)) = .lit (.bool c) := congrArg Prod.fst hc
    have : (DataW.lit (H := Unit) (.bool c)) = .lit (blit ((M q).getD false)) := hc'.symm.trans h5
    injection this
  have h7 : c = (M q).getD false := by injection h6
  rw [h7] at hrun
  unfold Oper.wp
  simp [execOp, hop, hm, hx, hrun, Result.andThen]
  exact hK' _ _ hK
end
end Go.Proofs.YtmionebfepkolaaGreatDoor
