/- Plans: what a valid one has; the order goes on as the taken names tell. No program is named. -/
import Derived.Test.YtgijekhlbkfanaaJobM
set_option linter.unusedSimpArgs false
set_option linter.unusedVariables false
namespace Go.Proofs.Ytgijekhlbkfanaa

/-- The names are apart and those before a task are there. -/
def okN (l : List Tk) : Prop := apN l ∧ ∀ i, i < l.length → ∀ s ∈ (tkA l i).af, fnd l s < l.length
structure okP (l : List Tk) : Prop where
  pos : 0 < l.length
  len : l.length ≤ 20
  each : ∀ i, i < l.length → okTk (tkA l i) = true
  apart : apN l
  few : ∀ i, i < l.length → (tkA l i).af.length ≤ 10
  known : ∀ i, i < l.length → ∀ s ∈ (tkA l i).af, fnd l s < l.length
  once : ∀ i, i < l.length → ∀ k, k < (tkA l i).af.length → afA l i k ∉ (tkA l i).af.take k
  all : (ord l).length = l.length
theorem okP.names {l : List Tk} (h : okP l) : okN l := ⟨h.apart, h.known⟩
theorem tkE_zero {l : List Tk} {i : Nat} (h : tkE l i = 0) : okTk (tkA l i) = true ∧ ¬ fnd l (tkA l i).nm < i ∧ (tkA l i).af.length ≤ 10 := by
  unfold tkE at h
  split at h
  · cases h
  · rename_i h1
    split at h
    · cases h
    · split at h
      · cases h
      · exact ⟨by simpa using h1, by assumption, by omega⟩
theorem afA_get {l : List Tk} {i k : Nat} (h : k < (tkA l i).af.length) : afA l i k = (tkA l i).af[k] := by unfold afA; rw [List.getElem?_eq_getElem h]; rfl
theorem afA_mem {l : List Tk} {i k : Nat} (h : k < (tkA l i).af.length) : afA l i k ∈ (tkA l i).af := by rw [afA_get h]; exact List.getElem_mem h
theorem mem_afA {l : List Tk} {i : Nat} {s : ByteArray} (h : s ∈ (tkA l i).af) : ∃ k, k < (tkA l i).af.length ∧ afA l i k = s := by
  obtain ⟨k, hk, rfl⟩ := List.getElem_of_mem h
  exact ⟨k, hk, afA_get hk⟩
theorem afE_zero {l : List Tk} {i k : Nat} (h : afE l i k = 0) : fnd l (afA l i k) < l.length ∧ afA l i k ∉ (tkA l i).af.take k := by
  unfold afE at h
  split at h
  · rename_i h1
    split at h
    · cases h
    · rename_i h2; exact ⟨h1, fun hh => h2 (isIn_iff.2 hh)⟩
  · cases h
theorem alone_spec {l : List Tk} (h : aloneE l = 0) : (∀ i, i < l.length → okTk (tkA l i) = true) ∧ apN l ∧ ∀ i, i < l.length → (tkA l i).af.length ≤ 10 := by
  have h1 := fun i (hi : i < l.length) => tkE_zero (frst_at h hi)
  exact ⟨fun i hi => (h1 i hi).1, fun i hi => by have := (h1 i hi).2.1; have := fnd_min hi rfl; omega, fun i hi => (h1 i hi).2.2⟩
theorem names_spec {l : List Tk} (h : namesE l = 0) : (∀ i, i < l.length → ∀ s ∈ (tkA l i).af, fnd l s < l.length) ∧ ∀ i, i < l.length → ∀ k, k < (tkA l i).af.length → afA l i k ∉ (tkA l i).af.take k := by
  have h1 := fun i (hi : i < l.length) k (hk : k < (tkA l i).af.length) => afE_zero (frst_at (frst_at h hi) hk)
  exact ⟨fun i hi s hs => by obtain ⟨k, hk, rfl⟩ := mem_afA hs; exact (h1 i hi k hk).1, fun i hi k hk => (h1 i hi k hk).2⟩
theorem check_spec {l : List Tk} (h : checkE l = 0) : okP l := by
  unfold checkE at h
  split at h
  · cases h
  · split at h
    · cases h
    · split at h
      · rename_i h1; exact absurd h h1
      · split at h
        · rename_i h1; exact absurd h h1
        · rename_i h1 h2
          split at h
          · cases h
          · obtain ⟨a1, a2, a3⟩ := alone_spec (Classical.not_not.1 h1)
            obtain ⟨b1, b2⟩ := names_spec (Classical.not_not.1 h2)
            have := ordK_le l l.length
            exact ⟨by omega, by omega, a1, a2, a3, b1, b2, by unfold ord at *; omega⟩
theorem okTk_spec {t : Tk} (h : okTk t = true) : isNm t.nm = true ∧ (1 ≤ t.dy ∧ t.dy ≤ 1000) ∧ (1 ≤ t.mn ∧ t.mn ≤ 16) := by
  unfold okTk at h
  simp only [Bool.and_eq_true] at h
  exact ⟨h.1.1, wi_iff.1 h.1.2, wi_iff.1 h.2⟩

/-- The names of some tasks. -/
def nmsOf (l : List Tk) (out : List Nat) : ByteArray → Option Bool := fun s => if out.any (fun i => decide ((tkA l i).nm = s)) then some true else none
/-- A task is ready where the map has not its name, but those before it. -/
def rdyM (l : List Tk) (M : ByteArray → Option Bool) (i : Nat) : Bool := !((M (tkA l i).nm).getD false) && (tkA l i).af.all fun s => (M s).getD false
theorem nms_name {l : List Tk} (h : apN l) {out : List Nat} (ho : ∀ i ∈ out, i < l.length) {i : Nat} (hi : i < l.length) : (nmsOf l out (tkA l i).nm).getD false = out.contains i := by
  unfold nmsOf
  rw [Bool.eq_iff_iff, List.contains_iff_mem]
  split
  · rename_i h1
    rw [List.any_eq_true] at h1
    obtain ⟨j, hj, e⟩ := h1
    have := apN_inj h (ho j hj) hi (of_decide_eq_true e)
    subst this
    exact ⟨fun _ => hj, fun _ => rfl⟩
  · rename_i h1
    refine ⟨fun h => (by cases h), fun hh => absurd ?_ h1⟩
    rw [List.any_eq_true]; exact ⟨i, hh, by simp⟩
theorem rdyM_rdy {l : List Tk} (h : okN l) {out : List Nat} (ho : ∀ i ∈ out, i < l.length) {i : Nat} (hi : i < l.length) : rdyM l (nmsOf l out) i = rdy l out i := by
  unfold rdyM rdy
  rw [nms_name h.1 ho hi]
  congr 1
  unfold afs
  rw [List.all_map, Bool.eq_iff_iff, List.all_eq_true, List.all_eq_true]
  have key : ∀ s ∈ (tkA l i).af, (nmsOf l out s).getD false = out.contains (fnd l s) := fun s hs => by
    have h1 := h.2 i hi s hs
    have h2 := nms_name h.1 ho h1
    rw [fnd_at h1] at h2
    exact h2
  exact ⟨fun hh s hs => by have := hh s hs; rw [key s hs] at this; exact this, fun hh s hs => by rw [key s hs]; exact hh s hs⟩
theorem nms_upd {l : List Tk} {out : List Nat} {i : Nat} : (fun x => if x = (tkA l i).nm then some true else nmsOf l out x) = nmsOf l (out ++ [i]) := by
  funext x
  unfold nmsOf
  rw [List.any_append]
  by_cases h : x = (tkA l i).nm
  · rw [if_pos h]; subst h; simp
  · rw [if_neg h]
    have : decide ((tkA l i).nm = x) = false := decide_eq_false fun e => h e.symm
    simp [this]
theorem nms_nil (l : List Tk) : nmsOf l [] = fun _ => none := rfl
end Go.Proofs.Ytgijekhlbkfanaa
