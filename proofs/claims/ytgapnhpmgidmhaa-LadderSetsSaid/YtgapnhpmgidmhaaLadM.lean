/- Ladders asked for as dogs are: plain. No program is named. -/
import Derived.Test.YtgapnhpmgidmhaaBearM
set_option linter.unusedSimpArgs false
set_option linter.unusedVariables false
namespace Go.Proofs.Ytgapnhpmgidmhaa
open Go.RowKit

/-- The climb of a ladder's feet. -/
def lc (c : Clb) : Clb := { c with ga := c.le - c.la, to := c.to - c.la }
/-- The feet as joints: sound where two dogs are on the ladder. -/
def ft (c : Clb) (l : List J) (ds : List Int) : List J := (List.range ds.length).map fun k => (hD l ds k, decide (2 ≤ onN c l ds k))
theorem ft_len (c : Clb) (l : List J) (ds : List Int) : (ft c l ds).length = ds.length := by simp [ft]
theorem ft_at {c : Clb} {l : List J} {ds : List Int} {k : Nat} (h : k < ds.length) : (ft c l ds)[k]? = some (hD l ds k, decide (2 ≤ onN c l ds k)) := by
  unfold ft
  rw [List.getElem?_map, List.getElem?_range h]; rfl
theorem ft_hgt {c : Clb} {l : List J} {ds : List Int} {k : Nat} (h : k < ds.length) : hgt (ft c l ds) k = hD l ds k := by unfold hgt; rw [ft_at h]; rfl
theorem ft_snd {c : Clb} {l : List J} {ds : List Int} {k : Nat} (h : k < ds.length) : sndB (ft c l ds) k = decide (2 ≤ onN c l ds k) := by unfold sndB; rw [ft_at h]; rfl
/-- Whether a ladder may stand behind another one: as for dogs. -/
theorem aft_fol {c : Clb} {l : List J} {ds : List Int} {b : Int} {f : Nat} (hf : f < ds.length) (hb : b < ds.length) : aftB c l ds b f = (sndB (ft c l ds) f && folB (lc c) (ft c l ds) b f) := by
  unfold aftB
  rw [ft_snd hf]
  congr 1
  unfold folB
  by_cases h : b < 0
  · rw [if_pos h, if_pos h, ft_hgt hf]; rfl
  · rw [if_neg h, if_neg h]
    obtain ⟨n, rfl⟩ : ∃ n : Nat, b = n := ⟨b.toNat, by omega⟩
    rw [hI_nat, ft_hgt hf, ft_hgt (by omega), Int.toNat_natCast]; rfl
/-- Right ladders are ways over the feet. -/
theorem set_path {c : Clb} {l : List J} {ds : List Int} {ns : List Nat} : setB c l ds (ns.map fun k : Nat => (k : Int)) = true ↔ rightB c l ds = true ∧ Path (lc c) (ft c l ds) (-1) ns := by
  rw [path_idx]
  have hll : (ns.map fun k : Nat => (k : Int)).length = ns.length := by simp
  have hpv : ∀ k, k < ns.length → (if k = 0 then (-1 : Int) else num (ns.map fun k : Nat => (k : Int)) (k - 1)) = prev (-1) ns k := fun k hk => by
    unfold prev
    split
    · rfl
    · rw [num_cast (by omega)]
  constructor
  · intro h
    simp only [setB, set1, Bool.and_eq_true] at h
    obtain ⟨h1, h2, h3, h4, h5⟩ := h
    have has := ascB_spec h3
    rw [hll] at has h4
    have hne : ns ≠ [] := by rintro rfl; simp at h2
    have hpos : 0 < ns.length := List.length_pos_iff.2 hne
    refine ⟨h1, hne, fun k hk => ?_, ?_⟩
    · have hr := has.1 k hk
      rw [num_cast hk] at hr
      have hst := List.all_eq_true.1 h4 k (List.mem_range.2 hk)
      rw [setX_aft (num_cast hk) (fun h0 => ⟨(has.1 (k - 1) (by omega)).1, has.2 (k - 1) k (by omega) hk⟩), hpv k hk] at hst
      have hpb : prev (-1) ns k < ds.length := by
        unfold prev
        split
        · omega
        · have := has.1 (k - 1) (by omega); rw [num_cast (by omega)] at this; omega
      rw [aft_fol (by omega) hpb, Bool.and_eq_true] at hst
      exact ⟨by rw [ft_len]; omega, hst.1, hst.2⟩
    · unfold topB at h5
      rw [decide_eq_true_eq, hll, num_cast (by omega)] at h5
      have hr := has.1 (ns.length - 1) (by omega)
      rw [num_cast (by omega)] at hr
      rw [ft_hgt (by omega)]
      unfold hL at h5
      rw [Int.toNat_natCast] at h5
      show c.to - c.la ≤ _ + (c.le - c.la)
      omega
  · rintro ⟨h1, hne, h2, h3⟩
    have hpos : 0 < ns.length := List.length_pos_iff.2 hne
    have hlt : ∀ k, k < ns.length → ns[k]?.getD 0 < ds.length := fun k hk => by have := (h2 k hk).1; rwa [ft_len] at this
    have hasc : ∀ k, 0 < k → k < ns.length → num (ns.map fun k : Nat => (k : Int)) (k - 1) < num (ns.map fun k : Nat => (k : Int)) k := fun k h0 hk => by
      have := (h2 k hk).2.2
      unfold prev at this
      rw [if_neg (by omega)] at this
      have := (adj_of this).1
      rw [num_cast hk, num_cast (by omega)]
      omega
    have hax : ∀ k, k < ns.length → ascX ds.length (ns.map fun k : Nat => (k : Int)) k = true := fun k hk => by
      unfold ascX
      rw [Bool.and_eq_true, Bool.or_eq_true]
      refine ⟨withinB_iff.2 ?_, ?_⟩
      · rw [num_cast hk]; have := hlt k hk; omega
      · rcases Nat.eq_zero_or_pos k with h0 | h0
        · left; simpa using h0
        · right; exact decide_eq_true (hasc k h0 hk)
    have hbx : ∀ k, k < ns.length → setX c l ds (ns.map fun k : Nat => (k : Int)) k = true := fun k hk => by
      rw [setX_aft (num_cast hk) (fun h0 => ⟨by rw [num_cast (by omega)]; omega, hasc k h0 hk⟩), hpv k hk]
      have hpb : prev (-1) ns k < ds.length := by
        unfold prev
        split
        · omega
        · have := hlt (k - 1) (by omega); omega
      rw [aft_fol (hlt k hk) hpb, Bool.and_eq_true]
      exact (h2 k hk).2
    simp only [setB, set1, ascB, Bool.and_eq_true, List.all_eq_true]
    refine ⟨h1, ?_, fun k hk => hax k (by rw [hll] at hk; exact List.mem_range.1 hk), fun k hk => hbx k (by rw [hll] at hk; exact List.mem_range.1 hk), ?_⟩
    · cases ns with
      | nil => exact absurd rfl hne
      | cons _ _ => rfl
    · unfold topB hL
      rw [decide_eq_true_eq, hll, num_cast (by omega), Int.toNat_natCast]
      have := hlt (ns.length - 1) (by omega)
      rw [ft_hgt this] at h3
      change c.to - c.la ≤ _ + (c.le - c.la) at h3
      omega
theorem set_nat {c : Clb} {l : List J} {ds ls : List Int} (h : setB c l ds ls = true) : ∃ ns : List Nat, ls = ns.map fun k : Nat => (k : Int) := by
  simp only [setB, Bool.and_eq_true] at h
  have has := ascB_spec h.2.2.1
  refine ⟨ls.map Int.toNat, ?_⟩
  rw [List.map_map]
  apply List.ext_getElem (by simp)
  intro k h1 h2
  have := (has.1 k h1).1
  simp only [num, List.getElem?_eq_getElem h1, Option.getD_some] at this
  simp only [List.getElem_map, Function.comp]
  omega
/-- The fewest ladders. -/
def ladO (c : Clb) (l : List J) (ds : List Int) : Option (List Int) := few (lc c) (ft c l ds)
def ladE (c : Clb) (l : List J) (ds : List Int) : Int := if vC c && vJ l then (if rightB c l ds then (if (ladO c l ds).isSome then 0 else 8) else 10) else 1
def ladV (c : Clb) (l : List J) (ds : List Int) : List Int := if rightB c l ds then (ladO c l ds).getD [] else []
/-- What the law asks. -/
theorem lad_law {c : Clb} {l : List J} {ds ls : List Int} : (ladE c l ds = 0 → setB c l ds (ladV c l ds) = true) ∧ (setB c l ds ls = true → ladE c l ds = 0 ∧ (ladV c l ds).length ≤ ls.length) := by
  constructor
  · intro h
    unfold ladE at h
    split at h
    · split at h
      · rename_i hr
        split at h
        · rename_i hs
          obtain ⟨ns, h1, h2, -⟩ := few_best (few_iff.1 hs)
          unfold ladV ladO
          rw [if_pos hr, h1]
          exact set_path.2 ⟨hr, h2⟩
        · cases h
      · cases h
    · cases h
  · intro h
    obtain ⟨ns, rfl⟩ := set_nat h
    obtain ⟨hr, hp⟩ := set_path.1 h
    obtain ⟨ms, h1, h2, h3⟩ := few_best (c := lc c) (l := ft c l ds) ⟨ns, hp⟩
    unfold ladE ladV ladO
    rw [right_valid hr, if_pos rfl, if_pos hr, if_pos hr, h1]
    refine ⟨rfl, ?_⟩
    have := (h3 ns hp).1
    simpa using this
end Go.Proofs.Ytgapnhpmgidmhaa
