/- The program's map of counts, after some joints from the last one on: plain. -/
import Derived.Test.YtjgibipficojaaaDoorNeed
import Derived.Test.YtjgibipficojaaaDoorMapV
set_option linter.unusedSimpArgs false
set_option linter.unusedVariables false
namespace Go.Proofs.YtjgibipficojaaaDoor
open Go.RowKit

/-- What the map of counts holds when it is done. -/
def needM (c : Clb) (l : List J) (q : Int) : Option Int := if 0 ≤ q ∧ 0 < need c l q.toNat then some (need c l q.toNat : Int) else none
theorem needM_nat (c : Clb) (l : List J) (k : Nat) : needM c l (k : Int) = if 0 < need c l k then some (need c l k : Int) else none := by
  unfold needM
  by_cases h : 0 < need c l k
  · rw [if_pos ⟨by omega, by simpa using h⟩, if_pos h]; simp
  · rw [if_neg (by intro hh; exact h (by simpa using hh.2)), if_neg h]
theorem needM_get (c : Clb) (l : List J) (k : Nat) : (needM c l (k : Int)).getD 0 = need c l k := by
  rw [needM_nat]
  split
  · rfl
  · simp; omega
theorem needM_some (c : Clb) (l : List J) (k : Nat) : (needM c l (k : Int)).isSome = decide (0 < need c l k) := by
  rw [needM_nat]
  by_cases h : 0 < need c l k
  · rw [if_pos h, decide_eq_true h]; rfl
  · rw [if_neg h, decide_eq_false h]; rfl
/-- The sound joints from the last one on. -/
def sndRv (l : List J) : List Nat := (sndL l l.length).reverse
theorem mem_sndRv {l : List J} {k : Nat} : k ∈ sndRv l ↔ k < l.length ∧ sndB l k = true := by
  simp [sndRv, sndL]
theorem sndRv_pair (l : List J) : (sndRv l).Pairwise (· > ·) := by
  unfold sndRv sndL
  rw [List.pairwise_reverse]
  exact List.Pairwise.filter _ (List.pairwise_lt_range)
theorem sndRv_take {l : List J} {p D : Nat} (hp : (sndRv l)[p]? = some D) (k : Nat) : k ∈ (sndRv l).take p ↔ (k < l.length ∧ sndB l k = true ∧ D < k) := by
  have hlt : p < (sndRv l).length := (List.getElem?_eq_some_iff.1 hp).1
  have hD : (sndRv l)[p] = D := (List.getElem?_eq_some_iff.1 hp).2
  have hsplit : sndRv l = (sndRv l).take p ++ D :: (sndRv l).drop (p + 1) := by
    have h1 := (List.take_append_drop p (sndRv l)).symm
    rw [List.drop_eq_getElem_cons hlt, hD] at h1
    exact h1
  have hpw := sndRv_pair l
  rw [hsplit] at hpw
  obtain ⟨h1, h2, h3⟩ := List.pairwise_append.1 hpw
  constructor
  · intro hk
    have hm : k ∈ sndRv l := List.mem_of_mem_take hk
    have := mem_sndRv.1 hm
    exact ⟨this.1, this.2, h3 k hk D (by simp)⟩
  · rintro ⟨a1, a2, a3⟩
    have hm : k ∈ sndRv l := mem_sndRv.2 ⟨a1, a2⟩
    rw [hsplit] at hm
    rcases List.mem_append.1 hm with hm | hm
    · exact hm
    · exfalso
      rcases List.mem_cons.1 hm with hm | hm
      · omega
      · have := (List.pairwise_cons.1 h2).1 k hm; omega
/-- The map behind p of them. -/
def mapP (c : Clb) (l : List J) (p : Nat) (q : Int) : Option Int := if q ∈ ((sndRv l).take p).map (fun k : Nat => (k : Int)) then needM c l q else none
/-- A map with a count at one key (0: nothing there). -/
def accM (M : Int → Option Int) (d : Int) (a : Nat) : Int → Option Int := fun q => if q = d then (if a = 0 then none else some (a : Int)) else M q
theorem mapP_zero (c : Clb) (l : List J) : mapP c l 0 = fun _ => none := by funext q; simp [mapP]
theorem mapP_acc {c : Clb} {l : List J} {p D : Nat} (hp : (sndRv l)[p]? = some D) : accM (mapP c l p) D 0 = mapP c l p := by
  funext q
  unfold accM
  by_cases h : q = (D : Int)
  · rw [if_pos h, if_pos rfl, h]
    unfold mapP
    rw [if_neg]
    intro hm
    obtain ⟨k, hk, he⟩ := List.mem_map.1 hm
    have := (sndRv_take hp k).1 hk
    omega
  · rw [if_neg h]
theorem mapP_next {c : Clb} {l : List J} {p D : Nat} (hp : (sndRv l)[p]? = some D) : accM (mapP c l p) D (need c l D) = mapP c l (p + 1) := by
  have hlt : p < (sndRv l).length := (List.getElem?_eq_some_iff.1 hp).1
  have hD : (sndRv l)[p] = D := (List.getElem?_eq_some_iff.1 hp).2
  funext q
  unfold accM mapP
  rw [List.take_succ_eq_append_getElem hlt, hD, List.map_append]
  by_cases h : q = (D : Int)
  · subst h
    have hm : ((D : Int) ∈ List.map (fun k : Nat => (k : Int)) ((sndRv l).take p) ++ List.map (fun k : Nat => (k : Int)) [D]) = True := by simp
    rw [if_pos rfl]
    simp only [hm, if_true, needM_nat]
    by_cases h0 : need c l D = 0
    · rw [if_pos h0, if_neg (by omega)]
    · rw [if_neg h0, if_pos (by omega)]
  · rw [if_neg h]
    have hiff : q ∈ List.map (fun k : Nat => (k : Int)) ((sndRv l).take p) ++ List.map (fun k : Nat => (k : Int)) [D] ↔ q ∈ List.map (fun k : Nat => (k : Int)) ((sndRv l).take p) := by
      simp only [List.mem_append, List.map_cons, List.map_nil, List.mem_cons, List.not_mem_nil, or_false]
      exact ⟨fun hh => hh.elim id (fun e => absurd e h), .inl⟩
    by_cases hm : q ∈ List.map (fun k : Nat => (k : Int)) ((sndRv l).take p)
    · rw [if_pos hm, if_pos (hiff.2 hm)]
    · rw [if_neg hm, if_neg (fun hh => hm (hiff.1 hh))]
theorem mapP_done (c : Clb) (l : List J) : mapP c l (sndRv l).length = needM c l := by
  funext q
  unfold mapP
  rw [List.take_length]
  split
  · rfl
  · rename_i h
    unfold needM
    rw [if_neg]
    rintro ⟨h1, h2⟩
    apply h
    have := need_snd h2
    exact List.mem_map.2 ⟨q.toNat, mem_sndRv.2 this, by omega⟩
theorem acc_upd (M : Int → Option Int) (d : Int) (a v : Nat) (hv : 0 < v) : upd (accM M d a) d (v : Int) = accM M d v := by
  funext q
  unfold upd accM
  by_cases h : q = d
  · rw [if_pos h, if_pos h, if_neg (by omega)]
  · rw [if_neg h, if_neg h, if_neg h]
theorem acc_same (M : Int → Option Int) (d : Int) (a : Nat) : ((accM M d a) d).getD 0 = (a : Int) := by
  unfold accM
  rw [if_pos rfl]
  split
  · rename_i h; rw [h]; rfl
  · rfl
theorem acc_other {c : Clb} {l : List J} {p r D K a : Nat} (hp : (sndRv l)[p]? = some D) (hr : (sndRv l)[r]? = some K) (hrp : r < p) : accM (mapP c l p) D a (K : Int) = needM c l K ∧ D < K ∧ K < l.length := by
  have hm : K ∈ (sndRv l).take p := by
    have hlt := (List.getElem?_eq_some_iff.1 hr).1
    refine List.mem_iff_getElem?.2 ⟨r, ?_⟩
    rw [List.getElem?_take, if_pos hrp]; exact hr
  have h3 := (sndRv_take hp K).1 hm
  refine ⟨?_, h3.2.2, h3.1⟩
  unfold accM mapP
  rw [if_neg (by omega), if_pos (List.mem_map.2 ⟨K, hm, rfl⟩)]
/-- How the count of one joint stands when r of the later ones were looked at. -/
def CntAt (c : Clb) (l : List J) (D r a : Nat) : Prop := (c.to ≤ hgt l D + c.ga ∧ a = 1) ∨ (¬ c.to ≤ hgt l D + c.ga ∧ MinS (fun k => k ∈ (sndRv l).take r ∧ hgt l k - hgt l D ≤ c.ga) (need c l) a)
theorem CntAt.one {c : Clb} {l : List J} {D : Nat} (h : c.to ≤ hgt l D + c.ga) : CntAt c l D 0 1 := .inl ⟨h, rfl⟩
theorem CntAt.zero {c : Clb} {l : List J} {D : Nat} (h : ¬ c.to ≤ hgt l D + c.ga) : CntAt c l D 0 0 := .inr ⟨h, MinS.none fun q hq => by simp at hq⟩
theorem take_iff {l : List J} {r K : Nat} (hr : (sndRv l)[r]? = some K) (q : Nat) : q ∈ (sndRv l).take (r + 1) ↔ q ∈ (sndRv l).take r ∨ q = K := by
  have hlt := (List.getElem?_eq_some_iff.1 hr).1
  have hK := (List.getElem?_eq_some_iff.1 hr).2
  rw [List.take_succ_eq_append_getElem hlt, hK]
  simp
theorem CntAt.skip {c : Clb} {l : List J} {D r a K : Nat} (h : CntAt c l D r a) (hr : (sndRv l)[r]? = some K) (hk : need c l K = 0 ∨ ¬ hgt l K - hgt l D ≤ c.ga) : CntAt c l D (r + 1) a := by
  rcases h with h | ⟨h1, h2⟩
  · exact .inl h
  · refine .inr ⟨h1, h2.same fun q hq => ?_⟩
    rw [take_iff hr]
    constructor
    · rintro ⟨hq1 | rfl, hq2⟩
      · exact ⟨hq1, hq2⟩
      · rcases hk with hk | hk
        · omega
        · exact absurd hq2 hk
    · rintro ⟨hq1, hq2⟩; exact ⟨.inl hq1, hq2⟩
theorem CntAt.low {c : Clb} {l : List J} {D r a K : Nat} (h : CntAt c l D r a) (hr : (sndRv l)[r]? = some K) (hn : 0 < need c l K) (ha : hgt l K - hgt l D ≤ c.ga) (hl : a = 0 ∨ need c l K + 1 < a) : CntAt c l D (r + 1) (need c l K + 1) := by
  rcases h with h | ⟨h1, h2⟩
  · omega
  · refine .inr ⟨h1, h2.low (k := K) (fun q => ?_) hn hl⟩
    rw [take_iff hr]
    constructor
    · rintro ⟨hq1 | rfl, hq2⟩
      · exact .inl ⟨hq1, hq2⟩
      · exact .inr rfl
    · rintro (⟨hq1, hq2⟩ | rfl)
      · exact ⟨.inl hq1, hq2⟩
      · exact ⟨.inr rfl, ha⟩
theorem CntAt.stay {c : Clb} {l : List J} {D r a K : Nat} (h : CntAt c l D r a) (hr : (sndRv l)[r]? = some K) (ha : hgt l K - hgt l D ≤ c.ga) (hl : ¬ (a = 0 ∨ need c l K + 1 < a)) : CntAt c l D (r + 1) a := by
  rcases h with h | ⟨h1, h2⟩
  · exact .inl h
  · refine .inr ⟨h1, h2.stay (k := K) (fun q => ?_) (.inr ⟨by omega, by omega⟩)⟩
    rw [take_iff hr]
    constructor
    · rintro ⟨hq1 | rfl, hq2⟩
      · exact .inl ⟨hq1, hq2⟩
      · exact .inr rfl
    · rintro (⟨hq1, hq2⟩ | rfl)
      · exact ⟨.inl hq1, hq2⟩
      · exact ⟨.inr rfl, ha⟩
theorem CntAt.done {c : Clb} {l : List J} {D p a : Nat} (h : CntAt c l D p a) (hp : (sndRv l)[p]? = some D) : a = need c l D := by
  have hm := mem_sndRv.1 (List.mem_iff_getElem?.2 ⟨p, hp⟩)
  obtain ⟨h1, h2, h3⟩ := need_spec c l D hm.1
  rcases h with ⟨k1, k2⟩ | ⟨k1, k2⟩
  · rw [k2, h2 hm.2 k1]
  · refine k2.unique ((h3 hm.2 k1).same fun q hq => ?_)
    rw [sndRv_take hp]
    have := need_snd hq
    exact ⟨fun hh => ⟨hh.1.2.2, hh.1.1, hh.2⟩, fun hh => ⟨⟨hh.2.1, this.2, hh.1⟩, hh.2.2⟩⟩
theorem CntAt.le {c : Clb} {l : List J} {D r a : Nat} (h : CntAt c l D r a) : a ≤ l.length + 1 := by
  rcases h with h | ⟨_, ⟨h, _⟩ | ⟨k, _, _, h, _⟩⟩
  · omega
  · omega
  · have := need_bd c l k; omega
end Go.Proofs.YtjgibipficojaaaDoor
