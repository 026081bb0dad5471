/- The law of nodes in small nets: plain facts. -/
import Derived.Test.YtpfhfmnlojigpaaCurL
set_option linter.unusedSimpArgs false
set_option linter.unusedVariables false
namespace Go.Proofs.Ytpfhfmnlojigpaa
open Go.RowKit

/-- Fractions of the same value have the same lowest terms. -/
theorem lowB_same {n d m e : Int} (hd : 1 ≤ d) (he : 1 ≤ e) (h : n * e = m * d) : lowN n d = lowN m e ∧ lowD n d = lowD m e := by
  have key : ∀ {n d k : Int}, 1 ≤ d → 1 ≤ k → lowN (n * k) (d * k) = lowN n d ∧ lowD (n * k) (d * k) = lowD n d := by
    intro n d k hd hk
    have e : (Int.gcd (n * k) (d * k) : Int) = (Int.gcd n d : Int) * k := by
      rw [Int.gcd_mul_right]; push_cast; rw [Int.natAbs_of_nonneg (by omega)]
    unfold lowN lowD
    rw [e]
    exact ⟨Int.mul_ediv_mul_of_pos_left _ _ (by omega), Int.mul_ediv_mul_of_pos_left _ _ (by omega)⟩
  obtain ⟨a1, a2⟩ := key (n := n) (d := d) (k := e) hd he
  obtain ⟨b1, b2⟩ := key (n := m) (d := e) (k := d) he hd
  rw [h] at a1 a2
  rw [Int.mul_comm d e] at a1 a2
  exact ⟨a1.symm.trans b1, a2.symm.trans b2⟩
theorem sumL_le7 {P : List Int → Bool} {l : List Tp} (h : okL l) (h6 : ∀ t, t ∈ l → t.2.2 ≤ 6) : ∀ k r, sumL P k l r ≤ 7 ^ l.length := by
  induction l with
  | nil => intro k r; show (if _ then (1 : Int) else 0) ≤ 1; split <;> omega
  | cons t l ih =>
    intro k r
    have hl : okL l := fun u hu => h u (List.mem_cons_of_mem _ hu)
    have ih' := ih hl (fun u hu => h6 u (List.mem_cons_of_mem _ hu))
    obtain ⟨-, -, -, h3, -⟩ := h t (List.mem_cons_self ..)
    have h4 := h6 t (List.mem_cons_self ..)
    rw [List.length_cons, Int.pow_succ]
    have h7 := sumL_nonneg (P := P) hl k r
    have h5 : t.2.2 * sumL P k l r ≤ 6 * 7 ^ l.length := Int.mul_le_mul h4 (ih' _ _) h7 (by omega)
    have h8 : 0 ≤ (7 : Int) ^ l.length := by have := ih' k r; omega
    show t.2.2 * sumL P k l r + _ ≤ _
    split
    · omega
    · cases k with
      | zero => show _ + 0 ≤ _; omega
      | succ k => have := ih' k (mgL r t); show _ + sumL P k l (mgL r t) ≤ _; omega
theorem trees_small {l : List Tp} (h : okL l) (h6 : ∀ t, t ∈ l → t.2.2 ≤ 6) (h5 : l.length ≤ 5) {a : Int} (ha : nod a) : 1 ≤ treesN l a ∧ treesN l a ≤ 16807 := by
  refine ⟨trees_pos h ha, ?_⟩
  have h1 := sumL_le7 (P := fun _ => true) (near_ok h a) (fun t ht => h6 t (List.mem_filter.1 ht).1) (cls l a - 1) R0
  have h2 := near_len l a
  have h3 : (near l a).length = 0 ∨ (near l a).length = 1 ∨ (near l a).length = 2 ∨ (near l a).length = 3 ∨ (near l a).length = 4 ∨ (near l a).length = 5 := by omega
  have h4 : (7 : Int) ^ (near l a).length ≤ 16807 := by rcases h3 with e | e | e | e | e | e <;> rw [e] <;> decide
  exact Int.le_trans h1 h4
/-- The sign of a tape at a node. -/
def sgT (v : Int) (t : Tp) : Int := (if t.1 = v then 1 else 0) - (if t.2.1 = v then 1 else 0)
/-- What the currents of the first j tapes add up to at a node, times the trees. -/
def nodS (l : List Tp) (a b v : Int) (j : Nat) : Int := sumTo (fun i => sgT v (tpA l i) * curF l a b i) j
theorem nodS_succ (l : List Tp) (a b v : Int) (j : Nat) : nodS l a b v (j + 1) = nodS l a b v j + sgT v (tpA l j) * curF l a b j := rfl
theorem sgT_cases (v : Int) (t : Tp) : sgT v t = 1 ∨ sgT v t = 0 ∨ sgT v t = -1 := by
  unfold sgT; split <;> split <;> omega
theorem sg_bd {s F T : Int} (hs : s = 1 ∨ s = 0 ∨ s = -1) (h1 : -T ≤ F) (h2 : F ≤ T) : -T ≤ s * F ∧ s * F ≤ T := by
  rcases hs with rfl | rfl | rfl
  · omega
  · omega
  · omega
theorem nodS_bd {l : List Tp} (hl : okL l) {a b : Int} (ha : nod a) (hb : nod b) (h : at6 (full l R0) a = at6 (full l R0) b) (v : Int) : ∀ j, j ≤ l.length → -(treesN l a * j) ≤ nodS l a b v j ∧ nodS l a b v j ≤ treesN l a * j := by
  intro j
  induction j with
  | zero => intro _; show -(treesN l a * 0) ≤ 0 ∧ 0 ≤ treesN l a * 0; simp
  | succ j ih =>
    intro hj
    have h1 := ih (by omega)
    have h2 := curF_bd hl ha hb h (i := j) (by omega)
    have h3 := sg_bd (sgT_cases v (tpA l j)) h2.1 h2.2
    rw [nodS_succ]
    have e : treesN l a * ((j + 1 : Nat) : Int) = treesN l a * j + treesN l a := by rw [Int.natCast_succ, Int.mul_add, Int.mul_one]
    rw [e]
    omega
theorem nodS_all {l : List Tp} (hl : okL l) {a b : Int} (ha : nod a) (hb : nod b) (h : at6 (full l R0) a = at6 (full l R0) b) (v : Int) :
    nodS l a b v l.length = treesN l a * (if a = b then 0 else (if a = v then 1 else 0) - (if b = v then 1 else 0)) := by
  have key := cur_node hl ha hb h (fun x => if x = v then 1 else 0)
  have e : nodS l a b v l.length = sumTo (fun i => ((if (tpA l i).1 = v then (1 : Int) else 0) - (if (tpA l i).2.1 = v then 1 else 0)) * curF l a b i) l.length := rfl
  rw [e, key]
  by_cases hab : a = b
  · rw [if_pos hab, if_pos hab, Int.mul_zero]
  · rw [if_neg hab, if_neg hab]
/-- One more tape. -/
theorem bal_step {S T F s : Int} (hT : 1 ≤ T) : lowN (lowN S T * lowD F T + s * lowN F T * lowD S T) (lowD S T * lowD F T) = lowN (S + s * F) T ∧ lowD (lowN S T * lowD F T + s * lowN F T * lowD S T) (lowD S T * lowD F T) = lowD (S + s * F) T := by
  have d1 := lowD_pos S T hT
  have d2 := lowD_pos F T hT
  have c1 := low_cross S T
  have c2 := low_cross F T
  refine lowB_same (by have := Int.mul_le_mul d1 d2 (by decide) (by omega); omega) hT ?_
  generalize lowN S T = p at *
  generalize lowD S T = q at *
  generalize lowN F T = u at *
  generalize lowD F T = v at *
  have e1 : (p * v + s * u * q) * T = p * T * v + s * (u * T) * q := by rw [Int.add_mul]; congr 1 <;> ac_rfl
  rw [e1, c1, c2, Int.add_mul]
  congr 1 <;> ac_rfl
theorem low_bd {n d : Int} (hd : 1 ≤ d) {N : Int} (h1 : -N ≤ n) (h2 : n ≤ N) : (-N ≤ lowN n d ∧ lowN n d ≤ N) ∧ 1 ≤ lowD n d ∧ lowD n d ≤ d := by
  have h3 := lowN_abs n d hd
  refine ⟨by omega, lowD_pos n d hd, lowD_le n d hd⟩
theorem bal_wrap {p q u v s : Int} (h1 : -100000 ≤ p ∧ p ≤ 100000) (h2 : 1 ≤ q ∧ q ≤ 16807) (h3 : -16807 ≤ u ∧ u ≤ 16807) (h4 : 1 ≤ v ∧ v ≤ 16807) (hs : s = 1 ∨ s = -1) :
    (-2000000000 ≤ p * v ∧ p * v ≤ 2000000000) ∧ (-16807 ≤ s * u ∧ s * u ≤ 16807) ∧ (-300000000 ≤ s * u * q ∧ s * u * q ≤ 300000000) ∧ (1 ≤ q * v ∧ q * v ≤ 300000000) := by
  have k1 : (-16807 ≤ s * u ∧ s * u ≤ 16807) := by rcases hs with rfl | rfl <;> omega
  have bd : ∀ {x y X Y : Int}, -X ≤ x → x ≤ X → 0 ≤ y → y ≤ Y → 0 ≤ X → -(X * Y) ≤ x * y ∧ x * y ≤ X * Y := by
    intro x y X Y g1 g2 g3 g4 g5
    have e1 : x * y ≤ X * y := Int.mul_le_mul_of_nonneg_right g2 g3
    have e2 : -X * y ≤ x * y := Int.mul_le_mul_of_nonneg_right g1 g3
    have e3 : X * y ≤ X * Y := Int.mul_le_mul_of_nonneg_left g4 g5
    rw [Int.neg_mul] at e2
    omega
  have b1 := bd (x := p) (y := v) (X := 100000) (Y := 16807) h1.1 h1.2 (by omega) h4.2 (by decide)
  have b2 := bd (x := s * u) (y := q) (X := 16807) (Y := 16807) k1.1 k1.2 (by omega) h2.2 (by decide)
  have b3 := bd (x := q) (y := v) (X := 16807) (Y := 16807) (by omega) h2.2 (by omega) h4.2 (by decide)
  have b4 : 1 * 1 ≤ q * v := Int.mul_le_mul h2.1 h4.1 (by decide) (by omega)
  omega
theorem low_times {T w : Int} (hT : 1 ≤ T) : lowN (T * w) T = w ∧ lowD (T * w) T = 1 := by
  have h := lowB_same (n := T * w) (d := T) (m := w) (e := 1) hT (by decide) (by rw [Int.mul_one, Int.mul_comm])
  have h1 : lowN w 1 = w ∧ lowD w 1 = 1 := by
    have e : (Int.gcd w 1 : Int) = 1 := by simp
    unfold lowN lowD; rw [e]; simp
  rw [h1.1, h1.2] at h
  exact h
end Go.Proofs.Ytpfhfmnlojigpaa
