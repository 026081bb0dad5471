/- Joined by merge.py from: CurL Cur3. -/
import Derived.Test.YtloogollfconpaaCur2
import Derived.Test.YtloogollfconpaaNetL
import Derived.Test.YtloogollfconpaaMetricM
set_option linter.unusedSimpArgs false
set_option linter.unusedVariables false
namespace Go.Proofs.Ytloogollfconpaa
open Go.RowKit

section
variable {R : List Int} {c : Int} {l : List Tp}
def posN (R : List Int) (c : Int) (l : List Tp) (i : Nat) : Nat := (nearN R c l i).length
theorem nearN_yes {k : Nat} (h : at6 R (tpA l k).1 = c) : nearN R c l (k + 1) = nearN R c l k ++ [k] := by simp [nearN, List.range_succ, List.filter_append, h]
theorem nearN_no {k : Nat} (h : at6 R (tpA l k).1 ≠ c) : nearN R c l (k + 1) = nearN R c l k := by simp [nearN, List.range_succ, List.filter_append, h]
theorem pos_get {i : Nat} (h : at6 R (tpA l i).1 = c) : ∀ d, (nearN R c l (i + 1 + d))[posN R c l i]? = some i := by
  intro d
  induction d with
  | zero => rw [Nat.add_zero, nearN_yes h]; unfold posN; rw [List.getElem?_append_right (Nat.le_refl _)]; simp
  | succ d ih =>
    have hlt := (List.getElem?_eq_some_iff.1 ih).1
    rw [← Nat.add_assoc]
    by_cases hk : at6 R (tpA l (i + 1 + d)).1 = c
    · rw [nearN_yes hk, List.getElem?_append_left hlt]; exact ih
    · rw [nearN_no hk]; exact ih
theorem posK_get {i : Nat} (h : at6 R (tpA l i).1 = c) : ∀ d, i + 1 + d ≤ l.length → (nearK R c l (i + 1 + d))[posN R c l i]? = some (tpA l i) := by
  intro d
  have hp : posN R c l i = (nearK R c l i).length → True := fun _ => trivial
  induction d with
  | zero =>
    intro hl
    rw [Nat.add_zero, (nearK_yes (k := i) (by omega) h).1, show posN R c l i = (nearK R c l i).length from nearN_len R c l i (by omega), List.getElem?_append_right (Nat.le_refl _)]
    simp
  | succ d ih =>
    intro hl
    have ih := ih (by omega)
    have hlt := (List.getElem?_eq_some_iff.1 ih).1
    rw [← Nat.add_assoc]
    by_cases hk : at6 R (tpA l (i + 1 + d)).1 = c
    · rw [(nearK_yes (k := i + 1 + d) (by omega) hk).1, List.getElem?_append_left hlt]; exact ih
    · rw [(nearK_no (k := i + 1 + d) (by omega) hk).1]; exact ih
theorem pos_inv : ∀ (k p : Nat) (h : p < (nearN R c l k).length), at6 R (tpA l ((nearN R c l k)[p]?.getD 0)).1 = c ∧ posN R c l ((nearN R c l k)[p]?.getD 0) = p := by
  intro k
  induction k with
  | zero => intro p h; simp [nearN] at h
  | succ k ih =>
    intro p h
    by_cases hk : at6 R (tpA l k).1 = c
    · rw [nearN_yes hk] at h ⊢
      by_cases hp : p < (nearN R c l k).length
      · rw [List.getElem?_append_left hp]; exact ih p hp
      · have hp' : p = (nearN R c l k).length := by rw [List.length_append, List.length_cons, List.length_nil] at h; omega
        subst hp'
        rw [List.getElem?_append_right (Nat.le_refl _)]
        simp [hk, posN]
    · rw [nearN_no hk] at h ⊢
      exact ih p h
theorem outK_get (F : Nat → Int) (T : Int) : ∀ p, p ≤ (nearN R c l l.length).length → ∀ i, i < l.length →
    (outK l.length (nearN R c l l.length) F T p)[i]? = some (if at6 R (tpA l i).1 = c ∧ posN R c l i < p then (lowN (F (posN R c l i)) T, lowD (F (posN R c l i)) T) else (0, 1)) := by
  intro p
  induction p with
  | zero => intro _ i hi; show (List.replicate _ _)[i]? = _; rw [if_neg (by omega)]; simp [hi]
  | succ p ih =>
    intro hp i hi
    have ih := ih (by omega) i hi
    obtain ⟨q1, q2⟩ := pos_inv l.length p (by omega : p < (nearN R c l l.length).length)
    show ((outK l.length (nearN R c l l.length) F T p).set ((nearN R c l l.length)[p]?.getD 0) (lowN (F p) T, lowD (F p) T))[i]? = _
    by_cases hq : i = (nearN R c l l.length)[p]?.getD 0
    · rw [hq, List.getElem?_set_self (by rw [outK_len, ← hq]; exact hi), if_pos ⟨q1, by omega⟩, q2]
    · rw [List.getElem?_set_ne (Ne.symm hq), ih]
      by_cases hn : at6 R (tpA l i).1 = c
      · have hpi := pos_get hn (l.length - (i + 1))
        rw [show i + 1 + (l.length - (i + 1)) = l.length by omega] at hpi
        have hne : posN R c l i ≠ p := fun e => hq (by rw [← e, hpi]; rfl)
        by_cases h2 : posN R c l i < p
        · rw [if_pos ⟨hn, h2⟩, if_pos ⟨hn, by omega⟩]
        · rw [if_neg (fun h => h2 h.2), if_neg (fun h => h2 (by omega))]
      · rw [if_neg (fun h => hn h.1), if_neg (fun h => hn h.1)]
/-- Sums over the near tapes. -/
theorem sum_near {h g : Nat → Int} {N : Nat} (h1 : ∀ i, i < N → at6 R (tpA l i).1 = c → h i = g (posN R c l i)) (h0 : ∀ i, i < N → at6 R (tpA l i).1 ≠ c → h i = 0) : ∀ k, k ≤ N → sumTo h k = sumTo g (nearN R c l k).length := by
  intro k
  induction k with
  | zero => intro _; rfl
  | succ k ih =>
    intro hkN
    show sumTo h k + h k = _
    by_cases hk : at6 R (tpA l k).1 = c
    · rw [nearN_yes hk, List.length_append, ih (by omega), h1 k (by omega) hk]; rfl
    · rw [nearN_no hk, ih (by omega), h0 k (by omega) hk, Int.add_zero]
end
theorem sumTo_front (f : Nat → Int) : ∀ n, sumTo f (n + 1) = f 0 + sumTo (fun i => f (i + 1)) n := by
  intro n
  induction n with
  | zero => show 0 + f 0 = f 0 + 0; omega
  | succ n ih => show sumTo f (n + 1) + f (n + 1) = f 0 + (sumTo (fun i => f (i + 1)) n + f (n + 1)); rw [ih]; omega
theorem picks_sum : ∀ (P : List Tp) (h : Tp × List Tp → Int), lsum h (picks P) = sumTo (fun p => h (tpA P p, P.eraseIdx p)) P.length := by
  intro P
  induction P with
  | nil => intro h; rfl
  | cons t l ih =>
    intro h
    rw [picks_cons, ih, List.length_cons, sumTo_front]
    congr 1
theorem picks_at : ∀ {P : List Tp} {p : Nat}, p < P.length → (tpA P p, P.eraseIdx p) ∈ picks P := by
  intro P
  induction P with
  | nil => intro p h; simp at h
  | cons t l ih =>
    intro p h
    cases p with
    | zero => exact List.mem_cons_self ..
    | succ p =>
      have := ih (p := p) (by simpa using h)
      rw [tpA_succ]
      exact List.mem_cons_of_mem _ (List.mem_map_of_mem (f := fun q : Tp × List Tp => (q.1, t :: q.2)) this)
/-- The current in the tape i, times the trees of the part. -/
def curF (l : List Tp) (a b : Int) (i : Nat) : Int :=
  if a ≠ b ∧ at6 (full l R0) (tpA l i).1 = at6 (full l R0) a then flo (cls l a - 1 - 1) ((near l a).eraseIdx (posN (full l R0) (at6 (full l R0) a) l i)) (tpA l i) a b else 0
def curL (l : List Tp) (a b : Int) : List (Int × Int) := (List.range l.length).map fun i => (lowN (curF l a b i) (treesN l a), lowD (curF l a b i) (treesN l a))
theorem low_zero {d : Int} (hd : 1 ≤ d) : lowN 0 d = 0 ∧ lowD 0 d = 1 := by
  have e : (Int.gcd 0 d : Int) = d := by rw [Int.gcd_zero_left]; omega
  unfold lowN lowD
  rw [e]
  exact ⟨by simp, Int.ediv_self (by omega)⟩
theorem low_whole' (n : Int) (hn : 1 ≤ n) : lowN n n = 1 ∧ lowD n n = 1 := by
  have e : (Int.gcd n n : Int) = n := by rw [Int.gcd_self]; omega
  unfold lowN lowD
  rw [e]
  exact ⟨Int.ediv_self (by omega), Int.ediv_self (by omega)⟩
theorem near_all (l : List Tp) (a : Int) : nearK (full l R0) (at6 (full l R0) a) l l.length = near l a := by unfold nearK near; rw [List.take_of_length_le (Nat.le_refl _)]
theorem near_pos {l : List Tp} {a : Int} {i : Nat} (hi : i < l.length) (h : at6 (full l R0) (tpA l i).1 = at6 (full l R0) a) :
    posN (full l R0) (at6 (full l R0) a) l i < (near l a).length ∧ tpA (near l a) (posN (full l R0) (at6 (full l R0) a) l i) = tpA l i := by
  have h1 := posK_get h (l.length - (i + 1)) (by omega)
  rw [show i + 1 + (l.length - (i + 1)) = l.length by omega, near_all] at h1
  refine ⟨(List.getElem?_eq_some_iff.1 h1).1, ?_⟩
  show (near l a)[_]?.getD (0, 0, 0) = _
  rw [h1]; rfl
theorem curO_eq {l : List Tp} (hl : okL l) {a b : Int} (ha : nod a) (hab : a ≠ b) : curO l a b (near l a).length = curL l a b := by
  have ht := trees_pos hl ha
  have hn : (near l a).length = (nearN (full l R0) (at6 (full l R0) a) l l.length).length := by rw [nearN_len _ _ _ _ (Nat.le_refl _), near_all]
  apply List.ext_getElem?
  intro i
  by_cases hi : i < l.length
  · unfold curO
    rw [hn, outK_get _ _ _ (Nat.le_refl _) i hi]
    unfold curL
    rw [List.getElem?_map, List.getElem?_range hi, Option.map_some]
    congr 1
    unfold curF
    by_cases h : at6 (full l R0) (tpA l i).1 = at6 (full l R0) a
    · obtain ⟨p1, p2⟩ := near_pos hi h
      rw [if_pos ⟨h, by rw [← hn]; exact p1⟩, if_pos ⟨hab, h⟩, p2]
    · rw [if_neg (fun g => h g.1), if_neg (fun g => h g.2), (low_zero ht).1, (low_zero ht).2]
  · rw [List.getElem?_eq_none (by unfold curO; rw [outK_len]; omega), List.getElem?_eq_none (by unfold curL; simp; omega)]
theorem curL_same {l : List Tp} (hl : okL l) {a : Int} (ha : nod a) : List.replicate l.length ((0 : Int), (1 : Int)) = curL l a a := by
  have ht := trees_pos hl ha
  apply List.ext_getElem?
  intro i
  unfold curL
  by_cases hi : i < l.length
  · rw [List.getElem?_map, List.getElem?_range hi, Option.map_some]
    unfold curF
    rw [if_neg (fun h => h.1 rfl), (low_zero ht).1, (low_zero ht).2]
    simp [hi]
  · rw [List.getElem?_eq_none (by simp; omega), List.getElem?_eq_none (by simp; omega)]
theorem curL_len (l : List Tp) (a b : Int) : (curL l a b).length = l.length := by simp [curL]
theorem curL_get {l : List Tp} {a b : Int} {i : Nat} (hi : i < l.length) : (curL l a b)[i]?.getD (0, 0) = (lowN (curF l a b i) (treesN l a), lowD (curF l a b i) (treesN l a)) := by simp [curL, hi]
/-- Two nodes of one class: it has a tape. -/
theorem cls_two {l : List Tp} {a b : Int} (ha : nod a) (hb : nod b) (hab : a ≠ b) (h : at6 (full l R0) a = at6 (full l R0) b) : 2 ≤ cls l a := by
  obtain ⟨a0, a1⟩ := ha
  obtain ⟨b0, b1⟩ := hb
  unfold cls cnt6
  have key : ∀ x, one6 (fun x => at6 (full l R0) x = at6 (full l R0) a) x ≥ (if x = a ∨ x = b then 1 else 0) := by
    intro x
    unfold one6
    by_cases hx : x = a ∨ x = b
    · rw [if_pos hx, if_pos (by rcases hx with rfl | rfl; exact rfl; exact h.symm)]; exact Nat.le_refl _
    · rw [if_neg hx]; exact Nat.zero_le _
  have k0 := key 0
  have k1 := key 1
  have k2 := key 2
  have k3 := key 3
  have k4 := key 4
  have k5 := key 5
  have ha' : a = 0 ∨ a = 1 ∨ a = 2 ∨ a = 3 ∨ a = 4 ∨ a = 5 := by omega
  have hb' : b = 0 ∨ b = 1 ∨ b = 2 ∨ b = 3 ∨ b = 4 ∨ b = 5 := by omega
  generalize one6 (fun x => at6 (full l R0) x = at6 (full l R0) a) 0 = y0 at *
  generalize one6 (fun x => at6 (full l R0) x = at6 (full l R0) a) 1 = y1 at *
  generalize one6 (fun x => at6 (full l R0) x = at6 (full l R0) a) 2 = y2 at *
  generalize one6 (fun x => at6 (full l R0) x = at6 (full l R0) a) 3 = y3 at *
  generalize one6 (fun x => at6 (full l R0) x = at6 (full l R0) a) 4 = y4 at *
  generalize one6 (fun x => at6 (full l R0) x = at6 (full l R0) a) 5 = y5 at *
  clear key h
  rcases ha' with rfl | rfl | rfl | rfl | rfl | rfl <;> rcases hb' with rfl | rfl | rfl | rfl | rfl | rfl <;> simp at k0 k1 k2 k3 k4 k5 hab <;> omega
theorem curF_bd {l : List Tp} (hl : okL l) {a b : Int} (ha : nod a) (hb : nod b) (h : at6 (full l R0) a = at6 (full l R0) b) {i : Nat} (hi : i < l.length) : -(treesN l a) ≤ curF l a b i ∧ curF l a b i ≤ treesN l a := by
  have ht := trees_pos hl ha
  unfold curF
  by_cases hc : a ≠ b ∧ at6 (full l R0) (tpA l i).1 = at6 (full l R0) a
  · rw [if_pos hc]
    obtain ⟨p1, p2⟩ := near_pos hi hc.2
    have h2 := cls_two ha hb hc.1 h
    have := flow_bd (k := cls l a - 1 - 1) (near_ok hl a) p1 a b
    rw [p2, show cls l a - 1 - 1 + 1 = cls l a - 1 by omega] at this
    exact this
  · rw [if_neg hc]; omega
/-- The law of nodes. -/
theorem cur_node {l : List Tp} (hl : okL l) {a b : Int} (ha : nod a) (hb : nod b) (h : at6 (full l R0) a = at6 (full l R0) b) (φ : Int → Int) :
    sumTo (fun i => (φ (tpA l i).1 - φ (tpA l i).2.1) * curF l a b i) l.length = if a = b then 0 else treesN l a * (φ a - φ b) := by
  by_cases hab : a = b
  · rw [if_pos hab]
    rw [sumTo_congr (h' := fun _ => 0) (fun i _ => by unfold curF; rw [if_neg (fun g => g.1 hab), Int.mul_zero])]
    exact sumTo_zero _
  · rw [if_neg hab]
    have h2 := cls_two ha hb hab h
    have hok := near_ok hl a
    have hrk := near_rk hl ha
    have hjn : at6 (full (near l a) R0) a = at6 (full (near l a) R0) b := ((near_labels hl ha).1 b hb h.symm).symm
    have key := node_law hok (k := cls l a - 1 - 1) (by omega) ha hb hjn φ
    have hT : TT (near l a) = treesN l a := by unfold TT; rw [hrk]; rfl
    rw [hT, picks_sum] at key
    rw [← key]
    have hn : (near l a).length = (nearN (full l R0) (at6 (full l R0) a) l l.length).length := by rw [nearN_len _ _ _ _ (Nat.le_refl _), near_all]
    rw [hn]
    refine sum_near (N := l.length) (fun i hi hc => ?_) (fun i hi hc => ?_) l.length (Nat.le_refl _)
    · obtain ⟨p1, p2⟩ := near_pos hi hc
      unfold curF
      rw [if_pos ⟨hab, hc⟩]
      dsimp only
      rw [p2]
    · unfold curF
      rw [if_neg (fun g => hc g.2), Int.mul_zero]
/-! ### Bridges -/
theorem flo_own {k : Nat} {m : List Tp} {e : Tp} : flo k m e e.1 e.2.1 = sumL (apt e.1 e.2.1) k m R0 := by
  unfold flo
  rw [sumL_congr (P := pos e e.1 e.2.1) (P' := apt e.1 e.2.1) (fun r => by unfold pos; simp), sumL_ff (P := neg e e.1 e.2.1) (fun r => by unfold neg apt; by_cases h : at6 r e.1 = at6 r e.2.1 <;> simp [h]), Int.sub_zero]
/-- All trees hold a tape exactly if its ends are apart without it. -/
theorem all_hold {e : Tp} {m : List Tp} (hl : okL (e :: m)) {k : Nat} (hk : rk (e :: m) = k + 1) : sumL (apt e.1 e.2.1) k m R0 = TT (e :: m) ↔ at6 (full m R0) e.1 ≠ at6 (full m R0) e.2.1 := by
  have ho := okL_head hl
  have hm := okL_tail hl
  have e12 : e.1 ≠ e.2.1 := by have := ho.2.2.1; omega
  have hT : TT (e :: m) = e.2.2 * sumL tt (k + 1) m R0 + sumL (apt e.1 e.2.1) k m R0 := by
    unfold TT
    rw [hk, sumL_cons, if_neg (by rw [at6_R0 ho.1, at6_R0 ho.2.1]; exact e12)]
    congr 1
    show sumL tt k m (mgL R0 e) = _
    rw [sumL_contract ho.1 ho.2.1 hm k R0 lab_R0 (by rw [at6_R0 ho.1, at6_R0 ho.2.1]; exact e12)]
    exact sumL_congr (fun r => by simp [tt]) _ _ _
  have h1 : 0 ≤ sumL tt (k + 1) m R0 := sumL_nonneg hm _ _
  have ho5 := ho.2.2.2.1
  rcases rk_cons hl with ⟨h2, -, h3⟩ | ⟨h2, h3⟩
  · have h4 : 1 ≤ sumL tt (k + 1) m R0 := by
      have := TT_pos hm
      unfold TT at this
      rw [← h3, hk] at this
      exact this
    have h5 : 1 * 1 ≤ e.2.2 * sumL tt (k + 1) m R0 := Int.mul_le_mul ho5 h4 (by omega) (by omega)
    constructor
    · intro h; omega
    · intro h; exact absurd h2 h
  · have h4 : sumL tt (k + 1) m R0 = 0 := over_rk hm (by omega)
    rw [h4, Int.mul_zero, Int.zero_add] at hT
    exact ⟨fun _ => h2, fun _ => hT.symm⟩
theorem cur_bridge {l : List Tp} (hl : okL l) {i : Nat} (hi : i < l.length) : curF l (tpA l i).1 (tpA l i).2.1 i = treesN l (tpA l i).1 ↔ at6 (full (l.eraseIdx i) R0) (tpA l i).1 ≠ at6 (full (l.eraseIdx i) R0) (tpA l i).2.1 := by
  have hmem : tpA l i ∈ l := by unfold tpA; rw [List.getElem?_eq_getElem hi]; exact List.getElem_mem hi
  have ho := hl _ hmem
  have hj := full_tape hl (r := R0) rfl _ hmem
  have hab : (tpA l i).1 ≠ (tpA l i).2.1 := by have := ho.2.2.1; omega
  have h2 := cls_two ho.1 ho.2.1 hab hj
  obtain ⟨p1, p2⟩ := near_pos (a := (tpA l i).1) hi rfl
  have hF : curF l (tpA l i).1 (tpA l i).2.1 i = flo (cls l (tpA l i).1 - 1 - 1) ((near l (tpA l i).1).eraseIdx (posN (full l R0) (at6 (full l R0) (tpA l i).1) l i)) (tpA l i) (tpA l i).1 (tpA l i).2.1 := by unfold curF; rw [if_pos ⟨hab, rfl⟩]
  rw [hF]
  -- the part
  have hok := near_ok hl (tpA l i).1
  have hrk := near_rk hl ho.1
  have hjn : at6 (full (near l (tpA l i).1) R0) (tpA l i).1 = at6 (full (near l (tpA l i).1) R0) (tpA l i).2.1 := ((near_labels hl ho.1).1 _ ho.2.1 hj.symm).symm
  have hp := picks_at p1
  rw [p2] at hp
  have v1 := vol_law hok (k := cls l (tpA l i).1 - 1 - 1) (by omega) ho.1 ho.2.1 hjn hp
  dsimp only at v1
  rw [vol_a, vol_b, Int.sub_zero] at v1
  have hU : sumL (apt (tpA l i).1 (tpA l i).2.1) (cls l (tpA l i).1 - 1 - 1) (near l (tpA l i).1) R0 = twosN l (tpA l i).1 (tpA l i).1 (tpA l i).2.1 := by
    unfold twosN; rw [if_neg (by omega)]; rfl
  rw [hU] at v1
  -- the whole net
  have hpm := picks_at hi
  have hperm := picks_perm hpm
  dsimp only at hperm
  have hokc : okL (tpA l i :: l.eraseIdx i) := fun t ht => hl t (hperm.mem_iff.2 ht)
  have hrk0 : rk l = rk (tpA l i :: l.eraseIdx i) := by unfold rk; rw [full_perm hperm hl R0 lab_R0]
  have hrp : 1 ≤ rk l := by
    rw [hrk0]
    have h3 := labs_full_cons (okL_tail hokc) ho.1 ho.2.1 lab_R0
    rcases rk_cons hokc with ⟨g1, g2, g3⟩ | ⟨g1, g3⟩
    · rcases Nat.eq_zero_or_pos (rk (l.eraseIdx i)) with h0 | h0
      · exfalso
        have h5 : full (l.eraseIdx i) R0 = R0 := full_still (okL_tail hokc) lab_R0 (by rw [labs_R0]; unfold rk at h0; have := labs_le6 (r := full (l.eraseIdx i) R0); omega)
        rw [h5, at6_R0 ho.1, at6_R0 ho.2.1] at g1
        exact hab g1
      · omega
    · omega
  obtain ⟨K, hK⟩ : ∃ K, rk l = K + 1 := ⟨rk l - 1, by omega⟩
  have v2 := vol_law hl hK ho.1 ho.2.1 hj hpm
  dsimp only at v2
  rw [vol_a, vol_b, Int.sub_zero] at v2
  have hUU : sumL (apt (tpA l i).1 (tpA l i).2.1) K l R0 = UU l (tpA l i).1 (tpA l i).2.1 := by unfold UU; rw [if_neg (by omega), hK]; rfl
  rw [hUU, flo_own] at v2
  obtain ⟨c, hc, c1, c2⟩ := near_factor hl ho.1
  have c3 := c2 _ _ ho.1 ho.2.1 rfl hj.symm
  have hTT : TT (tpA l i :: l.eraseIdx i) = TT l := by unfold TT; rw [← hrk0]; exact (sumL_perm hperm hl _ R0 lab_R0).symm
  have hb := all_hold hokc (k := K) (by rw [← hrk0]; exact hK)
  rw [hTT] at hb
  rw [← hb]
  have ho5 := ho.2.2.2.1
  generalize flo (cls l (tpA l i).1 - 1 - 1) ((near l (tpA l i).1).eraseIdx (posN (full l R0) (at6 (full l R0) (tpA l i).1) l i)) (tpA l i) (tpA l i).1 (tpA l i).2.1 = f at *
  generalize sumL (apt (tpA l i).1 (tpA l i).2.1) K (l.eraseIdx i) R0 = g at *
  rw [c3, ← v1] at v2
  rw [c1]
  generalize treesN l (tpA l i).1 = T at *
  generalize (tpA l i).2.2 = o at *
  -- o * g = o * f * c
  have h6 : g = f * c := by
    have : o * g = o * (f * c) := by rw [v2, Int.mul_assoc]
    exact Int.eq_of_mul_eq_mul_left (by omega) this
  rw [h6]
  constructor
  · intro h; rw [h]
  · intro h; exact Int.eq_of_mul_eq_mul_right (by omega) h
theorem low_is_one {n d : Int} (hd : 1 ≤ d) : (lowN n d = 1 ∧ lowD n d = 1) ↔ n = d := by
  have h1 := lowN_mul n d
  have h2 := lowD_mul n d
  constructor
  · rintro ⟨e1, e2⟩
    rw [e1] at h1; rw [e2] at h2; omega
  · intro e
    subst e
    have := low_whole' n hd
    exact this
end Go.Proofs.Ytloogollfconpaa

namespace Go.Proofs.Ytloogollfconpaa
open Go.RowKit
attribute [local go_sem] Later.cell Same.cell

/-- What Currents hands back: none, or a row. -/
def CurV (w : World) (E : Int) (len : Nat) (L : List (Int × Int)) (v : Value) (w' : World) : Prop :=
  (E = 0 → ∃ g, v = .slice (some ⟨g, 0, none⟩) len len ∧ w.heap.size ≤ g ∧ CA w' g (pcells L)) ∧ (E ≠ 0 → v = .slice none 0 0)
end Go.Proofs.Ytloogollfconpaa
