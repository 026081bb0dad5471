/- Joined by merge.py from: StepApp NetM NetT OwnT StepSrc JobU. -/
import Derived.Test.YtmionebfepkolaaGreatDoorAppend
import Derived.Deep.AppendLies
import Derived.Deep.RegionLaw
import Derived.WalkKit
import Derived.Test.YtmionebfepkolaaGreatDoorYJi
import Derived.OwnWalk
import Derived.Test.YtmionebfepkolaaGreatDoorJobI
import Derived.Test.YtmionebfepkolaaGreatDoorYJc
import Derived.Shelf.RegionOpenPlain
import Derived.Lib.SliceRun
set_option linter.unusedSimpArgs false
set_option linter.unusedVariables false
namespace Go.Proofs.YtmionebfepkolaaGreatDoor
open Go.RowKit

theorem wp_append_own0 {P : Program} {w : World} {o : Oper} {a : Act} {K : Act → World → Prop} {Q : Exit → Act → World → Prop} (s x : Operand) (t : TypeId)
    (ho : o.op = .call { callee := .builtin .append, args := #[s, x], argTypes := #[t, t] })
    (base : Nat) (e : TypeId) (i : TypeInfo) (z : Value) (size bytes : Nat) (ht : P.underlying t = some (.slice e)) (hi : P.info? e = some i) (hz : i.zero = some z)
    (hsize : i.size = size) (hby : i.bytes = bytes) (hzs : z.cells.size = size) (hsz : 0 < size)
    (v : Value) (n : Nat) (xs : List Value) (hs : a.eval s = v) (hown : w.ownsRow base e size v n xs) (hv : v ≠ .slice none 0 0)
    (ad : Addr) (m c : Nat) (news : List Value) (hx : a.eval x = .slice (some ad) m c) (hl : news.length = m * size) (hnews : ∀ j u, news[j]? = some u → w.cell? (ad.add j) = some u) (h1 : ∀ u ∈ news, u.oneCell' = true)
    (h63 : n + m ≤ maxLen) (hbytes : (n + m) * bytes ≤ 140737488355328) (hbase : base ≤ w.heap.size)
    (h : ∀ g cap w', w'.ownsRow base e size (.slice (some ⟨g, 0, none⟩) (n + m) cap) (n + m) (xs ++ news) → w.grownBy w' v.ownBlock → K (a.put o.dst (.slice (some ⟨g, 0, none⟩) (n + m) cap)) w') : o.wp P a w K Q := by
  obtain ⟨v', w', hr, h2, h3, h4, h5⟩ := run_append_own_at (P := P) w base t o.type e i z size bytes ht hi hz hsize hby hzs hsz v n xs hown ad m c news hl hnews h1 h63 hbytes hbase
  have hv' : v' ≠ .slice none 0 0 := fun hh => hv (h4.1 hh).1
  obtain ⟨g, cap, rfl⟩ : ∃ g cap, v' = .slice (some ⟨g, 0, none⟩) (n + m) cap := by
    rcases h2.2 with ⟨h0, _⟩ | ⟨g, cap, cur, hv, _⟩
    · exact absurd h0 hv'
    · exact ⟨g, cap, hv⟩
  unfold Oper.wp execOp
  simp only [ho, resolve, invoke, builtin, Sem.run_bind, Sem.run_pure, Result.andThen_ok, List.map_toArray, List.map_cons, List.map_nil, hs, hx, hr]
  exact h g cap w' h2 h3
theorem step_append_own0 {P : Program} {w : World} {ops : Array Oper} {o : Oper} {a : Act} {K : Act → World → Prop} {Q : Exit → Act → World → Prop} {E : Prop} (hgd : o.guard = none) (s x : Operand) (t : TypeId)
    (ho : o.op = .call { callee := .builtin .append, args := #[s, x], argTypes := #[t, t] })
    (base : Nat) (e : TypeId) (i : TypeInfo) (z : Value) (size bytes : Nat) (ht : P.underlying t = some (.slice e)) (hi : P.info? e = some i) (hz : i.zero = some z)
    (hsize : i.size = size) (hby : i.bytes = bytes) (hzs : z.cells.size = size) (hsz : 0 < size)
    (v : Value) (n : Nat) (xs : List Value) (hs : a.eval s = v) (hown : w.ownsRow base e size v n xs) (hv : v ≠ .slice none 0 0)
    (ad : Addr) (m c : Nat) (news : List Value) (hx : a.eval x = .slice (some ad) m c) (hl : news.length = m * size) (hnews : ∀ j u, news[j]? = some u → w.cell? (ad.add j) = some u) (h1 : ∀ u ∈ news, u.oneCell' = true)
    (h63 : n + m ≤ maxLen) (hbytes : (n + m) * bytes ≤ 140737488355328) (hbase : base ≤ w.heap.size)
    (h : ∀ g cap w', w'.ownsRow base e size (.slice (some ⟨g, 0, none⟩) (n + m) cap) (n + m) (xs ++ news) → w.grownBy w' v.ownBlock → K (a.put o.dst (.slice (some ⟨g, 0, none⟩) (n + m) cap)) w') :
    if Region.wanted o (yielded ops a.tmps) = true then Oper.wp P o a w K Q else E := by
  have hw : Region.wanted o (yielded ops a.tmps) = true := by simp [Region.wanted, hgd]
  rw [if_pos hw]
  exact wp_append_own0 s x t ho base e i z size bytes ht hi hz hsize hby hzs hsz v n xs hs hown hv ad m c news hx hl hnews h1 h63 hbytes hbase h
end Go.Proofs.YtmionebfepkolaaGreatDoor

namespace Go.Proofs.YtmionebfepkolaaGreatDoor

abbrev Tp := Int × Int × Int
/-- The label of a node. -/
def at6 (r : List Int) (x : Int) : Int := r[x.toNat]?.getD 0
def mg (p q x : Int) : Int := if x = max p q then min p q else x
theorem mg_iff (p q x y : Int) : mg p q x = mg p q y ↔ (x = y ∨ ((x = p ∨ x = q) ∧ (y = p ∨ y = q))) := by
  unfold mg
  split <;> split <;> omega
def mgL (r : List Int) (t : Tp) : List Int := r.map (mg (at6 r t.1) (at6 r t.2.1))
theorem at6_mgL {r : List Int} {t : Tp} {x : Int} (hr : r.length = 6) (h0 : 0 ≤ x) (h1 : x < 6) : at6 (mgL r t) x = mg (at6 r t.1) (at6 r t.2.1) (at6 r x) := by
  unfold at6 mgL
  rw [List.getElem?_map, List.getElem?_eq_getElem (by omega)]; rfl
theorem mgL_len (r : List Int) (t : Tp) : (mgL r t).length = r.length := List.length_map ..
def nod (x : Int) : Prop := 0 ≤ x ∧ x < 6
def okT (t : Tp) : Prop := nod t.1 ∧ nod t.2.1 ∧ t.1 < t.2.1 ∧ 1 ≤ t.2.2 ∧ t.2.2 ≤ 60
/-- Two labellings tell the same nodes from each other. -/
def KEq (r r' : List Int) : Prop := ∀ x y, nod x → nod y → (at6 r x = at6 r y ↔ at6 r' x = at6 r' y)
theorem KEq.refl (r : List Int) : KEq r r := fun _ _ _ _ => Iff.rfl
theorem KEq.symm {r r' : List Int} (h : KEq r r') : KEq r' r := fun x y hx hy => (h x y hx hy).symm
theorem KEq.trans {r r' r'' : List Int} (h : KEq r r') (h' : KEq r' r'') : KEq r r'' := fun x y hx hy => (h x y hx hy).trans (h' x y hx hy)
theorem mgL_iff {r : List Int} {t : Tp} (hr : r.length = 6) {x y : Int} (hx : nod x) (hy : nod y) :
    at6 (mgL r t) x = at6 (mgL r t) y ↔ (at6 r x = at6 r y ∨ ((at6 r x = at6 r t.1 ∨ at6 r x = at6 r t.2.1) ∧ (at6 r y = at6 r t.1 ∨ at6 r y = at6 r t.2.1))) := by
  rw [at6_mgL hr hx.1 hx.2, at6_mgL hr hy.1 hy.2, mg_iff]
theorem KEq.mgL {r r' : List Int} {t : Tp} (hr : r.length = 6) (hr' : r'.length = 6) (h : KEq r r') (h1 : nod t.1) (h2 : nod t.2.1) : KEq (mgL r t) (mgL r' t) := by
  intro x y hx hy
  rw [mgL_iff hr hx hy, mgL_iff hr' hx hy, h x y hx hy, h x _ hx h1, h x _ hx h2, h y _ hy h1, h y _ hy h2]
def R0 : List Int := [0, 1, 2, 3, 4, 5]
theorem at6_R0 {x : Int} (h : nod x) : at6 R0 x = x := by
  obtain ⟨h0, h1⟩ := h
  have : x = 0 ∨ x = 1 ∨ x = 2 ∨ x = 3 ∨ x = 4 ∨ x = 5 := by omega
  rcases this with rfl | rfl | rfl | rfl | rfl | rfl <;> rfl

/-! ### Sets of tapes as bits -/
def bt (s i : Nat) : Bool := s / 2 ^ i % 2 == 1
theorem bt_zero (s : Nat) : bt s 0 = (s % 2 == 1) := by simp [bt]
theorem bt_succ (s i : Nat) : bt s (i + 1) = bt (s / 2) i := by
  unfold bt
  rw [Nat.pow_succ, Nat.mul_comm, ← Nat.div_div_eq_div_mul]
/-- One tape more. -/
def stepR (q : List Int × Bool) (t : Tp) (on : Bool) : List Int × Bool := if on then (mgL q.1 t, q.2 && !(at6 q.1 t.1 == at6 q.1 t.2.1)) else q
def run : List Tp → Nat → List Int × Bool → List Int × Bool
  | [], _, q => q
  | t :: l, s, q => run l (s / 2) (stepR q t (s % 2 == 1))
theorem run_snoc (l : List Tp) (t : Tp) : ∀ (s : Nat) (q : List Int × Bool), run (l ++ [t]) s q = stepR (run l s q) t (bt s l.length) := by
  induction l with
  | nil => intro s q; show stepR q t _ = stepR q t _; rw [List.length_nil, bt_zero]
  | cons u l ih => intro s q; show run (l ++ [t]) (s / 2) _ = stepR (run l (s / 2) _) t _; rw [ih, List.length_cons, bt_succ]
def jk (l : List Tp) (s k : Nat) : List Int × Bool := run (l.take k) s (R0, true)
def tpA (l : List Tp) (k : Nat) : Tp := l[k]?.getD (0, 0, 0)
theorem take_snoc {l : List Tp} {k : Nat} (h : k < l.length) : l.take (k + 1) = l.take k ++ [tpA l k] := by
  rw [List.take_succ_eq_append_getElem h]
  unfold tpA
  rw [List.getElem?_eq_getElem h]; rfl
theorem jk_succ {l : List Tp} {s k : Nat} (h : k < l.length) : jk l s (k + 1) = stepR (jk l s k) (tpA l k) (bt s k) := by
  unfold jk
  rw [take_snoc h, run_snoc, List.length_take, Nat.min_eq_left (by omega)]
theorem jk_all (l : List Tp) (s : Nat) : jk l s l.length = run l s (R0, true) := by unfold jk; rw [List.take_length]
theorem stepR_len (q : List Int × Bool) (t : Tp) (on : Bool) : (stepR q t on).1.length = q.1.length := by
  unfold stepR; split
  · exact mgL_len _ _
  · rfl
theorem run_len (l : List Tp) : ∀ (s : Nat) (q : List Int × Bool), (run l s q).1.length = q.1.length := by
  induction l with
  | nil => intro s q; rfl
  | cons t l ih => intro s q; show (run l (s / 2) _).1.length = _; rw [ih, stepR_len]
theorem run_false (l : List Tp) : ∀ (s : Nat) (r : List Int), (run l s (r, false)).2 = false := by
  induction l with
  | nil => intro s r; rfl
  | cons t l ih =>
    intro s r
    show (run l (s / 2) (stepR (r, false) t _)).2 = false
    unfold stepR
    split <;> exact ih _ _
def pcf : Nat → Nat → Nat
  | 0, _ => 0
  | n + 1, s => s % 2 + pcf n (s / 2)
/-- The product of the ohms of the tapes of a set. -/
def wgt : List Tp → Nat → Int
  | [], _ => 1
  | t :: l, s => (if s % 2 = 1 then t.2.2 else 1) * wgt l (s / 2)
theorem wgt_snoc (l : List Tp) (t : Tp) : ∀ s : Nat, wgt (l ++ [t]) s = wgt l s * (if bt s l.length = true then t.2.2 else 1) := by
  induction l with
  | nil => intro s; show (if s % 2 = 1 then t.2.2 else 1) * 1 = 1 * _; rw [List.length_nil, bt_zero]; simp
  | cons u l ih => intro s; show _ * wgt (l ++ [t]) (s / 2) = _ * wgt l (s / 2) * _; rw [ih, List.length_cons, bt_succ, Int.mul_assoc]
def sumTo (h : Nat → Int) : Nat → Int
  | 0 => 0
  | k + 1 => sumTo h k + h k
theorem sumTo_congr {h h' : Nat → Int} : ∀ {n : Nat}, (∀ s, s < n → h s = h' s) → sumTo h n = sumTo h' n := by
  intro n
  induction n with
  | zero => intro _; rfl
  | succ n ih => intro hh; show _ + _ = _ + _; rw [ih (fun s hs => hh s (by omega)), hh n (by omega)]
theorem sumTo_double (h : Nat → Int) : ∀ n, sumTo h (2 * n) = sumTo (fun s => h (2 * s)) n + sumTo (fun s => h (2 * s + 1)) n := by
  intro n
  induction n with
  | zero => rfl
  | succ n ih =>
    show sumTo h (2 * n) + h (2 * n) + h (2 * n + 1) = sumTo _ n + h (2 * n) + (sumTo _ n + h (2 * n + 1))
    rw [ih]; omega
theorem sumTo_mul (c : Int) (h : Nat → Int) : ∀ n, sumTo (fun s => c * h s) n = c * sumTo h n := by
  intro n
  induction n with
  | zero => simp [sumTo]
  | succ n ih => show _ + _ = c * (_ + _); rw [ih, Int.mul_add]
theorem sumTo_add (h h' : Nat → Int) : ∀ n, sumTo (fun s => h s + h' s) n = sumTo h n + sumTo h' n := by
  intro n
  induction n with
  | zero => rfl
  | succ n ih => show _ + (_ + _) = _ + _ + (_ + _); rw [ih]; omega
theorem sumTo_zero : ∀ n, sumTo (fun _ => 0) n = 0 := by
  intro n
  induction n with
  | zero => rfl
  | succ n ih => show _ + 0 = (0 : Int); rw [ih]; rfl
theorem sumTo_nonneg {h : Nat → Int} (hh : ∀ s, 0 ≤ h s) : ∀ n, 0 ≤ sumTo h n := by
  intro n
  induction n with
  | zero => exact Int.le_refl _
  | succ n ih => show 0 ≤ _ + _; have := hh n; omega
theorem sumTo_mono {h : Nat → Int} (hh : ∀ s, 0 ≤ h s) {k n : Nat} (hk : k ≤ n) : sumTo h k ≤ sumTo h n := by
  induction n with
  | zero => rw [show k = 0 by omega]; exact Int.le_refl _
  | succ n ih =>
    by_cases e : k = n + 1
    · rw [e]; exact Int.le_refl _
    · have := ih (by omega); have := hh n; show _ ≤ _ + _; omega
/-- What a set of tapes adds: the ohms of the tapes left out, if it has no circle, just k tapes, and its labels please P. -/
def term (P : List Int → Bool) (k : Nat) (l : List Tp) (q : List Int × Bool) (s : Nat) : Int :=
  if (run l s q).2 = true ∧ pcf l.length s = k ∧ P (run l s q).1 = true then wgt l (2 ^ l.length - 1 - s) else 0
/-- The same sum, a tape at a time. -/
def sumL (P : List Int → Bool) : Nat → List Tp → List Int → Int
  | k, [], r => if k = 0 ∧ P r = true then 1 else 0
  | k, t :: l, r => t.2.2 * sumL P k l r + (if at6 r t.1 = at6 r t.2.1 then 0 else match k with | 0 => 0 | k + 1 => sumL P k l (mgL r t))
theorem sum_term (P : List Int → Bool) : ∀ (l : List Tp) (k : Nat) (r : List Int), sumTo (term P k l (r, true)) (2 ^ l.length) = sumL P k l r := by
  intro l
  induction l with
  | nil =>
    intro k r
    show 0 + term P k [] (r, true) 0 = _
    unfold term sumL
    show 0 + (if true = true ∧ 0 = k ∧ P r = true then (1 : Int) else 0) = _
    by_cases h : k = 0 ∧ P r = true
    · rw [if_pos h, if_pos ⟨rfl, h.1.symm, h.2⟩]; rfl
    · rw [if_neg h, if_neg (fun hh => h ⟨hh.2.1.symm, hh.2.2⟩)]; rfl
  | cons t l ih =>
    intro k r
    rw [List.length_cons, Nat.pow_succ, Nat.mul_comm, sumTo_double]
    have e0 : ∀ s, s < 2 ^ l.length → term P k (t :: l) (r, true) (2 * s) = t.2.2 * term P k l (r, true) s := by
      intro s hs
      unfold term
      have h1 : run (t :: l) (2 * s) (r, true) = run l s (r, true) := by
        show run l (2 * s / 2) (stepR _ _ _) = _
        rw [show 2 * s / 2 = s by omega, show (2 * s % 2 == 1) = false by simp]; rfl
      have h2 : pcf (t :: l).length (2 * s) = pcf l.length s := by
        show 2 * s % 2 + pcf l.length (2 * s / 2) = _
        rw [show 2 * s / 2 = s by omega, show 2 * s % 2 = 0 by omega, Nat.zero_add]
      have h3 : wgt (t :: l) (2 ^ (t :: l).length - 1 - 2 * s) = t.2.2 * wgt l (2 ^ l.length - 1 - s) := by
        rw [List.length_cons, Nat.pow_succ]
        generalize 2 ^ l.length = N at *
        show (if (N * 2 - 1 - 2 * s) % 2 = 1 then t.2.2 else 1) * wgt l ((N * 2 - 1 - 2 * s) / 2) = _
        rw [if_pos (by omega), show (N * 2 - 1 - 2 * s) / 2 = N - 1 - s by omega]
      rw [h1, h2, h3]
      split
      · rfl
      · rw [Int.mul_zero]
    have e1 : ∀ s, s < 2 ^ l.length → term P k (t :: l) (r, true) (2 * s + 1) = if at6 r t.1 = at6 r t.2.1 then 0 else (match k with | 0 => 0 | k + 1 => term P k l (mgL r t, true) s) := by
      intro s hs
      unfold term
      have h1 : run (t :: l) (2 * s + 1) (r, true) = run l s (mgL r t, !(at6 r t.1 == at6 r t.2.1)) := by
        show run l ((2 * s + 1) / 2) (stepR _ _ _) = _
        rw [show (2 * s + 1) / 2 = s by omega, show ((2 * s + 1) % 2 == 1) = true by simp]; rfl
      have h2 : pcf (t :: l).length (2 * s + 1) = pcf l.length s + 1 := by
        show (2 * s + 1) % 2 + pcf l.length ((2 * s + 1) / 2) = _
        rw [show (2 * s + 1) / 2 = s by omega, show (2 * s + 1) % 2 = 1 by omega, Nat.add_comm]
      have h3 : wgt (t :: l) (2 ^ (t :: l).length - 1 - (2 * s + 1)) = wgt l (2 ^ l.length - 1 - s) := by
        rw [List.length_cons, Nat.pow_succ]
        generalize 2 ^ l.length = N at *
        show (if (N * 2 - 1 - (2 * s + 1)) % 2 = 1 then t.2.2 else 1) * wgt l ((N * 2 - 1 - (2 * s + 1)) / 2) = _
        rw [if_neg (by omega), show (N * 2 - 1 - (2 * s + 1)) / 2 = N - 1 - s by omega, Int.one_mul]
      rw [h1, h2, h3]
      by_cases hab : at6 r t.1 = at6 r t.2.1
      · rw [if_pos hab, show (!(at6 r t.1 == at6 r t.2.1)) = false by simp [hab], run_false]
        simp
      · rw [if_neg hab, show (!(at6 r t.1 == at6 r t.2.1)) = true by simp [hab]]
        cases k with
        | zero => rw [if_neg (by omega)]
        | succ k => simp only [Nat.add_right_cancel_iff]
    rw [sumTo_congr e0, sumTo_congr e1, sumTo_mul, ih]
    show _ = t.2.2 * sumL P k l r + _
    congr 1
    by_cases hab : at6 r t.1 = at6 r t.2.1
    · rw [if_pos hab]
      simp only [if_pos hab]
      exact sumTo_zero _
    · rw [if_neg hab]
      simp only [if_neg hab]
      cases k with
      | zero => exact sumTo_zero _
      | succ k => exact ih k (mgL r t)
/-! ### Bounds -/
def okL (l : List Tp) : Prop := ∀ t, t ∈ l → okT t
theorem wgt_bd {l : List Tp} (h : okL l) : ∀ s, 1 ≤ wgt l s ∧ wgt l s ≤ 60 ^ l.length := by
  induction l with
  | nil => intro s; exact ⟨Int.le_refl _, Int.le_refl _⟩
  | cons t l ih =>
    intro s
    have h1 := ih (fun u hu => h u (List.mem_cons_of_mem _ hu)) (s / 2)
    have h2 := h t (List.mem_cons_self ..)
    obtain ⟨-, -, -, h3, h4⟩ := h2
    rw [List.length_cons, Int.pow_succ]
    show 1 ≤ (if s % 2 = 1 then t.2.2 else 1) * wgt l (s / 2) ∧ (if s % 2 = 1 then t.2.2 else 1) * wgt l (s / 2) ≤ _
    generalize hc : (if s % 2 = 1 then t.2.2 else 1) = c
    have hc1 : 1 ≤ c ∧ c ≤ 60 := by rw [← hc]; split <;> omega
    generalize wgt l (s / 2) = x at *
    generalize (60 : Int) ^ l.length = N at *
    constructor
    · have : 1 * 1 ≤ c * x := Int.mul_le_mul hc1.1 h1.1 (by omega) (by omega)
      omega
    · rw [Int.mul_comm N 60]
      exact Int.mul_le_mul hc1.2 h1.2 (by omega) (by omega)
theorem sumL_nonneg {P : List Int → Bool} {l : List Tp} (h : okL l) : ∀ k r, 0 ≤ sumL P k l r := by
  induction l with
  | nil => intro k r; show 0 ≤ (if _ then (1 : Int) else 0); split <;> omega
  | cons t l ih =>
    intro k r
    have ih' := ih (fun u hu => h u (List.mem_cons_of_mem _ hu))
    obtain ⟨-, -, -, h3, h4⟩ := h t (List.mem_cons_self ..)
    have h5 : 0 ≤ t.2.2 * sumL P k l r := Int.mul_nonneg (by omega) (ih' _ _)
    show 0 ≤ t.2.2 * sumL P k l r + _
    split
    · omega
    · cases k with
      | zero => simpa using h5
      | succ k => have := ih' k (mgL r t); show 0 ≤ _ + sumL P k l (mgL r t); omega
theorem sumL_le {P : List Int → Bool} {l : List Tp} (h : okL l) : ∀ k r, sumL P k l r ≤ 61 ^ l.length := by
  induction l with
  | nil => intro k r; show (if _ then (1 : Int) else 0) ≤ 1; split <;> omega
  | cons t l ih =>
    intro k r
    have hl : okL l := fun u hu => h u (List.mem_cons_of_mem _ hu)
    have ih' := ih hl
    obtain ⟨-, -, -, h3, h4⟩ := h t (List.mem_cons_self ..)
    rw [List.length_cons, Int.pow_succ]
    have h6 := sumL_nonneg (P := P) hl k r
    have h5 : t.2.2 * sumL P k l r ≤ 60 * 61 ^ l.length := Int.mul_le_mul h4 (ih' _ _) h6 (by omega)
    have h7 : 0 ≤ (61 : Int) ^ l.length := by have := ih' k r; omega
    show t.2.2 * sumL P k l r + _ ≤ _
    split
    · omega
    · cases k with
      | zero => show _ + 0 ≤ _; omega
      | succ k => have := ih' k (mgL r t); show _ + sumL P k l (mgL r t) ≤ _; omega
theorem term_nonneg {P : List Int → Bool} {k : Nat} {l : List Tp} {q : List Int × Bool} (h : okL l) (s : Nat) : 0 ≤ term P k l q s := by
  unfold term
  split
  · have := (wgt_bd h (2 ^ l.length - 1 - s)).1; omega
  · omega
theorem pow61 {n : Nat} (h : n ≤ 10) : (61 : Int) ^ n ≤ 713342911662882601 := by
  have : n = 0 ∨ n = 1 ∨ n = 2 ∨ n = 3 ∨ n = 4 ∨ n = 5 ∨ n = 6 ∨ n = 7 ∨ n = 8 ∨ n = 9 ∨ n = 10 := by omega
  rcases this with rfl | rfl | rfl | rfl | rfl | rfl | rfl | rfl | rfl | rfl | rfl <;> decide
/-- Partial sums stay small. -/
theorem part_bd {P : List Int → Bool} {k : Nat} {l : List Tp} (h : okL l) (hl : l.length ≤ 10) {r : List Int} {j : Nat} (hj : j ≤ 2 ^ l.length) :
    0 ≤ sumTo (term P k l (r, true)) j ∧ sumTo (term P k l (r, true)) j ≤ 713342911662882601 := by
  refine ⟨sumTo_nonneg (term_nonneg h) _, ?_⟩
  have h1 := sumTo_mono (term_nonneg (P := P) (k := k) (q := (r, true)) h) hj
  rw [sum_term] at h1
  have h2 := sumL_le (P := P) h k r
  have h3 := pow61 hl
  omega
end Go.Proofs.YtmionebfepkolaaGreatDoor

namespace Go.Proofs.YtmionebfepkolaaGreatDoor

theorem sumL_sub {P P1 P2 : List Int → Bool} (hP : ∀ r, P r = true → P1 r = true ∨ P2 r = true) {l : List Tp} (h : okL l) : ∀ k r, sumL P k l r ≤ sumL P1 k l r + sumL P2 k l r := by
  induction l with
  | nil =>
    intro k r
    show (if k = 0 ∧ P r = true then (1 : Int) else 0) ≤ (if k = 0 ∧ P1 r = true then 1 else 0) + (if k = 0 ∧ P2 r = true then 1 else 0)
    by_cases h0 : k = 0 ∧ P r = true
    · rw [if_pos h0]
      rcases hP r h0.2 with h1 | h1
      · rw [if_pos ⟨h0.1, h1⟩]; split <;> omega
      · rw [if_pos (c := k = 0 ∧ P2 r = true) ⟨h0.1, h1⟩]; split <;> omega
    · rw [if_neg h0]; split <;> split <;> omega
  | cons t l ih =>
    intro k r
    have hl : okL l := fun u hu => h u (List.mem_cons_of_mem _ hu)
    have ih' := ih hl
    obtain ⟨-, -, -, h3, h4⟩ := h t (List.mem_cons_self ..)
    have h5 : t.2.2 * sumL P k l r ≤ t.2.2 * (sumL P1 k l r + sumL P2 k l r) := Int.mul_le_mul_of_nonneg_left (ih' k r) (by omega)
    rw [Int.mul_add] at h5
    show t.2.2 * sumL P k l r + _ ≤ (t.2.2 * sumL P1 k l r + _) + (t.2.2 * sumL P2 k l r + _)
    by_cases hab : at6 r t.1 = at6 r t.2.1
    · simp only [if_pos hab]; omega
    · simp only [if_neg hab]
      cases k with
      | zero => simp only; omega
      | succ k => have := ih' k (mgL r t); simp only; omega
theorem sumL_ff {P : List Int → Bool} (hP : ∀ r, P r = false) : ∀ (l : List Tp) k r, sumL P k l r = 0 := by
  intro l
  induction l with
  | nil => intro k r; show (if k = 0 ∧ P r = true then (1 : Int) else 0) = 0; rw [if_neg (by rw [hP r]; intro h; cases h.2)]
  | cons t l ih =>
    intro k r
    show t.2.2 * sumL P k l r + _ = 0
    rw [ih, Int.mul_zero]
    split
    · rfl
    · cases k with
      | zero => rfl
      | succ k => show 0 + sumL P k l (mgL r t) = 0; rw [ih]; rfl
theorem sumL_congr {P P' : List Int → Bool} (hP : ∀ r, P r = P' r) (l : List Tp) (k : Nat) (r : List Int) : sumL P k l r = sumL P' k l r := by
  rw [show P = P' from funext hP]

/-! ### Labels -/
/-- All tapes of a list. -/
def full (l : List Tp) (r : List Int) : List Int := l.foldl mgL r
theorem full_cons (t : Tp) (l : List Tp) (r : List Int) : full (t :: l) r = full l (mgL r t) := rfl
theorem run_full : ∀ (l : List Tp) (q : List Int × Bool), (run l (2 ^ l.length - 1) q).1 = full l q.1 := by
  intro l
  induction l with
  | nil => intro q; rfl
  | cons t l ih =>
    intro q
    have hp : 0 < 2 ^ l.length := Nat.pow_pos (by omega)
    have h1 : (2 ^ (t :: l).length - 1) % 2 = 1 := by rw [List.length_cons, Nat.pow_succ]; omega
    have h2 : (2 ^ (t :: l).length - 1) / 2 = 2 ^ l.length - 1 := by rw [List.length_cons, Nat.pow_succ]; omega
    show (run l ((2 ^ (t :: l).length - 1) / 2) (stepR q t ((2 ^ (t :: l).length - 1) % 2 == 1))).1 = _
    rw [h1, h2, ih]; rfl
theorem full_len (l : List Tp) : ∀ r : List Int, (full l r).length = r.length := by
  induction l with
  | nil => intro r; rfl
  | cons t l ih => intro r; rw [full_cons, ih, mgL_len]
/-- Labels are nodes that have their own label. -/
structure Lab (r : List Int) : Prop where
  len : r.length = 6
  nd : ∀ x, nod x → nod (at6 r x)
  fix : ∀ x, nod x → at6 r (at6 r x) = at6 r x
theorem lab_R0 : Lab R0 := ⟨rfl, fun x h => by rw [at6_R0 h]; exact h, fun x h => by rw [at6_R0 h, at6_R0 h]⟩
theorem mg_cases (p q x : Int) : mg p q x = x ∨ (mg p q x = min p q ∧ x = max p q) := by
  unfold mg; split <;> omega
theorem Lab.mgL {r : List Int} (h : Lab r) {t : Tp} (h1 : nod t.1) (h2 : nod t.2.1) : Lab (mgL r t) := by
  have hp := h.nd _ h1
  have hq := h.nd _ h2
  have hfp := h.fix _ h1
  have hfq := h.fix _ h2
  have e : ∀ x, nod x → at6 (Go.Proofs.YtmionebfepkolaaGreatDoor.mgL r t) x = mg (at6 r t.1) (at6 r t.2.1) (at6 r x) := fun x hx => at6_mgL h.len hx.1 hx.2
  refine ⟨by rw [mgL_len]; exact h.len, fun x hx => ?_, fun x hx => ?_⟩
  · rw [e x hx]
    have := h.nd x hx
    generalize at6 r t.1 = p at *
    generalize at6 r t.2.1 = q at *
    unfold nod at *
    unfold mg; split <;> omega
  · have hn : nod (at6 (Go.Proofs.YtmionebfepkolaaGreatDoor.mgL r t) x) := by
      rw [e x hx]
      have := h.nd x hx
      generalize at6 r t.1 = p at *
      generalize at6 r t.2.1 = q at *
      unfold nod at *
      unfold mg; split <;> omega
    rw [e _ hn, e x hx]
    have hx2 := h.fix x hx
    generalize hP : at6 r t.1 = p at *
    generalize hQ : at6 r t.2.1 = q at *
    rcases mg_cases p q (at6 r x) with h3 | ⟨h3, h4⟩
    · rw [h3, hx2, h3]
    · rw [h3]
      rcases Int.le_total p q with h5 | h5
      · rw [Int.min_eq_left h5, hfp]; unfold mg; split <;> omega
      · rw [Int.min_eq_right h5, hfq]; unfold mg; split <;> omega
theorem Lab.full {l : List Tp} (hl : okL l) : ∀ {r : List Int}, Lab r → Lab (full l r) := by
  induction l with
  | nil => intro r h; exact h
  | cons t l ih =>
    intro r h
    have ht := hl t (List.mem_cons_self ..)
    exact ih (fun u hu => hl u (List.mem_cons_of_mem _ hu)) (h.mgL ht.1 ht.2.1)
/-- What has one label keeps one label. -/
theorem full_keep {l : List Tp} (hl : okL l) : ∀ {r : List Int}, r.length = 6 → ∀ {x y : Int}, nod x → nod y → at6 r x = at6 r y → at6 (full l r) x = at6 (full l r) y := by
  induction l with
  | nil => intro r _ x y _ _ h; exact h
  | cons t l ih =>
    intro r hr x y hx hy h
    exact ih (fun u hu => hl u (List.mem_cons_of_mem _ hu)) (by rw [mgL_len]; exact hr) hx hy ((mgL_iff hr hx hy).2 (.inl h))
/-- The ends of a tape have one label at the end. -/
theorem full_tape {l : List Tp} (hl : okL l) : ∀ {r : List Int}, r.length = 6 → ∀ t, t ∈ l → at6 (full l r) t.1 = at6 (full l r) t.2.1 := by
  induction l with
  | nil => intro r _ t h; cases h
  | cons u l ih =>
    intro r hr t ht
    have hl' : okL l := fun u hu => hl u (List.mem_cons_of_mem _ hu)
    rcases List.mem_cons.1 ht with rfl | ht
    · have h2 := hl t (List.mem_cons_self ..)
      exact full_keep hl' (by rw [mgL_len]; exact hr) h2.1 h2.2.1 ((mgL_iff hr h2.1 h2.2.1).2 (.inr ⟨.inl rfl, .inr rfl⟩))
    · exact ih hl' (by rw [mgL_len]; exact hr) t ht
/-! ### How many labels there are -/
def one6 (p : Int → Prop) [DecidablePred p] (x : Int) : Nat := if p x then 1 else 0
def cnt6 (p : Int → Prop) [DecidablePred p] : Nat := one6 p 0 + one6 p 1 + one6 p 2 + one6 p 3 + one6 p 4 + one6 p 5
theorem cnt6_le (p : Int → Prop) [DecidablePred p] : cnt6 p ≤ 6 := by
  have h : ∀ x, one6 p x ≤ 1 := fun x => by unfold one6; split <;> omega
  have := h 0; have := h 1; have := h 2; have := h 3; have := h 4; have := h 5
  unfold cnt6; omega
def labs (r : List Int) : Nat := cnt6 fun x => at6 r x = x
theorem labs_R0 : labs R0 = 6 := by decide
/-- A merge of two labels takes one away. -/
theorem labs_mgL {r : List Int} (h : Lab r) {t : Tp} (h1 : nod t.1) (h2 : nod t.2.1) (hne : at6 r t.1 ≠ at6 r t.2.1) : labs (mgL r t) + 1 = labs r := by
  have hp := h.nd _ h1
  have hq := h.nd _ h2
  have hfp := h.fix _ h1
  have hfq := h.fix _ h2
  have key : ∀ x, nod x → one6 (fun x => at6 (mgL r t) x = x) x + (if x = max (at6 r t.1) (at6 r t.2.1) then 1 else 0) = one6 (fun x => at6 r x = x) x := by
    intro x hx
    have e := at6_mgL (t := t) h.len hx.1 hx.2
    have hx2 := h.fix x hx
    unfold one6
    simp only [e]
    generalize at6 r t.1 = p at *
    generalize at6 r t.2.1 = q at *
    by_cases hM : x = max p q
    · rw [if_pos hM]
      have hxx : at6 r x = x := by
        rcases Int.le_total p q with h5 | h5
        · rw [Int.max_eq_right h5] at hM; rw [hM]; exact hfq
        · rw [Int.max_eq_left h5] at hM; rw [hM]; exact hfp
      rw [if_pos hxx, hxx, if_neg]
      unfold mg; rw [if_pos hM]; omega
    · rw [if_neg hM]
      by_cases hxx : at6 r x = x
      · rw [if_pos hxx, hxx, if_pos]
        unfold mg; rw [if_neg hM]
      · rw [if_neg hxx, if_neg]
        intro hmg
        rcases mg_cases p q (at6 r x) with h3 | ⟨h3, h4⟩
        · exact hxx (by rw [← h3]; exact hmg)
        · rw [h3] at hmg
          rcases Int.le_total p q with h5 | h5
          · rw [Int.min_eq_left h5] at hmg; rw [← hmg] at hxx; exact hxx hfp
          · rw [Int.min_eq_right h5] at hmg; rw [← hmg] at hxx; exact hxx hfq
  have k0 := key 0 (by unfold nod; omega)
  have k1 := key 1 (by unfold nod; omega)
  have k2 := key 2 (by unfold nod; omega)
  have k3 := key 3 (by unfold nod; omega)
  have k4 := key 4 (by unfold nod; omega)
  have k5 := key 5 (by unfold nod; omega)
  unfold labs cnt6
  generalize hM : max (at6 r t.1) (at6 r t.2.1) = M at *
  have hMn : M = 0 ∨ M = 1 ∨ M = 2 ∨ M = 3 ∨ M = 4 ∨ M = 5 := by unfold nod at *; omega
  rcases hMn with rfl | rfl | rfl | rfl | rfl | rfl <;> simp at k0 k1 k2 k3 k4 k5 <;> omega
theorem mgL_same {r : List Int} {t : Tp} (h : at6 r t.1 = at6 r t.2.1) : mgL r t = r := by
  unfold mgL
  rw [h]
  have e : ∀ x, mg (at6 r t.2.1) (at6 r t.2.1) x = x := fun x => by unfold mg; split <;> omega
  rw [show mg (at6 r t.2.1) (at6 r t.2.1) = id from funext e, List.map_id]
theorem labs_full {l : List Tp} (hl : okL l) : ∀ {r : List Int}, Lab r → labs (full l r) ≤ labs r := by
  induction l with
  | nil => intro r _; exact Nat.le_refl _
  | cons t l ih =>
    intro r h
    have ht := hl t (List.mem_cons_self ..)
    have h1 := ih (fun u hu => hl u (List.mem_cons_of_mem _ hu)) (h.mgL ht.1 ht.2.1)
    rw [full_cons]
    by_cases he : at6 r t.1 = at6 r t.2.1
    · rw [mgL_same he] at h1 ⊢; exact h1
    · have := labs_mgL h ht.1 ht.2.1 he; omega
/-- There is a set of tapes without a circle that joins all that the list joins. -/
theorem sumL_pos {l : List Tp} (hl : okL l) : ∀ {r : List Int}, Lab r → 1 ≤ sumL (fun _ => true) (labs r - labs (full l r)) l r := by
  induction l with
  | nil =>
    intro r _
    show 1 ≤ (if labs r - labs r = 0 ∧ true = true then (1 : Int) else 0)
    rw [if_pos ⟨by omega, rfl⟩]; exact Int.le_refl _
  | cons t l ih =>
    intro r h
    have ht := hl t (List.mem_cons_self ..)
    have hl' : okL l := fun u hu => hl u (List.mem_cons_of_mem _ hu)
    show 1 ≤ t.2.2 * sumL _ _ l r + _
    obtain ⟨h1, h2, -, h3, h4⟩ := ht
    by_cases he : at6 r t.1 = at6 r t.2.1
    · rw [if_pos he, full_cons, mgL_same he, Int.add_zero]
      have := ih hl' h
      have h5 : 1 * 1 ≤ t.2.2 * sumL (fun _ => true) (labs r - labs (full l r)) l r := Int.mul_le_mul h3 this (by omega) (by omega)
      omega
    · rw [if_neg he, full_cons]
      have h5 := labs_mgL h h1 h2 he
      have h6 := labs_full hl' (h.mgL h1 h2)
      have h7 := ih hl' (h.mgL h1 h2)
      rw [show labs r - labs (full l (mgL r t)) = (labs (mgL r t) - labs (full l (mgL r t))) + 1 by omega]
      have h8 : 0 ≤ t.2.2 * sumL (fun _ => true) (labs (mgL r t) - labs (full l (mgL r t)) + 1) l r := Int.mul_nonneg (by omega) (sumL_nonneg hl' _ _)
      show 1 ≤ _ + sumL (fun _ => true) (labs (mgL r t) - labs (full l (mgL r t))) l (mgL r t)
      omega
/-! ### The part of a net that is joined to a node -/
def near (l : List Tp) (a : Int) : List Tp := l.filter fun t => at6 (full l R0) t.1 == at6 (full l R0) a
def cls (l : List Tp) (a : Int) : Nat := cnt6 fun x => at6 (full l R0) x = at6 (full l R0) a
theorem near_ok {l : List Tp} (h : okL l) (a : Int) : okL (near l a) := fun t ht => h t (List.mem_filter.1 ht).1
theorem near_len (l : List Tp) (a : Int) : (near l a).length ≤ l.length := List.length_filter_le ..
theorem near_eq {l : List Tp} {a b : Int} (h : at6 (full l R0) a = at6 (full l R0) b) : near l a = near l b := by unfold near; rw [h]
theorem cls_eq {l : List Tp} {a b : Int} (h : at6 (full l R0) a = at6 (full l R0) b) : cls l a = cls l b := by unfold cls; simp only [h]
/-- The whole list and its part, side by side: R are the labels at the end. -/
theorem near_run {R : List Int} {c : Int} : ∀ (l : List Tp) (r r' : List Int), okL l → r.length = 6 → Lab r' → full l r = R → (∀ t, t ∈ l → at6 R t.1 = at6 R t.2.1) →
    (∀ x y, nod x → nod y → at6 R x = c → at6 R y = c → (at6 r x = at6 r y ↔ at6 r' x = at6 r' y)) → (∀ x, nod x → at6 R x ≠ c → at6 r' x = x) → (∀ x, nod x → at6 R x = c → at6 R (at6 r' x) = c) →
    let r2 := full (l.filter fun t => at6 R t.1 == c) r'
    (∀ x y, nod x → nod y → at6 R x = c → at6 R y = c → at6 r2 x = at6 r2 y) ∧ (∀ x, nod x → at6 R x ≠ c → at6 r2 x = x) ∧ (∀ x, nod x → at6 R x = c → at6 R (at6 r2 x) = c) := by
  intro l
  induction l with
  | nil =>
    intro r r' _ _ _ hR _ h1 h2 h3
    refine ⟨fun x y hx hy hxc hyc => (h1 x y hx hy hxc hyc).1 ?_, h2, h3⟩
    have hR' : r = R := hR
    rw [hR', hxc, hyc]
  | cons t l ih =>
    intro r r' hl hr hr' hR ht h1 h2 h3
    have hl' : okL l := fun u hu => hl u (List.mem_cons_of_mem _ hu)
    obtain ⟨hA, hB, -, -, -⟩ := hl t (List.mem_cons_self ..)
    have hAB := ht t (List.mem_cons_self ..)
    have ht' : ∀ t, t ∈ l → at6 R t.1 = at6 R t.2.1 := fun u hu => ht u (List.mem_cons_of_mem _ hu)
    have hfin : ∀ x y, nod x → nod y → at6 r x = at6 r y → at6 R x = at6 R y := fun x y hx hy h => by
      rw [← hR]; exact full_keep hl hr hx hy h
    rw [full_cons] at hR
    have hrl : (mgL r t).length = 6 := by rw [mgL_len]; exact hr
    by_cases hc : at6 R t.1 = c
    · have hcB : at6 R t.2.1 = c := by rw [← hAB]; exact hc
      have hf : (t :: l).filter (fun t => at6 R t.1 == c) = t :: l.filter (fun t => at6 R t.1 == c) := by
        rw [List.filter_cons_of_pos (by simpa using hc)]
      rw [hf]
      show (∀ x y, _) ∧ _
      rw [full_cons]
      refine ih (mgL r t) (mgL r' t) hl' hrl (hr'.mgL hA hB) hR ht' (fun x y hx hy hxc hyc => ?_) (fun x hx hxc => ?_) (fun x hx hxc => ?_)
      · rw [mgL_iff hr hx hy, mgL_iff hr'.len hx hy, h1 x y hx hy hxc hyc, h1 x _ hx hA hxc hc, h1 x _ hx hB hxc hcB, h1 y _ hy hA hyc hc, h1 y _ hy hB hyc hcB]
      · rw [at6_mgL hr'.len hx.1 hx.2, h2 x hx hxc]
        have e1 := h3 _ hA hc
        have e2 := h3 _ hB hcB
        generalize at6 r' t.1 = p at *
        generalize at6 r' t.2.1 = q at *
        unfold mg
        rw [if_neg]
        intro hM
        rcases Int.le_total p q with h5 | h5
        · rw [Int.max_eq_right h5] at hM; rw [hM] at hxc; exact hxc e2
        · rw [Int.max_eq_left h5] at hM; rw [hM] at hxc; exact hxc e1
      · rw [at6_mgL hr'.len hx.1 hx.2]
        have e1 := h3 _ hA hc
        have e2 := h3 _ hB hcB
        have e3 := h3 _ hx hxc
        generalize at6 r' t.1 = p at *
        generalize at6 r' t.2.1 = q at *
        rcases mg_cases p q (at6 r' x) with h5 | ⟨h5, -⟩
        · rw [h5]; exact e3
        · rw [h5]
          rcases Int.le_total p q with h6 | h6
          · rw [Int.min_eq_left h6]; exact e1
          · rw [Int.min_eq_right h6]; exact e2
    · have hcB : at6 R t.2.1 ≠ c := by rw [← hAB]; exact hc
      have hf : (t :: l).filter (fun t => at6 R t.1 == c) = l.filter (fun t => at6 R t.1 == c) := by
        rw [List.filter_cons_of_neg (by simpa using hc)]
      rw [hf]
      refine ih (mgL r t) r' hl' hrl hr' hR ht' (fun x y hx hy hxc hyc => ?_) h2 h3
      rw [mgL_iff hr hx hy, ← h1 x y hx hy hxc hyc]
      constructor
      · rintro (h | ⟨h | h, -⟩)
        · exact h
        · exact absurd ((hfin _ _ hx hA h).symm.trans hxc) hc
        · exact absurd ((hfin _ _ hx hB h).symm.trans hxc) hcB
      · exact .inl
theorem near_labels {l : List Tp} (h : okL l) {a : Int} (ha : nod a) :
    (∀ x, nod x → at6 (full l R0) x = at6 (full l R0) a → at6 (full (near l a) R0) x = at6 (full (near l a) R0) a) ∧ (∀ x, nod x → at6 (full l R0) x ≠ at6 (full l R0) a → at6 (full (near l a) R0) x = x) ∧
    at6 (full l R0) (at6 (full (near l a) R0) a) = at6 (full l R0) a := by
  have h1 := near_run (R := full l R0) (c := at6 (full l R0) a) l R0 R0 h rfl lab_R0 rfl (fun t ht => full_tape h rfl t ht) (fun x y _ _ _ _ => Iff.rfl) (fun x hx _ => at6_R0 hx) (fun x hx hc => by rw [at6_R0 hx]; exact hc)
  exact ⟨fun x hx hc => h1.1 x a hx ha hc rfl, h1.2.1, h1.2.2 a ha rfl⟩
theorem near_labs {l : List Tp} (h : okL l) {a : Int} (ha : nod a) : labs (full (near l a) R0) + cls l a = 7 ∧ 1 ≤ cls l a := by
  obtain ⟨h1, h2, h3⟩ := near_labels h ha
  have hlab := lab_R0.full (near_ok h a)
  have hn := hlab.nd a ha
  have hfx := hlab.fix a ha
  unfold labs cls cnt6
  generalize full (near l a) R0 = r at *
  generalize full l R0 = R at *
  have key : ∀ x, nod x → one6 (fun x => at6 r x = x) x + one6 (fun x => at6 R x = at6 R a) x = 1 + if x = at6 r a then 1 else 0 := by
    intro x hx
    unfold one6
    by_cases hc : at6 R x = at6 R a
    · have e := h1 x hx hc
      simp only [if_pos hc, e]
      by_cases hxa : x = at6 r a
      · rw [if_pos hxa, if_pos hxa.symm]
      · rw [if_neg hxa, if_neg (fun h => hxa h.symm)]
    · have e := h2 x hx hc
      simp only [if_neg hc, e, if_true]
      rw [if_neg]
      intro hxa
      rw [hxa] at hc
      exact hc h3
  have k0 := key 0 (by unfold nod; omega)
  have k1 := key 1 (by unfold nod; omega)
  have k2 := key 2 (by unfold nod; omega)
  have k3 := key 3 (by unfold nod; omega)
  have k4 := key 4 (by unfold nod; omega)
  have k5 := key 5 (by unfold nod; omega)
  have ka : one6 (fun x => at6 R x = at6 R a) a = 1 := by unfold one6; simp
  have hla : ∀ x, one6 (fun x => at6 r x = x) x ≤ 1 := fun x => by unfold one6; split <;> omega
  generalize hM : at6 r a = M at *
  have hMn : M = 0 ∨ M = 1 ∨ M = 2 ∨ M = 3 ∨ M = 4 ∨ M = 5 := by unfold nod at hn; omega
  have han : a = 0 ∨ a = 1 ∨ a = 2 ∨ a = 3 ∨ a = 4 ∨ a = 5 := by unfold nod at ha; omega
  constructor
  · rcases hMn with rfl | rfl | rfl | rfl | rfl | rfl <;> simp at k0 k1 k2 k3 k4 k5 <;> omega
  · rcases han with rfl | rfl | rfl | rfl | rfl | rfl <;> omega
/-! ### Trees and forests of a part -/
def treesN (l : List Tp) (a : Int) : Int := sumL (fun _ => true) (cls l a - 1) (near l a) R0
def twosN (l : List Tp) (a x y : Int) : Int := if cls l a - 1 = 0 then 0 else sumL (fun r => !(at6 r x == at6 r y)) (cls l a - 1 - 1) (near l a) R0
theorem trees_pos {l : List Tp} (h : okL l) {a : Int} (ha : nod a) : 1 ≤ treesN l a := by
  have h1 := near_labs h ha
  have h2 := sumL_pos (near_ok h a) lab_R0
  unfold treesN
  rw [labs_R0] at h2
  rw [show cls l a - 1 = 6 - labs (full (near l a) R0) by omega]
  exact h2
theorem trees_bd {l : List Tp} (h : okL l) (hl : l.length ≤ 10) (a : Int) : treesN l a ≤ 713342911662882601 := by
  have h1 := sumL_le (P := fun _ => true) (near_ok h a) (cls l a - 1) R0
  have h2 := pow61 (Nat.le_trans (near_len l a) hl)
  unfold treesN; omega
theorem twos_bd {l : List Tp} (h : okL l) (hl : l.length ≤ 10) (a x y : Int) : 0 ≤ twosN l a x y ∧ twosN l a x y ≤ 713342911662882601 := by
  have h1 := sumL_le (P := fun r => !(at6 r x == at6 r y)) (near_ok h a) (cls l a - 1 - 1) R0
  have h2 := pow61 (Nat.le_trans (near_len l a) hl)
  have h3 := sumL_nonneg (P := fun r => !(at6 r x == at6 r y)) (near_ok h a) (cls l a - 1 - 1) R0
  unfold twosN; split <;> omega
theorem twos_eq {l : List Tp} {a b : Int} (h : at6 (full l R0) a = at6 (full l R0) b) (x y : Int) : twosN l a x y = twosN l b x y := by unfold twosN; rw [near_eq h, cls_eq h]
theorem trees_eq {l : List Tp} {a b : Int} (h : at6 (full l R0) a = at6 (full l R0) b) : treesN l a = treesN l b := by unfold treesN; rw [near_eq h, cls_eq h]
theorem twos_comm (l : List Tp) (a x y : Int) : twosN l a x y = twosN l a y x := by
  unfold twosN
  split
  · rfl
  · exact sumL_congr (fun r => by rw [Bool.beq_comm]) _ _ _
theorem twos_self (l : List Tp) (a x : Int) : twosN l a x x = 0 := by
  unfold twosN
  split
  · rfl
  · exact sumL_ff (fun r => by simp) _ _ _
theorem twos_tri {l : List Tp} (h : okL l) (a x y z : Int) : twosN l a x z ≤ twosN l a x y + twosN l a y z := by
  unfold twosN
  split
  · omega
  · refine sumL_sub (fun r hr => ?_) (near_ok h a) _ _
    simp only [Bool.not_eq_true', beq_eq_false_iff_ne, ne_eq] at hr ⊢
    by_cases h1 : at6 r x = at6 r y
    · exact .inr (fun h2 => hr (h1.trans h2))
    · exact .inl h1
end Go.Proofs.YtmionebfepkolaaGreatDoor

namespace Go.Proofs.YtmionebfepkolaaGreatDoor
open Go.RowKit

def tcells (l : List Tp) : List Value := l.flatMap int3
theorem tcells_app (l m : List Tp) : tcells (l ++ m) = tcells l ++ tcells m := by simp [tcells]
theorem tcells_len (l : List Tp) : (tcells l).length = l.length * 3 := by
  induction l with
  | nil => rfl
  | cons x l ih => simp only [tcells, List.flatMap_cons, List.length_append, List.length_cons, int3, List.length_nil] at *; omega
theorem tcells_get : ∀ (l : List Tp) (k : Nat), k < l.length → (tcells l)[k * 3]? = some (.int .i64 (tpA l k).1) ∧ (tcells l)[k * 3 + 1]? = some (.int .i64 (tpA l k).2.1) ∧ (tcells l)[k * 3 + 2]? = some (.int .i64 (tpA l k).2.2) := by
  intro l
  induction l with
  | nil => intro k h; exact absurd h (by simp)
  | cons x l ih =>
    intro k h
    cases k with
    | zero => simp [tcells, int3, tpA]
    | succ k =>
      have := ih k (by simpa using h)
      have e1 : (k + 1) * 3 = (k * 3) + 1 + 1 + 1 := by omega
      have e2 : (k + 1) * 3 + 1 = (k * 3 + 1) + 1 + 1 + 1 := by omega
      have e3 : (k + 1) * 3 + 2 = (k * 3 + 2) + 1 + 1 + 1 := by omega
      rw [e2, e3, e1]
      simpa [tcells, int3, tpA] using this
theorem tcells_one (l : List Tp) : ∀ u ∈ tcells l, u.oneCell' = true := by
  intro u hu
  simp only [tcells, List.mem_flatMap, int3, List.mem_cons, List.not_mem_nil, or_false] at hu
  obtain ⟨x, _, rfl | rfl | rfl⟩ := hu <;> rfl
theorem own_tapes {w : World} {base : Nat} {e : TypeId} {v : Value} {n : Nat} {l : List Tp} (h : w.ownsRow base e 3 v n (tcells l)) :
    ∃ A cap, v = .slice A n cap ∧ n ≤ cap ∧ cap ≤ maxLen ∧ Rows 3 int3 (0,0,0) w w.heap.size A n l ∧ (0 < n → ∃ g, A = some ⟨g, 0, none⟩ ∧ base ≤ g ∧ g < w.heap.size ∧ ∀ o, w.frozen? ⟨g, o, none⟩ = false) := by
  obtain ⟨h1, h2⟩ := h
  rw [tcells_len] at h1
  have hl : l.length = n := by omega
  rcases h2 with ⟨rfl, rfl⟩ | ⟨g, cap, cur, rfl, hb, hg, hnc, hm, hcs, ht⟩
  · exact ⟨none, 0, rfl, Nat.le_refl _, Nat.zero_le _, ⟨hl, fun h => absurd h (by omega)⟩, fun h => absurd h (by omega)⟩
  · have hlt : g < w.heap.size := (Array.getElem?_eq_some_iff.1 hg).1
    have hcell : ∀ j, j < n * 3 → w.cell? ⟨g, 0 + j, none⟩ = (tcells l)[j]? := by
      intro j hj
      rw [← ht, Nat.zero_add]
      simp [World.cell?, hg, List.getElem?_take, hj]
    refine ⟨some ⟨g, 0, none⟩, cap, rfl, hnc, hm, ⟨hl, fun h0 => ⟨g, 0, rfl, hlt, fun k hk j v hv => ?_⟩⟩, fun h0 => ⟨g, rfl, hb, hlt, fun o => by simp [World.frozen?, hg]⟩⟩
    have hj3 : j < 3 := by
      have := (List.getElem?_eq_some_iff.1 hv).1
      simpa [int3] using this
    have hgk := tcells_get l k (by omega)
    rw [Nat.add_assoc, hcell _ (by omega)]
    change (int3 (tpA l k))[j]? = some v at hv
    rcases (by omega : j = 0 ∨ j = 1 ∨ j = 2) with rfl | rfl | rfl
    · rw [Nat.add_zero, hgk.1, ← hv]; rfl
    · rw [hgk.2.1, ← hv]; rfl
    · rw [hgk.2.2, ← hv]; rfl
theorem town_later {w w' : World} {base : Nat} {e : TypeId} {size : Nat} {v : Value} {n : Nat} {xs : List Value} (h : w.ownsRow base e size v n xs) (hb : Below w.heap.size w w') : w'.ownsRow base e size v n xs := by
  refine h.kept (row := none) ⟨hb.os, hb.tape, hb.output, hb.size, fun k hk _ => hb.block k hk⟩ ?_
  cases v.ownBlock <;> simp
theorem town_mono {w : World} {base base' : Nat} {e : TypeId} {size : Nat} {v : Value} {n : Nat} {xs : List Value} (h : w.ownsRow base e size v n xs) (hb : base' ≤ base) : w.ownsRow base' e size v n xs := by
  obtain ⟨h1, h2⟩ := h
  refine ⟨h1, ?_⟩
  rcases h2 with h2 | ⟨g, cap, cur, a1, a2, a3⟩
  · exact .inl h2
  · exact .inr ⟨g, cap, cur, a1, by omega, a3⟩
/-- Two rows of different elements lie in different blocks. -/
theorem own_apart {w : World} {b b' : Nat} {e e' : TypeId} {s s' : Nat} {v v' : Value} {n n' : Nat} {xs xs' : List Value} (he : e ≠ e') (h : w.ownsRow b e s v n xs) (h' : w.ownsRow b' e' s' v' n' xs') : ∀ g, v.ownBlock = some g → v'.ownBlock ≠ some g := by
  intro g hg hg'
  rcases h.2 with ⟨rfl, _⟩ | ⟨g1, cap1, cur1, rfl, _, hb1, _⟩
  · simp [Value.ownBlock] at hg
  · rcases h'.2 with ⟨rfl, _⟩ | ⟨g2, cap2, cur2, rfl, _, hb2, _⟩
    · simp [Value.ownBlock] at hg'
    · simp [Value.ownBlock] at hg hg'
      subst hg hg'
      rw [hb1] at hb2
      injection hb2 with hb2
      injection hb2 with _ h3 _
      exact he h3
/-- A row that is not the one appended to. -/
theorem own_beside {w w' : World} {b b' : Nat} {e e' : TypeId} {s s' : Nat} {v v' : Value} {n n' : Nat} {xs xs' : List Value} (he : e ≠ e') (h : w.ownsRow b e s v n xs) (h' : w.ownsRow b' e' s' v' n' xs') (hg : w.grownBy w' v.ownBlock) : w'.ownsRow b' e' s' v' n' xs' := by
  refine h'.kept hg ?_
  cases hv : v'.ownBlock with
  | none => exact .inl rfl
  | some g => exact .inr fun hh => own_apart he h h' g hh.symm hv
theorem tnews1 (W : World) (x : Value) (t : TypeId) : ∀ j u, ([x] : List Value)[j]? = some u → (W.alloc (.cells #[x] t)).cell? ((⟨W.heap.size, 0, none⟩ : Addr).add j) = some u := by
  intro j u hj
  cases j with
  | zero => simp at hj; subst hj; simp [Addr.add]
  | succ j => simp at hj
theorem tone1 (n : Int) : ∀ u ∈ ([.int .i64 n] : List Value), u.oneCell' = true := by intro u hu; simp at hu; subst hu; rfl
theorem tnews3 (W : World) (t : Tp) (ty : TypeId) : ∀ j u, (int3 t)[j]? = some u → (W.alloc (.cells #[.int .i64 t.1, .int .i64 t.2.1, .int .i64 t.2.2] ty)).cell? ((⟨W.heap.size, 0, none⟩ : Addr).add j) = some u := by
  intro j u hj
  have hj3 : j < 3 := by
    have := (List.getElem?_eq_some_iff.1 hj).1
    simpa [int3] using this
  rcases (by omega : j = 0 ∨ j = 1 ∨ j = 2) with rfl | rfl | rfl <;> (simp [int3] at hj; subst hj; simp [Addr.add])
theorem tone3 (t : Tp) : ∀ u ∈ int3 t, u.oneCell' = true := by intro u hu; simp [int3] at hu; rcases hu with rfl | rfl | rfl <;> rfl
end Go.Proofs.YtmionebfepkolaaGreatDoor

namespace Go.Proofs.YtmionebfepkolaaGreatDoor
open Go.RowKit

theorem grown_cell {w w' : World} {row : Option Nat} (h : w.grownBy w' row) {k : Nat} (hk : k < w.heap.size) (hr : row ≠ some k) (o : Nat) : w'.cell? ⟨k, o, none⟩ = w.cell? ⟨k, o, none⟩ ∧ w'.frozen? ⟨k, o, none⟩ = w.frozen? ⟨k, o, none⟩ := by
  have := h.block k hk (fun e => hr e.symm)
  constructor <;> simp [World.cell?, World.frozen?, this]
theorem wp_append_at {P : Program} {w : World} {o : Oper} {a : Act} {K : Act → World → Prop} {Q : Exit → Act → World → Prop} (s x : Operand) (t : TypeId)
    (ho : o.op = .call { callee := .builtin .append, args := #[s, x], argTypes := #[t, t] })
    (base : Nat) (e : TypeId) (i : TypeInfo) (z : Value) (size bytes : Nat) (ht : P.underlying t = some (.slice e)) (hi : P.info? e = some i) (hz : i.zero = some z)
    (hsize : i.size = size) (hby : i.bytes = bytes) (hzs : z.cells.size = size) (hsz : 0 < size)
    (v : Value) (n : Nat) (xs : List Value) (hs : a.eval s = v) (hown : w.ownsRow base e size v n xs) (hv : v ≠ .slice none 0 0)
    (ad : Addr) (m c : Nat) (news : List Value) (hx : a.eval x = .slice (some ad) m c) (hl : news.length = m * size) (hnews : ∀ j u, news[j]? = some u → w.cell? (ad.add j) = some u) (h1 : ∀ u ∈ news, u.oneCell' = true)
    (h63 : n + m ≤ maxLen) (hbytes : (n + m) * bytes ≤ 140737488355328) (hbase : base ≤ w.heap.size)
    (h : ∀ g cap w', w'.ownsRow base e size (.slice (some ⟨g, 0, none⟩) (n + m) cap) (n + m) (xs ++ news) → w.grownBy w' v.ownBlock → (some g = v.ownBlock ∨ g = w.heap.size) → K (a.put o.dst (.slice (some ⟨g, 0, none⟩) (n + m) cap)) w') : o.wp P a w K Q := by
  obtain ⟨v', w', hr, h2, h3, h4, h5⟩ := run_append_own_at (P := P) w base t o.type e i z size bytes ht hi hz hsize hby hzs hsz v n xs hown ad m c news hl hnews h1 h63 hbytes hbase
  have hv' : v' ≠ .slice none 0 0 := fun hh => hv (h4.1 hh).1
  obtain ⟨g, cap, rfl⟩ : ∃ g cap, v' = .slice (some ⟨g, 0, none⟩) (n + m) cap := by
    rcases h2.2 with ⟨h0, _⟩ | ⟨g, cap, cur, hv, _⟩
    · exact absurd h0 hv'
    · exact ⟨g, cap, hv⟩
  unfold Oper.wp execOp
  simp only [ho, resolve, invoke, builtin, Sem.run_bind, Sem.run_pure, Result.andThen_ok, List.map_toArray, List.map_cons, List.map_nil, hs, hx, hr]
  exact h g cap w' h2 h3 (h5.imp (fun e => e) (fun e => by simpa [Value.ownBlock] using e))
theorem wp_append_src {P : Program} {w : World} {o : Oper} {a : Act} {K : Act → World → Prop} {Q : Exit → Act → World → Prop} (s x : Operand) (t : TypeId)
    (ho : o.op = .call { callee := .builtin .append, args := #[s, x], argTypes := #[t, t] })
    (base : Nat) (e : TypeId) (i : TypeInfo) (z : Value) (size bytes : Nat) (ht : P.underlying t = some (.slice e)) (hi : P.info? e = some i) (hz : i.zero = some z)
    (hsize : i.size = size) (hby : i.bytes = bytes) (hzs : z.cells.size = size) (hsz : 0 < size)
    (v : Value) (n : Nat) (xs : List Value) (hs : a.eval s = v) (hown : w.ownsRow base e size v n xs) (hv : v ≠ .slice none 0 0)
    (A : Option Addr) (m c : Nat) (news : List Value) (hx : a.eval x = .slice A m c) (hl : news.length = m * size) (hA : A = none → m = 0) (hnews : Cells w A news) (h1 : ∀ u ∈ news, u.oneCell' = true)
    (h63 : n + m ≤ maxLen) (hbytes : (n + m) * bytes ≤ 140737488355328) (hbase : base ≤ w.heap.size)
    (h : ∀ g cap w', w'.ownsRow base e size (.slice (some ⟨g, 0, none⟩) (n + m) cap) (n + m) (xs ++ news) → w.grownBy w' v.ownBlock → (some g = v.ownBlock ∨ g = w.heap.size) → K (a.put o.dst (.slice (some ⟨g, 0, none⟩) (n + m) cap)) w') : o.wp P a w K Q := by
  cases A with
  | some ad =>
    refine wp_append_at s x t ho base e i z size bytes ht hi hz hsize hby hzs hsz v n xs hs hown hv ad m c news hx hl ?_ h1 h63 hbytes hbase h
    intro j u hj
    rcases hnews with rfl | ⟨b, off, hb, hc⟩
    · simp at hj
    · cases hb
      rw [Addr.add_lit]
      exact hc j u hj
  | none =>
    have hm0 : m = 0 := hA rfl
    subst hm0
    have hn0 : news = [] := List.eq_nil_of_length_eq_zero (by rw [hl]; omega)
    subst hn0
    rcases hown.2 with ⟨hv', _⟩ | ⟨g, cap, cur, hv', hb, hg, hnc, hmx, hcs, htk⟩
    · exact absurd hv' hv
    · have hrun : (Builtin.append_ #[t, t] o.type #[v, .slice none 0 c]).run P w = .ok v w := by
        have := run_append_room_src (P := P) w t t o.type e i ht hi g 0 n cap (.slice none 0 c) 0 [] (Src.ofNil w ht c) (by omega) (by simp) (by simp)
        rw [hv']
        simpa [World.setCells] using this
      unfold Oper.wp execOp
      simp only [ho, resolve, invoke, builtin, Sem.run_bind, Sem.run_pure, Result.andThen_ok, List.map_toArray, List.map_cons, List.map_nil, hs, hx, hrun]
      have := h g cap w (by rw [hv'] at hown; simpa using hown) ⟨rfl, rfl, rfl, Nat.le_refl _, fun _ _ _ => rfl⟩ (.inl (by rw [hv']; rfl))
      rw [hv']
      have h9 : K (a.put o.dst (.slice (some ⟨g, 0, none⟩) n cap)) w := by simpa using this
      exact h9
theorem step_append_src {P : Program} {w : World} {ops : Array Oper} {o : Oper} {a : Act} {K : Act → World → Prop} {Q : Exit → Act → World → Prop} {E : Prop} (hgd : o.guard = none) (s x : Operand) (t : TypeId)
    (ho : o.op = .call { callee := .builtin .append, args := #[s, x], argTypes := #[t, t] })
    (base : Nat) (e : TypeId) (i : TypeInfo) (z : Value) (size bytes : Nat) (ht : P.underlying t = some (.slice e)) (hi : P.info? e = some i) (hz : i.zero = some z)
    (hsize : i.size = size) (hby : i.bytes = bytes) (hzs : z.cells.size = size) (hsz : 0 < size)
    (v : Value) (n : Nat) (xs : List Value) (hs : a.eval s = v) (hown : w.ownsRow base e size v n xs) (hv : v ≠ .slice none 0 0)
    (A : Option Addr) (m c : Nat) (news : List Value) (hx : a.eval x = .slice A m c) (hl : news.length = m * size) (hA : A = none → m = 0) (hnews : Cells w A news) (h1 : ∀ u ∈ news, u.oneCell' = true)
    (h63 : n + m ≤ maxLen) (hbytes : (n + m) * bytes ≤ 140737488355328) (hbase : base ≤ w.heap.size)
    (h : ∀ g cap w', w'.ownsRow base e size (.slice (some ⟨g, 0, none⟩) (n + m) cap) (n + m) (xs ++ news) → w.grownBy w' v.ownBlock → (some g = v.ownBlock ∨ g = w.heap.size) → K (a.put o.dst (.slice (some ⟨g, 0, none⟩) (n + m) cap)) w') :
    if Region.wanted o (yielded ops a.tmps) = true then Oper.wp P o a w K Q else E := by
  have hw : Region.wanted o (yielded ops a.tmps) = true := by simp [Region.wanted, hgd]
  rw [if_pos hw]
  exact wp_append_src s x t ho base e i z size bytes ht hi hz hsize hby hzs hsz v n xs hs hown hv A m c news hx hl hA hnews h1 h63 hbytes hbase h
theorem Rows.nil' {w : World} {B : Nat} {A : Option Addr} {len : Nat} {l : List Tp} (h : Rows 3 int3 (0,0,0) w B A len l) : A = none → len = 0 := by
  intro hA
  rcases Nat.eq_zero_or_pos len with h0 | h0
  · exact h0
  · obtain ⟨b, off, h1, -⟩ := h.2 h0
    rw [hA] at h1; cases h1
theorem Rows.cellsT {w : World} {B : Nat} {A : Option Addr} {len : Nat} {l : List Tp} (h : Rows 3 int3 (0,0,0) w B A len l) : Cells w A (tcells l) := by
  by_cases h0 : len = 0
  · left
    have : l = [] := List.eq_nil_of_length_eq_zero (by rw [h.1]; exact h0)
    rw [this]; rfl
  · right
    obtain ⟨b, off, h1, h2, h3⟩ := h.2 (by omega)
    refine ⟨b, off, h1, fun j u hj => ?_⟩
    have hlt : j < l.length * 3 := by
      rw [← tcells_len]
      exact (List.getElem?_eq_some_iff.1 hj).1
    have hk : j / 3 < l.length := by omega
    have hg := tcells_get l (j / 3) hk
    have hw := h3 (j / 3) (by rw [← h.1]; exact hk)
    rcases (by omega : j % 3 = 0 ∨ j % 3 = 1 ∨ j % 3 = 2) with hm | hm | hm
    · have e : j / 3 * 3 = j := by omega
      rw [e] at hg hw
      rw [hg.1] at hj
      injection hj with hj
      have := hw 0 u (by rw [← hj]; rfl)
      simpa using this
    · have e : j / 3 * 3 + 1 = j := by omega
      rw [e] at hg
      rw [hg.2.1] at hj
      injection hj with hj
      have := hw 1 u (by rw [← hj]; rfl)
      rw [Nat.add_assoc, e] at this
      exact this
    · have e : j / 3 * 3 + 2 = j := by omega
      rw [e] at hg
      rw [hg.2.2] at hj
      injection hj with hj
      have := hw 2 u (by rw [← hj]; rfl)
      rw [Nat.add_assoc, e] at this
      exact this
end Go.Proofs.YtmionebfepkolaaGreatDoor

namespace Go.Proofs.YtmionebfepkolaaGreatDoor
open Go.RowKit Go.Shelf
attribute [local go_sem] Later.cell Same.cell

theorem info_task : (Tryz.prog.info? 34).map (fun i => (i.zero, i.size, i.bytes)) = some (some (.agg #[.string ByteArray.empty, .int .i64 0, .int .i64 0, .slice none 0 0]), 4, 56) := by kernel_rfl
theorem info_str : (Tryz.prog.info? 9).map (fun i => (i.zero, i.size, i.bytes)) = some (some (.string ByteArray.empty), 1, 16) := by kernel_rfl
/-- What is good of a task as it lies. -/
def okR (w : World) (B : Nat) (x : TkR) : Prop := (x.1.2.1 ≤ x.1.2.2 ∧ x.1.2.2 ≤ 9223372036854775807) ∧ Strs w B x.1.1 x.1.2.1 x.2.af
theorem plan_rows {w : World} {B : Nat} {A : Option Addr} {len : Nat} {l : List Tk} (h : Plan w B A len l) : ∃ xs : List TkR, xs.map (·.2) = l ∧ Rows 4 tk4 dTR w B A len xs ∧ ∀ x ∈ xs, okR w B x := by
  obtain ⟨hl, h0⟩ := h
  by_cases hz : len = 0
  · subst hz
    have : l = [] := List.eq_nil_of_length_eq_zero hl
    subst this
    exact ⟨[], rfl, ⟨rfl, fun h => absurd h (Nat.lt_irrefl 0)⟩, fun x hx => by cases hx⟩
  · obtain ⟨b, off, hA, hb, hk⟩ := h0 (by omega)
    have hc : ∀ k, ∃ a : Option Addr × Nat × Nat, k < len → w.cell? ⟨b, off + k * 4 + 3, none⟩ = some (.slice a.1 a.2.1 a.2.2) ∧ (a.2.1 ≤ a.2.2 ∧ a.2.2 ≤ 9223372036854775807) ∧ Strs w B a.1 a.2.1 (tkA l k).af := fun k => by
      by_cases h : k < len
      · obtain ⟨-, -, -, A', n, c, c4, c5, c6, c7⟩ := hk k h
        exact ⟨(A', n, c), fun _ => ⟨c4, ⟨c5, c6⟩, c7⟩⟩
      · exact ⟨(none, 0, 0), fun h' => absurd h' h⟩
    obtain ⟨f, hf⟩ := Classical.axiomOfChoice hc
    refine ⟨(List.range len).map fun k => (f k, tkA l k), ?_, ⟨by simp, fun _ => ⟨b, off, hA, hb, fun k hkl j v hv => ?_⟩⟩, fun x hx => ?_⟩
    · apply List.ext_getElem
      · simp [hl]
      · intro k h1 h2
        simp [tkA, List.getElem?_eq_getElem h2]
    · have hg : ((List.range len).map fun k => (f k, tkA l k))[k]?.getD dTR = (f k, tkA l k) := by simp [List.getElem?_range hkl]
      rw [hg] at hv
      obtain ⟨c1, c2, c3, -⟩ := hk k hkl
      have c4 := (hf k hkl).1
      rcases j with _ | _ | _ | _ | j
      · simp [tk4] at hv; subst hv; exact c1
      · simp [tk4] at hv; subst hv; exact c2
      · simp [tk4] at hv; subst hv; exact c3
      · simp [tk4] at hv; subst hv; exact c4
      · simp [tk4] at hv
    · obtain ⟨k, hk', rfl⟩ := List.mem_map.1 hx
      exact (hf k (List.mem_range.1 hk')).2
def tcel (xs : List TkR) : List Value := xs.flatMap tk4
theorem tcel_app (l m : List TkR) : tcel (l ++ m) = tcel l ++ tcel m := by simp [tcel]
theorem tcel_len (l : List TkR) : (tcel l).length = l.length * 4 := by
  induction l with
  | nil => rfl
  | cons x l ih => simp only [tcel, List.flatMap_cons, List.length_append, List.length_cons, tk4, List.length_nil] at *; omega
theorem tcel_get : ∀ (l : List TkR) (k j : Nat), k < l.length → j < 4 → (tcel l)[k * 4 + j]? = (tk4 (l[k]?.getD dTR))[j]? := by
  intro l
  induction l with
  | nil => intro k j h; exact absurd h (by simp)
  | cons x l ih =>
    intro k j h hj
    have e0 : tcel (x :: l) = tk4 x ++ tcel l := rfl
    have el : (tk4 x).length = 4 := rfl
    rw [e0]
    cases k with
    | zero =>
      rw [List.getElem?_append_left (by rw [el]; omega)]
      simp
    | succ k =>
      rw [List.getElem?_append_right (by rw [el]; omega), el, show (k + 1) * 4 + j - 4 = k * 4 + j by omega, ih k j (by simpa using h) hj]
      simp
theorem tcel_one (l : List TkR) : ∀ u ∈ tcel l, u.oneCell' = true := by
  intro u hu
  simp only [tcel, List.mem_flatMap, tk4, List.mem_cons, List.not_mem_nil, or_false] at hu
  obtain ⟨x, _, rfl | rfl | rfl | rfl⟩ := hu <;> rfl
theorem tcel_set : ∀ (l : List TkR) (k j : Nat) (v : Value) (y : TkR), k < l.length → j < 4 → tk4 y = (tk4 (l[k]?.getD dTR)).set j v → (tcel l).set (k * 4 + j) v = tcel (l.set k y) := by
  intro l
  induction l with
  | nil => intro k j v y h; exact absurd h (by simp)
  | cons x l ih =>
    intro k j v y h hj hy
    have e0 : ∀ z : TkR, ∀ m, tcel (z :: m) = tk4 z ++ tcel m := fun z m => rfl
    have el : (tk4 x).length = 4 := rfl
    rw [e0]
    cases k with
    | zero =>
      rw [List.set_append_left _ _ (by rw [el]; omega), List.set_cons_zero, e0, hy]
      simp
    | succ k =>
      rw [List.set_append_right _ _ (by rw [el]; omega), el, show (k + 1) * 4 + j - 4 = k * 4 + j by omega, List.set_cons_succ, e0, ih k j v y (by simpa using h) hj (by simpa using hy)]
theorem Rows.cellsP {w : World} {B : Nat} {A : Option Addr} {len : Nat} {xs : List TkR} (h : Rows 4 tk4 dTR w B A len xs) : Cells w A (tcel xs) := by
  by_cases h0 : len = 0
  · left
    have : xs = [] := List.eq_nil_of_length_eq_zero (by rw [h.1, h0])
    rw [this]; rfl
  · right
    obtain ⟨b, off, h1, h2, h3⟩ := h.2 (by omega)
    refine ⟨b, off, h1, fun j u hj => ?_⟩
    have hlt : j < (tcel xs).length := (List.getElem?_eq_some_iff.1 hj).1
    rw [tcel_len, h.1] at hlt
    have hq : j / 4 < len := by omega
    have e : j = j / 4 * 4 + j % 4 := by omega
    have h4 := tcel_get xs (j / 4) (j % 4) (by rw [h.1]; exact hq) (Nat.mod_lt _ (by omega))
    rw [← e, hj] at h4
    have := h3 (j / 4) hq (j % 4) u h4.symm
    rw [show off + j / 4 * 4 + j % 4 = off + j by omega] at this
    exact this
def scel (ss : List ByteArray) : List Value := ss.map fun s => .string s
theorem scel_len (ss : List ByteArray) : (scel ss).length = ss.length := by simp [scel]
theorem scel_one (ss : List ByteArray) : ∀ u ∈ scel ss, u.oneCell' = true := by
  intro u hu
  obtain ⟨x, _, rfl⟩ := List.mem_map.1 hu
  rfl
theorem Strs.cells {w : World} {B : Nat} {A : Option Addr} {n : Nat} {ss : List ByteArray} (h : Strs w B A n ss) : Cells w A (scel ss) := by
  by_cases h0 : n = 0
  · left
    have : ss = [] := List.eq_nil_of_length_eq_zero (by rw [h.1, h0])
    rw [this]; rfl
  · right
    obtain ⟨b, off, h1, h2, h3⟩ := h.2 (by omega)
    refine ⟨b, off, h1, fun j u hj => ?_⟩
    have hlt : j < ss.length := by have := (List.getElem?_eq_some_iff.1 hj).1; rw [scel_len] at this; exact this
    have hu : u = .string (ss[j]?.getD ByteArray.empty) := by
      unfold scel at hj
      rw [List.getElem?_map, List.getElem?_eq_getElem hlt] at hj
      rw [List.getElem?_eq_getElem hlt]
      simpa using hj.symm
    subst hu
    have := h3 j (by rw [← h.1]; exact hlt) 0 _ rfl
    simpa using this
theorem Rows.nil0 {w : World} {B c : Nat} {α : Type} {f : α → List Value} {d : α} {A : Option Addr} {n : Nat} {ss : List α} (h : Rows c f d w B A n ss) (hA : A = none) : n = 0 := by
  rcases Nat.eq_zero_or_pos n with h0 | h0
  · exact h0
  · obtain ⟨b, off, h1, -⟩ := h.2 h0
    rw [hA] at h1; cases h1
set_option maxHeartbeats 2000000 in
theorem cloneS_any (A : Option Addr) (n c : Nat) (l : List ByteArray) (w : World) (hm : n ≤ 100000) (hx : Strs w w.heap.size A n l) :
    Calls Tryz.prog 26 #[.slice A n c] w fun e w' => (∃ v, e = .returned v ∧ w'.ownsRow w.heap.size 9 1 v n (scel l)) ∧ Below w.heap.size w w' := by
  obtain ⟨i0, hi, hz0, hz1, hz2⟩ := info_parts info_str
  have hn := hx.1
  have q22 := fun W a n k => Lib.run_eql_slice_nil (P := Tryz.prog) W 32 9 a n k 0 0 Tryz.underlying32
  have HC : Hid (Cells w A (scel l)) := Lib.hid (by first | exact Rows.cellsP hx | exact Strs.cells hx)
  have HN := Lib.hid (fun h => Rows.nil0 hx h)
  clear hx
  cases A with
  | none =>
    have hn0 := HN.out rfl
    subst hn0
    have hl0 : l = [] := List.eq_nil_of_length_eq_zero hn
    subst hl0
    clear HC HN hi hz0 hz1 hz2
    go_enter Tryz.func26, Tryz.ntmps26
    go_wp2
    go_ret
    exact ⟨⟨_, rfl, World.ownsRow_nil _ _ _ _⟩, Below.refl _ _⟩
  | some ad =>
    go_enter Tryz.func26, Tryz.ntmps26
    go_wp2_with (at_builtin; refine wpList_append_src rfl _ _ 32 rfl w.heap.size 9 i0 (.string ByteArray.empty) 1 16 Tryz.underlying32 hi hz0 hz1 hz2 rfl (by decide) (.slice (some ⟨w.heap.size, 0, none⟩) 0 0) 0 [] rfl (World.ownsRow_made w #[] 0 (Nat.le_refl _) (Nat.zero_le _) rfl) (by simp) (some ad) n c (scel l) rfl (by rw [scel_len, hn]; try omega) (by simp) ?qc2 (scel_one l) (by unfold maxLen; omega) (by omega) (by simp) ?_)
    case qc2 =>
      rcases HC.out with h | ⟨b', off', h1, h2⟩
      · exact .inl h
      · exact .inr ⟨b', off', h1, fun j u hj => Lib.cell?_alloc_some _ (h2 j u hj)⟩
    intro v' w1 hown hgrow hnil
    have hO := Lib.hid hown
    clear hown
    have hB : Below w.heap.size w w1 := ((Below.refl _ w).alloc (Nat.le_refl _) _).grown hgrow (by simp) (by intro k hk; simp [Value.ownBlock] at hk; omega)
    go_wp2
    go_ret
    exact ⟨⟨v', rfl, by simpa using hO.out⟩, hB⟩
end Go.Proofs.YtmionebfepkolaaGreatDoor
