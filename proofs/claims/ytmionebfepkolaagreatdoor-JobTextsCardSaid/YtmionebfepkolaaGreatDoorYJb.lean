/- Joined by merge.py from: Digs Numb Words TxtM TxtN TxtW. -/
import Derived.Test.YtmionebfepkolaaGreatDoorLater
import Derived.Test.YtmionebfepkolaaGreatDoorProg
import Derived.Test.YtmionebfepkolaaGreatDoorBase
import Derived.Lib.ItoaNum
import Derived.Test.YtmionebfepkolaaGreatDoorAppend
import Derived.Lib.SlBuf
import Derived.Lib.Join
import Derived.Lib.IndexMore
import Derived.Lib.AtoiAllCases
import Derived.Lib.AtoiTie
set_option linter.unusedSimpArgs false
set_option linter.unusedVariables false
namespace Go.Proofs.YtmionebfepkolaaGreatDoor
open Go.RowKit
attribute [local go_sem] Later.cell
theorem tens_at {d : Nat} (h : d < 10) : (⟨#[48, 49, 50, 51, 52, 53, 54, 55, 56, 57]⟩ : ByteArray).extract d (d + 1) = ⟨#[UInt8.ofNat (48 + d)]⟩ := by
  rcases (by omega : d = 0 ∨ d = 1 ∨ d = 2 ∨ d = 3 ∨ d = 4 ∨ d = 5 ∨ d = 6 ∨ d = 7 ∨ d = 8 ∨ d = 9) with rfl | rfl | rfl | rfl | rfl | rfl | rfl | rfl | rfl | rfl <;> rfl
theorem str_app (s t : List UInt8) : (⟨s.toArray⟩ : ByteArray) ++ ⟨t.toArray⟩ = ⟨(s ++ t).toArray⟩ := by
  apply ByteArray.ext
  simp
theorem ofNat_48 (d : Nat) : UInt8.ofNat (48 + d) = 48 + UInt8.ofNat d := by simp
theorem decDigits_big {m : Nat} (h : 9 < m) : Lib.decDigits m = Lib.decDigits (m / 10) ++ [UInt8.ofNat (48 + m % 10)] := by
  rw [Lib.decDigits, dif_neg (by omega)]
theorem decDigits_len_le (m : Nat) (h : m ≤ 9223372036854775807) : (Lib.decDigits m).length ≤ 19 := by
  have key : ∀ (k m : Nat), m < 10 ^ (k + 1) → (Lib.decDigits m).length ≤ k + 1 := by
    intro k
    induction k with
    | zero => intro m hm; rw [Lib.decDigits_one (by simpa using hm)]; simp
    | succ k ih =>
      intro m hm
      by_cases h9 : 9 < m
      · rw [decDigits_big h9, List.length_append]
        have := ih (m / 10) (by rw [Nat.pow_succ] at hm; omega)
        simp; omega
      · rw [Lib.decDigits_one (by omega)]; simp
  exact key 18 m (by omega)
end Go.Proofs.YtmionebfepkolaaGreatDoor

namespace Go.Proofs.YtmionebfepkolaaGreatDoor
open Go.RowKit
attribute [local go_sem] Later.cell

def digB (c : UInt8) : Bool := decide (48 ≤ c.toNat) && decide (c.toNat ≤ 57)
def valD (b : List UInt8) : Nat := b.foldl (fun a c => 10 * a + (c.toNat - 48)) 0
theorem valD_snoc (b : List UInt8) (c : UInt8) : valD (b ++ [c]) = 10 * valD b + (c.toNat - 48) := by unfold valD; rw [List.foldl_append]; rfl
theorem valD_lt : ∀ (k : Nat) (b : List UInt8), b.length ≤ k → b.all digB = true → valD b < 10 ^ k := by
  intro k
  induction k with
  | zero => intro b hb _; have : b = [] := List.eq_nil_of_length_eq_zero (by omega); subst this; simp [valD]
  | succ k ih =>
    intro b hb ha
    rcases List.eq_nil_or_concat b with rfl | ⟨r, c, rfl⟩
    · simp [valD]; exact Nat.pow_pos (by omega)
    · rw [List.concat_eq_append] at *
      rw [valD_snoc]
      rw [List.all_append, Bool.and_eq_true] at ha
      have h1 := ih r (by rw [List.length_append] at hb; simp at hb; omega) ha.1
      have h2 : digB c = true := by simpa using ha.2
      unfold digB at h2
      rw [Bool.and_eq_true, decide_eq_true_eq, decide_eq_true_eq] at h2
      rw [Nat.pow_succ]
      omega
/-- What stands behind a minus, and whether there is one. -/
def bodyS (l : List UInt8) : List UInt8 × Bool := match l with | 45 :: r => (r, true) | _ => (l, false)
def numOk (b : List UInt8) : Bool := decide (1 ≤ b.length) && (decide (b.length ≤ 18) && b.all digB)
def numV (l : List UInt8) : Int := if (bodyS l).2 then -(valD (bodyS l).1 : Int) else (valD (bodyS l).1 : Int)
def numR (l : List UInt8) : Int × Bool := if numOk (bodyS l).1 then (numV l, Lib.itoa (numV l) == l) else (0, false)
theorem numR_bad {l : List UInt8} (h : numOk (bodyS l).1 = false) : numR l = (0, false) := by unfold numR; rw [h]; rfl
theorem bodyS_no {c : UInt8} {r : List UInt8} (h : c ≠ 45) : bodyS (c :: r) = (c :: r, false) := by
  unfold bodyS
  split
  · rename_i h2; injection h2 with h3 _; exact absurd h3 h
  · rfl
theorem str_get {l : List UInt8} {k : Nat} (h : k < l.length) : ∀ h2 : k < (⟨l.toArray⟩ : ByteArray).size, (⟨l.toArray⟩ : ByteArray)[k]'h2 = l[k] := fun h2 => by
  show (l.toArray)[k]'_ = _
  simp
end Go.Proofs.YtmionebfepkolaaGreatDoor

namespace Go.Proofs.YtmionebfepkolaaGreatDoor
open Go.RowKit
attribute [local go_sem] Later.cell

theorem tinfo_str : (Tryz.prog.info? 9).map (fun i => (i.zero, i.size, i.bytes)) = some (some (.string ByteArray.empty), 1, 16) := by kernel_rfl
/-- The cells of texts. -/
def bcel (xs : List (List UInt8)) : List Value := xs.map fun s => .string ⟨s.toArray⟩
theorem bcel_len (xs : List (List UInt8)) : (bcel xs).length = xs.length := by simp [bcel]
theorem bcel_app (xs ys : List (List UInt8)) : bcel (xs ++ ys) = bcel xs ++ bcel ys := by simp [bcel]
theorem bcel_one (xs : List (List UInt8)) : ∀ u ∈ bcel xs, u.oneCell' = true := by
  intro u hu
  obtain ⟨x, _, rfl⟩ := List.mem_map.1 hu
  rfl
theorem bcel_get (xs : List (List UInt8)) (k : Nat) (h : k < xs.length) : (bcel xs)[k]? = some (.string ⟨(xs[k]?.getD []).toArray⟩) := by simp [bcel, List.getElem?_eq_getElem h]
theorem snews1 (W : World) (x : Value) (t : TypeId) : ∀ j u, ([x] : List Value)[j]? = some u → (W.alloc (.cells #[x] t)).cell? ((⟨W.heap.size, 0, none⟩ : Addr).add j) = some u := by
  intro j u hj
  cases j with
  | zero => simp at hj; subst hj; simp [Addr.add]
  | succ j => simp at hj
/-- The words of a text between marks, the first of them begun with cur. -/
def wordsA (m : UInt8) (cur : List UInt8) : List UInt8 → List (List UInt8)
  | [] => [cur]
  | c :: r => if c = m then cur :: wordsA m [] r else wordsA m (cur ++ [c]) r
def words (m : UInt8) (b : List UInt8) : List (List UInt8) := wordsA m [] b
theorem wordsA_yes {m : UInt8} {cur b : List UInt8} {k : Nat} (h : k < b.length) (hc : b[k] = m) : wordsA m cur (b.drop k) = cur :: wordsA m [] (b.drop (k + 1)) := by
  rw [List.drop_eq_getElem_cons h, wordsA, if_pos hc]
theorem wordsA_no {m : UInt8} {cur b : List UInt8} {k : Nat} (h : k < b.length) (hc : b[k] ≠ m) : wordsA m cur (b.drop k) = wordsA m (cur ++ [b[k]]) (b.drop (k + 1)) := by
  rw [List.drop_eq_getElem_cons h, wordsA, if_neg hc]
theorem wordsA_len (m : UInt8) : ∀ (b cur : List UInt8), (wordsA m cur b).length ≤ b.length + 1 := by
  intro b
  induction b with
  | nil => intro cur; simp [wordsA]
  | cons c r ih =>
    intro cur
    unfold wordsA
    split
    · have := ih []; simp; omega
    · have := ih (cur ++ [c]); simp; omega
theorem str_ext (l : List UInt8) (i j : Nat) : (⟨l.toArray⟩ : ByteArray).extract i j = ⟨((l.take j).drop i).toArray⟩ := by
  apply ByteArray.ext
  simp [List.extract_eq_take_drop, List.drop_take]
theorem take_drop_snoc {b : List UInt8} {f k : Nat} (hf : f ≤ k) (hk : k < b.length) : (b.take (k + 1)).drop f = (b.take k).drop f ++ [b[k]] := by
  rw [List.take_succ_eq_append_getElem hk, List.drop_append_of_le_length (by rw [List.length_take]; omega)]
/-- A row of texts that the call made, as a slice. -/
theorem own_words {w : World} {base : Nat} {e : TypeId} {v : Value} {n : Nat} {ss : List (List UInt8)} (h : w.ownsRow base e 1 v n (bcel ss)) :
    ss.length = n ∧ (n = 0 ∧ v = .slice none 0 0 ∨ ∃ g cap, v = .slice (some ⟨g, 0, none⟩) n cap ∧ n ≤ cap ∧ cap ≤ maxLen ∧ base ≤ g ∧ g < w.heap.size ∧ ∀ k, k < n → w.cell? ⟨g, k, none⟩ = some (.string ⟨(ss[k]?.getD []).toArray⟩) ∧ w.frozen? ⟨g, k, none⟩ = false) := by
  obtain ⟨h1, h2⟩ := h
  rw [bcel_len] at h1
  have hl : ss.length = n := by omega
  refine ⟨hl, ?_⟩
  rcases h2 with ⟨rfl, rfl⟩ | ⟨g, cap, cur, rfl, hb, hg, hnc, hm, hcs, ht⟩
  · exact .inl ⟨rfl, rfl⟩
  · right
    have hlt : g < w.heap.size := (Array.getElem?_eq_some_iff.1 hg).1
    refine ⟨g, cap, rfl, hnc, hm, hb, hlt, fun k hk => ⟨?_, by simp [World.frozen?, hg]⟩⟩
    rw [← bcel_get ss k (by omega), ← ht]
    simp [World.cell?, hg, List.getElem?_take, hk]
end Go.Proofs.YtmionebfepkolaaGreatDoor

namespace Go.Proofs.YtmionebfepkolaaGreatDoor
open Go.RowKit

theorem wordsA_app {m : UInt8} : ∀ (x cur rest : List UInt8), m ∉ x → wordsA m cur (x ++ rest) = wordsA m (cur ++ x) rest := by
  intro x
  induction x with
  | nil => intro cur rest _; simp
  | cons c x ih =>
    intro cur rest h
    have h1 : c ≠ m := fun e => h (by rw [e]; exact List.mem_cons_self ..)
    have h2 : m ∉ x := fun e => h (List.mem_cons_of_mem _ e)
    rw [List.cons_append, wordsA, if_neg h1, ih _ _ h2]
    simp
theorem joinTail_cons (sep y : List UInt8) (r : List (List UInt8)) : Lib.joinTail sep (y :: r) = sep ++ y ++ Lib.joinTail sep r := by simp [Lib.joinTail]
theorem wordsA_tail {m : UInt8} : ∀ (r : List (List UInt8)) (x : List UInt8), (∀ y ∈ r, m ∉ y) → wordsA m x (Lib.joinTail [m] r) = x :: r := by
  intro r
  induction r with
  | nil => intro x _; simp [Lib.joinTail, wordsA]
  | cons y r ih =>
    intro x h
    rw [joinTail_cons]
    show wordsA m x (m :: (y ++ Lib.joinTail [m] r)) = _
    rw [wordsA, if_pos rfl, wordsA_app _ _ _ (h y (List.mem_cons_self ..)), List.nil_append, ih _ (fun z hz => h z (List.mem_cons_of_mem _ hz))]
theorem words_join {m : UInt8} {ws : List (List UInt8)} (h0 : ws ≠ []) (h : ∀ y ∈ ws, m ∉ y) : words m (Lib.join ws [m]) = ws := by
  cases ws with
  | nil => exact absurd rfl h0
  | cons x r =>
    rw [Lib.join_cons, words, wordsA_app _ _ _ (h x (List.mem_cons_self ..)), List.nil_append, wordsA_tail _ _ (fun z hz => h z (List.mem_cons_of_mem _ hz))]
theorem wordsA_ne (m : UInt8) : ∀ (b cur : List UInt8), wordsA m cur b ≠ [] := by
  intro b
  induction b with
  | nil => intro cur; simp [wordsA]
  | cons c r ih => intro cur; unfold wordsA; split <;> simp [ih]
theorem join_wordsA (m : UInt8) : ∀ (b cur : List UInt8), Lib.join (wordsA m cur b) [m] = cur ++ b := by
  intro b
  induction b with
  | nil => intro cur; simp [wordsA, Lib.join_one]
  | cons c r ih =>
    intro cur
    unfold wordsA
    split
    · rename_i hc
      rw [Lib.join_cons]
      obtain ⟨y, t, hy⟩ := List.exists_cons_of_ne_nil (wordsA_ne m r [])
      have := ih []
      rw [hy, Lib.join_cons, List.nil_append] at this
      rw [hy, joinTail_cons, List.append_assoc, this, hc]
      simp
    · rw [ih]; simp
theorem join_words (m : UInt8) (b : List UInt8) : Lib.join (words m b) [m] = b := join_wordsA m b []
theorem wordsA_mem (m : UInt8) : ∀ (b cur : List UInt8), m ∉ cur → ∀ y ∈ wordsA m cur b, m ∉ y := by
  intro b
  induction b with
  | nil => intro cur h y hy; simp [wordsA] at hy; rw [hy]; exact h
  | cons c r ih =>
    intro cur h y hy
    unfold wordsA at hy
    split at hy
    · rcases List.mem_cons.1 hy with rfl | hy
      · exact h
      · exact ih [] (by simp) y hy
    · rename_i hc
      exact ih _ (by intro hm; rcases List.mem_append.1 hm with hm | hm; exact h hm; exact hc (List.mem_singleton.1 hm).symm) y hy
theorem words_mem {m : UInt8} {b y : List UInt8} (h : y ∈ words m b) : m ∉ y := wordsA_mem m b [] (by simp) y h
theorem join_snoc (xs : List (List UInt8)) (x sep : List UInt8) : Lib.join (xs ++ [x]) sep = if xs = [] then x else Lib.join xs sep ++ sep ++ x := by
  cases xs with
  | nil => simp [Lib.join_one]
  | cons y r => rw [if_neg (by simp), List.cons_append, Lib.join_cons, Lib.join_cons]; simp [Lib.joinTail]

/-! ### numerals -/
theorem digB_48 {d : Nat} (h : d < 10) : digB (UInt8.ofNat (48 + d)) = true ∧ (UInt8.ofNat (48 + d)).toNat - 48 = d := by
  have : (UInt8.ofNat (48 + d)).toNat = 48 + d := by simp; omega
  unfold digB
  rw [this]
  exact ⟨by simp; omega, by omega⟩
theorem dec_facts : ∀ (k n : Nat), n < 10 ^ (k + 1) → (Lib.decDigits n).all digB = true ∧ valD (Lib.decDigits n) = n ∧ (Lib.decDigits n).length ≤ k + 1 ∧ Lib.decDigits n ≠ [] := by
  intro k
  induction k with
  | zero =>
    intro n hn
    rw [Lib.decDigits_one (by simpa using hn)]
    have := digB_48 (d := n) (by simpa using hn)
    exact ⟨by simp only [List.all_cons, List.all_nil, this.1]; rfl, by simp only [valD, List.foldl_cons, List.foldl_nil, this.2]; omega, by simp, by simp⟩
  | succ k ih =>
    intro n hn
    by_cases h9 : 9 < n
    · have h1 := ih (n / 10) (by rw [Nat.pow_succ] at hn; omega)
      have h2 := digB_48 (d := n % 10) (Nat.mod_lt _ (by omega))
      rw [decDigits_big h9]
      exact ⟨by rw [List.all_append, h1.1]; simp only [List.all_cons, List.all_nil, h2.1]; rfl, by rw [valD_snoc, h1.2.1, h2.2]; omega, by rw [List.length_append]; have := h1.2.2.1; simp; omega, by simp⟩
    · rw [Lib.decDigits_one (by omega)]
      have := digB_48 (d := n) (by omega)
      exact ⟨by simp only [List.all_cons, List.all_nil, this.1]; rfl, by simp only [valD, List.foldl_cons, List.foldl_nil, this.2]; omega, by simp, by simp⟩
theorem itoa_neg {m : Nat} (h : 0 < m) : Lib.itoa (-(m : Int)) = 45 :: Lib.decDigits m := by
  unfold Lib.itoa
  rw [if_pos (by omega)]
  congr 1
  congr 1
  omega
theorem itoa_nat (m : Nat) : Lib.itoa (m : Int) = Lib.decDigits m := by
  unfold Lib.itoa
  rw [if_neg (by omega)]
  congr 1
theorem all_dig_ne {b : List UInt8} (h : b.all digB = true) {c : UInt8} (hc : c ∈ b) : 48 ≤ c.toNat ∧ c.toNat ≤ 57 := by
  have := List.all_eq_true.1 h c hc
  unfold digB at this
  simpa using this
theorem bodyS_dig {b : List UInt8} (h : b.all digB = true) : bodyS b = (b, false) := by
  cases b with
  | nil => rfl
  | cons c r =>
    refine bodyS_no fun e => ?_
    have := all_dig_ne h (List.mem_cons_self ..)
    rw [e] at this
    have h45 : (45 : UInt8).toNat = 45 := rfl
    omega
/-- A numeral is read back. -/
theorem numR_itoa {n : Int} (h1 : -1000000000000000000 < n) (h2 : n < 1000000000000000000) : numR (Lib.itoa n) = (n, true) := by
  by_cases hn : n < 0
  · obtain ⟨m, rfl⟩ : ∃ m : Nat, n = -(m : Int) := ⟨n.natAbs, by omega⟩
    have hf := dec_facts 17 m (by omega)
    have hb : bodyS (Lib.itoa (-(m : Int))) = (Lib.decDigits m, true) := by rw [itoa_neg (by omega)]; rfl
    have hv : numV (Lib.itoa (-(m : Int))) = -(m : Int) := by unfold numV; rw [hb, if_pos rfl, hf.2.1]
    have hk : numOk (Lib.decDigits m) = true := by
      unfold numOk
      rw [hf.1, decide_eq_true hf.2.2.1, decide_eq_true (show 1 ≤ (Lib.decDigits m).length from List.length_pos_iff.2 hf.2.2.2)]; rfl
    unfold numR
    rw [hv, hb, if_pos hk]
    simp
  · obtain ⟨m, rfl⟩ : ∃ m : Nat, n = (m : Int) := ⟨n.toNat, by omega⟩
    have hf := dec_facts 17 m (by omega)
    have hb : bodyS (Lib.itoa (m : Int)) = (Lib.decDigits m, false) := by rw [itoa_nat]; exact bodyS_dig hf.1
    have hv : numV (Lib.itoa (m : Int)) = (m : Int) := by unfold numV; rw [hb, if_neg (by simp), hf.2.1]
    have hk : numOk (Lib.decDigits m) = true := by
      unfold numOk
      rw [hf.1, decide_eq_true hf.2.2.1, decide_eq_true (show 1 ≤ (Lib.decDigits m).length from List.length_pos_iff.2 hf.2.2.2)]; rfl
    unfold numR
    rw [hv, hb, if_pos hk]
    simp
/-- What is read as a number is its numeral. -/
theorem numR_yes {w : List UInt8} (h : (numR w).2 = true) : w = Lib.itoa (numR w).1 ∧ -1000000000000000000 < (numR w).1 ∧ (numR w).1 < 1000000000000000000 := by
  unfold numR at *
  split at h
  · rename_i hk
    rw [if_pos hk]
    have hk' := hk
    unfold numOk at hk'
    simp only [Bool.and_eq_true, decide_eq_true_eq] at hk'
    have := valD_lt 18 _ hk'.2.1 hk'.2.2
    refine ⟨by simpa using (eq_of_beq h).symm, ?_⟩
    show -1000000000000000000 < numV w ∧ numV w < 1000000000000000000
    unfold numV
    split <;> omega
  · exact absurd h (by simp)
theorem numR_no_fst {w : List UInt8} (h : numOk (bodyS w).1 = false) : (numR w).2 = false := by rw [numR_bad h]
theorem itoa_chars {n : Int} {c : UInt8} (h : c ∈ Lib.itoa n) : c = 45 ∨ (48 ≤ c.toNat ∧ c.toNat ≤ 57) := by
  have hd : ∀ m : Nat, (Lib.decDigits m).all digB = true := fun m => (dec_facts m m (Nat.lt_of_lt_of_le (Nat.lt_pow_self (by omega)) (Nat.pow_le_pow_right (by omega) (by omega)))).1
  unfold Lib.itoa at h
  split at h
  · rcases List.mem_cons.1 h with rfl | h
    · exact .inl rfl
    · exact .inr (all_dig_ne (hd _) h)
  · exact .inr (all_dig_ne (hd _) h)
theorem itoa_ne (n : Int) : Lib.itoa n ≠ [] := by
  have hd : ∀ m : Nat, Lib.decDigits m ≠ [] := fun m => (dec_facts m m (Nat.lt_of_lt_of_le (Nat.lt_pow_self (by omega)) (Nat.pow_le_pow_right (by omega) (by omega)))).2.2.2
  unfold Lib.itoa
  split
  · simp
  · exact hd _
end Go.Proofs.YtmionebfepkolaaGreatDoor

namespace Go.Proofs.YtmionebfepkolaaGreatDoor
open Go.RowKit

theorem index_cons1 (m c : UInt8) (r : List UInt8) : Lib.index (c :: r) [m] = if m = c then 0 else if Lib.index r [m] = -1 then -1 else Lib.index r [m] + 1 := by
  rw [Lib.index]
  by_cases h : m = c
  · rw [if_pos h, if_pos (by subst h; simp [List.isPrefixOf])]
  · rw [if_neg h, if_neg (by simp [List.isPrefixOf, h])]
    by_cases h2 : Lib.index r [m] = -1 <;> simp [h2]
def cutM (m : UInt8) (b : List UInt8) : List UInt8 × List UInt8 × Bool := Lib.cut b [m]
theorem cutM_nil (m : UInt8) : cutM m [] = ([], [], false) := rfl
theorem cutM_cons (m c : UInt8) (r : List UInt8) : cutM m (c :: r) = if m = c then ([], r, true) else (c :: (cutM m r).1, (cutM m r).2.1, (cutM m r).2.2) := by
  unfold cutM Lib.cut
  rw [index_cons1]
  have hg := Lib.index_ge r [m]
  by_cases h : m = c
  · rw [if_pos h, if_pos h]; simp
  · rw [if_neg h, if_neg h]
    by_cases h2 : Lib.index r [m] = -1
    · rw [if_pos h2, h2]; simp
    · rw [if_neg h2]
      have h0 : 0 ≤ Lib.index r [m] := by omega
      rw [if_pos h0, if_pos (by omega)]
      obtain ⟨i, hi⟩ : ∃ i : Nat, Lib.index r [m] = i := ⟨(Lib.index r [m]).toNat, by omega⟩
      rw [hi]
      have e1 : ((i : Int) + 1).toNat = i + 1 := by omega
      have e2 : (i : Int).toNat = i := by omega
      simp only [e1, e2, List.length_cons, List.length_nil, List.take_succ_cons]
      have e3 : i + 1 + (0 + 1) = (i + (0 + 1)) + 1 := by omega
      rw [e3, List.drop_succ_cons]
theorem cutM_no {m : UInt8} : ∀ {b : List UInt8}, m ∉ b → cutM m b = (b, [], false) := by
  intro b
  induction b with
  | nil => intro _; rfl
  | cons c r ih =>
    intro h
    rw [cutM_cons, if_neg (fun e => h (by rw [e]; exact List.mem_cons_self ..)), ih (fun e => h (List.mem_cons_of_mem _ e))]
theorem cutM_app {m : UInt8} : ∀ {x : List UInt8} (r : List UInt8), m ∉ x → cutM m (x ++ m :: r) = (x, r, true) := by
  intro x
  induction x with
  | nil => intro r _; rw [List.nil_append, cutM_cons, if_pos rfl]
  | cons c x ih =>
    intro r h
    rw [List.cons_append, cutM_cons, if_neg (fun e => h (by rw [e]; exact List.mem_cons_self ..)), ih r (fun e => h (List.mem_cons_of_mem _ e))]
theorem cutM_yes {m : UInt8} : ∀ {b : List UInt8}, m ∈ b → (cutM m b).2.2 = true ∧ m ∉ (cutM m b).1 ∧ b = (cutM m b).1 ++ m :: (cutM m b).2.1 := by
  intro b
  induction b with
  | nil => intro h; simp at h
  | cons c r ih =>
    intro h
    rw [cutM_cons]
    by_cases hc : m = c
    · rw [if_pos hc]; exact ⟨rfl, by simp, by rw [hc]; rfl⟩
    · rw [if_neg hc]
      have hr : m ∈ r := by
        rcases List.mem_cons.1 h with e | e
        · exact absurd e hc
        · exact e
      obtain ⟨h1, h2, h3⟩ := ih hr
      refine ⟨h1, ?_, ?_⟩
      · intro e
        rcases List.mem_cons.1 e with e | e
        · exact hc e
        · exact h2 e
      · show c :: r = c :: ((cutM m r).1 ++ m :: (cutM m r).2.1)
        rw [← h3]
theorem cutM_flag (m : UInt8) (b : List UInt8) : (cutM m b).2.2 = decide (m ∈ b) := by
  by_cases h : m ∈ b
  · rw [(cutM_yes h).1, decide_eq_true h]
  · rw [cutM_no h, decide_eq_false h]
theorem cutM_len (m : UInt8) (b : List UInt8) : (cutM m b).1.length ≤ b.length ∧ (cutM m b).2.1.length ≤ b.length ∧ (m ∈ b → (cutM m b).2.1.length < b.length) := by
  by_cases h : m ∈ b
  · have h3 := congrArg List.length (cutM_yes h).2.2
    rw [List.length_append, List.length_cons] at h3
    exact ⟨by omega, by omega, fun _ => by omega⟩
  · rw [cutM_no h]
    exact ⟨Nat.le_refl _, Nat.zero_le _, fun e => absurd e h⟩
theorem words_no {m : UInt8} {b : List UInt8} (h : m ∉ b) : words m b = [b] := by
  have := wordsA_app b [] [] h
  simpa [words, wordsA] using this
theorem words_app {m : UInt8} {x : List UInt8} (r : List UInt8) (h : m ∉ x) : words m (x ++ m :: r) = x :: words m r := by
  rw [words, wordsA_app _ _ _ h, List.nil_append, wordsA, if_pos rfl]; rfl
theorem words_cut {m : UInt8} {b : List UInt8} (h : m ∈ b) : words m b = (cutM m b).1 :: words m (cutM m b).2.1 := by
  obtain ⟨h1, h2, h3⟩ := cutM_yes h
  conv => lhs; rw [h3]
  exact words_app _ h2
theorem words_ne (m : UInt8) (b : List UInt8) : words m b ≠ [] := wordsA_ne m b []

/-! ### strconv.Atoi -/
/-- The number that Atoi hands back, and whether it hands back no error. -/
def atoiV (l : List UInt8) : Int := match Lib.atoiAll l with | .ok v => v | .range => Lib.atoiSat l | _ => 0
def atoiOk (l : List UInt8) : Bool := match Lib.atoiAll l with | .ok _ => true | _ => false
theorem atoiV_bd (l : List UInt8) : -9223372036854775808 ≤ atoiV l ∧ atoiV l ≤ 9223372036854775807 := by
  unfold atoiV
  cases h : Lib.atoiAll l
  · exact Lib.atoiAll_bounds h
  · exact ⟨show (-9223372036854775808 : Int) ≤ 0 by decide, show (0 : Int) ≤ 9223372036854775807 by decide⟩
  · exact Lib.atoiSat_bounds l
theorem decFrom_dig : ∀ (b : List UInt8) (a : Nat), b.all digB = true → Lib.decFrom a b = some (b.foldl (fun a c => 10 * a + (c.toNat - 48)) a) := by
  intro b
  induction b with
  | nil => intro a _; rfl
  | cons c r ih =>
    intro a h
    rw [List.all_cons, Bool.and_eq_true] at h
    have h1 := h.1
    unfold digB at h1
    simp only [Bool.and_eq_true, decide_eq_true_eq] at h1
    rw [Lib.decFrom, Lib.digitVal, if_pos h1, List.foldl_cons, Nat.mul_comm 10 a]
    exact ih _ h.2
theorem atoi_dec {m : Nat} (h : m < 1000000000000000000) : Lib.parseMag (Lib.decDigits m) = .ok m := by
  have hf := dec_facts 17 m (by omega)
  rw [Lib.parseMag_short _ hf.2.2.1, Lib.decNat, if_neg (by simpa using hf.2.2.2), decFrom_dig _ _ hf.1]
  show Lib.NumEnd.ok (valD (Lib.decDigits m)) = _
  rw [hf.2.1]
theorem atoi_itoa {n : Int} (h1 : -1000000000000000000 < n) (h2 : n < 1000000000000000000) : Lib.atoiAll (Lib.itoa n) = .ok n := by
  by_cases hn : n < 0
  · obtain ⟨m, rfl⟩ : ∃ m : Nat, n = -(m : Int) := ⟨n.natAbs, by omega⟩
    rw [itoa_neg (by omega), Lib.atoiAll_minus, atoi_dec (by omega)]
    show (if 9223372036854775808 < m then _ else _) = _
    rw [if_neg (by omega)]
  · obtain ⟨m, rfl⟩ : ∃ m : Nat, n = (m : Int) := ⟨n.toNat, by omega⟩
    have hf := dec_facts 17 m (by omega)
    have hd := atoi_dec (m := m) (by omega)
    rw [itoa_nat]
    cases hb : Lib.decDigits m with
    | nil => exact absurd hb hf.2.2.2
    | cons c r =>
      have hc := all_dig_ne hf.1 (c := c) (by rw [hb]; exact List.mem_cons_self ..)
      rw [Lib.atoiAll_plain c r (by omega) (by omega), ← hb, hd]
      show (if 9223372036854775808 ≤ m then _ else _) = _
      rw [if_neg (by omega)]
theorem atoiV_itoa {n : Int} (h1 : -1000000000000000000 < n) (h2 : n < 1000000000000000000) : atoiV (Lib.itoa n) = n ∧ atoiOk (Lib.itoa n) = true := by
  unfold atoiV atoiOk
  rw [atoi_itoa h1 h2]
  exact ⟨rfl, rfl⟩
theorem itoa_no {m : UInt8} (n : Int) (h1 : m ≠ 45) (h2 : ¬ (48 ≤ m.toNat ∧ m.toNat ≤ 57)) : m ∉ Lib.itoa n := by
  intro h
  rcases itoa_chars h with e | e
  · exact h1 e
  · exact h2 e
end Go.Proofs.YtmionebfepkolaaGreatDoor

namespace Go.Proofs.YtmionebfepkolaaGreatDoor
open Go.RowKit
attribute [local go_sem] Later.cell

theorem xinfo_int : (Tryz.prog.info? 3).map (fun i => (i.zero, i.size, i.bytes)) = some (some (.int .i64 0), 1, 8) := by kernel_rfl
theorem xown_later {w w' : World} {base : Nat} {e : TypeId} {size : Nat} {v : Value} {n : Nat} {xs : List Value} (h : w.ownsRow base e size v n xs) (hb : Below w.heap.size w w') : w'.ownsRow base e size v n xs := by
  refine h.kept (row := none) ⟨hb.os, hb.tape, hb.output, hb.size, fun k hk _ => hb.block k hk⟩ ?_
  cases v.ownBlock <;> simp
theorem xown_mono {w : World} {base base' : Nat} {e : TypeId} {size : Nat} {v : Value} {n : Nat} {xs : List Value} (h : w.ownsRow base e size v n xs) (hb : base' ≤ base) : w.ownsRow base' e size v n xs := by
  obtain ⟨h1, h2⟩ := h
  refine ⟨h1, ?_⟩
  rcases h2 with h2 | ⟨g, cap, cur, a1, a2, a3⟩
  · exact .inl h2
  · exact .inr ⟨g, cap, cur, a1, by omega, a3⟩
theorem xone2 (m n : Int) : ∀ u ∈ ([.int .i64 m, .int .i64 n] : List Value), u.oneCell' = true := by
  intro u hu
  simp at hu
  rcases hu with rfl | rfl <;> rfl
theorem xone1 (n : Int) : ∀ u ∈ ([.int .i64 n] : List Value), u.oneCell' = true := by intro u hu; simp at hu; subst hu; rfl
/-- A row of texts, as a slice that a call is handed. -/
def Txts (w : World) (B : Nat) (A : Option Addr) (len : Nat) (ws : List (List UInt8)) : Prop :=
  ws.length = len ∧ (0 < len → ∃ b off, A = some ⟨b, off, none⟩ ∧ b < B ∧ ∀ k, k < len → w.cell? ⟨b, off + k, none⟩ = some (.string ⟨(ws[k]?.getD []).toArray⟩))
theorem Txts.at_ {w : World} {B : Nat} {A : Option Addr} {len : Nat} {xs : List (List UInt8)} (h : Txts w B A len xs) (k : Nat) (hk : k < len) :
    ∃ b off, A = some ⟨b, off, none⟩ ∧ b < B ∧ w.cell? ⟨b, off + k, none⟩ = some (.string ⟨(xs[k]?.getD []).toArray⟩) := by
  obtain ⟨b, off, h1, h2, h3⟩ := h.2 (by omega)
  exact ⟨b, off, h1, h2, h3 k hk⟩
theorem Txts.below {w w' : World} {B : Nat} {A : Option Addr} {len : Nat} {xs : List (List UInt8)} (h : Txts w B A len xs) (hb : Below B w w') : Txts w' B A len xs := by
  refine ⟨h.1, fun h0 => ?_⟩
  obtain ⟨b, off, h1, h2, h3⟩ := h.2 h0
  refine ⟨b, off, h1, h2, fun k hk => ?_⟩
  rw [hb.cell (p := ⟨b, _, none⟩) h2]
  exact h3 k hk
theorem Txts.more {w : World} {B B' : Nat} {A : Option Addr} {len : Nat} {xs : List (List UInt8)} (h : Txts w B A len xs) (hb : B ≤ B') : Txts w B' A len xs :=
  ⟨h.1, fun h0 => by obtain ⟨b, off, h1, h2, h3⟩ := h.2 h0; exact ⟨b, off, h1, by omega, h3⟩⟩
theorem own_txts {w : World} {base : Nat} {e : TypeId} {v : Value} {n : Nat} {ss : List (List UInt8)} (h : w.ownsRow base e 1 v n (bcel ss)) :
    ∃ A cap, v = .slice A n cap ∧ n ≤ cap ∧ cap ≤ maxLen ∧ ss.length = n ∧ Txts w w.heap.size A n ss ∧ (0 < n → ∃ g, A = some ⟨g, 0, none⟩ ∧ base ≤ g ∧ g < w.heap.size) := by
  obtain ⟨hl, h0 | ⟨g, cap, rfl, hnc, hm, hb, hlt, hc⟩⟩ := own_words h
  · obtain ⟨rfl, rfl⟩ := h0
    exact ⟨none, 0, rfl, Nat.le_refl _, Nat.zero_le _, hl, ⟨hl, fun h => absurd h (by omega)⟩, fun h => absurd h (by omega)⟩
  · exact ⟨some ⟨g, 0, none⟩, cap, rfl, hnc, hm, hl, ⟨hl, fun _ => ⟨g, 0, rfl, hlt, fun k hk => by rw [Nat.zero_add]; exact (hc k hk).1⟩⟩, fun _ => ⟨g, rfl, hb, hlt⟩⟩

theorem itoa_len20 {n : Int} (h1 : -1000000000000000000 < n) (h2 : n < 1000000000000000000) : (Lib.itoa n).length ≤ 19 := by
  by_cases hn : n < 0
  · obtain ⟨m, rfl⟩ : ∃ m : Nat, n = -(m : Int) := ⟨n.natAbs, by omega⟩
    rw [itoa_neg (by omega)]
    have := (dec_facts 17 m (by omega)).2.2.1
    simp; omega
  · obtain ⟨m, rfl⟩ : ∃ m : Nat, n = (m : Int) := ⟨n.toNat, by omega⟩
    rw [itoa_nat]
    have := (dec_facts 17 m (by omega)).2.2.1
    omega
theorem itoa_len64 {n : Int} (h1 : -9223372036854775808 ≤ n) (h2 : n ≤ 9223372036854775807) : (Lib.itoa n).length ≤ 20 := by
  by_cases hn : n < 0
  · obtain ⟨m, rfl⟩ : ∃ m : Nat, n = -(m : Int) := ⟨n.natAbs, by omega⟩
    rw [itoa_neg (by omega)]
    have := (dec_facts 18 m (by omega)).2.2.1
    simp; omega
  · obtain ⟨m, rfl⟩ : ∃ m : Nat, n = (m : Int) := ⟨n.toNat, by omega⟩
    rw [itoa_nat]
    have := (dec_facts 18 m (by omega)).2.2.1
    omega
/-- Numbers, each with a blank before it. -/
def listL (xs : List Int) : List UInt8 := xs.flatMap fun n => 32 :: Lib.itoa n
theorem listL_succ {xs : List Int} {k : Nat} (h : k < xs.length) : listL (xs.take (k + 1)) = listL (xs.take k) ++ [32] ++ Lib.itoa (xs[k]?.getD 0) := by
  rw [List.take_succ_eq_append_getElem h, List.getElem?_eq_getElem h]
  unfold listL
  rw [List.flatMap_append, List.append_assoc, List.flatMap_cons, List.flatMap_nil, List.append_nil]
  rfl
theorem listL_len : ∀ (xs : List Int), (∀ x ∈ xs, -1000000000000000000 < x ∧ x < 1000000000000000000) → (listL xs).length ≤ 20 * xs.length := by
  intro xs
  induction xs with
  | nil => intro _; simp [listL]
  | cons x r ih =>
    intro h
    have h1 := ih (fun y hy => h y (List.mem_cons_of_mem _ hy))
    have hx := h x (List.mem_cons_self ..)
    have h2 := itoa_len20 hx.1 hx.2
    have : listL (x :: r) = (32 :: Lib.itoa x) ++ listL r := rfl
    rw [this]
    simp; omega
theorem listL_len64 : ∀ (xs : List Int), (∀ x ∈ xs, -9223372036854775808 ≤ x ∧ x ≤ 9223372036854775807) → (listL xs).length ≤ 21 * xs.length := by
  intro xs
  induction xs with
  | nil => intro _; simp [listL]
  | cons x r ih =>
    intro h
    have h1 := ih (fun y hy => h y (List.mem_cons_of_mem _ hy))
    have hx := h x (List.mem_cons_self ..)
    have h2 := itoa_len64 hx.1 hx.2
    have : listL (x :: r) = (32 :: Lib.itoa x) ++ listL r := rfl
    rw [this]
    simp; omega
/-- What the reference's Numbers answers. -/
def numsR (ws : List (List UInt8)) : List Int × Bool := if ws.all (fun y => (numR y).2) then (ws.map (fun y => (numR y).1), true) else ([], false)
/-- The first k numbers. -/
def numK (ws : List (List UInt8)) (k : Nat) : List Int := (ws.take k).map fun y => (numR y).1
def okK (ws : List (List UInt8)) (k : Nat) : Bool := (ws.take k).all fun y => (numR y).2
theorem numK_succ {ws : List (List UInt8)} {k : Nat} (h : k < ws.length) : numK ws (k + 1) = numK ws k ++ [(numR (ws[k]?.getD [])).1] := by
  unfold numK
  rw [List.take_succ_eq_append_getElem h, List.map_append, List.getElem?_eq_getElem h]
  rfl
theorem okK_succ {ws : List (List UInt8)} {k : Nat} (h : k < ws.length) (h0 : okK ws k = true) (h1 : (numR (ws[k]?.getD [])).2 = true) : okK ws (k + 1) = true := by
  unfold okK at *
  rw [List.getElem?_eq_getElem h] at h1
  rw [List.take_succ_eq_append_getElem h, List.all_append, h0]
  simpa using h1
theorem numK_len {ws : List (List UInt8)} {k : Nat} (h : k ≤ ws.length) : (numK ws k).length = k := by
  unfold numK
  rw [List.length_map, List.length_take]; omega
theorem numsR_yes {ws : List (List UInt8)} (h : okK ws ws.length = true) : numsR ws = (numK ws ws.length, true) := by
  unfold okK at h
  rw [List.take_length] at h
  unfold numsR numK
  rw [if_pos h, List.take_length]
theorem numsR_no {ws : List (List UInt8)} {k : Nat} (hl : k < ws.length) (h : (numR (ws[k]?.getD [])).2 = false) : numsR ws = ([], false) := by
  rw [List.getElem?_eq_getElem hl] at h
  unfold numsR
  rw [if_neg]
  rw [List.all_eq_true]
  intro h2
  have := h2 _ (List.getElem_mem hl)
  rw [show (numR ws[k]).2 = false from h] at this
  exact absurd this (by simp)
end Go.Proofs.YtmionebfepkolaaGreatDoor
