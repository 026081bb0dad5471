/- Ladder's texts: plain: what Format writes. -/
import Derived.Test.YtjgibipficojaaaDoorTxtM
import Derived.Test.YtjgibipficojaaaDoorJoint
set_option linter.unusedSimpArgs false
set_option linter.unusedVariables false
namespace Go.Proofs.YtjgibipficojaaaDoor
open Go.RowKit

def bang (s : Bool) : List UInt8 := if s then [] else [33]
def fmtJ (j : J) : List UInt8 := Lib.itoa j.1 ++ bang j.2
def fmtK (l : List J) (k : Nat) : List UInt8 := Lib.join ((l.take k).map fmtJ) [32]
def fmtL (l : List J) : List UInt8 := if vJ l then fmtK l l.length else []
def sepK (k : Nat) : List UInt8 := if k = 0 then [] else [32]
theorem fmtK_succ {l : List J} {k : Nat} (h : k < l.length) : fmtK l (k + 1) = fmtK l k ++ sepK k ++ Lib.itoa (hgt l k) ++ bang (sndB l k) := by
  have hg : l[k]?.getD dJ = l[k] := by rw [List.getElem?_eq_getElem h]; rfl
  unfold fmtK
  rw [List.take_succ_eq_append_getElem h, List.map_append, List.map_singleton, join_snoc]
  have he : fmtJ l[k] = Lib.itoa (hgt l k) ++ bang (sndB l k) := by unfold fmtJ hgt sndB; rw [hg]
  rw [he]
  cases k with
  | zero => simp [sepK, Lib.join_nil]
  | succ k =>
    rw [if_neg (by cases l with | nil => exact absurd h (by simp) | cons x r => simp)]
    simp [sepK]
theorem itoa_len_s {n : Int} (h1 : -1000000000000000000 < n) (h2 : n < 1000000000000000000) : (Lib.itoa n).length ≤ 19 := by
  by_cases hn : n < 0
  · obtain ⟨m, rfl⟩ : ∃ m : Nat, n = -(m : Int) := ⟨n.natAbs, by omega⟩
    have hf := (dec_facts 17 m (by omega)).2.2.1
    rw [itoa_neg (by omega)]; simp; omega
  · obtain ⟨m, rfl⟩ : ∃ m : Nat, n = (m : Int) := ⟨n.toNat, by omega⟩
    have hf := (dec_facts 17 m (by omega)).2.2.1
    rw [itoa_nat]; omega
theorem bang_len (s : Bool) : (bang s).length ≤ 1 := by cases s <;> simp [bang]
theorem sepK_len (k : Nat) : (sepK k).length ≤ 1 := by unfold sepK; split <;> simp
theorem fmtK_len {l : List J} (hv : vJ l = true) : ∀ k, k ≤ l.length → (fmtK l k).length ≤ 21 * k := by
  intro k
  induction k with
  | zero => intro _; simp [fmtK, Lib.join_nil]
  | succ k ih =>
    intro hk
    have h1 := (vJ_spec hv).2.1 k (by omega)
    rw [fmtK_succ (by omega)]
    have := ih (by omega)
    have h2 := itoa_len_s (n := hgt l k) (by omega) (by omega)
    have h3 := bang_len (sndB l k)
    have h4 := sepK_len k
    simp only [List.length_append]
    omega
end Go.Proofs.YtjgibipficojaaaDoor
