/- Plans: slices.Backward over ints. -/
import Derived.Test.YtmionebfepkolaaGreatDoorJobI
set_option linter.unusedSimpArgs false
set_option linter.unusedVariables false
namespace Go.Proofs.YtmionebfepkolaaGreatDoor
open Go.RowKit Go.Shelf Go.Maps
attribute [local go_sem] Oper.semAt_some

theorem Backward_any (A : Option Addr) (len cap : Nat) (w : World) :
    Calls Tryz.prog 58 #[.slice A len cap] w fun e w' => e = .returned (.func (.func 71) #[] #[.pointer (some ⟨w.heap.size, 0, none⟩)]) ∧ w.alloc (.cells #[.slice A len cap] 37) = w' := by
  go_enter Tryz.func58, Tryz.ntmps58
  have hmf : ∀ (fn : Fn) (first cap : Array Value) (w : World), (Instr.makeFunc fn first cap).run Tryz.prog w = .ok (.func fn first cap) w := fun _ _ _ _ => rfl
  go_wp2
  go_ret
  exact ⟨rfl, rfl⟩
/-- The first k that come, from behind. -/
def bkL (n k : Nat) : List Nat := (List.range k).map fun q => n - 1 - q
theorem bkL_next (n k : Nat) : bkL n (k + 1) = bkL n k ++ [n - 1 - k] := by unfold bkL; rw [List.range_succ, List.map_append]; rfl
theorem bkL_len (n k : Nat) : (bkL n k).length = k := by unfold bkL; rw [List.length_map, List.length_range]
def encB (xs : List Int) (m x : Nat) : Array Value := #[.int .i64 ((x % m : Nat) : Int), .int .i64 (gI xs (x % m))]
theorem encB_eq {xs : List Int} {m x : Nat} (h : x < m) : encB xs m x = #[.int .i64 (x : Int), .int .i64 (gI xs x)] := by unfold encB; rw [Nat.mod_eq_of_lt h]
theorem Ints.keep {w w' : World} {B x : Nat} {A : Option Addr} {n : Nat} {xs : List Int} (h : Ints w B A n xs) (hx : ∀ b off, A = some ⟨b, off, none⟩ → b ≠ x) (hb : ∀ k, k < B → k ≠ x → w'.heap[k]? = w.heap[k]?) : Ints w' B A n xs := by
  refine ⟨h.1, fun h0 => ?_⟩
  obtain ⟨b, off, h1, h2, h3⟩ := h.2 h0
  refine ⟨b, off, h1, h2, fun k hk => ?_⟩
  exact (World.cell?_of_block (a := ⟨b, _, none⟩) (hb b h2 (hx b off h1))).trans (h3 k hk)
set_option maxRecDepth 100000 in
set_option maxHeartbeats 4000000 in
theorem bwd1_in (n : Nat) (hn : 1 ≤ n) (y Bl nB x : Nat) (A : Option Addr) (len cap : Nat) (xs : List Int) (hm : len ≤ 1000) (J Jx : List Nat → World → Prop)
    (W : World) (hJ : AbidesFrom W.heap.size J) (hb : (Bl < nB ∧ Bl ≠ x) ∧ nB ≤ W.heap.size) (hA : ∀ b off, A = some ⟨b, off, none⟩ → b ≠ x)
    (hY : ∀ pre x' W, J pre W → pre.length < len → YieldAt Fence.wide (n - 1) Tryz.prog y (encB xs len x') W fun e W' =>
      (e = .returned (.bool true) ∧ J (pre ++ [x']) W' ∧ KeepE nB x W W') ∨ (e = .returned (.bool false) ∧ Jx (pre ++ [x']) W'))
    (hcl : W.cell? ⟨Bl, 0, none⟩ = some (.slice A len cap)) (hX : Ints W nB A len xs) (h0 : J [] W) :
    CallsIn Fence.wide n Tryz.prog 71 #[.func (.yield y) #[] #[], .pointer (some ⟨Bl, 0, none⟩)] W fun e W' => (∃ v, e = .returned v) ∧
      ((∃ ys, ys = bkL len len ∧ J ys W') ∨ (∃ pre, True ∧ Jx pre W')) := by
  obtain rfl : xs.length = len := hX.1
  obtain ⟨⟨hl1, hl2⟩, hnB⟩ := hb
  have HJ := Lib.hid hJ
  have HY := Lib.hid hY
  have HX := Lib.hid hX
  have HA := Lib.hid hA
  have HBL := Lib.hid (bkL_len xs.length)
  have HBN := Lib.hid (bkL_next xs.length)
  clear hJ hY hX hA
  refine callsIn_of_wp Tryz.func71 rfl trivial ?_ rfl
  simp only [Tryz.ntmps71, List.size_toArray, List.length_cons, List.length_nil, Nat.reduceAdd, Nat.reduceSub, Array.replicate_succ, Array.replicate_zero, List.push_toArray, List.append_toArray, List.nil_append, List.cons_append]
  gi_wp2
  gi_loopw [3] (fun i wr => ∃ k : Nat, k ≤ xs.length ∧ i = .int .i64 ((xs.length : Int) - 1 - k) ∧ J (bkL xs.length k) wr ∧ KeepE nB x W wr) (fun i _ => ((intOf i) + 1).toNat)
  case atStart => exact ⟨0, Nat.zero_le _, by simp, h0, KeepE.refl _ _ _⟩
  case round =>
    obtain ⟨k, hk, rfl, hJs, hke⟩ := hrel
    have hcl1 := hke.cell hl1 hl2 hcl
    by_cases hlt : k < xs.length
    · obtain ⟨j, hj⟩ : ∃ j : Nat, j = xs.length - 1 - k := ⟨_, rfl⟩
      have hjI : (xs.length : Int) - 1 - k = (j : Int) := by omega
      have hjl : j < xs.length := by omega
      have hji : (j : Int) < xs.length := by omega
      have hj2 : ¬ xs.length ≤ j := by omega
      have hXr := HX.out.keep (w' := wr) HA.out (fun q h1 h2 => hke.2 q h1 h2)
      obtain ⟨b, off, rfl, hb0, hc1⟩ := hXr.at_ j hjl
      change wr.cell? _ = some (.int .i64 (gI xs j)) at hc1
      obtain ⟨fn, tmps, assign, body, hy, hR⟩ := HY.out _ j wr hJs (by rw [HBL.out]; exact hlt)
      rw [encB_eq hjl] at hy
      have HR := Lib.hid hR
      have hnx := HBN.out k
      rw [← hj] at hnx
      have HNX := Lib.hid hnx
      have HK := Lib.hid hke
      rw [hjI]
      clear hR hXr hJs hke hnx hj
      generalize gI xs j = G at *
      gi_wp2
      refine HR.out.mono ?_
      rintro e W3 (⟨rfl, hJ3, hk3⟩ | ⟨rfl, hJx3⟩)
      · have HJ3 := Lib.hid hJ3
        have hK4 := HK.out.t hk3
        clear hJ3 hk3
        gi_wp2
        go_roundw
        case rel => exact ⟨k + 1, by omega, congrArg (Value.int .i64) (by omega), by rw [HNX.out]; exact HJ3.out, hK4⟩
        case measure => first | (simp [intOf]; done) | (simp [intOf]; omega)
      · gi_wp2
        refine bodyPost_ret (results_none rfl _ _ _) rfl ?_
        exact ⟨⟨_, rfl⟩, .inr ⟨_, trivial, hJx3⟩⟩
    · have hkn : k = xs.length := by omega
      have HJS := Lib.hid hJs
      have hz : (xs.length : Int) - 1 - k = -1 := by omega
      rw [hz]
      clear hJs hke
      subst hkn
      gi_wp2
      go_end0
      first | exact ⟨⟨_, rfl⟩, .inl ⟨_, rfl, HJS.out⟩⟩ | exact ⟨⟨_, rfl⟩, .inl HJS.out⟩
theorem bwd_stops (n : Nat) (hn : 1 ≤ n) (Bl nB x : Nat) (A : Option Addr) (len cap : Nat) (xs : List Int) (hm : len ≤ 1000) (w : World)
    (hb : (Bl < nB ∧ Bl ≠ x) ∧ nB ≤ w.heap.size) (hA : ∀ b off, A = some ⟨b, off, none⟩ → b ≠ x)
    (hcl : w.cell? ⟨Bl, 0, none⟩ = some (.slice A len cap)) (hX : Ints w nB A len xs) :
    SeqStopsK Fence.wide n Tryz.prog 71 #[.pointer (some ⟨Bl, 0, none⟩)] (encB xs len) (KeepE nB x) (fun ys => ys = bkL len len) (fun _ => True) len w := fun y J Jx W hW hJ _ hY h0 =>
  bwd1_in n hn y Bl nB x A len cap xs hm J Jx W hJ ⟨hb.1, by have := hW.size; omega⟩ hA hY ((hW.cell (p := ⟨Bl, 0, none⟩) (by show Bl < _; omega)).trans hcl) (hX.below (hW.mono (by omega))) h0
end Go.Proofs.YtmionebfepkolaaGreatDoor
