/- Plans: slices.ContainsFunc over texts, at the closures of ready and Waits. -/
import Derived.Test.YtmionebfepkolaaGreatDoorJobQ1
set_option linter.unusedSimpArgs false
set_option linter.unusedVariables false
namespace Go.Proofs.YtmionebfepkolaaGreatDoor
open Go.RowKit Go.Maps
attribute [local go_sem] Later.cell

/-- The first place at which p holds; -1 if there is none. -/
def fiS (p : ByteArray → Bool) (ss : List ByteArray) : Int := match ss.findIdx? p with
  | none => -1
  | some i => (i : Int)
def ssA (ss : List ByteArray) (k : Nat) : ByteArray := ss[k]?.getD ByteArray.empty
theorem ssA_mem {ss : List ByteArray} {k : Nat} (h : k < ss.length) : ssA ss k ∈ ss := by unfold ssA; rw [List.getElem?_eq_getElem h]; exact List.getElem_mem _
theorem fiS_at {p : ByteArray → Bool} {ss : List ByteArray} {k : Nat} (hk : k < ss.length) (hb : ∀ j, j < k → p (ssA ss j) = false) (h : p (ssA ss k) = true) : (k : Int) = fiS p ss := by
  have : ss.findIdx? p = some k := by
    rw [List.findIdx?_eq_some_iff_getElem]
    refine ⟨hk, ?_, fun j hj => ?_⟩
    · unfold ssA at h; rw [List.getElem?_eq_getElem hk] at h; exact h
    · have := hb j hj
      unfold ssA at this; rw [List.getElem?_eq_getElem (by omega)] at this; simpa using this
  unfold fiS; rw [this]
theorem fiS_no {p : ByteArray → Bool} {ss : List ByteArray} (hb : ∀ j, j < ss.length → p (ssA ss j) = false) : -1 = fiS p ss := by
  have : ss.findIdx? p = none := by
    rw [List.findIdx?_eq_none_iff]
    intro x hx
    obtain ⟨j, hj, rfl⟩ := List.getElem_of_mem hx
    have := hb j hj
    unfold ssA at this; rw [List.getElem?_eq_getElem hj] at this; exact this
  unfold fiS; rw [this]
theorem fiS_ge (p : ByteArray → Bool) (ss : List ByteArray) : decide (0 ≤ fiS p ss) = ss.any p := by
  unfold fiS
  cases h : ss.findIdx? p with
  | none =>
    rw [List.findIdx?_eq_none_iff] at h
    symm; rw [show decide ((0:Int) ≤ -1) = false from rfl, List.any_eq_false]
    intro x hx; simpa using h x hx
  | some i =>
    rw [List.findIdx?_eq_some_iff_getElem] at h
    obtain ⟨hi, h1, _⟩ := h
    symm
    have : decide ((0:Int) ≤ (i : Int)) = true := by simp
    rw [this, List.any_eq_true]
    exact ⟨ss[i], List.getElem_mem hi, h1⟩
set_option maxRecDepth 20000 in
set_option maxHeartbeats 2000000 in
theorem IdxReady_any (B : Nat) (p : ByteArray → Bool) (A : Option Addr) (len cap : Nat) (ss : List ByteArray) (w : World) (hm : len ≤ 9223372036854775807) (hx : Strs w w.heap.size A len ss)
    (hc : ∀ s ∈ ss, ∀ W, Below w.heap.size w W → Calls Tryz.prog 74 #[.string s, .pointer (some ⟨B, 0, none⟩)] W fun e w' => e = .returned (.bool (p s)) ∧ W = w') :
    Calls Tryz.prog 92 #[.slice A len cap, .func (.func 74) #[] #[.pointer (some ⟨B, 0, none⟩)]] w fun e w' => e = .returned (.int .i64 (fiS p ss)) ∧ w = w' := by
  obtain rfl : ss.length = len := hx.1
  obtain ⟨R, hR⟩ : ∃ R, R = fiS p ss := ⟨_, rfl⟩
  rw [← hR]
  have HR := Lib.hid hR
  have C1 := Lib.hid hc
  have HX := Lib.hid hx
  clear hc hx hR
  go_enter Tryz.func92, Tryz.ntmps92
  go_wp2
  go_loopw [8] (fun i wr => ∃ k : Nat, k ≤ ss.length ∧ i = .int .i64 k ∧ Hid (∀ j, j < k → p (ssA ss j) = false) ∧ w = wr) (fun i _ => ss.length - (intOf i).toNat)
  case atStart => exact ⟨0, Nat.zero_le _, rfl, Lib.hid (fun j hj => absurd hj (by omega)), rfl⟩
  case round =>
    obtain ⟨k, hk, rfl, hT, rfl⟩ := hrel
    by_cases hlt : k < ss.length
    · obtain ⟨b, off, rfl, hb0, hc1⟩ := HX.out.atS k hlt
      change w.cell? _ = some (.string (ssA ss k)) at hc1
      have HN := Lib.hid (fun h => fiS_at hlt hT.out h)
      have HY := Lib.hid (fun h j (hj : j < k + 1) => if e : j = k then (by rw [e]; exact h : p (ssA ss j) = false) else hT.out j (by omega))
      have c2 := C1.out (ssA ss k) (ssA_mem hlt) w (Below.refl _ _)
      have hk1 : (k : Int) < ss.length := by omega
      have hk2 : ¬ ss.length ≤ k := by omega
      generalize ssA ss k = X at *
      cases hv : p X
      · have h4 := Lib.hid (HY.out hv)
        rw [hv] at c2
        have C2 := Lib.hid c2
        clear c2 hv HN HY
        go_wp2_with fail
        refine C2.out.mono ?_
        rintro e w1 ⟨rfl, rfl⟩
        go_wp2
        go_roundw
        case rel => exact ⟨k + 1, by omega, by go_num, h4, by first | rfl | trivial⟩
        case measure => simp [intOf]; omega
      · have h4 : Hid ((k : Int) = R) := Lib.hid (by rw [HR.out]; exact HN.out hv)
        rw [hv] at c2
        have C2 := Lib.hid c2
        clear c2 hv HN HY
        go_wp2_with fail
        refine C2.out.mono ?_
        rintro e w1 ⟨rfl, rfl⟩
        go_wp2
        go_ret
        exact ⟨ret_int h4.out, rfl⟩
    · have hfin : Hid ((-1 : Int) = R) := Lib.hid (by rw [HR.out]; exact fiS_no fun j hj => hT.out j (by omega))
      have hk1 : ¬ (k : Int) < ss.length := by omega
      clear hT
      go_wp2
      go_ret
      exact ⟨ret_int hfin.out, rfl⟩
set_option maxHeartbeats 1000000 in
theorem ContReady_any (B : Nat) (p : ByteArray → Bool) (A : Option Addr) (len cap : Nat) (ss : List ByteArray) (w : World) (hm : len ≤ 9223372036854775807) (hx : Strs w w.heap.size A len ss)
    (hc : ∀ s ∈ ss, ∀ W, Below w.heap.size w W → Calls Tryz.prog 74 #[.string s, .pointer (some ⟨B, 0, none⟩)] W fun e w' => e = .returned (.bool (p s)) ∧ W = w') :
    Calls Tryz.prog 73 #[.slice A len cap, .func (.func 74) #[] #[.pointer (some ⟨B, 0, none⟩)]] w fun e w' => e = .returned (.bool (ss.any p)) ∧ w = w' := by
  have c1 := IdxReady_any B p A len cap ss w hm hx hc
  have hg := fiS_ge p ss
  generalize fiS p ss = I at *
  have C1 := Lib.hid c1
  have HG := Lib.hid hg
  clear c1 hx hc hg
  go_enter Tryz.func73, Tryz.ntmps73
  go_wp2_with fail
  refine C1.out.mono ?_
  rintro e w1 ⟨rfl, rfl⟩
  go_wp2
  go_ret
  exact ⟨ret_bool HG.out, rfl⟩
set_option maxHeartbeats 1000000 in
theorem ready11_any (s : ByteArray) (B mb n : Nat) (M : ByteArray → Option Bool) (w : World) (hs : s.size ≤ 9223372036854775807) (hc : w.cell? ⟨B, 0, none⟩ = some (.map (some mb))) (hM : MapS w mb n M) :
    Calls Tryz.prog 74 #[.string s, .pointer (some ⟨B, 0, none⟩)] w fun e w' => e = .returned (.bool (!(M s).getD false)) ∧ w = w' := by
  have HM := Lib.hid hM
  have HS := Lib.hid hs
  clear hM
  go_enter Tryz.func74, Tryz.ntmps74
  go_wp2_with (at_lookup; refine wpList_mapv_bool rfl (.tmp 4) (.tmp 5) 74 rfl lawS Tryz.underlying74 underBo (zeroBo _) rfl HM.out s _ rfl (keyS HS.out) ?_)
  go_ret
  exact ⟨rfl, rfl⟩
theorem ready_any (A : Option Addr) (len cap : Nat) (mb : Nat) (w : World) :
    Calls Tryz.prog 60 #[.slice A len cap, .map (some mb)] w fun e w' => e = .returned (.func (.func 72) #[] #[.pointer (some ⟨w.heap.size, 0, none⟩), .pointer (some ⟨w.heap.size + 1, 0, none⟩)]) ∧ (w.alloc (.cells #[.slice A len cap] 22)).alloc (.cells #[.map (some mb)] 74) = w' := by
  go_enter Tryz.func60, Tryz.ntmps60
  have hmf : ∀ (fn : Fn) (first cap : Array Value) (w : World), (Instr.makeFunc fn first cap).run Tryz.prog w = .ok (.func fn first cap) w := fun _ _ _ _ => rfl
  go_wp2
  go_ret
  exact ⟨rfl, rfl⟩
end Go.Proofs.YtmionebfepkolaaGreatDoor
