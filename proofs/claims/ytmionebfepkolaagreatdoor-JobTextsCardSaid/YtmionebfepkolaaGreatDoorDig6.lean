/- Numerals: the reference's Digits (layer 6). -/
import Derived.Test.YtmionebfepkolaaGreatDoorYJb
import Derived.Test.YtmionebfepkolaaGreatDoorYJc
import Derived.Laws.IdiomStrings
set_option linter.unusedSimpArgs false
set_option linter.unusedVariables false
namespace Go.Proofs.YtmionebfepkolaaGreatDoor
open Go.RowKit
attribute [local go_sem] Later.cell
theorem conv_one (W : World) (b : Nat) (c : UInt8) (h : W.cell? ⟨b, 0, none⟩ = some (.int .u8 (c.toNat : Int))) :
    (convert 46 9 (.slice (some ⟨b, 0, none⟩) 1 1)).run Tryz.prog W = .ok (.string ⟨#[c]⟩) W := by
  have := run_convert_bytes_back (P := Tryz.prog) W 46 9 5 ⟨b, 0, none⟩ 1 [c] Tryz.underlying46 Tryz.underlying5 Tryz.underlying9 (by
    intro j hj
    have : j = 0 := by simp at hj; omega
    subst this
    exact h)
  exact this
theorem cell_new1 (W : World) (v : Value) (t : TypeId) : (W.alloc (.cells #[v] t)).cell? ⟨W.heap.size, 0, none⟩ = some v := by
  have := snews1 W v t 0 v rfl
  exact this.trans rfl |> fun h => by first | exact h | simpa [Addr.add] using h
theorem dig_u8 {d : Nat} (h : d < 10) : ((UInt8.ofNat (48 + d)).toNat : Int) = 48 + (d : Int) := by
  have : (UInt8.ofNat (48 + d)).toNat = 48 + d := by simp; omega
  omega
set_option maxRecDepth 20000 in
set_option maxHeartbeats 2000000 in
theorem digits6_nat (n : Nat) : ∀ (w : World), n ≤ 9223372036854775807 →
    Calls Tryz.prog 30 #[.int .i64 (n : Int)] w fun e w' => e = .returned (.string ⟨(Lib.decDigits n).toArray⟩) ∧ Below w.heap.size w w' := by
  induction n using Nat.strongRecOn with
  | ind n ih =>
    intro w hn
    have hne : ((n : Int) == -9223372036854775808) = false := beq_eq_false_iff_ne.2 (by omega)
    have hn0 : ¬ (n : Int) < 0 := by omega
    have hn0' : decide ((n : Int) < 0) = false := decide_eq_false (by omega)
    by_cases h9 : 9 < n
    · have hlt : ¬ (n : Int) < 10 := by omega
      have C1 := Lib.hid (fun W => ih (n / 10) (by omega) W (by omega))
      have hD := decDigits_big h9
      have hlen := decDigits_len_le (n / 10) (by omega)
      have hap := str_app (Lib.decDigits (n / 10)) [UInt8.ofNat (48 + n % 10)]
      rw [← hD] at hap
      have hd8 := dig_u8 (d := n % 10) (Nat.mod_lt _ (by omega))
      have hwr : IntKind.u8.wrap (48 + (n : Int) % 10) = 48 + (n : Int) % 10 := by rw [IntKind.wrap_u8]; omega
      have HAP := Lib.hid hap
      clear hap hD ih
      have hz : (⟨(Lib.decDigits (n / 10)).toArray⟩ : ByteArray).size = (Lib.decDigits (n / 10)).length := rfl
      generalize Lib.decDigits (n / 10) = D at *
      generalize Lib.decDigits n = E at *
      go_enter Tryz.func30, Tryz.ntmps30
      go_wp2_with fail
      refine wp_region_mix (by kernel_rfl) (by kernel_rfl) ?_
      refine wpC_take (f := 6) (by kernel_rfl) (by kernel_rfl) ⟨⟨_, (Below.refl _ _).drew⟩, rfl⟩ [0, 1, 3, 4, 5] _ _ (by kernel_rfl) ?_
      simp only [List.map_cons, List.map_nil, List.getElem?_toArray, List.getElem?_cons_succ, List.getElem?_cons_zero, Option.getD_some]
      repeat (go_big_quiet_step (fail))
      refine wpQuiet_nil ?_
      have hB : Below w.heap.size w w.drew := (Below.refl _ _).drew
      generalize w.drew = WW0 at *
      refine wpC_all (rs := [2, 6]) (by kernel_rfl) (by decide) ?_
      intro i hi
      simp only [List.mem_cons, List.not_mem_nil, or_false] at hi
      rcases hi with rfl | rfl
      · refine ⟨_, rfl, ?_⟩
        go_simp
        refine (C1.out _).mono ?_
        rintro e WW1 ⟨rfl, hb9⟩
        replace hB := below_step hB hb9
        clear hb9
        refine ⟨⟨⟨_, hB⟩, rfl⟩, ?_⟩
        go_simp
        refine wpC_all (rs := [6]) (by kernel_rfl) (by decide) ?_
        intro i hi
        simp only [List.mem_cons, List.not_mem_nil, or_false] at hi
        subst hi
        refine ⟨_, rfl, ?_⟩
        go_simp
        refine ⟨⟨⟨_, hB⟩, rfl⟩, ?_⟩
        try simp only [hwr]
        generalize WW1 = WW2 at *
        refine wpC_all (rs := [7]) (by kernel_rfl) (by decide) ?_
        intro i hi
        simp only [List.mem_cons, List.not_mem_nil, or_false] at hi
        subst hi
        refine ⟨_, rfl, ?_⟩
        go_simp
        have hcl := cell_new1 WW2 (.int .u8 (48 + (n : Int) % 10)) 5
        have hbk : WW2.heap.size < (WW2.alloc (.cells #[.int .u8 (48 + (n : Int) % 10)] 5)).heap.size := by simp
        replace hB := hB.alloc hB.size (.cells #[.int .u8 (48 + (n : Int) % 10)] 5)
        refine ⟨⟨⟨_, hB⟩, rfl⟩, ?_⟩
        generalize WW2.heap.size = g at hcl hbk ⊢
        generalize WW2.alloc (.cells #[.int .u8 (48 + (n : Int) % 10)] 5) = WW3 at *
        refine wpC_all (rs := [8]) (by kernel_rfl) (by decide) ?_
        intro i hi
        simp only [List.mem_cons, List.not_mem_nil, or_false] at hi
        subst hi
        refine ⟨_, rfl, ?_⟩
        have hc8 := conv_one WW3 g (UInt8.ofNat (48 + n % 10)) (by rw [hd8]; exact hcl)
        go_simp
        refine ⟨⟨⟨_, hB⟩, rfl⟩, ?_⟩
        generalize WW3 = WW4 at *
        refine wpC_take (f := 0) (by kernel_rfl) (by kernel_rfl) ⟨⟨_, hB⟩, rfl⟩ [9, 10] _ _ (by kernel_rfl) ?_
        simp only [List.map_cons, List.map_nil, List.getElem?_toArray, List.getElem?_cons_succ, List.getElem?_cons_zero, Option.getD_some]
        repeat (go_big_quiet_step (fail))
        refine wpQuiet_nil ?_
        refine wpC_done (by kernel_rfl) ?_
        go_wp2
        go_ret
        exact ⟨ret1 (by first | rfl | exact congrArg Value.string (by rw [← ofNat_48]; exact HAP.out)), hB⟩
      · refine ⟨_, rfl, ?_⟩
        go_simp
        refine ⟨⟨⟨_, hB⟩, rfl⟩, ?_⟩
        try simp only [hwr]
        generalize WW0 = WW1 at *
        refine wpC_all (rs := [2, 7]) (by kernel_rfl) (by decide) ?_
        intro i hi
        simp only [List.mem_cons, List.not_mem_nil, or_false] at hi
        rcases hi with rfl | rfl
        · refine ⟨_, rfl, ?_⟩
          go_simp
          refine (C1.out _).mono ?_
          rintro e WW2 ⟨rfl, hb9⟩
          replace hB := below_step hB hb9
          clear hb9
          refine ⟨⟨⟨_, hB⟩, rfl⟩, ?_⟩
          go_simp
          refine wpC_all (rs := [7]) (by kernel_rfl) (by decide) ?_
          intro i hi
          simp only [List.mem_cons, List.not_mem_nil, or_false] at hi
          subst hi
          refine ⟨_, rfl, ?_⟩
          go_simp
          have hcl := cell_new1 WW2 (.int .u8 (48 + (n : Int) % 10)) 5
          have hbk : WW2.heap.size < (WW2.alloc (.cells #[.int .u8 (48 + (n : Int) % 10)] 5)).heap.size := by simp
          replace hB := hB.alloc hB.size (.cells #[.int .u8 (48 + (n : Int) % 10)] 5)
          refine ⟨⟨⟨_, hB⟩, rfl⟩, ?_⟩
          generalize WW2.heap.size = g at hcl hbk ⊢
          generalize WW2.alloc (.cells #[.int .u8 (48 + (n : Int) % 10)] 5) = WW3 at *
          refine wpC_all (rs := [8]) (by kernel_rfl) (by decide) ?_
          intro i hi
          simp only [List.mem_cons, List.not_mem_nil, or_false] at hi
          subst hi
          refine ⟨_, rfl, ?_⟩
          have hc8 := conv_one WW3 g (UInt8.ofNat (48 + n % 10)) (by rw [hd8]; exact hcl)
          go_simp
          refine ⟨⟨⟨_, hB⟩, rfl⟩, ?_⟩
          generalize WW3 = WW4 at *
          refine wpC_take (f := 0) (by kernel_rfl) (by kernel_rfl) ⟨⟨_, hB⟩, rfl⟩ [9, 10] _ _ (by kernel_rfl) ?_
          simp only [List.map_cons, List.map_nil, List.getElem?_toArray, List.getElem?_cons_succ, List.getElem?_cons_zero, Option.getD_some]
          repeat (go_big_quiet_step (fail))
          refine wpQuiet_nil ?_
          refine wpC_done (by kernel_rfl) ?_
          go_wp2
          go_ret
          exact ⟨ret1 (by first | rfl | exact congrArg Value.string (by rw [← ofNat_48]; exact HAP.out)), hB⟩
        · refine ⟨_, rfl, ?_⟩
          go_simp
          have hcl := cell_new1 WW1 (.int .u8 (48 + (n : Int) % 10)) 5
          have hbk : WW1.heap.size < (WW1.alloc (.cells #[.int .u8 (48 + (n : Int) % 10)] 5)).heap.size := by simp
          replace hB := hB.alloc hB.size (.cells #[.int .u8 (48 + (n : Int) % 10)] 5)
          refine ⟨⟨⟨_, hB⟩, rfl⟩, ?_⟩
          generalize WW1.heap.size = g at hcl hbk ⊢
          generalize WW1.alloc (.cells #[.int .u8 (48 + (n : Int) % 10)] 5) = WW2 at *
          refine wpC_all (rs := [2, 8]) (by kernel_rfl) (by decide) ?_
          intro i hi
          simp only [List.mem_cons, List.not_mem_nil, or_false] at hi
          rcases hi with rfl | rfl
          · refine ⟨_, rfl, ?_⟩
            go_simp
            refine (C1.out _).mono ?_
            rintro e WW3 ⟨rfl, hb9⟩
            replace hB := below_step hB hb9
            replace hcl := (hb9.cell (p := ⟨g, 0, none⟩) hbk).trans hcl
            replace hbk := Nat.lt_of_lt_of_le hbk hb9.size
            clear hb9
            refine ⟨⟨⟨_, hB⟩, rfl⟩, ?_⟩
            go_simp
            refine wpC_all (rs := [8]) (by kernel_rfl) (by decide) ?_
            intro i hi
            simp only [List.mem_cons, List.not_mem_nil, or_false] at hi
            subst hi
            refine ⟨_, rfl, ?_⟩
            have hc8 := conv_one WW3 g (UInt8.ofNat (48 + n % 10)) (by rw [hd8]; exact hcl)
            go_simp
            refine ⟨⟨⟨_, hB⟩, rfl⟩, ?_⟩
            generalize WW3 = WW4 at *
            refine wpC_take (f := 0) (by kernel_rfl) (by kernel_rfl) ⟨⟨_, hB⟩, rfl⟩ [9, 10] _ _ (by kernel_rfl) ?_
            simp only [List.map_cons, List.map_nil, List.getElem?_toArray, List.getElem?_cons_succ, List.getElem?_cons_zero, Option.getD_some]
            repeat (go_big_quiet_step (fail))
            refine wpQuiet_nil ?_
            refine wpC_done (by kernel_rfl) ?_
            go_wp2
            go_ret
            exact ⟨ret1 (by first | rfl | exact congrArg Value.string (by rw [← ofNat_48]; exact HAP.out)), hB⟩
          · refine ⟨_, rfl, ?_⟩
            have hc8 := conv_one WW2 g (UInt8.ofNat (48 + n % 10)) (by rw [hd8]; exact hcl)
            go_simp
            refine ⟨⟨⟨_, hB⟩, rfl⟩, ?_⟩
            generalize WW2 = WW3 at *
            refine wpC_all (rs := [2]) (by kernel_rfl) (by decide) ?_
            intro i hi
            simp only [List.mem_cons, List.not_mem_nil, or_false] at hi
            subst hi
            refine ⟨_, rfl, ?_⟩
            go_simp
            refine (C1.out _).mono ?_
            rintro e WW4 ⟨rfl, hb9⟩
            replace hB := below_step hB hb9
            replace hcl := (hb9.cell (p := ⟨g, 0, none⟩) hbk).trans hcl
            replace hbk := Nat.lt_of_lt_of_le hbk hb9.size
            clear hb9
            refine ⟨⟨⟨_, hB⟩, rfl⟩, ?_⟩
            go_simp
            refine wpC_take (f := 0) (by kernel_rfl) (by kernel_rfl) ⟨⟨_, hB⟩, rfl⟩ [9, 10] _ _ (by kernel_rfl) ?_
            simp only [List.map_cons, List.map_nil, List.getElem?_toArray, List.getElem?_cons_succ, List.getElem?_cons_zero, Option.getD_some]
            repeat (go_big_quiet_step (fail))
            refine wpQuiet_nil ?_
            refine wpC_done (by kernel_rfl) ?_
            go_wp2
            go_ret
            exact ⟨ret1 (by first | rfl | exact congrArg Value.string (by rw [← ofNat_48]; exact HAP.out)), hB⟩
    · have hlt : (n : Int) < 10 := by omega
      rw [Lib.decDigits_one (by omega)]
      have hd8 := dig_u8 (d := n) (by omega)
      have hcv : ∀ W : World, W.cell? ⟨w.heap.size, 0, none⟩ = some (.int .u8 ((UInt8.ofNat (48 + n)).toNat : Int)) → (convert 46 9 (.slice (some ⟨w.heap.size, 0, none⟩) 1 1)).run Tryz.prog W = .ok (.string ⟨#[UInt8.ofNat (48 + n)]⟩) W := fun W h => conv_one W _ _ h
      have hc1 := hcv _ (by rw [cell_new1 w (.int .u8 ((UInt8.ofNat (48 + n)).toNat : Int)) 5])
      clear hcv ih
      rw [hd8] at hc1
      go_enter Tryz.func30, Tryz.ntmps30
      go_wp2
      go_ret
      exact ⟨ret1 (by simp [ofNat_48]), below_alloc (Below.refl _ _) _⟩
set_option maxRecDepth 20000 in
set_option maxHeartbeats 2000000 in
theorem digits6_any (n : Int) (w : World) (h1 : -1000000000000000000 ≤ n) (h2 : n ≤ 1000000000000000000) :
    Calls Tryz.prog 30 #[.int .i64 n] w fun e w' => e = .returned (.string ⟨(Lib.itoa n).toArray⟩) ∧ Below w.heap.size w w' := by
  by_cases hn : n < 0
  · obtain ⟨m, rfl⟩ : ∃ m : Nat, n = -(m : Int) := ⟨n.natAbs, by omega⟩
    have hi : Lib.itoa (-(m : Int)) = 45 :: Lib.decDigits m := itoa_neg (by omega)
    rw [hi]
    have C1 := Lib.hid (fun W => digits6_nat m W (by omega))
    have hlen := decDigits_len_le m (by omega)
    have hap := str_app [45] (Lib.decDigits m)
    have HAP := Lib.hid hap
    have hsz : (⟨(Lib.decDigits m).toArray⟩ : ByteArray).size = (Lib.decDigits m).length := rfl
    have hz1 : (⟨#[45]⟩ : ByteArray).size = 1 := rfl
    have hne : ((-(m : Int)) == -9223372036854775808) = false := beq_eq_false_iff_ne.2 (by omega)
    have hne2 : ((-(m : Int)) == (m : Int)) = false := beq_eq_false_iff_ne.2 (by omega)
    have hnn : - -(m : Int) = m := Int.neg_neg _
    clear hap hi
    go_enter Tryz.func30, Tryz.ntmps30
    go_wp2_with fail
    refine (C1.out _).mono ?_
    rintro e w1 ⟨rfl, hb⟩
    go_wp2
    go_ret
    exact ⟨by rw [show (45 :: Lib.decDigits m) = [45] ++ Lib.decDigits m from rfl, ← HAP.out]; rfl, hb⟩
  · obtain ⟨m, rfl⟩ : ∃ m : Nat, n = (m : Int) := ⟨n.toNat, by omega⟩
    rw [itoa_nat]
    exact digits6_nat m w (by omega)
end Go.Proofs.YtmionebfepkolaaGreatDoor
