/- JobTexts: numbers, the reference's and the program's. -/
import Derived.Test.YtmionebfepkolaaGreatDoorJtM
import Derived.Test.YtmionebfepkolaaGreatDoorNumb6
import Derived.Test.YtmionebfepkolaaGreatDoorYJg
import Derived.Test.YtmionebfepkolaaGreatDoorJobP
set_option linter.unusedSimpArgs false
set_option linter.unusedVariables false
namespace Go.Proofs.YtmionebfepkolaaGreatDoor
open Go.RowKit
attribute [local go_sem] Later.cell
theorem nmOk_n6 {y : List UInt8} (h : nmOk y = true) : n6 y = true ∧ numV y = atoiV y ∧ wi (numV y) 0 1000000000 = true := by
  obtain ⟨h1, h2, h3⟩ := nmOk_yes h
  have e : numV y = atoiV y := by
    conv => lhs; rw [← h1]
    exact numV_itoa (by omega) (by omega)
  refine ⟨?_, e, by rw [e]; exact wi_iff.2 ⟨h2, h3⟩⟩
  rw [← h1]
  exact n6_itoa (by omega) (by omega)
theorem n6_nmOk {y : List UInt8} (h : n6 y = true) (h2 : wi (numV y) 0 1000000000 = true) : nmOk y = true := by
  obtain ⟨h1, -⟩ := n6_yes h
  rw [← h1]
  have := wi_iff.1 h2
  exact (nmOk_itoa this.1 this.2).1
theorem n6_eq {y : List UInt8} (h : n6 y = true) : nmOk y = wi (numV y) 0 1000000000 := by
  cases hw : wi (numV y) 0 1000000000
  · cases hn : nmOk y
    · rfl
    · rw [(nmOk_n6 hn).2.2] at hw; exact absurd hw (by simp)
  · exact n6_nmOk h hw
theorem n6_not {y : List UInt8} (h : n6 y = false) : nmOk y = false := by
  cases hn : nmOk y
  · rfl
  · rw [(nmOk_n6 hn).1] at h; exact absurd h (by simp)
theorem numV_eq {y : List UInt8} (h : nmOk y = true) : numV y = atoiV y := (nmOk_n6 h).2.1
set_option maxRecDepth 20000 in
set_option maxHeartbeats 2000000 in
theorem number9_any (y : List UInt8) (w : World) (hl : y.length ≤ 140737488355328) :
    Calls Tryz.prog 29 #[.string ⟨y.toArray⟩] w fun e w' => (∃ v, e = .returned (.tuple #[.int .i64 v, .bool (nmOk y)]) ∧ (nmOk y = true → v = atoiV y)) ∧ Below w.heap.size w w' := by
  have C1 := Lib.hid (fun W => number6_any y W hl)
  have CW := Lib.hid (fun W => qwithin_any (numV y) 0 1000000000 W)
  by_cases hn : n6 y = true
  · have he := n6_eq hn
    have HV := Lib.hid (fun h => numV_eq (y := y) h)
    have HE := Lib.hid he
    rw [hn] at C1
    clear hn he
    go_enter Tryz.func29, Tryz.ntmps29
    go_wp2_with fail
    refine (C1.out _).mono ?_
    rintro e w1 ⟨⟨v, rfl, hv⟩, hb⟩
    obtain rfl := hv (by simp)
    go_wp2_with fail
    refine (CW.out _).mono ?_
    rintro e w2 ⟨rfl, rfl⟩
    go_wp2
    go_ret2
    exact ⟨⟨_, by rw [HE.out] <;> rfl, fun h => HV.out h⟩, hb⟩
  · have hn : n6 y = false := by simpa using hn
    have HE := Lib.hid (n6_not hn)
    rw [hn] at C1
    clear hn
    go_enter Tryz.func29, Tryz.ntmps29
    go_wp2_with fail
    refine (C1.out _).mono ?_
    rintro e w1 ⟨⟨v, rfl, hv⟩, hb⟩
    go_wp2
    go_ret2
    exact ⟨by rw [HE.out]; exact ⟨_, rfl, fun h => absurd h (by simp)⟩, hb⟩
set_option maxRecDepth 20000 in
set_option maxHeartbeats 2000000 in
theorem jnumber_any (y : List UInt8) (w : World) (hT : TabA w) (hl : y.length ≤ 4294967280) :
    Calls Tryz.prog 25 #[.string ⟨y.toArray⟩] w fun e w' => e = .returned (.tuple #[.int .i64 (atoiV y), .bool (nmOk y)]) ∧ Below w.heap.size w w' := by
  have C1 := Lib.hid (fun W (h : TabA W) => atoi_any y W h hl)
  have hbd := atoiV_bd y
  have C2 := Lib.hid (fun W (h : Tab W) => itoa_any (atoiV y) W h hbd.1 hbd.2)
  have CW := Lib.hid (fun W => jwithin_any (atoiV y) 0 1000000000 W)
  have HT := Lib.hid hT
  have HE : Hid (nmOk y = (atoiOk y && ((Lib.itoa (atoiV y) == y) && wi (atoiV y) 0 1000000000))) := Lib.hid rfl
  clear hT
  generalize atoiV y = V at *
  generalize nmOk y = NM at *
  cases hok : atoiOk y
  · rw [hok] at C1 HE
    clear hok
    have hNM : NM = false := HE.out
    subst hNM
    go_enter Tryz.func25, Tryz.ntmps25
    go_wp2_with fail
    refine (C1.out _ HT.out).mono ?_
    rintro e w1 ⟨⟨u, rfl, hu⟩, hb⟩
    obtain ⟨N, rfl⟩ := hu.2 rfl
    go_wp2
    go_ret2
    exact ⟨rfl, hb⟩
  · rw [hok] at C1 HE
    clear hok
    have hNM : NM = ((Lib.itoa V == y) && wi V 0 1000000000) := HE.out
    by_cases hF : Lib.itoa V = y
    · rw [hF, beq_self_eq_true, Bool.true_and] at hNM
      rw [hF] at C2
      have HN := Lib.hid hNM
      clear hNM HE hF
      go_enter Tryz.func25, Tryz.ntmps25
      go_wp2_with fail
      refine (C1.out _ HT.out).mono ?_
      rintro e w1 ⟨⟨u, rfl, hu⟩, hb⟩
      obtain rfl := hu.1 rfl
      go_wp2_with fail
      refine (C2.out _ (HT.out.below hb).tab).mono ?_
      rintro e w2 ⟨rfl, hb2⟩
      go_wp2_with fail
      refine (CW.out _).mono ?_
      rintro e w3 ⟨rfl, rfl⟩
      go_wp2
      go_ret2
      exact ⟨by rw [HN.out] <;> rfl, below_step hb hb2⟩
    · rw [beq_eq_false_iff_ne.2 hF, Bool.false_and] at hNM
      subst hNM
      generalize Lib.itoa V = F at *
      have hF2 : (F == y) = false := beq_eq_false_iff_ne.2 hF
      clear HE
      go_enter Tryz.func25, Tryz.ntmps25
      go_wp2_with fail
      refine (C1.out _ HT.out).mono ?_
      rintro e w1 ⟨⟨u, rfl, hu⟩, hb⟩
      obtain rfl := hu.1 rfl
      go_wp2_with fail
      refine (C2.out _ (HT.out.below hb).tab).mono ?_
      rintro e w2 ⟨rfl, hb2⟩
      go_wp2
      go_ret2
      exact ⟨rfl, below_step hb hb2⟩
end Go.Proofs.YtmionebfepkolaaGreatDoor
