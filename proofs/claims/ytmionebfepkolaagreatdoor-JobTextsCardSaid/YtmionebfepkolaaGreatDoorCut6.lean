/- The words of a text: the reference's Cut (layer 6). -/
import Derived.Test.YtmionebfepkolaaGreatDoorYJb
set_option linter.unusedSimpArgs false
set_option linter.unusedVariables false
namespace Go.Proofs.YtmionebfepkolaaGreatDoor
open Go.RowKit
set_option maxRecDepth 20000 in
set_option maxHeartbeats 4000000 in
theorem cut6_any (b : List UInt8) (m : UInt8) (w : World) (hl : b.length ≤ 65536) :
    Calls Tryz.prog 27 #[.string ⟨b.toArray⟩, .int .u8 m.toNat] w fun e w' => (∃ v, e = .returned v ∧ w'.ownsRow w.heap.size 9 1 v (words m b).length (bcel (words m b))) ∧ Below w.heap.size w w' := by
  have hsz : (⟨b.toArray⟩ : ByteArray).size = b.length := rfl
  obtain ⟨i0, hi, hz0, hz1, hz2⟩ := info_parts tinfo_str
  have hI0 := Lib.hid hi
  have hI1 := Lib.hid hz0
  have hI2 := Lib.hid hz1
  have hI3 := Lib.hid hz2
  have HW0 : Hid (words m b = [] ++ wordsA m ((b.take 0).drop 0) (b.drop 0)) := Lib.hid (by rfl)
  clear hi hz0 hz1 hz2
  go_enter Tryz.func27, Tryz.ntmps27
  go_wp2
  go_loopw [5, 6, 7] (fun v fr i wr => ∃ (k f : Nat) (xs : List (List UInt8)), k ≤ b.length + 1 ∧ f ≤ k ∧ xs.length ≤ k ∧ fr = .int .i64 (f : Int) ∧ i = .int .i64 (k : Int) ∧ Hid (k ≤ b.length → words m b = xs ++ wordsA m ((b.take k).drop f) (b.drop k)) ∧ Hid (b.length < k → words m b = xs) ∧ Hid (wr.ownsRow w.heap.size 9 1 v xs.length (bcel xs)) ∧ Below w.heap.size w wr) (fun _ _ i _ => b.length + 1 - (intOf i).toNat)
  case atStart => exact ⟨0, 0, [], Nat.zero_le _, Nat.le_refl _, Nat.zero_le _, rfl, rfl, Lib.hid (fun _ => HW0.out), Lib.hid (fun h => absurd h (by omega)), Lib.hid (World.ownsRow_nil w _ _ _), Below.refl _ _⟩
  case round =>
    obtain ⟨k, f, xs, hk, hf, hxl, rfl, rfl, HW, HZ, HO, hB⟩ := hrel
    have hbs := hB.size
    by_cases hle : k ≤ b.length
    · have hle1 : (k : Int) ≤ b.length := by omega
      have hfs : f ≤ k := hf
      have hex := str_ext b f k
      by_cases hap : k = b.length ∨ b[k]? = some m
      · have HN : Hid ((k + 1 ≤ b.length → words m b = (xs ++ [(b.take k).drop f]) ++ wordsA m ((b.take (k + 1)).drop (k + 1)) (b.drop (k + 1))) ∧ (b.length < k + 1 → words m b = xs ++ [(b.take k).drop f])) := Lib.hid (by
          refine ⟨fun h => ?_, fun h => ?_⟩
          · have hlt : k < b.length := by omega
            have hc : b[k] = m := by
              rcases hap with h | h
              · exact absurd h (by omega)
              · rw [List.getElem?_eq_getElem hlt] at h; injection h
            rw [HW.out hle, wordsA_yes hlt hc]
            have : (b.take (k + 1)).drop (k + 1) = [] := by rw [List.drop_eq_nil_iff, List.length_take]; omega
            rw [this]; simp
          · have hkl : k = b.length := by omega
            rw [HW.out hle, hkl, List.drop_length, List.take_length, wordsA])
        have hgk : k = b.length ∨ k < b.length ∧ ∀ h2 : k < (⟨b.toArray⟩ : ByteArray).size, (⟨b.toArray⟩ : ByteArray)[k]'h2 = m := by
          rcases hap with h | h
          · exact .inl h
          · by_cases hlt : k < b.length
            · refine .inr ⟨hlt, fun h2 => ?_⟩
              rw [List.getElem?_eq_getElem hlt] at h
              exact (str_get hlt h2).trans (Option.some.inj h)
            · exact .inl (by omega)
        generalize (b.take k).drop f = W at *
        clear HW HZ hap
        rcases hgk with hgk | ⟨hlt, hgk⟩
        · have hke : ((k : Int) == (b.length : Int)) = true := beq_iff_eq.2 (by omega)
          have hke2 : (k : Int) = (b.length : Int) := by omega
          have hex2 := hex
          rw [hgk] at hex2
          go_wp2_with (at_builtin; go_loud (refine wpList_append_own _ rfl (.tmp 25) (.tmp 30) 32 rfl w.heap.size 9 i0 (.string ByteArray.empty) 1 16 Tryz.underlying32 hI0.out hI1.out hI2.out hI3.out rfl (by decide) _ _ _ rfl (HO.out.alloc _) ⟨wr.heap.size, 0, none⟩ 1 1 [.string ⟨W.toArray⟩] rfl rfl (by intro j u hj; exact snews1 wr (.string ⟨W.toArray⟩) 9 j u hj) (by intro u hu; simp at hu; subst hu; rfl) (by unfold maxLen; omega) (by omega) (by simp; omega) ?_))
          intro v' w5 hown' hgrow _
          have hb6 : Below w.heap.size w w5 := (below_alloc hB _).trans (grown_below hgrow (by simp; omega) (fun q hq => (HO.out.lt q hq).1))
          have HO5 : Hid (w5.ownsRow w.heap.size 9 1 v' (xs ++ [W]).length (bcel (xs ++ [W]))) := by
            rw [List.length_append, bcel_app]; exact Lib.hid hown'
          have hxl' : (xs ++ [W]).length ≤ k + 1 := by rw [List.length_append]; simp; omega
          clear hown' hgrow HO
          go_wp2
          go_roundw
          case rel => exact ⟨k + 1, k + 1, xs ++ [W], by omega, Nat.le_refl _, hxl', by first | rfl | go_num, by first | rfl | go_num, Lib.hid HN.out.1, Lib.hid HN.out.2, HO5, hb6⟩
          case measure => simp [intOf]; omega
        · have hke : ((k : Int) == (b.length : Int)) = false := beq_eq_false_iff_ne.2 (by omega)
          have hke2 : ¬ (k : Int) = (b.length : Int) := by omega
          have hlt1 : (k : Int) < (b.length : Int) := by omega
          have hmm : ((m.toNat : Int) == (m.toNat : Int)) = true := beq_self_eq_true _
          go_wp2_with (at_builtin; go_loud (refine wpList_append_own _ rfl (.tmp 25) (.tmp 30) 32 rfl w.heap.size 9 i0 (.string ByteArray.empty) 1 16 Tryz.underlying32 hI0.out hI1.out hI2.out hI3.out rfl (by decide) _ _ _ rfl (HO.out.alloc _) ⟨wr.heap.size, 0, none⟩ 1 1 [.string ⟨W.toArray⟩] rfl rfl (by intro j u hj; exact snews1 wr (.string ⟨W.toArray⟩) 9 j u hj) (by intro u hu; simp at hu; subst hu; rfl) (by unfold maxLen; omega) (by omega) (by simp; omega) ?_))
          intro v' w5 hown' hgrow _
          have hb6 : Below w.heap.size w w5 := (below_alloc hB _).trans (grown_below hgrow (by simp; omega) (fun q hq => (HO.out.lt q hq).1))
          have HO5 : Hid (w5.ownsRow w.heap.size 9 1 v' (xs ++ [W]).length (bcel (xs ++ [W]))) := by
            rw [List.length_append, bcel_app]; exact Lib.hid hown'
          have hxl' : (xs ++ [W]).length ≤ k + 1 := by rw [List.length_append]; simp; omega
          clear hown' hgrow HO
          go_wp2
          go_roundw
          case rel => exact ⟨k + 1, k + 1, xs ++ [W], by omega, Nat.le_refl _, hxl', by first | rfl | go_num, by first | rfl | go_num, Lib.hid HN.out.1, Lib.hid HN.out.2, HO5, hb6⟩
          case measure => simp [intOf]; omega
      · have hlt : k < b.length := by
          rcases Nat.lt_or_ge k b.length with h | h
          · exact h
          · exact absurd (Or.inl (by omega)) hap
        obtain ⟨c, hc⟩ : ∃ c, c = b[k] := ⟨_, rfl⟩
        have hgk : ∀ h2 : k < (⟨b.toArray⟩ : ByteArray).size, (⟨b.toArray⟩ : ByteArray)[k]'h2 = c := by rw [hc]; exact str_get hlt
        have hcm : c ≠ m := fun h => hap (.inr (by rw [List.getElem?_eq_getElem hlt, ← hc, h]))
        have HN : Hid (words m b = xs ++ wordsA m ((b.take (k + 1)).drop f) (b.drop (k + 1))) := Lib.hid (by
          rw [HW.out hle, wordsA_no hlt (by rw [← hc]; exact hcm), take_drop_snoc hf hlt])
        have hcm' : ¬ (c.toNat : Int) = m.toNat := fun h => hcm (UInt8.toNat_inj.1 (by omega))
        have hcm'' : ((c.toNat : Int) == (m.toNat : Int)) = false := beq_eq_false_iff_ne.2 hcm'
        have hke : ((k : Int) == (b.length : Int)) = false := beq_eq_false_iff_ne.2 (by omega)
        have hke2 : ¬ (k : Int) = (b.length : Int) := by omega
        have hlt1 : (k : Int) < (b.length : Int) := by omega
        clear HW HZ hc hap
        go_wp2
        go_roundw
        case rel => exact ⟨k + 1, f, xs, by omega, by omega, by omega, rfl, by first | rfl | go_num, Lib.hid (fun _ => HN.out), Lib.hid (fun h => absurd h (by omega)), HO, hB⟩
        case measure => simp [intOf]; omega
    · have hle1 : ¬ (k : Int) ≤ b.length := by omega
      have hle2 : decide ((k : Int) ≤ b.length) = false := decide_eq_false hle1
      have HN := Lib.hid (HZ.out (by omega))
      clear HW HZ
      go_wp2
      go_ret
      exact ⟨⟨_, rfl, by rw [HN.out]; exact HO.out⟩, hB⟩
end Go.Proofs.YtmionebfepkolaaGreatDoor
