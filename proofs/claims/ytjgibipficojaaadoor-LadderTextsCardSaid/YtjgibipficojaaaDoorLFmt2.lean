/- Ladder's Format: the program's. -/
import Derived.Test.YtjgibipficojaaaDoorLFmt
import Derived.Test.YtjgibipficojaaaDoorItoa1
set_option linter.unusedSimpArgs false
set_option linter.unusedVariables false
namespace Go.Proofs.YtjgibipficojaaaDoor
open Go.RowKit
attribute [local go_sem] Later.cell
theorem snews2 (W : World) (x y : Value) (t s : TypeId) : ∀ j u, ([x] : List Value)[j]? = some u → ((W.alloc (.cells #[y] s)).alloc (.cells #[x] t)).cell? ((⟨W.heap.size + 1, 0, none⟩ : Addr).add j) = some u := by
  intro j u hj
  have h := snews1 (W.alloc (.cells #[y] s)) x t j u hj
  simpa using h
/-- The texts of the first k joints. -/
def txtK (l : List J) (k : Nat) : List (List UInt8) := (l.take k).map fmtJ
theorem txtK_len {l : List J} {k : Nat} (h : k ≤ l.length) : (txtK l k).length = k := by unfold txtK; rw [List.length_map, List.length_take]; omega
theorem txtK_succ {l : List J} {k : Nat} (h : k < l.length) : txtK l (k + 1) = txtK l k ++ [Lib.itoa (hgt l k) ++ bang (sndB l k)] := by
  have hg : l[k]?.getD dJ = l[k] := by rw [List.getElem?_eq_getElem h]; rfl
  unfold txtK
  rw [List.take_succ_eq_append_getElem h, List.map_append, List.map_singleton]
  congr 2
  unfold fmtJ hgt sndB
  rw [hg]
set_option maxRecDepth 20000 in
set_option maxHeartbeats 4000000 in
theorem Format_any (A : Option Addr) (len cap : Nat) (l : List J) (w : World) (htab : Tab w) (hm : len ≤ 9223372036854775807) (hx : Rows 2 jointV dJ w w.heap.size A len l) :
    Calls Tryd.prog 8 #[.slice A len cap] w fun e w' => e = .returned (.string ⟨(fmtL l).toArray⟩) ∧ Below w.heap.size w w' := by
  have c1 := fun W (h : Below w.heap.size w W) => VJoints_any A len cap l W hm ((hx.below h).more h.size)
  by_cases hv : vJ l = true
  · rw [hv] at c1
    have hF : fmtL l = Lib.join (txtK l len) [32] := by unfold fmtL; rw [if_pos hv, hx.1]; rfl
    have hFl : (Lib.join (txtK l len) [32]).length ≤ 140737488355328 := by
      have h1 := fmtK_len hv l.length (Nat.le_refl _)
      have h2 := (vJ_spec hv).1
      show (fmtK l len).length ≤ _
      rw [← hx.1]; omega
    rw [hF]
    have hl : len ≤ 200 := by have := (vJ_spec hv).1; rw [hx.1] at this; exact this
    have HB := Lib.hid (vJ_spec hv).2.1
    have HK := Lib.hid (fun k (hk : k < len) => txtK_succ (l := l) (k := k) (by rw [hx.1]; exact hk))
    have HN := Lib.hid (fun k (hk : k ≤ len) => txtK_len (l := l) (k := k) (by rw [hx.1]; exact hk))
    have HLn := Lib.hid hx.1
    have HFL := Lib.hid hFl
    have C1 := Lib.hid c1
    have HX := Lib.hid hx
    have HT := Lib.hid htab
    obtain ⟨i0, hi, hz0, hz1, hz2⟩ := info_parts tinfo_str
    have hI0 := Lib.hid hi
    have hI1 := Lib.hid hz0
    have hI2 := Lib.hid hz1
    have hI3 := Lib.hid hz2
    clear hi hz0 hz1 hz2
    clear c1 hx hv hF hFl htab
    go_enter Tryd.func8, Tryd.ntmps8
    go_wp2_with fail
    refine (C1.out _ (by repeat (first | exact Below.refl _ _ | assumption | refine Below.setCell ?_ (by first | (simp; done) | (simp; omega) | omega) _ | refine Below.drew ?_ | refine below_drewN ?_ _ | refine Below.alloc ?_ (by first | (simp; done) | (simp; omega) | omega) _ | refine below_alloc ?_ _ | refine below_step ?_ (by assumption)))).mono ?_
    rintro e w1 ⟨rfl, hb1⟩
    have HB1 := Lib.hid hb1
    clear hb1 C1
    go_wp2
    go_loopw [3, 12] (fun v i wr => ∃ k : Nat, k ≤ len ∧ i = .int .i64 (k : Int) ∧ Hid (wr.ownsRow w.heap.size 9 1 v (txtK l k).length (bcel (txtK l k))) ∧ Below w.heap.size w wr) (fun _ i _ => len - (intOf i).toNat)
    case atStart => exact ⟨0, Nat.zero_le _, rfl, Lib.hid (World.ownsRow_nil _ _ _ _), HB1.out⟩
    case round =>
      obtain ⟨k, hk, rfl, HO, hB⟩ := hrel
      have hsz := hB.size
      by_cases hlt : k < len
      · obtain ⟨b, off, rfl, hb0, hc1, hc2⟩ := (HX.out.below hB).atJ k hlt
        have hbl : b < wr.heap.size := by omega
        have hlt1 : (k : Int) < len := by omega
        have hR := HK.out k hlt
        have hN := HN.out k hk
        have hbd := HB.out k (by rw [HLn.out]; exact hlt)
        obtain ⟨D, hDX⟩ : ∃ D, Lib.itoa (hgt l k) = D := ⟨_, rfl⟩
        have hDl : D.length ≤ 19 := by rw [← hDX]; exact itoa_len_s (n := hgt l k) (by omega) (by omega)
        rw [hDX] at hR
        generalize txtK l k = R at *
        generalize hgt l k = X at *
        generalize sndB l k = Y at *
        obtain ⟨E, hE⟩ : ∃ E, E = D ++ [33] := ⟨_, rfl⟩
        have hzD : (⟨D.toArray⟩ : ByteArray).size = D.length := rfl
        cases Y
        · have HS : Hid (txtK l (k + 1) = R ++ [E]) := Lib.hid (by rw [hR, hE]; simp [bang])
          have hap3 : (⟨D.toArray⟩ : ByteArray) ++ ⟨#[33]⟩ = ⟨E.toArray⟩ := by rw [hE]; exact str_app D [33]
          clear hR hE
          go_wp2_with fail
          refine (itoa_any _ _ (HT.out.below (by repeat (first | exact Below.refl _ _ | assumption | refine Below.setCell ?_ (by first | (simp; done) | (simp; omega) | omega) _ | refine Below.drew ?_ | refine below_drewN ?_ _ | refine Below.alloc ?_ (by first | (simp; done) | (simp; omega) | omega) _ | refine below_alloc ?_ _ | refine below_step ?_ (by assumption)))) (by omega) (by omega)).mono ?_
          rw [hDX]
          rintro e w2 ⟨rfl, hb2⟩
          have hz2 : wr.heap.size + 1 ≤ w2.heap.size := by have := hb2.size; simpa using this
          have hd2 : w2.cell? ⟨wr.heap.size, 1, none⟩ = some (.bool false) := (hb2.cell (p := ⟨wr.heap.size, 1, none⟩) (by simp)).trans (by simp)
          have HB2 := Lib.hid (below_step (below_alloc hB (.cells #[.int .i64 X, .bool false] 32)) hb2)
          have HO2 := Lib.hid (own_later (HO.out.alloc (.cells #[.int .i64 X, .bool false] 32)) hb2)
          clear hb2 HO hB hc1 hc2
          go_wp2_with (at_builtin; go_loud (refine wpList_append_own _ rfl (.tmp 24) (.tmp 26) 38 rfl w.heap.size 9 i0 (.string ByteArray.empty) 1 16 Tryd.underlying38 hI0.out hI1.out hI2.out hI3.out rfl (by decide) _ _ _ rfl (HO2.out.alloc _) ⟨w2.heap.size, 0, none⟩ 1 1 [.string ⟨E.toArray⟩] rfl rfl (by intro j u hj; exact snews1 w2 (.string ⟨E.toArray⟩) 9 j u hj) (by intro u hu; simp at hu; subst hu; rfl) (by unfold maxLen; omega) (by omega) (by simp; omega) ?_))
          intro v' w5 hown' hgrow _
          have hb6 : Below w.heap.size w w5 := (below_alloc HB2.out _).trans (grown_below hgrow (by simp; omega) (fun q hq => (HO2.out.lt q hq).1))
          have HO5 : Hid (w5.ownsRow w.heap.size 9 1 v' (txtK l (k + 1)).length (bcel (txtK l (k + 1)))) := by
            rw [HS.out, List.length_append, hN, bcel_app]; exact Lib.hid hown'
          clear hown' hgrow HO2 HB2
          go_wp2
          go_roundw
          case rel => exact ⟨k + 1, by omega, by first | rfl | go_num, HO5, hb6⟩
          case measure => simp [intOf]; omega
        · have HS : Hid (txtK l (k + 1) = R ++ [D]) := Lib.hid (by rw [hR]; simp [bang])
          clear hR hE
          go_wp2_with fail
          refine (itoa_any _ _ (HT.out.below (by repeat (first | exact Below.refl _ _ | assumption | refine Below.setCell ?_ (by first | (simp; done) | (simp; omega) | omega) _ | refine Below.drew ?_ | refine below_drewN ?_ _ | refine Below.alloc ?_ (by first | (simp; done) | (simp; omega) | omega) _ | refine below_alloc ?_ _ | refine below_step ?_ (by assumption)))) (by omega) (by omega)).mono ?_
          rw [hDX]
          rintro e w2 ⟨rfl, hb2⟩
          have hz2 : wr.heap.size + 1 ≤ w2.heap.size := by have := hb2.size; simpa using this
          have hd2 : w2.cell? ⟨wr.heap.size, 1, none⟩ = some (.bool true) := (hb2.cell (p := ⟨wr.heap.size, 1, none⟩) (by simp)).trans (by simp)
          have HB2 := Lib.hid (below_step (below_alloc hB (.cells #[.int .i64 X, .bool true] 32)) hb2)
          have HO2 := Lib.hid (own_later (HO.out.alloc (.cells #[.int .i64 X, .bool true] 32)) hb2)
          clear hb2 HO hB hc1 hc2
          go_wp2_with (at_builtin; go_loud (refine wpList_append_own _ rfl (.tmp 24) (.tmp 26) 38 rfl w.heap.size 9 i0 (.string ByteArray.empty) 1 16 Tryd.underlying38 hI0.out hI1.out hI2.out hI3.out rfl (by decide) _ _ _ rfl (HO2.out.alloc _) ⟨w2.heap.size, 0, none⟩ 1 1 [.string ⟨D.toArray⟩] rfl rfl (by intro j u hj; exact snews1 w2 (.string ⟨D.toArray⟩) 9 j u hj) (by intro u hu; simp at hu; subst hu; rfl) (by unfold maxLen; omega) (by omega) (by simp; omega) ?_))
          intro v' w5 hown' hgrow _
          have hb6 : Below w.heap.size w w5 := (below_alloc HB2.out _).trans (grown_below hgrow (by simp; omega) (fun q hq => (HO2.out.lt q hq).1))
          have HO5 : Hid (w5.ownsRow w.heap.size 9 1 v' (txtK l (k + 1)).length (bcel (txtK l (k + 1)))) := by
            rw [HS.out, List.length_append, hN, bcel_app]; exact Lib.hid hown'
          clear hown' hgrow HO2 HB2
          go_wp2
          go_roundw
          case rel => exact ⟨k + 1, by omega, by first | rfl | go_num, HO5, hb6⟩
          case measure => simp [intOf]; omega
      · have hkl : k = len := by omega
        subst hkl
        have hk9 : ¬ (k : Int) < k := by omega
        have hNl := HN.out k hk
        go_wp2_with fail
        refine (join_own [32] HO.out (by omega) HFL.out).mono ?_
        rintro e w2 ⟨rfl, hb2⟩
        go_wp2
        go_ret
        exact ⟨rfl, below_step hB hb2⟩
  · have hv : vJ l = false := by simpa using hv
    rw [hv] at c1
    have hF : fmtL l = [] := by unfold fmtL; rw [if_neg (by rw [hv]; simp)]
    rw [hF]
    have C1 := Lib.hid c1
    clear c1 hx hv hF
    go_enter Tryd.func8, Tryd.ntmps8
    go_wp2_with fail
    refine (C1.out _ (by repeat (first | exact Below.refl _ _ | assumption | refine Below.setCell ?_ (by first | (simp; done) | (simp; omega) | omega) _ | refine Below.drew ?_ | refine below_drewN ?_ _ | refine Below.alloc ?_ (by first | (simp; done) | (simp; omega) | omega) _ | refine below_alloc ?_ _ | refine below_step ?_ (by assumption)))).mono ?_
    rintro e w1 ⟨rfl, hb1⟩
    go_wp2
    go_ret
    exact ⟨rfl, hb1⟩
end Go.Proofs.YtjgibipficojaaaDoor
