/- Turned surveys: points, East, North of the program; SamePoints. -/
import Derived.Test.YtfahdgmnlpkaiaaTurn1
import Derived.Test.YtfahdgmnlpkaiaaMixS
set_option linter.unusedSimpArgs false
set_option linter.unusedVariables false
namespace Go.Proofs.Ytfahdgmnlpkaiaa
open Go.RowKit
attribute [local go_sem] Later.cell LtS.cell

theorem info_point : (Try.prog.info? 53).map (fun i => (i.zero, i.size, i.bytes)) = some (some (.agg #[.int .i64 0, .int .i64 0]), 2, 16) := by kernel_rfl
theorem newsP (W : World) (x y : Value) (t : TypeId) : ∀ j u, ([x, y] : List Value)[j]? = some u → (W.alloc (.cells #[x, y] t)).cell? ((⟨W.heap.size, 0, none⟩ : Addr).add j) = some u := by
  intro j u hj
  match j with
  | 0 => simp at hj; subst hj; simp [Addr.add]
  | 1 => simp at hj; subst hj; simp [Addr.add]
  | j + 2 => simp at hj
theorem sown_mono {w : World} {base base' : Nat} {e : TypeId} {size : Nat} {v : Value} {n : Nat} {xs : List Value} (h : w.ownsRow base e size v n xs) (hb : base' ≤ base) : w.ownsRow base' e size v n xs := by
  obtain ⟨h1, h2⟩ := h
  refine ⟨h1, ?_⟩
  rcases h2 with h2 | ⟨g, cap, cur, a1, a2, a3⟩
  · exact .inl h2
  · exact .inr ⟨g, cap, cur, a1, by omega, a3⟩
set_option maxRecDepth 20000 in
set_option maxHeartbeats 2000000 in
theorem samePts_any (A : Option Addr) (len cap : Nat) (xs : List (Int × Int)) (A' : Option Addr) (cap' : Nat) (w : World) (hm : len ≤ 9223372036854775807) (hx : Pairs w w.heap.size A len xs) (hy : Pairs w w.heap.size A' len xs) :
    Calls Try.prog 8 #[.slice A len cap, .slice A' len cap'] w fun e w' => e = .returned (.bool true) ∧ Below w.heap.size w w' := by
  have HX := Lib.hid hx
  have HY := Lib.hid hy
  clear hx hy
  go_enter Try.func8, Try.ntmps8
  go_wp2
  go_loopw [5] (fun i wr => ∃ k : Nat, k ≤ len ∧ i = .int .i64 k ∧ Below w.heap.size w wr) (fun i _ => len - (intOf i).toNat)
  case atStart => exact ⟨0, Nat.zero_le _, rfl, Below.refl _ _⟩
  case round =>
    obtain ⟨k, hk, rfl, hB⟩ := hrel
    by_cases hlt : k < len
    · obtain ⟨b, off, rfl, hb0, hc1, hc2⟩ := (HX.out.below hB).at_ k hlt
      obtain ⟨b', off', rfl, hb0', hd1, hd2⟩ := (HY.out.below hB).at_ k hlt
      have hbs := hB.size
      have hb1 : b < wr.heap.size := by omega
      have hb1' : b' < wr.heap.size := by omega
      generalize (xs[k]?.getD (0,0)).1 = X at *
      generalize (xs[k]?.getD (0,0)).2 = Y at *
      have hk1 : (k : Int) < len := by omega
      have hk2 : ¬ len ≤ k := by omega
      go_wp2
      (refine wp_region_later (by kernel_rfl) (by kernel_rfl) ?_; (repeat (go_big_quiet_step ((fail)))); refine wpQuiet_nil ?_)
      intro w4 hb
      go_wp2
      go_roundw
      case rel => exact ⟨k + 1, by omega, by go_num, (by repeat (first | exact Below.refl _ _ | assumption | refine Below.setCell ?_ (by first | (simp; done) | (simp; omega) | omega) _ | refine Below.drew ?_ | refine below_drewN ?_ _ | refine Below.alloc ?_ (by first | (simp; done) | (simp; omega) | omega) _ | refine below_alloc ?_ _ | refine below_step ?_ (by assumption)))⟩
      case measure => simp [intOf]; omega
    · have hk9 : ¬ (k : Int) < len := by omega
      go_wp2
      go_ret
      exact ⟨rfl, hB⟩
set_option maxRecDepth 20000 in
set_option maxHeartbeats 1000000 in
theorem eas_any (t : Tp) (w : World) :
    Calls Try.prog 13 #[.agg #[.int .i64 t.1, .int .i64 t.2.1, .int .i64 t.2.2]] w fun e w' => e = .returned (.int .i64 (eaM t).2) ∧ Below w.heap.size w w' := by
  go_enter Try.func13, Try.ntmps13
  go_wp2
  go_ret
  exact ⟨rfl, (by repeat (first | exact Below.refl _ _ | assumption | refine Below.setCell ?_ (by first | (simp; done) | (simp; omega) | omega) _ | refine Below.drew ?_ | refine below_drewN ?_ _ | refine Below.alloc ?_ (by first | (simp; done) | (simp; omega) | omega) _ | refine below_alloc ?_ _ | refine below_step ?_ (by assumption)))⟩
set_option maxRecDepth 20000 in
set_option maxHeartbeats 8000000 in
theorem pts_eas (A : Option Addr) (len cap : Nat) (l : List Tp) (w : World) (hm : len ≤ 9223372036854775807) (hx : Rows 3 int3 (0,0,0) w w.heap.size A len l) (hv : vM l = true) :
    Calls Try.prog 12 #[.slice A len cap, .func (.func 13) #[] #[]] w fun e w' => (∃ v, e = .returned (.tuple #[v, .int .i64 0]) ∧ w'.ownsRow w.heap.size 53 2 v len (pcells (l.map eaM))) ∧ Below w.heap.size w w' := by
  have c1 := mValid_any A len cap l w hm hx
  rw [hv] at c1
  have hlen : len ≤ 40 := by
    unfold vM at hv
    rw [Bool.and_eq_true] at hv
    have := (withinB_iff.1 hv.2).2
    have h1 := hx.1
    omega
  obtain ⟨j0, hj, hy0, hy1, hy2⟩ := info_parts info_point
  have hJ0 := Lib.hid hj
  have hJ1 := Lib.hid hy0
  have hJ2 := Lib.hid hy1
  have hJ3 := Lib.hid hy2
  have C1 := Lib.hid c1
  have HX := Lib.hid hx
  have hll := hx.1
  clear c1 hx hv hj hy0 hy1 hy2
  go_enter Try.func12, Try.ntmps12
  go_wp2_with fail
  refine C1.out.mono ?_
  rintro e w1 ⟨rfl, hb⟩
  have HB1 := Lib.hid hb
  clear hb C1
  go_wp2
  go_loopw [14, 6] (fun i v wr => ∃ k : Nat, k ≤ len ∧ i = .int .i64 k ∧ Hid (wr.ownsRow w1.heap.size 53 2 v k (pcells ((l.map eaM).take k))) ∧ Hid (Below w1.heap.size w1 wr)) (fun i _ _ => len - (intOf i).toNat)
  case atStart => exact ⟨0, Nat.zero_le _, rfl, Lib.hid (World.ownsRow_nil _ _ _ _), Lib.hid (Below.refl _ _)⟩
  case round =>
    obtain ⟨k, hk, rfl, HO, HB⟩ := hrel
    have hs1 := HB1.out.size
    have hws0 := HB.out.size
    obtain ⟨A8, k8, rfl, hq81, hq82, -, hq8⟩ := own_pairs HO.out
    by_cases hlt : k < len
    · obtain ⟨b, off, rfl, hb0, hc0, hc1, hc2⟩ := rows_tp ((HX.out.below HB1.out).below (HB.out.mono hs1)) k hlt
      have hk1 : (k : Int) < len := by omega
      have c2 := fun W => eas_any (tpA l k) W
      have hpr : eaM (tpA l k) = ((tpA l k).1, (eaM (tpA l k)).2) := rfl
      have htk : pcells ((l.map eaM).take k) ++ [.int .i64 (tpA l k).1, .int .i64 (eaM (tpA l k)).2] = pcells ((l.map eaM).take (k + 1)) := by
        rw [List.take_succ_eq_append_getElem (by rw [List.length_map, hll]; exact hlt), pcells_app]
        congr 1
        rw [List.getElem_map]
        unfold tpA
        rw [List.getElem?_eq_getElem (by rw [hll]; exact hlt)]
        rfl
      have HTK := Lib.hid htk
      generalize (eaM (tpA l k)).2 = U at *
      generalize (tpA l k).1 = X at *
      generalize (tpA l k).2.1 = Y at *
      generalize (tpA l k).2.2 = Z at *
      have hwA : (wr.alloc (.cells #[.int .i64 X, .int .i64 Y, .int .i64 Z] 51)).heap.size = wr.heap.size + 1 := by simp
      have hBA : Below wr.heap.size wr (wr.alloc (.cells #[.int .i64 X, .int .i64 Y, .int .i64 Z] 51)) := (Below.refl _ _).alloc (Nat.le_refl _) _
      have qq : ∀ j v, [Value.int .i64 X, .int .i64 Y, .int .i64 Z][j]? = some v → (wr.alloc (.cells #[.int .i64 X, .int .i64 Y, .int .i64 Z] 51)).cell? ⟨wr.heap.size, j, none⟩ = some v := by
        intro j v hj
        match j with
        | 0 => simp at hj; subst hj; go_simp
        | 1 => simp at hj; subst hj; go_simp
        | 2 => simp at hj; subst hj; go_simp
        | j + 3 => simp at hj
      have q0 := qq 0 _ rfl
      have q1 := qq 1 _ rfl
      have q2 := qq 2 _ rfl
      clear qq
      have hb1 : b < wr.heap.size := by omega
      have hb2 : wr.heap.size < (wr.alloc (.cells #[.int .i64 X, .int .i64 Y, .int .i64 Z] 51)).heap.size := by omega
      have hng : ¬ some wr.heap.size = (Value.slice A8 k k8).ownBlock := fun h => by
        have := (HO.out.lt _ h.symm).2
        omega
      have hoA := HO.out.alloc (.cells #[.int .i64 X, .int .i64 Y, .int .i64 Z] 51)
      have hsA : w1.heap.size ≤ (wr.alloc (.cells #[.int .i64 X, .int .i64 Y, .int .i64 Z] 51)).heap.size := by omega
      have HBA := Lib.hid (HB.out.trans (hBA.mono hws0))
      have C2 := Lib.hid c2
      clear c2 htk hpr hBA hwA
      go_wp2_with fail
      generalize (wr.alloc (.cells #[.int .i64 X, .int .i64 Y, .int .i64 Z] 51)) = wA at *
      refine wp_region_lts wA.heap.size (fun q => some q = (Value.slice A8 k k8).ownBlock) (by kernel_rfl) ?_
      refine wpG_take (f := 5) (by kernel_rfl) ⟨⟨_, KeepS.of (Below.refl _ _).drew⟩, rfl⟩ [0, 1, 2, 3, 4] _ _ (by kernel_rfl) ?_
      simp only [List.map_cons, List.map_nil, List.getElem?_toArray, List.getElem?_cons_succ, List.getElem?_cons_zero, Option.getD_some]
      repeat (go_big_quiet_step (fail))
      refine wpQuiet_nil ?_
      refine wpG_one (i := 5) (by kernel_rfl) rfl ?_
      refine wpO_yes (by kernel_rfl) ?_
      go_simp
      refine (C2.out _).mono ?_
      rintro e w3 ⟨rfl, hb9⟩
      have hb8 : Below wA.heap.size wA w3 := (Below.refl _ _).drew.trans hb9
      have ho3 := town_later hoA hb8
      have hs3 : wA.heap.size ≤ w3.heap.size := hb8.size
      have HB3 := Lib.hid (HBA.out.trans (hb8.mono hsA))
      have hK : KeepS wA.heap.size (fun q => some q = (Value.slice A8 k k8).ownBlock) wA w3 := KeepS.of hb8
      clear hb9 hb8
      refine ⟨⟨⟨_, hK⟩, rfl⟩, ?_⟩
      go_simp
      refine wpG_take (f := 3) (by kernel_rfl) ⟨⟨_, hK⟩, rfl⟩ [6] _ _ (by kernel_rfl) ?_
      simp only [List.map_cons, List.map_nil, List.getElem?_toArray, List.getElem?_cons_succ, List.getElem?_cons_zero, Option.getD_some]
      repeat (go_big_quiet_step (fail))
      refine wpQuiet_nil ?_
      refine wpG_one (i := 7) (by kernel_rfl) rfl ?_
      refine wpO_yes (by kernel_rfl) ?_
      go_simp
      have hK4 := hK.trans (KeepS.of ((Below.refl _ w3).alloc hs3 (.cells #[.int .i64 X, .int .i64 U] 53)))
      have ho4 := ho3.alloc (.cells #[.int .i64 X, .int .i64 U] 53)
      refine ⟨⟨⟨_, hK4⟩, rfl⟩, ?_⟩
      go_simp
      refine wpG_one (i := 8) (by kernel_rfl) rfl ?_
      refine wpO_yes (by kernel_rfl) ?_
      refine wp_append_own1 (.tmp 18) (.tmp 25) 26 rfl w1.heap.size 53 j0 (.agg #[.int .i64 0, .int .i64 0]) 2 16 Try.underlying26 hJ0.out hJ1.out hJ2.out hJ3.out rfl (by decide) (.slice A8 k k8) k (pcells ((l.map eaM).take k)) (by simp [Act.eval, Act.put]) ho4 ⟨w3.heap.size, 0, none⟩ 1 1 (by omega) [.int .i64 X, .int .i64 U] (by simp [Act.eval, Act.put]) rfl (newsP _ _ _ _) (by intro u hu; simp at hu; rcases hu with rfl | rfl <;> rfl) (by unfold maxLen; omega) (by omega) (by simp; omega) ?_
      intro g8 cap8 w8 hown8 hgrow8
      have hK8 : KeepS wA.heap.size (fun q => some q = (Value.slice A8 k k8).ownBlock) wA w8 := hK4.trans ⟨hgrow8.size, fun q hq hs => hgrow8.block q (by simp; omega) hs⟩
      rw [HTK.out] at hown8
      have HO8 := Lib.hid hown8
      have HB8 : Hid (Below w1.heap.size w1 w8) := Lib.hid ((HB3.out.alloc (by omega) (.cells #[.int .i64 X, .int .i64 U] 53)).trans (grown_below hgrow8 (by simp; omega) (fun q hq => (ho4.lt q hq).1)))
      clear hown8 hgrow8
      refine ⟨⟨⟨_, hK8⟩, rfl⟩, ?_⟩
      go_simp
      refine wpG_take (f := 0) (by kernel_rfl) ⟨⟨_, hK8⟩, rfl⟩ [9] _ _ (by kernel_rfl) ?_
      simp only [List.map_cons, List.map_nil, List.getElem?_toArray, List.getElem?_cons_succ, List.getElem?_cons_zero, Option.getD_some]
      repeat (go_big_quiet_step (fail))
      refine wpQuiet_nil ?_
      refine wpG_done (by kernel_rfl) ?_
      clear hK hK4 hK8 ho3 ho4 hoA HO HB HBA HB3
      go_wp2
      go_roundw
      case rel => exact ⟨k + 1, by omega, by go_num, HO8, HB8⟩
      case measure => simp [intOf]; omega
    · have hkn : k = len := by omega
      have hfin : Hid (wr.ownsRow w1.heap.size 53 2 (.slice A8 k k8) len (pcells (l.map eaM))) := Lib.hid (by
        have := HO.out
        rw [List.take_of_length_le (by rw [List.length_map]; omega)] at this
        rw [← hkn]; exact this)
      have hBB := HB1.out.trans (HB.out.mono hs1)
      subst hkn
      clear HO
      go_wp2
      go_ret2
      exact ⟨⟨_, rfl, sown_mono hfin.out hs1⟩, hBB⟩
set_option maxHeartbeats 1000000 in
theorem East_any (A : Option Addr) (len cap : Nat) (l : List Tp) (w : World) (hm : len ≤ 9223372036854775807) (hx : Rows 3 int3 (0,0,0) w w.heap.size A len l) (hv : vM l = true) :
    Calls Try.prog 5 #[.slice A len cap] w fun e w' => (∃ v, e = .returned (.tuple #[v, .int .i64 0]) ∧ w'.ownsRow w.heap.size 53 2 v len (pcells (l.map eaM))) ∧ Below w.heap.size w w' := by
  have C1 := Lib.hid (pts_eas A len cap l w hm hx hv)
  clear hx hv
  go_enter Try.func5, Try.ntmps5
  go_wp2_with fail
  refine C1.out.mono ?_
  rintro e w1 ⟨⟨v, rfl, ho⟩, hb⟩
  have HO := Lib.hid ho
  clear ho
  go_wp2
  go_ret2
  exact ⟨⟨_, rfl, HO.out⟩, hb⟩
set_option maxRecDepth 20000 in
set_option maxHeartbeats 1000000 in
theorem nor_any (t : Tp) (w : World) :
    Calls Try.prog 15 #[.agg #[.int .i64 t.1, .int .i64 t.2.1, .int .i64 t.2.2]] w fun e w' => e = .returned (.int .i64 (noM t).2) ∧ Below w.heap.size w w' := by
  go_enter Try.func15, Try.ntmps15
  go_wp2
  go_ret
  exact ⟨rfl, (by repeat (first | exact Below.refl _ _ | assumption | refine Below.setCell ?_ (by first | (simp; done) | (simp; omega) | omega) _ | refine Below.drew ?_ | refine below_drewN ?_ _ | refine Below.alloc ?_ (by first | (simp; done) | (simp; omega) | omega) _ | refine below_alloc ?_ _ | refine below_step ?_ (by assumption)))⟩
set_option maxRecDepth 20000 in
set_option maxHeartbeats 8000000 in
theorem pts_nor (A : Option Addr) (len cap : Nat) (l : List Tp) (w : World) (hm : len ≤ 9223372036854775807) (hx : Rows 3 int3 (0,0,0) w w.heap.size A len l) (hv : vM l = true) :
    Calls Try.prog 12 #[.slice A len cap, .func (.func 15) #[] #[]] w fun e w' => (∃ v, e = .returned (.tuple #[v, .int .i64 0]) ∧ w'.ownsRow w.heap.size 53 2 v len (pcells (l.map noM))) ∧ Below w.heap.size w w' := by
  have c1 := mValid_any A len cap l w hm hx
  rw [hv] at c1
  have hlen : len ≤ 40 := by
    unfold vM at hv
    rw [Bool.and_eq_true] at hv
    have := (withinB_iff.1 hv.2).2
    have h1 := hx.1
    omega
  obtain ⟨j0, hj, hy0, hy1, hy2⟩ := info_parts info_point
  have hJ0 := Lib.hid hj
  have hJ1 := Lib.hid hy0
  have hJ2 := Lib.hid hy1
  have hJ3 := Lib.hid hy2
  have C1 := Lib.hid c1
  have HX := Lib.hid hx
  have hll := hx.1
  clear c1 hx hv hj hy0 hy1 hy2
  go_enter Try.func12, Try.ntmps12
  go_wp2_with fail
  refine C1.out.mono ?_
  rintro e w1 ⟨rfl, hb⟩
  have HB1 := Lib.hid hb
  clear hb C1
  go_wp2
  go_loopw [14, 6] (fun i v wr => ∃ k : Nat, k ≤ len ∧ i = .int .i64 k ∧ Hid (wr.ownsRow w1.heap.size 53 2 v k (pcells ((l.map noM).take k))) ∧ Hid (Below w1.heap.size w1 wr)) (fun i _ _ => len - (intOf i).toNat)
  case atStart => exact ⟨0, Nat.zero_le _, rfl, Lib.hid (World.ownsRow_nil _ _ _ _), Lib.hid (Below.refl _ _)⟩
  case round =>
    obtain ⟨k, hk, rfl, HO, HB⟩ := hrel
    have hs1 := HB1.out.size
    have hws0 := HB.out.size
    obtain ⟨A8, k8, rfl, hq81, hq82, -, hq8⟩ := own_pairs HO.out
    by_cases hlt : k < len
    · obtain ⟨b, off, rfl, hb0, hc0, hc1, hc2⟩ := rows_tp ((HX.out.below HB1.out).below (HB.out.mono hs1)) k hlt
      have hk1 : (k : Int) < len := by omega
      have c2 := fun W => nor_any (tpA l k) W
      have hpr : noM (tpA l k) = ((tpA l k).1, (noM (tpA l k)).2) := rfl
      have htk : pcells ((l.map noM).take k) ++ [.int .i64 (tpA l k).1, .int .i64 (noM (tpA l k)).2] = pcells ((l.map noM).take (k + 1)) := by
        rw [List.take_succ_eq_append_getElem (by rw [List.length_map, hll]; exact hlt), pcells_app]
        congr 1
        rw [List.getElem_map]
        unfold tpA
        rw [List.getElem?_eq_getElem (by rw [hll]; exact hlt)]
        rfl
      have HTK := Lib.hid htk
      generalize (noM (tpA l k)).2 = U at *
      generalize (tpA l k).1 = X at *
      generalize (tpA l k).2.1 = Y at *
      generalize (tpA l k).2.2 = Z at *
      have hwA : (wr.alloc (.cells #[.int .i64 X, .int .i64 Y, .int .i64 Z] 51)).heap.size = wr.heap.size + 1 := by simp
      have hBA : Below wr.heap.size wr (wr.alloc (.cells #[.int .i64 X, .int .i64 Y, .int .i64 Z] 51)) := (Below.refl _ _).alloc (Nat.le_refl _) _
      have qq : ∀ j v, [Value.int .i64 X, .int .i64 Y, .int .i64 Z][j]? = some v → (wr.alloc (.cells #[.int .i64 X, .int .i64 Y, .int .i64 Z] 51)).cell? ⟨wr.heap.size, j, none⟩ = some v := by
        intro j v hj
        match j with
        | 0 => simp at hj; subst hj; go_simp
        | 1 => simp at hj; subst hj; go_simp
        | 2 => simp at hj; subst hj; go_simp
        | j + 3 => simp at hj
      have q0 := qq 0 _ rfl
      have q1 := qq 1 _ rfl
      have q2 := qq 2 _ rfl
      clear qq
      have hb1 : b < wr.heap.size := by omega
      have hb2 : wr.heap.size < (wr.alloc (.cells #[.int .i64 X, .int .i64 Y, .int .i64 Z] 51)).heap.size := by omega
      have hng : ¬ some wr.heap.size = (Value.slice A8 k k8).ownBlock := fun h => by
        have := (HO.out.lt _ h.symm).2
        omega
      have hoA := HO.out.alloc (.cells #[.int .i64 X, .int .i64 Y, .int .i64 Z] 51)
      have hsA : w1.heap.size ≤ (wr.alloc (.cells #[.int .i64 X, .int .i64 Y, .int .i64 Z] 51)).heap.size := by omega
      have HBA := Lib.hid (HB.out.trans (hBA.mono hws0))
      have C2 := Lib.hid c2
      clear c2 htk hpr hBA hwA
      go_wp2_with fail
      generalize (wr.alloc (.cells #[.int .i64 X, .int .i64 Y, .int .i64 Z] 51)) = wA at *
      refine wp_region_lts wA.heap.size (fun q => some q = (Value.slice A8 k k8).ownBlock) (by kernel_rfl) ?_
      refine wpG_take (f := 5) (by kernel_rfl) ⟨⟨_, KeepS.of (Below.refl _ _).drew⟩, rfl⟩ [0, 1, 2, 3, 4] _ _ (by kernel_rfl) ?_
      simp only [List.map_cons, List.map_nil, List.getElem?_toArray, List.getElem?_cons_succ, List.getElem?_cons_zero, Option.getD_some]
      repeat (go_big_quiet_step (fail))
      refine wpQuiet_nil ?_
      refine wpG_one (i := 5) (by kernel_rfl) rfl ?_
      refine wpO_yes (by kernel_rfl) ?_
      go_simp
      refine (C2.out _).mono ?_
      rintro e w3 ⟨rfl, hb9⟩
      have hb8 : Below wA.heap.size wA w3 := (Below.refl _ _).drew.trans hb9
      have ho3 := town_later hoA hb8
      have hs3 : wA.heap.size ≤ w3.heap.size := hb8.size
      have HB3 := Lib.hid (HBA.out.trans (hb8.mono hsA))
      have hK : KeepS wA.heap.size (fun q => some q = (Value.slice A8 k k8).ownBlock) wA w3 := KeepS.of hb8
      clear hb9 hb8
      refine ⟨⟨⟨_, hK⟩, rfl⟩, ?_⟩
      go_simp
      refine wpG_take (f := 3) (by kernel_rfl) ⟨⟨_, hK⟩, rfl⟩ [6] _ _ (by kernel_rfl) ?_
      simp only [List.map_cons, List.map_nil, List.getElem?_toArray, List.getElem?_cons_succ, List.getElem?_cons_zero, Option.getD_some]
      repeat (go_big_quiet_step (fail))
      refine wpQuiet_nil ?_
      refine wpG_one (i := 7) (by kernel_rfl) rfl ?_
      refine wpO_yes (by kernel_rfl) ?_
      go_simp
      have hK4 := hK.trans (KeepS.of ((Below.refl _ w3).alloc hs3 (.cells #[.int .i64 X, .int .i64 U] 53)))
      have ho4 := ho3.alloc (.cells #[.int .i64 X, .int .i64 U] 53)
      refine ⟨⟨⟨_, hK4⟩, rfl⟩, ?_⟩
      go_simp
      refine wpG_one (i := 8) (by kernel_rfl) rfl ?_
      refine wpO_yes (by kernel_rfl) ?_
      refine wp_append_own1 (.tmp 18) (.tmp 25) 26 rfl w1.heap.size 53 j0 (.agg #[.int .i64 0, .int .i64 0]) 2 16 Try.underlying26 hJ0.out hJ1.out hJ2.out hJ3.out rfl (by decide) (.slice A8 k k8) k (pcells ((l.map noM).take k)) (by simp [Act.eval, Act.put]) ho4 ⟨w3.heap.size, 0, none⟩ 1 1 (by omega) [.int .i64 X, .int .i64 U] (by simp [Act.eval, Act.put]) rfl (newsP _ _ _ _) (by intro u hu; simp at hu; rcases hu with rfl | rfl <;> rfl) (by unfold maxLen; omega) (by omega) (by simp; omega) ?_
      intro g8 cap8 w8 hown8 hgrow8
      have hK8 : KeepS wA.heap.size (fun q => some q = (Value.slice A8 k k8).ownBlock) wA w8 := hK4.trans ⟨hgrow8.size, fun q hq hs => hgrow8.block q (by simp; omega) hs⟩
      rw [HTK.out] at hown8
      have HO8 := Lib.hid hown8
      have HB8 : Hid (Below w1.heap.size w1 w8) := Lib.hid ((HB3.out.alloc (by omega) (.cells #[.int .i64 X, .int .i64 U] 53)).trans (grown_below hgrow8 (by simp; omega) (fun q hq => (ho4.lt q hq).1)))
      clear hown8 hgrow8
      refine ⟨⟨⟨_, hK8⟩, rfl⟩, ?_⟩
      go_simp
      refine wpG_take (f := 0) (by kernel_rfl) ⟨⟨_, hK8⟩, rfl⟩ [9] _ _ (by kernel_rfl) ?_
      simp only [List.map_cons, List.map_nil, List.getElem?_toArray, List.getElem?_cons_succ, List.getElem?_cons_zero, Option.getD_some]
      repeat (go_big_quiet_step (fail))
      refine wpQuiet_nil ?_
      refine wpG_done (by kernel_rfl) ?_
      clear hK hK4 hK8 ho3 ho4 hoA HO HB HBA HB3
      go_wp2
      go_roundw
      case rel => exact ⟨k + 1, by omega, by go_num, HO8, HB8⟩
      case measure => simp [intOf]; omega
    · have hkn : k = len := by omega
      have hfin : Hid (wr.ownsRow w1.heap.size 53 2 (.slice A8 k k8) len (pcells (l.map noM))) := Lib.hid (by
        have := HO.out
        rw [List.take_of_length_le (by rw [List.length_map]; omega)] at this
        rw [← hkn]; exact this)
      have hBB := HB1.out.trans (HB.out.mono hs1)
      subst hkn
      clear HO
      go_wp2
      go_ret2
      exact ⟨⟨_, rfl, sown_mono hfin.out hs1⟩, hBB⟩
set_option maxHeartbeats 1000000 in
theorem North_any (A : Option Addr) (len cap : Nat) (l : List Tp) (w : World) (hm : len ≤ 9223372036854775807) (hx : Rows 3 int3 (0,0,0) w w.heap.size A len l) (hv : vM l = true) :
    Calls Try.prog 7 #[.slice A len cap] w fun e w' => (∃ v, e = .returned (.tuple #[v, .int .i64 0]) ∧ w'.ownsRow w.heap.size 53 2 v len (pcells (l.map noM))) ∧ Below w.heap.size w w' := by
  have C1 := Lib.hid (pts_nor A len cap l w hm hx hv)
  clear hx hv
  go_enter Try.func7, Try.ntmps7
  go_wp2_with fail
  refine C1.out.mono ?_
  rintro e w1 ⟨⟨v, rfl, ho⟩, hb⟩
  have HO := Lib.hid ho
  clear ho
  go_wp2
  go_ret2
  exact ⟨⟨_, rfl, HO.out⟩, hb⟩
end Go.Proofs.Ytfahdgmnlpkaiaa
