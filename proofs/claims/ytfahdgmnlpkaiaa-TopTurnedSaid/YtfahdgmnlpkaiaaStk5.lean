/- Stacks: Clone of courses, Turned of the program. -/
import Derived.Test.YtfahdgmnlpkaiaaStk4
import Derived.Test.YtfahdgmnlpkaiaaStepSrc
import Derived.Test.YtfahdgmnlpkaiaaTurn2
import Derived.Deep.Cut
import Derived.Deep.RegionLaw
import Derived.Shelf.RegionOpenPlain
import Derived.Lib.SliceRun
set_option linter.unusedSimpArgs false
set_option linter.unusedVariables false
namespace Go.Proofs.Ytfahdgmnlpkaiaa
open Go.RowKit Go.Shelf
attribute [local go_sem] Later.cell LtS.cell

def ccells (l : List Cs) : List Value := l.flatMap c6V
theorem ccells_app (l m : List Cs) : ccells (l ++ m) = ccells l ++ ccells m := by simp [ccells]
theorem ccells_len (l : List Cs) : (ccells l).length = l.length * 6 := by
  induction l with
  | nil => rfl
  | cons x l ih => simp only [ccells, List.flatMap_cons, List.length_append, List.length_cons, c6V, List.length_nil] at *; omega
theorem ccells_one (l : List Cs) : ∀ u ∈ ccells l, u.oneCell' = true := by
  intro u hu
  simp only [ccells, List.mem_flatMap, c6V, List.mem_cons, List.not_mem_nil, or_false] at hu
  obtain ⟨x, _, rfl | rfl | rfl | rfl | rfl | rfl⟩ := hu <;> rfl
theorem ccells_get : ∀ (l : List Cs) (k j : Nat), k < l.length → j < 6 → (ccells l)[k * 6 + j]? = (c6V (csA l k))[j]? := by
  intro l
  induction l with
  | nil => intro k j h; exact absurd h (by simp)
  | cons x l ih =>
    intro k j hk hj
    unfold ccells at *
    rw [List.flatMap_cons]
    cases k with
    | zero => rw [Nat.zero_mul, Nat.zero_add, List.getElem?_append_left (by simp [c6V]; exact hj)]; rfl
    | succ k =>
      have e1 : (k + 1) * 6 + j = 6 + (k * 6 + j) := by omega
      have e2 : (c6V x).length = 6 := rfl
      rw [e1, List.getElem?_append_right (by rw [e2]; omega), e2, Nat.add_sub_cancel_left]
      simpa [csA] using ih k j (by simpa using hk) hj
theorem rows_cells {w : World} {B : Nat} {A : Option Addr} {len : Nat} {xs : List Cs} (h : Rows 6 c6V dC w B A len xs) : Cells w A (ccells xs) := by
  by_cases h0 : len = 0
  · left
    have : xs = [] := List.eq_nil_of_length_eq_zero (by rw [h.1, h0])
    rw [this]; rfl
  · right
    obtain ⟨b, off, h1, h2, h3⟩ := h.2 (by omega)
    refine ⟨b, off, h1, fun j u hj => ?_⟩
    have hlt : j < (ccells xs).length := (List.getElem?_eq_some_iff.1 hj).1
    rw [ccells_len, h.1] at hlt
    have hq : j / 6 < len := by omega
    have e : j = j / 6 * 6 + j % 6 := by omega
    have h4 := ccells_get xs (j / 6) (j % 6) (by rw [h.1]; exact hq) (Nat.mod_lt _ (by omega))
    rw [← e, hj] at h4
    have := h3 (j / 6) hq (j % 6) u h4.symm
    rwa [Nat.add_assoc, ← e] at this
theorem KeepS.set1 {n : Nat} {S : Nat → Prop} {W : World} {b j : Nat} {u : Value} (h : S b) : KeepS n S W (W.setCell ⟨b, j, none⟩ u) := ⟨(KeepsOthers.setCell _ _ _).size, fun i _ hs => Below.heap_setCell _ _ _ i (fun e => hs (by have e : i = b := e; rw [e]; exact h))⟩
theorem rows_nil0 {w : World} {B : Nat} {A : Option Addr} {n : Nat} {ss : List Cs} (h : Rows 6 c6V dC w B A n ss) (hA : A = none) : n = 0 := by
  rcases Nat.eq_zero_or_pos n with h0 | h0
  · exact h0
  · obtain ⟨b, off, h1, -⟩ := h.2 h0
    rw [hA] at h1; cases h1
theorem own_set {W : World} {base g n cap c : Nat} {e : TypeId} {xs : List Value} (h : W.ownsRow base e c (.slice (some ⟨g, 0, none⟩) n cap) n xs) (j : Nat) (v : Value) : (W.setCell ⟨g, j, none⟩ v).ownsRow base e c (.slice (some ⟨g, 0, none⟩) n cap) n (xs.set j v) := by
  obtain ⟨h1, h2⟩ := h
  refine ⟨by rw [List.length_set]; exact h1, ?_⟩
  rcases h2 with ⟨h2, -⟩ | ⟨g', cap', cur, a1, a2, a3, a4, a5, a6, a7⟩
  · cases h2
  · injection a1 with b1 b2 b3
    injection b1 with b1
    injection b1 with b1 _ _
    subst b1 b3
    refine .inr ⟨g, cap, cur.setIfInBounds j v, rfl, a2, ?_, a4, a5, by simpa using a6, ?_⟩
    · obtain ⟨hlt, hk⟩ := Array.getElem?_eq_some_iff.1 a3
      show (W.heap.modify g _)[g]? = _
      rw [Array.getElem?_eq_getElem (by rw [Array.size_modify]; exact hlt), Array.getElem_modify_self, hk]
      rfl
    · rw [Array.toList_setIfInBounds, ← a7, List.take_set]
theorem ccells_set {P R : List Cs} {c : Cs} {k : Nat} (hk : P.length = k) (e' n' : Int) : ((ccells (P ++ c :: R)).set (k * 6 + 4) (.int .i64 e')).set (k * 6 + 5) (.int .i64 n') = ccells (P ++ { c with e := e', n := n' } :: R) := by
  have hl : (ccells P).length = k * 6 := by rw [ccells_len, hk]
  have e1 : ∀ c : Cs, ccells (P ++ c :: R) = ccells P ++ (c6V c ++ ccells R) := fun c => by rw [ccells_app]; rfl
  rw [e1, e1, List.set_append_right _ _ (by rw [hl]; omega), List.set_append_right _ _ (by rw [hl]; omega), hl, Nat.add_sub_cancel_left, Nat.add_sub_cancel_left]
  rfl
theorem info_course : (Try.prog.info? 61).map (fun i => (i.zero, i.size, i.bytes)) = some (some (.agg #[.int .i64 0, .int .i64 0, .int .i64 0, .int .i64 0, .int .i64 0, .int .i64 0]), 6, 48) := by kernel_rfl
set_option maxHeartbeats 2000000 in
theorem cloneC_any (A : Option Addr) (n c : Nat) (l : List Cs) (w : World) (hm : n ≤ 100000) (hx : Rows 6 c6V dC w w.heap.size A n l) :
    Calls Try.prog 21 #[.slice A n c] w fun e w' => (∃ v, e = .returned v ∧ w'.ownsRow w.heap.size 61 6 v n (ccells l)) ∧ Below w.heap.size w w' := by
  obtain ⟨i0, hi, hz0, hz1, hz2⟩ := info_parts info_course
  have hn := hx.1
  have q22 := fun W a n k => Lib.run_eql_slice_nil (P := Try.prog) W 23 61 a n k 0 0 Try.underlying23
  have HC := Lib.hid (rows_cells hx)
  have HN := Lib.hid (fun h => rows_nil0 hx h)
  clear hx
  cases A with
  | none =>
    have hn0 := HN.out rfl
    subst hn0
    have hl0 : l = [] := List.eq_nil_of_length_eq_zero hn
    subst hl0
    clear HC HN hi hz0 hz1 hz2
    go_enter Try.func21, Try.ntmps21
    go_wp2
    go_ret
    exact ⟨⟨_, rfl, World.ownsRow_nil _ _ _ _⟩, Below.refl _ _⟩
  | some ad =>
    go_enter Try.func21, Try.ntmps21
    go_wp2_with (at_builtin; refine wpList_append_src rfl _ _ 23 rfl w.heap.size 61 i0 (.agg #[.int .i64 0, .int .i64 0, .int .i64 0, .int .i64 0, .int .i64 0, .int .i64 0]) 6 48 Try.underlying23 hi hz0 hz1 hz2 rfl (by decide) (.slice (some ⟨w.heap.size, 0, none⟩) 0 0) 0 [] rfl (World.ownsRow_made w #[] 0 (Nat.le_refl _) (Nat.zero_le _) rfl) (by simp) (some ad) n c (ccells l) rfl (by rw [ccells_len, hn]) (by simp) ?qc2 (ccells_one l) (by unfold maxLen; omega) (by omega) (by simp) ?_)
    case qc2 =>
      rcases HC.out with h | ⟨b', off', h1, h2⟩
      · exact .inl h
      · exact .inr ⟨b', off', h1, fun j u hj => Lib.cell?_alloc_some _ (h2 j u hj)⟩
    intro v' w1 hown hgrow hnil
    have hO := Lib.hid hown
    clear hown
    have hB : Below w.heap.size w w1 := ((Below.refl _ w).alloc (Nat.le_refl _) _).grown hgrow (by simp) (by intro k hk; simp [Value.ownBlock] at hk; omega)
    go_wp2
    go_ret
    exact ⟨⟨v', rfl, by simpa using hO.out⟩, hB⟩
set_option maxRecDepth 20000 in
set_option maxHeartbeats 16000000 in
theorem cTurned_any (A : Option Addr) (len cap : Nat) (l : List Cs) (w : World) (hlen : len ≤ 60) (hx : Rows 6 c6V dC w w.heap.size A len l) (hv : vS l = true) :
    Calls Try.prog 10 #[.slice A len cap, .int .i64 1] w fun e w' => (∃ v, e = .returned (.tuple #[v, .int .i64 0]) ∧ w'.ownsRow w.heap.size 61 6 v len (ccells (l.map turnC))) ∧ Below w.heap.size w w' := by
  have c1 := fun W (h : Below w.heap.size w W) => cValid_any A len cap l W (by omega) ((hx.below h).more h.size)
  rw [hv] at c1
  have c2 := fun W (h : Below w.heap.size w W) => cloneC_any A len cap l W (by omega) ((hx.below h).more h.size)
  have hll := hx.1
  have hall : l.all sndC = true := by unfold vS at hv; rw [Bool.and_eq_true] at hv; exact hv.2
  have hpos : 1 ≤ len := by
    unfold vS at hv; rw [Bool.and_eq_true] at hv
    have := (withinB_iff.1 hv.1).1
    omega
  have C1 := Lib.hid c1
  have C2 := Lib.hid c2
  have HA := Lib.hid hall
  clear c1 c2 hx hv hall
  go_enter Try.func10, Try.ntmps10
  go_wp2_with fail
  refine (C1.out _ (Below.refl _ _)).mono ?_
  rintro e w1 ⟨rfl, hB1⟩
  have hs1 := hB1.size
  go_wp2_with fail
  refine (C2.out _ hB1).mono ?_
  rintro e w2 ⟨⟨v, rfl, ho2⟩, hb⟩
  have HB2 := Lib.hid (hB1.trans (hb.mono hs1))
  obtain ⟨A2, k2, rfl, hk1, hk2, -, hg2⟩ := own_rows (f := c6V) (c := 6) (d := dC) (fun _ => rfl) ho2 hll
  obtain ⟨g, rfl, hgb, hgl, -⟩ := hg2 (by omega)
  have HO2 := Lib.hid ho2
  have hz2 := hb.size
  clear hb hB1 C1 C2 ho2 hg2
  go_wp2_with fail
  go_loopw [18] (fun x wq => (x = .int .i64 0 ∧ wq = w2) ∨ (x = .int .i64 1 ∧ Hid (wq.ownsRow w1.heap.size 61 6 (.slice (some ⟨g, 0, none⟩) len k2) len (ccells (l.map turnC))) ∧ Hid (Below w.heap.size w wq))) (fun x _ => 1 - (intOf x).toNat)
  case atStart => exact .inl ⟨rfl, rfl⟩
  case round =>
    rcases hrel with ⟨rfl, rfl⟩ | ⟨rfl, HO, HB⟩
    · go_wp2
      go_loopw [22] (fun x wr => ∃ k : Nat, k ≤ len ∧ x = .int .i64 (k : Int) ∧ Hid (wr.ownsRow w1.heap.size 61 6 (.slice (some ⟨g, 0, none⟩) len k2) len (ccells ((l.take k).map turnC ++ l.drop k))) ∧ Hid (Below w.heap.size w wr)) (fun x _ => len - (intOf x).toNat)
      case atStart => exact ⟨0, Nat.zero_le _, rfl, HO2, HB2⟩
      case round =>
        obtain ⟨k, hk, rfl, HO, HB⟩ := hrel
        have hbs := HB.out.size
        by_cases hlt : k < len
        · have hk3 : (k : Int) < len := by omega
          have hk4 : ¬ len ≤ k := by omega
          have hlk : k < l.length := by omega
          obtain ⟨A7, k7, he7, -, -, hR7, hg7⟩ := own_rows (f := c6V) (c := 6) (d := dC) (fun _ => rfl) HO.out (by rw [List.length_append, List.length_map, List.length_take, List.length_drop]; omega)
          injection he7 with e1 e2 e3
          subst e1 e3
          obtain ⟨g', hge, -, hgl', hfr⟩ := hg7 (by omega)
          cases hge
          obtain ⟨b, off, hbe, -, hc0, hc1, hc2, hc3, hc4, hc5⟩ := rows_cs hR7 k hlt
          cases hbe
          have hcs : csA ((l.take k).map turnC ++ l.drop k) k = csA l k := by
            unfold csA
            rw [List.getElem?_append_right (by simp; omega), List.length_map, List.length_take, Nat.min_eq_left (by omega), Nat.sub_self, List.getElem?_drop, Nat.add_zero]
          rw [hcs] at hc0 hc1 hc2 hc3 hc4 hc5
          have hsn : sndC (csA l k) = true := by rw [csA_get hlk]; exact (List.all_eq_true.1 HA.out) _ (List.getElem_mem hlk)
          obtain ⟨-, -, -, -, -, hce, hcn⟩ := sndC_spec hsn
          have hspl : (l.take k).map turnC ++ l.drop k = (l.take k).map turnC ++ csA l k :: l.drop (k + 1) := by rw [List.drop_eq_getElem_cons hlk, csA_get hlk]
          have hnx : (l.take k).map turnC ++ turnC (csA l k) :: l.drop (k + 1) = (l.take (k + 1)).map turnC ++ l.drop (k + 1) := by
            rw [List.take_succ_eq_append_getElem hlk, List.map_append, csA_get hlk]; simp
          have hst := ccells_set (P := (l.take k).map turnC) (R := l.drop (k + 1)) (c := csA l k) (k := k) (by rw [List.length_map, List.length_take]; omega) (-(csA l k).n) (csA l k).e
          rw [← hspl] at hst
          change _ = ccells ((l.take k).map turnC ++ turnC (csA l k) :: l.drop (k + 1)) at hst
          rw [hnx] at hst
          have f4 := hfr (k * 6 + 4)
          have f5 := hfr (k * 6 + 5)
          simp only [Nat.zero_add] at hc0 hc1 hc2 hc3 hc4 hc5
          have HST := Lib.hid hst
          generalize csA l k = C at *
          obtain ⟨ch, co, ci, cg, ce, cn⟩ := C
          dsimp only at *
          have HX := Lib.hid (BoxN.new wr 61 #[.int .i64 ch, .int .i64 co, .int .i64 ci, .int .i64 cg, .int .i64 ce, .int .i64 cn])
          have HBA := Lib.hid ((Below.refl wr.heap.size wr).alloc (Nat.le_refl _) (.cells #[.int .i64 ch, .int .i64 co, .int .i64 ci, .int .i64 cg, .int .i64 ce, .int .i64 cn] 61))
          have HOA := Lib.hid (HO.out.alloc (.cells #[.int .i64 ch, .int .i64 co, .int .i64 ci, .int .i64 cg, .int .i64 ce, .int .i64 cn] 61))
          clear hst hnx hspl hsn hcs hR7 hg7 hfr
          go_upto_region 9 with (fail)
          generalize (wr.alloc (.cells #[.int .i64 ch, .int .i64 co, .int .i64 ci, .int .i64 cg, .int .i64 ce, .int .i64 cn] 61)) = wA at *
          have x4 := HX.out.cell 4
          have x5 := HX.out.cell 5
          simp at x4 x5
          have hxl := HX.out.lt
          have y4 := (HBA.out.cell (p := ⟨g, k * 6 + 4, none⟩) hgl').trans hc4
          have y5 := (HBA.out.cell (p := ⟨g, k * 6 + 5, none⟩) hgl').trans hc5
          have z4 : wA.frozen? ⟨g, k * 6 + 4, none⟩ = false := HOA.out.frozenAt _
          have z5 : wA.frozen? ⟨g, k * 6 + 5, none⟩ = false := HOA.out.frozenAt _
          have hgA : g < wA.heap.size := by omega
          obtain ⟨S, hS⟩ : ∃ S : Nat → Prop, S = fun q => q = g := ⟨_, rfl⟩
          have hSn : ¬ S wr.heap.size := by rw [hS]; show ¬ wr.heap.size = g; omega
          have hSg : S g := by rw [hS]
          clear hS hc0 hc1 hc2 hc3 hc4 hc5 f4 f5 HO
          refine wp_region_lts wA.heap.size S (by kernel_rfl) ?_
          refine wpG_take (f := 4) (by kernel_rfl) ⟨⟨_, KeepS.of (Below.refl _ _).drew⟩, rfl⟩ [0, 1, 2, 3, 4, 5, 6, 7, 8, 9, 10] _ _ (by kernel_rfl) ?_
          simp only [List.map_cons, List.map_nil, List.getElem?_toArray, List.getElem?_cons_succ, List.getElem?_cons_zero, Option.getD_some]
          repeat (go_big_quiet_step (fail))
          refine wpQuiet_nil ?_
          refine wpG_one (i := 11) (by kernel_rfl) rfl ?_
          refine wpO_yes (by kernel_rfl) ?_
          go_simp
          have hK1 : KeepS wA.heap.size S wA (wA.setCell ⟨g, k * 6 + 4, none⟩ (.int .i64 (-cn))).drew := (KeepS.set1 hSg).trans (KeepS.of (Below.refl _ _).drew)
          have HO1 := Lib.hid (own_set (W := wA) HOA.out (k * 6 + 4) (.int .i64 (-cn)))
          have y5' : (wA.setCell ⟨g, k * 6 + 4, none⟩ (.int .i64 (-cn))).cell? ⟨g, k * 6 + 5, none⟩ = some (.int .i64 cn) := (World.cell?_setCell_other _ _ _ _ (by intro e; injection e with _ e; omega)).trans y5
          have z5' : (wA.setCell ⟨g, k * 6 + 4, none⟩ (.int .i64 (-cn))).frozen? ⟨g, k * 6 + 5, none⟩ = false := HO1.out.frozenAt _
          have HB1' : Hid (Below w.heap.size w (wA.setCell ⟨g, k * 6 + 4, none⟩ (.int .i64 (-cn)))) := Lib.hid ((HB.out.trans (HBA.out.mono hbs)).setCell (p := ⟨g, k * 6 + 4, none⟩) (by show w.heap.size ≤ g; omega) _)
          clear y4 y5 z4 z5
          refine ⟨⟨⟨_, hK1⟩, rfl⟩, ?_⟩
          go_simp
          generalize (wA.setCell ⟨g, k * 6 + 4, none⟩ (.int .i64 (-cn))) = wB at *
          refine wpG_take (f := 1) (by kernel_rfl) ⟨⟨_, hK1⟩, rfl⟩ [12, 13] _ _ (by kernel_rfl) ?_
          simp only [List.map_cons, List.map_nil, List.getElem?_toArray, List.getElem?_cons_succ, List.getElem?_cons_zero, Option.getD_some]
          repeat (go_big_quiet_step (fail))
          refine wpQuiet_nil ?_
          refine wpG_one (i := 14) (by kernel_rfl) rfl ?_
          refine wpO_yes (by kernel_rfl) ?_
          go_simp
          have HO2' : Hid ((wB.setCell ⟨g, k * 6 + 5, none⟩ (.int .i64 ce)).ownsRow w1.heap.size 61 6 (.slice (some ⟨g, 0, none⟩) len k2) len (ccells ((l.take (k + 1)).map turnC ++ l.drop (k + 1)))) := Lib.hid (by
            have := own_set (W := wB) HO1.out (k * 6 + 5) (.int .i64 ce)
            rw [HST.out] at this; exact this)
          have HB2' : Hid (Below w.heap.size w (wB.setCell ⟨g, k * 6 + 5, none⟩ (.int .i64 ce))) := Lib.hid (HB1'.out.setCell (p := ⟨g, k * 6 + 5, none⟩) (by show w.heap.size ≤ g; omega) _)
          have hK2 : KeepS wA.heap.size S wA (wB.setCell ⟨g, k * 6 + 5, none⟩ (.int .i64 ce)).drew := hK1.trans ((KeepS.set1 (W := wB.drew) hSg).trans (KeepS.of (Below.refl _ _)))
          clear HO1 HB1' y5' z5'
          refine ⟨⟨⟨_, hK2⟩, rfl⟩, ?_⟩
          go_simp
          have HO3 := Lib.hid (town_later HO2'.out ((Below.refl _ _).drew))
          have HB3 := Lib.hid (HB2'.out.trans ((Below.refl _ _).drew))
          clear hK1 hK2 HO2' HB2'
          generalize (wB.setCell ⟨g, k * 6 + 5, none⟩ (.int .i64 ce)) = wC at *
          refine wpG_done (by kernel_rfl) ?_
          go_wp2
          go_roundw
          case rel => exact ⟨k + 1, by omega, by go_num, HO3, HB3⟩
          case measure => simp [intOf]; omega
        · have hkn : k = len := by omega
          have hk9 : ¬ (k : Int) < len := by omega
          have HOe : Hid (wr.ownsRow w1.heap.size 61 6 (.slice (some ⟨g, 0, none⟩) len k2) len (ccells (l.map turnC))) := Lib.hid (by
            have := HO.out
            rw [hkn, List.take_of_length_le (by omega), List.drop_eq_nil_of_le (by omega), List.append_nil] at this
            exact this)
          clear HO
          go_wp2
          go_roundw
          case rel => first | exact .inr ⟨rfl, HOe, HB⟩ | exact .inr ⟨trivial, HOe, HB⟩
          case measure => simp [intOf]
    · have hfin := sown_mono HO.out hs1
      have HF := Lib.hid hfin
      have hBB := HB.out
      clear hfin HO
      go_wp2
      go_ret2
      exact ⟨⟨_, rfl, HF.out⟩, hBB⟩
end Go.Proofs.Ytfahdgmnlpkaiaa
