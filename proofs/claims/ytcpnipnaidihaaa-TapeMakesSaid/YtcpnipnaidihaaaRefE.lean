/- Tapes: the reference's Merged. -/
import Derived.Test.YtcpnipnaidihaaaRefD
import Derived.Test.YtcpnipnaidihaaaMake3
set_option linter.unusedSimpArgs false
set_option linter.unusedVariables false
namespace Go.Proofs.Ytcpnipnaidihaaa
open Go.RowKit
attribute [local go_sem] Later.cell Same.cell

theorem jnx_nw {a b x : Int} (hab : a < b) : nw a b x = (if b < jnx a b x then jnx a b x - 1 else jnx a b x) ∧ jnx a b x ≠ b := by
  unfold nw jnx
  split
  · rw [if_neg (by omega)]; exact ⟨rfl, by omega⟩
  · rename_i h
    exact ⟨rfl, h⟩
theorem jnx_iff {a b x y : Int} (hab : a < b) : jnx a b x = jnx a b y ↔ nw a b x = nw a b y := by
  obtain ⟨h1, h2⟩ := jnx_nw (x := x) hab
  obtain ⟨h3, h4⟩ := jnx_nw (x := y) hab
  rw [h1, h3]
  generalize jnx a b x = X at *
  generalize jnx a b y = Y at *
  split <;> split <;> omega
theorem jnx_bd {a b x : Int} (ha : nod a) (hx : nod x) : nod (jnx a b x) := by unfold jnx; split <;> assumption
theorem tpA_map {f : Tp → Tp} {l : List Tp} {k : Nat} (hk : k < l.length) : tpA (l.map f) k = f (tpA l k) := by
  unfold tpA; rw [List.getElem?_map, List.getElem?_eq_getElem hk]; rfl
set_option maxRecDepth 20000 in
set_option maxHeartbeats 4000000 in
theorem rMerged_any (n : Int) (A : Option Addr) (len cap : Nat) (l : List Tp) (a b : Int) (w : World) (hm : len ≤ 9223372036854775807) (hx : Rows 3 int3 (0,0,0) w w.heap.size A len l) :
    Calls Try.prog 46 #[.int .i64 n, .slice A len cap, .int .i64 a, .int .i64 b] w fun e w' => (∃ v, e = .returned (.tuple #[.int .i64 (meN n l a b), v, .int .i64 (meE n l a b)]) ∧ w'.ownsRow w.heap.size 59 3 v (meL n l a b).length (tcells (meL n l a b))) ∧ Below w.heap.size w w' := by
  have c1 := pairE_any n A len cap l a b w hm hx
  have hE : meE n l a b = if askE n l [a, b] = 0 then (if a = b then 10 else 0) else askE n l [a, b] := rfl
  have hN : meN n l a b = if meE n l a b = 0 then n - 1 else 0 := rfl
  have hL : meL n l a b = if meE n l a b = 0 then mrg (min a b) (max a b) l else [] := rfl
  rcases ask_cases n l a b with ⟨h0, hv, ha, hb⟩ | h0
  · obtain ⟨hn, hlen, hl⟩ := vNet_spec hv
    rw [hx.1] at hlen
    rw [h0] at c1
    rw [h0, if_pos rfl] at hE
    by_cases hab : a = b
    · subst hab
      rw [if_pos rfl] at hE
      rw [hE] at hN hL
      rw [if_neg (by decide)] at hN hL
      rw [hE, hN, hL]
      have C1 := Lib.hid c1
      clear c1 hx hl hv h0 hE hN hL
      go_enter Try.func46, Try.ntmps46
      go_wp2_with fail
      refine C1.out.mono ?_
      rintro e w1 ⟨rfl, hb⟩
      go_wp2
      go_ret3
      exact ⟨⟨_, rfl, World.ownsRow_nil _ _ _ _⟩, hb⟩
    · rw [if_neg hab] at hE
      rw [hE, if_pos rfl] at hN hL
      rw [hE, hN, hL]
      have hab' : (a == b) = false := by simpa using hab
      obtain ⟨j0, hj, hy0, hy1, hy2⟩ := info_parts info_tape
      have hJ0 := Lib.hid hj
      have hJ1 := Lib.hid hy0
      have hJ2 := Lib.hid hy1
      have hJ3 := Lib.hid hy2
      have HLL := Lib.hid hx.1
      have C1 := Lib.hid c1
      have hwn : IntKind.i64.wrap (n - 1) = n - 1 := IntWalk.i64_in _ (by omega)
      by_cases h5 : b < a
      · have hgt : decide (b < a) = true := decide_eq_true h5
        rw [Int.min_eq_right (by omega), Int.max_eq_left (by omega)]
        have hlh : b < a := by omega
        have c2 := fun W (h : Below w.heap.size w W) => joinN_any A len cap l b a W (by omega) ((hx.below h).more h.size)
        have C2 := Lib.hid c2
        clear c1 c2 hx hv h0 hE hN hL hj hy0 hy1 hy2
        go_enter Try.func46, Try.ntmps46
        go_wp2_with fail
        refine C1.out.mono ?_
        rintro e w1 ⟨rfl, hb1⟩
        go_wp2_with fail
        refine (C2.out _ hb1).mono ?_
        rintro e w3 ⟨⟨v3, rfl, ho3⟩, hb3⟩
        have hB3 : Below w.heap.size w w3 := below_step hb1 hb3
        have hml : (l.map (jnT b a)).length = len := by rw [List.length_map, HLL.out]
        obtain ⟨A3, cap3, rfl, -, -, hR3, -⟩ := own_tapes ho3
        have HX := Lib.hid hR3
        have HML := Lib.hid hml
        clear ho3 hR3 hb3 hb1 hml
        go_wp2
        go_loopw [14, 12] (fun i v W => MR w3 w3.heap.size b a l len i v W) (fun i _ _ => len - (intOf i).toNat)
        case atStart => exact MR.mk 0 (Nat.zero_le _) rfl (World.ownsRow_nil _ _ _ _) (Below.refl _ _)
        case round =>
          obtain ⟨k, hk, rfl, ho, hb⟩ := hrel
          have hsb := hb.size
          obtain ⟨A1, cap1, rfl, hn1, hn2, -, -⟩ := own_tapes ho
          have HO := Lib.hid ho
          clear ho
          by_cases hlt : k < len
          · obtain ⟨b0, off, rfl, hb0, hc1, hc2, hc3⟩ := rows_tp (HX.out.below hb) k hlt
            have hkl : k < l.length := by rw [HLL.out]; exact hlt
            rw [tpA_map hkl] at hc1 hc2 hc3
            have hT := hl (tpA l k) (by unfold tpA; rw [List.getElem?_eq_getElem hkl]; exact List.getElem_mem hkl)
            have hyes := mrg_snoc_yes (a := b) (b := a) hkl
            have hno := mrg_snoc_no (a := b) (b := a) hkl
            have hL1 := mrg_len_le b a (l.take k)
            have hL2 : (l.take k).length ≤ len := by rw [List.length_take, HLL.out]; omega
            have hmT : mrgT b a (tpA l k) = (min (nw b a (tpA l k).1) (nw b a (tpA l k).2.1), max (nw b a (tpA l k).1) (nw b a (tpA l k).2.1), (tpA l k).2.2) := rfl
            rw [hmT] at hyes
            have hP := (jnx_nw (x := (tpA l k).1) hlh).1
            have hQ := (jnx_nw (x := (tpA l k).2.1) hlh).1
            have hPQ := jnx_iff (x := (tpA l k).1) (y := (tpA l k).2.1) hlh
            have hXn := jnx_bd (b := a) (show nod b by assumption) hT.1
            have hYn := jnx_bd (b := a) (show nod b by assumption) hT.2.1
            change wr.cell? _ = some (.int .i64 (jnx b a (tpA l k).1)) at hc1
            change wr.cell? _ = some (.int .i64 (jnx b a (tpA l k).2.1)) at hc2
            change wr.cell? _ = some (.int .i64 (tpA l k).2.2) at hc3
            generalize tpA l k = T at *
            generalize jnx b a T.1 = X at *
            generalize jnx b a T.2.1 = Y at *
            generalize nw b a T.1 = P at *
            generalize nw b a T.2.1 = Q at *
            obtain ⟨hX0, hX1⟩ := hXn
            obtain ⟨hY0, hY1⟩ := hYn
            have hk1 : (k : Int) < len := by omega
            have hwX : IntKind.i64.wrap (X - 1) = X - 1 := IntWalk.i64_in _ (by omega)
            have hwY : IntKind.i64.wrap (Y - 1) = Y - 1 := IntWalk.i64_in _ (by omega)
            have hbn : ¬ b0 = wr.heap.size := by omega
            clear hmT hT
            by_cases hpq : P = Q
            · have HN := Lib.hid (hno hpq)
              have hpq' : (X == Y) = true := by simpa using hPQ.2 hpq
              clear hyes hno hpq hPQ hP hQ
              go_wp2
              go_roundw
              case rel => exact MR.mk (k + 1) (by omega) (by go_num) (by rw [HN.out]; exact HO.out.alloc _) (hb.alloc hsb _)
              case measure => simp [intOf]; omega
            · have HY := Lib.hid (hyes hpq)
              have hpq' : (X == Y) = false := by simpa using fun h => hpq (hPQ.1 h)
              clear hyes hno hPQ
              by_cases hX : a < X
              · have hda : decide (a < X) = true := decide_eq_true hX
                rw [if_pos hX] at hP
                by_cases hY : a < Y
                · have hdb : decide (a < Y) = true := decide_eq_true hY
                  rw [if_pos hY] at hQ
                  by_cases hs : Y - 1 < X - 1
                  · have HPQ : Hid ((min P Q, max P Q, T.2.2) = ((Y - 1), (X - 1), T.2.2)) := Lib.hid (by rw [hP, hQ]; rw [Int.min_eq_right (by omega), Int.max_eq_left (by omega)])
                    have hsw : decide (Y - 1 < X - 1) = true := decide_eq_true hs
                    have hsw2 : decide (Y < X) = true := decide_eq_true (by omega)


                    clear hP hQ hpq hs
                    go_wp2_with (at_builtin; go_loud (refine wpList_append_own _ rfl (.tmp 81) (.tmp 83) 22 rfl w3.heap.size 59 j0 (.agg #[.int .i64 0, .int .i64 0, .int .i64 0]) 3 24 Try.underlying22 hJ0.out hJ1.out hJ2.out hJ3.out rfl (by decide) _ _ _ rfl ((HO.out.alloc _).alloc _) ⟨wr.heap.size + 1, 0, none⟩ 1 1 (int3 ((Y - 1), (X - 1), T.2.2)) rfl rfl (fun j u hu => by have := tnews3 (wr.alloc (.cells #[.int .i64 (Y - 1), .int .i64 (X - 1), .int .i64 T.2.2] 59)) ((Y - 1), (X - 1), T.2.2) 59 j u hu; simpa [Addr.add] using this) (tone3 _) (by unfold maxLen; omega) (by omega) (by simp; omega) ?_))
                    intro v7 w7 hown7 hgrow7 _
                    have hb8 : Below w3.heap.size w3 w7 := ((hb.alloc hsb _).alloc (by simp; omega) _).trans (grown_below hgrow7 (by simp; omega) (fun q hq => (HO.out.lt q hq).1))
                    have HQ1 : Hid (w7.ownsRow w3.heap.size 59 3 v7 (mrg b a (l.take k) ++ [((Y - 1), (X - 1), T.2.2)]).length (tcells (mrg b a (l.take k) ++ [((Y - 1), (X - 1), T.2.2)]))) := Lib.hid (by rw [List.length_append, tcells_app]; exact hown7)
                    clear hown7 hgrow7
                    go_wp2
                    go_roundw
                    case rel => exact MR.mk (k + 1) (by omega) (by go_num) (by rw [HY.out, HPQ.out]; exact HQ1.out) hb8
                    case measure => simp [intOf]; omega
                  · have HPQ : Hid ((min P Q, max P Q, T.2.2) = ((X - 1), (Y - 1), T.2.2)) := Lib.hid (by rw [hP, hQ]; rw [Int.min_eq_left (by omega), Int.max_eq_right (by omega)])
                    have hsw : decide (Y - 1 < X - 1) = false := decide_eq_false hs
                    have hsw2 : decide (Y < X) = false := decide_eq_false (by omega)


                    clear hP hQ hpq hs
                    go_wp2_with (at_builtin; go_loud (refine wpList_append_own _ rfl (.tmp 81) (.tmp 83) 22 rfl w3.heap.size 59 j0 (.agg #[.int .i64 0, .int .i64 0, .int .i64 0]) 3 24 Try.underlying22 hJ0.out hJ1.out hJ2.out hJ3.out rfl (by decide) _ _ _ rfl ((HO.out.alloc _).alloc _) ⟨wr.heap.size + 1, 0, none⟩ 1 1 (int3 ((X - 1), (Y - 1), T.2.2)) rfl rfl (fun j u hu => by have := tnews3 (wr.alloc (.cells #[.int .i64 (X - 1), .int .i64 (Y - 1), .int .i64 T.2.2] 59)) ((X - 1), (Y - 1), T.2.2) 59 j u hu; simpa [Addr.add] using this) (tone3 _) (by unfold maxLen; omega) (by omega) (by simp; omega) ?_))
                    intro v7 w7 hown7 hgrow7 _
                    have hb8 : Below w3.heap.size w3 w7 := ((hb.alloc hsb _).alloc (by simp; omega) _).trans (grown_below hgrow7 (by simp; omega) (fun q hq => (HO.out.lt q hq).1))
                    have HQ1 : Hid (w7.ownsRow w3.heap.size 59 3 v7 (mrg b a (l.take k) ++ [((X - 1), (Y - 1), T.2.2)]).length (tcells (mrg b a (l.take k) ++ [((X - 1), (Y - 1), T.2.2)]))) := Lib.hid (by rw [List.length_append, tcells_app]; exact hown7)
                    clear hown7 hgrow7
                    go_wp2
                    go_roundw
                    case rel => exact MR.mk (k + 1) (by omega) (by go_num) (by rw [HY.out, HPQ.out]; exact HQ1.out) hb8
                    case measure => simp [intOf]; omega
                · have hdb : decide (a < Y) = false := decide_eq_false hY
                  rw [if_neg hY] at hQ
                  by_cases hs : Y < X - 1
                  · have HPQ : Hid ((min P Q, max P Q, T.2.2) = ((Y), (X - 1), T.2.2)) := Lib.hid (by rw [hP, hQ]; rw [Int.min_eq_right (by omega), Int.max_eq_left (by omega)])
                    have hsw : decide (Y < X - 1) = true := decide_eq_true hs

                    have hsw2 : decide (Y + 1 < X) = true := decide_eq_true (by omega)

                    clear hP hQ hpq hs
                    go_wp2_with (at_builtin; go_loud (refine wpList_append_own _ rfl (.tmp 81) (.tmp 83) 22 rfl w3.heap.size 59 j0 (.agg #[.int .i64 0, .int .i64 0, .int .i64 0]) 3 24 Try.underlying22 hJ0.out hJ1.out hJ2.out hJ3.out rfl (by decide) _ _ _ rfl ((HO.out.alloc _).alloc _) ⟨wr.heap.size + 1, 0, none⟩ 1 1 (int3 ((Y), (X - 1), T.2.2)) rfl rfl (fun j u hu => by have := tnews3 (wr.alloc (.cells #[.int .i64 (Y), .int .i64 (X - 1), .int .i64 T.2.2] 59)) ((Y), (X - 1), T.2.2) 59 j u hu; simpa [Addr.add] using this) (tone3 _) (by unfold maxLen; omega) (by omega) (by simp; omega) ?_))
                    intro v7 w7 hown7 hgrow7 _
                    have hb8 : Below w3.heap.size w3 w7 := ((hb.alloc hsb _).alloc (by simp; omega) _).trans (grown_below hgrow7 (by simp; omega) (fun q hq => (HO.out.lt q hq).1))
                    have HQ1 : Hid (w7.ownsRow w3.heap.size 59 3 v7 (mrg b a (l.take k) ++ [((Y), (X - 1), T.2.2)]).length (tcells (mrg b a (l.take k) ++ [((Y), (X - 1), T.2.2)]))) := Lib.hid (by rw [List.length_append, tcells_app]; exact hown7)
                    clear hown7 hgrow7
                    go_wp2
                    go_roundw
                    case rel => exact MR.mk (k + 1) (by omega) (by go_num) (by rw [HY.out, HPQ.out]; exact HQ1.out) hb8
                    case measure => simp [intOf]; omega
                  · have HPQ : Hid ((min P Q, max P Q, T.2.2) = ((X - 1), (Y), T.2.2)) := Lib.hid (by rw [hP, hQ]; rw [Int.min_eq_left (by omega), Int.max_eq_right (by omega)])
                    have hsw : decide (Y < X - 1) = false := decide_eq_false hs

                    have hsw2 : decide (Y + 1 < X) = false := decide_eq_false (by omega)

                    clear hP hQ hpq hs
                    go_wp2_with (at_builtin; go_loud (refine wpList_append_own _ rfl (.tmp 81) (.tmp 83) 22 rfl w3.heap.size 59 j0 (.agg #[.int .i64 0, .int .i64 0, .int .i64 0]) 3 24 Try.underlying22 hJ0.out hJ1.out hJ2.out hJ3.out rfl (by decide) _ _ _ rfl ((HO.out.alloc _).alloc _) ⟨wr.heap.size + 1, 0, none⟩ 1 1 (int3 ((X - 1), (Y), T.2.2)) rfl rfl (fun j u hu => by have := tnews3 (wr.alloc (.cells #[.int .i64 (X - 1), .int .i64 (Y), .int .i64 T.2.2] 59)) ((X - 1), (Y), T.2.2) 59 j u hu; simpa [Addr.add] using this) (tone3 _) (by unfold maxLen; omega) (by omega) (by simp; omega) ?_))
                    intro v7 w7 hown7 hgrow7 _
                    have hb8 : Below w3.heap.size w3 w7 := ((hb.alloc hsb _).alloc (by simp; omega) _).trans (grown_below hgrow7 (by simp; omega) (fun q hq => (HO.out.lt q hq).1))
                    have HQ1 : Hid (w7.ownsRow w3.heap.size 59 3 v7 (mrg b a (l.take k) ++ [((X - 1), (Y), T.2.2)]).length (tcells (mrg b a (l.take k) ++ [((X - 1), (Y), T.2.2)]))) := Lib.hid (by rw [List.length_append, tcells_app]; exact hown7)
                    clear hown7 hgrow7
                    go_wp2
                    go_roundw
                    case rel => exact MR.mk (k + 1) (by omega) (by go_num) (by rw [HY.out, HPQ.out]; exact HQ1.out) hb8
                    case measure => simp [intOf]; omega
              · have hda : decide (a < X) = false := decide_eq_false hX
                rw [if_neg hX] at hP
                by_cases hY : a < Y
                · have hdb : decide (a < Y) = true := decide_eq_true hY
                  rw [if_pos hY] at hQ
                  by_cases hs : Y - 1 < X
                  · have HPQ : Hid ((min P Q, max P Q, T.2.2) = ((Y - 1), (X), T.2.2)) := Lib.hid (by rw [hP, hQ]; rw [Int.min_eq_right (by omega), Int.max_eq_left (by omega)])
                    have hsw : decide (Y - 1 < X) = true := decide_eq_true hs


                    have hsw2 : decide (Y < X + 1) = true := decide_eq_true (by omega)
                    clear hP hQ hpq hs
                    go_wp2_with (at_builtin; go_loud (refine wpList_append_own _ rfl (.tmp 81) (.tmp 83) 22 rfl w3.heap.size 59 j0 (.agg #[.int .i64 0, .int .i64 0, .int .i64 0]) 3 24 Try.underlying22 hJ0.out hJ1.out hJ2.out hJ3.out rfl (by decide) _ _ _ rfl ((HO.out.alloc _).alloc _) ⟨wr.heap.size + 1, 0, none⟩ 1 1 (int3 ((Y - 1), (X), T.2.2)) rfl rfl (fun j u hu => by have := tnews3 (wr.alloc (.cells #[.int .i64 (Y - 1), .int .i64 (X), .int .i64 T.2.2] 59)) ((Y - 1), (X), T.2.2) 59 j u hu; simpa [Addr.add] using this) (tone3 _) (by unfold maxLen; omega) (by omega) (by simp; omega) ?_))
                    intro v7 w7 hown7 hgrow7 _
                    have hb8 : Below w3.heap.size w3 w7 := ((hb.alloc hsb _).alloc (by simp; omega) _).trans (grown_below hgrow7 (by simp; omega) (fun q hq => (HO.out.lt q hq).1))
                    have HQ1 : Hid (w7.ownsRow w3.heap.size 59 3 v7 (mrg b a (l.take k) ++ [((Y - 1), (X), T.2.2)]).length (tcells (mrg b a (l.take k) ++ [((Y - 1), (X), T.2.2)]))) := Lib.hid (by rw [List.length_append, tcells_app]; exact hown7)
                    clear hown7 hgrow7
                    go_wp2
                    go_roundw
                    case rel => exact MR.mk (k + 1) (by omega) (by go_num) (by rw [HY.out, HPQ.out]; exact HQ1.out) hb8
                    case measure => simp [intOf]; omega
                  · have HPQ : Hid ((min P Q, max P Q, T.2.2) = ((X), (Y - 1), T.2.2)) := Lib.hid (by rw [hP, hQ]; rw [Int.min_eq_left (by omega), Int.max_eq_right (by omega)])
                    have hsw : decide (Y - 1 < X) = false := decide_eq_false hs


                    have hsw2 : decide (Y < X + 1) = false := decide_eq_false (by omega)
                    clear hP hQ hpq hs
                    go_wp2_with (at_builtin; go_loud (refine wpList_append_own _ rfl (.tmp 81) (.tmp 83) 22 rfl w3.heap.size 59 j0 (.agg #[.int .i64 0, .int .i64 0, .int .i64 0]) 3 24 Try.underlying22 hJ0.out hJ1.out hJ2.out hJ3.out rfl (by decide) _ _ _ rfl ((HO.out.alloc _).alloc _) ⟨wr.heap.size + 1, 0, none⟩ 1 1 (int3 ((X), (Y - 1), T.2.2)) rfl rfl (fun j u hu => by have := tnews3 (wr.alloc (.cells #[.int .i64 (X), .int .i64 (Y - 1), .int .i64 T.2.2] 59)) ((X), (Y - 1), T.2.2) 59 j u hu; simpa [Addr.add] using this) (tone3 _) (by unfold maxLen; omega) (by omega) (by simp; omega) ?_))
                    intro v7 w7 hown7 hgrow7 _
                    have hb8 : Below w3.heap.size w3 w7 := ((hb.alloc hsb _).alloc (by simp; omega) _).trans (grown_below hgrow7 (by simp; omega) (fun q hq => (HO.out.lt q hq).1))
                    have HQ1 : Hid (w7.ownsRow w3.heap.size 59 3 v7 (mrg b a (l.take k) ++ [((X), (Y - 1), T.2.2)]).length (tcells (mrg b a (l.take k) ++ [((X), (Y - 1), T.2.2)]))) := Lib.hid (by rw [List.length_append, tcells_app]; exact hown7)
                    clear hown7 hgrow7
                    go_wp2
                    go_roundw
                    case rel => exact MR.mk (k + 1) (by omega) (by go_num) (by rw [HY.out, HPQ.out]; exact HQ1.out) hb8
                    case measure => simp [intOf]; omega
                · have hdb : decide (a < Y) = false := decide_eq_false hY
                  rw [if_neg hY] at hQ
                  by_cases hs : Y < X
                  · have HPQ : Hid ((min P Q, max P Q, T.2.2) = ((Y), (X), T.2.2)) := Lib.hid (by rw [hP, hQ]; rw [Int.min_eq_right (by omega), Int.max_eq_left (by omega)])
                    have hsw : decide (Y < X) = true := decide_eq_true hs



                    clear hP hQ hpq hs
                    go_wp2_with (at_builtin; go_loud (refine wpList_append_own _ rfl (.tmp 81) (.tmp 83) 22 rfl w3.heap.size 59 j0 (.agg #[.int .i64 0, .int .i64 0, .int .i64 0]) 3 24 Try.underlying22 hJ0.out hJ1.out hJ2.out hJ3.out rfl (by decide) _ _ _ rfl ((HO.out.alloc _).alloc _) ⟨wr.heap.size + 1, 0, none⟩ 1 1 (int3 ((Y), (X), T.2.2)) rfl rfl (fun j u hu => by have := tnews3 (wr.alloc (.cells #[.int .i64 (Y), .int .i64 (X), .int .i64 T.2.2] 59)) ((Y), (X), T.2.2) 59 j u hu; simpa [Addr.add] using this) (tone3 _) (by unfold maxLen; omega) (by omega) (by simp; omega) ?_))
                    intro v7 w7 hown7 hgrow7 _
                    have hb8 : Below w3.heap.size w3 w7 := ((hb.alloc hsb _).alloc (by simp; omega) _).trans (grown_below hgrow7 (by simp; omega) (fun q hq => (HO.out.lt q hq).1))
                    have HQ1 : Hid (w7.ownsRow w3.heap.size 59 3 v7 (mrg b a (l.take k) ++ [((Y), (X), T.2.2)]).length (tcells (mrg b a (l.take k) ++ [((Y), (X), T.2.2)]))) := Lib.hid (by rw [List.length_append, tcells_app]; exact hown7)
                    clear hown7 hgrow7
                    go_wp2
                    go_roundw
                    case rel => exact MR.mk (k + 1) (by omega) (by go_num) (by rw [HY.out, HPQ.out]; exact HQ1.out) hb8
                    case measure => simp [intOf]; omega
                  · have HPQ : Hid ((min P Q, max P Q, T.2.2) = ((X), (Y), T.2.2)) := Lib.hid (by rw [hP, hQ]; rw [Int.min_eq_left (by omega), Int.max_eq_right (by omega)])
                    have hsw : decide (Y < X) = false := decide_eq_false hs



                    clear hP hQ hpq hs
                    go_wp2_with (at_builtin; go_loud (refine wpList_append_own _ rfl (.tmp 81) (.tmp 83) 22 rfl w3.heap.size 59 j0 (.agg #[.int .i64 0, .int .i64 0, .int .i64 0]) 3 24 Try.underlying22 hJ0.out hJ1.out hJ2.out hJ3.out rfl (by decide) _ _ _ rfl ((HO.out.alloc _).alloc _) ⟨wr.heap.size + 1, 0, none⟩ 1 1 (int3 ((X), (Y), T.2.2)) rfl rfl (fun j u hu => by have := tnews3 (wr.alloc (.cells #[.int .i64 (X), .int .i64 (Y), .int .i64 T.2.2] 59)) ((X), (Y), T.2.2) 59 j u hu; simpa [Addr.add] using this) (tone3 _) (by unfold maxLen; omega) (by omega) (by simp; omega) ?_))
                    intro v7 w7 hown7 hgrow7 _
                    have hb8 : Below w3.heap.size w3 w7 := ((hb.alloc hsb _).alloc (by simp; omega) _).trans (grown_below hgrow7 (by simp; omega) (fun q hq => (HO.out.lt q hq).1))
                    have HQ1 : Hid (w7.ownsRow w3.heap.size 59 3 v7 (mrg b a (l.take k) ++ [((X), (Y), T.2.2)]).length (tcells (mrg b a (l.take k) ++ [((X), (Y), T.2.2)]))) := Lib.hid (by rw [List.length_append, tcells_app]; exact hown7)
                    clear hown7 hgrow7
                    go_wp2
                    go_roundw
                    case rel => exact MR.mk (k + 1) (by omega) (by go_num) (by rw [HY.out, HPQ.out]; exact HQ1.out) hb8
                    case measure => simp [intOf]; omega
          · have hkl : l.take k = l := List.take_of_length_le (by rw [HLL.out]; omega)
            have HB := Lib.hid (hB3.trans (hb.mono hB3.size))
            have HKL := Lib.hid hkl
            have hs3 := hB3.size
            clear hkl
            go_wp2
            go_ret3
            refine ⟨⟨.slice A1 (mrg b a (l.take k)).length cap1, rfl, ?_⟩, HB.out⟩
            have := HO.out
            rw [HKL.out] at this ⊢
            exact town_mono this hs3
      · have hgt : decide (b < a) = false := decide_eq_false (by omega)
        rw [Int.min_eq_left (by omega), Int.max_eq_right (by omega)]
        have hlh : a < b := by omega
        have c2 := fun W (h : Below w.heap.size w W) => joinN_any A len cap l a b W (by omega) ((hx.below h).more h.size)
        have C2 := Lib.hid c2
        clear c1 c2 hx hv h0 hE hN hL hj hy0 hy1 hy2
        go_enter Try.func46, Try.ntmps46
        go_wp2_with fail
        refine C1.out.mono ?_
        rintro e w1 ⟨rfl, hb1⟩
        go_wp2_with fail
        refine (C2.out _ hb1).mono ?_
        rintro e w3 ⟨⟨v3, rfl, ho3⟩, hb3⟩
        have hB3 : Below w.heap.size w w3 := below_step hb1 hb3
        have hml : (l.map (jnT a b)).length = len := by rw [List.length_map, HLL.out]
        obtain ⟨A3, cap3, rfl, -, -, hR3, -⟩ := own_tapes ho3
        have HX := Lib.hid hR3
        have HML := Lib.hid hml
        clear ho3 hR3 hb3 hb1 hml
        go_wp2
        go_loopw [14, 12] (fun i v W => MR w3 w3.heap.size a b l len i v W) (fun i _ _ => len - (intOf i).toNat)
        case atStart => exact MR.mk 0 (Nat.zero_le _) rfl (World.ownsRow_nil _ _ _ _) (Below.refl _ _)
        case round =>
          obtain ⟨k, hk, rfl, ho, hb⟩ := hrel
          have hsb := hb.size
          obtain ⟨A1, cap1, rfl, hn1, hn2, -, -⟩ := own_tapes ho
          have HO := Lib.hid ho
          clear ho
          by_cases hlt : k < len
          · obtain ⟨b0, off, rfl, hb0, hc1, hc2, hc3⟩ := rows_tp (HX.out.below hb) k hlt
            have hkl : k < l.length := by rw [HLL.out]; exact hlt
            rw [tpA_map hkl] at hc1 hc2 hc3
            have hT := hl (tpA l k) (by unfold tpA; rw [List.getElem?_eq_getElem hkl]; exact List.getElem_mem hkl)
            have hyes := mrg_snoc_yes (a := a) (b := b) hkl
            have hno := mrg_snoc_no (a := a) (b := b) hkl
            have hL1 := mrg_len_le a b (l.take k)
            have hL2 : (l.take k).length ≤ len := by rw [List.length_take, HLL.out]; omega
            have hmT : mrgT a b (tpA l k) = (min (nw a b (tpA l k).1) (nw a b (tpA l k).2.1), max (nw a b (tpA l k).1) (nw a b (tpA l k).2.1), (tpA l k).2.2) := rfl
            rw [hmT] at hyes
            have hP := (jnx_nw (x := (tpA l k).1) hlh).1
            have hQ := (jnx_nw (x := (tpA l k).2.1) hlh).1
            have hPQ := jnx_iff (x := (tpA l k).1) (y := (tpA l k).2.1) hlh
            have hXn := jnx_bd (b := b) (show nod a by assumption) hT.1
            have hYn := jnx_bd (b := b) (show nod a by assumption) hT.2.1
            change wr.cell? _ = some (.int .i64 (jnx a b (tpA l k).1)) at hc1
            change wr.cell? _ = some (.int .i64 (jnx a b (tpA l k).2.1)) at hc2
            change wr.cell? _ = some (.int .i64 (tpA l k).2.2) at hc3
            generalize tpA l k = T at *
            generalize jnx a b T.1 = X at *
            generalize jnx a b T.2.1 = Y at *
            generalize nw a b T.1 = P at *
            generalize nw a b T.2.1 = Q at *
            obtain ⟨hX0, hX1⟩ := hXn
            obtain ⟨hY0, hY1⟩ := hYn
            have hk1 : (k : Int) < len := by omega
            have hwX : IntKind.i64.wrap (X - 1) = X - 1 := IntWalk.i64_in _ (by omega)
            have hwY : IntKind.i64.wrap (Y - 1) = Y - 1 := IntWalk.i64_in _ (by omega)
            have hbn : ¬ b0 = wr.heap.size := by omega
            clear hmT hT
            by_cases hpq : P = Q
            · have HN := Lib.hid (hno hpq)
              have hpq' : (X == Y) = true := by simpa using hPQ.2 hpq
              clear hyes hno hpq hPQ hP hQ
              go_wp2
              go_roundw
              case rel => exact MR.mk (k + 1) (by omega) (by go_num) (by rw [HN.out]; exact HO.out.alloc _) (hb.alloc hsb _)
              case measure => simp [intOf]; omega
            · have HY := Lib.hid (hyes hpq)
              have hpq' : (X == Y) = false := by simpa using fun h => hpq (hPQ.1 h)
              clear hyes hno hPQ
              by_cases hX : b < X
              · have hda : decide (b < X) = true := decide_eq_true hX
                rw [if_pos hX] at hP
                by_cases hY : b < Y
                · have hdb : decide (b < Y) = true := decide_eq_true hY
                  rw [if_pos hY] at hQ
                  by_cases hs : Y - 1 < X - 1
                  · have HPQ : Hid ((min P Q, max P Q, T.2.2) = ((Y - 1), (X - 1), T.2.2)) := Lib.hid (by rw [hP, hQ]; rw [Int.min_eq_right (by omega), Int.max_eq_left (by omega)])
                    have hsw : decide (Y - 1 < X - 1) = true := decide_eq_true hs
                    have hsw2 : decide (Y < X) = true := decide_eq_true (by omega)


                    clear hP hQ hpq hs
                    go_wp2_with (at_builtin; go_loud (refine wpList_append_own _ rfl (.tmp 81) (.tmp 83) 22 rfl w3.heap.size 59 j0 (.agg #[.int .i64 0, .int .i64 0, .int .i64 0]) 3 24 Try.underlying22 hJ0.out hJ1.out hJ2.out hJ3.out rfl (by decide) _ _ _ rfl ((HO.out.alloc _).alloc _) ⟨wr.heap.size + 1, 0, none⟩ 1 1 (int3 ((Y - 1), (X - 1), T.2.2)) rfl rfl (fun j u hu => by have := tnews3 (wr.alloc (.cells #[.int .i64 (Y - 1), .int .i64 (X - 1), .int .i64 T.2.2] 59)) ((Y - 1), (X - 1), T.2.2) 59 j u hu; simpa [Addr.add] using this) (tone3 _) (by unfold maxLen; omega) (by omega) (by simp; omega) ?_))
                    intro v7 w7 hown7 hgrow7 _
                    have hb8 : Below w3.heap.size w3 w7 := ((hb.alloc hsb _).alloc (by simp; omega) _).trans (grown_below hgrow7 (by simp; omega) (fun q hq => (HO.out.lt q hq).1))
                    have HQ1 : Hid (w7.ownsRow w3.heap.size 59 3 v7 (mrg a b (l.take k) ++ [((Y - 1), (X - 1), T.2.2)]).length (tcells (mrg a b (l.take k) ++ [((Y - 1), (X - 1), T.2.2)]))) := Lib.hid (by rw [List.length_append, tcells_app]; exact hown7)
                    clear hown7 hgrow7
                    go_wp2
                    go_roundw
                    case rel => exact MR.mk (k + 1) (by omega) (by go_num) (by rw [HY.out, HPQ.out]; exact HQ1.out) hb8
                    case measure => simp [intOf]; omega
                  · have HPQ : Hid ((min P Q, max P Q, T.2.2) = ((X - 1), (Y - 1), T.2.2)) := Lib.hid (by rw [hP, hQ]; rw [Int.min_eq_left (by omega), Int.max_eq_right (by omega)])
                    have hsw : decide (Y - 1 < X - 1) = false := decide_eq_false hs
                    have hsw2 : decide (Y < X) = false := decide_eq_false (by omega)


                    clear hP hQ hpq hs
                    go_wp2_with (at_builtin; go_loud (refine wpList_append_own _ rfl (.tmp 81) (.tmp 83) 22 rfl w3.heap.size 59 j0 (.agg #[.int .i64 0, .int .i64 0, .int .i64 0]) 3 24 Try.underlying22 hJ0.out hJ1.out hJ2.out hJ3.out rfl (by decide) _ _ _ rfl ((HO.out.alloc _).alloc _) ⟨wr.heap.size + 1, 0, none⟩ 1 1 (int3 ((X - 1), (Y - 1), T.2.2)) rfl rfl (fun j u hu => by have := tnews3 (wr.alloc (.cells #[.int .i64 (X - 1), .int .i64 (Y - 1), .int .i64 T.2.2] 59)) ((X - 1), (Y - 1), T.2.2) 59 j u hu; simpa [Addr.add] using this) (tone3 _) (by unfold maxLen; omega) (by omega) (by simp; omega) ?_))
                    intro v7 w7 hown7 hgrow7 _
                    have hb8 : Below w3.heap.size w3 w7 := ((hb.alloc hsb _).alloc (by simp; omega) _).trans (grown_below hgrow7 (by simp; omega) (fun q hq => (HO.out.lt q hq).1))
                    have HQ1 : Hid (w7.ownsRow w3.heap.size 59 3 v7 (mrg a b (l.take k) ++ [((X - 1), (Y - 1), T.2.2)]).length (tcells (mrg a b (l.take k) ++ [((X - 1), (Y - 1), T.2.2)]))) := Lib.hid (by rw [List.length_append, tcells_app]; exact hown7)
                    clear hown7 hgrow7
                    go_wp2
                    go_roundw
                    case rel => exact MR.mk (k + 1) (by omega) (by go_num) (by rw [HY.out, HPQ.out]; exact HQ1.out) hb8
                    case measure => simp [intOf]; omega
                · have hdb : decide (b < Y) = false := decide_eq_false hY
                  rw [if_neg hY] at hQ
                  by_cases hs : Y < X - 1
                  · have HPQ : Hid ((min P Q, max P Q, T.2.2) = ((Y), (X - 1), T.2.2)) := Lib.hid (by rw [hP, hQ]; rw [Int.min_eq_right (by omega), Int.max_eq_left (by omega)])
                    have hsw : decide (Y < X - 1) = true := decide_eq_true hs

                    have hsw2 : decide (Y + 1 < X) = true := decide_eq_true (by omega)

                    clear hP hQ hpq hs
                    go_wp2_with (at_builtin; go_loud (refine wpList_append_own _ rfl (.tmp 81) (.tmp 83) 22 rfl w3.heap.size 59 j0 (.agg #[.int .i64 0, .int .i64 0, .int .i64 0]) 3 24 Try.underlying22 hJ0.out hJ1.out hJ2.out hJ3.out rfl (by decide) _ _ _ rfl ((HO.out.alloc _).alloc _) ⟨wr.heap.size + 1, 0, none⟩ 1 1 (int3 ((Y), (X - 1), T.2.2)) rfl rfl (fun j u hu => by have := tnews3 (wr.alloc (.cells #[.int .i64 (Y), .int .i64 (X - 1), .int .i64 T.2.2] 59)) ((Y), (X - 1), T.2.2) 59 j u hu; simpa [Addr.add] using this) (tone3 _) (by unfold maxLen; omega) (by omega) (by simp; omega) ?_))
                    intro v7 w7 hown7 hgrow7 _
                    have hb8 : Below w3.heap.size w3 w7 := ((hb.alloc hsb _).alloc (by simp; omega) _).trans (grown_below hgrow7 (by simp; omega) (fun q hq => (HO.out.lt q hq).1))
                    have HQ1 : Hid (w7.ownsRow w3.heap.size 59 3 v7 (mrg a b (l.take k) ++ [((Y), (X - 1), T.2.2)]).length (tcells (mrg a b (l.take k) ++ [((Y), (X - 1), T.2.2)]))) := Lib.hid (by rw [List.length_append, tcells_app]; exact hown7)
                    clear hown7 hgrow7
                    go_wp2
                    go_roundw
                    case rel => exact MR.mk (k + 1) (by omega) (by go_num) (by rw [HY.out, HPQ.out]; exact HQ1.out) hb8
                    case measure => simp [intOf]; omega
                  · have HPQ : Hid ((min P Q, max P Q, T.2.2) = ((X - 1), (Y), T.2.2)) := Lib.hid (by rw [hP, hQ]; rw [Int.min_eq_left (by omega), Int.max_eq_right (by omega)])
                    have hsw : decide (Y < X - 1) = false := decide_eq_false hs

                    have hsw2 : decide (Y + 1 < X) = false := decide_eq_false (by omega)

                    clear hP hQ hpq hs
                    go_wp2_with (at_builtin; go_loud (refine wpList_append_own _ rfl (.tmp 81) (.tmp 83) 22 rfl w3.heap.size 59 j0 (.agg #[.int .i64 0, .int .i64 0, .int .i64 0]) 3 24 Try.underlying22 hJ0.out hJ1.out hJ2.out hJ3.out rfl (by decide) _ _ _ rfl ((HO.out.alloc _).alloc _) ⟨wr.heap.size + 1, 0, none⟩ 1 1 (int3 ((X - 1), (Y), T.2.2)) rfl rfl (fun j u hu => by have := tnews3 (wr.alloc (.cells #[.int .i64 (X - 1), .int .i64 (Y), .int .i64 T.2.2] 59)) ((X - 1), (Y), T.2.2) 59 j u hu; simpa [Addr.add] using this) (tone3 _) (by unfold maxLen; omega) (by omega) (by simp; omega) ?_))
                    intro v7 w7 hown7 hgrow7 _
                    have hb8 : Below w3.heap.size w3 w7 := ((hb.alloc hsb _).alloc (by simp; omega) _).trans (grown_below hgrow7 (by simp; omega) (fun q hq => (HO.out.lt q hq).1))
                    have HQ1 : Hid (w7.ownsRow w3.heap.size 59 3 v7 (mrg a b (l.take k) ++ [((X - 1), (Y), T.2.2)]).length (tcells (mrg a b (l.take k) ++ [((X - 1), (Y), T.2.2)]))) := Lib.hid (by rw [List.length_append, tcells_app]; exact hown7)
                    clear hown7 hgrow7
                    go_wp2
                    go_roundw
                    case rel => exact MR.mk (k + 1) (by omega) (by go_num) (by rw [HY.out, HPQ.out]; exact HQ1.out) hb8
                    case measure => simp [intOf]; omega
              · have hda : decide (b < X) = false := decide_eq_false hX
                rw [if_neg hX] at hP
                by_cases hY : b < Y
                · have hdb : decide (b < Y) = true := decide_eq_true hY
                  rw [if_pos hY] at hQ
                  by_cases hs : Y - 1 < X
                  · have HPQ : Hid ((min P Q, max P Q, T.2.2) = ((Y - 1), (X), T.2.2)) := Lib.hid (by rw [hP, hQ]; rw [Int.min_eq_right (by omega), Int.max_eq_left (by omega)])
                    have hsw : decide (Y - 1 < X) = true := decide_eq_true hs


                    have hsw2 : decide (Y < X + 1) = true := decide_eq_true (by omega)
                    clear hP hQ hpq hs
                    go_wp2_with (at_builtin; go_loud (refine wpList_append_own _ rfl (.tmp 81) (.tmp 83) 22 rfl w3.heap.size 59 j0 (.agg #[.int .i64 0, .int .i64 0, .int .i64 0]) 3 24 Try.underlying22 hJ0.out hJ1.out hJ2.out hJ3.out rfl (by decide) _ _ _ rfl ((HO.out.alloc _).alloc _) ⟨wr.heap.size + 1, 0, none⟩ 1 1 (int3 ((Y - 1), (X), T.2.2)) rfl rfl (fun j u hu => by have := tnews3 (wr.alloc (.cells #[.int .i64 (Y - 1), .int .i64 (X), .int .i64 T.2.2] 59)) ((Y - 1), (X), T.2.2) 59 j u hu; simpa [Addr.add] using this) (tone3 _) (by unfold maxLen; omega) (by omega) (by simp; omega) ?_))
                    intro v7 w7 hown7 hgrow7 _
                    have hb8 : Below w3.heap.size w3 w7 := ((hb.alloc hsb _).alloc (by simp; omega) _).trans (grown_below hgrow7 (by simp; omega) (fun q hq => (HO.out.lt q hq).1))
                    have HQ1 : Hid (w7.ownsRow w3.heap.size 59 3 v7 (mrg a b (l.take k) ++ [((Y - 1), (X), T.2.2)]).length (tcells (mrg a b (l.take k) ++ [((Y - 1), (X), T.2.2)]))) := Lib.hid (by rw [List.length_append, tcells_app]; exact hown7)
                    clear hown7 hgrow7
                    go_wp2
                    go_roundw
                    case rel => exact MR.mk (k + 1) (by omega) (by go_num) (by rw [HY.out, HPQ.out]; exact HQ1.out) hb8
                    case measure => simp [intOf]; omega
                  · have HPQ : Hid ((min P Q, max P Q, T.2.2) = ((X), (Y - 1), T.2.2)) := Lib.hid (by rw [hP, hQ]; rw [Int.min_eq_left (by omega), Int.max_eq_right (by omega)])
                    have hsw : decide (Y - 1 < X) = false := decide_eq_false hs


                    have hsw2 : decide (Y < X + 1) = false := decide_eq_false (by omega)
                    clear hP hQ hpq hs
                    go_wp2_with (at_builtin; go_loud (refine wpList_append_own _ rfl (.tmp 81) (.tmp 83) 22 rfl w3.heap.size 59 j0 (.agg #[.int .i64 0, .int .i64 0, .int .i64 0]) 3 24 Try.underlying22 hJ0.out hJ1.out hJ2.out hJ3.out rfl (by decide) _ _ _ rfl ((HO.out.alloc _).alloc _) ⟨wr.heap.size + 1, 0, none⟩ 1 1 (int3 ((X), (Y - 1), T.2.2)) rfl rfl (fun j u hu => by have := tnews3 (wr.alloc (.cells #[.int .i64 (X), .int .i64 (Y - 1), .int .i64 T.2.2] 59)) ((X), (Y - 1), T.2.2) 59 j u hu; simpa [Addr.add] using this) (tone3 _) (by unfold maxLen; omega) (by omega) (by simp; omega) ?_))
                    intro v7 w7 hown7 hgrow7 _
                    have hb8 : Below w3.heap.size w3 w7 := ((hb.alloc hsb _).alloc (by simp; omega) _).trans (grown_below hgrow7 (by simp; omega) (fun q hq => (HO.out.lt q hq).1))
                    have HQ1 : Hid (w7.ownsRow w3.heap.size 59 3 v7 (mrg a b (l.take k) ++ [((X), (Y - 1), T.2.2)]).length (tcells (mrg a b (l.take k) ++ [((X), (Y - 1), T.2.2)]))) := Lib.hid (by rw [List.length_append, tcells_app]; exact hown7)
                    clear hown7 hgrow7
                    go_wp2
                    go_roundw
                    case rel => exact MR.mk (k + 1) (by omega) (by go_num) (by rw [HY.out, HPQ.out]; exact HQ1.out) hb8
                    case measure => simp [intOf]; omega
                · have hdb : decide (b < Y) = false := decide_eq_false hY
                  rw [if_neg hY] at hQ
                  by_cases hs : Y < X
                  · have HPQ : Hid ((min P Q, max P Q, T.2.2) = ((Y), (X), T.2.2)) := Lib.hid (by rw [hP, hQ]; rw [Int.min_eq_right (by omega), Int.max_eq_left (by omega)])
                    have hsw : decide (Y < X) = true := decide_eq_true hs



                    clear hP hQ hpq hs
                    go_wp2_with (at_builtin; go_loud (refine wpList_append_own _ rfl (.tmp 81) (.tmp 83) 22 rfl w3.heap.size 59 j0 (.agg #[.int .i64 0, .int .i64 0, .int .i64 0]) 3 24 Try.underlying22 hJ0.out hJ1.out hJ2.out hJ3.out rfl (by decide) _ _ _ rfl ((HO.out.alloc _).alloc _) ⟨wr.heap.size + 1, 0, none⟩ 1 1 (int3 ((Y), (X), T.2.2)) rfl rfl (fun j u hu => by have := tnews3 (wr.alloc (.cells #[.int .i64 (Y), .int .i64 (X), .int .i64 T.2.2] 59)) ((Y), (X), T.2.2) 59 j u hu; simpa [Addr.add] using this) (tone3 _) (by unfold maxLen; omega) (by omega) (by simp; omega) ?_))
                    intro v7 w7 hown7 hgrow7 _
                    have hb8 : Below w3.heap.size w3 w7 := ((hb.alloc hsb _).alloc (by simp; omega) _).trans (grown_below hgrow7 (by simp; omega) (fun q hq => (HO.out.lt q hq).1))
                    have HQ1 : Hid (w7.ownsRow w3.heap.size 59 3 v7 (mrg a b (l.take k) ++ [((Y), (X), T.2.2)]).length (tcells (mrg a b (l.take k) ++ [((Y), (X), T.2.2)]))) := Lib.hid (by rw [List.length_append, tcells_app]; exact hown7)
                    clear hown7 hgrow7
                    go_wp2
                    go_roundw
                    case rel => exact MR.mk (k + 1) (by omega) (by go_num) (by rw [HY.out, HPQ.out]; exact HQ1.out) hb8
                    case measure => simp [intOf]; omega
                  · have HPQ : Hid ((min P Q, max P Q, T.2.2) = ((X), (Y), T.2.2)) := Lib.hid (by rw [hP, hQ]; rw [Int.min_eq_left (by omega), Int.max_eq_right (by omega)])
                    have hsw : decide (Y < X) = false := decide_eq_false hs



                    clear hP hQ hpq hs
                    go_wp2_with (at_builtin; go_loud (refine wpList_append_own _ rfl (.tmp 81) (.tmp 83) 22 rfl w3.heap.size 59 j0 (.agg #[.int .i64 0, .int .i64 0, .int .i64 0]) 3 24 Try.underlying22 hJ0.out hJ1.out hJ2.out hJ3.out rfl (by decide) _ _ _ rfl ((HO.out.alloc _).alloc _) ⟨wr.heap.size + 1, 0, none⟩ 1 1 (int3 ((X), (Y), T.2.2)) rfl rfl (fun j u hu => by have := tnews3 (wr.alloc (.cells #[.int .i64 (X), .int .i64 (Y), .int .i64 T.2.2] 59)) ((X), (Y), T.2.2) 59 j u hu; simpa [Addr.add] using this) (tone3 _) (by unfold maxLen; omega) (by omega) (by simp; omega) ?_))
                    intro v7 w7 hown7 hgrow7 _
                    have hb8 : Below w3.heap.size w3 w7 := ((hb.alloc hsb _).alloc (by simp; omega) _).trans (grown_below hgrow7 (by simp; omega) (fun q hq => (HO.out.lt q hq).1))
                    have HQ1 : Hid (w7.ownsRow w3.heap.size 59 3 v7 (mrg a b (l.take k) ++ [((X), (Y), T.2.2)]).length (tcells (mrg a b (l.take k) ++ [((X), (Y), T.2.2)]))) := Lib.hid (by rw [List.length_append, tcells_app]; exact hown7)
                    clear hown7 hgrow7
                    go_wp2
                    go_roundw
                    case rel => exact MR.mk (k + 1) (by omega) (by go_num) (by rw [HY.out, HPQ.out]; exact HQ1.out) hb8
                    case measure => simp [intOf]; omega
          · have hkl : l.take k = l := List.take_of_length_le (by rw [HLL.out]; omega)
            have HB := Lib.hid (hB3.trans (hb.mono hB3.size))
            have HKL := Lib.hid hkl
            have hs3 := hB3.size
            clear hkl
            go_wp2
            go_ret3
            refine ⟨⟨.slice A1 (mrg a b (l.take k)).length cap1, rfl, ?_⟩, HB.out⟩
            have := HO.out
            rw [HKL.out] at this ⊢
            exact town_mono this hs3
  · have h0' : (askE n l [a, b] == 0) = false := by simpa using h0
    rw [if_neg h0] at hE
    rw [hE, if_neg h0] at hN hL
    rw [hE, hN, hL]
    generalize askE n l [a, b] = E at *
    have C1 := Lib.hid c1
    clear c1 hx hE hN hL h0
    go_enter Try.func46, Try.ntmps46
    go_wp2_with fail
    refine C1.out.mono ?_
    rintro e w1 ⟨rfl, hb⟩
    go_wp2
    go_ret3
    exact ⟨⟨_, rfl, World.ownsRow_nil _ _ _ _⟩, hb⟩
end Go.Proofs.Ytcpnipnaidihaaa
