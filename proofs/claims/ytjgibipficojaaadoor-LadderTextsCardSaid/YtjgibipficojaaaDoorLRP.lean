/- Ladder's Parse: the reference's. -/
import Derived.Test.YtjgibipficojaaaDoorLFmt
import Derived.Test.YtjgibipficojaaaDoorFailM
import Derived.Laws.OwnMore
set_option linter.unusedSimpArgs false
set_option linter.unusedVariables false
namespace Go.Proofs.YtjgibipficojaaaDoor
open Go.RowKit
attribute [local go_sem] Later.cell
theorem linfo_jt : (Tryd.prog.info? 32).map (fun i => (i.zero, i.size, i.bytes)) = some (some (.agg #[.int .i64 0, .bool false]), 2, 16) := by kernel_rfl
theorem jnews2 (W : World) (x y : Value) (t : TypeId) : ∀ j u, ([x, y] : List Value)[j]? = some u → (W.alloc (.cells #[x, y] t)).cell? ((⟨W.heap.size, 0, none⟩ : Addr).add j) = some u := by
  intro j u hj
  rcases j with _ | _ | j
  · simp at hj; subst hj; simp [Addr.add]
  · simp at hj; subst hj; simp [Addr.add]
  · simp at hj
/-- Whether a word has no mark at its end; the word without it. -/
def sndW (y : List UInt8) : Bool := !(y.getLast? == some 33)
def stemW (y : List UInt8) : List UInt8 := if sndW y then y else y.dropLast
def okY (y : List UInt8) : Bool := (numR (stemW y)).2
def jY (y : List UInt8) : J := ((numR (stemW y)).1, sndW y)
def okW (ws : List (List UInt8)) : Bool := ws.all okY
def rpV (b : List UInt8) : List J := if 65536 < b.length then [] else if b = [] then [] else if okW (words 32 b) && vJ ((words 32 b).map jY) then (words 32 b).map jY else []
def rpE (b : List UInt8) : Int := if 65536 < b.length then 3 else if b = [] then 0 else if okW (words 32 b) && vJ ((words 32 b).map jY) then 0 else 2
theorem wordsA_mem_len (m : UInt8) : ∀ (b cur y : List UInt8), y ∈ wordsA m cur b → y.length ≤ cur.length + b.length := by
  intro b
  induction b with
  | nil => intro cur y hy; simp [wordsA] at hy; rw [hy]; simp
  | cons c r ih =>
    intro cur y hy
    unfold wordsA at hy
    split at hy
    · rcases List.mem_cons.1 hy with rfl | hy
      · simp
      · have := ih [] y hy; simp at *; omega
    · have := ih _ y hy; simp at *; omega
theorem sndW_nil : sndW [] = true := rfl
theorem sndW_snoc (z : List UInt8) (c : UInt8) : sndW (z ++ [c]) = !(c == 33) := by unfold sndW; simp
set_option maxRecDepth 20000 in
set_option maxHeartbeats 4000000 in
theorem rParse_any (b : List UInt8) (w : World) (hb47 : b.length ≤ 9223372036854775807) :
    Calls Tryd.prog 6 #[.string ⟨b.toArray⟩] w fun e w' => (∃ v, e = .returned (.tuple #[v, .int .i64 (rpE b)]) ∧ w'.ownsRow w.heap.size 32 2 v (rpV b).length (jcells (rpV b))) ∧ Below w.heap.size w w' := by
  have hsz : (⟨b.toArray⟩ : ByteArray).size = b.length := rfl
  by_cases h1 : 65536 < b.length
  · have hE : rpE b = 3 := by unfold rpE; rw [if_pos h1]
    have hV : rpV b = [] := by unfold rpV; rw [if_pos h1]
    rw [hE, hV]
    have h1' : (65536 : Int) < b.length := by omega
    go_enter Tryd.func6, Tryd.ntmps6
    go_wp2
    go_ret2
    exact ⟨⟨_, rfl, World.ownsRow_nil _ _ _ _⟩, Below.refl _ _⟩
  · have h1' : decide ((65536 : Int) < b.length) = false := decide_eq_false (by omega)
    by_cases h2 : b = []
    · have hE : rpE b = 0 := by rw [h2]; rfl
      have hV : rpV b = [] := by rw [h2]; rfl
      rw [hE, hV]
      subst h2
      go_enter Tryd.func6, Tryd.ntmps6
      go_wp2
      go_ret2
      exact ⟨⟨_, rfl, World.ownsRow_nil _ _ _ _⟩, Below.refl _ _⟩
    · have hE : rpE b = if okW (words 32 b) && vJ ((words 32 b).map jY) then 0 else 2 := by unfold rpE; rw [if_neg h1, if_neg h2]
      have hV : rpV b = if okW (words 32 b) && vJ ((words 32 b).map jY) then (words 32 b).map jY else [] := by unfold rpV; rw [if_neg h1, if_neg h2]
      have hbp : 0 < b.length := List.length_pos_iff.2 h2
      have hie : b.isEmpty = false := by
        cases b with
        | nil => exact absurd rfl h2
        | cons c r => rfl
      have C1 : Hid (Calls Tryd.prog 12 #[.string ⟨b.toArray⟩, .int .u8 32] w fun e w' => (∃ v, e = .returned v ∧ w'.ownsRow w.heap.size 9 1 v (words 32 b).length (bcel (words 32 b))) ∧ Below w.heap.size w w') := Lib.hid (words_any b 32 w (by omega))
      have HWL := Lib.hid (fun y (hy : y ∈ words 32 b) => wordsA_mem_len 32 b [] y hy)
      have HNL : Hid ((words 32 b).length ≤ b.length + 1) := Lib.hid (wordsA_len 32 b [])
      have HE := Lib.hid hE
      have HV := Lib.hid hV
      obtain ⟨i0, hi, hz0, hz1, hz2⟩ := info_parts linfo_jt
      have hI0 := Lib.hid hi
      have hI1 := Lib.hid hz0
      have hI2 := Lib.hid hz1
      have hI3 := Lib.hid hz2
      clear hi hz0 hz1 hz2 hE hV h2
      go_enter Tryd.func6, Tryd.ntmps6
      go_wp2_with fail
      refine C1.out.mono ?_
      rintro e w1 ⟨⟨v1, rfl, ho1⟩, hb1⟩
      generalize hWs : words 32 b = ws at *
      obtain ⟨hwl, h0 | ⟨g, cap, rfl, hnc, hcm, hgb, hgl, hcs⟩⟩ := own_words ho1
      · exfalso
        have : ws = [] := List.eq_nil_of_length_eq_zero h0.1
        rw [← hWs] at this
        exact wordsA_ne 32 b [] this
      · have HC0 : Hid (∀ j, 0 ≤ j → j < ws.length → w1.cell? ⟨g, j, none⟩ = some (.string ⟨(ws[j]?.getD []).toArray⟩) ∧ w1.frozen? ⟨g, j, none⟩ = false) := Lib.hid (fun j _ hj => hcs j hj)
        have HB1 := Lib.hid hb1
        have hb1s := hb1.size
        clear ho1 hcs hb1 hWs C1
        have hnl : ws.length ≤ b.length + 1 := HNL.out
        go_wp2
        go_loopw [5, 6] (fun v i wr => ∃ k : Nat, k ≤ ws.length ∧ i = .int .i64 (k : Int) ∧ Hid (wr.ownsRow w1.heap.size 32 2 v k (jcells ((ws.map jY).take k))) ∧ Hid (∀ j, k ≤ j → j < ws.length → wr.cell? ⟨g, j, none⟩ = some (.string ⟨(ws[j]?.getD []).toArray⟩) ∧ wr.frozen? ⟨g, j, none⟩ = false) ∧ Hid (okW (ws.take k) = true) ∧ w1.heap.size ≤ wr.heap.size ∧ Below w.heap.size w wr) (fun _ i _ => ws.length - (intOf i).toNat)
        case atStart => exact ⟨0, Nat.zero_le _, rfl, Lib.hid (World.ownsRow_nil _ _ _ _), HC0, Lib.hid rfl, Nat.le_refl _, HB1.out⟩
        case round =>
          obtain ⟨k, hk, rfl, HO, HC, HOK, hs1, hB⟩ := hrel
          clear HB1 HC0
          have hsz := hB.size
          by_cases hlt : k < ws.length
          · have hlt1 : (k : Int) < ws.length := by omega
            have hgr : g < wr.heap.size := by omega
            obtain ⟨hc1, hf1⟩ := HC.out k (Nat.le_refl _) hlt
            have hy0 : ws[k]?.getD [] = ws[k] := by rw [List.getElem?_eq_getElem hlt]; rfl
            rw [hy0] at hc1
            have hym : ws[k] ∈ ws := List.getElem_mem hlt
            have hyl := HWL.out _ hym
            have hty : ws.take (k + 1) = ws.take k ++ [ws[k]] := List.take_succ_eq_append_getElem hlt
            have hokn : okY ws[k] = false → okW ws = false := fun h => List.all_eq_false.2 ⟨ws[k], hym, by rw [h]; simp⟩
            have hoky : okY ws[k] = true → okW (ws.take (k + 1)) = true := fun h => by unfold okW; rw [hty, List.all_append]; have := HOK.out; unfold okW at this; rw [this]; simp [h]
            have hrow : jcells ((ws.map jY).take (k + 1)) = jcells ((ws.map jY).take k) ++ jointV (jY ws[k]) := by rw [← List.map_take, ← List.map_take, hty, List.map_append]; simp [jcells]
            have hC2 : ∀ wX : World, (∀ j, k < j → j < ws.length → wX.cell? ⟨g, j, none⟩ = wr.cell? ⟨g, j, none⟩ ∧ wX.frozen? ⟨g, j, none⟩ = wr.frozen? ⟨g, j, none⟩) → Hid (∀ j, k + 1 ≤ j → j < ws.length → wX.cell? ⟨g, j, none⟩ = some (.string ⟨(ws[j]?.getD []).toArray⟩) ∧ wX.frozen? ⟨g, j, none⟩ = false) := fun wX h => Lib.hid (fun j h1 h2 => by rw [(h j h1 h2).1, (h j h1 h2).2]; exact HC.out j (by omega) h2)
            have HC2 := Lib.hid hC2
            have HOKN := Lib.hid hokn
            have HOKY := Lib.hid hoky
            have HROW := Lib.hid hrow
            have hyl2 : (ws[k]).length ≤ b.length := by simpa using hyl
            clear hC2 hokn hoky hrow hty hym hyl hy0 HC HOK
            generalize ws[k] = y at *
            rcases List.eq_nil_or_concat y with hy | ⟨z, c, hy⟩
            · have hsn : sndW y = true := by rw [hy]; rfl
              have hst : stemW y = y := by unfold stemW; rw [hsn]; rfl
              have hyz : (⟨y.toArray⟩ : ByteArray).size = 0 := by rw [hy]; rfl
              clear hy
              have C2 := Lib.hid (fun W => number_any (stemW y) W (by rw [hst]; omega))
              rw [hst] at C2
              have hjY : jY y = ((numR y).1, true) := by unfold jY; rw [hst, hsn]
              have hoY : okY y = (numR y).2 := by unfold okY; rw [hst]
              rw [hjY] at HROW
              rw [hoY] at HOKN HOKY
              clear hjY hoY hsn hst
              by_cases hok : (numR y).2 = true
              · have HK2 := Lib.hid (HOKY.out hok)
                rw [hok] at C2
                generalize (numR y).1 = X at *
                clear hok HOKY HOKN
                go_wp2_with fail
                go_big_region
                skip
                go_wp2_with fail
                refine (C2.out _).mono ?_
                rintro e w4 ⟨rfl, hb4⟩
                have hw4 : wr.heap.size ≤ w4.heap.size := by have := hb4.size; simpa using this
                have HB4 : Hid (Below w.heap.size w w4) := Lib.hid (by repeat (first | exact Below.refl _ _ | assumption | refine Below.setCell ?_ (by first | (simp; done) | (simp; omega) | omega) _ | refine Below.drew ?_ | refine below_drewN ?_ _ | refine Below.alloc ?_ (by first | (simp; done) | (simp; omega) | omega) _ | refine below_alloc ?_ _ | refine below_step ?_ (by assumption)))
                have HO4 := Lib.hid (own_later ((show wr.drew.ownsRow _ _ _ _ _ _ from HO.out)) hb4)
                have HC4 := HC2.out w4 (fun j h1 h2 => ⟨hb4.cell (p := ⟨g, j, none⟩) hgr, hb4.frozen (p := ⟨g, j, none⟩) hgr⟩)
                clear hb4 HC2 HO hB hc1 hf1
                go_wp2_with (at_builtin; go_loud (refine wpList_append_own _ rfl (.tmp 71) (.tmp 75) 22 rfl w1.heap.size 32 i0 (.agg #[.int .i64 0, .bool false]) 2 16 Tryd.underlying22 hI0.out hI1.out hI2.out hI3.out rfl (by decide) _ _ _ rfl (HO4.out.alloc _) ⟨w4.heap.size, 0, none⟩ 1 1 [.int .i64 X, .bool true] rfl rfl (by intro j u hj; exact jnews2 w4 _ _ 32 j u hj) (by intro u hu; simp at hu; rcases hu with rfl | rfl <;> rfl) (by unfold maxLen; omega) (by omega) (by simp; omega) ?_))
                intro v' w5 hown' hgrow _
                have hb6 : Below w.heap.size w w5 := (below_alloc HB4.out _).trans (grown_below hgrow (by simp; omega) (fun q hq => by have := (HO4.out.lt q hq).1; omega))
                have HO5 : Hid (w5.ownsRow w1.heap.size 32 2 v' (k + 1) (jcells ((ws.map jY).take (k + 1)))) := by
                  rw [HROW.out]; exact Lib.hid hown'
                have hs5 : w4.heap.size + 1 ≤ w5.heap.size := by have := hgrow.size; simpa using this
                have HC5 : Hid (∀ j, k + 1 ≤ j → j < ws.length → w5.cell? ⟨g, j, none⟩ = some (.string ⟨(ws[j]?.getD []).toArray⟩) ∧ w5.frozen? ⟨g, j, none⟩ = false) := Lib.hid (fun j h1 h2 => by
                  have hb7 : Below w1.heap.size w4 w5 := ((Below.refl _ w4).alloc (by omega) (.cells #[.int .i64 X, .bool true] 32)).trans (grown_below hgrow (by simp; omega) (fun q hq => (HO4.out.lt q hq).1))
                  exact ⟨(hb7.cell (p := ⟨g, j, none⟩) hgl).trans (HC4.out j h1 h2).1, (hb7.frozen (p := ⟨g, j, none⟩) hgl).trans (HC4.out j h1 h2).2⟩)
                clear hown' hgrow HO4 HB4 HC4
                go_wp2
                go_roundw
                case rel => exact ⟨k + 1, by omega, by first | rfl | go_num, HO5, HC5, HK2, by omega, hb6⟩
                case measure => simp [intOf]; omega
              · have hok : (numR y).2 = false := by simpa using hok
                have HK2 := Lib.hid (HOKN.out hok)
                rw [hok] at C2
                generalize (numR y).1 = X at *
                have hE2 : rpE b = 2 := by rw [HE.out, HK2.out]; rfl
                have hV2 : rpV b = [] := by rw [HV.out, HK2.out]; rfl
                have HE2 := Lib.hid hE2
                have HV2 := Lib.hid hV2
                clear hok HOKY HOKN HE HV HK2 HO HROW hE2 hV2
                go_wp2_with fail
                go_big_region
                skip
                go_wp2_with fail
                refine (C2.out _).mono ?_
                rintro e w4 ⟨rfl, hb4⟩
                go_wp2
                go_ret2
                exact ⟨⟨.slice none 0 0, by rw [HE2.out] <;> rfl, by rw [HV2.out]; exact World.ownsRow_nil _ _ _ _⟩, (by repeat (first | exact Below.refl _ _ | assumption | refine Below.setCell ?_ (by first | (simp; done) | (simp; omega) | omega) _ | refine Below.drew ?_ | refine below_drewN ?_ _ | refine Below.alloc ?_ (by first | (simp; done) | (simp; omega) | omega) _ | refine below_alloc ?_ _ | refine below_step ?_ (by assumption)))⟩
            · rw [List.concat_eq_append] at hy
              have hyz : (⟨y.toArray⟩ : ByteArray).size = z.length + 1 := by rw [hy]; simp [ByteArray.size]
              have hgl2 : ∀ h2 : z.length < (⟨y.toArray⟩ : ByteArray).size, (⟨y.toArray⟩ : ByteArray)[z.length]'h2 = c := by
                subst hy
                intro h2
                rw [str_get (by simp)]
                simp
              have hz0 : (((z.length : Int) + 1) == 0) = false := by rw [beq_eq_false_iff_ne]; omega
              have hyl3 : z.length + 1 ≤ b.length := by rw [hy] at hyl2; simpa using hyl2
              by_cases hc : c = 33
              · have hsn : sndW y = false := by rw [hy, sndW_snoc, hc]; rfl
                have hst : stemW y = z := by unfold stemW; rw [hsn, hy]; simp
                have hex : (⟨y.toArray⟩ : ByteArray).extract 0 z.length = ⟨z.toArray⟩ := by rw [str_ext, hy]; simp
                have hcI : (c.toNat : Int) = 33 := by rw [hc]; rfl
                clear hy hc
                have C2 := Lib.hid (fun W => number_any (stemW y) W (by rw [hst]; omega))
                rw [hst] at C2
                have hjY : jY y = ((numR z).1, false) := by unfold jY; rw [hst, hsn]
                have hoY : okY y = (numR z).2 := by unfold okY; rw [hst]
                rw [hjY] at HROW
                rw [hoY] at HOKN HOKY
                clear hjY hoY hsn hst
                by_cases hok : (numR z).2 = true
                · have HK2 := Lib.hid (HOKY.out hok)
                  rw [hok] at C2
                  generalize (numR z).1 = X at *
                  clear hok HOKY HOKN
                  go_wp2_with fail
                  go_big_region
                  go_wp2_with fail
                  go_big_region
                  go_wp2_with fail
                  refine (C2.out _).mono ?_
                  rintro e w4 ⟨rfl, hb4⟩
                  have hw4 : wr.heap.size ≤ w4.heap.size := by have := hb4.size; simpa using this
                  have HB4 : Hid (Below w.heap.size w w4) := Lib.hid (by repeat (first | exact Below.refl _ _ | assumption | refine Below.setCell ?_ (by first | (simp; done) | (simp; omega) | omega) _ | refine Below.drew ?_ | refine below_drewN ?_ _ | refine Below.alloc ?_ (by first | (simp; done) | (simp; omega) | omega) _ | refine below_alloc ?_ _ | refine below_step ?_ (by assumption)))
                  have HO4 := Lib.hid (own_later (ownsRow_setCell_below (w := wr.drew.drew) (a := ⟨g, k, none⟩) HO.out hgl (.string ⟨z.toArray⟩)) hb4)
                  have HC4 := HC2.out w4 (fun j h1 h2 => ⟨(hb4.cell (p := ⟨g, j, none⟩) (by simpa using hgr)).trans (World.cell?_setCell_other _ _ _ _ (by first | (simp; done) | (simp; omega))), (hb4.frozen (p := ⟨g, j, none⟩) (by simpa using hgr)).trans (by simp)⟩)
                  clear hb4 HC2 HO hB hc1 hf1
                  go_wp2_with (at_builtin; go_loud (refine wpList_append_own _ rfl (.tmp 71) (.tmp 75) 22 rfl w1.heap.size 32 i0 (.agg #[.int .i64 0, .bool false]) 2 16 Tryd.underlying22 hI0.out hI1.out hI2.out hI3.out rfl (by decide) _ _ _ rfl (HO4.out.alloc _) ⟨w4.heap.size, 0, none⟩ 1 1 [.int .i64 X, .bool false] rfl rfl (by intro j u hj; exact jnews2 w4 _ _ 32 j u hj) (by intro u hu; simp at hu; rcases hu with rfl | rfl <;> rfl) (by unfold maxLen; omega) (by omega) (by simp; omega) ?_))
                  intro v' w5 hown' hgrow _
                  have hb6 : Below w.heap.size w w5 := (below_alloc HB4.out _).trans (grown_below hgrow (by simp; omega) (fun q hq => by have := (HO4.out.lt q hq).1; omega))
                  have HO5 : Hid (w5.ownsRow w1.heap.size 32 2 v' (k + 1) (jcells ((ws.map jY).take (k + 1)))) := by
                    rw [HROW.out]; exact Lib.hid hown'
                  have hs5 : w4.heap.size + 1 ≤ w5.heap.size := by have := hgrow.size; simpa using this
                  have HC5 : Hid (∀ j, k + 1 ≤ j → j < ws.length → w5.cell? ⟨g, j, none⟩ = some (.string ⟨(ws[j]?.getD []).toArray⟩) ∧ w5.frozen? ⟨g, j, none⟩ = false) := Lib.hid (fun j h1 h2 => by
                    have hb7 : Below w1.heap.size w4 w5 := ((Below.refl _ w4).alloc (by omega) (.cells #[.int .i64 X, .bool false] 32)).trans (grown_below hgrow (by simp; omega) (fun q hq => (HO4.out.lt q hq).1))
                    exact ⟨(hb7.cell (p := ⟨g, j, none⟩) hgl).trans (HC4.out j h1 h2).1, (hb7.frozen (p := ⟨g, j, none⟩) hgl).trans (HC4.out j h1 h2).2⟩)
                  clear hown' hgrow HO4 HB4 HC4
                  go_wp2
                  go_roundw
                  case rel => exact ⟨k + 1, by omega, by first | rfl | go_num, HO5, HC5, HK2, by omega, hb6⟩
                  case measure => simp [intOf]; omega
                · have hok : (numR z).2 = false := by simpa using hok
                  have HK2 := Lib.hid (HOKN.out hok)
                  rw [hok] at C2
                  generalize (numR z).1 = X at *
                  have hE2 : rpE b = 2 := by rw [HE.out, HK2.out]; rfl
                  have hV2 : rpV b = [] := by rw [HV.out, HK2.out]; rfl
                  have HE2 := Lib.hid hE2
                  have HV2 := Lib.hid hV2
                  clear hok HOKY HOKN HE HV HK2 HO HROW hE2 hV2
                  go_wp2_with fail
                  go_big_region
                  go_wp2_with fail
                  go_big_region
                  go_wp2_with fail
                  refine (C2.out _).mono ?_
                  rintro e w4 ⟨rfl, hb4⟩
                  go_wp2
                  go_ret2
                  exact ⟨⟨.slice none 0 0, by rw [HE2.out] <;> rfl, by rw [HV2.out]; exact World.ownsRow_nil _ _ _ _⟩, (by repeat (first | exact Below.refl _ _ | assumption | refine Below.setCell ?_ (by first | (simp; done) | (simp; omega) | omega) _ | refine Below.drew ?_ | refine below_drewN ?_ _ | refine Below.alloc ?_ (by first | (simp; done) | (simp; omega) | omega) _ | refine below_alloc ?_ _ | refine below_step ?_ (by assumption)))⟩
              · have hsn : sndW y = true := by rw [hy, sndW_snoc]; simp [hc]
                have hst : stemW y = y := by unfold stemW; rw [hsn]; rfl
                have hcI : ¬ (c.toNat : Int) = 33 := fun h => hc (UInt8.toNat_inj.1 (by show c.toNat = 33; omega))
                have hcB1 : ((c.toNat : Int) == 33) = false := by rw [beq_eq_false_iff_ne]; exact hcI
                have hcB2 : ((c.toNat : Int) != 33) = true := by rw [bne_iff_ne]; exact hcI
                clear hy hc
                have C2 := Lib.hid (fun W => number_any (stemW y) W (by rw [hst]; omega))
                rw [hst] at C2
                have hjY : jY y = ((numR y).1, true) := by unfold jY; rw [hst, hsn]
                have hoY : okY y = (numR y).2 := by unfold okY; rw [hst]
                rw [hjY] at HROW
                rw [hoY] at HOKN HOKY
                clear hjY hoY hsn hst
                by_cases hok : (numR y).2 = true
                · have HK2 := Lib.hid (HOKY.out hok)
                  rw [hok] at C2
                  generalize (numR y).1 = X at *
                  clear hok HOKY HOKN
                  go_wp2_with fail
                  go_big_region
                  skip
                  go_wp2_with fail
                  refine (C2.out _).mono ?_
                  rintro e w4 ⟨rfl, hb4⟩
                  have hw4 : wr.heap.size ≤ w4.heap.size := by have := hb4.size; simpa using this
                  have HB4 : Hid (Below w.heap.size w w4) := Lib.hid (by repeat (first | exact Below.refl _ _ | assumption | refine Below.setCell ?_ (by first | (simp; done) | (simp; omega) | omega) _ | refine Below.drew ?_ | refine below_drewN ?_ _ | refine Below.alloc ?_ (by first | (simp; done) | (simp; omega) | omega) _ | refine below_alloc ?_ _ | refine below_step ?_ (by assumption)))
                  have HO4 := Lib.hid (own_later ((show wr.drew.ownsRow _ _ _ _ _ _ from HO.out)) hb4)
                  have HC4 := HC2.out w4 (fun j h1 h2 => ⟨hb4.cell (p := ⟨g, j, none⟩) hgr, hb4.frozen (p := ⟨g, j, none⟩) hgr⟩)
                  clear hb4 HC2 HO hB hc1 hf1
                  go_wp2_with (at_builtin; go_loud (refine wpList_append_own _ rfl (.tmp 71) (.tmp 75) 22 rfl w1.heap.size 32 i0 (.agg #[.int .i64 0, .bool false]) 2 16 Tryd.underlying22 hI0.out hI1.out hI2.out hI3.out rfl (by decide) _ _ _ rfl (HO4.out.alloc _) ⟨w4.heap.size, 0, none⟩ 1 1 [.int .i64 X, .bool true] rfl rfl (by intro j u hj; exact jnews2 w4 _ _ 32 j u hj) (by intro u hu; simp at hu; rcases hu with rfl | rfl <;> rfl) (by unfold maxLen; omega) (by omega) (by simp; omega) ?_))
                  intro v' w5 hown' hgrow _
                  have hb6 : Below w.heap.size w w5 := (below_alloc HB4.out _).trans (grown_below hgrow (by simp; omega) (fun q hq => by have := (HO4.out.lt q hq).1; omega))
                  have HO5 : Hid (w5.ownsRow w1.heap.size 32 2 v' (k + 1) (jcells ((ws.map jY).take (k + 1)))) := by
                    rw [HROW.out]; exact Lib.hid hown'
                  have hs5 : w4.heap.size + 1 ≤ w5.heap.size := by have := hgrow.size; simpa using this
                  have HC5 : Hid (∀ j, k + 1 ≤ j → j < ws.length → w5.cell? ⟨g, j, none⟩ = some (.string ⟨(ws[j]?.getD []).toArray⟩) ∧ w5.frozen? ⟨g, j, none⟩ = false) := Lib.hid (fun j h1 h2 => by
                    have hb7 : Below w1.heap.size w4 w5 := ((Below.refl _ w4).alloc (by omega) (.cells #[.int .i64 X, .bool true] 32)).trans (grown_below hgrow (by simp; omega) (fun q hq => (HO4.out.lt q hq).1))
                    exact ⟨(hb7.cell (p := ⟨g, j, none⟩) hgl).trans (HC4.out j h1 h2).1, (hb7.frozen (p := ⟨g, j, none⟩) hgl).trans (HC4.out j h1 h2).2⟩)
                  clear hown' hgrow HO4 HB4 HC4
                  go_wp2
                  go_roundw
                  case rel => exact ⟨k + 1, by omega, by first | rfl | go_num, HO5, HC5, HK2, by omega, hb6⟩
                  case measure => simp [intOf]; omega
                · have hok : (numR y).2 = false := by simpa using hok
                  have HK2 := Lib.hid (HOKN.out hok)
                  rw [hok] at C2
                  generalize (numR y).1 = X at *
                  have hE2 : rpE b = 2 := by rw [HE.out, HK2.out]; rfl
                  have hV2 : rpV b = [] := by rw [HV.out, HK2.out]; rfl
                  have HE2 := Lib.hid hE2
                  have HV2 := Lib.hid hV2
                  clear hok HOKY HOKN HE HV HK2 HO HROW hE2 hV2
                  go_wp2_with fail
                  go_big_region
                  skip
                  go_wp2_with fail
                  refine (C2.out _).mono ?_
                  rintro e w4 ⟨rfl, hb4⟩
                  go_wp2
                  go_ret2
                  exact ⟨⟨.slice none 0 0, by rw [HE2.out] <;> rfl, by rw [HV2.out]; exact World.ownsRow_nil _ _ _ _⟩, (by repeat (first | exact Below.refl _ _ | assumption | refine Below.setCell ?_ (by first | (simp; done) | (simp; omega) | omega) _ | refine Below.drew ?_ | refine below_drewN ?_ _ | refine Below.alloc ?_ (by first | (simp; done) | (simp; omega) | omega) _ | refine below_alloc ?_ _ | refine below_step ?_ (by assumption)))⟩
          · have hkl : k = ws.length := by omega
            subst hkl
            have hk9 : ¬ ((ws.length : Nat) : Int) < ws.length := by omega
            have ht1 : (ws.map jY).take ws.length = ws.map jY := List.take_of_length_le (by simp)
            have ht2 : ws.take ws.length = ws := List.take_length
            rw [ht2] at HOK
            rw [ht1] at HO
            have hEE : rpE b = if vJ (ws.map jY) then 0 else 2 := by rw [HE.out, HOK.out, Bool.true_and]
            have hVV : rpV b = if vJ (ws.map jY) then ws.map jY else [] := by rw [HV.out, HOK.out, Bool.true_and]
            have hml : (ws.map jY).length = ws.length := List.length_map ..
            have HEE := Lib.hid hEE
            have HVV := Lib.hid hVV
            clear hEE hVV HE HV HC HOK ht1 ht2
            generalize ws.map jY = L at *
            obtain ⟨A1, c1, rfl, hm1, hm2, hR, -⟩ := own_joints HO.out
            have hkm : ws.length ≤ 9223372036854775807 := by unfold maxLen at hm2; omega
            clear hm2 hm1
            have C3 := Lib.hid (rVJoints_any A1 ws.length c1 L wr hkm hR)
            clear hR
            go_wp2_with fail
            refine C3.out.mono ?_
            rintro e w4 ⟨rfl, hb4⟩
            have hbw : w.heap.size ≤ w1.heap.size := hb1s
            have HO4 := Lib.hid (own_mono (own_later HO.out hb4) hbw)
            have HB4 := Lib.hid (below_step hB hb4)
            clear hb4 HO C3 hB
            cases hvj : vJ L
            · have HV5 : Hid (rpV b = []) := Lib.hid (by rw [HVV.out, hvj]; rfl)
              have HE5 : Hid (rpE b = 2) := Lib.hid (by rw [HEE.out, hvj]; rfl)
              clear HVV HEE
              go_wp2
              go_ret2
              exact ⟨⟨.slice none 0 0, by rw [HE5.out] <;> rfl, by rw [HV5.out]; exact World.ownsRow_nil _ _ _ _⟩, HB4.out⟩
            · have HV5 : Hid (rpV b = L) := Lib.hid (by rw [HVV.out, hvj]; rfl)
              have HE5 : Hid (rpE b = 0) := Lib.hid (by rw [HEE.out, hvj]; rfl)
              clear HVV HEE
              go_wp2
              go_ret2
              exact ⟨⟨.slice A1 ws.length c1, by rw [HE5.out] <;> rfl, by rw [HV5.out, hml]; exact HO4.out⟩, HB4.out⟩
end Go.Proofs.YtjgibipficojaaaDoor
