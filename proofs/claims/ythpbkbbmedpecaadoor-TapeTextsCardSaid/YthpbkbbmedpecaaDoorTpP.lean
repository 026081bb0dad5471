/- TapeTexts: the program's Parse. -/
import Derived.Test.YthpbkbbmedpecaaDoorTpC
import Derived.Test.YthpbkbbmedpecaaDoorTxtS
set_option linter.unusedSimpArgs false
set_option linter.unusedVariables false
namespace Go.Proofs.YthpbkbbmedpecaaDoor
open Go.RowKit
attribute [local go_sem] Later.cell Same.cell

section
variable {P : Program} {w : World} {t k e : TypeId} {r : Nat} {es : Array MapEntry} {c : Nat} {s : ByteArray} {ops : Array Oper} {rest : List Oper} {o : Oper} {a : Act} {Q : Exit → Act → World → Prop}
theorem wpList_put (hg : o.guard = none) (m x v : Operand) (hop : o.op = Op.insert t m x v) (ht : P.underlying t = some (.map k e)) (hk : P.underlying k = some .string) (hm : a.eval m = .map (some r)) (hx : a.eval x = .string s)
    (ho : w.heap[r]? = some (.map es c)) (hf : Instr.findNow .string (.string s) es.toList 0 = some none)
    (hK : ∀ w', w'.heap[r]? = some (.map (es.push { key := .string s, val := a.eval v, born := c }) (c + 1)) → w.grownBy w' (some r) → w'.heap.size = w.heap.size → wpList P ops Q rest (a.put o.dst undef) w') :
    wpList P ops Q (o :: rest) a w := by
  refine wpList_plain hg fun K' hK' => ?_
  have hrun := run_put_new (P := P) (w := w) (v := a.eval v) ht hk ho hf
  have hlt : r < w.heap.size := (Array.getElem?_eq_some_iff.1 ho).1
  unfold Oper.wp
  simp [execOp, hop, hm, hx, hrun, Result.andThen]
  refine hK' _ _ (hK _ ?_ ⟨rfl, rfl, rfl, by simp, fun k _ hne => ?_⟩ (by simp))
  · simp [hlt]
  · show (w.heap.setIfInBounds r _)[k]? = _
    rw [Array.getElem?_setIfInBounds_ne (fun e => hne (by rw [e]))]
end
/-- What lies in the walk's blocks: the nodes, the tapes, the readers. -/
def TpAt (w wr : World) (N : Int) (L : List Tp) (A0 : Option Addr) (cap0 : Nat) : Prop :=
  (wr.cell? ⟨w.heap.size, 0, none⟩ = some (.int .i64 N) ∧ wr.frozen? ⟨w.heap.size, 0, none⟩ = false) ∧ (wr.cell? ⟨w.heap.size + 1, 0, none⟩ = some (.slice A0 L.length cap0) ∧ wr.frozen? ⟨w.heap.size + 1, 0, none⟩ = false) ∧
  wr.heap[w.heap.size + 2]? = some (.map (readES w.heap.size (w.heap.size + 1)) 2) ∧ wr.ownsRow (w.heap.size + 3) 34 3 (.slice A0 L.length cap0) L.length (tcells L) ∧ Below w.heap.size w wr ∧ w.heap.size + 3 ≤ wr.heap.size
theorem TpAt.later {w wr w' : World} {N : Int} {L : List Tp} {A0 : Option Addr} {cap0 : Nat} (h : TpAt w wr N L A0 cap0) (hb : Below wr.heap.size wr w') : TpAt w w' N L A0 cap0 := by
  obtain ⟨⟨h1, h2⟩, ⟨h3, h4⟩, h5, h6, h7, h8⟩ := h
  have hs := hb.size
  exact ⟨⟨(hb.cell (p := ⟨_, _, none⟩) (by show w.heap.size < _; omega)).trans h1, (hb.frozen (p := ⟨_, _, none⟩) (by show w.heap.size < _; omega)).trans h2⟩,
    ⟨(hb.cell (p := ⟨_, _, none⟩) (by show w.heap.size + 1 < _; omega)).trans h3, (hb.frozen (p := ⟨_, _, none⟩) (by show w.heap.size + 1 < _; omega)).trans h4⟩,
    (hb.block _ (by omega)).trans h5, xown_later h6 hb, below_step h7 hb, by omega⟩
theorem TpAt.node {w wr : World} {N x : Int} {L : List Tp} {A0 : Option Addr} {cap0 : Nat} (h : TpAt w wr N L A0 cap0) : TpAt w (wr.setCell ⟨w.heap.size, 0, none⟩ (.int .i64 x)) x L A0 cap0 := by
  obtain ⟨⟨h1, h2⟩, ⟨h3, h4⟩, h5, h6, h7, h8⟩ := h
  refine ⟨⟨World.cell?_setCell_same _ _ _ h1, by simpa using h2⟩, ⟨(World.cell?_setCell_other _ _ _ _ (by simp)).trans h3, by simpa using h4⟩, (Below.heap_setCell _ _ _ _ (by simp)).trans h5, ?_, h7.setCell (Nat.le_refl _) _, by simpa using h8⟩
  exact ownsRow_setCell_below (a := ⟨w.heap.size, 0, none⟩) h6 (by simp) _
theorem TpAt.tape {w wr w' : World} {N : Int} {L L' : List Tp} {A0 A5 : Option Addr} {cap0 cap5 : Nat} (h : TpAt w wr N L A0 cap0) (hl : L'.length = L.length + 1) (h1 : w'.cell? ⟨w.heap.size + 1, 0, none⟩ = some (.slice A5 (L.length + 1) cap5)) (h2 : w'.frozen? ⟨w.heap.size + 1, 0, none⟩ = false)
    (h3 : w'.ownsRow (w.heap.size + 3) 34 3 (.slice A5 (L.length + 1) cap5) (L.length + 1) (tcells L')) (h4 : wr.heap.size ≤ w'.heap.size) (h5 : ∀ j, j < w.heap.size + 3 → j ≠ w.heap.size + 1 → w'.heap[j]? = wr.heap[j]?) (h6 : Below (w.heap.size + 1) wr w') :
    TpAt w w' N L' A5 cap5 := by
  obtain ⟨⟨g1, g2⟩, -, g5, -, g7, g8⟩ := h
  refine ⟨⟨(h6.cell (p := ⟨_, _, none⟩) (by show w.heap.size < _; omega)).trans g1, (h6.frozen (p := ⟨_, _, none⟩) (by show w.heap.size < _; omega)).trans g2⟩, ⟨by rw [hl]; exact h1, h2⟩, (h5 _ (by omega) (by omega)).trans g5, by rw [hl]; exact h3, g7.trans (h6.mono (by omega)), by omega⟩
theorem take_map_succ {T : List (List UInt8)} {j : Nat} (h : j < T.length) : (T.take (j + 1)).map atoiV = (T.take j).map atoiV ++ [atoiV (T[j]?.getD [])] := by
  rw [List.take_succ_eq_append_getElem h, List.map_append, List.getElem?_eq_getElem h]
  rfl
/-- The first j numbers. -/
def atoisK (T : List (List UInt8)) (j : Nat) : List Int := (T.take j).map atoiV
theorem atoisK_succ {T : List (List UInt8)} {j : Nat} (h : j < T.length) : atoisK T (j + 1) = atoisK T j ++ [atoiV (T[j]?.getD [])] := take_map_succ h
theorem atoisK_all (T : List (List UInt8)) : atoisK T T.length = T.map atoiV := by unfold atoisK; rw [List.take_length]
theorem progT_no {k : Nat} {st : St} {y : List UInt8} (h : wordsT (hdW y) ((tlW y).map atoiV) ≠ y) : progT k st y = none := by
  unfold progT atoisV
  rw [if_neg h]
theorem progT_is {k : Nat} {st : St} {y : List UInt8} (h : wordsT (hdW y) ((tlW y).map atoiV) = y) : progT k st y = okS (nextT k st (hdW y) ((tlW y).map atoiV)) := by
  unfold progT atoisV
  rw [if_pos h]
theorem progT_hd {k : Nat} {st : St} {y : List UInt8} (h : ¬ (k = 0 ∧ hdW y = nodesW ∧ ((tlW y).map atoiV).length = 1) ∧ ¬ (k ≠ 0 ∧ hdW y = tapeW ∧ ((tlW y).map atoiV).length = 3)) : progT k st y = none := by
  by_cases hw : wordsT (hdW y) ((tlW y).map atoiV) = y
  · rw [progT_is hw, next_hd h]
  · exact progT_no hw
theorem made3 (w : World) (x y : Value) (t s : TypeId) (Wm : World) (h : ((w.alloc (.cells #[x] t)).alloc (.cells #[y] s)).alloc (.map #[] 0) = Wm) :
    Wm.heap.size = w.heap.size + 3 ∧ Wm.heap[w.heap.size + 2]? = some (.map #[] 0) ∧ (Wm.cell? ⟨w.heap.size, 0, none⟩ = some x ∧ Wm.frozen? ⟨w.heap.size, 0, none⟩ = false) ∧ (Wm.cell? ⟨w.heap.size + 1, 0, none⟩ = some y ∧ Wm.frozen? ⟨w.heap.size + 1, 0, none⟩ = false) ∧ Below w.heap.size w Wm := by
  have e : Wm.heap = ((w.heap.push (.cells #[x] t)).push (.cells #[y] s)).push (.map #[] 0) := by rw [← h]; rfl
  have h0 : Wm.heap[w.heap.size]? = some (.cells #[x] t) := by rw [e, Array.getElem?_push, if_neg (by simp; omega), Array.getElem?_push, if_neg (by simp), Array.getElem?_push, if_pos rfl]
  have h1 : Wm.heap[w.heap.size + 1]? = some (.cells #[y] s) := by rw [e, Array.getElem?_push, if_neg (by simp), Array.getElem?_push, if_pos (by simp)]
  have h2 : Wm.heap[w.heap.size + 2]? = some (.map #[] 0) := by rw [e, Array.getElem?_push, if_pos (by simp)]
  refine ⟨by rw [e]; simp, h2, ⟨by simp [World.cell?, h0], by simp [World.frozen?, h0]⟩, ⟨by simp [World.cell?, h1], by simp [World.frozen?, h1]⟩, ?_⟩
  rw [← h]
  exact below_alloc (below_alloc (below_alloc (Below.refl _ _) _) _) _
/-- The answer. -/
def TpV (b : List UInt8) (w w' : World) (e : Ending) : Prop := (∃ v, e = .returned (.tuple #[.int .i64 (rpT b).1, v, .int .i64 (rpT b).2.2.1, .int .i64 (rpT b).2.2.2]) ∧ w'.ownsRow w.heap.size 34 3 v (rpT b).2.1.length (tcells (rpT b).2.1)) ∧ Below w.heap.size w w'
theorem TpV.bad {b : List UInt8} {w w' : World} {l : Nat} {c : Int} (h : rpT b = (0, [], l, c)) (hb : Below w.heap.size w w') : TpV b w w' (.returned (.tuple #[.int .i64 0, .slice none 0 0, .int .i64 l, .int .i64 c])) :=
  ⟨⟨.slice none 0 0, by rw [h], by rw [h]; exact World.ownsRow_nil _ _ _ _⟩, hb⟩
set_option maxRecDepth 20000 in
set_option maxHeartbeats 16000000 in
theorem Parse_any' (b : List UInt8) (w : World) (htab : TabA w) (hb47 : b.length ≤ 9223372036854775807) :
    Calls Tryd.prog 6 #[.string ⟨b.toArray⟩] w fun e w' => TpV b w w' e := by
  have hsz : (⟨b.toArray⟩ : ByteArray).size = b.length := rfl
  by_cases h1 : 65536 < b.length
  · have HBd : Hid (rpT b = (0, [], 0, 3)) := Lib.hid (by unfold rpT; rw [if_pos h1])
    have h1' : (65536 : Int) < b.length := by omega
    go_enter Tryd.func6, Tryd.ntmps6
    go_wp2
    (try simp only [Exit.inBlock, Exit.then])
    refine bodyPost_ret (v := .tuple #[.int .i64 0, .slice none 0 0, .int .i64 0, .int .i64 3]) (by simp [results, Tryd.results6, go_sem]) rfl ?_
    exact TpV.bad (l := 0) HBd.out (by repeat (first | exact Below.refl _ _ | assumption | refine Below.setCell ?_ (by first | (simp; done) | (simp; omega) | omega) _ | refine Below.drew ?_ | refine below_drewN ?_ _ | refine Below.alloc ?_ (by first | (simp; done) | (simp; omega) | omega) _ | refine below_alloc ?_ _ | refine below_step ?_ (by assumption)))
  · have h1' : decide ((65536 : Int) < b.length) = false := decide_eq_false (by omega)
    have hbl : b.length ≤ 65536 := by omega
    have HST : Hid (rpT b = runT (words 10 b) (0, []) 0) := Lib.hid (by unfold rpT; rw [if_neg h1])
    obtain ⟨i0, hi, hz0, hz1, hz2⟩ := info_parts xinfo_int
    have hI0 := Lib.hid hi
    have hI1 := Lib.hid hz0
    have hI2 := Lib.hid hz1
    have hI3 := Lib.hid hz2
    have HT := Lib.hid htab
    clear hi hz0 hz1 hz2 htab h1
    have hmk := @run_makeMap Tryd.prog
    have HM := Lib.hid (made3 w (.int .i64 0) (.slice none 0 0) 3 22 _ rfl)
    go_enter Tryd.func6, Tryd.ntmps6
    go_wp2_with (first
      | (refine wpList_put rfl (.tmp 22) (.const (.string ⟨#[110, 111, 100, 101, 115]⟩)) (.tmp 24) rfl Tryd.underlying45 Tryd.underlying9 rfl rfl HM.out.2.1 rfl ?_; intro Wn hn1 hn2 hn3)
      | (refine wpList_put rfl (.tmp 22) (.const (.string ⟨#[116, 97, 112, 101]⟩)) (.tmp 26) rfl Tryd.underlying45 Tryd.underlying9 rfl rfl hn1 rfl ?_; intro Wo ho1 ho2 ho3))
    obtain ⟨hms, -, ⟨hm2, hm2f⟩, ⟨hm3, hm3f⟩, hmB⟩ := HM.out
    have HA0 : Hid (TpAt w Wo 0 [] none 0) := Lib.hid ⟨⟨ho2.cell (hn2.cell hm2 (by first | (simp; done) | (simp; omega))) (by first | (simp; done) | (simp; omega)), by
        have := ho2.block w.heap.size (by omega) (by first | (simp; done) | (simp; omega))
        have := hn2.block w.heap.size (by omega) (by first | (simp; done) | (simp; omega))
        unfold World.frozen? at *
        simp_all⟩, ⟨ho2.cell (hn2.cell hm3 (by first | (simp; done) | (simp; omega))) (by first | (simp; done) | (simp; omega)), by
        have := ho2.block (w.heap.size + 1) (by omega) (by simp)
        have := hn2.block (w.heap.size + 1) (by omega) (by simp)
        unfold World.frozen? at *
        simp_all⟩, ho1, World.ownsRow_nil _ _ _ _, (hmB.grown hn2 (by omega) (fun k hk => by cases hk; omega)).grown ho2 (by omega) (fun k hk => by cases hk; omega), by omega⟩
    clear hmk HM hn1 hn2 hn3 ho1 ho2 ho3 hms hm2 hm2f hm3 hm3f hmB
    go_wp2
    go_loopw [0, 7] (fun s i wr => ∃ (S : List UInt8) (k : Nat) (N : Int) (L : List Tp) (A0 : Option Addr) (cap0 : Nat), S.length ≤ 65536 ∧ k ≤ 11 ∧ L.length ≤ 10 ∧ s = .string ⟨S.toArray⟩ ∧ i = .int .i64 (k : Int) ∧ Hid (L.length = k - 1) ∧ Hid (TpAt w wr N L A0 cap0) ∧ Hid (rpT b = runT (words 10 S) (N, L) k)) (fun _ i _ => 12 - (intOf i).toNat)
    case atStart => exact ⟨b, 0, 0, [], none, 0, hbl, by omega, by simp, rfl, rfl, Lib.hid rfl, HA0, HST⟩
    case round =>
      obtain ⟨S, k, N, L, A0, cap0, hSl, hk11, hL10, rfl, rfl, HL, HA, HR⟩ := hrel
      clear HA0 HST hsz hbl h1' hb47
      have hbs : w.heap.size + 3 ≤ wr.heap.size := HA.out.2.2.2.2.2
      have HB := Lib.hid HA.out.2.2.2.2.1
      by_cases hex : k ≠ 0 ∧ S = []
      · obtain ⟨hk0, rfl⟩ := hex
        have HBd : Hid (rpT b = (N, L, 0, 0)) := Lib.hid (HR.out.trans (runT_nil _ hk0))
        have hk5 : ((k : Int) == 0) = false := beq_eq_false_iff_ne.2 (by omega)
        have hk6 : ¬ (k : Int) = 0 := by omega
        obtain ⟨⟨c1, c2⟩, ⟨c3, c4⟩, -, -, -, -⟩ := HA.out
        clear HR HL hk0
        go_wp2
        all_goals
          go_region
          all_goals
            go_wp2
            (try simp only [Exit.inBlock, Exit.then])
            refine bodyPost_ret (v := .tuple #[.int .i64 N, .slice A0 L.length cap0, .int .i64 0, .int .i64 0]) (by simp [results, Tryd.results6, go_sem, c1, c3]) rfl ?_
            refine ⟨⟨.slice A0 L.length cap0, by rw [HBd.out] <;> rfl, ?_⟩, (by repeat (first | exact Below.refl _ _ | exact HB.out | exact HB5.out | exact HB6.out | exact HB8.out | assumption | refine Below.setCell ?_ (by first | (simp; done) | (simp; omega) | omega) _ | refine Below.drew ?_ | refine below_drewN ?_ _ | refine below_alloc ?_ _))⟩
            rw [HBd.out]
            refine xown_mono (base := w.heap.size + 3) ?_ (by omega)
            repeat (first | exact HA.out.2.2.2.1 | (refine ownsRow_setCell_below ?_ (by first | (simp; done) | (simp; omega) | omega) _) | exact (show wr.ownsRow _ _ _ _ _ _ from HA.out.2.2.2.1))
      · have hex2 : k = 0 ∨ S ≠ [] := by
          rcases Nat.eq_zero_or_pos k with h | h
          · exact .inl h
          · exact .inr (fun e => hex ⟨by omega, e⟩)
        have HEnd : Hid ((10 : UInt8) ∉ S → rpT b = (0, [], k, 2)) := Lib.hid (fun h => by rw [HR.out]; exact runT_end _ k h hex2)
        have HIn : Hid ((10 : UInt8) ∈ S → rpT b = match progT k (N, L) (cutM 10 S).1 with | none => (0, [], k, 2) | some st' => runT (words 10 (cutM 10 S).2.1) st' (k + 1)) := Lib.hid (fun h => by rw [HR.out]; exact runT_cut h)
        clear HR hex
        have HEX := Lib.hid hex2
        clear hex2
        have c1 := fun W (h : TabA W) => cut_any S 10 W h (by omega)
        have hfl := cutM_flag 10 S
        have hcl := cutM_len 10 S
        obtain ⟨hcl1, hcl2, -⟩ := hcl
        generalize cutM 10 S = CM at *
        obtain ⟨Y, R, en⟩ := CM
        dsimp only at *
        subst hfl
        have c2 := fun W (h : TabA W) => split_any Y 32 W h (by omega)
        have hyw : (words 32 Y).length ≤ 65537 := by have := wordsA_len 32 Y []; show (wordsA 32 [] Y).length ≤ _; omega
        have hwl : ∀ y ∈ words 32 Y, y.length ≤ 4294967280 := fun y hy => by have := wordsA_mem_len 32 Y [] y hy; simp at this; omega
        have HPN : Hid (∀ k st, wordsT (hdW Y) ((tlW Y).map atoiV) ≠ Y → progT k st Y = none) := Lib.hid (fun k st h => progT_no h)
        have HPI : Hid (∀ k st, wordsT (hdW Y) ((tlW Y).map atoiV) = Y → progT k st Y = okS (nextT k st (hdW Y) ((tlW Y).map atoiV))) := Lib.hid (fun k st h => progT_is h)
        have HPH : Hid (∀ k st, ¬ (k = 0 ∧ hdW Y = nodesW ∧ ((tlW Y).map atoiV).length = 1) ∧ ¬ (k ≠ 0 ∧ hdW Y = tapeW ∧ ((tlW Y).map atoiV).length = 3) → progT k st Y = none) := Lib.hid (fun k st h => progT_hd h)
        have hhl : (hdW Y).length ≤ 1000000 := by
          have := wordsA_mem_len 32 Y [] (hdW Y) (by show hdW Y ∈ words 32 Y; rw [hd_tl Y]; exact List.mem_cons_self ..)
          simp at this; omega
        rw [hd_tl Y] at c2 hyw hwl
        generalize hdW Y = hd at *
        generalize tlW Y = T at *
        simp only [List.length_cons] at hyw
        have HWL := Lib.hid (fun j (hj : j < T.length) => hwl (T[j]?.getD []) (by rw [List.getElem?_eq_getElem hj]; exact List.mem_cons_of_mem _ (List.getElem_mem hj)))
        have hR65 : R.length ≤ 65536 := by omega
        have HPok : Hid (decide ((10 : UInt8) ∈ S) = true → (10 : UInt8) ∈ S) := Lib.hid (fun h => of_decide_eq_true h)
        have HPno : Hid (decide ((10 : UInt8) ∈ S) = false → (10 : UInt8) ∉ S) := Lib.hid (fun h => of_decide_eq_false h)
        generalize decide ((10 : UInt8) ∈ S) = en at *
        have C1 := Lib.hid c1
        have C2 := Lib.hid c2
        clear c1 c2 hcl1 hcl2 hwl
        by_cases hk0 : k = 0
        · subst hk0
          go_wp2_with fail
          refine (C1.out _ (HT.out.below HB.out)).mono ?_
          rintro e w1 ⟨rfl, hb1⟩
          have HA1 := Lib.hid (HA.out.later hb1)
          clear hb1 HA HB C1
          go_wp2_with fail
          refine (C2.out _ (HT.out.below HA1.out.2.2.2.2.1)).mono ?_
          rintro e w2 ⟨⟨v2, rfl, ho2⟩, hb2⟩
          obtain ⟨A2, cap2, rfl, hnc2, hcm2, -, hT2, hg2⟩ := own_txts ho2
          simp only [List.length_cons] at hnc2 hT2 hg2
          obtain ⟨g2, rfl, hgb2, hgl2⟩ := hg2 (by omega)
          obtain ⟨c2, rfl⟩ : ∃ c2, cap2 = c2 + 1 := ⟨cap2 - 1, by omega⟩
          obtain ⟨_, _, he2, _, hw0⟩ := hT2.at_ 0 (by omega)
          cases he2
          simp only [List.getElem?_cons_zero, Option.getD_some, Nat.add_zero] at hw0
          have HT2 := Lib.hid (hT2.tail1 (c := c2) (by omega) hgl2)
          have hs2 := hb2.size
          have HA2 := Lib.hid (HA1.out.later hb2)
          have hs1 : w.heap.size + 3 ≤ w1.heap.size := HA1.out.2.2.2.2.2
          clear ho2 hT2 hb2 C2 hg2 HA1
          generalize hA3 : (if c2 = 0 then (some ⟨g2, 0, none⟩ : Option Addr) else some ⟨g2, 1, none⟩) = A3t at HT2
          simp only [List.length_cons]
          go_wp2
          clear hA3
          go_loopw [12, 47] (fun v i wi => ∃ j : Nat, j ≤ T.length ∧ i = .int .i64 (j : Int) ∧ Hid (wi.ownsRow w2.heap.size 3 1 v j (icells (atoisK T j))) ∧ Below w2.heap.size w2 wi) (fun _ i _ => T.length - (intOf i).toNat)
          case atStart => exact ⟨0, Nat.zero_le _, rfl, Lib.hid (World.ownsRow_nil _ _ _ _), Below.refl _ _⟩
          case round =>
            obtain ⟨j, hj, rfl, HO, hBi⟩ := hrel
            have hsi := hBi.size
            by_cases hjt : j < T.length
            · obtain ⟨bt, offt, rfl, hbt, hct⟩ := (HT2.out.below hBi).at_ j hjt
              have hjt1 : (j : Int) < T.length := by omega
              have hbtl : bt < wr.heap.size := by omega
              have hyl := HWL.out j hjt
              have c3 := fun W (h : TabA W) => atoi_any (T[j]?.getD []) W h (by omega)
              have HS := Lib.hid (atoisK_succ hjt)
              have hv := atoiV_bd (T[j]?.getD [])
              generalize T[j]?.getD [] = D at *
              generalize atoiV D = d at *
              generalize atoiOk D = okD at *
              have C3 := Lib.hid c3
              have HTi : Hid (TabA wr) := Lib.hid (HT.out.below (HA2.out.later hBi).2.2.2.2.1)
              clear c3 hyl
              go_wp2_with fail
              refine (C3.out _ HTi.out).mono ?_
              rintro e w4 ⟨⟨u1, rfl, -⟩, hb4⟩
              have HB4 := Lib.hid (hBi.trans (hb4.mono hsi))
              have HO4 := Lib.hid (xown_later HO.out hb4)
              have hs4 := hb4.size
              clear hb4 HO C3 hct hBi HTi
              go_wp2_with (at_builtin; go_loud (refine wpList_append_own _ rfl (.tmp 56) (.tmp 58) 41 rfl w2.heap.size 3 i0 (.int .i64 0) 1 8 Tryd.underlying41 hI0.out hI1.out hI2.out hI3.out rfl (by decide) _ _ _ rfl (HO4.out.alloc _) ⟨w4.heap.size, 0, none⟩ 1 1 [.int .i64 d] rfl rfl (snews1 _ _ _) (xone1 _) (by unfold maxLen; omega) (by omega) (by simp; omega) ?_))
              intro v' w5 hown' hgrow _
              have hb6 : Below w2.heap.size w2 w5 := (HB4.out.alloc (by omega) _).trans (grown_below hgrow (by simp; omega) (fun q hq => (HO4.out.lt q hq).1))
              have HO5 : Hid (w5.ownsRow w2.heap.size 3 1 v' (j + 1) (icells (atoisK T (j + 1)))) := by
                rw [HS.out, icells_app]; exact Lib.hid hown'
              clear hown' hgrow HO4 HB4 HS
              go_wp2
              go_roundw
              case rel => exact ⟨j + 1, by omega, by first | rfl | go_num, HO5, hb6⟩
              case measure => simp [intOf]; omega
            · have hjl : j = T.length := by omega
              subst hjl
              have hj9 : ¬ ((T.length : Int) < T.length) := by omega
              rw [atoisK_all] at HO
              have hxl : (T.map atoiV).length = T.length := by simp
              have HXB : Hid (∀ x ∈ T.map atoiV, -9223372036854775808 ≤ x ∧ x ≤ 9223372036854775807) := Lib.hid (fun x hx => by
                obtain ⟨y, _, rfl⟩ := List.mem_map.1 hx
                exact atoiV_bd y)
              generalize T.map atoiV = xs at *
              obtain ⟨A5, cap5, rfl, hnc5, hcm5, hI5, hg5⟩ := own_ints HO.out
              have HI5 := Lib.hid hI5
              have HXL := Lib.hid hxl
              have hw5 : wr.cell? ⟨g2, 0, none⟩ = some (.string ⟨hd.toArray⟩) := (hBi.cell (p := ⟨g2, 0, none⟩) hgl2).trans hw0
              have HA5 := Lib.hid (HA2.out.later hBi)
              have hg25 : g2 < wr.heap.size := by omega
              have HGO := Lib.hid (fun x (hx : (Value.slice A0 L.length cap0).ownBlock = some x) => (HA2.out.2.2.2.1.lt x hx).2)
              clear hI5 hxl HO hw0 HA2 HT2 HWL hBi
              obtain ⟨⟨k1, k2⟩, ⟨k3, k4⟩, k5, k6, k7, k8⟩ := HA5.out
              have HB5 := Lib.hid k7
              have HO6 := Lib.hid k6
              have HK5 := Lib.hid k5
              clear k5 k6 k7
              have e1 : ¬ w.heap.size = wr.heap.size := by omega
              have e2 : ¬ wr.heap.size = w.heap.size := by omega
              have e3 : ¬ w.heap.size + 1 = wr.heap.size := by omega
              have e4 : ¬ wr.heap.size = w.heap.size + 1 := by omega
              have e5 : w.heap.size < wr.heap.size := by omega
              have e6 : w.heap.size + 1 < wr.heap.size := by omega
              have e7 : w.heap.size ≤ wr.heap.size := by omega
              have e8 : w.heap.size + 1 ≤ wr.heap.size := by omega
              have e9 : ¬ g2 = wr.heap.size := by omega
              have e10 : ¬ wr.heap.size = g2 := by omega
              by_cases hh1 : hd = nodesW
              · subst hh1
                have hlk := look_node (c := 2) HK5.out
                have hw6 : wr.cell? ⟨g2, 0, none⟩ = some (.string ⟨#[110, 111, 100, 101, 115]⟩) := hw5
                clear hw5 HK5
                unfold readN at hlk
                cases en
                · have HBd : Hid (rpT b = (0, [], 0, 2)) := Lib.hid (HEnd.out (HPno.out rfl))
                  go_wp2
                  (try simp only [Exit.inBlock, Exit.then])
                  refine bodyPost_ret (v := .tuple #[.int .i64 0, .slice none 0 0, .int .i64 (0 : Int), .int .i64 2]) (by simp [results, Tryd.results6, go_sem]; go_simp) rfl ?_
                  exact TpV.bad (l := 0) HBd.out (by repeat (first | exact Below.refl _ _ | exact HB.out | exact HB5.out | exact HB6.out | exact HB8.out | assumption | refine Below.setCell ?_ (by first | (simp; done) | (simp; omega) | omega) _ | refine Below.drew ?_ | refine below_drewN ?_ _ | refine below_alloc ?_ _))
                · have HIn2 := Lib.hid (HIn.out (HPok.out rfl))
                  by_cases hl1 : T.length = 1
                  · · by_cases hwy : wordsT nodesW xs = Y
                      · generalize T.length = tl at *
                        subst hl1
                        have HI2 : Hid (rpT b = match okS (nextT 0 (N, L) nodesW xs) with | none => (0, [], 0, 2) | some st' => runT (words 10 R) st' (0 + 1)) := Lib.hid (by rw [HIn2.out, HPI.out 0 (N, L) hwy])
                        obtain ⟨x, rfl⟩ : ∃ x, xs = [x] := by
                          have := HXL.out
                          match xs, this with
                          | [x], _ => exact ⟨x, rfl⟩
                        obtain ⟨g5, rfl, hgb5, hgl5, -⟩ := hg5 (by omega)
                        have HI3 : Hid (rpT b = match (if vNet x L then some (x, L) else none : Option St) with | none => (0, [], 0, 2) | some st' => runT (words 10 R) st' (0 + 1)) := Lib.hid (by rw [HI2.out, next_node])
                        obtain ⟨bx, ox, hex5, -, hcx⟩ := HI5.out.at_ 0 (by omega)
                        cases hex5
                        simp only [List.getElem?_cons_zero, Option.getD_some, Nat.add_zero] at hcx
                        have CW := Lib.hid (fun (W : World) (h : Tab W) (hi : Ints W W.heap.size (some ⟨g5, 0, none⟩) 1 [x]) => wordsP_any nodesW (some ⟨g5, 0, none⟩) 1 cap5 [x] W h (by omega) (by decide) hi HXB.out)
                        rw [hwy] at CW
                        clear HI2 HIn2 HIn HEnd HPN HPI HPH HPok HPno hwy
                        have HWs : Hid ((wr.alloc (.cells #[.int .i64 1, .func (.func 13) #[] #[.pointer (some ⟨w.heap.size, 0, none⟩)]] 44)).heap.size = wr.heap.size + 1) := Lib.hid (by simp)
                        have HW1 : Hid ((wr.alloc (.cells #[.int .i64 1, .func (.func 13) #[] #[.pointer (some ⟨w.heap.size, 0, none⟩)]] 44)).cell? ⟨wr.heap.size, 1, none⟩ = some (.func (.func 13) #[] #[.pointer (some ⟨w.heap.size, 0, none⟩)])) := Lib.hid (by simp)
                        have HB7 : Hid (Below wr.heap.size wr (wr.alloc (.cells #[.int .i64 1, .func (.func 13) #[] #[.pointer (some ⟨w.heap.size, 0, none⟩)]] 44))) := Lib.hid ((Below.refl _ _).alloc (Nat.le_refl _) _)
                        have HA6 := Lib.hid (HA5.out.later HB7.out)
                        have HI7 := Lib.hid ((HI5.out.below HB7.out).more (B' := (wr.alloc (.cells #[.int .i64 1, .func (.func 13) #[] #[.pointer (some ⟨w.heap.size, 0, none⟩)]] 44)).heap.size) (by simp))
                        go_wp2_with fail
                        refine (CW.out _ (HT.out.below HA6.out.2.2.2.2.1).tab HI7.out).mono ?_
                        rintro e w6 ⟨rfl, hb6⟩
                        have hz6 : wr.heap.size + 1 ≤ w6.heap.size := by have := hb6.size; rw [HWs.out] at this; exact this
                        have HA7 := Lib.hid (HA6.out.later hb6)
                        have hq1 := (hb6.cell (p := ⟨wr.heap.size, 1, none⟩) (by rw [HWs.out]; simp)).trans HW1.out
                        have hqx := (hb6.cell (p := ⟨g5, 0, none⟩) (by rw [HWs.out]; show g5 < _; omega)).trans ((HB7.out.cell (p := ⟨g5, 0, none⟩) hgl5).trans hcx)
                        obtain ⟨⟨m1, m2⟩, ⟨m3, m4⟩, -, -, m7, m8⟩ := HA7.out
                        have HB6 := Lib.hid m7
                        have CN := Lib.hid (pnode_any g5 1 cap5 w.heap.size x N w6 (by omega) hqx m1 m2)
                        have HA8 : Hid (TpAt w (w6.setCell ⟨w.heap.size, 0, none⟩ (.int .i64 x)) x L A0 cap0) := Lib.hid HA7.out.node
                        obtain ⟨A9, cap9, hv9, -, -, hP9⟩ := own_tapes1 HA8.out.2.2.2.1
                        cases hv9
                        have C9 := Lib.hid (Valid_any x A0 L.length cap0 L _ (by omega) hP9)
                        clear hP9 m7 hb6 CW HA7
                        go_wp2_with fail
                        refine CN.out.mono ?_
                        rintro e w7 ⟨rfl, rfl⟩
                        clear CN
                        have hz9 := HA8.out.2.2.2.2.2
                        have HA9 := HA8
                        generalize hW8 : w6.setCell ⟨w.heap.size, 0, none⟩ (.int .i64 x) = W8 at *
                        obtain ⟨⟨p1, p2⟩, ⟨p3, p4⟩, -, -, p7, -⟩ := HA8.out
                        have HB8 := Lib.hid p7
                        clear p7 hW8 m1 m2 m3 m4 hqx hq1
                        by_cases hgd : vNet x L = true
                        · have HN : Hid (rpT b = runT (words 10 R) (x, L) (0 + 1)) := Lib.hid (by rw [HI3.out, if_pos hgd])
                          rw [hgd] at C9
                          have HL2 := Lib.hid (show L.length = (0 + 1) - 1 from HL.out)
                          clear HI3 hgd HL
                          go_wp2_with fail
                          refine C9.out.mono ?_
                          rintro e w9 ⟨rfl, hb9⟩
                          have HAA := Lib.hid (HA9.out.later hb9)
                          have q1 := (hb9.cell (p := ⟨w.heap.size, 0, none⟩) (by show w.heap.size < _; omega)).trans p1
                          clear hb9 C9 HA8 HA9
                          go_wp2
                          go_roundw
                          case rel => exact ⟨R, 0 + 1, x, L, A0, cap0, hR65, by omega, hL10, rfl, by first | rfl | go_num, HL2, HAA, HN⟩
                          case measure => simp [intOf]
                        · have HBd : Hid (rpT b = (0, [], 0, 2)) := Lib.hid (by rw [HI3.out, if_neg hgd])
                          have hgd : vNet x L = false := by simpa using hgd
                          rw [hgd] at C9
                          clear HI3 hgd
                          go_wp2_with fail
                          refine C9.out.mono ?_
                          rintro e w9 ⟨rfl, hb9⟩
                          have HAA := Lib.hid (HA9.out.later hb9)
                          obtain ⟨⟨r1, r2⟩, ⟨r3, r4⟩, -, -, r7, -⟩ := HAA.out
                          have HB8 := Lib.hid r7
                          clear r7 hb9 C9 HA8 HA9 p1 p2 p3 p4
                          go_wp2
                          (try simp only [Exit.inBlock, Exit.then])
                          refine bodyPost_ret (v := .tuple #[.int .i64 0, .slice none 0 0, .int .i64 (0 : Int), .int .i64 2]) (by simp [results, Tryd.results6, go_sem]; go_simp) rfl ?_
                          exact TpV.bad (l := 0) HBd.out (by repeat (first | exact Below.refl _ _ | exact HB.out | exact HB5.out | exact HB6.out | exact HB8.out | assumption | refine Below.setCell ?_ (by first | (simp; done) | (simp; omega) | omega) _ | refine Below.drew ?_ | refine below_drewN ?_ _ | refine below_alloc ?_ _))
                      · generalize T.length = tl at *
                        subst hl1
                        have HBd : Hid (rpT b = (0, [], 0, 2)) := Lib.hid (by rw [HIn2.out, HPN.out 0 (N, L) hwy])
                        have CW := Lib.hid (fun (W : World) (h : Tab W) (hi : Ints W W.heap.size A5 1 xs) => wordsP_any nodesW A5 1 cap5 xs W h (by omega) (by decide) hi HXB.out)
                        obtain ⟨F, hF⟩ : ∃ F, F = wordsT nodesW xs := ⟨_, rfl⟩
                        rw [← hF] at hwy CW
                        have hwb : (F == Y) = false := beq_eq_false_iff_ne.2 hwy
                        clear hF
                        clear HIn2 HIn HEnd HPN HPI HPH HPok HPno
                        have HWs : Hid ((wr.alloc (.cells #[.int .i64 1, .func (.func 13) #[] #[.pointer (some ⟨w.heap.size, 0, none⟩)]] 44)).heap.size = wr.heap.size + 1) := Lib.hid (by simp)
                        have HW1 : Hid ((wr.alloc (.cells #[.int .i64 1, .func (.func 13) #[] #[.pointer (some ⟨w.heap.size, 0, none⟩)]] 44)).cell? ⟨wr.heap.size, 1, none⟩ = some (.func (.func 13) #[] #[.pointer (some ⟨w.heap.size, 0, none⟩)])) := Lib.hid (by simp)
                        have HB7 : Hid (Below wr.heap.size wr (wr.alloc (.cells #[.int .i64 1, .func (.func 13) #[] #[.pointer (some ⟨w.heap.size, 0, none⟩)]] 44))) := Lib.hid ((Below.refl _ _).alloc (Nat.le_refl _) _)
                        have HA6 := Lib.hid (HA5.out.later HB7.out)
                        have HI7 := Lib.hid ((HI5.out.below HB7.out).more (B' := (wr.alloc (.cells #[.int .i64 1, .func (.func 13) #[] #[.pointer (some ⟨w.heap.size, 0, none⟩)]] 44)).heap.size) (by simp))
                        go_wp2_with fail
                        refine (CW.out _ (HT.out.below HA6.out.2.2.2.2.1).tab HI7.out).mono ?_
                        rintro e w6 ⟨rfl, hb6⟩
                        have hz6 : wr.heap.size + 1 ≤ w6.heap.size := by have := hb6.size; rw [HWs.out] at this; exact this
                        have HA7 := Lib.hid (HA6.out.later hb6)
                        obtain ⟨⟨m1, m2⟩, ⟨m3, m4⟩, -, -, m7, m8⟩ := HA7.out
                        have HB6 := Lib.hid m7
                        clear m7 hb6 CW HA7
                        skip
                        go_wp2
                        (try simp only [Exit.inBlock, Exit.then])
                        refine bodyPost_ret (v := .tuple #[.int .i64 0, .slice none 0 0, .int .i64 (0 : Int), .int .i64 2]) (by simp [results, Tryd.results6, go_sem]; go_simp) rfl ?_
                        exact TpV.bad (l := 0) HBd.out (by repeat (first | exact Below.refl _ _ | exact HB.out | exact HB5.out | exact HB6.out | exact HB8.out | assumption | refine Below.setCell ?_ (by first | (simp; done) | (simp; omega) | omega) _ | refine Below.drew ?_ | refine below_drewN ?_ _ | refine below_alloc ?_ _))
                  · have HBd : Hid (rpT b = (0, [], 0, 2)) := Lib.hid (by rw [HIn2.out, HPH.out 0 (N, L) ⟨fun h => hl1 (HXL.out.symm.trans h.2.2), fun h => absurd h.2.1 (by decide)⟩])
                    have hl3 : ¬ (T.length : Int) = 1 := by omega
                    have hl4 : ((T.length : Int) == 1) = false := by rw [beq_eq_false_iff_ne]; exact hl3
                    clear HIn2 HIn HEnd HPN HPI HPH HPok HPno
                    go_wp2
                    (try simp only [Exit.inBlock, Exit.then])
                    refine bodyPost_ret (v := .tuple #[.int .i64 0, .slice none 0 0, .int .i64 (0 : Int), .int .i64 2]) (by simp [results, Tryd.results6, go_sem]; go_simp) rfl ?_
                    exact TpV.bad (l := 0) HBd.out (by repeat (first | exact Below.refl _ _ | exact HB.out | exact HB5.out | exact HB6.out | exact HB8.out | assumption | refine Below.setCell ?_ (by first | (simp; done) | (simp; omega) | omega) _ | refine Below.drew ?_ | refine below_drewN ?_ _ | refine below_alloc ?_ _))
              · by_cases hh2 : hd = tapeW
                · subst hh2
                  have hlk := look_tape (c := 2) HK5.out
                  have hw6 : wr.cell? ⟨g2, 0, none⟩ = some (.string ⟨#[116, 97, 112, 101]⟩) := hw5
                  clear hw5 HK5 hh1
                  unfold readT at hlk
                  cases en
                  · have HBd : Hid (rpT b = (0, [], 0, 2)) := Lib.hid (HEnd.out (HPno.out rfl))
                    go_wp2
                    (try simp only [Exit.inBlock, Exit.then])
                    refine bodyPost_ret (v := .tuple #[.int .i64 0, .slice none 0 0, .int .i64 (0 : Int), .int .i64 2]) (by simp [results, Tryd.results6, go_sem]; go_simp) rfl ?_
                    exact TpV.bad (l := 0) HBd.out (by repeat (first | exact Below.refl _ _ | exact HB.out | exact HB5.out | exact HB6.out | exact HB8.out | assumption | refine Below.setCell ?_ (by first | (simp; done) | (simp; omega) | omega) _ | refine Below.drew ?_ | refine below_drewN ?_ _ | refine below_alloc ?_ _))
                  · have HIn2 := Lib.hid (HIn.out (HPok.out rfl))
                    by_cases hl1 : T.length = 3
                    · · skip
                        have HBd : Hid (rpT b = (0, [], 0, 2)) := Lib.hid (by rw [HIn2.out, HPH.out 0 (N, L) ⟨fun h => absurd h.2.1 (by decide), fun h => h.1 rfl⟩])
                        have hl3 : (T.length : Int) = 3 := by omega
                        have hl4 : ((T.length : Int) == 3) = true := by rw [beq_iff_eq]; exact hl3
                        clear HIn2 HIn HEnd HPN HPI HPH HPok HPno
                        go_wp2
                        (try simp only [Exit.inBlock, Exit.then])
                        refine bodyPost_ret (v := .tuple #[.int .i64 0, .slice none 0 0, .int .i64 (0 : Int), .int .i64 2]) (by simp [results, Tryd.results6, go_sem]; go_simp) rfl ?_
                        exact TpV.bad (l := 0) HBd.out (by repeat (first | exact Below.refl _ _ | exact HB.out | exact HB5.out | exact HB6.out | exact HB8.out | assumption | refine Below.setCell ?_ (by first | (simp; done) | (simp; omega) | omega) _ | refine Below.drew ?_ | refine below_drewN ?_ _ | refine below_alloc ?_ _))
                    · have HBd : Hid (rpT b = (0, [], 0, 2)) := Lib.hid (by rw [HIn2.out, HPH.out 0 (N, L) ⟨fun h => absurd h.2.1 (by decide), fun h => hl1 (HXL.out.symm.trans h.2.2)⟩])
                      have hl3 : ¬ (T.length : Int) = 3 := by omega
                      have hl4 : ((T.length : Int) == 3) = false := by rw [beq_eq_false_iff_ne]; exact hl3
                      clear HIn2 HIn HEnd HPN HPI HPH HPok HPno
                      go_wp2
                      (try simp only [Exit.inBlock, Exit.then])
                      refine bodyPost_ret (v := .tuple #[.int .i64 0, .slice none 0 0, .int .i64 (0 : Int), .int .i64 2]) (by simp [results, Tryd.results6, go_sem]; go_simp) rfl ?_
                      exact TpV.bad (l := 0) HBd.out (by repeat (first | exact Below.refl _ _ | exact HB.out | exact HB5.out | exact HB6.out | exact HB8.out | assumption | refine Below.setCell ?_ (by first | (simp; done) | (simp; omega) | omega) _ | refine Below.drew ?_ | refine below_drewN ?_ _ | refine below_alloc ?_ _))
                · have hlk := look_other (c := 2) HK5.out hh1 hh2
                  have HBd : Hid (rpT b = (0, [], 0, 2)) := Lib.hid (by
                    by_cases hm : (10 : UInt8) ∈ S
                    · rw [HIn.out hm, HPH.out 0 (N, L) ⟨fun h => hh1 h.2.1, fun h => hh2 h.2.1⟩]
                    · exact HEnd.out hm)
                  clear HIn HEnd HPN HPI HPH HPok HPno HK5 hh1 hh2
                  go_wp2
                  (try simp only [Exit.inBlock, Exit.then])
                  refine bodyPost_ret (v := .tuple #[.int .i64 0, .slice none 0 0, .int .i64 (0 : Int), .int .i64 2]) (by simp [results, Tryd.results6, go_sem]; go_simp) rfl ?_
                  exact TpV.bad (l := 0) HBd.out (by repeat (first | exact Below.refl _ _ | exact HB.out | exact HB5.out | exact HB6.out | exact HB8.out | assumption | refine Below.setCell ?_ (by first | (simp; done) | (simp; omega) | omega) _ | refine Below.drew ?_ | refine below_drewN ?_ _ | refine below_alloc ?_ _))
        · have hk5 : ((k : Int) == 0) = false := beq_eq_false_iff_ne.2 (by omega)
          have hk6 : ¬ (k : Int) = 0 := by omega
          have hyi : S.isEmpty = false := by
            have := HEX.out
            cases S with
            | nil => exact absurd rfl (this.resolve_left hk0)
            | cons c r => rfl
          go_wp2_with fail
          refine (C1.out _ (HT.out.below HB.out)).mono ?_
          rintro e w1 ⟨rfl, hb1⟩
          have HA1 := Lib.hid (HA.out.later hb1)
          clear hb1 HA HB C1
          go_wp2_with fail
          refine (C2.out _ (HT.out.below HA1.out.2.2.2.2.1)).mono ?_
          rintro e w2 ⟨⟨v2, rfl, ho2⟩, hb2⟩
          obtain ⟨A2, cap2, rfl, hnc2, hcm2, -, hT2, hg2⟩ := own_txts ho2
          simp only [List.length_cons] at hnc2 hT2 hg2
          obtain ⟨g2, rfl, hgb2, hgl2⟩ := hg2 (by omega)
          obtain ⟨c2, rfl⟩ : ∃ c2, cap2 = c2 + 1 := ⟨cap2 - 1, by omega⟩
          obtain ⟨_, _, he2, _, hw0⟩ := hT2.at_ 0 (by omega)
          cases he2
          simp only [List.getElem?_cons_zero, Option.getD_some, Nat.add_zero] at hw0
          have HT2 := Lib.hid (hT2.tail1 (c := c2) (by omega) hgl2)
          have hs2 := hb2.size
          have HA2 := Lib.hid (HA1.out.later hb2)
          have hs1 : w.heap.size + 3 ≤ w1.heap.size := HA1.out.2.2.2.2.2
          clear ho2 hT2 hb2 C2 hg2 HA1
          generalize hA3 : (if c2 = 0 then (some ⟨g2, 0, none⟩ : Option Addr) else some ⟨g2, 1, none⟩) = A3t at HT2
          simp only [List.length_cons]
          go_wp2
          clear hA3
          go_loopw [12, 47] (fun v i wi => ∃ j : Nat, j ≤ T.length ∧ i = .int .i64 (j : Int) ∧ Hid (wi.ownsRow w2.heap.size 3 1 v j (icells (atoisK T j))) ∧ Below w2.heap.size w2 wi) (fun _ i _ => T.length - (intOf i).toNat)
          case atStart => exact ⟨0, Nat.zero_le _, rfl, Lib.hid (World.ownsRow_nil _ _ _ _), Below.refl _ _⟩
          case round =>
            obtain ⟨j, hj, rfl, HO, hBi⟩ := hrel
            have hsi := hBi.size
            by_cases hjt : j < T.length
            · obtain ⟨bt, offt, rfl, hbt, hct⟩ := (HT2.out.below hBi).at_ j hjt
              have hjt1 : (j : Int) < T.length := by omega
              have hbtl : bt < wr.heap.size := by omega
              have hyl := HWL.out j hjt
              have c3 := fun W (h : TabA W) => atoi_any (T[j]?.getD []) W h (by omega)
              have HS := Lib.hid (atoisK_succ hjt)
              have hv := atoiV_bd (T[j]?.getD [])
              generalize T[j]?.getD [] = D at *
              generalize atoiV D = d at *
              generalize atoiOk D = okD at *
              have C3 := Lib.hid c3
              have HTi : Hid (TabA wr) := Lib.hid (HT.out.below (HA2.out.later hBi).2.2.2.2.1)
              clear c3 hyl
              go_wp2_with fail
              refine (C3.out _ HTi.out).mono ?_
              rintro e w4 ⟨⟨u1, rfl, -⟩, hb4⟩
              have HB4 := Lib.hid (hBi.trans (hb4.mono hsi))
              have HO4 := Lib.hid (xown_later HO.out hb4)
              have hs4 := hb4.size
              clear hb4 HO C3 hct hBi HTi
              go_wp2_with (at_builtin; go_loud (refine wpList_append_own _ rfl (.tmp 56) (.tmp 58) 41 rfl w2.heap.size 3 i0 (.int .i64 0) 1 8 Tryd.underlying41 hI0.out hI1.out hI2.out hI3.out rfl (by decide) _ _ _ rfl (HO4.out.alloc _) ⟨w4.heap.size, 0, none⟩ 1 1 [.int .i64 d] rfl rfl (snews1 _ _ _) (xone1 _) (by unfold maxLen; omega) (by omega) (by simp; omega) ?_))
              intro v' w5 hown' hgrow _
              have hb6 : Below w2.heap.size w2 w5 := (HB4.out.alloc (by omega) _).trans (grown_below hgrow (by simp; omega) (fun q hq => (HO4.out.lt q hq).1))
              have HO5 : Hid (w5.ownsRow w2.heap.size 3 1 v' (j + 1) (icells (atoisK T (j + 1)))) := by
                rw [HS.out, icells_app]; exact Lib.hid hown'
              clear hown' hgrow HO4 HB4 HS
              go_wp2
              go_roundw
              case rel => exact ⟨j + 1, by omega, by first | rfl | go_num, HO5, hb6⟩
              case measure => simp [intOf]; omega
            · have hjl : j = T.length := by omega
              subst hjl
              have hj9 : ¬ ((T.length : Int) < T.length) := by omega
              rw [atoisK_all] at HO
              have hxl : (T.map atoiV).length = T.length := by simp
              have HXB : Hid (∀ x ∈ T.map atoiV, -9223372036854775808 ≤ x ∧ x ≤ 9223372036854775807) := Lib.hid (fun x hx => by
                obtain ⟨y, _, rfl⟩ := List.mem_map.1 hx
                exact atoiV_bd y)
              generalize T.map atoiV = xs at *
              obtain ⟨A5, cap5, rfl, hnc5, hcm5, hI5, hg5⟩ := own_ints HO.out
              have HI5 := Lib.hid hI5
              have HXL := Lib.hid hxl
              have hw5 : wr.cell? ⟨g2, 0, none⟩ = some (.string ⟨hd.toArray⟩) := (hBi.cell (p := ⟨g2, 0, none⟩) hgl2).trans hw0
              have HA5 := Lib.hid (HA2.out.later hBi)
              have hg25 : g2 < wr.heap.size := by omega
              have HGO := Lib.hid (fun x (hx : (Value.slice A0 L.length cap0).ownBlock = some x) => (HA2.out.2.2.2.1.lt x hx).2)
              clear hI5 hxl HO hw0 HA2 HT2 HWL hBi
              obtain ⟨⟨k1, k2⟩, ⟨k3, k4⟩, k5, k6, k7, k8⟩ := HA5.out
              have HB5 := Lib.hid k7
              have HO6 := Lib.hid k6
              have HK5 := Lib.hid k5
              clear k5 k6 k7
              have e1 : ¬ w.heap.size = wr.heap.size := by omega
              have e2 : ¬ wr.heap.size = w.heap.size := by omega
              have e3 : ¬ w.heap.size + 1 = wr.heap.size := by omega
              have e4 : ¬ wr.heap.size = w.heap.size + 1 := by omega
              have e5 : w.heap.size < wr.heap.size := by omega
              have e6 : w.heap.size + 1 < wr.heap.size := by omega
              have e7 : w.heap.size ≤ wr.heap.size := by omega
              have e8 : w.heap.size + 1 ≤ wr.heap.size := by omega
              have e9 : ¬ g2 = wr.heap.size := by omega
              have e10 : ¬ wr.heap.size = g2 := by omega
              by_cases hh1 : hd = nodesW
              · subst hh1
                have hlk := look_node (c := 2) HK5.out
                have hw6 : wr.cell? ⟨g2, 0, none⟩ = some (.string ⟨#[110, 111, 100, 101, 115]⟩) := hw5
                clear hw5 HK5
                unfold readN at hlk
                cases en
                · have HBd : Hid (rpT b = (0, [], k, 2)) := Lib.hid (HEnd.out (HPno.out rfl))
                  go_wp2
                  (try simp only [Exit.inBlock, Exit.then])
                  refine bodyPost_ret (v := .tuple #[.int .i64 0, .slice none 0 0, .int .i64 (k : Int), .int .i64 2]) (by simp [results, Tryd.results6, go_sem]; go_simp) rfl ?_
                  exact TpV.bad (l := k) HBd.out (by repeat (first | exact Below.refl _ _ | exact HB.out | exact HB5.out | exact HB6.out | exact HB8.out | assumption | refine Below.setCell ?_ (by first | (simp; done) | (simp; omega) | omega) _ | refine Below.drew ?_ | refine below_drewN ?_ _ | refine below_alloc ?_ _))
                · have HIn2 := Lib.hid (HIn.out (HPok.out rfl))
                  by_cases hl1 : T.length = 1
                  · · skip
                      have HBd : Hid (rpT b = (0, [], k, 2)) := Lib.hid (by rw [HIn2.out, HPH.out k (N, L) ⟨fun h => hk0 h.1, fun h => absurd h.2.1 (by decide)⟩])
                      have hl3 : (T.length : Int) = 1 := by omega
                      have hl4 : ((T.length : Int) == 1) = true := by rw [beq_iff_eq]; exact hl3
                      clear HIn2 HIn HEnd HPN HPI HPH HPok HPno
                      go_wp2
                      (try simp only [Exit.inBlock, Exit.then])
                      refine bodyPost_ret (v := .tuple #[.int .i64 0, .slice none 0 0, .int .i64 (k : Int), .int .i64 2]) (by simp [results, Tryd.results6, go_sem]; go_simp) rfl ?_
                      exact TpV.bad (l := k) HBd.out (by repeat (first | exact Below.refl _ _ | exact HB.out | exact HB5.out | exact HB6.out | exact HB8.out | assumption | refine Below.setCell ?_ (by first | (simp; done) | (simp; omega) | omega) _ | refine Below.drew ?_ | refine below_drewN ?_ _ | refine below_alloc ?_ _))
                  · have HBd : Hid (rpT b = (0, [], k, 2)) := Lib.hid (by rw [HIn2.out, HPH.out k (N, L) ⟨fun h => hl1 (HXL.out.symm.trans h.2.2), fun h => absurd h.2.1 (by decide)⟩])
                    have hl3 : ¬ (T.length : Int) = 1 := by omega
                    have hl4 : ((T.length : Int) == 1) = false := by rw [beq_eq_false_iff_ne]; exact hl3
                    clear HIn2 HIn HEnd HPN HPI HPH HPok HPno
                    go_wp2
                    (try simp only [Exit.inBlock, Exit.then])
                    refine bodyPost_ret (v := .tuple #[.int .i64 0, .slice none 0 0, .int .i64 (k : Int), .int .i64 2]) (by simp [results, Tryd.results6, go_sem]; go_simp) rfl ?_
                    exact TpV.bad (l := k) HBd.out (by repeat (first | exact Below.refl _ _ | exact HB.out | exact HB5.out | exact HB6.out | exact HB8.out | assumption | refine Below.setCell ?_ (by first | (simp; done) | (simp; omega) | omega) _ | refine Below.drew ?_ | refine below_drewN ?_ _ | refine below_alloc ?_ _))
              · by_cases hh2 : hd = tapeW
                · subst hh2
                  have hlk := look_tape (c := 2) HK5.out
                  have hw6 : wr.cell? ⟨g2, 0, none⟩ = some (.string ⟨#[116, 97, 112, 101]⟩) := hw5
                  clear hw5 HK5 hh1
                  unfold readT at hlk
                  cases en
                  · have HBd : Hid (rpT b = (0, [], k, 2)) := Lib.hid (HEnd.out (HPno.out rfl))
                    go_wp2
                    (try simp only [Exit.inBlock, Exit.then])
                    refine bodyPost_ret (v := .tuple #[.int .i64 0, .slice none 0 0, .int .i64 (k : Int), .int .i64 2]) (by simp [results, Tryd.results6, go_sem]; go_simp) rfl ?_
                    exact TpV.bad (l := k) HBd.out (by repeat (first | exact Below.refl _ _ | exact HB.out | exact HB5.out | exact HB6.out | exact HB8.out | assumption | refine Below.setCell ?_ (by first | (simp; done) | (simp; omega) | omega) _ | refine Below.drew ?_ | refine below_drewN ?_ _ | refine below_alloc ?_ _))
                  · have HIn2 := Lib.hid (HIn.out (HPok.out rfl))
                    by_cases hl1 : T.length = 3
                    · · by_cases hwy : wordsT tapeW xs = Y
                        · generalize T.length = tl at *
                          subst hl1
                          have HI2 : Hid (rpT b = match okS (nextT k (N, L) tapeW xs) with | none => (0, [], k, 2) | some st' => runT (words 10 R) st' (k + 1)) := Lib.hid (by rw [HIn2.out, HPI.out k (N, L) hwy])
                          obtain ⟨p, q, r, rfl⟩ : ∃ p q r, xs = [p, q, r] := by
                            have := HXL.out
                            match xs, this with
                            | [p, q, r], _ => exact ⟨p, q, r, rfl⟩
                          obtain ⟨g5, rfl, hgb5, hgl5, -⟩ := hg5 (by omega)
                          have HI3 : Hid (rpT b = match (if vNet N (L ++ [(p, q, r)]) then some (N, L ++ [(p, q, r)]) else none : Option St) with | none => (0, [], k, 2) | some st' => runT (words 10 R) st' (k + 1)) := Lib.hid (by rw [HI2.out, next_tape hk0])
                          obtain ⟨bx, ox, hex5, -, hcx⟩ := HI5.out.2 (by omega)
                          cases hex5
                          have hcp : wr.cell? ⟨g5, 0, none⟩ = some (.int .i64 p) := (hcx 0 (by omega)).trans (by first | rfl | simp)
                          have hcq : wr.cell? ⟨g5, 1, none⟩ = some (.int .i64 q) := (hcx 1 (by omega)).trans (by first | rfl | simp)
                          have hcr : wr.cell? ⟨g5, 2, none⟩ = some (.int .i64 r) := (hcx 2 (by omega)).trans (by first | rfl | simp)
                          clear hcx
                          have CW := Lib.hid (fun (W : World) (h : Tab W) (hi : Ints W W.heap.size (some ⟨g5, 0, none⟩) 3 [p, q, r]) => wordsP_any tapeW (some ⟨g5, 0, none⟩) 3 cap5 [p, q, r] W h (by omega) (by decide) hi HXB.out)
                          rw [hwy] at CW
                          clear HI2 HIn2 HIn HEnd HPN HPI HPH HPok HPno hwy
                          have HWs : Hid ((wr.alloc (.cells #[.int .i64 3, .func (.func 14) #[] #[.pointer (some ⟨w.heap.size + 1, 0, none⟩)]] 44)).heap.size = wr.heap.size + 1) := Lib.hid (by simp)
                          have HW1 : Hid ((wr.alloc (.cells #[.int .i64 3, .func (.func 14) #[] #[.pointer (some ⟨w.heap.size + 1, 0, none⟩)]] 44)).cell? ⟨wr.heap.size, 1, none⟩ = some (.func (.func 14) #[] #[.pointer (some ⟨w.heap.size + 1, 0, none⟩)])) := Lib.hid (by simp)
                          have HB7 : Hid (Below wr.heap.size wr (wr.alloc (.cells #[.int .i64 3, .func (.func 14) #[] #[.pointer (some ⟨w.heap.size + 1, 0, none⟩)]] 44))) := Lib.hid ((Below.refl _ _).alloc (Nat.le_refl _) _)
                          have HA6 := Lib.hid (HA5.out.later HB7.out)
                          have HI7 := Lib.hid ((HI5.out.below HB7.out).more (B' := (wr.alloc (.cells #[.int .i64 3, .func (.func 14) #[] #[.pointer (some ⟨w.heap.size + 1, 0, none⟩)]] 44)).heap.size) (by simp))
                          go_wp2_with fail
                          refine (CW.out _ (HT.out.below HA6.out.2.2.2.2.1).tab HI7.out).mono ?_
                          rintro e w6 ⟨rfl, hb6⟩
                          have hz6 : wr.heap.size + 1 ≤ w6.heap.size := by have := hb6.size; rw [HWs.out] at this; exact this
                          have HA7 := Lib.hid (HA6.out.later hb6)
                          have hq1 := (hb6.cell (p := ⟨wr.heap.size, 1, none⟩) (by rw [HWs.out]; simp)).trans HW1.out
                          have hqp := (hb6.cell (p := ⟨g5, 0, none⟩) (by rw [HWs.out]; show g5 < _; omega)).trans ((HB7.out.cell (p := ⟨g5, 0, none⟩) hgl5).trans hcp)
                          have hqq := (hb6.cell (p := ⟨g5, 1, none⟩) (by rw [HWs.out]; show g5 < _; omega)).trans ((HB7.out.cell (p := ⟨g5, 1, none⟩) hgl5).trans hcq)
                          have hqr := (hb6.cell (p := ⟨g5, 2, none⟩) (by rw [HWs.out]; show g5 < _; omega)).trans ((HB7.out.cell (p := ⟨g5, 2, none⟩) hgl5).trans hcr)
                          obtain ⟨⟨m1, m2⟩, ⟨m3, m4⟩, -, m6, m7, m8⟩ := HA7.out
                          have HB6 := Lib.hid m7
                          have hgo : some g5 ≠ (Value.slice A0 L.length cap0).ownBlock := fun e => by have := HGO.out g5 e.symm; omega
                          have CT := Lib.hid (ptape_any g5 cap5 (w.heap.size + 1) (w.heap.size + 3) 0 0 cap0 A0 L p q r w6 (by omega) hqp hqq hqr m3 m4 m6 (by omega) hgo (by omega) (by omega) m8 (by omega))
                          clear m6 m7 hb6 CW hqp hqq hqr hcp hcq hcr
                          go_wp2_with fail
                          refine CT.out.mono ?_
                          rintro e w7 ⟨rfl, A9, cap9, n1, n2, n3, n4, n5, n6⟩
                          have HLP : Hid ((L ++ [(p, q, r)]).length = L.length + 1) := Lib.hid (by simp)
                          have HA8 : Hid (TpAt w w7 N (L ++ [(p, q, r)]) A9 cap9) := Lib.hid (HA7.out.tape HLP.out n1 n2 n3 n4 n5 n6)
                          clear CT n2 n3 n5 n6 HA7 m1 m2 m3 m4 hq1
                          obtain ⟨AX, capX, hvX, hncX, hcmX, hPX⟩ := own_tapes1 HA8.out.2.2.2.1
                          rw [HLP.out] at hvX hPX
                          cases hvX
                          have C9 := Lib.hid (Valid_any N A9 (L.length + 1) cap9 (L ++ [(p, q, r)]) w7 (by omega) hPX)
                          obtain ⟨⟨p1, p2⟩, -, -, -, p7, p8⟩ := HA8.out
                          have HB8 := Lib.hid p7
                          clear p7 hPX
                          by_cases hgd : vNet N (L ++ [(p, q, r)]) = true
                          · have HN : Hid (rpT b = runT (words 10 R) (N, L ++ [(p, q, r)]) (k + 1)) := Lib.hid (by rw [HI3.out, if_pos hgd])
                            have hlb := (vNet_bd hgd).2.1
                            rw [HLP.out] at hlb
                            have HL2 : Hid ((L ++ [(p, q, r)]).length = (k + 1) - 1) := Lib.hid (by rw [HLP.out, HL.out]; omega)
                            have hk10 : k ≤ 10 := by have := HL.out; omega
                            rw [hgd] at C9
                            clear HI3 hgd HL
                            go_wp2_with fail
                            refine C9.out.mono ?_
                            rintro e w9 ⟨rfl, hb9⟩
                            have HAA := Lib.hid (HA8.out.later hb9)
                            clear hb9 C9 HA8
                            go_wp2
                            go_roundw
                            case rel => exact ⟨R, k + 1, N, L ++ [(p, q, r)], A9, cap9, hR65, by omega, by rw [HLP.out]; omega, rfl, by first | rfl | go_num, HL2, HAA, HN⟩
                            case measure => simp [intOf]; omega
                          · have HBd : Hid (rpT b = (0, [], k, 2)) := Lib.hid (by rw [HI3.out, if_neg hgd])
                            have hgd : vNet N (L ++ [(p, q, r)]) = false := by simpa using hgd
                            rw [hgd] at C9
                            clear HI3 hgd
                            go_wp2_with fail
                            refine C9.out.mono ?_
                            rintro e w9 ⟨rfl, hb9⟩
                            have HAA := Lib.hid (HA8.out.later hb9)
                            obtain ⟨⟨r1, r2⟩, ⟨r3, r4⟩, -, -, r7, -⟩ := HAA.out
                            have HB8 := Lib.hid r7
                            rw [HLP.out] at r3
                            clear r7 hb9 C9 HA8 p1 p2 n1
                            go_wp2
                            (try simp only [Exit.inBlock, Exit.then])
                            refine bodyPost_ret (v := .tuple #[.int .i64 0, .slice none 0 0, .int .i64 (k : Int), .int .i64 2]) (by simp [results, Tryd.results6, go_sem]; go_simp) rfl ?_
                            exact TpV.bad (l := k) HBd.out (by repeat (first | exact Below.refl _ _ | exact HB.out | exact HB5.out | exact HB6.out | exact HB8.out | assumption | refine Below.setCell ?_ (by first | (simp; done) | (simp; omega) | omega) _ | refine Below.drew ?_ | refine below_drewN ?_ _ | refine below_alloc ?_ _))
                        · generalize T.length = tl at *
                          subst hl1
                          have HBd : Hid (rpT b = (0, [], k, 2)) := Lib.hid (by rw [HIn2.out, HPN.out k (N, L) hwy])
                          have CW := Lib.hid (fun (W : World) (h : Tab W) (hi : Ints W W.heap.size A5 3 xs) => wordsP_any tapeW A5 3 cap5 xs W h (by omega) (by decide) hi HXB.out)
                          obtain ⟨F, hF⟩ : ∃ F, F = wordsT tapeW xs := ⟨_, rfl⟩
                          rw [← hF] at hwy CW
                          have hwb : (F == Y) = false := beq_eq_false_iff_ne.2 hwy
                          clear hF
                          clear HIn2 HIn HEnd HPN HPI HPH HPok HPno
                          have HWs : Hid ((wr.alloc (.cells #[.int .i64 3, .func (.func 14) #[] #[.pointer (some ⟨w.heap.size + 1, 0, none⟩)]] 44)).heap.size = wr.heap.size + 1) := Lib.hid (by simp)
                          have HW1 : Hid ((wr.alloc (.cells #[.int .i64 3, .func (.func 14) #[] #[.pointer (some ⟨w.heap.size + 1, 0, none⟩)]] 44)).cell? ⟨wr.heap.size, 1, none⟩ = some (.func (.func 14) #[] #[.pointer (some ⟨w.heap.size + 1, 0, none⟩)])) := Lib.hid (by simp)
                          have HB7 : Hid (Below wr.heap.size wr (wr.alloc (.cells #[.int .i64 3, .func (.func 14) #[] #[.pointer (some ⟨w.heap.size + 1, 0, none⟩)]] 44))) := Lib.hid ((Below.refl _ _).alloc (Nat.le_refl _) _)
                          have HA6 := Lib.hid (HA5.out.later HB7.out)
                          have HI7 := Lib.hid ((HI5.out.below HB7.out).more (B' := (wr.alloc (.cells #[.int .i64 3, .func (.func 14) #[] #[.pointer (some ⟨w.heap.size + 1, 0, none⟩)]] 44)).heap.size) (by simp))
                          go_wp2_with fail
                          refine (CW.out _ (HT.out.below HA6.out.2.2.2.2.1).tab HI7.out).mono ?_
                          rintro e w6 ⟨rfl, hb6⟩
                          have hz6 : wr.heap.size + 1 ≤ w6.heap.size := by have := hb6.size; rw [HWs.out] at this; exact this
                          have HA7 := Lib.hid (HA6.out.later hb6)
                          obtain ⟨⟨m1, m2⟩, ⟨m3, m4⟩, -, -, m7, m8⟩ := HA7.out
                          have HB6 := Lib.hid m7
                          clear m7 hb6 CW HA7
                          skip
                          go_wp2
                          (try simp only [Exit.inBlock, Exit.then])
                          refine bodyPost_ret (v := .tuple #[.int .i64 0, .slice none 0 0, .int .i64 (k : Int), .int .i64 2]) (by simp [results, Tryd.results6, go_sem]; go_simp) rfl ?_
                          exact TpV.bad (l := k) HBd.out (by repeat (first | exact Below.refl _ _ | exact HB.out | exact HB5.out | exact HB6.out | exact HB8.out | assumption | refine Below.setCell ?_ (by first | (simp; done) | (simp; omega) | omega) _ | refine Below.drew ?_ | refine below_drewN ?_ _ | refine below_alloc ?_ _))
                    · have HBd : Hid (rpT b = (0, [], k, 2)) := Lib.hid (by rw [HIn2.out, HPH.out k (N, L) ⟨fun h => absurd h.2.1 (by decide), fun h => hl1 (HXL.out.symm.trans h.2.2)⟩])
                      have hl3 : ¬ (T.length : Int) = 3 := by omega
                      have hl4 : ((T.length : Int) == 3) = false := by rw [beq_eq_false_iff_ne]; exact hl3
                      clear HIn2 HIn HEnd HPN HPI HPH HPok HPno
                      go_wp2
                      (try simp only [Exit.inBlock, Exit.then])
                      refine bodyPost_ret (v := .tuple #[.int .i64 0, .slice none 0 0, .int .i64 (k : Int), .int .i64 2]) (by simp [results, Tryd.results6, go_sem]; go_simp) rfl ?_
                      exact TpV.bad (l := k) HBd.out (by repeat (first | exact Below.refl _ _ | exact HB.out | exact HB5.out | exact HB6.out | exact HB8.out | assumption | refine Below.setCell ?_ (by first | (simp; done) | (simp; omega) | omega) _ | refine Below.drew ?_ | refine below_drewN ?_ _ | refine below_alloc ?_ _))
                · have hlk := look_other (c := 2) HK5.out hh1 hh2
                  have HBd : Hid (rpT b = (0, [], k, 2)) := Lib.hid (by
                    by_cases hm : (10 : UInt8) ∈ S
                    · rw [HIn.out hm, HPH.out k (N, L) ⟨fun h => hh1 h.2.1, fun h => hh2 h.2.1⟩]
                    · exact HEnd.out hm)
                  clear HIn HEnd HPN HPI HPH HPok HPno HK5 hh1 hh2
                  go_wp2
                  (try simp only [Exit.inBlock, Exit.then])
                  refine bodyPost_ret (v := .tuple #[.int .i64 0, .slice none 0 0, .int .i64 (k : Int), .int .i64 2]) (by simp [results, Tryd.results6, go_sem]; go_simp) rfl ?_
                  exact TpV.bad (l := k) HBd.out (by repeat (first | exact Below.refl _ _ | exact HB.out | exact HB5.out | exact HB6.out | exact HB8.out | assumption | refine Below.setCell ?_ (by first | (simp; done) | (simp; omega) | omega) _ | refine Below.drew ?_ | refine below_drewN ?_ _ | refine below_alloc ?_ _))
theorem Parse_any (b : List UInt8) (w : World) (htab : TabA w) (hb47 : b.length ≤ 9223372036854775807) :
    Calls Tryd.prog 6 #[.string ⟨b.toArray⟩] w fun e w' => (∃ v, e = .returned (.tuple #[.int .i64 (rpT b).1, v, .int .i64 (rpT b).2.2.1, .int .i64 (rpT b).2.2.2]) ∧ w'.ownsRow w.heap.size 34 3 v (rpT b).2.1.length (tcells (rpT b).2.1)) ∧ Below w.heap.size w w' := Parse_any' b w htab hb47
end Go.Proofs.YthpbkbbmedpecaaDoor
