/- TapeTexts: the reference's Parse. -/
import Derived.Test.YthpbkbbmedpecaaDoorTpF
import Derived.Test.YthpbkbbmedpecaaDoorOffB
import Derived.Test.YthpbkbbmedpecaaDoorOwnT
set_option linter.unusedSimpArgs false
set_option linter.unusedVariables false
namespace Go.Proofs.YthpbkbbmedpecaaDoor
open Go.RowKit
attribute [local go_sem] Later.cell Same.cell OffB.cell

theorem xresults4 {fn : Func} {t u v x : Tmp} (h : fn.results = #[.tmp t, .tmp u, .tmp v, .tmp x]) (tmps : Array Value) (P : Program) (w : World) :
    (results fn tmps).run P w = .ok (.tuple #[tmps.getD t undef, tmps.getD u undef, tmps.getD v undef, tmps.getD x undef]) w := by
  simp [results, h]
theorem xinfo_tape : (Tryd.prog.info? 34).map (fun i => (i.zero, i.size, i.bytes)) = some (some (.agg #[.int .i64 0, .int .i64 0, .int .i64 0]), 3, 24) := by kernel_rfl
theorem xnews3 (W : World) (x y z : Value) (t : TypeId) : ∀ j u, ([x, y, z] : List Value)[j]? = some u → (W.alloc (.cells #[x, y, z] t)).cell? ((⟨W.heap.size, 0, none⟩ : Addr).add j) = some u := by
  intro j u hj
  rcases j with _ | _ | _ | j
  · simp at hj; subst hj; simp [Addr.add]
  · simp at hj; subst hj; simp [Addr.add]
  · simp at hj; subst hj; simp [Addr.add]
  · simp at hj
theorem xone3 (m n o : Int) : ∀ u ∈ ([.int .i64 m, .int .i64 n, .int .i64 o] : List Value), u.oneCell' = true := by
  intro u hu
  simp at hu
  rcases hu with rfl | rfl | rfl <;> rfl
theorem own_tapes1 {w : World} {base : Nat} {e : TypeId} {v : Value} {n : Nat} {xs : List Tp} (h : w.ownsRow base e 3 v n (tcells xs)) :
    ∃ A cap, v = .slice A n cap ∧ n ≤ cap ∧ cap ≤ maxLen ∧ Rows 3 int3 (0,0,0) w w.heap.size A n xs := by
  obtain ⟨A, cap, h1, h2, h3, h4, -⟩ := own_tapes h
  exact ⟨A, cap, h1, h2, h3, h4⟩
theorem wordsA_mem_len (m : UInt8) : ∀ (b cur y : List UInt8), y ∈ wordsA m cur b → y.length ≤ cur.length + b.length := by
  intro b
  induction b with
  | nil => intro cur y hy; simp [wordsA] at hy; rw [hy]; simp
  | cons c r ih =>
    intro cur y hy
    unfold wordsA at hy
    split at hy
    · rcases List.mem_cons.1 hy with rfl | hy
      · simp
      · have := ih [] y hy; simp at *; omega
    · have := ih _ y hy; simp at *; omega
/-- A row of texts without its first one. -/
theorem Txts.tail1 {w : World} {B g c : Nat} {y : List UInt8} {T : List (List UInt8)} (h : Txts w B (some ⟨g, 0, none⟩) (T.length + 1) (y :: T)) (hc : T.length ≤ c) (hg : g < B) :
    Txts w B (if c = 0 then some ⟨g, 0, none⟩ else some ⟨g, 1, none⟩) T.length T := by
  refine ⟨rfl, fun h0 => ?_⟩
  rw [if_neg (by omega)]
  obtain ⟨b, off, he, hb, hcs⟩ := h.2 (by omega)
  cases he
  refine ⟨g, 1, rfl, hg, fun k hk => ?_⟩
  have := hcs (k + 1) (by omega)
  rw [Nat.zero_add, Nat.add_comm k 1] at this
  rw [this]
  simp [Nat.add_comm 1 k]
theorem next_hd {k : Nat} {st : St} {w : List UInt8} {xs : List Int} (h : ¬ (k = 0 ∧ w = nodesW ∧ xs.length = 1) ∧ ¬ (k ≠ 0 ∧ w = tapeW ∧ xs.length = 3)) : okS (nextT k st w xs) = none := by
  unfold nextT
  by_cases hk : k = 0
  · rw [if_pos hk, if_neg (fun hh => h.1 ⟨hk, hh⟩)]; rfl
  · rw [if_neg hk, if_neg (fun hh => h.2 ⟨hk, hh⟩)]; rfl
theorem next_node {st : St} {n : Int} : okS (nextT 0 st nodesW [n]) = if vNet n st.2 then some (n, st.2) else none := by
  unfold nextT
  rw [if_pos rfl, if_pos ⟨rfl, rfl⟩]
  rfl
theorem next_tape {k : Nat} {st : St} {a b c : Int} (hk : k ≠ 0) : okS (nextT k st tapeW [a, b, c]) = if vNet st.1 (st.2 ++ [(a, b, c)]) then some (st.1, st.2 ++ [(a, b, c)]) else none := by
  unfold nextT
  rw [if_neg hk, if_pos ⟨rfl, rfl⟩]
  rfl
set_option maxRecDepth 20000 in
set_option maxHeartbeats 16000000 in
theorem rParse_any (b : List UInt8) (w : World) (hb47 : b.length ≤ 9223372036854775807) :
    Calls Tryd.prog 7 #[.string ⟨b.toArray⟩] w fun e w' => (∃ v, e = .returned (.tuple #[.int .i64 (rpT b).1, v, .int .i64 (rpT b).2.2.1, .int .i64 (rpT b).2.2.2]) ∧ w'.ownsRow w.heap.size 34 3 v (rpT b).2.1.length (tcells (rpT b).2.1)) ∧ Below w.heap.size w w' := by
  have hsz : (⟨b.toArray⟩ : ByteArray).size = b.length := rfl
  by_cases h1 : 65536 < b.length
  · have hE : rpT b = (0, [], 0, 3) := by unfold rpT; rw [if_pos h1]
    rw [hE]
    have h1' : (65536 : Int) < b.length := by omega
    go_enter Tryd.func7, Tryd.ntmps7
    go_wp2
    (try simp only [Exit.inBlock, Exit.then])
    refine bodyPost_ret (xresults4 rfl _ _ _) rfl ?_
    exact ⟨⟨_, rfl, World.ownsRow_nil _ _ _ _⟩, Below.refl _ _⟩
  · have h1' : decide ((65536 : Int) < b.length) = false := decide_eq_false (by omega)
    have hbl : b.length ≤ 65536 := by omega
    have HE : Hid (rpT b = runT (words 10 b) (0, []) 0) := Lib.hid (by unfold rpT; rw [if_neg h1])
    have C1 : Hid (Calls Tryd.prog 20 #[.string ⟨b.toArray⟩, .int .u8 10] w fun e w' => (∃ v, e = .returned v ∧ w'.ownsRow w.heap.size 9 1 v (words 10 b).length (bcel (words 10 b))) ∧ Below w.heap.size w w') := Lib.hid (words_any b 10 w (by omega))
    have HWL := Lib.hid (fun y (hy : y ∈ words 10 b) => wordsA_mem_len 10 b [] y hy)
    have HNL : Hid ((words 10 b).length ≤ b.length + 1) := Lib.hid (wordsA_len 10 b [])
    have HNP : Hid (0 < (words 10 b).length) := Lib.hid (List.length_pos_iff.2 (words_ne _ _))
    obtain ⟨i0, hi, hz0, hz1, hz2⟩ := info_parts xinfo_tape
    have hI0 := Lib.hid hi
    have hI1 := Lib.hid hz0
    have hI2 := Lib.hid hz1
    have hI3 := Lib.hid hz2
    clear hi hz0 hz1 hz2
    go_enter Tryd.func7, Tryd.ntmps7
    go_wp2_with fail
    refine C1.out.mono ?_
    rintro e w1 ⟨⟨v1, rfl, ho1⟩, hb1⟩
    generalize hWs : words 10 b = ws at *
    obtain ⟨A1, cap1, rfl, hnc1, hcm1, -, hT1, hg1⟩ := own_txts ho1
    have hnl : ws.length ≤ b.length + 1 := HNL.out
    have hnp : 0 < ws.length := HNP.out
    obtain ⟨g, rfl, hgb, hgl⟩ := hg1 hnp
    have HT1 := Lib.hid hT1
    have HB1 := Lib.hid hb1
    have hb1s := hb1.size
    have HST : Hid (rpT b = runT (ws.drop 0) (0, []) 0) := Lib.hid HE.out
    clear ho1 hb1 hWs C1 HE HNL HNP hT1 h1
    go_wp2
    go_loopw [7, 8, 9] (fun nd v i wr => ∃ (k : Nat) (N : Int) (L : List Tp), k + 1 ≤ ws.length ∧ L.length ≤ k ∧ nd = .int .i64 N ∧ i = .int .i64 (k : Int) ∧ Hid (wr.ownsRow w1.heap.size 34 3 v L.length (tcells L)) ∧ Hid (rpT b = runT (ws.drop k) (N, L) k) ∧ Below w1.heap.size w1 wr) (fun _ _ i _ => ws.length - (intOf i).toNat)
    case atStart => exact ⟨0, 0, [], hnp, Nat.zero_le _, rfl, rfl, Lib.hid (World.ownsRow_nil _ _ _ _), HST, Below.refl _ _⟩
    case round =>
      obtain ⟨k, N, L, hk, hul, rfl, rfl, HO, HR, hB⟩ := hrel
      clear HST
      obtain ⟨A0, cap0, rfl, hnc0, hcm0, -⟩ := own_tapes1 HO.out
      have hsz1 := hB.size
      have hgr : g < wr.heap.size := by omega
      have hus : L.length ≤ 65537 := by omega
      have HBw : ∀ W, Below wr.heap.size wr W → Below w.heap.size w W := fun W h => HB1.out.trans ((hB.trans (h.mono hsz1)).mono hb1s)
      by_cases hlt : k + 1 < ws.length
      · have hlt1 : (k : Int) < (ws.length : Int) - 1 := by omega
        have hk2 : ¬ ws.length ≤ k := by omega
        obtain ⟨_, _, he, _, hc1⟩ := (HT1.out.below hB).at_ k (by omega)
        cases he
        rw [Nat.zero_add] at hc1
        have hyl : (ws[k]?.getD []).length ≤ b.length := by
          have hk' : k < ws.length := by omega
          rw [List.getElem?_eq_getElem hk']
          simpa using HWL.out _ (List.getElem_mem hk')
        have HR2 : Hid (rpT b = match stepT k (N, L) (ws[k]?.getD []) with | none => (0, [], k, 2) | some st' => runT (ws.drop (k + 1)) st' (k + 1)) := Lib.hid (HR.out.trans (runT_step hlt))
        clear HR
        generalize ws[k]?.getD [] = Y at *
        have C2 : Hid (∀ W : World, Calls Tryd.prog 20 #[.string ⟨Y.toArray⟩, .int .u8 32] W fun e w' => (∃ v, e = .returned v ∧ w'.ownsRow W.heap.size 9 1 v (words 32 Y).length (bcel (words 32 Y))) ∧ Below W.heap.size W w') := Lib.hid (fun W => words_any Y 32 W (by omega))
        have hST : stepT k (N, L) Y = if (numsR (tlW Y)).2 then okS (nextT k (N, L) (hdW Y) (numsR (tlW Y)).1) else none := rfl
        have hyw : (words 32 Y).length ≤ 1000000 := by have := wordsA_len 32 Y []; show (wordsA 32 [] Y).length ≤ _; omega
        have hwl : ∀ y ∈ words 32 Y, y.length ≤ 140737488355328 := fun y hy => by have := wordsA_mem_len 32 Y [] y hy; simp at this; omega
        rw [hd_tl Y] at C2 hyw hwl
        generalize hdW Y = hd at *
        generalize tlW Y = T at *
        simp only [List.length_cons] at hyw
        have C3 := Lib.hid (fun (A : Option Addr) (cap : Nat) (W : World) (h : Txts W W.heap.size A T.length T) => Numbers_any A T.length cap T W (by omega) h (fun y hy => hwl y (List.mem_cons_of_mem _ hy)))
        clear hwl
        generalize numsR T = M at *
        obtain ⟨xs, ok⟩ := M
        dsimp only at C3 hST
        have HST := Lib.hid hST
        clear hST
        cases ok
        · have HBd : Hid (rpT b = (0, [], k, 2)) := Lib.hid (by rw [HR2.out, HST.out]; rfl)
          clear HR2 HST HO
          go_wp2_with fail
          refine (C2.out _).mono ?_
          rintro e w2 ⟨⟨v2, rfl, ho2⟩, hb2⟩
          obtain ⟨A2, cap2, rfl, hnc2, hcm2, -, hT2, hg2⟩ := own_txts ho2
          simp only [List.length_cons] at hnc2 hT2 hg2
          obtain ⟨g2, rfl, hgb2, hgl2⟩ := hg2 (by omega)
          obtain ⟨c2, rfl⟩ : ∃ c2, cap2 = c2 + 1 := ⟨cap2 - 1, by omega⟩
          obtain ⟨_, _, he2, _, hw0⟩ := hT2.at_ 0 (by omega)
          cases he2
          simp only [List.getElem?_cons_zero, Option.getD_some, Nat.add_zero] at hw0
          have HT2 := Lib.hid (hT2.tail1 (c := c2) (by omega) hgl2)
          have hs2 := hb2.size
          have HB2 := Lib.hid hb2
          clear ho2 hT2 hb2 C2 hc1 hg2
          generalize hA3 : (if c2 = 0 then (some ⟨g2, 0, none⟩ : Option Addr) else some ⟨g2, 1, none⟩) = A3t at HT2
          simp only [List.length_cons]
          go_wp2_with fail
          refine (C3.out _ _ _ HT2.out).mono ?_
          rintro e w3 ⟨⟨v3, rfl, ho3⟩, hb3⟩
          have hs3 := hb3.size
          replace hw0 := (hb3.cell (p := ⟨g2, 0, none⟩) hgl2).trans hw0
          have HB3 : Hid (Below wr.heap.size wr w3) := Lib.hid (below_step HB2.out hb3)
          clear hb3 HB2 HT2 C3 hA3
          go_wp2
          (try simp only [Exit.inBlock, Exit.then])
          refine bodyPost_ret (xresults4 rfl _ _ _) rfl ?_
          exact ⟨⟨.slice none 0 0, by rw [HBd.out] <;> rfl, by rw [HBd.out]; exact World.ownsRow_nil _ _ _ _⟩, HBw _ HB3.out⟩
        · have HST2 : Hid (stepT k (N, L) Y = okS (nextT k (N, L) hd xs)) := Lib.hid HST.out
          clear HST
          by_cases hk0 : k = 0
          · subst hk0
            by_cases hhd : hd = nodesW
            · subst hhd
              by_cases hx1 : xs.length = 1
              · obtain ⟨p, rfl⟩ : ∃ p, xs = [p] := by
                  match xs, hx1 with
                  | [p], _ => exact ⟨p, rfl⟩
                have HST3 : Hid (stepT 0 (N, L) Y = if vNet p L then some (p, L) else none) := Lib.hid (HST2.out.trans next_node)
                clear HST2 hx1
                go_wp2_with fail
                refine (C2.out _).mono ?_
                rintro e w2 ⟨⟨v2, rfl, ho2⟩, hb2⟩
                obtain ⟨A2, cap2, rfl, hnc2, hcm2, -, hT2, hg2⟩ := own_txts ho2
                simp only [List.length_cons] at hnc2 hT2 hg2
                obtain ⟨g2, rfl, hgb2, hgl2⟩ := hg2 (by omega)
                obtain ⟨c2, rfl⟩ : ∃ c2, cap2 = c2 + 1 := ⟨cap2 - 1, by omega⟩
                obtain ⟨_, _, he2, _, hw0⟩ := hT2.at_ 0 (by omega)
                cases he2
                simp only [List.getElem?_cons_zero, Option.getD_some, Nat.add_zero] at hw0
                have HT2 := Lib.hid (hT2.tail1 (c := c2) (by omega) hgl2)
                have hs2 := hb2.size
                have HB2 := Lib.hid hb2
                clear ho2 hT2 hb2 C2 hc1 hg2
                generalize hA3 : (if c2 = 0 then (some ⟨g2, 0, none⟩ : Option Addr) else some ⟨g2, 1, none⟩) = A3t at HT2
                simp only [List.length_cons]
                go_wp2_with fail
                refine (C3.out _ _ _ HT2.out).mono ?_
                rintro e w3 ⟨⟨v3, rfl, ho3⟩, hb3⟩
                have hs3 := hb3.size
                replace hw0 := (hb3.cell (p := ⟨g2, 0, none⟩) hgl2).trans hw0
                have HB3 : Hid (Below wr.heap.size wr w3) := Lib.hid (below_step HB2.out hb3)
                clear hb3 HB2 HT2 C3 hA3
                replace hw0 : w3.cell? ⟨g2, 0, none⟩ = some (.string ⟨#[110, 111, 100, 101, 115]⟩) := hw0
                obtain ⟨A3, cap3, rfl, hnc3, hcm3, hI3x, hg3⟩ := own_ints ho3
                obtain ⟨g3, rfl, hgb3, hgl3, -⟩ := hg3 (by simp)
                obtain ⟨_, _, he3, _, hd3⟩ := hI3x.2 (by simp)
                cases he3
                have hp : w3.cell? ⟨g3, 0, none⟩ = some (.int .i64 p) := by simpa using hd3 0 (by simp)
                clear ho3 hI3x hg3 hd3
                have HO3 := Lib.hid (xown_later HO.out HB3.out)
                obtain ⟨A5, cap5, hv5, hnc5, hcm5, hP5⟩ := own_tapes1 HO3.out
                cases hv5
                have C5 := Lib.hid (rValid_any p A0 L.length cap0 L w3 (by omega) hP5)
                have hnu : [p].length = 1 := rfl
                simp only [hnu] at *
                clear hP5
                by_cases hgd : vNet p L = true
                · have HN : Hid (rpT b = runT (ws.drop (0 + 1)) (p, L) (0 + 1)) := Lib.hid (by rw [HR2.out, HST3.out, if_pos hgd])
                  rw [hgd] at C5
                  clear HR2 HST3 hgd
                  go_wp2_with fail
                  refine C5.out.mono ?_
                  rintro e w6 ⟨rfl, hb6⟩
                  have HO6 := Lib.hid (xown_later HO3.out hb6)
                  have HB6 := Lib.hid (hB.trans ((below_step HB3.out hb6).mono hsz1))
                  clear hb6 C5 HO3
                  go_wp2
                  go_roundw
                  case rel => exact ⟨0 + 1, p, L, by omega, by omega, rfl, by first | rfl | go_num, HO6, HN, HB6.out⟩
                  case measure => simp [intOf]; omega
                · have HBd : Hid (rpT b = (0, [], 0, 2)) := Lib.hid (by rw [HR2.out, HST3.out, if_neg hgd])
                  have hgd : vNet p L = false := by simpa using hgd
                  rw [hgd] at C5
                  clear HR2 HST3 hgd
                  go_wp2_with fail
                  refine C5.out.mono ?_
                  rintro e w6 ⟨rfl, hb6⟩
                  have HB6 := Lib.hid (below_step HB3.out hb6)
                  clear hb6 C5 HO3
                  go_wp2
                  (try simp only [Exit.inBlock, Exit.then])
                  refine bodyPost_ret (xresults4 rfl _ _ _) rfl ?_
                  exact ⟨⟨.slice none 0 0, by rw [HBd.out] <;> rfl, by rw [HBd.out]; exact World.ownsRow_nil _ _ _ _⟩, HBw _ HB6.out⟩
              · have HBd : Hid (rpT b = (0, [], 0, 2)) := Lib.hid (by rw [HR2.out, HST2.out, next_hd ⟨fun h => hx1 h.2.2, fun h => h.1 rfl⟩])
                have hx3 : ((xs.length : Int) == 1) = false := beq_eq_false_iff_ne.2 (by omega)
                have hx4 : ¬ (xs.length : Int) = 1 := by omega
                clear HR2 HST2 HO
                go_wp2_with fail
                refine (C2.out _).mono ?_
                rintro e w2 ⟨⟨v2, rfl, ho2⟩, hb2⟩
                obtain ⟨A2, cap2, rfl, hnc2, hcm2, -, hT2, hg2⟩ := own_txts ho2
                simp only [List.length_cons] at hnc2 hT2 hg2
                obtain ⟨g2, rfl, hgb2, hgl2⟩ := hg2 (by omega)
                obtain ⟨c2, rfl⟩ : ∃ c2, cap2 = c2 + 1 := ⟨cap2 - 1, by omega⟩
                obtain ⟨_, _, he2, _, hw0⟩ := hT2.at_ 0 (by omega)
                cases he2
                simp only [List.getElem?_cons_zero, Option.getD_some, Nat.add_zero] at hw0
                have HT2 := Lib.hid (hT2.tail1 (c := c2) (by omega) hgl2)
                have hs2 := hb2.size
                have HB2 := Lib.hid hb2
                clear ho2 hT2 hb2 C2 hc1 hg2
                generalize hA3 : (if c2 = 0 then (some ⟨g2, 0, none⟩ : Option Addr) else some ⟨g2, 1, none⟩) = A3t at HT2
                simp only [List.length_cons]
                go_wp2_with fail
                refine (C3.out _ _ _ HT2.out).mono ?_
                rintro e w3 ⟨⟨v3, rfl, ho3⟩, hb3⟩
                have hs3 := hb3.size
                replace hw0 := (hb3.cell (p := ⟨g2, 0, none⟩) hgl2).trans hw0
                have HB3 : Hid (Below wr.heap.size wr w3) := Lib.hid (below_step HB2.out hb3)
                clear hb3 HB2 HT2 C3 hA3
                replace hw0 : w3.cell? ⟨g2, 0, none⟩ = some (.string ⟨#[110, 111, 100, 101, 115]⟩) := hw0
                obtain ⟨A3, cap3, rfl, hnc3, hcm3, -, -⟩ := own_ints ho3
                clear ho3
                go_wp2
                (try simp only [Exit.inBlock, Exit.then])
                refine bodyPost_ret (xresults4 rfl _ _ _) rfl ?_
                exact ⟨⟨.slice none 0 0, by rw [HBd.out] <;> rfl, by rw [HBd.out]; exact World.ownsRow_nil _ _ _ _⟩, HBw _ HB3.out⟩
            · have HBd : Hid (rpT b = (0, [], 0, 2)) := Lib.hid (by rw [HR2.out, HST2.out, next_hd ⟨fun h => hhd h.2.1, fun h => h.1 rfl⟩])
              have hhd2 : ¬ hd = [110, 111, 100, 101, 115] := hhd
              clear HR2 HST2 HO hhd
              go_wp2_with fail
              refine (C2.out _).mono ?_
              rintro e w2 ⟨⟨v2, rfl, ho2⟩, hb2⟩
              obtain ⟨A2, cap2, rfl, hnc2, hcm2, -, hT2, hg2⟩ := own_txts ho2
              simp only [List.length_cons] at hnc2 hT2 hg2
              obtain ⟨g2, rfl, hgb2, hgl2⟩ := hg2 (by omega)
              obtain ⟨c2, rfl⟩ : ∃ c2, cap2 = c2 + 1 := ⟨cap2 - 1, by omega⟩
              obtain ⟨_, _, he2, _, hw0⟩ := hT2.at_ 0 (by omega)
              cases he2
              simp only [List.getElem?_cons_zero, Option.getD_some, Nat.add_zero] at hw0
              have HT2 := Lib.hid (hT2.tail1 (c := c2) (by omega) hgl2)
              have hs2 := hb2.size
              have HB2 := Lib.hid hb2
              clear ho2 hT2 hb2 C2 hc1 hg2
              generalize hA3 : (if c2 = 0 then (some ⟨g2, 0, none⟩ : Option Addr) else some ⟨g2, 1, none⟩) = A3t at HT2
              simp only [List.length_cons]
              go_wp2_with fail
              refine (C3.out _ _ _ HT2.out).mono ?_
              rintro e w3 ⟨⟨v3, rfl, ho3⟩, hb3⟩
              have hs3 := hb3.size
              replace hw0 := (hb3.cell (p := ⟨g2, 0, none⟩) hgl2).trans hw0
              have HB3 : Hid (Below wr.heap.size wr w3) := Lib.hid (below_step HB2.out hb3)
              clear hb3 HB2 HT2 C3 hA3
              obtain ⟨A3, cap3, rfl, hnc3, hcm3, -, -⟩ := own_ints ho3
              clear ho3
              go_wp2
              (try simp only [Exit.inBlock, Exit.then])
              refine bodyPost_ret (xresults4 rfl _ _ _) rfl ?_
              exact ⟨⟨.slice none 0 0, by rw [HBd.out] <;> rfl, by rw [HBd.out]; exact World.ownsRow_nil _ _ _ _⟩, HBw _ HB3.out⟩
          · have hk5 : ((k : Int) == 0) = false := beq_eq_false_iff_ne.2 (by omega)
            have hk6 : ¬ (k : Int) = 0 := by omega
            by_cases hhd : hd = tapeW
            · subst hhd
              by_cases hx1 : xs.length = 3
              · obtain ⟨p, q, r, rfl⟩ : ∃ p q r, xs = [p, q, r] := by
                  match xs, hx1 with
                  | [p, q, r], _ => exact ⟨p, q, r, rfl⟩
                have HST3 : Hid (stepT k (N, L) Y = if vNet N (L ++ [(p, q, r)]) then some (N, L ++ [(p, q, r)]) else none) := Lib.hid (HST2.out.trans (next_tape hk0))
                clear HST2 hx1 hk0
                go_wp2_with fail
                refine (C2.out _).mono ?_
                rintro e w2 ⟨⟨v2, rfl, ho2⟩, hb2⟩
                obtain ⟨A2, cap2, rfl, hnc2, hcm2, -, hT2, hg2⟩ := own_txts ho2
                simp only [List.length_cons] at hnc2 hT2 hg2
                obtain ⟨g2, rfl, hgb2, hgl2⟩ := hg2 (by omega)
                obtain ⟨c2, rfl⟩ : ∃ c2, cap2 = c2 + 1 := ⟨cap2 - 1, by omega⟩
                obtain ⟨_, _, he2, _, hw0⟩ := hT2.at_ 0 (by omega)
                cases he2
                simp only [List.getElem?_cons_zero, Option.getD_some, Nat.add_zero] at hw0
                have HT2 := Lib.hid (hT2.tail1 (c := c2) (by omega) hgl2)
                have hs2 := hb2.size
                have HB2 := Lib.hid hb2
                clear ho2 hT2 hb2 C2 hc1 hg2
                generalize hA3 : (if c2 = 0 then (some ⟨g2, 0, none⟩ : Option Addr) else some ⟨g2, 1, none⟩) = A3t at HT2
                simp only [List.length_cons]
                go_wp2_with fail
                refine (C3.out _ _ _ HT2.out).mono ?_
                rintro e w3 ⟨⟨v3, rfl, ho3⟩, hb3⟩
                have hs3 := hb3.size
                replace hw0 := (hb3.cell (p := ⟨g2, 0, none⟩) hgl2).trans hw0
                have HB3 : Hid (Below wr.heap.size wr w3) := Lib.hid (below_step HB2.out hb3)
                clear hb3 HB2 HT2 C3 hA3
                replace hw0 : w3.cell? ⟨g2, 0, none⟩ = some (.string ⟨#[116, 97, 112, 101]⟩) := hw0
                obtain ⟨A3, cap3, rfl, hnc3, hcm3, hI3x, hg3⟩ := own_ints ho3
                obtain ⟨g3, rfl, hgb3, hgl3, -⟩ := hg3 (by simp)
                obtain ⟨_, _, he3, _, hd3⟩ := hI3x.2 (by simp)
                cases he3
                have hp : w3.cell? ⟨g3, 0, none⟩ = some (.int .i64 p) := by simpa using hd3 0 (by simp)
                have hq : w3.cell? ⟨g3, 1, none⟩ = some (.int .i64 q) := by simpa using hd3 1 (by simp)
                have hr : w3.cell? ⟨g3, 2, none⟩ = some (.int .i64 r) := by simpa using hd3 2 (by simp)
                clear ho3 hI3x hg3 hd3
                have HO3 := Lib.hid (xown_later HO.out HB3.out)
                have hro : ∀ x, (Value.slice A0 L.length cap0).ownBlock = some x → w1.heap.size ≤ x ∧ x < wr.heap.size := fun x hx => ⟨(HO.out.lt x hx).1, (HO.out.lt x hx).2⟩
                have hne3 : some g3 ≠ (Value.slice A0 L.length cap0).ownBlock := fun e => by have := (hro g3 e.symm).2; omega
                have hnu : [p, q, r].length = 3 := rfl
                simp only [hnu] at *
                go_wp2_with fail
                refine wp_region_offb (Value.slice A0 L.length cap0).ownBlock (by kernel_rfl) (by kernel_rfl) ?_
                refine wpC_take (f := 3) (by kernel_rfl) (by kernel_rfl) ⟨⟨_, grown_drew (World.grownBy.refl _ _)⟩, rfl⟩ [0, 1, 2, 3, 4, 5, 6, 7, 8, 9, 10] _ _ (by kernel_rfl) ?_
                simp only [List.map_cons, List.map_nil, List.getElem?_toArray, List.getElem?_cons_succ, List.getElem?_cons_zero, Option.getD_some]
                repeat (go_big_quiet_step (fail))
                refine wpQuiet_nil ?_
                refine wpC_all (rs := [11]) (by kernel_rfl) (by decide) ?_
                intro i hi
                simp only [List.mem_cons, List.not_mem_nil, or_false] at hi
                subst hi
                refine ⟨_, rfl, ?_⟩
                go_simp
                have hnw := xnews3 w3 (.int .i64 p) (.int .i64 q) (.int .i64 r) 34
                have hBb : Below w3.heap.size w3 (w3.alloc (.cells #[.int .i64 p, .int .i64 q, .int .i64 r] 34)).drew := ((Below.refl _ w3).alloc (Nat.le_refl _) _).drew
                have hnw' : ∀ j u, ([.int .i64 p, .int .i64 q, .int .i64 r] : List Value)[j]? = some u → (w3.alloc (.cells #[.int .i64 p, .int .i64 q, .int .i64 r] 34)).drew.cell? ((⟨w3.heap.size, 0, none⟩ : Addr).add j) = some u := hnw
                have ho := xown_later HO3.out hBb
                have hB4 := grown_of_below hBb (Value.slice A0 L.length cap0).ownBlock
                have hz4 := hBb.size
                generalize (w3.alloc (.cells #[.int .i64 p, .int .i64 q, .int .i64 r] 34)).drew = WW0 at *
                refine ⟨⟨⟨_, hB4⟩, rfl⟩, ?_⟩
                refine wpC_all (rs := [12]) (by kernel_rfl) (by decide) ?_
                intro i hi
                simp only [List.mem_cons, List.not_mem_nil, or_false] at hi
                subst hi
                refine ⟨_, rfl, ?_⟩
                refine wp_append_own _ (.tmp 46) (.tmp 57) 22 rfl w1.heap.size 34 i0 (.agg #[.int .i64 0, .int .i64 0, .int .i64 0]) 3 24 Tryd.underlying22 hI0.out hI1.out hI2.out hI3.out rfl (by decide) _ L.length _ (by simp [Act.eval, Act.put]) ho ⟨w3.heap.size, 0, none⟩ 1 1 [.int .i64 p, .int .i64 q, .int .i64 r] (by simp [Act.eval, Act.put]) rfl hnw' (xone3 _ _ _) (by unfold maxLen; omega) (by omega) (by omega) ?_
                intro v' WW1 hown hgr _
                have hO : Hid (WW1.ownsRow w1.heap.size 34 3 v' (L.length + 1) (tcells (L ++ [(p, q, r)]))) := Lib.hid (by rw [tcells_app]; exact hown)
                have hb5 : Below w1.heap.size w1 WW1 := (hB.trans (HB3.out.mono hsz1)).trans ((hBb.mono (by omega)).trans (grown_below hgr (by omega) (fun q hq => (ho.lt q hq).1)))
                have hB5 := grown_trans hB4 hgr
                clear hown hgr ho hnw hnw' hBb hB4
                refine ⟨⟨⟨_, hB5⟩, rfl⟩, ?_⟩
                go_simp
                refine wpC_take (f := 0) (by kernel_rfl) (by kernel_rfl) ⟨⟨_, hB5⟩, rfl⟩ [13] _ _ (by kernel_rfl) ?_
                simp only [List.map_cons, List.map_nil, List.getElem?_toArray, List.getElem?_cons_succ, List.getElem?_cons_zero, Option.getD_some]
                repeat (go_big_quiet_step (fail))
                refine wpQuiet_nil ?_
                refine wpC_done (by kernel_rfl) ?_
                obtain ⟨A5, cap5, rfl, hnc5, hcm5, hP5⟩ := own_tapes1 hO.out
                have HLP : Hid ((L ++ [(p, q, r)]).length = L.length + 1) := Lib.hid (by simp)
                have C5 := Lib.hid (rValid_any N A5 (L.length + 1) cap5 (L ++ [(p, q, r)]) WW1 (by omega) hP5)
                have HB5 := Lib.hid hb5
                have hs5 := hb5.size
                clear hP5 hb5 hB5 hp hq hr HO3
                by_cases hgd : vNet N (L ++ [(p, q, r)]) = true
                · have HN : Hid (rpT b = runT (ws.drop (k + 1)) (N, L ++ [(p, q, r)]) (k + 1)) := Lib.hid (by rw [HR2.out, HST3.out, if_pos hgd])
                  rw [hgd] at C5
                  clear HR2 HST3 hgd
                  go_wp2_with fail
                  refine C5.out.mono ?_
                  rintro e w6 ⟨rfl, hb6⟩
                  have HO6 := Lib.hid (xown_later hO.out hb6)
                  have HB6 := Lib.hid (HB5.out.trans (hb6.mono hs5))
                  have HO7 : Hid (w6.ownsRow w1.heap.size 34 3 (.slice A5 (L.length + 1) cap5) (L ++ [(p, q, r)]).length (tcells (L ++ [(p, q, r)]))) := Lib.hid (by rw [HLP.out]; exact HO6.out)
                  clear hb6 C5 hO HB5 HO6
                  go_wp2
                  go_roundw
                  case rel => exact ⟨k + 1, N, L ++ [(p, q, r)], by omega, by rw [HLP.out]; omega, rfl, by first | rfl | go_num, HO7, HN, HB6.out⟩
                  case measure => simp [intOf]; omega
                · have HN : Hid (rpT b = (0, [], k, 2)) := Lib.hid (by rw [HR2.out, HST3.out, if_neg hgd])
                  have hgd : vNet N (L ++ [(p, q, r)]) = false := by simpa using hgd
                  rw [hgd] at C5
                  clear HR2 HST3 hgd
                  go_wp2_with fail
                  refine C5.out.mono ?_
                  rintro e w6 ⟨rfl, hb6⟩
                  have HB6 := Lib.hid (HB5.out.trans (hb6.mono hs5))
                  clear hb6 C5 hO HB5
                  go_wp2
                  (try simp only [Exit.inBlock, Exit.then])
                  refine bodyPost_ret (xresults4 rfl _ _ _) rfl ?_
                  exact ⟨⟨.slice none 0 0, by rw [HN.out] <;> rfl, by rw [HN.out]; exact World.ownsRow_nil _ _ _ _⟩, HB1.out.trans (HB6.out.mono hb1s)⟩
              · have HBd : Hid (rpT b = (0, [], k, 2)) := Lib.hid (by rw [HR2.out, HST2.out, next_hd ⟨fun h => hk0 h.1, fun h => hx1 h.2.2⟩])
                have hx3 : ((xs.length : Int) == 3) = false := beq_eq_false_iff_ne.2 (by omega)
                have hx4 : ¬ (xs.length : Int) = 3 := by omega
                clear HR2 HST2 HO hk0
                go_wp2_with fail
                refine (C2.out _).mono ?_
                rintro e w2 ⟨⟨v2, rfl, ho2⟩, hb2⟩
                obtain ⟨A2, cap2, rfl, hnc2, hcm2, -, hT2, hg2⟩ := own_txts ho2
                simp only [List.length_cons] at hnc2 hT2 hg2
                obtain ⟨g2, rfl, hgb2, hgl2⟩ := hg2 (by omega)
                obtain ⟨c2, rfl⟩ : ∃ c2, cap2 = c2 + 1 := ⟨cap2 - 1, by omega⟩
                obtain ⟨_, _, he2, _, hw0⟩ := hT2.at_ 0 (by omega)
                cases he2
                simp only [List.getElem?_cons_zero, Option.getD_some, Nat.add_zero] at hw0
                have HT2 := Lib.hid (hT2.tail1 (c := c2) (by omega) hgl2)
                have hs2 := hb2.size
                have HB2 := Lib.hid hb2
                clear ho2 hT2 hb2 C2 hc1 hg2
                generalize hA3 : (if c2 = 0 then (some ⟨g2, 0, none⟩ : Option Addr) else some ⟨g2, 1, none⟩) = A3t at HT2
                simp only [List.length_cons]
                go_wp2_with fail
                refine (C3.out _ _ _ HT2.out).mono ?_
                rintro e w3 ⟨⟨v3, rfl, ho3⟩, hb3⟩
                have hs3 := hb3.size
                replace hw0 := (hb3.cell (p := ⟨g2, 0, none⟩) hgl2).trans hw0
                have HB3 : Hid (Below wr.heap.size wr w3) := Lib.hid (below_step HB2.out hb3)
                clear hb3 HB2 HT2 C3 hA3
                replace hw0 : w3.cell? ⟨g2, 0, none⟩ = some (.string ⟨#[116, 97, 112, 101]⟩) := hw0
                obtain ⟨A3, cap3, rfl, hnc3, hcm3, -, -⟩ := own_ints ho3
                clear ho3
                go_wp2
                (try simp only [Exit.inBlock, Exit.then])
                refine bodyPost_ret (xresults4 rfl _ _ _) rfl ?_
                exact ⟨⟨.slice none 0 0, by rw [HBd.out] <;> rfl, by rw [HBd.out]; exact World.ownsRow_nil _ _ _ _⟩, HBw _ HB3.out⟩
            · have HBd : Hid (rpT b = (0, [], k, 2)) := Lib.hid (by rw [HR2.out, HST2.out, next_hd ⟨fun h => hk0 h.1, fun h => hhd h.2.1⟩])
              have hhd2 : ¬ hd = [116, 97, 112, 101] := hhd
              clear HR2 HST2 HO hhd hk0
              go_wp2_with fail
              refine (C2.out _).mono ?_
              rintro e w2 ⟨⟨v2, rfl, ho2⟩, hb2⟩
              obtain ⟨A2, cap2, rfl, hnc2, hcm2, -, hT2, hg2⟩ := own_txts ho2
              simp only [List.length_cons] at hnc2 hT2 hg2
              obtain ⟨g2, rfl, hgb2, hgl2⟩ := hg2 (by omega)
              obtain ⟨c2, rfl⟩ : ∃ c2, cap2 = c2 + 1 := ⟨cap2 - 1, by omega⟩
              obtain ⟨_, _, he2, _, hw0⟩ := hT2.at_ 0 (by omega)
              cases he2
              simp only [List.getElem?_cons_zero, Option.getD_some, Nat.add_zero] at hw0
              have HT2 := Lib.hid (hT2.tail1 (c := c2) (by omega) hgl2)
              have hs2 := hb2.size
              have HB2 := Lib.hid hb2
              clear ho2 hT2 hb2 C2 hc1 hg2
              generalize hA3 : (if c2 = 0 then (some ⟨g2, 0, none⟩ : Option Addr) else some ⟨g2, 1, none⟩) = A3t at HT2
              simp only [List.length_cons]
              go_wp2_with fail
              refine (C3.out _ _ _ HT2.out).mono ?_
              rintro e w3 ⟨⟨v3, rfl, ho3⟩, hb3⟩
              have hs3 := hb3.size
              replace hw0 := (hb3.cell (p := ⟨g2, 0, none⟩) hgl2).trans hw0
              have HB3 : Hid (Below wr.heap.size wr w3) := Lib.hid (below_step HB2.out hb3)
              clear hb3 HB2 HT2 C3 hA3
              obtain ⟨A3, cap3, rfl, hnc3, hcm3, -, -⟩ := own_ints ho3
              clear ho3
              go_wp2
              (try simp only [Exit.inBlock, Exit.then])
              refine bodyPost_ret (xresults4 rfl _ _ _) rfl ?_
              exact ⟨⟨.slice none 0 0, by rw [HBd.out] <;> rfl, by rw [HBd.out]; exact World.ownsRow_nil _ _ _ _⟩, HBw _ HB3.out⟩
      · have hkl : k + 1 = ws.length := by omega
        have hk9 : ¬ (k : Int) < (ws.length : Int) - 1 := by omega
        obtain ⟨_, _, he, _, hc1⟩ := (HT1.out.below hB).at_ k (by omega)
        cases he
        rw [Nat.zero_add] at hc1
        have HR2 : Hid (rpT b = if ws[k]?.getD [] = [] ∧ k ≠ 0 then (N, L, 0, 0) else (0, [], k, 2)) := Lib.hid (HR.out.trans (runT_last hkl))
        clear HR
        generalize ws[k]?.getD [] = Y at *
        have hnk : ((ws.length : Int) - 1) = (k : Int) := by omega
        have hk3 : ¬ ws.length ≤ k := by omega
        by_cases hy : Y = []
        · by_cases hk0 : k = 0
          · have HBd : Hid (rpT b = (0, [], k, 2)) := Lib.hid (by rw [HR2.out, if_neg (fun h => h.2 hk0)])
            subst hy
            subst hk0
            have hw1 : (ws.length : Int) = 1 := by omega
            clear HR2
            go_wp2
            (try simp only [Exit.inBlock, Exit.then])
            refine bodyPost_ret (xresults4 rfl _ _ _) rfl ?_
            exact ⟨⟨.slice none 0 0, by rw [HBd.out] <;> rfl, by rw [HBd.out]; exact World.ownsRow_nil _ _ _ _⟩, HBw _ (Below.refl _ _)⟩
          · have HBd : Hid (rpT b = (N, L, 0, 0)) := Lib.hid (by rw [HR2.out, if_pos ⟨hy, hk0⟩])
            subst hy
            have hw1 : ((ws.length : Int) == 1) = false := beq_eq_false_iff_ne.2 (by omega)
            have hw2 : ¬ (ws.length : Int) = 1 := by omega
            clear HR2
            go_wp2
            (try simp only [Exit.inBlock, Exit.then])
            refine bodyPost_ret (xresults4 rfl _ _ _) rfl ?_
            exact ⟨⟨_, by rw [HBd.out] <;> rfl, by rw [HBd.out]; exact xown_mono HO.out hb1s⟩, HBw _ (Below.refl _ _)⟩
        · have HBd : Hid (rpT b = (0, [], k, 2)) := Lib.hid (by rw [HR2.out, if_neg (fun h => hy h.1)])
          have hyi : Y.isEmpty = false := by cases Y with
            | nil => exact absurd rfl hy
            | cons c r => rfl
          clear HR2
          go_wp2
          (try simp only [Exit.inBlock, Exit.then])
          refine bodyPost_ret (xresults4 rfl _ _ _) rfl ?_
          exact ⟨⟨.slice none 0 0, by rw [HBd.out] <;> rfl, by rw [HBd.out]; exact World.ownsRow_nil _ _ _ _⟩, HBw _ (Below.refl _ _)⟩
end Go.Proofs.YthpbkbbmedpecaaDoor
