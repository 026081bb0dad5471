/- Plans: the program's Chain. -/
import Derived.Test.YtmionebfepkolaaGreatDoorJobQ7
import Derived.Test.YtmionebfepkolaaGreatDoorCellA
import Derived.Deep.DeepCutAuto
import Derived.Laws.EntriesVeiled
set_option linter.unusedSimpArgs false
set_option linter.unusedVariables false
namespace Go.Proofs.YtmionebfepkolaaGreatDoor
open Go.RowKit Go.Maps
attribute [local go_sem] Later.cell Same.cell

/-- A pointer to the block b. -/
def isPw (v : Value) (b : Nat) : Prop := v = .pointer (some ⟨b, 0, none⟩)
theorem pc_next {l : List Tk} (h : okP l) {f : Int} {c : Option Nat} {j : Nat} (hj : pcN l c f = some j) : pcN l (some j) (f + dyA l j) = nxS l j := by
  obtain ⟨h1, h2, h3⟩ := pc_crit hj
  have := pc_nxS h h1 (by omega)
  rwa [h2] at this
/-- What the plan's Chain gives. -/
def chnE (l : List Tk) : List Nat := if checkE l = 0 then chnV l else []
set_option maxRecDepth 20000 in
set_option maxHeartbeats 16000000 in
theorem Chain_any (A : Option Addr) (len cap : Nat) (l : List Tk) (w : World) (hS : Sml l) (hx : Plan w w.heap.size A len l) :
    Calls Tryz.prog 13 #[.slice A len cap] w fun e w' => (∃ v, e = .returned (.tuple #[v, .int .i64 (checkE l)]) ∧ w'.ownsRow w.heap.size 3 1 v (chnE l).length (icells (iN (chnE l)))) ∧ Below w.heap.size w w' := by
  obtain rfl : l.length = len := hx.1
  have c1 := fun W (h : Below w.heap.size w W) => Check_any A l.length cap l W hS (hx.go h)
  have hmf : ∀ (fn : Fn) (first cap : Array Value) (w : World), (Instr.makeFunc fn first cap).run Tryz.prog w = .ok (.func fn first cap) w := fun _ _ _ _ => rfl
  by_cases h0 : checkE l = 0
  · have hP := check_spec h0
    have c3 := fun W (h : Below w.heap.size w W) => earliest_any A l.length cap l W hS hP (hx.go h)
    have c4 := fun W (h : Below w.heap.size w W) => latest_any A l.length cap l W hS hP (hx.go h)
    have hE : chnE l = chO l (pcN l none 0) := by unfold chnE chnV; rw [if_pos h0, pc_chS hP]
    have hpos := hP.pos
    rw [h0] at c1 ⊢
    rw [hE]
    have HX := Lib.hid hx
    have HS := Lib.hid hS
    have HP := Lib.hid hP
    have HPOS := Lib.hid hpos
    have C1 := Lib.hid c1
    have C3 := Lib.hid c3
    have C4 := Lib.hid c4
    clear c1 c3 c4 hx hS hP hE h0 hpos
    go_enter Tryz.func13, Tryz.ntmps13
    go_wp2_with fail
    refine (C1.out _ (by repeat (first | exact Below.refl _ _ | assumption | refine Below.setCell ?_ (by first | (simp; done) | (simp; omega) | omega) _ | refine Below.drew ?_ | refine below_drewN ?_ _ | refine Below.alloc ?_ (by first | (simp; done) | (simp; omega) | omega) _ | refine below_alloc ?_ _ | refine below_step ?_ (by assumption)))).mono ?_
    rintro e W1 ⟨rfl, hb⟩
    have hbl : W1.cell? ⟨w.heap.size, 0, none⟩ = some (.slice A l.length cap) := by
      rw [hb.cell (p := ⟨w.heap.size, 0, none⟩) (by simp)]; exact (Boxed.new w 22 (.slice A l.length cap)).cell
    have hq1 : w.heap.size < W1.heap.size := by have := hb.size; simp at this; omega
    have HB1 := Lib.hid (((Below.refl _ w).alloc (Nat.le_refl _) (.cells #[.slice A l.length cap] 22)).trans (hb.mono (by simp)))
    clear hb
    go_wp2_with fail
    go_cut [5, 6] (fun s5 s6 wc => ∃ ga gb A1 k1 A2 k2, isPw s5 ga ∧ isPw s6 gb ∧ CA wc ga [.slice A1 l.length k1] ∧ CA wc gb [.slice A2 l.length k2] ∧ Ints wc wc.heap.size A1 l.length (ear l) ∧ Ints wc wc.heap.size A2 l.length (latP l) ∧ Below W1.heap.size W1 wc)
    case first =>
      refine wp_region_mix (by kernel_rfl) (by kernel_rfl) ?_
      refine wpC_take (f := 6) (by kernel_rfl) (by kernel_rfl) ⟨⟨_, (Below.refl _ _).drew⟩, rfl⟩ [0, 2] _ _ (by kernel_rfl) ?_
      simp only [List.map_cons, List.map_nil, List.getElem?_toArray, List.getElem?_cons_succ, List.getElem?_cons_zero, Option.getD_some]
      repeat (go_big_quiet_step (fail))
      refine wpQuiet_nil ?_
      have hB : Below W1.heap.size W1 W1.drew := (Below.refl _ _).drew
      refine wpC_all (rs := [1, 4, 5]) (by kernel_rfl) (by decide) ?_
      intro i hi
      simp only [List.mem_cons, List.not_mem_nil, or_false] at hi
      rcases hi with rfl | rfl | rfl
      · refine ⟨_, rfl, ?_⟩
        go_simp
        refine (C3.out _ (HB1.out.trans (hB.mono HB1.out.size))).mono ?_
        rintro e WW0 ⟨⟨v9, rfl, ho9⟩, hb9⟩
        obtain ⟨A1, k1, rfl, _, _, hE, hg9⟩ := own_ints ho9
        replace hB := below_step hB hb9
        clear hb9 ho9 hg9
        refine ⟨⟨⟨_, hB⟩, rfl⟩, ?_⟩
        go_simp
        refine wpC_all (rs := [3, 4, 5]) (by kernel_rfl) (by decide) ?_
        intro i hi
        simp only [List.mem_cons, List.not_mem_nil, or_false] at hi
        rcases hi with rfl | rfl | rfl
        · refine ⟨_, rfl, ?_⟩
          go_simp
          refine (C4.out _ (HB1.out.trans (hB.mono HB1.out.size))).mono ?_
          rintro e WW1 ⟨⟨v9, rfl, ho9⟩, hb9⟩
          obtain ⟨A2, k2, rfl, _, _, hL, hg9⟩ := own_ints ho9
          replace hB := below_step hB hb9
          replace hE := (hE.below hb9).more hb9.size
          clear hb9 ho9 hg9
          refine ⟨⟨⟨_, hB⟩, rfl⟩, ?_⟩
          go_simp
          refine wpC_all (rs := [4, 5]) (by kernel_rfl) (by decide) ?_
          intro i hi
          simp only [List.mem_cons, List.not_mem_nil, or_false] at hi
          rcases hi with rfl | rfl
          · refine ⟨_, rfl, ?_⟩
            go_simp
            obtain ⟨ga, hga⟩ : ∃ q, q = (WW1).heap.size := ⟨_, rfl⟩
            have h0ga : W1.heap.size ≤ ga := by rw [hga]; exact hB.size
            have hca : CA ((WW1).alloc (.cells #[.slice none 0 0] 37)) ga [.slice none 0 0] := by rw [hga]; exact CA.new (WW1) [.slice none 0 0] 37
            have nEga : ∀ b off, A1 = some ⟨b, off, none⟩ → b ≠ ga := fun b off he => by
              obtain ⟨b8, off8, e1, e2, _⟩ := hE.2 HPOS.out
              rw [he] at e1; injection e1 with e1; injection e1 with e1 e3 e4
              omega
            replace hE := (hE.below (below_alloc (Below.refl _ _) (.cells #[.slice none 0 0] 37))).more (below_alloc (Below.refl (WW1).heap.size _) (.cells #[.slice none 0 0] 37)).size
            have nLga : ∀ b off, A2 = some ⟨b, off, none⟩ → b ≠ ga := fun b off he => by
              obtain ⟨b8, off8, e1, e2, _⟩ := hL.2 HPOS.out
              rw [he] at e1; injection e1 with e1; injection e1 with e1 e3 e4
              omega
            replace hL := (hL.below (below_alloc (Below.refl _ _) (.cells #[.slice none 0 0] 37))).more (below_alloc (Below.refl (WW1).heap.size _) (.cells #[.slice none 0 0] 37)).size
            replace hB := hB.alloc hB.size (.cells #[.slice none 0 0] 37)
            rw [← hga]
            clear hga
            generalize (WW1).alloc (.cells #[.slice none 0 0] 37) = WW2 at *
            refine ⟨⟨⟨_, hB⟩, rfl⟩, ?_⟩
            refine wpC_all (rs := [5]) (by kernel_rfl) (by decide) ?_
            intro i hi
            simp only [List.mem_cons, List.not_mem_nil, or_false] at hi
            subst hi
            refine ⟨_, rfl, ?_⟩
            go_simp
            obtain ⟨gb, hgb⟩ : ∃ q, q = (WW2).heap.size := ⟨_, rfl⟩
            have h0gb : W1.heap.size ≤ gb := by rw [hgb]; exact hB.size
            have hcb : CA ((WW2).alloc (.cells #[.slice none 0 0] 37)) gb [.slice none 0 0] := by rw [hgb]; exact CA.new (WW2) [.slice none 0 0] 37
            have hne1 : ¬ gb = ga := by have := hca.1; omega
            have hne2 : ¬ ga = gb := by omega
            replace hca := hca.alloc (.cells #[.slice none 0 0] 37)
            have nEgb : ∀ b off, A1 = some ⟨b, off, none⟩ → b ≠ gb := fun b off he => by
              obtain ⟨b8, off8, e1, e2, _⟩ := hE.2 HPOS.out
              rw [he] at e1; injection e1 with e1; injection e1 with e1 e3 e4
              omega
            replace hE := (hE.below (below_alloc (Below.refl _ _) (.cells #[.slice none 0 0] 37))).more (below_alloc (Below.refl (WW2).heap.size _) (.cells #[.slice none 0 0] 37)).size
            have nLgb : ∀ b off, A2 = some ⟨b, off, none⟩ → b ≠ gb := fun b off he => by
              obtain ⟨b8, off8, e1, e2, _⟩ := hL.2 HPOS.out
              rw [he] at e1; injection e1 with e1; injection e1 with e1 e3 e4
              omega
            replace hL := (hL.below (below_alloc (Below.refl _ _) (.cells #[.slice none 0 0] 37))).more (below_alloc (Below.refl (WW2).heap.size _) (.cells #[.slice none 0 0] 37)).size
            replace hB := hB.alloc hB.size (.cells #[.slice none 0 0] 37)
            rw [← hgb]
            clear hgb
            generalize (WW2).alloc (.cells #[.slice none 0 0] 37) = WW3 at *
            refine ⟨⟨⟨_, hB⟩, rfl⟩, ?_⟩
            refine wpC_all (rs := [6]) (by kernel_rfl) (by decide) ?_
            intro i hi
            simp only [List.mem_cons, List.not_mem_nil, or_false] at hi
            subst hi
            refine ⟨_, rfl, ?_⟩
            obtain ⟨z0, f0⟩ := hca.2 0 _ rfl
            go_simp
            replace hca := hca.set (k := 0) (by simp) (.slice A1 l.length k1)
            simp only [List.set_cons_zero] at hca
            replace hcb := hcb.other (p := ⟨ga, 0, none⟩) (show ga ≠ gb by omega) (.slice A1 l.length k1)
            replace hE : Ints (WW3.setCell ⟨ga, 0, none⟩ (.slice A1 l.length k1)) (WW3.setCell ⟨ga, 0, none⟩ (.slice A1 l.length k1)).heap.size A1 l.length (ear l) := by
              rw [World.size_setCell]
              exact hE.keep nEga (fun q _ hq => Below.heap_setCell _ ⟨ga, 0, none⟩ (.slice A1 l.length k1) q hq)
            replace hL : Ints (WW3.setCell ⟨ga, 0, none⟩ (.slice A1 l.length k1)) (WW3.setCell ⟨ga, 0, none⟩ (.slice A1 l.length k1)).heap.size A2 l.length (latP l) := by
              rw [World.size_setCell]
              exact hL.keep nLga (fun q _ hq => Below.heap_setCell _ ⟨ga, 0, none⟩ (.slice A1 l.length k1) q hq)
            replace hB := hB.setCell (p := ⟨ga, 0, none⟩) h0ga (.slice A1 l.length k1)
            clear z0 f0
            generalize WW3.setCell ⟨ga, 0, none⟩ (.slice A1 l.length k1) = WW4 at *
            refine ⟨⟨⟨_, hB⟩, rfl⟩, ?_⟩
            refine wpC_all (rs := [7]) (by kernel_rfl) (by decide) ?_
            intro i hi
            simp only [List.mem_cons, List.not_mem_nil, or_false] at hi
            subst hi
            refine ⟨_, rfl, ?_⟩
            obtain ⟨z0, f0⟩ := hcb.2 0 _ rfl
            go_simp
            replace hcb := hcb.set (k := 0) (by simp) (.slice A2 l.length k2)
            simp only [List.set_cons_zero] at hcb
            replace hca := hca.other (p := ⟨gb, 0, none⟩) (show gb ≠ ga by omega) (.slice A2 l.length k2)
            replace hE : Ints (WW4.setCell ⟨gb, 0, none⟩ (.slice A2 l.length k2)) (WW4.setCell ⟨gb, 0, none⟩ (.slice A2 l.length k2)).heap.size A1 l.length (ear l) := by
              rw [World.size_setCell]
              exact hE.keep nEgb (fun q _ hq => Below.heap_setCell _ ⟨gb, 0, none⟩ (.slice A2 l.length k2) q hq)
            replace hL : Ints (WW4.setCell ⟨gb, 0, none⟩ (.slice A2 l.length k2)) (WW4.setCell ⟨gb, 0, none⟩ (.slice A2 l.length k2)).heap.size A2 l.length (latP l) := by
              rw [World.size_setCell]
              exact hL.keep nLgb (fun q _ hq => Below.heap_setCell _ ⟨gb, 0, none⟩ (.slice A2 l.length k2) q hq)
            replace hB := hB.setCell (p := ⟨gb, 0, none⟩) h0gb (.slice A2 l.length k2)
            clear z0 f0
            generalize WW4.setCell ⟨gb, 0, none⟩ (.slice A2 l.length k2) = WW5 at *
            refine ⟨⟨⟨_, hB⟩, rfl⟩, ?_⟩
            refine wpC_done (by kernel_rfl) ?_
            go_wp2_with fail
            go_meet
            case rel => exact ⟨_, _, _, _, _, _, rfl, rfl, hca, hcb, hE, hL, hB⟩
          · refine ⟨_, rfl, ?_⟩
            go_simp
            obtain ⟨gb, hgb⟩ : ∃ q, q = (WW1).heap.size := ⟨_, rfl⟩
            have h0gb : W1.heap.size ≤ gb := by rw [hgb]; exact hB.size
            have hcb : CA ((WW1).alloc (.cells #[.slice none 0 0] 37)) gb [.slice none 0 0] := by rw [hgb]; exact CA.new (WW1) [.slice none 0 0] 37
            have nEgb : ∀ b off, A1 = some ⟨b, off, none⟩ → b ≠ gb := fun b off he => by
              obtain ⟨b8, off8, e1, e2, _⟩ := hE.2 HPOS.out
              rw [he] at e1; injection e1 with e1; injection e1 with e1 e3 e4
              omega
            replace hE := (hE.below (below_alloc (Below.refl _ _) (.cells #[.slice none 0 0] 37))).more (below_alloc (Below.refl (WW1).heap.size _) (.cells #[.slice none 0 0] 37)).size
            have nLgb : ∀ b off, A2 = some ⟨b, off, none⟩ → b ≠ gb := fun b off he => by
              obtain ⟨b8, off8, e1, e2, _⟩ := hL.2 HPOS.out
              rw [he] at e1; injection e1 with e1; injection e1 with e1 e3 e4
              omega
            replace hL := (hL.below (below_alloc (Below.refl _ _) (.cells #[.slice none 0 0] 37))).more (below_alloc (Below.refl (WW1).heap.size _) (.cells #[.slice none 0 0] 37)).size
            replace hB := hB.alloc hB.size (.cells #[.slice none 0 0] 37)
            rw [← hgb]
            clear hgb
            generalize (WW1).alloc (.cells #[.slice none 0 0] 37) = WW2 at *
            refine ⟨⟨⟨_, hB⟩, rfl⟩, ?_⟩
            refine wpC_all (rs := [4]) (by kernel_rfl) (by decide) ?_
            intro i hi
            simp only [List.mem_cons, List.not_mem_nil, or_false] at hi
            subst hi
            refine ⟨_, rfl, ?_⟩
            go_simp
            obtain ⟨ga, hga⟩ : ∃ q, q = (WW2).heap.size := ⟨_, rfl⟩
            have h0ga : W1.heap.size ≤ ga := by rw [hga]; exact hB.size
            have hca : CA ((WW2).alloc (.cells #[.slice none 0 0] 37)) ga [.slice none 0 0] := by rw [hga]; exact CA.new (WW2) [.slice none 0 0] 37
            have hne1 : ¬ ga = gb := by have := hcb.1; omega
            have hne2 : ¬ gb = ga := by omega
            replace hcb := hcb.alloc (.cells #[.slice none 0 0] 37)
            have nEga : ∀ b off, A1 = some ⟨b, off, none⟩ → b ≠ ga := fun b off he => by
              obtain ⟨b8, off8, e1, e2, _⟩ := hE.2 HPOS.out
              rw [he] at e1; injection e1 with e1; injection e1 with e1 e3 e4
              omega
            replace hE := (hE.below (below_alloc (Below.refl _ _) (.cells #[.slice none 0 0] 37))).more (below_alloc (Below.refl (WW2).heap.size _) (.cells #[.slice none 0 0] 37)).size
            have nLga : ∀ b off, A2 = some ⟨b, off, none⟩ → b ≠ ga := fun b off he => by
              obtain ⟨b8, off8, e1, e2, _⟩ := hL.2 HPOS.out
              rw [he] at e1; injection e1 with e1; injection e1 with e1 e3 e4
              omega
            replace hL := (hL.below (below_alloc (Below.refl _ _) (.cells #[.slice none 0 0] 37))).more (below_alloc (Below.refl (WW2).heap.size _) (.cells #[.slice none 0 0] 37)).size
            replace hB := hB.alloc hB.size (.cells #[.slice none 0 0] 37)
            rw [← hga]
            clear hga
            generalize (WW2).alloc (.cells #[.slice none 0 0] 37) = WW3 at *
            refine ⟨⟨⟨_, hB⟩, rfl⟩, ?_⟩
            refine wpC_all (rs := [6]) (by kernel_rfl) (by decide) ?_
            intro i hi
            simp only [List.mem_cons, List.not_mem_nil, or_false] at hi
            subst hi
            refine ⟨_, rfl, ?_⟩
            obtain ⟨z0, f0⟩ := hca.2 0 _ rfl
            go_simp
            replace hca := hca.set (k := 0) (by simp) (.slice A1 l.length k1)
            simp only [List.set_cons_zero] at hca
            replace hcb := hcb.other (p := ⟨ga, 0, none⟩) (show ga ≠ gb by omega) (.slice A1 l.length k1)
            replace hE : Ints (WW3.setCell ⟨ga, 0, none⟩ (.slice A1 l.length k1)) (WW3.setCell ⟨ga, 0, none⟩ (.slice A1 l.length k1)).heap.size A1 l.length (ear l) := by
              rw [World.size_setCell]
              exact hE.keep nEga (fun q _ hq => Below.heap_setCell _ ⟨ga, 0, none⟩ (.slice A1 l.length k1) q hq)
            replace hL : Ints (WW3.setCell ⟨ga, 0, none⟩ (.slice A1 l.length k1)) (WW3.setCell ⟨ga, 0, none⟩ (.slice A1 l.length k1)).heap.size A2 l.length (latP l) := by
              rw [World.size_setCell]
              exact hL.keep nLga (fun q _ hq => Below.heap_setCell _ ⟨ga, 0, none⟩ (.slice A1 l.length k1) q hq)
            replace hB := hB.setCell (p := ⟨ga, 0, none⟩) h0ga (.slice A1 l.length k1)
            clear z0 f0
            generalize WW3.setCell ⟨ga, 0, none⟩ (.slice A1 l.length k1) = WW4 at *
            refine ⟨⟨⟨_, hB⟩, rfl⟩, ?_⟩
            refine wpC_all (rs := [7]) (by kernel_rfl) (by decide) ?_
            intro i hi
            simp only [List.mem_cons, List.not_mem_nil, or_false] at hi
            subst hi
            refine ⟨_, rfl, ?_⟩
            obtain ⟨z0, f0⟩ := hcb.2 0 _ rfl
            go_simp
            replace hcb := hcb.set (k := 0) (by simp) (.slice A2 l.length k2)
            simp only [List.set_cons_zero] at hcb
            replace hca := hca.other (p := ⟨gb, 0, none⟩) (show gb ≠ ga by omega) (.slice A2 l.length k2)
            replace hE : Ints (WW4.setCell ⟨gb, 0, none⟩ (.slice A2 l.length k2)) (WW4.setCell ⟨gb, 0, none⟩ (.slice A2 l.length k2)).heap.size A1 l.length (ear l) := by
              rw [World.size_setCell]
              exact hE.keep nEgb (fun q _ hq => Below.heap_setCell _ ⟨gb, 0, none⟩ (.slice A2 l.length k2) q hq)
            replace hL : Ints (WW4.setCell ⟨gb, 0, none⟩ (.slice A2 l.length k2)) (WW4.setCell ⟨gb, 0, none⟩ (.slice A2 l.length k2)).heap.size A2 l.length (latP l) := by
              rw [World.size_setCell]
              exact hL.keep nLgb (fun q _ hq => Below.heap_setCell _ ⟨gb, 0, none⟩ (.slice A2 l.length k2) q hq)
            replace hB := hB.setCell (p := ⟨gb, 0, none⟩) h0gb (.slice A2 l.length k2)
            clear z0 f0
            generalize WW4.setCell ⟨gb, 0, none⟩ (.slice A2 l.length k2) = WW5 at *
            refine ⟨⟨⟨_, hB⟩, rfl⟩, ?_⟩
            refine wpC_done (by kernel_rfl) ?_
            go_wp2_with fail
            go_meet
            case rel => exact ⟨_, _, _, _, _, _, rfl, rfl, hca, hcb, hE, hL, hB⟩
        · refine ⟨_, rfl, ?_⟩
          go_simp
          obtain ⟨ga, hga⟩ : ∃ q, q = (WW0).heap.size := ⟨_, rfl⟩
          have h0ga : W1.heap.size ≤ ga := by rw [hga]; exact hB.size
          have hca : CA ((WW0).alloc (.cells #[.slice none 0 0] 37)) ga [.slice none 0 0] := by rw [hga]; exact CA.new (WW0) [.slice none 0 0] 37
          have nEga : ∀ b off, A1 = some ⟨b, off, none⟩ → b ≠ ga := fun b off he => by
            obtain ⟨b8, off8, e1, e2, _⟩ := hE.2 HPOS.out
            rw [he] at e1; injection e1 with e1; injection e1 with e1 e3 e4
            omega
          replace hE := (hE.below (below_alloc (Below.refl _ _) (.cells #[.slice none 0 0] 37))).more (below_alloc (Below.refl (WW0).heap.size _) (.cells #[.slice none 0 0] 37)).size
          replace hB := hB.alloc hB.size (.cells #[.slice none 0 0] 37)
          rw [← hga]
          clear hga
          generalize (WW0).alloc (.cells #[.slice none 0 0] 37) = WW1 at *
          refine ⟨⟨⟨_, hB⟩, rfl⟩, ?_⟩
          refine wpC_all (rs := [3, 5]) (by kernel_rfl) (by decide) ?_
          intro i hi
          simp only [List.mem_cons, List.not_mem_nil, or_false] at hi
          rcases hi with rfl | rfl
          · refine ⟨_, rfl, ?_⟩
            go_simp
            refine (C4.out _ (HB1.out.trans (hB.mono HB1.out.size))).mono ?_
            rintro e WW2 ⟨⟨v9, rfl, ho9⟩, hb9⟩
            obtain ⟨A2, k2, rfl, _, _, hL, hg9⟩ := own_ints ho9
            have nLga : ∀ b off, A2 = some ⟨b, off, none⟩ → b ≠ ga := fun b off he => by
              obtain ⟨g', e1, e2, _⟩ := hg9 HPOS.out
              have hlt9 := hca.1
              rw [he] at e1; injection e1 with e1; injection e1 with e1 e3 e4
              omega
            replace hB := below_step hB hb9
            replace hca := hca.later hb9
            replace hE := (hE.below hb9).more hb9.size
            clear hb9 ho9 hg9
            refine ⟨⟨⟨_, hB⟩, rfl⟩, ?_⟩
            go_simp
            refine wpC_all (rs := [5]) (by kernel_rfl) (by decide) ?_
            intro i hi
            simp only [List.mem_cons, List.not_mem_nil, or_false] at hi
            subst hi
            refine ⟨_, rfl, ?_⟩
            go_simp
            obtain ⟨gb, hgb⟩ : ∃ q, q = (WW2).heap.size := ⟨_, rfl⟩
            have h0gb : W1.heap.size ≤ gb := by rw [hgb]; exact hB.size
            have hcb : CA ((WW2).alloc (.cells #[.slice none 0 0] 37)) gb [.slice none 0 0] := by rw [hgb]; exact CA.new (WW2) [.slice none 0 0] 37
            have hne1 : ¬ gb = ga := by have := hca.1; omega
            have hne2 : ¬ ga = gb := by omega
            replace hca := hca.alloc (.cells #[.slice none 0 0] 37)
            have nEgb : ∀ b off, A1 = some ⟨b, off, none⟩ → b ≠ gb := fun b off he => by
              obtain ⟨b8, off8, e1, e2, _⟩ := hE.2 HPOS.out
              rw [he] at e1; injection e1 with e1; injection e1 with e1 e3 e4
              omega
            replace hE := (hE.below (below_alloc (Below.refl _ _) (.cells #[.slice none 0 0] 37))).more (below_alloc (Below.refl (WW2).heap.size _) (.cells #[.slice none 0 0] 37)).size
            have nLgb : ∀ b off, A2 = some ⟨b, off, none⟩ → b ≠ gb := fun b off he => by
              obtain ⟨b8, off8, e1, e2, _⟩ := hL.2 HPOS.out
              rw [he] at e1; injection e1 with e1; injection e1 with e1 e3 e4
              omega
            replace hL := (hL.below (below_alloc (Below.refl _ _) (.cells #[.slice none 0 0] 37))).more (below_alloc (Below.refl (WW2).heap.size _) (.cells #[.slice none 0 0] 37)).size
            replace hB := hB.alloc hB.size (.cells #[.slice none 0 0] 37)
            rw [← hgb]
            clear hgb
            generalize (WW2).alloc (.cells #[.slice none 0 0] 37) = WW3 at *
            refine ⟨⟨⟨_, hB⟩, rfl⟩, ?_⟩
            refine wpC_all (rs := [6]) (by kernel_rfl) (by decide) ?_
            intro i hi
            simp only [List.mem_cons, List.not_mem_nil, or_false] at hi
            subst hi
            refine ⟨_, rfl, ?_⟩
            obtain ⟨z0, f0⟩ := hca.2 0 _ rfl
            go_simp
            replace hca := hca.set (k := 0) (by simp) (.slice A1 l.length k1)
            simp only [List.set_cons_zero] at hca
            replace hcb := hcb.other (p := ⟨ga, 0, none⟩) (show ga ≠ gb by omega) (.slice A1 l.length k1)
            replace hE : Ints (WW3.setCell ⟨ga, 0, none⟩ (.slice A1 l.length k1)) (WW3.setCell ⟨ga, 0, none⟩ (.slice A1 l.length k1)).heap.size A1 l.length (ear l) := by
              rw [World.size_setCell]
              exact hE.keep nEga (fun q _ hq => Below.heap_setCell _ ⟨ga, 0, none⟩ (.slice A1 l.length k1) q hq)
            replace hL : Ints (WW3.setCell ⟨ga, 0, none⟩ (.slice A1 l.length k1)) (WW3.setCell ⟨ga, 0, none⟩ (.slice A1 l.length k1)).heap.size A2 l.length (latP l) := by
              rw [World.size_setCell]
              exact hL.keep nLga (fun q _ hq => Below.heap_setCell _ ⟨ga, 0, none⟩ (.slice A1 l.length k1) q hq)
            replace hB := hB.setCell (p := ⟨ga, 0, none⟩) h0ga (.slice A1 l.length k1)
            clear z0 f0
            generalize WW3.setCell ⟨ga, 0, none⟩ (.slice A1 l.length k1) = WW4 at *
            refine ⟨⟨⟨_, hB⟩, rfl⟩, ?_⟩
            refine wpC_all (rs := [7]) (by kernel_rfl) (by decide) ?_
            intro i hi
            simp only [List.mem_cons, List.not_mem_nil, or_false] at hi
            subst hi
            refine ⟨_, rfl, ?_⟩
            obtain ⟨z0, f0⟩ := hcb.2 0 _ rfl
            go_simp
            replace hcb := hcb.set (k := 0) (by simp) (.slice A2 l.length k2)
            simp only [List.set_cons_zero] at hcb
            replace hca := hca.other (p := ⟨gb, 0, none⟩) (show gb ≠ ga by omega) (.slice A2 l.length k2)
            replace hE : Ints (WW4.setCell ⟨gb, 0, none⟩ (.slice A2 l.length k2)) (WW4.setCell ⟨gb, 0, none⟩ (.slice A2 l.length k2)).heap.size A1 l.length (ear l) := by
              rw [World.size_setCell]
              exact hE.keep nEgb (fun q _ hq => Below.heap_setCell _ ⟨gb, 0, none⟩ (.slice A2 l.length k2) q hq)
            replace hL : Ints (WW4.setCell ⟨gb, 0, none⟩ (.slice A2 l.length k2)) (WW4.setCell ⟨gb, 0, none⟩ (.slice A2 l.length k2)).heap.size A2 l.length (latP l) := by
              rw [World.size_setCell]
              exact hL.keep nLgb (fun q _ hq => Below.heap_setCell _ ⟨gb, 0, none⟩ (.slice A2 l.length k2) q hq)
            replace hB := hB.setCell (p := ⟨gb, 0, none⟩) h0gb (.slice A2 l.length k2)
            clear z0 f0
            generalize WW4.setCell ⟨gb, 0, none⟩ (.slice A2 l.length k2) = WW5 at *
            refine ⟨⟨⟨_, hB⟩, rfl⟩, ?_⟩
            refine wpC_done (by kernel_rfl) ?_
            go_wp2_with fail
            go_meet
            case rel => exact ⟨_, _, _, _, _, _, rfl, rfl, hca, hcb, hE, hL, hB⟩
          · refine ⟨_, rfl, ?_⟩
            go_simp
            obtain ⟨gb, hgb⟩ : ∃ q, q = (WW1).heap.size := ⟨_, rfl⟩
            have h0gb : W1.heap.size ≤ gb := by rw [hgb]; exact hB.size
            have hcb : CA ((WW1).alloc (.cells #[.slice none 0 0] 37)) gb [.slice none 0 0] := by rw [hgb]; exact CA.new (WW1) [.slice none 0 0] 37
            have hne1 : ¬ gb = ga := by have := hca.1; omega
            have hne2 : ¬ ga = gb := by omega
            replace hca := hca.alloc (.cells #[.slice none 0 0] 37)
            have nEgb : ∀ b off, A1 = some ⟨b, off, none⟩ → b ≠ gb := fun b off he => by
              obtain ⟨b8, off8, e1, e2, _⟩ := hE.2 HPOS.out
              rw [he] at e1; injection e1 with e1; injection e1 with e1 e3 e4
              omega
            replace hE := (hE.below (below_alloc (Below.refl _ _) (.cells #[.slice none 0 0] 37))).more (below_alloc (Below.refl (WW1).heap.size _) (.cells #[.slice none 0 0] 37)).size
            replace hB := hB.alloc hB.size (.cells #[.slice none 0 0] 37)
            rw [← hgb]
            clear hgb
            generalize (WW1).alloc (.cells #[.slice none 0 0] 37) = WW2 at *
            refine ⟨⟨⟨_, hB⟩, rfl⟩, ?_⟩
            refine wpC_all (rs := [3]) (by kernel_rfl) (by decide) ?_
            intro i hi
            simp only [List.mem_cons, List.not_mem_nil, or_false] at hi
            subst hi
            refine ⟨_, rfl, ?_⟩
            go_simp
            refine (C4.out _ (HB1.out.trans (hB.mono HB1.out.size))).mono ?_
            rintro e WW3 ⟨⟨v9, rfl, ho9⟩, hb9⟩
            obtain ⟨A2, k2, rfl, _, _, hL, hg9⟩ := own_ints ho9
            have nLga : ∀ b off, A2 = some ⟨b, off, none⟩ → b ≠ ga := fun b off he => by
              obtain ⟨g', e1, e2, _⟩ := hg9 HPOS.out
              have hlt9 := hca.1
              rw [he] at e1; injection e1 with e1; injection e1 with e1 e3 e4
              omega
            have nLgb : ∀ b off, A2 = some ⟨b, off, none⟩ → b ≠ gb := fun b off he => by
              obtain ⟨g', e1, e2, _⟩ := hg9 HPOS.out
              have hlt9 := hcb.1
              rw [he] at e1; injection e1 with e1; injection e1 with e1 e3 e4
              omega
            replace hB := below_step hB hb9
            replace hca := hca.later hb9
            replace hcb := hcb.later hb9
            replace hE := (hE.below hb9).more hb9.size
            clear hb9 ho9 hg9
            refine ⟨⟨⟨_, hB⟩, rfl⟩, ?_⟩
            go_simp
            refine wpC_all (rs := [6]) (by kernel_rfl) (by decide) ?_
            intro i hi
            simp only [List.mem_cons, List.not_mem_nil, or_false] at hi
            subst hi
            refine ⟨_, rfl, ?_⟩
            obtain ⟨z0, f0⟩ := hca.2 0 _ rfl
            go_simp
            replace hca := hca.set (k := 0) (by simp) (.slice A1 l.length k1)
            simp only [List.set_cons_zero] at hca
            replace hcb := hcb.other (p := ⟨ga, 0, none⟩) (show ga ≠ gb by omega) (.slice A1 l.length k1)
            replace hE : Ints (WW3.setCell ⟨ga, 0, none⟩ (.slice A1 l.length k1)) (WW3.setCell ⟨ga, 0, none⟩ (.slice A1 l.length k1)).heap.size A1 l.length (ear l) := by
              rw [World.size_setCell]
              exact hE.keep nEga (fun q _ hq => Below.heap_setCell _ ⟨ga, 0, none⟩ (.slice A1 l.length k1) q hq)
            replace hL : Ints (WW3.setCell ⟨ga, 0, none⟩ (.slice A1 l.length k1)) (WW3.setCell ⟨ga, 0, none⟩ (.slice A1 l.length k1)).heap.size A2 l.length (latP l) := by
              rw [World.size_setCell]
              exact hL.keep nLga (fun q _ hq => Below.heap_setCell _ ⟨ga, 0, none⟩ (.slice A1 l.length k1) q hq)
            replace hB := hB.setCell (p := ⟨ga, 0, none⟩) h0ga (.slice A1 l.length k1)
            clear z0 f0
            generalize WW3.setCell ⟨ga, 0, none⟩ (.slice A1 l.length k1) = WW4 at *
            refine ⟨⟨⟨_, hB⟩, rfl⟩, ?_⟩
            refine wpC_all (rs := [7]) (by kernel_rfl) (by decide) ?_
            intro i hi
            simp only [List.mem_cons, List.not_mem_nil, or_false] at hi
            subst hi
            refine ⟨_, rfl, ?_⟩
            obtain ⟨z0, f0⟩ := hcb.2 0 _ rfl
            go_simp
            replace hcb := hcb.set (k := 0) (by simp) (.slice A2 l.length k2)
            simp only [List.set_cons_zero] at hcb
            replace hca := hca.other (p := ⟨gb, 0, none⟩) (show gb ≠ ga by omega) (.slice A2 l.length k2)
            replace hE : Ints (WW4.setCell ⟨gb, 0, none⟩ (.slice A2 l.length k2)) (WW4.setCell ⟨gb, 0, none⟩ (.slice A2 l.length k2)).heap.size A1 l.length (ear l) := by
              rw [World.size_setCell]
              exact hE.keep nEgb (fun q _ hq => Below.heap_setCell _ ⟨gb, 0, none⟩ (.slice A2 l.length k2) q hq)
            replace hL : Ints (WW4.setCell ⟨gb, 0, none⟩ (.slice A2 l.length k2)) (WW4.setCell ⟨gb, 0, none⟩ (.slice A2 l.length k2)).heap.size A2 l.length (latP l) := by
              rw [World.size_setCell]
              exact hL.keep nLgb (fun q _ hq => Below.heap_setCell _ ⟨gb, 0, none⟩ (.slice A2 l.length k2) q hq)
            replace hB := hB.setCell (p := ⟨gb, 0, none⟩) h0gb (.slice A2 l.length k2)
            clear z0 f0
            generalize WW4.setCell ⟨gb, 0, none⟩ (.slice A2 l.length k2) = WW5 at *
            refine ⟨⟨⟨_, hB⟩, rfl⟩, ?_⟩
            refine wpC_done (by kernel_rfl) ?_
            go_wp2_with fail
            go_meet
            case rel => exact ⟨_, _, _, _, _, _, rfl, rfl, hca, hcb, hE, hL, hB⟩
        · refine ⟨_, rfl, ?_⟩
          go_simp
          obtain ⟨gb, hgb⟩ : ∃ q, q = (WW0).heap.size := ⟨_, rfl⟩
          have h0gb : W1.heap.size ≤ gb := by rw [hgb]; exact hB.size
          have hcb : CA ((WW0).alloc (.cells #[.slice none 0 0] 37)) gb [.slice none 0 0] := by rw [hgb]; exact CA.new (WW0) [.slice none 0 0] 37
          have nEgb : ∀ b off, A1 = some ⟨b, off, none⟩ → b ≠ gb := fun b off he => by
            obtain ⟨b8, off8, e1, e2, _⟩ := hE.2 HPOS.out
            rw [he] at e1; injection e1 with e1; injection e1 with e1 e3 e4
            omega
          replace hE := (hE.below (below_alloc (Below.refl _ _) (.cells #[.slice none 0 0] 37))).more (below_alloc (Below.refl (WW0).heap.size _) (.cells #[.slice none 0 0] 37)).size
          replace hB := hB.alloc hB.size (.cells #[.slice none 0 0] 37)
          rw [← hgb]
          clear hgb
          generalize (WW0).alloc (.cells #[.slice none 0 0] 37) = WW1 at *
          refine ⟨⟨⟨_, hB⟩, rfl⟩, ?_⟩
          refine wpC_all (rs := [3, 4]) (by kernel_rfl) (by decide) ?_
          intro i hi
          simp only [List.mem_cons, List.not_mem_nil, or_false] at hi
          rcases hi with rfl | rfl
          · refine ⟨_, rfl, ?_⟩
            go_simp
            refine (C4.out _ (HB1.out.trans (hB.mono HB1.out.size))).mono ?_
            rintro e WW2 ⟨⟨v9, rfl, ho9⟩, hb9⟩
            obtain ⟨A2, k2, rfl, _, _, hL, hg9⟩ := own_ints ho9
            have nLgb : ∀ b off, A2 = some ⟨b, off, none⟩ → b ≠ gb := fun b off he => by
              obtain ⟨g', e1, e2, _⟩ := hg9 HPOS.out
              have hlt9 := hcb.1
              rw [he] at e1; injection e1 with e1; injection e1 with e1 e3 e4
              omega
            replace hB := below_step hB hb9
            replace hcb := hcb.later hb9
            replace hE := (hE.below hb9).more hb9.size
            clear hb9 ho9 hg9
            refine ⟨⟨⟨_, hB⟩, rfl⟩, ?_⟩
            go_simp
            refine wpC_all (rs := [4]) (by kernel_rfl) (by decide) ?_
            intro i hi
            simp only [List.mem_cons, List.not_mem_nil, or_false] at hi
            subst hi
            refine ⟨_, rfl, ?_⟩
            go_simp
            obtain ⟨ga, hga⟩ : ∃ q, q = (WW2).heap.size := ⟨_, rfl⟩
            have h0ga : W1.heap.size ≤ ga := by rw [hga]; exact hB.size
            have hca : CA ((WW2).alloc (.cells #[.slice none 0 0] 37)) ga [.slice none 0 0] := by rw [hga]; exact CA.new (WW2) [.slice none 0 0] 37
            have hne1 : ¬ ga = gb := by have := hcb.1; omega
            have hne2 : ¬ gb = ga := by omega
            replace hcb := hcb.alloc (.cells #[.slice none 0 0] 37)
            have nEga : ∀ b off, A1 = some ⟨b, off, none⟩ → b ≠ ga := fun b off he => by
              obtain ⟨b8, off8, e1, e2, _⟩ := hE.2 HPOS.out
              rw [he] at e1; injection e1 with e1; injection e1 with e1 e3 e4
              omega
            replace hE := (hE.below (below_alloc (Below.refl _ _) (.cells #[.slice none 0 0] 37))).more (below_alloc (Below.refl (WW2).heap.size _) (.cells #[.slice none 0 0] 37)).size
            have nLga : ∀ b off, A2 = some ⟨b, off, none⟩ → b ≠ ga := fun b off he => by
              obtain ⟨b8, off8, e1, e2, _⟩ := hL.2 HPOS.out
              rw [he] at e1; injection e1 with e1; injection e1 with e1 e3 e4
              omega
            replace hL := (hL.below (below_alloc (Below.refl _ _) (.cells #[.slice none 0 0] 37))).more (below_alloc (Below.refl (WW2).heap.size _) (.cells #[.slice none 0 0] 37)).size
            replace hB := hB.alloc hB.size (.cells #[.slice none 0 0] 37)
            rw [← hga]
            clear hga
            generalize (WW2).alloc (.cells #[.slice none 0 0] 37) = WW3 at *
            refine ⟨⟨⟨_, hB⟩, rfl⟩, ?_⟩
            refine wpC_all (rs := [6]) (by kernel_rfl) (by decide) ?_
            intro i hi
            simp only [List.mem_cons, List.not_mem_nil, or_false] at hi
            subst hi
            refine ⟨_, rfl, ?_⟩
            obtain ⟨z0, f0⟩ := hca.2 0 _ rfl
            go_simp
            replace hca := hca.set (k := 0) (by simp) (.slice A1 l.length k1)
            simp only [List.set_cons_zero] at hca
            replace hcb := hcb.other (p := ⟨ga, 0, none⟩) (show ga ≠ gb by omega) (.slice A1 l.length k1)
            replace hE : Ints (WW3.setCell ⟨ga, 0, none⟩ (.slice A1 l.length k1)) (WW3.setCell ⟨ga, 0, none⟩ (.slice A1 l.length k1)).heap.size A1 l.length (ear l) := by
              rw [World.size_setCell]
              exact hE.keep nEga (fun q _ hq => Below.heap_setCell _ ⟨ga, 0, none⟩ (.slice A1 l.length k1) q hq)
            replace hL : Ints (WW3.setCell ⟨ga, 0, none⟩ (.slice A1 l.length k1)) (WW3.setCell ⟨ga, 0, none⟩ (.slice A1 l.length k1)).heap.size A2 l.length (latP l) := by
              rw [World.size_setCell]
              exact hL.keep nLga (fun q _ hq => Below.heap_setCell _ ⟨ga, 0, none⟩ (.slice A1 l.length k1) q hq)
            replace hB := hB.setCell (p := ⟨ga, 0, none⟩) h0ga (.slice A1 l.length k1)
            clear z0 f0
            generalize WW3.setCell ⟨ga, 0, none⟩ (.slice A1 l.length k1) = WW4 at *
            refine ⟨⟨⟨_, hB⟩, rfl⟩, ?_⟩
            refine wpC_all (rs := [7]) (by kernel_rfl) (by decide) ?_
            intro i hi
            simp only [List.mem_cons, List.not_mem_nil, or_false] at hi
            subst hi
            refine ⟨_, rfl, ?_⟩
            obtain ⟨z0, f0⟩ := hcb.2 0 _ rfl
            go_simp
            replace hcb := hcb.set (k := 0) (by simp) (.slice A2 l.length k2)
            simp only [List.set_cons_zero] at hcb
            replace hca := hca.other (p := ⟨gb, 0, none⟩) (show gb ≠ ga by omega) (.slice A2 l.length k2)
            replace hE : Ints (WW4.setCell ⟨gb, 0, none⟩ (.slice A2 l.length k2)) (WW4.setCell ⟨gb, 0, none⟩ (.slice A2 l.length k2)).heap.size A1 l.length (ear l) := by
              rw [World.size_setCell]
              exact hE.keep nEgb (fun q _ hq => Below.heap_setCell _ ⟨gb, 0, none⟩ (.slice A2 l.length k2) q hq)
            replace hL : Ints (WW4.setCell ⟨gb, 0, none⟩ (.slice A2 l.length k2)) (WW4.setCell ⟨gb, 0, none⟩ (.slice A2 l.length k2)).heap.size A2 l.length (latP l) := by
              rw [World.size_setCell]
              exact hL.keep nLgb (fun q _ hq => Below.heap_setCell _ ⟨gb, 0, none⟩ (.slice A2 l.length k2) q hq)
            replace hB := hB.setCell (p := ⟨gb, 0, none⟩) h0gb (.slice A2 l.length k2)
            clear z0 f0
            generalize WW4.setCell ⟨gb, 0, none⟩ (.slice A2 l.length k2) = WW5 at *
            refine ⟨⟨⟨_, hB⟩, rfl⟩, ?_⟩
            refine wpC_done (by kernel_rfl) ?_
            go_wp2_with fail
            go_meet
            case rel => exact ⟨_, _, _, _, _, _, rfl, rfl, hca, hcb, hE, hL, hB⟩
          · refine ⟨_, rfl, ?_⟩
            go_simp
            obtain ⟨ga, hga⟩ : ∃ q, q = (WW1).heap.size := ⟨_, rfl⟩
            have h0ga : W1.heap.size ≤ ga := by rw [hga]; exact hB.size
            have hca : CA ((WW1).alloc (.cells #[.slice none 0 0] 37)) ga [.slice none 0 0] := by rw [hga]; exact CA.new (WW1) [.slice none 0 0] 37
            have hne1 : ¬ ga = gb := by have := hcb.1; omega
            have hne2 : ¬ gb = ga := by omega
            replace hcb := hcb.alloc (.cells #[.slice none 0 0] 37)
            have nEga : ∀ b off, A1 = some ⟨b, off, none⟩ → b ≠ ga := fun b off he => by
              obtain ⟨b8, off8, e1, e2, _⟩ := hE.2 HPOS.out
              rw [he] at e1; injection e1 with e1; injection e1 with e1 e3 e4
              omega
            replace hE := (hE.below (below_alloc (Below.refl _ _) (.cells #[.slice none 0 0] 37))).more (below_alloc (Below.refl (WW1).heap.size _) (.cells #[.slice none 0 0] 37)).size
            replace hB := hB.alloc hB.size (.cells #[.slice none 0 0] 37)
            rw [← hga]
            clear hga
            generalize (WW1).alloc (.cells #[.slice none 0 0] 37) = WW2 at *
            refine ⟨⟨⟨_, hB⟩, rfl⟩, ?_⟩
            refine wpC_all (rs := [3]) (by kernel_rfl) (by decide) ?_
            intro i hi
            simp only [List.mem_cons, List.not_mem_nil, or_false] at hi
            subst hi
            refine ⟨_, rfl, ?_⟩
            go_simp
            refine (C4.out _ (HB1.out.trans (hB.mono HB1.out.size))).mono ?_
            rintro e WW3 ⟨⟨v9, rfl, ho9⟩, hb9⟩
            obtain ⟨A2, k2, rfl, _, _, hL, hg9⟩ := own_ints ho9
            have nLga : ∀ b off, A2 = some ⟨b, off, none⟩ → b ≠ ga := fun b off he => by
              obtain ⟨g', e1, e2, _⟩ := hg9 HPOS.out
              have hlt9 := hca.1
              rw [he] at e1; injection e1 with e1; injection e1 with e1 e3 e4
              omega
            have nLgb : ∀ b off, A2 = some ⟨b, off, none⟩ → b ≠ gb := fun b off he => by
              obtain ⟨g', e1, e2, _⟩ := hg9 HPOS.out
              have hlt9 := hcb.1
              rw [he] at e1; injection e1 with e1; injection e1 with e1 e3 e4
              omega
            replace hB := below_step hB hb9
            replace hca := hca.later hb9
            replace hcb := hcb.later hb9
            replace hE := (hE.below hb9).more hb9.size
            clear hb9 ho9 hg9
            refine ⟨⟨⟨_, hB⟩, rfl⟩, ?_⟩
            go_simp
            refine wpC_all (rs := [6]) (by kernel_rfl) (by decide) ?_
            intro i hi
            simp only [List.mem_cons, List.not_mem_nil, or_false] at hi
            subst hi
            refine ⟨_, rfl, ?_⟩
            obtain ⟨z0, f0⟩ := hca.2 0 _ rfl
            go_simp
            replace hca := hca.set (k := 0) (by simp) (.slice A1 l.length k1)
            simp only [List.set_cons_zero] at hca
            replace hcb := hcb.other (p := ⟨ga, 0, none⟩) (show ga ≠ gb by omega) (.slice A1 l.length k1)
            replace hE : Ints (WW3.setCell ⟨ga, 0, none⟩ (.slice A1 l.length k1)) (WW3.setCell ⟨ga, 0, none⟩ (.slice A1 l.length k1)).heap.size A1 l.length (ear l) := by
              rw [World.size_setCell]
              exact hE.keep nEga (fun q _ hq => Below.heap_setCell _ ⟨ga, 0, none⟩ (.slice A1 l.length k1) q hq)
            replace hL : Ints (WW3.setCell ⟨ga, 0, none⟩ (.slice A1 l.length k1)) (WW3.setCell ⟨ga, 0, none⟩ (.slice A1 l.length k1)).heap.size A2 l.length (latP l) := by
              rw [World.size_setCell]
              exact hL.keep nLga (fun q _ hq => Below.heap_setCell _ ⟨ga, 0, none⟩ (.slice A1 l.length k1) q hq)
            replace hB := hB.setCell (p := ⟨ga, 0, none⟩) h0ga (.slice A1 l.length k1)
            clear z0 f0
            generalize WW3.setCell ⟨ga, 0, none⟩ (.slice A1 l.length k1) = WW4 at *
            refine ⟨⟨⟨_, hB⟩, rfl⟩, ?_⟩
            refine wpC_all (rs := [7]) (by kernel_rfl) (by decide) ?_
            intro i hi
            simp only [List.mem_cons, List.not_mem_nil, or_false] at hi
            subst hi
            refine ⟨_, rfl, ?_⟩
            obtain ⟨z0, f0⟩ := hcb.2 0 _ rfl
            go_simp
            replace hcb := hcb.set (k := 0) (by simp) (.slice A2 l.length k2)
            simp only [List.set_cons_zero] at hcb
            replace hca := hca.other (p := ⟨gb, 0, none⟩) (show gb ≠ ga by omega) (.slice A2 l.length k2)
            replace hE : Ints (WW4.setCell ⟨gb, 0, none⟩ (.slice A2 l.length k2)) (WW4.setCell ⟨gb, 0, none⟩ (.slice A2 l.length k2)).heap.size A1 l.length (ear l) := by
              rw [World.size_setCell]
              exact hE.keep nEgb (fun q _ hq => Below.heap_setCell _ ⟨gb, 0, none⟩ (.slice A2 l.length k2) q hq)
            replace hL : Ints (WW4.setCell ⟨gb, 0, none⟩ (.slice A2 l.length k2)) (WW4.setCell ⟨gb, 0, none⟩ (.slice A2 l.length k2)).heap.size A2 l.length (latP l) := by
              rw [World.size_setCell]
              exact hL.keep nLgb (fun q _ hq => Below.heap_setCell _ ⟨gb, 0, none⟩ (.slice A2 l.length k2) q hq)
            replace hB := hB.setCell (p := ⟨gb, 0, none⟩) h0gb (.slice A2 l.length k2)
            clear z0 f0
            generalize WW4.setCell ⟨gb, 0, none⟩ (.slice A2 l.length k2) = WW5 at *
            refine ⟨⟨⟨_, hB⟩, rfl⟩, ?_⟩
            refine wpC_done (by kernel_rfl) ?_
            go_wp2_with fail
            go_meet
            case rel => exact ⟨_, _, _, _, _, _, rfl, rfl, hca, hcb, hE, hL, hB⟩
      · refine ⟨_, rfl, ?_⟩
        go_simp
        obtain ⟨ga, hga⟩ : ∃ q, q = W1.heap.size := ⟨_, rfl⟩
        have h0ga : W1.heap.size ≤ ga := by rw [hga]; exact Nat.le_refl _
        have hca : CA (W1.alloc (.cells #[.slice none 0 0] 37)).drew ga [.slice none 0 0] := by rw [hga]; exact (CA.new W1 [.slice none 0 0] 37).drew
        replace hB : Below W1.heap.size W1 (W1.alloc (.cells #[.slice none 0 0] 37)).drew := ((Below.refl _ _).alloc (Nat.le_refl _) (.cells #[.slice none 0 0] 37)).drew
        rw [← hga]
        rw [← hga] at hB
        generalize (W1.alloc (.cells #[.slice none 0 0] 37)).drew = WW0 at *
        rw [hga] at hB
        clear hga
        refine ⟨⟨⟨_, hB⟩, rfl⟩, ?_⟩
        refine wpC_all (rs := [1, 5]) (by kernel_rfl) (by decide) ?_
        intro i hi
        simp only [List.mem_cons, List.not_mem_nil, or_false] at hi
        rcases hi with rfl | rfl
        · refine ⟨_, rfl, ?_⟩
          go_simp
          refine (C3.out _ (HB1.out.trans (hB.mono HB1.out.size))).mono ?_
          rintro e WW1 ⟨⟨v9, rfl, ho9⟩, hb9⟩
          obtain ⟨A1, k1, rfl, _, _, hE, hg9⟩ := own_ints ho9
          have nEga : ∀ b off, A1 = some ⟨b, off, none⟩ → b ≠ ga := fun b off he => by
            obtain ⟨g', e1, e2, _⟩ := hg9 HPOS.out
            have hlt9 := hca.1
            rw [he] at e1; injection e1 with e1; injection e1 with e1 e3 e4
            omega
          replace hB := below_step hB hb9
          replace hca := hca.later hb9
          clear hb9 ho9 hg9
          refine ⟨⟨⟨_, hB⟩, rfl⟩, ?_⟩
          go_simp
          refine wpC_all (rs := [3, 5]) (by kernel_rfl) (by decide) ?_
          intro i hi
          simp only [List.mem_cons, List.not_mem_nil, or_false] at hi
          rcases hi with rfl | rfl
          · refine ⟨_, rfl, ?_⟩
            go_simp
            refine (C4.out _ (HB1.out.trans (hB.mono HB1.out.size))).mono ?_
            rintro e WW2 ⟨⟨v9, rfl, ho9⟩, hb9⟩
            obtain ⟨A2, k2, rfl, _, _, hL, hg9⟩ := own_ints ho9
            have nLga : ∀ b off, A2 = some ⟨b, off, none⟩ → b ≠ ga := fun b off he => by
              obtain ⟨g', e1, e2, _⟩ := hg9 HPOS.out
              have hlt9 := hca.1
              rw [he] at e1; injection e1 with e1; injection e1 with e1 e3 e4
              omega
            replace hB := below_step hB hb9
            replace hca := hca.later hb9
            replace hE := (hE.below hb9).more hb9.size
            clear hb9 ho9 hg9
            refine ⟨⟨⟨_, hB⟩, rfl⟩, ?_⟩
            go_simp
            refine wpC_all (rs := [5]) (by kernel_rfl) (by decide) ?_
            intro i hi
            simp only [List.mem_cons, List.not_mem_nil, or_false] at hi
            subst hi
            refine ⟨_, rfl, ?_⟩
            go_simp
            obtain ⟨gb, hgb⟩ : ∃ q, q = (WW2).heap.size := ⟨_, rfl⟩
            have h0gb : W1.heap.size ≤ gb := by rw [hgb]; exact hB.size
            have hcb : CA ((WW2).alloc (.cells #[.slice none 0 0] 37)) gb [.slice none 0 0] := by rw [hgb]; exact CA.new (WW2) [.slice none 0 0] 37
            have hne1 : ¬ gb = ga := by have := hca.1; omega
            have hne2 : ¬ ga = gb := by omega
            replace hca := hca.alloc (.cells #[.slice none 0 0] 37)
            have nEgb : ∀ b off, A1 = some ⟨b, off, none⟩ → b ≠ gb := fun b off he => by
              obtain ⟨b8, off8, e1, e2, _⟩ := hE.2 HPOS.out
              rw [he] at e1; injection e1 with e1; injection e1 with e1 e3 e4
              omega
            replace hE := (hE.below (below_alloc (Below.refl _ _) (.cells #[.slice none 0 0] 37))).more (below_alloc (Below.refl (WW2).heap.size _) (.cells #[.slice none 0 0] 37)).size
            have nLgb : ∀ b off, A2 = some ⟨b, off, none⟩ → b ≠ gb := fun b off he => by
              obtain ⟨b8, off8, e1, e2, _⟩ := hL.2 HPOS.out
              rw [he] at e1; injection e1 with e1; injection e1 with e1 e3 e4
              omega
            replace hL := (hL.below (below_alloc (Below.refl _ _) (.cells #[.slice none 0 0] 37))).more (below_alloc (Below.refl (WW2).heap.size _) (.cells #[.slice none 0 0] 37)).size
            replace hB := hB.alloc hB.size (.cells #[.slice none 0 0] 37)
            rw [← hgb]
            clear hgb
            generalize (WW2).alloc (.cells #[.slice none 0 0] 37) = WW3 at *
            refine ⟨⟨⟨_, hB⟩, rfl⟩, ?_⟩
            refine wpC_all (rs := [6]) (by kernel_rfl) (by decide) ?_
            intro i hi
            simp only [List.mem_cons, List.not_mem_nil, or_false] at hi
            subst hi
            refine ⟨_, rfl, ?_⟩
            obtain ⟨z0, f0⟩ := hca.2 0 _ rfl
            go_simp
            replace hca := hca.set (k := 0) (by simp) (.slice A1 l.length k1)
            simp only [List.set_cons_zero] at hca
            replace hcb := hcb.other (p := ⟨ga, 0, none⟩) (show ga ≠ gb by omega) (.slice A1 l.length k1)
            replace hE : Ints (WW3.setCell ⟨ga, 0, none⟩ (.slice A1 l.length k1)) (WW3.setCell ⟨ga, 0, none⟩ (.slice A1 l.length k1)).heap.size A1 l.length (ear l) := by
              rw [World.size_setCell]
              exact hE.keep nEga (fun q _ hq => Below.heap_setCell _ ⟨ga, 0, none⟩ (.slice A1 l.length k1) q hq)
            replace hL : Ints (WW3.setCell ⟨ga, 0, none⟩ (.slice A1 l.length k1)) (WW3.setCell ⟨ga, 0, none⟩ (.slice A1 l.length k1)).heap.size A2 l.length (latP l) := by
              rw [World.size_setCell]
              exact hL.keep nLga (fun q _ hq => Below.heap_setCell _ ⟨ga, 0, none⟩ (.slice A1 l.length k1) q hq)
            replace hB := hB.setCell (p := ⟨ga, 0, none⟩) h0ga (.slice A1 l.length k1)
            clear z0 f0
            generalize WW3.setCell ⟨ga, 0, none⟩ (.slice A1 l.length k1) = WW4 at *
            refine ⟨⟨⟨_, hB⟩, rfl⟩, ?_⟩
            refine wpC_all (rs := [7]) (by kernel_rfl) (by decide) ?_
            intro i hi
            simp only [List.mem_cons, List.not_mem_nil, or_false] at hi
            subst hi
            refine ⟨_, rfl, ?_⟩
            obtain ⟨z0, f0⟩ := hcb.2 0 _ rfl
            go_simp
            replace hcb := hcb.set (k := 0) (by simp) (.slice A2 l.length k2)
            simp only [List.set_cons_zero] at hcb
            replace hca := hca.other (p := ⟨gb, 0, none⟩) (show gb ≠ ga by omega) (.slice A2 l.length k2)
            replace hE : Ints (WW4.setCell ⟨gb, 0, none⟩ (.slice A2 l.length k2)) (WW4.setCell ⟨gb, 0, none⟩ (.slice A2 l.length k2)).heap.size A1 l.length (ear l) := by
              rw [World.size_setCell]
              exact hE.keep nEgb (fun q _ hq => Below.heap_setCell _ ⟨gb, 0, none⟩ (.slice A2 l.length k2) q hq)
            replace hL : Ints (WW4.setCell ⟨gb, 0, none⟩ (.slice A2 l.length k2)) (WW4.setCell ⟨gb, 0, none⟩ (.slice A2 l.length k2)).heap.size A2 l.length (latP l) := by
              rw [World.size_setCell]
              exact hL.keep nLgb (fun q _ hq => Below.heap_setCell _ ⟨gb, 0, none⟩ (.slice A2 l.length k2) q hq)
            replace hB := hB.setCell (p := ⟨gb, 0, none⟩) h0gb (.slice A2 l.length k2)
            clear z0 f0
            generalize WW4.setCell ⟨gb, 0, none⟩ (.slice A2 l.length k2) = WW5 at *
            refine ⟨⟨⟨_, hB⟩, rfl⟩, ?_⟩
            refine wpC_done (by kernel_rfl) ?_
            go_wp2_with fail
            go_meet
            case rel => exact ⟨_, _, _, _, _, _, rfl, rfl, hca, hcb, hE, hL, hB⟩
          · refine ⟨_, rfl, ?_⟩
            go_simp
            obtain ⟨gb, hgb⟩ : ∃ q, q = (WW1).heap.size := ⟨_, rfl⟩
            have h0gb : W1.heap.size ≤ gb := by rw [hgb]; exact hB.size
            have hcb : CA ((WW1).alloc (.cells #[.slice none 0 0] 37)) gb [.slice none 0 0] := by rw [hgb]; exact CA.new (WW1) [.slice none 0 0] 37
            have hne1 : ¬ gb = ga := by have := hca.1; omega
            have hne2 : ¬ ga = gb := by omega
            replace hca := hca.alloc (.cells #[.slice none 0 0] 37)
            have nEgb : ∀ b off, A1 = some ⟨b, off, none⟩ → b ≠ gb := fun b off he => by
              obtain ⟨b8, off8, e1, e2, _⟩ := hE.2 HPOS.out
              rw [he] at e1; injection e1 with e1; injection e1 with e1 e3 e4
              omega
            replace hE := (hE.below (below_alloc (Below.refl _ _) (.cells #[.slice none 0 0] 37))).more (below_alloc (Below.refl (WW1).heap.size _) (.cells #[.slice none 0 0] 37)).size
            replace hB := hB.alloc hB.size (.cells #[.slice none 0 0] 37)
            rw [← hgb]
            clear hgb
            generalize (WW1).alloc (.cells #[.slice none 0 0] 37) = WW2 at *
            refine ⟨⟨⟨_, hB⟩, rfl⟩, ?_⟩
            refine wpC_all (rs := [3]) (by kernel_rfl) (by decide) ?_
            intro i hi
            simp only [List.mem_cons, List.not_mem_nil, or_false] at hi
            subst hi
            refine ⟨_, rfl, ?_⟩
            go_simp
            refine (C4.out _ (HB1.out.trans (hB.mono HB1.out.size))).mono ?_
            rintro e WW3 ⟨⟨v9, rfl, ho9⟩, hb9⟩
            obtain ⟨A2, k2, rfl, _, _, hL, hg9⟩ := own_ints ho9
            have nLga : ∀ b off, A2 = some ⟨b, off, none⟩ → b ≠ ga := fun b off he => by
              obtain ⟨g', e1, e2, _⟩ := hg9 HPOS.out
              have hlt9 := hca.1
              rw [he] at e1; injection e1 with e1; injection e1 with e1 e3 e4
              omega
            have nLgb : ∀ b off, A2 = some ⟨b, off, none⟩ → b ≠ gb := fun b off he => by
              obtain ⟨g', e1, e2, _⟩ := hg9 HPOS.out
              have hlt9 := hcb.1
              rw [he] at e1; injection e1 with e1; injection e1 with e1 e3 e4
              omega
            replace hB := below_step hB hb9
            replace hca := hca.later hb9
            replace hcb := hcb.later hb9
            replace hE := (hE.below hb9).more hb9.size
            clear hb9 ho9 hg9
            refine ⟨⟨⟨_, hB⟩, rfl⟩, ?_⟩
            go_simp
            refine wpC_all (rs := [6]) (by kernel_rfl) (by decide) ?_
            intro i hi
            simp only [List.mem_cons, List.not_mem_nil, or_false] at hi
            subst hi
            refine ⟨_, rfl, ?_⟩
            obtain ⟨z0, f0⟩ := hca.2 0 _ rfl
            go_simp
            replace hca := hca.set (k := 0) (by simp) (.slice A1 l.length k1)
            simp only [List.set_cons_zero] at hca
            replace hcb := hcb.other (p := ⟨ga, 0, none⟩) (show ga ≠ gb by omega) (.slice A1 l.length k1)
            replace hE : Ints (WW3.setCell ⟨ga, 0, none⟩ (.slice A1 l.length k1)) (WW3.setCell ⟨ga, 0, none⟩ (.slice A1 l.length k1)).heap.size A1 l.length (ear l) := by
              rw [World.size_setCell]
              exact hE.keep nEga (fun q _ hq => Below.heap_setCell _ ⟨ga, 0, none⟩ (.slice A1 l.length k1) q hq)
            replace hL : Ints (WW3.setCell ⟨ga, 0, none⟩ (.slice A1 l.length k1)) (WW3.setCell ⟨ga, 0, none⟩ (.slice A1 l.length k1)).heap.size A2 l.length (latP l) := by
              rw [World.size_setCell]
              exact hL.keep nLga (fun q _ hq => Below.heap_setCell _ ⟨ga, 0, none⟩ (.slice A1 l.length k1) q hq)
            replace hB := hB.setCell (p := ⟨ga, 0, none⟩) h0ga (.slice A1 l.length k1)
            clear z0 f0
            generalize WW3.setCell ⟨ga, 0, none⟩ (.slice A1 l.length k1) = WW4 at *
            refine ⟨⟨⟨_, hB⟩, rfl⟩, ?_⟩
            refine wpC_all (rs := [7]) (by kernel_rfl) (by decide) ?_
            intro i hi
            simp only [List.mem_cons, List.not_mem_nil, or_false] at hi
            subst hi
            refine ⟨_, rfl, ?_⟩
            obtain ⟨z0, f0⟩ := hcb.2 0 _ rfl
            go_simp
            replace hcb := hcb.set (k := 0) (by simp) (.slice A2 l.length k2)
            simp only [List.set_cons_zero] at hcb
            replace hca := hca.other (p := ⟨gb, 0, none⟩) (show gb ≠ ga by omega) (.slice A2 l.length k2)
            replace hE : Ints (WW4.setCell ⟨gb, 0, none⟩ (.slice A2 l.length k2)) (WW4.setCell ⟨gb, 0, none⟩ (.slice A2 l.length k2)).heap.size A1 l.length (ear l) := by
              rw [World.size_setCell]
              exact hE.keep nEgb (fun q _ hq => Below.heap_setCell _ ⟨gb, 0, none⟩ (.slice A2 l.length k2) q hq)
            replace hL : Ints (WW4.setCell ⟨gb, 0, none⟩ (.slice A2 l.length k2)) (WW4.setCell ⟨gb, 0, none⟩ (.slice A2 l.length k2)).heap.size A2 l.length (latP l) := by
              rw [World.size_setCell]
              exact hL.keep nLgb (fun q _ hq => Below.heap_setCell _ ⟨gb, 0, none⟩ (.slice A2 l.length k2) q hq)
            replace hB := hB.setCell (p := ⟨gb, 0, none⟩) h0gb (.slice A2 l.length k2)
            clear z0 f0
            generalize WW4.setCell ⟨gb, 0, none⟩ (.slice A2 l.length k2) = WW5 at *
            refine ⟨⟨⟨_, hB⟩, rfl⟩, ?_⟩
            refine wpC_done (by kernel_rfl) ?_
            go_wp2_with fail
            go_meet
            case rel => exact ⟨_, _, _, _, _, _, rfl, rfl, hca, hcb, hE, hL, hB⟩
        · refine ⟨_, rfl, ?_⟩
          go_simp
          obtain ⟨gb, hgb⟩ : ∃ q, q = (WW0).heap.size := ⟨_, rfl⟩
          have h0gb : W1.heap.size ≤ gb := by rw [hgb]; exact hB.size
          have hcb : CA ((WW0).alloc (.cells #[.slice none 0 0] 37)) gb [.slice none 0 0] := by rw [hgb]; exact CA.new (WW0) [.slice none 0 0] 37
          have hne1 : ¬ gb = ga := by have := hca.1; omega
          have hne2 : ¬ ga = gb := by omega
          replace hca := hca.alloc (.cells #[.slice none 0 0] 37)
          replace hB := hB.alloc hB.size (.cells #[.slice none 0 0] 37)
          rw [← hgb]
          clear hgb
          generalize (WW0).alloc (.cells #[.slice none 0 0] 37) = WW1 at *
          refine ⟨⟨⟨_, hB⟩, rfl⟩, ?_⟩
          refine wpC_all (rs := [1]) (by kernel_rfl) (by decide) ?_
          intro i hi
          simp only [List.mem_cons, List.not_mem_nil, or_false] at hi
          subst hi
          refine ⟨_, rfl, ?_⟩
          go_simp
          refine (C3.out _ (HB1.out.trans (hB.mono HB1.out.size))).mono ?_
          rintro e WW2 ⟨⟨v9, rfl, ho9⟩, hb9⟩
          obtain ⟨A1, k1, rfl, _, _, hE, hg9⟩ := own_ints ho9
          have nEga : ∀ b off, A1 = some ⟨b, off, none⟩ → b ≠ ga := fun b off he => by
            obtain ⟨g', e1, e2, _⟩ := hg9 HPOS.out
            have hlt9 := hca.1
            rw [he] at e1; injection e1 with e1; injection e1 with e1 e3 e4
            omega
          have nEgb : ∀ b off, A1 = some ⟨b, off, none⟩ → b ≠ gb := fun b off he => by
            obtain ⟨g', e1, e2, _⟩ := hg9 HPOS.out
            have hlt9 := hcb.1
            rw [he] at e1; injection e1 with e1; injection e1 with e1 e3 e4
            omega
          replace hB := below_step hB hb9
          replace hca := hca.later hb9
          replace hcb := hcb.later hb9
          clear hb9 ho9 hg9
          refine ⟨⟨⟨_, hB⟩, rfl⟩, ?_⟩
          go_simp
          refine wpC_all (rs := [3]) (by kernel_rfl) (by decide) ?_
          intro i hi
          simp only [List.mem_cons, List.not_mem_nil, or_false] at hi
          subst hi
          refine ⟨_, rfl, ?_⟩
          go_simp
          refine (C4.out _ (HB1.out.trans (hB.mono HB1.out.size))).mono ?_
          rintro e WW3 ⟨⟨v9, rfl, ho9⟩, hb9⟩
          obtain ⟨A2, k2, rfl, _, _, hL, hg9⟩ := own_ints ho9
          have nLga : ∀ b off, A2 = some ⟨b, off, none⟩ → b ≠ ga := fun b off he => by
            obtain ⟨g', e1, e2, _⟩ := hg9 HPOS.out
            have hlt9 := hca.1
            rw [he] at e1; injection e1 with e1; injection e1 with e1 e3 e4
            omega
          have nLgb : ∀ b off, A2 = some ⟨b, off, none⟩ → b ≠ gb := fun b off he => by
            obtain ⟨g', e1, e2, _⟩ := hg9 HPOS.out
            have hlt9 := hcb.1
            rw [he] at e1; injection e1 with e1; injection e1 with e1 e3 e4
            omega
          replace hB := below_step hB hb9
          replace hca := hca.later hb9
          replace hcb := hcb.later hb9
          replace hE := (hE.below hb9).more hb9.size
          clear hb9 ho9 hg9
          refine ⟨⟨⟨_, hB⟩, rfl⟩, ?_⟩
          go_simp
          refine wpC_all (rs := [6]) (by kernel_rfl) (by decide) ?_
          intro i hi
          simp only [List.mem_cons, List.not_mem_nil, or_false] at hi
          subst hi
          refine ⟨_, rfl, ?_⟩
          obtain ⟨z0, f0⟩ := hca.2 0 _ rfl
          go_simp
          replace hca := hca.set (k := 0) (by simp) (.slice A1 l.length k1)
          simp only [List.set_cons_zero] at hca
          replace hcb := hcb.other (p := ⟨ga, 0, none⟩) (show ga ≠ gb by omega) (.slice A1 l.length k1)
          replace hE : Ints (WW3.setCell ⟨ga, 0, none⟩ (.slice A1 l.length k1)) (WW3.setCell ⟨ga, 0, none⟩ (.slice A1 l.length k1)).heap.size A1 l.length (ear l) := by
            rw [World.size_setCell]
            exact hE.keep nEga (fun q _ hq => Below.heap_setCell _ ⟨ga, 0, none⟩ (.slice A1 l.length k1) q hq)
          replace hL : Ints (WW3.setCell ⟨ga, 0, none⟩ (.slice A1 l.length k1)) (WW3.setCell ⟨ga, 0, none⟩ (.slice A1 l.length k1)).heap.size A2 l.length (latP l) := by
            rw [World.size_setCell]
            exact hL.keep nLga (fun q _ hq => Below.heap_setCell _ ⟨ga, 0, none⟩ (.slice A1 l.length k1) q hq)
          replace hB := hB.setCell (p := ⟨ga, 0, none⟩) h0ga (.slice A1 l.length k1)
          clear z0 f0
          generalize WW3.setCell ⟨ga, 0, none⟩ (.slice A1 l.length k1) = WW4 at *
          refine ⟨⟨⟨_, hB⟩, rfl⟩, ?_⟩
          refine wpC_all (rs := [7]) (by kernel_rfl) (by decide) ?_
          intro i hi
          simp only [List.mem_cons, List.not_mem_nil, or_false] at hi
          subst hi
          refine ⟨_, rfl, ?_⟩
          obtain ⟨z0, f0⟩ := hcb.2 0 _ rfl
          go_simp
          replace hcb := hcb.set (k := 0) (by simp) (.slice A2 l.length k2)
          simp only [List.set_cons_zero] at hcb
          replace hca := hca.other (p := ⟨gb, 0, none⟩) (show gb ≠ ga by omega) (.slice A2 l.length k2)
          replace hE : Ints (WW4.setCell ⟨gb, 0, none⟩ (.slice A2 l.length k2)) (WW4.setCell ⟨gb, 0, none⟩ (.slice A2 l.length k2)).heap.size A1 l.length (ear l) := by
            rw [World.size_setCell]
            exact hE.keep nEgb (fun q _ hq => Below.heap_setCell _ ⟨gb, 0, none⟩ (.slice A2 l.length k2) q hq)
          replace hL : Ints (WW4.setCell ⟨gb, 0, none⟩ (.slice A2 l.length k2)) (WW4.setCell ⟨gb, 0, none⟩ (.slice A2 l.length k2)).heap.size A2 l.length (latP l) := by
            rw [World.size_setCell]
            exact hL.keep nLgb (fun q _ hq => Below.heap_setCell _ ⟨gb, 0, none⟩ (.slice A2 l.length k2) q hq)
          replace hB := hB.setCell (p := ⟨gb, 0, none⟩) h0gb (.slice A2 l.length k2)
          clear z0 f0
          generalize WW4.setCell ⟨gb, 0, none⟩ (.slice A2 l.length k2) = WW5 at *
          refine ⟨⟨⟨_, hB⟩, rfl⟩, ?_⟩
          refine wpC_done (by kernel_rfl) ?_
          go_wp2_with fail
          go_meet
          case rel => exact ⟨_, _, _, _, _, _, rfl, rfl, hca, hcb, hE, hL, hB⟩
      · refine ⟨_, rfl, ?_⟩
        go_simp
        obtain ⟨gb, hgb⟩ : ∃ q, q = W1.heap.size := ⟨_, rfl⟩
        have h0gb : W1.heap.size ≤ gb := by rw [hgb]; exact Nat.le_refl _
        have hcb : CA (W1.alloc (.cells #[.slice none 0 0] 37)).drew gb [.slice none 0 0] := by rw [hgb]; exact (CA.new W1 [.slice none 0 0] 37).drew
        replace hB : Below W1.heap.size W1 (W1.alloc (.cells #[.slice none 0 0] 37)).drew := ((Below.refl _ _).alloc (Nat.le_refl _) (.cells #[.slice none 0 0] 37)).drew
        rw [← hgb]
        rw [← hgb] at hB
        generalize (W1.alloc (.cells #[.slice none 0 0] 37)).drew = WW0 at *
        rw [hgb] at hB
        clear hgb
        refine ⟨⟨⟨_, hB⟩, rfl⟩, ?_⟩
        refine wpC_all (rs := [1, 4]) (by kernel_rfl) (by decide) ?_
        intro i hi
        simp only [List.mem_cons, List.not_mem_nil, or_false] at hi
        rcases hi with rfl | rfl
        · refine ⟨_, rfl, ?_⟩
          go_simp
          refine (C3.out _ (HB1.out.trans (hB.mono HB1.out.size))).mono ?_
          rintro e WW1 ⟨⟨v9, rfl, ho9⟩, hb9⟩
          obtain ⟨A1, k1, rfl, _, _, hE, hg9⟩ := own_ints ho9
          have nEgb : ∀ b off, A1 = some ⟨b, off, none⟩ → b ≠ gb := fun b off he => by
            obtain ⟨g', e1, e2, _⟩ := hg9 HPOS.out
            have hlt9 := hcb.1
            rw [he] at e1; injection e1 with e1; injection e1 with e1 e3 e4
            omega
          replace hB := below_step hB hb9
          replace hcb := hcb.later hb9
          clear hb9 ho9 hg9
          refine ⟨⟨⟨_, hB⟩, rfl⟩, ?_⟩
          go_simp
          refine wpC_all (rs := [3, 4]) (by kernel_rfl) (by decide) ?_
          intro i hi
          simp only [List.mem_cons, List.not_mem_nil, or_false] at hi
          rcases hi with rfl | rfl
          · refine ⟨_, rfl, ?_⟩
            go_simp
            refine (C4.out _ (HB1.out.trans (hB.mono HB1.out.size))).mono ?_
            rintro e WW2 ⟨⟨v9, rfl, ho9⟩, hb9⟩
            obtain ⟨A2, k2, rfl, _, _, hL, hg9⟩ := own_ints ho9
            have nLgb : ∀ b off, A2 = some ⟨b, off, none⟩ → b ≠ gb := fun b off he => by
              obtain ⟨g', e1, e2, _⟩ := hg9 HPOS.out
              have hlt9 := hcb.1
              rw [he] at e1; injection e1 with e1; injection e1 with e1 e3 e4
              omega
            replace hB := below_step hB hb9
            replace hcb := hcb.later hb9
            replace hE := (hE.below hb9).more hb9.size
            clear hb9 ho9 hg9
            refine ⟨⟨⟨_, hB⟩, rfl⟩, ?_⟩
            go_simp
            refine wpC_all (rs := [4]) (by kernel_rfl) (by decide) ?_
            intro i hi
            simp only [List.mem_cons, List.not_mem_nil, or_false] at hi
            subst hi
            refine ⟨_, rfl, ?_⟩
            go_simp
            obtain ⟨ga, hga⟩ : ∃ q, q = (WW2).heap.size := ⟨_, rfl⟩
            have h0ga : W1.heap.size ≤ ga := by rw [hga]; exact hB.size
            have hca : CA ((WW2).alloc (.cells #[.slice none 0 0] 37)) ga [.slice none 0 0] := by rw [hga]; exact CA.new (WW2) [.slice none 0 0] 37
            have hne1 : ¬ ga = gb := by have := hcb.1; omega
            have hne2 : ¬ gb = ga := by omega
            replace hcb := hcb.alloc (.cells #[.slice none 0 0] 37)
            have nEga : ∀ b off, A1 = some ⟨b, off, none⟩ → b ≠ ga := fun b off he => by
              obtain ⟨b8, off8, e1, e2, _⟩ := hE.2 HPOS.out
              rw [he] at e1; injection e1 with e1; injection e1 with e1 e3 e4
              omega
            replace hE := (hE.below (below_alloc (Below.refl _ _) (.cells #[.slice none 0 0] 37))).more (below_alloc (Below.refl (WW2).heap.size _) (.cells #[.slice none 0 0] 37)).size
            have nLga : ∀ b off, A2 = some ⟨b, off, none⟩ → b ≠ ga := fun b off he => by
              obtain ⟨b8, off8, e1, e2, _⟩ := hL.2 HPOS.out
              rw [he] at e1; injection e1 with e1; injection e1 with e1 e3 e4
              omega
            replace hL := (hL.below (below_alloc (Below.refl _ _) (.cells #[.slice none 0 0] 37))).more (below_alloc (Below.refl (WW2).heap.size _) (.cells #[.slice none 0 0] 37)).size
            replace hB := hB.alloc hB.size (.cells #[.slice none 0 0] 37)
            rw [← hga]
            clear hga
            generalize (WW2).alloc (.cells #[.slice none 0 0] 37) = WW3 at *
            refine ⟨⟨⟨_, hB⟩, rfl⟩, ?_⟩
            refine wpC_all (rs := [6]) (by kernel_rfl) (by decide) ?_
            intro i hi
            simp only [List.mem_cons, List.not_mem_nil, or_false] at hi
            subst hi
            refine ⟨_, rfl, ?_⟩
            obtain ⟨z0, f0⟩ := hca.2 0 _ rfl
            go_simp
            replace hca := hca.set (k := 0) (by simp) (.slice A1 l.length k1)
            simp only [List.set_cons_zero] at hca
            replace hcb := hcb.other (p := ⟨ga, 0, none⟩) (show ga ≠ gb by omega) (.slice A1 l.length k1)
            replace hE : Ints (WW3.setCell ⟨ga, 0, none⟩ (.slice A1 l.length k1)) (WW3.setCell ⟨ga, 0, none⟩ (.slice A1 l.length k1)).heap.size A1 l.length (ear l) := by
              rw [World.size_setCell]
              exact hE.keep nEga (fun q _ hq => Below.heap_setCell _ ⟨ga, 0, none⟩ (.slice A1 l.length k1) q hq)
            replace hL : Ints (WW3.setCell ⟨ga, 0, none⟩ (.slice A1 l.length k1)) (WW3.setCell ⟨ga, 0, none⟩ (.slice A1 l.length k1)).heap.size A2 l.length (latP l) := by
              rw [World.size_setCell]
              exact hL.keep nLga (fun q _ hq => Below.heap_setCell _ ⟨ga, 0, none⟩ (.slice A1 l.length k1) q hq)
            replace hB := hB.setCell (p := ⟨ga, 0, none⟩) h0ga (.slice A1 l.length k1)
            clear z0 f0
            generalize WW3.setCell ⟨ga, 0, none⟩ (.slice A1 l.length k1) = WW4 at *
            refine ⟨⟨⟨_, hB⟩, rfl⟩, ?_⟩
            refine wpC_all (rs := [7]) (by kernel_rfl) (by decide) ?_
            intro i hi
            simp only [List.mem_cons, List.not_mem_nil, or_false] at hi
            subst hi
            refine ⟨_, rfl, ?_⟩
            obtain ⟨z0, f0⟩ := hcb.2 0 _ rfl
            go_simp
            replace hcb := hcb.set (k := 0) (by simp) (.slice A2 l.length k2)
            simp only [List.set_cons_zero] at hcb
            replace hca := hca.other (p := ⟨gb, 0, none⟩) (show gb ≠ ga by omega) (.slice A2 l.length k2)
            replace hE : Ints (WW4.setCell ⟨gb, 0, none⟩ (.slice A2 l.length k2)) (WW4.setCell ⟨gb, 0, none⟩ (.slice A2 l.length k2)).heap.size A1 l.length (ear l) := by
              rw [World.size_setCell]
              exact hE.keep nEgb (fun q _ hq => Below.heap_setCell _ ⟨gb, 0, none⟩ (.slice A2 l.length k2) q hq)
            replace hL : Ints (WW4.setCell ⟨gb, 0, none⟩ (.slice A2 l.length k2)) (WW4.setCell ⟨gb, 0, none⟩ (.slice A2 l.length k2)).heap.size A2 l.length (latP l) := by
              rw [World.size_setCell]
              exact hL.keep nLgb (fun q _ hq => Below.heap_setCell _ ⟨gb, 0, none⟩ (.slice A2 l.length k2) q hq)
            replace hB := hB.setCell (p := ⟨gb, 0, none⟩) h0gb (.slice A2 l.length k2)
            clear z0 f0
            generalize WW4.setCell ⟨gb, 0, none⟩ (.slice A2 l.length k2) = WW5 at *
            refine ⟨⟨⟨_, hB⟩, rfl⟩, ?_⟩
            refine wpC_done (by kernel_rfl) ?_
            go_wp2_with fail
            go_meet
            case rel => exact ⟨_, _, _, _, _, _, rfl, rfl, hca, hcb, hE, hL, hB⟩
          · refine ⟨_, rfl, ?_⟩
            go_simp
            obtain ⟨ga, hga⟩ : ∃ q, q = (WW1).heap.size := ⟨_, rfl⟩
            have h0ga : W1.heap.size ≤ ga := by rw [hga]; exact hB.size
            have hca : CA ((WW1).alloc (.cells #[.slice none 0 0] 37)) ga [.slice none 0 0] := by rw [hga]; exact CA.new (WW1) [.slice none 0 0] 37
            have hne1 : ¬ ga = gb := by have := hcb.1; omega
            have hne2 : ¬ gb = ga := by omega
            replace hcb := hcb.alloc (.cells #[.slice none 0 0] 37)
            have nEga : ∀ b off, A1 = some ⟨b, off, none⟩ → b ≠ ga := fun b off he => by
              obtain ⟨b8, off8, e1, e2, _⟩ := hE.2 HPOS.out
              rw [he] at e1; injection e1 with e1; injection e1 with e1 e3 e4
              omega
            replace hE := (hE.below (below_alloc (Below.refl _ _) (.cells #[.slice none 0 0] 37))).more (below_alloc (Below.refl (WW1).heap.size _) (.cells #[.slice none 0 0] 37)).size
            replace hB := hB.alloc hB.size (.cells #[.slice none 0 0] 37)
            rw [← hga]
            clear hga
            generalize (WW1).alloc (.cells #[.slice none 0 0] 37) = WW2 at *
            refine ⟨⟨⟨_, hB⟩, rfl⟩, ?_⟩
            refine wpC_all (rs := [3]) (by kernel_rfl) (by decide) ?_
            intro i hi
            simp only [List.mem_cons, List.not_mem_nil, or_false] at hi
            subst hi
            refine ⟨_, rfl, ?_⟩
            go_simp
            refine (C4.out _ (HB1.out.trans (hB.mono HB1.out.size))).mono ?_
            rintro e WW3 ⟨⟨v9, rfl, ho9⟩, hb9⟩
            obtain ⟨A2, k2, rfl, _, _, hL, hg9⟩ := own_ints ho9
            have nLga : ∀ b off, A2 = some ⟨b, off, none⟩ → b ≠ ga := fun b off he => by
              obtain ⟨g', e1, e2, _⟩ := hg9 HPOS.out
              have hlt9 := hca.1
              rw [he] at e1; injection e1 with e1; injection e1 with e1 e3 e4
              omega
            have nLgb : ∀ b off, A2 = some ⟨b, off, none⟩ → b ≠ gb := fun b off he => by
              obtain ⟨g', e1, e2, _⟩ := hg9 HPOS.out
              have hlt9 := hcb.1
              rw [he] at e1; injection e1 with e1; injection e1 with e1 e3 e4
              omega
            replace hB := below_step hB hb9
            replace hca := hca.later hb9
            replace hcb := hcb.later hb9
            replace hE := (hE.below hb9).more hb9.size
            clear hb9 ho9 hg9
            refine ⟨⟨⟨_, hB⟩, rfl⟩, ?_⟩
            go_simp
            refine wpC_all (rs := [6]) (by kernel_rfl) (by decide) ?_
            intro i hi
            simp only [List.mem_cons, List.not_mem_nil, or_false] at hi
            subst hi
            refine ⟨_, rfl, ?_⟩
            obtain ⟨z0, f0⟩ := hca.2 0 _ rfl
            go_simp
            replace hca := hca.set (k := 0) (by simp) (.slice A1 l.length k1)
            simp only [List.set_cons_zero] at hca
            replace hcb := hcb.other (p := ⟨ga, 0, none⟩) (show ga ≠ gb by omega) (.slice A1 l.length k1)
            replace hE : Ints (WW3.setCell ⟨ga, 0, none⟩ (.slice A1 l.length k1)) (WW3.setCell ⟨ga, 0, none⟩ (.slice A1 l.length k1)).heap.size A1 l.length (ear l) := by
              rw [World.size_setCell]
              exact hE.keep nEga (fun q _ hq => Below.heap_setCell _ ⟨ga, 0, none⟩ (.slice A1 l.length k1) q hq)
            replace hL : Ints (WW3.setCell ⟨ga, 0, none⟩ (.slice A1 l.length k1)) (WW3.setCell ⟨ga, 0, none⟩ (.slice A1 l.length k1)).heap.size A2 l.length (latP l) := by
              rw [World.size_setCell]
              exact hL.keep nLga (fun q _ hq => Below.heap_setCell _ ⟨ga, 0, none⟩ (.slice A1 l.length k1) q hq)
            replace hB := hB.setCell (p := ⟨ga, 0, none⟩) h0ga (.slice A1 l.length k1)
            clear z0 f0
            generalize WW3.setCell ⟨ga, 0, none⟩ (.slice A1 l.length k1) = WW4 at *
            refine ⟨⟨⟨_, hB⟩, rfl⟩, ?_⟩
            refine wpC_all (rs := [7]) (by kernel_rfl) (by decide) ?_
            intro i hi
            simp only [List.mem_cons, List.not_mem_nil, or_false] at hi
            subst hi
            refine ⟨_, rfl, ?_⟩
            obtain ⟨z0, f0⟩ := hcb.2 0 _ rfl
            go_simp
            replace hcb := hcb.set (k := 0) (by simp) (.slice A2 l.length k2)
            simp only [List.set_cons_zero] at hcb
            replace hca := hca.other (p := ⟨gb, 0, none⟩) (show gb ≠ ga by omega) (.slice A2 l.length k2)
            replace hE : Ints (WW4.setCell ⟨gb, 0, none⟩ (.slice A2 l.length k2)) (WW4.setCell ⟨gb, 0, none⟩ (.slice A2 l.length k2)).heap.size A1 l.length (ear l) := by
              rw [World.size_setCell]
              exact hE.keep nEgb (fun q _ hq => Below.heap_setCell _ ⟨gb, 0, none⟩ (.slice A2 l.length k2) q hq)
            replace hL : Ints (WW4.setCell ⟨gb, 0, none⟩ (.slice A2 l.length k2)) (WW4.setCell ⟨gb, 0, none⟩ (.slice A2 l.length k2)).heap.size A2 l.length (latP l) := by
              rw [World.size_setCell]
              exact hL.keep nLgb (fun q _ hq => Below.heap_setCell _ ⟨gb, 0, none⟩ (.slice A2 l.length k2) q hq)
            replace hB := hB.setCell (p := ⟨gb, 0, none⟩) h0gb (.slice A2 l.length k2)
            clear z0 f0
            generalize WW4.setCell ⟨gb, 0, none⟩ (.slice A2 l.length k2) = WW5 at *
            refine ⟨⟨⟨_, hB⟩, rfl⟩, ?_⟩
            refine wpC_done (by kernel_rfl) ?_
            go_wp2_with fail
            go_meet
            case rel => exact ⟨_, _, _, _, _, _, rfl, rfl, hca, hcb, hE, hL, hB⟩
        · refine ⟨_, rfl, ?_⟩
          go_simp
          obtain ⟨ga, hga⟩ : ∃ q, q = (WW0).heap.size := ⟨_, rfl⟩
          have h0ga : W1.heap.size ≤ ga := by rw [hga]; exact hB.size
          have hca : CA ((WW0).alloc (.cells #[.slice none 0 0] 37)) ga [.slice none 0 0] := by rw [hga]; exact CA.new (WW0) [.slice none 0 0] 37
          have hne1 : ¬ ga = gb := by have := hcb.1; omega
          have hne2 : ¬ gb = ga := by omega
          replace hcb := hcb.alloc (.cells #[.slice none 0 0] 37)
          replace hB := hB.alloc hB.size (.cells #[.slice none 0 0] 37)
          rw [← hga]
          clear hga
          generalize (WW0).alloc (.cells #[.slice none 0 0] 37) = WW1 at *
          refine ⟨⟨⟨_, hB⟩, rfl⟩, ?_⟩
          refine wpC_all (rs := [1]) (by kernel_rfl) (by decide) ?_
          intro i hi
          simp only [List.mem_cons, List.not_mem_nil, or_false] at hi
          subst hi
          refine ⟨_, rfl, ?_⟩
          go_simp
          refine (C3.out _ (HB1.out.trans (hB.mono HB1.out.size))).mono ?_
          rintro e WW2 ⟨⟨v9, rfl, ho9⟩, hb9⟩
          obtain ⟨A1, k1, rfl, _, _, hE, hg9⟩ := own_ints ho9
          have nEga : ∀ b off, A1 = some ⟨b, off, none⟩ → b ≠ ga := fun b off he => by
            obtain ⟨g', e1, e2, _⟩ := hg9 HPOS.out
            have hlt9 := hca.1
            rw [he] at e1; injection e1 with e1; injection e1 with e1 e3 e4
            omega
          have nEgb : ∀ b off, A1 = some ⟨b, off, none⟩ → b ≠ gb := fun b off he => by
            obtain ⟨g', e1, e2, _⟩ := hg9 HPOS.out
            have hlt9 := hcb.1
            rw [he] at e1; injection e1 with e1; injection e1 with e1 e3 e4
            omega
          replace hB := below_step hB hb9
          replace hca := hca.later hb9
          replace hcb := hcb.later hb9
          clear hb9 ho9 hg9
          refine ⟨⟨⟨_, hB⟩, rfl⟩, ?_⟩
          go_simp
          refine wpC_all (rs := [3]) (by kernel_rfl) (by decide) ?_
          intro i hi
          simp only [List.mem_cons, List.not_mem_nil, or_false] at hi
          subst hi
          refine ⟨_, rfl, ?_⟩
          go_simp
          refine (C4.out _ (HB1.out.trans (hB.mono HB1.out.size))).mono ?_
          rintro e WW3 ⟨⟨v9, rfl, ho9⟩, hb9⟩
          obtain ⟨A2, k2, rfl, _, _, hL, hg9⟩ := own_ints ho9
          have nLga : ∀ b off, A2 = some ⟨b, off, none⟩ → b ≠ ga := fun b off he => by
            obtain ⟨g', e1, e2, _⟩ := hg9 HPOS.out
            have hlt9 := hca.1
            rw [he] at e1; injection e1 with e1; injection e1 with e1 e3 e4
            omega
          have nLgb : ∀ b off, A2 = some ⟨b, off, none⟩ → b ≠ gb := fun b off he => by
            obtain ⟨g', e1, e2, _⟩ := hg9 HPOS.out
            have hlt9 := hcb.1
            rw [he] at e1; injection e1 with e1; injection e1 with e1 e3 e4
            omega
          replace hB := below_step hB hb9
          replace hca := hca.later hb9
          replace hcb := hcb.later hb9
          replace hE := (hE.below hb9).more hb9.size
          clear hb9 ho9 hg9
          refine ⟨⟨⟨_, hB⟩, rfl⟩, ?_⟩
          go_simp
          refine wpC_all (rs := [6]) (by kernel_rfl) (by decide) ?_
          intro i hi
          simp only [List.mem_cons, List.not_mem_nil, or_false] at hi
          subst hi
          refine ⟨_, rfl, ?_⟩
          obtain ⟨z0, f0⟩ := hca.2 0 _ rfl
          go_simp
          replace hca := hca.set (k := 0) (by simp) (.slice A1 l.length k1)
          simp only [List.set_cons_zero] at hca
          replace hcb := hcb.other (p := ⟨ga, 0, none⟩) (show ga ≠ gb by omega) (.slice A1 l.length k1)
          replace hE : Ints (WW3.setCell ⟨ga, 0, none⟩ (.slice A1 l.length k1)) (WW3.setCell ⟨ga, 0, none⟩ (.slice A1 l.length k1)).heap.size A1 l.length (ear l) := by
            rw [World.size_setCell]
            exact hE.keep nEga (fun q _ hq => Below.heap_setCell _ ⟨ga, 0, none⟩ (.slice A1 l.length k1) q hq)
          replace hL : Ints (WW3.setCell ⟨ga, 0, none⟩ (.slice A1 l.length k1)) (WW3.setCell ⟨ga, 0, none⟩ (.slice A1 l.length k1)).heap.size A2 l.length (latP l) := by
            rw [World.size_setCell]
            exact hL.keep nLga (fun q _ hq => Below.heap_setCell _ ⟨ga, 0, none⟩ (.slice A1 l.length k1) q hq)
          replace hB := hB.setCell (p := ⟨ga, 0, none⟩) h0ga (.slice A1 l.length k1)
          clear z0 f0
          generalize WW3.setCell ⟨ga, 0, none⟩ (.slice A1 l.length k1) = WW4 at *
          refine ⟨⟨⟨_, hB⟩, rfl⟩, ?_⟩
          refine wpC_all (rs := [7]) (by kernel_rfl) (by decide) ?_
          intro i hi
          simp only [List.mem_cons, List.not_mem_nil, or_false] at hi
          subst hi
          refine ⟨_, rfl, ?_⟩
          obtain ⟨z0, f0⟩ := hcb.2 0 _ rfl
          go_simp
          replace hcb := hcb.set (k := 0) (by simp) (.slice A2 l.length k2)
          simp only [List.set_cons_zero] at hcb
          replace hca := hca.other (p := ⟨gb, 0, none⟩) (show gb ≠ ga by omega) (.slice A2 l.length k2)
          replace hE : Ints (WW4.setCell ⟨gb, 0, none⟩ (.slice A2 l.length k2)) (WW4.setCell ⟨gb, 0, none⟩ (.slice A2 l.length k2)).heap.size A1 l.length (ear l) := by
            rw [World.size_setCell]
            exact hE.keep nEgb (fun q _ hq => Below.heap_setCell _ ⟨gb, 0, none⟩ (.slice A2 l.length k2) q hq)
          replace hL : Ints (WW4.setCell ⟨gb, 0, none⟩ (.slice A2 l.length k2)) (WW4.setCell ⟨gb, 0, none⟩ (.slice A2 l.length k2)).heap.size A2 l.length (latP l) := by
            rw [World.size_setCell]
            exact hL.keep nLgb (fun q _ hq => Below.heap_setCell _ ⟨gb, 0, none⟩ (.slice A2 l.length k2) q hq)
          replace hB := hB.setCell (p := ⟨gb, 0, none⟩) h0gb (.slice A2 l.length k2)
          clear z0 f0
          generalize WW4.setCell ⟨gb, 0, none⟩ (.slice A2 l.length k2) = WW5 at *
          refine ⟨⟨⟨_, hB⟩, rfl⟩, ?_⟩
          refine wpC_done (by kernel_rfl) ?_
          go_wp2_with fail
          go_meet
          case rel => exact ⟨_, _, _, _, _, _, rfl, rfl, hca, hcb, hE, hL, hB⟩
    obtain ⟨ga, gb, A1, k1, A2, k2, e5, e6, hca, hcb, hE, hL, hB⟩ := hcut
    cases e5
    cases e6
    have hbl2 := (hB.cell (p := ⟨w.heap.size, 0, none⟩) hq1).trans hbl
    have hB2 : Below w.heap.size w wc := HB1.out.trans (hB.mono HB1.out.size)
    obtain ⟨W2, hW2⟩ : ∃ W2, W2 = wc.alloc (.cells #[.func (.func 38) #[] #[.pointer (some ⟨w.heap.size, 0, none⟩), .pointer (some ⟨ga, 0, none⟩), .pointer (some ⟨gb, 0, none⟩), .pointer (some ⟨wc.heap.size, 0, none⟩)]] 69) := ⟨_, rfl⟩
    have hg2 : Below wc.heap.size wc W2 := by rw [hW2]; exact (Below.refl _ _).alloc (Nat.le_refl _) _
    have hb4 : W2.cell? ⟨wc.heap.size, 0, none⟩ = some (.func (.func 38) #[] #[.pointer (some ⟨w.heap.size, 0, none⟩), .pointer (some ⟨ga, 0, none⟩), .pointer (some ⟨gb, 0, none⟩), .pointer (some ⟨wc.heap.size, 0, none⟩)]) := by rw [hW2]; exact (Boxed.new wc _ _).cell
    have hBW : Below w.heap.size w W2 := hB2.trans (hg2.mono hB2.size)
    have hsw := hB2.size
    have c5 := chain1_any A cap l A1 k1 A2 k2 w.heap.size ga gb wc.heap.size W2 HS.out HP.out (HX.out.go hBW) ((hE.below hg2).more hg2.size) ((hL.below hg2).more hg2.size) ((hg2.cell (p := ⟨w.heap.size, 0, none⟩) (World.block_lt_of_cell? wc _ hbl2)).trans hbl2) ((hca.later hg2).2 0 _ rfl).1 ((hcb.later hg2).2 0 _ rfl).1 hb4 _ none 0 W2 (Nat.le_refl _) (fun i h => by cases h) (Below.refl _ _)
    have C5 := Lib.hid c5
    have HBW := Lib.hid hBW
    clear hca hcb hE hL hB hbl hbl2 hB2 c5 hBW hb4 hg2
    go_wp2_with fail
    rw [← hW2]
    refine (C5.out).mono ?_
    rintro e w6 ⟨⟨v6, rfl, ho6⟩, hb6⟩
    have hsz6 := HBW.out.size
    have HO6 := Lib.hid (jown_mono ho6 hsz6)
    have HB6 := Lib.hid (HBW.out.trans (hb6.mono hsz6))
    clear ho6 hb6
    go_wp2
    go_ret2
    exact ⟨⟨_, rfl, HO6.out⟩, HB6.out⟩
  · have hne : (checkE l == 0) = false := by simpa using h0
    have hE : chnE l = [] := if_neg h0
    rw [hE]
    generalize checkE l = E at *
    have C1 := Lib.hid c1
    clear c1 hx h0
    go_enter Tryz.func13, Tryz.ntmps13
    go_wp2_with fail
    refine (C1.out _ (by repeat (first | exact Below.refl _ _ | assumption | refine Below.setCell ?_ (by first | (simp; done) | (simp; omega) | omega) _ | refine Below.drew ?_ | refine below_drewN ?_ _ | refine Below.alloc ?_ (by first | (simp; done) | (simp; omega) | omega) _ | refine below_alloc ?_ _ | refine below_step ?_ (by assumption)))).mono ?_
    rintro e w1 ⟨rfl, hb⟩
    have hb2 := Lib.hid (((Below.refl _ w).alloc (Nat.le_refl _) (.cells #[.slice A l.length cap] 22)).trans (hb.mono (by simp)))
    clear hb
    go_wp2
    go_ret2
    exact ⟨⟨_, rfl, World.ownsRow_nil _ _ _ _⟩, hb2.out⟩
end Go.Proofs.YtmionebfepkolaaGreatDoor
