/- Ladders: the reference's Ladders. -/
import Derived.Test.YtgapnhpmgidmhaaLadM2
import Derived.Test.YtgapnhpmgidmhaaBear4
import Derived.Test.YtgapnhpmgidmhaaOnR
import Derived.Test.YtgapnhpmgidmhaaFailM
import Derived.Test.YtgapnhpmgidmhaaFewR
import Derived.Test.YtgapnhpmgidmhaaDogs4
import Derived.Test.YtgapnhpmgidmhaaCnt
import Derived.Test.YtgapnhpmgidmhaaMixN
import Derived.Deep.DeepCutAuto
set_option linter.unusedSimpArgs false
set_option linter.unusedVariables false
namespace Go.Proofs.Ytgapnhpmgidmhaa
open Go.RowKit
attribute [local go_sem] Later.cell LtN.cell

def LIn (c : Clb) (F : List J) (w3 : World) (g D : Nat) (x : Value) (W : World) : Prop := ∃ (k a : Nat), D < k ∧ k ≤ F.length ∧ x = .int .i64 (k : Int) ∧ Hid (LcAt (lc c) F D k a) ∧ Hid (W.ownsRow g 3 1 (.slice (some ⟨g, 0, none⟩) F.length F.length) F.length (icells (arrQ (lc c) F (D : Int) (a : Int)))) ∧ Hid (w3.grownBy W (some g))
theorem LIn.mk {c : Clb} {F : List J} {w3 : World} {g D : Nat} {x : Value} {W : World} (k a : Nat) (h1 : D < k) (h2 : k ≤ F.length) (h3 : x = .int .i64 (k : Int)) (h4 : Hid (LcAt (lc c) F D k a)) (h5 : Hid (W.ownsRow g 3 1 (.slice (some ⟨g, 0, none⟩) F.length F.length) F.length (icells (arrQ (lc c) F (D : Int) (a : Int))))) (h6 : Hid (w3.grownBy W (some g))) : LIn c F w3 g D x W := ⟨k, a, h1, h2, h3, h4, h5, h6⟩
theorem linfo_joint : (Try.prog.info? 37).map (fun i => (i.zero, i.size, i.bytes)) = some (some (.agg #[.int .i64 0, .bool false]), 2, 16) := by kernel_rfl
theorem news2J (W : World) (x y : Value) (t : TypeId) : ∀ j u, ([x, y] : List Value)[j]? = some u → (W.alloc (.cells #[x, y] t)).cell? ((⟨W.heap.size, 0, none⟩ : Addr).add j) = some u := by
  intro j u hj
  match j with
  | 0 => simp at hj; subst hj; simp [Addr.add]
  | 1 => simp at hj; subst hj; simp [Addr.add]
  | j + 2 => simp at hj
theorem jcells_take {F : List J} {k : Nat} (h : k < F.length) : jcells (F.take k) ++ [.int .i64 (hgt F k), .bool (sndB F k)] = jcells (F.take (k + 1)) := by
  rw [List.take_succ_eq_append_getElem h]
  unfold jcells hgt sndB
  rw [List.flatMap_append, List.getElem?_eq_getElem h]; rfl
set_option maxRecDepth 20000 in
set_option maxHeartbeats 32000000 in
theorem rladders_ok (c : Clb) (A : Option Addr) (len cap : Nat) (l : List J) (A' : Option Addr) (n cap' : Nat) (ds : List Int) (w : World) (hv : (vC c && vJ l) = true) (hr : rightB c l ds = true) (hm : len ≤ 9223372036854775807) (hm' : n ≤ 80) (hx : Rows 2 jointV dJ w w.heap.size A len l) (hy : Ints w w.heap.size A' n ds) :
    Calls Try.prog 8 #[climbV c, .slice A len cap, .slice A' n cap'] w fun e w' => (∃ v, e = .returned (.tuple #[v, .int .i64 (if (ladO c l ds).isSome then 0 else 8)]) ∧ FewV w' w.heap.size v (ladO c l ds)) ∧ Below w.heap.size w w' := by
  have hvc : vC c = true := by rw [Bool.and_eq_true] at hv; exact hv.1
  have hwk := wall_ok hr
  have hn : ds.length = n := hy.1
  have c1 := fun W (h : Below w.heap.size w W) => bad_any c A len cap l W hm ((hx.below h).more h.size)
  rw [hv] at c1
  have c2 := fun W (h : Below w.heap.size w W) => rRight_any c A len cap l A' n cap' ds W hm (by omega) ((hx.below h).more h.size) ((hy.below h).more h.size)
  rw [hr] at c2
  have c3 := fun k (hk : k < n) W (h : Below w.heap.size w W) => rheight_any A len cap l A' n cap' ds k W hm (by omega) ((hx.below h).more h.size) ((hy.below h).more h.size) hwk hk
  have c4 := fun k (hk : k < n) W (h : Below w.heap.size w W) => ron_any c A len cap l A' n cap' ds k W hvc hm (by omega) ((hx.below h).more h.size) ((hy.below h).more h.size) hwk hk
  obtain ⟨F, hF⟩ : ∃ F, F = ft c l ds := ⟨_, rfl⟩
  have hfl : F.length = n := by rw [hF, ft_len, hn]
  have hfb : ∀ k, k < n → 1 ≤ hgt F k ∧ hgt F k ≤ 200000 := fun k hk => by rw [hF, ft_hgt (by omega)]; exact hwk.bd k (by omega)
  have hfh : ∀ k, k < n → hgt F k = hD l ds k := fun k hk => by rw [hF, ft_hgt (by omega)]
  have hfs : ∀ k, k < n → sndB F k = decide (2 ≤ (onI c l ds k n).length) := fun k hk => by rw [hF, ft_snd (by omega)]; unfold onN; rw [hn]
  have hLO : ladO c l ds = few (lc c) F := by rw [hF]; rfl
  rw [hLO]
  obtain ⟨ev, hev⟩ : ∃ ev : Int, ev = (if (few (lc c) F).isSome then 0 else 8) := ⟨_, rfl⟩
  rw [← hev]
  have HEV := Lib.hid hev
  clear hev
  obtain ⟨j0, hj, hy0, hy1, hy2⟩ := info_parts linfo_joint
  have hJ0 := Lib.hid hj
  have hJ1 := Lib.hid hy0
  have hJ2 := Lib.hid hy1
  have hJ3 := Lib.hid hy2
  have hcl := vC_spec hvc
  have C1 := Lib.hid c1
  have C2 := Lib.hid c2
  have C3 := Lib.hid c3
  have C4 := Lib.hid c4
  have HFL := Lib.hid hfl
  have HFB := Lib.hid hfb
  obtain ⟨i0, hi, hz0, hz1, hz2⟩ := info_parts info_int
  have hI0 := Lib.hid hi
  have hI1 := Lib.hid hz0
  have hI2 := Lib.hid hz1
  have hI3 := Lib.hid hz2
  clear hi hz0 hz1 hz2 hfb
  have HFH := Lib.hid hfh
  have HFS := Lib.hid hfs
  have HCL := Lib.hid hcl
  clear c1 c2 c3 c4 hfl hfh hfs hcl hj hy0 hy1 hy2 hx hy hv hr hvc hwk hn hF hLO
  have hfl2 := HFL.out
  subst hfl2
  go_enter Try.func8, Try.ntmps8
  go_wp2_with fail
  have hC0 := climbAt_box w c 23
  have hB0 : Below w.heap.size w (w.alloc (.cells #[.int .i64 c.fi, .int .i64 c.ga, .int .i64 c.to, .int .i64 c.le, .int .i64 c.la, .int .i64 c.st] 23)) := (Below.refl _ _).alloc (Nat.le_refl _) _
  refine (C1.out _ hB0).mono ?_
  rintro e w1 ⟨rfl, hb1⟩
  have hC1 := hC0.block (hb1.block w.heap.size (by simp))
  have hB1 : Below w.heap.size w w1 := hB0.trans (hb1.mono hB0.size)
  have hs1 : w.heap.size + 1 ≤ w1.heap.size := by have := hb1.size; simpa using this
  clear hb1 hC0 hB0
  obtain ⟨q0, q1, q2, q3, q4, q5⟩ := id hC1
  go_wp2_with fail
  refine (C2.out _ hB1).mono ?_
  rintro e w2 ⟨rfl, hb2⟩
  have HC2 := Lib.hid (hC1.block (hb2.block w.heap.size (by omega)))
  have HB2 := Lib.hid (hB1.trans (hb2.mono hB1.size))
  have hsw2 : w.heap.size + 1 ≤ w2.heap.size := Nat.le_trans hs1 hb2.size
  clear hb2 hC1 hB1 q0 q1 q2 q3 q4 q5 C1 C2
  go_wp2_with fail
  go_loopw [8, 9] (fun v i' W => ∃ k : Nat, k ≤ F.length ∧ i' = .int .i64 (k : Int) ∧ Hid (W.ownsRow w2.heap.size 37 2 v k (jcells (F.take k))) ∧ Hid (Below w2.heap.size w2 W)) (fun _ i' _ => F.length - (intOf i').toNat)
  case atStart => exact ⟨0, Nat.zero_le _, rfl, Lib.hid (World.ownsRow_nil _ _ _ _), Lib.hid (Below.refl _ _)⟩
  case round =>
    as_aux_lemma =>
      obtain ⟨k, hk, rfl, HO, HB⟩ := hrel
      obtain ⟨A8, k8, rfl, hq81, hq82, -, -⟩ := own_joints HO.out
      have hs2 := HB.out.size
      have HBr := Lib.hid (HB2.out.trans (HB.out.mono HB2.out.size))
      have hsw : w.heap.size ≤ w2.heap.size := HB2.out.size
      obtain ⟨q0, q1, q2, q3, q4, q5⟩ := HC2.out.block (HB.out.block w.heap.size (by omega))
      have hwr1 : w.heap.size < wr.heap.size := by omega
      have hN1 : w.heap.size < w2.heap.size := by omega
      by_cases hlt : k < F.length
      · have hk1 : (k : Int) < F.length := by omega
        have hk2 : ¬ F.length ≤ k := by omega
        have c3 := fun W h => C3.out k hlt W h
        have c4 := fun W h => C4.out k hlt W h
        have htk := jcells_take (F := F) (k := k) (by omega)
        rw [HFH.out k hlt, HFS.out k hlt] at htk
        generalize hD l ds k = H at *
        generalize (onI c l ds k F.length).length = L at *
        have hdL : decide ((2 : Int) ≤ (L : Int)) = decide (2 ≤ L) := decide_eq_decide.2 (by omega)
        generalize decide (2 ≤ L) = B at *
        have HTK := Lib.hid htk
        clear C3 C4
        have C3 := Lib.hid c3
        have C4 := Lib.hid c4
        clear c3 c4 htk
        go_wp2_with fail
        refine wp_region_ltn w2.heap.size (by kernel_rfl) (by kernel_rfl) ?_
        refine wpC_take (f := 8) (by kernel_rfl) (by kernel_rfl) ⟨⟨_, (Below.refl _ _).drew⟩, rfl⟩ [0, 1, 2, 3, 5, 6, 7, 8] _ _ (by kernel_rfl) ?_
        simp only [List.map_cons, List.map_nil, List.getElem?_toArray, List.getElem?_cons_succ, List.getElem?_cons_zero, Option.getD_some]
        repeat (go_big_quiet_step (fail))
        refine wpQuiet_nil ?_
        have hB : Below w2.heap.size wr wr.drew := (Below.refl _ _).drew
        have hsz : w2.heap.size ≤ wr.drew.heap.size := by simp; omega
        have ho : wr.drew.ownsRow w2.heap.size 37 2 (.slice A8 k k8) k (jcells (F.take k)) := own_later HO.out ((Below.refl _ _).drew)
        refine wpC_all (rs := [4]) (by kernel_rfl) (by decide) ?_
        intro i hi
        simp only [List.mem_cons, List.not_mem_nil, or_false] at hi
        subst hi
        refine ⟨_, rfl, ?_⟩
        go_simp
        refine (C3.out _ (HBr.out.trans (hB.mono hsw))).mono ?_
        rintro e WW0 ⟨rfl, hb9⟩
        replace ho := own_later ho hb9
        replace hB := hB.trans (hb9.mono hsz)
        replace hsz := hB.size
        replace hsz : w2.heap.size ≤ WW0.heap.size := Nat.le_trans hs2 hsz
        clear hb9
        refine ⟨⟨⟨_, hB⟩, rfl⟩, ?_⟩
        go_simp
        refine wpC_all (rs := [9]) (by kernel_rfl) (by decide) ?_
        intro i hi
        simp only [List.mem_cons, List.not_mem_nil, or_false] at hi
        subst hi
        refine ⟨_, rfl, ?_⟩
        go_simp
        refine (C4.out _ (HBr.out.trans (hB.mono hsw))).mono ?_
        rintro e WW1 ⟨⟨v4, rfl, ho4⟩, hb9⟩
        replace ho := own_later ho hb9
        replace hB := hB.trans (hb9.mono hsz)
        replace hsz := hB.size
        replace hsz : w2.heap.size ≤ WW1.heap.size := Nat.le_trans hs2 hsz
        clear hb9
        obtain ⟨A4, k4, rfl, q41, q42, -, -⟩ := own_ints ho4
        clear ho4
        refine ⟨⟨⟨_, hB⟩, rfl⟩, ?_⟩
        go_simp
        refine wpC_all (rs := [10]) (by kernel_rfl) (by decide) ?_
        intro i hi
        simp only [List.mem_cons, List.not_mem_nil, or_false] at hi
        subst hi
        refine ⟨_, rfl, ?_⟩
        go_simp
        refine ⟨⟨⟨_, hB⟩, rfl⟩, ?_⟩
        refine wpC_all (rs := [11]) (by kernel_rfl) (by decide) ?_
        intro i hi
        simp only [List.mem_cons, List.not_mem_nil, or_false] at hi
        subst hi
        refine ⟨_, rfl, ?_⟩
        go_simp
        refine ⟨⟨⟨_, hB⟩, rfl⟩, ?_⟩
        refine wpC_all (rs := [12]) (by kernel_rfl) (by decide) ?_
        intro i hi
        simp only [List.mem_cons, List.not_mem_nil, or_false] at hi
        subst hi
        refine ⟨_, rfl, ?_⟩
        go_simp
        refine ⟨⟨⟨_, hB⟩, rfl⟩, ?_⟩
        refine wpC_all (rs := [13]) (by kernel_rfl) (by decide) ?_
        intro i hi
        simp only [List.mem_cons, List.not_mem_nil, or_false] at hi
        subst hi
        refine ⟨_, rfl, ?_⟩
        go_simp
        replace hB := hB.alloc hsz (.cells #[.int .i64 H, .bool B] 37)
        replace ho := ho.alloc (.cells #[.int .i64 H, .bool B] 37)
        refine ⟨⟨⟨_, hB⟩, rfl⟩, ?_⟩
        go_simp
        refine wpC_all (rs := [14]) (by kernel_rfl) (by decide) ?_
        intro i hi
        simp only [List.mem_cons, List.not_mem_nil, or_false] at hi
        subst hi
        refine ⟨_, rfl, ?_⟩
        refine wp_append_own1 (.tmp 33) (.tmp 46) 24 rfl w2.heap.size 37 j0 (.agg #[.int .i64 0, .bool false]) 2 16 Try.underlying24 hJ0.out hJ1.out hJ2.out hJ3.out rfl (by decide) (.slice A8 k k8) k (jcells (F.take k)) (by simp [Act.eval, Act.put]) ho ⟨WW1.heap.size, 0, none⟩ 1 1 (by omega) [.int .i64 H, .bool B] (by simp [Act.eval, Act.put]) rfl (news2J _ _ _ _) (by intro u hu; simp at hu; rcases hu with rfl | rfl <;> rfl) (by unfold maxLen; omega) (by omega) (by simp; omega) ?_
        intro g8 cap8 w8 hown8 hgrow8
        have hb8 := hB.trans (grown_below hgrow8 (by simp; omega) (fun q hq => (ho.lt q hq).1))
        rw [HTK.out] at hown8
        refine ⟨⟨⟨_, hb8⟩, rfl⟩, ?_⟩
        go_simp
        refine wpC_all (rs := [15]) (by kernel_rfl) (by decide) ?_
        intro i hi
        simp only [List.mem_cons, List.not_mem_nil, or_false] at hi
        subst hi
        refine ⟨_, rfl, ?_⟩
        go_simp
        refine ⟨⟨⟨_, hb8⟩, rfl⟩, ?_⟩
        refine wpC_done (by kernel_rfl) ?_
        have HO9 := Lib.hid hown8
        have HB9 := Lib.hid (HB.out.trans hb8)
        clear hown8 hgrow8 hb8 hB ho hsz HB HO HBr
        go_wp2_with fail
        go_roundw
        case rel => exact ⟨k + 1, by omega, by go_num, HO9, HB9⟩
        case measure => simp [intOf]; omega
      · have hkn : k = F.length := by omega
        have hleb := HCL.out.2.2.2.1
        have hlab := HCL.out.2.2.2.2.1
        have htob := HCL.out.2.2.1
        have hfib := HCL.out.1
        have hk1 : ¬ (k : Int) < F.length := by omega
        subst hkn
        have HFT : Hid (wr.ownsRow w2.heap.size 37 2 (.slice A8 F.length k8) F.length (jcells F)) := Lib.hid (by have h := HO.out; rwa [List.take_length] at h)
        have hRF2 : ∃ A9 c9, Value.slice A8 F.length k8 = .slice A9 F.length c9 ∧ Rows 2 jointV dJ wr wr.heap.size A9 F.length F := by
          obtain ⟨A9, c9, h1, -, -, h2, -⟩ := own_joints HFT.out
          exact ⟨A9, c9, h1, h2⟩
        obtain ⟨A9, c9, h91, hRF3⟩ := hRF2
        injection h91 with h91 h92 h93
        subst h91 h93
        have HRF := Lib.hid hRF3
        have HCr := Lib.hid (HC2.out.block (HB.out.block w.heap.size (by omega)))
        clear HO HFT hRF3 HB hlt hk h92 hN1 hwr1 q0 q1 q2 q3 q4 q5 C3 C4
        go_wp2_with (at_make; refine wpList_make_full _ rfl _ _ 25 rfl wr.heap.size 3 i0 (.int .i64 0) 1 Try.underlying25 hI0.out hI1.out hI2.out _ _ _ _ F.length rfl rfl (by omega) (by omega) (by rw [hI3.out]; omega) (by unfold maxLen; omega) (by omega) ?_; intro w4 hown hgrow; go_frame)
        have hown2 : w4.ownsRow wr.heap.size 3 1 (.slice (some ⟨wr.heap.size, 0, none⟩) F.length F.length) F.length (icells (arrQ (lc c) F ((F.length : Int) - 1) 0)) := by
          rw [← arrQ_start]
          have h1 : (madeCells (Value.int .i64 0).cells (F.length * 1)).toList = icells (List.replicate F.length 0) := by
            have : (Value.int .i64 0).cells = #[.int .i64 0] := rfl
            rw [this, Nat.mul_one, toList_madeCells_one]; simp [icells]
          rw [h1] at hown
          simpa using hown
        have hg1 : wr.grownBy w4 (some wr.heap.size) := hgrow.but _
        have HW4 := Lib.hid hown2
        clear hown hown2 hgrow
        obtain ⟨g, hg⟩ : ∃ g, g = wr.heap.size := ⟨_, rfl⟩
        rw [← hg] at HW4 hg1 ⊢
        have hwg : w.heap.size < g := by omega
        obtain ⟨w3, hw3⟩ : ∃ w3, w3 = wr := ⟨_, rfl⟩
        rw [← hw3] at HRF HCr hg1 HBr hg
        clear hw3
        have hgle : w3.heap.size ≤ g := by omega
        have hw3s : w.heap.size < w3.heap.size := by omega
        clear hg
        go_wp2_with fail
        go_loopw [11] (fun x W => NOut (lc c) F w3 g x W) (fun x _ => (intOf x + 1).toNat)
        case atStart => exact NOut.mk ((F.length : Int) - 1) (by omega) (by omega) (by go_num) HW4 hg1
        case round =>
          as_aux_lemma =>
            obtain ⟨i, hi1, hi2, rfl, HR, hg2⟩ := hrel
            have hB3 : Below w3.heap.size w3 wr := grown_below hg2 (Nat.le_refl _) (fun k hk => by injection hk; omega)
            obtain ⟨q0, q1, q2, q3, q4, q5⟩ := HCr.out.block (hg2.block w.heap.size (by omega) (by intro h; injection h; omega))
            have hsr := hg2.size
            have hwr1 : w.heap.size < wr.heap.size := by omega
            by_cases hge : 0 ≤ i
            · obtain ⟨D, rfl⟩ : ∃ D : Nat, i = (D : Int) := ⟨i.toNat, by omega⟩
              have hDl : D < F.length := by omega
              obtain ⟨b, off, rfl, hb1, hj1, hj2⟩ := (HRF.out.below hB3).atJ D hDl
              have hbh := HFB.out D hDl
              obtain ⟨n1, n2, n3⟩ := need_spec (lc c) F D hDl
              have hb3 : b < wr.heap.size := by omega
              have hI1 : (D : Int) < F.length := by omega
              have hI2 : ¬ F.length ≤ D := by omega
              have hgs := (own_at HR.out).1
              cases hs : sndB F D
              · have HRN : Hid (wr.ownsRow g 3 1 (.slice (some ⟨g, 0, none⟩) F.length F.length) F.length (icells (arrQ (lc c) F ((D : Int) - 1) 0))) := Lib.hid (by
                  have h5 := HR.out
                  rw [← arrQ_next, n1 hs]; exact h5)
                rw [hs] at hj2
                clear n1 n2 n3 hs HR hj1 q0 q1 q2 q3 q4 q5
                go_wp2_with fail
                go_roundw
                case rel => exact NOut.mk ((D : Int) - 1) (by omega) (by omega) (by go_num) HRN hg2
                case measure => first | (simp [intOf]; done) | (simp [intOf]; omega)
              · rw [hs] at hj2
                have hnd := nd1_need (c := lc c) hDl hs
                have hcz := fun h => LcAt.zero (c := lc c) (F := F) (i := D) h
                generalize hX : hgt F D = X at *
                by_cases hla : c.to ≤ X + c.le
                · have hne := n2 hs (by show c.to - c.la ≤ X + (c.le - c.la); omega)
                  have hla2 : decide (c.to ≤ X + c.le) = true := decide_eq_true hla
                  clear n1 n2 n3 hcz hnd
                  go_wp2_with fail
                  (refine wp_region_later (by kernel_rfl) (by kernel_rfl) ?_; (repeat (go_big_quiet_step ((fail)))); refine wpQuiet_nil ?_)
                  intro w5 hb
                  have hg3 : w3.grownBy w5 (some g) := hg2.andThen (below_grown hb none) (fun j hj => by cases hj)
                  have HR3 := Lib.hid (own_later HR.out hb)
                  obtain ⟨o1, o2, o3⟩ := own_at HR3.out
                  have hcell := o2 D hDl
                  have hfro := o3 D
                  have hst := own_store HR3.out D 1
                  rw [arrQ_set (lc c) F D 0 1 hDl] at hst
                  have hone : (1 : Int) = (need (lc c) F D : Int) := by rw [hne]; rfl
                  have HRN : Hid ((w5.setCell ⟨g, D, none⟩ (.int .i64 1)).ownsRow g 3 1 (.slice (some ⟨g, 0, none⟩) F.length F.length) F.length (icells (arrQ (lc c) F ((D : Int) - 1) 0))) := Lib.hid (by
                    have h5 := hst.1
                    rw [← arrQ_next, ← hone]; exact h5)
                  have HG4 := Lib.hid (hg3.andThen hst.2 (fun j hj => by injection hj with hj; right; rw [hj]))
                  clear hst o1 o2 o3 hone hne hs HR hg2 hg3 HR3 hb hj1 hj2 q0 q1 q2 q3 q4 q5
                  go_wp2_with fail
                  go_roundw
                  case rel => exact NOut.mk ((D : Int) - 1) (by omega) (by omega) (by go_num) HRN HG4.out
                  case measure => first | (simp [intOf]; done) | (simp [intOf]; omega)
                · have hla2 : decide (c.to ≤ X + c.le) = false := decide_eq_false hla
                  have hcz2 := hcz (by show ¬ c.to - c.la ≤ X + (c.le - c.la); omega)
                  have HCZ := Lib.hid hcz2
                  have HND := Lib.hid hnd
                  clear n1 n2 n3 hcz hcz2 hnd
                  go_wp2_with fail
                  (refine wp_region_later (by kernel_rfl) (by kernel_rfl) ?_; (repeat (go_big_quiet_step ((fail)))); refine wpQuiet_nil ?_)
                  intro w5 hb
                  have hg3 : w3.grownBy w5 (some g) := hg2.andThen (below_grown hb none) (fun j hj => by cases hj)
                  have HR3 := Lib.hid (own_later HR.out hb)
                  clear HR hg2 hb hB3 hj1 hj2 q0 q1 q2 q3 q4 q5 hwr1 hb3 hsr hgs
                  go_wp2_with fail
                  go_loopw [12] (fun x W => LIn c F w3 g D x W) (fun x _ => F.length - (intOf x).toNat)
                  case atStart => exact LIn.mk (D + 1) 0 (by omega) (by omega) (by go_num) HCZ HR3 (Lib.hid hg3)
                  case round =>
                    as_aux_lemma =>
                      clear HCZ HR3 hg3
                      obtain ⟨k, a, hik, hkl, rfl, HP, HR, HG⟩ := hrel
                      have hg2 := HG.out
                      have hB3 : Below w3.heap.size w3 wr := grown_below hg2 (Nat.le_refl _) (fun k hk => by injection hk; omega)
                      obtain ⟨q0, q1, q2, q3, q4, q5⟩ := HCr.out.block (hg2.block w.heap.size (by omega) (by intro h; injection h; omega))
                      have hsr := hg2.size
                      have hwr1 : w.heap.size < wr.heap.size := by omega
                      have hab := HP.out.le
                      by_cases hlt : k < F.length
                      · obtain ⟨b', off', he, hb1', hj1, hj2⟩ := (HRF.out.below hB3).atJ D hDl
                        cases he
                        obtain ⟨b', off', he, -, hj3, hj4⟩ := (HRF.out.below hB3).atJ k hlt
                        cases he
                        have hbk := HFB.out k hlt
                        have hb3 : b < wr.heap.size := by omega
                        rw [hX] at hj1
                        have hk1 : (k : Int) < F.length := by omega
                        have hk2 : ¬ F.length ≤ k := by omega
                        have hNb := need_bd (lc c) F k
                        have hsk := fun h => HP.out.skip (k := k) h
                        have hlw := fun h1 h2 h3 => HP.out.low (k := k) hik h1 h2 h3
                        have hst := fun h1 h2 => HP.out.stay (k := k) hik h1 h2
                        rw [hX] at hsk hlw hst
                        have hvk := arrQ_at (lc c) F (D : Int) (a : Int) hlt
                        rw [if_neg (by omega), if_pos (by omega)] at hvk
                        have hvi := arrQ_at (lc c) F (D : Int) (a : Int) hDl
                        rw [if_pos rfl] at hvi
                        obtain ⟨o1, o2, o3⟩ := own_at HR.out
                        have hck := o2 k hlt
                        have hci := o2 D hDl
                        rw [hvk] at hck
                        rw [hvi] at hci
                        have hfro := o3 D
                        have hga : (lc c).ga = c.le - c.la := rfl
                        rw [hga] at hsk hlw hst
                        have HS1 := Lib.hid hsk
                        have HS2 := Lib.hid hlw
                        have HS3 := Lib.hid hst
                        have HST := Lib.hid (fun (W : World) (h : W.ownsRow g 3 1 (.slice (some ⟨g, 0, none⟩) F.length F.length) F.length (icells (arrQ (lc c) F (D : Int) (a : Int)))) v => by
                          have h9 := own_store h D v
                          rw [arrQ_set (lc c) F D _ _ hDl] at h9
                          exact h9)
                        have HVI := Lib.hid hvi
                        generalize need (lc c) F k = N at *
                        generalize hgt F k = XK at *
                        clear hsk hlw hst hga hvk hvi HP o2 o3
                        by_cases hN0 : N = 0
                        · have h4 := Lib.hid (HS1.out (.inl hN0))
                          have hN1 : decide (0 < (N : Int)) = false := decide_eq_false (by omega)
                          have hN2 : decide (0 < N) = false := decide_eq_false (by omega)
                          go_wp2_with fail
                          (refine wp_region_later (by kernel_rfl) (by kernel_rfl) ?_; (repeat (go_big_quiet_step ((fail)))); refine wpQuiet_nil ?_)
                          intro w6 hb6
                          have HG6 := Lib.hid (HG.out.andThen (below_grown hb6 none) (fun j hj => by cases hj))
                          have HR6 := Lib.hid (own_later HR.out hb6)
                          clear hb6 hck hci hj1 hj2 hj3 hj4 q0 q1 q2 q3 q4 q5 HR HG hg2
                          go_wp2_with fail
                          go_roundw
                          case rel => exact LIn.mk (k + 1) a (by omega) (by omega) (by go_num) h4 HR6 HG6
                          case measure => first | (simp [intOf]; done) | (simp [intOf]; omega)
                        · have hN1 : decide (0 < (N : Int)) = true := decide_eq_true (by omega)
                          have hN2 : decide (0 < N) = true := decide_eq_true (by omega)
                          by_cases had : XK - X ≤ c.le - c.la
                          · have had2 : decide (XK - X ≤ c.le - c.la) = true := decide_eq_true had
                            by_cases hlo : a = 0 ∨ N + 1 < a
                            · have h4 := Lib.hid (HS2.out had (by omega) hlo)
                              rcases Nat.eq_zero_or_pos a with rfl | ha0
                              · have haz : (((0 : Nat) : Int) == 0) = true := rfl
                                go_wp2_with fail
                                (refine wp_region_later (by kernel_rfl) (by kernel_rfl) ?_; (repeat (go_big_quiet_step ((fail)))); refine wpQuiet_nil ?_)
                                intro w6 hb6
                                have hck6 : w6.cell? ⟨g, k, none⟩ = some (.int .i64 (N : Int)) := (hb6.cell (p := ⟨g, k, none⟩) o1).trans hck
                                have HG6 := Lib.hid (HG.out.andThen (below_grown hb6 none) (fun j hj => by cases hj))
                                have HR6 := Lib.hid (own_later HR.out hb6)
                                obtain ⟨p1, p2, p3⟩ := own_at HR6.out
                                have hci6 := p2 D hDl
                                rw [HVI.out] at hci6
                                have hfro6 := p3 D
                                have hst := HST.out w6 HR6.out ((N : Int) + 1)
                                have hcast : (((N + 1 : Nat) : Int) = (N : Int) + 1) := by omega
                                have HRN : Hid ((w6.setCell ⟨g, D, none⟩ (.int .i64 ((N : Int) + 1))).ownsRow g 3 1 (.slice (some ⟨g, 0, none⟩) F.length F.length) F.length (icells (arrQ (lc c) F (D : Int) ((N + 1 : Nat) : Int)))) := Lib.hid (by rw [hcast]; exact hst.1)
                                have HG7 := Lib.hid (HG6.out.andThen hst.2 (fun j hj => by injection hj with hj; right; rw [hj]))
                                clear hcast
                                clear hst p2 p3 hb6 hck hci hfro hj1 hj2 hj3 hj4 q0 q1 q2 q3 q4 q5 HR HG hg2 HST
                                go_wp2_with fail
                                go_roundw
                                case rel => exact LIn.mk (k + 1) (N + 1) (by omega) (by omega) (by go_num) h4 HRN HG7
                                case measure => first | (simp [intOf]; done) | (simp [intOf]; omega)
                              · have haz : ((a : Int) == 0) = false := beq_eq_false_iff_ne.2 (by omega)
                                have hl3 : decide ((N : Int) + 1 < a) = true := decide_eq_true (by omega)
                                have hl4 : decide (N + 1 < a) = true := decide_eq_true (by omega)
                                go_wp2_with fail
                                (refine wp_region_later (by kernel_rfl) (by kernel_rfl) ?_; (repeat (go_big_quiet_step ((fail)))); refine wpQuiet_nil ?_)
                                intro w6 hb6
                                have hck6 : w6.cell? ⟨g, k, none⟩ = some (.int .i64 (N : Int)) := (hb6.cell (p := ⟨g, k, none⟩) o1).trans hck
                                have HG6 := Lib.hid (HG.out.andThen (below_grown hb6 none) (fun j hj => by cases hj))
                                have HR6 := Lib.hid (own_later HR.out hb6)
                                obtain ⟨p1, p2, p3⟩ := own_at HR6.out
                                have hci6 := p2 D hDl
                                rw [HVI.out] at hci6
                                have hfro6 := p3 D
                                have hst := HST.out w6 HR6.out ((N : Int) + 1)
                                have hcast : (((N + 1 : Nat) : Int) = (N : Int) + 1) := by omega
                                have HRN : Hid ((w6.setCell ⟨g, D, none⟩ (.int .i64 ((N : Int) + 1))).ownsRow g 3 1 (.slice (some ⟨g, 0, none⟩) F.length F.length) F.length (icells (arrQ (lc c) F (D : Int) ((N + 1 : Nat) : Int)))) := Lib.hid (by rw [hcast]; exact hst.1)
                                have HG7 := Lib.hid (HG6.out.andThen hst.2 (fun j hj => by injection hj with hj; right; rw [hj]))
                                clear hcast
                                clear hst p2 p3 hb6 hck hci hfro hj1 hj2 hj3 hj4 q0 q1 q2 q3 q4 q5 HR HG hg2 HST
                                go_wp2_with fail
                                go_roundw
                                case rel => exact LIn.mk (k + 1) (N + 1) (by omega) (by omega) (by go_num) h4 HRN HG7
                                case measure => first | (simp [intOf]; done) | (simp [intOf]; omega)
                            · have h4 := Lib.hid (HS3.out had hlo)
                              have haz : ((a : Int) == 0) = false := beq_eq_false_iff_ne.2 (by omega)
                              have hl3 : decide ((N : Int) + 1 < a) = false := decide_eq_false (by omega)
                              have hl4 : decide (N + 1 < a) = false := decide_eq_false (by omega)
                              go_wp2_with fail
                              (refine wp_region_later (by kernel_rfl) (by kernel_rfl) ?_; (repeat (go_big_quiet_step ((fail)))); refine wpQuiet_nil ?_)
                              intro w6 hb6
                              have HG6 := Lib.hid (HG.out.andThen (below_grown hb6 none) (fun j hj => by cases hj))
                              have HR6 := Lib.hid (own_later HR.out hb6)
                              clear hb6 hck hci hj1 hj2 hj3 hj4 q0 q1 q2 q3 q4 q5 HR HG hg2
                              go_wp2_with fail
                              go_roundw
                              case rel => exact LIn.mk (k + 1) a (by omega) (by omega) (by go_num) h4 HR6 HG6
                              case measure => first | (simp [intOf]; done) | (simp [intOf]; omega)
                          · have had2 : decide (XK - X ≤ c.le - c.la) = false := decide_eq_false had
                            have h4 := Lib.hid (HS1.out (.inr had))
                            go_wp2_with fail
                            (refine wp_region_later (by kernel_rfl) (by kernel_rfl) ?_; (repeat (go_big_quiet_step ((fail)))); refine wpQuiet_nil ?_)
                            intro w6 hb6
                            have HG6 := Lib.hid (HG.out.andThen (below_grown hb6 none) (fun j hj => by cases hj))
                            have HR6 := Lib.hid (own_later HR.out hb6)
                            clear hb6 hck hci hj1 hj2 hj3 hj4 q0 q1 q2 q3 q4 q5 HR HG hg2
                            go_wp2_with fail
                            go_roundw
                            case rel => exact LIn.mk (k + 1) a (by omega) (by omega) (by go_num) h4 HR6 HG6
                            case measure => first | (simp [intOf]; done) | (simp [intOf]; omega)
                      · have hkn : k = F.length := by omega
                        have hk1 : ¬ (k : Int) < F.length := by omega
                        have HRN : Hid (wr.ownsRow g 3 1 (.slice (some ⟨g, 0, none⟩) F.length F.length) F.length (icells (arrQ (lc c) F ((D : Int) - 1) 0))) := Lib.hid (by
                          have h5 := HR.out
                          have h6 := HP.out
                          rw [hkn] at h6
                          rw [h6.done, HND.out, arrQ_next] at h5; exact h5)
                        clear HR HP q0 q1 q2 q3 q4 q5
                        go_wp2_with fail
                        go_roundw
                        case rel => exact NOut.mk ((D : Int) - 1) (by omega) (by omega) (by go_num) HRN hg2
                        case measure => first | (simp [intOf]; done) | (simp [intOf]; omega)
            · have hi0 : i = -1 := by omega
              subst hi0
              have HND := Lib.hid HR.out
              clear HR
              go_wp2_with fail
              clear hi1 hi2 hge
              have hB3 : Below w3.heap.size w3 wr := grown_below hg2 (Nat.le_refl _) (fun k hk => by injection hk; omega)
              obtain ⟨w1, hw1⟩ : ∃ w1 : World, w1 = wr := ⟨_, rfl⟩
              have HX : Hid (Rows 2 jointV dJ w1 w1.heap.size A8 F.length F) := Lib.hid (by rw [hw1]; exact (HRF.out.below hB3).more hsr)
              have HN : Hid (Ints w1 w1.heap.size (some ⟨g, 0, none⟩) F.length (arrQ (lc c) F (-1) 0)) := Lib.hid (by
                rw [hw1]
                obtain ⟨A7, c7, h1, -, -, h2, -⟩ := own_ints HND.out
                injection h1 with h1 h3 h4
                rw [h1]; exact h2)
              have HC1 : Hid (ClimbAt w1 w.heap.size c) := Lib.hid (by rw [hw1]; exact HCr.out.block (hg2.block w.heap.size (by omega) (by intro h; injection h; omega)))
              have hB_w1 : Below w.heap.size w w1 := by rw [hw1]; exact HBr.out.trans (hB3.mono (by omega))
              have hz_w1 : w.heap.size ≤ w1.heap.size := by rw [hw1]; omega
              have hz2_w1 : w.heap.size < w1.heap.size := by rw [hw1]; omega
              subst hw1
              go_loopw [13, 14] (fun v bf wr => RFOut (lc c) F w1 v bf wr) (fun _ bf _ => (F.length - intOf bf).toNat)
              case atStart => exact RFOut.mk [] (-1) rfl (by simp) (by omega) (by omega) (Lib.hid ⟨_, FewAt.start (lc c) F⟩) (by exact World.ownsRow_nil w1 _ _ _) (Below.refl _ _)
              case round =>
                as_aux_lemma =>
                  obtain ⟨out, a, rfl, f1, f2, f3, hf, hown, hb⟩ := hrel
                  have hb' := hb
                  have hs' := hb.size
                  have HNr := Lib.hid ((HN.out.below hb).more hs')
                  obtain ⟨A1, cap1, rfl, hn1, hn2, -, -⟩ := own_ints hown
                  have HO := Lib.hid hown
                  clear hown
                  obtain ⟨wo, hwo⟩ : ∃ wo : World, wo = wr := ⟨_, rfl⟩
                  have HBo : Hid (Below w.heap.size w wo) := Lib.hid (by rw [hwo]; exact hB_w1.trans (hb.mono hz_w1))
                  have HBo1 : Hid (Below w1.heap.size w1 wo) := Lib.hid (by rw [hwo]; exact hb)
                  have HCo : Hid (ClimbAt wo w.heap.size c) := Lib.hid (by
                    rw [hwo]
                    exact HC1.out.block (hb.block w.heap.size (by omega)))
                  have hswo : w.heap.size < wo.heap.size := by rw [hwo]; omega
                  have hs1o : w1.heap.size ≤ wo.heap.size := by rw [hwo]; exact hs'
                  subst hwo
                  clear hb hb'
                  by_cases hneg : a < 0
                  · have hd1 : decide (a < 0) = true := decide_eq_true hneg
                    have hd2 : decide (0 ≤ a) = false := decide_eq_false (by omega)
                    go_wp2_with fail
                    go_loopw [15, 16] (fun b i wr => RFInn (lc c) F wo a b i wr) (fun _ i _ => F.length - (intOf i).toNat)
                    case atStart => exact RFInn.mk (a + 1).toNat (-1) (by omega) (by omega) (by first | (congr 1; done) | (congr 1; omega)) rfl (Lib.hid (PkAt.start (lc c) F f2)) (Below.refl _ _)
                    case round =>
                      as_aux_lemma =>
                        obtain ⟨k, B, hak, hkl, rfl, rfl, hP, hb⟩ := hrel
                        have hBr : Below w.heap.size w wr := HBo.out.trans (hb.mono (by omega))
                        have hb2 := hb
                        have hs2 := hb.size
                        have hBx : Below w1.heap.size w1 wr := HBo1.out.trans (hb.mono hs1o)
                        have hBd := hP.out.bd
                        obtain ⟨q0, q1, q2, q3, q4, q5⟩ := HCo.out.block (hb.block w.heap.size hswo)
                        have hwr1 : w.heap.size < wr.heap.size := by omega
                        by_cases hkt : k < F.length
                        · obtain ⟨bn, on, hbn, hbl, hcn⟩ := (HNr.out.below (B := wo.heap.size) hb2).at_ k hkt
                          injection hbn with hbn
                          injection hbn with hbn1 hbn2 hbn3
                          subst hbn1 hbn2
                          rw [arrQ_done (lc c) F hkt, Nat.zero_add] at hcn
                          obtain ⟨b', off', rfl, hb1, hj1, hj2⟩ := (HX.out.below hBx).atJ k hkt
                          have hbk := HFB.out k hkt
                          have hb3 : b' < wr.heap.size := by omega
                          have hgl : g < wr.heap.size := by omega
                          have hk1 : (k : Int) < F.length := by omega
                          have hk2 : ¬ F.length ≤ k := by omega
                          have hNb := need_bd (lc c) F k
                          have HS1 := Lib.hid (fun h => hP.out.skip (k := k) h)
                          have HS2 := Lib.hid (fun h1 h2 h3 => hP.out.low (k := k) h1 h2 h3)
                          have HS3 := Lib.hid (fun h1 h2 => hP.out.stay (k := k) h1 h2)
                          have hfo : folB (lc c) F a k = decide (hgt F k ≤ c.fi) := folB_neg hneg
                          by_cases had : hgt F k ≤ c.fi
                          · have hfo2 : folB (lc c) F a k = true := hfo.trans (decide_eq_true had)
                            have HT1 := Lib.hid (fun h => HS1.out (.inl h))
                            have HT2 := Lib.hid (fun h1 h3 => HS2.out h1 hfo2 h3)
                            have HT3 := Lib.hid (fun h2 => HS3.out hfo2 h2)
                            generalize hgt F k = XK at *
                            have hq1 : decide (c.fi < XK) = false := decide_eq_false (by omega)
                            clear HS1 HS2 HS3 hfo hfo2 hP
                            by_cases hN0 : need (lc c) F k = 0
                            · have h4 := Lib.hid (HT1.out hN0)
                              rw [hN0] at hcn
                              go_wp2_with fail
                              (refine wp_region_later (by kernel_rfl) (by kernel_rfl) ?_; (repeat (go_big_quiet_step ((fail)))); refine wpQuiet_nil ?_)
                              intro w4 hb
                              have hb5 := hb2.trans (hb.mono hs2)
                              go_wp2_with fail
                              go_roundw
                              case rel => exact RFInn.mk (k + 1) B (by omega) (by omega) (by go_num) rfl h4 hb5
                              case measure => first | (simp [intOf]; done) | (simp [intOf]; omega)
                            · rcases hBd with rfl | ⟨hB0, hBl⟩
                              · have h4 := Lib.hid (HT2.out (by omega) (.inl (by omega)))
                                generalize need (lc c) F k = N at *
                                have hN1 : ((N : Int) == 0) = false := beq_eq_false_iff_ne.2 (by omega)
                                go_wp2_with fail
                                (refine wp_region_later (by kernel_rfl) (by kernel_rfl) ?_; (repeat (go_big_quiet_step ((fail)))); refine wpQuiet_nil ?_)
                                intro w4 hb
                                have hb5 := hb2.trans (hb.mono hs2)
                                have hs4 := hb.size
                                clear hb
                                go_wp2_with fail
                                (refine wp_region_later (by kernel_rfl) (by kernel_rfl) ?_; (repeat (go_big_quiet_step ((fail)))); refine wpQuiet_nil ?_)
                                intro w5 hb
                                have hb6 := hb5.trans (hb.mono (by omega))
                                go_wp2_with fail
                                go_roundw
                                case rel => exact RFInn.mk (k + 1) k (by omega) (by omega) (by go_num) rfl h4 hb6
                                case measure => first | (simp [intOf]; done) | (simp [intOf]; omega)
                              · obtain ⟨E, rfl⟩ : ∃ E : Nat, B = (E : Int) := ⟨B.toNat, by omega⟩
                                have hEl : E < F.length := by omega
                                obtain ⟨bn, on, hbn, hbl2, hcE⟩ := (HNr.out.below (B := wo.heap.size) hb2).at_ E hEl
                                injection hbn with hbn
                                injection hbn with hbn1 hbn2 hbn3
                                subst hbn1 hbn2
                                rw [arrQ_done (lc c) F hEl, Nat.zero_add] at hcE
                                have hE1 : (E : Int) < F.length := by omega
                                have hE2 : ¬ F.length ≤ E := by omega
                                have hE3 : decide ((E : Int) < 0) = false := decide_eq_false (by omega)
                                have HU2 := Lib.hid (fun h1 h3 => HT2.out h1 h3)
                                have HU3 := Lib.hid (fun h2 => HT3.out h2)
                                rw [show ((E : Int)).toNat = E by simp] at HU2 HU3
                                clear HT2 HT3
                                generalize need (lc c) F k = N at *
                                generalize need (lc c) F E = NE at *
                                have hN1 : ((N : Int) == 0) = false := beq_eq_false_iff_ne.2 (by omega)
                                by_cases hlo : N < NE
                                · have h4 := Lib.hid (HU2.out (by omega) (by first | omega | (right; exact hlo)))
                                  have hlo2 : decide ((N : Int) < NE) = true := decide_eq_true (by omega)
                                  go_wp2_with fail
                                  (refine wp_region_later (by kernel_rfl) (by kernel_rfl) ?_; (repeat (go_big_quiet_step ((fail)))); refine wpQuiet_nil ?_)
                                  intro w4 hb
                                  have hb5 := hb2.trans (hb.mono hs2)
                                  have hs4 := hb.size
                                  have hcn4 : w4.cell? ⟨g, k, none⟩ = some (.int .i64 (N : Int)) := (hb.cell (p := ⟨g, k, none⟩) hgl).trans hcn
                                  have hcE4 : w4.cell? ⟨g, E, none⟩ = some (.int .i64 (NE : Int)) := (hb.cell (p := ⟨g, E, none⟩) hgl).trans hcE
                                  have hg4 : g < w4.heap.size := by omega
                                  clear hb
                                  go_wp2_with fail
                                  (refine wp_region_later (by kernel_rfl) (by kernel_rfl) ?_; (repeat (go_big_quiet_step ((fail)))); refine wpQuiet_nil ?_)
                                  intro w5 hb
                                  have hb6 := hb5.trans (hb.mono (by omega))
                                  go_wp2_with fail
                                  go_roundw
                                  case rel => exact RFInn.mk (k + 1) k (by omega) (by omega) (by go_num) rfl h4 hb6
                                  case measure => first | (simp [intOf]; done) | (simp [intOf]; omega)
                                · have h4 := Lib.hid (HU3.out (by first | omega | exact ⟨by omega, hlo⟩))
                                  have hlo2 : decide ((N : Int) < NE) = false := decide_eq_false (by omega)
                                  have hlo3 : decide (N < NE) = false := decide_eq_false (by omega)
                                  go_wp2_with fail
                                  (refine wp_region_later (by kernel_rfl) (by kernel_rfl) ?_; (repeat (go_big_quiet_step ((fail)))); refine wpQuiet_nil ?_)
                                  intro w4 hb
                                  have hb5 := hb2.trans (hb.mono hs2)
                                  have hs4 := hb.size
                                  have hcn4 : w4.cell? ⟨g, k, none⟩ = some (.int .i64 (N : Int)) := (hb.cell (p := ⟨g, k, none⟩) hgl).trans hcn
                                  have hcE4 : w4.cell? ⟨g, E, none⟩ = some (.int .i64 (NE : Int)) := (hb.cell (p := ⟨g, E, none⟩) hgl).trans hcE
                                  have hg4 : g < w4.heap.size := by omega
                                  clear hb
                                  go_wp2_with fail
                                  (refine wp_region_later (by kernel_rfl) (by kernel_rfl) ?_; (repeat (go_big_quiet_step ((fail)))); refine wpQuiet_nil ?_)
                                  intro w5 hb
                                  have hb6 := hb5.trans (hb.mono (by omega))
                                  go_wp2_with fail
                                  go_roundw
                                  case rel => exact RFInn.mk (k + 1) E (by omega) (by omega) (by go_num) rfl h4 hb6
                                  case measure => first | (simp [intOf]; done) | (simp [intOf]; omega)
                          · have hfo2 : folB (lc c) F a k = false := hfo.trans (decide_eq_false had)
                            have h4 := Lib.hid (HS1.out (.inr hfo2))
                            generalize hgt F k = XK at *
                            have hq1 : decide (c.fi < XK) = true := decide_eq_true (by omega)
                            clear HS1 HS2 HS3 hfo hfo2 hP
                            by_cases hN0 : need (lc c) F k = 0
                            · rw [hN0] at hcn
                              go_wp2_with fail
                              (refine wp_region_later (by kernel_rfl) (by kernel_rfl) ?_; (repeat (go_big_quiet_step ((fail)))); refine wpQuiet_nil ?_)
                              intro w4 hb
                              have hb5 := hb2.trans (hb.mono hs2)
                              go_wp2_with fail
                              go_roundw
                              case rel => exact RFInn.mk (k + 1) B (by omega) (by omega) (by go_num) rfl h4 hb5
                              case measure => first | (simp [intOf]; done) | (simp [intOf]; omega)
                            · generalize need (lc c) F k = N at *
                              have hN1 : ((N : Int) == 0) = false := beq_eq_false_iff_ne.2 (by omega)
                              go_wp2_with fail
                              (refine wp_region_later (by kernel_rfl) (by kernel_rfl) ?_; (repeat (go_big_quiet_step ((fail)))); refine wpQuiet_nil ?_)
                              intro w4 hb
                              have hb5 := hb2.trans (hb.mono hs2)
                              go_wp2_with fail
                              go_roundw
                              case rel => exact RFInn.mk (k + 1) B (by omega) (by omega) (by go_num) rfl h4 hb5
                              case measure => first | (simp [intOf]; done) | (simp [intOf]; omega)
                        · have hkn : k = F.length := by omega
                          have hdn := hP.out
                          rw [hkn] at hdn
                          have hBn : B = nxt (lc c) F a := hdn.done
                          have HO3 := Lib.hid (own_later HO.out hb2)
                          have hb6 : Below w1.heap.size w1 wr := HBo1.out.trans (hb2.mono hs1o)
                          have hs6 := hb6.size
                          have HN3 := Lib.hid (HNr.out.below (B := wo.heap.size) hb2)
                          clear hdn hP hkn
                          by_cases hneg2 : B < 0
                          · have hfin : Hid (few (lc c) F = none) := Lib.hid (hf.out.elim fun f hf => hf.nil (by rw [← hBn]; exact hneg2))
                            clear hBn HO3 HN3
                            go_wp2_with fail
                            go_ret2
                            exact ⟨by rw [HEV.out, hfin.out]; exact ⟨_, rfl, .inl ⟨rfl, rfl⟩⟩, hBr⟩
                          · have hnb := nxt_bd (c := lc c) (l := F) (a := a) (by rw [← hBn]; exact hneg2) f2
                            rw [← hBn] at hnb
                            obtain ⟨E, rfl⟩ : ∃ E : Nat, B = (E : Int) := ⟨B.toNat, by omega⟩
                            have hEl : E < F.length := by omega
                            have hE1 : (E : Int) < F.length := by omega
                            have hE2 : ¬ F.length ≤ E := by omega
                            obtain ⟨bn, on, hbn, hgl, hcE⟩ := HN3.out.at_ E hEl
                            injection hbn with hbn
                            injection hbn with hbn1 hbn2 hbn3
                            subst hbn1 hbn2
                            rw [arrQ_done (lc c) F hEl, Nat.zero_add] at hcE
                            have hla : need (lc c) F E = 1 → few (lc c) F = some (out ++ [(E : Int)]) := fun h => hf.out.elim fun f hf => by
                              have := hf.last (by rw [← hBn]; exact hneg2) (by rw [← hBn]; simpa using h)
                              rw [← hBn] at this; exact this
                            have hne : need (lc c) F E ≠ 1 → ∃ f, FewAt (lc c) F (out ++ [(E : Int)]) f E := fun h => hf.out.elim fun f hf => by
                              have := hf.next (by rw [← hBn]; exact hneg2) (by rw [← hBn]; simpa using h)
                              rw [← hBn] at this; exact this
                            have HLA := Lib.hid hla
                            have HNE := Lib.hid hne
                            generalize need (lc c) F E = NE at *
                            clear hBn hla hne
                            go_wp2_with (at_builtin; go_loud (refine wpList_append_own _ rfl (.tmp 205) (.tmp 207) 25 rfl w1.heap.size 3 i0 (.int .i64 0) 1 8 Try.underlying25 hI0.out hI1.out hI2.out hI3.out rfl (by decide) _ _ _ rfl (HO3.out.alloc _) ⟨wr.heap.size, 0, none⟩ 1 1 [.int .i64 (E : Int)] rfl rfl (news1 _ _ _) (one1 _) (by unfold maxLen; omega) (by omega) (by simp; omega) ?_))
                            intro v' w7 hown' hgrow _
                            have hb7 : Below w1.heap.size w1 w7 := (below_alloc hb6 _).trans (grown_below hgrow (by simp; omega) (fun q hq => (HO3.out.lt q hq).1))
                            have HO7 : Hid (w7.ownsRow w1.heap.size 3 1 v' (out ++ [(E : Int)]).length (icells (out ++ [(E : Int)]))) := by
                              rw [List.length_append, icells_app]; exact hown'
                            have hcE7 : w7.cell? ⟨g, E, none⟩ = some (.int .i64 (NE : Int)) := by
                              have h5 := (HN.out.below hb7).at_ E hEl
                              obtain ⟨bn, on, hbn, _, hcc⟩ := h5
                              injection hbn with hbn
                              injection hbn with hbn1 hbn2 hbn3
                              subst hbn1 hbn2
                              have h6 := (HNr.out.below (B := wo.heap.size) hb2).at_ E hEl
                              obtain ⟨bn, on, hbn, _, hcd⟩ := h6
                              injection hbn with hbn
                              injection hbn with hbn1 hbn2 hbn3
                              subst hbn1 hbn2
                              rw [Nat.zero_add] at hcc hcd
                              rw [hcc, ← hcd, hcE]
                            clear hown' hgrow hcE
                            by_cases h1 : NE = 1
                            · have hfin := Lib.hid (HLA.out h1)
                              have h1' : ((NE : Int) == 1) = true := by rw [h1]; rfl
                              clear HLA HNE h1
                              go_wp2_with fail
                              go_ret2
                              exact ⟨by rw [HEV.out, hfin.out]; exact ⟨_, rfl, .inr ⟨_, rfl, by simp, own_mono HO7.out hz_w1⟩⟩, hB_w1.trans (hb7.mono hz_w1)⟩
                            · have hnx := Lib.hid (HNE.out h1)
                              have h1' : ((NE : Int) == 1) = false := beq_eq_false_iff_ne.2 (by omega)
                              clear HLA HNE h1
                              go_wp2_with fail
                              go_roundw
                              case rel => exact RFOut.mk (out ++ [(E : Int)]) E rfl (by rw [List.length_append]; simp; omega) (by omega) (by omega) hnx HO7.out hb7
                              case measure => first | (simp [intOf]; done) | (simp [intOf]; omega)
                  · obtain ⟨G, rfl⟩ : ∃ G : Nat, a = (G : Int) := ⟨a.toNat, by omega⟩
                    have hd1 : decide ((G : Int) < 0) = false := decide_eq_false (by omega)
                    have hd2 : decide ((0 : Int) ≤ G) = true := decide_eq_true (by omega)
                    have hGl : G < F.length := by omega
                    have hG1 : (G : Int) < F.length := by omega
                    have hG2 : ¬ F.length ≤ G := by omega
                    go_wp2_with fail
                    go_loopw [15, 16] (fun b i wr => RFInn (lc c) F wo (G : Int) b i wr) (fun _ i _ => F.length - (intOf i).toNat)
                    case atStart => exact RFInn.mk ((G : Int) + 1).toNat (-1) (by omega) (by omega) (by first | (congr 1; done) | (congr 1; omega)) rfl (Lib.hid (PkAt.start (lc c) F f2)) (Below.refl _ _)
                    case round =>
                      as_aux_lemma =>
                        obtain ⟨k, B, hak, hkl, rfl, rfl, hP, hb⟩ := hrel
                        have hBr : Below w.heap.size w wr := HBo.out.trans (hb.mono (by omega))
                        have hb2 := hb
                        have hs2 := hb.size
                        have hBx : Below w1.heap.size w1 wr := HBo1.out.trans (hb.mono hs1o)
                        have hBd := hP.out.bd
                        obtain ⟨q0, q1, q2, q3, q4, q5⟩ := HCo.out.block (hb.block w.heap.size hswo)
                        have hwr1 : w.heap.size < wr.heap.size := by omega
                        by_cases hkt : k < F.length
                        · obtain ⟨bn, on, hbn, hbl, hcn⟩ := (HNr.out.below (B := wo.heap.size) hb2).at_ k hkt
                          injection hbn with hbn
                          injection hbn with hbn1 hbn2 hbn3
                          subst hbn1 hbn2
                          rw [arrQ_done (lc c) F hkt, Nat.zero_add] at hcn
                          obtain ⟨b', off', rfl, hb1, hj1, hj2⟩ := (HX.out.below hBx).atJ k hkt
                          have hbk := HFB.out k hkt
                          have hb3 : b' < wr.heap.size := by omega
                          have hgl : g < wr.heap.size := by omega
                          have hk1 : (k : Int) < F.length := by omega
                          have hk2 : ¬ F.length ≤ k := by omega
                          have hNb := need_bd (lc c) F k
                          have HS1 := Lib.hid (fun h => hP.out.skip (k := k) h)
                          have HS2 := Lib.hid (fun h1 h2 h3 => hP.out.low (k := k) h1 h2 h3)
                          have HS3 := Lib.hid (fun h1 h2 => hP.out.stay (k := k) h1 h2)
                          obtain ⟨b'', off'', he, _, hj3, hj4⟩ := (HX.out.below hBx).atJ G hGl
                          cases he
                          have hbG := HFB.out G hGl
                          have hfo : folB (lc c) F (G : Int) k = decide (hgt F k - hgt F G ≤ (lc c).ga) := by rw [folB_nat, decide_eq_true (show G < k by omega), Bool.true_and]
                          rw [show (lc c).ga = c.le - c.la from rfl] at hfo
                          by_cases had : hgt F k - hgt F G ≤ c.le - c.la
                          · have hfo2 : folB (lc c) F (G : Int) k = true := hfo.trans (decide_eq_true had)
                            have HT1 := Lib.hid (fun h => HS1.out (.inl h))
                            have HT2 := Lib.hid (fun h1 h3 => HS2.out h1 hfo2 h3)
                            have HT3 := Lib.hid (fun h2 => HS3.out hfo2 h2)
                            generalize hgt F k = XK at *
                            generalize hgt F G = XG at *
                            have hq1 : decide (c.le - c.la < XK - XG) = false := decide_eq_false (by omega)
                            clear HS1 HS2 HS3 hfo hfo2 hP
                            by_cases hN0 : need (lc c) F k = 0
                            · have h4 := Lib.hid (HT1.out hN0)
                              rw [hN0] at hcn
                              go_wp2_with fail
                              (refine wp_region_later (by kernel_rfl) (by kernel_rfl) ?_; (repeat (go_big_quiet_step ((fail)))); refine wpQuiet_nil ?_)
                              intro w4 hb
                              have hb5 := hb2.trans (hb.mono hs2)
                              go_wp2_with fail
                              go_roundw
                              case rel => exact RFInn.mk (k + 1) B (by omega) (by omega) (by go_num) rfl h4 hb5
                              case measure => first | (simp [intOf]; done) | (simp [intOf]; omega)
                            · rcases hBd with rfl | ⟨hB0, hBl⟩
                              · have h4 := Lib.hid (HT2.out (by omega) (.inl (by omega)))
                                generalize need (lc c) F k = N at *
                                have hN1 : ((N : Int) == 0) = false := beq_eq_false_iff_ne.2 (by omega)
                                go_wp2_with fail
                                (refine wp_region_later (by kernel_rfl) (by kernel_rfl) ?_; (repeat (go_big_quiet_step ((fail)))); refine wpQuiet_nil ?_)
                                intro w4 hb
                                have hb5 := hb2.trans (hb.mono hs2)
                                have hs4 := hb.size
                                clear hb
                                go_wp2_with fail
                                (refine wp_region_later (by kernel_rfl) (by kernel_rfl) ?_; (repeat (go_big_quiet_step ((fail)))); refine wpQuiet_nil ?_)
                                intro w5 hb
                                have hb6 := hb5.trans (hb.mono (by omega))
                                go_wp2_with fail
                                go_roundw
                                case rel => exact RFInn.mk (k + 1) k (by omega) (by omega) (by go_num) rfl h4 hb6
                                case measure => first | (simp [intOf]; done) | (simp [intOf]; omega)
                              · obtain ⟨E, rfl⟩ : ∃ E : Nat, B = (E : Int) := ⟨B.toNat, by omega⟩
                                have hEl : E < F.length := by omega
                                obtain ⟨bn, on, hbn, hbl2, hcE⟩ := (HNr.out.below (B := wo.heap.size) hb2).at_ E hEl
                                injection hbn with hbn
                                injection hbn with hbn1 hbn2 hbn3
                                subst hbn1 hbn2
                                rw [arrQ_done (lc c) F hEl, Nat.zero_add] at hcE
                                have hE1 : (E : Int) < F.length := by omega
                                have hE2 : ¬ F.length ≤ E := by omega
                                have hE3 : decide ((E : Int) < 0) = false := decide_eq_false (by omega)
                                have HU2 := Lib.hid (fun h1 h3 => HT2.out h1 h3)
                                have HU3 := Lib.hid (fun h2 => HT3.out h2)
                                rw [show ((E : Int)).toNat = E by simp] at HU2 HU3
                                clear HT2 HT3
                                generalize need (lc c) F k = N at *
                                generalize need (lc c) F E = NE at *
                                have hN1 : ((N : Int) == 0) = false := beq_eq_false_iff_ne.2 (by omega)
                                by_cases hlo : N < NE
                                · have h4 := Lib.hid (HU2.out (by omega) (by first | omega | (right; exact hlo)))
                                  have hlo2 : decide ((N : Int) < NE) = true := decide_eq_true (by omega)
                                  go_wp2_with fail
                                  (refine wp_region_later (by kernel_rfl) (by kernel_rfl) ?_; (repeat (go_big_quiet_step ((fail)))); refine wpQuiet_nil ?_)
                                  intro w4 hb
                                  have hb5 := hb2.trans (hb.mono hs2)
                                  have hs4 := hb.size
                                  have hcn4 : w4.cell? ⟨g, k, none⟩ = some (.int .i64 (N : Int)) := (hb.cell (p := ⟨g, k, none⟩) hgl).trans hcn
                                  have hcE4 : w4.cell? ⟨g, E, none⟩ = some (.int .i64 (NE : Int)) := (hb.cell (p := ⟨g, E, none⟩) hgl).trans hcE
                                  have hg4 : g < w4.heap.size := by omega
                                  clear hb
                                  go_wp2_with fail
                                  (refine wp_region_later (by kernel_rfl) (by kernel_rfl) ?_; (repeat (go_big_quiet_step ((fail)))); refine wpQuiet_nil ?_)
                                  intro w5 hb
                                  have hb6 := hb5.trans (hb.mono (by omega))
                                  go_wp2_with fail
                                  go_roundw
                                  case rel => exact RFInn.mk (k + 1) k (by omega) (by omega) (by go_num) rfl h4 hb6
                                  case measure => first | (simp [intOf]; done) | (simp [intOf]; omega)
                                · have h4 := Lib.hid (HU3.out (by first | omega | exact ⟨by omega, hlo⟩))
                                  have hlo2 : decide ((N : Int) < NE) = false := decide_eq_false (by omega)
                                  have hlo3 : decide (N < NE) = false := decide_eq_false (by omega)
                                  go_wp2_with fail
                                  (refine wp_region_later (by kernel_rfl) (by kernel_rfl) ?_; (repeat (go_big_quiet_step ((fail)))); refine wpQuiet_nil ?_)
                                  intro w4 hb
                                  have hb5 := hb2.trans (hb.mono hs2)
                                  have hs4 := hb.size
                                  have hcn4 : w4.cell? ⟨g, k, none⟩ = some (.int .i64 (N : Int)) := (hb.cell (p := ⟨g, k, none⟩) hgl).trans hcn
                                  have hcE4 : w4.cell? ⟨g, E, none⟩ = some (.int .i64 (NE : Int)) := (hb.cell (p := ⟨g, E, none⟩) hgl).trans hcE
                                  have hg4 : g < w4.heap.size := by omega
                                  clear hb
                                  go_wp2_with fail
                                  (refine wp_region_later (by kernel_rfl) (by kernel_rfl) ?_; (repeat (go_big_quiet_step ((fail)))); refine wpQuiet_nil ?_)
                                  intro w5 hb
                                  have hb6 := hb5.trans (hb.mono (by omega))
                                  go_wp2_with fail
                                  go_roundw
                                  case rel => exact RFInn.mk (k + 1) E (by omega) (by omega) (by go_num) rfl h4 hb6
                                  case measure => first | (simp [intOf]; done) | (simp [intOf]; omega)
                          · have hfo2 : folB (lc c) F (G : Int) k = false := hfo.trans (decide_eq_false had)
                            have h4 := Lib.hid (HS1.out (.inr hfo2))
                            generalize hgt F k = XK at *
                            generalize hgt F G = XG at *
                            have hq1 : decide (c.le - c.la < XK - XG) = true := decide_eq_true (by omega)
                            clear HS1 HS2 HS3 hfo hfo2 hP
                            by_cases hN0 : need (lc c) F k = 0
                            · rw [hN0] at hcn
                              go_wp2_with fail
                              (refine wp_region_later (by kernel_rfl) (by kernel_rfl) ?_; (repeat (go_big_quiet_step ((fail)))); refine wpQuiet_nil ?_)
                              intro w4 hb
                              have hb5 := hb2.trans (hb.mono hs2)
                              go_wp2_with fail
                              go_roundw
                              case rel => exact RFInn.mk (k + 1) B (by omega) (by omega) (by go_num) rfl h4 hb5
                              case measure => first | (simp [intOf]; done) | (simp [intOf]; omega)
                            · generalize need (lc c) F k = N at *
                              have hN1 : ((N : Int) == 0) = false := beq_eq_false_iff_ne.2 (by omega)
                              go_wp2_with fail
                              (refine wp_region_later (by kernel_rfl) (by kernel_rfl) ?_; (repeat (go_big_quiet_step ((fail)))); refine wpQuiet_nil ?_)
                              intro w4 hb
                              have hb5 := hb2.trans (hb.mono hs2)
                              go_wp2_with fail
                              go_roundw
                              case rel => exact RFInn.mk (k + 1) B (by omega) (by omega) (by go_num) rfl h4 hb5
                              case measure => first | (simp [intOf]; done) | (simp [intOf]; omega)
                        · have hkn : k = F.length := by omega
                          have hdn := hP.out
                          rw [hkn] at hdn
                          have hBn : B = nxt (lc c) F (G : Int) := hdn.done
                          have HO3 := Lib.hid (own_later HO.out hb2)
                          have hb6 : Below w1.heap.size w1 wr := HBo1.out.trans (hb2.mono hs1o)
                          have hs6 := hb6.size
                          have HN3 := Lib.hid (HNr.out.below (B := wo.heap.size) hb2)
                          clear hdn hP hkn
                          by_cases hneg2 : B < 0
                          · have hfin : Hid (few (lc c) F = none) := Lib.hid (hf.out.elim fun f hf => hf.nil (by rw [← hBn]; exact hneg2))
                            clear hBn HO3 HN3
                            go_wp2_with fail
                            go_ret2
                            exact ⟨by rw [HEV.out, hfin.out]; exact ⟨_, rfl, .inl ⟨rfl, rfl⟩⟩, hBr⟩
                          · have hnb := nxt_bd (c := lc c) (l := F) (a := (G : Int)) (by rw [← hBn]; exact hneg2) f2
                            rw [← hBn] at hnb
                            obtain ⟨E, rfl⟩ : ∃ E : Nat, B = (E : Int) := ⟨B.toNat, by omega⟩
                            have hEl : E < F.length := by omega
                            have hE1 : (E : Int) < F.length := by omega
                            have hE2 : ¬ F.length ≤ E := by omega
                            obtain ⟨bn, on, hbn, hgl, hcE⟩ := HN3.out.at_ E hEl
                            injection hbn with hbn
                            injection hbn with hbn1 hbn2 hbn3
                            subst hbn1 hbn2
                            rw [arrQ_done (lc c) F hEl, Nat.zero_add] at hcE
                            have hla : need (lc c) F E = 1 → few (lc c) F = some (out ++ [(E : Int)]) := fun h => hf.out.elim fun f hf => by
                              have := hf.last (by rw [← hBn]; exact hneg2) (by rw [← hBn]; simpa using h)
                              rw [← hBn] at this; exact this
                            have hne : need (lc c) F E ≠ 1 → ∃ f, FewAt (lc c) F (out ++ [(E : Int)]) f E := fun h => hf.out.elim fun f hf => by
                              have := hf.next (by rw [← hBn]; exact hneg2) (by rw [← hBn]; simpa using h)
                              rw [← hBn] at this; exact this
                            have HLA := Lib.hid hla
                            have HNE := Lib.hid hne
                            generalize need (lc c) F E = NE at *
                            clear hBn hla hne
                            go_wp2_with (at_builtin; go_loud (refine wpList_append_own _ rfl (.tmp 205) (.tmp 207) 25 rfl w1.heap.size 3 i0 (.int .i64 0) 1 8 Try.underlying25 hI0.out hI1.out hI2.out hI3.out rfl (by decide) _ _ _ rfl (HO3.out.alloc _) ⟨wr.heap.size, 0, none⟩ 1 1 [.int .i64 (E : Int)] rfl rfl (news1 _ _ _) (one1 _) (by unfold maxLen; omega) (by omega) (by simp; omega) ?_))
                            intro v' w7 hown' hgrow _
                            have hb7 : Below w1.heap.size w1 w7 := (below_alloc hb6 _).trans (grown_below hgrow (by simp; omega) (fun q hq => (HO3.out.lt q hq).1))
                            have HO7 : Hid (w7.ownsRow w1.heap.size 3 1 v' (out ++ [(E : Int)]).length (icells (out ++ [(E : Int)]))) := by
                              rw [List.length_append, icells_app]; exact hown'
                            have hcE7 : w7.cell? ⟨g, E, none⟩ = some (.int .i64 (NE : Int)) := by
                              have h5 := (HN.out.below hb7).at_ E hEl
                              obtain ⟨bn, on, hbn, _, hcc⟩ := h5
                              injection hbn with hbn
                              injection hbn with hbn1 hbn2 hbn3
                              subst hbn1 hbn2
                              have h6 := (HNr.out.below (B := wo.heap.size) hb2).at_ E hEl
                              obtain ⟨bn, on, hbn, _, hcd⟩ := h6
                              injection hbn with hbn
                              injection hbn with hbn1 hbn2 hbn3
                              subst hbn1 hbn2
                              rw [Nat.zero_add] at hcc hcd
                              rw [hcc, ← hcd, hcE]
                            clear hown' hgrow hcE
                            by_cases h1 : NE = 1
                            · have hfin := Lib.hid (HLA.out h1)
                              have h1' : ((NE : Int) == 1) = true := by rw [h1]; rfl
                              clear HLA HNE h1
                              go_wp2_with fail
                              go_ret2
                              exact ⟨by rw [HEV.out, hfin.out]; exact ⟨_, rfl, .inr ⟨_, rfl, by simp, own_mono HO7.out hz_w1⟩⟩, hB_w1.trans (hb7.mono hz_w1)⟩
                            · have hnx := Lib.hid (HNE.out h1)
                              have h1' : ((NE : Int) == 1) = false := beq_eq_false_iff_ne.2 (by omega)
                              clear HLA HNE h1
                              go_wp2_with fail
                              go_roundw
                              case rel => exact RFOut.mk (out ++ [(E : Int)]) E rfl (by rw [List.length_append]; simp; omega) (by omega) (by omega) hnx HO7.out hb7
                              case measure => first | (simp [intOf]; done) | (simp [intOf]; omega)
end Go.Proofs.Ytgapnhpmgidmhaa
