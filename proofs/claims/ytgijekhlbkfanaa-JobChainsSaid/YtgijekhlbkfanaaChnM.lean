/- Joined by merge.py from: JobR7 MixG JobR8 JobR9 JobY LChains. -/
import Derived.Test.YtgijekhlbkfanaaJobR6
import Derived.Test.YtgijekhlbkfanaaJobQ7
import Derived.Test.YtgijekhlbkfanaaJobQ8
import Derived.Test.YtgijekhlbkfanaaMix
import Derived.Test.YtgijekhlbkfanaaStepSrc
import Derived.Deep.RegionWith
import Derived.Test.YtgijekhlbkfanaaJobQ9
import Derived.Test.YtgijekhlbkfanaaJobZ
import Derived.Test.YtgijekhlbkfanaaJobG
set_option linter.unusedSimpArgs false
set_option linter.unusedVariables false
namespace Go.Proofs.Ytgijekhlbkfanaa
open Go.RowKit
attribute [local go_sem] Later.cell Same.cell

theorem rbN_next (T : Nat → Int) (p : Nat → Bool) (k : Nat) : rbN T p (k + 1) = if p k && decide (rbM T (rbN T p k) < T k) then some k else rbN T p k := rfl
theorem rbN_lt {T : Nat → Int} {p : Nat → Bool} {n m : Nat} (hn : n ≤ m) : ∀ i, rbN T p n = some i → i < m := fun i h => by
  have := ((rbN_spec T p n).2 i h).1.1
  omega
theorem tlV_bd {l : List Tk} (h : okP l) {i : Nat} (hi : i < l.length) : 0 ≤ tlV l i ∧ tlV l i ≤ 201000 := by
  have h1 := (tlV_pos h hi).2
  have h2 := ear_lat h i hi
  have h3 := ear_pos h i
  have h4 := lenV_bd h
  unfold tlV at h1 ⊢
  omega
theorem rbM_bd {l : List Tk} (h : okP l) {p : Nat → Bool} {n : Nat} (hn : n ≤ l.length) : 0 ≤ rbM (tlV l) (rbN (tlV l) p n) ∧ rbM (tlV l) (rbN (tlV l) p n) ≤ 201000 := by
  cases hc : rbN (tlV l) p n with
  | none => exact ⟨Int.le_refl _, (by decide : (0 : Int) ≤ 201000)⟩
  | some i => exact tlV_bd h (rbN_lt hn i hc)
set_option maxRecDepth 20000 in
set_option maxHeartbeats 16000000 in
theorem rchain_any (A : Option Addr) (cap : Nat) (l : List Tk) (hP : okP l) : ∀ i, i < l.length → ∀ w : World, Plan w w.heap.size A l.length l →
    Calls Try.prog 64 #[.slice A l.length cap, .int .i64 (i : Int)] w fun e w' => (∃ v, e = .returned (.tuple #[v, .int .i64 (tlV l i)]) ∧ w'.ownsRow w.heap.size 3 1 v (chX l i).length (icells (iN (chX l i)))) ∧ Below w.heap.size w w' := by
  refine ord_ind_up hP ?_
  intro i hi ih w hx
  have c2 := fun j W (h : Below w.heap.size w W) (hj : j < l.length) => afters_any A l.length cap l j W (by have := hP.len; omega) hj (by have := hP.few j hj; omega) (hx.go h)
  have haz : ∀ j, j < l.length → afZ l j = iN (afs l j) := fun j hj => afZ_afs (hP.known j hj)
  have c8 := fun A n cap xs q W (hn : n ≤ 9223372036854775807) (h : Ints W W.heap.size A n xs) => has_any A n cap xs q W hn h
  have c9 := fun j W (h : Below w.heap.size w W) (hj : j < l.length) (hm : i ∈ afs l j) => ih j hj hm W (hx.go h)
  obtain ⟨j0, hj, hy0, hy1, hy2⟩ := info_parts jinfo_int
  have hI0 := Lib.hid hj
  have hI1 := Lib.hid hy0
  have hI2 := Lib.hid hy1
  have hI3 := Lib.hid hy2
  have hL := hP.len
  obtain ⟨b, off, rfl, hb0, -, hcd, -, -⟩ := hx.at_ i hi
  have hdb := dy_bd hP hi
  have hCX := Lib.hid (chX_eq hP hi)
  have hNX := Lib.hid (rb_nxS hP hi)
  have hMX := Lib.hid (rbM_nxS hP hi)
  have hTB := tlV_bd hP hi
  have hCL := chO_len hP (nxS l i) (fun j h => nxS_lt j h)
  change w.cell? _ = some (.int .i64 (dyA l i)) at hcd
  have hii : (i : Int) < l.length := by omega
  have HDB := Lib.hid hdb
  have HTB := Lib.hid hTB
  have HCL := Lib.hid hCL
  have HCD := Lib.hid hcd
  have C2 := Lib.hid c2
  have C8 := Lib.hid c8
  have C9 := Lib.hid c9
  have HAZ := Lib.hid haz
  have HX := Lib.hid hx
  have HP := Lib.hid hP
  clear c2 c8 c9 ih hx hP hj hy0 hy1 hy2 haz hdb hTB hCL hcd
  go_enter Try.func64, Try.ntmps64
  go_wp2
  go_loopw [6, 7, 8] (fun v n j' W => ∃ j : Nat, j ≤ l.length ∧ j' = .int .i64 (j : Int) ∧ n = .int .i64 (rbM (tlV l) (rbN (tlV l) (fun q => (afs l q).contains i) j)) ∧ W.ownsRow w.heap.size 3 1 v (chO l (rbN (tlV l) (fun q => (afs l q).contains i) j)).length (icells (iN (chO l (rbN (tlV l) (fun q => (afs l q).contains i) j)))) ∧ Below w.heap.size w W) (fun _ _ j' _ => l.length - (intOf j').toNat)
  case atStart => exact ⟨0, Nat.zero_le _, rfl, rfl, World.ownsRow_nil _ _ _ _, Below.refl _ _⟩
  case round =>
    obtain ⟨j, hj, rfl, rfl, ho, hB⟩ := hrel
    have hbs := hB.size
    by_cases hlt : j < l.length
    · have hnx := rbN_next (tlV l) (fun q => (afs l q).contains i) j
      have hbd := rbM_bd HP.out (p := fun q => (afs l q).contains i) (Nat.le_of_lt hlt)
      have htj := tlV_bd HP.out hlt
      have ca := C2.out j wr hB hlt
      rw [HAZ.out j hlt, iN_len] at ca
      have hm10 : (afs l j).length ≤ 10 := by rw [afs_len]; exact HP.out.few j hlt
      have ht0 : rbM (tlV l) (some j) = tlV l j := rfl
      have hc0 : chO l (some j) = chX l j := rfl
      generalize hR1 : rbN (tlV l) (fun q => (afs l q).contains i) (j + 1) = R1 at *
      have HR1 := Lib.hid hR1
      clear hR1
      generalize rbN (tlV l) (fun q => (afs l q).contains i) j = R0 at *
      generalize hM : rbM (tlV l) R0 = M at *
      have HM := Lib.hid hM
      have HO := Lib.hid ho
      have HB := Lib.hid hB
      have CA := Lib.hid ca
      have hj1 : (j : Int) < l.length := by omega
      have hj2 : ¬ l.length ≤ j := by omega
      have HNX := Lib.hid hnx
      have HT0 := Lib.hid ht0
      have HC0 := Lib.hid hc0
      clear ho ca hnx ht0 hc0 hM hB
      go_wp2_with fail
      refine CA.out.mono ?_
      rintro e w6 ⟨⟨v6, rfl, ho6⟩, hb6⟩
      obtain ⟨A6, cap6, rfl, hq6, hq7, hI6, -⟩ := own_ints ho6
      have c10 := C8.out A6 (afs l j).length cap6 (iN (afs l j)) (i : Int) w6 (by omega) hI6
      rw [iN_contains] at c10
      have HB6 := Lib.hid (HB.out.trans (hb6.mono hbs))
      have HO6 := Lib.hid (jown_later HO.out hb6)
      clear ho6 hI6 hb6 CA HO HB
      cases hcn : (afs l j).contains i
      · have hnx := HNX.out
        simp only [hcn, Bool.false_and, Bool.false_eq_true, if_false] at hnx
        rw [hcn] at c10
        have C10 := Lib.hid c10
        have HN := Lib.hid hnx
        clear c10 hnx hcn HNX
        go_wp2_with fail
        refine C10.out.mono ?_
        rintro e w7 ⟨rfl, rfl⟩
        go_wp2
        go_roundw
        case rel => exact ⟨j + 1, by omega, by go_num, by rw [HR1.out, HN.out, HM.out], by rw [HR1.out, HN.out]; exact HO6.out, HB6.out⟩
        case measure => simp [intOf]; omega
      · have hnx := HNX.out
        simp only [hcn, Bool.true_and] at hnx
        rw [hcn] at c10
        have C10 := Lib.hid c10
        have c11 := C9.out j w6 HB6.out hlt (List.contains_iff_mem.1 hcn)
        have hs6 := HB6.out.size
        generalize hTJ : tlV l j = TJ at *
        have HTJ := Lib.hid hTJ
        have HN := Lib.hid hnx
        have C11 := Lib.hid c11
        clear c10 hnx hcn HNX c11 hTJ
        go_wp2_with fail
        refine C10.out.mono ?_
        rintro e w7 ⟨rfl, rfl⟩
        go_wp2_with fail
        refine C11.out.mono ?_
        rintro e w8 ⟨⟨v8, rfl, ho8⟩, hb8⟩
        have HO8 := Lib.hid (jown_later HO6.out hb8)
        have HO9 := Lib.hid (jown_mono ho8 hs6)
        have HB8 := Lib.hid (HB6.out.trans (hb8.mono hs6))
        clear ho8 hb8 HO6
        by_cases hgt : M < TJ
        · have e1 := HN.out
          rw [if_pos (decide_eq_true hgt)] at e1
          have E1 := Lib.hid e1
          clear e1 HN
          go_wp2
          go_roundw
          case rel => exact ⟨j + 1, by omega, by go_num, by rw [HR1.out, E1.out, HT0.out], by rw [HR1.out, E1.out, HC0.out]; exact HO9.out, HB8.out⟩
          case measure => simp [intOf]; omega
        · have e1 := HN.out
          rw [if_neg (by simpa using hgt)] at e1
          have E1 := Lib.hid e1
          clear e1 HN
          go_wp2
          go_roundw
          case rel => exact ⟨j + 1, by omega, by go_num, by rw [HR1.out, E1.out, HM.out], by rw [HR1.out, E1.out]; exact HO8.out, HB8.out⟩
          case measure => simp [intOf]; omega
    · have hjn : j = l.length := by omega
      subst hjn
      rw [hNX.out] at ho ⊢
      have hmx := hMX.out
      generalize rbM (tlV l) (nxS l i) = M at *
      have hM1 : M = tlV l i - dyA l i := by omega
      have hD1 := HDB.out
      have hT1 := HTB.out
      have hcx := hCX.out
      generalize hTI : tlV l i = TI at *
      have HTI := Lib.hid hTI
      generalize dyA l i = D at *
      have hwr : wrap64 (M + D) = TI := by rw [hmx]; exact IntWalk.wrap64_in _ ⟨by omega, by omega⟩
      have HWR := Lib.hid hwr
      have hcd : wr.cell? ⟨b, off + i * 4 + 1, none⟩ = some (.int .i64 D) := (hB.cell (p := ⟨b, _, none⟩) hb0).trans HCD.out
      have hcl := HCL.out
      have HCX := Lib.hid hcx
      obtain ⟨A1, cap1, rfl, hq1, hq2, hIr, -⟩ := own_ints ho
      have hB1 := hB
      have HIR := Lib.hid hIr
      have HB := Lib.hid hB
      have hj1 : ¬ (l.length : Int) < l.length := by omega
      clear hmx hM1 hcx hTI hIr ho hwr
      generalize chO l (nxS l i) = C at *
      have hb1 : b < wr.heap.size := by have := hB1.size; omega
      clear hB1
      go_wp2_with fail
      go_cut [4, 5] (fun v n W => n = .int .i64 TI ∧ W.ownsRow w.heap.size 3 1 v (C.length + 1) (icells (iN (i :: C))) ∧ Below w.heap.size w W)
      case first =>
        refine wp_region_mix (by kernel_rfl) (by kernel_rfl) ?_
        refine wpC_take (f := 4) (by kernel_rfl) (by kernel_rfl) ⟨⟨_, (Below.refl _ _).drew⟩, rfl⟩ [0, 2, 4, 5, 6, 7, 8, 9, 10] _ _ (by kernel_rfl) ?_
        simp only [List.map_cons, List.map_nil, List.getElem?_toArray, List.getElem?_cons_succ, List.getElem?_cons_zero, Option.getD_some]
        repeat (go_big_quiet_step (fail))
        refine wpQuiet_nil ?_
        refine wpC_all (rs := [1]) (by kernel_rfl) (by decide) ?_
        intro q hq
        simp only [List.mem_cons, List.not_mem_nil, or_false] at hq
        subst hq
        refine ⟨_, rfl, ?_⟩
        go_simp
        have hbr : Below wr.heap.size wr (wr.alloc (.cells #[.int .i64 (i : Int)] 3)).drew := ((Below.refl _ _).alloc (Nat.le_refl _) _).drew
        refine ⟨⟨⟨_, hbr⟩, rfl⟩, ?_⟩
        have ho := World.ownsRow_lit wr #[.int .i64 (i : Int)] 1 (Nat.le_refl _) (by unfold maxLen; omega) (by simp) (e := 3) (size := 1) (base := wr.heap.size)
        replace ho := jown_later ho (Below.refl _ _).drew
        have hIx := HIR.out.go hbr
        have hsw : wr.heap.size < (wr.alloc (.cells #[.int .i64 (i : Int)] 3)).drew.heap.size := by simp
        generalize (wr.alloc (.cells #[.int .i64 (i : Int)] 3)).drew = W0 at *
        refine wpC_all (rs := [3]) (by kernel_rfl) (by decide) ?_
        intro q hq
        simp only [List.mem_cons, List.not_mem_nil, or_false] at hq
        subst hq
        refine ⟨_, rfl, ?_⟩
        have hcl := HCL.out
        refine wp_append_src (.tmp 35) (.tmp 36) 32 rfl wr.heap.size 3 j0 (.int .i64 0) 1 8 Try.underlying32 hI0.out hI1.out hI2.out hI3.out rfl (by decide) (.slice (some ⟨wr.heap.size, 0, none⟩) 1 1) 1 [.int .i64 (i : Int)] (by simp [Act.eval, Act.put]) ho (by simp) A1 C.length cap1 (icells (iN C)) (by simp [Act.eval, Act.put]) (by rw [icells_len, iN_len]) (by intro hA; rcases Nat.eq_zero_or_pos C.length with h | h; exact h; obtain ⟨q, _, hq, _⟩ := hIx.2 h; rw [hA] at hq; cases hq) hIx.cells (icells_one _) (by unfold maxLen; omega) (by omega) (by omega) ?_
        intro g cap6 w6 hown hgr hat
        have hB6 : Below wr.heap.size wr w6 := hbr.trans (grown_below hgr (by omega) (fun k hk => (ho.lt k hk).1))
        have ho6 : w6.ownsRow w.heap.size 3 1 (.slice (some ⟨g, 0, none⟩) (1 + C.length) cap6) (C.length + 1) (icells (iN (i :: C))) := by rw [Nat.add_comm C.length 1]; exact jown_mono hown hbs
        refine ⟨⟨⟨_, hB6⟩, rfl⟩, ?_⟩
        go_simp
        refine wpC_all (rs := [11]) (by kernel_rfl) (by decide) ?_
        intro q hq
        simp only [List.mem_cons, List.not_mem_nil, or_false] at hq
        subst hq
        refine ⟨_, rfl, ?_⟩
        go_simp
        refine ⟨⟨⟨_, hB6⟩, rfl⟩, ?_⟩
        refine wpC_all (rs := [12]) (by kernel_rfl) (by decide) ?_
        intro q hq
        simp only [List.mem_cons, List.not_mem_nil, or_false] at hq
        subst hq
        refine ⟨_, rfl, ?_⟩
        go_simp
        refine ⟨⟨⟨_, hB6⟩, rfl⟩, ?_⟩
        refine wpC_done (by kernel_rfl) ?_
        go_wp2_with fail
        go_meet
        case rel => exact ⟨by rw [HWR.out], ho6, HB.out.trans (hB6.mono hbs)⟩
      obtain ⟨rfl, ho6, hB6⟩ := hcut
      have HO6 := Lib.hid ho6
      have HB6 := Lib.hid hB6
      go_wp2
      go_ret2
      rw [HTI.out]
      refine ⟨⟨_, rfl, ?_⟩, HB6.out⟩
      rw [HCX.out]
      exact HO6.out
set_option maxRecDepth 20000 in
set_option maxHeartbeats 16000000 in
theorem rChain_any (A : Option Addr) (len cap : Nat) (l : List Tk) (w : World) (hS : Sml l) (hx : Plan w w.heap.size A len l) :
    Calls Try.prog 20 #[.slice A len cap] w fun e w' => (∃ v, e = .returned (.tuple #[v, .int .i64 (checkE l)]) ∧ w'.ownsRow w.heap.size 3 1 v (chnE l).length (icells (iN (chnE l)))) ∧ Below w.heap.size w w' := by
  obtain rfl : l.length = len := hx.1
  have c1 := fun W (h : Below w.heap.size w W) => rCheck_any A l.length cap l W hS (hx.go h)
  by_cases h0 : checkE l = 0
  · have hP := check_spec h0
    have hE : chnE l = chO l (chS l) := by unfold chnE chnV; rw [if_pos h0]
    have c9 := fun j W (h : Below w.heap.size w W) (hj : j < l.length) => rchain_any A cap l hP j hj W (hx.go h)
    have hCS := Lib.hid (rb_chS hP)
    have hL := hP.len
    rw [h0] at c1 ⊢
    rw [hE]
    have HP := Lib.hid hP
    have C1 := Lib.hid c1
    have C9 := Lib.hid c9
    clear c1 c9 hx hS hP hE h0
    go_enter Try.func20, Try.ntmps20
    go_wp2_with fail
    refine (C1.out _ (Below.refl _ _)).mono ?_
    rintro e w1 ⟨rfl, hb⟩
    have HB1 := Lib.hid hb
    clear hb
    go_wp2
    go_loopw [5, 6, 7] (fun v n j' W => ∃ j : Nat, j ≤ l.length ∧ j' = .int .i64 (j : Int) ∧ n = .int .i64 (rbM (tlV l) (rbN (tlV l) (fun _ => true) j)) ∧ W.ownsRow w.heap.size 3 1 v (chO l (rbN (tlV l) (fun _ => true) j)).length (icells (iN (chO l (rbN (tlV l) (fun _ => true) j)))) ∧ Below w.heap.size w W) (fun _ _ j' _ => l.length - (intOf j').toNat)
    case atStart => exact ⟨0, Nat.zero_le _, rfl, rfl, World.ownsRow_nil _ _ _ _, HB1.out⟩
    case round =>
      obtain ⟨j, hj, rfl, rfl, ho, hB⟩ := hrel
      have hbs := hB.size
      by_cases hlt : j < l.length
      · have hnx := rbN_next (tlV l) (fun _ => true) j
        have hbd := rbM_bd HP.out (p := fun _ => true) (Nat.le_of_lt hlt)
        have htj := tlV_bd HP.out hlt
        have ca := C9.out j wr hB hlt
        have ht0 : rbM (tlV l) (some j) = tlV l j := rfl
        have hc0 : chO l (some j) = chX l j := rfl
        generalize hR1 : rbN (tlV l) (fun _ => true) (j + 1) = R1 at *
        have HR1 := Lib.hid hR1
        clear hR1
        generalize rbN (tlV l) (fun _ => true) j = R0 at *
        generalize hM : rbM (tlV l) R0 = M at *
        generalize tlV l j = TJ at *
        have HM := Lib.hid hM
        have HO := Lib.hid ho
        have HB := Lib.hid hB
        have CA := Lib.hid ca
        have hj1 : (j : Int) < l.length := by omega
        have hj2 : ¬ l.length ≤ j := by omega
        have HNX := Lib.hid hnx
        have HT0 := Lib.hid ht0
        have HC0 := Lib.hid hc0
        clear ho ca hnx ht0 hc0 hM hB
        go_wp2_with fail
        refine CA.out.mono ?_
        rintro e w8 ⟨⟨v8, rfl, ho8⟩, hb8⟩
        have HO8 := Lib.hid (jown_later HO.out hb8)
        have HO9 := Lib.hid (jown_mono ho8 hbs)
        have HB8 := Lib.hid (HB.out.trans (hb8.mono hbs))
        clear ho8 hb8 HO
        by_cases hgt : M < TJ
        · have e1 := HNX.out
          rw [Bool.true_and, if_pos (decide_eq_true hgt)] at e1
          have E1 := Lib.hid e1
          clear e1 HNX
          go_wp2
          go_roundw
          case rel => exact ⟨j + 1, by omega, by go_num, by rw [HR1.out, E1.out, HT0.out], by rw [HR1.out, E1.out, HC0.out]; exact HO9.out, HB8.out⟩
          case measure => simp [intOf]; omega
        · have e1 := HNX.out
          rw [Bool.true_and, if_neg (by simpa using hgt)] at e1
          have E1 := Lib.hid e1
          clear e1 HNX
          go_wp2
          go_roundw
          case rel => exact ⟨j + 1, by omega, by go_num, by rw [HR1.out, E1.out, HM.out], by rw [HR1.out, E1.out]; exact HO8.out, HB8.out⟩
          case measure => simp [intOf]; omega
      · have hjn : j = l.length := by omega
        subst hjn
        rw [hCS.out] at ho ⊢
        have HO := Lib.hid ho
        have HB := Lib.hid hB
        generalize rbM (tlV l) (chS l) = M at *
        have hj1 : ¬ (l.length : Int) < l.length := by omega
        clear ho hB
        go_wp2
        go_ret2
        exact ⟨⟨_, rfl, HO.out⟩, HB.out⟩
  · have hne : (checkE l == 0) = false := by simpa using h0
    have hE : chnE l = [] := if_neg h0
    rw [hE]
    generalize checkE l = E at *
    have C1 := Lib.hid c1
    clear c1 hx h0
    go_enter Try.func20, Try.ntmps20
    go_wp2_with fail
    refine (C1.out _ (Below.refl _ _)).mono ?_
    rintro e w1 ⟨rfl, hb⟩
    have hb2 := Lib.hid hb
    clear hb
    go_wp2
    go_ret2
    exact ⟨⟨_, rfl, World.ownsRow_nil _ _ _ _⟩, hb2.out⟩
end Go.Proofs.Ytgijekhlbkfanaa

namespace Go.Proofs.Ytgijekhlbkfanaa
open Go.RowKit

section
variable {P : Program} {md : Region.Mode} {l : List Oper} {C : World → Prop}

def ung (l : List Oper) : List Oper := l.map fun o => { o with guard := none }
theorem ung_get (i : Nat) : (ung l).toArray[i]? = (l.toArray[i]?).map (fun o => { o with guard := none }) := by
  unfold ung
  simp
theorem ready_ung {listed : Array Bool} : Region.ready md (ung l).toArray listed = Region.ready md l.toArray listed := by
  unfold Region.ready
  have hs : (ung l).toArray.size = l.toArray.size := by simp [ung]
  rw [hs]
  congr 1
  funext i
  rw [ung_get]
  cases l.toArray[i]? <;> rfl
/-- All that is left waits for the guard (g, b) or for none; none of it writes the guard's slot. -/
def gB (l : List Oper) (g : Nat) (b : Bool) (listed : Array Bool) : Bool :=
  match (l[g]?).bind (·.dst) with
  | none => false
  | some d => (List.range l.length).all fun i => listed.getD i true || match l[i]? with | none => true | some o => (match o.guard with | none => true | some (g', b') => g' == g && b' == b) && !(o.dst == some d)
theorem gB_spec {g : Nat} {b : Bool} {listed : Array Bool} (h : gB l g b listed = true) : ∃ d, (l[g]?).bind (·.dst) = some d ∧ ∀ i o, l[i]? = some o → listed.getD i true = false → (∀ g' b', o.guard = some (g', b') → g' = g ∧ b' = b) ∧ o.dst ≠ some d := by
  unfold gB at h
  cases hd : (l[g]?).bind (·.dst) with
  | none => rw [hd] at h; cases h
  | some d =>
    rw [hd] at h
    refine ⟨d, rfl, fun i o ho hl => ?_⟩
    have hi : i < l.length := by
      rcases Nat.lt_or_ge i l.length with h1 | h1
      · exact h1
      · rw [List.getElem?_eq_none h1] at ho; cases ho
    have h1 := List.all_eq_true.1 h i (List.mem_range.2 hi)
    rw [hl, ho] at h1
    simp only [Bool.false_or, Bool.and_eq_true, Bool.not_eq_true', beq_eq_false_iff_ne] at h1
    refine ⟨fun g' b' hg => ?_, h1.2⟩
    have h2 := h1.1
    rw [hg] at h2
    simp only [Bool.and_eq_true, beq_iff_eq] at h2
    exact h2
theorem ready_spec {ops : Array Oper} {listed : Array Bool} {i : Nat} (h : i ∈ Region.ready md ops listed) : listed.getD i true = false := by
  unfold Region.ready at h
  have := (List.mem_filter.1 h).2
  simp only [Bool.and_eq_true, Bool.not_eq_true'] at this
  exact this.1
theorem getD_set {listed : Array Bool} {i j : Nat} (h : (listed.setIfInBounds i true).getD j true = false) : listed.getD j true = false := by
  rw [Array.getD_eq_getD_getElem?] at h ⊢
  by_cases hij : i = j
  · subst hij
    by_cases hs : i < listed.size
    · rw [Array.getElem?_setIfInBounds_self_of_lt hs] at h; cases h
    · rw [Array.getElem?_eq_none (by simpa using hs)] at h; cases h
  · rw [Array.getElem?_setIfInBounds_ne hij] at h; exact h
theorem wp_ung {o : Oper} {a : Act} {w : World} {K : Act → World → Prop} {Q : Exit → Act → World → Prop} (h : Oper.wp P { o with guard := none } a w K Q) : Oper.wp P o a w K Q := h
theorem wpC_ungd {Q : Exit → Act → World → Prop} {g d : Nat} {b : Bool} (hd : (l[g]?).bind (·.dst) = some d) : ∀ (f : Nat) (listed : Array Bool) (a : Act) (w : World),
    (∀ i o, l[i]? = some o → listed.getD i true = false → (∀ g' b', o.guard = some (g', b') → g' = g ∧ b' = b) ∧ o.dst ≠ some d) → yielded l.toArray a.tmps g = some b →
    wpC P md (ung l).toArray C Q f listed a w → wpAny P md l.toArray Q f listed a w
  | 0, listed, a, w, _, _, h => ⟨by rw [← ready_ung]; exact h.1, h.2⟩
  | f + 1, listed, a, w, hg, hy, h => by
    refine ⟨fun hr => h.1 (by rw [ready_ung]; exact hr), fun i hi => ?_⟩
    obtain ⟨o', ho', hw⟩ := h.2 i (by rw [ready_ung]; exact hi)
    rw [ung_get] at ho'
    obtain ⟨o, ho, rfl⟩ := Option.map_eq_some_iff.1 ho'
    have hu := ready_spec hi
    have ho2 : l[i]? = some o := by simpa using ho
    obtain ⟨h1, h2⟩ := hg i o ho2 hu
    have hwt : Region.wanted o (yielded l.toArray a.tmps) = true := by
      unfold Region.wanted
      cases hgo : o.guard with
      | none => rfl
      | some gb =>
        obtain ⟨e1, e2⟩ := h1 gb.1 gb.2 hgo
        show (yielded l.toArray a.tmps gb.1 == some gb.2) = true
        rw [e1, e2, hy]
        cases b <;> rfl
    unfold wpOp
    rw [ho]
    simp only [hwt, if_true]
    refine .inl ?_
    have hw2 := wp_ung hw
    have hp := wp_past (x := none) (v := undef) (a := a) rfl (fun d h => by cases h) hw2
    refine wp_z (fun a' w' hh => ?_) hp
    obtain ⟨⟨u, ds, ea⟩, -, hc⟩ := hh
    refine wpC_ungd hd f _ a' w' (fun j oj hj hl => hg j oj hj (getD_set hl)) ?_ hc
    have et : a'.tmps[d]? = a.tmps[d]? := by
      rw [ea]
      unfold Act.put
      cases hdst : o.dst with
      | none => rfl
      | some e =>
        have hne : e ≠ d := fun h => h2 (by rw [hdst, h])
        show (a.tmps.setIfInBounds e u)[d]? = _
        rw [Array.getElem?_setIfInBounds_ne hne]
    unfold yielded at hy ⊢
    have hb : ((l.toArray[g]?).bind (·.dst)) = some d := by simpa using hd
    rw [hb] at hy ⊢
    simp only [Option.bind_some] at hy ⊢
    rw [et]
    exact hy
theorem wpC_ung {Q : Exit → Act → World → Prop} {f : Nat} {listed : Array Bool} {a : Act} {w : World} (g : Nat) (b : Bool) (hB : gB l g b listed = true) (hy : yielded l.toArray a.tmps g = some b) (h : wpC P md (ung l).toArray C Q f listed a w) : wpAny P md l.toArray Q f listed a w := by
  obtain ⟨d, hd, hg⟩ := gB_spec hB
  exact wpC_ungd hd f listed a w hg hy h
theorem wpAny_one {Q : Exit → Act → World → Prop} {f i : Nat} {o : Oper} {listed : Array Bool} {a : Act} {w : World} (hr : Region.ready md l.toArray listed = [i]) (ho : l[i]? = some o) (hg : o.guard = none)
    (h : Oper.wp P o a w (fun a' w' => wpAny P md l.toArray Q f (listed.setIfInBounds i true) a' w') Q) : wpAny P md l.toArray Q (f + 1) listed a w := by
  refine ⟨fun h0 => absurd (hr.symm.trans h0) (by simp), fun j hj => ?_⟩
  rw [hr, List.mem_singleton] at hj
  subst hj
  unfold wpOp
  have ho2 : l.toArray[j]? = some o := by simpa using ho
  rw [ho2]
  have hw : Region.wanted o (yielded l.toArray a.tmps) = true := by unfold Region.wanted; rw [hg]
  simp only [hw, if_true]
  exact .inl h
theorem wp_region_g {id : Nat} {Q : Exit → Act → World → Prop} {a : Act} {w : World} (hm : P.follows .mixedOrders = true)
    (h : wpAny P .any l.toArray Q l.length (Array.replicate l.length false) a w.drew) : (Code.region id l.toArray true).wp P Q a w :=
  wp_region_any hm (by simpa using h)
end
end Go.Proofs.Ytgijekhlbkfanaa

namespace Go.Proofs.Ytgijekhlbkfanaa
open Go.RowKit
attribute [local go_sem] Later.cell Same.cell

/-- A link of a chain. -/
def lkB (l : List Tk) (c : List Int) (k : Nat) : Bool := wi (gI c k) 0 ((l.length : Int) - 1) && (decide (k = 0) || (afs l (gI c k).toNat).contains (gI c (k - 1)).toNat)
def isChB (l : List Tk) (c : List Int) : Bool := decide (checkE l = 0) && (decide (0 < c.length) && (List.range c.length).all (lkB l c))
theorem isChB_no {l : List Tk} {c : List Int} {k : Nat} (hk : k < c.length) (h : lkB l c k = false) : isChB l c = false := by
  unfold isChB
  have : (List.range c.length).all (lkB l c) = false := by
    rw [List.all_eq_false]
    exact ⟨k, List.mem_range.2 hk, by rw [h]; decide⟩
  rw [this, Bool.and_false, Bool.and_false]
theorem isChB_yes {l : List Tk} {c : List Int} (h0 : checkE l = 0) (hc : 0 < c.length) (h : ∀ k, k < c.length → lkB l c k = true) : isChB l c = true := by
  unfold isChB
  rw [decide_eq_true h0, decide_eq_true hc, Bool.true_and, Bool.true_and, List.all_eq_true]
  exact fun k hk => h k (List.mem_range.1 hk)
theorem isChB_nil {l : List Tk} {c : List Int} (hc : ¬ 0 < c.length) : isChB l c = false := by
  unfold isChB
  rw [decide_eq_false hc, Bool.false_and, Bool.and_false]
theorem isChB_err {l : List Tk} {c : List Int} (h0 : ¬ checkE l = 0) : isChB l c = false := by
  unfold isChB
  rw [decide_eq_false h0, Bool.false_and]
theorem lkB_out {l : List Tk} {c : List Int} {k : Nat} (h : wi (gI c k) 0 ((l.length : Int) - 1) = false) : lkB l c k = false := by unfold lkB; rw [h, Bool.false_and]
theorem lkB_zero {l : List Tk} {c : List Int} (h : wi (gI c 0) 0 ((l.length : Int) - 1) = true) : lkB l c 0 = true := by unfold lkB; rw [h]; rfl
theorem lkB_step {l : List Tk} {c : List Int} {k : Nat} (h : wi (gI c k) 0 ((l.length : Int) - 1) = true) (hk : 0 < k) : lkB l c k = (afs l (gI c k).toNat).contains (gI c (k - 1)).toNat := by
  unfold lkB
  rw [h, Bool.true_and, decide_eq_false (by omega : ¬ k = 0), Bool.false_or]
theorem lkB_in {l : List Tk} {c : List Int} {k : Nat} (h : lkB l c k = true) : ∃ i : Nat, gI c k = (i : Int) ∧ i < l.length := by
  unfold lkB at h
  rw [Bool.and_eq_true] at h
  have := wi_iff.1 h.1
  exact ⟨(gI c k).toNat, by omega, by omega⟩
theorem wi_in {l : List Tk} {z : Int} (h : wi z 0 ((l.length : Int) - 1) = true) : ∃ i : Nat, z = (i : Int) ∧ i < l.length := by
  have := wi_iff.1 h
  exact ⟨z.toNat, by omega, by omega⟩
set_option maxRecDepth 20000 in
set_option maxHeartbeats 16000000 in
theorem IsChain_any (A : Option Addr) (len cap : Nat) (l : List Tk) (A2 : Option Addr) (len2 cap2 : Nat) (c : List Int) (w : World) (hS : Sml l) (hm : len2 ≤ 1000) (hx : Plan w w.heap.size A len l) (hc : Ints w w.heap.size A2 len2 c) :
    Calls Try.prog 21 #[.slice A len cap, .slice A2 len2 cap2] w fun e w' => e = .returned (.bool (isChB l c)) ∧ Below w.heap.size w w' := by
  obtain rfl : l.length = len := hx.1
  obtain rfl : c.length = len2 := hc.1
  have c1 := fun W (h : Below w.heap.size w W) => Check_any A l.length cap l W hS (hx.go h)
  by_cases h0 : checkE l = 0
  · have hP := check_spec h0
    have cw := fun z W => jwithin_any z 0 ((l.length : Int) - 1) W
    have c8 := fun A n cap ss x W (hn : n ≤ 9223372036854775807) (h : Strs W W.heap.size A n ss) => sContains_any A n cap ss x W hn h
    have hia := fun c j (hc : c < l.length) (hj : j < l.length) => isIn_afs hP hc hj
    have hL := hP.len
    have hwr : IntKind.i64.wrap ((l.length : Int) - 1) = (l.length : Int) - 1 := IntWalk.i64_in _ (by omega)
    rw [h0] at c1
    have HIA := Lib.hid hia
    have HP := Lib.hid hP
    have HX := Lib.hid hx
    have HC := Lib.hid hc
    have C1 := Lib.hid c1
    have CW := Lib.hid cw
    have C8 := Lib.hid c8
    have H0 := Lib.hid h0
    clear c1 cw c8 hx hc hS hP h0 hia
    go_enter Try.func21, Try.ntmps21
    go_wp2_with fail
    refine (C1.out _ (Below.refl _ _)).mono ?_
    rintro e w1 ⟨rfl, hb⟩
    have HB1 := Lib.hid hb
    clear hb
    go_wp2
    go_loopw [12] (fun k' W => ∃ k : Nat, k ≤ c.length ∧ k' = .int .i64 (k : Int) ∧ Hid (∀ q, q < k → lkB l c q = true) ∧ Below w.heap.size w W) (fun k' _ => c.length - (intOf k').toNat)
    case atStart => exact ⟨0, Nat.zero_le _, rfl, Lib.hid (fun q hq => absurd hq (Nat.not_lt_zero q)), HB1.out⟩
    case round =>
      obtain ⟨k, hk, rfl, hall, hB⟩ := hrel
      have hbs := hB.size
      by_cases hlt : k < c.length
      · obtain ⟨b2, off2, rfl, hb2, hck⟩ := (HC.out.below hB).at_ k hlt
        change wr.cell? _ = some (.int .i64 (gI c k)) at hck
        have hk1 : (k : Int) < c.length := by omega
        have hk2 : ¬ c.length ≤ k := by omega
        have hb2r : b2 < wr.heap.size := by omega
        cases hw : wi (gI c k) 0 ((l.length : Int) - 1)
        · have HR := Lib.hid (isChB_no hlt (lkB_out hw))
          have cw2 := CW.out (gI c k)
          rw [hw] at cw2
          generalize gI c k = X at *
          have CW2 := Lib.hid cw2
          clear cw2 hw
          go_wp2
          (refine wp_region_later (by kernel_rfl) (by kernel_rfl) ?_; (repeat (go_big_quiet_step ((go_at_call 56; exact later_same (CW2.out _))))); refine wpQuiet_nil ?_)
          intro w3 hb3
          have HB3 := Lib.hid (hB.trans (hb3.mono hbs))
          go_wp2
          go_ret
          exact ⟨ret_bool HR.out.symm, HB3.out⟩
        · obtain ⟨i, hi, hil⟩ := wi_in hw
          have cw2 := CW.out (gI c k)
          rw [hw] at cw2
          rw [hi] at hck cw2
          have CW2 := Lib.hid cw2
          by_cases hk0 : k = 0
          · have HN := Lib.hid (show lkB l c k = true by rw [hk0] at hw ⊢; exact lkB_zero hw)
            have hkd : decide (0 < k) = false := by rw [decide_eq_false]; omega
            have HK0 := Lib.hid hk0
            clear cw2 hw hi hk0
            go_wp2
            (refine wp_region_later (by kernel_rfl) (by kernel_rfl) ?_; (repeat (go_big_quiet_step ((go_at_call 56; exact later_same (CW2.out _))))); refine wpQuiet_nil ?_)
            intro w3 hb3
            have hB3 := hB.trans (hb3.mono hbs)
            go_wp2
            go_roundw
            case rel => exact ⟨k + 1, by omega, by go_num, Lib.hid (fun q hq => by rw [show q = k by have := HK0.out; omega]; exact HN.out), hB3⟩
            case measure => simp [intOf]; omega
          · obtain ⟨p, rfl⟩ : ∃ p, k = p + 1 := ⟨k - 1, by omega⟩
            obtain ⟨j, hj, hjl⟩ := lkB_in (hall.out p (by omega))
            obtain ⟨b3, off3, e3, hb3, hcp⟩ := (HC.out.below hB).at_ p (by omega)
            change wr.cell? _ = some (.int .i64 (gI c p)) at hcp
            injection e3 with e3
            injection e3 with q1 q2
            subst q1 q2
            rw [hj] at hcp
            have hst := lkB_step hw (Nat.succ_pos p)
            rw [hi, Nat.add_sub_cancel, hj, Int.toNat_natCast, Int.toNat_natCast] at hst
            obtain ⟨b, off, rfl, hb0, -, -, -, A', n, cc, hc4, hn1, hn2, hSt⟩ := (HX.out.below hB).at_ i hil
            obtain ⟨b7, off7, e7, hb7, hc0, -, -, -⟩ := (HX.out.below hB).at_ j hjl
            injection e7 with e7
            injection e7 with q1 q2
            subst q1 q2
            have c9 := fun W (h : Below wr.heap.size wr W) => C8.out A' n cc (tkA l i).af (tkA l j).nm W (by omega) ((hSt.below (h.mono hbs)).more (Nat.le_trans hbs h.size))
            rw [HIA.out j i hjl hil] at c9
            rw [← hst] at c9
            have hT : ∀ q, q < p + 1 → lkB l c q = true := hall.out
            generalize hLK : lkB l c (p + 1) = LK at *
            have C9 := Lib.hid c9
            have HLK := Lib.hid hLK
            have hkd : decide ((0 : Int) < ((p + 1 : Nat) : Int)) = true := by rw [decide_eq_true]; omega
            have hsb : IntKind.i64.wrap (((p + 1 : Nat) : Int) - 1) = (p : Int) := by rw [show ((p + 1 : Nat) : Int) - 1 = (p : Int) by omega]; exact IntWalk.i64_in _ (by omega)
            have hp1 : (p : Int) < c.length := by omega
            have hi1 : (i : Int) < l.length := by omega
            have hj1 : (j : Int) < l.length := by omega
            have hb0r : b < wr.heap.size := by omega
            change wr.cell? _ = some (.string (tkA l j).nm) at hc0
            generalize (tkA l j).nm = NM at *
            have HT := Lib.hid hT
            clear cw2 hw hi hj hT hall c9 hst hSt hLK hn1 hn2
            go_wp2
            (refine wp_region_later (by kernel_rfl) (by kernel_rfl) ?_; (repeat (go_big_quiet_step ((first | (go_at_call 56; exact later_same (CW2.out _)) | (go_at_call 63; exact later_same (C9.out _ (‹Later _›).h)))))); refine wpQuiet_nil ?_)
            intro w3 hb3
            have hB3 := hB.trans (hb3.mono hbs)
            cases LK
            · have HR := Lib.hid (isChB_no hlt HLK.out)
              go_wp2
              go_ret
              exact ⟨ret_bool HR.out.symm, hB3⟩
            · have hall2 : Hid (∀ q, q < p + 1 + 1 → lkB l c q = true) := Lib.hid (fun q hq => by
                rcases Nat.lt_or_ge q (p + 1) with h | h
                · exact HT.out q h
                · rw [show q = p + 1 by omega]; exact HLK.out)
              clear HT HLK C9
              go_wp2
              go_roundw
              case rel => exact ⟨p + 1 + 1, by omega, by go_num, hall2, hB3⟩
              case measure => simp [intOf]; omega
      · have hkn : k = c.length := by omega
        have HB := Lib.hid hB
        by_cases hz : 0 < c.length
        · have HR := Lib.hid (isChB_yes H0.out hz (by rw [← hkn]; exact hall.out))
          have hz2 : (0 : Int) < c.length := by omega
          subst hkn
          clear hB hall
          go_wp2
          go_ret
          exact ⟨ret_bool HR.out.symm, HB.out⟩
        · have HR := Lib.hid (isChB_nil (l := l) hz)
          have hz2 : ¬ (0 : Int) < c.length := by omega
          subst hkn
          clear hB hall
          go_wp2
          go_ret
          exact ⟨ret_bool HR.out.symm, HB.out⟩
  · have hne : (checkE l == 0) = false := by simpa using h0
    have HR := Lib.hid (isChB_err (c := c) h0)
    generalize checkE l = E at *
    have C1 := Lib.hid c1
    clear c1 hx h0
    go_enter Try.func21, Try.ntmps21
    go_wp2_with fail
    refine (C1.out _ (Below.refl _ _)).mono ?_
    rintro e w1 ⟨rfl, hb⟩
    have hb2 := Lib.hid hb
    clear hb
    go_wp2
    go_ret
    exact ⟨ret_bool HR.out.symm, hb2.out⟩
end Go.Proofs.Ytgijekhlbkfanaa

namespace Go.Proofs.Ytgijekhlbkfanaa
open Go.RowKit
attribute [local go_sem] Later.cell Same.cell

set_option maxRecDepth 20000 in
set_option maxHeartbeats 16000000 in
theorem rIsChain_any (A : Option Addr) (len cap : Nat) (l : List Tk) (A2 : Option Addr) (len2 cap2 : Nat) (c : List Int) (w : World) (hS : Sml l) (hm : len2 ≤ 1000) (hx : Plan w w.heap.size A len l) (hc : Ints w w.heap.size A2 len2 c) :
    Calls Try.prog 23 #[.slice A len cap, .slice A2 len2 cap2] w fun e w' => e = .returned (.bool (isChB l c)) ∧ Below w.heap.size w w' := by
  obtain rfl : l.length = len := hx.1
  obtain rfl : c.length = len2 := hc.1
  have c1 := fun W (h : Below w.heap.size w W) => rCheck_any A l.length cap l W hS (hx.go h)
  by_cases h0 : checkE l = 0
  · have hP := check_spec h0
    have cw := fun z W => qwithin_any z 0 ((l.length : Int) - 1) W
    have c2 := fun j W (h : Below w.heap.size w W) (hj : j < l.length) => afters_any A l.length cap l j W (by have := hP.len; omega) hj (by have := hP.few j hj; omega) (hx.go h)
    have haz : ∀ j, j < l.length → afZ l j = iN (afs l j) := fun j hj => afZ_afs (hP.known j hj)
    have c8 := fun A n cap xs q W (hn : n ≤ 9223372036854775807) (h : Ints W W.heap.size A n xs) => has_any A n cap xs q W hn h
    have hL := hP.len
    have hwr : wrap64 ((l.length : Int) - 1) = (l.length : Int) - 1 := IntWalk.wrap64_in _ ⟨by omega, by omega⟩
    rw [h0] at c1
    have HAZ := Lib.hid haz
    have HP := Lib.hid hP
    have HC := Lib.hid hc
    have C1 := Lib.hid c1
    have C2 := Lib.hid c2
    have CW := Lib.hid cw
    have C8 := Lib.hid c8
    have H0 := Lib.hid h0
    clear c1 cw c2 c8 hx hc hS hP h0 haz
    by_cases hz : 0 < c.length
    · have hz2 : ¬ c.length = 0 := by omega
      have hz3 : ((c.length : Int) == 0) = false := by rw [beq_eq_false_iff_ne]; omega
      have HZ := Lib.hid hz
      clear hz hz2
      go_enter Try.func23, Try.ntmps23
      go_wp2_with fail
      refine (C1.out _ (Below.refl _ _)).mono ?_
      rintro e w1 ⟨rfl, hb⟩
      have HB1 := Lib.hid hb
      clear hb
      go_wp2
      go_loopw [5] (fun k' W => ∃ k : Nat, k ≤ c.length ∧ k' = .int .i64 (k : Int) ∧ Hid (∀ q, q < k → lkB l c q = true) ∧ Below w.heap.size w W) (fun k' _ => c.length - (intOf k').toNat)
      case atStart => exact ⟨0, Nat.zero_le _, rfl, Lib.hid (fun q hq => absurd hq (Nat.not_lt_zero q)), HB1.out⟩
      case round =>
        obtain ⟨k, hk, rfl, hall, hB⟩ := hrel
        have hbs := hB.size
        by_cases hlt : k < c.length
        · obtain ⟨b2, off2, rfl, hb2, hck⟩ := (HC.out.below hB).at_ k hlt
          change wr.cell? _ = some (.int .i64 (gI c k)) at hck
          have hk1 : (k : Int) < c.length := by omega
          have hk2 : ¬ c.length ≤ k := by omega
          have hb2r : b2 < wr.heap.size := by omega
          have cw2 := CW.out (gI c k)
          cases hw : wi (gI c k) 0 ((l.length : Int) - 1)
          · have HR := Lib.hid (isChB_no hlt (lkB_out hw))
            rw [hw] at cw2
            generalize gI c k = X at *
            have CW2 := Lib.hid cw2
            clear cw2 hw
            go_wp2_with fail
            refine (CW2.out _).mono ?_
            rintro e w3 ⟨rfl, rfl⟩
            have HB3 := Lib.hid hB
            go_wp2
            go_ret
            exact ⟨ret_bool HR.out.symm, HB3.out⟩
          · obtain ⟨i, hi, hil⟩ := wi_in hw
            rw [hw] at cw2
            rw [hi] at hck cw2
            have CW2 := Lib.hid cw2
            by_cases hk0 : k = 0
            · have HN := Lib.hid (show lkB l c k = true by rw [hk0] at hw ⊢; exact lkB_zero hw)
              have hkd : decide (0 < k) = false := by rw [decide_eq_false]; omega
              have HK0 := Lib.hid hk0
              clear cw2 hw hi hk0
              go_wp2_with fail
              refine (CW2.out _).mono ?_
              rintro e w3 ⟨rfl, rfl⟩
              go_wp2
              (refine wp_region_later (by kernel_rfl) (by kernel_rfl) ?_; (repeat (go_big_quiet_step ((fail)))); refine wpQuiet_nil ?_)
              intro w3 hb3
              have hB3 := hB.trans (hb3.mono hbs)
              go_wp2_with fail
              go_roundw
              case rel => exact ⟨k + 1, by omega, by go_num, Lib.hid (fun q hq => by rw [show q = k by have := HK0.out; omega]; exact HN.out), hB3⟩
              case measure => simp [intOf]; omega
            · obtain ⟨p, rfl⟩ : ∃ p, k = p + 1 := ⟨k - 1, by omega⟩
              obtain ⟨j, hj, hjl⟩ := lkB_in (hall.out p (by omega))
              obtain ⟨b3, off3, e3, hb3, hcp⟩ := (HC.out.below hB).at_ p (by omega)
              change wr.cell? _ = some (.int .i64 (gI c p)) at hcp
              injection e3 with e3
              injection e3 with q1 q2
              subst q1 q2
              rw [hj] at hcp
              have hst := lkB_step hw (Nat.succ_pos p)
              rw [hi, Nat.add_sub_cancel, hj, Int.toNat_natCast, Int.toNat_natCast] at hst
              have c9 := fun W (h : Below w.heap.size w W) => C2.out i W h hil
              rw [HAZ.out i hil, iN_len] at c9
              have hm10 : (afs l i).length ≤ 10 := by rw [afs_len]; exact HP.out.few i hil
              have c10 := fun A6 cap6 W h => C8.out A6 (afs l i).length cap6 (iN (afs l i)) (j : Int) W (by omega) h
              rw [iN_contains, ← hst] at c10
              have hT : ∀ q, q < p + 1 → lkB l c q = true := hall.out
              generalize hLK : lkB l c (p + 1) = LK at *
              have C9 := Lib.hid c9
              have C10 := Lib.hid c10
              have HLK := Lib.hid hLK
              have hkd : decide ((0 : Int) < ((p + 1 : Nat) : Int)) = true := by rw [decide_eq_true]; omega
              have hsb : IntKind.i64.wrap (((p + 1 : Nat) : Int) - 1) = (p : Int) := by rw [show ((p + 1 : Nat) : Int) - 1 = (p : Int) by omega]; exact IntWalk.i64_in _ (by omega)
              have hp1 : (p : Int) < c.length := by omega
              have hi1 : (i : Int) < l.length := by omega
              have hj1 : (j : Int) < l.length := by omega
              have HT := Lib.hid hT
              have HB := Lib.hid hB
              clear cw2 hw hi hj hT hall c9 c10 hst hLK hB
              go_wp2_with fail
              refine (CW2.out _).mono ?_
              rintro e w3 ⟨rfl, rfl⟩
              go_wp2
              go_cut [45] (fun s W => s = .bool (!LK) ∧ Below wr.heap.size wr W)
              case first =>
                refine wp_region_g (by kernel_rfl) ?_
                refine wpAny_one (f := 16) (i := 0) (by kernel_rfl) rfl rfl ?_
                go_simp
                refine wpAny_one (f := 15) (i := 1) (by kernel_rfl) rfl rfl ?_
                go_simp
                refine wpAny_one (f := 14) (i := 2) (by kernel_rfl) rfl rfl ?_
                go_simp
                refine wpC_ung 2 true (by kernel_rfl) (by kernel_rfl) (C := fun W => ∃ x : Later wr, W = x.val) ?_
                simp only [ung, List.map_cons, List.map_nil]
                refine wpC_take (f := 4) (by kernel_rfl) (by kernel_rfl) ⟨⟨_, (Below.refl _ _).drew⟩, rfl⟩ [3, 4, 5, 6, 7, 9, 10, 11, 12, 13] _ _ (by kernel_rfl) ?_
                simp only [List.map_cons, List.map_nil, List.getElem?_toArray, List.getElem?_cons_succ, List.getElem?_cons_zero, Option.getD_some]
                repeat (go_big_quiet_step (fail))
                refine wpQuiet_nil ?_
                have hbd : Below wr.heap.size wr wr.drew := (Below.refl _ _).drew
                refine wpC_all (rs := [8]) (by kernel_rfl) (by decide) ?_
                intro q hq
                simp only [List.mem_cons, List.not_mem_nil, or_false] at hq
                subst hq
                refine ⟨_, rfl, ?_⟩
                go_simp
                refine (C9.out _ (HB.out.trans (hbd.mono hbs))).mono ?_
                rintro e w5 ⟨⟨v5, rfl, ho5⟩, hb⟩
                obtain ⟨A5, k5, rfl, hm5, hm6, hI5, -⟩ := own_ints ho5
                have hbq : Below wr.heap.size wr w5 := hbd.trans (hb.mono hbd.size)
                refine ⟨⟨⟨_, hbq⟩, rfl⟩, ?_⟩
                go_simp
                refine wpC_all (rs := [14]) (by kernel_rfl) (by decide) ?_
                intro q hq
                simp only [List.mem_cons, List.not_mem_nil, or_false] at hq
                subst hq
                refine ⟨_, rfl, ?_⟩
                go_simp
                refine (C10.out A5 k5 _ hI5).mono ?_
                rintro e w6 ⟨rfl, rfl⟩
                refine ⟨⟨⟨_, hbq⟩, rfl⟩, ?_⟩
                go_simp
                refine wpC_all (rs := [15]) (by kernel_rfl) (by decide) ?_
                intro q hq
                simp only [List.mem_cons, List.not_mem_nil, or_false] at hq
                subst hq
                refine ⟨_, rfl, ?_⟩
                go_simp
                refine ⟨⟨⟨_, hbq⟩, rfl⟩, ?_⟩
                refine wpC_all (rs := [16]) (by kernel_rfl) (by decide) ?_
                intro q hq
                simp only [List.mem_cons, List.not_mem_nil, or_false] at hq
                subst hq
                refine ⟨_, rfl, ?_⟩
                go_simp
                refine ⟨⟨⟨_, hbq⟩, rfl⟩, ?_⟩
                refine wpC_done (by kernel_rfl) ?_
                go_wp2_with fail
                go_meet
                case rel => exact ⟨by cases LK <;> rfl, hbq⟩
              obtain ⟨rfl, hb⟩ := hcut
              have hB3 := HB.out.trans (hb.mono hbs)
              cases LK
              · have HR := Lib.hid (isChB_no hlt HLK.out)
                go_wp2_with fail
                go_ret
                exact ⟨ret_bool HR.out.symm, hB3⟩
              · have hall2 : Hid (∀ q, q < p + 1 + 1 → lkB l c q = true) := Lib.hid (fun q hq => by
                  rcases Nat.lt_or_ge q (p + 1) with h | h
                  · exact HT.out q h
                  · rw [show q = p + 1 by omega]; exact HLK.out)
                clear HT HLK C9 C10
                go_wp2_with fail
                go_roundw
                case rel => exact ⟨p + 1 + 1, by omega, by go_num, hall2, hB3⟩
                case measure => simp [intOf]; omega
        · have hkn : k = c.length := by omega
          have HB := Lib.hid hB
          have HR := Lib.hid (isChB_yes H0.out HZ.out (by rw [← hkn]; exact hall.out))
          subst hkn
          clear hB hall
          go_wp2_with fail
          go_ret
          exact ⟨ret_bool HR.out.symm, HB.out⟩
    · have hz2 : c.length = 0 := by omega
      have HR := Lib.hid (isChB_nil (l := l) hz)
      have HZ := Lib.hid hz2
      have hz3 : ((c.length : Int) == 0) = true := by rw [hz2]; rfl
      clear hz hz2
      go_enter Try.func23, Try.ntmps23
      go_wp2_with fail
      refine (C1.out _ (Below.refl _ _)).mono ?_
      rintro e w1 ⟨rfl, hb⟩
      have HB1 := Lib.hid hb
      clear hb
      go_wp2_with fail
      go_ret
      exact ⟨ret_bool HR.out.symm, HB1.out⟩
  · have hne : (checkE l == 0) = false := by simpa using h0
    have HR := Lib.hid (isChB_err (c := c) h0)
    generalize checkE l = E at *
    have C1 := Lib.hid c1
    clear c1 hx h0
    go_enter Try.func23, Try.ntmps23
    go_wp2_with fail
    refine (C1.out _ (Below.refl _ _)).mono ?_
    rintro e w1 ⟨rfl, hb⟩
    have hb2 := Lib.hid hb
    clear hb
    go_wp2_with fail
    go_ret
    exact ⟨ret_bool HR.out.symm, hb2.out⟩
end Go.Proofs.Ytgijekhlbkfanaa

namespace Go.Proofs.Ytgijekhlbkfanaa
open Go.RowKit
attribute [local go_sem] Later.cell Same.cell

theorem lnk_iff {l : List Tk} : ∀ {cs : List Nat}, lnk l cs ↔ (∀ k (h : k < cs.length), cs[k] < l.length) ∧ ∀ k (h : k + 1 < cs.length), cs[k]'(by omega) ∈ afs l cs[k + 1]
  | [] => by simp [lnk]
  | [i] => by
    constructor
    · intro h
      refine ⟨fun k hk => ?_, fun k hk => by simp at hk⟩
      have : k = 0 := by simp at hk; exact hk
      subst this
      exact h
    · intro h
      exact h.1 0 (by simp)
  | i :: j :: r => by
    constructor
    · intro h
      obtain ⟨h1, h2⟩ := (lnk_iff (cs := j :: r)).1 h.2.2
      refine ⟨fun k hk => ?_, fun k hk => ?_⟩
      · cases k with
        | zero => exact h.1
        | succ k => exact h1 k (by simpa using hk)
      · cases k with
        | zero => exact h.2.1
        | succ k => exact h2 k (by simpa using hk)
    · intro h
      refine ⟨h.1 0 (by simp), h.2 0 (by simp), (lnk_iff (cs := j :: r)).2 ⟨fun k hk => ?_, fun k hk => ?_⟩⟩
      · exact h.1 (k + 1) (by simpa using hk)
      · exact h.2 (k + 1) (by simpa using hk)
theorem isChB_lnk {l : List Tk} {c : List Int} (h : isChB l c = true) : ∃ cs, c = iN cs ∧ cs ≠ [] ∧ lnk l cs := by
  unfold isChB at h
  simp only [Bool.and_eq_true, decide_eq_true_eq, List.all_eq_true, List.mem_range] at h
  obtain ⟨h0, hl, hk⟩ := h
  have hc : c = iN (c.map Int.toNat) := by
    apply List.ext_getElem
    · simp [iN]
    · intro k h1 h2
      obtain ⟨i, hi, -⟩ := lkB_in (hk k h1)
      unfold gI at hi
      rw [List.getElem?_eq_getElem h1] at hi
      simp only [Option.getD_some] at hi
      simp [iN, hi]
  refine ⟨_, hc, ?_, ?_⟩
  · intro e
    have : (c.map Int.toNat).length = 0 := by rw [e]; rfl
    rw [List.length_map] at this
    omega
  · have hg : ∀ k (h : k < c.length), gI c k = c[k] := fun k h => by unfold gI; rw [List.getElem?_eq_getElem h]; rfl
    refine lnk_iff.2 ⟨fun k h1 => ?_, fun k h1 => ?_⟩
    · have h2 : k < c.length := by simpa using h1
      obtain ⟨i, hi, hil⟩ := lkB_in (hk k h2)
      rw [hg k h2] at hi
      rw [List.getElem_map, hi]
      simpa using hil
    · have h2 : k + 1 < c.length := by simpa using h1
      have h3 := hk (k + 1) h2
      unfold lkB at h3
      rw [Bool.and_eq_true, decide_eq_false (by omega : ¬ k + 1 = 0), Bool.false_or, Nat.add_sub_cancel, hg _ h2, hg k (by omega)] at h3
      rw [List.getElem_map, List.getElem_map]
      exact List.contains_iff_mem.1 h3.2
theorem lnk_isChB {l : List Tk} {cs : List Nat} (h0 : checkE l = 0) (hc : cs ≠ []) (h : lnk l cs) : isChB l (iN cs) = true := by
  obtain ⟨h1, h2⟩ := lnk_iff.1 h
  refine isChB_yes h0 (by rw [iN_len]; exact List.length_pos_iff.2 hc) fun k hk => ?_
  rw [iN_len] at hk
  unfold lkB
  rw [iN_at hk, Int.toNat_natCast, Bool.and_eq_true]
  refine ⟨wi_iff.2 (by have := h1 k hk; omega), ?_⟩
  cases k with
  | zero => rfl
  | succ k =>
    rw [decide_eq_false (by omega : ¬ k + 1 = 0), Bool.false_or, Nat.add_sub_cancel, iN_at (by omega), Int.toNat_natCast]
    exact List.contains_iff_mem.2 (h2 k hk)
theorem sumD_bd {l : List Tk} (h : okP l) : ∀ {c : List Nat}, (∀ i ∈ c, i < l.length) → 0 ≤ sumD l c ∧ sumD l c ≤ 1000 * c.length
  | [], _ => by simp [sumD]
  | i :: c, hc => by
    have h1 := sumD_bd h (c := c) fun j hj => hc j (List.mem_cons_of_mem _ hj)
    have h2 := dy_bd h (hc i (List.mem_cons_self ..))
    rw [sumD_cons, List.length_cons]
    omega
theorem sumD_take {l : List Tk} {c : List Nat} {k : Nat} (hk : k < c.length) : sumD l (c.take (k + 1)) = sumD l (c.take k) + dyA l c[k] := by
  rw [List.take_succ_eq_append_getElem hk, sumD_app, sumD_cons]
  simp [sumD]
set_option maxRecDepth 20000 in
set_option maxHeartbeats 16000000 in
theorem days_any (A : Option Addr) (len cap : Nat) (l : List Tk) (A2 : Option Addr) (len2 cap2 : Nat) (c : List Nat) (w : World) (hP : okP l) (hm : len2 ≤ 1000) (hx : Plan w w.heap.size A len l) (hc : Ints w w.heap.size A2 len2 (iN c)) (hl : ∀ i ∈ c, i < l.length) :
    Calls Try.prog 25 #[.slice A len cap, .slice A2 len2 cap2] w fun e w' => e = .returned (.int .i64 (sumD l c)) ∧ w = w' := by
  obtain rfl : l.length = len := hx.1
  obtain rfl : c.length = len2 := by have := hc.1; rw [iN_len] at this; exact this
  have hL := hP.len
  have HL := Lib.hid hl
  have HP := Lib.hid hP
  have HX := Lib.hid hx
  have HC := Lib.hid hc
  clear hx hc hP hl
  go_enter Try.func25, Try.ntmps25
  go_wp2
  go_loopw [5, 6] (fun s i wr => ∃ k : Nat, k ≤ c.length ∧ i = .int .i64 (k : Int) ∧ s = .int .i64 (sumD l (c.take k)) ∧ w = wr) (fun _ i _ => c.length - (intOf i).toNat)
  case atStart => exact ⟨0, Nat.zero_le _, rfl, rfl, rfl⟩
  case round =>
    obtain ⟨k, hk, rfl, rfl, rfl⟩ := hrel
    by_cases hlt : k < c.length
    · obtain ⟨b, off, rfl, hb0, hc1⟩ := HC.out.at_ k hlt
      have hil := HL.out c[k] (List.getElem_mem hlt)
      change w.cell? _ = some (.int .i64 (gI (iN c) k)) at hc1
      rw [iN_at hlt] at hc1
      have hst := sumD_take (l := l) hlt
      have hbd := sumD_bd HP.out (c := c.take k) fun i hi => HL.out i (List.mem_of_mem_take hi)
      have hdb := dy_bd HP.out hil
      have hlk : (c.take k).length ≤ c.length := by rw [List.length_take]; omega
      obtain ⟨b2, off2, rfl, hb2, -, hcd, -, -⟩ := HX.out.at_ c[k] hil
      change w.cell? _ = some (.int .i64 (dyA l c[k])) at hcd
      generalize c[k] = i at *
      generalize dyA l i = D at *
      generalize hS1 : sumD l (c.take (k + 1)) = S1 at *
      generalize sumD l (c.take k) = S0 at *
      have hwr : wrap64 (S0 + D) = S1 := by rw [hst]; exact IntWalk.wrap64_in _ ⟨by omega, by omega⟩
      have HS1 := Lib.hid hS1
      have HWR := Lib.hid hwr
      have hk1 : (k : Int) < c.length := by omega
      have hk2 : ¬ c.length ≤ k := by omega
      have hi1 : (i : Int) < l.length := by omega
      clear hst hbd hdb hlk hS1 hwr
      go_wp2
      go_roundw
      case rel => exact ⟨k + 1, by omega, by go_num, by rw [HS1.out, HWR.out], by first | rfl | trivial⟩
      case measure => simp [intOf]; omega
    · have hkl : k = c.length := by omega
      subst hkl
      rw [List.take_length]
      obtain ⟨S, hS⟩ : ∃ S, S = sumD l c := ⟨_, rfl⟩
      rw [← hS]
      have HSS := Lib.hid hS
      clear hS
      have hk1 : ¬ (c.length : Int) < c.length := by omega
      go_wp2
      go_ret
      exact ⟨by rw [← HSS.out]; rfl, rfl⟩
end Go.Proofs.Ytgijekhlbkfanaa

namespace Go.Proofs.Ytgijekhlbkfanaa
open Go.RowKit
attribute [local go_sem] Later.cell Same.cell

def chI (l : List Tk) : List Int := iN (chnE l)
theorem chI_any (A : Option Addr) (len cap : Nat) (l : List Tk) (w : World) (hS : Sml l) (hx : Plan w w.heap.size A len l) :
    Calls Try.prog 19 #[.slice A len cap] w fun e w' => (∃ v, e = .returned (.tuple #[v, .int .i64 (checkE l)]) ∧ w'.ownsRow w.heap.size 3 1 v (chI l).length (icells (chI l))) ∧ Below w.heap.size w w' := by
  have := Chain_any A len cap l w hS hx
  rw [← iN_len (chnE l)] at this
  exact this
theorem rchI_any (A : Option Addr) (len cap : Nat) (l : List Tk) (w : World) (hS : Sml l) (hx : Plan w w.heap.size A len l) :
    Calls Try.prog 20 #[.slice A len cap] w fun e w' => (∃ v, e = .returned (.tuple #[v, .int .i64 (checkE l)]) ∧ w'.ownsRow w.heap.size 3 1 v (chI l).length (icells (chI l))) ∧ Below w.heap.size w w' := by
  have := rChain_any A len cap l w hS hx
  rw [← iN_len (chnE l)] at this
  exact this
set_option maxRecDepth 20000 in
set_option maxHeartbeats 16000000 in
theorem chains_walk (A : Option Addr) (len cap : Nat) (xs : List TkR) (A2 : Option Addr) (len2 cap2 : Nat) (c : List Int) (w : World) (hlc : len ≤ cap ∧ cap ≤ 9223372036854775807) (hP : Rows 4 tk4 dTR w w.heap.size A len xs) (hg : ∀ x ∈ xs, gTk w x) (hlc2 : len2 ≤ cap2 ∧ cap2 ≤ 9223372036854775807) (hy : Ints w w.heap.size A2 len2 c) (hcb : ∀ x ∈ c, -9223372036854775808 ≤ x ∧ x ≤ 9223372036854775807) :
    Calls Try.prog 4 #[.slice A len cap, .slice A2 len2 cap2] w fun e w' => e = .returned (.bool true) ∧ Below w.heap.size w w' := by
  have hx := plan_in hP hg
  obtain ⟨l, hl⟩ : ∃ l, l = xs.map (·.2) := ⟨_, rfl⟩
  rw [← hl] at hx
  have hSm : l.length ≤ 1000 → (∀ i, i < l.length → (tkA l i).af.length ≤ 1000) → Sml l := fun a b => by rw [hl] at a b ⊢; exact sml_in hg a b
  clear hP hg hl
  obtain rfl : l.length = len := hx.1
  have c0 := fun W => awake9_any W
  have cm := fun W (h : Below w.heap.size w W) => many_any A l.length cap l W (by omega) (hx.go h)
  have C0 := Lib.hid c0
  have CM := Lib.hid cm
  have HB0 := Lib.hid (Below.refl w.heap.size w)
  have HX := Lib.hid hx
  have HSM := Lib.hid hSm
  clear c0 cm hx hSm
  have HIC := Lib.hid hy
  clear hy hcb
  go_enter Try.func4, Try.ntmps4
  go_wp2_with fail
  refine (C0.out _).mono ?_
  rintro e w1 ⟨rfl, hb1⟩
  have HB1 := Lib.hid (HB0.out.trans (hb1.mono HB0.out.size))
  clear hb1
  go_wp2_with fail
  refine (CM.out _ HB1.out).mono ?_
  rintro e w1001 ⟨⟨b, rfl, hmb⟩, rfl⟩
  cases b
  case true =>
    clear hmb
    go_wp2
    go_ret
    exact ⟨rfl, HB1.out⟩
  by_cases h30 : 30 < len2
  · have h31 : (30 : Int) < len2 := by omega
    clear hmb
    go_wp2
    go_ret
    exact ⟨rfl, HB1.out⟩
  have h31 : ¬ (30 : Int) < len2 := by omega
  obtain ⟨m1, m2, m3⟩ := hmb rfl
  have hS := HSM.out (by omega) (fun i hi => by have := m1 i hi; omega)
  have hIc := HIC.out.go HB1.out
  have c1 := fun W (h : Below w.heap.size w W) => chI_any A l.length cap l W hS (HX.out.go h)
  have c2 := fun W (h : Below w.heap.size w W) => rchI_any A l.length cap l W hS (HX.out.go h)
  have c3 := fun W (h : Below w.heap.size w W) (hy : Ints W W.heap.size A2 len2 c) => IsChain_any A l.length cap l A2 len2 cap2 c W hS (by omega) (HX.out.go h) hy
  have c4 := fun W (h : Below w.heap.size w W) (hy : Ints W W.heap.size A2 len2 c) => rIsChain_any A l.length cap l A2 len2 cap2 c W hS (by omega) (HX.out.go h) hy
  have c5 := fun W (h : Below w.heap.size w W) => Length_any A l.length cap l W hS (HX.out.go h)
  by_cases h0 : checkE l = 0
  case neg =>
    have hK : isChB l c = false := isChB_err h0
    have hne : (checkE l == 0) = false := by simpa using h0
    generalize checkE l = E at *
    generalize chI l = X at *
    simp only [hK] at c3 c4
    have C1 := Lib.hid c1
    have C2 := Lib.hid c2
    have C3 := Lib.hid c3
    have C4 := Lib.hid c4
    clear c1 c2 c3 c4 c5 m1 m2 m3 hS h0 hK
    go_wp2_with fail
    refine (C1.out _ HB1.out).mono ?_
    rintro e w2 ⟨⟨va, rfl, hoa⟩, hb2⟩
    have HB2 := Lib.hid (HB1.out.trans (hb2.mono HB1.out.size))
    replace hIc := hIc.go hb2
    obtain ⟨Aa, ka, rfl, qa1, qa2, hIa, -⟩ := own_ints hoa
    clear hoa
    clear hb2
    go_wp2_with fail
    refine (C2.out _ HB2.out).mono ?_
    rintro e w3 ⟨⟨vb, rfl, hob⟩, hb3⟩
    have HB3 := Lib.hid (HB2.out.trans (hb3.mono HB2.out.size))
    replace hIc := hIc.go hb3
    replace hIa := hIa.go hb3
    obtain ⟨Ab, kb, rfl, qb1, qb2, hIb, -⟩ := own_ints hob
    clear hob
    clear hb3
    go_wp2_with fail
    refine (C3.out _ HB3.out hIc).mono ?_
    rintro e w4 ⟨rfl, hb4⟩
    have HB4 := Lib.hid (HB3.out.trans (hb4.mono HB3.out.size))
    replace hIc := hIc.go hb4
    replace hIa := hIa.go hb4
    replace hIb := hIb.go hb4
    clear hb4
    go_wp2_with fail
    have hq := SameInts6_any Aa (X).length ka (X) Ab (X).length kb (X) _ (by unfold maxLen at qa2; omega) (by unfold maxLen at qb2; omega) hIa hIb
    rw [decide_eq_true (rfl : (X) = X)] at hq
    refine (hq).mono ?_
    rintro e w5 ⟨rfl, hb5⟩
    have HB5 := Lib.hid (HB4.out.trans (hb5.mono HB4.out.size))
    replace hIc := hIc.go hb5
    replace hIa := hIa.go hb5
    replace hIb := hIb.go hb5
    clear hq
    clear hb5
    go_wp2_with fail
    refine (C4.out _ HB5.out hIc).mono ?_
    rintro e w6 ⟨rfl, hb6⟩
    have HB6 := Lib.hid (HB5.out.trans (hb6.mono HB5.out.size))
    replace hIc := hIc.go hb6
    replace hIa := hIa.go hb6
    replace hIb := hIb.go hb6
    clear hb6
    go_wp2
    go_ret
    exact ⟨rfl, HB6.out⟩
  · have hP := check_spec h0
    obtain ⟨v1, v2, v3⟩ := chV_spec hP
    have hXe : chnE l = chnV l := if_pos h0
    have hLe : lenE l = lenV l := if_pos h0
    have hlt := lnk_lt v1
    have hll := lnk_len hP v1
    have hl20 := hP.len
    have c6 := fun W (k : Option Addr × Nat) (h : Below w.heap.size w W) (hy : Ints W W.heap.size k.1 (chI l).length (chI l)) => IsChain_any A l.length cap l k.1 (chI l).length k.2 (chI l) W hS (by unfold chI; rw [iN_len, hXe]; omega) (HX.out.go h) hy
    have c7 := fun W (k : Option Addr × Nat) (h : Below w.heap.size w W) (hy : Ints W W.heap.size k.1 (chI l).length (chI l)) => days_any A l.length cap l k.1 (chI l).length k.2 (chnV l) W hP (by unfold chI; rw [iN_len, hXe]; omega) (HX.out.go h) (by have := hy; unfold chI at this ⊢; rw [hXe] at this ⊢; exact this) hlt
    have hK6 : isChB l (chI l) = true := by unfold chI; rw [hXe]; exact lnk_isChB h0 v3 v1
    simp only [hK6] at c6
    simp only [v2] at c7
    simp only [hLe] at c5
    simp only [h0] at c1 c2 c5
    have C1 := Lib.hid c1
    have C2 := Lib.hid c2
    have C5 := Lib.hid c5
    have C6 := Lib.hid c6
    have C7 := Lib.hid c7
    have HP := Lib.hid hP
    have HS := Lib.hid hS
    have H0 := Lib.hid h0
    have HLB := Lib.hid (fun cs h => lnk_le hP (c := cs) h)
    have HCR := Lib.hid (fun cs h e i hi => lnk_crit hP (c := cs) h e (i := i) hi)
    generalize chI l = X at *
    generalize lenV l = L at *
    clear c1 c2 c5 c6 c7 v1 v2 v3 hXe hLe hlt hll hK6 m1 m2 m3 hS hP h0
    cases hK : isChB l c
    · simp only [hK] at c3 c4
      have C3 := Lib.hid c3
      have C4 := Lib.hid c4
      have HKK := Lib.hid hK
      clear c3 c4 hK
      go_wp2_with fail
      refine (C1.out _ HB1.out).mono ?_
      rintro e w2 ⟨⟨va, rfl, hoa⟩, hb2⟩
      have HB2 := Lib.hid (HB1.out.trans (hb2.mono HB1.out.size))
      replace hIc := hIc.go hb2
      obtain ⟨Aa, ka, rfl, qa1, qa2, hIa, -⟩ := own_ints hoa
      clear hoa
      clear hb2
      go_wp2_with fail
      refine (C2.out _ HB2.out).mono ?_
      rintro e w3 ⟨⟨vb, rfl, hob⟩, hb3⟩
      have HB3 := Lib.hid (HB2.out.trans (hb3.mono HB2.out.size))
      replace hIc := hIc.go hb3
      replace hIa := hIa.go hb3
      obtain ⟨Ab, kb, rfl, qb1, qb2, hIb, -⟩ := own_ints hob
      clear hob
      clear hb3
      go_wp2_with fail
      refine (C3.out _ HB3.out hIc).mono ?_
      rintro e w4 ⟨rfl, hb4⟩
      have HB4 := Lib.hid (HB3.out.trans (hb4.mono HB3.out.size))
      replace hIc := hIc.go hb4
      replace hIa := hIa.go hb4
      replace hIb := hIb.go hb4
      clear hb4
      go_wp2_with fail
      have hq := SameInts6_any Aa (X).length ka (X) Ab (X).length kb (X) _ (by unfold maxLen at qa2; omega) (by unfold maxLen at qb2; omega) hIa hIb
      rw [decide_eq_true (rfl : (X) = X)] at hq
      refine (hq).mono ?_
      rintro e w5 ⟨rfl, hb5⟩
      have HB5 := Lib.hid (HB4.out.trans (hb5.mono HB4.out.size))
      replace hIc := hIc.go hb5
      replace hIa := hIa.go hb5
      replace hIb := hIb.go hb5
      clear hq
      clear hb5
      go_wp2_with fail
      refine (C4.out _ HB5.out hIc).mono ?_
      rintro e w6 ⟨rfl, hb6⟩
      have HB6 := Lib.hid (HB5.out.trans (hb6.mono HB5.out.size))
      replace hIc := hIc.go hb6
      replace hIa := hIa.go hb6
      replace hIb := hIb.go hb6
      clear hb6
      go_wp2_with fail
      refine (C5.out _ HB6.out).mono ?_
      rintro e w7 ⟨rfl, hb7⟩
      have HB7 := Lib.hid (HB6.out.trans (hb7.mono HB6.out.size))
      replace hIc := hIc.go hb7
      replace hIa := hIa.go hb7
      replace hIb := hIb.go hb7
      clear hb7
      go_wp2_with fail
      refine (C6.out _ (Aa, ka) HB7.out hIa).mono ?_
      rintro e w8 ⟨rfl, hb8⟩
      have HB8 := Lib.hid (HB7.out.trans (hb8.mono HB7.out.size))
      replace hIc := hIc.go hb8
      replace hIa := hIa.go hb8
      replace hIb := hIb.go hb8
      clear hb8
      go_wp2_with fail
      refine (C7.out _ (Aa, ka) HB8.out hIa).mono ?_
      rintro e w1008 ⟨rfl, rfl⟩
      clear hIa hIb hIc
      go_wp2_with fail
      go_ret
      exact ⟨rfl, HB8.out⟩
    · simp only [hK] at c3 c4
      have C3 := Lib.hid c3
      have C4 := Lib.hid c4
      have HKK := Lib.hid hK
      clear c3 c4 hK
      go_wp2_with fail
      refine (C1.out _ HB1.out).mono ?_
      rintro e w2 ⟨⟨va, rfl, hoa⟩, hb2⟩
      have HB2 := Lib.hid (HB1.out.trans (hb2.mono HB1.out.size))
      replace hIc := hIc.go hb2
      obtain ⟨Aa, ka, rfl, qa1, qa2, hIa, -⟩ := own_ints hoa
      clear hoa
      clear hb2
      go_wp2_with fail
      refine (C2.out _ HB2.out).mono ?_
      rintro e w3 ⟨⟨vb, rfl, hob⟩, hb3⟩
      have HB3 := Lib.hid (HB2.out.trans (hb3.mono HB2.out.size))
      replace hIc := hIc.go hb3
      replace hIa := hIa.go hb3
      obtain ⟨Ab, kb, rfl, qb1, qb2, hIb, -⟩ := own_ints hob
      clear hob
      clear hb3
      go_wp2_with fail
      refine (C3.out _ HB3.out hIc).mono ?_
      rintro e w4 ⟨rfl, hb4⟩
      have HB4 := Lib.hid (HB3.out.trans (hb4.mono HB3.out.size))
      replace hIc := hIc.go hb4
      replace hIa := hIa.go hb4
      replace hIb := hIb.go hb4
      clear hb4
      go_wp2_with fail
      have hq := SameInts6_any Aa (X).length ka (X) Ab (X).length kb (X) _ (by unfold maxLen at qa2; omega) (by unfold maxLen at qb2; omega) hIa hIb
      rw [decide_eq_true (rfl : (X) = X)] at hq
      refine (hq).mono ?_
      rintro e w5 ⟨rfl, hb5⟩
      have HB5 := Lib.hid (HB4.out.trans (hb5.mono HB4.out.size))
      replace hIc := hIc.go hb5
      replace hIa := hIa.go hb5
      replace hIb := hIb.go hb5
      clear hq
      clear hb5
      go_wp2_with fail
      refine (C4.out _ HB5.out hIc).mono ?_
      rintro e w6 ⟨rfl, hb6⟩
      have HB6 := Lib.hid (HB5.out.trans (hb6.mono HB5.out.size))
      replace hIc := hIc.go hb6
      replace hIa := hIa.go hb6
      replace hIb := hIb.go hb6
      clear hb6
      go_wp2_with fail
      refine (C5.out _ HB6.out).mono ?_
      rintro e w7 ⟨rfl, hb7⟩
      have HB7 := Lib.hid (HB6.out.trans (hb7.mono HB6.out.size))
      replace hIc := hIc.go hb7
      replace hIa := hIa.go hb7
      replace hIb := hIb.go hb7
      clear hb7
      go_wp2_with fail
      refine (C6.out _ (Aa, ka) HB7.out hIa).mono ?_
      rintro e w8 ⟨rfl, hb8⟩
      have HB8 := Lib.hid (HB7.out.trans (hb8.mono HB7.out.size))
      replace hIc := hIc.go hb8
      replace hIa := hIa.go hb8
      replace hIb := hIb.go hb8
      clear hb8
      go_wp2_with fail
      refine (C7.out _ (Aa, ka) HB8.out hIa).mono ?_
      rintro e w1008 ⟨rfl, rfl⟩
      obtain ⟨cs, hcs, -, hlk⟩ := isChB_lnk HKK.out
      have hcl : cs.length = len2 := by have := HIC.out.1; rw [hcs, iN_len] at this; exact this
      subst hcs
      have hlt := lnk_lt hlk
      have c8 := fun W (h : Below w.heap.size w W) => days_any A l.length cap l A2 len2 cap2 cs W HP.out (by omega) (HX.out.go h) (HIC.out.go h) hlt
      have hle := HLB.out cs hlk
      have hcr := HCR.out cs hlk
      have c9 := fun s hs W (h : Below w.heap.size w W) => Slack_any A l.length cap l s W HS.out hs (HX.out.go h)
      generalize sumD l cs = S at *
      have C8 := Lib.hid c8
      have C9 := Lib.hid c9
      have HLE := Lib.hid hle
      have HCS := Lib.hid hcr
      have HLT := Lib.hid hlt
      clear c8 c9 hle hcr hlt hlk HLB HCR hIa hIb hIc
      go_wp2_with fail
      go_loopw [12] (fun i W => ∃ k : Nat, k ≤ len2 ∧ i = .int .i64 (k : Int) ∧ Below w.heap.size w W) (fun i _ => len2 - (intOf i).toNat)
      case atStart => exact ⟨0, Nat.zero_le _, rfl, HB8.out⟩
      case round =>
        obtain ⟨k, hk, rfl, hB⟩ := hrel
        have hbs := hB.size
        by_cases hlt : k < len2
        · have hk1 : (k : Int) < len2 := by omega
          have hk2 : ¬ len2 ≤ k := by omega
          by_cases hSL : S = L
          · have hSb : (S == L) = true := by simpa using hSL
            have hkc : k < cs.length := by omega
            have hil := HLT.out cs[k] (List.getElem_mem hkc)
            have hcr := HCS.out hSL cs[k] (List.getElem_mem hkc)
            obtain ⟨b, off, rfl, hb0, hc1⟩ := (HIC.out.go hB).at_ k hlt
            change wr.cell? _ = some (.int .i64 (gI (iN cs) k)) at hc1
            rw [iN_at hkc] at hc1
            obtain ⟨b2, off2, rfl, hb2, hcn, -, -, -⟩ := (HX.out.go hB).at_ cs[k] hil
            change wr.cell? _ = some (.string (tkA l cs[k]).nm) at hcn
            have hap := HP.out.apart cs[k] hil
            have hnz := HS.out.nm cs[k] hil
            have hi1 : ((cs[k] : Nat) : Int) < l.length := by omega
            generalize cs[k] = i at *
            have hne : nmE l (tkA l i).nm = 0 := by unfold nmE; rw [if_pos H0.out, hap, if_pos hil]
            have hsv : slkV l (tkA l i).nm = 0 := by unfold slkV; rw [if_pos hne, hap]; unfold slk; omega
            have c9 := C9.out (tkA l i).nm hnz
            rw [hne, hsv] at c9
            have C10 := Lib.hid c9
            generalize (tkA l i).nm = N at *
            have HB := Lib.hid hB
            subst hSL
            clear c9 hne hsv hap hnz hcr
            go_wp2_with fail
            refine (C8.out _ HB.out).mono ?_
            rintro e w2 ⟨rfl, rfl⟩
            go_wp2_with fail
            refine (C10.out _ HB.out).mono ?_
            rintro e w2 ⟨rfl, hb⟩
            have hB2 := HB.out.trans (hb.mono hbs)
            clear hb
            go_wp2
            go_roundw
            case rel => exact ⟨k + 1, by omega, by go_num, hB2⟩
            case measure => simp [intOf]; omega
          · have hSb : (S == L) = false := by simpa using hSL
            have hle := HLE.out
            have HB := Lib.hid hB
            clear hB
            go_wp2_with fail
            refine (C8.out _ HB.out).mono ?_
            rintro e w2 ⟨rfl, rfl⟩
            go_wp2_with fail
            refine (C8.out _ HB.out).mono ?_
            rintro e w2 ⟨rfl, rfl⟩
            go_wp2_with fail
            go_ret
            exact ⟨rfl, HB.out⟩
        · have hkl : k = len2 := by omega
          have hle := HLE.out
          have HB := Lib.hid hB
          have hk1 : ¬ (k : Int) < len2 := by omega
          clear hB
          go_wp2_with fail
          refine (C8.out _ HB.out).mono ?_
          rintro e w2 ⟨rfl, rfl⟩
          go_wp2_with fail
          go_ret
          exact ⟨rfl, HB.out⟩
end Go.Proofs.Ytgijekhlbkfanaa
