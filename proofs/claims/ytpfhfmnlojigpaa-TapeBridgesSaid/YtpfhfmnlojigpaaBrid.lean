/- Tapes: Bridges of the program. -/
import Derived.Test.YtpfhfmnlojigpaaRefC
import Derived.Test.YtpfhfmnlojigpaaBrM
import Derived.Test.YtpfhfmnlojigpaaTape9
import Derived.Deep.DeepCutAuto
set_option linter.unusedSimpArgs false
set_option linter.unusedVariables false
namespace Go.Proofs.Ytpfhfmnlojigpaa
open Go.RowKit
attribute [local go_sem] Later.cell Same.cell

def isPb (v : Value) (zb : Nat) : Prop := v = .pointer (some ⟨zb, 0, none⟩)
/-- Six labels that lie in a block made later than the world w. -/
def RJ (w : World) (R : List Int) (rb : Nat) (W : World) : Prop := Below w.heap.size w W ∧ w.heap.size ≤ rb ∧ Arr W rb R
theorem RJ.store {w W : World} {R : List Int} {rb : Nat} {t : TypeId} (hR : R.length = 6) (hB : Below w.heap.size w W) (h0 : w.heap.size ≤ rb) (hu : Bk W rb #[.int .i64 0, .int .i64 0, .int .i64 0, .int .i64 0, .int .i64 0, .int .i64 0] t) :
    RJ w R rb ((((((W.setCell ⟨rb, 0, none⟩ (.int .i64 (num R 0))).setCell ⟨rb, 1, none⟩ (.int .i64 (num R 1))).setCell ⟨rb, 2, none⟩ (.int .i64 (num R 2))).setCell ⟨rb, 3, none⟩ (.int .i64 (num R 3))).setCell ⟨rb, 4, none⟩ (.int .i64 (num R 4))).setCell ⟨rb, 5, none⟩ (.int .i64 (num R 5))) := by
  have hlt := hu.lt
  have c0 := hu.cell 0
  have c1 := hu.cell 1
  have c2 := hu.cell 2
  have c3 := hu.cell 3
  have c4 := hu.cell 4
  have c5 := hu.cell 5
  simp at c0 c1 c2 c3 c4 c5
  refine ⟨((((((hB.setCell h0 _).setCell h0 _).setCell h0 _).setCell h0 _).setCell h0 _).setCell h0 _), h0, by simpa using hlt, hR, fun x hx => ?_⟩
  have : x = 0 ∨ x = 1 ∨ x = 2 ∨ x = 3 ∨ x = 4 ∨ x = 5 := by omega
  rcases this with rfl | rfl | rfl | rfl | rfl | rfl <;> (constructor <;> go_simp)
def brE (n : Int) (l : List Tp) : Int := if vNet n l then 0 else 1
def brL (n : Int) (l : List Tp) : List Int := if vNet n l then brK l l.length else []
def BrR (w1 : World) (base : Nat) (l : List Tp) (n : Nat) (i v : Value) (W : World) : Prop := ∃ k : Nat, k ≤ n ∧ i = .int .i64 k ∧ W.ownsRow base 3 1 v (brK l k).length (icells (brK l k)) ∧ Below base w1 W
theorem BrR.mk {w1 : World} {base : Nat} {l : List Tp} {n : Nat} {i v : Value} {W : World} (k : Nat) (h1 : k ≤ n) (h2 : i = .int .i64 k) (h3 : W.ownsRow base 3 1 v (brK l k).length (icells (brK l k))) (h4 : Below base w1 W) : BrR w1 base l n i v W := ⟨k, h1, h2, h3, h4⟩
set_option maxRecDepth 20000 in
set_option maxHeartbeats 4000000 in
theorem Bridges_any (n : Int) (A : Option Addr) (len cap : Nat) (l : List Tp) (w : World) (hm : len ≤ 9223372036854775807) (hx : Rows 3 int3 (0,0,0) w w.heap.size A len l) :
    Calls Try.prog 17 #[.int .i64 n, .slice A len cap] w fun e w' => (∃ v, e = .returned (.tuple #[v, .int .i64 (brE n l)]) ∧ w'.ownsRow w.heap.size 3 1 v (brL n l).length (icells (brL n l))) ∧ Below w.heap.size w w' := by
  have c1 := fun W (h : Below w.heap.size w W) => asked_any n A len cap l none 0 0 [] W hm (by omega) ((hx.below h).more h.size) (ints0 _ _)
  have hA : askE n l [] = if vNet n l then 0 else 1 := by unfold askE; cases vNet n l <;> rfl
  have hE : brE n l = if vNet n l then 0 else 1 := rfl
  have hL : brL n l = if vNet n l then brK l l.length else [] := rfl
  cases hv : vNet n l
  · rw [hv, if_neg (by decide)] at hE hL
    rw [hA, hv] at c1
    rw [hE, hL]
    have C1 := Lib.hid c1
    clear c1 hx hA hv hE hL
    go_enter Try.func17, Try.ntmps17
    go_wp2_with fail
    refine (C1.out _ (by repeat (first | exact Below.refl _ _ | assumption | refine Below.setCell ?_ (by first | (simp; done) | (simp; omega) | omega) _ | refine Below.drew ?_ | refine below_drewN ?_ _ | refine Below.alloc ?_ (by first | (simp; done) | (simp; omega) | omega) _ | refine below_alloc ?_ _ | refine below_step ?_ (by assumption)))).mono ?_
    rintro e w1 ⟨rfl, hb⟩
    have hB_w1 : Below w.heap.size w w1 := (by repeat (first | exact Below.refl _ _ | assumption | refine Below.setCell ?_ (by first | (simp; done) | (simp; omega) | omega) _ | refine Below.drew ?_ | refine below_drewN ?_ _ | refine Below.alloc ?_ (by first | (simp; done) | (simp; omega) | omega) _ | refine below_alloc ?_ _ | refine below_step ?_ (by assumption))); have hz_w1 := hB_w1.size; clear hb
    go_wp2
    go_ret2
    exact ⟨⟨_, rfl, World.ownsRow_nil _ _ _ _⟩, (by repeat (first | exact Below.refl _ _ | assumption | refine Below.setCell ?_ (by first | (simp; done) | (simp; omega) | omega) _ | refine Below.drew ?_ | refine below_drewN ?_ _ | refine Below.alloc ?_ (by first | (simp; done) | (simp; omega) | omega) _ | refine below_alloc ?_ _ | refine below_step ?_ (by assumption)))⟩
  · obtain ⟨hn, hlen, hl⟩ := vNet_spec hv
    rw [hv, if_pos rfl] at hE hL
    rw [hA, hv] at c1
    rw [hE, hL]
    have hll := hx.1
    rw [hll] at hlen ⊢
    have cw := fun W => whole_any A len cap W hlen
    have cj := fun s W (hs : s < 1024) (h : Below w.heap.size w W) => joined_any A len cap l s W hlen hs ((hx.below h).more h.size) hl
    obtain ⟨i0, hi, hi0, hi1, hi2⟩ := info_parts tinfo_int
    have hI0 := Lib.hid hi
    have hI1 := Lib.hid hi0
    have hI2 := Lib.hid hi1
    have hI3 := Lib.hid hi2
    have HX := Lib.hid hx
    have HLL := Lib.hid hll
    have CW := Lib.hid cw
    have CJ := Lib.hid cj
    have C1 := Lib.hid c1
    have hpw : 1 ≤ 2 ^ len ∧ 2 ^ len ≤ 1024 := ⟨Nat.pow_pos (by decide), Nat.pow_le_pow_right (by decide) hlen⟩
    clear c1 cw cj hx hA hv hE hL hll hi hi0 hi1 hi2
    go_enter Try.func17, Try.ntmps17
    go_wp2_with fail
    refine (C1.out _ (by repeat (first | exact Below.refl _ _ | assumption | refine Below.setCell ?_ (by first | (simp; done) | (simp; omega) | omega) _ | refine Below.drew ?_ | refine below_drewN ?_ _ | refine Below.alloc ?_ (by first | (simp; done) | (simp; omega) | omega) _ | refine below_alloc ?_ _ | refine below_step ?_ (by assumption)))).mono ?_
    rintro e w1 ⟨rfl, hb⟩
    have hB_w1 : Below w.heap.size w w1 := (by repeat (first | exact Below.refl _ _ | assumption | refine Below.setCell ?_ (by first | (simp; done) | (simp; omega) | omega) _ | refine Below.drew ?_ | refine below_drewN ?_ _ | refine Below.alloc ?_ (by first | (simp; done) | (simp; omega) | omega) _ | refine below_alloc ?_ _ | refine below_step ?_ (by assumption))); have hz_w1 := hB_w1.size; clear hb
    have HB1 := Lib.hid hB_w1
    go_wp2
    go_loopw [20, 7] (fun i v W => BrR w1 w1.heap.size l len i v W) (fun i _ _ => len - (intOf i).toNat)
    case atStart => exact BrR.mk 0 (Nat.zero_le _) rfl (World.ownsRow_nil _ _ _ _) (Below.refl _ _)
    case round =>
      obtain ⟨k, hk, rfl, ho, hb⟩ := hrel
      have hBw : Below w.heap.size w wr := HB1.out.trans (hb.mono hz_w1)
      have hsb := hb.size
      obtain ⟨A1, cap1, rfl, hn1, hn2, -, -⟩ := own_ints ho
      have HO := Lib.hid ho
      clear ho
      by_cases hlt : k < len
      · obtain ⟨b0, off, rfl, hb0, hc1, hc2, hc3⟩ := rows_tp (HX.out.below hBw) k hlt
        have hkl : k < l.length := by rw [HLL.out]; exact hlt
        have hT := hl (tpA l k) (by unfold tpA; rw [List.getElem?_eq_getElem hkl]; exact List.getElem_mem hkl)
        have hyes := brK_yes (l := l) (k := k)
        have hno := brK_no (l := l) (k := k)
        have hbr : isBr l k = !(at6 (full (l.eraseIdx k) R0) (tpA l k).1 == at6 (full (l.eraseIdx k) R0) (tpA l k).2.1) := rfl
        have hL1 := brK_len l k
        have hjk := jk_without hkl
        rw [HLL.out] at hjk
        have hpk : 2 ^ k ≤ 1024 := Nat.le_trans (Nat.pow_le_pow_right (by decide) hk) hpw.2
        have hpl1 : 2 ^ len - 1 < 1024 := by omega
        have hpk0 : (0 : Int) ≤ ((2 ^ k : Nat) : Int) := Int.natCast_nonneg _
        have hpk1 : ((2 ^ k : Nat) : Int) ≤ 1024 := Int.ofNat_le.2 hpk
        have cj2 := fun W (h : Below w.heap.size w W) => CJ.out (2 ^ len - 1 - 2 ^ k) W (Nat.lt_of_le_of_lt (Nat.sub_le _ _) hpl1) h
        rw [hjk] at cj2
        have hR : (full (l.eraseIdx k) R0).length = 6 := full_len _ _
        have hand := pow_andNot hlen hlt
        have hpc : (2 : Int) ^ k = ((2 ^ k : Nat) : Int) := by simp
        have hwk : IntKind.i64.wrap (2 ^ k) = ((2 ^ k : Nat) : Int) := by rw [hpc]; exact IntWalk.i64_in _ ⟨Int.le_trans (by decide) hpk0, Int.le_trans hpk1 (by decide)⟩
        generalize full (l.eraseIdx k) R0 = R at *
        generalize tpA l k = T at *
        unfold arrV at cj2
        have CJ2 := Lib.hid cj2
        have HBR := Lib.hid hbr
        have hk1 : (k : Int) < len := by omega
        have hkd : decide ((k : Int) < 0) = false := decide_eq_false (by omega)
        obtain ⟨⟨t0, t1⟩, ⟨t2, t3⟩, -⟩ := hT
        have HPC := Lib.hid hpc
        clear cj2 hjk hbr hpc hpk hpl1
        generalize (2 : Nat) ^ k = M at *
        generalize (2 : Nat) ^ len = N at *
        go_upto_region 8 with fail
        obtain ⟨W1, hW1⟩ : ∃ q, q = wr.alloc (.cells #[.int .i64 T.1, .int .i64 T.2.1, .int .i64 T.2.2] 38) := ⟨_, rfl⟩
        have hBW : Below w.heap.size w W1 := by rw [hW1]; exact hBw.alloc hBw.size _
        have hBW1 : Below wr.heap.size wr W1 := by rw [hW1]; exact (Below.refl _ _).alloc (Nat.le_refl _) _
        have htc : ∀ o, W1.cell? ⟨wr.heap.size, o, none⟩ = (#[.int .i64 T.1, .int .i64 T.2.1, .int .i64 T.2.2] : Array Value)[o]? := fun o => by rw [hW1]; exact (Bk.cell (Bk.new wr _ _) o).1
        have htl : wr.heap.size < W1.heap.size := by rw [hW1]; simp
        rw [← hW1]
        clear hW1
        go_cut [10] (fun s wc => ∃ rb, isPb s rb ∧ RJ W1 R rb wc)
        case first =>
          refine wp_region_mix (by kernel_rfl) (by kernel_rfl) ?_
          refine wpC_take (f := 9) (by kernel_rfl) (by kernel_rfl) ⟨⟨_, (Below.refl _ _).drew⟩, rfl⟩ [0, 1, 3, 4] _ _ (by kernel_rfl) ?_
          simp only [List.map_cons, List.map_nil, List.getElem?_toArray, List.getElem?_cons_succ, List.getElem?_cons_zero, Option.getD_some]
          repeat (go_big_quiet_step (fail))
          refine wpQuiet_nil ?_
          have hB : Below W1.heap.size W1 W1.drew := (Below.refl _ _).drew
          refine wpC_all (rs := [2, 10]) (by kernel_rfl) (by decide) ?_
          intro i hi
          simp only [List.mem_cons, List.not_mem_nil, or_false] at hi
          rcases hi with rfl | rfl
          · refine ⟨_, rfl, ?_⟩
            go_simp
            refine (CW.out _).mono ?_
            rintro e WW0 ⟨rfl, hw⟩
            replace hB : Below W1.heap.size W1 WW0 := by rw [← hw]; exact hB
            clear hw
            refine ⟨⟨⟨_, hB⟩, rfl⟩, ?_⟩
            go_simp
            refine wpC_take (f := 7) (by kernel_rfl) (by kernel_rfl) ⟨⟨_, hB⟩, rfl⟩ [5] _ _ (by kernel_rfl) ?_
            simp only [List.map_cons, List.map_nil, List.getElem?_toArray, List.getElem?_cons_succ, List.getElem?_cons_zero, Option.getD_some]
            repeat (go_big_quiet_step (fail))
            refine wpQuiet_nil ?_
            refine wpC_all (rs := [6, 10]) (by kernel_rfl) (by decide) ?_
            intro i hi
            simp only [List.mem_cons, List.not_mem_nil, or_false] at hi
            rcases hi with rfl | rfl
            · refine ⟨_, rfl, ?_⟩
              go_simp
              refine (CJ2.out _ (hBW.trans (hB.mono hBW.size))).mono ?_
              rintro e WW1 ⟨rfl, hb9⟩
              replace hB := below_step hB hb9
              clear hb9
              refine ⟨⟨⟨_, hB⟩, rfl⟩, ?_⟩
              go_simp
              refine wpC_take (f := 3) (by kernel_rfl) (by kernel_rfl) ⟨⟨_, hB⟩, rfl⟩ [7, 8, 9] _ _ (by kernel_rfl) ?_
              simp only [List.map_cons, List.map_nil, List.getElem?_toArray, List.getElem?_cons_succ, List.getElem?_cons_zero, Option.getD_some]
              repeat (go_big_quiet_step (fail))
              refine wpQuiet_nil ?_
              refine wpC_all (rs := [10]) (by kernel_rfl) (by decide) ?_
              intro i hi
              simp only [List.mem_cons, List.not_mem_nil, or_false] at hi
              subst hi
              refine ⟨_, rfl, ?_⟩
              go_simp
              obtain ⟨rb, hrb⟩ : ∃ q, q = WW1.heap.size := ⟨_, rfl⟩
              have h0u : W1.heap.size ≤ rb := by rw [hrb]; exact hB.size
              have hu : Bk (WW1.alloc (.cells #[.int .i64 0, .int .i64 0, .int .i64 0, .int .i64 0, .int .i64 0, .int .i64 0] 70)) rb #[.int .i64 0, .int .i64 0, .int .i64 0, .int .i64 0, .int .i64 0, .int .i64 0] 70 := by rw [hrb]; exact Bk.new WW1 #[.int .i64 0, .int .i64 0, .int .i64 0, .int .i64 0, .int .i64 0, .int .i64 0] 70
              replace hB : Below W1.heap.size W1 (WW1.alloc (.cells #[.int .i64 0, .int .i64 0, .int .i64 0, .int .i64 0, .int .i64 0, .int .i64 0] 70)) := hB.alloc hB.size _
              rw [← hrb]
              clear hrb
              generalize WW1.alloc (.cells #[.int .i64 0, .int .i64 0, .int .i64 0, .int .i64 0, .int .i64 0, .int .i64 0] 70) = WW2 at *
              refine ⟨⟨⟨_, hB⟩, rfl⟩, ?_⟩
              refine wpC_all (rs := [11]) (by kernel_rfl) (by decide) ?_
              intro i hi
              simp only [List.mem_cons, List.not_mem_nil, or_false] at hi
              subst hi
              refine ⟨_, rfl, ?_⟩
              obtain ⟨z0, f0⟩ := hu.cell 0
              obtain ⟨z1, f1⟩ := hu.cell 1
              obtain ⟨z2, f2⟩ := hu.cell 2
              obtain ⟨z3, f3⟩ := hu.cell 3
              obtain ⟨z4, f4⟩ := hu.cell 4
              obtain ⟨z5, f5⟩ := hu.cell 5
              simp at z0 z1 z2 z3 z4 z5
              have hJ := RJ.store hR hB h0u hu
              go_simp
              refine ⟨⟨⟨_, hJ.1⟩, rfl⟩, ?_⟩
              replace hB := hJ.1
              refine wpC_take (f := 0) (by kernel_rfl) (by kernel_rfl) ⟨⟨_, hB⟩, rfl⟩ [12] _ _ (by kernel_rfl) ?_
              simp only [List.map_cons, List.map_nil, List.getElem?_toArray, List.getElem?_cons_succ, List.getElem?_cons_zero, Option.getD_some]
              repeat (go_big_quiet_step (fail))
              refine wpQuiet_nil ?_
              refine wpC_done (by kernel_rfl) ?_
              go_wp2_with fail
              go_meet
              case rel => exact ⟨_, rfl, hJ⟩
            · refine ⟨_, rfl, ?_⟩
              go_simp
              obtain ⟨rb, hrb⟩ : ∃ q, q = WW0.heap.size := ⟨_, rfl⟩
              have h0u : W1.heap.size ≤ rb := by rw [hrb]; exact hB.size
              have hu : Bk (WW0.alloc (.cells #[.int .i64 0, .int .i64 0, .int .i64 0, .int .i64 0, .int .i64 0, .int .i64 0] 70)) rb #[.int .i64 0, .int .i64 0, .int .i64 0, .int .i64 0, .int .i64 0, .int .i64 0] 70 := by rw [hrb]; exact Bk.new WW0 #[.int .i64 0, .int .i64 0, .int .i64 0, .int .i64 0, .int .i64 0, .int .i64 0] 70
              replace hB : Below W1.heap.size W1 (WW0.alloc (.cells #[.int .i64 0, .int .i64 0, .int .i64 0, .int .i64 0, .int .i64 0, .int .i64 0] 70)) := hB.alloc hB.size _
              rw [← hrb]
              clear hrb
              generalize WW0.alloc (.cells #[.int .i64 0, .int .i64 0, .int .i64 0, .int .i64 0, .int .i64 0, .int .i64 0] 70) = WW1 at *
              refine ⟨⟨⟨_, hB⟩, rfl⟩, ?_⟩
              refine wpC_all (rs := [6]) (by kernel_rfl) (by decide) ?_
              intro i hi
              simp only [List.mem_cons, List.not_mem_nil, or_false] at hi
              subst hi
              refine ⟨_, rfl, ?_⟩
              go_simp
              refine (CJ2.out _ (hBW.trans (hB.mono hBW.size))).mono ?_
              rintro e WW2 ⟨rfl, hb9⟩
              replace hB := below_step hB hb9
              replace hu := hu.later hb9
              clear hb9
              refine ⟨⟨⟨_, hB⟩, rfl⟩, ?_⟩
              go_simp
              refine wpC_take (f := 2) (by kernel_rfl) (by kernel_rfl) ⟨⟨_, hB⟩, rfl⟩ [7, 8, 9] _ _ (by kernel_rfl) ?_
              simp only [List.map_cons, List.map_nil, List.getElem?_toArray, List.getElem?_cons_succ, List.getElem?_cons_zero, Option.getD_some]
              repeat (go_big_quiet_step (fail))
              refine wpQuiet_nil ?_
              refine wpC_all (rs := [11]) (by kernel_rfl) (by decide) ?_
              intro i hi
              simp only [List.mem_cons, List.not_mem_nil, or_false] at hi
              subst hi
              refine ⟨_, rfl, ?_⟩
              obtain ⟨z0, f0⟩ := hu.cell 0
              obtain ⟨z1, f1⟩ := hu.cell 1
              obtain ⟨z2, f2⟩ := hu.cell 2
              obtain ⟨z3, f3⟩ := hu.cell 3
              obtain ⟨z4, f4⟩ := hu.cell 4
              obtain ⟨z5, f5⟩ := hu.cell 5
              simp at z0 z1 z2 z3 z4 z5
              have hJ := RJ.store hR hB h0u hu
              go_simp
              refine ⟨⟨⟨_, hJ.1⟩, rfl⟩, ?_⟩
              replace hB := hJ.1
              refine wpC_take (f := 0) (by kernel_rfl) (by kernel_rfl) ⟨⟨_, hB⟩, rfl⟩ [12] _ _ (by kernel_rfl) ?_
              simp only [List.map_cons, List.map_nil, List.getElem?_toArray, List.getElem?_cons_succ, List.getElem?_cons_zero, Option.getD_some]
              repeat (go_big_quiet_step (fail))
              refine wpQuiet_nil ?_
              refine wpC_done (by kernel_rfl) ?_
              go_wp2_with fail
              go_meet
              case rel => exact ⟨_, rfl, hJ⟩
          · refine ⟨_, rfl, ?_⟩
            go_simp
            obtain ⟨rb, hrb⟩ : ∃ q, q = W1.heap.size := ⟨_, rfl⟩
            have h0u : W1.heap.size ≤ rb := by omega
            have hu : Bk (W1.alloc (.cells #[.int .i64 0, .int .i64 0, .int .i64 0, .int .i64 0, .int .i64 0, .int .i64 0] 70)).drew rb #[.int .i64 0, .int .i64 0, .int .i64 0, .int .i64 0, .int .i64 0, .int .i64 0] 70 := by rw [hrb]; exact (Bk.new W1 #[.int .i64 0, .int .i64 0, .int .i64 0, .int .i64 0, .int .i64 0, .int .i64 0] 70).later (Below.refl _ _).drew
            have hB : Below W1.heap.size W1 (W1.alloc (.cells #[.int .i64 0, .int .i64 0, .int .i64 0, .int .i64 0, .int .i64 0, .int .i64 0] 70)).drew := ((Below.refl _ W1).alloc (Nat.le_refl _) _).drew
            rw [← hrb]
            clear hrb
            generalize (W1.alloc (.cells #[.int .i64 0, .int .i64 0, .int .i64 0, .int .i64 0, .int .i64 0, .int .i64 0] 70)).drew = WW0 at *
            refine ⟨⟨⟨_, hB⟩, rfl⟩, ?_⟩
            refine wpC_all (rs := [2]) (by kernel_rfl) (by decide) ?_
            intro i hi
            simp only [List.mem_cons, List.not_mem_nil, or_false] at hi
            subst hi
            refine ⟨_, rfl, ?_⟩
            go_simp
            refine (CW.out _).mono ?_
            rintro e WW1 ⟨rfl, hw⟩
            replace hB : Below W1.heap.size W1 WW1 := by rw [← hw]; exact hB
            replace hu : Bk WW1 rb #[.int .i64 0, .int .i64 0, .int .i64 0, .int .i64 0, .int .i64 0, .int .i64 0] 70 := by rw [← hw]; exact hu
            clear hw
            refine ⟨⟨⟨_, hB⟩, rfl⟩, ?_⟩
            go_simp
            refine wpC_take (f := 6) (by kernel_rfl) (by kernel_rfl) ⟨⟨_, hB⟩, rfl⟩ [5] _ _ (by kernel_rfl) ?_
            simp only [List.map_cons, List.map_nil, List.getElem?_toArray, List.getElem?_cons_succ, List.getElem?_cons_zero, Option.getD_some]
            repeat (go_big_quiet_step (fail))
            refine wpQuiet_nil ?_
            refine wpC_all (rs := [6]) (by kernel_rfl) (by decide) ?_
            intro i hi
            simp only [List.mem_cons, List.not_mem_nil, or_false] at hi
            subst hi
            refine ⟨_, rfl, ?_⟩
            go_simp
            refine (CJ2.out _ (hBW.trans (hB.mono hBW.size))).mono ?_
            rintro e WW2 ⟨rfl, hb9⟩
            replace hB := below_step hB hb9
            replace hu := hu.later hb9
            clear hb9
            refine ⟨⟨⟨_, hB⟩, rfl⟩, ?_⟩
            go_simp
            refine wpC_take (f := 2) (by kernel_rfl) (by kernel_rfl) ⟨⟨_, hB⟩, rfl⟩ [7, 8, 9] _ _ (by kernel_rfl) ?_
            simp only [List.map_cons, List.map_nil, List.getElem?_toArray, List.getElem?_cons_succ, List.getElem?_cons_zero, Option.getD_some]
            repeat (go_big_quiet_step (fail))
            refine wpQuiet_nil ?_
            refine wpC_all (rs := [11]) (by kernel_rfl) (by decide) ?_
            intro i hi
            simp only [List.mem_cons, List.not_mem_nil, or_false] at hi
            subst hi
            refine ⟨_, rfl, ?_⟩
            obtain ⟨z0, f0⟩ := hu.cell 0
            obtain ⟨z1, f1⟩ := hu.cell 1
            obtain ⟨z2, f2⟩ := hu.cell 2
            obtain ⟨z3, f3⟩ := hu.cell 3
            obtain ⟨z4, f4⟩ := hu.cell 4
            obtain ⟨z5, f5⟩ := hu.cell 5
            simp at z0 z1 z2 z3 z4 z5
            have hJ := RJ.store hR hB h0u hu
            go_simp
            refine ⟨⟨⟨_, hJ.1⟩, rfl⟩, ?_⟩
            replace hB := hJ.1
            refine wpC_take (f := 0) (by kernel_rfl) (by kernel_rfl) ⟨⟨_, hB⟩, rfl⟩ [12] _ _ (by kernel_rfl) ?_
            simp only [List.map_cons, List.map_nil, List.getElem?_toArray, List.getElem?_cons_succ, List.getElem?_cons_zero, Option.getD_some]
            repeat (go_big_quiet_step (fail))
            refine wpQuiet_nil ?_
            refine wpC_done (by kernel_rfl) ?_
            go_wp2_with fail
            go_meet
            case rel => exact ⟨_, rfl, hJ⟩
        case rest =>
          obtain ⟨rb, hp, hbu, hrb0, hArr⟩ := hcut
          unfold isPb at hp
          subst hp
          have hg1 := (hArr.at_ T.1.toNat (by omega)).1
          have hg2 := (hArr.at_ T.2.1.toNat (by omega)).1
          rw [num_at6'] at hg1 hg2
          have htc0 := (hbu.cell (p := ⟨wr.heap.size, 0, none⟩) htl).trans (htc 0)
          have htc1 := (hbu.cell (p := ⟨wr.heap.size, 1, none⟩) htl).trans (htc 1)
          simp at htc0 htc1
          have hrbl := hArr.1
          have htl2 : wr.heap.size < wc.heap.size := Nat.lt_of_lt_of_le htl hbu.size
          have hBr : Below wr.heap.size wr wc := hBW1.trans (hbu.mono hBW1.size)
          have hbc : Below w1.heap.size w1 wc := hb.trans (hBr.mono hsb)
          have hbr := HBR.out
          generalize at6 R T.1 = x at *
          generalize at6 R T.2.1 = y at *
          clear hArr htc hbu hBW hBW1 htl CJ2 HBR HPC hand
          have HOc := Lib.hid (town_later HO.out hBr)
          by_cases hxy : x = y
          · have hb0' : isBr l k = false := by rw [hbr, hxy]; simp
            have HN := Lib.hid (hno hb0')
            have hxy' : (x != y) = false := by simpa using hxy
            clear hyes hno hbr hb0' hxy HO
            go_wp2
            (refine wp_region_later (by kernel_rfl) (by kernel_rfl) ?_; (repeat (go_big_quiet_step ((fail)))); refine wpQuiet_nil ?_)
            intro w4 hb4
            have HP1 := Lib.hid (town_later HOc.out hb4)
            have hb6 := hbc.trans (hb4.mono hbc.size)
            clear hb4 HOc
            go_wp2
            go_roundw
            case rel => exact BrR.mk (k + 1) (by omega) (by go_num) (by rw [HN.out]; exact HP1.out) hb6
            case measure => simp [intOf]; omega
          · have hb1' : isBr l k = true := by rw [hbr]; simpa using hxy
            have HY := Lib.hid (hyes hb1')
            have hxy' : (x != y) = true := by simpa using hxy
            clear hyes hno hbr hb1' hxy HO
            go_wp2
            (refine wp_region_later (by kernel_rfl) (by kernel_rfl) ?_; (repeat (go_big_quiet_step ((fail)))); refine wpQuiet_nil ?_)
            intro w4 hb4
            have HP1 := Lib.hid (town_later HOc.out hb4)
            have hb6 := hbc.trans (hb4.mono hbc.size)
            have hs6 := hb6.size
            clear hb4 HOc
            go_wp2_with (at_builtin; go_loud (refine wpList_append_own _ rfl (.tmp 44) (.tmp 46) 40 rfl w1.heap.size 3 i0 (.int .i64 0) 1 8 Try.underlying40 hI0.out hI1.out hI2.out hI3.out rfl (by decide) _ _ _ rfl (HP1.out.alloc _) ⟨w4.heap.size, 0, none⟩ 1 1 [.int .i64 (k : Int)] rfl rfl (tnews1 _ _ _) (tone1 _) (by unfold maxLen; omega) (by omega) (by simp; omega) ?_))
            intro v8 w8 hown8 hgrow8 _
            have hb9 : Below w1.heap.size (w4.alloc (.cells #[.int .i64 (k : Int)] 3)) w8 := grown_below hgrow8 (by simp; omega) (fun q hq => ((HP1.out.alloc (.cells #[.int .i64 (k : Int)] 3)).lt q hq).1)
            have hb10 := (hb6.alloc hs6 (.cells #[.int .i64 (k : Int)] 3)).trans hb9
            have HR2 : Hid (w8.ownsRow w1.heap.size 3 1 v8 (brK l k ++ [(k : Int)]).length (icells (brK l k ++ [(k : Int)]))) := Lib.hid (by rw [List.length_append, icells_app]; exact hown8)
            clear hown8 hgrow8 hb9 HP1 hb6
            go_wp2
            go_roundw
            case rel => exact BrR.mk (k + 1) (by omega) (by go_num) (by rw [HY.out]; exact HR2.out) hb10
            case measure => simp [intOf]; omega
      · have hkn : k = len := by omega
        subst hkn
        have HB := Lib.hid hBw
        go_wp2
        go_ret2
        exact ⟨⟨_, rfl, town_mono HO.out hz_w1⟩, HB.out⟩
end Go.Proofs.Ytpfhfmnlojigpaa
