/- Ropes: Used of the program and of the reference; Same. -/
import Derived.Test.YthninhkimhnegaaWear4
import Derived.Test.YthninhkimhnegaaAppend
import Derived.OwnWalk
set_option linter.unusedSimpArgs false
set_option linter.unusedVariables false
namespace Go.Proofs.Ythninhkimhnegaa
open Go.RowKit
attribute [local go_sem] Later.cell

theorem info_use' : (Try.prog.info? 79).map (fun i => (i.zero, i.size, i.bytes)) = some (some (.agg #[.int .i64 0, .int .i64 0]), 2, 16) := by kernel_rfl
theorem news2' (W : World) (x y : Value) (t : TypeId) : ∀ j u, ([x, y] : List Value)[j]? = some u → (W.alloc (.cells #[x, y] t)).cell? ((⟨W.heap.size, 0, none⟩ : Addr).add j) = some u := by
  intro j u hj
  match j, hj with
  | 0, hj => simp at hj; subst hj; simp [Addr.add]
  | 1, hj => simp at hj; subst hj; simp [Addr.add]
  | j + 2, hj => simp at hj
theorem one2' (m n : Int) : ∀ u ∈ ([.int .i64 m, .int .i64 n] : List Value), u.oneCell' = true := by
  intro u hu
  simp at hu
  rcases hu with rfl | rfl <;> rfl
theorem Pairs.none {w : World} {B : Nat} {A : Option Addr} {len : Nat} {xs : List (Int × Int)} (h : Pairs w B A len xs) : A = none → len = 0 := by
  intro hA
  rcases Nat.eq_zero_or_pos len with h0 | h0
  · exact h0
  · obtain ⟨b, off, hb, _⟩ := h.2 h0
    rw [hA] at hb; cases hb

def usedE (s d l : Int) (us : List (Int × Int)) (day ld : Int) : Int :=
  if errR s d l us day ld ≠ 0 then errR s d l us day ld else if 0 < us.length ∧ day < (us[us.length - 1]?.getD (0,0)).1 then 10 else if us.length = 500 then 4 else if mayR s d l us day ld = false then 8 else 0
def usedR (s d l : Int) (us : List (Int × Int)) (day ld : Int) : List (Int × Int) := if usedE s d l us day ld = 0 then us ++ [(day, ld)] else []

set_option maxRecDepth 20000 in
set_option maxHeartbeats 2000000 in
theorem Used_any (s d l : Int) (A : Option Addr) (len cap : Nat) (us : List (Int × Int)) (day ld : Int) (w : World) (hm : len ≤ cap ∧ cap ≤ 9223372036854775807) (hx : Pairs w w.heap.size A len us) :
    Calls Try.prog 58 #[.agg #[.int .i64 s, .int .i64 d, .int .i64 l], .slice A len cap, .int .i64 day, .int .i64 ld] w fun e w' => (∃ B n c, e = .returned (.tuple #[.slice B n c, .int .i64 (usedE s d l us day ld)]) ∧ (n ≤ c ∧ c ≤ 9223372036854775807) ∧ Pairs w' w'.heap.size B n (usedR s d l us day ld)) ∧ Below w.heap.size w w' := by
  have c1 := fun W (h : Below w.heap.size w W) => May_any s d l A len cap us day ld W hm ((hx.below h).more h.size)
  have hUE : usedE s d l us day ld = if errR s d l us day ld ≠ 0 then errR s d l us day ld else if 0 < us.length ∧ day < (us[us.length - 1]?.getD (0,0)).1 then 10 else if us.length = 500 then 4 else if mayR s d l us day ld = false then 8 else 0 := rfl
  have hUR : usedR s d l us day ld = if usedE s d l us day ld = 0 then us ++ [(day, ld)] else [] := rfl
  have hlen := hx.1
  by_cases k1 : errR s d l us day ld = 0
  · obtain ⟨g1, g2, ⟨g3, g4⟩, g5, g6⟩ := err_spec k1
    have hl5 := (goodU_spec g2).1
    have hmv : mayV s d l us day ld = mayR s d l us day ld := if_pos k1
    rw [hmv] at c1
    rw [if_neg (by rw [k1]; decide)] at hUE
    rw [k1] at c1
    rw [hlen] at hUE
    generalize mayR s d l us day ld = M at *
    have HX := Lib.hid hx
    have C1 := Lib.hid c1
    clear c1 g1 g2 k1 hx hmv
    by_cases h0 : len = 0
    · rw [if_neg (by omega), if_neg (by omega)] at hUE
      cases M
      · rw [if_pos rfl] at hUE
        rw [hUE] at hUR
        rw [if_neg (by decide)] at hUR
        rw [hUE, hUR]
        clear hUE hUR
        subst h0
        go_enter Try.func58, Try.ntmps58
        go_wp2_with fail
        refine (C1.out _ (by repeat (first | exact Below.refl _ _ | assumption | refine Below.setCell ?_ (by first | (simp; done) | (simp; omega) | omega) _ | refine Below.drew ?_ | refine below_drewN ?_ _ | refine Below.alloc ?_ (by first | (simp; done) | (simp; omega) | omega) _ | refine below_alloc ?_ _ | refine below_step ?_ (by assumption)))).mono ?_
        rintro e w1 ⟨rfl, hb⟩
        have hB_w1 : Below w.heap.size w w1 := (by repeat (first | exact Below.refl _ _ | assumption | refine Below.setCell ?_ (by first | (simp; done) | (simp; omega) | omega) _ | refine Below.drew ?_ | refine below_drewN ?_ _ | refine Below.alloc ?_ (by first | (simp; done) | (simp; omega) | omega) _ | refine below_alloc ?_ _ | refine below_step ?_ (by assumption))); have hz_w1 := hB_w1.size; clear hb
        go_wp2
        go_ret2
        exact ⟨⟨none, 0, 0, rfl, ⟨by omega, by omega⟩, rfl, fun h => absurd h (by omega)⟩, (by repeat (first | exact Below.refl _ _ | assumption | refine Below.setCell ?_ (by first | (simp; done) | (simp; omega) | omega) _ | refine Below.drew ?_ | refine below_drewN ?_ _ | refine Below.alloc ?_ (by first | (simp; done) | (simp; omega) | omega) _ | refine below_alloc ?_ _ | refine below_step ?_ (by assumption)))⟩
      · rw [if_neg (by decide)] at hUE
        rw [hUE] at hUR
        rw [if_pos rfl] at hUR
        rw [hUE, hUR]
        clear hUE hUR
        obtain ⟨i0, hi, hz0, hz1, hz2⟩ := info_parts info_use'
        have hI0 := Lib.hid hi
        have hI1 := Lib.hid hz0
        have hI2 := Lib.hid hz1
        have hI3 := Lib.hid hz2
        clear hi hz0 hz1 hz2
        subst h0
        go_enter Try.func58, Try.ntmps58
        go_wp2_with fail
        refine (C1.out _ (by repeat (first | exact Below.refl _ _ | assumption | refine Below.setCell ?_ (by first | (simp; done) | (simp; omega) | omega) _ | refine Below.drew ?_ | refine below_drewN ?_ _ | refine Below.alloc ?_ (by first | (simp; done) | (simp; omega) | omega) _ | refine below_alloc ?_ _ | refine below_step ?_ (by assumption)))).mono ?_
        rintro e w1 ⟨rfl, hb⟩
        have hB_w1 : Below w.heap.size w w1 := (by repeat (first | exact Below.refl _ _ | assumption | refine Below.setCell ?_ (by first | (simp; done) | (simp; omega) | omega) _ | refine Below.drew ?_ | refine below_drewN ?_ _ | refine Below.alloc ?_ (by first | (simp; done) | (simp; omega) | omega) _ | refine below_alloc ?_ _ | refine below_step ?_ (by assumption))); have hz_w1 := hB_w1.size; clear hb
        go_wp2_with (at_builtin; go_loud (refine wpList_append_src rfl (.tmp 46) (.tmp 47) 53 rfl w1.heap.size 79 i0 (.agg #[.int .i64 0, .int .i64 0]) 2 16 Try.underlying53 hI0.out hI1.out hI2.out hI3.out rfl (by decide) (.slice (some ⟨w1.heap.size, 0, none⟩) 0 0) 0 [] rfl (World.ownsRow_made w1 #[] 0 (Nat.le_refl _) (by decide) rfl) (by simp) _ (0) cap (pcells us) rfl (by rw [pcells_len, HX.out.1]) HX.out.none (HX.out.below (B := w.heap.size) (w' := w1.alloc _) (by repeat (first | exact Below.refl _ _ | assumption | refine Below.setCell ?_ (by first | (simp; done) | (simp; omega) | omega) _ | refine Below.drew ?_ | refine below_drewN ?_ _ | refine Below.alloc ?_ (by first | (simp; done) | (simp; omega) | omega) _ | refine below_alloc ?_ _ | refine below_step ?_ (by assumption)))).cells (pcells_one us) (by unfold maxLen; omega) (by omega) (by simp) ?_))
        intro v1 w4 hown1 hgr1 _
        have hb4 : Below w1.heap.size w1 w4 := ((Below.refl _ _).alloc (Nat.le_refl _) _).trans (grown_below hgr1 (by simp) (by intro k hk; simp [Value.ownBlock] at hk; omega))
        have hz4 := hb4.size
        try simp only [Nat.zero_add, List.nil_append] at hown1
        have HO1 := Lib.hid hown1
        clear hown1 hgr1
        go_wp2_with (at_builtin; go_loud (refine wpList_append_own _ rfl (.tmp 48) (.tmp 52) 53 rfl w1.heap.size 79 i0 (.agg #[.int .i64 0, .int .i64 0]) 2 16 Try.underlying53 hI0.out hI1.out hI2.out hI3.out rfl (by decide) v1 (0) (pcells us) rfl (HO1.out.alloc _) ⟨w4.heap.size, 0, none⟩ 1 1 [.int .i64 day, .int .i64 ld] rfl rfl (news2' _ _ _ _) (one2' _ _) (by unfold maxLen; omega) (by omega) (by simp; omega) ?_))
        intro v2 w5 hown2 hgr2 _
        have hb5 : Below w1.heap.size w1 w5 := hb4.trans ((Below.alloc (Below.refl _ _) hz4 _).trans (grown_below hgr2 (by simp; omega) (fun q hq => (HO1.out.lt q hq).1)))
        have hown3 : w5.ownsRow w1.heap.size 79 2 v2 (0 + 1) (pcells (us ++ [(day, ld)])) := by
          rw [pcells_app]
          simpa [pcells] using hown2
        clear hown2 hgr2
        obtain ⟨A', cap', rfl, hnc, hmx, hP', _⟩ := own_pairs hown3
        have HP := Lib.hid hP'
        clear hP' hown3
        unfold maxLen at hmx
        have hb6 := hB_w1.trans (hb5.mono hz_w1)
        go_wp2
        go_ret2
        exact ⟨⟨A', _, cap', rfl, ⟨hnc, by omega⟩, HP.out⟩, hb6⟩
    · obtain ⟨j, rfl⟩ : ∃ j, len = j + 1 := ⟨len - 1, by omega⟩
      obtain ⟨b, off, rfl, hb0, hc1, _⟩ := HX.out.at_ j (by omega)
      rw [show j + 1 - 1 = j by omega] at hUE
      generalize us[j]?.getD (0,0) = X at *
      obtain ⟨X, Y⟩ := X
      dsimp only at hc1 hUE
      have hwj : IntKind.i64.wrap (j : Int) = j := IntWalk.i64_in _ (by omega)
      have hj0 : (0 : Int) < (j : Int) + 1 := by omega
      have hj1 : (j : Int) < (j : Int) + 1 := by omega
      by_cases h1 : day < X
      · rw [if_pos ⟨by omega, h1⟩] at hUE
        rw [hUE] at hUR
        rw [if_neg (by decide)] at hUR
        rw [hUE, hUR]
        clear hUE hUR
        go_enter Try.func58, Try.ntmps58
        go_wp2_with fail
        refine (C1.out _ (by repeat (first | exact Below.refl _ _ | assumption | refine Below.setCell ?_ (by first | (simp; done) | (simp; omega) | omega) _ | refine Below.drew ?_ | refine below_drewN ?_ _ | refine Below.alloc ?_ (by first | (simp; done) | (simp; omega) | omega) _ | refine below_alloc ?_ _ | refine below_step ?_ (by assumption)))).mono ?_
        rintro e w1 ⟨rfl, hb⟩
        have hB_w1 : Below w.heap.size w w1 := (by repeat (first | exact Below.refl _ _ | assumption | refine Below.setCell ?_ (by first | (simp; done) | (simp; omega) | omega) _ | refine Below.drew ?_ | refine below_drewN ?_ _ | refine Below.alloc ?_ (by first | (simp; done) | (simp; omega) | omega) _ | refine below_alloc ?_ _ | refine below_step ?_ (by assumption))); have hz_w1 := hB_w1.size; clear hb
        have hc2 : w1.cell? ⟨b, off + j * 2, none⟩ = some (.int .i64 X) := (hB_w1.cell (p := ⟨b, _, none⟩) hb0).trans hc1
        go_wp2
        go_ret2
        exact ⟨⟨none, 0, 0, rfl, ⟨by omega, by omega⟩, rfl, fun h => absurd h (by omega)⟩, (by repeat (first | exact Below.refl _ _ | assumption | refine Below.setCell ?_ (by first | (simp; done) | (simp; omega) | omega) _ | refine Below.drew ?_ | refine below_drewN ?_ _ | refine Below.alloc ?_ (by first | (simp; done) | (simp; omega) | omega) _ | refine below_alloc ?_ _ | refine below_step ?_ (by assumption)))⟩
      · rw [if_neg (by omega)] at hUE
        by_cases h5 : j + 1 = 500
        · rw [if_pos h5] at hUE
          rw [hUE] at hUR
          rw [if_neg (by decide)] at hUR
          rw [hUE, hUR]
          clear hUE hUR
          have h5' : ((j : Int) + 1 == 500) = true := by simp; omega
          clear h5
          go_enter Try.func58, Try.ntmps58
          go_wp2_with fail
          refine (C1.out _ (by repeat (first | exact Below.refl _ _ | assumption | refine Below.setCell ?_ (by first | (simp; done) | (simp; omega) | omega) _ | refine Below.drew ?_ | refine below_drewN ?_ _ | refine Below.alloc ?_ (by first | (simp; done) | (simp; omega) | omega) _ | refine below_alloc ?_ _ | refine below_step ?_ (by assumption)))).mono ?_
          rintro e w1 ⟨rfl, hb⟩
          have hB_w1 : Below w.heap.size w w1 := (by repeat (first | exact Below.refl _ _ | assumption | refine Below.setCell ?_ (by first | (simp; done) | (simp; omega) | omega) _ | refine Below.drew ?_ | refine below_drewN ?_ _ | refine Below.alloc ?_ (by first | (simp; done) | (simp; omega) | omega) _ | refine below_alloc ?_ _ | refine below_step ?_ (by assumption))); have hz_w1 := hB_w1.size; clear hb
          have hc2 : w1.cell? ⟨b, off + j * 2, none⟩ = some (.int .i64 X) := (hB_w1.cell (p := ⟨b, _, none⟩) hb0).trans hc1
          go_wp2
          go_ret2
          exact ⟨⟨none, 0, 0, rfl, ⟨by omega, by omega⟩, rfl, fun h => absurd h (by omega)⟩, (by repeat (first | exact Below.refl _ _ | assumption | refine Below.setCell ?_ (by first | (simp; done) | (simp; omega) | omega) _ | refine Below.drew ?_ | refine below_drewN ?_ _ | refine Below.alloc ?_ (by first | (simp; done) | (simp; omega) | omega) _ | refine below_alloc ?_ _ | refine below_step ?_ (by assumption)))⟩
        · rw [if_neg h5] at hUE
          have h5' : ((j : Int) + 1 == 500) = false := by simp; omega
          have h5'' : ¬ (j : Int) + 1 = 500 := by omega
          clear h5
          cases M
          · rw [if_pos rfl] at hUE
            rw [hUE] at hUR
            rw [if_neg (by decide)] at hUR
            rw [hUE, hUR]
            clear hUE hUR
            go_enter Try.func58, Try.ntmps58
            go_wp2_with fail
            refine (C1.out _ (by repeat (first | exact Below.refl _ _ | assumption | refine Below.setCell ?_ (by first | (simp; done) | (simp; omega) | omega) _ | refine Below.drew ?_ | refine below_drewN ?_ _ | refine Below.alloc ?_ (by first | (simp; done) | (simp; omega) | omega) _ | refine below_alloc ?_ _ | refine below_step ?_ (by assumption)))).mono ?_
            rintro e w1 ⟨rfl, hb⟩
            have hB_w1 : Below w.heap.size w w1 := (by repeat (first | exact Below.refl _ _ | assumption | refine Below.setCell ?_ (by first | (simp; done) | (simp; omega) | omega) _ | refine Below.drew ?_ | refine below_drewN ?_ _ | refine Below.alloc ?_ (by first | (simp; done) | (simp; omega) | omega) _ | refine below_alloc ?_ _ | refine below_step ?_ (by assumption))); have hz_w1 := hB_w1.size; clear hb
            have hc2 : w1.cell? ⟨b, off + j * 2, none⟩ = some (.int .i64 X) := (hB_w1.cell (p := ⟨b, _, none⟩) hb0).trans hc1
            go_wp2
            go_ret2
            exact ⟨⟨none, 0, 0, rfl, ⟨by omega, by omega⟩, rfl, fun h => absurd h (by omega)⟩, (by repeat (first | exact Below.refl _ _ | assumption | refine Below.setCell ?_ (by first | (simp; done) | (simp; omega) | omega) _ | refine Below.drew ?_ | refine below_drewN ?_ _ | refine Below.alloc ?_ (by first | (simp; done) | (simp; omega) | omega) _ | refine below_alloc ?_ _ | refine below_step ?_ (by assumption)))⟩
          · rw [if_neg (by decide)] at hUE
            rw [hUE] at hUR
            rw [if_pos rfl] at hUR
            rw [hUE, hUR]
            clear hUE hUR
            obtain ⟨i0, hi, hz0, hz1, hz2⟩ := info_parts info_use'
            have hI0 := Lib.hid hi
            have hI1 := Lib.hid hz0
            have hI2 := Lib.hid hz1
            have hI3 := Lib.hid hz2
            clear hi hz0 hz1 hz2
            go_enter Try.func58, Try.ntmps58
            go_wp2_with fail
            refine (C1.out _ (by repeat (first | exact Below.refl _ _ | assumption | refine Below.setCell ?_ (by first | (simp; done) | (simp; omega) | omega) _ | refine Below.drew ?_ | refine below_drewN ?_ _ | refine Below.alloc ?_ (by first | (simp; done) | (simp; omega) | omega) _ | refine below_alloc ?_ _ | refine below_step ?_ (by assumption)))).mono ?_
            rintro e w1 ⟨rfl, hb⟩
            have hB_w1 : Below w.heap.size w w1 := (by repeat (first | exact Below.refl _ _ | assumption | refine Below.setCell ?_ (by first | (simp; done) | (simp; omega) | omega) _ | refine Below.drew ?_ | refine below_drewN ?_ _ | refine Below.alloc ?_ (by first | (simp; done) | (simp; omega) | omega) _ | refine below_alloc ?_ _ | refine below_step ?_ (by assumption))); have hz_w1 := hB_w1.size; clear hb
            have hc2 : w1.cell? ⟨b, off + j * 2, none⟩ = some (.int .i64 X) := (hB_w1.cell (p := ⟨b, _, none⟩) hb0).trans hc1
            go_wp2_with (at_builtin; go_loud (refine wpList_append_src rfl (.tmp 46) (.tmp 47) 53 rfl w1.heap.size 79 i0 (.agg #[.int .i64 0, .int .i64 0]) 2 16 Try.underlying53 hI0.out hI1.out hI2.out hI3.out rfl (by decide) (.slice (some ⟨w1.heap.size, 0, none⟩) 0 0) 0 [] rfl (World.ownsRow_made w1 #[] 0 (Nat.le_refl _) (by decide) rfl) (by simp) _ (j + 1) cap (pcells us) rfl (by rw [pcells_len, HX.out.1]) HX.out.none (HX.out.below (B := w.heap.size) (w' := w1.alloc _) (by repeat (first | exact Below.refl _ _ | assumption | refine Below.setCell ?_ (by first | (simp; done) | (simp; omega) | omega) _ | refine Below.drew ?_ | refine below_drewN ?_ _ | refine Below.alloc ?_ (by first | (simp; done) | (simp; omega) | omega) _ | refine below_alloc ?_ _ | refine below_step ?_ (by assumption)))).cells (pcells_one us) (by unfold maxLen; omega) (by omega) (by simp) ?_))
            intro v1 w4 hown1 hgr1 _
            have hb4 : Below w1.heap.size w1 w4 := ((Below.refl _ _).alloc (Nat.le_refl _) _).trans (grown_below hgr1 (by simp) (by intro k hk; simp [Value.ownBlock] at hk; omega))
            have hz4 := hb4.size
            try simp only [Nat.zero_add, List.nil_append] at hown1
            have HO1 := Lib.hid hown1
            clear hown1 hgr1
            go_wp2_with (at_builtin; go_loud (refine wpList_append_own _ rfl (.tmp 48) (.tmp 52) 53 rfl w1.heap.size 79 i0 (.agg #[.int .i64 0, .int .i64 0]) 2 16 Try.underlying53 hI0.out hI1.out hI2.out hI3.out rfl (by decide) v1 (j + 1) (pcells us) rfl (HO1.out.alloc _) ⟨w4.heap.size, 0, none⟩ 1 1 [.int .i64 day, .int .i64 ld] rfl rfl (news2' _ _ _ _) (one2' _ _) (by unfold maxLen; omega) (by omega) (by simp; omega) ?_))
            intro v2 w5 hown2 hgr2 _
            have hb5 : Below w1.heap.size w1 w5 := hb4.trans ((Below.alloc (Below.refl _ _) hz4 _).trans (grown_below hgr2 (by simp; omega) (fun q hq => (HO1.out.lt q hq).1)))
            have hown3 : w5.ownsRow w1.heap.size 79 2 v2 (j + 1 + 1) (pcells (us ++ [(day, ld)])) := by
              rw [pcells_app]
              simpa [pcells] using hown2
            clear hown2 hgr2
            obtain ⟨A', cap', rfl, hnc, hmx, hP', _⟩ := own_pairs hown3
            have HP := Lib.hid hP'
            clear hP' hown3
            unfold maxLen at hmx
            have hb6 := hB_w1.trans (hb5.mono hz_w1)
            go_wp2
            go_ret2
            exact ⟨⟨A', _, cap', rfl, ⟨hnc, by omega⟩, HP.out⟩, hb6⟩
  · rw [if_pos k1] at hUE
    rw [hUE] at hUR
    rw [if_neg k1] at hUR
    rw [hUE, hUR]
    generalize mayV s d l us day ld = MV at *
    generalize errR s d l us day ld = E at *
    have he' : (E == 0) = false := by simpa using k1
    have C1 := Lib.hid c1
    clear c1 hx hUE hUR k1
    go_enter Try.func58, Try.ntmps58
    go_wp2_with fail
    refine (C1.out _ (by repeat (first | exact Below.refl _ _ | assumption | refine Below.setCell ?_ (by first | (simp; done) | (simp; omega) | omega) _ | refine Below.drew ?_ | refine below_drewN ?_ _ | refine Below.alloc ?_ (by first | (simp; done) | (simp; omega) | omega) _ | refine below_alloc ?_ _ | refine below_step ?_ (by assumption)))).mono ?_
    rintro e w1 ⟨rfl, hb⟩
    have hB_w1 : Below w.heap.size w w1 := (by repeat (first | exact Below.refl _ _ | assumption | refine Below.setCell ?_ (by first | (simp; done) | (simp; omega) | omega) _ | refine Below.drew ?_ | refine below_drewN ?_ _ | refine Below.alloc ?_ (by first | (simp; done) | (simp; omega) | omega) _ | refine below_alloc ?_ _ | refine below_step ?_ (by assumption))); have hz_w1 := hB_w1.size; clear hb
    go_wp2
    go_ret2
    exact ⟨⟨none, 0, 0, rfl, ⟨by omega, by omega⟩, rfl, fun h => absurd h (by omega)⟩, (by repeat (first | exact Below.refl _ _ | assumption | refine Below.setCell ?_ (by first | (simp; done) | (simp; omega) | omega) _ | refine Below.drew ?_ | refine below_drewN ?_ _ | refine Below.alloc ?_ (by first | (simp; done) | (simp; omega) | omega) _ | refine below_alloc ?_ _ | refine below_step ?_ (by assumption)))⟩

set_option maxRecDepth 20000 in
set_option maxHeartbeats 2000000 in
theorem rUsed_any (s d l : Int) (A : Option Addr) (len cap : Nat) (us : List (Int × Int)) (day ld : Int) (w : World) (hm : len ≤ cap ∧ cap ≤ 9223372036854775807) (hx : Pairs w w.heap.size A len us) :
    Calls Try.prog 59 #[.agg #[.int .i64 s, .int .i64 d, .int .i64 l], .slice A len cap, .int .i64 day, .int .i64 ld] w fun e w' => (∃ B n c, e = .returned (.tuple #[.slice B n c, .int .i64 (usedE s d l us day ld)]) ∧ (n ≤ c ∧ c ≤ 9223372036854775807) ∧ Pairs w' w'.heap.size B n (usedR s d l us day ld)) ∧ Below w.heap.size w w' := by
  have c1 := fun W (h : Below w.heap.size w W) => ropeError_any s d l A len cap us day ld W hm ((hx.below h).more h.size)
  have hUE : usedE s d l us day ld = if errR s d l us day ld ≠ 0 then errR s d l us day ld else if 0 < us.length ∧ day < (us[us.length - 1]?.getD (0,0)).1 then 10 else if us.length = 500 then 4 else if mayR s d l us day ld = false then 8 else 0 := rfl
  have hUR : usedR s d l us day ld = if usedE s d l us day ld = 0 then us ++ [(day, ld)] else [] := rfl
  have hlen := hx.1
  by_cases k1 : errR s d l us day ld = 0
  · obtain ⟨g1, g2, ⟨g3, g4⟩, g5, g6⟩ := err_spec k1
    have hl5 := (goodU_spec g2).1
    have c2 := fun W (h : Below w.heap.size w W) => rmay_any s d l A len cap us day ld W hm ((hx.below h).more h.size) g1 g2 g3 g4 g5 g6
    rw [if_neg (by rw [k1]; decide)] at hUE
    rw [k1] at c1
    rw [hlen] at hUE
    generalize mayR s d l us day ld = M at *
    have HX := Lib.hid hx
    have C1 := Lib.hid c1
    have C2 := Lib.hid c2
    clear c1 g1 g2 k1 hx c2
    by_cases h0 : len = 0
    · rw [if_neg (by omega), if_neg (by omega)] at hUE
      cases M
      · rw [if_pos rfl] at hUE
        rw [hUE] at hUR
        rw [if_neg (by decide)] at hUR
        rw [hUE, hUR]
        clear hUE hUR
        subst h0
        go_enter Try.func59, Try.ntmps59
        go_wp2_with fail
        refine (C1.out _ (by repeat (first | exact Below.refl _ _ | assumption | refine Below.setCell ?_ (by first | (simp; done) | (simp; omega) | omega) _ | refine Below.drew ?_ | refine below_drewN ?_ _ | refine Below.alloc ?_ (by first | (simp; done) | (simp; omega) | omega) _ | refine below_alloc ?_ _ | refine below_step ?_ (by assumption)))).mono ?_
        rintro e w1 ⟨rfl, hb⟩
        have hB_w1 : Below w.heap.size w w1 := (by repeat (first | exact Below.refl _ _ | assumption | refine Below.setCell ?_ (by first | (simp; done) | (simp; omega) | omega) _ | refine Below.drew ?_ | refine below_drewN ?_ _ | refine Below.alloc ?_ (by first | (simp; done) | (simp; omega) | omega) _ | refine below_alloc ?_ _ | refine below_step ?_ (by assumption))); have hz_w1 := hB_w1.size; have hsw10 : w.heap.size < w1.heap.size := Nat.lt_of_lt_of_le (by first | (simp; done) | (simp; omega) | omega) hb.size; have hnw10 : ¬ w.heap.size = w1.heap.size := (by omega); have hmw10 : ¬ w1.heap.size = w.heap.size := (by omega); have hlw10_0 : w.heap.size ≤ w1.heap.size := (by omega); have hlw10_1 : w.heap.size ≤ w1.heap.size + 1 := (by omega); have hlw10_2 : w.heap.size ≤ w1.heap.size + 1 + 1 := (by omega); have hkw10 : w1.cell? ⟨w.heap.size, 0, none⟩ = some (.int .i64 s) := (by rw [hb.cell (p := ⟨w.heap.size, 0, none⟩) (by first | (simp; done) | (simp; omega) | omega)]; first | (go_simp; done) | assumption); have hkw11 : w1.cell? ⟨w.heap.size, 1, none⟩ = some (.int .i64 d) := (by rw [hb.cell (p := ⟨w.heap.size, 1, none⟩) (by first | (simp; done) | (simp; omega) | omega)]; first | (go_simp; done) | assumption); have hkw12 : w1.cell? ⟨w.heap.size, 2, none⟩ = some (.int .i64 l) := (by rw [hb.cell (p := ⟨w.heap.size, 2, none⟩) (by first | (simp; done) | (simp; omega) | omega)]; first | (go_simp; done) | assumption); clear hb
        go_wp2_with fail
        refine (C2.out _ (by repeat (first | exact Below.refl _ _ | assumption | refine Below.setCell ?_ (by first | (simp; done) | (simp; omega) | omega) _ | refine Below.drew ?_ | refine below_drewN ?_ _ | refine Below.alloc ?_ (by first | (simp; done) | (simp; omega) | omega) _ | refine below_alloc ?_ _ | refine below_step ?_ (by assumption)))).mono ?_
        rintro e w2 ⟨rfl, hb⟩
        have hB_w2 : Below w.heap.size w w2 := (by repeat (first | exact Below.refl _ _ | assumption | refine Below.setCell ?_ (by first | (simp; done) | (simp; omega) | omega) _ | refine Below.drew ?_ | refine below_drewN ?_ _ | refine Below.alloc ?_ (by first | (simp; done) | (simp; omega) | omega) _ | refine below_alloc ?_ _ | refine below_step ?_ (by assumption))); have hz_w2 := hB_w2.size; clear hb hB_w1 hlw10_0 hlw10_1 hlw10_2 hkw10 hkw11 hkw12
        go_wp2
        go_ret2
        exact ⟨⟨none, 0, 0, rfl, ⟨by omega, by omega⟩, rfl, fun h => absurd h (by omega)⟩, (by repeat (first | exact Below.refl _ _ | assumption | refine Below.setCell ?_ (by first | (simp; done) | (simp; omega) | omega) _ | refine Below.drew ?_ | refine below_drewN ?_ _ | refine Below.alloc ?_ (by first | (simp; done) | (simp; omega) | omega) _ | refine below_alloc ?_ _ | refine below_step ?_ (by assumption)))⟩
      · rw [if_neg (by decide)] at hUE
        rw [hUE] at hUR
        rw [if_pos rfl] at hUR
        rw [hUE, hUR]
        clear hUE hUR
        obtain ⟨i0, hi, hz0, hz1, hz2⟩ := info_parts info_use'
        have hI0 := Lib.hid hi
        have hI1 := Lib.hid hz0
        have hI2 := Lib.hid hz1
        have hI3 := Lib.hid hz2
        clear hi hz0 hz1 hz2
        subst h0
        go_enter Try.func59, Try.ntmps59
        go_wp2_with fail
        refine (C1.out _ (by repeat (first | exact Below.refl _ _ | assumption | refine Below.setCell ?_ (by first | (simp; done) | (simp; omega) | omega) _ | refine Below.drew ?_ | refine below_drewN ?_ _ | refine Below.alloc ?_ (by first | (simp; done) | (simp; omega) | omega) _ | refine below_alloc ?_ _ | refine below_step ?_ (by assumption)))).mono ?_
        rintro e w1 ⟨rfl, hb⟩
        have hB_w1 : Below w.heap.size w w1 := (by repeat (first | exact Below.refl _ _ | assumption | refine Below.setCell ?_ (by first | (simp; done) | (simp; omega) | omega) _ | refine Below.drew ?_ | refine below_drewN ?_ _ | refine Below.alloc ?_ (by first | (simp; done) | (simp; omega) | omega) _ | refine below_alloc ?_ _ | refine below_step ?_ (by assumption))); have hz_w1 := hB_w1.size; have hsw10 : w.heap.size < w1.heap.size := Nat.lt_of_lt_of_le (by first | (simp; done) | (simp; omega) | omega) hb.size; have hnw10 : ¬ w.heap.size = w1.heap.size := (by omega); have hmw10 : ¬ w1.heap.size = w.heap.size := (by omega); have hlw10_0 : w.heap.size ≤ w1.heap.size := (by omega); have hlw10_1 : w.heap.size ≤ w1.heap.size + 1 := (by omega); have hlw10_2 : w.heap.size ≤ w1.heap.size + 1 + 1 := (by omega); have hkw10 : w1.cell? ⟨w.heap.size, 0, none⟩ = some (.int .i64 s) := (by rw [hb.cell (p := ⟨w.heap.size, 0, none⟩) (by first | (simp; done) | (simp; omega) | omega)]; first | (go_simp; done) | assumption); have hkw11 : w1.cell? ⟨w.heap.size, 1, none⟩ = some (.int .i64 d) := (by rw [hb.cell (p := ⟨w.heap.size, 1, none⟩) (by first | (simp; done) | (simp; omega) | omega)]; first | (go_simp; done) | assumption); have hkw12 : w1.cell? ⟨w.heap.size, 2, none⟩ = some (.int .i64 l) := (by rw [hb.cell (p := ⟨w.heap.size, 2, none⟩) (by first | (simp; done) | (simp; omega) | omega)]; first | (go_simp; done) | assumption); clear hb
        go_wp2_with fail
        refine (C2.out _ (by repeat (first | exact Below.refl _ _ | assumption | refine Below.setCell ?_ (by first | (simp; done) | (simp; omega) | omega) _ | refine Below.drew ?_ | refine below_drewN ?_ _ | refine Below.alloc ?_ (by first | (simp; done) | (simp; omega) | omega) _ | refine below_alloc ?_ _ | refine below_step ?_ (by assumption)))).mono ?_
        rintro e w2 ⟨rfl, hb⟩
        have hB_w2 : Below w.heap.size w w2 := (by repeat (first | exact Below.refl _ _ | assumption | refine Below.setCell ?_ (by first | (simp; done) | (simp; omega) | omega) _ | refine Below.drew ?_ | refine below_drewN ?_ _ | refine Below.alloc ?_ (by first | (simp; done) | (simp; omega) | omega) _ | refine below_alloc ?_ _ | refine below_step ?_ (by assumption))); have hz_w2 := hB_w2.size; clear hb hB_w1 hlw10_0 hlw10_1 hlw10_2 hkw10 hkw11 hkw12
        go_wp2_with (at_builtin; go_loud (refine wpList_append_src rfl (.tmp 46) (.tmp 47) 53 rfl w2.heap.size 79 i0 (.agg #[.int .i64 0, .int .i64 0]) 2 16 Try.underlying53 hI0.out hI1.out hI2.out hI3.out rfl (by decide) (.slice (some ⟨w2.heap.size, 0, none⟩) 0 0) 0 [] rfl (World.ownsRow_made w2 #[] 0 (Nat.le_refl _) (by decide) rfl) (by simp) _ (0) cap (pcells us) rfl (by rw [pcells_len, HX.out.1]) HX.out.none (HX.out.below (B := w.heap.size) (w' := w2.alloc _) (by repeat (first | exact Below.refl _ _ | assumption | refine Below.setCell ?_ (by first | (simp; done) | (simp; omega) | omega) _ | refine Below.drew ?_ | refine below_drewN ?_ _ | refine Below.alloc ?_ (by first | (simp; done) | (simp; omega) | omega) _ | refine below_alloc ?_ _ | refine below_step ?_ (by assumption)))).cells (pcells_one us) (by unfold maxLen; omega) (by omega) (by simp) ?_))
        intro v1 w4 hown1 hgr1 _
        have hb4 : Below w2.heap.size w2 w4 := ((Below.refl _ _).alloc (Nat.le_refl _) _).trans (grown_below hgr1 (by simp) (by intro k hk; simp [Value.ownBlock] at hk; omega))
        have hz4 := hb4.size
        try simp only [Nat.zero_add, List.nil_append] at hown1
        have HO1 := Lib.hid hown1
        clear hown1 hgr1
        go_wp2_with (at_builtin; go_loud (refine wpList_append_own _ rfl (.tmp 48) (.tmp 52) 53 rfl w2.heap.size 79 i0 (.agg #[.int .i64 0, .int .i64 0]) 2 16 Try.underlying53 hI0.out hI1.out hI2.out hI3.out rfl (by decide) v1 (0) (pcells us) rfl (HO1.out.alloc _) ⟨w4.heap.size, 0, none⟩ 1 1 [.int .i64 day, .int .i64 ld] rfl rfl (news2' _ _ _ _) (one2' _ _) (by unfold maxLen; omega) (by omega) (by simp; omega) ?_))
        intro v2 w5 hown2 hgr2 _
        have hb5 : Below w2.heap.size w2 w5 := hb4.trans ((Below.alloc (Below.refl _ _) hz4 _).trans (grown_below hgr2 (by simp; omega) (fun q hq => (HO1.out.lt q hq).1)))
        have hown3 : w5.ownsRow w2.heap.size 79 2 v2 (0 + 1) (pcells (us ++ [(day, ld)])) := by
          rw [pcells_app]
          simpa [pcells] using hown2
        clear hown2 hgr2
        obtain ⟨A', cap', rfl, hnc, hmx, hP', _⟩ := own_pairs hown3
        have HP := Lib.hid hP'
        clear hP' hown3
        unfold maxLen at hmx
        have hb6 := hB_w2.trans (hb5.mono hz_w2)
        go_wp2
        go_ret2
        exact ⟨⟨A', _, cap', rfl, ⟨hnc, by omega⟩, HP.out⟩, hb6⟩
    · obtain ⟨j, rfl⟩ : ∃ j, len = j + 1 := ⟨len - 1, by omega⟩
      obtain ⟨b, off, rfl, hb0, hc1, _⟩ := HX.out.at_ j (by omega)
      rw [show j + 1 - 1 = j by omega] at hUE
      generalize us[j]?.getD (0,0) = X at *
      obtain ⟨X, Y⟩ := X
      dsimp only at hc1 hUE
      have hwj : IntKind.i64.wrap (j : Int) = j := IntWalk.i64_in _ (by omega)
      have hj0 : (0 : Int) < (j : Int) + 1 := by omega
      have hj1 : (j : Int) < (j : Int) + 1 := by omega
      by_cases h1 : day < X
      · rw [if_pos ⟨by omega, h1⟩] at hUE
        rw [hUE] at hUR
        rw [if_neg (by decide)] at hUR
        rw [hUE, hUR]
        clear hUE hUR
        go_enter Try.func59, Try.ntmps59
        go_wp2_with fail
        refine (C1.out _ (by repeat (first | exact Below.refl _ _ | assumption | refine Below.setCell ?_ (by first | (simp; done) | (simp; omega) | omega) _ | refine Below.drew ?_ | refine below_drewN ?_ _ | refine Below.alloc ?_ (by first | (simp; done) | (simp; omega) | omega) _ | refine below_alloc ?_ _ | refine below_step ?_ (by assumption)))).mono ?_
        rintro e w1 ⟨rfl, hb⟩
        have hB_w1 : Below w.heap.size w w1 := (by repeat (first | exact Below.refl _ _ | assumption | refine Below.setCell ?_ (by first | (simp; done) | (simp; omega) | omega) _ | refine Below.drew ?_ | refine below_drewN ?_ _ | refine Below.alloc ?_ (by first | (simp; done) | (simp; omega) | omega) _ | refine below_alloc ?_ _ | refine below_step ?_ (by assumption))); have hz_w1 := hB_w1.size; clear hb
        have hc2 : w1.cell? ⟨b, off + j * 2, none⟩ = some (.int .i64 X) := (hB_w1.cell (p := ⟨b, _, none⟩) hb0).trans hc1
        go_wp2
        go_ret2
        exact ⟨⟨none, 0, 0, rfl, ⟨by omega, by omega⟩, rfl, fun h => absurd h (by omega)⟩, (by repeat (first | exact Below.refl _ _ | assumption | refine Below.setCell ?_ (by first | (simp; done) | (simp; omega) | omega) _ | refine Below.drew ?_ | refine below_drewN ?_ _ | refine Below.alloc ?_ (by first | (simp; done) | (simp; omega) | omega) _ | refine below_alloc ?_ _ | refine below_step ?_ (by assumption)))⟩
      · rw [if_neg (by omega)] at hUE
        by_cases h5 : j + 1 = 500
        · rw [if_pos h5] at hUE
          rw [hUE] at hUR
          rw [if_neg (by decide)] at hUR
          rw [hUE, hUR]
          clear hUE hUR
          have h5' : ((j : Int) + 1 == 500) = true := by simp; omega
          clear h5
          go_enter Try.func59, Try.ntmps59
          go_wp2_with fail
          refine (C1.out _ (by repeat (first | exact Below.refl _ _ | assumption | refine Below.setCell ?_ (by first | (simp; done) | (simp; omega) | omega) _ | refine Below.drew ?_ | refine below_drewN ?_ _ | refine Below.alloc ?_ (by first | (simp; done) | (simp; omega) | omega) _ | refine below_alloc ?_ _ | refine below_step ?_ (by assumption)))).mono ?_
          rintro e w1 ⟨rfl, hb⟩
          have hB_w1 : Below w.heap.size w w1 := (by repeat (first | exact Below.refl _ _ | assumption | refine Below.setCell ?_ (by first | (simp; done) | (simp; omega) | omega) _ | refine Below.drew ?_ | refine below_drewN ?_ _ | refine Below.alloc ?_ (by first | (simp; done) | (simp; omega) | omega) _ | refine below_alloc ?_ _ | refine below_step ?_ (by assumption))); have hz_w1 := hB_w1.size; clear hb
          have hc2 : w1.cell? ⟨b, off + j * 2, none⟩ = some (.int .i64 X) := (hB_w1.cell (p := ⟨b, _, none⟩) hb0).trans hc1
          go_wp2
          go_ret2
          exact ⟨⟨none, 0, 0, rfl, ⟨by omega, by omega⟩, rfl, fun h => absurd h (by omega)⟩, (by repeat (first | exact Below.refl _ _ | assumption | refine Below.setCell ?_ (by first | (simp; done) | (simp; omega) | omega) _ | refine Below.drew ?_ | refine below_drewN ?_ _ | refine Below.alloc ?_ (by first | (simp; done) | (simp; omega) | omega) _ | refine below_alloc ?_ _ | refine below_step ?_ (by assumption)))⟩
        · rw [if_neg h5] at hUE
          have h5' : ((j : Int) + 1 == 500) = false := by simp; omega
          have h5'' : ¬ (j : Int) + 1 = 500 := by omega
          clear h5
          cases M
          · rw [if_pos rfl] at hUE
            rw [hUE] at hUR
            rw [if_neg (by decide)] at hUR
            rw [hUE, hUR]
            clear hUE hUR
            go_enter Try.func59, Try.ntmps59
            go_wp2_with fail
            refine (C1.out _ (by repeat (first | exact Below.refl _ _ | assumption | refine Below.setCell ?_ (by first | (simp; done) | (simp; omega) | omega) _ | refine Below.drew ?_ | refine below_drewN ?_ _ | refine Below.alloc ?_ (by first | (simp; done) | (simp; omega) | omega) _ | refine below_alloc ?_ _ | refine below_step ?_ (by assumption)))).mono ?_
            rintro e w1 ⟨rfl, hb⟩
            have hB_w1 : Below w.heap.size w w1 := (by repeat (first | exact Below.refl _ _ | assumption | refine Below.setCell ?_ (by first | (simp; done) | (simp; omega) | omega) _ | refine Below.drew ?_ | refine below_drewN ?_ _ | refine Below.alloc ?_ (by first | (simp; done) | (simp; omega) | omega) _ | refine below_alloc ?_ _ | refine below_step ?_ (by assumption))); have hz_w1 := hB_w1.size; have hsw10 : w.heap.size < w1.heap.size := Nat.lt_of_lt_of_le (by first | (simp; done) | (simp; omega) | omega) hb.size; have hnw10 : ¬ w.heap.size = w1.heap.size := (by omega); have hmw10 : ¬ w1.heap.size = w.heap.size := (by omega); have hlw10_0 : w.heap.size ≤ w1.heap.size := (by omega); have hlw10_1 : w.heap.size ≤ w1.heap.size + 1 := (by omega); have hlw10_2 : w.heap.size ≤ w1.heap.size + 1 + 1 := (by omega); have hkw10 : w1.cell? ⟨w.heap.size, 0, none⟩ = some (.int .i64 s) := (by rw [hb.cell (p := ⟨w.heap.size, 0, none⟩) (by first | (simp; done) | (simp; omega) | omega)]; first | (go_simp; done) | assumption); have hkw11 : w1.cell? ⟨w.heap.size, 1, none⟩ = some (.int .i64 d) := (by rw [hb.cell (p := ⟨w.heap.size, 1, none⟩) (by first | (simp; done) | (simp; omega) | omega)]; first | (go_simp; done) | assumption); have hkw12 : w1.cell? ⟨w.heap.size, 2, none⟩ = some (.int .i64 l) := (by rw [hb.cell (p := ⟨w.heap.size, 2, none⟩) (by first | (simp; done) | (simp; omega) | omega)]; first | (go_simp; done) | assumption); clear hb
            have hc2 : w1.cell? ⟨b, off + j * 2, none⟩ = some (.int .i64 X) := (hB_w1.cell (p := ⟨b, _, none⟩) hb0).trans hc1
            go_wp2_with fail
            refine (C2.out _ (by repeat (first | exact Below.refl _ _ | assumption | refine Below.setCell ?_ (by first | (simp; done) | (simp; omega) | omega) _ | refine Below.drew ?_ | refine below_drewN ?_ _ | refine Below.alloc ?_ (by first | (simp; done) | (simp; omega) | omega) _ | refine below_alloc ?_ _ | refine below_step ?_ (by assumption)))).mono ?_
            rintro e w2 ⟨rfl, hb⟩
            have hB_w2 : Below w.heap.size w w2 := (by repeat (first | exact Below.refl _ _ | assumption | refine Below.setCell ?_ (by first | (simp; done) | (simp; omega) | omega) _ | refine Below.drew ?_ | refine below_drewN ?_ _ | refine Below.alloc ?_ (by first | (simp; done) | (simp; omega) | omega) _ | refine below_alloc ?_ _ | refine below_step ?_ (by assumption))); have hz_w2 := hB_w2.size; clear hb hB_w1 hlw10_0 hlw10_1 hlw10_2 hkw10 hkw11 hkw12
            go_wp2
            go_ret2
            exact ⟨⟨none, 0, 0, rfl, ⟨by omega, by omega⟩, rfl, fun h => absurd h (by omega)⟩, (by repeat (first | exact Below.refl _ _ | assumption | refine Below.setCell ?_ (by first | (simp; done) | (simp; omega) | omega) _ | refine Below.drew ?_ | refine below_drewN ?_ _ | refine Below.alloc ?_ (by first | (simp; done) | (simp; omega) | omega) _ | refine below_alloc ?_ _ | refine below_step ?_ (by assumption)))⟩
          · rw [if_neg (by decide)] at hUE
            rw [hUE] at hUR
            rw [if_pos rfl] at hUR
            rw [hUE, hUR]
            clear hUE hUR
            obtain ⟨i0, hi, hz0, hz1, hz2⟩ := info_parts info_use'
            have hI0 := Lib.hid hi
            have hI1 := Lib.hid hz0
            have hI2 := Lib.hid hz1
            have hI3 := Lib.hid hz2
            clear hi hz0 hz1 hz2
            go_enter Try.func59, Try.ntmps59
            go_wp2_with fail
            refine (C1.out _ (by repeat (first | exact Below.refl _ _ | assumption | refine Below.setCell ?_ (by first | (simp; done) | (simp; omega) | omega) _ | refine Below.drew ?_ | refine below_drewN ?_ _ | refine Below.alloc ?_ (by first | (simp; done) | (simp; omega) | omega) _ | refine below_alloc ?_ _ | refine below_step ?_ (by assumption)))).mono ?_
            rintro e w1 ⟨rfl, hb⟩
            have hB_w1 : Below w.heap.size w w1 := (by repeat (first | exact Below.refl _ _ | assumption | refine Below.setCell ?_ (by first | (simp; done) | (simp; omega) | omega) _ | refine Below.drew ?_ | refine below_drewN ?_ _ | refine Below.alloc ?_ (by first | (simp; done) | (simp; omega) | omega) _ | refine below_alloc ?_ _ | refine below_step ?_ (by assumption))); have hz_w1 := hB_w1.size; have hsw10 : w.heap.size < w1.heap.size := Nat.lt_of_lt_of_le (by first | (simp; done) | (simp; omega) | omega) hb.size; have hnw10 : ¬ w.heap.size = w1.heap.size := (by omega); have hmw10 : ¬ w1.heap.size = w.heap.size := (by omega); have hlw10_0 : w.heap.size ≤ w1.heap.size := (by omega); have hlw10_1 : w.heap.size ≤ w1.heap.size + 1 := (by omega); have hlw10_2 : w.heap.size ≤ w1.heap.size + 1 + 1 := (by omega); have hkw10 : w1.cell? ⟨w.heap.size, 0, none⟩ = some (.int .i64 s) := (by rw [hb.cell (p := ⟨w.heap.size, 0, none⟩) (by first | (simp; done) | (simp; omega) | omega)]; first | (go_simp; done) | assumption); have hkw11 : w1.cell? ⟨w.heap.size, 1, none⟩ = some (.int .i64 d) := (by rw [hb.cell (p := ⟨w.heap.size, 1, none⟩) (by first | (simp; done) | (simp; omega) | omega)]; first | (go_simp; done) | assumption); have hkw12 : w1.cell? ⟨w.heap.size, 2, none⟩ = some (.int .i64 l) := (by rw [hb.cell (p := ⟨w.heap.size, 2, none⟩) (by first | (simp; done) | (simp; omega) | omega)]; first | (go_simp; done) | assumption); clear hb
            have hc2 : w1.cell? ⟨b, off + j * 2, none⟩ = some (.int .i64 X) := (hB_w1.cell (p := ⟨b, _, none⟩) hb0).trans hc1
            go_wp2_with fail
            refine (C2.out _ (by repeat (first | exact Below.refl _ _ | assumption | refine Below.setCell ?_ (by first | (simp; done) | (simp; omega) | omega) _ | refine Below.drew ?_ | refine below_drewN ?_ _ | refine Below.alloc ?_ (by first | (simp; done) | (simp; omega) | omega) _ | refine below_alloc ?_ _ | refine below_step ?_ (by assumption)))).mono ?_
            rintro e w2 ⟨rfl, hb⟩
            have hB_w2 : Below w.heap.size w w2 := (by repeat (first | exact Below.refl _ _ | assumption | refine Below.setCell ?_ (by first | (simp; done) | (simp; omega) | omega) _ | refine Below.drew ?_ | refine below_drewN ?_ _ | refine Below.alloc ?_ (by first | (simp; done) | (simp; omega) | omega) _ | refine below_alloc ?_ _ | refine below_step ?_ (by assumption))); have hz_w2 := hB_w2.size; clear hb hB_w1 hlw10_0 hlw10_1 hlw10_2 hkw10 hkw11 hkw12
            go_wp2_with (at_builtin; go_loud (refine wpList_append_src rfl (.tmp 46) (.tmp 47) 53 rfl w2.heap.size 79 i0 (.agg #[.int .i64 0, .int .i64 0]) 2 16 Try.underlying53 hI0.out hI1.out hI2.out hI3.out rfl (by decide) (.slice (some ⟨w2.heap.size, 0, none⟩) 0 0) 0 [] rfl (World.ownsRow_made w2 #[] 0 (Nat.le_refl _) (by decide) rfl) (by simp) _ (j + 1) cap (pcells us) rfl (by rw [pcells_len, HX.out.1]) HX.out.none (HX.out.below (B := w.heap.size) (w' := w2.alloc _) (by repeat (first | exact Below.refl _ _ | assumption | refine Below.setCell ?_ (by first | (simp; done) | (simp; omega) | omega) _ | refine Below.drew ?_ | refine below_drewN ?_ _ | refine Below.alloc ?_ (by first | (simp; done) | (simp; omega) | omega) _ | refine below_alloc ?_ _ | refine below_step ?_ (by assumption)))).cells (pcells_one us) (by unfold maxLen; omega) (by omega) (by simp) ?_))
            intro v1 w4 hown1 hgr1 _
            have hb4 : Below w2.heap.size w2 w4 := ((Below.refl _ _).alloc (Nat.le_refl _) _).trans (grown_below hgr1 (by simp) (by intro k hk; simp [Value.ownBlock] at hk; omega))
            have hz4 := hb4.size
            try simp only [Nat.zero_add, List.nil_append] at hown1
            have HO1 := Lib.hid hown1
            clear hown1 hgr1
            go_wp2_with (at_builtin; go_loud (refine wpList_append_own _ rfl (.tmp 48) (.tmp 52) 53 rfl w2.heap.size 79 i0 (.agg #[.int .i64 0, .int .i64 0]) 2 16 Try.underlying53 hI0.out hI1.out hI2.out hI3.out rfl (by decide) v1 (j + 1) (pcells us) rfl (HO1.out.alloc _) ⟨w4.heap.size, 0, none⟩ 1 1 [.int .i64 day, .int .i64 ld] rfl rfl (news2' _ _ _ _) (one2' _ _) (by unfold maxLen; omega) (by omega) (by simp; omega) ?_))
            intro v2 w5 hown2 hgr2 _
            have hb5 : Below w2.heap.size w2 w5 := hb4.trans ((Below.alloc (Below.refl _ _) hz4 _).trans (grown_below hgr2 (by simp; omega) (fun q hq => (HO1.out.lt q hq).1)))
            have hown3 : w5.ownsRow w2.heap.size 79 2 v2 (j + 1 + 1) (pcells (us ++ [(day, ld)])) := by
              rw [pcells_app]
              simpa [pcells] using hown2
            clear hown2 hgr2
            obtain ⟨A', cap', rfl, hnc, hmx, hP', _⟩ := own_pairs hown3
            have HP := Lib.hid hP'
            clear hP' hown3
            unfold maxLen at hmx
            have hb6 := hB_w2.trans (hb5.mono hz_w2)
            go_wp2
            go_ret2
            exact ⟨⟨A', _, cap', rfl, ⟨hnc, by omega⟩, HP.out⟩, hb6⟩
  · rw [if_pos k1] at hUE
    rw [hUE] at hUR
    rw [if_neg k1] at hUR
    rw [hUE, hUR]
    generalize errR s d l us day ld = E at *
    have he' : (E == 0) = false := by simpa using k1
    have C1 := Lib.hid c1
    clear c1 hx hUE hUR k1
    go_enter Try.func59, Try.ntmps59
    go_wp2_with fail
    refine (C1.out _ (by repeat (first | exact Below.refl _ _ | assumption | refine Below.setCell ?_ (by first | (simp; done) | (simp; omega) | omega) _ | refine Below.drew ?_ | refine below_drewN ?_ _ | refine Below.alloc ?_ (by first | (simp; done) | (simp; omega) | omega) _ | refine below_alloc ?_ _ | refine below_step ?_ (by assumption)))).mono ?_
    rintro e w1 ⟨rfl, hb⟩
    have hB_w1 : Below w.heap.size w w1 := (by repeat (first | exact Below.refl _ _ | assumption | refine Below.setCell ?_ (by first | (simp; done) | (simp; omega) | omega) _ | refine Below.drew ?_ | refine below_drewN ?_ _ | refine Below.alloc ?_ (by first | (simp; done) | (simp; omega) | omega) _ | refine below_alloc ?_ _ | refine below_step ?_ (by assumption))); have hz_w1 := hB_w1.size; clear hb
    go_wp2
    go_ret2
    exact ⟨⟨none, 0, 0, rfl, ⟨by omega, by omega⟩, rfl, fun h => absurd h (by omega)⟩, (by repeat (first | exact Below.refl _ _ | assumption | refine Below.setCell ?_ (by first | (simp; done) | (simp; omega) | omega) _ | refine Below.drew ?_ | refine below_drewN ?_ _ | refine Below.alloc ?_ (by first | (simp; done) | (simp; omega) | omega) _ | refine below_alloc ?_ _ | refine below_step ?_ (by assumption)))⟩

set_option maxHeartbeats 1000000 in
theorem Same_any (A : Option Addr) (len cap : Nat) (xs : List (Int × Int)) (A' : Option Addr) (len' cap' : Nat) (ys : List (Int × Int)) (w : World) (hm : len ≤ 9223372036854775807) (hm' : len' ≤ 9223372036854775807) (hx : Pairs w w.heap.size A len xs) (hy : Pairs w w.heap.size A' len' ys) :
    Calls Try.prog 60 #[.slice A len cap, .slice A' len' cap'] w fun e w' => e = .returned (.bool (decide (xs = ys))) ∧ Below w.heap.size w w' := by
  have HX := Lib.hid hx
  have HY := Lib.hid hy
  clear hx hy
  by_cases hl : len = len'
  · subst hl
    go_enter Try.func60, Try.ntmps60
    go_wp2
    go_loopw [5] (fun i wr => ∃ k : Nat, k ≤ len ∧ i = .int .i64 k ∧ (∀ j, j < k → xs[j]?.getD (0,0) = ys[j]?.getD (0,0)) ∧ Below w.heap.size w wr) (fun i _ => len - (intOf i).toNat)
    case atStart => exact ⟨0, Nat.zero_le _, rfl, fun j h => absurd h (by omega), Below.refl _ _⟩
    case round =>
      obtain ⟨k, hk, rfl, ht, hB⟩ := hrel
      have HT := Lib.hid ht
      clear ht
      by_cases hlt : k < len
      · obtain ⟨b, off, rfl, hb0, hc1, hc2⟩ := (HX.out.below hB).at_ k hlt
        obtain ⟨b', off', rfl, hb0', hc1', hc2'⟩ := (HY.out.below hB).at_ k hlt
        have hbs := hB.size
        have hb1 : b < wr.heap.size := by omega
        have hb1' : b' < wr.heap.size := by omega
        generalize hX : xs[k]?.getD (0,0) = X at *
        generalize hY : ys[k]?.getD (0,0) = Y at *
        have HXX := Lib.hid hX
        have HYY := Lib.hid hY
        clear hX hY
        obtain ⟨X1, X2⟩ := X
        obtain ⟨Y1, Y2⟩ := Y
        dsimp only at hc1 hc2 hc1' hc2'
        have hk1 : (k : Int) < len := by omega
        have hk2 : ¬ len ≤ k := by omega
        by_cases hxy : X1 = Y1 ∧ X2 = Y2
        · obtain ⟨rfl, rfl⟩ := hxy
          have H3 : Hid (∀ j, j < k + 1 → xs[j]?.getD (0,0) = ys[j]?.getD (0,0)) := by
            intro j hj
            by_cases hjk : j = k
            · rw [hjk, HXX.out, HYY.out]
            · exact HT.out j (by omega)
          go_wp2
          (refine wp_region_later (by kernel_rfl) (by kernel_rfl) ?_; (repeat (go_big_quiet_step ((fail)))); refine wpQuiet_nil ?_)
          intro w4 hb
          go_wp2
          go_roundw
          case rel => exact ⟨k + 1, by omega, by go_num, H3.out, (by repeat (first | exact Below.refl _ _ | assumption | refine Below.setCell ?_ (by first | (simp; done) | (simp; omega) | omega) _ | refine Below.drew ?_ | refine below_drewN ?_ _ | refine Below.alloc ?_ (by first | (simp; done) | (simp; omega) | omega) _ | refine below_alloc ?_ _ | refine below_step ?_ (by assumption)))⟩
          case measure => simp [intOf]; omega
        · have H3 : Hid (¬ xs = ys) := by
            intro h
            apply hxy
            have h2 := HXX.out
            rw [h, HYY.out] at h2
            cases h2
            exact ⟨rfl, rfl⟩
          have H4 : ((X1 == Y1) && (X2 == Y2)) = false := by
            cases h : ((X1 == Y1) && (X2 == Y2)) with
            | false => rfl
            | true => rw [Bool.and_eq_true] at h; exact absurd ⟨by simpa using h.1, by simpa using h.2⟩ hxy
          by_cases h5 : X1 = Y1
          · have h5' : (X1 == Y1) = true := by simpa using h5
            have h6 : (X2 == Y2) = false := by rw [h5', Bool.true_and] at H4; exact H4
            clear H4 hxy
            go_wp2
            (refine wp_region_later (by kernel_rfl) (by kernel_rfl) ?_; (repeat (go_big_quiet_step ((fail)))); refine wpQuiet_nil ?_)
            intro w4 hb
            go_wp2
            go_ret
            exact ⟨ret_bool (decide_eq_false H3.out).symm, (by repeat (first | exact Below.refl _ _ | assumption | refine Below.setCell ?_ (by first | (simp; done) | (simp; omega) | omega) _ | refine Below.drew ?_ | refine below_drewN ?_ _ | refine Below.alloc ?_ (by first | (simp; done) | (simp; omega) | omega) _ | refine below_alloc ?_ _ | refine below_step ?_ (by assumption)))⟩
          · have h5' : (X1 == Y1) = false := by simpa using h5
            clear H4 hxy
            go_wp2
            (refine wp_region_later (by kernel_rfl) (by kernel_rfl) ?_; (repeat (go_big_quiet_step ((fail)))); refine wpQuiet_nil ?_)
            intro w4 hb
            go_wp2
            go_ret
            exact ⟨ret_bool (decide_eq_false H3.out).symm, (by repeat (first | exact Below.refl _ _ | assumption | refine Below.setCell ?_ (by first | (simp; done) | (simp; omega) | omega) _ | refine Below.drew ?_ | refine below_drewN ?_ _ | refine Below.alloc ?_ (by first | (simp; done) | (simp; omega) | omega) _ | refine below_alloc ?_ _ | refine below_step ?_ (by assumption)))⟩
      · have H3 : Hid (xs = ys) := by
          apply List.ext_getElem (by rw [HX.out.1, HY.out.1])
          intro j h1 h2
          have := HT.out j (by have := HX.out.1; omega)
          rw [List.getElem?_eq_getElem h1, List.getElem?_eq_getElem h2] at this
          simpa using this
        go_wp2
        go_ret
        exact ⟨ret_bool (decide_eq_true H3.out).symm, (by repeat (first | exact Below.refl _ _ | assumption | refine Below.setCell ?_ (by first | (simp; done) | (simp; omega) | omega) _ | refine Below.drew ?_ | refine below_drewN ?_ _ | refine Below.alloc ?_ (by first | (simp; done) | (simp; omega) | omega) _ | refine below_alloc ?_ _ | refine below_step ?_ (by assumption)))⟩
  · have H3 : Hid (¬ xs = ys) := by
      intro h
      apply hl
      rw [← HX.out.1, ← HY.out.1, h]
    go_enter Try.func60, Try.ntmps60
    go_wp2
    go_ret
    exact ⟨ret_bool (decide_eq_false H3.out).symm, (by repeat (first | exact Below.refl _ _ | assumption | refine Below.setCell ?_ (by first | (simp; done) | (simp; omega) | omega) _ | refine Below.drew ?_ | refine below_drewN ?_ _ | refine Below.alloc ?_ (by first | (simp; done) | (simp; omega) | omega) _ | refine below_alloc ?_ _ | refine below_step ?_ (by assumption)))⟩
end Go.Proofs.Ythninhkimhnegaa
