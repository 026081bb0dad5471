/- Ladders: how many it takes from a foot on: the wall's rests. -/
import Derived.Test.YtgapnhpmgidmhaaLadM2
import Derived.Test.YtgapnhpmgidmhaaCnt
import Derived.Test.YtgapnhpmgidmhaaBear
import Derived.Maps.RangeWalk
set_option linter.unusedSimpArgs false
set_option linter.unusedVariables false
namespace Go.Proofs.Ytgapnhpmgidmhaa
open Go.RowKit Go.Maps
attribute [local go_sem] Later.cell

def WallAt (w : World) (b : Nat) (c : Clb) (A : Option Addr) (len cap : Nat) (A' : Option Addr) (n cap' : Nat) : Prop := ClimbAt w b c ∧ w.cell? ⟨b, 6, none⟩ = some (.slice A len cap) ∧ w.cell? ⟨b, 7, none⟩ = some (.slice A' n cap')
theorem WallAt.block {w w' : World} {b : Nat} {c : Clb} {A : Option Addr} {len cap : Nat} {A' : Option Addr} {n cap' : Nat} (h : WallAt w b c A len cap A' n cap') (e : w'.heap[b]? = w.heap[b]?) : WallAt w' b c A len cap A' n cap' :=
  ⟨h.1.block e, by rw [cell_block e]; exact h.2.1, by rw [cell_block e]; exact h.2.2⟩
theorem wallAt_box (w : World) (c : Clb) (A : Option Addr) (len cap : Nat) (A' : Option Addr) (n cap' : Nat) (t : TypeId) : WallAt (w.alloc (.cells #[.int .i64 c.fi, .int .i64 c.ga, .int .i64 c.to, .int .i64 c.le, .int .i64 c.la, .int .i64 c.st, .slice A len cap, .slice A' n cap'] t)) w.heap.size c A len cap A' n cap' :=
  ⟨⟨by go_simp, by go_simp, by go_simp, by go_simp, by go_simp, by go_simp⟩, by go_simp, by go_simp⟩
def RsO (c : Clb) (F : List J) (w w2 : World) (n : Nat) (x : Value) (wr : World) : Prop :=
  ∃ (i : Int) (m : Nat), -1 ≤ i ∧ i < n ∧ x = .int .i64 i ∧ (m : Int) ≤ (n - 1 - i) * 300 ∧ Hid (MapI wr (w.heap.size + 1) m (rsM (lc c) F (i + 1).toNat)) ∧ w2.grownBy wr (some (w.heap.size + 1))
theorem RsO.mk {c : Clb} {F : List J} {w w2 : World} {n : Nat} {x : Value} {wr : World} (i : Int) (m : Nat) (h1 : -1 ≤ i) (h2 : i < n) (h3 : x = .int .i64 i) (h4 : (m : Int) ≤ (n - 1 - i) * 300) (h5 : Hid (MapI wr (w.heap.size + 1) m (rsM (lc c) F (i + 1).toNat))) (h6 : w2.grownBy wr (some (w.heap.size + 1))) : RsO c F w w2 n x wr := ⟨i, m, h1, h2, h3, h4, h5, h6⟩
def RsI (c : Clb) (F : List J) (w w2 : World) (n D : Nat) (x : Value) (wr : World) : Prop :=
  ∃ K m a : Nat, D < K ∧ K ≤ n ∧ x = .int .i64 (K : Int) ∧ m + D * 300 + 299 ≤ n * 300 + K ∧ Hid (MapI wr (w.heap.size + 1) m (accM (rsM (lc c) F (D + 1)) D a)) ∧ Hid (LcAt (lc c) F D K a) ∧ w2.grownBy wr (some (w.heap.size + 1))
theorem RsI.mk {c : Clb} {F : List J} {w w2 : World} {n D : Nat} {x : Value} {wr : World} (K m a : Nat) (h1 : D < K) (h2 : K ≤ n) (h3 : x = .int .i64 (K : Int)) (h4 : m + D * 300 + 299 ≤ n * 300 + K) (h5 : Hid (MapI wr (w.heap.size + 1) m (accM (rsM (lc c) F (D + 1)) D a))) (h6 : Hid (LcAt (lc c) F D K a)) (h7 : w2.grownBy wr (some (w.heap.size + 1))) : RsI c F w w2 n D x wr := ⟨K, m, a, h1, h2, h3, h4, h5, h6, h7⟩
set_option maxRecDepth 20000 in
set_option maxHeartbeats 16000000 in
theorem rests_any (c : Clb) (A : Option Addr) (len cap : Nat) (l : List J) (A' : Option Addr) (n cap' : Nat) (ds : List Int) (w : World) (hv : vC c = true) (hm : len ≤ 9223372036854775807) (hm' : n ≤ 80) (hx : Rows 2 jointV dJ w w.heap.size A len l) (hy : Ints w w.heap.size A' n ds) (hok : WallOk l ds) :
    Calls Try.prog 31 #[wallV c A len cap A' n cap'] w fun e w' => (∃ b m, e = .returned (.map (some b)) ∧ MapI w' b m (rsM (lc c) (ft c l ds) 0) ∧ w.heap.size ≤ b) ∧ Below w.heap.size w w' := by
  have hn : ds.length = n := hy.1
  have c1 := fun k W (h : Below w.heap.size w W) (hk : k < n) => ends_any c A len cap l A' n cap' ds k W hv hm (by omega) ((hx.below h).more h.size) ((hy.below h).more h.size) hok hk
  have c2 := fun b f W (h : Below w.heap.size w W) (hb : b < (n : Int)) (hf : f < n) => after_any c A len cap l A' n cap' ds b f W hv hm (by omega) ((hx.below h).more h.size) ((hy.below h).more h.size) hok hb hf
  obtain ⟨F, hF⟩ : ∃ F, F = ft c l ds := ⟨_, rfl⟩
  rw [← hF]
  have hfl : F.length = n := by rw [hF, ft_len, hn]
  have haf : ∀ i k, i < n → k < n → aftB c l ds ((i : Nat) : Int) k = (sndB F k && (decide (i < k) && decide (hgt F k - hgt F i ≤ (lc c).ga))) := fun i k hi hk => by
    rw [hF, aft_fol (by omega) (by omega), folB_nat]
  have hnd : ∀ k, k < n → (nd1 (lc c) F k = 0 → need (lc c) F k = 0) ∧ (sndB F k = true → nd1 (lc c) F k = need (lc c) F k) ∧ (sndB F k = false → need (lc c) F k = 0) := fun k hk => by
    have hk' : k < F.length := by omega
    have h3 := fun hs => nd1_need (c := lc c) hk' hs
    have h4 := (need_spec (lc c) F k hk').1
    refine ⟨fun h => ?_, h3, h4⟩
    cases hs : sndB F k
    · exact h4 hs
    · rw [← h3 hs]; exact h
  have hen : ∀ k, k < n → hD l ds k = hgt F k := fun k hk => by rw [hF, ft_hgt (by omega)]
  have hzo := fun k => LcAt.zero (c := lc c) (F := F) (i := k)
  have hon := fun k => LcAt.one (c := lc c) (F := F) (i := k)
  have hto : (lc c).to = c.to - c.la := rfl
  have hga : (lc c).ga = c.le - c.la := rfl
  have hbd := hok.bd
  have HTO := Lib.hid hto
  have HGA := Lib.hid hga
  have C1 := Lib.hid c1
  have C2 := Lib.hid c2
  have HFL := Lib.hid hfl
  have HAF := Lib.hid haf
  have HND := Lib.hid hnd
  have HEN := Lib.hid hen
  have HZO := Lib.hid hzo
  have HON := Lib.hid hon
  have hmm := @run_makeMap Try.prog
  clear c1 c2 hx hy hok hv hfl haf hnd hen hzo hon hto hga hbd hF
  go_enter Try.func31, Try.ntmps31
  go_wp2_with fail
  have hM0 : MapI ((w.alloc (.cells #[.int .i64 c.fi, .int .i64 c.ga, .int .i64 c.to, .int .i64 c.le, .int .i64 c.la, .int .i64 c.st, .slice A len cap, .slice A' n cap'] 42)).alloc (.map #[] 0)) (w.heap.size + 1) 0 (fun _ => none) := by
    have h := mapv_made (w.alloc (.cells #[.int .i64 c.fi, .int .i64 c.ga, .int .i64 c.to, .int .i64 c.le, .int .i64 c.la, .int .i64 c.st, .slice A len cap, .slice A' n cap'] 42)) Try.prog 3 3 ilit ilit 0
    have e : (w.alloc (.cells #[.int .i64 c.fi, .int .i64 c.ga, .int .i64 c.to, .int .i64 c.le, .int .i64 c.la, .int .i64 c.st, .slice A len cap, .slice A' n cap'] 42)).heap.size = w.heap.size + 1 := by simp
    rw [e] at h
    exact h
  have hC0 : WallAt ((w.alloc (.cells #[.int .i64 c.fi, .int .i64 c.ga, .int .i64 c.to, .int .i64 c.le, .int .i64 c.la, .int .i64 c.st, .slice A len cap, .slice A' n cap'] 42)).alloc (.map #[] 0)) w.heap.size c A len cap A' n cap' := (wallAt_box w c A len cap A' n cap' _).block ((Below.alloc (Below.refl _ _) (Nat.le_refl _) _).block w.heap.size (by simp))
  have hB2 : Below w.heap.size w ((w.alloc (.cells #[.int .i64 c.fi, .int .i64 c.ga, .int .i64 c.to, .int .i64 c.le, .int .i64 c.la, .int .i64 c.st, .slice A len cap, .slice A' n cap'] 42)).alloc (.map #[] 0)) := ((Below.refl _ w).alloc (Nat.le_refl _) _).alloc (by simp) _
  have hs2 : ((w.alloc (.cells #[.int .i64 c.fi, .int .i64 c.ga, .int .i64 c.to, .int .i64 c.le, .int .i64 c.la, .int .i64 c.st, .slice A len cap, .slice A' n cap'] 42)).alloc (.map #[] 0)).heap.size = w.heap.size + 2 := by simp
  rw [← rsM_end (lc c) F] at hM0
  generalize ((w.alloc (.cells #[.int .i64 c.fi, .int .i64 c.ga, .int .i64 c.to, .int .i64 c.le, .int .i64 c.la, .int .i64 c.st, .slice A len cap, .slice A' n cap'] 42)).alloc (.map #[] 0)) = w2 at *
  have HM0 := Lib.hid hM0
  have HC := Lib.hid hC0
  have HB2 := Lib.hid hB2
  clear hM0 hC0 hB2 hmm
  try go_wp2_with fail
  go_loopw [4] (fun x wr => RsO c F w w2 n x wr) (fun x _ => (intOf x + 1).toNat)
  case atStart => exact RsO.mk ((n : Int) - 1) 0 (by omega) (by omega) (by go_num) (by omega) (by rw [show ((n : Int) - 1 + 1).toNat = F.length by rw [HFL.out]; omega]; exact HM0) (below_grown (Below.refl _ _) _)
  case round =>
    obtain ⟨i, m, hi1, hi2, rfl, hm1, HM, hg⟩ := hrel
    have hBr : Below w.heap.size w wr := HB2.out.trans (grown_below hg (by omega) (fun k hk => by injection hk; omega))
    have hsr := hg.size
    obtain ⟨⟨q0, q1, q2, q3, q4, q5⟩, q6, q7⟩ := HC.out.block (hg.block w.heap.size (by omega) (by simp))
    have hwr1 : w.heap.size < wr.heap.size := by omega
    by_cases hge : 0 ≤ i
    · obtain ⟨D, rfl⟩ : ∃ D : Nat, i = (D : Int) := ⟨i.toNat, by omega⟩
      have hDl : D < n := by omega
      rw [show ((D : Int) + 1).toNat = D + 1 by omega] at HM
      have c4 := fun W h => C1.out D W h hDl
      rw [HEN.out D hDl] at c4
      have hcz := HZO.out D
      have hco := HON.out D
      rw [HTO.out, HGA.out] at hcz hco
      have HCZ := Lib.hid hcz
      have HCO := Lib.hid hco
      generalize hX : hgt F D = X at *
      clear hcz hco
      by_cases hla : c.to ≤ X + c.le
      · rw [decide_eq_true hla] at c4
        have C4 := Lib.hid c4
        clear c4
        go_wp2_with fail
        refine (C4.out _ hBr).mono ?_
        rintro e w3 ⟨rfl, hb⟩
        have hB3 : Below w.heap.size w w3 := hBr.trans (hb.mono (by omega))
        have hg3 : w2.grownBy w3 (some (w.heap.size + 1)) := hg.andThen (below_grown hb none) (fun j hj => by cases hj)
        have HM3 := Lib.hid (HM.out.block (hb.block (w.heap.size + 1) (by omega)))
        have hs3 := hb.size
        clear hg hb q0 q1 q2 q3 q4 q5 q6 q7
        go_wp2_with (at_mapUpdate; refine wpList_mapv_put (κ := Int) rfl (.tmp 20) (.tmp 21) (.const (.int .i64 1)) 59 rfl lawI Try.underlying59 (fun _ _ => ilit_inj) (fun _ => trivial) rfl HM3.out (by unfold maxLen; omega) (D : Int) (1) _ _ rfl rfl (keyOf_int_mk Try.underlying3 (WalkArith.wf_i64 (by omega))) (plainElem_int Try.underlying3 (by decide)) ?_; intro w6 hM6 hg7; go_frame)
        have HM4 : Hid (MapI w6 (w.heap.size + 1) (m + 1) (accM (rsM (lc c) F (D + 1)) D 1)) := Lib.hid (by
          have := acc_upd (rsM (lc c) F (D + 1)) D 0 1 (by omega)
          rw [rsM_acc] at this
          rw [← this]; exact hM6)
        have hg5 : w2.grownBy w6 (some (w.heap.size + 1)) := hg3.andThen hg7 (fun j hj => by injection hj with hj; right; rw [hj])
        have HCA : Hid (LcAt (lc c) F D (D + 1) 1) := Lib.hid (HCO.out (by omega))
        clear hM6 hg7
        try go_wp2
        go_loopw [5] (fun x wr => RsI c F w w2 n D x wr) (fun x _ => n - (intOf x).toNat)
        case atStart => exact RsI.mk (D + 1) (m + 1) 1 (by omega) (by omega) (by go_num) (by omega) HM4 HCA hg5
        case round =>
          obtain ⟨K, m', a, hDK, hKn, rfl, hm', HMR, HCR, hg⟩ := hrel
          have hBr : Below w.heap.size w wr := HB2.out.trans (grown_below hg (by omega) (fun k hk => by injection hk; omega))
          have hsr := hg.size
          by_cases hKl : K < n
          · obtain ⟨⟨q0, q1, q2, q3, q4, q5⟩, q6, q7⟩ := HC.out.block (hg.block w.heap.size (by omega) (by simp))
            have c5 := fun W (h : Below w.heap.size w W) => C2.out (D : Int) K W h (by omega) hKl
            have hfd := HAF.out D K (by omega) hKl
            have hsk := fun h => HCR.out.skip (k := K) h
            have hlw := fun h2 h3 h4 => HCR.out.low (k := K) hDK h2 h3 h4
            have hst := fun h2 h3 => HCR.out.stay (k := K) hDK h2 h3
            have hND := HND.out K hKl
            have hS1 : (nd1 (lc c) F K = 0 ∨ aftB c l ds (D : Int) K = false) → LcAt (lc c) F D (K + 1) a := fun h => by
              refine hsk ?_
              rcases h with h | h
              · exact .inl (hND.1 h)
              · rw [hfd] at h
                cases hs : sndB F K
                · exact .inl (hND.2.2 hs)
                · rw [hs, Bool.true_and, decide_eq_true hDK, Bool.true_and] at h
                  exact .inr (of_decide_eq_false h)
            have hT : aftB c l ds (D : Int) K = true → nd1 (lc c) F K = need (lc c) F K ∧ hgt F K - hgt F D ≤ (lc c).ga := fun h => by
              rw [hfd, Bool.and_eq_true, Bool.and_eq_true, decide_eq_true_eq, decide_eq_true_eq] at h
              exact ⟨hND.2.1 h.1, h.2.2⟩
            have hS2 : aftB c l ds (D : Int) K = true → 0 < nd1 (lc c) F K → (a = 0 ∨ nd1 (lc c) F K + 1 < a) → LcAt (lc c) F D (K + 1) (nd1 (lc c) F K + 1) := fun h h2 h3 => by
              obtain ⟨e, h4⟩ := hT h
              rw [e] at h2 h3 ⊢
              exact hlw h4 h2 h3
            have hS3 : aftB c l ds (D : Int) K = true → ¬ (a = 0 ∨ nd1 (lc c) F K + 1 < a) → LcAt (lc c) F D (K + 1) a := fun h h3 => by
              obtain ⟨e, h4⟩ := hT h
              rw [e] at h3
              exact hst h4 h3
            have hNb := nd1_bd (lc c) F K
            have hab := HCR.out.le
            rw [HFL.out] at hNb hab
            have hgetK : ((accM (rsM (lc c) F (D + 1)) (D : Int) a) (K : Int)).getD 0 = nd1 (lc c) F K := by rw [rsM_other hDK (by rw [HFL.out]; exact hKl), rsM_get (by omega) (by rw [HFL.out]; exact hKl)]
            have hsomK : ((accM (rsM (lc c) F (D + 1)) (D : Int) a) (K : Int)).isSome = decide (0 < nd1 (lc c) F K) := by rw [rsM_other hDK (by rw [HFL.out]; exact hKl), rsM_some (by omega) (by rw [HFL.out]; exact hKl)]
            have hgetD := acc_same (rsM (lc c) F (D + 1)) (D : Int) a
            have hup := fun v hv => acc_upd (rsM (lc c) F (D + 1)) (D : Int) a v hv
            have HGK := Lib.hid hgetK
            have HSK := Lib.hid hsomK
            have HGD := Lib.hid hgetD
            have HUP := Lib.hid hup
            have HS1 := Lib.hid hS1
            have HS2 := Lib.hid hS2
            have HS3 := Lib.hid hS3
            have C5 := Lib.hid c5
            generalize nd1 (lc c) F K = N at *
            generalize aftB c l ds (D : Int) K = s at *
            have hwr1 : w.heap.size < wr.heap.size := by omega
            clear c5 hfd hsk hlw hst hgetK hsomK hgetD hup hND hS1 hT hS2 hS3
            have hr1 : (K : Int) < n := by omega
            have hr2 : ¬ n ≤ K := by omega
            by_cases hN0 : N = 0
            · have hN1 : decide (0 < N) = false := decide_eq_false (by omega)
              have h4 := Lib.hid (HS1.out (.inl hN0))
              go_wp2_with (at_lookup; refine wpList_mapv_int_ok rfl (.tmp 32) (.tmp 33) 59 rfl lawI Try.underlying59 Try.underlying3 (zeroI _) rfl HMR.out (K : Int) _ rfl (keyOf_int_mk Try.underlying3 (WalkArith.wf_i64 (by omega))) ?_; rw [HGK.out, HSK.out, hN1])
              go_roundw
              case rel => exact RsI.mk (K + 1) m' a (by omega) (by omega) (by go_num) (by omega) HMR h4 hg
              case measure => simp [intOf]; omega
            · have hN1 : decide (0 < N) = true := decide_eq_true (by omega)
              cases s with
              | false =>
                have h4 := Lib.hid (HS1.out (.inr rfl))
                go_wp2_with (at_lookup; refine wpList_mapv_int_ok rfl (.tmp 32) (.tmp 33) 59 rfl lawI Try.underlying59 Try.underlying3 (zeroI _) rfl HMR.out (K : Int) _ rfl (keyOf_int_mk Try.underlying3 (WalkArith.wf_i64 (by omega))) ?_; rw [HGK.out, HSK.out, hN1])
                refine (C5.out _ hBr).mono ?_
                rintro e w5 ⟨rfl, hb⟩
                have hM5 := Lib.hid (HMR.out.block (hb.block (w.heap.size + 1) (by omega)))
                have hg6 : w2.grownBy w5 (some (w.heap.size + 1)) := hg.andThen (below_grown hb none) (fun j hj => by cases hj)
                go_wp2
                go_roundw
                case rel => exact RsI.mk (K + 1) m' a (by omega) (by omega) (by go_num) (by omega) hM5 h4 hg6
                case measure => simp [intOf]; omega
              | true =>
                rcases Nat.eq_zero_or_pos a with rfl | ha0
                · go_wp2_with (at_lookup; refine wpList_mapv_int_ok rfl (.tmp 32) (.tmp 33) 59 rfl lawI Try.underlying59 Try.underlying3 (zeroI _) rfl HMR.out (K : Int) _ rfl (keyOf_int_mk Try.underlying3 (WalkArith.wf_i64 (by omega))) ?_; rw [HGK.out, HSK.out, hN1])
                  refine (C5.out _ hBr).mono ?_
                  rintro e w5 ⟨rfl, hb⟩
                  have hM5 := Lib.hid (HMR.out.block (hb.block (w.heap.size + 1) (by omega)))
                  have hg6 : w2.grownBy w5 (some (w.heap.size + 1)) := hg.andThen (below_grown hb none) (fun j hj => by cases hj)
                  have hgd0 : Hid (((accM (rsM (lc c) F (D + 1)) (D : Int) 0) (D : Int)).getD 0 = 0) := HGD
                  have h4 := Lib.hid (HS2.out (by first | rfl | trivial) (by omega) (by first | omega | simp))
                  have HU6 : Hid (upd (accM (rsM (lc c) F (D + 1)) (D : Int) 0) (D : Int) ((N : Int) + 1) = accM (rsM (lc c) F (D + 1)) (D : Int) (N + 1)) := Lib.hid (by have := HUP.out (N + 1) (by omega); simpa using this)
                  have hrun : (Instr.lookup 59 (.map (some (w.heap.size + 1))) (.int .i64 (D : Int)) false).run Try.prog w5 = .ok (.int .i64 0) w5 := by have h := hM5.out.run_int lawI Try.underlying59 Try.underlying3 (zeroI _) (D : Int) (keyOf_int_mk Try.underlying3 (WalkArith.wf_i64 (by omega))); rw [hgd0.out] at h; exact h
                  go_wp2_with (at_mapUpdate; refine wpList_mapv_put (κ := Int) rfl (.tmp 58) (.tmp 59) (.tmp 61) 59 rfl lawI Try.underlying59 (fun _ _ => ilit_inj) (fun _ => trivial) rfl hM5.out (by unfold maxLen; omega) (D : Int) ((N : Int) + 1) _ _ rfl rfl (keyOf_int_mk Try.underlying3 (WalkArith.wf_i64 (by omega))) (plainElem_int Try.underlying3 (WalkArith.wf_i64 (by omega))) ?_; intro w6 hM6 hg7; go_frame)
                  have HM7 : Hid (MapI w6 (w.heap.size + 1) (m' + 1) (accM (rsM (lc c) F (D + 1)) D (N + 1))) := Lib.hid (by rw [← HU6.out]; exact hM6)
                  have hg8 : w2.grownBy w6 (some (w.heap.size + 1)) := hg6.andThen hg7 (fun j hj => by injection hj with hj; right; rw [hj])
                  clear hM6 hg7
                  try go_wp2
                  go_roundw
                  case rel => exact RsI.mk (K + 1) (m' + 1) (N + 1) (by omega) (by omega) (by go_num) (by omega) HM7 h4 hg8
                  case measure => simp [intOf]; omega
                · have haz : ((a : Int) == 0) = false := by simp; omega
                  by_cases hl2 : N + 1 < a
                  · go_wp2_with (at_lookup; refine wpList_mapv_int_ok rfl (.tmp 32) (.tmp 33) 59 rfl lawI Try.underlying59 Try.underlying3 (zeroI _) rfl HMR.out (K : Int) _ rfl (keyOf_int_mk Try.underlying3 (WalkArith.wf_i64 (by omega))) ?_; rw [HGK.out, HSK.out, hN1])
                    refine (C5.out _ hBr).mono ?_
                    rintro e w5 ⟨rfl, hb⟩
                    have hM5 := Lib.hid (HMR.out.block (hb.block (w.heap.size + 1) (by omega)))
                    have hg6 : w2.grownBy w5 (some (w.heap.size + 1)) := hg.andThen (below_grown hb none) (fun j hj => by cases hj)
                    have h4 := Lib.hid (HS2.out (by first | rfl | trivial) (by omega) (by first | omega | simp))
                    have HU6 : Hid (upd (accM (rsM (lc c) F (D + 1)) (D : Int) a) (D : Int) ((N : Int) + 1) = accM (rsM (lc c) F (D + 1)) (D : Int) (N + 1)) := Lib.hid (by have := HUP.out (N + 1) (by omega); simpa using this)
                    have hrun : (Instr.lookup 59 (.map (some (w.heap.size + 1))) (.int .i64 (D : Int)) false).run Try.prog w5 = .ok (.int .i64 (a : Int)) w5 := by have h := hM5.out.run_int lawI Try.underlying59 Try.underlying3 (zeroI _) (D : Int) (keyOf_int_mk Try.underlying3 (WalkArith.wf_i64 (by omega))); rw [HGD.out] at h; exact h
                    go_wp2_with (at_mapUpdate; refine wpList_mapv_put (κ := Int) rfl (.tmp 58) (.tmp 59) (.tmp 61) 59 rfl lawI Try.underlying59 (fun _ _ => ilit_inj) (fun _ => trivial) rfl hM5.out (by unfold maxLen; omega) (D : Int) ((N : Int) + 1) _ _ rfl rfl (keyOf_int_mk Try.underlying3 (WalkArith.wf_i64 (by omega))) (plainElem_int Try.underlying3 (WalkArith.wf_i64 (by omega))) ?_; intro w6 hM6 hg7; go_frame)
                    have HM7 : Hid (MapI w6 (w.heap.size + 1) (m' + 1) (accM (rsM (lc c) F (D + 1)) D (N + 1))) := Lib.hid (by rw [← HU6.out]; exact hM6)
                    have hg8 : w2.grownBy w6 (some (w.heap.size + 1)) := hg6.andThen hg7 (fun j hj => by injection hj with hj; right; rw [hj])
                    clear hM6 hg7
                    try go_wp2
                    go_roundw
                    case rel => exact RsI.mk (K + 1) (m' + 1) (N + 1) (by omega) (by omega) (by go_num) (by omega) HM7 h4 hg8
                    case measure => simp [intOf]; omega
                  · go_wp2_with (at_lookup; refine wpList_mapv_int_ok rfl (.tmp 32) (.tmp 33) 59 rfl lawI Try.underlying59 Try.underlying3 (zeroI _) rfl HMR.out (K : Int) _ rfl (keyOf_int_mk Try.underlying3 (WalkArith.wf_i64 (by omega))) ?_; rw [HGK.out, HSK.out, hN1])
                    refine (C5.out _ hBr).mono ?_
                    rintro e w5 ⟨rfl, hb⟩
                    have hM5 := Lib.hid (HMR.out.block (hb.block (w.heap.size + 1) (by omega)))
                    have hg6 : w2.grownBy w5 (some (w.heap.size + 1)) := hg.andThen (below_grown hb none) (fun j hj => by cases hj)
                    have h4 := Lib.hid (HS3.out (by first | rfl | trivial) (by omega))
                    have hrun : (Instr.lookup 59 (.map (some (w.heap.size + 1))) (.int .i64 (D : Int)) false).run Try.prog w5 = .ok (.int .i64 (a : Int)) w5 := by have h := hM5.out.run_int lawI Try.underlying59 Try.underlying3 (zeroI _) (D : Int) (keyOf_int_mk Try.underlying3 (WalkArith.wf_i64 (by omega))); rw [HGD.out] at h; exact h
                    go_wp2_with (fail)
                    go_roundw
                    case rel => exact RsI.mk (K + 1) m' a (by omega) (by omega) (by go_num) (by omega) hM5 h4 hg6
                    case measure => simp [intOf]; omega
          · have hKn2 : K = n := by omega
            have hr1 : ¬ (K : Int) < n := by omega
            have HMN : Hid (MapI wr (w.heap.size + 1) m' (rsM (lc c) F D)) := Lib.hid (by
              have h5 := HMR.out
              have h6 := HCR.out
              rw [hKn2, ← HFL.out] at h6
              rw [h6.done, rsM_next (by rw [HFL.out]; exact hDl)] at h5
              exact h5)
            obtain ⟨⟨q0, q1, q2, q3, q4, q5⟩, q6, q7⟩ := HC.out.block (hg.block w.heap.size (by omega) (by simp))
            have hwr1 : w.heap.size < wr.heap.size := by omega
            clear HMR HCR
            go_wp2
            go_roundw
            case rel => exact RsO.mk ((D : Int) - 1) m' (by omega) (by omega) (by go_num) (by omega) (by rw [show ((D : Int) - 1 + 1).toNat = D by omega]; exact HMN) hg
            case measure => first | (simp [intOf]; done) | (simp [intOf]; omega)
      · rw [decide_eq_false hla] at c4
        have C4 := Lib.hid c4
        clear c4
        go_wp2_with fail
        refine (C4.out _ hBr).mono ?_
        rintro e w3 ⟨rfl, hb⟩
        have hB3 : Below w.heap.size w w3 := hBr.trans (hb.mono (by omega))
        have hg3 : w2.grownBy w3 (some (w.heap.size + 1)) := hg.andThen (below_grown hb none) (fun j hj => by cases hj)
        have HM3 := Lib.hid (HM.out.block (hb.block (w.heap.size + 1) (by omega)))
        have hs3 := hb.size
        clear hg hb q0 q1 q2 q3 q4 q5 q6 q7
        have HM4 : Hid (MapI w3 (w.heap.size + 1) (m + 1) (accM (rsM (lc c) F (D + 1)) D 0)) := Lib.hid (by rw [rsM_acc]; exact HM3.out.mono (by omega))
        have hg5 := hg3
        have HCA : Hid (LcAt (lc c) F D (D + 1) 0) := Lib.hid (HCZ.out (by omega))
        clear HM3 hg3
        go_wp2
        go_loopw [5] (fun x wr => RsI c F w w2 n D x wr) (fun x _ => n - (intOf x).toNat)
        case atStart => exact RsI.mk (D + 1) (m + 1) 0 (by omega) (by omega) (by go_num) (by omega) HM4 HCA hg5
        case round =>
          obtain ⟨K, m', a, hDK, hKn, rfl, hm', HMR, HCR, hg⟩ := hrel
          have hBr : Below w.heap.size w wr := HB2.out.trans (grown_below hg (by omega) (fun k hk => by injection hk; omega))
          have hsr := hg.size
          by_cases hKl : K < n
          · obtain ⟨⟨q0, q1, q2, q3, q4, q5⟩, q6, q7⟩ := HC.out.block (hg.block w.heap.size (by omega) (by simp))
            have c5 := fun W (h : Below w.heap.size w W) => C2.out (D : Int) K W h (by omega) hKl
            have hfd := HAF.out D K (by omega) hKl
            have hsk := fun h => HCR.out.skip (k := K) h
            have hlw := fun h2 h3 h4 => HCR.out.low (k := K) hDK h2 h3 h4
            have hst := fun h2 h3 => HCR.out.stay (k := K) hDK h2 h3
            have hND := HND.out K hKl
            have hS1 : (nd1 (lc c) F K = 0 ∨ aftB c l ds (D : Int) K = false) → LcAt (lc c) F D (K + 1) a := fun h => by
              refine hsk ?_
              rcases h with h | h
              · exact .inl (hND.1 h)
              · rw [hfd] at h
                cases hs : sndB F K
                · exact .inl (hND.2.2 hs)
                · rw [hs, Bool.true_and, decide_eq_true hDK, Bool.true_and] at h
                  exact .inr (of_decide_eq_false h)
            have hT : aftB c l ds (D : Int) K = true → nd1 (lc c) F K = need (lc c) F K ∧ hgt F K - hgt F D ≤ (lc c).ga := fun h => by
              rw [hfd, Bool.and_eq_true, Bool.and_eq_true, decide_eq_true_eq, decide_eq_true_eq] at h
              exact ⟨hND.2.1 h.1, h.2.2⟩
            have hS2 : aftB c l ds (D : Int) K = true → 0 < nd1 (lc c) F K → (a = 0 ∨ nd1 (lc c) F K + 1 < a) → LcAt (lc c) F D (K + 1) (nd1 (lc c) F K + 1) := fun h h2 h3 => by
              obtain ⟨e, h4⟩ := hT h
              rw [e] at h2 h3 ⊢
              exact hlw h4 h2 h3
            have hS3 : aftB c l ds (D : Int) K = true → ¬ (a = 0 ∨ nd1 (lc c) F K + 1 < a) → LcAt (lc c) F D (K + 1) a := fun h h3 => by
              obtain ⟨e, h4⟩ := hT h
              rw [e] at h3
              exact hst h4 h3
            have hNb := nd1_bd (lc c) F K
            have hab := HCR.out.le
            rw [HFL.out] at hNb hab
            have hgetK : ((accM (rsM (lc c) F (D + 1)) (D : Int) a) (K : Int)).getD 0 = nd1 (lc c) F K := by rw [rsM_other hDK (by rw [HFL.out]; exact hKl), rsM_get (by omega) (by rw [HFL.out]; exact hKl)]
            have hsomK : ((accM (rsM (lc c) F (D + 1)) (D : Int) a) (K : Int)).isSome = decide (0 < nd1 (lc c) F K) := by rw [rsM_other hDK (by rw [HFL.out]; exact hKl), rsM_some (by omega) (by rw [HFL.out]; exact hKl)]
            have hgetD := acc_same (rsM (lc c) F (D + 1)) (D : Int) a
            have hup := fun v hv => acc_upd (rsM (lc c) F (D + 1)) (D : Int) a v hv
            have HGK := Lib.hid hgetK
            have HSK := Lib.hid hsomK
            have HGD := Lib.hid hgetD
            have HUP := Lib.hid hup
            have HS1 := Lib.hid hS1
            have HS2 := Lib.hid hS2
            have HS3 := Lib.hid hS3
            have C5 := Lib.hid c5
            generalize nd1 (lc c) F K = N at *
            generalize aftB c l ds (D : Int) K = s at *
            have hwr1 : w.heap.size < wr.heap.size := by omega
            clear c5 hfd hsk hlw hst hgetK hsomK hgetD hup hND hS1 hT hS2 hS3
            have hr1 : (K : Int) < n := by omega
            have hr2 : ¬ n ≤ K := by omega
            by_cases hN0 : N = 0
            · have hN1 : decide (0 < N) = false := decide_eq_false (by omega)
              have h4 := Lib.hid (HS1.out (.inl hN0))
              go_wp2_with (at_lookup; refine wpList_mapv_int_ok rfl (.tmp 32) (.tmp 33) 59 rfl lawI Try.underlying59 Try.underlying3 (zeroI _) rfl HMR.out (K : Int) _ rfl (keyOf_int_mk Try.underlying3 (WalkArith.wf_i64 (by omega))) ?_; rw [HGK.out, HSK.out, hN1])
              go_roundw
              case rel => exact RsI.mk (K + 1) m' a (by omega) (by omega) (by go_num) (by omega) HMR h4 hg
              case measure => simp [intOf]; omega
            · have hN1 : decide (0 < N) = true := decide_eq_true (by omega)
              cases s with
              | false =>
                have h4 := Lib.hid (HS1.out (.inr rfl))
                go_wp2_with (at_lookup; refine wpList_mapv_int_ok rfl (.tmp 32) (.tmp 33) 59 rfl lawI Try.underlying59 Try.underlying3 (zeroI _) rfl HMR.out (K : Int) _ rfl (keyOf_int_mk Try.underlying3 (WalkArith.wf_i64 (by omega))) ?_; rw [HGK.out, HSK.out, hN1])
                refine (C5.out _ hBr).mono ?_
                rintro e w5 ⟨rfl, hb⟩
                have hM5 := Lib.hid (HMR.out.block (hb.block (w.heap.size + 1) (by omega)))
                have hg6 : w2.grownBy w5 (some (w.heap.size + 1)) := hg.andThen (below_grown hb none) (fun j hj => by cases hj)
                go_wp2
                go_roundw
                case rel => exact RsI.mk (K + 1) m' a (by omega) (by omega) (by go_num) (by omega) hM5 h4 hg6
                case measure => simp [intOf]; omega
              | true =>
                rcases Nat.eq_zero_or_pos a with rfl | ha0
                · go_wp2_with (at_lookup; refine wpList_mapv_int_ok rfl (.tmp 32) (.tmp 33) 59 rfl lawI Try.underlying59 Try.underlying3 (zeroI _) rfl HMR.out (K : Int) _ rfl (keyOf_int_mk Try.underlying3 (WalkArith.wf_i64 (by omega))) ?_; rw [HGK.out, HSK.out, hN1])
                  refine (C5.out _ hBr).mono ?_
                  rintro e w5 ⟨rfl, hb⟩
                  have hM5 := Lib.hid (HMR.out.block (hb.block (w.heap.size + 1) (by omega)))
                  have hg6 : w2.grownBy w5 (some (w.heap.size + 1)) := hg.andThen (below_grown hb none) (fun j hj => by cases hj)
                  have hgd0 : Hid (((accM (rsM (lc c) F (D + 1)) (D : Int) 0) (D : Int)).getD 0 = 0) := HGD
                  have h4 := Lib.hid (HS2.out (by first | rfl | trivial) (by omega) (by first | omega | simp))
                  have HU6 : Hid (upd (accM (rsM (lc c) F (D + 1)) (D : Int) 0) (D : Int) ((N : Int) + 1) = accM (rsM (lc c) F (D + 1)) (D : Int) (N + 1)) := Lib.hid (by have := HUP.out (N + 1) (by omega); simpa using this)
                  have hrun : (Instr.lookup 59 (.map (some (w.heap.size + 1))) (.int .i64 (D : Int)) false).run Try.prog w5 = .ok (.int .i64 0) w5 := by have h := hM5.out.run_int lawI Try.underlying59 Try.underlying3 (zeroI _) (D : Int) (keyOf_int_mk Try.underlying3 (WalkArith.wf_i64 (by omega))); rw [hgd0.out] at h; exact h
                  go_wp2_with (at_mapUpdate; refine wpList_mapv_put (κ := Int) rfl (.tmp 58) (.tmp 59) (.tmp 61) 59 rfl lawI Try.underlying59 (fun _ _ => ilit_inj) (fun _ => trivial) rfl hM5.out (by unfold maxLen; omega) (D : Int) ((N : Int) + 1) _ _ rfl rfl (keyOf_int_mk Try.underlying3 (WalkArith.wf_i64 (by omega))) (plainElem_int Try.underlying3 (WalkArith.wf_i64 (by omega))) ?_; intro w6 hM6 hg7; go_frame)
                  have HM7 : Hid (MapI w6 (w.heap.size + 1) (m' + 1) (accM (rsM (lc c) F (D + 1)) D (N + 1))) := Lib.hid (by rw [← HU6.out]; exact hM6)
                  have hg8 : w2.grownBy w6 (some (w.heap.size + 1)) := hg6.andThen hg7 (fun j hj => by injection hj with hj; right; rw [hj])
                  clear hM6 hg7
                  try go_wp2
                  go_roundw
                  case rel => exact RsI.mk (K + 1) (m' + 1) (N + 1) (by omega) (by omega) (by go_num) (by omega) HM7 h4 hg8
                  case measure => simp [intOf]; omega
                · have haz : ((a : Int) == 0) = false := by simp; omega
                  by_cases hl2 : N + 1 < a
                  · go_wp2_with (at_lookup; refine wpList_mapv_int_ok rfl (.tmp 32) (.tmp 33) 59 rfl lawI Try.underlying59 Try.underlying3 (zeroI _) rfl HMR.out (K : Int) _ rfl (keyOf_int_mk Try.underlying3 (WalkArith.wf_i64 (by omega))) ?_; rw [HGK.out, HSK.out, hN1])
                    refine (C5.out _ hBr).mono ?_
                    rintro e w5 ⟨rfl, hb⟩
                    have hM5 := Lib.hid (HMR.out.block (hb.block (w.heap.size + 1) (by omega)))
                    have hg6 : w2.grownBy w5 (some (w.heap.size + 1)) := hg.andThen (below_grown hb none) (fun j hj => by cases hj)
                    have h4 := Lib.hid (HS2.out (by first | rfl | trivial) (by omega) (by first | omega | simp))
                    have HU6 : Hid (upd (accM (rsM (lc c) F (D + 1)) (D : Int) a) (D : Int) ((N : Int) + 1) = accM (rsM (lc c) F (D + 1)) (D : Int) (N + 1)) := Lib.hid (by have := HUP.out (N + 1) (by omega); simpa using this)
                    have hrun : (Instr.lookup 59 (.map (some (w.heap.size + 1))) (.int .i64 (D : Int)) false).run Try.prog w5 = .ok (.int .i64 (a : Int)) w5 := by have h := hM5.out.run_int lawI Try.underlying59 Try.underlying3 (zeroI _) (D : Int) (keyOf_int_mk Try.underlying3 (WalkArith.wf_i64 (by omega))); rw [HGD.out] at h; exact h
                    go_wp2_with (at_mapUpdate; refine wpList_mapv_put (κ := Int) rfl (.tmp 58) (.tmp 59) (.tmp 61) 59 rfl lawI Try.underlying59 (fun _ _ => ilit_inj) (fun _ => trivial) rfl hM5.out (by unfold maxLen; omega) (D : Int) ((N : Int) + 1) _ _ rfl rfl (keyOf_int_mk Try.underlying3 (WalkArith.wf_i64 (by omega))) (plainElem_int Try.underlying3 (WalkArith.wf_i64 (by omega))) ?_; intro w6 hM6 hg7; go_frame)
                    have HM7 : Hid (MapI w6 (w.heap.size + 1) (m' + 1) (accM (rsM (lc c) F (D + 1)) D (N + 1))) := Lib.hid (by rw [← HU6.out]; exact hM6)
                    have hg8 : w2.grownBy w6 (some (w.heap.size + 1)) := hg6.andThen hg7 (fun j hj => by injection hj with hj; right; rw [hj])
                    clear hM6 hg7
                    try go_wp2
                    go_roundw
                    case rel => exact RsI.mk (K + 1) (m' + 1) (N + 1) (by omega) (by omega) (by go_num) (by omega) HM7 h4 hg8
                    case measure => simp [intOf]; omega
                  · go_wp2_with (at_lookup; refine wpList_mapv_int_ok rfl (.tmp 32) (.tmp 33) 59 rfl lawI Try.underlying59 Try.underlying3 (zeroI _) rfl HMR.out (K : Int) _ rfl (keyOf_int_mk Try.underlying3 (WalkArith.wf_i64 (by omega))) ?_; rw [HGK.out, HSK.out, hN1])
                    refine (C5.out _ hBr).mono ?_
                    rintro e w5 ⟨rfl, hb⟩
                    have hM5 := Lib.hid (HMR.out.block (hb.block (w.heap.size + 1) (by omega)))
                    have hg6 : w2.grownBy w5 (some (w.heap.size + 1)) := hg.andThen (below_grown hb none) (fun j hj => by cases hj)
                    have h4 := Lib.hid (HS3.out (by first | rfl | trivial) (by omega))
                    have hrun : (Instr.lookup 59 (.map (some (w.heap.size + 1))) (.int .i64 (D : Int)) false).run Try.prog w5 = .ok (.int .i64 (a : Int)) w5 := by have h := hM5.out.run_int lawI Try.underlying59 Try.underlying3 (zeroI _) (D : Int) (keyOf_int_mk Try.underlying3 (WalkArith.wf_i64 (by omega))); rw [HGD.out] at h; exact h
                    go_wp2_with (fail)
                    go_roundw
                    case rel => exact RsI.mk (K + 1) m' a (by omega) (by omega) (by go_num) (by omega) hM5 h4 hg6
                    case measure => simp [intOf]; omega
          · have hKn2 : K = n := by omega
            have hr1 : ¬ (K : Int) < n := by omega
            have HMN : Hid (MapI wr (w.heap.size + 1) m' (rsM (lc c) F D)) := Lib.hid (by
              have h5 := HMR.out
              have h6 := HCR.out
              rw [hKn2, ← HFL.out] at h6
              rw [h6.done, rsM_next (by rw [HFL.out]; exact hDl)] at h5
              exact h5)
            obtain ⟨⟨q0, q1, q2, q3, q4, q5⟩, q6, q7⟩ := HC.out.block (hg.block w.heap.size (by omega) (by simp))
            have hwr1 : w.heap.size < wr.heap.size := by omega
            clear HMR HCR
            go_wp2
            go_roundw
            case rel => exact RsO.mk ((D : Int) - 1) m' (by omega) (by omega) (by go_num) (by omega) (by rw [show ((D : Int) - 1 + 1).toNat = D by omega]; exact HMN) hg
            case measure => first | (simp [intOf]; done) | (simp [intOf]; omega)
    · have hi3 : i = -1 := by omega
      subst hi3
      have HF := HM
      clear HM
      go_wp2_with fail
      go_ret
      exact ⟨⟨_, rfl, ⟨_, HF.out⟩, by omega⟩, hBr⟩
end Go.Proofs.Ytgapnhpmgidmhaa
