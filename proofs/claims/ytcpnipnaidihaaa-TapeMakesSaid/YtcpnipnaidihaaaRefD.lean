/- Tapes: the reference's Same, joinNodes. -/
import Derived.Test.YtcpnipnaidihaaaRefC
set_option linter.unusedSimpArgs false
set_option linter.unusedVariables false
namespace Go.Proofs.Ytcpnipnaidihaaa
open Go.RowKit
attribute [local go_sem] Later.cell Same.cell

set_option maxHeartbeats 2000000 in
/-- Two rows of the same tapes. -/
theorem rSameT_any (A : Option Addr) (len cap : Nat) (A' : Option Addr) (cap' : Nat) (l : List Tp) (w : World) (hm : len ≤ 9223372036854775807) (hx : Rows 3 int3 (0,0,0) w w.heap.size A len l) (hy : Rows 3 int3 (0,0,0) w w.heap.size A' len l) :
    Calls Try.prog 43 #[.slice A len cap, .slice A' len cap'] w fun e w' => e = .returned (.bool true) ∧ Below w.heap.size w w' := by
  have HX := Lib.hid hx
  have HY := Lib.hid hy
  clear hx hy
  go_enter Try.func43, Try.ntmps43
  go_wp2
  go_loopw [5] (fun i wr => ∃ k : Nat, k ≤ len ∧ i = .int .i64 k ∧ Below w.heap.size w wr) (fun i _ => len - (intOf i).toNat)
  case atStart => exact ⟨0, Nat.zero_le _, rfl, Below.refl _ _⟩
  case round =>
    obtain ⟨k, hk, rfl, hB⟩ := hrel
    by_cases hlt : k < len
    · obtain ⟨b, off, rfl, hb0, hc1, hc2, hc3⟩ := rows_tp (HX.out.below hB) k hlt
      obtain ⟨b', off', rfl, hb0', hc1', hc2', hc3'⟩ := rows_tp (HY.out.below hB) k hlt
      have hbs := hB.size
      have hb1 : b < wr.heap.size := by omega
      have hb1' : b' < wr.heap.size := by omega
      generalize tpA l k = T at *
      have hk1 : (k : Int) < len := by omega
      have hk2 : ¬ len ≤ k := by omega
      go_wp2
      (refine wp_region_later (by kernel_rfl) (by kernel_rfl) ?_; (repeat (go_big_quiet_step ((fail)))); refine wpQuiet_nil ?_)
      intro w4 hb
      go_wp2
      go_roundw
      case rel => exact ⟨k + 1, by omega, by go_num, (by repeat (first | exact Below.refl _ _ | assumption | refine Below.setCell ?_ (by first | (simp; done) | (simp; omega) | omega) _ | refine Below.drew ?_ | refine below_drewN ?_ _ | refine Below.alloc ?_ (by first | (simp; done) | (simp; omega) | omega) _ | refine below_alloc ?_ _ | refine below_step ?_ (by assumption)))⟩
      case measure => simp [intOf]; omega
    · go_wp2
      go_ret
      exact ⟨rfl, (by repeat (first | exact Below.refl _ _ | assumption | refine Below.setCell ?_ (by first | (simp; done) | (simp; omega) | omega) _ | refine Below.drew ?_ | refine below_drewN ?_ _ | refine Below.alloc ?_ (by first | (simp; done) | (simp; omega) | omega) _ | refine below_alloc ?_ _ | refine below_step ?_ (by assumption)))⟩
def jnx (a b x : Int) : Int := if x = b then a else x
def jnT (a b : Int) (t : Tp) : Tp := (jnx a b t.1, jnx a b t.2.1, t.2.2)
def jnL (a b : Int) (l : List Tp) (k : Nat) : List Tp := (l.take k).map (jnT a b) ++ l.drop k
theorem tcells_set1 : ∀ (l : List Tp) (k : Nat) (x : Int), k < l.length → (tcells l).set (k * 3) (.int .i64 x) = tcells (l.set k (x, (tpA l k).2.1, (tpA l k).2.2)) := by
  intro l
  induction l with
  | nil => intro k x h; exact absurd h (by simp)
  | cons t l ih =>
    intro k x h
    cases k with
    | zero => simp [tcells, int3, tpA]
    | succ k =>
      have := ih k x (by simpa using h)
      have e1 : (k + 1) * 3 = k * 3 + 1 + 1 + 1 := by omega
      rw [e1]
      simpa [tcells, int3, tpA] using this
theorem tcells_set2 : ∀ (l : List Tp) (k : Nat) (x : Int), k < l.length → (tcells l).set (k * 3 + 1) (.int .i64 x) = tcells (l.set k ((tpA l k).1, x, (tpA l k).2.2)) := by
  intro l
  induction l with
  | nil => intro k x h; exact absurd h (by simp)
  | cons t l ih =>
    intro k x h
    cases k with
    | zero => simp [tcells, int3, tpA]
    | succ k =>
      have := ih k x (by simpa using h)
      have e1 : (k + 1) * 3 + 1 = k * 3 + 1 + 1 + 1 + 1 := by omega
      rw [e1]
      simpa [tcells, int3, tpA] using this
theorem jnL_len (a b : Int) (l : List Tp) (k : Nat) : (jnL a b l k).length = l.length := by unfold jnL; simp; omega
theorem jnL_at {a b : Int} {l : List Tp} {k : Nat} (hk : k < l.length) : tpA (jnL a b l k) k = tpA l k := by
  unfold tpA jnL
  rw [List.getElem?_append_right (by simp; omega), List.getElem?_drop]
  have : k + (k - (List.map (jnT a b) (List.take k l)).length) = k := by simp; omega
  rw [this]
theorem jnL_next {a b : Int} {l : List Tp} {k : Nat} (hk : k < l.length) : (jnL a b l k).set k (jnT a b (tpA l k)) = jnL a b l (k + 1) := by
  unfold jnL
  rw [List.set_append_right _ _ (by simp; omega), take_snoc hk, List.map_append, List.append_assoc]
  congr 1
  have e : k - (List.map (jnT a b) (List.take k l)).length = 0 := by simp; omega
  rw [e, List.drop_eq_getElem_cons hk]
  rfl
theorem tpA_set {l : List Tp} {k : Nat} (hk : k < l.length) (t : Tp) : tpA (l.set k t) k = t := by
  unfold tpA; simp [hk]
/-- The row behind the two tests. -/
theorem own_join {W : World} {base g n cap : Nat} {a b : Int} {l : List Tp} {k : Nat} (hk : k < l.length) (h : W.ownsRow base 59 3 (.slice (some ⟨g, 0, none⟩) n cap) n (tcells (jnL a b l k))) :
    ((tpA l k).1 = b → (tpA l k).2.1 = b → ((W.setCell ⟨g, k * 3, none⟩ (.int .i64 a)).setCell ⟨g, k * 3 + 1, none⟩ (.int .i64 a)).ownsRow base 59 3 (.slice (some ⟨g, 0, none⟩) n cap) n (tcells (jnL a b l (k + 1)))) ∧
    ((tpA l k).1 = b → (tpA l k).2.1 ≠ b → (W.setCell ⟨g, k * 3, none⟩ (.int .i64 a)).ownsRow base 59 3 (.slice (some ⟨g, 0, none⟩) n cap) n (tcells (jnL a b l (k + 1)))) ∧
    ((tpA l k).1 ≠ b → (tpA l k).2.1 = b → (W.setCell ⟨g, k * 3 + 1, none⟩ (.int .i64 a)).ownsRow base 59 3 (.slice (some ⟨g, 0, none⟩) n cap) n (tcells (jnL a b l (k + 1)))) ∧
    ((tpA l k).1 ≠ b → (tpA l k).2.1 ≠ b → W.ownsRow base 59 3 (.slice (some ⟨g, 0, none⟩) n cap) n (tcells (jnL a b l (k + 1)))) := by
  have hkl : k < (jnL a b l k).length := by rw [jnL_len]; exact hk
  have hat := jnL_at (a := a) (b := b) hk
  have hnx := jnL_next (a := a) (b := b) hk
  have s1 := (h.stored (k * 3) (.int .i64 a)).1
  rw [tcells_set1 _ k a hkl, hat] at s1
  have s2 := (h.stored (k * 3 + 1) (.int .i64 a)).1
  rw [tcells_set2 _ k a hkl, hat] at s2
  have s3 := (s1.stored (k * 3 + 1) (.int .i64 a)).1
  rw [tcells_set2 _ k a (by rw [List.length_set]; exact hkl), tpA_set hkl, List.set_set] at s3
  have hself : (jnL a b l k).set k (tpA l k) = jnL a b l k := by
    rw [← hat]
    have e : tpA (jnL a b l k) k = (jnL a b l k)[k] := by unfold tpA; rw [List.getElem?_eq_getElem hkl]; rfl
    rw [e]; exact List.set_getElem_self _
  refine ⟨fun h1 h2 => ?_, fun h1 h2 => ?_, fun h1 h2 => ?_, fun h1 h2 => ?_⟩
  · have e : jnT a b (tpA l k) = (a, a, (tpA l k).2.2) := by unfold jnT jnx; rw [if_pos h1, if_pos h2]
    rw [← hnx, e]; exact s3
  · have e : jnT a b (tpA l k) = (a, (tpA l k).2.1, (tpA l k).2.2) := by unfold jnT jnx; rw [if_pos h1, if_neg h2]
    rw [← hnx, e]; exact s1
  · have e : jnT a b (tpA l k) = ((tpA l k).1, a, (tpA l k).2.2) := by unfold jnT jnx; rw [if_neg h1, if_pos h2]
    rw [← hnx, e]; exact s2
  · have e : jnT a b (tpA l k) = tpA l k := by unfold jnT jnx; rw [if_neg h1, if_neg h2]
    rw [← hnx, e, hself]; exact h
def JoR (w : World) (g n cap : Nat) (a b : Int) (l : List Tp) (i : Value) (W : World) : Prop := ∃ k : Nat, k ≤ n ∧ i = .int .i64 k ∧ W.ownsRow w.heap.size 59 3 (.slice (some ⟨g, 0, none⟩) n cap) n (tcells (jnL a b l k)) ∧ Below w.heap.size w W
theorem JoR.mk {w : World} {g n cap : Nat} {a b : Int} {l : List Tp} {i : Value} {W : World} (k : Nat) (h1 : k ≤ n) (h2 : i = .int .i64 k) (h3 : W.ownsRow w.heap.size 59 3 (.slice (some ⟨g, 0, none⟩) n cap) n (tcells (jnL a b l k))) (h4 : Below w.heap.size w W) : JoR w g n cap a b l i W := ⟨k, h1, h2, h3, h4⟩
set_option maxRecDepth 20000 in
set_option maxHeartbeats 4000000 in
theorem joinN_any (A : Option Addr) (len cap : Nat) (l : List Tp) (a b : Int) (w : World) (hm : len ≤ 10000) (hx : Rows 3 int3 (0,0,0) w w.heap.size A len l) :
    Calls Try.prog 81 #[.slice A len cap, .int .i64 a, .int .i64 b] w fun e w' => (∃ v, e = .returned v ∧ w'.ownsRow w.heap.size 59 3 v len (tcells (l.map (jnT a b)))) ∧ Below w.heap.size w w' := by
  obtain ⟨j0, hj, hy0, hy1, hy2⟩ := info_parts info_tape
  have hn := hx.1
  have HC := Lib.hid hx.cellsT
  have HN := Lib.hid hx.nil'
  have HL := Lib.hid hn
  clear hx
  go_enter Try.func81, Try.ntmps81
  go_wp2_with (at_builtin; refine wpList_append_src rfl _ _ 22 rfl w.heap.size 59 j0 (.agg #[.int .i64 0, .int .i64 0, .int .i64 0]) 3 24 Try.underlying22 hj hy0 hy1 hy2 rfl (by decide) (.slice (some ⟨w.heap.size, 0, none⟩) 0 0) 0 [] rfl (World.ownsRow_made w #[] 0 (Nat.le_refl _) (Nat.zero_le _) rfl) (by simp) A len cap (tcells l) rfl (by rw [tcells_len, hn]) (fun h => HN.out h) ?qc2 (tcells_one l) (by unfold maxLen; omega) (by omega) (by simp) ?_)
  case qc2 =>
    rcases HC.out with h | ⟨b', off', h1, h2⟩
    · exact .inl h
    · exact .inr ⟨b', off', h1, fun j u hj => Lib.cell?_alloc_some _ (h2 j u hj)⟩
  intro v w1 hown hgrow hnil
  have hB1 : Below w.heap.size w w1 := ((Below.refl _ w).alloc (Nat.le_refl _) _).grown hgrow (by simp) (by intro k hk; simp [Value.ownBlock] at hk; omega)
  have ho : w1.ownsRow w.heap.size 59 3 v len (tcells l) := by simpa using hown
  have hv : ∃ g cap', v = .slice (some ⟨g, 0, none⟩) len cap' := by
    rcases ho.2 with ⟨h0, h1⟩ | ⟨g, cap', cur, hv, _⟩
    · exact absurd h0 (by simpa using hnil)
    · exact ⟨g, cap', hv⟩
  obtain ⟨g, cap', rfl⟩ := hv
  have HO := Lib.hid ho
  clear hown hgrow hnil ho hj hy0 hy1 hy2
  go_wp2
  go_loopw [8] (fun i W => JoR w g len cap' a b l i W) (fun i _ => len - (intOf i).toNat)
  case atStart => exact JoR.mk 0 (Nat.zero_le _) rfl HO.out hB1
  case round =>
    obtain ⟨k, hk, rfl, ho, hb⟩ := hrel
    by_cases hlt : k < len
    · have hkl : k < l.length := by rw [HL.out]; exact hlt
      obtain ⟨A3, cap3, hv3, -, -, hR, hgg⟩ := own_tapes ho
      injection hv3 with e1 e2 e3
      subst e1 e3
      obtain ⟨g', hg', hg1, hg2, hfr⟩ := hgg (by omega)
      cases hg'
      obtain ⟨b0, off, hbo, hb0, hc1, hc2, hc3⟩ := rows_tp hR k hlt
      cases hbo
      rw [jnL_at hkl] at hc1 hc2 hc3
      rw [Nat.zero_add] at hc1 hc2 hc3
      obtain ⟨q1, q2, q3, q4⟩ := own_join (a := a) (b := b) hkl ho
      have hf0 := hfr (k * 3)
      have hf1 := hfr (k * 3 + 1)
      have HB := Lib.hid hb
      generalize tpA l k = T at *
      have hk1 : (k : Int) < len := by omega
      clear ho hR hgg hfr HO
      by_cases ha : T.1 = b
      · by_cases hbb : T.2.1 = b
        · have HQ := Lib.hid (q1 ha hbb)
          have ha' : (T.1 == b) = true := by simpa using ha
          have hbb' : (T.2.1 == b) = true := by simpa using hbb
          clear q1 q2 q3 q4 ha hbb
          go_wp2
          go_roundw
          case rel => exact JoR.mk (k + 1) (by omega) (by go_num) HQ.out ((HB.out.setCell hg1 _).setCell hg1 _)
          case measure => simp [intOf]; omega
        · have HQ := Lib.hid (q2 ha hbb)
          have ha' : (T.1 == b) = true := by simpa using ha
          have hbb' : (T.2.1 == b) = false := by simpa using hbb
          clear q1 q2 q3 q4 ha hbb
          go_wp2
          go_roundw
          case rel => exact JoR.mk (k + 1) (by omega) (by go_num) HQ.out (HB.out.setCell hg1 _)
          case measure => simp [intOf]; omega
      · by_cases hbb : T.2.1 = b
        · have HQ := Lib.hid (q3 ha hbb)
          have ha' : (T.1 == b) = false := by simpa using ha
          have hbb' : (T.2.1 == b) = true := by simpa using hbb
          clear q1 q2 q3 q4 ha hbb
          go_wp2
          go_roundw
          case rel => exact JoR.mk (k + 1) (by omega) (by go_num) HQ.out (HB.out.setCell hg1 _)
          case measure => simp [intOf]; omega
        · have HQ := Lib.hid (q4 ha hbb)
          have ha' : (T.1 == b) = false := by simpa using ha
          have hbb' : (T.2.1 == b) = false := by simpa using hbb
          clear q1 q2 q3 q4 ha hbb
          go_wp2
          go_roundw
          case rel => exact JoR.mk (k + 1) (by omega) (by go_num) HQ.out HB.out
          case measure => simp [intOf]; omega
    · have hfin : Hid (wr.ownsRow w.heap.size 59 3 (.slice (some ⟨g, 0, none⟩) len cap') len (tcells (l.map (jnT a b)))) := Lib.hid (by
        have := ho
        unfold jnL at this
        rwa [List.take_of_length_le (by rw [HL.out]; omega), List.drop_eq_nil_of_le (by rw [HL.out]; omega), List.append_nil] at this)
      clear ho
      go_wp2
      go_ret
      exact ⟨⟨_, rfl, hfin.out⟩, hb⟩
end Go.Proofs.Ytcpnipnaidihaaa
