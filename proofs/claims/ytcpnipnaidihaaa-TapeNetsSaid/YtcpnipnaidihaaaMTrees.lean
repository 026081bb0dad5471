/- Joined by merge.py from: RefD SumM RSum RTrees. -/
import Derived.Test.YtcpnipnaidihaaaRefC
import Derived.Test.YtcpnipnaidihaaaNetV
import Derived.Test.YtcpnipnaidihaaaTreesM
import Derived.Deep.DeepCutAuto
set_option linter.unusedSimpArgs false
set_option linter.unusedVariables false
namespace Go.Proofs.Ytcpnipnaidihaaa
open Go.RowKit
attribute [local go_sem] Later.cell Same.cell

set_option maxHeartbeats 2000000 in
/-- Two rows of the same tapes. -/
theorem rSameT_any (A : Option Addr) (len cap : Nat) (A' : Option Addr) (cap' : Nat) (l : List Tp) (w : World) (hm : len ≤ 9223372036854775807) (hx : Rows 3 int3 (0,0,0) w w.heap.size A len l) (hy : Rows 3 int3 (0,0,0) w w.heap.size A' len l) :
    Calls Try.prog 43 #[.slice A len cap, .slice A' len cap'] w fun e w' => e = .returned (.bool true) ∧ Below w.heap.size w w' := by
  have HX := Lib.hid hx
  have HY := Lib.hid hy
  clear hx hy
  go_enter Try.func43, Try.ntmps43
  go_wp2
  go_loopw [5] (fun i wr => ∃ k : Nat, k ≤ len ∧ i = .int .i64 k ∧ Below w.heap.size w wr) (fun i _ => len - (intOf i).toNat)
  case atStart => exact ⟨0, Nat.zero_le _, rfl, Below.refl _ _⟩
  case round =>
    obtain ⟨k, hk, rfl, hB⟩ := hrel
    by_cases hlt : k < len
    · obtain ⟨b, off, rfl, hb0, hc1, hc2, hc3⟩ := rows_tp (HX.out.below hB) k hlt
      obtain ⟨b', off', rfl, hb0', hc1', hc2', hc3'⟩ := rows_tp (HY.out.below hB) k hlt
      have hbs := hB.size
      have hb1 : b < wr.heap.size := by omega
      have hb1' : b' < wr.heap.size := by omega
      generalize tpA l k = T at *
      have hk1 : (k : Int) < len := by omega
      have hk2 : ¬ len ≤ k := by omega
      go_wp2
      (refine wp_region_later (by kernel_rfl) (by kernel_rfl) ?_; (repeat (go_big_quiet_step ((fail)))); refine wpQuiet_nil ?_)
      intro w4 hb
      go_wp2
      go_roundw
      case rel => exact ⟨k + 1, by omega, by go_num, (by repeat (first | exact Below.refl _ _ | assumption | refine Below.setCell ?_ (by first | (simp; done) | (simp; omega) | omega) _ | refine Below.drew ?_ | refine below_drewN ?_ _ | refine Below.alloc ?_ (by first | (simp; done) | (simp; omega) | omega) _ | refine below_alloc ?_ _ | refine below_step ?_ (by assumption)))⟩
      case measure => simp [intOf]; omega
    · go_wp2
      go_ret
      exact ⟨rfl, (by repeat (first | exact Below.refl _ _ | assumption | refine Below.setCell ?_ (by first | (simp; done) | (simp; omega) | omega) _ | refine Below.drew ?_ | refine below_drewN ?_ _ | refine Below.alloc ?_ (by first | (simp; done) | (simp; omega) | omega) _ | refine below_alloc ?_ _ | refine below_step ?_ (by assumption)))⟩
def jnx (a b x : Int) : Int := if x = b then a else x
def jnT (a b : Int) (t : Tp) : Tp := (jnx a b t.1, jnx a b t.2.1, t.2.2)
def jnL (a b : Int) (l : List Tp) (k : Nat) : List Tp := (l.take k).map (jnT a b) ++ l.drop k
theorem tcells_set1 : ∀ (l : List Tp) (k : Nat) (x : Int), k < l.length → (tcells l).set (k * 3) (.int .i64 x) = tcells (l.set k (x, (tpA l k).2.1, (tpA l k).2.2)) := by
  intro l
  induction l with
  | nil => intro k x h; exact absurd h (by simp)
  | cons t l ih =>
    intro k x h
    cases k with
    | zero => simp [tcells, int3, tpA]
    | succ k =>
      have := ih k x (by simpa using h)
      have e1 : (k + 1) * 3 = k * 3 + 1 + 1 + 1 := by omega
      rw [e1]
      simpa [tcells, int3, tpA] using this
theorem tcells_set2 : ∀ (l : List Tp) (k : Nat) (x : Int), k < l.length → (tcells l).set (k * 3 + 1) (.int .i64 x) = tcells (l.set k ((tpA l k).1, x, (tpA l k).2.2)) := by
  intro l
  induction l with
  | nil => intro k x h; exact absurd h (by simp)
  | cons t l ih =>
    intro k x h
    cases k with
    | zero => simp [tcells, int3, tpA]
    | succ k =>
      have := ih k x (by simpa using h)
      have e1 : (k + 1) * 3 + 1 = k * 3 + 1 + 1 + 1 + 1 := by omega
      rw [e1]
      simpa [tcells, int3, tpA] using this
theorem jnL_len (a b : Int) (l : List Tp) (k : Nat) : (jnL a b l k).length = l.length := by unfold jnL; simp; omega
theorem jnL_at {a b : Int} {l : List Tp} {k : Nat} (hk : k < l.length) : tpA (jnL a b l k) k = tpA l k := by
  unfold tpA jnL
  rw [List.getElem?_append_right (by simp; omega), List.getElem?_drop]
  have : k + (k - (List.map (jnT a b) (List.take k l)).length) = k := by simp; omega
  rw [this]
theorem jnL_next {a b : Int} {l : List Tp} {k : Nat} (hk : k < l.length) : (jnL a b l k).set k (jnT a b (tpA l k)) = jnL a b l (k + 1) := by
  unfold jnL
  rw [List.set_append_right _ _ (by simp; omega), take_snoc hk, List.map_append, List.append_assoc]
  congr 1
  have e : k - (List.map (jnT a b) (List.take k l)).length = 0 := by simp; omega
  rw [e, List.drop_eq_getElem_cons hk]
  rfl
theorem tpA_set {l : List Tp} {k : Nat} (hk : k < l.length) (t : Tp) : tpA (l.set k t) k = t := by
  unfold tpA; simp [hk]
/-- The row behind the two tests. -/
theorem own_join {W : World} {base g n cap : Nat} {a b : Int} {l : List Tp} {k : Nat} (hk : k < l.length) (h : W.ownsRow base 59 3 (.slice (some ⟨g, 0, none⟩) n cap) n (tcells (jnL a b l k))) :
    ((tpA l k).1 = b → (tpA l k).2.1 = b → ((W.setCell ⟨g, k * 3, none⟩ (.int .i64 a)).setCell ⟨g, k * 3 + 1, none⟩ (.int .i64 a)).ownsRow base 59 3 (.slice (some ⟨g, 0, none⟩) n cap) n (tcells (jnL a b l (k + 1)))) ∧
    ((tpA l k).1 = b → (tpA l k).2.1 ≠ b → (W.setCell ⟨g, k * 3, none⟩ (.int .i64 a)).ownsRow base 59 3 (.slice (some ⟨g, 0, none⟩) n cap) n (tcells (jnL a b l (k + 1)))) ∧
    ((tpA l k).1 ≠ b → (tpA l k).2.1 = b → (W.setCell ⟨g, k * 3 + 1, none⟩ (.int .i64 a)).ownsRow base 59 3 (.slice (some ⟨g, 0, none⟩) n cap) n (tcells (jnL a b l (k + 1)))) ∧
    ((tpA l k).1 ≠ b → (tpA l k).2.1 ≠ b → W.ownsRow base 59 3 (.slice (some ⟨g, 0, none⟩) n cap) n (tcells (jnL a b l (k + 1)))) := by
  have hkl : k < (jnL a b l k).length := by rw [jnL_len]; exact hk
  have hat := jnL_at (a := a) (b := b) hk
  have hnx := jnL_next (a := a) (b := b) hk
  have s1 := (h.stored (k * 3) (.int .i64 a)).1
  rw [tcells_set1 _ k a hkl, hat] at s1
  have s2 := (h.stored (k * 3 + 1) (.int .i64 a)).1
  rw [tcells_set2 _ k a hkl, hat] at s2
  have s3 := (s1.stored (k * 3 + 1) (.int .i64 a)).1
  rw [tcells_set2 _ k a (by rw [List.length_set]; exact hkl), tpA_set hkl, List.set_set] at s3
  have hself : (jnL a b l k).set k (tpA l k) = jnL a b l k := by
    rw [← hat]
    have e : tpA (jnL a b l k) k = (jnL a b l k)[k] := by unfold tpA; rw [List.getElem?_eq_getElem hkl]; rfl
    rw [e]; exact List.set_getElem_self _
  refine ⟨fun h1 h2 => ?_, fun h1 h2 => ?_, fun h1 h2 => ?_, fun h1 h2 => ?_⟩
  · have e : jnT a b (tpA l k) = (a, a, (tpA l k).2.2) := by unfold jnT jnx; rw [if_pos h1, if_pos h2]
    rw [← hnx, e]; exact s3
  · have e : jnT a b (tpA l k) = (a, (tpA l k).2.1, (tpA l k).2.2) := by unfold jnT jnx; rw [if_pos h1, if_neg h2]
    rw [← hnx, e]; exact s1
  · have e : jnT a b (tpA l k) = ((tpA l k).1, a, (tpA l k).2.2) := by unfold jnT jnx; rw [if_neg h1, if_pos h2]
    rw [← hnx, e]; exact s2
  · have e : jnT a b (tpA l k) = tpA l k := by unfold jnT jnx; rw [if_neg h1, if_neg h2]
    rw [← hnx, e, hself]; exact h
def JoR (w : World) (g n cap : Nat) (a b : Int) (l : List Tp) (i : Value) (W : World) : Prop := ∃ k : Nat, k ≤ n ∧ i = .int .i64 k ∧ W.ownsRow w.heap.size 59 3 (.slice (some ⟨g, 0, none⟩) n cap) n (tcells (jnL a b l k)) ∧ Below w.heap.size w W
theorem JoR.mk {w : World} {g n cap : Nat} {a b : Int} {l : List Tp} {i : Value} {W : World} (k : Nat) (h1 : k ≤ n) (h2 : i = .int .i64 k) (h3 : W.ownsRow w.heap.size 59 3 (.slice (some ⟨g, 0, none⟩) n cap) n (tcells (jnL a b l k))) (h4 : Below w.heap.size w W) : JoR w g n cap a b l i W := ⟨k, h1, h2, h3, h4⟩
set_option maxRecDepth 20000 in
set_option maxHeartbeats 4000000 in
theorem joinN_any (A : Option Addr) (len cap : Nat) (l : List Tp) (a b : Int) (w : World) (hm : len ≤ 10000) (hx : Rows 3 int3 (0,0,0) w w.heap.size A len l) :
    Calls Try.prog 81 #[.slice A len cap, .int .i64 a, .int .i64 b] w fun e w' => (∃ v, e = .returned v ∧ w'.ownsRow w.heap.size 59 3 v len (tcells (l.map (jnT a b)))) ∧ Below w.heap.size w w' := by
  obtain ⟨j0, hj, hy0, hy1, hy2⟩ := info_parts info_tape
  have hn := hx.1
  have HC := Lib.hid hx.cellsT
  have HN := Lib.hid hx.nil'
  have HL := Lib.hid hn
  clear hx
  go_enter Try.func81, Try.ntmps81
  go_wp2_with (at_builtin; refine wpList_append_src rfl _ _ 22 rfl w.heap.size 59 j0 (.agg #[.int .i64 0, .int .i64 0, .int .i64 0]) 3 24 Try.underlying22 hj hy0 hy1 hy2 rfl (by decide) (.slice (some ⟨w.heap.size, 0, none⟩) 0 0) 0 [] rfl (World.ownsRow_made w #[] 0 (Nat.le_refl _) (Nat.zero_le _) rfl) (by simp) A len cap (tcells l) rfl (by rw [tcells_len, hn]) (fun h => HN.out h) ?qc2 (tcells_one l) (by unfold maxLen; omega) (by omega) (by simp) ?_)
  case qc2 =>
    rcases HC.out with h | ⟨b', off', h1, h2⟩
    · exact .inl h
    · exact .inr ⟨b', off', h1, fun j u hj => Lib.cell?_alloc_some _ (h2 j u hj)⟩
  intro v w1 hown hgrow hnil
  have hB1 : Below w.heap.size w w1 := ((Below.refl _ w).alloc (Nat.le_refl _) _).grown hgrow (by simp) (by intro k hk; simp [Value.ownBlock] at hk; omega)
  have ho : w1.ownsRow w.heap.size 59 3 v len (tcells l) := by simpa using hown
  have hv : ∃ g cap', v = .slice (some ⟨g, 0, none⟩) len cap' := by
    rcases ho.2 with ⟨h0, h1⟩ | ⟨g, cap', cur, hv, _⟩
    · exact absurd h0 (by simpa using hnil)
    · exact ⟨g, cap', hv⟩
  obtain ⟨g, cap', rfl⟩ := hv
  have HO := Lib.hid ho
  clear hown hgrow hnil ho hj hy0 hy1 hy2
  go_wp2
  go_loopw [8] (fun i W => JoR w g len cap' a b l i W) (fun i _ => len - (intOf i).toNat)
  case atStart => exact JoR.mk 0 (Nat.zero_le _) rfl HO.out hB1
  case round =>
    obtain ⟨k, hk, rfl, ho, hb⟩ := hrel
    by_cases hlt : k < len
    · have hkl : k < l.length := by rw [HL.out]; exact hlt
      obtain ⟨A3, cap3, hv3, -, -, hR, hgg⟩ := own_tapes ho
      injection hv3 with e1 e2 e3
      subst e1 e3
      obtain ⟨g', hg', hg1, hg2, hfr⟩ := hgg (by omega)
      cases hg'
      obtain ⟨b0, off, hbo, hb0, hc1, hc2, hc3⟩ := rows_tp hR k hlt
      cases hbo
      rw [jnL_at hkl] at hc1 hc2 hc3
      rw [Nat.zero_add] at hc1 hc2 hc3
      obtain ⟨q1, q2, q3, q4⟩ := own_join (a := a) (b := b) hkl ho
      have hf0 := hfr (k * 3)
      have hf1 := hfr (k * 3 + 1)
      have HB := Lib.hid hb
      generalize tpA l k = T at *
      have hk1 : (k : Int) < len := by omega
      clear ho hR hgg hfr HO
      by_cases ha : T.1 = b
      · by_cases hbb : T.2.1 = b
        · have HQ := Lib.hid (q1 ha hbb)
          have ha' : (T.1 == b) = true := by simpa using ha
          have hbb' : (T.2.1 == b) = true := by simpa using hbb
          clear q1 q2 q3 q4 ha hbb
          go_wp2
          go_roundw
          case rel => exact JoR.mk (k + 1) (by omega) (by go_num) HQ.out ((HB.out.setCell hg1 _).setCell hg1 _)
          case measure => simp [intOf]; omega
        · have HQ := Lib.hid (q2 ha hbb)
          have ha' : (T.1 == b) = true := by simpa using ha
          have hbb' : (T.2.1 == b) = false := by simpa using hbb
          clear q1 q2 q3 q4 ha hbb
          go_wp2
          go_roundw
          case rel => exact JoR.mk (k + 1) (by omega) (by go_num) HQ.out (HB.out.setCell hg1 _)
          case measure => simp [intOf]; omega
      · by_cases hbb : T.2.1 = b
        · have HQ := Lib.hid (q3 ha hbb)
          have ha' : (T.1 == b) = false := by simpa using ha
          have hbb' : (T.2.1 == b) = true := by simpa using hbb
          clear q1 q2 q3 q4 ha hbb
          go_wp2
          go_roundw
          case rel => exact JoR.mk (k + 1) (by omega) (by go_num) HQ.out (HB.out.setCell hg1 _)
          case measure => simp [intOf]; omega
        · have HQ := Lib.hid (q4 ha hbb)
          have ha' : (T.1 == b) = false := by simpa using ha
          have hbb' : (T.2.1 == b) = false := by simpa using hbb
          clear q1 q2 q3 q4 ha hbb
          go_wp2
          go_roundw
          case rel => exact JoR.mk (k + 1) (by omega) (by go_num) HQ.out HB.out
          case measure => simp [intOf]; omega
    · have hfin : Hid (wr.ownsRow w.heap.size 59 3 (.slice (some ⟨g, 0, none⟩) len cap') len (tcells (l.map (jnT a b)))) := Lib.hid (by
        have := ho
        unfold jnL at this
        rwa [List.take_of_length_le (by rw [HL.out]; omega), List.drop_eq_nil_of_le (by rw [HL.out]; omega), List.append_nil] at this)
      clear ho
      go_wp2
      go_ret
      exact ⟨⟨_, rfl, hfin.out⟩, hb⟩
end Go.Proofs.Ytcpnipnaidihaaa

namespace Go.Proofs.Ytcpnipnaidihaaa

def jx (a b x : Int) : Int := if x = b then a else x
def jT (a b : Int) (t : Tp) : Tp := (jx a b t.1, jx a b t.2.1, t.2.2)
def sumF (wt : Bool) : Nat → Int → List Tp → Int
  | 0, c, _ => if c = 1 then 1 else 0
  | _ + 1, c, [] => if c = 1 then 1 else 0
  | m + 1, c, t :: l => (if wt = true then t.2.2 else 1) * sumF wt m c l + (if t.1 = t.2.1 then 0 else sumF wt m (c - 1) (l.map (jT t.1 t.2.1)))
/-- Tapes with nodes and ohms in their bounds, their ends in any order. -/
def tok (l : List Tp) : Prop := ∀ t, t ∈ l → nod t.1 ∧ nod t.2.1 ∧ 1 ≤ t.2.2 ∧ t.2.2 ≤ 60
theorem tok_of {l : List Tp} (h : okL l) : tok l := fun t ht => ⟨(h t ht).1, (h t ht).2.1, (h t ht).2.2.2.1, (h t ht).2.2.2.2⟩
theorem tok_tail {t : Tp} {l : List Tp} (h : tok (t :: l)) : tok l := fun u hu => h u (List.mem_cons_of_mem _ hu)
theorem tok_join {l : List Tp} (h : tok l) {a b : Int} (ha : nod a) : tok (l.map (jT a b)) := by
  intro u hu
  obtain ⟨t, ht, rfl⟩ := List.mem_map.1 hu
  obtain ⟨h1, h2, h3, h4⟩ := h t ht
  refine ⟨?_, ?_, h3, h4⟩
  · show nod (jx a b t.1); unfold jx; split <;> assumption
  · show nod (jx a b t.2.1); unfold jx; split <;> assumption
theorem sumF_bd (wt : Bool) : ∀ (m : Nat) (c : Int) (l : List Tp), tok l → 0 ≤ sumF wt m c l ∧ sumF wt m c l ≤ 61 ^ m := by
  have hone : ∀ m : Nat, (1 : Int) ≤ 61 ^ m := by
    intro m
    induction m with
    | zero => exact Int.le_refl _
    | succ m ih => rw [Int.pow_succ]; omega
  intro m
  induction m with
  | zero => intro c l _; show 0 ≤ (if c = 1 then (1 : Int) else 0) ∧ (if c = 1 then (1 : Int) else 0) ≤ 1; split <;> omega
  | succ m ih =>
    intro c l hl
    have h61 := hone (m + 1)
    cases l with
    | nil => show 0 ≤ (if c = 1 then (1 : Int) else 0) ∧ (if c = 1 then (1 : Int) else 0) ≤ _; split <;> omega
    | cons t l =>
      obtain ⟨h1, h2, h3, h4⟩ := hl t (List.mem_cons_self ..)
      have i1 := ih c l (tok_tail hl)
      have i2 := ih (c - 1) (l.map (jT t.1 t.2.1)) (tok_join (tok_tail hl) h1)
      have hw : 1 ≤ (if wt = true then t.2.2 else 1) ∧ (if wt = true then t.2.2 else 1) ≤ 60 := by split <;> omega
      show 0 ≤ (if wt = true then t.2.2 else 1) * sumF wt m c l + _ ∧ (if wt = true then t.2.2 else 1) * sumF wt m c l + _ ≤ _
      generalize (if wt = true then t.2.2 else 1) = w at *
      have a1 : 0 ≤ w * sumF wt m c l := Int.mul_nonneg (by omega) i1.1
      have a2 : w * sumF wt m c l ≤ 60 * 61 ^ m := Int.mul_le_mul hw.2 i1.2 i1.1 (by omega)
      rw [Int.pow_succ]
      split <;> omega
theorem sumF_ohm1 : ∀ (m : Nat) (c : Int) (l : List Tp), sumF false m c l = sumF true m c (l.map ohm1) := by
  intro m
  induction m with
  | zero => intro c l; rfl
  | succ m ih =>
    intro c l
    cases l with
    | nil => rfl
    | cons t l =>
      show 1 * sumF false m c l + (if t.1 = t.2.1 then 0 else sumF false m (c - 1) (l.map (jT t.1 t.2.1))) = 1 * sumF true m c (l.map ohm1) + (if t.1 = t.2.1 then 0 else sumF true m (c - 1) ((l.map ohm1).map (jT t.1 t.2.1)))
      rw [ih, ih, List.map_map, List.map_map]
      rfl
def rn (σ : Int → Int) (t : Tp) : Tp := (σ t.1, σ t.2.1, t.2.2)
theorem jx_iff {a b x y : Int} : jx a b x = jx a b y ↔ (x = y ∨ ((x = a ∨ x = b) ∧ (y = a ∨ y = b))) := by
  unfold jx; split <;> split <;> omega
theorem sumF_lab : ∀ (l : List Tp) (c : Int) (σ : Int → Int) (r : List Int), (∀ t, t ∈ l → nod t.1 ∧ nod t.2.1) → r.length = 6 → (∀ x y, nod x → nod y → (at6 r x = at6 r y ↔ σ x = σ y)) →
    sumF true l.length c (l.map (rn σ)) = if 1 ≤ c then sumL tt (c - 1).toNat l r else 0 := by
  intro l
  induction l with
  | nil =>
    intro c σ r _ _ _
    show (if c = 1 then (1 : Int) else 0) = if 1 ≤ c then (if (c - 1).toNat = 0 ∧ true = true then 1 else 0) else 0
    by_cases h : c = 1
    · subst h; rfl
    · rw [if_neg h]
      split
      · rw [if_neg (fun h2 => by have := h2.1; omega)]
      · rfl
  | cons t l ih =>
    intro c σ r hl hr hσ
    obtain ⟨t1, t2⟩ := hl t (List.mem_cons_self ..)
    have hl' := fun u hu => hl u (List.mem_cons_of_mem _ hu)
    show t.2.2 * sumF true l.length c (l.map (rn σ)) + (if σ t.1 = σ t.2.1 then 0 else sumF true l.length (c - 1) ((l.map (rn σ)).map (jT (σ t.1) (σ t.2.1)))) = _
    have e : (l.map (rn σ)).map (jT (σ t.1) (σ t.2.1)) = l.map (rn (fun x => jx (σ t.1) (σ t.2.1) (σ x))) := by rw [List.map_map]; rfl
    rw [e, ih c σ r hl' hr hσ, ih (c - 1) _ (mgL r t) hl' (by rw [mgL_len]; exact hr) (fun x y hx hy => by
      rw [mgL_iff hr hx hy, hσ x y hx hy, hσ x _ hx t1, hσ x _ hx t2, hσ y _ hy t1, hσ y _ hy t2, jx_iff])]
    by_cases hc : 1 ≤ c
    · rw [if_pos hc, if_pos hc, sumL_cons]
      congr 1
      by_cases he : at6 r t.1 = at6 r t.2.1
      · rw [if_pos he, if_pos ((hσ _ _ t1 t2).1 he)]
      · rw [if_neg he, if_neg (fun h => he ((hσ _ _ t1 t2).2 h))]
        by_cases hc1 : 1 ≤ c - 1
        · rw [if_pos hc1]
          have : (c - 1).toNat = (c - 1 - 1).toNat + 1 := by omega
          rw [this]; rfl
        · rw [if_neg hc1]
          have : (c - 1).toNat = 0 := by omega
          rw [this]; rfl
    · have h2 : ¬ 1 ≤ c - 1 := by omega
      rw [if_neg hc, if_neg hc, Int.mul_zero]
      simp only [if_neg h2]
      split <;> rfl
/-- The reference's count of trees. -/
theorem sumF_trees {l : List Tp} (hl : okL l) {n : Int} (hn : 1 ≤ n) : sumF false l.length n l = cT (n - 1).toNat l := by
  rw [sumF_ohm1]
  have h := sumF_lab (l.map ohm1) n (fun x => x) R0 (fun t ht => ⟨(ohm1_ok hl t ht).1, (ohm1_ok hl t ht).2.1⟩) rfl (fun x y hx hy => by rw [at6_R0 hx, at6_R0 hy])
  rw [if_pos hn, List.length_map] at h
  unfold cT
  rw [← h]
  congr 1
  exact (List.map_id _).symm.trans (List.map_congr_left (fun t _ => rfl))
end Go.Proofs.Ytcpnipnaidihaaa

namespace Go.Proofs.Ytcpnipnaidihaaa
open Go.RowKit
attribute [local go_sem] Later.cell Same.cell

def isPs (v : Value) (zb : Nat) : Prop := v = .pointer (some ⟨zb, 0, none⟩)
/-- A tape that lies in a block made later than the world w. -/
def TJ (w : World) (T : Tp) (tb : Nat) (W : World) : Prop := Below w.heap.size w W ∧ w.heap.size ≤ tb ∧ tb < W.heap.size ∧ W.cell? ⟨tb, 0, none⟩ = some (.int .i64 T.1) ∧ W.cell? ⟨tb, 1, none⟩ = some (.int .i64 T.2.1) ∧ W.cell? ⟨tb, 2, none⟩ = some (.int .i64 T.2.2)
theorem TJ.later {w W W' : World} {T : Tp} {tb : Nat} (h : TJ w T tb W) (hb : Below W.heap.size W W') : TJ w T tb W' := by
  obtain ⟨h1, h2, h3, h4, h5, h6⟩ := h
  refine ⟨below_step h1 hb, h2, Nat.lt_of_lt_of_le h3 hb.size, ?_, ?_, ?_⟩
  · exact (hb.cell (p := ⟨tb, 0, none⟩) h3).trans h4
  · exact (hb.cell (p := ⟨tb, 1, none⟩) h3).trans h5
  · exact (hb.cell (p := ⟨tb, 2, none⟩) h3).trans h6
theorem rows_tail {w : World} {B : Nat} {b off n cap : Nat} {t : Tp} {l : List Tp} (h : Rows 3 int3 (0,0,0) w B (some ⟨b, off, none⟩) (n + 1) (t :: l)) : Rows 3 int3 (0,0,0) w B (if cap = 1 then some ⟨b, off, none⟩ else some ⟨b, off + 3, none⟩) n l ∨ cap = 1 ∧ n ≠ 0 := by
  by_cases hc : cap = 1
  · by_cases hn : n = 0
    · left; subst hn; exact ⟨by have := h.1; simpa using this, fun h0 => absurd h0 (by omega)⟩
    · exact .inr ⟨hc, hn⟩
  · left
    rw [if_neg hc]
    refine ⟨by have := h.1; simpa using this, fun h0 => ?_⟩
    obtain ⟨b', off', h1, h2, h3⟩ := h.2 (by omega)
    cases h1
    refine ⟨b, off + 3, rfl, h2, fun k hk j v hv => ?_⟩
    have := h3 (k + 1) (by omega) j v (by simpa using hv)
    rw [← this]
    congr 2
    rw [Nat.add_mul]; omega
set_option maxRecDepth 20000 in
set_option maxHeartbeats 8000000 in
theorem rsum_any (wt : Bool) : ∀ (m : Nat), m ≤ 10 → ∀ (l : List Tp) (A : Option Addr) (cap : Nat) (c : Int) (w : World), m ≤ cap → tok l → -100 + (m : Int) ≤ c → c ≤ 100 → Rows 3 int3 (0,0,0) w w.heap.size A m l →
    Calls Try.prog 74 #[.int .i64 c, .slice A m cap, .bool wt] w fun e w' => e = .returned (.int .i64 (sumF wt m c l)) ∧ Below w.heap.size w w' := by
  intro m
  induction m with
  | zero =>
    intro _ l A cap c w _ _ _ _ _
    have hs : sumF wt 0 c l = if c = 1 then 1 else 0 := rfl
    rw [hs]
    by_cases hc : c = 1
    · rw [if_pos hc]
      have hc' : (c == 1) = true := by simpa using hc
      clear hs
      go_enter Try.func74, Try.ntmps74
      go_wp2
      go_ret
      exact ⟨rfl, (by repeat (first | exact Below.refl _ _ | assumption | refine Below.setCell ?_ (by first | (simp; done) | (simp; omega) | omega) _ | refine Below.drew ?_ | refine below_drewN ?_ _ | refine Below.alloc ?_ (by first | (simp; done) | (simp; omega) | omega) _ | refine below_alloc ?_ _ | refine below_step ?_ (by assumption)))⟩
    · rw [if_neg hc]
      have hc' : (c == 1) = false := by simpa using hc
      clear hs
      go_enter Try.func74, Try.ntmps74
      go_wp2
      go_ret
      exact ⟨rfl, (by repeat (first | exact Below.refl _ _ | assumption | refine Below.setCell ?_ (by first | (simp; done) | (simp; omega) | omega) _ | refine Below.drew ?_ | refine below_drewN ?_ _ | refine Below.alloc ?_ (by first | (simp; done) | (simp; omega) | omega) _ | refine below_alloc ?_ _ | refine below_step ?_ (by assumption)))⟩
  | succ m ih =>
    intro hm10 l A cap c w hcap htok hc1 hc2 hx
    obtain ⟨T, l, rfl⟩ : ∃ t l', l = t :: l' := by
      cases l with
      | nil => have := hx.1; simp at this
      | cons t l => exact ⟨t, l, rfl⟩
    obtain ⟨b0, off, rfl, hb0, hq1, hq2, hq3⟩ := rows_tp hx 0 (by omega)
    rw [Nat.zero_mul, Nat.add_zero] at hq1 hq2 hq3
    change w.cell? _ = some (.int .i64 T.1) at hq1
    change w.cell? _ = some (.int .i64 T.2.1) at hq2
    change w.cell? _ = some (.int .i64 T.2.2) at hq3
    have hrt := rows_tail (cap := cap) hx
    obtain ⟨A3, hA3⟩ : ∃ A3 : Option Addr, (if cap = 1 then (some ⟨b0, off, none⟩ : Option Addr) else some ⟨b0, off + 3, none⟩) = A3 := ⟨_, rfl⟩
    rw [hA3] at hrt
    have hrr : Rows 3 int3 (0,0,0) w w.heap.size A3 m l := by
      rcases hrt with h | ⟨h1, h2⟩
      · exact h
      · omega
    obtain ⟨n1, n2, o1, o2⟩ := htok T (List.mem_cons_self ..)
    have htl := tok_tail htok
    have hlen : l.length = m := hrr.1
    have ci := fun (A' : Option Addr) cap' W (h1 : m ≤ cap') hr => ih (by omega) l A' cap' c W h1 htl (by omega) (by omega) hr
    have cj := fun W (h : Below w.heap.size w W) => joinN_any A3 m (cap - 1) l T.1 T.2.1 W (by omega) ((hrr.below h).more h.size)
    have ck := fun (A' : Option Addr) cap' W (h1 : m ≤ cap') hr => ih (by omega) (l.map (jnT T.1 T.2.1)) A' cap' (c - 1) W h1 (tok_join (a := T.1) (b := T.2.1) htl n1) (by omega) (by omega) hr
    have hs : sumF wt (m + 1) c (T :: l) = (if wt = true then T.2.2 else 1) * sumF wt m c l + (if T.1 = T.2.1 then 0 else sumF wt m (c - 1) (l.map (jnT T.1 T.2.1))) := rfl
    have bd1 := sumF_bd wt m c l htl
    have bd2 := sumF_bd wt m (c - 1) (l.map (jnT T.1 T.2.1)) (tok_join (a := T.1) (b := T.2.1) htl n1)
    have bd3 := sumF_bd wt (m + 1) c (T :: l) htok
    have p1 := pow61 (n := m) (by omega)
    have p2 := pow61 (n := m + 1) (by omega)
    rw [hs] at bd3 ⊢
    have hbw : 1 ≤ (if wt = true then T.2.2 else 1) := by split <;> omega
    generalize hwv : (if wt = true then T.2.2 else 1) = by_ at *
    have a1 : 0 ≤ by_ * sumF wt m c l := Int.mul_nonneg (by omega) bd1.1
    have a2 : by_ * sumF wt m c l ≤ 713342911662882601 := by
      split at bd3 <;> omega
    generalize sumF wt m c l = X at *
    generalize sumF wt m (c - 1) (l.map (jnT T.1 T.2.1)) = Y at *
    have hwm : IntKind.i64.wrap (by_ * X) = by_ * X := IntWalk.i64_in _ (by omega)
    have hwc : IntKind.i64.wrap (c - 1) = c - 1 := IntWalk.i64_in _ (by omega)
    obtain ⟨Z, hZ⟩ : ∃ Z, Z = by_ * X + (if T.1 = T.2.1 then 0 else Y) := ⟨_, rfl⟩
    rw [← hZ] at bd3 ⊢
    have HZ := Lib.hid hZ
    clear hZ
    have CI := Lib.hid ci
    have CJ := Lib.hid cj
    have CK := Lib.hid ck
    have HR := Lib.hid hrr
    have HWV := Lib.hid hwv
    clear ci cj ck hrr hrt hs ih htl htok hx bd1 hwv
    obtain ⟨n10, n11⟩ := n1
    obtain ⟨n20, n21⟩ := n2
    have hne : (((m + 1 : Nat) : Int) == 0) = false := by simp; omega
    have hlt1 : decide ((1 : Int) ≤ ((m + 1 : Nat) : Int)) = true := decide_eq_true (by omega)
    have hcp : 1 ≤ cap := by omega
    go_enter Try.func74, Try.ntmps74
    go_upto_region 5 with fail
    go_cut [7, 8] (fun s u wc => ∃ tb, isPs s tb ∧ u = .slice A3 m (cap - 1) ∧ TJ w T tb wc)
    case first =>
      refine wp_region_mix (by kernel_rfl) (by kernel_rfl) ?_
      refine wpC_take (f := 3) (by kernel_rfl) (by kernel_rfl) ⟨⟨_, (Below.refl _ _).drew⟩, rfl⟩ [0, 1, 2, 3, 4] _ _ (by kernel_rfl) ?_
      simp only [List.map_cons, List.map_nil, List.getElem?_toArray, List.getElem?_cons_succ, List.getElem?_cons_zero, Option.getD_some]
      repeat (go_big_quiet_step (fail))
      refine wpQuiet_nil ?_
      have hB : Below w.heap.size w w.drew := (Below.refl _ _).drew
      refine wpC_all (rs := [5]) (by kernel_rfl) (by decide) ?_
      intro i hi
      simp only [List.mem_cons, List.not_mem_nil, or_false] at hi
      subst hi
      refine ⟨_, rfl, ?_⟩
      go_simp
      have hu : Bk (w.alloc (.cells #[.int .i64 0, .int .i64 0, .int .i64 0] 59)).drew w.heap.size #[.int .i64 0, .int .i64 0, .int .i64 0] 59 := (Bk.new w #[.int .i64 0, .int .i64 0, .int .i64 0] 59).later (Below.refl _ _).drew
      have hB : Below w.heap.size w (w.alloc (.cells #[.int .i64 0, .int .i64 0, .int .i64 0] 59)).drew := ((Below.refl _ w).alloc (Nat.le_refl _) _).drew
      generalize (w.alloc (.cells #[.int .i64 0, .int .i64 0, .int .i64 0] 59)).drew = WW0 at *
      refine ⟨⟨⟨_, hB⟩, rfl⟩, ?_⟩
      refine wpC_all (rs := [6]) (by kernel_rfl) (by decide) ?_
      intro i hi
      simp only [List.mem_cons, List.not_mem_nil, or_false] at hi
      subst hi
      refine ⟨_, rfl, ?_⟩
      obtain ⟨z0, f0⟩ := hu.cell 0
      obtain ⟨z1, f1⟩ := hu.cell 1
      obtain ⟨z2, f2⟩ := hu.cell 2
      have hul := hu.lt
      simp at z0 z1 z2
      have hJ : TJ w T w.heap.size (((WW0.setCell ⟨w.heap.size, 0, none⟩ (.int .i64 T.1)).setCell ⟨w.heap.size, 1, none⟩ (.int .i64 T.2.1)).setCell ⟨w.heap.size, 2, none⟩ (.int .i64 T.2.2)) :=
        ⟨((hB.setCell (Nat.le_refl _) _).setCell (Nat.le_refl _) _).setCell (Nat.le_refl _) _, Nat.le_refl _, by simpa using hul, by go_simp, by go_simp, by go_simp⟩
      go_simp
      refine ⟨⟨⟨_, hJ.1⟩, rfl⟩, ?_⟩
      replace hB := hJ.1
      refine wpC_take (f := 0) (by kernel_rfl) (by kernel_rfl) ⟨⟨_, hB⟩, rfl⟩ [7] _ _ (by kernel_rfl) ?_
      simp only [List.map_cons, List.map_nil, List.getElem?_toArray, List.getElem?_cons_succ, List.getElem?_cons_zero, Option.getD_some]
      repeat (go_big_quiet_step (fail))
      refine wpQuiet_nil ?_
      refine wpC_done (by kernel_rfl) ?_
      go_wp2_with fail
      go_meet
      case rel => exact ⟨_, rfl, rfl, hJ⟩
    case rest =>
      obtain ⟨tb, hp, rfl, hJ⟩ := hcut
      unfold isPs at hp
      subst hp
      have HJ := Lib.hid hJ
      obtain ⟨-, hj2, hj3, hj4, hj5, hj6⟩ := hJ
      cases wt
      · have hby : by_ = 1 := HWV.out.symm
        subst hby
        clear HWV
        go_wp2_with fail
        refine (CI.out A3 (cap - 1) _ (by omega) ((HR.out.below HJ.out.1).more HJ.out.1.size)).mono ?_
        rintro e w1 ⟨rfl, hb1⟩
        have HJ1 := Lib.hid (HJ.out.later hb1)
        obtain ⟨-, -, hk3, hk4, hk5, hk6⟩ := HJ1.out
        clear hb1 HJ hj3 hj4 hj5 hj6
        by_cases hAB : T.1 = T.2.1
        · have hz : Z = 1 * X := by rw [HZ.out, if_pos hAB, Int.add_zero]
          subst hz
          have hAB' : (T.1 != T.2.1) = false := by simpa using hAB
          clear hAB
          go_wp2
          go_ret
          exact ⟨ret_int (by first | rfl | simp), HJ1.out.1⟩
        · have hz : Z = 1 * X + Y := by rw [HZ.out, if_neg hAB]
          subst hz
          have hAB' : (T.1 != T.2.1) = true := by simpa using hAB
          have hwa : IntKind.i64.wrap (1 * X + Y) = 1 * X + Y := IntWalk.i64_in _ (by omega)
          have hwa2 : IntKind.i64.wrap (X + Y) = X + Y := IntWalk.i64_in _ (by omega)
          clear hAB
          go_wp2_with fail
          refine (CJ.out _ HJ1.out.1).mono ?_
          rintro e w2 ⟨⟨v5, rfl, ho5⟩, hb2⟩
          obtain ⟨A5, cap5, rfl, hm5, -, hR5, -⟩ := own_tapes ho5
          have HR5 := Lib.hid hR5
          have HB2 := Lib.hid (below_step HJ1.out.1 hb2)
          clear ho5 hR5 hb2
          go_wp2_with fail
          refine (CK.out A5 cap5 _ hm5 HR5.out).mono ?_
          rintro e w3 ⟨rfl, hb3⟩
          have HB3 := Lib.hid (below_step HB2.out hb3)
          clear hb3
          go_wp2
          go_ret
          exact ⟨ret_int (by first | rfl | simp), HB3.out⟩
      · have hby : by_ = T.2.2 := HWV.out.symm
        subst hby
        clear HWV
        go_wp2_with fail
        refine (CI.out A3 (cap - 1) _ (by omega) ((HR.out.below HJ.out.1).more HJ.out.1.size)).mono ?_
        rintro e w1 ⟨rfl, hb1⟩
        have HJ1 := Lib.hid (HJ.out.later hb1)
        obtain ⟨-, -, hk3, hk4, hk5, hk6⟩ := HJ1.out
        clear hb1 HJ hj3 hj4 hj5 hj6
        by_cases hAB : T.1 = T.2.1
        · have hz : Z = T.2.2 * X := by rw [HZ.out, if_pos hAB, Int.add_zero]
          subst hz
          have hAB' : (T.1 != T.2.1) = false := by simpa using hAB
          clear hAB
          go_wp2
          go_ret
          exact ⟨ret_int (by first | rfl | simp), HJ1.out.1⟩
        · have hz : Z = T.2.2 * X + Y := by rw [HZ.out, if_neg hAB]
          subst hz
          have hAB' : (T.1 != T.2.1) = true := by simpa using hAB
          have hwa : IntKind.i64.wrap (T.2.2 * X + Y) = T.2.2 * X + Y := IntWalk.i64_in _ (by omega)
          skip
          clear hAB
          go_wp2_with fail
          refine (CJ.out _ HJ1.out.1).mono ?_
          rintro e w2 ⟨⟨v5, rfl, ho5⟩, hb2⟩
          obtain ⟨A5, cap5, rfl, hm5, -, hR5, -⟩ := own_tapes ho5
          have HR5 := Lib.hid hR5
          have HB2 := Lib.hid (below_step HJ1.out.1 hb2)
          clear ho5 hR5 hb2
          go_wp2_with fail
          refine (CK.out A5 cap5 _ hm5 HR5.out).mono ?_
          rintro e w3 ⟨rfl, hb3⟩
          have HB3 := Lib.hid (below_step HB2.out hb3)
          clear hb3
          go_wp2
          go_ret
          exact ⟨ret_int (by first | rfl | simp), HB3.out⟩
end Go.Proofs.Ytcpnipnaidihaaa

namespace Go.Proofs.Ytcpnipnaidihaaa
open Go.RowKit
attribute [local go_sem] Later.cell Same.cell

set_option maxHeartbeats 2000000 in
theorem rTrees_any (n : Int) (A : Option Addr) (len cap : Nat) (l : List Tp) (w : World) (hcap : len ≤ cap) (hm : len ≤ 9223372036854775807) (hx : Rows 3 int3 (0,0,0) w w.heap.size A len l) :
    Calls Try.prog 35 #[.int .i64 n, .slice A len cap] w fun e w' => e = .returned (.tuple #[.int .i64 (trV n l), .int .i64 (trE n l)]) ∧ Below w.heap.size w w' := by
  have c1 := rValid_any n A len cap l w hm hx
  cases hv : vNet n l
  · have hE : trE n l = 1 := by unfold trE; rw [hv]; rfl
    have hV : trV n l = 0 := by unfold trV; rw [hv]; rfl
    rw [hv] at c1
    rw [hE, hV]
    have C1 := Lib.hid c1
    clear c1 hx hv hE hV
    go_enter Try.func35, Try.ntmps35
    go_wp2_with fail
    refine C1.out.mono ?_
    rintro e w1 ⟨rfl, hb⟩
    go_wp2
    go_ret2
    exact ⟨rfl, hb⟩
  · have hE : trE n l = 0 := by unfold trE; rw [hv]; rfl
    obtain ⟨hn, hlen, hl⟩ := vNet_spec hv
    have hV : trV n l = sumF false len n l := by
      unfold trV; rw [hv, if_pos rfl, trN_cT hv, ← sumF_trees hl hn.1, hx.1]
    rw [hx.1] at hlen
    have c2 := fun W (h : Below w.heap.size w W) => rsum_any false len hlen l A cap n W hcap (tok_of hl) (by omega) (by omega) ((hx.below h).more h.size)
    rw [hv] at c1
    rw [hE, hV]
    generalize sumF false len n l = X at *
    have C1 := Lib.hid c1
    have C2 := Lib.hid c2
    clear c1 c2 hx hv hE hV
    go_enter Try.func35, Try.ntmps35
    go_wp2_with fail
    refine C1.out.mono ?_
    rintro e w1 ⟨rfl, hb⟩
    go_wp2_with fail
    refine (C2.out _ hb).mono ?_
    rintro e w2 ⟨rfl, hb2⟩
    go_wp2
    go_ret2
    exact ⟨rfl, below_step hb hb2⟩
end Go.Proofs.Ytcpnipnaidihaaa
