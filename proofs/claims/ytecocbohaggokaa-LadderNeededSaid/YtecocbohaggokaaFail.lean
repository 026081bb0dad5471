/- Joints of which one failed: the program and the reference; the same joints. -/
import Derived.Test.YtecocbohaggokaaFailM
import Derived.Test.YtecocbohaggokaaNeedR
import Derived.Laws.OwnMore
set_option linter.unusedSimpArgs false
set_option linter.unusedVariables false
namespace Go.Proofs.Ytecocbohaggokaa
open Go.RowKit
attribute [local go_sem] Later.cell

theorem info_joint : (Try.prog.info? 54).map (fun i => (i.zero, i.size, i.bytes)) = some (some (.agg #[.int .i64 0, .bool false]), 2, 16) := by kernel_rfl

set_option maxHeartbeats 2000000 in
theorem cloneJ_any (b off n c : Nat) (l : List J) (w : World) (hm : n ≤ 200) (hx : Rows 2 jointV dJ w w.heap.size (some ⟨b, off, none⟩) n l) :
    Calls Try.prog 74 #[.slice (some ⟨b, off, none⟩) n c] w fun e w' => (∃ v, e = .returned v ∧ w'.ownsRow w.heap.size 54 2 v l.length (jcells l)) ∧ Below w.heap.size w w' := by
  obtain ⟨i0, hi, hz0, hz1, hz2⟩ := info_parts info_joint
  have hn := hx.1
  have q22 := fun W a n k => Lib.run_eql_slice_nil (P := Try.prog) W 24 54 a n k 0 0 Try.underlying24
  have HC := Lib.hid hx.cellsJ
  clear hx
  go_enter Try.func74, Try.ntmps74
  go_wp2_with (at_builtin; refine wpList_append_src rfl _ _ 24 rfl w.heap.size 54 i0 (.agg #[.int .i64 0, .bool false]) 2 16 Try.underlying24 hi hz0 hz1 hz2 rfl (by decide) (.slice (some ⟨w.heap.size, 0, none⟩) 0 0) 0 [] rfl (World.ownsRow_made w #[] 0 (Nat.le_refl _) (Nat.zero_le _) rfl) (by simp) (some ⟨b, off, none⟩) n c (jcells l) rfl (by rw [jcells_len, hn]) (by simp) ?qc2 (jcells_one l) (by unfold maxLen; omega) (by omega) (by simp) ?_)
  case qc2 =>
    rcases HC.out with h | ⟨b', off', h1, h2⟩
    · exact .inl h
    · exact .inr ⟨b', off', h1, fun j u hj => Lib.cell?_alloc_some _ (h2 j u hj)⟩
  intro v' w1 hown hgrow hnil
  have hO := Lib.hid hown
  clear hown
  have hB : Below w.heap.size w w1 := ((Below.refl _ w).alloc (Nat.le_refl _) _).grown hgrow (by simp) (by intro k hk; simp [Value.ownBlock] at hk; omega)
  go_wp2
  go_ret
  exact ⟨⟨v', rfl, by rw [hn]; simpa using hO.out⟩, hB⟩

theorem ownJ_store {w : World} {base g n cap : Nat} {e : TypeId} {l : List J} (h : w.ownsRow base e 2 (.slice (some ⟨g, 0, none⟩) n cap) n (jcells l)) (i : Nat) (hi : i < l.length) :
    (w.setCell ⟨g, i * 2 + 1, none⟩ (.bool false)).ownsRow base e 2 (.slice (some ⟨g, 0, none⟩) n cap) n (jcells (failJ l i)) ∧ w.grownBy (w.setCell ⟨g, i * 2 + 1, none⟩ (.bool false)) (some g) := by
  have := h.stored (i * 2 + 1) (.bool false)
  rw [jcells_set l i hi] at this
  exact this

set_option maxHeartbeats 2000000 in
theorem failed_any (A : Option Addr) (len cap : Nat) (l : List J) (i : Nat) (w : World) (hi : i < len) (hm : len ≤ 200) (hx : Rows 2 jointV dJ w w.heap.size A len l) :
    Calls Try.prog 59 #[.slice A len cap, .int .i64 i] w fun e w' => (∃ v, e = .returned v ∧ w'.ownsRow w.heap.size 54 2 v l.length (jcells (failJ l i))) ∧ Below w.heap.size w w' := by
  obtain ⟨b, off, rfl, hb0, -⟩ := hx.2 (by omega)
  have c1 := cloneJ_any b off len cap l w hm hx
  have hn := hx.1
  have C1 := Lib.hid c1
  clear c1 hx
  go_enter Try.func59, Try.ntmps59
  go_wp2_with fail
  refine C1.out.mono ?_
  rintro e w1 ⟨⟨v, rfl, ho⟩, hb⟩
  rw [hn] at ho
  obtain ⟨A1, k1, rfl, hm1, hm2, hR, hg⟩ := own_joints ho
  obtain ⟨g, rfl, hg1, hg2, hfr⟩ := hg (by omega)
  obtain ⟨hs1, hs2⟩ := ownJ_store ho i (by omega)
  obtain ⟨b', off', hbb, _, hc1, hc2⟩ := hR.atJ i (by omega)
  injection hbb with hbb
  injection hbb with e1 e2 e3
  subst e1 e2
  have hc2' : (w1.cell? ⟨g, i * 2 + 1, none⟩) = some (.bool (sndB l i)) := by simpa using hc2
  have HS := Lib.hid hs1
  have hB : Below w.heap.size w (w1.setCell ⟨g, i * 2 + 1, none⟩ (.bool false)) := hb.trans (grown_below hs2 (by have := hb.size; omega) (fun q hq => by cases hq; exact hg1))
  have HB := Lib.hid hB
  clear hs1 hs2 hR hc1 hc2 ho hB
  have hi' : (i : Int) < len := by omega
  go_wp2
  go_ret
  exact ⟨⟨_, rfl, by first | exact HS.out | (rw [hn]; exact HS.out)⟩, HB.out⟩

set_option maxHeartbeats 2000000 in
theorem rfailed_any (A : Option Addr) (len cap : Nat) (l : List J) (i : Nat) (w : World) (hi : i < len) (hm : len ≤ 200) (hx : Rows 2 jointV dJ w w.heap.size A len l) :
    Calls Try.prog 60 #[.slice A len cap, .int .i64 i] w fun e w' => (∃ v, e = .returned v ∧ w'.ownsRow w.heap.size 54 2 v l.length (jcells (failJ l i))) ∧ Below w.heap.size w w' := by
  obtain ⟨b, off, rfl, hb0, -⟩ := hx.2 (by omega)
  obtain ⟨i0, hi0, hz0, hz1, hz2⟩ := info_parts info_joint
  have hn := hx.1
  have HC := Lib.hid hx.cellsJ
  clear hx
  go_enter Try.func60, Try.ntmps60
  go_wp2_with (at_builtin; refine wpList_append_src rfl _ _ 24 rfl w.heap.size 54 i0 (.agg #[.int .i64 0, .bool false]) 2 16 Try.underlying24 hi0 hz0 hz1 hz2 rfl (by decide) (.slice (some ⟨w.heap.size, 0, none⟩) 0 0) 0 [] rfl (World.ownsRow_made w #[] 0 (Nat.le_refl _) (Nat.zero_le _) rfl) (by simp) (some ⟨b, off, none⟩) len cap (jcells l) rfl (by rw [jcells_len, hn]) (by simp) ?qc2 (jcells_one l) (by unfold maxLen; omega) (by omega) (by simp) ?_)
  case qc2 =>
    rcases HC.out with h | ⟨b', off', h1, h2⟩
    · exact .inl h
    · exact .inr ⟨b', off', h1, fun j u hj => Lib.cell?_alloc_some _ (h2 j u hj)⟩
  intro v w1 hown hgrow hnil
  have hb : Below w.heap.size w w1 := ((Below.refl _ w).alloc (Nat.le_refl _) _).grown hgrow (by simp) (by intro k hk; simp [Value.ownBlock] at hk; omega)
  have ho : w1.ownsRow w.heap.size 54 2 v len (jcells l) := by simpa using hown
  clear hown hgrow
  obtain ⟨A1, k1, rfl, hm1, hm2, hR, hg⟩ := own_joints ho
  obtain ⟨g, rfl, hg1, hg2, hfr⟩ := hg (by omega)
  obtain ⟨hs1, hs2⟩ := ownJ_store ho i (by omega)
  obtain ⟨b', off', hbb, _, hc1, hc2⟩ := hR.atJ i (by omega)
  injection hbb with hbb
  injection hbb with e1 e2 e3
  subst e1 e2
  have hc2' : (w1.cell? ⟨g, i * 2 + 1, none⟩) = some (.bool (sndB l i)) := by simpa using hc2
  have HS := Lib.hid hs1
  have hB : Below w.heap.size w (w1.setCell ⟨g, i * 2 + 1, none⟩ (.bool false)) := hb.trans (grown_below hs2 (by have := hb.size; omega) (fun q hq => by cases hq; exact hg1))
  have HB := Lib.hid hB
  clear hs1 hs2 hR hc1 hc2 ho hB
  have hi' : (i : Int) < len := by omega
  go_wp2
  go_ret
  exact ⟨⟨_, rfl, by first | exact HS.out | (rw [hn]; exact HS.out)⟩, HB.out⟩

set_option maxHeartbeats 2000000 in
theorem Failed_any (A : Option Addr) (len cap : Nat) (l : List J) (i : Int) (w : World) (hm : len ≤ 9223372036854775807) (hx : Rows 2 jointV dJ w w.heap.size A len l) (hib : -9223372036854775808 ≤ i ∧ i ≤ 9223372036854775807) :
    Calls Try.prog 32 #[.slice A len cap, .int .i64 i] w fun e w' => (∃ v, e = .returned (.tuple #[v, .int .i64 (faE l i)]) ∧ w'.ownsRow w.heap.size 54 2 v (faL l i).length (jcells (faL l i))) ∧ Below w.heap.size w w' := by
  have c1 := fun W (h : Below w.heap.size w W) => VJoints_any A len cap l W hm ((hx.below h).more h.size)
  have hE : faE l i = if vJ l then (if withinB i 0 ((l.length : Int) - 1) then 0 else 7) else 1 := rfl
  have hL : faL l i = if vJ l then (if withinB i 0 ((l.length : Int) - 1) then failJ l i.toNat else []) else [] := rfl
  have hn := hx.1
  cases hv : vJ l
  · rw [hv] at c1 hE hL
    rw [if_neg (by decide)] at hE hL
    rw [hE, hL]
    have C1 := Lib.hid c1
    clear c1 hx hv hE hL hn
    go_enter Try.func32, Try.ntmps32
    go_wp2_with fail
    refine (C1.out _ (by repeat (first | exact Below.refl _ _ | assumption | refine Below.setCell ?_ (by first | (simp; done) | (simp; omega) | omega) _ | refine Below.drew ?_ | refine below_drewN ?_ _ | refine Below.alloc ?_ (by first | (simp; done) | (simp; omega) | omega) _ | refine below_alloc ?_ _ | refine below_step ?_ (by assumption)))).mono ?_
    rintro e w1 ⟨rfl, hb⟩
    have hB_w1 : Below w.heap.size w w1 := (by repeat (first | exact Below.refl _ _ | assumption | refine Below.setCell ?_ (by first | (simp; done) | (simp; omega) | omega) _ | refine Below.drew ?_ | refine below_drewN ?_ _ | refine Below.alloc ?_ (by first | (simp; done) | (simp; omega) | omega) _ | refine below_alloc ?_ _ | refine below_step ?_ (by assumption))); have hz_w1 := hB_w1.size; clear hb
    go_wp2
    go_ret2
    exact ⟨⟨_, rfl, World.ownsRow_nil _ _ _ _⟩, (by repeat (first | exact Below.refl _ _ | assumption | refine Below.setCell ?_ (by first | (simp; done) | (simp; omega) | omega) _ | refine Below.drew ?_ | refine below_drewN ?_ _ | refine Below.alloc ?_ (by first | (simp; done) | (simp; omega) | omega) _ | refine below_alloc ?_ _ | refine below_step ?_ (by assumption)))⟩
  · have hl := (vJ_spec hv).1
    rw [hv] at c1 hE hL
    rw [if_pos rfl] at hE hL
    cases hw : withinB i 0 ((l.length : Int) - 1)
    · rw [hw] at hE hL
      rw [if_neg (by decide)] at hE hL
      rw [hE, hL]
      have c2 := fun W => within_any i 0 ((len : Int) - 1) W
      rw [← hn, hw] at c2
      rw [hn] at c2
      have C1 := Lib.hid c1
      have C2 := Lib.hid c2
      clear c1 c2 hx hv hE hL hw
      go_enter Try.func32, Try.ntmps32
      go_wp2_with fail
      refine (C1.out _ (by repeat (first | exact Below.refl _ _ | assumption | refine Below.setCell ?_ (by first | (simp; done) | (simp; omega) | omega) _ | refine Below.drew ?_ | refine below_drewN ?_ _ | refine Below.alloc ?_ (by first | (simp; done) | (simp; omega) | omega) _ | refine below_alloc ?_ _ | refine below_step ?_ (by assumption)))).mono ?_
      rintro e w1 ⟨rfl, hb⟩
      have hB_w1 : Below w.heap.size w w1 := (by repeat (first | exact Below.refl _ _ | assumption | refine Below.setCell ?_ (by first | (simp; done) | (simp; omega) | omega) _ | refine Below.drew ?_ | refine below_drewN ?_ _ | refine Below.alloc ?_ (by first | (simp; done) | (simp; omega) | omega) _ | refine below_alloc ?_ _ | refine below_step ?_ (by assumption))); have hz_w1 := hB_w1.size; clear hb
      go_wp2_with (go_at_call 53; refine (C2.out _).mono ?_; rintro e w' ⟨rfl, rfl⟩)
      go_ret2
      exact ⟨⟨_, rfl, World.ownsRow_nil _ _ _ _⟩, (by repeat (first | exact Below.refl _ _ | assumption | refine Below.setCell ?_ (by first | (simp; done) | (simp; omega) | omega) _ | refine Below.drew ?_ | refine below_drewN ?_ _ | refine Below.alloc ?_ (by first | (simp; done) | (simp; omega) | omega) _ | refine below_alloc ?_ _ | refine below_step ?_ (by assumption)))⟩
    · rw [hw] at hE hL
      rw [if_pos rfl] at hE hL
      rw [hE, hL]
      have hwb := withinB_iff.1 hw
      have c2 := fun W => within_any i 0 ((len : Int) - 1) W
      rw [← hn, hw] at c2
      rw [hn] at c2
      obtain ⟨k, rfl⟩ : ∃ k : Nat, i = k := ⟨i.toNat, by omega⟩
      have c3 := fun W (h : Below w.heap.size w W) => failed_any A len cap l k W (by omega) (by omega) ((hx.below h).more h.size)
      rw [Int.toNat_natCast]
      rw [failJ_len]
      generalize failJ l k = R at *
      have C1 := Lib.hid c1
      have C2 := Lib.hid c2
      have C3 := Lib.hid c3
      clear c1 c2 c3 hx hv hE hL hw hwb hl hib
      go_enter Try.func32, Try.ntmps32
      go_wp2_with fail
      refine (C1.out _ (by repeat (first | exact Below.refl _ _ | assumption | refine Below.setCell ?_ (by first | (simp; done) | (simp; omega) | omega) _ | refine Below.drew ?_ | refine below_drewN ?_ _ | refine Below.alloc ?_ (by first | (simp; done) | (simp; omega) | omega) _ | refine below_alloc ?_ _ | refine below_step ?_ (by assumption)))).mono ?_
      rintro e w1 ⟨rfl, hb⟩
      have hB_w1 : Below w.heap.size w w1 := (by repeat (first | exact Below.refl _ _ | assumption | refine Below.setCell ?_ (by first | (simp; done) | (simp; omega) | omega) _ | refine Below.drew ?_ | refine below_drewN ?_ _ | refine Below.alloc ?_ (by first | (simp; done) | (simp; omega) | omega) _ | refine below_alloc ?_ _ | refine below_step ?_ (by assumption))); have hz_w1 := hB_w1.size; clear hb
      go_wp2_with (go_at_call 53; refine (C2.out _).mono ?_; rintro e w' ⟨rfl, rfl⟩)
      refine (C3.out _ (by repeat (first | exact Below.refl _ _ | assumption | refine Below.setCell ?_ (by first | (simp; done) | (simp; omega) | omega) _ | refine Below.drew ?_ | refine below_drewN ?_ _ | refine Below.alloc ?_ (by first | (simp; done) | (simp; omega) | omega) _ | refine below_alloc ?_ _ | refine below_step ?_ (by assumption)))).mono ?_
      rintro e w2 ⟨⟨v, rfl, ho⟩, hb⟩
      have HO := Lib.hid (own_mono ho hz_w1)
      clear ho
      have hB_w2 : Below w.heap.size w w2 := (by repeat (first | exact Below.refl _ _ | assumption | refine Below.setCell ?_ (by first | (simp; done) | (simp; omega) | omega) _ | refine Below.drew ?_ | refine below_drewN ?_ _ | refine Below.alloc ?_ (by first | (simp; done) | (simp; omega) | omega) _ | refine below_alloc ?_ _ | refine below_step ?_ (by assumption))); have hz_w2 := hB_w2.size; clear hb
      go_wp2
      go_ret2
      exact ⟨⟨v, rfl, HO.out⟩, (by repeat (first | exact Below.refl _ _ | assumption | refine Below.setCell ?_ (by first | (simp; done) | (simp; omega) | omega) _ | refine Below.drew ?_ | refine below_drewN ?_ _ | refine Below.alloc ?_ (by first | (simp; done) | (simp; omega) | omega) _ | refine below_alloc ?_ _ | refine below_step ?_ (by assumption)))⟩
set_option maxHeartbeats 2000000 in
theorem rFailed_any (A : Option Addr) (len cap : Nat) (l : List J) (i : Int) (w : World) (hm : len ≤ 9223372036854775807) (hx : Rows 2 jointV dJ w w.heap.size A len l) (hib : -9223372036854775808 ≤ i ∧ i ≤ 9223372036854775807) :
    Calls Try.prog 33 #[.slice A len cap, .int .i64 i] w fun e w' => (∃ v, e = .returned (.tuple #[v, .int .i64 (faE l i)]) ∧ w'.ownsRow w.heap.size 54 2 v (faL l i).length (jcells (faL l i))) ∧ Below w.heap.size w w' := by
  have c1 := fun W (h : Below w.heap.size w W) => rVJoints_any A len cap l W hm ((hx.below h).more h.size)
  have hE : faE l i = if vJ l then (if withinB i 0 ((l.length : Int) - 1) then 0 else 7) else 1 := rfl
  have hL : faL l i = if vJ l then (if withinB i 0 ((l.length : Int) - 1) then failJ l i.toNat else []) else [] := rfl
  have hn := hx.1
  cases hv : vJ l
  · rw [hv] at c1 hE hL
    rw [if_neg (by decide)] at hE hL
    rw [hE, hL]
    have C1 := Lib.hid c1
    clear c1 hx hv hE hL hn
    go_enter Try.func33, Try.ntmps33
    go_wp2_with fail
    refine (C1.out _ (by repeat (first | exact Below.refl _ _ | assumption | refine Below.setCell ?_ (by first | (simp; done) | (simp; omega) | omega) _ | refine Below.drew ?_ | refine below_drewN ?_ _ | refine Below.alloc ?_ (by first | (simp; done) | (simp; omega) | omega) _ | refine below_alloc ?_ _ | refine below_step ?_ (by assumption)))).mono ?_
    rintro e w1 ⟨rfl, hb⟩
    have hB_w1 : Below w.heap.size w w1 := (by repeat (first | exact Below.refl _ _ | assumption | refine Below.setCell ?_ (by first | (simp; done) | (simp; omega) | omega) _ | refine Below.drew ?_ | refine below_drewN ?_ _ | refine Below.alloc ?_ (by first | (simp; done) | (simp; omega) | omega) _ | refine below_alloc ?_ _ | refine below_step ?_ (by assumption))); have hz_w1 := hB_w1.size; clear hb
    go_wp2
    go_ret2
    exact ⟨⟨_, rfl, World.ownsRow_nil _ _ _ _⟩, (by repeat (first | exact Below.refl _ _ | assumption | refine Below.setCell ?_ (by first | (simp; done) | (simp; omega) | omega) _ | refine Below.drew ?_ | refine below_drewN ?_ _ | refine Below.alloc ?_ (by first | (simp; done) | (simp; omega) | omega) _ | refine below_alloc ?_ _ | refine below_step ?_ (by assumption)))⟩
  · have hl := (vJ_spec hv).1
    rw [hv] at c1 hE hL
    rw [if_pos rfl] at hE hL
    cases hw : withinB i 0 ((l.length : Int) - 1)
    · rw [hw] at hE hL
      rw [if_neg (by decide)] at hE hL
      rw [hE, hL]
      have c2 := fun W => rwithin_any i 0 ((len : Int) - 1) W
      rw [← hn, hw] at c2
      rw [hn] at c2
      have C1 := Lib.hid c1
      have C2 := Lib.hid c2
      clear c1 c2 hx hv hE hL hw
      go_enter Try.func33, Try.ntmps33
      go_wp2_with fail
      refine (C1.out _ (by repeat (first | exact Below.refl _ _ | assumption | refine Below.setCell ?_ (by first | (simp; done) | (simp; omega) | omega) _ | refine Below.drew ?_ | refine below_drewN ?_ _ | refine Below.alloc ?_ (by first | (simp; done) | (simp; omega) | omega) _ | refine below_alloc ?_ _ | refine below_step ?_ (by assumption)))).mono ?_
      rintro e w1 ⟨rfl, hb⟩
      have hB_w1 : Below w.heap.size w w1 := (by repeat (first | exact Below.refl _ _ | assumption | refine Below.setCell ?_ (by first | (simp; done) | (simp; omega) | omega) _ | refine Below.drew ?_ | refine below_drewN ?_ _ | refine Below.alloc ?_ (by first | (simp; done) | (simp; omega) | omega) _ | refine below_alloc ?_ _ | refine below_step ?_ (by assumption))); have hz_w1 := hB_w1.size; clear hb
      go_wp2_with (go_at_call 54; refine (C2.out _).mono ?_; rintro e w' ⟨rfl, rfl⟩)
      go_ret2
      exact ⟨⟨_, rfl, World.ownsRow_nil _ _ _ _⟩, (by repeat (first | exact Below.refl _ _ | assumption | refine Below.setCell ?_ (by first | (simp; done) | (simp; omega) | omega) _ | refine Below.drew ?_ | refine below_drewN ?_ _ | refine Below.alloc ?_ (by first | (simp; done) | (simp; omega) | omega) _ | refine below_alloc ?_ _ | refine below_step ?_ (by assumption)))⟩
    · rw [hw] at hE hL
      rw [if_pos rfl] at hE hL
      rw [hE, hL]
      have hwb := withinB_iff.1 hw
      have c2 := fun W => rwithin_any i 0 ((len : Int) - 1) W
      rw [← hn, hw] at c2
      rw [hn] at c2
      obtain ⟨k, rfl⟩ : ∃ k : Nat, i = k := ⟨i.toNat, by omega⟩
      have c3 := fun W (h : Below w.heap.size w W) => rfailed_any A len cap l k W (by omega) (by omega) ((hx.below h).more h.size)
      rw [Int.toNat_natCast]
      rw [failJ_len]
      generalize failJ l k = R at *
      have C1 := Lib.hid c1
      have C2 := Lib.hid c2
      have C3 := Lib.hid c3
      clear c1 c2 c3 hx hv hE hL hw hwb hl hib
      go_enter Try.func33, Try.ntmps33
      go_wp2_with fail
      refine (C1.out _ (by repeat (first | exact Below.refl _ _ | assumption | refine Below.setCell ?_ (by first | (simp; done) | (simp; omega) | omega) _ | refine Below.drew ?_ | refine below_drewN ?_ _ | refine Below.alloc ?_ (by first | (simp; done) | (simp; omega) | omega) _ | refine below_alloc ?_ _ | refine below_step ?_ (by assumption)))).mono ?_
      rintro e w1 ⟨rfl, hb⟩
      have hB_w1 : Below w.heap.size w w1 := (by repeat (first | exact Below.refl _ _ | assumption | refine Below.setCell ?_ (by first | (simp; done) | (simp; omega) | omega) _ | refine Below.drew ?_ | refine below_drewN ?_ _ | refine Below.alloc ?_ (by first | (simp; done) | (simp; omega) | omega) _ | refine below_alloc ?_ _ | refine below_step ?_ (by assumption))); have hz_w1 := hB_w1.size; clear hb
      go_wp2_with (go_at_call 54; refine (C2.out _).mono ?_; rintro e w' ⟨rfl, rfl⟩)
      refine (C3.out _ (by repeat (first | exact Below.refl _ _ | assumption | refine Below.setCell ?_ (by first | (simp; done) | (simp; omega) | omega) _ | refine Below.drew ?_ | refine below_drewN ?_ _ | refine Below.alloc ?_ (by first | (simp; done) | (simp; omega) | omega) _ | refine below_alloc ?_ _ | refine below_step ?_ (by assumption)))).mono ?_
      rintro e w2 ⟨⟨v, rfl, ho⟩, hb⟩
      have HO := Lib.hid (own_mono ho hz_w1)
      clear ho
      have hB_w2 : Below w.heap.size w w2 := (by repeat (first | exact Below.refl _ _ | assumption | refine Below.setCell ?_ (by first | (simp; done) | (simp; omega) | omega) _ | refine Below.drew ?_ | refine below_drewN ?_ _ | refine Below.alloc ?_ (by first | (simp; done) | (simp; omega) | omega) _ | refine below_alloc ?_ _ | refine below_step ?_ (by assumption))); have hz_w2 := hB_w2.size; clear hb
      go_wp2
      go_ret2
      exact ⟨⟨v, rfl, HO.out⟩, (by repeat (first | exact Below.refl _ _ | assumption | refine Below.setCell ?_ (by first | (simp; done) | (simp; omega) | omega) _ | refine Below.drew ?_ | refine below_drewN ?_ _ | refine Below.alloc ?_ (by first | (simp; done) | (simp; omega) | omega) _ | refine below_alloc ?_ _ | refine below_step ?_ (by assumption)))⟩

set_option maxHeartbeats 2000000 in
/-- Two rows of the same joints. -/
theorem Same_any (A : Option Addr) (len cap : Nat) (A' : Option Addr) (cap' : Nat) (l : List J) (w : World) (hm : len ≤ 9223372036854775807) (hx : Rows 2 jointV dJ w w.heap.size A len l) (hy : Rows 2 jointV dJ w w.heap.size A' len l) :
    Calls Try.prog 34 #[.slice A len cap, .slice A' len cap'] w fun e w' => e = .returned (.bool true) ∧ Below w.heap.size w w' := by
  have HX := Lib.hid hx
  have HY := Lib.hid hy
  clear hx hy
  go_enter Try.func34, Try.ntmps34
  go_wp2
  go_loopw [5] (fun i wr => ∃ k : Nat, k ≤ len ∧ i = .int .i64 k ∧ Below w.heap.size w wr) (fun i _ => len - (intOf i).toNat)
  case atStart => exact ⟨0, Nat.zero_le _, rfl, Below.refl _ _⟩
  case round =>
    obtain ⟨k, hk, rfl, hB⟩ := hrel
    by_cases hlt : k < len
    · obtain ⟨b, off, rfl, hb0, hc1, hc2⟩ := (HX.out.below hB).atJ k hlt
      obtain ⟨b', off', rfl, hb0', hc1', hc2'⟩ := (HY.out.below hB).atJ k hlt
      have hbs := hB.size
      have hb1 : b < wr.heap.size := by omega
      have hb1' : b' < wr.heap.size := by omega
      generalize hgt l k = X at *
      generalize sndB l k = Y at *
      have hk1 : (k : Int) < len := by omega
      have hk2 : ¬ len ≤ k := by omega
      go_wp2
      (refine wp_region_later (by kernel_rfl) (by kernel_rfl) ?_; (repeat (go_big_quiet_step ((fail)))); refine wpQuiet_nil ?_)
      intro w4 hb
      go_wp2
      go_roundw
      case rel => exact ⟨k + 1, by omega, by go_num, (by repeat (first | exact Below.refl _ _ | assumption | refine Below.setCell ?_ (by first | (simp; done) | (simp; omega) | omega) _ | refine Below.drew ?_ | refine below_drewN ?_ _ | refine Below.alloc ?_ (by first | (simp; done) | (simp; omega) | omega) _ | refine below_alloc ?_ _ | refine below_step ?_ (by assumption)))⟩
      case measure => simp [intOf]; omega
    · go_wp2
      go_ret
      exact ⟨rfl, (by repeat (first | exact Below.refl _ _ | assumption | refine Below.setCell ?_ (by first | (simp; done) | (simp; omega) | omega) _ | refine Below.drew ?_ | refine below_drewN ?_ _ | refine Below.alloc ?_ (by first | (simp; done) | (simp; omega) | omega) _ | refine below_alloc ?_ _ | refine below_step ?_ (by assumption)))⟩
end Go.Proofs.Ytecocbohaggokaa
