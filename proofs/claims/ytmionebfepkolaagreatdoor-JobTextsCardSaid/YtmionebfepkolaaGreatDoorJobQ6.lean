/- Plans: the program's latest days. -/
import Derived.Test.YtmionebfepkolaaGreatDoorYJj
import Derived.Test.YtmionebfepkolaaGreatDoorJobB
import Derived.Test.YtmionebfepkolaaGreatDoorYJc
set_option linter.unusedSimpArgs false
set_option linter.unusedVariables false
namespace Go.Proofs.YtmionebfepkolaaGreatDoor
open Go.RowKit Go.Shelf Go.Maps
attribute [local go_sem] Oper.semAt_some Later.cell Same.cell

/-- Days, the first k of them the length less a task's days. -/
def lat0K (l : List Tk) (k : Nat) : List Int := (List.range l.length).map fun i => if i < k then lenV l - dyA l i else 0
theorem lat0K_len (l : List Tk) (k : Nat) : (lat0K l k).length = l.length := by unfold lat0K; rw [List.length_map, List.length_range]
theorem lat0K_zero (l : List Tk) : lat0K l 0 = List.replicate l.length 0 := by
  apply gI_ext
  · rw [lat0K_len, List.length_replicate]
  · intro i hi
    rw [lat0K_len] at hi
    unfold lat0K
    rw [gI_map hi, gI_replicate, if_neg (by omega)]
theorem lat0K_end (l : List Tk) : lat0K l l.length = lat0 l := by
  apply gI_ext
  · rw [lat0K_len, lat0_len]
  · intro i hi
    rw [lat0K_len] at hi
    unfold lat0K lat0
    rw [gI_map hi, gI_map hi, if_pos hi]
theorem lat0K_next {l : List Tk} {k : Nat} (hk : k < l.length) : lat0K l (k + 1) = (lat0K l k).set k (lenV l - dyA l k) := by
  apply gI_ext
  · rw [lat0K_len, List.length_set, lat0K_len]
  · intro i hi
    rw [lat0K_len] at hi
    by_cases e : k = i
    · subst e
      rw [gI_set_same (by rw [lat0K_len]; exact hk)]
      unfold lat0K
      rw [gI_map hi, if_pos (by omega)]
    · rw [gI_set_other e]
      unfold lat0K
      rw [gI_map hi, gI_map hi]
      by_cases h : i < k
      · rw [if_pos h, if_pos (by omega)]
      · rw [if_neg h, if_neg (by omega)]
/-- Latest days behind some tasks, one after the other. -/
def latF (l : List Tk) (vs : List Nat) : List Int := vs.foldl (latI l) (lat0 l)
theorem latF_snoc (l : List Tk) (vs : List Nat) (v : Nat) : latF l (vs ++ [v]) = latI l (latF l vs) v := by unfold latF; rw [List.foldl_append]; rfl
theorem latF_bd {l : List Tk} (h : okP l) : ∀ vs : List Nat, (∀ v ∈ vs, v < l.length) → bdL (202000 + 10000 * vs.length) (latF l vs) := by
  intro vs
  induction hn : vs.length generalizing vs with
  | zero => intro _; rw [List.eq_nil_of_length_eq_zero hn]; simpa [latF] using lat0_bd h
  | succ n ih =>
    intro hv
    rcases List.eq_nil_or_concat vs with rfl | ⟨vs, v, rfl⟩
    · simp at hn
    · rw [List.concat_eq_append] at hn hv ⊢
      rw [latF_snoc]
      have h1 := ih vs (by simpa using hn) fun u hu => hv u (List.mem_append_left _ hu)
      have hvl := hv v (by simp)
      have h2 := latJ_bd h h1 hvl (afs l v).length
      rw [latJ_end (Nat.le_refl _)] at h2
      have h3 := h.few _ hvl
      rw [← afs_len] at h3
      exact bdL_mono h2 (by push_cast; omega)
/-- What comes from behind, as tasks. -/
def ordX (l : List Tk) (x : Nat) : Nat := (ord l)[x % l.length]?.getD 0
theorem ordX_bk {l : List Tk} (h : okP l) : (bkL l.length l.length).map (ordX l) = (ord l).reverse := by
  apply List.ext_getElem
  · rw [List.length_map, bkL_len, List.length_reverse, h.all]
  · intro i h1 h2
    rw [List.length_map, bkL_len] at h1
    have ho := h.all
    rw [List.getElem_map, List.getElem_reverse]
    unfold ordX bkL
    rw [List.getElem_map, List.getElem_range, Nat.mod_eq_of_lt (by omega), List.getElem?_eq_getElem (by omega)]
    show (ord l)[l.length - 1 - i] = _
    congr 1
    omega
theorem ordX_lt {l : List Tk} (h : okP l) (x : Nat) : ordX l x < l.length := by
  have hp := h.pos; have ho := h.all
  have hx : x % l.length < (ord l).length := by rw [ho]; exact Nat.mod_lt _ hp
  unfold ordX
  rw [List.getElem?_eq_getElem hx]
  exact ord_lt (List.getElem_mem hx)
theorem ordX_int {l : List Tk} (h : okP l) (x : Nat) : gI (iN (ord l)) (x % l.length) = (ordX l x : Int) := by
  have hp := h.pos; have ho := h.all
  have hx : x % l.length < (ord l).length := by rw [ho]; exact Nat.mod_lt _ hp
  rw [iN_at hx]
  unfold ordX
  rw [List.getElem?_eq_getElem hx]; rfl

structure LaR (A : Option Addr) (cap : Nat) (l : List Tk) (w : World) (B1 Bn Bo nb g : Nat) (out : List Int) (W : World) : Prop where
  own : W.ownsRow w.heap.size 3 1 (.slice (some ⟨g, 0, none⟩) l.length l.length) l.length (icells out)
  map : MapN W nb l.length (fndM l l.length)
  bl : W.cell? ⟨B1, 0, none⟩ = some (.slice A l.length cap)
  bn : W.cell? ⟨Bn, 0, none⟩ = some (.map (some nb))
  bo : W.cell? ⟨Bo, 0, none⟩ = some (.slice (some ⟨g, 0, none⟩) l.length l.length)
  bel : Below w.heap.size w W
section
variable {A : Option Addr} {cap : Nat} {l : List Tk} {w : World} {B1 Bn Bo nb g : Nat} {out : List Int} {W W' : World}
theorem LaR.store (h : LaR A cap l w B1 Bn Bo nb g out W) (h1 : B1 ≠ g) (h2 : Bn ≠ g) (h3 : Bo ≠ g) (i : Nat) (v : Int) : LaR A cap l w B1 Bn Bo nb g (out.set i v) (W.setCell ⟨g, i, none⟩ (.int .i64 v)) := by
  obtain ⟨q1, q2⟩ := jown_store h.own i v
  have hg := (jown_at h.own).2.1
  have hc := fun b (hb : b ≠ g) u (hu : W.cell? ⟨b, 0, none⟩ = some u) => (World.cell?_of_block (a := ⟨b, 0, none⟩) (q2.block b (World.block_lt_of_cell? W _ hu) (fun e => hb (by injection e)))).trans hu
  exact ⟨q1, h.map.setCell (fun e => own_not_mapn h.own h.map (by simp [Value.ownBlock]; exact e.symm)) _, hc _ h1 _ h.bl, hc _ h2 _ h.bn, hc _ h3 _ h.bo, h.bel.setCell (p := ⟨g, i, none⟩) hg _⟩
theorem LaR.later (h : LaR A cap l w B1 Bn Bo nb g out W) (hb : Below W.heap.size W W') : LaR A cap l w B1 Bn Bo nb g out W' :=
  have hc := fun b u (hu : W.cell? ⟨b, 0, none⟩ = some u) => (hb.cell (p := ⟨b, 0, none⟩) (World.block_lt_of_cell? W _ hu)).trans hu
  ⟨jown_later h.own hb, h.map.below hb, hc _ _ h.bl, hc _ _ h.bn, hc _ _ h.bo, h.bel.trans (hb.mono h.bel.size)⟩
theorem LaR.lt (h : LaR A cap l w B1 Bn Bo nb g out W) : (B1 < W.heap.size ∧ Bn < W.heap.size ∧ Bo < W.heap.size) ∧ nb < W.heap.size ∧ g < W.heap.size :=
  ⟨⟨World.block_lt_of_cell? W _ h.bl, World.block_lt_of_cell? W _ h.bn, World.block_lt_of_cell? W _ h.bo⟩, h.map.lt, (jown_at h.own).1⟩
theorem LaR.grown (h : LaR A cap l w B1 Bn Bo nb g out W) {row : Option Nat} {N0 : Nat} (hg : W.grownBy W' row) (hr : ∀ r, row = some r → N0 ≤ r) (hN : (B1 < N0 ∧ Bn < N0 ∧ Bo < N0) ∧ nb < N0 ∧ g < N0) (hw : w.heap.size ≤ N0) : LaR A cap l w B1 Bn Bo nb g out W' := by
  have hc := fun b (hb : b < N0) u (hu : W.cell? ⟨b, 0, none⟩ = some u) => (World.cell?_of_block (a := ⟨b, 0, none⟩) (hg.block b (World.block_lt_of_cell? W _ hu) (fun e => by have := hr b e.symm; omega))).trans hu
  refine ⟨h.own.kept hg (.inr fun e => ?_), h.map.kept hg (fun e => by have := hr nb e.symm; omega), hc _ hN.1.1 _ h.bl, hc _ hN.1.2.1 _ h.bn, hc _ hN.1.2.2 _ h.bo, h.bel.trans (grown_below hg h.bel.size fun k hk => by have := hr k hk; omega)⟩
  have : some g = row := e
  have := hr g this.symm
  omega
end
/-- All but one block lies as it lay. -/
def KG (g : Nat) (W W' : World) : Prop := W.heap.size ≤ W'.heap.size ∧ ∀ b, b ≠ g → W'.heap[b]? = W.heap[b]?
theorem KG.refl (g : Nat) (W : World) : KG g W W := ⟨Nat.le_refl _, fun _ _ => rfl⟩
theorem KG.set {g : Nat} {W W' : World} (h : KG g W W') (i : Nat) (v : Value) : KG g W (W'.setCell ⟨g, i, none⟩ v) :=
  ⟨by rw [World.size_setCell]; exact h.1, fun b hb => by rw [← h.2 b hb]; exact (Below.heap_setCell W' ⟨g, i, none⟩ v b (fun e => hb e))⟩
theorem KG.drew {g : Nat} {W W' : World} (h : KG g W W') : KG g W W'.drew := ⟨h.1, fun b hb => h.2 b hb⟩
theorem KG.keepE {g n : Nat} {W W' : World} (h : KG g W W') : KeepE n g W W' := ⟨h.1, fun b _ hb => h.2 b hb⟩
theorem KG.from {g B : Nat} {W W' : World} (h : KG g W W') (hg : g < B) : KeepsFrom B W W' := ⟨h.1, fun k o hk h0 _ => (h.2 k (by omega)).trans h0⟩
set_option maxRecDepth 20000 in
set_option maxHeartbeats 16000000 in
theorem latest_any (A : Option Addr) (len cap : Nat) (l : List Tk) (w : World) (hS : Sml l) (hP : okP l) (hx : Plan w w.heap.size A len l) :
    Calls Tryz.prog 37 #[.slice A len cap] w fun e w' => (∃ v, e = .returned v ∧ w'.ownsRow w.heap.size 3 1 v len (icells (latP l))) ∧ Below w.heap.size w w' := by
  obtain rfl : l.length = len := hx.1
  have c2 := fun W (h : Below w.heap.size w W) => byName_any A l.length cap l W hS (hx.go h)
  have c3 := fun W (h : Below w.heap.size w W) => earliest_any A l.length cap l W hS hP (hx.go h)
  have c4 := fun A' cap' W (h : Below w.heap.size w W) (hy : Ints W W.heap.size A' l.length (ear l)) => ends_any A l.length cap l A' cap' (ear l) W hP (hx.go h) hy (ear_bdE hP)
  change ∀ A' cap' W _ _, Calls _ _ _ _ (fun e w' => e = .returned (.int .i64 (lenV l)) ∧ _) at c4
  have c5 := fun W (h : Below w.heap.size w W) => order_any A l.length cap l W hS hP.names (hx.go h)
  obtain ⟨j0, hj, hy0, hy1, hy2⟩ := info_parts jinfo_int
  have hI0 := Lib.hid hj
  have hI1 := Lib.hid hy0
  have hI2 := Lib.hid hy1
  have hI3 := Lib.hid hy2
  have hL := hP.len
  have C2 := Lib.hid c2
  have C3 := Lib.hid c3
  have C4 := Lib.hid c4
  have C5 := Lib.hid c5
  have HX := Lib.hid hx
  have HS := Lib.hid hS
  have HP := Lib.hid hP
  have hlb := lenV_bd hP
  clear c2 c3 c4 c5 hx hS hP hj hy0 hy1 hy2
  refine (callsIn_wide (n := 9)).1 ?_
  refine callsIn_of_wp_marks Tryz.func37 rfl trivial ?_ rfl
  simp only [Tryz.ntmps37, List.size_toArray, List.length_cons, List.length_nil, Nat.reduceAdd, Nat.reduceSub, Array.replicate_succ, Array.replicate_zero, List.push_toArray, List.append_toArray, List.nil_append, List.cons_append]
  refine wpIn_wide.2 ?_
  go_wp2_with fail
  refine (C2.out _ (by repeat (first | exact Below.refl _ _ | assumption | refine Below.setCell ?_ (by first | (simp; done) | (simp; omega) | omega) _ | refine Below.drew ?_ | refine below_drewN ?_ _ | refine Below.alloc ?_ (by first | (simp; done) | (simp; omega) | omega) _ | refine below_alloc ?_ _ | refine below_step ?_ (by assumption)))).mono ?_
  rintro e w1 ⟨⟨nb, rfl, hnb, hMN⟩, hb⟩
  have hs1 := hb.size
  simp only [World.size_alloc] at hs1 hnb
  have hbl1 : w1.cell? ⟨w.heap.size, 0, none⟩ = some (.slice A l.length cap) := by
    rw [hb.cell (p := ⟨w.heap.size, 0, none⟩) (by simp)]; exact (Boxed.new w 22 (.slice A l.length cap)).cell
  have hB1 : Below w.heap.size w w1 := ((Below.refl _ w).alloc (Nat.le_refl _) _).trans (hb.mono (by simp))
  obtain ⟨W2, hW2⟩ : ∃ W2, W2 = w1.alloc (.cells #[.map (some nb)] 72) := ⟨_, rfl⟩
  have hs2 : W2.heap.size = w1.heap.size + 1 := by rw [hW2]; simp
  have hbl2 : W2.cell? ⟨w.heap.size, 0, none⟩ = some (.slice A l.length cap) := by rw [hW2]; exact cell_kept hbl1 (World.grownBy_alloc w1 _ none) (fun r e => by cases e)
  have hbn2 : W2.cell? ⟨w1.heap.size, 0, none⟩ = some (.map (some nb)) := by rw [hW2]; exact (Boxed.new w1 72 (.map (some nb))).cell
  have HM2 : Hid (MapN W2 nb l.length (fndM l l.length)) := Lib.hid (by rw [hW2]; exact hMN.alloc _)
  have HB2 : Hid (Below w.heap.size w W2) := Lib.hid (by rw [hW2]; exact hB1.alloc hB1.size _)
  have hq1 : w.heap.size < W2.heap.size := by omega
  have HS2 := Lib.hid hs2
  clear hs2
  clear hMN hb hB1 hbl1
  go_wp2_with fail
  rw [← hW2]
  clear hW2
  refine wp_region_mix (by kernel_rfl) (by kernel_rfl) ?_
  refine wpC_take (f := 3) (by kernel_rfl) (by kernel_rfl) ⟨⟨_, (Below.refl _ _).drew⟩, rfl⟩ [0, 1] _ _ (by kernel_rfl) ?_
  simp only [List.map_cons, List.map_nil, List.getElem?_toArray, List.getElem?_cons_succ, List.getElem?_cons_zero, Option.getD_some]
  repeat (go_big_quiet_step (fail))
  refine wpQuiet_nil ?_
  have hB : Below W2.heap.size W2 W2.drew := (Below.refl _ _).drew
  refine wpC_all (rs := [2]) (by kernel_rfl) (by decide) ?_
  intro i hi
  simp only [List.mem_cons, List.not_mem_nil, or_false] at hi
  subst hi
  refine ⟨_, rfl, ?_⟩
  go_simp
  refine (C3.out _ (HB2.out.trans (hB.mono HB2.out.size))).mono ?_
  rintro e WW0 ⟨⟨v, rfl, ho⟩, hb9⟩
  obtain ⟨A1, cap1, rfl, -, -, hI1, -⟩ := own_ints ho
  replace hB := below_step hB hb9
  clear hb9 ho
  refine ⟨⟨⟨_, hB⟩, rfl⟩, ?_⟩
  refine wpC_all (rs := [3]) (by kernel_rfl) (by decide) ?_
  intro i hi
  simp only [List.mem_cons, List.not_mem_nil, or_false] at hi
  subst hi
  refine ⟨_, rfl, ?_⟩
  go_simp
  refine (C4.out A1 cap1 _ (HB2.out.trans (hB.mono HB2.out.size)) hI1).mono ?_
  rintro e W3 ⟨rfl, hb9⟩
  replace hB := below_step hB hb9
  clear hb9 hI1
  refine ⟨⟨⟨_, hB⟩, rfl⟩, ?_⟩
  go_simp
  refine wpC_take (f := 0) (by kernel_rfl) (by kernel_rfl) ⟨⟨_, hB⟩, rfl⟩ [4] _ _ (by kernel_rfl) ?_
  simp only [List.map_cons, List.map_nil, List.getElem?_toArray, List.getElem?_cons_succ, List.getElem?_cons_zero, Option.getD_some]
  repeat (go_big_quiet_step (fail))
  refine wpQuiet_nil ?_
  refine wpC_done (by kernel_rfl) ?_
  have hbl3 : W3.cell? ⟨w.heap.size, 0, none⟩ = some (.slice A l.length cap) := (hB.cell (p := ⟨w.heap.size, 0, none⟩) hq1).trans hbl2
  have hbn3 : W3.cell? ⟨w1.heap.size, 0, none⟩ = some (.map (some nb)) := (hB.cell (p := ⟨w1.heap.size, 0, none⟩) (show w1.heap.size < _ by have := HS2.out; omega)).trans hbn2
  have HM3 := Lib.hid (HM2.out.below hB)
  have HB3 := Lib.hid (HB2.out.trans (hB.mono HB2.out.size))
  have hs3 := hB.size
  have hs3w : w1.heap.size + 1 ≤ W3.heap.size := by have := HS2.out; omega
  clear hB hbl2 hbn2 HM2 HB2 HS2 hq1 hs3
  generalize hn1 : w1.heap.size = Bn at *
  clear hn1
  go_wp2_with (at_make; refine wpList_make_full _ rfl _ _ 37 rfl w.heap.size 3 j0 (.int .i64 0) 1 Tryz.underlying37 hI0.out hI1.out hI2.out _ _ _ _ l.length rfl rfl (by omega) (by omega) (by rw [hI3.out]; omega) (by unfold maxLen; omega) (by omega) ?_; intro w4 hown hgrow; have hbl4 := cell_kept hbl3 hgrow (fun r e => by cases e); have hbl5 : (w4.alloc (.cells #[.slice (some ⟨W3.heap.size, 0, none⟩) l.length l.length] 37)).cell? ⟨w.heap.size, 0, none⟩ = some (.slice A l.length cap) := cell_kept hbl4 (World.grownBy_alloc w4 _ none) (fun r e => by cases e); go_frame)
  rw [jmade1] at hown
  have hg4 : Below W3.heap.size W3 w4 := grown_below hgrow (Nat.le_refl _) (fun k hk => by cases hk)
  have hgl : W3.heap.size < w4.heap.size := (jown_at hown).1
  have hbn4 := (hg4.cell (p := ⟨Bn, 0, none⟩) (show Bn < _ by omega)).trans hbn3
  obtain ⟨W5, hW5⟩ : ∃ W5, W5 = w4.alloc (.cells #[.slice (some ⟨W3.heap.size, 0, none⟩) l.length l.length] 37) := ⟨_, rfl⟩
  have HLA : Hid (LaR A cap l w w.heap.size Bn w4.heap.size nb W3.heap.size (lat0K l 0) W5) := Lib.hid (by
    rw [lat0K_zero, hW5]
    exact ⟨hown.alloc _, (HM3.out.below hg4).alloc _, hbl5, cell_kept hbn4 (World.grownBy_alloc w4 _ none) (fun r e => by cases e), (Boxed.new w4 37 (.slice (some ⟨W3.heap.size, 0, none⟩) l.length l.length)).cell, (HB3.out.trans (hg4.mono HB3.out.size)).alloc (by have := HB3.out.size; omega) _⟩)
  have hwB : w.heap.size < Bn ∧ Bn < W3.heap.size := by omega
  rw [← hW5]
  generalize hBo : w4.heap.size = Bo at *
  generalize hgg : W3.heap.size = g at *
  clear hown hgrow hbl4 hbl5 hbl3 hbn3 hg4 hbn4 HM3 HB3 hW5 hBo hgg
  go_loopw [24] (fun i W => ∃ k : Nat, k ≤ l.length ∧ i = .int .i64 k ∧ Hid (LaR A cap l w w.heap.size Bn Bo nb g (lat0K l k) W)) (fun i _ => l.length - (intOf i).toNat)
  case atStart => exact ⟨0, Nat.zero_le _, rfl, HLA⟩
  case round =>
    clear HLA
    obtain ⟨k, hk, rfl, HE⟩ := hrel
    have hbw := HE.out.bel
    have hbs := hbw.size
    by_cases hlt : k < l.length
    · obtain ⟨b, off, rfl, hb0, hc1, hc2, hc3, A', n, cc, hc4, -, -, -⟩ := (HX.out.below hbw).at_ k hlt
      have hk1 : (k : Int) < l.length := by omega
      have hk2 : ¬ l.length ≤ k := by omega
      have hb1 : b < wr.heap.size := by omega
      have hda := dy_bd HP.out hlt
      have hnx := lat0K_next hlt
      obtain ⟨⟨q1, q2, q3⟩, q4, q5⟩ := HE.out.lt
      have r3 := HE.out.bo
      obtain ⟨-, -, hgc, hgf⟩ := jown_at HE.out.own
      have hgk := hgc k hlt
      have hfk := hgf k
      change 1 ≤ (tkA l k).dy ∧ (tkA l k).dy ≤ 1000 at hda
      unfold dyA at hnx
      generalize (tkA l k).nm = X at *
      generalize (tkA l k).dy = Y at *
      generalize (tkA l k).mn = Z at *
      generalize lenV l = L at *
      have hst0 := HE.out.store (by omega) (by omega) (by omega) k (L - Y)
      rw [← hnx] at hst0
      have hst := hst0.later ((Below.refl _ _).alloc (Nat.le_refl _) (.cells #[.string X, .int .i64 Y, .int .i64 Z, .slice A' n cc] 34))
      clear hst0
      have HST := Lib.hid hst
      have hwr : wrap64 (L - Y) = L - Y := IntWalk.wrap64_in _ ⟨by omega, by omega⟩
      have hBo1 : ¬ Bo = wr.heap.size := by omega
      have hg1 : ¬ g = wr.heap.size := by omega
      clear hst hnx hgc hgf HE hbw
      go_wp2
      go_roundw
      case rel => exact ⟨k + 1, by omega, by go_num, HST⟩
      case measure => simp [intOf]; omega
    · have hkl : k = l.length := by omega
      have hk1 : ¬ (k : Int) < l.length := by omega
      have HE1 : Hid (LaR A cap l w w.heap.size Bn Bo nb g (lat0 l) wr) := Lib.hid (by rw [hkl, lat0K_end] at HE; exact HE.out)
      have q0 := HE1.out.bl
      subst hkl
      clear HE
      go_wp2_with fail
      refine (C5.out _ hbw).mono ?_
      rintro e w6 ⟨⟨v, rfl, ho⟩, hb⟩
      obtain ⟨A1', cap1', rfl, hq1, hq2, hI, hg5⟩ := own_ints ho
      have hol : (ord l).length = l.length := HP.out.all
      rw [hol] at hI hg5 hq1 ⊢
      have HE6 := Lib.hid (HE1.out.later hb)
      have hs6 := hb.size
      have hlt6 := HE6.out.lt
      have hlt1 := HE1.out.lt
      have hA6 : ∀ b off, A1' = some ⟨b, off, none⟩ → b ≠ g := fun b off he => by
        obtain ⟨g', e1, e2, -⟩ := hg5 HP.out.pos
        rw [he] at e1; injection e1 with e1; injection e1 with e1 e2 e3
        omega
      have HI := Lib.hid hI
      have HA6 := Lib.hid hA6
      clear ho hb hI hg5 hA6
      go_wp2_with (go_at_call 58; refine (Backward_any _ _ _ _).mono ?_; rintro e w' ⟨rfl, rfl⟩)
      obtain ⟨W0, hW0⟩ : ∃ W0, W0 = w6.alloc (.cells #[.slice A1' l.length cap1'] 37) := ⟨_, rfl⟩
      have hb60 : Below w6.heap.size w6 W0 := by rw [hW0]; exact (Below.refl _ _).alloc (Nat.le_refl _) _
      have hs0 : W0.heap.size = w6.heap.size + 1 := by rw [hW0]; simp
      have hcl0 : W0.cell? ⟨w6.heap.size, 0, none⟩ = some (.slice A1' l.length cap1') := by rw [hW0]; exact (Boxed.new w6 37 _).cell
      have hst := bwd_stops 8 (by omega) w6.heap.size W0.heap.size g A1' l.length cap1' (iN (ord l)) (by omega) W0 ⟨⟨by omega, by omega⟩, Nat.le_refl _⟩ HA6.out hcl0 ((HI.out.below hb60).more hb60.size)
      have HST := Lib.hid hst
      have HE0 := Lib.hid (HE6.out.later hb60)
      have hlt0 := HE0.out.lt
      have hbw0 := HE0.out.bel.size
      rw [← hW0]
      clear hst hcl0 hb60 hW0 HI HA6 HE6 HE1
      refine (wpIn_wide (n := 9)).1 ?_
      refine wpIn_rangeFunc_ownG_of_H rfl (by omega) (gf := 71) (lb := #[.pointer (some ⟨w6.heap.size, 0, none⟩)]) rfl trivial (enters_of Tryz.func71 (by kernel_rfl) rfl)
        HST.out KeepE.t (KeepE.b (Nat.le_refl _)) (Below.refl _ _) (fun _ => rfl)
        (fun pre W => LaR A cap l w w.heap.size Bn Bo nb g (latF l (pre.map (ordX l))) W)
        (fun _ _ _ => False)
        (fun s X Y row hs hg hr => hs.grown hg (fun r e => (hr r e).1) hlt0 hbw0)
        (fun _ _ _ _ _ hs _ _ => hs)
        HE0.out
        ?act ?assign ?body ?done ?stop (fun _ => KeepE.refl _ _ _)
      case assign =>
        intro yl z W K hK
        rw [show encB (iN (ord l)) l.length z = #[.int .i64 ((z % l.length : Nat) : Int), .int .i64 (ordX l z : Int)] from by unfold encB; rw [ordX_int HP.out]]
        gi_wp2
        exact hK
      case body =>
        rintro yl pre z W hE hlp
        have hil := ordX_lt HP.out z
        have hbd := latF_bd HP.out (pre.map (ordX l)) (fun v hv => by obtain ⟨x, -, rfl⟩ := List.mem_map.1 hv; exact ordX_lt HP.out x)
        rw [List.length_map] at hbd
        have HSN := Lib.hid (latF_snoc l (pre.map (ordX l)) (ordX l z))
        have hmp : (pre ++ [z]).map (ordX l) = pre.map (ordX l) ++ [ordX l z] := by rw [List.map_append]; rfl
        have HMP := Lib.hid hmp
        generalize hQ : latF l (pre.map (ordX l)) = Q at *
        generalize hio : ordX l z = i at *
        have hbj := fun j : Nat => latJ_bd HP.out hbd hil j
        have hbw2 := hE.bel
        have hws := hbw2.size
        obtain ⟨b, off, rfl, hb0, -, -, -, A', n, cc, d4, hn1, hn2, hSt⟩ := HX.out.at_ i hil
        have D4 := Lib.hid d4
        have HSt := Lib.hid hSt
        obtain rfl : (tkA l i).af.length = n := hSt.1
        have hfew := HP.out.few _ hil
        have hkn := fun j (h : j < (tkA l i).af.length) => HP.out.known _ hil _ (afA_mem h)
        have hEn := fun j (h : j < (tkA l i).af.length) => (latJ_next (l := l) (i := i) (out := Q) (j := j) (by rw [afs_len]; exact h)).trans (by rw [afs_get h])
        have hEe := latJ_end (l := l) (i := i) (out := Q) (j := (tkA l i).af.length) (by rw [afs_len]; exact Nat.le_refl _)
        have hEz : latJ l i Q 0 = Q := rfl
        have HAN := Lib.hid (HS.out.an _ hil)
        have HBJ := Lib.hid hbj
        have HKN := Lib.hid hkn
        have HEN := Lib.hid hEn
        have HEE := Lib.hid hEe
        have q0 := hE.bl
        have hb1 : b < W.heap.size := by omega
        have hc4 : W.cell? ⟨b, off + i * 4 + 3, none⟩ = some (.slice A' (tkA l i).af.length cc) := (hbw2.cell (p := ⟨b, _, none⟩) hb0).trans D4.out
        have hi1 : (i : Int) < l.length := by omega
        have hi2 : ¬ l.length ≤ i := by omega
        have hnn : (tkA l i).af.length ≤ 9223372036854775807 := by omega
        have HE := Lib.hid (show LaR _ cap l w w.heap.size Bn Bo nb g (latJ l i Q 0) W by rw [hEz]; exact hE)
        clear d4 hSt hkn hEn hEe hEz hE hbj hbd hQ hio hmp HST HE0
        gi_wp2
        gi_loopw [48] (fun i' wr => ∃ j : Nat, j ≤ (tkA l i).af.length ∧ i' = .int .i64 j ∧ Hid (LaR (some ⟨b, off, none⟩) cap l w w.heap.size Bn Bo nb g (latJ l i Q j) wr) ∧ Hid (KG g W wr)) (fun i' _ => (tkA l i).af.length - (intOf i').toNat)
        case atStart => exact ⟨0, Nat.zero_le _, rfl, HE, Lib.hid (KG.refl _ _)⟩
        case round =>
          clear hb1 hc4 q0 HE
          obtain ⟨j, hj, rfl, HE, HK⟩ := hrel
          have hbw3 := HE.out.bel
          have hbs3 := hbw3.size
          by_cases hlj : j < (tkA l i).af.length
          · obtain ⟨b2, off2, rfl, hb2, hc6⟩ := (HSt.out.below hbw3).atS j hlj
            change wr.cell? _ = some (.string (afA l i j)) at hc6
            have hal := HKN.out j hlj
            have hmv := fndM_at (l := l) (k := l.length) hal
            have HSZ := Lib.hid (HAN.out _ (afA_mem hlj))
            have hnx := HEN.out j hlj
            obtain ⟨b7, off7, he7, hb7, d1, d2, d3, -⟩ := (HX.out.below hbw3).at_ (fnd l (afA l i j)) hal
            injection he7 with he7
            injection he7 with he71 he72
            subst he71 he72
            have hbd := HBJ.out j
            have hda := dy_bd HP.out hal
            change 1 ≤ (tkA l _).dy ∧ (tkA l _).dy ≤ 1000 at hda
            obtain ⟨hgs, hgb, hgc, hgf⟩ := jown_at HE.out.own
            have hci := hgc i hil
            have hca := hgc (fnd l (afA l i j)) hal
            have hfa := hgf (fnd l (afA l i j))
            have hlk := MapV.run_int (t := 72) HE.out.map lawS Tryz.underlying72 Tryz.underlying3 (zeroIn _) (afA l i j) (keyS HSZ.out)
            rw [hmv] at hlk
            have hst := HE.out.store (by omega) (by omega) (by omega) (fnd l (afA l i j)) (imin (gI (latJ l i Q j) (fnd l (afA l i j))) (gI (latJ l i Q j) i - (tkA l (fnd l (afA l i j))).dy))
            have hbi := hbd i
            have hba := hbd (fnd l (afA l i j))
            have r0 := HE.out.bl
            have r1 := HE.out.bn
            have r2 := HE.out.bo
            unfold latS dyA at hnx
            rw [← hnx] at hst
            generalize hQ2 : latJ l i Q j = Q2 at *
            generalize afA l i j = X at *
            generalize hF : fnd l X = F at *
            generalize (tkA l F).dy = Y at *
            generalize gI Q2 i = Gi at *
            generalize gI Q2 F = Ga at *
            have HST := Lib.hid hst
            have hF1 : (F : Int) < l.length := by omega
            have hF2 : ¬ l.length ≤ F := by omega
            have hj1 : (j : Int) < (tkA l i).af.length := by omega
            have hj2 : ¬ (tkA l i).af.length ≤ j := by omega
            have hb1 : b < wr.heap.size := by omega
            have hb3 : b2 < wr.heap.size := by omega
            have hlenb : pre.length ≤ 20 := by omega
            have hwr : wrap64 (Gi - Y) = Gi - Y := IntWalk.wrap64_in _ ⟨by omega, by omega⟩
            unfold imin at HST
            clear hst hnx hbd hgc hgf hQ2 hF d1 d3 hmv
            simp only [Option.getD_some] at hlk
            by_cases hc : Gi - Y < Ga
            · rw [if_pos hc] at HST
              have hc1 : ¬ Ga ≤ Gi - Y := by omega
              have hc2 : ¬ Ga < Gi - Y := by omega
              gi_wp2
              (refine wpIn_round_tail 18 (by kernel_rfl) (by kernel_rfl) (by kernel_rfl) (by kernel_rfl) ?_; simp only [List.take_succ_cons, List.take_zero, List.drop_succ_cons, List.drop_zero]; (repeat (go_big_quiet_step ((fail)))); refine wpQuiet_nil ?_)
              go_wp2
              all_goals
                refine ⟨rfl, ?_⟩
                gi_wp2
                go_roundw
                case rel => exact ⟨j + 1, by omega, by go_num, Lib.hid (HST.out.later (Below.refl _ _).drew), Lib.hid (HK.out.set _ _).drew⟩
                case measure => simp [intOf]; omega
            · rw [if_neg hc] at HST
              have hc1 : Ga ≤ Gi - Y := by omega
              gi_wp2
              (refine wpIn_round_tail 18 (by kernel_rfl) (by kernel_rfl) (by kernel_rfl) (by kernel_rfl) ?_; simp only [List.take_succ_cons, List.take_zero, List.drop_succ_cons, List.drop_zero]; (repeat (go_big_quiet_step ((fail)))); refine wpQuiet_nil ?_)
              go_wp2
              all_goals
                refine ⟨rfl, ?_⟩
                gi_wp2
                go_roundw
                case rel => exact ⟨j + 1, by omega, by go_num, Lib.hid (HST.out.later (Below.refl _ _).drew), Lib.hid (HK.out.set _ _).drew⟩
                case measure => simp [intOf]; omega
          · have hjn : j = (tkA l i).af.length := by omega
            have hj1 : ¬ (j : Int) < (tkA l i).af.length := by omega
            have HF : Hid (LaR (some ⟨b, off, none⟩) cap l w w.heap.size Bn Bo nb g (latF l ((pre ++ [z]).map (ordX l))) wr) := Lib.hid (by rw [HMP.out, HSN.out, ← HEE.out, ← hjn]; exact HE.out)
            clear HE
            gi_wp2
            exact ⟨HK.out.from (by omega), HK.out.keepE, HF.out⟩
      case done =>
        rintro D ys W hD rfl hE hK
        rw [ordX_bk HP.out] at hE
        have hpe : latF l (ord l).reverse = latP l := rfl
        rw [hpe] at hE
        have hbwD := hE.bel
        have r2 := hE.bo
        have hbD : Below w.heap.size w (W.putObj D (.deferred none)) := hbwD.trans (belowK_b (w := w) (Nat.le_refl _) W D _ _ (by omega) hK rfl rfl)
        have HO := Lib.hid (ownsRow_putObj hE.own (.deferred none) hK rfl)
        have HBD := Lib.hid hbD
        clear hE hbwD hbD HE0 HST
        go_wp2
        refine ⟨by simp, .inl ⟨_, _, rfl, run_takeDeferred hK, ?_⟩⟩
        exact ⟨.slice (some ⟨g, 0, none⟩) l.length l.length, by simp [results, Tryz.results37, go_sem], ⟨_, rfl, HO.out⟩, HBD.out⟩
      case stop =>
        rintro D c pre W _ _ h _
        exact h.elim
end Go.Proofs.YtmionebfepkolaaGreatDoor
