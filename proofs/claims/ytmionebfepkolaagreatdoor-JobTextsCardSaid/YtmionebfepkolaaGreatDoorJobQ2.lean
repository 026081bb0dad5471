/- Plans: the program's order. -/
import Derived.Test.YtmionebfepkolaaGreatDoorJobI
import Derived.Deep.LoopGhost
set_option linter.unusedSimpArgs false
set_option linter.unusedVariables false
namespace Go.Proofs.YtmionebfepkolaaGreatDoor
open Go.RowKit Go.Shelf Go.Maps
attribute [local go_sem] Oper.semAt_some

/-- The marks that ranges over a function leave, one behind the other. -/
def mkD (Ds : List Nat) : List Deferred := Ds.map fun D => { target := .collected D, args := #[] }
def Shut : List Nat → World → World → Prop
  | [], W, W' => W' = W
  | D :: Ds, W, W' => Shut Ds (W.putObj D (.deferred none)) W'
def MarksAt (W : World) (B : Nat) (Ds : List Nat) : Prop := Ds.Nodup ∧ ∀ D ∈ Ds, B ≤ D ∧ W.heap[D]? = some (.deferred (some []))
theorem MarksAt.nil (W : World) (B : Nat) : MarksAt W B [] := ⟨List.nodup_nil, fun D h => (by cases h)⟩
theorem MarksAt.put {W : World} {B D : Nat} {Ds : List Nat} (h : MarksAt W B (D :: Ds)) : MarksAt (W.putObj D (.deferred none)) B Ds := by
  have h1 := List.nodup_cons.1 h.1
  exact ⟨h1.2, fun E hE => ⟨(h.2 E (List.mem_cons_of_mem _ hE)).1, (World.putObj_heap_other (fun e => h1.1 (by first | (rw [e]; exact hE) | (rw [← e]; exact hE)))).trans (h.2 E (List.mem_cons_of_mem _ hE)).2⟩⟩
theorem MarksAt.keep {W W' : World} {B : Nat} {Ds : List Nat} (h : MarksAt W B Ds) (hk : ∀ D ∈ Ds, W.heap[D]? = some (.deferred (some [])) → W'.heap[D]? = W.heap[D]?) : MarksAt W' B Ds := ⟨h.1, fun D hD => ⟨(h.2 D hD).1, (hk D hD (h.2 D hD).2).trans (h.2 D hD).2⟩⟩
theorem MarksAt.cons {W : World} {B D : Nat} {Ds : List Nat} (h : MarksAt W B Ds) (hn : D ∉ Ds) (hB : B ≤ D) (hD : W.heap[D]? = some (.deferred (some []))) : MarksAt W B (D :: Ds) :=
  ⟨List.nodup_cons.2 ⟨hn, h.1⟩, fun E hE => by rcases List.mem_cons.1 hE with rfl | hE; exact ⟨hB, hD⟩; exact h.2 E hE⟩
theorem leaves_marks {F : Fence} {n : Nat} {P : Program} {fn : Func} {tmps : Array Value} {R : Ending → World → Prop} {B : Nat} : ∀ {Ds : List Nat} {W : World}, MarksAt W B Ds →
    (∀ W', Shut Ds W W' → ∃ v, (results fn tmps).run P W' = .ok v W' ∧ R (.returned v) W') → LeavesInM F n P fn tmps R (mkD Ds) .returning W
  | [], W, _, h => h W rfl
  | D :: Ds, W, hm, h => by
    refine ⟨by simp, .inl ⟨D, _, rfl, run_takeDeferred (hm.2 D (List.mem_cons_self ..)).2, ?_⟩⟩
    exact leaves_marks hm.put fun W' hW' => h W' hW'
theorem Shut.below {w : World} : ∀ {Ds : List Nat} {W W' : World}, MarksAt W w.heap.size Ds → Shut Ds W W' → Below w.heap.size W W'
  | [], W, W', _, h => by rw [show W' = W from h]; exact Below.refl _ _
  | D :: Ds, W, W', hm, h => by
    have h1 := hm.2 D (List.mem_cons_self ..)
    exact (belowK_b (w := w) (Nat.le_refl _) W D _ _ h1.1 h1.2 rfl rfl).trans (Shut.below hm.put h)
theorem Shut.owns {w : World} {base : Nat} {e : TypeId} {size : Nat} {v : Value} {n : Nat} {xs : List Value} : ∀ {Ds : List Nat} {W W' : World}, MarksAt W w.heap.size Ds → Shut Ds W W' → W.ownsRow base e size v n xs → W'.ownsRow base e size v n xs
  | [], W, W', _, h, ho => by rw [show W' = W from h]; exact ho
  | D :: Ds, W, W', hm, h, ho => Shut.owns hm.put h (ownsRow_putObj ho _ (hm.2 D (List.mem_cons_self ..)).2 rfl)
theorem own_not_def {W : World} {base : Nat} {e : TypeId} {size : Nat} {v : Value} {n : Nat} {xs : List Value} (ho : W.ownsRow base e size v n xs) {D : Nat} {ds : Option (List Deferred)} (hD : W.heap[D]? = some (.deferred ds)) : some D ≠ v.ownBlock := by
  intro hh
  rcases ho.2 with ⟨h1, _⟩ | ⟨g, cap, cur, h1, _, h3, _⟩
  · rw [h1] at hh; simp [Value.ownBlock] at hh
  · rw [h1] at hh
    have : D = g := by simpa [Value.ownBlock] using hh
    subst this
    rw [hD] at h3; cases h3

theorem jown_block {w w' : World} {base : Nat} {e : TypeId} {size : Nat} {v : Value} {n : Nat} {xs : List Value} (h : w.ownsRow base e size v n xs) (hb : ∀ g, v.ownBlock = some g → w'.heap[g]? = w.heap[g]?) : w'.ownsRow base e size v n xs := by
  obtain ⟨h1, h2⟩ := h
  refine ⟨h1, ?_⟩
  rcases h2 with h2 | ⟨g, cap, cur, a1, a2, a3, a4⟩
  · exact .inl h2
  · exact .inr ⟨g, cap, cur, a1, a2, (hb g (by rw [a1]; rfl)).trans a3, a4⟩
theorem own_not_map {W : World} {base : Nat} {e : TypeId} {size : Nat} {v : Value} {n : Nat} {xs : List Value} (ho : W.ownsRow base e size v n xs) {mb mn : Nat} {M : ByteArray → Option Bool} (hM : MapS W mb mn M) : some mb ≠ v.ownBlock := by
  intro hh
  obtain ⟨D, ⟨es, clock, hD, -⟩, -⟩ := hM
  rcases ho.2 with ⟨h1, _⟩ | ⟨g, cap, cur, h1, _, h3, _⟩
  · rw [h1] at hh; simp [Value.ownBlock] at hh
  · rw [h1] at hh
    have : mb = g := by simpa [Value.ownBlock] using hh
    subst this
    rw [hD] at h3; cases h3
theorem map_not_def {W : World} {mb mn D : Nat} {M : ByteArray → Option Bool} (hM : MapS W mb mn M) {ds : Option (List Deferred)} (hD : W.heap[D]? = some (.deferred ds)) : D ≠ mb := by
  intro hh
  obtain ⟨_, ⟨es, clock, h1, -⟩, -⟩ := hM
  subst hh
  rw [hD] at h1; cases h1
theorem MarksAt.grown {W W' : World} {B : Nat} {Ds : List Nat} {row : Option Nat} (h : MarksAt W B Ds) (hg : W.grownBy W' row) (hr : ∀ D, W.heap[D]? = some (.deferred (some [])) → some D ≠ row) : MarksAt W' B Ds :=
  h.keep fun D _ h1 => hg.block D (Array.getElem?_eq_some_iff.1 h1).1 (hr D h1)
theorem MarksAt.later {W W' : World} {B n : Nat} {Ds : List Nat} (h : MarksAt W B Ds) (hb : Below n W W') (hn : ∀ D ∈ Ds, D < n) : MarksAt W' B Ds :=
  h.keep fun D hD _ => hb.block D (hn D hD)
theorem MarksAt.lt {W : World} {B : Nat} {Ds : List Nat} (h : MarksAt W B Ds) : ∀ D ∈ Ds, D < W.heap.size := fun D hD => (Array.getElem?_eq_some_iff.1 (h.2 D hD).2).1
def OrdI (A : Option Addr) (cap : Nat) (l : List Tk) (w : World) (m : Nat) (a : Act) (W : World) : Prop :=
  ∃ (k : Nat) (v : Value) (Ds : List Nat) (u5 u6 u8 u9 u10 u11 u12 u13 u14 u15 u16 u17 u18 u19 u20 u21 u22 u23 u24 u25 : Value), k + m = l.length ∧ (ordK l k).length = k ∧
    a = { tmps := #[.slice A l.length cap, undef, .slice none 0 0, v, .map (some w.heap.size), u5, u6, .map (some w.heap.size), u8, u9, u10, u11, u12, u13, u14, u15, u16, u17, u18, u19, u20, u21, u22, u23, u24, u25], defers := mkD Ds } ∧
    W.ownsRow w.heap.size 3 1 v k (icells (iN (ordK l k))) ∧ MapS W w.heap.size k (nmsOf l (ordK l k)) ∧ MarksAt W w.heap.size Ds ∧ Below w.heap.size w W ∧ w.heap.size < W.heap.size
theorem OrdI.mk {A : Option Addr} {cap : Nat} {l : List Tk} {w : World} {m : Nat} {W : World} (k : Nat) (v : Value) (Ds : List Nat) {u5 u6 u8 u9 u10 u11 u12 u13 u14 u15 u16 u17 u18 u19 u20 u21 u22 u23 u24 u25 : Value} (h1 : k + m = l.length) (h2 : (ordK l k).length = k)
    (h3 : W.ownsRow w.heap.size 3 1 v k (icells (iN (ordK l k)))) (h4 : MapS W w.heap.size k (nmsOf l (ordK l k))) (h5 : MarksAt W w.heap.size Ds) (h6 : Below w.heap.size w W) (h7 : w.heap.size < W.heap.size) :
    OrdI A cap l w m { tmps := #[.slice A l.length cap, undef, .slice none 0 0, v, .map (some w.heap.size), u5, u6, .map (some w.heap.size), u8, u9, u10, u11, u12, u13, u14, u15, u16, u17, u18, u19, u20, u21, u22, u23, u24, u25], defers := mkD Ds } W :=
  ⟨k, v, Ds, u5, u6, u8, u9, u10, u11, u12, u13, u14, u15, u16, u17, u18, u19, u20, u21, u22, u23, u24, u25, h1, h2, rfl, h3, h4, h5, h6, h7⟩
set_option maxRecDepth 20000 in
set_option maxHeartbeats 8000000 in
theorem order_any (A : Option Addr) (len cap : Nat) (l : List Tk) (w : World) (hS : Sml l) (hN : okN l) (hx : Plan w w.heap.size A len l) :
    Calls Tryz.prog 45 #[.slice A len cap] w fun e w' => (∃ v, e = .returned v ∧ w'.ownsRow w.heap.size 3 1 v (ord l).length (icells (iN (ord l)))) ∧ Below w.heap.size w w' := by
  obtain rfl : l.length = len := hx.1
  have hmm := @run_makeMap Tryz.prog
  obtain ⟨j0, hj, hy0, hy1, hy2⟩ := info_parts jinfo_int
  have hI0 := Lib.hid hj
  have hI1 := Lib.hid hy0
  have hI2 := Lib.hid hy1
  have hI3 := Lib.hid hy2
  have HX := Lib.hid hx
  have HS := Lib.hid hS
  have HN := Lib.hid hN
  have hL := hS.len
  have hM0 : MapS (w.alloc (.map #[] 0)) w.heap.size 0 (nmsOf l (ordK l 0)) := mapv_made w Tryz.prog 9 4 slit blit false
  have HM0 := Lib.hid hM0
  clear hj hy0 hy1 hy2 hx hM0
  refine (callsIn_wide (n := 9)).1 ?_
  refine callsIn_of_wp_marks Tryz.func45 rfl trivial ?_ rfl
  simp only [Tryz.ntmps45, List.size_toArray, List.length_cons, List.length_nil, Nat.reduceAdd, Nat.reduceSub, Array.replicate_succ, Array.replicate_zero, List.push_toArray, List.append_toArray, List.nil_append, List.cons_append]
  refine wpIn_wide.2 ?_
  go_wp2
  clear hmm
  refine wp_loop_ghost (OrdI A cap l w) l.length (OrdI.mk 0 (.slice none 0 0) [] (by omega) rfl (World.ownsRow_nil _ _ _ _) HM0.out (MarksAt.nil _ _) (by repeat (first | exact Below.refl _ _ | assumption | refine Below.setCell ?_ (by first | (simp; done) | (simp; omega) | omega) _ | refine Below.drew ?_ | refine below_drewN ?_ _ | refine Below.alloc ?_ (by first | (simp; done) | (simp; omega) | omega) _ | refine below_alloc ?_ _ | refine below_step ?_ (by assumption))) (by simp)) ?_
  rintro m a wr ⟨k, v, Ds, u5, u6, u8, u9, u10, u11, u12, u13, u14, u15, u16, u17, u18, u19, u20, u21, u22, u23, u24, u25, hkm, hkl, rfl, ho, hM, hD, hB, hsz⟩
  obtain ⟨A1, cap1, rfl, hq1, hq2, -, -⟩ := own_ints ho
  have hbs := hB.size
  have HO := Lib.hid ho
  have HM := Lib.hid hM
  have HD := Lib.hid hD
  have HB := Lib.hid hB
  have HKL := Lib.hid hkl
  clear ho hM hD hkl hB
  obtain ⟨W0, hW0⟩ : ∃ W0, W0 = ((wr.alloc (.cells #[.int .i64 (-1)] 3)).alloc (.cells #[.slice A l.length cap] 22)).alloc (.cells #[.map (some w.heap.size)] 74) := ⟨_, rfl⟩
  have hs0 : W0.heap.size = wr.heap.size + 1 + 1 + 1 := by rw [hW0]; simp
  have hB0 : Below wr.heap.size wr W0 := by rw [hW0]; exact (((Below.refl _ _).alloc (Nat.le_refl _) _).alloc (by simp) _).alloc (by simp; omega) _
  have hbx : Boxed W0 wr.heap.size 3 (.int .i64 (-1)) := by rw [hW0]; exact ((Boxed.new wr _ _).alloc _).alloc _
  have hcl : W0.cell? ⟨wr.heap.size + 1, 0, none⟩ = some (.slice A l.length cap) := by
    have := ((Boxed.new (wr.alloc (.cells #[.int .i64 (-1)] 3)) 22 (.slice A l.length cap)).alloc (.cells #[.map (some w.heap.size)] 74)).cell
    rw [World.size_alloc] at this; rw [hW0]; exact this
  have hct : W0.cell? ⟨wr.heap.size + 1 + 1, 0, none⟩ = some (.map (some w.heap.size)) := by
    have := (Boxed.new ((wr.alloc (.cells #[.int .i64 (-1)] 3)).alloc (.cells #[.slice A l.length cap] 22)) 74 (.map (some w.heap.size))).cell
    rw [World.size_alloc, World.size_alloc] at this; rw [hW0]; exact this
  have hM0 : MapS W0 w.heap.size k (nmsOf l (ordK l k)) := HM.out.below hB0
  have hX0 : Plan W0 w.heap.size A l.length l := (HX.out.below HB.out).below (hB0.mono hbs)
  have hst := ready_stops 8 (by omega) (wr.heap.size + 1) (wr.heap.size + 1 + 1) w.heap.size k w.heap.size W0.heap.size wr.heap.size A l.length cap l (nmsOf l (ordK l k)) HS.out W0 (by omega) hcl hct hM0 hX0
  have HST := Lib.hid hst
  have HBX := Lib.hid hbx
  have HB0 := Lib.hid hB0
  clear hst hbx hcl hct hM0 hX0 hB0
  go_wp2_with (go_at_call 60; refine (ready_any _ _ _ _ _).mono ?_; rintro e w' ⟨rfl, rfl⟩)
  refine (wpIn_wide (n := 9)).1 ?_
  rw [← hW0]
  clear hW0
  refine wpIn_rangeFunc_ownG_of_H rfl (by omega) (gf := 72) (lb := #[.pointer (some ⟨wr.heap.size + 1, 0, none⟩), .pointer (some ⟨wr.heap.size + 1 + 1, 0, none⟩)]) rfl trivial (enters_of Tryz.func72 (by kernel_rfl) rfl)
    HST.out KeepE.t (KeepE.b (Nat.le_refl _)) (Below.refl _ _) (fun _ => rfl)
    (fun pre W => (pre = [] ∧ Boxed W wr.heap.size 3 (.int .i64 (-1))) ∧ Below wr.heap.size W0 W)
    (fun c pre W => (∃ x, (c = .exit 2 ∧ pre = [x]) ∧ Boxed W wr.heap.size 3 (.int .i64 ((x % l.length : Nat) : Int))) ∧ Below wr.heap.size W0 W)
    (OwnFrom.and (OwnFrom.and (ownFrom_pure _ (fun pre => pre = [])) (Own.from (boxed_own _ _ (fun _ => .int .i64 (-1))) _)) (ownFrom_below (by omega) (by omega)))
    (fun c => OwnFrom.and (fun s X Y row hs hg hr => by obtain ⟨x, h1, h2⟩ := hs; exact ⟨x, h1, boxed_own wr.heap.size 3 (fun _ : Unit => .int .i64 ((x % l.length : Nat) : Int)) () X Y row h2 hg (fun r e => (hr r e).2)⟩) (ownFrom_below (by omega) (by omega)))
    ⟨⟨rfl, HBX.out⟩, Below.refl _ _⟩
    ?act ?assign ?body ?done ?stop (fun _ => KeepE.refl _ _ _)
  case assign =>
    intro yl z W K hK
    unfold encT
    gi_wp2
    exact hK
  case body =>
    rintro yl pre z W ⟨⟨rfl, hbx⟩, hB⟩ hlt
    have hlx := hbx.lt
    have hcx := hbx.cell
    have hfx := hbx.frozen
    gi_wp2
    refine ⟨(KeepsOthers.setCell _ _ _).from _, ⟨z, ⟨rfl, rfl⟩, hbx.set _⟩, hB.setCell (p := ⟨wr.heap.size, 0, none⟩) (Nat.le_refl _) _⟩
  case done =>
    rintro D ys W hD rfl ⟨⟨hnil, hbx⟩, hB⟩ hK
    have hM1 := (HM.out.below HB0.out).inblock (hB.block w.heap.size (by omega))
    have hlt := HD.out.lt
    have hD0 := (HD.out.later HB0.out hlt).later hB hlt
    have hDW : MarksAt W w.heap.size (D :: Ds) := hD0.cons (fun h => by have := hlt D h; omega) (by omega) hK
    have hO1 : W.ownsRow w.heap.size 3 1 (.slice A1 k cap1) k (icells (iN (ordK l k))) := jown_block (jown_later HO.out HB0.out) fun g hg => hB.block g (HO.out.lt g hg).2
    have hBW : Below w.heap.size w W := HB.out.trans ((HB0.out.mono hbs).trans (hB.mono hbs))
    have hcx := hbx.cell
    have hno : ∀ q, q < l.length → rdy l (ordK l k) q = false := fun q hq => by
      rw [← rdyM_rdy HN.out (fun i hi => ordK_lt hi) hq]
      cases hr : rdyM l (nmsOf l (ordK l k)) q with
      | false => rfl
      | true =>
        exfalso
        have : q ∈ rdN l (nmsOf l (ordK l k)) l.length := List.mem_filter.2 ⟨List.mem_range.2 hq, hr⟩
        rw [hnil] at this; cases this
    have hord : ordK l k = ord l := ordK_ord (nxt_isNone hno)
    have HR : Hid (W.ownsRow w.heap.size 3 1 (.slice A1 k cap1) (ord l).length (icells (iN (ord l)))) := Lib.hid (by rw [← hord, HKL.out]; exact hO1)
    have HDW := Lib.hid hDW
    have HBW := Lib.hid hBW
    have hmk : (({ target := .collected D, args := #[] } : Deferred) :: mkD Ds) = mkD (D :: Ds) := rfl
    clear hM1 hlt hD0 hDW hO1 hBW hno hord hnil hbx hB hK HBX HB0 HST
    dsimp only
    rw [hmk]
    clear hmk
    go_wp2
    refine leaves_marks HDW.out fun W' hW' => ?_
    exact ⟨.slice A1 k cap1, by simp [results, Tryz.results45, go_sem], ⟨_, rfl, hW'.owns HDW.out HR.out⟩, HBW.out.trans (hW'.below HDW.out)⟩
  case stop =>
    rintro D c pre W hD ⟨j, hj, hrd, hpre⟩ ⟨⟨x, ⟨rfl, rfl⟩, hbx⟩, hB⟩ hK
    refine wpIn_wide.2 ?_
    have hlt := HD.out.lt
    have hD0 := (HD.out.later HB0.out hlt).later hB hlt
    have hDW : MarksAt W w.heap.size (D :: Ds) := hD0.cons (fun h => by have := hlt D h; omega) (by omega) hK
    have hO1 : W.ownsRow w.heap.size 3 1 (.slice A1 k cap1) k (icells (iN (ordK l k))) := jown_block (jown_later HO.out HB0.out) fun g hg => hB.block g (HO.out.lt g hg).2
    have hM1 := (HM.out.below HB0.out).inblock (hB.block w.heap.size (by omega))
    have hBW : Below w.heap.size w W := HB.out.trans ((HB0.out.mono hbs).trans (hB.mono hbs))
    have hcx := hbx.cell
    have hnil : rdN l (nmsOf l (ordK l k)) j = [] ∧ x = j := by
      rcases hq : rdN l (nmsOf l (ordK l k)) j with _ | ⟨z, zs⟩
      · rw [hq] at hpre; injection hpre with h1 h2; exact ⟨rfl, h1⟩
      · rw [hq] at hpre; have := congrArg List.length hpre; simp at this
    obtain ⟨hnil, rfl⟩ := hnil
    rw [Nat.mod_eq_of_lt hj] at hcx
    have hnx : nxt l (ordK l k) = some x := by
      refine nxt_is hj (by rw [← rdyM_rdy HN.out (fun i hi => ordK_lt hi) hj]; exact hrd) fun q hq => ?_
      rw [← rdyM_rdy HN.out (fun i hi => ordK_lt hi) (by omega)]
      cases hr : rdyM l (nmsOf l (ordK l k)) q with
      | false => rfl
      | true =>
        exfalso
        have : q ∈ rdN l (nmsOf l (ordK l k)) x := List.mem_filter.2 ⟨List.mem_range.2 hq, hr⟩
        rw [hnil] at this; cases this
    obtain ⟨b, off, rfl, hb0, hc1, -, -, -, -⟩ := (HX.out.below hBW).at_ x hj
    have hb1 : b < W.heap.size := by have := hBW.size; omega
    have HSZ := Lib.hid (HS.out.nm x hj)
    have hkl2 : k < l.length := by
      have h1 := ordK_le l (k + 1)
      rw [ordK_next hnx, List.length_append, HKL.out] at h1
      have h2 : k + 1 ≤ l.length := by simpa using h1
      omega
    have HUP := Lib.hid (nms_upd (l := l) (out := ordK l k) (i := x))
    have HM1 := Lib.hid hM1
    have HO1 := Lib.hid hO1
    have HDW := Lib.hid hDW
    have HBW := Lib.hid hBW
    have HNX := Lib.hid hnx
    have hws := hBW.size
    have hws2 := hB.size
    have hmk : (({ target := .collected D, args := #[] } : Deferred) :: mkD Ds) = mkD (D :: Ds) := rfl
    have hx0 : ¬ (x : Int) < 0 := by omega
    have hx1 : (x : Int) < l.length := by omega
    have hx2 : ¬ l.length ≤ x := by omega
    generalize (tkA l x).nm = X at *
    generalize hnm : nmsOf l (ordK l k) = NM at *
    clear hM1 hO1 hD0 hDW hBW hnx hnil hrd hpre hbx hB hK HBX HB0 HST HM hnm
    dsimp only
    rw [hmk]
    clear hmk
    go_wp2_with (first | (at_mapUpdate; refine wpList_mapv_put (κ := ByteArray) rfl (.tmp 16) (.tmp 21) (.const (.bool true)) 74 rfl lawS Tryz.underlying74 (fun _ _ => slit_inj) (fun _ => trivial) rfl HM1.out (by unfold maxLen; omega) X true _ _ rfl rfl (keyS HSZ.out) (plainElem_bool underBo true) ?_; intro w4 hM4 hg4; have hcx4 : w4.cell? ⟨wr.heap.size, 0, none⟩ = some (.int .i64 (x : Int)) := (World.cell?_of_block (a := ⟨wr.heap.size, 0, none⟩) (hg4.block wr.heap.size (by omega) (by intro e; injection e with e; omega))).trans hcx; have HO4 := Lib.hid (HO1.out.kept hg4 (.inr (Ne.symm (own_not_map HO1.out HM1.out)))); have hs4 := hg4.size; have HG4 := Lib.hid hg4; have HM4 := Lib.hid hM4; clear hM4 hg4 hcx; go_frame) | (at_builtin; go_loud (refine wpList_append_own _ rfl (.tmp 22) (.tmp 24) 37 rfl w.heap.size 3 j0 (.int .i64 0) 1 8 Tryz.underlying37 hI0.out hI1.out hI2.out hI3.out rfl (by decide) _ _ _ rfl (HO4.out.alloc _) ⟨w4.heap.size, 0, none⟩ 1 1 [.int .i64 (x : Int)] rfl rfl (jnews1 _ _ _) (jone1 _) (by unfold maxLen; omega) (by omega) (by simp; omega) ?_); intro v8 w8 hown8 hgrow8 _))
    have hB4 : Below w.heap.size W w4 := grown_below HG4.out hws (fun q hq => by injection hq; omega)
    have hb9 : Below w.heap.size (w4.alloc (.cells #[.int .i64 (x : Int)] 3)) w8 := grown_below hgrow8 (by simp; omega) (fun q hq => ((HO4.out.alloc (.cells #[.int .i64 (x : Int)] 3)).lt q hq).1)
    have hb10 : Below w.heap.size w w8 := HBW.out.trans ((hB4.alloc (by omega) (.cells #[.int .i64 (x : Int)] 3)).trans hb9)
    have HR2 : Hid (w8.ownsRow w.heap.size 3 1 v8 (k + 1) (icells (iN (ordK l (k + 1))))) := Lib.hid (by rw [ordK_next HNX.out, iN_app, icells_app]; exact hown8)
    have HD2 : Hid (MarksAt w8 w.heap.size (D :: Ds)) := Lib.hid (((HDW.out.grown HG4.out (fun E hE e => map_not_def HM1.out hE (by injection e))).grown (World.grownBy_alloc w4 (.cells #[.int .i64 (x : Int)] 3) none) (fun E hE e => by cases e)).grown hgrow8 (fun E hE => own_not_def (HO4.out.alloc _) hE))
    have hM8 : MapS w8 w.heap.size (k + 1) (nmsOf l (ordK l (k + 1))) := by
      rw [ordK_next HNX.out, ← HUP.out]
      exact ((HM4.out.alloc (.cells #[.int .i64 (x : Int)] 3)).kept hgrow8 (own_not_map (HO4.out.alloc (.cells #[.int .i64 (x : Int)] 3)) (HM4.out.alloc (.cells #[.int .i64 (x : Int)] 3))))
    have hs8 := hgrow8.size
    simp at hs8
    exact ⟨m - 1, by omega, OrdI.mk (k + 1) v8 (D :: Ds) (by omega) (by rw [ordK_next HNX.out, List.length_append, HKL.out]; rfl) HR2.out hM8 HD2.out hb10 (by omega)⟩
end Go.Proofs.YtmionebfepkolaaGreatDoor
