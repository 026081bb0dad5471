/- Stacks: what stands above a bed: at. -/
import Derived.Test.YtfahdgmnlpkaiaaStk2
set_option linter.unusedSimpArgs false
set_option linter.unusedVariables false
namespace Go.Proofs.Ytfahdgmnlpkaiaa
open Go.RowKit Go.Shelf
attribute [local go_sem] Oper.semAt_some

/-- The marks that ranges over a function leave, one behind the other. -/
def mkD (Ds : List Nat) : List Deferred := Ds.map fun D => { target := .collected D, args := #[] }
def Shut : List Nat → World → World → Prop
  | [], W, W' => W' = W
  | D :: Ds, W, W' => Shut Ds (W.putObj D (.deferred none)) W'
def MarksAt (W : World) (B : Nat) (Ds : List Nat) : Prop := Ds.Nodup ∧ ∀ D ∈ Ds, B ≤ D ∧ W.heap[D]? = some (.deferred (some []))
theorem MarksAt.nil (W : World) (B : Nat) : MarksAt W B [] := ⟨List.nodup_nil, fun D h => (by cases h)⟩
theorem MarksAt.put {W : World} {B D : Nat} {Ds : List Nat} (h : MarksAt W B (D :: Ds)) : MarksAt (W.putObj D (.deferred none)) B Ds := by
  have h1 := List.nodup_cons.1 h.1
  exact ⟨h1.2, fun E hE => ⟨(h.2 E (List.mem_cons_of_mem _ hE)).1, (World.putObj_heap_other (fun e => h1.1 (by first | (rw [e]; exact hE) | (rw [← e]; exact hE)))).trans (h.2 E (List.mem_cons_of_mem _ hE)).2⟩⟩
theorem MarksAt.keep {W W' : World} {B : Nat} {Ds : List Nat} (h : MarksAt W B Ds) (hk : ∀ D ∈ Ds, W.heap[D]? = some (.deferred (some [])) → W'.heap[D]? = W.heap[D]?) : MarksAt W' B Ds := ⟨h.1, fun D hD => ⟨(h.2 D hD).1, (hk D hD (h.2 D hD).2).trans (h.2 D hD).2⟩⟩
theorem MarksAt.cons {W : World} {B D : Nat} {Ds : List Nat} (h : MarksAt W B Ds) (hn : D ∉ Ds) (hB : B ≤ D) (hD : W.heap[D]? = some (.deferred (some []))) : MarksAt W B (D :: Ds) :=
  ⟨List.nodup_cons.2 ⟨hn, h.1⟩, fun E hE => by rcases List.mem_cons.1 hE with rfl | hE; exact ⟨hB, hD⟩; exact h.2 E hE⟩
theorem leaves_marks {F : Fence} {n : Nat} {P : Program} {fn : Func} {tmps : Array Value} {R : Ending → World → Prop} {B : Nat} : ∀ {Ds : List Nat} {W : World}, MarksAt W B Ds →
    (∀ W', Shut Ds W W' → ∃ v, (results fn tmps).run P W' = .ok v W' ∧ R (.returned v) W') → LeavesInM F n P fn tmps R (mkD Ds) .returning W
  | [], W, _, h => h W rfl
  | D :: Ds, W, hm, h => by
    refine ⟨by simp, .inl ⟨D, _, rfl, run_takeDeferred (hm.2 D (List.mem_cons_self ..)).2, ?_⟩⟩
    exact leaves_marks hm.put fun W' hW' => h W' hW'
theorem Shut.below {w : World} : ∀ {Ds : List Nat} {W W' : World}, MarksAt W w.heap.size Ds → Shut Ds W W' → Below w.heap.size W W'
  | [], W, W', _, h => by rw [show W' = W from h]; exact Below.refl _ _
  | D :: Ds, W, W', hm, h => by
    have h1 := hm.2 D (List.mem_cons_self ..)
    exact (belowK_b (w := w) (Nat.le_refl _) W D _ _ h1.1 h1.2 rfl rfl).trans (Shut.below hm.put h)
theorem Shut.owns {w : World} {base : Nat} {e : TypeId} {size : Nat} {v : Value} {n : Nat} {xs : List Value} : ∀ {Ds : List Nat} {W W' : World}, MarksAt W w.heap.size Ds → Shut Ds W W' → W.ownsRow base e size v n xs → W'.ownsRow base e size v n xs
  | [], W, W', _, h, ho => by rw [show W' = W from h]; exact ho
  | D :: Ds, W, W', hm, h, ho => Shut.owns hm.put h (ownsRow_putObj ho _ (hm.2 D (List.mem_cons_self ..)).2 rfl)
theorem MarksAt.later {W W' : World} {B n : Nat} {Ds : List Nat} (h : MarksAt W B Ds) (hb : Below n W W') (hn : ∀ D ∈ Ds, D < n) : MarksAt W' B Ds :=
  h.keep fun D hD _ => hb.block D (hn D hD)
theorem MarksAt.lt {W : World} {B : Nat} {Ds : List Nat} (h : MarksAt W B Ds) : ∀ D ∈ Ds, D < W.heap.size := fun D hD => (Array.getElem?_eq_some_iff.1 (h.2 D hD).2).1
theorem Shut.box {t : TypeId} {vs : Array Value} {b B : Nat} : ∀ {Ds : List Nat} {W W' : World}, MarksAt W B Ds → Shut Ds W W' → BoxN W b t vs → BoxN W' b t vs
  | [], W, W', _, h, hx => by rw [show W' = W from h]; exact hx
  | D :: Ds, W, W', hm, h, hx => by
    refine Shut.box hm.put h ?_
    have h1 := (hm.2 D (List.mem_cons_self ..)).2
    have hne : b ≠ D := fun e => by subst e; rw [show W.heap[b]? = _ from hx] at h1; cases h1
    exact (World.putObj_heap_other hne).trans hx
def abC (a : Ab) : Array Value := #[.int .i64 a.w, .int .i64 a.e, .int .i64 a.n, .int .i64 a.h, .int .i64 a.p]
set_option maxRecDepth 20000 in
set_option maxHeartbeats 8000000 in
theorem at_any (A : Option Addr) (len cap : Nat) (l : List Cs) (bed : Nat) (w : World) (hlen : len ≤ 20) (hs : l.all sndC = true) (hx : Rows 6 c6V dC w w.heap.size A len l) (hbed : bed < len) :
    Calls Try.prog 17 #[.slice A len cap, .int .i64 (bed : Int)] w fun e w' => e = .returned (abV (stA (l.drop bed)).2) ∧ Below w.heap.size w w' := by
  have hll := hx.1
  obtain ⟨Z, hZ⟩ : ∃ Z, Z = (stA (l.drop bed)).2 := ⟨_, rfl⟩
  rw [← hZ]
  obtain ⟨zw, ze, zn, zh, zp⟩ := Z
  have HZ := Lib.hid hZ
  clear hZ
  have HX := Lib.hid hx
  have HS := Lib.hid hs
  clear hx hs
  refine (callsIn_wide (n := 9)).1 ?_
  refine callsIn_of_wp_marks Try.func17 rfl trivial ?_ rfl
  simp only [Try.ntmps17, List.size_toArray, List.length_cons, List.length_nil, Nat.reduceAdd, Nat.reduceSub, Array.replicate_succ, Array.replicate_zero, List.push_toArray, List.append_toArray, List.nil_append, List.cons_append]
  refine wpIn_wide.2 ?_
  go_wp2_with (go_at_call 28; refine (beds_any _ _ _ _).mono ?_; rintro e w' ⟨rfl, rfl⟩)
  have hB0 : Below w.heap.size w (((w.alloc (.cells #[.int .i64 (bed : Int)] 3)).alloc (.cells #[.int .i64 0, .int .i64 0, .int .i64 0, .int .i64 0, .int .i64 0] 56)).alloc (.cells #[.slice A len cap] 23)) := (((Below.refl _ w).alloc (Nat.le_refl _) _).alloc (by simp) _).alloc (by simp; omega) _
  have hb3 : BoxN (((w.alloc (.cells #[.int .i64 (bed : Int)] 3)).alloc (.cells #[.int .i64 0, .int .i64 0, .int .i64 0, .int .i64 0, .int .i64 0] 56)).alloc (.cells #[.slice A len cap] 23)) w.heap.size 3 #[.int .i64 (bed : Int)] := (((BoxN.new w 3 #[.int .i64 (bed : Int)]).block (Below.heap_alloc _ _ _ (by simp)))).block (Below.heap_alloc _ _ _ (by simp; omega))
  have hb4 : BoxN (((w.alloc (.cells #[.int .i64 (bed : Int)] 3)).alloc (.cells #[.int .i64 0, .int .i64 0, .int .i64 0, .int .i64 0, .int .i64 0] 56)).alloc (.cells #[.slice A len cap] 23)) (w.heap.size + 1) 56 #[.int .i64 0, .int .i64 0, .int .i64 0, .int .i64 0, .int .i64 0] := by
    have := BoxN.new (w.alloc (.cells #[.int .i64 (bed : Int)] 3)) 56 #[.int .i64 0, .int .i64 0, .int .i64 0, .int .i64 0, .int .i64 0]
    rw [World.size_alloc] at this
    exact this.block (Below.heap_alloc _ _ _ (by simp))
  have hcl : (((w.alloc (.cells #[.int .i64 (bed : Int)] 3)).alloc (.cells #[.int .i64 0, .int .i64 0, .int .i64 0, .int .i64 0, .int .i64 0] 56)).alloc (.cells #[.slice A len cap] 23)).cell? ⟨w.heap.size + 1 + 1, 0, none⟩ = some (.slice A len cap) := by go_simp
  have hsz : (((w.alloc (.cells #[.int .i64 (bed : Int)] 3)).alloc (.cells #[.int .i64 0, .int .i64 0, .int .i64 0, .int .i64 0, .int .i64 0] 56)).alloc (.cells #[.slice A len cap] 23)).heap.size = w.heap.size + 1 + 1 + 1 := by simp
  obtain ⟨W0, hW0⟩ : ∃ W0, W0 = (((w.alloc (.cells #[.int .i64 (bed : Int)] 3)).alloc (.cells #[.int .i64 0, .int .i64 0, .int .i64 0, .int .i64 0, .int .i64 0] 56)).alloc (.cells #[.slice A len cap] 23)) := ⟨_, rfl⟩
  rw [← hW0] at hB0 hb3 hb4 hcl hsz ⊢
  clear hW0
  refine (wpIn_wide (n := 9)).1 ?_
  refine wpIn_rangeFunc_many rfl (by omega) (gf := 38) (lb := #[.pointer (some ⟨w.heap.size + 1 + 1, 0, none⟩)]) (by simp [Act.eval, go_sem]) trivial (enters_of Try.func38 (by kernel_rfl) rfl)
    (beds_seq 8 (by omega) (w.heap.size + 1 + 1) w.heap.size A len cap l W0 ⟨by omega, by omega⟩ hlen HS.out hcl (HX.out.below hB0)) (fun _ => rfl)
    (fun pre W => (∀ x ∈ pre, x.1 ≠ bed) ∧ Below w.heap.size w W ∧ BoxN W w.heap.size 3 #[.int .i64 (bed : Int)] ∧ BoxN W (w.heap.size + 1) 56 #[.int .i64 0, .int .i64 0, .int .i64 0, .int .i64 0, .int .i64 0])
    (fun pre W => (∃ p x, pre = p ++ [x] ∧ x.1 = bed ∧ BoxN W (w.heap.size + 1) 56 (abC x.2)) ∧ Below w.heap.size w W)
    ?i1 ?i2 ⟨fun x h => (by cases h), hB0, hb3, hb4⟩ (fun x a' W => ∃ B6, a' = { tmps := #[.slice A len cap, .int .i64 (bed : Int), undef, .pointer (some ⟨w.heap.size, 0, none⟩), .pointer (some ⟨w.heap.size + 1, 0, none⟩), .int .i64 (x.1 : Int), .pointer (some ⟨B6, 0, none⟩), .slice A len cap, .func (.func 38) #[] #[.pointer (some ⟨w.heap.size + 1 + 1, 0, none⟩)], .int .i64 (x.1 : Int), abV x.2, undef, undef, undef, undef, undef], defers := [] } ∧ BoxN W B6 56 (abC x.2)) ?ax2 ?assign ?body ?done ?stop
  case i1 => exact fun s X Y ⟨h1, h2, h3, h4⟩ hb => ⟨h1, h2.trans (hb.mono (by omega)), h3.block (hb.block _ (by omega)), h4.block (hb.block _ (by omega))⟩
  case i2 => exact fun s X Y ⟨⟨p, x, h1, h2, h3⟩, h4⟩ hb => ⟨⟨p, x, h1, h2, h3.block (hb.block _ (by omega))⟩, h4.trans (hb.mono (by omega))⟩
  case assign =>
    intro q pre x W K hI hsW hK
    unfold encB
    gi_wp2
    exact hK _ _ ((Below.refl _ W).alloc (Nat.le_refl _) _) ⟨W.heap.size, rfl, BoxN.new W _ _⟩
  case ax2 =>
    rintro x a' W q o o' ⟨B6, rfl, h6⟩ hq h1 h2
    have hne : B6 ≠ q := fun e => by subst e; rw [show W.heap[B6]? = _ from h6] at h1; cases h1; cases h2
    exact ⟨B6, rfl, (World.putObj_heap_other hne).trans h6⟩
  case body =>
    rintro q pre x a' W ⟨h1, h2, h3, h4⟩ hsW ⟨B6, rfl, h6⟩
    obtain ⟨i, ⟨aw, ae, an, ah, ap⟩⟩ := x
    have c3 := h3.cell 0
    have f0 := h4.frozen 0
    have f1 := h4.frozen 1
    have f2 := h4.frozen 2
    have f3 := h4.frozen 3
    have f4 := h4.frozen 4
    have d0 := h4.cell 0
    have d1 := h4.cell 1
    have d2 := h4.cell 2
    have d3 := h4.cell 3
    have d4 := h4.cell 4
    have e0 := h6.cell 0
    have e1 := h6.cell 1
    have e2 := h6.cell 2
    have e3 := h6.cell 3
    have e4 := h6.cell 4
    simp [abC] at c3 d0 d1 d2 d3 d4 e0 e1 e2 e3 e4
    dsimp only
    have HI := Lib.hid h1
    have HB2 := Lib.hid h2
    have H3 := Lib.hid h3
    have H4 := Lib.hid h4
    clear h1 h2 h3 h4 h6
    by_cases hib : i = bed
    · subst hib
      gi_wp2
      refine ⟨(((((KeepsOthers.setCell _ _ _).from _).trans ((KeepsOthers.setCell _ _ _).from _)).trans ((KeepsOthers.setCell _ _ _).from _)).trans ((KeepsOthers.setCell _ _ _).from _)).trans ((KeepsOthers.setCell _ _ _).from _), ⟨pre, i, ⟨aw, ae, an, ah, ap⟩, ⟨rfl, rfl, rfl⟩, rfl, ((((H4.out.set 0 _).set 1 _).set 2 _).set 3 _).set 4 _⟩, ?_⟩
      exact ((((HB2.out.setCell (p := ⟨w.heap.size + 1, 0, none⟩) (by show w.heap.size ≤ w.heap.size + 1; omega) _).setCell (p := ⟨w.heap.size + 1, 1, none⟩) (by show w.heap.size ≤ w.heap.size + 1; omega) _).setCell (p := ⟨w.heap.size + 1, 2, none⟩) (by show w.heap.size ≤ w.heap.size + 1; omega) _).setCell (p := ⟨w.heap.size + 1, 3, none⟩) (by show w.heap.size ≤ w.heap.size + 1; omega) _).setCell (p := ⟨w.heap.size + 1, 4, none⟩) (by show w.heap.size ≤ w.heap.size + 1; omega) _
    · have hib2 : ((i : Int) == (bed : Int)) = false := beq_eq_false_iff_ne.2 (by omega)
      gi_wp2
      refine ⟨KeepsFrom.refl _ _, ⟨Nat.le_refl _, fun _ _ h _ => h⟩, ?_, HB2.out, H3.out, H4.out⟩
      rintro a b (h | ⟨rfl, -⟩)
      · exact HI.out (a, b) h
      · exact hib
  case done =>
    rintro xs W rfl ⟨h1, -⟩ -
    exfalso
    refine h1 (bedY l (len - 1 - bed)) ?_ ?_
    · unfold bedL
      exact List.mem_map.2 ⟨len - 1 - bed, List.mem_range.2 (by omega), rfl⟩
    · unfold bedY
      show l.length - 1 - (len - 1 - bed) = bed
      omega
  case stop =>
    rintro pre W ⟨k, hk, hpre⟩ ⟨⟨p, x, hp, hxb, h4⟩, hB⟩ hD
    have hxk : x = bedY l k := by
      rw [hpre, bedL_succ] at hp
      exact ((List.append_inj' hp rfl).2 |> fun h => (List.cons.inj h).1).symm
    subst hxk
    have hbk : l.length - 1 - k = bed := hxb
    have h4' : BoxN W (w.heap.size + 1) 56 (abC ⟨zw, ze, zn, zh, zp⟩) := by
      have : (bedY l k).2 = ⟨zw, ze, zn, zh, zp⟩ := by rw [HZ.out]; unfold bedY; rw [hbk]
      rw [this] at h4; exact h4
    have hDW : MarksAt W w.heap.size [W0.heap.size] := (MarksAt.nil W w.heap.size).cons (by simp) (by omega) hD
    have HDW := Lib.hid hDW
    have HB := Lib.hid hB
    have H4 := Lib.hid h4'
    have hmk : (({ target := .collected W0.heap.size, args := #[] } : Deferred) :: []) = mkD [W0.heap.size] := rfl
    clear hDW hB h4 h4' hD hp hpre hb3 hb4
    dsimp only
    rw [hmk]
    clear hmk
    refine wpIn_wide.2 ?_
    go_wp2
    refine leaves_marks HDW.out fun W' hW' => ?_
    have hx := hW'.box HDW.out H4.out
    have e0 := hx.cell 0
    have e1 := hx.cell 1
    have e2 := hx.cell 2
    have e3 := hx.cell 3
    have e4 := hx.cell 4
    simp [abC] at e0 e1 e2 e3 e4
    exact ⟨.agg #[.int .i64 zw, .int .i64 ze, .int .i64 zn, .int .i64 zh, .int .i64 zp], by simp [results, Try.results17, go_sem, e0, e1, e2, e3, e4], rfl, HB.out.trans (hW'.below HDW.out)⟩
end Go.Proofs.Ytfahdgmnlpkaiaa
