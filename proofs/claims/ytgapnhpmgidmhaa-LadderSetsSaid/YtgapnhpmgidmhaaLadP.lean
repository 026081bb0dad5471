/- Ladders: the program's Ladders where the dogs are right. -/
import Derived.Test.YtgapnhpmgidmhaaSetsB
import Derived.Test.YtgapnhpmgidmhaaSetsC
import Derived.Test.YtgapnhpmgidmhaaFailM
import Derived.Test.YtgapnhpmgidmhaaDogs4
import Derived.Deep.LoopGhost
set_option linter.unusedSimpArgs false
set_option linter.unusedVariables false
namespace Go.Proofs.Ytgapnhpmgidmhaa
open Go.RowKit Go.Shelf Go.Maps
attribute [local go_sem] Oper.semAt_some

/-- The marks that ranges over a function leave, one behind the other. -/
def mkD (Ds : List Nat) : List Deferred := Ds.map fun D => { target := .collected D, args := #[] }
def Shut : List Nat → World → World → Prop
  | [], W, W' => W' = W
  | D :: Ds, W, W' => Shut Ds (W.putObj D (.deferred none)) W'
def MarksAt (W : World) (B : Nat) (Ds : List Nat) : Prop := Ds.Nodup ∧ ∀ D ∈ Ds, B ≤ D ∧ W.heap[D]? = some (.deferred (some []))
theorem MarksAt.nil (W : World) (B : Nat) : MarksAt W B [] := ⟨List.nodup_nil, fun D h => (by cases h)⟩
theorem MarksAt.put {W : World} {B D : Nat} {Ds : List Nat} (h : MarksAt W B (D :: Ds)) : MarksAt (W.putObj D (.deferred none)) B Ds := by
  have h1 := List.nodup_cons.1 h.1
  exact ⟨h1.2, fun E hE => ⟨(h.2 E (List.mem_cons_of_mem _ hE)).1, (World.putObj_heap_other (fun e => h1.1 (by first | (rw [e]; exact hE) | (rw [← e]; exact hE)))).trans (h.2 E (List.mem_cons_of_mem _ hE)).2⟩⟩
theorem MarksAt.keep {W W' : World} {B : Nat} {Ds : List Nat} (h : MarksAt W B Ds) (hk : ∀ D ∈ Ds, W.heap[D]? = some (.deferred (some [])) → W'.heap[D]? = W.heap[D]?) : MarksAt W' B Ds := ⟨h.1, fun D hD => ⟨(h.2 D hD).1, (hk D hD (h.2 D hD).2).trans (h.2 D hD).2⟩⟩
theorem MarksAt.cons {W : World} {B D : Nat} {Ds : List Nat} (h : MarksAt W B Ds) (hn : D ∉ Ds) (hB : B ≤ D) (hD : W.heap[D]? = some (.deferred (some []))) : MarksAt W B (D :: Ds) :=
  ⟨List.nodup_cons.2 ⟨hn, h.1⟩, fun E hE => by rcases List.mem_cons.1 hE with rfl | hE; exact ⟨hB, hD⟩; exact h.2 E hE⟩
theorem leaves_marks {F : Fence} {n : Nat} {P : Program} {fn : Func} {tmps : Array Value} {R : Ending → World → Prop} {B : Nat} : ∀ {Ds : List Nat} {W : World}, MarksAt W B Ds →
    (∀ W', Shut Ds W W' → ∃ v, (results fn tmps).run P W' = .ok v W' ∧ R (.returned v) W') → LeavesInM F n P fn tmps R (mkD Ds) .returning W
  | [], W, _, h => h W rfl
  | D :: Ds, W, hm, h => by
    refine ⟨by simp, .inl ⟨D, _, rfl, run_takeDeferred (hm.2 D (List.mem_cons_self ..)).2, ?_⟩⟩
    exact leaves_marks hm.put fun W' hW' => h W' hW'
theorem Shut.below {w : World} : ∀ {Ds : List Nat} {W W' : World}, MarksAt W w.heap.size Ds → Shut Ds W W' → Below w.heap.size W W'
  | [], W, W', _, h => by rw [show W' = W from h]; exact Below.refl _ _
  | D :: Ds, W, W', hm, h => by
    have h1 := hm.2 D (List.mem_cons_self ..)
    exact (belowK_b (w := w) (Nat.le_refl _) W D _ _ h1.1 h1.2 rfl rfl).trans (Shut.below hm.put h)
theorem Shut.owns {w : World} {base : Nat} {e : TypeId} {size : Nat} {v : Value} {n : Nat} {xs : List Value} : ∀ {Ds : List Nat} {W W' : World}, MarksAt W w.heap.size Ds → Shut Ds W W' → W.ownsRow base e size v n xs → W'.ownsRow base e size v n xs
  | [], W, W', _, h, ho => by rw [show W' = W from h]; exact ho
  | D :: Ds, W, W', hm, h, ho => Shut.owns hm.put h (ownsRow_putObj ho _ (hm.2 D (List.mem_cons_self ..)).2 rfl)
theorem own_blk {w w' : World} {base : Nat} {e : TypeId} {size : Nat} {v : Value} {n : Nat} {xs : List Value} (h : w.ownsRow base e size v n xs) (hb : ∀ g, v.ownBlock = some g → w'.heap[g]? = w.heap[g]?) : w'.ownsRow base e size v n xs := by
  obtain ⟨h1, h2⟩ := h
  refine ⟨h1, ?_⟩
  rcases h2 with h2 | ⟨g, cap, cur, a1, a2, a3, a4⟩
  · exact .inl h2
  · exact .inr ⟨g, cap, cur, a1, a2, (hb g (by rw [a1]; rfl)).trans a3, a4⟩
theorem MarksAt.later {W W' : World} {B n : Nat} {Ds : List Nat} (h : MarksAt W B Ds) (hb : Below n W W') (hn : ∀ D ∈ Ds, D < n) : MarksAt W' B Ds :=
  h.keep fun D hD _ => hb.block D (hn D hD)
theorem MarksAt.lt {W : World} {B : Nat} {Ds : List Nat} (h : MarksAt W B Ds) : ∀ D ∈ Ds, D < W.heap.size := fun D hD => (Array.getElem?_eq_some_iff.1 (h.2 D hD).2).1

theorem way_len {c : Clb} {F : List J} {fin out : List Int} {a : Int} {r : Nat} (h : Way c F fin out a r) : out.length + r = fin.length := by
  induction h with
  | stop => rfl
  | step E h1 h2 h3 h4 h ih => rw [List.length_append] at ih; simp at ih; omega
theorem Shut.boxed {t : TypeId} {v : Value} {b B : Nat} : ∀ {Ds : List Nat} {W W' : World}, MarksAt W B Ds → Shut Ds W W' → Boxed W b t v → Boxed W' b t v
  | [], W, W', _, h, hx => by rw [show W' = W from h]; exact hx
  | D :: Ds, W, W', hm, h, hx => by
    refine Shut.boxed hm.put h ?_
    have h1 := (hm.2 D (List.mem_cons_self ..)).2
    have hne : b ≠ D := fun e => by subst e; rw [show W.heap[b]? = _ from hx] at h1; cases h1
    exact (World.putObj_heap_other hne).trans hx
theorem MarksAt.setCell {W : World} {B b o : Nat} {t : TypeId} {u v : Value} {Ds : List Nat} (h : MarksAt W B Ds) (hx : Boxed W b t u) : MarksAt (W.setCell ⟨b, o, none⟩ v) B Ds :=
  h.keep fun D _ h1 => Below.heap_setCell W _ v D (fun e => by
    have e : D = b := e
    subst e; rw [show W.heap[D]? = _ from hx] at h1; cases h1)
theorem SetsAt.below {W W' : World} {B Bn Bw Br mb mm number : Nat} {c : Clb} {A : Option Addr} {len cap : Nat} {l : List J} {A' : Option Addr} {n cap' : Nat} {ds : List Int} (h : SetsAt W B Bn Bw Br mb mm number c A len cap l A' n cap' ds) (hb : Below W.heap.size W W') : SetsAt W' B Bn Bw Br mb mm number c A len cap l A' n cap' ds := by
  obtain ⟨⟨b0, b1, b2, b3, b4⟩, cn, cw, cr, mp⟩ := h
  have hs := hb.size
  exact ⟨⟨b0, by omega, by omega, by omega, by omega⟩, (hb.cell (p := ⟨Bn, 0, none⟩) b1).trans cn, cw.block (hb.block Bw b2), (hb.cell (p := ⟨Br, 0, none⟩) b3).trans cr, mp.block (hb.block mb b4)⟩
/-- In which round the way is found: R; never where there is none. -/
theorem few_round (c : Clb) (F : List J) : ∃ (fin : List Int) (R : Nat), 0 < fin.length ∧ (∀ k, k < R → k < F.length → NoFoot c F (k + 1)) ∧ ((few c F = none ∧ F.length ≤ R) ∨ (few c F = some fin ∧ R < F.length ∧ Way c F fin [] (-1) (R + 1))) := by
  rcases few_way c F with ⟨h1, h2⟩ | ⟨fin, r, h1, h2, h3, h4⟩
  · exact ⟨[0], F.length, by simp, fun k _ _ => h2 _ (by omega), .inl ⟨h1, Nat.le_refl _⟩⟩
  · exact ⟨fin, r, by have := way_len h2; simp at this; omega, fun k hk _ => h4 _ (by omega) (by omega), .inr ⟨h1, by omega, h2⟩⟩
def LadI (c : Clb) (A : Option Addr) (len cap : Nat) (A' : Option Addr) (n cap' : Nat) (w : World) (Bw R : Nat) (m : Nat) (a : Act) (W : World) : Prop :=
  ∃ (k : Nat) (Ds : List Nat) (u4 u5 u9 u10 u11 u12 u13 u14 u15 u16 u17 u18 u19 u20 u21 u22 u23 u24 u25 u26 u29 u30 u31 u32 u33 u34 u35 u36 u37 : Value), k + m = n ∧ k ≤ R ∧ a = { tmps := #[climbV c, .slice A len cap, .slice A' n cap', .pointer (some ⟨w.heap.size, 0, none⟩), u4, u5, .pointer (some ⟨w.heap.size + 1, 0, none⟩), .pointer (some ⟨w.heap.size + 1 + 1, 0, none⟩), .pointer (some ⟨Bw, 0, none⟩), u9, u10, u11, u12, u13, u14, u15, u16, u17, u18, u19, u20, u21, u22, u23, u24, u25, u26, .int .i64 (n : Int), .int .i64 (k : Int), u29, u30, u31, u32, u33, u34, u35, u36, u37], defers := mkD Ds } ∧ Hid (MarksAt W w.heap.size Ds) ∧ Hid (Below w.heap.size w W) ∧ Hid (WallAt W Bw c A len cap A' n cap') ∧ Hid (Boxed W (w.heap.size + 1) 25 (.slice none 0 0)) ∧ Hid (Boxed W (w.heap.size + 1 + 1) 31 (.int .i64 0)) ∧ Bw < W.heap.size ∧ w.heap.size + 3 ≤ Bw
theorem LadI.mk {c : Clb} {A : Option Addr} {len cap : Nat} {A' : Option Addr} {n cap' : Nat} {w : World} {Bw R : Nat} {m : Nat} {W : World} (k : Nat) (Ds : List Nat) {u4 u5 u9 u10 u11 u12 u13 u14 u15 u16 u17 u18 u19 u20 u21 u22 u23 u24 u25 u26 u29 u30 u31 u32 u33 u34 u35 u36 u37 : Value} (h1 : k + m = n) (h2 : k ≤ R) (h3 : Hid (MarksAt W w.heap.size Ds)) (h4 : Hid (Below w.heap.size w W)) (h5 : Hid (WallAt W Bw c A len cap A' n cap')) (h6 : Hid (Boxed W (w.heap.size + 1) 25 (.slice none 0 0))) (h7 : Hid (Boxed W (w.heap.size + 1 + 1) 31 (.int .i64 0))) (h8 : Bw < W.heap.size) (h9 : w.heap.size + 3 ≤ Bw) :
    LadI c A len cap A' n cap' w Bw R m { tmps := #[climbV c, .slice A len cap, .slice A' n cap', .pointer (some ⟨w.heap.size, 0, none⟩), u4, u5, .pointer (some ⟨w.heap.size + 1, 0, none⟩), .pointer (some ⟨w.heap.size + 1 + 1, 0, none⟩), .pointer (some ⟨Bw, 0, none⟩), u9, u10, u11, u12, u13, u14, u15, u16, u17, u18, u19, u20, u21, u22, u23, u24, u25, u26, .int .i64 (n : Int), .int .i64 (k : Int), u29, u30, u31, u32, u33, u34, u35, u36, u37], defers := mkD Ds } W := ⟨k, Ds, u4, u5, u9, u10, u11, u12, u13, u14, u15, u16, u17, u18, u19, u20, u21, u22, u23, u24, u25, u26, u29, u30, u31, u32, u33, u34, u35, u36, u37, h1, h2, rfl, h3, h4, h5, h6, h7, h8, h9⟩
set_option maxRecDepth 20000 in
set_option maxHeartbeats 16000000 in
theorem ladders_ok (c : Clb) (A : Option Addr) (len cap : Nat) (l : List J) (A' : Option Addr) (n cap' : Nat) (ds : List Int) (w : World) (hr : rightB c l ds = true) (hm : len ≤ 9223372036854775807) (hm' : n ≤ 80) (hx : Rows 2 jointV dJ w w.heap.size A len l) (hy : Ints w w.heap.size A' n ds) :
    Calls Try.prog 7 #[climbV c, .slice A len cap, .slice A' n cap'] w fun e w' => (∃ v, e = .returned (.tuple #[v, .int .i64 (if (ladO c l ds).isSome then 0 else 8)]) ∧ FewV w' w.heap.size v (ladO c l ds)) ∧ Below w.heap.size w w' := by
  have hv : (vC c && vJ l) = true := right_valid hr
  have hvc : vC c = true := by rw [Bool.and_eq_true] at hv; exact hv.1
  have hwk := wall_ok hr
  have hn : ds.length = n := hy.1
  have c1 := fun W (h : Below w.heap.size w W) => valid_any c A len cap l W hm ((hx.below h).more h.size)
  rw [hv] at c1
  have c2 := fun W (h : Below w.heap.size w W) => Right_any c A len cap l A' n cap' ds W hm (by omega) ((hx.below h).more h.size) ((hy.below h).more h.size)
  rw [hr] at c2
  have c3 := fun k W (h : Below w.heap.size w W) => sets_any (k + 1) c A len cap l A' n cap' ds W hvc hm hm' hwk ((hx.below h).more h.size) ((hy.below h).more h.size)
  have hLO : ladO c l ds = few (lc c) (ft c l ds) := rfl
  rw [hLO]
  obtain ⟨ev, hev⟩ : ∃ ev : Int, ev = (if (few (lc c) (ft c l ds)).isSome then 0 else 8) := ⟨_, rfl⟩
  rw [← hev]
  obtain ⟨fin, R, hf0, hnf, hfw⟩ := few_round (lc c) (ft c l ds)
  rw [ft_len, hn] at hnf hfw
  have HEV := Lib.hid hev
  have HNF := Lib.hid hnf
  have HFW := Lib.hid hfw
  have C1 := Lib.hid c1
  have C2 := Lib.hid c2
  have C3 := Lib.hid c3
  have HX := Lib.hid hx
  have HY := Lib.hid hy
  have HWK := Lib.hid hwk
  clear hev hnf hfw c1 c2 c3 hx hy hwk hv hr hLO
  refine (callsIn_wide (n := 9)).1 ?_
  refine callsIn_of_wp_marks Try.func7 rfl trivial ?_ rfl
  simp only [Try.ntmps7, List.size_toArray, List.length_cons, List.length_nil, Nat.reduceAdd, Nat.reduceSub, Array.replicate_succ, Array.replicate_zero, List.push_toArray, List.append_toArray, List.nil_append, List.cons_append]
  refine wpIn_wide.2 ?_
  go_wp2_with fail
  have hC0 := climbAt_box w c 23
  obtain ⟨W0, hW0⟩ : ∃ W0, W0 = ((w.alloc (.cells #[.int .i64 c.fi, .int .i64 c.ga, .int .i64 c.to, .int .i64 c.le, .int .i64 c.la, .int .i64 c.st] 23)).alloc (.cells #[.slice none 0 0] 25)).alloc (.cells #[.int .i64 0] 31) := ⟨_, rfl⟩
  have hB0 : Below w.heap.size w W0 := by rw [hW0]; exact (((Below.refl _ w).alloc (Nat.le_refl _) _).alloc (by simp) _).alloc (by simp; omega) _
  have hs0 : W0.heap.size = w.heap.size + 1 + 1 + 1 := by rw [hW0]; simp
  have hC1 : ClimbAt W0 w.heap.size c := by rw [hW0]; exact hC0.block ((((Below.refl _ _).alloc (Nat.le_refl _) _).alloc (by simp) _).block w.heap.size (by simp))
  have h6 : Boxed W0 (w.heap.size + 1) 25 (.slice none 0 0) := by
    have := (Boxed.new (w.alloc (.cells #[.int .i64 c.fi, .int .i64 c.ga, .int .i64 c.to, .int .i64 c.le, .int .i64 c.la, .int .i64 c.st] 23)) 25 (.slice none 0 0)).alloc (.cells #[.int .i64 0] 31)
    rw [World.size_alloc] at this; rw [hW0]; exact this
  have h7 : Boxed W0 (w.heap.size + 1 + 1) 31 (.int .i64 0) := by
    have := Boxed.new ((w.alloc (.cells #[.int .i64 c.fi, .int .i64 c.ga, .int .i64 c.to, .int .i64 c.le, .int .i64 c.la, .int .i64 c.st] 23)).alloc (.cells #[.slice none 0 0] 25)) 31 (.int .i64 0)
    rw [World.size_alloc, World.size_alloc] at this; rw [hW0]; exact this
  rw [← hW0]
  clear hW0 hC0
  refine (C1.out _ hB0).mono ?_
  rintro e w1 ⟨rfl, hb⟩
  have hs1 := hb.size
  have hB1 := hB0.trans (hb.mono hB0.size)
  replace hC1 := hC1.block (hb.block w.heap.size (by omega))
  replace h6 : Boxed w1 (w.heap.size + 1) 25 (.slice none 0 0) := (hb.block _ (by omega)).trans h6
  replace h7 : Boxed w1 (w.heap.size + 1 + 1) 31 (.int .i64 0) := (hb.block _ (by omega)).trans h7
  obtain ⟨q0, q1, q2, q3, q4, q5⟩ := id hC1
  clear hb hB0
  go_wp2_with fail
  refine (C2.out _ hB1).mono ?_
  rintro e w2 ⟨rfl, hb⟩
  have hs2 := hb.size
  have hB2 := hB1.trans (hb.mono hB1.size)
  replace hC1 := hC1.block (hb.block w.heap.size (by omega))
  have H6 : Hid (Boxed w2 (w.heap.size + 1) 25 (.slice none 0 0)) := Lib.hid ((hb.block _ (by omega)).trans h6)
  have H7 : Hid (Boxed w2 (w.heap.size + 1 + 1) 31 (.int .i64 0)) := Lib.hid ((hb.block _ (by omega)).trans h7)
  clear q0 q1 q2 q3 q4 q5
  obtain ⟨q0, q1, q2, q3, q4, q5⟩ := id hC1
  clear hb hB1 h6 h7 hC1
  go_wp2_with fail
  have hwA := wallAt_box w2 c A len cap A' n cap' 42
  obtain ⟨W5, hW5⟩ : ∃ W5, W5 = w2.alloc (.cells #[.int .i64 c.fi, .int .i64 c.ga, .int .i64 c.to, .int .i64 c.le, .int .i64 c.la, .int .i64 c.st, .slice A len cap, .slice A' n cap'] 42) := ⟨_, rfl⟩
  have hBx : Below w2.heap.size w2 W5 := by rw [hW5]; exact (Below.refl _ w2).alloc (Nat.le_refl _) _
  have hs5 : W5.heap.size = w2.heap.size + 1 := by rw [hW5]; simp
  rw [← hW5] at hwA ⊢
  obtain ⟨Bw, hBw⟩ : ∃ Bw, Bw = w2.heap.size := ⟨_, rfl⟩
  rw [← hBw] at hwA ⊢
  have HB5 : Hid (Below w.heap.size w W5) := Lib.hid (hB2.trans (hBx.mono hB2.size))
  replace H6 : Hid (Boxed W5 (w.heap.size + 1) 25 (.slice none 0 0)) := Lib.hid ((hBx.block _ (by omega)).trans H6.out)
  replace H7 : Hid (Boxed W5 (w.heap.size + 1 + 1) 31 (.int .i64 0)) := Lib.hid ((hBx.block _ (by omega)).trans H7.out)
  have HWA := Lib.hid hwA
  have hb5 : Bw < W5.heap.size := by omega
  have hb6 : w.heap.size + 3 ≤ Bw := by omega
  clear hW5 hBw hBx hwA hB2 q0 q1 q2 q3 q4 q5 hs1 hs2 hs5 hs0
  refine wp_loop_ghost (LadI c A len cap A' n cap' w Bw R) n (LadI.mk 0 [] (by omega) (by omega) (Lib.hid (MarksAt.nil _ _)) HB5 HWA H6 H7 hb5 hb6) ?_
  clear HB5 HWA H6 H7 hb5
  rintro m a wr ⟨k, Ds, u4, u5, u9, u10, u11, u12, u13, u14, u15, u16, u17, u18, u19, u20, u21, u22, u23, u24, u25, u26, u29, u30, u31, u32, u33, u34, u35, u36, u37, hkm, hkR, rfl, HD, HB, HWA, H6, H7, hb5, -⟩
  have hsr := HB.out.size
  by_cases hlt : k < n
  · have hk1 : (k : Int) < n := by omega
    have c3 := fun W h => C3.out k W h
    have e1 : ((k + 1 : Nat) : Int) = (k : Int) + 1 := by omega
    rw [e1] at c3
    have C4 := Lib.hid c3
    obtain ⟨⟨q0, q1, q2, q3, q4, q5⟩, q6, q7⟩ := id HWA.out
    clear c3 C3 e1
    go_wp2_with fail
    refine (C4.out _ HB.out).mono ?_
    rintro e w5 ⟨⟨Bn, Bw2, Br, mb, mm, rfl, hSA⟩, hb⟩
    have hB5 := HB.out.trans (hb.mono hsr)
    have hs5 := hb.size
    have h6 : Boxed w5 (w.heap.size + 1) 25 (.slice none 0 0) := (hb.block _ (by omega)).trans H6.out
    have h7 : Boxed w5 (w.heap.size + 1 + 1) 31 (.int .i64 0) := (hb.block _ (by omega)).trans H7.out
    have hw5 := HWA.out.block (hb.block Bw hb5)
    have hd5 := HD.out.later hb HD.out.lt
    have HSA := Lib.hid hSA
    clear hb q0 q1 q2 q3 q4 q5 q6 q7 HB HWA HD H6 H7 hSA C4
    go_wp2_with fail
    refine (wpIn_wide (n := 9)).1 ?_
    refine wpIn_rangeFunc_one rfl (by omega) (gf := 32) (lb := #[.pointer (some ⟨Bn, 0, none⟩), .pointer (some ⟨Bw2, 0, none⟩), .pointer (some ⟨Br, 0, none⟩)]) rfl trivial (enters_of Try.func32 (by kernel_rfl) rfl) rfl (decide (k = R)) (w5.heap.size + 4) (fun q => q = w.heap.size + 1 ∨ q = w.heap.size + 1 + 1 ∨ q = w5.heap.size + 1) (.inr (.inr rfl))
      (fun v W => W.ownsRow w5.heap.size 3 1 v fin.length (icells fin))
      (fun v W => Boxed W (w.heap.size + 1) 25 v ∧ Boxed W (w.heap.size + 1 + 1) 31 (.int .i64 0) ∧ W.ownsRow w5.heap.size 3 1 v fin.length (icells fin) ∧ MarksAt W w.heap.size Ds ∧ Below w.heap.size w W ∧ w5.heap.size ≤ W.heap.size)
      ?act ?x1 ?x2 ?g2 ?seq ?assign ?body ?done ?stop
    case x1 =>
      rintro v W W' ⟨x1, x2, x3, x4, x5, x6⟩ hb
      exact ⟨(hb.block _ x1.lt).trans x1, (hb.block _ x2.lt).trans x2, own_later x3 hb, x4.later hb x4.lt, x5.trans (hb.mono (by omega)), Nat.le_trans x6 hb.size⟩
    case x2 =>
      rintro v W q o o' ⟨x1, x2, x3, x4, x5, x6⟩ hq h1 h2
      refine ⟨(World.putObj_heap_other (by omega)).trans x1, (World.putObj_heap_other (by omega)).trans x2, ownsRow_putObj x3 _ h1 h2, ⟨x4.1, fun D hD => ⟨(x4.2 D hD).1, (World.putObj_heap_other (by have := hd5.lt D hD; omega)).trans (x4.2 D hD).2⟩⟩, ?_, by simpa using x6⟩
      exact x5.trans ((Below.refl _ W).grown (grownBy_putObj' W q o') (by have := (Array.getElem?_eq_some_iff.1 h1).1; omega) (fun j e => by cases e; omega))
    case g2 => exact fun v W q o o' h0 _ h1 h2 => ownsRow_putObj h0 _ h1 h2
    case seq =>
      intro W1 Fin hb1 hs1 hFin hY
      have hbw : Below w.heap.size w W1 := hB5.trans (hb1.mono hB5.size)
      obtain ⟨⟨⟨b1, b2, b3, b4⟩, b5, b6, b7, b8⟩, -, -, -, -⟩ := id HSA.out
      refine callsIn_wide.2 (callsIn_wide.1 (seq_any (fun q => q = w.heap.size + 1 ∨ q = w.heap.size + 1 + 1 ∨ q = w5.heap.size + 1) wr.heap.size Bn Bw2 Br (w5.heap.size + 1) mb mm w.heap.size (k + 1) c A len cap l A' n cap' ds fin Fin W1 (decide (k = R)) hvc hm hm' (by omega) HWK.out hf0 (by omega) (HSA.out.below hb1) (HX.out.below hbw) (HY.out.below hbw) ⟨⟨?_, ?_, ?_, ?_⟩, ?_, ?_⟩ hFin (fun Wy v hb ho => by rw [hs1]; exact yieldAt_wide (hY Wy v hb (own_mono ho (by omega)))) ?_))
      · rintro (h | h | h) <;> omega
      · rintro (h | h | h) <;> omega
      · rintro (h | h | h) <;> omega
      · rintro (h | h | h) <;> omega
      · rintro q hq (h | h | h) <;> omega
      · rintro q (h | h | h) <;> omega
      · by_cases hkr : k = R
        · left
          rcases HFW.out with ⟨_, h⟩ | ⟨_, _, h⟩
          · omega
          · rw [← hkr] at h; exact ⟨decide_eq_true hkr, h⟩
        · right
          exact ⟨decide_eq_false hkr, by omega, fun K hK => HNF.out k (by omega) hlt K (by rw [ft_len, hn]; exact hK)⟩
    case assign =>
      intro q v W K hK
      gi_wp2
      exact hK
    case body =>
      intro q v W hq hG hbW
      obtain ⟨A1, cap1, rfl, -, -, -, -⟩ := own_ints hG
      have hx6 : Boxed W (w.heap.size + 1) 25 (.slice none 0 0) := (hbW.block _ (by omega)).trans h6
      have hx7 : Boxed W (w.heap.size + 1 + 1) 31 (.int .i64 0) := (hbW.block _ (by omega)).trans h7
      have hdW := hd5.later hbW hd5.lt
      have hBW := hB5.trans (hbW.mono hB5.size)
      have hsW := hbW.size
      have HG := Lib.hid hG
      have hc6 := hx6.cell
      have hc7 := hx7.cell
      have hf6 := hx6.frozen
      have hf7 := hx7.frozen
      have HH := Lib.hid (And.intro hx6 (And.intro hx7 (And.intro hdW hBW)))
      clear hbW hG hx6 hx7 hdW hBW
      gi_wp2
      obtain ⟨hx6, hx7, hdW, hBW⟩ := HH.out
      have ho := HG.out
      refine ⟨((KeepsOthers.setCell _ _ _).from _).trans ((KeepsOthers.setCell _ _ _).from _), ⟨Nat.le_trans (KeepsOthers.setCell _ _ _).size (KeepsOthers.setCell _ _ _).size, fun j _ hs => (Below.heap_setCell _ _ _ j (fun e => hs (.inr (.inl e)))).trans (Below.heap_setCell _ _ _ j (fun e => hs (.inl e)))⟩, (hx6.set _).other (by omega) _, (hx7.other (by omega) _).set _, ?_, (hdW.setCell hx6).setCell (hx7.other (by omega) _), (hBW.setCell (p := ⟨w.heap.size + 1, 0, none⟩) (by show w.heap.size ≤ w.heap.size + 1; omega) _).setCell (p := ⟨w.heap.size + 1 + 1, 0, none⟩) (by show w.heap.size ≤ w.heap.size + 1 + 1; omega) _⟩
      · refine own_blk ho fun g hg => ?_
        have h1 := (ho.lt g hg).1
        exact (Below.heap_setCell _ _ _ g (by show g ≠ w.heap.size + 1 + 1; omega)).trans (Below.heap_setCell _ _ _ g (by show g ≠ w.heap.size + 1; omega))
    case done =>
      intro hst W hb hk
      have hkr : k ≠ R := of_decide_eq_false hst
      have hDW : MarksAt W w.heap.size (w5.heap.size :: Ds) := (hd5.later hb hd5.lt).cons (fun h => by have := hd5.lt _ h; omega) (by omega) hk
      have HDW := Lib.hid hDW
      have HBW := Lib.hid (hB5.trans (hb.mono hB5.size))
      have H6W : Hid (Boxed W (w.heap.size + 1) 25 (.slice none 0 0)) := Lib.hid ((hb.block _ (by omega)).trans h6)
      have H7W : Hid (Boxed W (w.heap.size + 1 + 1) 31 (.int .i64 0)) := Lib.hid ((hb.block _ (by omega)).trans h7)
      have HWW := Lib.hid (hw5.block (hb.block Bw (by omega)))
      have hsz := hb.size
      have hmk : (({ target := .collected w5.heap.size, args := #[] } : Deferred) :: mkD Ds) = mkD (w5.heap.size :: Ds) := rfl
      clear hDW hB5 h6 h7 hw5 hd5 HSA hk hb hst
      dsimp only
      rw [hmk]
      clear hmk
      go_wp2
      exact ⟨m - 1, by omega, LadI.mk (k + 1) (w5.heap.size :: Ds) (by omega) (by omega) HDW HBW HWW H6W H7W (by omega) (by omega)⟩
    case stop =>
      rintro hst v W ⟨x1, x2, x3, x4, x5, x6⟩ hk
      have hkr : k = R := of_decide_eq_true hst
      have hDW : MarksAt W w.heap.size (w5.heap.size :: Ds) := x4.cons (fun h => by have := hd5.lt _ h; omega) (by omega) hk
      have hsome : few (lc c) (ft c l ds) = some fin := by
        rcases HFW.out with ⟨_, h⟩ | ⟨h, _⟩
        · omega
        · exact h
      have HDW := Lib.hid hDW
      have HX1 := Lib.hid (And.intro x1 (And.intro x2 (And.intro x3 x5)))
      have HSM := Lib.hid hsome
      have hs5' : w.heap.size ≤ w5.heap.size := hB5.size
      have hmk : (({ target := .collected w5.heap.size, args := #[] } : Deferred) :: mkD Ds) = mkD (w5.heap.size :: Ds) := rfl
      clear hDW hB5 h6 h7 hw5 hd5 HSA hk hst x1 x2 x3 x4 x5 hsome
      dsimp only
      rw [hmk]
      clear hmk
      refine wpIn_wide.2 ?_
      go_wp2
      refine leaves_marks HDW.out fun W' hW' => ?_
      obtain ⟨x1, x2, x3, x5⟩ := HX1.out
      have hc6' := (hW'.boxed HDW.out x1).cell
      have hc7' := (hW'.boxed HDW.out x2).cell
      obtain ⟨A1, cap1, rfl, -, -, -, -⟩ := own_ints x3
      have hev : ev = 0 := by have := HEV.out; rw [HSM.out] at this; exact this
      refine ⟨.tuple #[.slice A1 fin.length cap1, .int .i64 0], by simp [results, Try.results7, go_sem, hc6', hc7'], ⟨_, by rw [hev], .inr ⟨fin, HSM.out, (fun h => by rw [h] at hf0; cases hf0), own_mono (hW'.owns HDW.out x3) hs5'⟩⟩, x5.trans (hW'.below HDW.out)⟩
  · have hk1 : ¬ (k : Int) < n := by omega
    have hnone : few (lc c) (ft c l ds) = none := by
      rcases HFW.out with ⟨h, _⟩ | ⟨_, h, _⟩
      · exact h
      · omega
    have h6 := H6.out
    have h7 := H7.out
    have hc6 := h6.cell
    have hc7 := h7.cell
    have hf6 := h6.frozen
    have hf7 := h7.frozen
    clear C1 C2 C3 HX HY HFW HNF HWA H6 H7
    go_wp2_with fail
    have hM1 := (HD.out.setCell (o := 0) (v := .slice none 0 0) h6).setCell (o := 0) (v := .int .i64 8) (h7.other (by omega) (.slice none 0 0))
    have hx6 := (h6.set (.slice none 0 0)).other (B' := w.heap.size + 1 + 1) (by omega) (.int .i64 8)
    have hx7 := (h7.other (B' := w.heap.size + 1) (by omega) (.slice none 0 0)).set (.int .i64 8)
    have hBW : Below w.heap.size w ((wr.setCell ⟨w.heap.size + 1, 0, none⟩ (.slice none 0 0)).setCell ⟨w.heap.size + 1 + 1, 0, none⟩ (.int .i64 8)) := (HB.out.setCell (p := ⟨w.heap.size + 1, 0, none⟩) (by show w.heap.size ≤ w.heap.size + 1; omega) _).setCell (p := ⟨w.heap.size + 1 + 1, 0, none⟩) (by show w.heap.size ≤ w.heap.size + 1 + 1; omega) _
    refine leaves_marks hM1 fun W' hW' => ?_
    have hc6' := (hW'.boxed hM1 hx6).cell
    have hc7' := (hW'.boxed hM1 hx7).cell
    have hev : ev = 8 := by have := HEV.out; rw [hnone] at this; exact this
    refine ⟨.tuple #[.slice none 0 0, .int .i64 8], by simp [results, Try.results7, go_sem, hc6', hc7'], ⟨_, by rw [hev], .inl ⟨rfl, rfl⟩⟩, hBW.trans (hW'.below hM1)⟩
end Go.Proofs.Ytgapnhpmgidmhaa
