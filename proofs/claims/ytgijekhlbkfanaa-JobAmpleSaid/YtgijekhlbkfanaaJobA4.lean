/- Plans: the program's listed schedule. -/
import Derived.Test.YtgijekhlbkfanaaJobA3
import Derived.Test.YtgijekhlbkfanaaSchO
set_option linter.unusedSimpArgs false
set_option linter.unusedVariables false
namespace Go.Proofs.Ytgijekhlbkfanaa
open Go.RowKit Go.Shelf Go.Maps
attribute [local go_sem] Oper.semAt_some Later.cell Same.cell

def lstX (l : List Tk) (c : Int) : List Int := if crewE l c = 0 then LST l c else []
theorem crew_ok {l : List Tk} {c : Int} (h : crewE l c = 0) : checkE l = 0 ∧ (1 ≤ c ∧ c ≤ 100) ∧ ∀ i, i < l.length → mnA l i ≤ c := by
  unfold crewE at h
  by_cases h0 : checkE l = 0
  · rw [if_pos h0] at h
    cases h1 : wi c 1 100
    · rw [h1] at h; cases h
    · rw [h1, if_pos rfl] at h
      cases h2 : many1 l c
      · refine ⟨h0, wi_iff.1 h1, fun i hi => ?_⟩
        apply Classical.byContradiction
        intro hh
        rw [many1_iff.2 ⟨i, hi, by omega⟩] at h2
        cases h2
      · rw [h2] at h; cases h
  · rw [if_neg h0] at h; exact absurd h h0
abbrev schN (l : List Tk) (c : Int) (d : Nat) : Sc := schK l c (trn l) d
set_option maxRecDepth 20000 in
def LsI (A : Option Addr) (cap : Nat) (l : List Tk) (c : Int) (w : World) (N Bl gl capl go mb Bb : Nat) (m : Nat) (a : Act) (W : World) : Prop :=
  ∃ (d : Nat) (Ds : List Nat) (u3 u11 u12 u13 u14 u15 u16 u17 u18 u19 u20 u21 u22 u23 u24 u25 u26 u27 u28 u29 u30 u31 u32 u33 u34 u35 u36 u37 u38 u39 u40 u41 u42 u43 u44 u45 u46 u47 u48 u49 u50 u51 u52 u53 u54 u55 u56 u57 u58 u59 u60 u61 u62 u63 u64 u65 u66 u67 u68 u69 u70 u71 u72 u73 u74 u75 u76 u77 u78 u79 u80 u81 u82 u83 u84 u85 u86 u87 u88 u89 u90 u91 u92 u93 u94 u95 u96 u97 u98 u99 u100 u101 u102 u103 u104 u105 u106 u107 u108 u109 u110 u111 u112 u113 u114 u115 u116 u117 u118 u119 u120 u121 : Value), d + m = (totD l).toNat + 1 ∧ Run l c d ∧
    a = { tmps := List.toArray (.slice A l.length cap :: .int .i64 c :: .pointer (some ⟨w.heap.size, 0, none⟩) :: u3 :: .slice none 0 0 :: .int .i64 0 :: .int .i64 0 :: .pointer (some ⟨Bl, 0, none⟩) :: .slice (some ⟨go, 0, none⟩) l.length l.length :: .pointer (some ⟨Bb, 0, none⟩) :: .int .i64 (d : Int) :: u11 :: u12 :: u13 :: u14 :: u15 :: u16 :: u17 :: u18 :: u19 :: u20 :: u21 :: u22 :: u23 :: u24 :: u25 :: u26 :: u27 :: u28 :: u29 :: u30 :: u31 :: u32 :: u33 :: u34 :: u35 :: u36 :: u37 :: u38 :: u39 :: u40 :: u41 :: u42 :: u43 :: u44 :: u45 :: u46 :: u47 :: u48 :: u49 :: u50 :: u51 :: u52 :: u53 :: u54 :: u55 :: u56 :: u57 :: u58 :: u59 :: u60 :: u61 :: u62 :: u63 :: u64 :: u65 :: u66 :: u67 :: u68 :: u69 :: u70 :: u71 :: u72 :: u73 :: u74 :: u75 :: u76 :: u77 :: u78 :: u79 :: u80 :: u81 :: u82 :: u83 :: u84 :: u85 :: u86 :: u87 :: u88 :: u89 :: u90 :: u91 :: u92 :: u93 :: u94 :: u95 :: u96 :: u97 :: u98 :: u99 :: u100 :: u101 :: u102 :: u103 :: u104 :: u105 :: u106 :: u107 :: u108 :: u109 :: u110 :: u111 :: u112 :: u113 :: u114 :: u115 :: u116 :: u117 :: u118 :: u119 :: u120 :: u121 :: []), defers := mkD Ds } ∧ LsR A cap l w N Bl gl capl go mb Bb (schN l c d) W ∧ MarksAt W w.heap.size Ds
set_option maxRecDepth 20000 in
theorem LsI.mk {A : Option Addr} {cap : Nat} {l : List Tk} {c : Int} {w : World} {N Bl gl capl go mb Bb : Nat} {m : Nat} {W : World} (d : Nat) (Ds : List Nat) {u3 u11 u12 u13 u14 u15 u16 u17 u18 u19 u20 u21 u22 u23 u24 u25 u26 u27 u28 u29 u30 u31 u32 u33 u34 u35 u36 u37 u38 u39 u40 u41 u42 u43 u44 u45 u46 u47 u48 u49 u50 u51 u52 u53 u54 u55 u56 u57 u58 u59 u60 u61 u62 u63 u64 u65 u66 u67 u68 u69 u70 u71 u72 u73 u74 u75 u76 u77 u78 u79 u80 u81 u82 u83 u84 u85 u86 u87 u88 u89 u90 u91 u92 u93 u94 u95 u96 u97 u98 u99 u100 u101 u102 u103 u104 u105 u106 u107 u108 u109 u110 u111 u112 u113 u114 u115 u116 u117 u118 u119 u120 u121 : Value} (h1 : d + m = (totD l).toNat + 1) (h2 : Run l c d) (h3 : LsR A cap l w N Bl gl capl go mb Bb (schN l c d) W) (h4 : MarksAt W w.heap.size Ds) :
    LsI A cap l c w N Bl gl capl go mb Bb m { tmps := List.toArray (.slice A l.length cap :: .int .i64 c :: .pointer (some ⟨w.heap.size, 0, none⟩) :: u3 :: .slice none 0 0 :: .int .i64 0 :: .int .i64 0 :: .pointer (some ⟨Bl, 0, none⟩) :: .slice (some ⟨go, 0, none⟩) l.length l.length :: .pointer (some ⟨Bb, 0, none⟩) :: .int .i64 (d : Int) :: u11 :: u12 :: u13 :: u14 :: u15 :: u16 :: u17 :: u18 :: u19 :: u20 :: u21 :: u22 :: u23 :: u24 :: u25 :: u26 :: u27 :: u28 :: u29 :: u30 :: u31 :: u32 :: u33 :: u34 :: u35 :: u36 :: u37 :: u38 :: u39 :: u40 :: u41 :: u42 :: u43 :: u44 :: u45 :: u46 :: u47 :: u48 :: u49 :: u50 :: u51 :: u52 :: u53 :: u54 :: u55 :: u56 :: u57 :: u58 :: u59 :: u60 :: u61 :: u62 :: u63 :: u64 :: u65 :: u66 :: u67 :: u68 :: u69 :: u70 :: u71 :: u72 :: u73 :: u74 :: u75 :: u76 :: u77 :: u78 :: u79 :: u80 :: u81 :: u82 :: u83 :: u84 :: u85 :: u86 :: u87 :: u88 :: u89 :: u90 :: u91 :: u92 :: u93 :: u94 :: u95 :: u96 :: u97 :: u98 :: u99 :: u100 :: u101 :: u102 :: u103 :: u104 :: u105 :: u106 :: u107 :: u108 :: u109 :: u110 :: u111 :: u112 :: u113 :: u114 :: u115 :: u116 :: u117 :: u118 :: u119 :: u120 :: u121 :: []), defers := mkD Ds } W :=
  ⟨d, Ds, u3, u11, u12, u13, u14, u15, u16, u17, u18, u19, u20, u21, u22, u23, u24, u25, u26, u27, u28, u29, u30, u31, u32, u33, u34, u35, u36, u37, u38, u39, u40, u41, u42, u43, u44, u45, u46, u47, u48, u49, u50, u51, u52, u53, u54, u55, u56, u57, u58, u59, u60, u61, u62, u63, u64, u65, u66, u67, u68, u69, u70, u71, u72, u73, u74, u75, u76, u77, u78, u79, u80, u81, u82, u83, u84, u85, u86, u87, u88, u89, u90, u91, u92, u93, u94, u95, u96, u97, u98, u99, u100, u101, u102, u103, u104, u105, u106, u107, u108, u109, u110, u111, u112, u113, u114, u115, u116, u117, u118, u119, u120, u121, h1, h2, rfl, h3, h4⟩
theorem stP_take {l : List Tk} {d : Int} {q : Int × Sc} {fs : List Nat} {k : Nat} (h : k < fs.length) : (fs.take (k + 1)).foldl (stP l d) q = stP l d ((fs.take k).foldl (stP l d) q) fs[k] := by
  rw [List.take_succ_eq_append_getElem h, List.foldl_append]; rfl
theorem stP_bd {l : List Tk} (hP : okP l) {d : Int} : ∀ {fs : List Nat} {q : Int × Sc}, (∀ x ∈ fs, x < l.length) → ((fs.foldl (stP l d) q).1 ≤ q.1 ∧ q.1 - 16 * fs.length ≤ (fs.foldl (stP l d) q).1) ∧ (fs.foldl (stP l d) q).2.2.length ≤ q.2.2.length + fs.length
  | [], q, _ => by simp
  | x :: fs, q, h => by
    have h1 := stP_bd hP (d := d) (fs := fs) (q := stP l d q x) fun y hy => h y (List.mem_cons_of_mem _ hy)
    have h2 := mnA_bd hP (h x (List.mem_cons_self ..))
    rw [List.foldl_cons, List.length_cons]
    have h3 : ((stP l d q x).1 ≤ q.1 ∧ q.1 - 16 ≤ (stP l d q x).1) ∧ (stP l d q x).2.2.length ≤ q.2.2.length + 1 := by
      unfold stP
      split
      · refine ⟨⟨?_, ?_⟩, ?_⟩
        · show q.1 - mnA l x ≤ q.1; omega
        · show q.1 - 16 ≤ q.1 - mnA l x; omega
        · show (q.2.2 ++ [x]).length ≤ _; simp
      · exact ⟨⟨by omega, by omega⟩, by omega⟩
    refine ⟨⟨by omega, by push_cast; omega⟩, by omega⟩
theorem stP_take_bd {l : List Tk} (hP : okP l) {d : Int} {q : Int × Sc} {fs : List Nat} (h : ∀ x ∈ fs, x < l.length) {k : Nat} (hk : k ≤ fs.length) : (((fs.take k).foldl (stP l d) q).1 ≤ q.1 ∧ q.1 - 16 * k ≤ ((fs.take k).foldl (stP l d) q).1) ∧ ((fs.take k).foldl (stP l d) q).2.2.length ≤ q.2.2.length + k := by
  have := stP_bd hP (d := d) (q := q) (fs := fs.take k) fun x hx => h x (List.mem_of_mem_take hx)
  rw [List.length_take, Nat.min_eq_left hk] at this
  exact this
theorem totD_bd {l : List Tk} (hP : okP l) : totD l ≤ 1000 * l.length := by
  have : ∀ n, n ≤ l.length → sN (dyA l) n ≤ 1000 * n := by
    intro n
    induction n with
    | zero => intro _; show (0 : Int) ≤ _; omega
    | succ n ih => intro hn; have := ih (by omega); have := (dy_bd hP (i := n) (by omega)).2; show sN _ n + dyA l n ≤ _; omega
  exact this _ (Nat.le_refl _)
set_option maxRecDepth 20000 in
set_option maxHeartbeats 32000000 in
theorem listed_ok (A : Option Addr) (len cap : Nat) (l : List Tk) (c : Int) (w : World) (hS : Sml l) (h9 : l.length ≤ 9) (hE : crewE l c = 0) (hx : Plan w w.heap.size A len l) :
    Calls Try.prog 45 #[.slice A len cap, .int .i64 c] w fun e w' => (∃ v, e = .returned (.tuple #[v, .int .i64 0]) ∧ w'.ownsRow w.heap.size 3 1 v (LST l c).length (icells (LST l c))) ∧ Below w.heap.size w w' := by
  obtain rfl : l.length = len := hx.1
  obtain ⟨hc0, hcb, hcm⟩ := crew_ok hE
  have hP := check_spec hc0
  have c1 := fun W (h : Below w.heap.size w W) => crewed_any A l.length cap l c W hS (hx.go h)
  rw [hE] at c1
  have c2 := fun W (h : Below w.heap.size w W) => latest_any A l.length cap l W hS hP (hx.go h)
  have hmm := @run_makeMap Try.prog
  have hmf : ∀ (fn : Fn) (first cap : Array Value) (w : World), (Instr.makeFunc fn first cap).run Try.prog w = .ok (.func fn first cap) w := fun _ _ _ _ => rfl
  obtain ⟨j0, hj, hy0, hy1, hy2⟩ := info_parts jinfo_int
  have hI0 := Lib.hid hj
  have hI1 := Lib.hid hy0
  have hI2 := Lib.hid hy1
  have hI3 := Lib.hid hy2
  have hL := hP.len
  have hLp := hP.pos
  have C1 := Lib.hid c1
  have C2 := Lib.hid c2
  have HX := Lib.hid hx
  have HS := Lib.hid hS
  have HP := Lib.hid hP
  have HCM := Lib.hid hcm
  clear c1 c2 hx hS hP hj hy0 hy1 hy2 hcm hE hc0
  refine (callsIn_wide (n := 9)).1 ?_
  refine callsIn_of_wp_marks Try.func45 rfl trivial ?_ rfl
  simp only [Try.ntmps45, List.size_toArray, List.length_cons, List.length_nil, Nat.reduceAdd, Nat.reduceSub, Array.replicate_succ, Array.replicate_zero, List.push_toArray, List.append_toArray, List.nil_append, List.cons_append]
  refine wpIn_wide.2 ?_
  have hbl0 := (Boxed.new w 31 (.slice A l.length cap)).cell
  go_wp2_with fail
  refine (C1.out _ (by repeat (first | exact Below.refl _ _ | assumption | refine Below.setCell ?_ (by first | (simp; done) | (simp; omega) | omega) _ | refine Below.drew ?_ | refine below_drewN ?_ _ | refine Below.alloc ?_ (by first | (simp; done) | (simp; omega) | omega) _ | refine below_alloc ?_ _ | refine below_step ?_ (by assumption)))).mono ?_
  rintro e w1 ⟨rfl, hb⟩
  have hbl1 : w1.cell? ⟨w.heap.size, 0, none⟩ = some (.slice A l.length cap) := (hb.cell (p := ⟨w.heap.size, 0, none⟩) (by simp)).trans hbl0
  have hB1 : Below w.heap.size w w1 := (by repeat (first | exact Below.refl _ _ | assumption | refine Below.setCell ?_ (by first | (simp; done) | (simp; omega) | omega) _ | refine Below.drew ?_ | refine below_drewN ?_ _ | refine Below.alloc ?_ (by first | (simp; done) | (simp; omega) | omega) _ | refine below_alloc ?_ _ | refine below_step ?_ (by assumption)))
  have hs1 : w.heap.size < w1.heap.size := by have := hb.size; simp at this; omega
  clear hb hbl0
  go_wp2_with fail
  refine (C2.out _ hB1).mono ?_
  rintro e w2 ⟨⟨v, rfl, ho⟩, hb⟩
  obtain ⟨A2, capl, rfl, -, -, hI, hg2⟩ := own_ints ho
  obtain ⟨gl, rfl, hgl⟩ : ∃ gl, A2 = some ⟨gl, 0, none⟩ ∧ w1.heap.size ≤ gl := by
    obtain ⟨g, e1, e2, -⟩ := hg2 hLp
    exact ⟨g, e1, e2⟩
  have hlc := (jown_at ho).2.2.1
  have hgs := (jown_at ho).1
  have hbl2 := (hb.cell (p := ⟨w.heap.size, 0, none⟩) hs1).trans hbl1
  have hB2 : Below w.heap.size w w2 := hB1.trans (hb.mono hB1.size)
  have hs2 := hb.size
  have HLC := Lib.hid hlc
  have HB2 := Lib.hid hB2
  have hblA : (w2.alloc (.cells #[.slice (some ⟨gl, 0, none⟩) l.length capl] 32)).cell? ⟨w.heap.size, 0, none⟩ = some (.slice A l.length cap) := cell_kept hbl2 (World.grownBy_alloc w2 _ none) (fun r e => by cases e)
  clear hb hbl1 hI hg2 ho hlc C1 C2 hB1 hB2
  go_wp2_with (at_make; refine wpList_make_full _ rfl _ _ 32 rfl w.heap.size 3 j0 (.int .i64 0) 1 Try.underlying32 hI0.out hI1.out hI2.out _ _ _ _ l.length rfl rfl (by omega) (by omega) (by rw [hI3.out]; omega) (by unfold maxLen; omega) (by simp; omega) ?_; intro w4 hown hgrow; have hbl4 : w4.cell? ⟨w.heap.size, 0, none⟩ = some (.slice A l.length cap) := cell_kept (cell_kept hbl2 (World.grownBy_alloc w2 _ none) (fun r e => by cases e)) hgrow (fun r e => by cases e); go_frame)
  rw [jmade1] at hown
  have hsa : (w2.alloc (.cells #[.slice (some ⟨gl, 0, none⟩) l.length capl] 32)).heap.size = w2.heap.size + 1 := by simp
  have hg4 : Below (w2.heap.size + 1) (w2.alloc (.cells #[.slice (some ⟨gl, 0, none⟩) l.length capl] 32)) w4 := grown_below hgrow (by rw [hsa]; exact Nat.le_refl _) (fun k hk => by cases hk)
  have hgo4 : w2.heap.size + 1 < w4.heap.size := by have := (jown_at hown).1; rw [hsa] at this; exact this
  have hlt4 : LateAt w4 w2.heap.size gl l.length capl (latP l) := by
    have hcb2 := (Boxed.new w2 32 (.slice (some ⟨gl, 0, none⟩) l.length capl)).cell
    refine ⟨(hg4.cell (p := ⟨w2.heap.size, 0, none⟩) (by show w2.heap.size < _; omega)).trans hcb2, fun k hk => ?_⟩
    exact (hg4.cell (p := ⟨gl, k, none⟩) (by show gl < _; omega)).trans ((Below.refl w2.heap.size w2).alloc (Nat.le_refl _) _ |>.cell (p := ⟨gl, k, none⟩) hgs |>.trans (HLC.out k hk))
  have hB4 : Below w.heap.size w w4 := (HB2.out.alloc (by have := HB2.out.size; omega) _).trans (hg4.mono (by have := HB2.out.size; omega))
  rw [hsa] at hown
  obtain ⟨W5, hW5⟩ : ∃ W5, W5 = (w4.alloc (.map #[] 0)).alloc (.cells #[.map (some w4.heap.size)] 70) := ⟨_, rfl⟩
  have hb45 : Below w4.heap.size w4 W5 := by rw [hW5]; exact ((Below.refl _ _).alloc (Nat.le_refl _) _).alloc (by simp) _
  have hs5 : W5.heap.size = w4.heap.size + 1 + 1 := by rw [hW5]; simp
  have hM5 : MapS W5 w4.heap.size ([] : List Nat).length (nmsOf l []) := by
    rw [hW5]; exact (mapv_made w4 Try.prog 9 4 slit blit false).alloc _
  have hcb5 : W5.cell? ⟨w4.heap.size + 1, 0, none⟩ = some (.map (some w4.heap.size)) := by
    rw [hW5]; have := (Boxed.new (w4.alloc (.map #[] 0)) 70 (.map (some w4.heap.size))).cell; rw [World.size_alloc] at this; exact this
  have hLS : LsR A cap l w (w4.heap.size + 1 + 1) w2.heap.size gl capl (w2.heap.size + 1) w4.heap.size (w4.heap.size + 1) (schN l c 0) W5 :=
    ⟨jown_later hown hb45, hM5, (hb45.cell (p := ⟨w.heap.size, 0, none⟩) (by show w.heap.size < _; omega)).trans hbl4, hcb5, hlt4.later hb45, hB4.trans (hb45.mono hB4.size), ⟨by omega, by omega, by omega⟩, ⟨by omega, by omega, by omega⟩, by omega⟩
  have HLS := Lib.hid hLS
  have hsz5 : w.heap.size < W5.heap.size := by omega
  have ho1 : w.heap.size < gl ∧ gl < w2.heap.size := by omega
  rw [← hW5]
  try rw [hsa]
  generalize hN0 : w4.heap.size + 1 + 1 = N at *
  clear hown hgrow hbl4 hbl2 hblA hg4 hlt4 hB4 hb45 hM5 hcb5 hLS hW5 HLC HB2 hsa hs5
  generalize hgoo : w2.heap.size + 1 = go at *
  generalize hBbb : w4.heap.size + 1 = Bb at *
  generalize hmbb : w4.heap.size = mb at *
  generalize hBll : w2.heap.size = Bl at *
  have hord : (w.heap.size < gl ∧ gl < Bl ∧ Bl < go) ∧ (go < mb ∧ mb < Bb ∧ Bb < N) := by omega
  clear hN0 hgoo hBbb hmbb hBll hgo4 hgs hgl hs1 hs2 ho1
  refine wp_loop_ghost (LsI A cap l c w N Bl gl capl go mb Bb) ((totD l).toNat + 1) (LsI.mk 0 [] (Nat.zero_add _) (Run.zeroth l c) HLS.out (MarksAt.nil _ _)) ?_
  clear HLS
  intro m a wr hrel
  obtain ⟨d, Ds, hrel⟩ := hrel
  obtain ⟨u3, u11, u12, u13, u14, u15, u16, u17, hrel⟩ := hrel
  obtain ⟨u18, u19, u20, u21, u22, u23, u24, u25, hrel⟩ := hrel
  obtain ⟨u26, u27, u28, u29, u30, u31, u32, u33, hrel⟩ := hrel
  obtain ⟨u34, u35, u36, u37, u38, u39, u40, u41, hrel⟩ := hrel
  obtain ⟨u42, u43, u44, u45, u46, u47, u48, u49, hrel⟩ := hrel
  obtain ⟨u50, u51, u52, u53, u54, u55, u56, u57, hrel⟩ := hrel
  obtain ⟨u58, u59, u60, u61, u62, u63, u64, u65, hrel⟩ := hrel
  obtain ⟨u66, u67, u68, u69, u70, u71, u72, u73, hrel⟩ := hrel
  obtain ⟨u74, u75, u76, u77, u78, u79, u80, u81, hrel⟩ := hrel
  obtain ⟨u82, u83, u84, u85, u86, u87, u88, u89, hrel⟩ := hrel
  obtain ⟨u90, u91, u92, u93, u94, u95, u96, u97, hrel⟩ := hrel
  obtain ⟨u98, u99, u100, u101, u102, u103, u104, u105, hrel⟩ := hrel
  obtain ⟨u106, u107, u108, u109, u110, u111, u112, u113, hrel⟩ := hrel
  obtain ⟨u114, u115, u116, u117, u118, u119, u120, u121, hrel⟩ := hrel
  obtain ⟨hdm, hR, rfl, hE, hD⟩ := hrel
  have hbs := hE.bel.size
  obtain ⟨D, hown, hsz⟩ := begun_size HP.out hE.map hR.inv.nd hR.inv.lt
  have q0 := hE.cl
  have q1 := hE.cb
  have hlel := hR.inv.len_le
  have hdb := hR.bd HP.out
  have HOWN := Lib.hid hown
  have HSZ := Lib.hid hsz
  have HE := Lib.hid hE
  have HD := Lib.hid hD
  have HR := Lib.hid hR
  clear hown hsz hE hD hR
  by_cases hfull : (schN l c d).2.length < l.length
  · have htb := totD_bd HP.out
    have hcon := fun k (hk : k < l.length) => nms_name HP.out.apart (out := (schN l c d).2) HR.out.inv.lt hk
    have hearly : ∀ i ∈ (schN l c d).2, 0 ≤ gI (schN l c d).1 i ∧ gI (schN l c d).1 i < d := HR.out.inv.early
    have hlf := fun k hk => leftN_bd HP.out c (schN l c d) (d : Int) k hk
    have hln := fun k => leftN_next l c (schN l c d) (d : Int) k
    have hen := fun k => endN_next l (schN l c d) (d : Int) k
    have hsl : (schN l c d).1.length = l.length := HR.out.inv.len
    have hl0 : leftN l c (schN l c d) (d : Int) 0 = c := by unfold leftN; show c - 0 = c; omega
    generalize hs : schN l c d = s at *
    have hf1 : (s.2.length : Int) < l.length := by omega
    have HCON := Lib.hid hcon
    have HEAR := Lib.hid hearly
    have HLF := Lib.hid hlf
    have HLN := Lib.hid hln
    have HEN := Lib.hid hen
    have HSL := Lib.hid hsl
    have HS0 := Lib.hid hs
    have hcl0 : wr.cell? ⟨w.heap.size, 0, none⟩ = some (.slice A l.length cap) := q0
    have hM0 : MapS (wr.alloc (.map #[] 0)) wr.heap.size 0 (nmsOf l (endN l s (d : Int) 0)) := mapv_made wr Try.prog 9 4 slit blit false
    have hE0 := HE.out.later ((Below.refl wr.heap.size wr).alloc (Nat.le_refl _) (.map #[] 0))
    have hD0 : MarksAt (wr.alloc (.map #[] 0)) w.heap.size Ds := HD.out.later ((Below.refl wr.heap.size wr).alloc (Nat.le_refl _) (.map #[] 0)) HD.out.lt
    have hq0 : (wr.alloc (.map #[] 0)).cell? ⟨w.heap.size, 0, none⟩ = some (.slice A l.length cap) := hE0.cl
    have HM0 := Lib.hid hM0
    have HE0 := Lib.hid hE0
    have HD0 := Lib.hid hD0
    have HL0 := Lib.hid hl0
    have hen0 : N ≤ wr.heap.size := HE.out.ord.2.2
    clear hcon hearly hlf hln hen hsl hs hM0 hE0 hD0 hl0 q0
    go_wp2_with (at_len; refine wpList_len_own wr rfl (.tmp 31) 70 rfl 9 4 Try.underlying70 _ mb _ D rfl HOWN.out ?_; rw [HSZ.out])
    obtain ⟨W0, hW0⟩ : ∃ W0, W0 = wr.alloc (.map #[] 0) := ⟨_, rfl⟩
    have hsW : W0.heap.size = wr.heap.size + 1 := by rw [hW0]; simp
    rw [← hW0] at HM0 HE0 HD0 hq0 ⊢
    generalize heb : wr.heap.size = eb at *
    clear hW0 HE HD HOWN HSZ hcl0 q1 heb
    go_loopw [42, 11] (fun i lf W => ∃ k : Nat, k ≤ l.length ∧ i = .int .i64 (k : Int) ∧ lf = .int .i64 (leftN l c s (d : Int) k) ∧ Hid (LsR A cap l w N Bl gl capl go mb Bb s W) ∧ Hid (MapS W eb k (nmsOf l (endN l s (d : Int) k))) ∧ Hid (MarksAt W w.heap.size Ds ∧ eb < W.heap.size)) (fun i _ _ => l.length - (intOf i).toNat)
    case atStart => exact ⟨0, Nat.zero_le _, rfl, by rw [HL0.out], HE0, HM0, Lib.hid ⟨HD0.out, by omega⟩⟩
    case round =>
      clear HE0 HM0 HD0 HL0
      clear hq0 hsW
      obtain ⟨k, hk, rfl, rfl, HE, HM, HD⟩ := hrel
      by_cases hlt : k < l.length
      · obtain ⟨b, off, rfl, hb0, hc1, hc2, hc3, A', q, cc, hc4, -, -, -⟩ := (HX.out.below HE.out.bel).at_ k hlt
        have hct := HCON.out k hlt
        have HSZ := Lib.hid (HS.out.nm k hlt)
        have hle := HLN.out k
        have hee := HEN.out k
        have hlfb := HLF.out k hk
        have hdb2 := dy_bd HP.out hlt
        have hmb2 := mnA_bd HP.out hlt
        have hlfb2 := HLF.out (k + 1) hlt
        unfold rnF at hle
        change 1 ≤ (tkA l k).dy ∧ (tkA l k).dy ≤ 1000 at hdb2
        change 1 ≤ (tkA l k).mn ∧ (tkA l k).mn ≤ 16 at hmb2
        unfold dyA mnA at hle
        unfold dyA at hee
        have hUP := nms_upd (l := l) (out := endN l s (d : Int) k) (i := k)
        have hgc := (jown_at HE.out.out).2.2.1 k hlt
        have hgl := (jown_at HE.out.out).1
        have q1 : wr.cell? ⟨Bb, 0, none⟩ = some (.map (some mb)) := HE.out.cb
        have hwN := HE.out.ord.2.2
        have hk1 : (k : Int) < l.length := by omega
        have hk2 : ¬ l.length ≤ k := by omega
        have hb1 : b < wr.heap.size := by have := HE.out.bel.size; omega
        have HUP := Lib.hid hUP
        clear hUP
        generalize (tkA l k).nm = X at *
        generalize (tkA l k).dy = Y at *
        generalize (tkA l k).mn = Z at *
        have hea := fun h => HEAR.out k h
        have hE1 := HE.out.later ((Below.refl wr.heap.size wr).alloc (Nat.le_refl _) (.cells #[.string X, .int .i64 Y, .int .i64 Z, .slice A' q cc] 43))
        have hM1 := HM.out.alloc (.cells #[.string X, .int .i64 Y, .int .i64 Z, .slice A' q cc] 43)
        have hD1 : MarksAt (wr.alloc (.cells #[.string X, .int .i64 Y, .int .i64 Z, .slice A' q cc] 43)) w.heap.size Ds := HD.out.1.later ((Below.refl wr.heap.size wr).alloc (Nat.le_refl _) _) HD.out.1.lt
        have hebl := HD.out.2
        have HE1 := Lib.hid hE1
        have HM1 := Lib.hid hM1
        have HD1 := Lib.hid hD1
        have HB1 := Lib.hid hE1.map
        have hqB : (wr.alloc (.cells #[.string X, .int .i64 Y, .int .i64 Z, .slice A' q cc] 43)).cell? ⟨Bb, 0, none⟩ = some (.map (some mb)) := HE1.out.cb
        have hgcA : (wr.alloc (.cells #[.string X, .int .i64 Y, .int .i64 Z, .slice A' q cc] 43)).cell? ⟨go, k, none⟩ = some (.int .i64 (gI s.1 k)) := cell_kept hgc (World.grownBy_alloc wr _ none) (fun r e => by cases e)
        have hBbn : ¬ Bb = wr.heap.size := by omega
        have hgon : ¬ go = wr.heap.size := by omega
        clear hE1 hM1 hD1 HE HM HD
        cases hcc : s.2.contains k
        · rw [hcc] at hct hle hee
          have HLE : Hid (leftN l c s (d : Int) (k + 1) = leftN l c s (d : Int) k) := Lib.hid (by rw [hle]; simp)
          have HEE : Hid (endN l s (d : Int) (k + 1) = endN l s (d : Int) k) := Lib.hid (by rw [hee]; simp)
          have HCT := Lib.hid hct
          clear hct hle hee hcc hea hlfb hlfb2 hgcA
          go_wp2_with (at_lookup; refine wpList_mapv_bool rfl (.tmp 52) (.tmp 54) 70 rfl lawS Try.underlying70 underBo (zeroBo _) rfl HB1.out X _ rfl (keyS HSZ.out) ?_; rw [HCT.out])
          go_roundw
          case rel => exact ⟨k + 1, by omega, by go_num, by rw [HLE.out], HE1.out, Lib.hid (by rw [HEE.out]; exact HM1.out.mono (Nat.le_succ k)), Lib.hid ⟨HD1.out, by simp; omega⟩⟩
          case measure => simp [intOf]; omega
        · have hea2 := hea (by simpa using hcc)
          rw [hcc] at hct hle hee
          have HCT := Lib.hid hct
          generalize gI s.1 k = G at *
          have hwr : wrap64 (G + Y) = G + Y := IntWalk.wrap64_in _ ⟨by omega, by omega⟩
          by_cases hd : G + Y ≤ (d : Int)
          · have HLE : Hid (leftN l c s (d : Int) (k + 1) = leftN l c s (d : Int) k) := Lib.hid (by rw [hle, if_neg (by simp; omega)]; omega)
            have HEE : Hid (endN l s (d : Int) (k + 1) = endN l s (d : Int) k ++ [k]) := Lib.hid (by rw [hee, if_pos (by simp; exact hd)])
            clear hct hle hee hcc hea hlfb hlfb2
            go_wp2_with (at_lookup; refine wpList_mapv_bool rfl (.tmp 52) (.tmp 54) 70 rfl lawS Try.underlying70 underBo (zeroBo _) rfl HB1.out X _ rfl (keyS HSZ.out) ?_; rw [HCT.out])
            (refine wp_region_later (by kernel_rfl) (by kernel_rfl) ?_; (repeat (go_big_quiet_step ((fail)))); refine wpQuiet_nil ?_)
            intro w3 hb3
            have t0 : w3.cell? ⟨wr.heap.size, 0, none⟩ = some (.string X) := (hb3.cell (p := ⟨wr.heap.size, 0, none⟩) (by simp)).trans (by simp)
            have hs3 : wr.heap.size < w3.heap.size := by have := hb3.size; simp at this; omega
            have HE3 := Lib.hid (HE1.out.later hb3)
            have HM3 := Lib.hid (HM1.out.below hb3)
            have HD3 := Lib.hid (HD1.out.later hb3 HD1.out.lt)
            generalize wr.heap.size = tb at *
            clear HE1 HM1 HD1 HB1 hb3 hqB hgcA hgc
            go_wp2_with (at_mapUpdate; refine wpList_mapv_put (κ := ByteArray) rfl (.tmp 67) (.tmp 69) (.const (.bool true)) 70 rfl lawS Try.underlying70 (fun _ _ => slit_inj) (fun _ => trivial) rfl HM3.out (by unfold maxLen; omega) X true _ _ rfl rfl (keyS HSZ.out) (plainElem_bool underBo true) ?_; intro w4 hM4 hg4; go_frame)
            have hs4 := hg4.size
            go_roundw
            case rel => exact ⟨k + 1, by omega, by go_num, by rw [HLE.out], Lib.hid (HE3.out.grown hg4 (fun r e => by injection e with e; omega)), Lib.hid (by rw [HEE.out, ← HUP.out]; exact hM4), Lib.hid ⟨HD3.out.grown hg4 (fun E hE e => map_not_def HM3.out hE (by injection e)), by omega⟩⟩
            case measure => simp [intOf]; omega
          · have HLE : Hid (leftN l c s (d : Int) k - Z = leftN l c s (d : Int) (k + 1)) := Lib.hid (by rw [hle, if_pos (by simp; omega)])
            have HEE : Hid (endN l s (d : Int) (k + 1) = endN l s (d : Int) k) := Lib.hid (by rw [hee, if_neg (by rw [Bool.true_and, decide_eq_true_eq]; exact hd)])
            generalize leftN l c s (d : Int) k = LK at *
            have hwz : wrap64 (LK - Z) = LK - Z := IntWalk.wrap64_in _ ⟨by omega, by omega⟩
            clear hct hle hee hcc hea hlfb hlfb2
            go_wp2_with (at_lookup; refine wpList_mapv_bool rfl (.tmp 52) (.tmp 54) 70 rfl lawS Try.underlying70 underBo (zeroBo _) rfl HB1.out X _ rfl (keyS HSZ.out) ?_; rw [HCT.out])
            (refine wp_region_later (by kernel_rfl) (by kernel_rfl) ?_; (repeat (go_big_quiet_step ((fail)))); refine wpQuiet_nil ?_)
            intro w3 hb3
            have t2 : w3.cell? ⟨wr.heap.size, 2, none⟩ = some (.int .i64 Z) := (hb3.cell (p := ⟨wr.heap.size, 2, none⟩) (by simp)).trans (by simp)
            have hs3 : wr.heap.size < w3.heap.size := by have := hb3.size; simp at this; omega
            have HE3 := Lib.hid (HE1.out.later hb3)
            have HM3 := Lib.hid (HM1.out.below hb3)
            have HD3 := Lib.hid (HD1.out.later hb3 HD1.out.lt)
            generalize wr.heap.size = tb at *
            clear HE1 HM1 HD1 HB1 hb3 hqB hgcA hgc
            go_wp2
            go_roundw
            case rel => exact ⟨k + 1, by omega, by go_num, by rw [hwz, HLE.out], HE3, Lib.hid (by rw [HEE.out]; exact HM3.out.mono (Nat.le_succ k)), Lib.hid ⟨HD3.out, by omega⟩⟩
            case measure => simp [intOf]; omega
      · have hkn : k = l.length := by omega
        subst hkn
        have hk1 : ¬ (l.length : Int) < l.length := by omega
        have hwN := HE.out.ord.2.2
        have hebl := HD.out.2
        have q0 : wr.cell? ⟨w.heap.size, 0, none⟩ = some (.slice A l.length cap) := HE.out.cl
        have q0A : (wr.alloc (.cells #[.slice none 0 0] 32)).cell? ⟨w.heap.size, 0, none⟩ = some (.slice A l.length cap) := (HE.out.later ((Below.refl wr.heap.size wr).alloc (Nat.le_refl _) (.cells #[.slice none 0 0] 32))).cl
        have HLN2 := Lib.hid (HLF.out l.length (Nat.le_refl _))
        obtain ⟨LN, hLN⟩ : ∃ LN, LN = leftN l c s (d : Int) l.length := ⟨_, rfl⟩
        rw [← hLN] at HLN2 ⊢
        have HLL := Lib.hid hLN
        obtain ⟨W1, hW1⟩ : ∃ W1, W1 = ((wr.alloc (.cells #[.slice none 0 0] 32)).alloc (.cells #[.slice A l.length cap] 31)).alloc (.cells #[.map (some eb)] 70) := ⟨_, rfl⟩
        have hs1 : W1.heap.size = wr.heap.size + 1 + 1 + 1 := by rw [hW1]; simp
        have hB1 : Below wr.heap.size wr W1 := by rw [hW1]; exact (((Below.refl _ _).alloc (Nat.le_refl _) _).alloc (by simp) _).alloc (by simp; omega) _
        have hbx : Boxed W1 wr.heap.size 32 (.slice none 0 0) := by rw [hW1]; exact ((Boxed.new wr _ _).alloc _).alloc _
        have hcl : W1.cell? ⟨wr.heap.size + 1, 0, none⟩ = some (.slice A l.length cap) := by
          have := ((Boxed.new (wr.alloc (.cells #[.slice none 0 0] 32)) 31 (.slice A l.length cap)).alloc (.cells #[.map (some eb)] 70)).cell
          rw [World.size_alloc] at this; rw [hW1]; exact this
        have hct : W1.cell? ⟨wr.heap.size + 1 + 1, 0, none⟩ = some (.map (some eb)) := by
          have := (Boxed.new ((wr.alloc (.cells #[.slice none 0 0] 32)).alloc (.cells #[.slice A l.length cap] 31)) 70 (.map (some eb))).cell
          rw [World.size_alloc, World.size_alloc] at this; rw [hW1]; exact this
        have hM1 : MapS W1 eb l.length (nmsOf l (endN l s (d : Int) l.length)) := HM.out.below hB1
        have hX1 : Plan W1 w.heap.size A l.length l := (HX.out.below HE.out.bel).below (hB1.mono HE.out.bel.size)
        have hst := ready_stops 8 (by omega) (wr.heap.size + 1) (wr.heap.size + 1 + 1) eb l.length w.heap.size W1.heap.size wr.heap.size A l.length cap l (nmsOf l (endN l s (d : Int) l.length)) HS.out W1 ⟨⟨by omega, by omega⟩, ⟨by omega, by omega⟩, ⟨by omega, by omega⟩, by have := HE.out.bel.size; omega, by have := HE.out.bel.size; omega, Nat.le_refl _⟩ hcl hct hM1 hX1
        have hE1 := HE.out.later hB1
        have hD1 : MarksAt W1 w.heap.size Ds := HD.out.1.later hB1 HD.out.1.lt
        have hF1 : FrR W1 wr.heap.size (frP l s []) W1 := ⟨_, hbx, World.ownsRow_nil _ _ _ _, ⟨rfl, rfl, rfl, Nat.le_refl _, fun _ _ _ => rfl⟩⟩
        have HST := Lib.hid hst
        have HE1 := Lib.hid hE1
        have HD1 := Lib.hid hD1
        have HF1 := Lib.hid hF1
        have HBX1 := Lib.hid hbx
        have HDL := Lib.hid (HD.out.1.lt)
        clear hst hbx hcl hct hM1 hX1 hE1 hD1 hF1 HE HM HD hB1 hLN
        go_wp2_with (go_at_call 88; refine (ready_any _ _ _ _ _).mono ?_; rintro e w' ⟨rfl, rfl⟩)
        refine (wpIn_wide (n := 9)).1 ?_
        rw [← hW1]
        clear hW1
        generalize hBf : wr.heap.size = Bf at *
        have hBfl : Bf < W1.heap.size := by omega
        refine wpIn_rangeFunc_ownG_of_H rfl (by omega) (gf := 112) (lb := #[.pointer (some ⟨Bf + 1, 0, none⟩), .pointer (some ⟨Bf + 1 + 1, 0, none⟩)]) rfl trivial (enters_of Try.func112 (by kernel_rfl) rfl)
          HST.out KeepE.t (KeepE.b (Nat.le_refl _)) (Below.refl _ _) (fun _ => rfl)
          (fun pre W => FrR W1 Bf (frP l s pre) W)
          (fun _ _ _ => False)
          (FrR.own hBfl)
          (fun _ _ _ _ _ hs _ _ => hs)
          HF1.out
          ?act ?assign ?body ?done ?stop (fun _ => KeepE.refl _ _ _)
        case assign =>
          intro yl z W K hK
          unfold encT
          gi_wp2
          exact hK
        case body =>
          intro yl pre z W hJ hlp
          obtain ⟨v, hbx, hown, hgW⟩ := hJ
          have hi : z % l.length < l.length := Nat.mod_lt _ hLp
          have hnx := frP_next l s pre z
          have hfl : (frP l s pre).length ≤ pre.length := by unfold frP; exact Nat.le_trans (List.length_filter_le ..) (by rw [List.length_map]; exact Nat.le_refl _)
          have hcon := HCON.out _ hi
          generalize hzi : z % l.length = i at *
          have hzz : (z : Int) % (l.length : Int) = (i : Int) := by rw [← hzi]; omega
          have hLW := HE1.out.grown hgW (fun r e => by injection e with e; omega)
          obtain ⟨b, off, rfl, hb0, hc1, hc2, hc3, A', q, cc, hc4, -, -, -⟩ := (HX.out.below hLW.bel).at_ i hi
          have q0 : W.cell? ⟨w.heap.size, 0, none⟩ = some (.slice (some ⟨b, off, none⟩) l.length cap) := hLW.cl
          have q1 : W.cell? ⟨Bb, 0, none⟩ = some (.map (some mb)) := hLW.cb
          have hlk : ∀ x : Same W.drew, (Instr.lookup 70 (.map (some mb)) (.string (tkA l i).nm) false).run Try.prog x.val = .ok (.bool (s.2.contains i)) x.val := fun x => by
            rw [x.h, ← hcon]
            exact MapV.run_bool (t := 70) (hLW.later (Below.refl _ _).drew).map lawS Try.underlying70 underBo (zeroBo _) (tkA l i).nm (keyS (HS.out.nm i hi))
          have hbW : Bf < W.heap.size := hbx.lt
          have hszW := hgW.size
          have i1 : (i : Int) < l.length := by omega
          have i2 : ¬ l.length ≤ i := by omega
          have hb1 : b < W.heap.size := by have := hLW.bel.size; omega
          have hcx := hbx.cell
          have hfx := hbx.frozen
          have HOW := Lib.hid hown
          have HBX := Lib.hid hbx
          have HGW := Lib.hid hgW
          have HBD : Hid (Boxed W.drew Bf 32 v) := HBX
          have HOD : Hid (W.drew.ownsRow W1.heap.size 3 1 v (frP l s pre).length (icells (iN (frP l s pre)))) := HOW
          have HNB : Hid (some Bf ≠ v.ownBlock) := Lib.hid (fun e => by have := (HOW.out.lt Bf e.symm).1; omega)
          generalize (tkA l i).nm = X at *
          clear hLW hc2 hc3 hc4 hown hbx hgW hcon HLN2 HLL
          cases hcc : s.2.contains i
          · rw [hcc] at hnx hlk
            rw [if_neg (by decide)] at hnx
            have HAP : Hid (icells (iN (frP l s pre)) ++ [.int .i64 (i : Int)] = icells (iN (frP l s (pre ++ [z])))) := Lib.hid (by rw [hnx, iN_app, icells_app]; rfl)
            have HNX := Lib.hid hnx
            clear hnx hcc
            gi_wp2
            (refine wpIn_round_same (by kernel_rfl) (by kernel_rfl) (by kernel_rfl) ?_; (repeat (go_big_quiet_step ((fail)))); refine wpQuiet_nil ?_)
            gi_wp2_with (gi_at_builtin; go_loud (refine wpListIn_append_own _ rfl (.tmp 83) (.tmp 85) 32 rfl W1.heap.size 3 j0 (.int .i64 0) 1 8 Try.underlying32 hI0.out hI1.out hI2.out hI3.out rfl (by decide) _ _ _ rfl (HOD.out.alloc _) ⟨W.heap.size, 0, none⟩ 1 1 [.int .i64 (i : Int)] rfl rfl (jnews1 _ _ _) (jone1 _) (by unfold maxLen; omega) (by omega) (by simp; omega) ?_); intro v8 w8 hown8 hgrow8 _; rw [HAP.out] at hown8; obtain ⟨A8, cap8, rfl, -, -, -, -⟩ := own_ints hown8; have hbx8 := (HBD.out.alloc _).kept hgrow8 HNB.out; have hcx8 := hbx8.cell; have hfx8 := hbx8.frozen)
            have hgA : W.grownBy w8 v.ownBlock := ((⟨rfl, rfl, rfl, Nat.le_refl _, fun _ _ _ => rfl⟩ : W.grownBy W.drew v.ownBlock).trans (World.grownBy_alloc _ _ _)).trans hgrow8
            have hks : KeepsOthers W w8 := KeepsOthers.of_grownBy hgA (fun j o hj ho => by
              cases hc : o.isCells with
              | true => rfl
              | false => exact absurd hj (own_cells HOW.out ho hc))
            have hR : w8.ownsRow W1.heap.size 3 1 (.slice A8 ((frP l s pre).length + 1) cap8) (frP l s (pre ++ [z])).length (icells (iN (frP l s (pre ++ [z])))) := by
              have : (frP l s (pre ++ [z])).length = (frP l s pre).length + 1 := by rw [HNX.out, List.length_append]; rfl
              rw [this]; exact hown8
            refine ⟨(hks.trans (KeepsOthers.setCell _ _ _)).from _, ⟨by rw [World.size_setCell]; exact hgA.size, fun k hk hne => ((grown_set w8 Bf 0 _).block k (by have := hgA.size; omega) (fun e => hne (by injection e))).trans (hgA.block k (by omega) (fun e => by have := (HOW.out.lt k e.symm).1; omega))⟩, _, hbx8.set _, hR.kept (grown_set w8 Bf 0 _) (.inr (fun e => by have := (hR.lt Bf e).1; omega)), (HGW.out.andThen hgA (fun r e => .inl (HOW.out.lt r e).1)).trans (grown_set w8 Bf 0 _)⟩
          · rw [hcc] at hnx hlk
            rw [if_pos rfl] at hnx
            have HNX := Lib.hid hnx
            clear hnx hcc
            gi_wp2
            (refine wpIn_round_same (by kernel_rfl) (by kernel_rfl) (by kernel_rfl) ?_; (repeat (go_big_quiet_step ((fail)))); refine wpQuiet_nil ?_)
            gi_wp2
            refine ⟨(KeepsOthers.drew W).from _, KeepE.of_below (Below.refl _ _).drew (by omega), v, HBX.out, ?_, HGW.out.trans ⟨rfl, rfl, rfl, Nat.le_refl _, fun _ _ _ => rfl⟩⟩
            rw [HNX.out]
            exact HOW.out
        case done =>
          rintro Dd ys W hDd rfl hJ hK
          rw [frP_rd HP.out s (d : Int)] at hJ
          obtain ⟨v, hbx, hown, hgW⟩ := hJ
          obtain ⟨A1, cap1, rfl, hq1, hq2, -, -⟩ := own_ints hown
          have hLW := HE1.out.grown hgW (fun r e => by injection e with e; omega)
          have hfl := freeL_len l s (d : Int)
          have hsz := hgW.size
          have hD1 : MarksAt W w.heap.size Ds := HD1.out.grown hgW (fun E hE e => by
            injection e with e
            subst e
            have h1 := HBX1.out
            unfold Boxed at h1
            rw [hE] at h1; cases h1)
          have hDW : MarksAt W w.heap.size (Dd :: Ds) := hD1.cons (fun h => by have := HDL.out Dd h; omega) (by have := hLW.bel.size; omega) hK
          have hcx := hbx.cell
          have hfs : isortV (latP l) (freeL l s (d : Int)) = (trn l).filter (rdD l s.1 s.2 (d : Int)) := free_sorted HP.out _
          have hnb : ∀ b, b < N → some b ≠ (Value.slice A1 (freeL l s (d : Int)).length cap1).ownBlock := fun b hb e => by have := (hown.lt b e.symm).1; omega
          have hnb2 : some Bf ≠ (Value.slice A1 (freeL l s (d : Int)).length cap1).ownBlock := fun e => by have := (hown.lt Bf e.symm).1; omega
          have hvb : ∀ r, (Value.slice A1 (freeL l s (d : Int)).length cap1).ownBlock = some r → W1.heap.size ≤ r := fun r e => (hown.lt r e).1
          have cs := stable_any W1.heap.size (freeL l s (d : Int)).length cap1 Bl gl l.length capl A1 (latP l) (freeL l s (d : Int)) W (by omega) (by omega) hown hLW.lat (hnb Bl (by omega)) (hnb gl (by omega)) (fun x hx => freeL_lt hx)
          have hfll : (isortV (latP l) (freeL l s (d : Int))).length = (freeL l s (d : Int)).length := isortV_len _ _
          have hflt : ∀ x ∈ isortV (latP l) (freeL l s (d : Int)), x < l.length := fun x hx => by
            rw [hfs, List.mem_filter] at hx; exact ((trn_is HP.out).mem x).1 hx.1
          have hday : ((isortV (latP l) (freeL l s (d : Int))).foldl (stP l (d : Int)) (LN, s)).2 = schN l c (d + 1) := by
            have h1 := dayP_eq (most := c) HP.out HR.out.inv HR.out.inv2 (by omega)
            rw [← HS0.out] at HLL ⊢
            rw [HLL.out]
            exact h1
          generalize hFS : isortV (latP l) (freeL l s (d : Int)) = fs at *
          generalize (freeL l s (d : Int)).length = nf at *
          have HMK : (({ target := .collected Dd, args := #[] } : Deferred) :: mkD Ds) = mkD (Dd :: Ds) := rfl
          have HLW := Lib.hid hLW
          have HDW := Lib.hid hDW
          have CS := Lib.hid cs
          have HFLL := Lib.hid hfll
          have HFLT := Lib.hid hflt
          have HDAY := Lib.hid hday
          have HNB2 := Lib.hid hnb2
          have HVB := Lib.hid hvb
          have HBXW := Lib.hid hbx
          have HNDF := Lib.hid (fun E (hE : W.heap[E]? = some (Obj.deferred (some []))) => own_not_def hown hE)
          clear hLW hDW hD1 hnb cs hfs hfll hflt hday hnb2 hvb hown hgW hbx HST HE1 HD1 HF1 hFS hK
          dsimp only
          rw [HMK]
          clear HMK
          go_wp2_with fail
          refine CS.out.mono ?_
          rintro e w3 ⟨rfl, ho3, hg3⟩
          have hL3 := HLW.out.grown hg3 (fun r e => by have := HVB.out r e; omega)
          have hD3 : MarksAt w3 w.heap.size (Dd :: Ds) := HDW.out.grown hg3 (fun E hE e => HNDF.out E hE e)
          have hcx3 := (HBXW.out.kept hg3 HNB2.out).cell
          have HO3 := Lib.hid ho3
          have HL3 := Lib.hid hL3
          have HD3 := Lib.hid hD3
          clear hcx ho3 hg3 hL3 hD3 CS HLW HDW HBXW
          go_wp2_with fail
          have hQ0 : (fs.take 0).foldl (stP l (d : Int)) (LN, s) = (LN, s) := rfl
          have hQn := fun k (hk : k < fs.length) => stP_take (l := l) (d := (d : Int)) (q := (LN, s)) hk
          have hQb := fun k (hk : k ≤ fs.length) => stP_take_bd HP.out (d := (d : Int)) (q := (LN, s)) HFLT.out hk
          have hQe : (fs.take nf).foldl (stP l (d : Int)) (LN, s) = fs.foldl (stP l (d : Int)) (LN, s) := by rw [← HFLL.out, List.take_length]
          have hLN1 := HLN2.out
          obtain ⟨Q, hQ⟩ : ∃ Q : Nat → Int × Sc, Q = fun k => (fs.take k).foldl (stP l (d : Int)) (LN, s) := ⟨_, rfl⟩
          have HQ0 : Hid (Q 0 = (LN, s)) := Lib.hid (by rw [hQ]; rfl)
          have HQN : Hid (∀ k (hk : k < fs.length), Q (k + 1) = stP l (d : Int) (Q k) fs[k]) := Lib.hid (by rw [hQ]; exact hQn)
          have HQB : Hid (∀ k, k ≤ fs.length → ((Q k).1 ≤ LN ∧ LN - 16 * k ≤ (Q k).1) ∧ (Q k).2.2.length ≤ s.2.length + k) := Lib.hid (by rw [hQ]; exact hQb)
          have HQE : Hid ((Q nf).2 = schN l c (d + 1)) := Lib.hid (by rw [hQ]; dsimp only; rw [hQe]; exact HDAY.out)
          clear hQ hQ0 hQn hQb hQe HDAY
          go_loopw [92, 11] (fun i lf W => ∃ k : Nat, k ≤ nf ∧ i = .int .i64 (k : Int) ∧ lf = .int .i64 (Q k).1 ∧ Hid (LsR A cap l w N Bl gl capl go mb Bb (Q k).2 W) ∧ Hid (W.ownsRow W1.heap.size 3 1 (.slice A1 nf cap1) nf (icells (iN fs))) ∧ Hid (MarksAt W w.heap.size (Dd :: Ds))) (fun i _ _ => nf - (intOf i).toNat)
          case atStart => exact ⟨0, Nat.zero_le _, rfl, by rw [HQ0.out], Lib.hid (by rw [HQ0.out]; exact HL3.out), HO3, HD3⟩
          case round =>
            clear HL3 HO3 HD3 hcx3 HQ0
            obtain ⟨k, hk, rfl, rfl, HE, HO, HD⟩ := hrel
            by_cases hlt : k < nf
            · have hko : k < fs.length := by rw [HFLL.out]; exact hlt
              obtain ⟨A5, cap5, he, -, -, hI5, -⟩ := own_ints HO.out
              injection he with he1 he2 he3
              subst he1 he3
              obtain ⟨b5, off5, rfl, hb5, hc5⟩ := hI5.at_ k hlt
              change wr.cell? _ = some (.int .i64 (gI (iN fs) k)) at hc5
              rw [iN_at hko] at hc5
              have hn := HQN.out k hko
              have hb := HQB.out k (by omega)
              have hil := HFLT.out fs[k] (List.getElem_mem hko)
              generalize fs[k] = i at *
              obtain ⟨b, off, rfl, hb0, hc1, hc2, hc3, A', q, cc, hc4, -, -, -⟩ := (HX.out.below HE.out.bel).at_ i hil
              have hmb2 := mnA_bd HP.out hil
              have hUP := nms_upd (l := l) (out := (Q k).2.2) (i := i)
              unfold stP mnA at hn
              unfold mnA at hmb2
              have HSZ := Lib.hid (HS.out.nm i hil)
              have hgc := (jown_at HE.out.out).2.2.1 i hil
              have hgf := (jown_at HE.out.out).2.2.2 i
              have hwN := HE.out.ord.2.2
              have q0 : wr.cell? ⟨w.heap.size, 0, none⟩ = some (.slice (some ⟨b, off, none⟩) l.length cap) := HE.out.cl
              have q1 : wr.cell? ⟨Bb, 0, none⟩ = some (.map (some mb)) := HE.out.cb
              have k1 : (k : Int) < nf := by omega
              have k2 : ¬ nf ≤ k := by omega
              have i1 : (i : Int) < l.length := by omega
              have i2 : ¬ l.length ≤ i := by omega
              have hbs := HE.out.bel.size
              have hb1 : b < wr.heap.size := by omega
              have HUP := Lib.hid hUP
              generalize (tkA l i).nm = X at *
              generalize (tkA l i).mn = Z at *
              have hbl := hb.2
              have hb2 := hb.1
              generalize hLF : (Q k).1 = LF at *
              have HLF2 := Lib.hid hLF
              clear hLF
              by_cases hz : Z ≤ LF
              · rw [if_pos hz] at hn
                have HN := Lib.hid hn
                have hwz : wrap64 (LF - Z) = LF - Z := IntWalk.wrap64_in _ ⟨by omega, by omega⟩
                have HST := Lib.hid (HE.out.store i (d : Int))
                have HGO := Lib.hid (fun E (hE : wr.heap[E]? = some (Obj.deferred (some []))) => own_not_def HE.out.out hE)
                clear hn hI5 hUP hb hc2 hc4 HE
                go_wp2_with fail
                obtain ⟨W4, hW4⟩ : ∃ W4, W4 = wr.setCell ⟨go, i, none⟩ (.int .i64 (d : Int)) := ⟨_, rfl⟩
                rw [← hW4] at HST ⊢
                have hg4 : wr.grownBy W4 (some go) := by rw [hW4]; exact grown_set wr go i _
                have p0 : W4.cell? ⟨w.heap.size, 0, none⟩ = some (.slice (some ⟨b, off, none⟩) l.length cap) := HST.out.cl
                have p1 : W4.cell? ⟨Bb, 0, none⟩ = some (.map (some mb)) := HST.out.cb
                have p2 := (World.cell?_of_block (a := ⟨b, off + i * 4, none⟩) (hg4.block b hb1 (fun e => by injection e with e; omega))).trans hc1
                have HO4 := Lib.hid (HO.out.kept hg4 (.inr (fun e => by have := (HO.out.lt go e).1; omega)))
                have HD4 := Lib.hid (HD.out.grown hg4 (fun E hE e => HGO.out E hE e))
                have hb4 : b < W4.heap.size := by have := hg4.size; omega
                have HMD : Hid (MapS W4.drew mb (Q k).2.2.length (nmsOf l (Q k).2.2)) := Lib.hid (HST.out.map.below (Below.refl _ _).drew)
                have HNDM := Lib.hid (fun E (hE : W4.drew.heap[E]? = some (Obj.deferred (some []))) => map_not_def HMD.out hE)
                have hmN : mb < N := by omega
                have hNW : N ≤ W1.heap.size := by omega
                clear hW4 hg4 hc1 hgc hgf q0 q1 hc5 hb5 HO HD HGO
                (refine wp_region_tail 6 (by kernel_rfl) (by kernel_rfl) ?_; simp only [List.take_succ_cons, List.take_zero, List.drop_succ_cons, List.drop_zero]; (repeat (go_big_quiet_step ((fail)))); refine wpQuiet_nil ?_)
                go_wp2_with (at_mapUpdate; refine wpList_mapv_put (κ := ByteArray) rfl (.tmp 114) (.tmp 119) (.const (.bool true)) 70 rfl lawS Try.underlying70 (fun _ _ => slit_inj) (fun _ => trivial) rfl HMD.out (by unfold maxLen; omega) X true _ _ rfl rfl (keyS HSZ.out) (plainElem_bool underBo true) ?_; intro w6 hM6 hg6; go_frame)
                have hL6 : LsR (some ⟨b, off, none⟩) cap l w N Bl gl capl go mb Bb ((Q k).2.1.set i (d : Int), (Q k).2.2 ++ [i]) w6 := (HST.out.later (Below.refl _ _).drew).put (by
                  rw [List.length_append, ← HUP.out]; exact hM6) hg6
                have HO6 : Hid (w6.ownsRow W1.heap.size 3 1 (.slice (some ⟨b5, off5, none⟩) nf cap1) nf (icells (iN fs))) := Lib.hid ((jown_later HO4.out (Below.refl _ _).drew).kept hg6 (.inr (fun e => by have := (HO4.out.lt mb e).1; omega)))
                have HD6 : Hid (MarksAt w6 w.heap.size (Dd :: Ds)) := Lib.hid ((HD4.out.later (Below.refl _ _).drew HD4.out.lt).grown hg6 (fun E hE e => HNDM.out E hE (by injection e)))
                have HL6 := Lib.hid hL6
                clear hL6 hM6 hg6
                go_roundw
                case rel => exact ⟨k + 1, by omega, by go_num, by rw [HN.out], Lib.hid (by rw [HN.out]; exact HL6.out), HO6, HD6⟩
                case measure => simp [intOf]; omega
              · rw [if_neg hz] at hn
                have HN := Lib.hid hn
                clear hn hI5 hUP hb hc2 hc4
                go_wp2
                go_roundw
                case rel => exact ⟨k + 1, by omega, by go_num, by rw [HN.out, HLF2.out], Lib.hid (by rw [HN.out]; exact HE.out), HO, HD⟩
                case measure => simp [intOf]; omega
            · have hkn : k = nf := by omega
              subst hkn
              have k1 : ¬ (k : Int) < k := by omega
              have HF : Hid (LsR A cap l w N Bl gl capl go mb Bb (schN l c (d + 1)) wr) := Lib.hid (by rw [← HQE.out]; exact HE.out)
              have hwd : wrap64 ((d : Int) + 1) = (d : Int) + 1 := IntWalk.wrap64_in _ ⟨by omega, by omega⟩
              have hRn := HR.out.next HP.out HCM.out (by rw [show schK l c (trn l) d = s from HS0.out]; exact hfull)
              have HRN := Lib.hid hRn
              clear hRn HE
              clear HQN HQB HQE HNDF HNB2 HVB HFLT HFLL HLN2 hLN1 HLL HS0 HSL HEN HLN HLF HEAR HCON HDL HBX1 HO HCM HS HX hI0 hI1 hI2 hI3 hmm hmf
              clear hwd
              go_wp2_with fail
              have hcast : ((d : Int) + 1) = ((d + 1 : Nat) : Int) := by omega
              rw [hcast]
              exact ⟨m - 1, by omega, LsI.mk (d + 1) (Dd :: Ds) (by omega) HRN.out HF.out HD.out⟩
        case stop =>
          rintro D c pre W _ _ h _
          exact h.elim
  · have hf1 : ¬ ((schN l c d).2.length : Int) < l.length := by omega
    have HF : Hid (wr.ownsRow w.heap.size 3 1 (.slice (some ⟨go, 0, none⟩) l.length l.length) (LST l c).length (icells (LST l c))) := Lib.hid (by
      have h1 := sch_done HP.out HR.out hfull
      have h2 := jown_lt HE.out.out
      have h3 := HE.out.out
      rw [h1] at h2 h3
      rw [h2]; exact h3)
    go_wp2_with (at_len; refine wpList_len_own wr rfl (.tmp 31) 70 rfl 9 4 Try.underlying70 _ mb _ D rfl HOWN.out ?_; rw [HSZ.out])
    refine leaves_marks HD.out fun W' hW' => ?_
    exact ⟨.tuple #[.slice (some ⟨go, 0, none⟩) l.length l.length, .int .i64 0], by simp [results, Try.results45, go_sem], ⟨_, rfl, hW'.owns HD.out HF.out⟩, HE.out.bel.trans (hW'.below HD.out)⟩

set_option maxHeartbeats 4000000 in
theorem listed_any (A : Option Addr) (len cap : Nat) (l : List Tk) (c : Int) (w : World) (hS : Sml l) (h9 : checkE l = 0 → l.length ≤ 9) (hx : Plan w w.heap.size A len l) :
    Calls Try.prog 45 #[.slice A len cap, .int .i64 c] w fun e w' => (∃ v, e = .returned (.tuple #[v, .int .i64 (crewE l c)]) ∧ w'.ownsRow w.heap.size 3 1 v (lstX l c).length (icells (lstX l c))) ∧ Below w.heap.size w w' := by
  by_cases hE : crewE l c = 0
  · rw [show lstX l c = LST l c from if_pos hE, hE]
    exact listed_ok A len cap l c w hS (h9 (crew_ok hE).1) hE hx
  · rw [show lstX l c = [] from if_neg hE]
    have c1 := fun W (h : Below w.heap.size w W) => crewed_any A len cap l c W hS (hx.go h)
    have hne : (crewE l c == 0) = false := by simpa using hE
    generalize crewE l c = E at *
    have C1 := Lib.hid c1
    clear c1 hE hx hS h9
    go_enter Try.func45, Try.ntmps45
    go_wp2_with fail
    refine (C1.out _ (by repeat (first | exact Below.refl _ _ | assumption | refine Below.setCell ?_ (by first | (simp; done) | (simp; omega) | omega) _ | refine Below.drew ?_ | refine below_drewN ?_ _ | refine Below.alloc ?_ (by first | (simp; done) | (simp; omega) | omega) _ | refine below_alloc ?_ _ | refine below_step ?_ (by assumption)))).mono ?_
    rintro e w1 ⟨rfl, hb⟩
    have HB : Hid (Below w.heap.size w w1) := Lib.hid (by repeat (first | exact Below.refl _ _ | assumption | refine Below.setCell ?_ (by first | (simp; done) | (simp; omega) | omega) _ | refine Below.drew ?_ | refine below_drewN ?_ _ | refine Below.alloc ?_ (by first | (simp; done) | (simp; omega) | omega) _ | refine below_alloc ?_ _ | refine below_step ?_ (by assumption)))
    clear hb
    go_wp2_with fail
    go_ret2
    exact ⟨⟨.slice none 0 0, rfl, World.ownsRow_nil _ _ _ _⟩, HB.out⟩
end Go.Proofs.Ytgijekhlbkfanaa
