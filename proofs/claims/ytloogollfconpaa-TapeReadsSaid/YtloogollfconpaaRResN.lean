/- Joined by merge.py from: RefA RefP RefB RefC RefD SumM RSum RefJ RCur1 BalM RCur2. -/
import Derived.Test.YtloogollfconpaaMake2
import Derived.Test.YtloogollfconpaaPartM
import Derived.Test.YtloogollfconpaaMix
import Derived.OwnWalk
import Derived.Laws.OwnMore
import Derived.Deep.DeepCutAuto
import Derived.Test.YtloogollfconpaaNetV
import Derived.Test.YtloogollfconpaaTreesM
import Derived.Test.YtloogollfconpaaSeriesM
import Derived.Test.YtloogollfconpaaCurL
set_option linter.unusedSimpArgs false
set_option linter.unusedVariables false
namespace Go.Proofs.Ytloogollfconpaa
open Go.RowKit
attribute [local go_sem] Later.cell Same.cell

set_option maxHeartbeats 1000000 in
theorem rsound_any (n a b o : Int) (w : World) :
    Calls Try.prog 45 #[.int .i64 n, .agg #[.int .i64 a, .int .i64 b, .int .i64 o]] w fun e w' => e = .returned (.bool (vT n (a, b, o))) ∧ Below w.heap.size w w' := by
  have hv : vT n (a, b, o) = (decide (0 ≤ a) && (decide (a < b) && (decide (b < n) && withinB o 1 60))) := rfl
  generalize vT n (a, b, o) = V at *
  by_cases h1 : 0 ≤ a
  · by_cases h2 : a < b
    · by_cases h3 : b < n
      · have hf : Hid (V = withinB o 1 60) := Lib.hid (by rw [hv, decide_eq_true h1, decide_eq_true h2, decide_eq_true h3]; rfl)
        clear hv
        go_enter Try.func45, Try.ntmps45
        go_wp2_with (go_at_call 30; refine (uwithin_any _ _ _ _).mono ?_; rintro e w' ⟨rfl, rfl⟩)
        go_ret
        exact ⟨ret_bool hf.out.symm, (by repeat (first | exact Below.refl _ _ | assumption | refine Below.setCell ?_ (by first | (simp; done) | (simp; omega) | omega) _ | refine Below.drew ?_ | refine below_drewN ?_ _ | refine Below.alloc ?_ (by first | (simp; done) | (simp; omega) | omega) _ | refine below_alloc ?_ _ | refine below_step ?_ (by assumption)))⟩
      · have hf : Hid (V = false) := Lib.hid (by rw [hv, decide_eq_false h3]; simp)
        have h3' : decide (b < n) = false := decide_eq_false h3
        clear hv
        go_enter Try.func45, Try.ntmps45
        go_wp2
        go_ret
        exact ⟨ret_bool hf.out.symm, (by repeat (first | exact Below.refl _ _ | assumption | refine Below.setCell ?_ (by first | (simp; done) | (simp; omega) | omega) _ | refine Below.drew ?_ | refine below_drewN ?_ _ | refine Below.alloc ?_ (by first | (simp; done) | (simp; omega) | omega) _ | refine below_alloc ?_ _ | refine below_step ?_ (by assumption)))⟩
    · have hf : Hid (V = false) := Lib.hid (by rw [hv, decide_eq_false h2]; simp)
      have h2' : decide (a < b) = false := decide_eq_false h2
      clear hv
      go_enter Try.func45, Try.ntmps45
      go_wp2
      go_ret
      exact ⟨ret_bool hf.out.symm, (by repeat (first | exact Below.refl _ _ | assumption | refine Below.setCell ?_ (by first | (simp; done) | (simp; omega) | omega) _ | refine Below.drew ?_ | refine below_drewN ?_ _ | refine Below.alloc ?_ (by first | (simp; done) | (simp; omega) | omega) _ | refine below_alloc ?_ _ | refine below_step ?_ (by assumption)))⟩
  · have hf : Hid (V = false) := Lib.hid (by rw [hv, decide_eq_false h1]; rfl)
    have h1' : decide (0 ≤ a) = false := decide_eq_false h1
    clear hv
    go_enter Try.func45, Try.ntmps45
    go_wp2
    go_ret
    exact ⟨ret_bool hf.out.symm, (by repeat (first | exact Below.refl _ _ | assumption | refine Below.setCell ?_ (by first | (simp; done) | (simp; omega) | omega) _ | refine Below.drew ?_ | refine below_drewN ?_ _ | refine Below.alloc ?_ (by first | (simp; done) | (simp; omega) | omega) _ | refine below_alloc ?_ _ | refine below_step ?_ (by assumption)))⟩
theorem all_no {l : List Tp} {p : Tp → Bool} {k : Nat} (hk : k < l.length) (h : p (tpA l k) = false) : l.all p = false := by
  refine List.all_eq_false.2 ⟨l[k], List.getElem_mem hk, ?_⟩
  unfold tpA at h; rw [List.getElem?_eq_getElem hk] at h
  simpa using h
set_option maxRecDepth 20000 in
set_option maxHeartbeats 2000000 in
theorem rValid_any (n : Int) (A : Option Addr) (len cap : Nat) (l : List Tp) (w : World) (hm : len ≤ 9223372036854775807) (hx : Rows 3 int3 (0,0,0) w w.heap.size A len l) :
    Calls Try.prog 28 #[.int .i64 n, .slice A len cap] w fun e w' => e = .returned (.bool (vNet n l)) ∧ Below w.heap.size w w' := by
  have hv : vNet n l = (withinB n 1 6 && (decide (l.length ≤ 10) && l.all (vT n))) := rfl
  rw [hx.1] at hv
  have c1 := fun W => uwithin_any n 1 6 W
  cases h1 : withinB n 1 6
  · rw [h1] at c1 hv
    have hf : Hid (vNet n l = false) := Lib.hid hv
    have C1 := Lib.hid c1
    clear c1 hv hx h1
    go_enter Try.func28, Try.ntmps28
    go_wp2_with (go_at_call 30; refine (C1.out _).mono ?_; rintro e w' ⟨rfl, rfl⟩)
    go_ret
    exact ⟨ret_bool hf.out.symm, (by repeat (first | exact Below.refl _ _ | assumption | refine Below.setCell ?_ (by first | (simp; done) | (simp; omega) | omega) _ | refine Below.drew ?_ | refine below_drewN ?_ _ | refine Below.alloc ?_ (by first | (simp; done) | (simp; omega) | omega) _ | refine below_alloc ?_ _ | refine below_step ?_ (by assumption)))⟩
  · rw [h1] at c1 hv
    rw [Bool.true_and] at hv
    by_cases h2 : len ≤ 10
    · rw [decide_eq_true h2, Bool.true_and] at hv
      have h2' : decide ((10 : Int) < len) = false := decide_eq_false (by omega)
      have HV := Lib.hid hv
      have HX := Lib.hid hx
      have C1 := Lib.hid c1
      clear c1 hx h1 hv
      go_enter Try.func28, Try.ntmps28
      go_wp2_with (go_at_call 30; refine (C1.out _).mono ?_; rintro e w' ⟨rfl, rfl⟩)
      go_loopw [5] (fun i wr => ∃ k : Nat, k ≤ len ∧ i = .int .i64 k ∧ Hid ((l.take k).all (vT n) = true) ∧ Below w.heap.size w wr) (fun i _ => len - (intOf i).toNat)
      case atStart => exact ⟨0, Nat.zero_le _, rfl, Lib.hid rfl, Below.refl _ _⟩
      case round =>
        obtain ⟨k, hk, rfl, hT, hb⟩ := hrel
        by_cases hlt : k < len
        · obtain ⟨b, off, rfl, hb0, hc1, hc2, hc3⟩ := rows_tp (HX.out.below hb) k hlt
          have hkl : k < l.length := by rw [HX.out.1]; exact hlt
          have HY := Lib.hid (fun h2 => all_take_snoc (l := l) (k := k) hkl hT.out h2)
          have HN := Lib.hid (fun h2 => all_no (l := l) (k := k) (p := vT n) hkl h2)
          have c2 := fun W => rsound_any n (tpA l k).1 (tpA l k).2.1 (tpA l k).2.2 W
          change ∀ W, Calls _ _ _ _ (fun e w' => e = .returned (.bool (vT n (tpA l k))) ∧ _) at c2
          have hk1 : (k : Int) < len := by omega
          cases hv : vT n (tpA l k)
          · have h4 : Hid (vNet n l = false) := Lib.hid (by rw [HV.out]; exact HN.out hv)
            rw [hv] at c2
            have C2 := Lib.hid c2
            generalize tpA l k = T at *
            clear c2 hv
            go_wp2_with fail
            refine (C2.out _).mono ?_
            rintro e w1 ⟨rfl, hb1⟩
            go_wp2
            go_ret
            exact ⟨ret_bool h4.out.symm, below_step hb hb1⟩
          · have h4 := Lib.hid (HY.out hv)
            rw [hv] at c2
            have C2 := Lib.hid c2
            generalize tpA l k = T at *
            clear c2 hv
            go_wp2_with fail
            refine (C2.out _).mono ?_
            rintro e w1 ⟨rfl, hb1⟩
            go_wp2
            go_roundw
            case rel => exact ⟨k + 1, by omega, by go_num, h4, below_step hb hb1⟩
            case measure => simp [intOf]; omega
        · have hfin : Hid (vNet n l = true) := Lib.hid (by rw [HV.out]; have := hT.out; rwa [List.take_of_length_le (by rw [HX.out.1]; omega)] at this)
          go_wp2
          go_ret
          exact ⟨ret_bool hfin.out.symm, hb⟩
    · rw [decide_eq_false h2, Bool.false_and] at hv
      have hf : Hid (vNet n l = false) := Lib.hid hv
      have C1 := Lib.hid c1
      have h2' : decide ((10 : Int) < len) = true := decide_eq_true (by omega)
      clear c1 hv hx h1
      go_enter Try.func28, Try.ntmps28
      go_wp2_with (go_at_call 30; refine (C1.out _).mono ?_; rintro e w' ⟨rfl, rfl⟩)
      go_ret
      exact ⟨ret_bool hf.out.symm, (by repeat (first | exact Below.refl _ _ | assumption | refine Below.setCell ?_ (by first | (simp; done) | (simp; omega) | omega) _ | refine Below.drew ?_ | refine below_drewN ?_ _ | refine Below.alloc ?_ (by first | (simp; done) | (simp; omega) | omega) _ | refine below_alloc ?_ _ | refine below_step ?_ (by assumption)))⟩
set_option maxHeartbeats 2000000 in
theorem pairE_any (n : Int) (A : Option Addr) (len cap : Nat) (l : List Tp) (a b : Int) (w : World) (hm : len ≤ 9223372036854775807) (hx : Rows 3 int3 (0,0,0) w w.heap.size A len l) :
    Calls Try.prog 29 #[.int .i64 n, .slice A len cap, .int .i64 a, .int .i64 b] w fun e w' => e = .returned (.int .i64 (askE n l [a, b])) ∧ Below w.heap.size w w' := by
  have c1 := rValid_any n A len cap l w hm hx
  have hE : askE n l [a, b] = if vNet n l then (if (withinB a 0 (n - 1) && withinB b 0 (n - 1)) then 0 else 7) else 1 := by unfold askE allW; simp only [List.all_cons, List.all_nil, Bool.and_true]
  cases hv : vNet n l
  · rw [hv] at c1 hE
    change askE n l [a, b] = 1 at hE
    rw [hE]
    have C1 := Lib.hid c1
    clear c1 hx hE hv
    go_enter Try.func29, Try.ntmps29
    go_wp2_with fail
    refine C1.out.mono ?_
    rintro e w1 ⟨rfl, hb⟩
    go_wp2
    go_ret
    exact ⟨rfl, hb⟩
  · have hn := (vNet_spec hv).1
    rw [hv, if_pos rfl] at hE
    rw [hv] at c1
    have hwn : IntKind.i64.wrap (n - 1) = n - 1 := IntWalk.i64_in _ (by omega)
    have c2 := fun W => uwithin_any a 0 (n - 1) W
    have c3 := fun W => uwithin_any b 0 (n - 1) W
    cases h2 : withinB a 0 (n - 1)
    · rw [h2] at hE c2
      change askE n l [a, b] = 7 at hE
      rw [hE]
      have C1 := Lib.hid c1
      have C2 := Lib.hid c2
      clear c1 c2 c3 hx hE hv h2
      go_enter Try.func29, Try.ntmps29
      go_wp2_with fail
      refine C1.out.mono ?_
      rintro e w1 ⟨rfl, hb⟩
      go_wp2_with (go_at_call 30; refine (C2.out _).mono ?_; rintro e w' ⟨rfl, rfl⟩)
      go_ret
      exact ⟨rfl, hb⟩
    · cases h3 : withinB b 0 (n - 1)
      · rw [h2, h3] at hE
        rw [h2] at c2
        rw [h3] at c3
        change askE n l [a, b] = 7 at hE
        rw [hE]
        have C1 := Lib.hid c1
        have C2 := Lib.hid c2
        have C3 := Lib.hid c3
        clear c1 c2 c3 hx hE hv h2 h3
        go_enter Try.func29, Try.ntmps29
        go_wp2_with fail
        refine C1.out.mono ?_
        rintro e w1 ⟨rfl, hb⟩
        go_wp2_with fail
        refine (C2.out _).mono ?_
        rintro e w' ⟨rfl, rfl⟩
        go_wp2_with fail
        refine (C3.out _).mono ?_
        rintro e w' ⟨rfl, rfl⟩
        go_wp2
        go_ret
        exact ⟨rfl, hb⟩
      · rw [h2, h3] at hE
        rw [h2] at c2
        rw [h3] at c3
        change askE n l [a, b] = 0 at hE
        rw [hE]
        have C1 := Lib.hid c1
        have C2 := Lib.hid c2
        have C3 := Lib.hid c3
        clear c1 c2 c3 hx hE hv h2 h3
        go_enter Try.func29, Try.ntmps29
        go_wp2_with fail
        refine C1.out.mono ?_
        rintro e w1 ⟨rfl, hb⟩
        go_wp2_with fail
        refine (C2.out _).mono ?_
        rintro e w' ⟨rfl, rfl⟩
        go_wp2_with fail
        refine (C3.out _).mono ?_
        rintro e w' ⟨rfl, rfl⟩
        go_wp2
        go_ret
        exact ⟨rfl, hb⟩
end Go.Proofs.Ytloogollfconpaa

namespace Go.Proofs.Ytloogollfconpaa
open Go.RowKit
attribute [local go_sem] Later.cell Same.cell

/-- Worlds that are later than w but for block g. -/
structure Off (w : World) (g : Nat) where
  val : World
  h : w.grownBy val (some g)
instance offSome (w : World) (g : Nat) : Nonempty (Off w g) := ⟨⟨w, rfl, rfl, rfl, Nat.le_refl _, fun _ _ _ => rfl⟩⟩
theorem Off.cell {w : World} {g : Nat} (x : Off w g) (b o : Nat) (hb : b < w.heap.size) (hne : ¬ b = g) : x.val.cell? ⟨b, o, none⟩ = w.cell? ⟨b, o, none⟩ := by
  have := x.h.block b hb (fun e => hne (Option.some.inj e))
  simp [World.cell?, this]
theorem wp_region_off {P : Program} {id : Nat} {Q : Exit → Act → World → Prop} {a : Act} {w : World} {l : List Oper} (g : Nat) (hm : P.follows .mixedOrders = true) (hg : noGuard l.toArray = true)
    (h : wpC P .any l.toArray (fun W => ∃ x : Off w g, W = x.val) Q l.length (Array.replicate l.length false) a w.drew) : (Code.region id l.toArray true).wp P Q a w :=
  wp_region_any hm (wpC_any hg _ _ _ _ (by simpa using h))
theorem off_set {w W : World} {g : Nat} (h : w.grownBy W (some g)) (o : Nat) (v : Value) : w.grownBy (W.setCell ⟨g, o, none⟩ v) (some g) :=
  ⟨h.os, h.tape, h.output, by simpa using h.size, fun k hk hne => (heap_setCell_other W ⟨g, o, none⟩ k v (fun e => hne (by simp [e]))).trans (h.block k hk hne)⟩
theorem off_drew {w W : World} {g : Nat} (h : w.grownBy W (some g)) : w.grownBy W.drew (some g) := ⟨h.os, h.tape, h.output, h.size, h.block⟩
theorem off_refl (w : World) (g : Nat) : w.grownBy w (some g) := ⟨rfl, rfl, rfl, Nat.le_refl _, fun _ _ _ => rfl⟩
attribute [local go_sem] Off.cell
def bcells (S : List Bool) : List Value := S.map Value.bool
theorem bcells_len (S : List Bool) : (bcells S).length = S.length * 1 := by simp [bcells]
theorem bcells_set (S : List Bool) (i : Nat) (v : Bool) : (bcells S).set i (.bool v) = bcells (S.set i v) := by simp [bcells, List.map_set]
theorem own_bools {w : World} {base : Nat} {e : TypeId} {v : Value} {n : Nat} {S : List Bool} (h : w.ownsRow base e 1 v n (bcells S)) (hn : 0 < n) :
    ∃ g cap, v = .slice (some ⟨g, 0, none⟩) n cap ∧ n ≤ cap ∧ base ≤ g ∧ g < w.heap.size ∧ S.length = n ∧ (∀ o, w.frozen? ⟨g, o, none⟩ = false) ∧ ∀ x : Int, 0 ≤ x → x < n → w.cell? ⟨g, x.toNat, none⟩ = some (.bool (sB S x)) := by
  obtain ⟨h1, h2⟩ := h
  rw [bcells_len] at h1
  rcases h2 with ⟨rfl, rfl⟩ | ⟨g, cap, cur, rfl, hb, hg, hnc, hm, hcs, ht⟩
  · omega
  · have hlt : g < w.heap.size := (Array.getElem?_eq_some_iff.1 hg).1
    refine ⟨g, cap, rfl, hnc, hb, hlt, by omega, fun o => by simp [World.frozen?, hg], fun x h0 hx => ?_⟩
    have : (bcells S)[x.toNat]? = some (.bool (sB S x)) := by
      have hl : x.toNat < S.length := by omega
      simp [bcells, sB, List.getElem?_eq_getElem hl]
    rw [← ht] at this
    simp only [World.cell?, hg]
    rw [List.getElem?_take] at this
    split at this
    · simpa using this
    · cases this
theorem own_bools_at {w : World} {base : Nat} {e : TypeId} {g n cap : Nat} {S : List Bool} (h : w.ownsRow base e 1 (.slice (some ⟨g, 0, none⟩) n cap) n (bcells S)) {x : Int} (h0 : 0 ≤ x) (hx : x < n) : w.cell? ⟨g, x.toNat, none⟩ = some (.bool (sB S x)) ∧ w.frozen? ⟨g, x.toNat, none⟩ = false := by
  obtain ⟨g', cp, hv, -, hgb, hglt, -, hfr, hce⟩ := own_bools h (by omega)
  injection hv with e1 e2 e3
  injection e1 with e1
  injection e1 with e1 _ _
  subst e1 e3
  exact ⟨hce x h0 hx, hfr _⟩
theorem info_bool : (Try.prog.info? 4).map (fun i => (i.zero, i.size, i.bytes)) = some (some (.bool false), 1, 1) := by kernel_rfl
theorem pass_snoc {l : List Tp} {j : Nat} (hj : j < l.length) (S : List Bool) : pass (l.take (j + 1)) S = addT (pass (l.take j) S) (tpA l j) := by
  unfold pass
  rw [take_snoc hj, List.foldl_append]; rfl
def PaO (w : World) (g N : Nat) (l : List Tp) (a : Int) (i : Value) (W : World) : Prop := ∃ k : Nat, k ≤ N ∧ i = .int .i64 k ∧ W.ownsRow w.heap.size 4 1 (.slice (some ⟨g, 0, none⟩) N N) N (bcells (passes l k (part0 N a))) ∧ Below w.heap.size w W
theorem PaO.mk {w : World} {g N : Nat} {l : List Tp} {a : Int} {i : Value} {W : World} (k : Nat) (h1 : k ≤ N) (h2 : i = .int .i64 k) (h3 : W.ownsRow w.heap.size 4 1 (.slice (some ⟨g, 0, none⟩) N N) N (bcells (passes l k (part0 N a)))) (h4 : Below w.heap.size w W) : PaO w g N l a i W := ⟨k, h1, h2, h3, h4⟩
def PaI (w : World) (g N n : Nat) (l : List Tp) (S : List Bool) (i : Value) (W : World) : Prop := ∃ j : Nat, j ≤ n ∧ i = .int .i64 j ∧ W.ownsRow w.heap.size 4 1 (.slice (some ⟨g, 0, none⟩) N N) N (bcells (pass (l.take j) S)) ∧ Below w.heap.size w W
theorem PaI.mk {w : World} {g N n : Nat} {l : List Tp} {S : List Bool} {i : Value} {W : World} (j : Nat) (h1 : j ≤ n) (h2 : i = .int .i64 j) (h3 : W.ownsRow w.heap.size 4 1 (.slice (some ⟨g, 0, none⟩) N N) N (bcells (pass (l.take j) S))) (h4 : Below w.heap.size w W) : PaI w g N n l S i W := ⟨j, h1, h2, h3, h4⟩
theorem mk_part {w w1 : World} {N : Nat} {a : Int} (ho1 : w1.ownsRow w.heap.size 4 1 (.slice (some ⟨w.heap.size, 0, none⟩) N N) N (madeCells (Value.bool false).cells (N * 1)).toList) (hg1 : w.grownBy w1 none) (ha : 0 ≤ a ∧ a < N) :
    w1.cell? ⟨w.heap.size, a.toNat, none⟩ = some (.bool (sB (List.replicate N false) a)) ∧ w1.frozen? ⟨w.heap.size, a.toNat, none⟩ = false ∧
    (w1.setCell ⟨w.heap.size, a.toNat, none⟩ (.bool true)).ownsRow w.heap.size 4 1 (.slice (some ⟨w.heap.size, 0, none⟩) N N) N (bcells (part0 N a)) ∧ Below w.heap.size w (w1.setCell ⟨w.heap.size, a.toNat, none⟩ (.bool true)) := by
  have hb1 : Below w.heap.size w w1 := grown_below hg1 (Nat.le_refl _) (fun k hk => by cases hk)
  have ho2 : w1.ownsRow w.heap.size 4 1 (.slice (some ⟨w.heap.size, 0, none⟩) N N) N (bcells (List.replicate N false)) := by
    have := ho1
    rw [show (madeCells (Value.bool false).cells (N * 1)).toList = bcells (List.replicate N false) by rw [Nat.mul_one]; exact (toList_madeCells_one (.bool false) N).trans (by simp [bcells])] at this
    exact this
  obtain ⟨g, cp, hv, -, hgb, hglt, -, hfr, hce⟩ := own_bools ho2 (by omega)
  injection hv with e1 e2 e3
  injection e1 with e1
  injection e1 with e1 _ _
  subst e1 e3
  have hs1 := ho2.stored a.toNat (.bool true)
  rw [bcells_set] at hs1
  exact ⟨hce a ha.1 ha.2, hfr a.toNat, hs1.1, hb1.setCell (Nat.le_refl _) _⟩
set_option maxRecDepth 20000 in
set_option maxHeartbeats 4000000 in
theorem rpart_any (N : Nat) (A : Option Addr) (len cap : Nat) (l : List Tp) (a : Int) (w : World) (hN : N ≤ 6) (hm : len ≤ 10) (ha : 0 ≤ a ∧ a < N) (hl : inn N l) (hx : Rows 3 int3 (0,0,0) w w.heap.size A len l) :
    Calls Try.prog 32 #[.int .i64 (N : Int), .slice A len cap, .int .i64 a] w fun e w' => (∃ v, e = .returned v ∧ w'.ownsRow w.heap.size 4 1 v N (bcells (partL N l a))) ∧ Below w.heap.size w w' := by
  obtain ⟨j0, hj, hy0, hy1, hy2⟩ := info_parts info_bool
  have HX := Lib.hid hx
  have HLN := Lib.hid hx.1
  clear hx
  go_enter Try.func32, Try.ntmps32
  go_wp2_with (refine wpList_make_full _ rfl (.tmp 10) (.tmp 10) 68 rfl w.heap.size 4 j0 (.bool false) 1 Try.underlying68 hj hy0 hy1 _ _ _ _ N rfl rfl rfl rfl (by rw [hy2]; omega) (by unfold maxLen; omega) (Nat.le_refl _) ?_; intro w1 ho1 hg1; obtain ⟨hc0, hf0, h3, h4⟩ := mk_part ho1 hg1 ha; have HO := Lib.hid h3; have HB := Lib.hid h4; clear ho1 hg1 h3 h4)
  go_loopw [8] (fun i W => PaO w w.heap.size N l a i W) (fun i _ => N - (intOf i).toNat)
  case atStart => exact PaO.mk 0 (Nat.zero_le _) rfl HO.out HB.out
  case round =>
    obtain ⟨k, hk, rfl, ho, hb⟩ := hrel
    have HOo := Lib.hid ho
    clear ho HO HB
    by_cases hlt : k < N
    · have hk1 : (k : Int) < N := by omega
      go_wp2
      go_loopw [9] (fun i W => PaI w w.heap.size N len l (passes l k (part0 N a)) i W) (fun i _ => len - (intOf i).toNat)
      case atStart => exact PaI.mk 0 (Nat.zero_le _) rfl HOo.out hb
      case round =>
        obtain ⟨j, hj, rfl, ho, hb⟩ := hrel
        by_cases hjl : j < len
        · obtain ⟨b, off, rfl, hb0, hc1, hc2, hc3⟩ := rows_tp (HX.out.below hb) j hjl
          have hjn : j < l.length := by rw [HLN.out]; exact hjl
          have hT := hl (tpA l j) (by unfold tpA; rw [List.getElem?_eq_getElem hjn]; exact List.getElem_mem hjn)
          have hps := pass_snoc hjn (passes l k (part0 N a))
          obtain ⟨g, cp, hv, -, hgb, hglt, hSl, hfr, hce⟩ := own_bools ho (by omega)
          injection hv with e1 e2 e3
          injection e1 with e1
          injection e1 with e1 _ _
          subst e1 e3
          generalize tpA l j = T at *
          generalize pass (l.take j) (passes l k (part0 N a)) = S at *
          obtain ⟨⟨t0, t1⟩, t2, t3⟩ := hT
          have hq1 := hce T.1 t0 t1
          have hq2 := hce T.2.1 t2 t3
          have hf1 := hfr T.1.toNat
          have hf2 := hfr T.2.1.toNat
          have hj1 : (j : Int) < len := by omega
          have hs1 := ho.stored T.1.toNat (.bool true)
          rw [bcells_set] at hs1
          have hs2 := hs1.1.stored T.2.1.toNat (.bool true)
          rw [bcells_set] at hs2
          have hq3 := (own_bools_at hs1.1 t2 t3).1
          have hf3 := (own_bools_at hs1.1 t2 t3).2
          have hbn : ¬ b = w.heap.size := by omega
          have hbw : b < wr.heap.size := by have := hb.size; omega
          cases hp : sB S T.1
          · rw [hp] at hq1
            cases hq : sB S T.2.1
            · rw [hq] at hq2
              have hA : addT S T = S := by unfold addT; rw [hp, hq]; rfl
              rw [hA] at hps
              have HPS := Lib.hid hps
              have HS := Lib.hid ho
              clear hps hA hs1 hs2 ho hce hfr HOo
              go_wp2
              go_roundw
              case rel => exact PaI.mk (j + 1) (by omega) (by go_num) (by rw [HPS.out]; exact HS.out) hb
              case measure => simp [intOf]; omega
            · rw [hq] at hq2
              have hA : addT S T = (S.set T.1.toNat true).set T.2.1.toNat true := by unfold addT; rw [hp, hq]; rfl
              rw [hA] at hps
              have HPS := Lib.hid hps
              have HS := Lib.hid hs2.1
              have HB := Lib.hid ((hb.setCell (p := ⟨w.heap.size, T.1.toNat, none⟩) (Nat.le_refl _) (.bool true)).setCell (p := ⟨w.heap.size, T.2.1.toNat, none⟩) (Nat.le_refl _) (.bool true))
              clear hps hA hs1 hs2 ho hce hfr HOo
              go_wp2
              refine wp_region_off w.heap.size (by kernel_rfl) (by kernel_rfl) ?_
              refine wpC_take (f := 3) (by kernel_rfl) (by kernel_rfl) ⟨⟨_, off_drew (off_refl _ _)⟩, rfl⟩ [0, 1, 2, 3, 4, 5, 6, 7, 8, 9, 10, 11, 12] _ _ (by kernel_rfl) ?_
              simp only [List.map_cons, List.map_nil, List.getElem?_toArray, List.getElem?_cons_succ, List.getElem?_cons_zero, Option.getD_some]
              repeat (go_big_quiet_step (fail))
              refine wpQuiet_nil ?_
              refine wpC_all (rs := [13]) (by kernel_rfl) (by decide) ?_
              intro i hi
              simp only [List.mem_cons, List.not_mem_nil, or_false] at hi
              subst hi
              refine ⟨_, rfl, ?_⟩
              go_simp
              refine ⟨⟨⟨_, (by repeat (first | exact off_refl _ _ | refine off_drew ?_ | refine off_set ?_ _ _))⟩, rfl⟩, ?_⟩
              refine wpC_take (f := 1) (by kernel_rfl) (by kernel_rfl) ⟨⟨_, (by repeat (first | exact off_refl _ _ | refine off_drew ?_ | refine off_set ?_ _ _))⟩, rfl⟩ [14] _ _ (by kernel_rfl) ?_
              simp only [List.map_cons, List.map_nil, List.getElem?_toArray, List.getElem?_cons_succ, List.getElem?_cons_zero, Option.getD_some]
              repeat (go_big_quiet_step (fail))
              refine wpQuiet_nil ?_
              refine wpC_all (rs := [15]) (by kernel_rfl) (by decide) ?_
              intro i hi
              simp only [List.mem_cons, List.not_mem_nil, or_false] at hi
              subst hi
              refine ⟨_, rfl, ?_⟩
              go_simp
              refine ⟨⟨⟨_, (by repeat (first | exact off_refl _ _ | refine off_drew ?_ | refine off_set ?_ _ _))⟩, rfl⟩, ?_⟩
              refine wpC_done (by kernel_rfl) ?_
              go_wp2
              go_roundw
              case rel => exact PaI.mk (j + 1) (by omega) (by go_num) (by rw [HPS.out]; first | exact HS.out | exact town_later HS.out (Below.refl _ _).drew) (by first | exact HB.out | exact HB.out.drew)
              case measure => simp [intOf]; omega
          · rw [hp] at hq1
            have hA : addT S T = (S.set T.1.toNat true).set T.2.1.toNat true := by unfold addT; rw [hp]; rfl
            rw [hA] at hps
            have HPS := Lib.hid hps
            have HS := Lib.hid hs2.1
            have HB := Lib.hid ((hb.setCell (p := ⟨w.heap.size, T.1.toNat, none⟩) (Nat.le_refl _) (.bool true)).setCell (p := ⟨w.heap.size, T.2.1.toNat, none⟩) (Nat.le_refl _) (.bool true))
            clear hps hA hs1 hs2 ho hce hfr HOo
            go_wp2
            refine wp_region_off w.heap.size (by kernel_rfl) (by kernel_rfl) ?_
            refine wpC_take (f := 3) (by kernel_rfl) (by kernel_rfl) ⟨⟨_, off_drew (off_refl _ _)⟩, rfl⟩ [0, 1, 2, 3, 4, 5, 6, 7, 8, 9, 10, 11, 12] _ _ (by kernel_rfl) ?_
            simp only [List.map_cons, List.map_nil, List.getElem?_toArray, List.getElem?_cons_succ, List.getElem?_cons_zero, Option.getD_some]
            repeat (go_big_quiet_step (fail))
            refine wpQuiet_nil ?_
            refine wpC_all (rs := [13]) (by kernel_rfl) (by decide) ?_
            intro i hi
            simp only [List.mem_cons, List.not_mem_nil, or_false] at hi
            subst hi
            refine ⟨_, rfl, ?_⟩
            go_simp
            refine ⟨⟨⟨_, (by repeat (first | exact off_refl _ _ | refine off_drew ?_ | refine off_set ?_ _ _))⟩, rfl⟩, ?_⟩
            refine wpC_take (f := 1) (by kernel_rfl) (by kernel_rfl) ⟨⟨_, (by repeat (first | exact off_refl _ _ | refine off_drew ?_ | refine off_set ?_ _ _))⟩, rfl⟩ [14] _ _ (by kernel_rfl) ?_
            simp only [List.map_cons, List.map_nil, List.getElem?_toArray, List.getElem?_cons_succ, List.getElem?_cons_zero, Option.getD_some]
            repeat (go_big_quiet_step (fail))
            refine wpQuiet_nil ?_
            refine wpC_all (rs := [15]) (by kernel_rfl) (by decide) ?_
            intro i hi
            simp only [List.mem_cons, List.not_mem_nil, or_false] at hi
            subst hi
            refine ⟨_, rfl, ?_⟩
            go_simp
            refine ⟨⟨⟨_, (by repeat (first | exact off_refl _ _ | refine off_drew ?_ | refine off_set ?_ _ _))⟩, rfl⟩, ?_⟩
            refine wpC_done (by kernel_rfl) ?_
            go_wp2
            go_roundw
            case rel => exact PaI.mk (j + 1) (by omega) (by go_num) (by rw [HPS.out]; first | exact HS.out | exact town_later HS.out (Below.refl _ _).drew) (by first | exact HB.out | exact HB.out.drew)
            case measure => simp [intOf]; omega
        · have hkk : pass (l.take j) (passes l k (part0 N a)) = passes l (k + 1) (part0 N a) := by rw [List.take_of_length_le (by rw [HLN.out]; omega)]; rfl
          rw [hkk] at ho
          have HO2 := Lib.hid ho
          clear ho hkk HOo
          go_wp2
          go_roundw
          case rel => exact PaO.mk (k + 1) (by omega) (by go_num) HO2.out hb
          case measure => simp [intOf]; omega
    · have hkN : k = N := by omega
      subst hkN
      go_wp2
      go_ret
      exact ⟨⟨_, rfl, HOo.out⟩, hb⟩
end Go.Proofs.Ytloogollfconpaa

namespace Go.Proofs.Ytloogollfconpaa
open Go.RowKit
attribute [local go_sem] Later.cell Same.cell

theorem cells_sub {w : World} {b off : Nat} {l : List Tp} {xs : List Value} (h : Cells w (some ⟨b, off, none⟩) xs) (k : Nat) (hk : k * 3 ≤ xs.length) : Cells w (some ⟨b, off, none⟩) (xs.take (k * 3)) ∧ Cells w (some ⟨b, off + k * 3, none⟩) (xs.drop (k * 3)) := by
  rcases h with h | ⟨b', off', hh, hc⟩
  · subst h; exact ⟨.inl (by simp), .inl (by simp)⟩
  · cases hh
    refine ⟨.inr ⟨b, off, rfl, fun j u hj => hc j u ?_⟩, .inr ⟨b, off + k * 3, rfl, fun j u hj => ?_⟩⟩
    · rw [List.getElem?_take] at hj
      split at hj
      · exact hj
      · cases hj
    · rw [List.getElem?_drop] at hj
      have := hc _ _ hj
      rw [Nat.add_assoc]; exact this
set_option maxRecDepth 20000 in
set_option maxHeartbeats 4000000 in
theorem rwithout_any (A : Option Addr) (len cap : Nat) (l : List Tp) (i : Nat) (w : World) (hi : i < len) (hcap : len ≤ cap) (hm : len ≤ 10000) (hx : Rows 3 int3 (0,0,0) w w.heap.size A len l) :
    Calls Try.prog 18 #[.slice A len cap, .int .i64 i] w fun e w' => (∃ v, e = .returned v ∧ w'.ownsRow w.heap.size 37 3 v (l.eraseIdx i).length (tcells (l.eraseIdx i))) ∧ Below w.heap.size w w' := by
  obtain ⟨j0, hj, hy0, hy1, hy2⟩ := info_parts info_tape
  have hJ0 := Lib.hid hj
  have hJ1 := Lib.hid hy0
  have hJ2 := Lib.hid hy1
  have hJ3 := Lib.hid hy2
  have hL : (l.eraseIdx i).length = len - 1 := by rw [erase_len (by rw [hx.1]; exact hi), hx.1]
  have hT : tcells (l.eraseIdx i) = (tcells l).take (i * 3) ++ (tcells l).drop ((i + 1) * 3) := by
    have := hx.1
    rw [List.eraseIdx_eq_take_drop_succ, tcells_app, ← tcells_take l i (by omega), ← tcells_drop l (i + 1) (by omega)]
  rw [hL, hT]
  obtain ⟨b, off, rfl, hb0, -⟩ := hx.2 (by omega)
  have htl : (tcells l).length = len * 3 := by rw [tcells_len, hx.1]
  have hc := fun W (h : Below w.heap.size w W) => (hx.below h).cellsT
  have hwi : IntKind.i64.wrap ((i : Int) + 1) = (i : Int) + 1 := IntWalk.i64_in _ (by omega)
  have hj0 : 0 ≤ (i : Int) + 1 := by omega
  have hj1 : (i : Int) + 1 ≤ len := by omega
  have hic : i ≤ cap := by omega
  have hi1 : i + 1 ≤ cap := by omega
  obtain ⟨A3, hA3, hs3⟩ : ∃ A3 : Option Addr, (if cap = i + 1 then (some ⟨b, off, none⟩ : Option Addr) else some ⟨b, off + (i + 1) * 3, none⟩) = A3 ∧ Hid (A3 ≠ none ∧ ∀ W, Below w.heap.size w W → Cells W A3 ((tcells l).drop ((i + 1) * 3))) := by
    by_cases hce : cap = i + 1
    · refine ⟨some ⟨b, off, none⟩, by rw [if_pos hce], Lib.hid ⟨by simp, fun W hW => .inl ?_⟩⟩
      exact List.drop_eq_nil_of_le (by rw [htl]; omega)
    · refine ⟨some ⟨b, off + (i + 1) * 3, none⟩, by rw [if_neg hce], Lib.hid ⟨by simp, fun W hW => (cells_sub (l := l) (hc W hW) (i + 1) (by rw [htl]; omega)).2⟩⟩
  have HC := Lib.hid hc
  have HTL := Lib.hid htl
  clear hj hy0 hy1 hy2 hx hL hT hc htl
  go_enter Try.func18, Try.ntmps18
  go_wp2_with fail
  refine wp_region_mix (by kernel_rfl) (by kernel_rfl) ?_
  refine wpC_take (f := 4) (by kernel_rfl) (by kernel_rfl) ⟨⟨_, (Below.refl _ _).drew⟩, rfl⟩ [1, 2, 3, 5, 6, 7, 8] _ _ (by kernel_rfl) ?_
  simp only [List.map_cons, List.map_nil, List.getElem?_toArray, List.getElem?_cons_succ, List.getElem?_cons_zero, Option.getD_some]
  repeat (go_big_quiet_step (fail))
  refine wpQuiet_nil ?_
  refine wpC_all (rs := [0]) (by kernel_rfl) (by decide) ?_
  intro i hi
  simp only [List.mem_cons, List.not_mem_nil, or_false] at hi
  subst hi
  refine ⟨_, rfl, ?_⟩
  go_simp
  have ho := town_later (World.ownsRow_made (base := w.heap.size) (e := 37) (size := 3) w #[] 0 (Nat.le_refl _) (Nat.zero_le _) rfl) (Below.refl _ _).drew
  have hB : Below w.heap.size w (w.alloc (.cells #[] 37)).drew := ((Below.refl _ w).alloc (Nat.le_refl _) _).drew
  generalize (w.alloc (.cells #[] 37)).drew = WW0 at *
  refine ⟨⟨⟨_, hB⟩, rfl⟩, ?_⟩
  refine wpC_all (rs := [4]) (by kernel_rfl) (by decide) ?_
  intro i hi
  simp only [List.mem_cons, List.not_mem_nil, or_false] at hi
  subst hi
  refine ⟨_, rfl, ?_⟩
  refine wp_append_src (.tmp 5) (.tmp 8) 22 rfl w.heap.size 37 j0 (.agg #[.int .i64 0, .int .i64 0, .int .i64 0]) 3 24 Try.underlying22 hJ0.out hJ1.out hJ2.out hJ3.out rfl (by decide) _ 0 _ (by simp [Act.eval, Act.put]) ho (by simp) (some ⟨b, off, none⟩) i cap ((tcells l).take (i * 3)) (by simp [Act.eval, Act.put]) (by rw [List.length_take, HTL.out]; omega) (by simp) ((cells_sub (l := l) (HC.out _ hB) i (by rw [HTL.out]; omega)).1) (fun u hu => tcells_one l u (List.mem_of_mem_take hu)) (by unfold maxLen; omega) (by omega) hB.size ?_
  intro g1 cap1 WW1 hown hgr hat
  replace hB : Below w.heap.size w WW1 := hB.trans (grown_below hgr hB.size (fun k hk => (ho.lt k hk).1))
  replace ho : WW1.ownsRow w.heap.size 37 3 (.slice (some ⟨g1, 0, none⟩) i cap1) i ((tcells l).take (i * 3)) := by simpa using hown
  clear hown hgr hat
  refine ⟨⟨⟨_, hB⟩, rfl⟩, ?_⟩
  rw [Nat.zero_add]
  go_simp
  refine wpC_all (rs := [9]) (by kernel_rfl) (by decide) ?_
  intro i hi
  simp only [List.mem_cons, List.not_mem_nil, or_false] at hi
  subst hi
  refine ⟨_, rfl, ?_⟩
  refine wp_append_src (.tmp 9) (.tmp 13) 22 rfl w.heap.size 37 j0 (.agg #[.int .i64 0, .int .i64 0, .int .i64 0]) 3 24 Try.underlying22 hJ0.out hJ1.out hJ2.out hJ3.out rfl (by decide) _ i _ (by simp [Act.eval, Act.put]) ho (by simp) A3 (len - (i + 1)) (cap - (i + 1)) ((tcells l).drop ((i + 1) * 3)) (by simp [Act.eval, Act.put]) (by rw [List.length_drop, HTL.out]; omega) (fun h => absurd h hs3.out.1) (hs3.out.2 _ hB) (fun u hu => tcells_one l u (List.mem_of_mem_drop hu)) (by unfold maxLen; omega) (by omega) hB.size ?_
  intro g2 cap2 WW2 hown hgr hat
  replace hB : Below w.heap.size w WW2 := hB.trans (grown_below hgr hB.size (fun k hk => (ho.lt k hk).1))
  have hO : Hid (WW2.ownsRow w.heap.size 37 3 (.slice (some ⟨g2, 0, none⟩) (len - 1) cap2) (len - 1) ((tcells l).take (i * 3) ++ (tcells l).drop ((i + 1) * 3))) := Lib.hid (by have := hown; rwa [show i + (len - (i + 1)) = len - 1 by omega] at this)
  have HE : Hid (i + (len - (i + 1)) = len - 1) := Lib.hid (by omega)
  clear hown hgr hat
  refine ⟨⟨⟨_, hB⟩, rfl⟩, ?_⟩
  go_simp
  refine wpC_take (f := 0) (by kernel_rfl) (by kernel_rfl) ⟨⟨_, hB⟩, rfl⟩ [10] _ _ (by kernel_rfl) ?_
  simp only [List.map_cons, List.map_nil, List.getElem?_toArray, List.getElem?_cons_succ, List.getElem?_cons_zero, Option.getD_some]
  repeat (go_big_quiet_step (fail))
  refine wpQuiet_nil ?_
  refine wpC_done (by kernel_rfl) ?_
  go_wp2_with fail
  go_ret
  refine ⟨⟨_, rfl, ?_⟩, hB⟩
  rw [HE.out]
  exact hO.out
end Go.Proofs.Ytloogollfconpaa

namespace Go.Proofs.Ytloogollfconpaa
open Go.RowKit
attribute [local go_sem] Later.cell Same.cell

/-- Block b holds just these cells. -/
def Bk (W : World) (b : Nat) (c : Array Value) (t : TypeId) : Prop := W.heap[b]? = some (.cells c t (0, 0))
theorem Bk.new (W : World) (c : Array Value) (t : TypeId) : Bk (W.alloc (.cells c t)) W.heap.size c t := by
  show (W.heap.push _)[W.heap.size]? = _
  simp
theorem Bk.lt {W : World} {b : Nat} {c : Array Value} {t : TypeId} (h : Bk W b c t) : b < W.heap.size := (Array.getElem?_eq_some_iff.1 h).1
theorem Bk.later {W W' : World} {b : Nat} {c : Array Value} {t : TypeId} (h : Bk W b c t) (hb : Below W.heap.size W W') : Bk W' b c t := (hb.block b h.lt).trans h
theorem Bk.grown {W W' : World} {b : Nat} {c : Array Value} {t : TypeId} {row : Option Nat} (h : Bk W b c t) (hg : W.grownBy W' row) (hr : row ≠ some b) : Bk W' b c t := (hg.block b h.lt (fun e => hr e.symm)).trans h
theorem Bk.cell {W : World} {b : Nat} {c : Array Value} {t : TypeId} (h : Bk W b c t) (o : Nat) : W.cell? ⟨b, o, none⟩ = c[o]? ∧ W.frozen? ⟨b, o, none⟩ = false := by
  unfold Bk at h
  exact ⟨by simp [World.cell?, h], by simp [World.frozen?, h]⟩
theorem Bk.news {W : World} {b : Nat} {ty : TypeId} {t : Tp} (h : Bk W b #[.int .i64 t.1, .int .i64 t.2.1, .int .i64 t.2.2] ty) : ∀ j u, (int3 t)[j]? = some u → W.cell? ((⟨b, 0, none⟩ : Addr).add j) = some u := by
  intro j u hj
  rw [Addr.add_lit, Nat.zero_add, (h.cell j).1, ← hj]
  unfold int3
  simp
def adE (n : Int) (l : List Tp) (t : Tp) : Int := if vNet n l then (if vT n t then (if l.length = 10 then 4 else 0) else 1) else 1
def adL (n : Int) (l : List Tp) (t : Tp) : List Tp := if adE n l t = 0 then l ++ [t] else []
end Go.Proofs.Ytloogollfconpaa

namespace Go.Proofs.Ytloogollfconpaa
open Go.RowKit
attribute [local go_sem] Later.cell Same.cell

def jnx (a b x : Int) : Int := if x = b then a else x
def jnT (a b : Int) (t : Tp) : Tp := (jnx a b t.1, jnx a b t.2.1, t.2.2)
def jnL (a b : Int) (l : List Tp) (k : Nat) : List Tp := (l.take k).map (jnT a b) ++ l.drop k
theorem tcells_set1 : ∀ (l : List Tp) (k : Nat) (x : Int), k < l.length → (tcells l).set (k * 3) (.int .i64 x) = tcells (l.set k (x, (tpA l k).2.1, (tpA l k).2.2)) := by
  intro l
  induction l with
  | nil => intro k x h; exact absurd h (by simp)
  | cons t l ih =>
    intro k x h
    cases k with
    | zero => simp [tcells, int3, tpA]
    | succ k =>
      have := ih k x (by simpa using h)
      have e1 : (k + 1) * 3 = k * 3 + 1 + 1 + 1 := by omega
      rw [e1]
      simpa [tcells, int3, tpA] using this
theorem tcells_set2 : ∀ (l : List Tp) (k : Nat) (x : Int), k < l.length → (tcells l).set (k * 3 + 1) (.int .i64 x) = tcells (l.set k ((tpA l k).1, x, (tpA l k).2.2)) := by
  intro l
  induction l with
  | nil => intro k x h; exact absurd h (by simp)
  | cons t l ih =>
    intro k x h
    cases k with
    | zero => simp [tcells, int3, tpA]
    | succ k =>
      have := ih k x (by simpa using h)
      have e1 : (k + 1) * 3 + 1 = k * 3 + 1 + 1 + 1 + 1 := by omega
      rw [e1]
      simpa [tcells, int3, tpA] using this
theorem jnL_len (a b : Int) (l : List Tp) (k : Nat) : (jnL a b l k).length = l.length := by unfold jnL; simp; omega
theorem jnL_at {a b : Int} {l : List Tp} {k : Nat} (hk : k < l.length) : tpA (jnL a b l k) k = tpA l k := by
  unfold tpA jnL
  rw [List.getElem?_append_right (by simp; omega), List.getElem?_drop]
  have : k + (k - (List.map (jnT a b) (List.take k l)).length) = k := by simp; omega
  rw [this]
theorem jnL_next {a b : Int} {l : List Tp} {k : Nat} (hk : k < l.length) : (jnL a b l k).set k (jnT a b (tpA l k)) = jnL a b l (k + 1) := by
  unfold jnL
  rw [List.set_append_right _ _ (by simp; omega), take_snoc hk, List.map_append, List.append_assoc]
  congr 1
  have e : k - (List.map (jnT a b) (List.take k l)).length = 0 := by simp; omega
  rw [e, List.drop_eq_getElem_cons hk]
  rfl
theorem tpA_set {l : List Tp} {k : Nat} (hk : k < l.length) (t : Tp) : tpA (l.set k t) k = t := by
  unfold tpA; simp [hk]
/-- The row behind the two tests. -/
theorem own_join {W : World} {base g n cap : Nat} {a b : Int} {l : List Tp} {k : Nat} (hk : k < l.length) (h : W.ownsRow base 37 3 (.slice (some ⟨g, 0, none⟩) n cap) n (tcells (jnL a b l k))) :
    ((tpA l k).1 = b → (tpA l k).2.1 = b → ((W.setCell ⟨g, k * 3, none⟩ (.int .i64 a)).setCell ⟨g, k * 3 + 1, none⟩ (.int .i64 a)).ownsRow base 37 3 (.slice (some ⟨g, 0, none⟩) n cap) n (tcells (jnL a b l (k + 1)))) ∧
    ((tpA l k).1 = b → (tpA l k).2.1 ≠ b → (W.setCell ⟨g, k * 3, none⟩ (.int .i64 a)).ownsRow base 37 3 (.slice (some ⟨g, 0, none⟩) n cap) n (tcells (jnL a b l (k + 1)))) ∧
    ((tpA l k).1 ≠ b → (tpA l k).2.1 = b → (W.setCell ⟨g, k * 3 + 1, none⟩ (.int .i64 a)).ownsRow base 37 3 (.slice (some ⟨g, 0, none⟩) n cap) n (tcells (jnL a b l (k + 1)))) ∧
    ((tpA l k).1 ≠ b → (tpA l k).2.1 ≠ b → W.ownsRow base 37 3 (.slice (some ⟨g, 0, none⟩) n cap) n (tcells (jnL a b l (k + 1)))) := by
  have hkl : k < (jnL a b l k).length := by rw [jnL_len]; exact hk
  have hat := jnL_at (a := a) (b := b) hk
  have hnx := jnL_next (a := a) (b := b) hk
  have s1 := (h.stored (k * 3) (.int .i64 a)).1
  rw [tcells_set1 _ k a hkl, hat] at s1
  have s2 := (h.stored (k * 3 + 1) (.int .i64 a)).1
  rw [tcells_set2 _ k a hkl, hat] at s2
  have s3 := (s1.stored (k * 3 + 1) (.int .i64 a)).1
  rw [tcells_set2 _ k a (by rw [List.length_set]; exact hkl), tpA_set hkl, List.set_set] at s3
  have hself : (jnL a b l k).set k (tpA l k) = jnL a b l k := by
    rw [← hat]
    have e : tpA (jnL a b l k) k = (jnL a b l k)[k] := by unfold tpA; rw [List.getElem?_eq_getElem hkl]; rfl
    rw [e]; exact List.set_getElem_self _
  refine ⟨fun h1 h2 => ?_, fun h1 h2 => ?_, fun h1 h2 => ?_, fun h1 h2 => ?_⟩
  · have e : jnT a b (tpA l k) = (a, a, (tpA l k).2.2) := by unfold jnT jnx; rw [if_pos h1, if_pos h2]
    rw [← hnx, e]; exact s3
  · have e : jnT a b (tpA l k) = (a, (tpA l k).2.1, (tpA l k).2.2) := by unfold jnT jnx; rw [if_pos h1, if_neg h2]
    rw [← hnx, e]; exact s1
  · have e : jnT a b (tpA l k) = ((tpA l k).1, a, (tpA l k).2.2) := by unfold jnT jnx; rw [if_neg h1, if_pos h2]
    rw [← hnx, e]; exact s2
  · have e : jnT a b (tpA l k) = tpA l k := by unfold jnT jnx; rw [if_neg h1, if_neg h2]
    rw [← hnx, e, hself]; exact h
def JoR (w : World) (g n cap : Nat) (a b : Int) (l : List Tp) (i : Value) (W : World) : Prop := ∃ k : Nat, k ≤ n ∧ i = .int .i64 k ∧ W.ownsRow w.heap.size 37 3 (.slice (some ⟨g, 0, none⟩) n cap) n (tcells (jnL a b l k)) ∧ Below w.heap.size w W
theorem JoR.mk {w : World} {g n cap : Nat} {a b : Int} {l : List Tp} {i : Value} {W : World} (k : Nat) (h1 : k ≤ n) (h2 : i = .int .i64 k) (h3 : W.ownsRow w.heap.size 37 3 (.slice (some ⟨g, 0, none⟩) n cap) n (tcells (jnL a b l k))) (h4 : Below w.heap.size w W) : JoR w g n cap a b l i W := ⟨k, h1, h2, h3, h4⟩
set_option maxRecDepth 20000 in
set_option maxHeartbeats 4000000 in
theorem joinN_any (A : Option Addr) (len cap : Nat) (l : List Tp) (a b : Int) (w : World) (hm : len ≤ 10000) (hx : Rows 3 int3 (0,0,0) w w.heap.size A len l) :
    Calls Try.prog 60 #[.slice A len cap, .int .i64 a, .int .i64 b] w fun e w' => (∃ v, e = .returned v ∧ w'.ownsRow w.heap.size 37 3 v len (tcells (l.map (jnT a b)))) ∧ Below w.heap.size w w' := by
  obtain ⟨j0, hj, hy0, hy1, hy2⟩ := info_parts info_tape
  have hn := hx.1
  have HC := Lib.hid hx.cellsT
  have HN := Lib.hid hx.nil'
  have HL := Lib.hid hn
  clear hx
  go_enter Try.func60, Try.ntmps60
  go_wp2_with (at_builtin; refine wpList_append_src rfl _ _ 22 rfl w.heap.size 37 j0 (.agg #[.int .i64 0, .int .i64 0, .int .i64 0]) 3 24 Try.underlying22 hj hy0 hy1 hy2 rfl (by decide) (.slice (some ⟨w.heap.size, 0, none⟩) 0 0) 0 [] rfl (World.ownsRow_made w #[] 0 (Nat.le_refl _) (Nat.zero_le _) rfl) (by simp) A len cap (tcells l) rfl (by rw [tcells_len, hn]) (fun h => HN.out h) ?qc2 (tcells_one l) (by unfold maxLen; omega) (by omega) (by simp) ?_)
  case qc2 =>
    rcases HC.out with h | ⟨b', off', h1, h2⟩
    · exact .inl h
    · exact .inr ⟨b', off', h1, fun j u hj => Lib.cell?_alloc_some _ (h2 j u hj)⟩
  intro v w1 hown hgrow hnil
  have hB1 : Below w.heap.size w w1 := ((Below.refl _ w).alloc (Nat.le_refl _) _).grown hgrow (by simp) (by intro k hk; simp [Value.ownBlock] at hk; omega)
  have ho : w1.ownsRow w.heap.size 37 3 v len (tcells l) := by simpa using hown
  have hv : ∃ g cap', v = .slice (some ⟨g, 0, none⟩) len cap' := by
    rcases ho.2 with ⟨h0, h1⟩ | ⟨g, cap', cur, hv, _⟩
    · exact absurd h0 (by simpa using hnil)
    · exact ⟨g, cap', hv⟩
  obtain ⟨g, cap', rfl⟩ := hv
  have HO := Lib.hid ho
  clear hown hgrow hnil ho hj hy0 hy1 hy2
  go_wp2
  go_loopw [8] (fun i W => JoR w g len cap' a b l i W) (fun i _ => len - (intOf i).toNat)
  case atStart => exact JoR.mk 0 (Nat.zero_le _) rfl HO.out hB1
  case round =>
    obtain ⟨k, hk, rfl, ho, hb⟩ := hrel
    by_cases hlt : k < len
    · have hkl : k < l.length := by rw [HL.out]; exact hlt
      obtain ⟨A3, cap3, hv3, -, -, hR, hgg⟩ := own_tapes ho
      injection hv3 with e1 e2 e3
      subst e1 e3
      obtain ⟨g', hg', hg1, hg2, hfr⟩ := hgg (by omega)
      cases hg'
      obtain ⟨b0, off, hbo, hb0, hc1, hc2, hc3⟩ := rows_tp hR k hlt
      cases hbo
      rw [jnL_at hkl] at hc1 hc2 hc3
      rw [Nat.zero_add] at hc1 hc2 hc3
      obtain ⟨q1, q2, q3, q4⟩ := own_join (a := a) (b := b) hkl ho
      have hf0 := hfr (k * 3)
      have hf1 := hfr (k * 3 + 1)
      have HB := Lib.hid hb
      generalize tpA l k = T at *
      have hk1 : (k : Int) < len := by omega
      clear ho hR hgg hfr HO
      by_cases ha : T.1 = b
      · by_cases hbb : T.2.1 = b
        · have HQ := Lib.hid (q1 ha hbb)
          have ha' : (T.1 == b) = true := by simpa using ha
          have hbb' : (T.2.1 == b) = true := by simpa using hbb
          clear q1 q2 q3 q4 ha hbb
          go_wp2
          go_roundw
          case rel => exact JoR.mk (k + 1) (by omega) (by go_num) HQ.out ((HB.out.setCell hg1 _).setCell hg1 _)
          case measure => simp [intOf]; omega
        · have HQ := Lib.hid (q2 ha hbb)
          have ha' : (T.1 == b) = true := by simpa using ha
          have hbb' : (T.2.1 == b) = false := by simpa using hbb
          clear q1 q2 q3 q4 ha hbb
          go_wp2
          go_roundw
          case rel => exact JoR.mk (k + 1) (by omega) (by go_num) HQ.out (HB.out.setCell hg1 _)
          case measure => simp [intOf]; omega
      · by_cases hbb : T.2.1 = b
        · have HQ := Lib.hid (q3 ha hbb)
          have ha' : (T.1 == b) = false := by simpa using ha
          have hbb' : (T.2.1 == b) = true := by simpa using hbb
          clear q1 q2 q3 q4 ha hbb
          go_wp2
          go_roundw
          case rel => exact JoR.mk (k + 1) (by omega) (by go_num) HQ.out (HB.out.setCell hg1 _)
          case measure => simp [intOf]; omega
        · have HQ := Lib.hid (q4 ha hbb)
          have ha' : (T.1 == b) = false := by simpa using ha
          have hbb' : (T.2.1 == b) = false := by simpa using hbb
          clear q1 q2 q3 q4 ha hbb
          go_wp2
          go_roundw
          case rel => exact JoR.mk (k + 1) (by omega) (by go_num) HQ.out HB.out
          case measure => simp [intOf]; omega
    · have hfin : Hid (wr.ownsRow w.heap.size 37 3 (.slice (some ⟨g, 0, none⟩) len cap') len (tcells (l.map (jnT a b)))) := Lib.hid (by
        have := ho
        unfold jnL at this
        rwa [List.take_of_length_le (by rw [HL.out]; omega), List.drop_eq_nil_of_le (by rw [HL.out]; omega), List.append_nil] at this)
      clear ho
      go_wp2
      go_ret
      exact ⟨⟨_, rfl, hfin.out⟩, hb⟩
end Go.Proofs.Ytloogollfconpaa

namespace Go.Proofs.Ytloogollfconpaa

def jx (a b x : Int) : Int := if x = b then a else x
def jT (a b : Int) (t : Tp) : Tp := (jx a b t.1, jx a b t.2.1, t.2.2)
def sumF (wt : Bool) : Nat → Int → List Tp → Int
  | 0, c, _ => if c = 1 then 1 else 0
  | _ + 1, c, [] => if c = 1 then 1 else 0
  | m + 1, c, t :: l => (if wt = true then t.2.2 else 1) * sumF wt m c l + (if t.1 = t.2.1 then 0 else sumF wt m (c - 1) (l.map (jT t.1 t.2.1)))
/-- Tapes with nodes and ohms in their bounds, their ends in any order. -/
def tok (l : List Tp) : Prop := ∀ t, t ∈ l → nod t.1 ∧ nod t.2.1 ∧ 1 ≤ t.2.2 ∧ t.2.2 ≤ 60
theorem tok_of {l : List Tp} (h : okL l) : tok l := fun t ht => ⟨(h t ht).1, (h t ht).2.1, (h t ht).2.2.2.1, (h t ht).2.2.2.2⟩
theorem tok_tail {t : Tp} {l : List Tp} (h : tok (t :: l)) : tok l := fun u hu => h u (List.mem_cons_of_mem _ hu)
theorem tok_join {l : List Tp} (h : tok l) {a b : Int} (ha : nod a) : tok (l.map (jT a b)) := by
  intro u hu
  obtain ⟨t, ht, rfl⟩ := List.mem_map.1 hu
  obtain ⟨h1, h2, h3, h4⟩ := h t ht
  refine ⟨?_, ?_, h3, h4⟩
  · show nod (jx a b t.1); unfold jx; split <;> assumption
  · show nod (jx a b t.2.1); unfold jx; split <;> assumption
theorem sumF_bd (wt : Bool) : ∀ (m : Nat) (c : Int) (l : List Tp), tok l → 0 ≤ sumF wt m c l ∧ sumF wt m c l ≤ 61 ^ m := by
  have hone : ∀ m : Nat, (1 : Int) ≤ 61 ^ m := by
    intro m
    induction m with
    | zero => exact Int.le_refl _
    | succ m ih => rw [Int.pow_succ]; omega
  intro m
  induction m with
  | zero => intro c l _; show 0 ≤ (if c = 1 then (1 : Int) else 0) ∧ (if c = 1 then (1 : Int) else 0) ≤ 1; split <;> omega
  | succ m ih =>
    intro c l hl
    have h61 := hone (m + 1)
    cases l with
    | nil => show 0 ≤ (if c = 1 then (1 : Int) else 0) ∧ (if c = 1 then (1 : Int) else 0) ≤ _; split <;> omega
    | cons t l =>
      obtain ⟨h1, h2, h3, h4⟩ := hl t (List.mem_cons_self ..)
      have i1 := ih c l (tok_tail hl)
      have i2 := ih (c - 1) (l.map (jT t.1 t.2.1)) (tok_join (tok_tail hl) h1)
      have hw : 1 ≤ (if wt = true then t.2.2 else 1) ∧ (if wt = true then t.2.2 else 1) ≤ 60 := by split <;> omega
      show 0 ≤ (if wt = true then t.2.2 else 1) * sumF wt m c l + _ ∧ (if wt = true then t.2.2 else 1) * sumF wt m c l + _ ≤ _
      generalize (if wt = true then t.2.2 else 1) = w at *
      have a1 : 0 ≤ w * sumF wt m c l := Int.mul_nonneg (by omega) i1.1
      have a2 : w * sumF wt m c l ≤ 60 * 61 ^ m := Int.mul_le_mul hw.2 i1.2 i1.1 (by omega)
      rw [Int.pow_succ]
      split <;> omega
theorem sumF_ohm1 : ∀ (m : Nat) (c : Int) (l : List Tp), sumF false m c l = sumF true m c (l.map ohm1) := by
  intro m
  induction m with
  | zero => intro c l; rfl
  | succ m ih =>
    intro c l
    cases l with
    | nil => rfl
    | cons t l =>
      show 1 * sumF false m c l + (if t.1 = t.2.1 then 0 else sumF false m (c - 1) (l.map (jT t.1 t.2.1))) = 1 * sumF true m c (l.map ohm1) + (if t.1 = t.2.1 then 0 else sumF true m (c - 1) ((l.map ohm1).map (jT t.1 t.2.1)))
      rw [ih, ih, List.map_map, List.map_map]
      rfl
def rn (σ : Int → Int) (t : Tp) : Tp := (σ t.1, σ t.2.1, t.2.2)
theorem jx_iff {a b x y : Int} : jx a b x = jx a b y ↔ (x = y ∨ ((x = a ∨ x = b) ∧ (y = a ∨ y = b))) := by
  unfold jx; split <;> split <;> omega
theorem sumF_lab : ∀ (l : List Tp) (c : Int) (σ : Int → Int) (r : List Int), (∀ t, t ∈ l → nod t.1 ∧ nod t.2.1) → r.length = 6 → (∀ x y, nod x → nod y → (at6 r x = at6 r y ↔ σ x = σ y)) →
    sumF true l.length c (l.map (rn σ)) = if 1 ≤ c then sumL tt (c - 1).toNat l r else 0 := by
  intro l
  induction l with
  | nil =>
    intro c σ r _ _ _
    show (if c = 1 then (1 : Int) else 0) = if 1 ≤ c then (if (c - 1).toNat = 0 ∧ true = true then 1 else 0) else 0
    by_cases h : c = 1
    · subst h; rfl
    · rw [if_neg h]
      split
      · rw [if_neg (fun h2 => by have := h2.1; omega)]
      · rfl
  | cons t l ih =>
    intro c σ r hl hr hσ
    obtain ⟨t1, t2⟩ := hl t (List.mem_cons_self ..)
    have hl' := fun u hu => hl u (List.mem_cons_of_mem _ hu)
    show t.2.2 * sumF true l.length c (l.map (rn σ)) + (if σ t.1 = σ t.2.1 then 0 else sumF true l.length (c - 1) ((l.map (rn σ)).map (jT (σ t.1) (σ t.2.1)))) = _
    have e : (l.map (rn σ)).map (jT (σ t.1) (σ t.2.1)) = l.map (rn (fun x => jx (σ t.1) (σ t.2.1) (σ x))) := by rw [List.map_map]; rfl
    rw [e, ih c σ r hl' hr hσ, ih (c - 1) _ (mgL r t) hl' (by rw [mgL_len]; exact hr) (fun x y hx hy => by
      rw [mgL_iff hr hx hy, hσ x y hx hy, hσ x _ hx t1, hσ x _ hx t2, hσ y _ hy t1, hσ y _ hy t2, jx_iff])]
    by_cases hc : 1 ≤ c
    · rw [if_pos hc, if_pos hc, sumL_cons]
      congr 1
      by_cases he : at6 r t.1 = at6 r t.2.1
      · rw [if_pos he, if_pos ((hσ _ _ t1 t2).1 he)]
      · rw [if_neg he, if_neg (fun h => he ((hσ _ _ t1 t2).2 h))]
        by_cases hc1 : 1 ≤ c - 1
        · rw [if_pos hc1]
          have : (c - 1).toNat = (c - 1 - 1).toNat + 1 := by omega
          rw [this]; rfl
        · rw [if_neg hc1]
          have : (c - 1).toNat = 0 := by omega
          rw [this]; rfl
    · have h2 : ¬ 1 ≤ c - 1 := by omega
      rw [if_neg hc, if_neg hc, Int.mul_zero]
      simp only [if_neg h2]
      split <;> rfl
/-- The reference's count of trees. -/
theorem sumF_trees {l : List Tp} (hl : okL l) {n : Int} (hn : 1 ≤ n) : sumF false l.length n l = cT (n - 1).toNat l := by
  rw [sumF_ohm1]
  have h := sumF_lab (l.map ohm1) n (fun x => x) R0 (fun t ht => ⟨(ohm1_ok hl t ht).1, (ohm1_ok hl t ht).2.1⟩) rfl (fun x y hx hy => by rw [at6_R0 hx, at6_R0 hy])
  rw [if_pos hn, List.length_map] at h
  unfold cT
  rw [← h]
  congr 1
  exact (List.map_id _).symm.trans (List.map_congr_left (fun t _ => rfl))
end Go.Proofs.Ytloogollfconpaa

namespace Go.Proofs.Ytloogollfconpaa
open Go.RowKit
attribute [local go_sem] Later.cell Same.cell

def isPs (v : Value) (zb : Nat) : Prop := v = .pointer (some ⟨zb, 0, none⟩)
/-- A tape that lies in a block made later than the world w. -/
def TJ (w : World) (T : Tp) (tb : Nat) (W : World) : Prop := Below w.heap.size w W ∧ w.heap.size ≤ tb ∧ tb < W.heap.size ∧ W.cell? ⟨tb, 0, none⟩ = some (.int .i64 T.1) ∧ W.cell? ⟨tb, 1, none⟩ = some (.int .i64 T.2.1) ∧ W.cell? ⟨tb, 2, none⟩ = some (.int .i64 T.2.2)
theorem TJ.later {w W W' : World} {T : Tp} {tb : Nat} (h : TJ w T tb W) (hb : Below W.heap.size W W') : TJ w T tb W' := by
  obtain ⟨h1, h2, h3, h4, h5, h6⟩ := h
  refine ⟨below_step h1 hb, h2, Nat.lt_of_lt_of_le h3 hb.size, ?_, ?_, ?_⟩
  · exact (hb.cell (p := ⟨tb, 0, none⟩) h3).trans h4
  · exact (hb.cell (p := ⟨tb, 1, none⟩) h3).trans h5
  · exact (hb.cell (p := ⟨tb, 2, none⟩) h3).trans h6
theorem rows_tail {w : World} {B : Nat} {b off n cap : Nat} {t : Tp} {l : List Tp} (h : Rows 3 int3 (0,0,0) w B (some ⟨b, off, none⟩) (n + 1) (t :: l)) : Rows 3 int3 (0,0,0) w B (if cap = 1 then some ⟨b, off, none⟩ else some ⟨b, off + 3, none⟩) n l ∨ cap = 1 ∧ n ≠ 0 := by
  by_cases hc : cap = 1
  · by_cases hn : n = 0
    · left; subst hn; exact ⟨by have := h.1; simpa using this, fun h0 => absurd h0 (by omega)⟩
    · exact .inr ⟨hc, hn⟩
  · left
    rw [if_neg hc]
    refine ⟨by have := h.1; simpa using this, fun h0 => ?_⟩
    obtain ⟨b', off', h1, h2, h3⟩ := h.2 (by omega)
    cases h1
    refine ⟨b, off + 3, rfl, h2, fun k hk j v hv => ?_⟩
    have := h3 (k + 1) (by omega) j v (by simpa using hv)
    rw [← this]
    congr 2
    rw [Nat.add_mul]; omega
set_option maxRecDepth 20000 in
set_option maxHeartbeats 8000000 in
theorem rsum_any (wt : Bool) : ∀ (m : Nat), m ≤ 10 → ∀ (l : List Tp) (A : Option Addr) (cap : Nat) (c : Int) (w : World), m ≤ cap → tok l → -100 + (m : Int) ≤ c → c ≤ 100 → Rows 3 int3 (0,0,0) w w.heap.size A m l →
    Calls Try.prog 50 #[.int .i64 c, .slice A m cap, .bool wt] w fun e w' => e = .returned (.int .i64 (sumF wt m c l)) ∧ Below w.heap.size w w' := by
  intro m
  induction m with
  | zero =>
    intro _ l A cap c w _ _ _ _ _
    have hs : sumF wt 0 c l = if c = 1 then 1 else 0 := rfl
    rw [hs]
    by_cases hc : c = 1
    · rw [if_pos hc]
      have hc' : (c == 1) = true := by simpa using hc
      clear hs
      go_enter Try.func50, Try.ntmps50
      go_wp2
      go_ret
      exact ⟨rfl, (by repeat (first | exact Below.refl _ _ | assumption | refine Below.setCell ?_ (by first | (simp; done) | (simp; omega) | omega) _ | refine Below.drew ?_ | refine below_drewN ?_ _ | refine Below.alloc ?_ (by first | (simp; done) | (simp; omega) | omega) _ | refine below_alloc ?_ _ | refine below_step ?_ (by assumption)))⟩
    · rw [if_neg hc]
      have hc' : (c == 1) = false := by simpa using hc
      clear hs
      go_enter Try.func50, Try.ntmps50
      go_wp2
      go_ret
      exact ⟨rfl, (by repeat (first | exact Below.refl _ _ | assumption | refine Below.setCell ?_ (by first | (simp; done) | (simp; omega) | omega) _ | refine Below.drew ?_ | refine below_drewN ?_ _ | refine Below.alloc ?_ (by first | (simp; done) | (simp; omega) | omega) _ | refine below_alloc ?_ _ | refine below_step ?_ (by assumption)))⟩
  | succ m ih =>
    intro hm10 l A cap c w hcap htok hc1 hc2 hx
    obtain ⟨T, l, rfl⟩ : ∃ t l', l = t :: l' := by
      cases l with
      | nil => have := hx.1; simp at this
      | cons t l => exact ⟨t, l, rfl⟩
    obtain ⟨b0, off, rfl, hb0, hq1, hq2, hq3⟩ := rows_tp hx 0 (by omega)
    rw [Nat.zero_mul, Nat.add_zero] at hq1 hq2 hq3
    change w.cell? _ = some (.int .i64 T.1) at hq1
    change w.cell? _ = some (.int .i64 T.2.1) at hq2
    change w.cell? _ = some (.int .i64 T.2.2) at hq3
    have hrt := rows_tail (cap := cap) hx
    obtain ⟨A3, hA3⟩ : ∃ A3 : Option Addr, (if cap = 1 then (some ⟨b0, off, none⟩ : Option Addr) else some ⟨b0, off + 3, none⟩) = A3 := ⟨_, rfl⟩
    rw [hA3] at hrt
    have hrr : Rows 3 int3 (0,0,0) w w.heap.size A3 m l := by
      rcases hrt with h | ⟨h1, h2⟩
      · exact h
      · omega
    obtain ⟨n1, n2, o1, o2⟩ := htok T (List.mem_cons_self ..)
    have htl := tok_tail htok
    have hlen : l.length = m := hrr.1
    have ci := fun (A' : Option Addr) cap' W (h1 : m ≤ cap') hr => ih (by omega) l A' cap' c W h1 htl (by omega) (by omega) hr
    have cj := fun W (h : Below w.heap.size w W) => joinN_any A3 m (cap - 1) l T.1 T.2.1 W (by omega) ((hrr.below h).more h.size)
    have ck := fun (A' : Option Addr) cap' W (h1 : m ≤ cap') hr => ih (by omega) (l.map (jnT T.1 T.2.1)) A' cap' (c - 1) W h1 (tok_join (a := T.1) (b := T.2.1) htl n1) (by omega) (by omega) hr
    have hs : sumF wt (m + 1) c (T :: l) = (if wt = true then T.2.2 else 1) * sumF wt m c l + (if T.1 = T.2.1 then 0 else sumF wt m (c - 1) (l.map (jnT T.1 T.2.1))) := rfl
    have bd1 := sumF_bd wt m c l htl
    have bd2 := sumF_bd wt m (c - 1) (l.map (jnT T.1 T.2.1)) (tok_join (a := T.1) (b := T.2.1) htl n1)
    have bd3 := sumF_bd wt (m + 1) c (T :: l) htok
    have p1 := pow61 (n := m) (by omega)
    have p2 := pow61 (n := m + 1) (by omega)
    rw [hs] at bd3 ⊢
    have hbw : 1 ≤ (if wt = true then T.2.2 else 1) := by split <;> omega
    generalize hwv : (if wt = true then T.2.2 else 1) = by_ at *
    have a1 : 0 ≤ by_ * sumF wt m c l := Int.mul_nonneg (by omega) bd1.1
    have a2 : by_ * sumF wt m c l ≤ 713342911662882601 := by
      split at bd3 <;> omega
    generalize sumF wt m c l = X at *
    generalize sumF wt m (c - 1) (l.map (jnT T.1 T.2.1)) = Y at *
    have hwm : IntKind.i64.wrap (by_ * X) = by_ * X := IntWalk.i64_in _ (by omega)
    have hwc : IntKind.i64.wrap (c - 1) = c - 1 := IntWalk.i64_in _ (by omega)
    obtain ⟨Z, hZ⟩ : ∃ Z, Z = by_ * X + (if T.1 = T.2.1 then 0 else Y) := ⟨_, rfl⟩
    rw [← hZ] at bd3 ⊢
    have HZ := Lib.hid hZ
    clear hZ
    have CI := Lib.hid ci
    have CJ := Lib.hid cj
    have CK := Lib.hid ck
    have HR := Lib.hid hrr
    have HWV := Lib.hid hwv
    clear ci cj ck hrr hrt hs ih htl htok hx bd1 hwv
    obtain ⟨n10, n11⟩ := n1
    obtain ⟨n20, n21⟩ := n2
    have hne : (((m + 1 : Nat) : Int) == 0) = false := by simp; omega
    have hlt1 : decide ((1 : Int) ≤ ((m + 1 : Nat) : Int)) = true := decide_eq_true (by omega)
    have hcp : 1 ≤ cap := by omega
    go_enter Try.func50, Try.ntmps50
    go_upto_region 5 with fail
    go_cut [7, 8] (fun s u wc => ∃ tb, isPs s tb ∧ u = .slice A3 m (cap - 1) ∧ TJ w T tb wc)
    case first =>
      refine wp_region_mix (by kernel_rfl) (by kernel_rfl) ?_
      refine wpC_take (f := 3) (by kernel_rfl) (by kernel_rfl) ⟨⟨_, (Below.refl _ _).drew⟩, rfl⟩ [0, 1, 2, 3, 4] _ _ (by kernel_rfl) ?_
      simp only [List.map_cons, List.map_nil, List.getElem?_toArray, List.getElem?_cons_succ, List.getElem?_cons_zero, Option.getD_some]
      repeat (go_big_quiet_step (fail))
      refine wpQuiet_nil ?_
      have hB : Below w.heap.size w w.drew := (Below.refl _ _).drew
      refine wpC_all (rs := [5]) (by kernel_rfl) (by decide) ?_
      intro i hi
      simp only [List.mem_cons, List.not_mem_nil, or_false] at hi
      subst hi
      refine ⟨_, rfl, ?_⟩
      go_simp
      have hu : Bk (w.alloc (.cells #[.int .i64 0, .int .i64 0, .int .i64 0] 37)).drew w.heap.size #[.int .i64 0, .int .i64 0, .int .i64 0] 37 := (Bk.new w #[.int .i64 0, .int .i64 0, .int .i64 0] 37).later (Below.refl _ _).drew
      have hB : Below w.heap.size w (w.alloc (.cells #[.int .i64 0, .int .i64 0, .int .i64 0] 37)).drew := ((Below.refl _ w).alloc (Nat.le_refl _) _).drew
      generalize (w.alloc (.cells #[.int .i64 0, .int .i64 0, .int .i64 0] 37)).drew = WW0 at *
      refine ⟨⟨⟨_, hB⟩, rfl⟩, ?_⟩
      refine wpC_all (rs := [6]) (by kernel_rfl) (by decide) ?_
      intro i hi
      simp only [List.mem_cons, List.not_mem_nil, or_false] at hi
      subst hi
      refine ⟨_, rfl, ?_⟩
      obtain ⟨z0, f0⟩ := hu.cell 0
      obtain ⟨z1, f1⟩ := hu.cell 1
      obtain ⟨z2, f2⟩ := hu.cell 2
      have hul := hu.lt
      simp at z0 z1 z2
      have hJ : TJ w T w.heap.size (((WW0.setCell ⟨w.heap.size, 0, none⟩ (.int .i64 T.1)).setCell ⟨w.heap.size, 1, none⟩ (.int .i64 T.2.1)).setCell ⟨w.heap.size, 2, none⟩ (.int .i64 T.2.2)) :=
        ⟨((hB.setCell (Nat.le_refl _) _).setCell (Nat.le_refl _) _).setCell (Nat.le_refl _) _, Nat.le_refl _, by simpa using hul, by go_simp, by go_simp, by go_simp⟩
      go_simp
      refine ⟨⟨⟨_, hJ.1⟩, rfl⟩, ?_⟩
      replace hB := hJ.1
      refine wpC_take (f := 0) (by kernel_rfl) (by kernel_rfl) ⟨⟨_, hB⟩, rfl⟩ [7] _ _ (by kernel_rfl) ?_
      simp only [List.map_cons, List.map_nil, List.getElem?_toArray, List.getElem?_cons_succ, List.getElem?_cons_zero, Option.getD_some]
      repeat (go_big_quiet_step (fail))
      refine wpQuiet_nil ?_
      refine wpC_done (by kernel_rfl) ?_
      go_wp2_with fail
      go_meet
      case rel => exact ⟨_, rfl, rfl, hJ⟩
    case rest =>
      obtain ⟨tb, hp, rfl, hJ⟩ := hcut
      unfold isPs at hp
      subst hp
      have HJ := Lib.hid hJ
      obtain ⟨-, hj2, hj3, hj4, hj5, hj6⟩ := hJ
      cases wt
      · have hby : by_ = 1 := HWV.out.symm
        subst hby
        clear HWV
        go_wp2_with fail
        refine (CI.out A3 (cap - 1) _ (by omega) ((HR.out.below HJ.out.1).more HJ.out.1.size)).mono ?_
        rintro e w1 ⟨rfl, hb1⟩
        have HJ1 := Lib.hid (HJ.out.later hb1)
        obtain ⟨-, -, hk3, hk4, hk5, hk6⟩ := HJ1.out
        clear hb1 HJ hj3 hj4 hj5 hj6
        by_cases hAB : T.1 = T.2.1
        · have hz : Z = 1 * X := by rw [HZ.out, if_pos hAB, Int.add_zero]
          subst hz
          have hAB' : (T.1 != T.2.1) = false := by simpa using hAB
          clear hAB
          go_wp2
          go_ret
          exact ⟨ret_int (by first | rfl | simp), HJ1.out.1⟩
        · have hz : Z = 1 * X + Y := by rw [HZ.out, if_neg hAB]
          subst hz
          have hAB' : (T.1 != T.2.1) = true := by simpa using hAB
          have hwa : IntKind.i64.wrap (1 * X + Y) = 1 * X + Y := IntWalk.i64_in _ (by omega)
          have hwa2 : IntKind.i64.wrap (X + Y) = X + Y := IntWalk.i64_in _ (by omega)
          clear hAB
          go_wp2_with fail
          refine (CJ.out _ HJ1.out.1).mono ?_
          rintro e w2 ⟨⟨v5, rfl, ho5⟩, hb2⟩
          obtain ⟨A5, cap5, rfl, hm5, -, hR5, -⟩ := own_tapes ho5
          have HR5 := Lib.hid hR5
          have HB2 := Lib.hid (below_step HJ1.out.1 hb2)
          clear ho5 hR5 hb2
          go_wp2_with fail
          refine (CK.out A5 cap5 _ hm5 HR5.out).mono ?_
          rintro e w3 ⟨rfl, hb3⟩
          have HB3 := Lib.hid (below_step HB2.out hb3)
          clear hb3
          go_wp2
          go_ret
          exact ⟨ret_int (by first | rfl | simp), HB3.out⟩
      · have hby : by_ = T.2.2 := HWV.out.symm
        subst hby
        clear HWV
        go_wp2_with fail
        refine (CI.out A3 (cap - 1) _ (by omega) ((HR.out.below HJ.out.1).more HJ.out.1.size)).mono ?_
        rintro e w1 ⟨rfl, hb1⟩
        have HJ1 := Lib.hid (HJ.out.later hb1)
        obtain ⟨-, -, hk3, hk4, hk5, hk6⟩ := HJ1.out
        clear hb1 HJ hj3 hj4 hj5 hj6
        by_cases hAB : T.1 = T.2.1
        · have hz : Z = T.2.2 * X := by rw [HZ.out, if_pos hAB, Int.add_zero]
          subst hz
          have hAB' : (T.1 != T.2.1) = false := by simpa using hAB
          clear hAB
          go_wp2
          go_ret
          exact ⟨ret_int (by first | rfl | simp), HJ1.out.1⟩
        · have hz : Z = T.2.2 * X + Y := by rw [HZ.out, if_neg hAB]
          subst hz
          have hAB' : (T.1 != T.2.1) = true := by simpa using hAB
          have hwa : IntKind.i64.wrap (T.2.2 * X + Y) = T.2.2 * X + Y := IntWalk.i64_in _ (by omega)
          skip
          clear hAB
          go_wp2_with fail
          refine (CJ.out _ HJ1.out.1).mono ?_
          rintro e w2 ⟨⟨v5, rfl, ho5⟩, hb2⟩
          obtain ⟨A5, cap5, rfl, hm5, -, hR5, -⟩ := own_tapes ho5
          have HR5 := Lib.hid hR5
          have HB2 := Lib.hid (below_step HJ1.out.1 hb2)
          clear ho5 hR5 hb2
          go_wp2_with fail
          refine (CK.out A5 cap5 _ hm5 HR5.out).mono ?_
          rintro e w3 ⟨rfl, hb3⟩
          have HB3 := Lib.hid (below_step HB2.out hb3)
          clear hb3
          go_wp2
          go_ret
          exact ⟨ret_int (by first | rfl | simp), HB3.out⟩
end Go.Proofs.Ytloogollfconpaa

namespace Go.Proofs.Ytloogollfconpaa
open Go.RowKit
attribute [local go_sem] Later.cell Same.cell

theorem vNet_inn {n : Int} {l : List Tp} (h : vNet n l = true) : inn n.toNat l := by
  obtain ⟨h1, h2, h3⟩ := vNet_iff.1 h
  intro t ht
  have := h3 t ht
  omega
/-- The labels of the part, as the reference has them. -/
theorem part_jn {n : Int} {l : List Tp} {a b : Int} (h : vNet n l = true) (ha : 0 ≤ a ∧ a < n) (hb : 0 ≤ b ∧ b < n) : sB (partL n.toNat l a) b = (at6 (full l R0) b == at6 (full l R0) a) := by
  obtain ⟨h1, h2, h3⟩ := vNet_spec h
  exact part_spec h3 (vNet_inn h) (by omega) (by omega) (by omega)
end Go.Proofs.Ytloogollfconpaa

namespace Go.Proofs.Ytloogollfconpaa
open Go.RowKit
attribute [local go_sem] Later.cell Same.cell

/-- A node beyond the net is joined to none of it. -/
theorem out_part {N : Nat} {l : List Tp} (hok : okL l) (hl : inn N l) {a x : Int} (ha : nod a) (haN : a < N) (hx : nod x) (hxN : (N : Int) ≤ x) : at6 (full l R0) x ≠ at6 (full l R0) a := by
  intro h
  have := full_inv (h := fun u => if u = x then 1 else 0) hok (fun t ht => by
    have h1 := hl t ht
    rw [if_neg (by omega), if_neg (by omega)]) (r := R0) rfl (fun u v hu hv huv => by rw [at6_R0 hu, at6_R0 hv] at huv; rw [huv]) x a hx ha h
  rw [if_pos rfl, if_neg (by omega)] at this
  cases this
def cntB (S : List Bool) : Nat → Nat
  | 0 => 0
  | k + 1 => cntB S k + if sB S k = true then 1 else 0
theorem cntB_le (S : List Bool) : ∀ k, cntB S k ≤ k := by
  intro k
  induction k with
  | zero => exact Nat.le_refl _
  | succ k ih => show _ + _ ≤ _; split <;> omega
theorem cnt_cls {N : Nat} {l : List Tp} {a : Int} (hv : vNet N l = true) (ha : 0 ≤ a ∧ a < N) : cntB (partL N l a) N = cls l a := by
  obtain ⟨hn, hlen, hl⟩ := vNet_spec hv
  have hin : inn N l := by have := vNet_inn hv; simpa using this
  have hna : nod a := ⟨ha.1, by omega⟩
  have h1 : ∀ k, k ≤ N → cntB (partL N l a) k = cntK (full l R0) (at6 (full l R0) a) k := by
    intro k
    induction k with
    | zero => intro _; rfl
    | succ k ih =>
      intro hk
      have hs := part_jn hv ha (b := (k : Int)) ⟨by omega, by omega⟩
      rw [Int.toNat_natCast] at hs
      show _ + _ = _ + _
      rw [ih (by omega), hs, num_at6]
      simp
  have h2 : ∀ d, N + d ≤ 6 → cntK (full l R0) (at6 (full l R0) a) (N + d) = cntK (full l R0) (at6 (full l R0) a) N := by
    intro d
    induction d with
    | zero => intro _; rfl
    | succ d ih =>
      intro hd
      have e : cntK (full l R0) (at6 (full l R0) a) (N + (d + 1)) = cntK (full l R0) (at6 (full l R0) a) (N + d) + if num (full l R0) (N + d) = at6 (full l R0) a then 1 else 0 := rfl
      have hne := out_part hl hin hna ha.2 (x := ((N + d : Nat) : Int)) ⟨by omega, by omega⟩ (by omega)
      rw [e, ih (by omega), num_at6, if_neg hne]; rfl
  rw [h1 N (Nat.le_refl _)]
  have h3 := h2 (6 - N) (by omega)
  rw [show N + (6 - N) = 6 by omega, cntK_six] at h3
  rw [← h3]; rfl
def OwR (w : World) (B : Nat) (R : List Int) (c : Int) (l : List Tp) (n : Nat) (i v : Value) (W : World) : Prop :=
  ∃ k : Nat, k ≤ n ∧ i = .int .i64 k ∧ W.ownsRow w.heap.size 37 3 v (nearK R c l k).length (tcells (nearK R c l k)) ∧ Below w.heap.size w W
theorem OwR.mk {w : World} {B : Nat} {R : List Int} {c : Int} {l : List Tp} {n : Nat} {i v : Value} {W : World} (k : Nat) (h1 : k ≤ n) (h2 : i = .int .i64 k) (h3 : W.ownsRow w.heap.size 37 3 v (nearK R c l k).length (tcells (nearK R c l k))) (h4 : Below w.heap.size w W) : OwR w B R c l n i v W := ⟨k, h1, h2, h3, h4⟩
set_option maxRecDepth 20000 in
set_option maxHeartbeats 4000000 in
theorem own_any (N : Nat) (A : Option Addr) (len cap : Nat) (l : List Tp) (a : Int) (w : World) (hv : vNet N l = true) (ha : 0 ≤ a ∧ a < N) (hx : Rows 3 int3 (0,0,0) w w.heap.size A len l) :
    Calls Try.prog 47 #[.int .i64 (N : Int), .slice A len cap, .int .i64 a] w fun e w' => (∃ v, e = .returned (.tuple #[v, .int .i64 (cls l a : Int)]) ∧ w'.ownsRow w.heap.size 37 3 v (near l a).length (tcells (near l a))) ∧ Below w.heap.size w w' := by
  obtain ⟨hn, hlen, hl⟩ := vNet_spec hv
  have hinn : inn N l := by have := vNet_inn hv; simpa using this
  have hll := hx.1
  rw [hll] at hlen
  have c1 := rpart_any N A len cap l a w (by omega) hlen ha hinn hx
  have hcc := cnt_cls hv ha
  have hsB := fun (b : Int) hb => part_jn hv ha (b := b) hb
  rw [Int.toNat_natCast] at hsB
  have hna := near_all l a
  rw [hll] at hna
  have hyes := fun k (hk : k < l.length) h => nearK_yes (R := full l R0) (c := at6 (full l R0) a) hk h
  have hno := fun k (hk : k < l.length) h => nearK_no (R := full l R0) (c := at6 (full l R0) a) hk h
  have hLn := fun k => nearK_len (full l R0) (at6 (full l R0) a) l k
  have hmem := fun k (hk : k < l.length) => vNet_mem hv hk
  obtain ⟨j0, hj, hy0, hy1, hy2⟩ := info_parts info_tape
  have hJ0 := Lib.hid hj
  have hJ1 := Lib.hid hy0
  have hJ2 := Lib.hid hy1
  have hJ3 := Lib.hid hy2
  have C1 := Lib.hid c1
  have HX := Lib.hid hx
  have HL := Lib.hid hll
  have HC := Lib.hid hcc
  have HS := Lib.hid hsB
  have HNA := Lib.hid hna
  have HY := Lib.hid hyes
  have HN := Lib.hid hno
  have HLn := Lib.hid hLn
  have HM := Lib.hid hmem
  generalize partL N l a = S at *
  have HCL := Lib.hid (cntB_le S)
  have HCS : Hid (∀ k, cntB S (k + 1) = cntB S k + if sB S k = true then 1 else 0) := Lib.hid (fun _ => rfl)
  clear hj hy0 hy1 hy2 c1 hx hll hcc hsB hna hyes hno hLn hmem hl hinn hv
  generalize full l R0 = R at *
  generalize hc : at6 R a = c at *
  clear hc
  go_enter Try.func47, Try.ntmps47
  go_wp2_with fail
  refine C1.out.mono ?_
  rintro e w1 ⟨⟨v, rfl, ho⟩, hb1⟩
  obtain ⟨g, cp, rfl, -, -, hg, -, hfr, hce⟩ := own_bools ho (by omega)
  have hs1 := hb1.size
  have HCE := Lib.hid hce
  clear ho hce hfr
  go_wp2
  go_loop [9, 10] (fun x i => ∃ k : Nat, k ≤ N ∧ i = .int .i64 k ∧ x = .int .i64 (cntB S k)) (fun _ i => N - (intOf i).toNat)
  case atStart => exact ⟨0, Nat.zero_le _, rfl, rfl⟩
  case round =>
    obtain ⟨k, hk, rfl, rfl⟩ := hrel
    by_cases hlt : k < N
    · have hq := HCE.out (k : Int) (by omega) (by omega)
      rw [Int.toNat_natCast] at hq
      have hsu := HCS.out k
      have hcl := HCL.out k
      have hk1 : (k : Int) < N := by omega
      generalize cntB S k = C at *
      cases hs : sB S k
      · rw [hs] at hq hsu
        have HSU := Lib.hid hsu
        clear hsu
        go_wp2
        go_round
        case rel => exact ⟨k + 1, by omega, by go_num, by rw [HSU.out]; rfl⟩
        case measure => simp [intOf]; omega
      · rw [hs, if_pos rfl] at hsu
        rw [hs] at hq
        have HSU := Lib.hid hsu
        have hwc : IntKind.i64.wrap ((C : Int) + 1) = (C : Int) + 1 := IntWalk.i64_in _ (by omega)
        clear hsu
        go_wp2
        go_round
        case rel => exact ⟨k + 1, by omega, by go_num, by rw [HSU.out]; go_num⟩
        case measure => simp [intOf]; omega
    · have hkn : N = k := by omega
      have hk2 : ¬ (k : Int) < N := by omega
      have HCC := Lib.hid (show cntB S k = cls l a from by rw [← hkn]; exact HC.out)
      go_wp2
      go_loopw [12, 11] (fun i v W => OwR w1 0 R c l len i v W) (fun i _ _ => len - (intOf i).toNat)
      case atStart => exact OwR.mk 0 (Nat.zero_le _) rfl (World.ownsRow_nil _ _ _ _) (Below.refl _ _)
      case round =>
        obtain ⟨j, hj, rfl, ho1, hb⟩ := hrel
        have hsb := hb.size
        obtain ⟨A3, cap3, rfl, hn1, hn2, -, -⟩ := own_tapes ho1
        have HO := Lib.hid ho1
        have hB0 : Below w.heap.size w wr := hb1.trans (hb.mono hs1)
        clear ho1
        by_cases hjl : j < len
        · obtain ⟨b0, off, hA, hb0, hc1, hc2, hc3⟩ := rows_tp (HX.out.below hB0) j hjl
          have hjp : j < l.length := by rw [HL.out]; exact hjl
          obtain ⟨t0, t1, t2, -, -⟩ := HM.out j hjp
          have hs := HS.out (tpA l j).1 ⟨t0, by omega⟩
          have hq := HCE.out (tpA l j).1 t0 (by omega)
          have hq' := (hb.cell (p := ⟨g, (tpA l j).1.toNat, none⟩) hg).trans hq
          have hy := HY.out j hjp
          have hn := HN.out j hjp
          have hl3 := HLn.out j
          rw [HL.out] at hl3
          have hk1 : (j : Int) < len := by omega
          have hgr : g < wr.heap.size := by omega
          subst hA
          generalize hT : tpA l j = T at *
          have HT := Lib.hid hT
          clear hT hq
          rw [hs] at hq'
          by_cases hcc : at6 R T.1 = c
          · have hcc' : (at6 R T.1 == c) = true := by simpa using hcc
            rw [hcc'] at hq'
            obtain ⟨hy1, -⟩ := hy hcc
            have HY1 := Lib.hid hy1
            clear hy hn hs hcc hcc' hy1
            generalize hnk : nearK R c l j = NK at *
            have hnl : NK.length ≤ len := hl3
            go_wp2_with (at_builtin; go_loud (refine wpList_append_own _ rfl (.tmp 42) (.tmp 47) 22 rfl w1.heap.size 37 j0 (.agg #[.int .i64 0, .int .i64 0, .int .i64 0]) 3 24 Try.underlying22 hJ0.out hJ1.out hJ2.out hJ3.out rfl (by decide) _ _ _ rfl (HO.out.alloc _) ⟨wr.heap.size, 0, none⟩ 1 1 (int3 T) rfl rfl (tnews3 _ _ _) (tone3 _) (by unfold maxLen; omega) (by omega) (by simp; omega) ?_))
            intro v7 w7 hown7 hgrow7 _
            have hb7 : Below w1.heap.size w1 w7 := (hb.alloc hsb _).trans (grown_below hgrow7 (by simp; omega) (fun q hq => ((HO.out.alloc (.cells #[.int .i64 T.1, .int .i64 T.2.1, .int .i64 T.2.2] 37)).lt q hq).1))
            have HR3 : Hid (w7.ownsRow w1.heap.size 37 3 v7 (nearK R c l (j + 1)).length (tcells (nearK R c l (j + 1)))) := Lib.hid (by rw [HY1.out, List.length_append, tcells_app]; exact hown7)
            clear hown7 hgrow7 HO
            go_wp2
            go_roundw
            case rel => exact OwR.mk (j + 1) (by omega) (by go_num) HR3.out hb7
            case measure => simp [intOf]; omega
          · have hcc' : (at6 R T.1 == c) = false := by simpa using hcc
            rw [hcc'] at hq'
            obtain ⟨hn1', -⟩ := hn hcc
            have HN1 := Lib.hid hn1'
            clear hy hn hs hcc hcc' hn1'
            go_wp2
            go_roundw
            case rel => exact OwR.mk (j + 1) (by omega) (by go_num) (by rw [HN1.out]; exact HO.out) hb
            case measure => simp [intOf]; omega
        · have hjn : j = len := by omega
          have hjl2 : ¬ (j : Int) < len := by omega
          have hfin : wr.ownsRow w1.heap.size 37 3 (.slice A3 (nearK R c l j).length cap3) (near l a).length (tcells (near l a)) := by
            have h := HO.out
            rw [hjn, HNA.out] at h ⊢
            exact h
          have HF := Lib.hid (town_mono hfin hs1)
          have hcc := HCC.out
          generalize (nearK R c l j).length = q at *
          clear hfin HO hjn
          go_wp2
          go_ret2
          exact ⟨⟨_, by first | rfl | rw [hcc], HF.out⟩, hB0⟩
/-! ### Sums -/
theorem sum_trees {l : List Tp} (hl : okL l) {a : Int} (ha : nod a) : sumF true (near l a).length (cls l a : Int) (near l a) = treesN l a := by
  have hok := near_ok hl a
  have h := sumF_lab (near l a) (cls l a : Int) id R0 (fun t ht => ⟨(hok t ht).1, (hok t ht).2.1⟩) rfl (fun x y hx hy => by rw [at6_R0 hx, at6_R0 hy]; rfl)
  have e : (near l a).map (rn id) = near l a := by
    have : rn id = id := by funext t; rfl
    rw [this, List.map_id]
  have hc := (near_labs hl ha).2
  rw [e, if_pos (by omega)] at h
  rw [h, show ((cls l a : Int) - 1).toNat = cls l a - 1 by omega]
  rfl
theorem sum_twos {l : List Tp} (hl : okL l) {a x y : Int} (ha : nod a) (hx : nod x) (hy : nod y) (hxy : x ≠ y) : sumF true (near l a).length ((cls l a : Int) - 1) ((near l a).map (jT x y)) = twosN l a x y := by
  have hok := near_ok hl a
  have h := sumF_lab (near l a) ((cls l a : Int) - 1) (jx x y) (mgL R0 (x, y, 0)) (fun t ht => ⟨(hok t ht).1, (hok t ht).2.1⟩) (by rw [mgL_len]; rfl) (fun u v hu hv => by
    rw [mgL_iff (r := R0) (t := (x, y, 0)) rfl hu hv, at6_R0 hu, at6_R0 hv, at6_R0 hx, at6_R0 hy, jx_iff])
  have e : (near l a).map (rn (jx x y)) = (near l a).map (jT x y) := rfl
  have hc := (near_labs hl ha).2
  rw [e] at h
  rw [h]
  unfold twosN
  by_cases h1 : cls l a - 1 = 0
  · rw [if_pos h1, if_neg (by omega)]
  · rw [if_neg h1, if_pos (by omega), show ((cls l a : Int) - 1 - 1).toNat = cls l a - 1 - 1 by omega]
    rw [sumL_contract (t := (x, y, 0)) hx hy hok _ R0 lab_R0 (by rw [at6_R0 hx, at6_R0 hy]; exact hxy)]
    exact sumL_congr (fun r => by unfold apt tt; simp) _ _ _
set_option maxRecDepth 20000 in
set_option maxHeartbeats 4000000 in
theorem between_any (A : Option Addr) (cap : Nat) (l : List Tp) (a x y : Int) (w : World) (hlen : l.length ≤ 10) (hl : okL l) (ha : nod a) (hnx : nod x) (hny : nod y) (hm : (near l a).length ≤ cap) (hx : Rows 3 int3 (0,0,0) w w.heap.size A (near l a).length (near l a)) :
    Calls Try.prog 49 #[.int .i64 (cls l a : Int), .slice A (near l a).length cap, .int .i64 x, .int .i64 y] w fun e w' => e = .returned (.int .i64 (twosN l a x y)) ∧ Below w.heap.size w w' := by
  by_cases hxy : x = y
  · subst hxy
    rw [twos_self]
    clear hx
    go_enter Try.func49, Try.ntmps49
    go_wp2
    go_ret
    exact ⟨rfl, (by repeat (first | exact Below.refl _ _ | assumption | refine Below.setCell ?_ (by first | (simp; done) | (simp; omega) | omega) _ | refine Below.drew ?_ | refine below_drewN ?_ _ | refine Below.alloc ?_ (by first | (simp; done) | (simp; omega) | omega) _ | refine below_alloc ?_ _ | refine below_step ?_ (by assumption)))⟩
  · have hxy' : (x == y) = false := by simpa using hxy
    have hc6 := cnt6_le (fun x => at6 (full l R0) x = at6 (full l R0) a)
    change cls l a ≤ 6 at hc6
    have hnl := near_len l a
    have c1 := joinN_any A (near l a).length cap (near l a) x y w (by omega) hx
    have htk := tok_join (a := x) (b := y) (tok_of (near_ok hl a)) hnx
    have c2 := fun B cp W (h1 : (near l a).length ≤ cp) hr => rsum_any true (near l a).length (by omega) ((near l a).map (jT x y)) B cp ((cls l a : Int) - 1) W h1 htk (by omega) (by omega) hr
    rw [sum_twos hl ha hnx hny hxy] at c2
    have C1 := Lib.hid c1
    have C2 := Lib.hid c2
    have hwc : IntKind.i64.wrap ((cls l a : Int) - 1) = (cls l a : Int) - 1 := IntWalk.i64_in _ (by omega)
    clear c1 c2 hx htk hl hxy
    generalize twosN l a x y = X at *
    generalize near l a = P at *
    generalize cls l a = c at *
    go_enter Try.func49, Try.ntmps49
    go_wp2_with fail
    refine C1.out.mono ?_
    rintro e w1 ⟨⟨v, rfl, ho⟩, hb1⟩
    obtain ⟨A1, cap1, rfl, hn1, hn2, hR, -⟩ := own_tapes ho
    have HR := Lib.hid hR
    clear ho hR
    go_wp2_with fail
    refine (C2.out _ _ _ hn1 HR.out).mono ?_
    rintro e w2 ⟨rfl, hb2⟩
    go_wp2
    go_ret
    exact ⟨rfl, below_step hb1 hb2⟩
end Go.Proofs.Ytloogollfconpaa

namespace Go.Proofs.Ytloogollfconpaa
open Go.RowKit

/-- Fractions of the same value have the same lowest terms. -/
theorem lowB_same {n d m e : Int} (hd : 1 ≤ d) (he : 1 ≤ e) (h : n * e = m * d) : lowN n d = lowN m e ∧ lowD n d = lowD m e := by
  have key : ∀ {n d k : Int}, 1 ≤ d → 1 ≤ k → lowN (n * k) (d * k) = lowN n d ∧ lowD (n * k) (d * k) = lowD n d := by
    intro n d k hd hk
    have e : (Int.gcd (n * k) (d * k) : Int) = (Int.gcd n d : Int) * k := by
      rw [Int.gcd_mul_right]; push_cast; rw [Int.natAbs_of_nonneg (by omega)]
    unfold lowN lowD
    rw [e]
    exact ⟨Int.mul_ediv_mul_of_pos_left _ _ (by omega), Int.mul_ediv_mul_of_pos_left _ _ (by omega)⟩
  obtain ⟨a1, a2⟩ := key (n := n) (d := d) (k := e) hd he
  obtain ⟨b1, b2⟩ := key (n := m) (d := e) (k := d) he hd
  rw [h] at a1 a2
  rw [Int.mul_comm d e] at a1 a2
  exact ⟨a1.symm.trans b1, a2.symm.trans b2⟩
theorem sumL_le7 {P : List Int → Bool} {l : List Tp} (h : okL l) (h6 : ∀ t, t ∈ l → t.2.2 ≤ 6) : ∀ k r, sumL P k l r ≤ 7 ^ l.length := by
  induction l with
  | nil => intro k r; show (if _ then (1 : Int) else 0) ≤ 1; split <;> omega
  | cons t l ih =>
    intro k r
    have hl : okL l := fun u hu => h u (List.mem_cons_of_mem _ hu)
    have ih' := ih hl (fun u hu => h6 u (List.mem_cons_of_mem _ hu))
    obtain ⟨-, -, -, h3, -⟩ := h t (List.mem_cons_self ..)
    have h4 := h6 t (List.mem_cons_self ..)
    rw [List.length_cons, Int.pow_succ]
    have h7 := sumL_nonneg (P := P) hl k r
    have h5 : t.2.2 * sumL P k l r ≤ 6 * 7 ^ l.length := Int.mul_le_mul h4 (ih' _ _) h7 (by omega)
    have h8 : 0 ≤ (7 : Int) ^ l.length := by have := ih' k r; omega
    show t.2.2 * sumL P k l r + _ ≤ _
    split
    · omega
    · cases k with
      | zero => show _ + 0 ≤ _; omega
      | succ k => have := ih' k (mgL r t); show _ + sumL P k l (mgL r t) ≤ _; omega
theorem trees_small {l : List Tp} (h : okL l) (h6 : ∀ t, t ∈ l → t.2.2 ≤ 6) (h5 : l.length ≤ 5) {a : Int} (ha : nod a) : 1 ≤ treesN l a ∧ treesN l a ≤ 16807 := by
  refine ⟨trees_pos h ha, ?_⟩
  have h1 := sumL_le7 (P := fun _ => true) (near_ok h a) (fun t ht => h6 t (List.mem_filter.1 ht).1) (cls l a - 1) R0
  have h2 := near_len l a
  have h3 : (near l a).length = 0 ∨ (near l a).length = 1 ∨ (near l a).length = 2 ∨ (near l a).length = 3 ∨ (near l a).length = 4 ∨ (near l a).length = 5 := by omega
  have h4 : (7 : Int) ^ (near l a).length ≤ 16807 := by rcases h3 with e | e | e | e | e | e <;> rw [e] <;> decide
  exact Int.le_trans h1 h4
/-- The sign of a tape at a node. -/
def sgT (v : Int) (t : Tp) : Int := (if t.1 = v then 1 else 0) - (if t.2.1 = v then 1 else 0)
/-- What the currents of the first j tapes add up to at a node, times the trees. -/
def nodS (l : List Tp) (a b v : Int) (j : Nat) : Int := sumTo (fun i => sgT v (tpA l i) * curF l a b i) j
theorem nodS_succ (l : List Tp) (a b v : Int) (j : Nat) : nodS l a b v (j + 1) = nodS l a b v j + sgT v (tpA l j) * curF l a b j := rfl
theorem sgT_cases (v : Int) (t : Tp) : sgT v t = 1 ∨ sgT v t = 0 ∨ sgT v t = -1 := by
  unfold sgT; split <;> split <;> omega
theorem sg_bd {s F T : Int} (hs : s = 1 ∨ s = 0 ∨ s = -1) (h1 : -T ≤ F) (h2 : F ≤ T) : -T ≤ s * F ∧ s * F ≤ T := by
  rcases hs with rfl | rfl | rfl
  · omega
  · omega
  · omega
theorem nodS_bd {l : List Tp} (hl : okL l) {a b : Int} (ha : nod a) (hb : nod b) (h : at6 (full l R0) a = at6 (full l R0) b) (v : Int) : ∀ j, j ≤ l.length → -(treesN l a * j) ≤ nodS l a b v j ∧ nodS l a b v j ≤ treesN l a * j := by
  intro j
  induction j with
  | zero => intro _; show -(treesN l a * 0) ≤ 0 ∧ 0 ≤ treesN l a * 0; simp
  | succ j ih =>
    intro hj
    have h1 := ih (by omega)
    have h2 := curF_bd hl ha hb h (i := j) (by omega)
    have h3 := sg_bd (sgT_cases v (tpA l j)) h2.1 h2.2
    rw [nodS_succ]
    have e : treesN l a * ((j + 1 : Nat) : Int) = treesN l a * j + treesN l a := by rw [Int.natCast_succ, Int.mul_add, Int.mul_one]
    rw [e]
    omega
theorem nodS_all {l : List Tp} (hl : okL l) {a b : Int} (ha : nod a) (hb : nod b) (h : at6 (full l R0) a = at6 (full l R0) b) (v : Int) :
    nodS l a b v l.length = treesN l a * (if a = b then 0 else (if a = v then 1 else 0) - (if b = v then 1 else 0)) := by
  have key := cur_node hl ha hb h (fun x => if x = v then 1 else 0)
  have e : nodS l a b v l.length = sumTo (fun i => ((if (tpA l i).1 = v then (1 : Int) else 0) - (if (tpA l i).2.1 = v then 1 else 0)) * curF l a b i) l.length := rfl
  rw [e, key]
  by_cases hab : a = b
  · rw [if_pos hab, if_pos hab, Int.mul_zero]
  · rw [if_neg hab, if_neg hab]
/-- One more tape. -/
theorem bal_step {S T F s : Int} (hT : 1 ≤ T) : lowN (lowN S T * lowD F T + s * lowN F T * lowD S T) (lowD S T * lowD F T) = lowN (S + s * F) T ∧ lowD (lowN S T * lowD F T + s * lowN F T * lowD S T) (lowD S T * lowD F T) = lowD (S + s * F) T := by
  have d1 := lowD_pos S T hT
  have d2 := lowD_pos F T hT
  have c1 := low_cross S T
  have c2 := low_cross F T
  refine lowB_same (by have := Int.mul_le_mul d1 d2 (by decide) (by omega); omega) hT ?_
  generalize lowN S T = p at *
  generalize lowD S T = q at *
  generalize lowN F T = u at *
  generalize lowD F T = v at *
  have e1 : (p * v + s * u * q) * T = p * T * v + s * (u * T) * q := by rw [Int.add_mul]; congr 1 <;> ac_rfl
  rw [e1, c1, c2, Int.add_mul]
  congr 1 <;> ac_rfl
theorem low_bd {n d : Int} (hd : 1 ≤ d) {N : Int} (h1 : -N ≤ n) (h2 : n ≤ N) : (-N ≤ lowN n d ∧ lowN n d ≤ N) ∧ 1 ≤ lowD n d ∧ lowD n d ≤ d := by
  have h3 := lowN_abs n d hd
  refine ⟨by omega, lowD_pos n d hd, lowD_le n d hd⟩
theorem bal_wrap {p q u v s : Int} (h1 : -100000 ≤ p ∧ p ≤ 100000) (h2 : 1 ≤ q ∧ q ≤ 16807) (h3 : -16807 ≤ u ∧ u ≤ 16807) (h4 : 1 ≤ v ∧ v ≤ 16807) (hs : s = 1 ∨ s = -1) :
    (-2000000000 ≤ p * v ∧ p * v ≤ 2000000000) ∧ (-16807 ≤ s * u ∧ s * u ≤ 16807) ∧ (-300000000 ≤ s * u * q ∧ s * u * q ≤ 300000000) ∧ (1 ≤ q * v ∧ q * v ≤ 300000000) := by
  have k1 : (-16807 ≤ s * u ∧ s * u ≤ 16807) := by rcases hs with rfl | rfl <;> omega
  have bd : ∀ {x y X Y : Int}, -X ≤ x → x ≤ X → 0 ≤ y → y ≤ Y → 0 ≤ X → -(X * Y) ≤ x * y ∧ x * y ≤ X * Y := by
    intro x y X Y g1 g2 g3 g4 g5
    have e1 : x * y ≤ X * y := Int.mul_le_mul_of_nonneg_right g2 g3
    have e2 : -X * y ≤ x * y := Int.mul_le_mul_of_nonneg_right g1 g3
    have e3 : X * y ≤ X * Y := Int.mul_le_mul_of_nonneg_left g4 g5
    rw [Int.neg_mul] at e2
    omega
  have b1 := bd (x := p) (y := v) (X := 100000) (Y := 16807) h1.1 h1.2 (by omega) h4.2 (by decide)
  have b2 := bd (x := s * u) (y := q) (X := 16807) (Y := 16807) k1.1 k1.2 (by omega) h2.2 (by decide)
  have b3 := bd (x := q) (y := v) (X := 16807) (Y := 16807) (by omega) h2.2 (by omega) h4.2 (by decide)
  have b4 : 1 * 1 ≤ q * v := Int.mul_le_mul h2.1 h4.1 (by decide) (by omega)
  omega
theorem low_times {T w : Int} (hT : 1 ≤ T) : lowN (T * w) T = w ∧ lowD (T * w) T = 1 := by
  have h := lowB_same (n := T * w) (d := T) (m := w) (e := 1) hT (by decide) (by rw [Int.mul_one, Int.mul_comm])
  have h1 : lowN w 1 = w ∧ lowD w 1 = 1 := by
    have e : (Int.gcd w 1 : Int) = 1 := by simp
    unfold lowN lowD; rw [e]; simp
  rw [h1.1, h1.2] at h
  exact h
end Go.Proofs.Ytloogollfconpaa

namespace Go.Proofs.Ytloogollfconpaa
open Go.RowKit
attribute [local go_sem] Later.cell Same.cell

set_option maxHeartbeats 1000000 in
theorem DivisorW_any (n d : Int) (w : World) (h1 : 1 ≤ d) (h2 : d ≤ 9223372036854775807) (h3 : -9223372036854775807 ≤ n) (h4 : n ≤ 9223372036854775807) :
    Calls Try.prog 59 #[.int .i64 n, .int .i64 d] w fun e w' => e = .returned (.int .i64 (Int.gcd n d : Int)) ∧ Below w.heap.size w w' := by
  have hgp := gcd_pos'' (n := n) h1
  have hgl := gcd_le' n d h1
  generalize hG : Int.gcd n d = g at *
  have HG := Lib.hid hG
  clear hG
  go_enter Try.func59, Try.ntmps59
  go_wp2
  go_loopw [0, 1] (fun a b wr => ∃ x y : Int, a = .int .i64 x ∧ b = .int .i64 y ∧ Int.gcd x y = g ∧ -9223372036854775807 ≤ x ∧ x ≤ 9223372036854775807 ∧ -9223372036854775807 ≤ y ∧ y ≤ 9223372036854775807 ∧ Below w.heap.size w wr) (fun _ b _ => (intOf b).natAbs)
  case atStart => exact ⟨n, d, rfl, rfl, HG.out, h3, h4, by omega, h2, Below.refl _ _⟩
  case round =>
    obtain ⟨x, y, rfl, rfl, hg, b1, b2, b3, b4, hB⟩ := hrel
    by_cases hy : y = 0
    · subst hy
      have he := gcd_end hg
      clear hg
      rcases he with rfl | rfl
      · go_wp2
        go_ret
        exact ⟨rfl, hB⟩
      · go_wp2
        go_ret
        exact ⟨ret_int (by omega), hB⟩
    · have hy' : (y == 0) = false := by simpa using hy
      have hm := tmod_bd (x := x) hy
      have hr := Lib.hid (gcd_round hg)
      clear hg
      go_wp2
      go_quiet (fail)
      generalize x.tmod y = z at *
      go_wp2
      go_roundw
      case rel => exact ⟨y, z, rfl, rfl, hr.out, b3, b4, by omega, by omega, below_drewN hB _⟩
      case measure => simp [intOf]; omega

set_option maxHeartbeats 1000000 in
theorem LowestW_any (n d : Int) (w : World) (h1 : 1 ≤ d) (h2 : d ≤ 9223372036854775807) (h3 : -9223372036854775807 ≤ n) (h4 : n ≤ 9223372036854775807) :
    Calls Try.prog 48 #[.int .i64 n, .int .i64 d] w fun e w' => e = .returned (.agg #[.int .i64 (lowN n d), .int .i64 (lowD n d)]) ∧ Below w.heap.size w w' := by
  have hD := fun W => DivisorW_any n d W h1 h2 h3 h4
  have hgp := gcd_pos' n d h1
  have hgl := gcd_le' n d h1
  have e1 := tdiv_gcd_l n d
  have e2 := tdiv_gcd_r n d
  have q1 := lowN_abs n d h1
  have q2 := lowD_le n d h1
  have q3 := lowD_pos n d h1
  generalize ((Int.gcd n d : Nat) : Int) = g at *
  generalize lowN n d = N at *
  generalize lowD n d = D at *
  have HD := Lib.hid hD
  clear hD
  go_enter Try.func48, Try.ntmps48
  go_wp2_with (go_at_call 59; refine (HD.out _).mono ?_; rintro e w1 ⟨rfl, hb⟩)
  have hs : w.heap.size < w1.heap.size := by have := hb.size; simp at this; omega
  obtain ⟨hc, hf⟩ := bcell hb
  have hc0 : w1.cell? ⟨w.heap.size, 0, none⟩ = some (.int .i64 0) := by rw [hc _ _ (by simp)]; go_simp
  have hc1 : w1.cell? ⟨w.heap.size, 1, none⟩ = some (.int .i64 0) := by rw [hc _ _ (by simp)]; go_simp
  have hf0 : w1.frozen? ⟨w.heap.size, 0, none⟩ = false := by rw [hf _ _ (by simp)]; go_simp
  have hf1 : w1.frozen? ⟨w.heap.size, 1, none⟩ = false := by rw [hf _ _ (by simp)]; go_simp
  clear hc hf
  have hB : Below w.heap.size w w1 := ((Below.refl _ w).alloc (Nat.le_refl _) _).trans (hb.mono (by simp))
  clear hb
  go_region
  go_wp2
  refine bodyPost_ret (v := .agg #[.int .i64 N, .int .i64 D]) (by simp [results, Try.results48, go_sem, hc0, hc1]) rfl ⟨rfl, ?_⟩
  exact ((hB.drew).setCell (by simp) _).setCell (by simp) _
/-- A bound of sums over sets of just k tapes. -/
def bnd : Nat → Nat → Int
  | 0, 0 => 1
  | 0, _ + 1 => 0
  | n + 1, 0 => 60 * bnd n 0
  | n + 1, k + 1 => 60 * bnd n (k + 1) + bnd n k
theorem sumL_bnd {P : List Int → Bool} {l : List Tp} (h : okL l) : ∀ k r, sumL P k l r ≤ bnd l.length k := by
  induction l with
  | nil =>
    intro k r
    show (if _ then (1 : Int) else 0) ≤ _
    cases k with
    | zero => show _ ≤ (1 : Int); split <;> omega
    | succ k => rw [if_neg (fun h => by have := h.1; omega)]; exact Int.le_refl _
  | cons t l ih =>
    intro k r
    have hl : okL l := fun u hu => h u (List.mem_cons_of_mem _ hu)
    have ih' := ih hl
    obtain ⟨-, -, -, h3, h4⟩ := h t (List.mem_cons_self ..)
    have h6 := sumL_nonneg (P := P) hl k r
    have h5 : t.2.2 * sumL P k l r ≤ 60 * bnd l.length k := Int.mul_le_mul h4 (ih' _ _) h6 (by omega)
    cases k with
    | zero =>
      show t.2.2 * sumL P 0 l r + _ ≤ 60 * bnd l.length 0
      split
      · omega
      · show _ + (0 : Int) ≤ _; omega
    | succ k =>
      have h8 := ih' k (mgL r t)
      have h9 := ih' k r
      have h10 := sumL_nonneg (P := P) hl k (mgL r t)
      show t.2.2 * sumL P (k + 1) l r + _ ≤ 60 * bnd l.length (k + 1) + bnd l.length k
      split
      · have : 0 ≤ bnd l.length k := by omega
        omega
      · show _ + sumL P k l (mgL r t) ≤ _; omega
theorem bnd_le : (List.range 11).all (fun n => (List.range 6).all fun k => k == 0 || decide (bnd n k ≤ 100776960000000000)) = true := by decide +kernel
theorem trees_big {l : List Tp} (hl : okL l) (h10 : l.length ≤ 10) {a : Int} (h2 : 2 ≤ cls l a) : treesN l a ≤ 100776960000000000 := by
  have h1 := sumL_bnd (P := fun _ => true) (near_ok hl a) (cls l a - 1) R0
  have hn := near_len l a
  have hc6 := cnt6_le (fun x => at6 (full l R0) x = at6 (full l R0) a)
  change cls l a ≤ 6 at hc6
  have h3 := List.all_eq_true.1 (List.all_eq_true.1 bnd_le (near l a).length (List.mem_range.2 (by omega))) (cls l a - 1) (List.mem_range.2 (by omega))
  simp only [Bool.or_eq_true, beq_iff_eq, decide_eq_true_eq] at h3
  rcases h3 with h3 | h3
  · omega
  · exact Int.le_trans h1 h3
theorem resN_low {l : List Tp} (hl : okL l) {a b : Int} (ha : nod a) : resN l a b = lowN (twosN l a a b) (treesN l a) ∧ resD l a b = lowD (twosN l a a b) (treesN l a) := by
  have ht := trees_pos hl ha
  unfold resN resD
  by_cases h : a = b
  · subst h
    rw [if_pos rfl, if_pos rfl, twos_self, (low_zero ht).1, (low_zero ht).2]
    exact ⟨rfl, rfl⟩
  · rw [if_neg h, if_neg h]; exact ⟨rfl, rfl⟩
/-- Twice the fall of the voltage along a tape. -/
theorem cur_twice {l : List Tp} (hl : okL l) {a b : Int} (ha : nod a) (hb : nod b) (h : at6 (full l R0) a = at6 (full l R0) b) (hab : a ≠ b) {k : Nat} (hk : k < l.length) (hn : at6 (full l R0) (tpA l k).1 = at6 (full l R0) a) :
    twosN l a (tpA l k).1 b - twosN l a a (tpA l k).1 - twosN l a (tpA l k).2.1 b + twosN l a a (tpA l k).2.1 = 2 * ((tpA l k).2.2 * curF l a b k) := by
  have h2 := cls_two ha hb hab h
  have hok := near_ok hl a
  have hrk := near_rk hl ha
  have hjn : at6 (full (near l a) R0) a = at6 (full (near l a) R0) b := ((near_labels hl ha).1 b hb h.symm).symm
  obtain ⟨p1, p2⟩ := near_pos hk hn
  have hp := picks_at p1
  rw [p2] at hp
  have hmem : tpA l k ∈ near l a := (picks_perm hp).mem_iff.2 (List.mem_cons_self ..)
  have v1 := vol_law hok (k := cls l a - 1 - 1) (by omega) ha hb hjn hp
  have v2 := (vol_pw hok (k := cls l a - 1 - 1) (by omega) ha hb hjn hmem).2
  dsimp only at v1
  have e : ∀ x y, twosN l a x y = sumL (apt x y) (cls l a - 1 - 1) (near l a) R0 := fun x y => by unfold twosN; rw [if_neg (by omega)]; rfl
  rw [e, e, e, e]
  have hF : curF l a b k = flo (cls l a - 1 - 1) ((near l a).eraseIdx (posN (full l R0) (at6 (full l R0) a) l k)) (tpA l k) a b := by unfold curF; rw [if_pos ⟨hab, hn⟩]
  rw [hF, v1, ← v2]
theorem news2r (W : World) (x y : Value) (t : TypeId) : ∀ j u, ([x, y] : List Value)[j]? = some u → (W.alloc (.cells #[x, y] t)).cell? ((⟨W.heap.size, 0, none⟩ : Addr).add j) = some u := by
  intro j u hj
  match j, hj with
  | 0, hj => simp at hj; subst hj; simp [Addr.add]
  | 1, hj => simp at hj; subst hj; simp [Addr.add]
  | j + 2, hj => simp at hj
theorem one2r (m n : Int) : ∀ u ∈ ([.int .i64 m, .int .i64 n] : List Value), u.oneCell' = true := by
  intro u hu
  simp at hu
  rcases hu with rfl | rfl <;> rfl
theorem curL_take {l : List Tp} {a b : Int} {k : Nat} (h : k < l.length) : (curL l a b).take (k + 1) = (curL l a b).take k ++ [(lowN (curF l a b k) (treesN l a), lowD (curF l a b k) (treesN l a))] := by
  have hk : k < (curL l a b).length := by rw [curL_len]; exact h
  rw [List.take_succ_eq_append_getElem hk]
  congr 2
  have := curL_get (a := a) (b := b) h
  rw [List.getElem?_eq_getElem hk] at this
  simpa using this
def RcR (w3 : World) (l : List Tp) (a b : Int) (n : Nat) (i v : Value) (W : World) : Prop :=
  ∃ k : Nat, k ≤ n ∧ i = .int .i64 k ∧ W.ownsRow w3.heap.size 39 2 v k (pcells ((curL l a b).take k)) ∧ Below w3.heap.size w3 W
theorem RcR.mk {w3 : World} {l : List Tp} {a b : Int} {n : Nat} {i v : Value} {W : World} (k : Nat) (h1 : k ≤ n) (h2 : i = .int .i64 k) (h3 : W.ownsRow w3.heap.size 39 2 v k (pcells ((curL l a b).take k))) (h4 : Below w3.heap.size w3 W) : RcR w3 l a b n i v W := ⟨k, h1, h2, h3, h4⟩
theorem later_from {w wr : World} (hB : Below w.heap.size w wr) (o : Obj) (x : Later (wr.alloc o)) : Below w.heap.size w x.val :=
  hB.trans ((((Below.refl _ wr).alloc (Nat.le_refl _) _).trans (x.h.mono (by simp))).mono hB.size)
set_option maxRecDepth 20000 in
set_option maxHeartbeats 4000000 in
theorem rresist_any (N : Nat) (A : Option Addr) (len cap : Nat) (l : List Tp) (a b : Int) (w : World) (hv : vNet N l = true) (ha : 0 ≤ a ∧ a < N) (hb : nod b) (hx : Rows 3 int3 (0,0,0) w w.heap.size A len l) :
    Calls Try.prog 33 #[.int .i64 (N : Int), .slice A len cap, .int .i64 a, .int .i64 b] w fun e w' => e = .returned (.agg #[.int .i64 (resN l a b), .int .i64 (resD l a b)]) ∧ Below w.heap.size w w' := by
  obtain ⟨hn, hlen, hl⟩ := vNet_spec hv
  have hna : nod a := ⟨ha.1, by omega⟩
  rw [(resN_low hl hna).1, (resN_low hl hna).2]
  have c1 := fun W (h : Below w.heap.size w W) => own_any N A len cap l a W hv ha ((hx.below h).more h.size)
  have c2 := fun A1 cap1 W h1 h2 => between_any A1 cap1 l a a b W hlen hl hna hna hb h1 h2
  have htk := tok_of (near_ok hl a)
  have hnl := near_len l a
  have hc6 := cnt6_le (fun x => at6 (full l R0) x = at6 (full l R0) a)
  change cls l a ≤ 6 at hc6
  have c3 := fun A1 cap1 W (h1 : (near l a).length ≤ cap1) h2 => rsum_any true (near l a).length (by omega) (near l a) A1 cap1 (cls l a : Int) W h1 htk (by omega) (by omega) h2
  rw [sum_trees hl hna] at c3
  have ht1 := trees_pos hl hna
  have ht2 := trees_bd hl hlen a
  have hu := twos_bd hl hlen a a b
  have c4 := fun W => Lowest_any (twosN l a a b) (treesN l a) W ht1 (by omega) (by omega) (by omega)
  have C1 := Lib.hid c1
  have C2 := Lib.hid c2
  have C3 := Lib.hid c3
  have C4 := Lib.hid c4
  clear c1 c2 c3 c4 hx htk hl hv
  generalize near l a = P at *
  generalize cls l a = c at *
  generalize lowN (twosN l a a b) (treesN l a) = X at *
  generalize lowD (twosN l a a b) (treesN l a) = Y at *
  go_enter Try.func33, Try.ntmps33
  go_wp2_with fail
  refine (C1.out _ (by repeat (first | exact Below.refl _ _ | assumption | refine Below.setCell ?_ (by first | (simp; done) | (simp; omega) | omega) _ | refine Below.drew ?_ | refine below_drewN ?_ _ | refine Below.alloc ?_ (by first | (simp; done) | (simp; omega) | omega) _ | refine below_alloc ?_ _ | refine below_step ?_ (by assumption)))).mono ?_
  rintro e w1 ⟨⟨v, rfl, ho⟩, hb⟩
  obtain ⟨A1, cap1, rfl, hn1, hn2, hR, -⟩ := own_tapes ho
  have HR := Lib.hid hR
  clear ho hR
  have hB_w1 : Below w.heap.size w w1 := (by repeat (first | exact Below.refl _ _ | assumption | refine Below.setCell ?_ (by first | (simp; done) | (simp; omega) | omega) _ | refine Below.drew ?_ | refine below_drewN ?_ _ | refine Below.alloc ?_ (by first | (simp; done) | (simp; omega) | omega) _ | refine below_alloc ?_ _ | refine below_step ?_ (by assumption))); have hz_w1 := hB_w1.size; have hsw10 : w.heap.size < w1.heap.size := Nat.lt_of_lt_of_le (by first | (simp; done) | (simp; omega) | omega) hb.size; have hnw10 : ¬ w.heap.size = w1.heap.size := (by omega); have hmw10 : ¬ w1.heap.size = w.heap.size := (by omega); have hlw10_0 : w.heap.size ≤ w1.heap.size := (by omega); have hlw10_1 : w.heap.size ≤ w1.heap.size + 1 := (by omega); have hlw10_2 : w.heap.size ≤ w1.heap.size + 1 + 1 := (by omega); have hkw10 : w1.cell? ⟨w.heap.size, 0, none⟩ = some (.int .i64 0) := (by rw [hb.cell (p := ⟨w.heap.size, 0, none⟩) (by first | (simp; done) | (simp; omega) | omega)]; first | (go_simp; done) | assumption); have hfw10 : w1.frozen? ⟨w.heap.size, 0, none⟩ = false := (by rw [hb.frozen (p := ⟨w.heap.size, 0, none⟩) (by first | (simp; done) | (simp; omega) | omega)]; first | (go_simp; done) | assumption); have hkw11 : w1.cell? ⟨w.heap.size, 1, none⟩ = some (.int .i64 0) := (by rw [hb.cell (p := ⟨w.heap.size, 1, none⟩) (by first | (simp; done) | (simp; omega) | omega)]; first | (go_simp; done) | assumption); have hfw11 : w1.frozen? ⟨w.heap.size, 1, none⟩ = false := (by rw [hb.frozen (p := ⟨w.heap.size, 1, none⟩) (by first | (simp; done) | (simp; omega) | omega)]; first | (go_simp; done) | assumption); clear hb
  go_wp2_with fail
  refine (C2.out _ _ _ hn1 HR.out).mono ?_
  rintro e w2 ⟨rfl, hb⟩
  have HR2 := Lib.hid ((HR.out.below hb).more hb.size)
  have hB_w2 : Below w.heap.size w w2 := (by repeat (first | exact Below.refl _ _ | assumption | refine Below.setCell ?_ (by first | (simp; done) | (simp; omega) | omega) _ | refine Below.drew ?_ | refine below_drewN ?_ _ | refine Below.alloc ?_ (by first | (simp; done) | (simp; omega) | omega) _ | refine below_alloc ?_ _ | refine below_step ?_ (by assumption))); have hz_w2 := hB_w2.size; have hsw20 : w.heap.size < w2.heap.size := Nat.lt_of_lt_of_le (by first | (simp; done) | (simp; omega) | omega) hb.size; have hnw20 : ¬ w.heap.size = w2.heap.size := (by omega); have hmw20 : ¬ w2.heap.size = w.heap.size := (by omega); have hlw20_0 : w.heap.size ≤ w2.heap.size := (by omega); have hlw20_1 : w.heap.size ≤ w2.heap.size + 1 := (by omega); have hlw20_2 : w.heap.size ≤ w2.heap.size + 1 + 1 := (by omega); have hkw20 : w2.cell? ⟨w.heap.size, 0, none⟩ = some (.int .i64 0) := (by rw [hb.cell (p := ⟨w.heap.size, 0, none⟩) (by first | (simp; done) | (simp; omega) | omega)]; first | (go_simp; done) | assumption); have hfw20 : w2.frozen? ⟨w.heap.size, 0, none⟩ = false := (by rw [hb.frozen (p := ⟨w.heap.size, 0, none⟩) (by first | (simp; done) | (simp; omega) | omega)]; first | (go_simp; done) | assumption); have hkw21 : w2.cell? ⟨w.heap.size, 1, none⟩ = some (.int .i64 0) := (by rw [hb.cell (p := ⟨w.heap.size, 1, none⟩) (by first | (simp; done) | (simp; omega) | omega)]; first | (go_simp; done) | assumption); have hfw21 : w2.frozen? ⟨w.heap.size, 1, none⟩ = false := (by rw [hb.frozen (p := ⟨w.heap.size, 1, none⟩) (by first | (simp; done) | (simp; omega) | omega)]; first | (go_simp; done) | assumption); clear hb hB_w1 hlw10_0 hlw10_1 hlw10_2 hkw10 hfw10 hkw11 hfw11
  go_wp2_with fail
  refine (C3.out _ _ _ hn1 HR2.out).mono ?_
  rintro e w3 ⟨rfl, hb⟩
  have hB_w3 : Below w.heap.size w w3 := (by repeat (first | exact Below.refl _ _ | assumption | refine Below.setCell ?_ (by first | (simp; done) | (simp; omega) | omega) _ | refine Below.drew ?_ | refine below_drewN ?_ _ | refine Below.alloc ?_ (by first | (simp; done) | (simp; omega) | omega) _ | refine below_alloc ?_ _ | refine below_step ?_ (by assumption))); have hz_w3 := hB_w3.size; have hsw30 : w.heap.size < w3.heap.size := Nat.lt_of_lt_of_le (by first | (simp; done) | (simp; omega) | omega) hb.size; have hnw30 : ¬ w.heap.size = w3.heap.size := (by omega); have hmw30 : ¬ w3.heap.size = w.heap.size := (by omega); have hlw30_0 : w.heap.size ≤ w3.heap.size := (by omega); have hlw30_1 : w.heap.size ≤ w3.heap.size + 1 := (by omega); have hlw30_2 : w.heap.size ≤ w3.heap.size + 1 + 1 := (by omega); have hkw30 : w3.cell? ⟨w.heap.size, 0, none⟩ = some (.int .i64 0) := (by rw [hb.cell (p := ⟨w.heap.size, 0, none⟩) (by first | (simp; done) | (simp; omega) | omega)]; first | (go_simp; done) | assumption); have hfw30 : w3.frozen? ⟨w.heap.size, 0, none⟩ = false := (by rw [hb.frozen (p := ⟨w.heap.size, 0, none⟩) (by first | (simp; done) | (simp; omega) | omega)]; first | (go_simp; done) | assumption); have hkw31 : w3.cell? ⟨w.heap.size, 1, none⟩ = some (.int .i64 0) := (by rw [hb.cell (p := ⟨w.heap.size, 1, none⟩) (by first | (simp; done) | (simp; omega) | omega)]; first | (go_simp; done) | assumption); have hfw31 : w3.frozen? ⟨w.heap.size, 1, none⟩ = false := (by rw [hb.frozen (p := ⟨w.heap.size, 1, none⟩) (by first | (simp; done) | (simp; omega) | omega)]; first | (go_simp; done) | assumption); clear hb hB_w2 hlw20_0 hlw20_1 hlw20_2 hkw20 hfw20 hkw21 hfw21
  go_wp2_with fail
  refine (C4.out _).mono ?_
  rintro e w4 ⟨rfl, hb⟩
  have hB_w4 : Below w.heap.size w w4 := (by repeat (first | exact Below.refl _ _ | assumption | refine Below.setCell ?_ (by first | (simp; done) | (simp; omega) | omega) _ | refine Below.drew ?_ | refine below_drewN ?_ _ | refine Below.alloc ?_ (by first | (simp; done) | (simp; omega) | omega) _ | refine below_alloc ?_ _ | refine below_step ?_ (by assumption))); have hz_w4 := hB_w4.size; have hsw40 : w.heap.size < w4.heap.size := Nat.lt_of_lt_of_le (by first | (simp; done) | (simp; omega) | omega) hb.size; have hnw40 : ¬ w.heap.size = w4.heap.size := (by omega); have hmw40 : ¬ w4.heap.size = w.heap.size := (by omega); have hlw40_0 : w.heap.size ≤ w4.heap.size := (by omega); have hlw40_1 : w.heap.size ≤ w4.heap.size + 1 := (by omega); have hlw40_2 : w.heap.size ≤ w4.heap.size + 1 + 1 := (by omega); have hkw40 : w4.cell? ⟨w.heap.size, 0, none⟩ = some (.int .i64 0) := (by rw [hb.cell (p := ⟨w.heap.size, 0, none⟩) (by first | (simp; done) | (simp; omega) | omega)]; first | (go_simp; done) | assumption); have hfw40 : w4.frozen? ⟨w.heap.size, 0, none⟩ = false := (by rw [hb.frozen (p := ⟨w.heap.size, 0, none⟩) (by first | (simp; done) | (simp; omega) | omega)]; first | (go_simp; done) | assumption); have hkw41 : w4.cell? ⟨w.heap.size, 1, none⟩ = some (.int .i64 0) := (by rw [hb.cell (p := ⟨w.heap.size, 1, none⟩) (by first | (simp; done) | (simp; omega) | omega)]; first | (go_simp; done) | assumption); have hfw41 : w4.frozen? ⟨w.heap.size, 1, none⟩ = false := (by rw [hb.frozen (p := ⟨w.heap.size, 1, none⟩) (by first | (simp; done) | (simp; omega) | omega)]; first | (go_simp; done) | assumption); clear hb hB_w3 hlw30_0 hlw30_1 hlw30_2 hkw30 hfw30 hkw31 hfw31
  go_wp2
  exact bodyPost_ret (v := .agg #[.int .i64 X, .int .i64 Y]) (by simp [results, Try.results33, go_sem, *]) rfl ⟨rfl, (by repeat (first | exact Below.refl _ _ | assumption | refine Below.setCell ?_ (by first | (simp; done) | (simp; omega) | omega) _ | refine Below.drew ?_ | refine below_drewN ?_ _ | refine Below.alloc ?_ (by first | (simp; done) | (simp; omega) | omega) _ | refine below_alloc ?_ _ | refine below_step ?_ (by assumption)))⟩
/-- The reference's row of currents, or none. -/
def CurR (w : World) (E : Int) (len : Nat) (L : List (Int × Int)) (v : Value) (w' : World) : Prop :=
  (E = 0 → w'.ownsRow w.heap.size 39 2 v len (pcells L)) ∧ (E ≠ 0 → v = .slice none 0 0)
end Go.Proofs.Ytloogollfconpaa
