/- Tapes: the reference's part: the nodes that are joined to a node. -/
import Derived.Test.YtpfhfmnlojigpaaRefA
import Derived.Test.YtpfhfmnlojigpaaPartM
import Derived.Test.YtpfhfmnlojigpaaMix
import Derived.OwnWalk
import Derived.Laws.OwnMore
set_option linter.unusedSimpArgs false
set_option linter.unusedVariables false
namespace Go.Proofs.Ytpfhfmnlojigpaa
open Go.RowKit
attribute [local go_sem] Later.cell Same.cell

/-- Worlds that are later than w but for block g. -/
structure Off (w : World) (g : Nat) where
  val : World
  h : w.grownBy val (some g)
instance offSome (w : World) (g : Nat) : Nonempty (Off w g) := ⟨⟨w, rfl, rfl, rfl, Nat.le_refl _, fun _ _ _ => rfl⟩⟩
theorem Off.cell {w : World} {g : Nat} (x : Off w g) (b o : Nat) (hb : b < w.heap.size) (hne : ¬ b = g) : x.val.cell? ⟨b, o, none⟩ = w.cell? ⟨b, o, none⟩ := by
  have := x.h.block b hb (fun e => hne (Option.some.inj e))
  simp [World.cell?, this]
theorem wp_region_off {P : Program} {id : Nat} {Q : Exit → Act → World → Prop} {a : Act} {w : World} {l : List Oper} (g : Nat) (hm : P.follows .mixedOrders = true) (hg : noGuard l.toArray = true)
    (h : wpC P .any l.toArray (fun W => ∃ x : Off w g, W = x.val) Q l.length (Array.replicate l.length false) a w.drew) : (Code.region id l.toArray true).wp P Q a w :=
  wp_region_any hm (wpC_any hg _ _ _ _ (by simpa using h))
theorem off_set {w W : World} {g : Nat} (h : w.grownBy W (some g)) (o : Nat) (v : Value) : w.grownBy (W.setCell ⟨g, o, none⟩ v) (some g) :=
  ⟨h.os, h.tape, h.output, by simpa using h.size, fun k hk hne => (heap_setCell_other W ⟨g, o, none⟩ k v (fun e => hne (by simp [e]))).trans (h.block k hk hne)⟩
theorem off_drew {w W : World} {g : Nat} (h : w.grownBy W (some g)) : w.grownBy W.drew (some g) := ⟨h.os, h.tape, h.output, h.size, h.block⟩
theorem off_refl (w : World) (g : Nat) : w.grownBy w (some g) := ⟨rfl, rfl, rfl, Nat.le_refl _, fun _ _ _ => rfl⟩
attribute [local go_sem] Off.cell
def bcells (S : List Bool) : List Value := S.map Value.bool
theorem bcells_len (S : List Bool) : (bcells S).length = S.length * 1 := by simp [bcells]
theorem bcells_set (S : List Bool) (i : Nat) (v : Bool) : (bcells S).set i (.bool v) = bcells (S.set i v) := by simp [bcells, List.map_set]
theorem own_bools {w : World} {base : Nat} {e : TypeId} {v : Value} {n : Nat} {S : List Bool} (h : w.ownsRow base e 1 v n (bcells S)) (hn : 0 < n) :
    ∃ g cap, v = .slice (some ⟨g, 0, none⟩) n cap ∧ n ≤ cap ∧ base ≤ g ∧ g < w.heap.size ∧ S.length = n ∧ (∀ o, w.frozen? ⟨g, o, none⟩ = false) ∧ ∀ x : Int, 0 ≤ x → x < n → w.cell? ⟨g, x.toNat, none⟩ = some (.bool (sB S x)) := by
  obtain ⟨h1, h2⟩ := h
  rw [bcells_len] at h1
  rcases h2 with ⟨rfl, rfl⟩ | ⟨g, cap, cur, rfl, hb, hg, hnc, hm, hcs, ht⟩
  · omega
  · have hlt : g < w.heap.size := (Array.getElem?_eq_some_iff.1 hg).1
    refine ⟨g, cap, rfl, hnc, hb, hlt, by omega, fun o => by simp [World.frozen?, hg], fun x h0 hx => ?_⟩
    have : (bcells S)[x.toNat]? = some (.bool (sB S x)) := by
      have hl : x.toNat < S.length := by omega
      simp [bcells, sB, List.getElem?_eq_getElem hl]
    rw [← ht] at this
    simp only [World.cell?, hg]
    rw [List.getElem?_take] at this
    split at this
    · simpa using this
    · cases this
theorem own_bools_at {w : World} {base : Nat} {e : TypeId} {g n cap : Nat} {S : List Bool} (h : w.ownsRow base e 1 (.slice (some ⟨g, 0, none⟩) n cap) n (bcells S)) {x : Int} (h0 : 0 ≤ x) (hx : x < n) : w.cell? ⟨g, x.toNat, none⟩ = some (.bool (sB S x)) ∧ w.frozen? ⟨g, x.toNat, none⟩ = false := by
  obtain ⟨g', cp, hv, -, hgb, hglt, -, hfr, hce⟩ := own_bools h (by omega)
  injection hv with e1 e2 e3
  injection e1 with e1
  injection e1 with e1 _ _
  subst e1 e3
  exact ⟨hce x h0 hx, hfr _⟩
theorem info_bool : (Try.prog.info? 4).map (fun i => (i.zero, i.size, i.bytes)) = some (some (.bool false), 1, 1) := by kernel_rfl
theorem pass_snoc {l : List Tp} {j : Nat} (hj : j < l.length) (S : List Bool) : pass (l.take (j + 1)) S = addT (pass (l.take j) S) (tpA l j) := by
  unfold pass
  rw [take_snoc hj, List.foldl_append]; rfl
def PaO (w : World) (g N : Nat) (l : List Tp) (a : Int) (i : Value) (W : World) : Prop := ∃ k : Nat, k ≤ N ∧ i = .int .i64 k ∧ W.ownsRow w.heap.size 4 1 (.slice (some ⟨g, 0, none⟩) N N) N (bcells (passes l k (part0 N a))) ∧ Below w.heap.size w W
theorem PaO.mk {w : World} {g N : Nat} {l : List Tp} {a : Int} {i : Value} {W : World} (k : Nat) (h1 : k ≤ N) (h2 : i = .int .i64 k) (h3 : W.ownsRow w.heap.size 4 1 (.slice (some ⟨g, 0, none⟩) N N) N (bcells (passes l k (part0 N a)))) (h4 : Below w.heap.size w W) : PaO w g N l a i W := ⟨k, h1, h2, h3, h4⟩
def PaI (w : World) (g N n : Nat) (l : List Tp) (S : List Bool) (i : Value) (W : World) : Prop := ∃ j : Nat, j ≤ n ∧ i = .int .i64 j ∧ W.ownsRow w.heap.size 4 1 (.slice (some ⟨g, 0, none⟩) N N) N (bcells (pass (l.take j) S)) ∧ Below w.heap.size w W
theorem PaI.mk {w : World} {g N n : Nat} {l : List Tp} {S : List Bool} {i : Value} {W : World} (j : Nat) (h1 : j ≤ n) (h2 : i = .int .i64 j) (h3 : W.ownsRow w.heap.size 4 1 (.slice (some ⟨g, 0, none⟩) N N) N (bcells (pass (l.take j) S))) (h4 : Below w.heap.size w W) : PaI w g N n l S i W := ⟨j, h1, h2, h3, h4⟩
theorem mk_part {w w1 : World} {N : Nat} {a : Int} (ho1 : w1.ownsRow w.heap.size 4 1 (.slice (some ⟨w.heap.size, 0, none⟩) N N) N (madeCells (Value.bool false).cells (N * 1)).toList) (hg1 : w.grownBy w1 none) (ha : 0 ≤ a ∧ a < N) :
    w1.cell? ⟨w.heap.size, a.toNat, none⟩ = some (.bool (sB (List.replicate N false) a)) ∧ w1.frozen? ⟨w.heap.size, a.toNat, none⟩ = false ∧
    (w1.setCell ⟨w.heap.size, a.toNat, none⟩ (.bool true)).ownsRow w.heap.size 4 1 (.slice (some ⟨w.heap.size, 0, none⟩) N N) N (bcells (part0 N a)) ∧ Below w.heap.size w (w1.setCell ⟨w.heap.size, a.toNat, none⟩ (.bool true)) := by
  have hb1 : Below w.heap.size w w1 := grown_below hg1 (Nat.le_refl _) (fun k hk => by cases hk)
  have ho2 : w1.ownsRow w.heap.size 4 1 (.slice (some ⟨w.heap.size, 0, none⟩) N N) N (bcells (List.replicate N false)) := by
    have := ho1
    rw [show (madeCells (Value.bool false).cells (N * 1)).toList = bcells (List.replicate N false) by rw [Nat.mul_one]; exact (toList_madeCells_one (.bool false) N).trans (by simp [bcells])] at this
    exact this
  obtain ⟨g, cp, hv, -, hgb, hglt, -, hfr, hce⟩ := own_bools ho2 (by omega)
  injection hv with e1 e2 e3
  injection e1 with e1
  injection e1 with e1 _ _
  subst e1 e3
  have hs1 := ho2.stored a.toNat (.bool true)
  rw [bcells_set] at hs1
  exact ⟨hce a ha.1 ha.2, hfr a.toNat, hs1.1, hb1.setCell (Nat.le_refl _) _⟩
set_option maxRecDepth 20000 in
set_option maxHeartbeats 4000000 in
theorem rpart_any (N : Nat) (A : Option Addr) (len cap : Nat) (l : List Tp) (a : Int) (w : World) (hN : N ≤ 6) (hm : len ≤ 10) (ha : 0 ≤ a ∧ a < N) (hl : inn N l) (hx : Rows 3 int3 (0,0,0) w w.heap.size A len l) :
    Calls Try.prog 33 #[.int .i64 (N : Int), .slice A len cap, .int .i64 a] w fun e w' => (∃ v, e = .returned v ∧ w'.ownsRow w.heap.size 4 1 v N (bcells (partL N l a))) ∧ Below w.heap.size w w' := by
  obtain ⟨j0, hj, hy0, hy1, hy2⟩ := info_parts info_bool
  have HX := Lib.hid hx
  have HLN := Lib.hid hx.1
  clear hx
  go_enter Try.func33, Try.ntmps33
  go_wp2_with (refine wpList_make_full _ rfl (.tmp 10) (.tmp 10) 62 rfl w.heap.size 4 j0 (.bool false) 1 Try.underlying62 hj hy0 hy1 _ _ _ _ N rfl rfl rfl rfl (by rw [hy2]; omega) (by unfold maxLen; omega) (Nat.le_refl _) ?_; intro w1 ho1 hg1; obtain ⟨hc0, hf0, h3, h4⟩ := mk_part ho1 hg1 ha; have HO := Lib.hid h3; have HB := Lib.hid h4; clear ho1 hg1 h3 h4)
  go_loopw [8] (fun i W => PaO w w.heap.size N l a i W) (fun i _ => N - (intOf i).toNat)
  case atStart => exact PaO.mk 0 (Nat.zero_le _) rfl HO.out HB.out
  case round =>
    obtain ⟨k, hk, rfl, ho, hb⟩ := hrel
    have HOo := Lib.hid ho
    clear ho HO HB
    by_cases hlt : k < N
    · have hk1 : (k : Int) < N := by omega
      go_wp2
      go_loopw [9] (fun i W => PaI w w.heap.size N len l (passes l k (part0 N a)) i W) (fun i _ => len - (intOf i).toNat)
      case atStart => exact PaI.mk 0 (Nat.zero_le _) rfl HOo.out hb
      case round =>
        obtain ⟨j, hj, rfl, ho, hb⟩ := hrel
        by_cases hjl : j < len
        · obtain ⟨b, off, rfl, hb0, hc1, hc2, hc3⟩ := rows_tp (HX.out.below hb) j hjl
          have hjn : j < l.length := by rw [HLN.out]; exact hjl
          have hT := hl (tpA l j) (by unfold tpA; rw [List.getElem?_eq_getElem hjn]; exact List.getElem_mem hjn)
          have hps := pass_snoc hjn (passes l k (part0 N a))
          obtain ⟨g, cp, hv, -, hgb, hglt, hSl, hfr, hce⟩ := own_bools ho (by omega)
          injection hv with e1 e2 e3
          injection e1 with e1
          injection e1 with e1 _ _
          subst e1 e3
          generalize tpA l j = T at *
          generalize pass (l.take j) (passes l k (part0 N a)) = S at *
          obtain ⟨⟨t0, t1⟩, t2, t3⟩ := hT
          have hq1 := hce T.1 t0 t1
          have hq2 := hce T.2.1 t2 t3
          have hf1 := hfr T.1.toNat
          have hf2 := hfr T.2.1.toNat
          have hj1 : (j : Int) < len := by omega
          have hs1 := ho.stored T.1.toNat (.bool true)
          rw [bcells_set] at hs1
          have hs2 := hs1.1.stored T.2.1.toNat (.bool true)
          rw [bcells_set] at hs2
          have hq3 := (own_bools_at hs1.1 t2 t3).1
          have hf3 := (own_bools_at hs1.1 t2 t3).2
          have hbn : ¬ b = w.heap.size := by omega
          have hbw : b < wr.heap.size := by have := hb.size; omega
          cases hp : sB S T.1
          · rw [hp] at hq1
            cases hq : sB S T.2.1
            · rw [hq] at hq2
              have hA : addT S T = S := by unfold addT; rw [hp, hq]; rfl
              rw [hA] at hps
              have HPS := Lib.hid hps
              have HS := Lib.hid ho
              clear hps hA hs1 hs2 ho hce hfr HOo
              go_wp2
              go_roundw
              case rel => exact PaI.mk (j + 1) (by omega) (by go_num) (by rw [HPS.out]; exact HS.out) hb
              case measure => simp [intOf]; omega
            · rw [hq] at hq2
              have hA : addT S T = (S.set T.1.toNat true).set T.2.1.toNat true := by unfold addT; rw [hp, hq]; rfl
              rw [hA] at hps
              have HPS := Lib.hid hps
              have HS := Lib.hid hs2.1
              have HB := Lib.hid ((hb.setCell (p := ⟨w.heap.size, T.1.toNat, none⟩) (Nat.le_refl _) (.bool true)).setCell (p := ⟨w.heap.size, T.2.1.toNat, none⟩) (Nat.le_refl _) (.bool true))
              clear hps hA hs1 hs2 ho hce hfr HOo
              go_wp2
              refine wp_region_off w.heap.size (by kernel_rfl) (by kernel_rfl) ?_
              refine wpC_take (f := 3) (by kernel_rfl) (by kernel_rfl) ⟨⟨_, off_drew (off_refl _ _)⟩, rfl⟩ [0, 1, 2, 3, 4, 5, 6, 7, 8, 9, 10, 11, 12] _ _ (by kernel_rfl) ?_
              simp only [List.map_cons, List.map_nil, List.getElem?_toArray, List.getElem?_cons_succ, List.getElem?_cons_zero, Option.getD_some]
              repeat (go_big_quiet_step (fail))
              refine wpQuiet_nil ?_
              refine wpC_all (rs := [13]) (by kernel_rfl) (by decide) ?_
              intro i hi
              simp only [List.mem_cons, List.not_mem_nil, or_false] at hi
              subst hi
              refine ⟨_, rfl, ?_⟩
              go_simp
              refine ⟨⟨⟨_, (by repeat (first | exact off_refl _ _ | refine off_drew ?_ | refine off_set ?_ _ _))⟩, rfl⟩, ?_⟩
              refine wpC_take (f := 1) (by kernel_rfl) (by kernel_rfl) ⟨⟨_, (by repeat (first | exact off_refl _ _ | refine off_drew ?_ | refine off_set ?_ _ _))⟩, rfl⟩ [14] _ _ (by kernel_rfl) ?_
              simp only [List.map_cons, List.map_nil, List.getElem?_toArray, List.getElem?_cons_succ, List.getElem?_cons_zero, Option.getD_some]
              repeat (go_big_quiet_step (fail))
              refine wpQuiet_nil ?_
              refine wpC_all (rs := [15]) (by kernel_rfl) (by decide) ?_
              intro i hi
              simp only [List.mem_cons, List.not_mem_nil, or_false] at hi
              subst hi
              refine ⟨_, rfl, ?_⟩
              go_simp
              refine ⟨⟨⟨_, (by repeat (first | exact off_refl _ _ | refine off_drew ?_ | refine off_set ?_ _ _))⟩, rfl⟩, ?_⟩
              refine wpC_done (by kernel_rfl) ?_
              go_wp2
              go_roundw
              case rel => exact PaI.mk (j + 1) (by omega) (by go_num) (by rw [HPS.out]; first | exact HS.out | exact town_later HS.out (Below.refl _ _).drew) (by first | exact HB.out | exact HB.out.drew)
              case measure => simp [intOf]; omega
          · rw [hp] at hq1
            have hA : addT S T = (S.set T.1.toNat true).set T.2.1.toNat true := by unfold addT; rw [hp]; rfl
            rw [hA] at hps
            have HPS := Lib.hid hps
            have HS := Lib.hid hs2.1
            have HB := Lib.hid ((hb.setCell (p := ⟨w.heap.size, T.1.toNat, none⟩) (Nat.le_refl _) (.bool true)).setCell (p := ⟨w.heap.size, T.2.1.toNat, none⟩) (Nat.le_refl _) (.bool true))
            clear hps hA hs1 hs2 ho hce hfr HOo
            go_wp2
            refine wp_region_off w.heap.size (by kernel_rfl) (by kernel_rfl) ?_
            refine wpC_take (f := 3) (by kernel_rfl) (by kernel_rfl) ⟨⟨_, off_drew (off_refl _ _)⟩, rfl⟩ [0, 1, 2, 3, 4, 5, 6, 7, 8, 9, 10, 11, 12] _ _ (by kernel_rfl) ?_
            simp only [List.map_cons, List.map_nil, List.getElem?_toArray, List.getElem?_cons_succ, List.getElem?_cons_zero, Option.getD_some]
            repeat (go_big_quiet_step (fail))
            refine wpQuiet_nil ?_
            refine wpC_all (rs := [13]) (by kernel_rfl) (by decide) ?_
            intro i hi
            simp only [List.mem_cons, List.not_mem_nil, or_false] at hi
            subst hi
            refine ⟨_, rfl, ?_⟩
            go_simp
            refine ⟨⟨⟨_, (by repeat (first | exact off_refl _ _ | refine off_drew ?_ | refine off_set ?_ _ _))⟩, rfl⟩, ?_⟩
            refine wpC_take (f := 1) (by kernel_rfl) (by kernel_rfl) ⟨⟨_, (by repeat (first | exact off_refl _ _ | refine off_drew ?_ | refine off_set ?_ _ _))⟩, rfl⟩ [14] _ _ (by kernel_rfl) ?_
            simp only [List.map_cons, List.map_nil, List.getElem?_toArray, List.getElem?_cons_succ, List.getElem?_cons_zero, Option.getD_some]
            repeat (go_big_quiet_step (fail))
            refine wpQuiet_nil ?_
            refine wpC_all (rs := [15]) (by kernel_rfl) (by decide) ?_
            intro i hi
            simp only [List.mem_cons, List.not_mem_nil, or_false] at hi
            subst hi
            refine ⟨_, rfl, ?_⟩
            go_simp
            refine ⟨⟨⟨_, (by repeat (first | exact off_refl _ _ | refine off_drew ?_ | refine off_set ?_ _ _))⟩, rfl⟩, ?_⟩
            refine wpC_done (by kernel_rfl) ?_
            go_wp2
            go_roundw
            case rel => exact PaI.mk (j + 1) (by omega) (by go_num) (by rw [HPS.out]; first | exact HS.out | exact town_later HS.out (Below.refl _ _).drew) (by first | exact HB.out | exact HB.out.drew)
            case measure => simp [intOf]; omega
        · have hkk : pass (l.take j) (passes l k (part0 N a)) = passes l (k + 1) (part0 N a) := by rw [List.take_of_length_le (by rw [HLN.out]; omega)]; rfl
          rw [hkk] at ho
          have HO2 := Lib.hid ho
          clear ho hkk HOo
          go_wp2
          go_roundw
          case rel => exact PaO.mk (k + 1) (by omega) (by go_num) HO2.out hb
          case measure => simp [intOf]; omega
    · have hkN : k = N := by omega
      subst hkN
      go_wp2
      go_ret
      exact ⟨⟨_, rfl, HOo.out⟩, hb⟩
end Go.Proofs.Ytpfhfmnlojigpaa
