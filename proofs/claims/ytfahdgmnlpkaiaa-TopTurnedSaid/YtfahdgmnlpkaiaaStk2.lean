/- Stacks: the beds from the top down: the iterator. -/
import Derived.Test.YtfahdgmnlpkaiaaStkM
import Derived.Test.YtfahdgmnlpkaiaaRangeM
import Derived.Deep.Cut
set_option linter.unusedSimpArgs false
set_option linter.unusedVariables false
namespace Go.Proofs.Ytfahdgmnlpkaiaa
open Go.RowKit Go.Shelf
attribute [local go_sem] Oper.semAt_some

/-- Below n each block of cells lies as it lay. -/
def KeepL (n : Nat) (A B : World) : Prop := A.heap.size ≤ B.heap.size ∧ ∀ (k : Nat) (o : Obj), k < n → A.heap[k]? = some o → o.isCells = true → B.heap[k]? = some o
theorem KeepL.refl (n : Nat) (A : World) : KeepL n A A := ⟨Nat.le_refl _, fun _ _ _ h _ => h⟩
theorem KeepL.trans {n : Nat} {A B C : World} (h : KeepL n A B) (k : KeepL n B C) : KeepL n A C := ⟨Nat.le_trans h.1 k.1, fun j o hj h1 h2 => k.2 j o hj (h.2 j o hj h1 h2) h2⟩
theorem KeepL.of {n : Nat} {A B : World} (h : Below n A B) : KeepL n A B := ⟨h.size, fun k o hk h1 _ => (h.block k hk).trans h1⟩
theorem KeepC.low {A B : World} (h : KeepC A B) (n : Nat) : KeepL n A B := ⟨h.1, fun k o _ h1 h2 => h.2 k o h1 h2⟩
theorem KeepL.cell {n : Nat} {A B : World} (h : KeepL n A B) {b o : Nat} {v : Value} (hb : b < n) (hc : A.cell? ⟨b, o, none⟩ = some v) : B.cell? ⟨b, o, none⟩ = some v := by
  refine (World.cell?_of_block (a := ⟨b, o, none⟩) ?_).trans hc
  show B.heap[b]? = A.heap[b]?
  unfold World.cell? at hc
  cases ho : A.heap[b]? with
  | none => simp only [ho] at hc; simp at hc
  | some u => exact h.2 _ _ hb ho (by simp only [ho] at hc; cases u <;> simp_all [Obj.isCells])
theorem KeepL.rows {n N : Nat} {A B : World} (h : KeepL n A B) (hN : N ≤ n) {ad : Option Addr} {len : Nat} {xs : List Cs} (hx : Rows 6 c6V dC A N ad len xs) : Rows 6 c6V dC B N ad len xs := by
  refine ⟨hx.1, fun h0 => ?_⟩
  obtain ⟨b, off, h1, h2, h3⟩ := hx.2 h0
  exact ⟨b, off, h1, h2, fun k hk j v hv => h.cell (by omega) (h3 k hk j v hv)⟩
def encB (x : Nat × Ab) : Array Value := #[.int .i64 (x.1 : Int), abV x.2]
set_option maxRecDepth 20000 in
set_option maxHeartbeats 1000000 in
theorem beds_any (A : Option Addr) (len cap : Nat) (w : World) :
    Calls Try.prog 28 #[.slice A len cap] w fun e w' => e = .returned (.func (.func 38) #[] #[.pointer (some ⟨w.heap.size, 0, none⟩)]) ∧ w' = w.alloc (.cells #[.slice A len cap] 23) := by
  have hmf : ∀ (fn : Fn) (first cap : Array Value) (w : World), (Instr.makeFunc fn first cap).run Try.prog w = .ok (.func fn first cap) w := fun _ _ _ _ => rfl
  go_enter Try.func28, Try.ntmps28
  go_wp2
  go_ret
  exact ⟨rfl, rfl⟩
set_option maxRecDepth 100000 in
set_option maxHeartbeats 16000000 in
theorem beds1_in (n : Nat) (hn : 1 ≤ n) (y Bl n0 : Nat) (A : Option Addr) (len cap : Nat) (l : List Cs) (J Jx : List (Nat × Ab) → World → Prop) (W : World)
    (hJ : ∀ s A B, J s A → Below W.heap.size A B → J s B) (hb : Bl < W.heap.size ∧ n0 ≤ W.heap.size) (hlen : len ≤ 20) (hs : l.all sndC = true)
    (hY : ∀ pre x W1, J pre W1 → pre.length < len → YieldAt Fence.wide (n - 1) Try.prog y (encB x) W1 fun e W' => (e = .returned (.bool true) ∧ J (pre ++ [x]) W' ∧ KeepC W1 W') ∨ (e = .returned (.bool false) ∧ Jx (pre ++ [x]) W'))
    (hcl : W.cell? ⟨Bl, 0, none⟩ = some (.slice A len cap)) (hX : Rows 6 c6V dC W n0 A len l) (h0 : J [] W) :
    CallsIn Fence.wide n Try.prog 38 #[.func (.yield y) #[] #[], .pointer (some ⟨Bl, 0, none⟩)] W fun e W' => (∃ v, e = .returned v) ∧ ((∃ ys, ys = bedL l len ∧ J ys W') ∨ (∃ pre, (∃ k, k < len ∧ pre = bedL l (k + 1)) ∧ Jx pre W')) := by
  obtain rfl : l.length = len := hX.1
  obtain ⟨hb1, hb2⟩ := hb
  have HJ := Lib.hid hJ
  have HY := Lib.hid hY
  have HX := Lib.hid hX
  have HS := Lib.hid hs
  have hj0 := hJ [] W (W.alloc (.cells #[.int .i64 0, .int .i64 0, .int .i64 0, .int .i64 0, .int .i64 0] 56)) h0 ((Below.refl _ _).alloc (Nat.le_refl _) _)
  have HJ0 := Lib.hid hj0
  have hbx0 := BoxN.new W 56 #[.int .i64 0, .int .i64 0, .int .i64 0, .int .i64 0, .int .i64 0]
  have HBX0 := Lib.hid hbx0
  have HK0 := Lib.hid (KeepL.of ((Below.refl W.heap.size W).alloc (Nat.le_refl _) (.cells #[.int .i64 0, .int .i64 0, .int .i64 0, .int .i64 0, .int .i64 0] 56)))
  clear hJ hY hX h0 hj0 hbx0 hs
  refine callsIn_of_wp Try.func38 rfl trivial ?_ rfl
  simp only [Try.ntmps38, List.size_toArray, List.length_cons, List.length_nil, Nat.reduceAdd, Nat.reduceSub, Array.replicate_succ, Array.replicate_zero, List.push_toArray, List.append_toArray, List.nil_append, List.cons_append]
  gi_wp2
  gi_loopw [5, 4] (fun i f wr => ∃ k : Nat, k ≤ l.length ∧ i = .int .i64 ((l.length : Int) - 1 - k) ∧ f = .int .i64 (stA (l.drop (l.length - k))).1 ∧ Hid (BoxN wr W.heap.size 56 #[.int .i64 (stA (l.drop (l.length - k))).2.w, .int .i64 (stA (l.drop (l.length - k))).2.e, .int .i64 (stA (l.drop (l.length - k))).2.n, .int .i64 (stA (l.drop (l.length - k))).2.h, .int .i64 (stA (l.drop (l.length - k))).2.p]) ∧ Hid (J (bedL l k) wr) ∧ Hid (KeepL W.heap.size W wr)) (fun i _ _ => (intOf i + 1).toNat)
  case atStart => exact ⟨0, Nat.zero_le _, by first | rfl | go_num | (congr 1; omega), by rw [Nat.sub_zero, List.drop_length]; rfl, by rw [Nat.sub_zero, List.drop_length]; exact HBX0, HJ0, HK0⟩
  case round =>
    obtain ⟨k, hk, rfl, rfl, HBX, HJk, HK⟩ := hrel
    have hsz := HK.out.1
    have hcl1 := HK.out.cell hb1 hcl
    by_cases hlt : k < l.length
    · obtain ⟨i, hi⟩ : ∃ i : Nat, i = l.length - 1 - k := ⟨_, rfl⟩
      have hil : i < l.length := by omega
      have hik : (l.length : Int) - 1 - k = (i : Int) := by omega
      have hik2 : l.length - k = i + 1 := by omega
      rw [hik]
      rw [hik2] at HBX ⊢
      obtain ⟨b, off, rfl, hb0, hc0, hc1, hc2, hc3, hc4, hc5⟩ := rows_cs (HK.out.rows hb2 HX.out) i hil
      have hsd := stA_drop hil
      have hsn : sndC (csA l i) = true := by
        have := List.all_eq_true.1 HS.out (l[i]) (List.getElem_mem hil)
        rw [csA_get hil]; exact this
      have hbd := stA_bd (l.drop (i + 1)) (by rw [List.length_drop]; omega) (List.all_eq_true.2 fun x hx => (List.all_eq_true.1 HS.out) x (List.mem_of_mem_drop hx))
      have hll : ((l.drop (i + 1)).length : Int) ≤ 20 := by rw [List.length_drop]; omega
      have hby : bedY l k = (i, (stA (l.drop i)).2) := by unfold bedY; rw [← hi]
      have hbs := bedL_succ l k
      rw [hby, hsd] at hbs
      generalize csA l i = C at *
      generalize stA (l.drop (i + 1)) = D at *
      generalize ((l.drop (i + 1)).length : Int) = LN at *
      obtain ⟨f, ⟨aw, ae, an, ah, ap⟩⟩ := D
      obtain ⟨ch, co, ci, cg, ce, cn⟩ := C
      dsimp only at *
      have hpr := cs_prod hsn (f := f) (by omega)
      dsimp only at hpr
      have hsp := sndC_spec hsn
      dsimp only at hsp
      have hlt3 := HBX.out.lt
      have hbw : b < wr.heap.size := by omega
      have HF : Hid (0 ≤ f ∧ f ≤ 200000000) := Lib.hid (by omega)
      have HAW : Hid (0 ≤ aw ∧ aw ≤ 20000000) := Lib.hid (by omega)
      have HAE : Hid (-100000000000 ≤ ae ∧ ae ≤ 100000000000) := Lib.hid (by omega)
      have HAN : Hid (-100000000000 ≤ an ∧ an ≤ 100000000000) := Lib.hid (by omega)
      have HAH : Hid (0 ≤ ah ∧ ah ≤ 1000000) := Lib.hid (by omega)
      have HAP : Hid (0 ≤ ap ∧ ap ≤ 20000000000000) := Lib.hid (by omega)
      have HPR := Lib.hid hpr
      have HSP := Lib.hid hsp
      have HBS := Lib.hid hbs
      have HSD := Lib.hid hsd
      have hki : l.length - (k + 1) = i := by omega
      have HKI := Lib.hid hki
      have HLT := Lib.hid hlt
      have HHI := Lib.hid hi
      have HIK := Lib.hid hik
      have HXC := Lib.hid (BoxN.new wr 61 #[.int .i64 ch, .int .i64 co, .int .i64 ci, .int .i64 cg, .int .i64 ce, .int .i64 cn])
      have HBA := Lib.hid ((Below.refl wr.heap.size wr).alloc (Nat.le_refl _) (.cells #[.int .i64 ch, .int .i64 co, .int .i64 ci, .int .i64 cg, .int .i64 ce, .int .i64 cn] 61))
      have hil9 : (i : Int) < l.length := by omega
      clear hsd hby hi hik hik2 hsn hbd hll hpr hsp hbs hlt hki
      refine wpIn_wide.2 ?_
      go_upto_region 6 with (fail)
      generalize (wr.alloc (.cells #[.int .i64 ch, .int .i64 co, .int .i64 ci, .int .i64 cg, .int .i64 ce, .int .i64 cn] 61)) = wA at *
      clear hc0 hc1 hc2 hc3 hc4 hc5 hcl1
      have HBB : Hid (Below W.heap.size wr wA) := Lib.hid (HBA.out.mono (by omega))
      replace HBX := Lib.hid (HBX.out.block (HBA.out.block W.heap.size hlt3))
      clear HBA
      have c0 := HXC.out.cell 0
      have c1 := HXC.out.cell 1
      simp at c0 c1
      have hx1 := HPR.out.1
      go_upto_region 7 with (fail)
      clear c0 c1 hx1
      generalize co * ch = ow at *
      have c0 := HXC.out.cell 0
      have p4 := HBX.out.cell 4
      have f4 := HBX.out.frozen 4
      simp at p4 c0
      have hx1 := And.intro HPR.out.2.1 (And.intro HPR.out.2.2.1 (And.intro HAP.out (And.intro HF.out HSP.out.1)))
      obtain ⟨hy1, hy2, hy3, hy4, hy5⟩ := id hx1
      go_upto_region 8 with (fail)
      replace HXC := Lib.hid (HXC.out.other (b := W.heap.size) (j := 4) (v := .int .i64 (ap + (2 * f * ch + ow * ch))) (by omega))
      replace HBX := Lib.hid (HBX.out.set 4 (.int .i64 (ap + (2 * f * ch + ow * ch))))
      replace HBB := Lib.hid (HBB.out.setCell (p := ⟨W.heap.size, 4, none⟩) (Nat.le_refl _) (.int .i64 (ap + (2 * f * ch + ow * ch))))
      clear hy1 hy2 hy3 hy4 hy5 p4 f4 c0 hx1
      generalize (wA.setCell ⟨W.heap.size, 4, none⟩ (.int .i64 (ap + (2 * f * ch + ow * ch)))) = wB at *
      generalize ap + (2 * f * ch + ow * ch) = ap2 at *
      have hx1 := And.intro HF.out HPR.out.1
      obtain ⟨hy1, hy2⟩ := id hx1
      go_upto_region 9 with (fail)
      clear hx1 hy1 hy2
      generalize f + ow = f2 at *
      have c3 := HXC.out.cell 3
      have p0 := HBX.out.cell 0
      have f0 := HBX.out.frozen 0
      simp at p0 c3
      have hx1 := And.intro HAW.out HSP.out.2.2.2.2.1
      obtain ⟨hy1, hy2⟩ := id hx1
      go_upto_region 10 with (fail)
      replace HXC := Lib.hid (HXC.out.other (b := W.heap.size) (j := 0) (v := .int .i64 (aw + cg)) (by omega))
      replace HBX := Lib.hid (HBX.out.set 0 (.int .i64 (aw + cg)))
      replace HBB := Lib.hid (HBB.out.setCell (p := ⟨W.heap.size, 0, none⟩) (Nat.le_refl _) (.int .i64 (aw + cg)))
      clear hy1 hy2 p0 f0 c3 hx1
      generalize (wB.setCell ⟨W.heap.size, 0, none⟩ (.int .i64 (aw + cg))) = wC at *
      generalize aw + cg = aw2 at *
      have c3 := HXC.out.cell 3
      have c4 := HXC.out.cell 4
      have p1 := HBX.out.cell 1
      have f1 := HBX.out.frozen 1
      simp at p1 c3 c4
      have hx1 := And.intro HAE.out HPR.out.2.2.2.1
      obtain ⟨hy1, hy2⟩ := id hx1
      go_upto_region 11 with (fail)
      replace HXC := Lib.hid (HXC.out.other (b := W.heap.size) (j := 1) (v := .int .i64 (ae + cg * ce)) (by omega))
      replace HBX := Lib.hid (HBX.out.set 1 (.int .i64 (ae + cg * ce)))
      replace HBB := Lib.hid (HBB.out.setCell (p := ⟨W.heap.size, 1, none⟩) (Nat.le_refl _) (.int .i64 (ae + cg * ce)))
      clear hy1 hy2 p1 f1 c3 c4 hx1
      generalize (wC.setCell ⟨W.heap.size, 1, none⟩ (.int .i64 (ae + cg * ce))) = wD at *
      generalize ae + cg * ce = ae2 at *
      have c3 := HXC.out.cell 3
      have c5 := HXC.out.cell 5
      have p2 := HBX.out.cell 2
      have f2 := HBX.out.frozen 2
      simp at p2 c3 c5
      have hx1 := And.intro HAN.out HPR.out.2.2.2.2
      obtain ⟨hy1, hy2⟩ := id hx1
      go_upto_region 12 with (fail)
      replace HXC := Lib.hid (HXC.out.other (b := W.heap.size) (j := 2) (v := .int .i64 (an + cg * cn)) (by omega))
      replace HBX := Lib.hid (HBX.out.set 2 (.int .i64 (an + cg * cn)))
      replace HBB := Lib.hid (HBB.out.setCell (p := ⟨W.heap.size, 2, none⟩) (Nat.le_refl _) (.int .i64 (an + cg * cn)))
      clear hy1 hy2 p2 f2 c3 c5 hx1
      generalize (wD.setCell ⟨W.heap.size, 2, none⟩ (.int .i64 (an + cg * cn))) = wE at *
      generalize an + cg * cn = an2 at *
      have c0 := HXC.out.cell 0
      have p3 := HBX.out.cell 3
      have f3 := HBX.out.frozen 3
      simp at p3 c0
      have hx1 := And.intro HAH.out HSP.out.1
      obtain ⟨hy1, hy2⟩ := id hx1
      go_upto_region 13 with (fail)
      replace HXC := Lib.hid (HXC.out.other (b := W.heap.size) (j := 3) (v := .int .i64 (ah + ch)) (by omega))
      replace HBX := Lib.hid (HBX.out.set 3 (.int .i64 (ah + ch)))
      replace HBB := Lib.hid (HBB.out.setCell (p := ⟨W.heap.size, 3, none⟩) (Nat.le_refl _) (.int .i64 (ah + ch)))
      clear hy1 hy2 p3 f3 c0 hx1
      generalize (wE.setCell ⟨W.heap.size, 3, none⟩ (.int .i64 (ah + ch))) = wF at *
      generalize ah + ch = ah2 at *
      have p0 := HBX.out.cell 0
      have p1 := HBX.out.cell 1
      have p2 := HBX.out.cell 2
      have p3 := HBX.out.cell 3
      have p4 := HBX.out.cell 4
      simp at p0 p1 p2 p3 p4
      clear HXC HF HAW HAE HAN HAH HAP HPR HSP
      obtain ⟨fn, tmps, assign, body, hy, hR⟩ := HY.out (bedL l k) (i, ⟨aw2, ae2, an2, ah2, ap2⟩) wF (HJ.out _ _ _ HJk.out HBB.out) (by rw [bedL_len]; exact HLT.out)
      have HR := Lib.hid hR
      clear hR HY HJk
      change (Instr.yield y #[.int .i64 (i : Int), .agg #[.int .i64 aw2, .int .i64 ae2, .int .i64 an2, .int .i64 ah2, .int .i64 ap2]]).run Try.prog wF = _ at hy
      refine (wpIn_wide (n := n)).1 ?_
      gi_wp2
      refine HR.out.mono ?_
      rintro e W3 (⟨rfl, hJ3, hk3⟩ | ⟨rfl, hJx3⟩)
      · have HBX3 := Lib.hid (hk3.boxN HBX.out)
        have HK3 := Lib.hid ((HK.out.trans (KeepL.of HBB.out)).trans (hk3.low _))
        have HJ3 := Lib.hid hJ3
        clear hJ3 hk3 hy HBX HBB HK p0 p1 p2 p3 p4
        gi_wp2
        change Code.wp Try.prog (Code.cond (.tmp 75) .ret .skip) _ _ W3
        go_wp2
        go_roundw
        case rel => exact ⟨k + 1, by have h2 := HLT.out; omega, by rw [show (l.length : Int) - 1 - ((k + 1 : Nat) : Int) = (i : Int) - 1 by have h1 := HHI.out; have h2 := HLT.out; omega], by rw [HKI.out, HSD.out], by rw [HKI.out, HSD.out]; exact HBX3, by rw [HBS.out]; exact HJ3, HK3⟩
        case measure => have h1 := HHI.out; have h2 := HLT.out; first | (simp [intOf]; done) | (simp [intOf]; omega)
      · have hJ4 := Lib.hid hJx3
        clear hJx3 hy p0 p1 p2 p3 p4
        gi_wp2
        change Code.wp Try.prog (Code.cond (.tmp 75) .ret .skip) _ _ W3
        go_wp2
        refine bodyPost_ret (results_none rfl _ _ _) rfl ?_
        exact ⟨⟨_, rfl⟩, .inr ⟨_, ⟨k, HLT.out, rfl⟩, by rw [HBS.out]; exact hJ4.out⟩⟩
    · have hkn : k = l.length := by omega
      have hk9 : (l.length : Int) - 1 - k = -1 := by omega
      rw [hk9]
      have HJe : Hid (J (bedL l l.length) wr) := by rw [← hkn]; exact HJk
      gi_wp2
      go_end0
      first | exact ⟨⟨_, rfl⟩, .inl ⟨_, rfl, HJe.out⟩⟩ | exact ⟨⟨_, rfl⟩, .inl HJe.out⟩
theorem beds_seq (n : Nat) (hn : 1 ≤ n) (Bl n0 : Nat) (A : Option Addr) (len cap : Nat) (l : List Cs) (w : World) (hb : Bl < w.heap.size ∧ n0 ≤ w.heap.size) (hlen : len ≤ 20) (hs : l.all sndC = true) (hcl : w.cell? ⟨Bl, 0, none⟩ = some (.slice A len cap)) (hX : Rows 6 c6V dC w n0 A len l) :
    SeqM Fence.wide n Try.prog 38 #[.pointer (some ⟨Bl, 0, none⟩)] encB (fun ys => ys = bedL l len) (fun pre => ∃ k, k < len ∧ pre = bedL l (k + 1)) len w := fun y J Jx W hW hJ _ hY h0 => by
  have hs' := hW.size
  exact beds1_in n hn y Bl n0 A len cap l J Jx W hJ ⟨by omega, by omega⟩ hlen hs hY ((hW.cell (p := ⟨Bl, 0, none⟩) hb.1).trans hcl) (hX.below (hW.mono hb.2)) h0
end Go.Proofs.Ytfahdgmnlpkaiaa
