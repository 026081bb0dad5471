/- Ladder's Parse: the program's. -/
import Derived.Test.YtjgibipficojaaaDoorLFmt2
import Derived.Test.YtjgibipficojaaaDoorFailM
import Derived.Laws.OwnMore
import Derived.Test.YtjgibipficojaaaDoorRangeS
set_option linter.unusedSimpArgs false
set_option linter.unusedVariables false
namespace Go.Proofs.YtjgibipficojaaaDoor
open Go.RowKit
attribute [local go_sem] Later.cell
theorem pinfo_jt : (Tryd.prog.info? 32).map (fun i => (i.zero, i.size, i.bytes)) = some (some (.agg #[.int .i64 0, .bool false]), 2, 16) := by kernel_rfl
theorem pnews2 (W : World) (x y : Value) (t : TypeId) : ∀ j u, ([x, y] : List Value)[j]? = some u → (W.alloc (.cells #[x, y] t)).cell? ((⟨W.heap.size, 0, none⟩ : Addr).add j) = some u := by
  intro j u hj
  rcases j with _ | _ | j
  · simp at hj; subst hj; simp [Addr.add]
  · simp at hj; subst hj; simp [Addr.add]
  · simp at hj
/-- The machine that reads joints byte by byte. -/
def mach : List UInt8 → Nat → Bool → List J → Option (List J)
  | [], _, _, l => some l
  | c :: r, h, s, l => if digB c && decide (h ≤ 200000) then mach r (10 * h + (c.toNat - 48)) s l else if c = 33 then mach r h false l else if c = 32 ∧ l.length < 200 then mach r 0 true (l ++ [((h : Int), s)]) else none
theorem mach_dig {c : UInt8} {r : List UInt8} {h : Nat} {s : Bool} {l : List J} (hc : digB c = true) (hh : h ≤ 200000) : mach (c :: r) h s l = mach r (10 * h + (c.toNat - 48)) s l := by
  rw [mach, hc, decide_eq_true hh]; rfl
theorem dig_ne {c : UInt8} (hc : digB c = true) : c ≠ 33 ∧ c ≠ 32 := by
  unfold digB at hc
  simp only [Bool.and_eq_true, decide_eq_true_eq] at hc
  constructor <;> (intro e; rw [e] at hc; revert hc; decide)
theorem mach_big {c : UInt8} {r : List UInt8} {h : Nat} {s : Bool} {l : List J} (hc : digB c = true) (hh : ¬ h ≤ 200000) : mach (c :: r) h s l = none := by
  obtain ⟨h1, h2⟩ := dig_ne hc
  rw [mach, decide_eq_false hh, Bool.and_false, if_neg (by simp), if_neg h1, if_neg (by simp [h2])]
theorem mach_bang {r : List UInt8} {h : Nat} {s : Bool} {l : List J} : mach (33 :: r) h s l = mach r h false l := by
  rw [mach]; rfl
theorem mach_sp {r : List UInt8} {h : Nat} {s : Bool} {l : List J} (hl : l.length < 200) : mach (32 :: r) h s l = mach r 0 true (l ++ [((h : Int), s)]) := by
  rw [mach, if_neg (by show ¬ _; simp [digB]), if_neg (by decide), if_pos ⟨rfl, hl⟩]
theorem mach_full {r : List UInt8} {h : Nat} {s : Bool} {l : List J} (hl : ¬ l.length < 200) : mach (32 :: r) h s l = none := by
  rw [mach, if_neg (by show ¬ _; simp [digB]), if_neg (by decide), if_neg (fun h => hl h.2)]
theorem mach_bad {c : UInt8} {r : List UInt8} {h : Nat} {s : Bool} {l : List J} (hc : digB c = false) (h1 : c ≠ 33) (h2 : c ≠ 32) : mach (c :: r) h s l = none := by
  rw [mach, hc, Bool.false_and, if_neg (by simp), if_neg h1, if_neg (by simp [h2])]
def ppV (b : List UInt8) : List J := if 65536 < b.length then [] else if b = [] then [] else match mach (b ++ [32]) 0 true [] with | none => [] | some l => if fmtL l = b then l else []
def ppE (b : List UInt8) : Int := if 65536 < b.length then 3 else if b = [] then 0 else match mach (b ++ [32]) 0 true [] with | none => 2 | some l => if fmtL l = b then 0 else 2
set_option maxRecDepth 20000 in
set_option maxHeartbeats 4000000 in
theorem Parse_any (b : List UInt8) (w : World) (htab : Tab w) (hb47 : b.length ≤ 9223372036854775807) :
    Calls Tryd.prog 5 #[.string ⟨b.toArray⟩] w fun e w' => (∃ v, e = .returned (.tuple #[v, .int .i64 (ppE b)]) ∧ w'.ownsRow w.heap.size 32 2 v (ppV b).length (jcells (ppV b))) ∧ Below w.heap.size w w' := by
  have hsz : (⟨b.toArray⟩ : ByteArray).size = b.length := rfl
  by_cases h1 : 65536 < b.length
  · have hE : ppE b = 3 := by unfold ppE; rw [if_pos h1]
    have hV : ppV b = [] := by unfold ppV; rw [if_pos h1]
    rw [hE, hV]
    have h1' : (65536 : Int) < b.length := by omega
    clear htab
    go_enter Tryd.func5, Tryd.ntmps5
    go_wp2
    go_ret2
    exact ⟨⟨_, rfl, World.ownsRow_nil _ _ _ _⟩, Below.refl _ _⟩
  · have h1' : decide ((65536 : Int) < b.length) = false := decide_eq_false (by omega)
    by_cases h2 : b = []
    · have hE : ppE b = 0 := by rw [h2]; rfl
      have hV : ppV b = [] := by rw [h2]; rfl
      rw [hE, hV]
      subst h2
      clear htab
      go_enter Tryd.func5, Tryd.ntmps5
      go_wp2
      go_ret2
      exact ⟨⟨_, rfl, World.ownsRow_nil _ _ _ _⟩, Below.refl _ _⟩
    · have hE : ppE b = match mach (b ++ [32]) 0 true [] with | none => 2 | some l => if fmtL l = b then 0 else 2 := by unfold ppE; rw [if_neg h1, if_neg h2]
      have hV : ppV b = match mach (b ++ [32]) 0 true [] with | none => [] | some l => if fmtL l = b then l else [] := by unfold ppV; rw [if_neg h1, if_neg h2]
      have hbp : 0 < b.length := List.length_pos_iff.2 h2
      have hie : b.isEmpty = false := by
        cases b with
        | nil => exact absurd rfl h2
        | cons c r => rfl
      have HE := Lib.hid hE
      have HV := Lib.hid hV
      have HT := Lib.hid htab
      obtain ⟨i0, hi, hz0, hz1, hz2⟩ := info_parts pinfo_jt
      have hI0 := Lib.hid hi
      have hI1 := Lib.hid hz0
      have hI2 := Lib.hid hz1
      have hI3 := Lib.hid hz2
      clear hi hz0 hz1 hz2 hE hV h2 htab
      obtain ⟨s, hs⟩ : ∃ s, s = b ++ [32] := ⟨_, rfl⟩
      have hap : (⟨b.toArray⟩ : ByteArray) ++ ⟨#[32]⟩ = ⟨s.toArray⟩ := by rw [hs]; exact str_app b [32]
      have hsl : s.length = b.length + 1 := by rw [hs]; simp
      rw [← hs] at HE HV
      have hssz : (⟨s.toArray⟩ : ByteArray).size = s.length := rfl
      clear hs
      go_enter Tryd.func5, Tryd.ntmps5
      go_wp2
      have hws : w.heap.size + 1 < ((w.alloc (Obj.cells #[Value.int IntKind.i64 0, Value.bool true] 32)).iter ⟨s.toArray⟩ 0).heap.size := by simp [World.iter]
      have HI0 : Hid (((w.alloc (Obj.cells #[Value.int IntKind.i64 0, Value.bool true] 32)).iter ⟨s.toArray⟩ 0).heap[w.heap.size + 1]? = some (.stringIter ⟨s.toArray⟩ 0)) := Lib.hid (by
        have := World.iter_heap (w.alloc (Obj.cells #[Value.int IntKind.i64 0, Value.bool true] 32)) ⟨s.toArray⟩ 0
        simpa using this)
      have HX0 : Hid (BoxS ((w.alloc (Obj.cells #[Value.int IntKind.i64 0, Value.bool true] 32)).iter ⟨s.toArray⟩ 0) w.heap.size 32 #[.int .i64 ((0 : Nat) : Int), .bool true]) := Lib.hid (by
        show ((w.heap.push _).push _)[w.heap.size]? = _
        rw [Array.getElem?_push_lt (by rw [Array.size_push]; omega), Array.getElem_push_eq]
        rfl)
      clear hap
      have HB0 : Hid (Below w.heap.size w ((w.alloc (Obj.cells #[Value.int IntKind.i64 0, Value.bool true] 32)).iter ⟨s.toArray⟩ 0)) := Lib.hid (below_alloc (below_alloc (Below.refl _ _) _) _)
      generalize ((w.alloc (Obj.cells #[Value.int IntKind.i64 0, Value.bool true] 32)).iter ⟨s.toArray⟩ 0) = w0 at *
      have HM0 : Hid (mach s 0 true [] = mach (s.drop 0) 0 true []) := Lib.hid rfl
      go_loopw [4] (fun v wr => ∃ (k h : Nat) (sn : Bool) (l : List J), k ≤ s.length ∧ h ≤ 2000009 ∧ l.length ≤ 200 ∧ Hid (mach s 0 true [] = mach (s.drop k) h sn l) ∧ Hid (wr.heap[w.heap.size + 1]? = some (.stringIter ⟨s.toArray⟩ k)) ∧ Hid (BoxS wr w.heap.size 32 #[.int .i64 (h : Int), .bool sn]) ∧ Hid (wr.ownsRow (w.heap.size + 2) 32 2 v l.length (jcells l)) ∧ w.heap.size + 1 < wr.heap.size ∧ Below w.heap.size w wr) (fun _ wr => s.length - wr.iterPos (w.heap.size + 1))
      case atStart => exact ⟨0, 0, true, [], Nat.zero_le _, by omega, by simp, HM0, HI0, HX0, Lib.hid (World.ownsRow_nil _ _ _ _), hws, HB0.out⟩
      case round =>
        obtain ⟨k, h, sn, l, hk, hh, hl, HM, HI, HX, HO, hs1, hB⟩ := hrel
        clear HI0 HX0 HB0 HM0 hws
        obtain ⟨A1, c1, rfl, -, -, -, -⟩ := own_joints HO.out
        by_cases hlt : k < s.length
        · obtain ⟨c, hc⟩ : ∃ c, c = s[k] := ⟨_, rfl⟩
          have hdr : s.drop k = c :: s.drop (k + 1) := by rw [hc]; exact List.drop_eq_getElem_cons hlt
          rw [hdr] at HM
          have hgk : (⟨s.toArray⟩ : ByteArray)[k]'hlt = c := by rw [hc]; exact str_get hlt hlt
          clear hdr hc
          obtain ⟨wn, hwn⟩ : ∃ wn, wn = stepS wr (w.heap.size + 1) (.stringIter ⟨s.toArray⟩ (k + (Utf8.decode ⟨s.toArray⟩ k).2)) := ⟨_, rfl⟩
          have hnx : ∀ ty, (Instr.next (.pointer (some ⟨w.heap.size + 1, 0, none⟩)) true ty).run Tryd.prog wr = .ok (.tuple #[.bool true, .int .i64 k, .int .i32 (Utf8.decode ⟨s.toArray⟩ k).1]) wn := fun ty => by rw [hwn]; exact next_at HI.out hlt
          have hsn : wn.heap.size = wr.heap.size := by rw [hwn]; exact stepS_size
          have HXn : Hid (BoxS wn w.heap.size 32 #[.int .i64 (h : Int), .bool sn]) := Lib.hid (HX.out.block (by rw [hwn]; exact stepS_other (by omega)))
          have HOn := Lib.hid (show wn.ownsRow (w.heap.size + 2) 32 2 _ l.length (jcells l) by rw [hwn]; exact stepS_own HO.out (by omega))
          have HBn : Hid (Below w.heap.size w wn) := Lib.hid (hB.trans (by rw [hwn]; exact stepS_below (by omega)))
          have HIn : Hid (wn.heap[w.heap.size + 1]? = some (.stringIter ⟨s.toArray⟩ (k + (Utf8.decode ⟨s.toArray⟩ k).2))) := Lib.hid (by rw [hwn]; exact stepS_new hs1)
          have hd1 : wn.cell? ⟨w.heap.size, 0, none⟩ = some (.int .i64 (h : Int)) := (HXn.out.cell 0).trans rfl
          have hd2 : wn.cell? ⟨w.heap.size, 1, none⟩ = some (.bool sn) := (HXn.out.cell 1).trans rfl
          have hf1 := HXn.out.frozen 0
          have hf2 := HXn.out.frozen 1
          have hip : wr.iterPos (w.heap.size + 1) = k := by unfold World.iterPos; rw [HI.out]
          have hs2 : w.heap.size + 1 < wn.heap.size := by rw [hsn]; exact hs1
          clear hwn HO HX hsn
          by_cases h128 : c.toNat < 128
          · have hde : Utf8.decode ⟨s.toArray⟩ k = (c.toNat, 1) := by
              have := decode_ascii ⟨s.toArray⟩ k hlt (by rw [hgk]; exact h128)
              rw [hgk] at this
              exact this
            rw [hde] at hnx HIn
            dsimp only at hnx HIn
            clear hde hgk
            by_cases hdg : digB c = true
            · have hd48 : 48 ≤ c.toNat ∧ c.toNat ≤ 57 := by unfold digB at hdg; simpa using hdg
              by_cases hbig : h ≤ 200000
              · have HM2 := Lib.hid (HM.out.trans (mach_dig hdg hbig))
                clear HM
                have hc48 : (48 : Int) ≤ c.toNat := by omega
                have hc57 : (c.toNat : Int) ≤ 57 := by omega
                have hcd : decide ((c.toNat : Int) ≥ 48) = true := decide_eq_true (by omega)
                have hhb : (h : Int) ≤ 200000 := by omega
                have HSX : Hid (BoxS (wn.setCell ⟨w.heap.size, 0, none⟩ (.int .i64 ((10 * h + (c.toNat - 48) : Nat) : Int))) w.heap.size 32 #[.int .i64 ((10 * h + (c.toNat - 48) : Nat) : Int), .bool sn]) := Lib.hid (HXn.out.set 0 _)
                have hval : ∀ V : Value, V = .int .i64 ((10 * h + (c.toNat - 48) : Nat) : Int) → BoxS (wn.setCell ⟨w.heap.size, 0, none⟩ V) w.heap.size 32 #[.int .i64 ((10 * h + (c.toNat - 48) : Nat) : Int), .bool sn] := fun V hV => by rw [hV]; exact HSX.out
                have HVL := Lib.hid hval
                have HSI : Hid (∀ V, (wn.setCell ⟨w.heap.size, 0, none⟩ V).heap[w.heap.size + 1]? = some (.stringIter ⟨s.toArray⟩ (k + 1))) := Lib.hid (fun V => (heap_set_other (by omega)).trans HIn.out)
                have HSO := Lib.hid (fun V => ownsRow_setCell_below (a := ⟨w.heap.size, 0, none⟩) HOn.out (by show w.heap.size < _; omega) V)
                have hh2 : 10 * h + (c.toNat - 48) ≤ 2000009 := by omega
                clear HSX hval HXn HIn HOn HE HV HT hB hdg h128
                go_wp2
                go_roundw
                case rel => exact ⟨k + 1, 10 * h + (c.toNat - 48), sn, l, by omega, hh2, hl, HM2, Lib.hid (HSI.out _), Lib.hid (HVL.out _ (by congr 1; omega)), Lib.hid (HSO.out _), by simp; omega, HBn.out.setCell (by first | (simp; done) | (simp; omega) | omega) _⟩
                case measure =>
                  have := HSI.out
                  simp only [World.iterPos, this]
                  unfold World.iterPos at hip
                  omega
              · have HM2 := Lib.hid (HM.out.trans (mach_big hdg hbig))
                clear HM
                have hc48 : (48 : Int) ≤ c.toNat := by omega
                have hc57 : (c.toNat : Int) ≤ 57 := by omega
                have hcd : decide ((c.toNat : Int) ≥ 48) = true := decide_eq_true (by omega)
                have hhb : ¬ (h : Int) ≤ 200000 := by omega
                have hc33 : ¬ (c.toNat : Int) = 33 := by omega
                have hc32 : ¬ (c.toNat : Int) = 32 := by omega
                have HE2 : Hid (ppE b = 2) := Lib.hid (by rw [HE.out, HM2.out])
                have HV2 : Hid (ppV b = []) := Lib.hid (by rw [HV.out, HM2.out])
                clear HE HV HM2 HOn HIn HT hB hip
                go_wp2
                go_ret2
                exact ⟨⟨.slice none 0 0, by rw [HE2.out] <;> rfl, by rw [HV2.out]; exact World.ownsRow_nil _ _ _ _⟩, HBn.out⟩
            · have hdg : digB c = false := by simpa using hdg
              by_cases h33 : c = 33
              · subst h33
                have HM2 := Lib.hid (HM.out.trans mach_bang)
                clear HM
                have HSX := Lib.hid (HXn.out.set 1 (.bool false))
                have HSI : Hid (∀ V, (wn.setCell ⟨w.heap.size, 1, none⟩ V).heap[w.heap.size + 1]? = some (.stringIter ⟨s.toArray⟩ (k + 1))) := Lib.hid (fun V => (heap_set_other (by omega)).trans HIn.out)
                have HSO := Lib.hid (fun V => ownsRow_setCell_below (a := ⟨w.heap.size, 1, none⟩) HOn.out (by show w.heap.size < _; omega) V)
                have hnx : ∀ ty, (Instr.next (.pointer (some ⟨w.heap.size + 1, 0, none⟩)) true ty).run Tryd.prog wr = .ok (.tuple #[.bool true, .int .i64 k, .int .i32 33]) wn := hnx
                clear HXn HIn HOn HE HV HT hB hdg h128
                go_wp2
                go_roundw
                case rel => exact ⟨k + 1, h, false, l, by omega, hh, hl, HM2, Lib.hid (HSI.out _), HSX, Lib.hid (HSO.out _), by simp; omega, HBn.out.setCell (by first | (simp; done) | (simp; omega) | omega) _⟩
                case measure =>
                  have := HSI.out
                  simp only [World.iterPos, this]
                  unfold World.iterPos at hip
                  omega
              · by_cases h32 : c = 32
                · subst h32
                  by_cases hl2 : l.length < 200
                  · have HM2 := Lib.hid (HM.out.trans (mach_sp hl2))
                    clear HM
                    have hnx : ∀ ty, (Instr.next (.pointer (some ⟨w.heap.size + 1, 0, none⟩)) true ty).run Tryd.prog wr = .ok (.tuple #[.bool true, .int .i64 k, .int .i32 32]) wn := hnx
                    have hll : (l.length : Int) < 200 := by omega
                    clear HE HV HT hB hdg h128
                    go_wp2_with (at_builtin; go_loud (refine wpList_append_own _ rfl (.tmp 52) (.tmp 54) 22 rfl (w.heap.size + 2) 32 i0 (.agg #[.int .i64 0, .bool false]) 2 16 Tryd.underlying22 hI0.out hI1.out hI2.out hI3.out rfl (by decide) _ _ _ rfl (HOn.out.alloc _) ⟨wn.heap.size, 0, none⟩ 1 1 [.int .i64 h, .bool sn] rfl rfl (by intro j u hj; exact pnews2 wn _ _ 32 j u hj) (by intro u hu; simp at hu; rcases hu with rfl | rfl <;> rfl) (by unfold maxLen; omega) (by omega) (by simp; omega) ?_))
                    intro v' w5 hown' hgrow _
                    have hb7 : Below (w.heap.size + 2) wn w5 := ((Below.refl _ wn).alloc (by omega) (.cells #[.int .i64 h, .bool sn] 32)).trans (grown_below hgrow (by simp; omega) (fun q hq => (HOn.out.lt q hq).1))
                    have hs5 : w.heap.size + 1 < w5.heap.size := by have := hb7.size; omega
                    have HX5 := Lib.hid (HXn.out.block (hb7.block _ (by omega)))
                    have HI5 := Lib.hid ((hb7.block (w.heap.size + 1) (by omega)).trans HIn.out)
                    have HO5 : Hid (w5.ownsRow (w.heap.size + 2) 32 2 v' (l ++ [((h : Int), sn)]).length (jcells (l ++ [((h : Int), sn)]))) := by
                      rw [List.length_append, show jcells (l ++ [((h : Int), sn)]) = jcells l ++ [.int .i64 h, .bool sn] by simp [jcells, jointV]]; exact Lib.hid hown'
                    have hl9 : (l ++ [((h : Int), sn)]).length ≤ 200 := by rw [List.length_append]; simp; omega
                    have HB5 := Lib.hid (HBn.out.trans (hb7.mono (by omega)))
                    have hd5 : w5.cell? ⟨w.heap.size, 0, none⟩ = some (.int .i64 (h : Int)) := (HX5.out.cell 0).trans rfl
                    have hd6 : w5.cell? ⟨w.heap.size, 1, none⟩ = some (.bool sn) := (HX5.out.cell 1).trans rfl
                    have hf5 := HX5.out.frozen 0
                    have hf6 := HX5.out.frozen 1
                    clear hown' hgrow HXn HIn HOn HBn hb7 hd1 hd2 hf1 hf2
                    have HSX := Lib.hid ((HX5.out.set 0 (.int .i64 0)).set 1 (.bool true))
                    have HSI : Hid (∀ V V', ((w5.setCell ⟨w.heap.size, 0, none⟩ V).setCell ⟨w.heap.size, 1, none⟩ V').heap[w.heap.size + 1]? = some (.stringIter ⟨s.toArray⟩ (k + 1))) := Lib.hid (fun V V' => (heap_set_other (by omega)).trans ((heap_set_other (by omega)).trans HI5.out))
                    have HSO := Lib.hid (fun V V' => ownsRow_setCell_below (a := ⟨w.heap.size, 1, none⟩) (ownsRow_setCell_below (a := ⟨w.heap.size, 0, none⟩) HO5.out (by show w.heap.size < _; omega) V) (by show w.heap.size < _; omega) V')
                    clear HX5 HI5 HO5
                    go_wp2
                    go_roundw
                    case rel => exact ⟨k + 1, 0, true, l ++ [((h : Int), sn)], by omega, by omega, hl9, HM2, Lib.hid (HSI.out _ _), HSX, Lib.hid (HSO.out _ _), by simp; omega, (HB5.out.setCell (by first | (simp; done) | (simp; omega) | omega) _).setCell (by first | (simp; done) | (simp; omega) | omega) _⟩
                    case measure =>
                      have := HSI.out
                      simp only [World.iterPos, this]
                      unfold World.iterPos at hip
                      omega
                  · have HM2 := Lib.hid (HM.out.trans (mach_full hl2))
                    clear HM
                    have hnx : ∀ ty, (Instr.next (.pointer (some ⟨w.heap.size + 1, 0, none⟩)) true ty).run Tryd.prog wr = .ok (.tuple #[.bool true, .int .i64 k, .int .i32 32]) wn := hnx
                    have hll : ¬ (l.length : Int) < 200 := by omega
                    have HE2 : Hid (ppE b = 2) := Lib.hid (by rw [HE.out, HM2.out])
                    have HV2 : Hid (ppV b = []) := Lib.hid (by rw [HV.out, HM2.out])
                    clear HE HV HM2 HOn HIn HT hB hip
                    go_wp2
                    go_ret2
                    exact ⟨⟨.slice none 0 0, by rw [HE2.out] <;> rfl, by rw [HV2.out]; exact World.ownsRow_nil _ _ _ _⟩, HBn.out⟩
                · have HM2 := Lib.hid (HM.out.trans (mach_bad hdg h33 h32))
                  clear HM
                  obtain ⟨R, hR⟩ : ∃ R, R = c.toNat := ⟨_, rfl⟩
                  have hR33 : ¬ (R : Int) = 33 := fun h => h33 (UInt8.toNat_inj.1 (by show c.toNat = 33; omega))
                  have hR32 : ¬ (R : Int) = 32 := fun h => h32 (UInt8.toNat_inj.1 (by show c.toNat = 32; omega))
                  have hRd : ¬ (48 ≤ R ∧ R ≤ 57) := fun h => by
                    rw [hR] at h
                    unfold digB at hdg
                    rw [decide_eq_true h.1, decide_eq_true h.2] at hdg
                    cases hdg
                  rw [← hR] at hnx
                  clear hdg h33 h32
                  by_cases hlo : R < 48
                  · have hlo1 : ¬ (48 : Int) ≤ R := by omega
                    have hlo2 : decide ((R : Int) ≥ 48) = false := decide_eq_false (by omega)
                    clear hRd
                    have HE2 : Hid (ppE b = 2) := Lib.hid (by rw [HE.out, HM2.out])
                    have HV2 : Hid (ppV b = []) := Lib.hid (by rw [HV.out, HM2.out])
                    clear HE HV HM2 HOn HIn HT hB hip
                    go_wp2
                    go_ret2
                    exact ⟨⟨.slice none 0 0, by rw [HE2.out] <;> rfl, by rw [HV2.out]; exact World.ownsRow_nil _ _ _ _⟩, HBn.out⟩
                  · have hhi1 : ¬ (R : Int) ≤ 57 := by omega
                    have hlo2 : decide ((R : Int) ≥ 48) = true := decide_eq_true (by omega)
                    have hhi2 : decide ((R : Int) ≤ 57) = false := decide_eq_false (by omega)
                    clear hRd
                    have HE2 : Hid (ppE b = 2) := Lib.hid (by rw [HE.out, HM2.out])
                    have HV2 : Hid (ppV b = []) := Lib.hid (by rw [HV.out, HM2.out])
                    clear HE HV HM2 HOn HIn HT hB hip
                    go_wp2
                    go_ret2
                    exact ⟨⟨.slice none 0 0, by rw [HE2.out] <;> rfl, by rw [HV2.out]; exact World.ownsRow_nil _ _ _ _⟩, HBn.out⟩
          · have hdh := decode_high ⟨s.toArray⟩ k hlt (by rw [hgk]; omega)
            have hdg : digB c = false := by unfold digB; rw [decide_eq_false (show ¬ c.toNat ≤ 57 by omega), Bool.and_false]
            have h33 : c ≠ 33 := fun e => by rw [e] at h128; exact h128 (by decide)
            have h32 : c ≠ 32 := fun e => by rw [e] at h128; exact h128 (by decide)
            have HM2 := Lib.hid (HM.out.trans (mach_bad hdg h33 h32))
            clear HM
            obtain ⟨R, hR⟩ : ∃ R, R = (Utf8.decode ⟨s.toArray⟩ k).1 := ⟨_, rfl⟩
            rw [← hR] at hnx hdh
            have hR33 : ¬ (R : Int) = 33 := by omega
            have hR32 : ¬ (R : Int) = 32 := by omega
            have hRd : ¬ (48 ≤ R ∧ R ≤ 57) := by omega
            have hlo : ¬ R < 48 := by omega
            have hdle := decode_le ⟨s.toArray⟩ k
            rw [← hR] at hdle
            clear hdg h33 h32 hdh hgk hR
            have hhi1 : ¬ (R : Int) ≤ 57 := by omega
            have hlo2 : decide ((R : Int) ≥ 48) = true := decide_eq_true (by omega)
            have hhi2 : decide ((R : Int) ≤ 57) = false := decide_eq_false (by omega)
            clear hRd
            have HE2 : Hid (ppE b = 2) := Lib.hid (by rw [HE.out, HM2.out])
            have HV2 : Hid (ppV b = []) := Lib.hid (by rw [HV.out, HM2.out])
            clear HE HV HM2 HOn HIn HT hB hip
            go_wp2
            go_ret2
            exact ⟨⟨.slice none 0 0, by rw [HE2.out] <;> rfl, by rw [HV2.out]; exact World.ownsRow_nil _ _ _ _⟩, HBn.out⟩
        · have hkl : k = s.length := by omega
          have hnx : ∀ ty, (Instr.next (.pointer (some ⟨w.heap.size + 1, 0, none⟩)) true ty).run Tryd.prog wr = .ok (.tuple #[.bool false]) wr := fun ty => next_end HI.out (by rw [hssz]; omega)
          have hM : mach s 0 true [] = some l := by rw [HM.out, hkl, List.drop_length, mach]
          have hEE : ppE b = if fmtL l = b then 0 else 2 := by rw [HE.out, hM]
          have hVV : ppV b = if fmtL l = b then l else [] := by rw [HV.out, hM]
          obtain ⟨A2, c2, he2, -, -, hR, -⟩ := own_joints HO.out
          injection he2 with e1 e2 e3
          subst e1 e3
          have HO6 := Lib.hid (own_mono HO.out (show w.heap.size ≤ w.heap.size + 2 by omega))
          have C3 := Lib.hid (Format_any A1 l.length c1 l wr (HT.out.below hB) (by omega) hR)
          have HEE := Lib.hid hEE
          have HVV := Lib.hid hVV
          clear hEE hVV HE HV HM HI HX HO hR hM HT hkl e2
          go_wp2_with fail
          refine C3.out.mono ?_
          rintro e w4 ⟨rfl, hb4⟩
          have HO4 := Lib.hid (own_later HO6.out hb4)
          have HB4 := Lib.hid (below_step hB hb4)
          clear hb4 HO6 C3 hB
          by_cases hf : fmtL l = b
          · have HV5 : Hid (ppV b = l) := Lib.hid (by rw [HVV.out, if_pos hf])
            have HE5 : Hid (ppE b = 0) := Lib.hid (by rw [HEE.out, if_pos hf])
            rw [hf]
            clear HVV HEE hf
            go_wp2
            go_ret2
            exact ⟨⟨.slice A1 l.length c1, by rw [HE5.out] <;> rfl, by rw [HV5.out]; exact HO4.out⟩, HB4.out⟩
          · have HV5 : Hid (ppV b = []) := Lib.hid (by rw [HVV.out, if_neg hf])
            have HE5 : Hid (ppE b = 2) := Lib.hid (by rw [HEE.out, if_neg hf])
            have hf2 : (fmtL l == b) = false := by rw [beq_eq_false_iff_ne]; exact hf
            generalize fmtL l = F at *
            clear HVV HEE
            go_wp2
            go_ret2
            exact ⟨⟨.slice none 0 0, by rw [HE5.out] <;> rfl, by rw [HV5.out]; exact World.ownsRow_nil _ _ _ _⟩, HB4.out⟩
end Go.Proofs.YtjgibipficojaaaDoor
