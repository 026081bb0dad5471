/- TapeTexts: the readers: a map of two entries by their words, the two closures. -/
import Derived.Test.YthpbkbbmedpecaaDoorTpR
import Derived.Laws.EntriesVeiled
import Derived.MapKept
set_option linter.unusedSimpArgs false
set_option linter.unusedVariables false
namespace Go.Proofs.YthpbkbbmedpecaaDoor
open Go.RowKit

/-- Worlds that are later than w but for the blocks of S. -/
def KeptS (S : Nat → Prop) (A B : World) : Prop := A.heap.size ≤ B.heap.size ∧ ∀ k, k < A.heap.size → ¬ S k → B.heap[k]? = A.heap[k]?
theorem KeptS.refl (S : Nat → Prop) (A : World) : KeptS S A A := ⟨Nat.le_refl _, fun _ _ _ => rfl⟩
theorem KeptS.trans {S : Nat → Prop} {A B C : World} (h : KeptS S A B) (k : KeptS S B C) : KeptS S A C := ⟨Nat.le_trans h.1 k.1, fun j h1 h2 => (k.2 j (Nat.lt_of_lt_of_le h1 h.1) h2).trans (h.2 j h1 h2)⟩
theorem KeptS.of {S : Nat → Prop} {A B : World} (h : Below A.heap.size A B) : KeptS S A B := ⟨h.size, fun k hk _ => h.block k hk⟩
theorem KeptS.grown {S : Nat → Prop} {A B : World} {ob : Option Nat} (h : A.grownBy B ob) (hs : ∀ k, ob = some k → S k) : KeptS S A B := ⟨h.size, fun k hk hn => h.block k hk (fun e => hn (hs k e.symm))⟩
structure OffS (w : World) (S : Nat → Prop) where
  val : World
  h : KeptS S w val
instance offsSome (w : World) (S : Nat → Prop) : Nonempty (OffS w S) := ⟨⟨w, KeptS.refl _ _⟩⟩
theorem OffS.cell {w : World} {S : Nat → Prop} (x : OffS w S) (b o : Nat) (hb : b < w.heap.size) (hs : ¬ S b) : x.val.cell? ⟨b, o, none⟩ = w.cell? ⟨b, o, none⟩ := World.cell?_of_block (a := ⟨b, o, none⟩) (x.h.2 b hb hs)
theorem wp_region_offs {P : Program} {id : Nat} {Q : Exit → Act → World → Prop} {a : Act} {w : World} {l : List Oper} (S : Nat → Prop) (hm : P.follows .mixedOrders = true) (hg : noGuard l.toArray = true)
    (h : wpC P .any l.toArray (fun W => ∃ x : OffS w S, W = x.val) Q l.length (Array.replicate l.length false) a w.drew) : (Code.region id l.toArray true).wp P Q a w :=
  wp_region_any hm (wpC_any hg _ _ _ _ (by simpa using h))
attribute [local go_sem] Later.cell Same.cell OffB.cell OffS.cell

section
variable {P : Program} {w : World} {t k e : TypeId} {r : Nat} {es : Array MapEntry} {c : Nat} {s : ByteArray} {v z : Value} {i : Nat}
theorem run_look_yes (ht : P.underlying t = some (.map k e)) (hk : P.underlying k = some .string) (ho : w.heap[r]? = some (.map es c)) (hf : Instr.findNow .string (.string s) es.toList 0 = some (some (i, v))) :
    (Instr.lookup t (.map (some r)) (.string s) true).run P w = .ok (.tuple #[v, .bool true]) w := by
  simp [Instr.lookup, run_underlying ht, MapKept.run_getObj_map ho, MapKept.run_checkKey (k := .string s) hk (by trivial), MapKept.run_findKey hk hf, Result.andThen]
theorem run_look_no (ht : P.underlying t = some (.map k e)) (hk : P.underlying k = some .string) (ho : w.heap[r]? = some (.map es c)) (hz : (zeroValue e).run P w = .ok z w) (hf : Instr.findNow .string (.string s) es.toList 0 = some none) :
    (Instr.lookup t (.map (some r)) (.string s) true).run P w = .ok (.tuple #[z, .bool false]) w := by
  simp [Instr.lookup, run_underlying ht, MapKept.run_getObj_map ho, MapKept.run_checkKey (k := .string s) hk (by trivial), MapKept.run_findKey hk hf, hz, Result.andThen]
theorem run_put_new (ht : P.underlying t = some (.map k e)) (hk : P.underlying k = some .string) (ho : w.heap[r]? = some (.map es c)) (hf : Instr.findNow .string (.string s) es.toList 0 = some none) :
    (Instr.mapUpdate t (.map (some r)) (.string s) v).run P w = .ok () { w with heap := w.heap.setIfInBounds r (.map (es.push { key := .string s, val := v, born := c }) (c + 1)) } := by
  simp [Instr.mapUpdate, run_underlying ht, MapKept.run_getObj_map ho, MapKept.run_checkKey (k := .string s) hk (by trivial), MapKept.run_findKey hk hf, MapKept.run_setObj_map _ ho, Result.andThen]
end
/-- The readers. -/
def readN (b2 : Nat) : Value := .agg #[.int .i64 1, .func (.func 13) #[] #[.pointer (some ⟨b2, 0, none⟩)]]
def readT (b3 : Nat) : Value := .agg #[.int .i64 3, .func (.func 14) #[] #[.pointer (some ⟨b3, 0, none⟩)]]
def readES (b2 b3 : Nat) : Array MapEntry := #[{ key := .string ⟨#[110, 111, 100, 101, 115]⟩, val := readN b2, born := 0 }, { key := .string ⟨#[116, 97, 112, 101]⟩, val := readT b3, born := 1 }]
theorem bytes_ne {a b : List UInt8} (h : a ≠ b) : ((⟨a.toArray⟩ : ByteArray) == ⟨b.toArray⟩) = false := by
  cases hb : ((⟨a.toArray⟩ : ByteArray) == ⟨b.toArray⟩) with
  | false => rfl
  | true =>
    exfalso
    have := (MapKept.bytes_beq _ _).1 hb
    exact h (by simpa using congrArg (fun x : ByteArray => x.data.toList) this)
theorem find_other {hd : List UInt8} {b2 b3 : Nat} (h1 : hd ≠ nodesW) (h2 : hd ≠ tapeW) : Instr.findNow .string (.string ⟨hd.toArray⟩) (readES b2 b3).toList 0 = some none := by
  have e1 := bytes_ne h1
  have e2 := bytes_ne h2
  simp only [nodesW, tapeW] at e1 e2
  simp [readES, Instr.findNow, Instr.sameNow, e1, e2]
theorem look_node {W : World} {bm b2 b3 c : Nat} (ho : W.heap[bm]? = some (.map (readES b2 b3) c)) : (Instr.lookup 45 (.map (some bm)) (.string ⟨#[110, 111, 100, 101, 115]⟩) true).run Tryd.prog W = .ok (.tuple #[readN b2, .bool true]) W :=
  run_look_yes (i := 0) Tryd.underlying45 Tryd.underlying9 ho (by rfl)
theorem look_tape {W : World} {bm b2 b3 c : Nat} (ho : W.heap[bm]? = some (.map (readES b2 b3) c)) : (Instr.lookup 45 (.map (some bm)) (.string ⟨#[116, 97, 112, 101]⟩) true).run Tryd.prog W = .ok (.tuple #[readT b3, .bool true]) W :=
  run_look_yes (i := 1) Tryd.underlying45 Tryd.underlying9 ho (by rfl)
theorem look_other {W : World} {bm b2 b3 c : Nat} {hd : List UInt8} (ho : W.heap[bm]? = some (.map (readES b2 b3) c)) (h1 : hd ≠ nodesW) (h2 : hd ≠ tapeW) :
    (Instr.lookup 45 (.map (some bm)) (.string ⟨hd.toArray⟩) true).run Tryd.prog W = .ok (.tuple #[.agg #[.int .i64 0, .nilFunc], .bool false]) W :=
  run_look_no Tryd.underlying45 Tryd.underlying9 ho (by kernel_rfl) (find_other h1 h2)
set_option maxRecDepth 20000 in
set_option maxHeartbeats 4000000 in
theorem pnode_any (g n cap b2 : Nat) (x y : Int) (W : World) (hn : 1 ≤ n) (hx : W.cell? ⟨g, 0, none⟩ = some (.int .i64 x)) (hb : W.cell? ⟨b2, 0, none⟩ = some (.int .i64 y)) (hf : W.frozen? ⟨b2, 0, none⟩ = false) :
    Calls Tryd.prog 13 #[.slice (some ⟨g, 0, none⟩) n cap, .pointer (some ⟨b2, 0, none⟩)] W fun e w' => e = .returned (.tuple #[]) ∧ w' = W.setCell ⟨b2, 0, none⟩ (.int .i64 x) := by
  go_enter Tryd.func13, Tryd.ntmps13
  go_wp2
  go_end0
  exact ⟨rfl, rfl⟩
set_option maxRecDepth 20000 in
set_option maxHeartbeats 4000000 in
theorem ptape_any (g cap b3 base m A0n cap0 : Nat) (A0 : Option Addr) (L : List Tp) (p q r : Int) (W : World) (hg : g < W.heap.size)
    (hp : W.cell? ⟨g, 0, none⟩ = some (.int .i64 p)) (hq : W.cell? ⟨g, 1, none⟩ = some (.int .i64 q)) (hr : W.cell? ⟨g, 2, none⟩ = some (.int .i64 r))
    (hb : W.cell? ⟨b3, 0, none⟩ = some (.slice A0 L.length cap0)) (hf : W.frozen? ⟨b3, 0, none⟩ = false) (ho : W.ownsRow base 34 3 (.slice A0 L.length cap0) L.length (tcells L))
    (hgb : g ≠ b3) (hgo : some g ≠ (Value.slice A0 L.length cap0).ownBlock) (hb3 : b3 < W.heap.size) (hbb : b3 < base) (hbs : base ≤ W.heap.size) (hl : L.length ≤ 65536) :
    Calls Tryd.prog 14 #[.slice (some ⟨g, 0, none⟩) 3 cap, .pointer (some ⟨b3, 0, none⟩)] W fun e w' => e = .returned (.tuple #[]) ∧
      ∃ A5 cap5, w'.cell? ⟨b3, 0, none⟩ = some (.slice A5 (L.length + 1) cap5) ∧ w'.frozen? ⟨b3, 0, none⟩ = false ∧ w'.ownsRow base 34 3 (.slice A5 (L.length + 1) cap5) (L.length + 1) (tcells (L ++ [(p, q, r)])) ∧
        W.heap.size ≤ w'.heap.size ∧ (∀ j, j < base → j ≠ b3 → w'.heap[j]? = W.heap[j]?) ∧ Below b3 W w' := by
  obtain ⟨i0, hi, hz0, hz1, hz2⟩ := info_parts xinfo_tape
  have hI0 := Lib.hid hi
  have hI1 := Lib.hid hz0
  have hI2 := Lib.hid hz1
  have hI3 := Lib.hid hz2
  have hro : ∀ x, (Value.slice A0 L.length cap0).ownBlock = some x → base ≤ x ∧ x < W.heap.size := fun x hx => ⟨(ho.lt x hx).1, (ho.lt x hx).2⟩
  have HO := Lib.hid ho
  obtain ⟨S, hS⟩ : ∃ S : Nat → Prop, S = fun x => x = b3 ∨ (Value.slice A0 L.length cap0).ownBlock = some x := ⟨_, rfl⟩
  have HS1 : Hid (S b3) := Lib.hid (by rw [hS]; exact .inl rfl)
  have HS2 : Hid (∀ k, (Value.slice A0 L.length cap0).ownBlock = some k → S k) := Lib.hid (fun k hk => by rw [hS]; exact .inr hk)
  have hSg : ¬ S g := by rw [hS]; rintro (h | h); exact hgb h; exact hgo h.symm
  clear hi hz0 hz1 hz2 ho hS
  go_enter Tryd.func14, Tryd.ntmps14
  go_wp2_with fail
  refine wp_region_offs S (by kernel_rfl) (by kernel_rfl) ?_
  refine wpC_take (f := 4) (by kernel_rfl) (by kernel_rfl) ⟨⟨_, KeptS.of (Below.refl _ _).drew⟩, rfl⟩ [1, 2, 3, 4, 5, 6, 7, 8, 9, 10] _ _ (by kernel_rfl) ?_
  simp only [List.map_cons, List.map_nil, List.getElem?_toArray, List.getElem?_cons_succ, List.getElem?_cons_zero, Option.getD_some]
  repeat (go_big_quiet_step (fail))
  refine wpQuiet_nil ?_
  refine wpC_all (rs := [0, 11]) (by kernel_rfl) (by decide) ?_
  intro i hi
  simp only [List.mem_cons, List.not_mem_nil, or_false] at hi
  rcases hi with rfl | rfl
  · refine ⟨_, rfl, ?_⟩
    go_simp
    refine ⟨⟨⟨_, KeptS.of (Below.refl _ _).drew⟩, rfl⟩, ?_⟩
    refine wpC_all (rs := [11]) (by kernel_rfl) (by decide) ?_
    intro i hi
    simp only [List.mem_cons, List.not_mem_nil, or_false] at hi
    subst hi
    refine ⟨_, rfl, ?_⟩
    go_simp
    have hnw := xnews3 W (.int .i64 p) (.int .i64 q) (.int .i64 r) 34
    have hBb : Below W.heap.size W (W.alloc (.cells #[.int .i64 p, .int .i64 q, .int .i64 r] 34)).drew := ((Below.refl _ W).alloc (Nat.le_refl _) _).drew
    have hnw' : ∀ j u, ([.int .i64 p, .int .i64 q, .int .i64 r] : List Value)[j]? = some u → (W.alloc (.cells #[.int .i64 p, .int .i64 q, .int .i64 r] 34)).drew.cell? ((⟨W.heap.size, 0, none⟩ : Addr).add j) = some u := hnw
    have ho := xown_later HO.out hBb
    have hB4 : KeptS S W (W.alloc (.cells #[.int .i64 p, .int .i64 q, .int .i64 r] 34)).drew := KeptS.of hBb
    have hz4 := hBb.size
    have hb4 := (hBb.cell (p := ⟨b3, 0, none⟩) hb3).trans hb
    have hf4 := (hBb.frozen (p := ⟨b3, 0, none⟩) hb3).trans hf
    generalize (W.alloc (.cells #[.int .i64 p, .int .i64 q, .int .i64 r] 34)).drew = WW0 at *
    refine ⟨⟨⟨_, hB4⟩, rfl⟩, ?_⟩
    refine wpC_all (rs := [12]) (by kernel_rfl) (by decide) ?_
    intro i hi
    simp only [List.mem_cons, List.not_mem_nil, or_false] at hi
    subst hi
    refine ⟨_, rfl, ?_⟩
    refine wp_append_own _ (.tmp 3) (.tmp 14) 22 rfl base 34 i0 (.agg #[.int .i64 0, .int .i64 0, .int .i64 0]) 3 24 Tryd.underlying22 hI0.out hI1.out hI2.out hI3.out rfl (by decide) _ L.length _ (by simp [Act.eval, Act.put]) ho ⟨W.heap.size, 0, none⟩ 1 1 [.int .i64 p, .int .i64 q, .int .i64 r] (by simp [Act.eval, Act.put]) rfl hnw' (xone3 _ _ _) (by unfold maxLen; omega) (by omega) (by omega) ?_
    intro v' WW1 hown hgr _
    have hO : Hid (WW1.ownsRow base 34 3 v' (L.length + 1) (tcells (L ++ [(p, q, r)]))) := Lib.hid (by rw [tcells_app]; exact hown)
    obtain ⟨A5, cap5, rfl, -, -, -⟩ := own_tapes1 hO.out
    have hbo : some b3 ≠ (Value.slice A0 L.length cap0).ownBlock := fun e => by have := (hro b3 e.symm).1; omega
    have hb5 := hgr.cell hb4 hbo
    have hf5 : WW1.frozen? ⟨b3, 0, none⟩ = false := by
      have h1 := hgr.block b3 (by omega) hbo
      have h2 := hf4
      unfold World.frozen? at *
      simp only at *
      rw [h1]; exact h2
    have hk5 : ∀ j, j < base → WW1.heap[j]? = W.heap[j]? := fun j hj => (hgr.block j (by omega) (fun e => by have := (hro j e.symm).1; omega)).trans (hBb.block j (by omega))
    have hB6 : Below b3 W WW1 := (hBb.mono (by omega)).trans (grown_below hgr (by omega) (fun q hq => by have := (hro q hq).1; omega))
    have hB5 := hB4.trans (KeptS.grown hgr HS2.out)
    have hz5 := hgr.size
    clear hown hgr ho hnw hnw' hBb hB4 hb4 hf4
    refine ⟨⟨⟨_, hB5⟩, rfl⟩, ?_⟩
    go_simp
    refine wpC_all (rs := [13]) (by kernel_rfl) (by decide) ?_
    intro i hi
    simp only [List.mem_cons, List.not_mem_nil, or_false] at hi
    subst hi
    refine ⟨_, rfl, ?_⟩
    go_simp
    have hK : KeptS S W (WW1.setCell ⟨b3, 0, none⟩ (.slice A5 (L.length + 1) cap5)) := hB5.trans ⟨by simp, fun j hj hn => Below.heap_setCell _ _ _ j (fun e => hn (by rw [show j = b3 from e]; exact HS1.out))⟩
    refine ⟨⟨⟨_, hK⟩, rfl⟩, ?_⟩
    refine wpC_done (by kernel_rfl) ?_
    go_wp2
    go_end0
    refine ⟨rfl, A5, cap5, World.cell?_setCell_same _ _ _ hb5, by simpa using hf5, ?_, ?_, ?_, ?_⟩
    · exact ownsRow_setCell_below (a := ⟨b3, 0, none⟩) hO.out hbb _
    · simp; omega
    · intro j hj hn
      exact (Below.heap_setCell _ _ _ j hn).trans (hk5 j hj)
    · exact hB6.setCell (Nat.le_refl _) _
  · refine ⟨_, rfl, ?_⟩
    go_simp
    have hnw := xnews3 W (.int .i64 p) (.int .i64 q) (.int .i64 r) 34
    have hBb : Below W.heap.size W (W.alloc (.cells #[.int .i64 p, .int .i64 q, .int .i64 r] 34)).drew := ((Below.refl _ W).alloc (Nat.le_refl _) _).drew
    have hnw' : ∀ j u, ([.int .i64 p, .int .i64 q, .int .i64 r] : List Value)[j]? = some u → (W.alloc (.cells #[.int .i64 p, .int .i64 q, .int .i64 r] 34)).drew.cell? ((⟨W.heap.size, 0, none⟩ : Addr).add j) = some u := hnw
    have ho := xown_later HO.out hBb
    have hB4 : KeptS S W (W.alloc (.cells #[.int .i64 p, .int .i64 q, .int .i64 r] 34)).drew := KeptS.of hBb
    have hz4 := hBb.size
    have hb4 := (hBb.cell (p := ⟨b3, 0, none⟩) hb3).trans hb
    have hf4 := (hBb.frozen (p := ⟨b3, 0, none⟩) hb3).trans hf
    generalize (W.alloc (.cells #[.int .i64 p, .int .i64 q, .int .i64 r] 34)).drew = WW0 at *
    refine ⟨⟨⟨_, hB4⟩, rfl⟩, ?_⟩
    refine wpC_all (rs := [0]) (by kernel_rfl) (by decide) ?_
    intro i hi
    simp only [List.mem_cons, List.not_mem_nil, or_false] at hi
    subst hi
    refine ⟨_, rfl, ?_⟩
    go_simp
    refine ⟨⟨⟨_, hB4⟩, rfl⟩, ?_⟩
    refine wpC_all (rs := [12]) (by kernel_rfl) (by decide) ?_
    intro i hi
    simp only [List.mem_cons, List.not_mem_nil, or_false] at hi
    subst hi
    refine ⟨_, rfl, ?_⟩
    refine wp_append_own _ (.tmp 3) (.tmp 14) 22 rfl base 34 i0 (.agg #[.int .i64 0, .int .i64 0, .int .i64 0]) 3 24 Tryd.underlying22 hI0.out hI1.out hI2.out hI3.out rfl (by decide) _ L.length _ (by simp [Act.eval, Act.put]) ho ⟨W.heap.size, 0, none⟩ 1 1 [.int .i64 p, .int .i64 q, .int .i64 r] (by simp [Act.eval, Act.put]) rfl hnw' (xone3 _ _ _) (by unfold maxLen; omega) (by omega) (by omega) ?_
    intro v' WW1 hown hgr _
    have hO : Hid (WW1.ownsRow base 34 3 v' (L.length + 1) (tcells (L ++ [(p, q, r)]))) := Lib.hid (by rw [tcells_app]; exact hown)
    obtain ⟨A5, cap5, rfl, -, -, -⟩ := own_tapes1 hO.out
    have hbo : some b3 ≠ (Value.slice A0 L.length cap0).ownBlock := fun e => by have := (hro b3 e.symm).1; omega
    have hb5 := hgr.cell hb4 hbo
    have hf5 : WW1.frozen? ⟨b3, 0, none⟩ = false := by
      have h1 := hgr.block b3 (by omega) hbo
      have h2 := hf4
      unfold World.frozen? at *
      simp only at *
      rw [h1]; exact h2
    have hk5 : ∀ j, j < base → WW1.heap[j]? = W.heap[j]? := fun j hj => (hgr.block j (by omega) (fun e => by have := (hro j e.symm).1; omega)).trans (hBb.block j (by omega))
    have hB6 : Below b3 W WW1 := (hBb.mono (by omega)).trans (grown_below hgr (by omega) (fun q hq => by have := (hro q hq).1; omega))
    have hB5 := hB4.trans (KeptS.grown hgr HS2.out)
    have hz5 := hgr.size
    clear hown hgr ho hnw hnw' hBb hB4 hb4 hf4
    refine ⟨⟨⟨_, hB5⟩, rfl⟩, ?_⟩
    go_simp
    refine wpC_all (rs := [13]) (by kernel_rfl) (by decide) ?_
    intro i hi
    simp only [List.mem_cons, List.not_mem_nil, or_false] at hi
    subst hi
    refine ⟨_, rfl, ?_⟩
    go_simp
    have hK : KeptS S W (WW1.setCell ⟨b3, 0, none⟩ (.slice A5 (L.length + 1) cap5)) := hB5.trans ⟨by simp, fun j hj hn => Below.heap_setCell _ _ _ j (fun e => hn (by rw [show j = b3 from e]; exact HS1.out))⟩
    refine ⟨⟨⟨_, hK⟩, rfl⟩, ?_⟩
    refine wpC_done (by kernel_rfl) ?_
    go_wp2
    go_end0
    refine ⟨rfl, A5, cap5, World.cell?_setCell_same _ _ _ hb5, by simpa using hf5, ?_, ?_, ?_, ?_⟩
    · exact ownsRow_setCell_below (a := ⟨b3, 0, none⟩) hO.out hbb _
    · simp; omega
    · intro j hj hn
      exact (Below.heap_setCell _ _ _ j hn).trans (hk5 j hj)
    · exact hB6.setCell (Nat.le_refl _) _
end Go.Proofs.YthpbkbbmedpecaaDoor
