/- Words: plain lemmas on texts, own rows of texts, the reference's Words. -/
import Derived.Test.YthpbkbbmedpecaaDoorNumb
import Derived.Test.YthpbkbbmedpecaaDoorAppend
import Derived.Lib.SlBuf
set_option linter.unusedSimpArgs false
set_option linter.unusedVariables false
namespace Go.Proofs.YthpbkbbmedpecaaDoor
open Go.RowKit
attribute [local go_sem] Later.cell

theorem tinfo_str : (Tryd.prog.info? 9).map (fun i => (i.zero, i.size, i.bytes)) = some (some (.string ByteArray.empty), 1, 16) := by kernel_rfl
/-- The cells of texts. -/
def bcel (xs : List (List UInt8)) : List Value := xs.map fun s => .string ⟨s.toArray⟩
theorem bcel_len (xs : List (List UInt8)) : (bcel xs).length = xs.length := by simp [bcel]
theorem bcel_app (xs ys : List (List UInt8)) : bcel (xs ++ ys) = bcel xs ++ bcel ys := by simp [bcel]
theorem bcel_one (xs : List (List UInt8)) : ∀ u ∈ bcel xs, u.oneCell' = true := by
  intro u hu
  obtain ⟨x, _, rfl⟩ := List.mem_map.1 hu
  rfl
theorem bcel_get (xs : List (List UInt8)) (k : Nat) (h : k < xs.length) : (bcel xs)[k]? = some (.string ⟨(xs[k]?.getD []).toArray⟩) := by simp [bcel, List.getElem?_eq_getElem h]
theorem snews1 (W : World) (x : Value) (t : TypeId) : ∀ j u, ([x] : List Value)[j]? = some u → (W.alloc (.cells #[x] t)).cell? ((⟨W.heap.size, 0, none⟩ : Addr).add j) = some u := by
  intro j u hj
  cases j with
  | zero => simp at hj; subst hj; simp [Addr.add]
  | succ j => simp at hj
/-- The words of a text between marks, the first of them begun with cur. -/
def wordsA (m : UInt8) (cur : List UInt8) : List UInt8 → List (List UInt8)
  | [] => [cur]
  | c :: r => if c = m then cur :: wordsA m [] r else wordsA m (cur ++ [c]) r
def words (m : UInt8) (b : List UInt8) : List (List UInt8) := wordsA m [] b
theorem wordsA_yes {m : UInt8} {cur b : List UInt8} {k : Nat} (h : k < b.length) (hc : b[k] = m) : wordsA m cur (b.drop k) = cur :: wordsA m [] (b.drop (k + 1)) := by
  rw [List.drop_eq_getElem_cons h, wordsA, if_pos hc]
theorem wordsA_no {m : UInt8} {cur b : List UInt8} {k : Nat} (h : k < b.length) (hc : b[k] ≠ m) : wordsA m cur (b.drop k) = wordsA m (cur ++ [b[k]]) (b.drop (k + 1)) := by
  rw [List.drop_eq_getElem_cons h, wordsA, if_neg hc]
theorem wordsA_len (m : UInt8) : ∀ (b cur : List UInt8), (wordsA m cur b).length ≤ b.length + 1 := by
  intro b
  induction b with
  | nil => intro cur; simp [wordsA]
  | cons c r ih =>
    intro cur
    unfold wordsA
    split
    · have := ih []; simp; omega
    · have := ih (cur ++ [c]); simp; omega
theorem str_ext (l : List UInt8) (i j : Nat) : (⟨l.toArray⟩ : ByteArray).extract i j = ⟨((l.take j).drop i).toArray⟩ := by
  apply ByteArray.ext
  simp [List.extract_eq_take_drop, List.drop_take]
theorem take_drop_snoc {b : List UInt8} {f k : Nat} (hf : f ≤ k) (hk : k < b.length) : (b.take (k + 1)).drop f = (b.take k).drop f ++ [b[k]] := by
  rw [List.take_succ_eq_append_getElem hk, List.drop_append_of_le_length (by rw [List.length_take]; omega)]
/-- A row of texts that the call made, as a slice. -/
theorem own_words {w : World} {base : Nat} {e : TypeId} {v : Value} {n : Nat} {ss : List (List UInt8)} (h : w.ownsRow base e 1 v n (bcel ss)) :
    ss.length = n ∧ (n = 0 ∧ v = .slice none 0 0 ∨ ∃ g cap, v = .slice (some ⟨g, 0, none⟩) n cap ∧ n ≤ cap ∧ cap ≤ maxLen ∧ base ≤ g ∧ g < w.heap.size ∧ ∀ k, k < n → w.cell? ⟨g, k, none⟩ = some (.string ⟨(ss[k]?.getD []).toArray⟩) ∧ w.frozen? ⟨g, k, none⟩ = false) := by
  obtain ⟨h1, h2⟩ := h
  rw [bcel_len] at h1
  have hl : ss.length = n := by omega
  refine ⟨hl, ?_⟩
  rcases h2 with ⟨rfl, rfl⟩ | ⟨g, cap, cur, rfl, hb, hg, hnc, hm, hcs, ht⟩
  · exact .inl ⟨rfl, rfl⟩
  · right
    have hlt : g < w.heap.size := (Array.getElem?_eq_some_iff.1 hg).1
    refine ⟨g, cap, rfl, hnc, hm, hb, hlt, fun k hk => ⟨?_, by simp [World.frozen?, hg]⟩⟩
    rw [← bcel_get ss k (by omega), ← ht]
    simp [World.cell?, hg, List.getElem?_take, hk]
set_option maxRecDepth 20000 in
set_option maxHeartbeats 4000000 in
theorem words_any (b : List UInt8) (m : UInt8) (w : World) (hl : b.length ≤ 65536) :
    Calls Tryd.prog 20 #[.string ⟨b.toArray⟩, .int .u8 m.toNat] w fun e w' => (∃ v, e = .returned v ∧ w'.ownsRow w.heap.size 9 1 v (words m b).length (bcel (words m b))) ∧ Below w.heap.size w w' := by
  have hsz : (⟨b.toArray⟩ : ByteArray).size = b.length := rfl
  obtain ⟨i0, hi, hz0, hz1, hz2⟩ := info_parts tinfo_str
  have hI0 := Lib.hid hi
  have hI1 := Lib.hid hz0
  have hI2 := Lib.hid hz1
  have hI3 := Lib.hid hz2
  have HL := Lib.hid (wordsA_len m b [])
  have HW0 : Hid (words m b = [] ++ wordsA m ((b.take 0).drop 0) (b.drop 0)) := Lib.hid (by rfl)
  clear hi hz0 hz1 hz2
  go_enter Tryd.func20, Tryd.ntmps20
  go_wp2
  go_loopw [5, 6, 7] (fun v fr i wr => ∃ (k f : Nat) (xs : List (List UInt8)), k ≤ b.length ∧ f ≤ k ∧ xs.length ≤ k ∧ fr = .int .i64 (f : Int) ∧ i = .int .i64 (k : Int) ∧ Hid (words m b = xs ++ wordsA m ((b.take k).drop f) (b.drop k)) ∧ Hid (wr.ownsRow w.heap.size 9 1 v xs.length (bcel xs)) ∧ Below w.heap.size w wr) (fun _ _ i _ => b.length - (intOf i).toNat)
  case atStart => exact ⟨0, 0, [], Nat.zero_le _, Nat.le_refl _, Nat.zero_le _, rfl, rfl, HW0, Lib.hid (World.ownsRow_nil w _ _ _), Below.refl _ _⟩
  case round =>
    obtain ⟨k, f, xs, hk, hf, hxl, rfl, rfl, HW, HO, hB⟩ := hrel
    have hbs := hB.size
    by_cases hlt : k < b.length
    · have hk1 : (k : Int) < b.length := by omega
      obtain ⟨c, hc⟩ : ∃ c, c = b[k] := ⟨_, rfl⟩
      have hgk : ∀ h2 : k < (⟨b.toArray⟩ : ByteArray).size, (⟨b.toArray⟩ : ByteArray)[k]'h2 = c := by rw [hc]; exact str_get hlt
      by_cases hcm : c = m
      · have HN : Hid (words m b = (xs ++ [(b.take k).drop f]) ++ wordsA m ((b.take (k + 1)).drop (k + 1)) (b.drop (k + 1))) := Lib.hid (by
          rw [HW.out, wordsA_yes hlt (by rw [← hc, hcm])]
          have : (b.take (k + 1)).drop (k + 1) = [] := by rw [List.drop_eq_nil_iff, List.length_take]; omega
          rw [this]; simp)
        have hex := str_ext b f k
        generalize (b.take k).drop f = W at *
        have hcm' : (c.toNat : Int) = m.toNat := by rw [hcm]
        clear HW hc hcm
        have hfs : f ≤ k := hf
        go_wp2_with (at_builtin; go_loud (refine wpList_append_own _ rfl (.tmp 19) (.tmp 24) 48 rfl w.heap.size 9 i0 (.string ByteArray.empty) 1 16 Tryd.underlying48 hI0.out hI1.out hI2.out hI3.out rfl (by decide) _ _ _ rfl (HO.out.alloc _) ⟨wr.heap.size, 0, none⟩ 1 1 [.string ⟨W.toArray⟩] rfl rfl (by intro j u hj; exact snews1 wr (.string ⟨W.toArray⟩) 9 j u hj) (by intro u hu; simp at hu; subst hu; rfl) (by unfold maxLen; omega) (by omega) (by simp; omega) ?_))
        intro v' w5 hown' hgrow _
        have hb6 : Below w.heap.size w w5 := (below_alloc hB _).trans (grown_below hgrow (by simp; omega) (fun q hq => (HO.out.lt q hq).1))
        have HO5 : Hid (w5.ownsRow w.heap.size 9 1 v' (xs ++ [W]).length (bcel (xs ++ [W]))) := by
          rw [List.length_append, bcel_app]; exact Lib.hid hown'
        have hxl' : (xs ++ [W]).length ≤ k + 1 := by rw [List.length_append]; simp; omega
        clear hown' hgrow HO
        go_wp2
        go_roundw
        case rel => exact ⟨k + 1, k + 1, xs ++ [W], by omega, Nat.le_refl _, hxl', by first | rfl | go_num, by first | rfl | go_num, HN, HO5, hb6⟩
        case measure => simp [intOf]; omega
      · have HN : Hid (words m b = xs ++ wordsA m ((b.take (k + 1)).drop f) (b.drop (k + 1))) := Lib.hid (by
          rw [HW.out, wordsA_no hlt (by rw [← hc]; exact hcm), take_drop_snoc hf hlt])
        have hcm' : ¬ (c.toNat : Int) = m.toNat := fun h => hcm (UInt8.toNat_inj.1 (by omega))
        clear HW hc hcm
        go_wp2
        go_roundw
        case rel => exact ⟨k + 1, f, xs, by omega, by omega, by omega, rfl, by first | rfl | go_num, HN, HO, hB⟩
        case measure => simp [intOf]; omega
    · have hkl : k = b.length := by omega
      have hk9 : ¬ (k : Int) < b.length := by omega
      have HN : Hid (words m b = xs ++ [b.drop f]) := Lib.hid (by
        rw [HW.out, hkl, List.drop_length, List.take_length]; rfl)
      have hex : (⟨b.toArray⟩ : ByteArray).extract f b.length = ⟨(b.drop f).toArray⟩ := by rw [str_ext, List.take_length]
      generalize b.drop f = W at *
      clear HW
      go_wp2_with (at_builtin; go_loud (refine wpList_append_own _ rfl (.tmp 28) (.tmp 32) 48 rfl w.heap.size 9 i0 (.string ByteArray.empty) 1 16 Tryd.underlying48 hI0.out hI1.out hI2.out hI3.out rfl (by decide) _ _ _ rfl (HO.out.alloc _) ⟨wr.heap.size, 0, none⟩ 1 1 [.string ⟨W.toArray⟩] rfl rfl (by intro j u hj; exact snews1 wr (.string ⟨W.toArray⟩) 9 j u hj) (by intro u hu; simp at hu; subst hu; rfl) (by unfold maxLen; omega) (by omega) (by simp; omega) ?_))
      intro v' w5 hown' hgrow _
      have hb6 : Below w.heap.size w w5 := (below_alloc hB _).trans (grown_below hgrow (by simp; omega) (fun q hq => (HO.out.lt q hq).1))
      have HO5 : Hid (w5.ownsRow w.heap.size 9 1 v' (words m b).length (bcel (words m b))) := by
        rw [HN.out, List.length_append, bcel_app]; exact Lib.hid hown'
      clear hown' hgrow HO HN
      go_wp2
      go_ret
      exact ⟨⟨_, rfl, HO5.out⟩, hb6⟩
end Go.Proofs.YthpbkbbmedpecaaDoor
