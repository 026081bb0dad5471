/- Rows of texts; the reference's Listed and Numbers. -/
import Derived.Test.YthpbkbbmedpecaaDoorTxtN
set_option linter.unusedSimpArgs false
set_option linter.unusedVariables false
namespace Go.Proofs.YthpbkbbmedpecaaDoor
open Go.RowKit
attribute [local go_sem] Later.cell

theorem xinfo_int : (Tryd.prog.info? 3).map (fun i => (i.zero, i.size, i.bytes)) = some (some (.int .i64 0), 1, 8) := by kernel_rfl
theorem xown_later {w w' : World} {base : Nat} {e : TypeId} {size : Nat} {v : Value} {n : Nat} {xs : List Value} (h : w.ownsRow base e size v n xs) (hb : Below w.heap.size w w') : w'.ownsRow base e size v n xs := by
  refine h.kept (row := none) ⟨hb.os, hb.tape, hb.output, hb.size, fun k hk _ => hb.block k hk⟩ ?_
  cases v.ownBlock <;> simp
theorem xown_mono {w : World} {base base' : Nat} {e : TypeId} {size : Nat} {v : Value} {n : Nat} {xs : List Value} (h : w.ownsRow base e size v n xs) (hb : base' ≤ base) : w.ownsRow base' e size v n xs := by
  obtain ⟨h1, h2⟩ := h
  refine ⟨h1, ?_⟩
  rcases h2 with h2 | ⟨g, cap, cur, a1, a2, a3⟩
  · exact .inl h2
  · exact .inr ⟨g, cap, cur, a1, by omega, a3⟩
theorem xone2 (m n : Int) : ∀ u ∈ ([.int .i64 m, .int .i64 n] : List Value), u.oneCell' = true := by
  intro u hu
  simp at hu
  rcases hu with rfl | rfl <;> rfl
theorem xone1 (n : Int) : ∀ u ∈ ([.int .i64 n] : List Value), u.oneCell' = true := by intro u hu; simp at hu; subst hu; rfl
/-- A row of texts, as a slice that a call is handed. -/
def Txts (w : World) (B : Nat) (A : Option Addr) (len : Nat) (ws : List (List UInt8)) : Prop :=
  ws.length = len ∧ (0 < len → ∃ b off, A = some ⟨b, off, none⟩ ∧ b < B ∧ ∀ k, k < len → w.cell? ⟨b, off + k, none⟩ = some (.string ⟨(ws[k]?.getD []).toArray⟩))
theorem Txts.at_ {w : World} {B : Nat} {A : Option Addr} {len : Nat} {xs : List (List UInt8)} (h : Txts w B A len xs) (k : Nat) (hk : k < len) :
    ∃ b off, A = some ⟨b, off, none⟩ ∧ b < B ∧ w.cell? ⟨b, off + k, none⟩ = some (.string ⟨(xs[k]?.getD []).toArray⟩) := by
  obtain ⟨b, off, h1, h2, h3⟩ := h.2 (by omega)
  exact ⟨b, off, h1, h2, h3 k hk⟩
theorem Txts.below {w w' : World} {B : Nat} {A : Option Addr} {len : Nat} {xs : List (List UInt8)} (h : Txts w B A len xs) (hb : Below B w w') : Txts w' B A len xs := by
  refine ⟨h.1, fun h0 => ?_⟩
  obtain ⟨b, off, h1, h2, h3⟩ := h.2 h0
  refine ⟨b, off, h1, h2, fun k hk => ?_⟩
  rw [hb.cell (p := ⟨b, _, none⟩) h2]
  exact h3 k hk
theorem Txts.more {w : World} {B B' : Nat} {A : Option Addr} {len : Nat} {xs : List (List UInt8)} (h : Txts w B A len xs) (hb : B ≤ B') : Txts w B' A len xs :=
  ⟨h.1, fun h0 => by obtain ⟨b, off, h1, h2, h3⟩ := h.2 h0; exact ⟨b, off, h1, by omega, h3⟩⟩
theorem own_txts {w : World} {base : Nat} {e : TypeId} {v : Value} {n : Nat} {ss : List (List UInt8)} (h : w.ownsRow base e 1 v n (bcel ss)) :
    ∃ A cap, v = .slice A n cap ∧ n ≤ cap ∧ cap ≤ maxLen ∧ ss.length = n ∧ Txts w w.heap.size A n ss ∧ (0 < n → ∃ g, A = some ⟨g, 0, none⟩ ∧ base ≤ g ∧ g < w.heap.size) := by
  obtain ⟨hl, h0 | ⟨g, cap, rfl, hnc, hm, hb, hlt, hc⟩⟩ := own_words h
  · obtain ⟨rfl, rfl⟩ := h0
    exact ⟨none, 0, rfl, Nat.le_refl _, Nat.zero_le _, hl, ⟨hl, fun h => absurd h (by omega)⟩, fun h => absurd h (by omega)⟩
  · exact ⟨some ⟨g, 0, none⟩, cap, rfl, hnc, hm, hl, ⟨hl, fun _ => ⟨g, 0, rfl, hlt, fun k hk => by rw [Nat.zero_add]; exact (hc k hk).1⟩⟩, fun _ => ⟨g, rfl, hb, hlt⟩⟩

theorem itoa_len20 {n : Int} (h1 : -1000000000000000000 < n) (h2 : n < 1000000000000000000) : (Lib.itoa n).length ≤ 19 := by
  by_cases hn : n < 0
  · obtain ⟨m, rfl⟩ : ∃ m : Nat, n = -(m : Int) := ⟨n.natAbs, by omega⟩
    rw [itoa_neg (by omega)]
    have := (dec_facts 17 m (by omega)).2.2.1
    simp; omega
  · obtain ⟨m, rfl⟩ : ∃ m : Nat, n = (m : Int) := ⟨n.toNat, by omega⟩
    rw [itoa_nat]
    have := (dec_facts 17 m (by omega)).2.2.1
    omega
theorem itoa_len64 {n : Int} (h1 : -9223372036854775808 ≤ n) (h2 : n ≤ 9223372036854775807) : (Lib.itoa n).length ≤ 20 := by
  by_cases hn : n < 0
  · obtain ⟨m, rfl⟩ : ∃ m : Nat, n = -(m : Int) := ⟨n.natAbs, by omega⟩
    rw [itoa_neg (by omega)]
    have := (dec_facts 18 m (by omega)).2.2.1
    simp; omega
  · obtain ⟨m, rfl⟩ : ∃ m : Nat, n = (m : Int) := ⟨n.toNat, by omega⟩
    rw [itoa_nat]
    have := (dec_facts 18 m (by omega)).2.2.1
    omega
/-- Numbers, each with a blank before it. -/
def listL (xs : List Int) : List UInt8 := xs.flatMap fun n => 32 :: Lib.itoa n
theorem listL_succ {xs : List Int} {k : Nat} (h : k < xs.length) : listL (xs.take (k + 1)) = listL (xs.take k) ++ [32] ++ Lib.itoa (xs[k]?.getD 0) := by
  rw [List.take_succ_eq_append_getElem h, List.getElem?_eq_getElem h]
  unfold listL
  rw [List.flatMap_append, List.append_assoc, List.flatMap_cons, List.flatMap_nil, List.append_nil]
  rfl
theorem listL_len : ∀ (xs : List Int), (∀ x ∈ xs, -1000000000000000000 < x ∧ x < 1000000000000000000) → (listL xs).length ≤ 20 * xs.length := by
  intro xs
  induction xs with
  | nil => intro _; simp [listL]
  | cons x r ih =>
    intro h
    have h1 := ih (fun y hy => h y (List.mem_cons_of_mem _ hy))
    have hx := h x (List.mem_cons_self ..)
    have h2 := itoa_len20 hx.1 hx.2
    have : listL (x :: r) = (32 :: Lib.itoa x) ++ listL r := rfl
    rw [this]
    simp; omega
theorem listL_len64 : ∀ (xs : List Int), (∀ x ∈ xs, -9223372036854775808 ≤ x ∧ x ≤ 9223372036854775807) → (listL xs).length ≤ 21 * xs.length := by
  intro xs
  induction xs with
  | nil => intro _; simp [listL]
  | cons x r ih =>
    intro h
    have h1 := ih (fun y hy => h y (List.mem_cons_of_mem _ hy))
    have hx := h x (List.mem_cons_self ..)
    have h2 := itoa_len64 hx.1 hx.2
    have : listL (x :: r) = (32 :: Lib.itoa x) ++ listL r := rfl
    rw [this]
    simp; omega
set_option maxRecDepth 20000 in
set_option maxHeartbeats 4000000 in
theorem Listed_any (A : Option Addr) (len cap : Nat) (xs : List Int) (w : World) (hm : len ≤ 1000000) (hx : Ints w w.heap.size A len xs) (hxb : ∀ x ∈ xs, -1000000000000000000 < x ∧ x < 1000000000000000000) :
    Calls Tryd.prog 24 #[.slice A len cap] w fun e w' => e = .returned (.string ⟨(listL xs).toArray⟩) ∧ Below w.heap.size w w' := by
  have HN := Lib.hid (fun k (hk : k ≤ len) => listL_len (xs.take k) (fun x hx => hxb x (List.mem_of_mem_take hx)))
  have HLn := Lib.hid hx.1
  have HK := Lib.hid (fun k (hk : k < len) => listL_succ (xs := xs) (k := k) (by rw [hx.1]; exact hk))
  have HB := Lib.hid (fun k (hk : k < len) => hxb (xs[k]?.getD 0) (by
    have : k < xs.length := by rw [hx.1]; exact hk
    rw [List.getElem?_eq_getElem this]; exact List.getElem_mem _))
  have HF : Hid (listL xs = listL (xs.take len)) := Lib.hid (by rw [← hx.1, List.take_length])
  have HX := Lib.hid hx
  clear hx hxb
  go_enter Tryd.func24, Tryd.ntmps24
  go_wp2
  go_loopw [3, 4] (fun s i wr => ∃ k : Nat, k ≤ len ∧ i = .int .i64 (k : Int) ∧ s = .string ⟨(listL (xs.take k)).toArray⟩ ∧ Below w.heap.size w wr) (fun _ i _ => len - (intOf i).toNat)
  case atStart => exact ⟨0, Nat.zero_le _, rfl, rfl, Below.refl _ _⟩
  case round =>
    obtain ⟨k, hk, rfl, rfl, hB⟩ := hrel
    have hsz := hB.size
    by_cases hlt : k < len
    · obtain ⟨b, off, rfl, hb0, hc1⟩ := (HX.out.below hB).at_ k hlt
      have hbl : b < wr.heap.size := by omega
      have hlt1 : (k : Int) < len := by omega
      have hS := HK.out k hlt
      have hN := HN.out k hk
      have hbd := HB.out k hlt
      have hD := itoa_len20 hbd.1 hbd.2
      have C2 := Lib.hid (fun W => digits_any (xs[k]?.getD 0) W (by omega) (by omega))
      rw [List.length_take] at hN
      have hNl : (listL (xs.take k)).length ≤ 20 * len := by omega
      clear hbd hN
      obtain ⟨SX, hSX⟩ : ∃ SX, SX = listL (xs.take (k + 1)) := ⟨_, rfl⟩
      rw [← hSX] at hS
      have HSX := Lib.hid hSX
      clear hSX
      generalize listL (xs.take k) = S at *
      generalize Lib.itoa (xs[k]?.getD 0) = D at *
      generalize xs[k]?.getD 0 = X at *
      obtain ⟨S1, hS1⟩ : ∃ S1, S1 = S ++ [32] := ⟨_, rfl⟩
      obtain ⟨S2, hS2⟩ : ∃ S2, S2 = S1 ++ D := ⟨_, rfl⟩
      have hzS : (⟨S.toArray⟩ : ByteArray).size = S.length := rfl
      have hzS1 : (⟨S1.toArray⟩ : ByteArray).size = S1.length := rfl
      have hzD : (⟨D.toArray⟩ : ByteArray).size = D.length := rfl
      have hl1 : S1.length = S.length + 1 := by rw [hS1]; simp
      have HS : Hid (Value.string ⟨S2.toArray⟩ = .string ⟨SX.toArray⟩) := Lib.hid (by rw [hS, hS2, hS1])
      have hap1 : (⟨S.toArray⟩ : ByteArray) ++ ⟨#[32]⟩ = ⟨S1.toArray⟩ := by rw [hS1]; exact str_app S [32]
      have hap2 : (⟨S1.toArray⟩ : ByteArray) ++ ⟨D.toArray⟩ = ⟨S2.toArray⟩ := by rw [hS2]; exact str_app S1 D
      clear hS hS1 hS2
      go_wp2_with fail
      refine (C2.out _).mono ?_
      rintro e w2 ⟨rfl, hb2⟩
      have hsz2 := hb2.size
      have HB2 := Lib.hid (below_step hB hb2)
      clear hb2 hc1 C2 hB
      go_wp2
      go_roundw
      case rel => exact ⟨k + 1, by omega, by first | rfl | go_num, HS.out.trans (by rw [HSX.out]), HB2.out⟩
      case measure => simp [intOf]; omega
    · have hkl : k = len := by omega
      have hk9 : ¬ (k : Int) < len := by omega
      have HR : Hid (Value.string ⟨(listL (xs.take k)).toArray⟩ = .string ⟨(listL xs).toArray⟩) := Lib.hid (by rw [HF.out, hkl])
      clear hkl
      go_wp2
      go_ret
      exact ⟨ret1 HR.out, hB⟩

/-- What the reference's Numbers answers. -/
def numsR (ws : List (List UInt8)) : List Int × Bool := if ws.all (fun y => (numR y).2) then (ws.map (fun y => (numR y).1), true) else ([], false)
/-- The first k numbers. -/
def numK (ws : List (List UInt8)) (k : Nat) : List Int := (ws.take k).map fun y => (numR y).1
def okK (ws : List (List UInt8)) (k : Nat) : Bool := (ws.take k).all fun y => (numR y).2
theorem numK_succ {ws : List (List UInt8)} {k : Nat} (h : k < ws.length) : numK ws (k + 1) = numK ws k ++ [(numR (ws[k]?.getD [])).1] := by
  unfold numK
  rw [List.take_succ_eq_append_getElem h, List.map_append, List.getElem?_eq_getElem h]
  rfl
theorem okK_succ {ws : List (List UInt8)} {k : Nat} (h : k < ws.length) (h0 : okK ws k = true) (h1 : (numR (ws[k]?.getD [])).2 = true) : okK ws (k + 1) = true := by
  unfold okK at *
  rw [List.getElem?_eq_getElem h] at h1
  rw [List.take_succ_eq_append_getElem h, List.all_append, h0]
  simpa using h1
theorem numK_len {ws : List (List UInt8)} {k : Nat} (h : k ≤ ws.length) : (numK ws k).length = k := by
  unfold numK
  rw [List.length_map, List.length_take]; omega
theorem numsR_yes {ws : List (List UInt8)} (h : okK ws ws.length = true) : numsR ws = (numK ws ws.length, true) := by
  unfold okK at h
  rw [List.take_length] at h
  unfold numsR numK
  rw [if_pos h, List.take_length]
theorem numsR_no {ws : List (List UInt8)} {k : Nat} (hl : k < ws.length) (h : (numR (ws[k]?.getD [])).2 = false) : numsR ws = ([], false) := by
  rw [List.getElem?_eq_getElem hl] at h
  unfold numsR
  rw [if_neg]
  rw [List.all_eq_true]
  intro h2
  have := h2 _ (List.getElem_mem hl)
  rw [show (numR ws[k]).2 = false from h] at this
  exact absurd this (by simp)
set_option maxRecDepth 20000 in
set_option maxHeartbeats 4000000 in
theorem Numbers_any (A : Option Addr) (len cap : Nat) (ws : List (List UInt8)) (w : World) (hm : len ≤ 1000000) (hx : Txts w w.heap.size A len ws) (hxb : ∀ y ∈ ws, y.length ≤ 140737488355328) :
    Calls Tryd.prog 21 #[.slice A len cap] w fun e w' => (∃ v, e = .returned (.tuple #[v, .bool (numsR ws).2]) ∧ w'.ownsRow w.heap.size 3 1 v (numsR ws).1.length (icells (numsR ws).1)) ∧ Below w.heap.size w w' := by
  obtain ⟨i0, hi, hz0, hz1, hz2⟩ := info_parts xinfo_int
  have hI0 := Lib.hid hi
  have hI1 := Lib.hid hz0
  have hI2 := Lib.hid hz1
  have hI3 := Lib.hid hz2
  have HLn := Lib.hid hx.1
  have HB := Lib.hid (fun k (hk : k < len) => hxb (ws[k]?.getD []) (by
    have : k < ws.length := by rw [hx.1]; exact hk
    rw [List.getElem?_eq_getElem this]; exact List.getElem_mem _))
  have HNO := Lib.hid (fun k (hk : k < len) (h : (numR (ws[k]?.getD [])).2 = false) => numsR_no (by rw [hx.1]; exact hk) h)
  have HYES := Lib.hid (fun k (hk : k < len) (h0 : okK ws k = true) (h : (numR (ws[k]?.getD [])).2 = true) => (⟨okK_succ (by rw [hx.1]; exact hk) h0 h, numK_succ (by rw [hx.1]; exact hk)⟩ : okK ws (k + 1) = true ∧ numK ws (k + 1) = numK ws k ++ [(numR (ws[k]?.getD [])).1]))
  have HALL := Lib.hid (fun (h0 : okK ws len = true) => show numsR ws = (numK ws len, true) by
    rw [← hx.1] at *
    exact numsR_yes h0)
  have HNK := Lib.hid (fun k (hk : k ≤ len) => numK_len (ws := ws) (k := k) (by rw [hx.1]; exact hk))
  have HX := Lib.hid hx
  clear hi hz0 hz1 hz2 hx hxb
  go_enter Tryd.func21, Tryd.ntmps21
  go_wp2
  go_loopw [4, 5] (fun v i wr => ∃ k : Nat, k ≤ len ∧ i = .int .i64 (k : Int) ∧ Hid (okK ws k = true) ∧ Hid (wr.ownsRow w.heap.size 3 1 v k (icells (numK ws k))) ∧ Below w.heap.size w wr) (fun _ i _ => len - (intOf i).toNat)
  case atStart => exact ⟨0, Nat.zero_le _, rfl, Lib.hid rfl, Lib.hid (World.ownsRow_nil _ _ _ _), Below.refl _ _⟩
  case round =>
    obtain ⟨k, hk, rfl, HA, HO, hB⟩ := hrel
    have hsz := hB.size
    by_cases hlt : k < len
    · obtain ⟨b, off, rfl, hb0, hc1⟩ := (HX.out.below hB).at_ k hlt
      have hbl : b < wr.heap.size := by omega
      have hlt1 : (k : Int) < len := by omega
      have hbd := HB.out k hlt
      have C2 := Lib.hid (fun W => number_any (ws[k]?.getD []) W hbd)
      have hno := HNO.out k hlt
      have hyes := HYES.out k hlt HA.out
      clear hbd HA
      generalize ws[k]?.getD [] = Y at *
      by_cases hok : (numR Y).2 = true
      · have HY := Lib.hid (hyes hok)
        rw [hok] at C2
        generalize (numR Y).1 = X at *
        clear hok hyes hno
        go_wp2_with fail
        refine (C2.out _).mono ?_
        rintro e w2 ⟨rfl, hb2⟩
        have hsz2 := hb2.size
        have HB2 := Lib.hid (below_step hB hb2)
        have HO2 := Lib.hid (xown_later HO.out hb2)
        clear hb2 hc1 C2 hB HO
        go_wp2_with (at_builtin; go_loud (refine wpList_append_own _ rfl (.tmp 24) (.tmp 26) 41 rfl w.heap.size 3 i0 (.int .i64 0) 1 8 Tryd.underlying41 hI0.out hI1.out hI2.out hI3.out rfl (by decide) _ _ _ rfl (HO2.out.alloc _) ⟨w2.heap.size, 0, none⟩ 1 1 [.int .i64 X] rfl rfl (snews1 _ _ _) (xone1 _) (by unfold maxLen; omega) (by omega) (by simp; omega) ?_))
        intro v' w5 hown' hgrow _
        have hb6 : Below w.heap.size w w5 := (below_alloc HB2.out _).trans (grown_below hgrow (by simp; omega) (fun q hq => (HO2.out.lt q hq).1))
        have HO5 : Hid (w5.ownsRow w.heap.size 3 1 v' (k + 1) (icells (numK ws (k + 1)))) := by
          rw [HY.out.2, icells_app]; exact Lib.hid hown'
        have HA5 := Lib.hid HY.out.1
        clear hown' hgrow HO2 HB2 HY
        go_wp2
        go_roundw
        case rel => exact ⟨k + 1, by omega, by first | rfl | go_num, HA5, HO5, hb6⟩
        case measure => simp [intOf]; omega
      · have hok : (numR Y).2 = false := by simpa using hok
        have HR := Lib.hid (hno hok)
        rw [hok] at C2
        generalize (numR Y).1 = X at *
        clear hok hyes hno
        go_wp2_with fail
        refine (C2.out _).mono ?_
        rintro e w2 ⟨rfl, hb2⟩
        have HB2 := Lib.hid (below_step hB hb2)
        clear hb2 hB
        go_wp2
        go_ret2
        exact ⟨⟨.slice none 0 0, by rw [HR.out] <;> rfl, by rw [HR.out]; exact World.ownsRow_nil _ _ _ _⟩, HB2.out⟩
    · have hkl : k = len := by omega
      subst hkl
      have hk9 : ¬ (k : Int) < k := by omega
      have HR := Lib.hid (HALL.out HA.out)
      clear HALL HYES HNO HB HA
      go_wp2
      go_ret2
      exact ⟨⟨_, by rw [HR.out] <;> rfl, by rw [HR.out, HNK.out k hk]; exact HO.out⟩, hB⟩
end Go.Proofs.YthpbkbbmedpecaaDoor
