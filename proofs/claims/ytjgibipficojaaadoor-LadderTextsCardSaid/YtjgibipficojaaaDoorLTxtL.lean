/- Ladder's texts: both readings are the same, and each text is read back: plain. -/
import Derived.Test.YtjgibipficojaaaDoorLPP
import Derived.Test.YtjgibipficojaaaDoorLRP
set_option linter.unusedSimpArgs false
set_option linter.unusedVariables false
namespace Go.Proofs.YtjgibipficojaaaDoor
open Go.RowKit

theorem join_sp {ws : List (List UInt8)} (h : ws ≠ []) : Lib.join ws [32] ++ [32] = ws.flatMap (· ++ [32]) := by
  cases ws with
  | nil => exact absurd rfl h
  | cons x r =>
    rw [Lib.join_cons]
    clear h
    induction r generalizing x with
    | nil => simp [Lib.joinTail]
    | cons y r ih =>
      rw [joinTail_cons, List.flatMap_cons, ← ih y]
      simp
theorem mach_dec : ∀ (f n : Nat) (rest : List UInt8) (s : Bool) (l : List J), n ≤ f → n / 10 ≤ 200000 → mach (Lib.decDigits n ++ rest) 0 s l = mach rest n s l := by
  intro f
  induction f with
  | zero =>
    intro n rest s l hn _
    rw [Lib.decDigits_one (by omega)]
    have hd := digB_48 (d := n) (by omega)
    show mach (UInt8.ofNat (48 + n) :: rest) 0 s l = _
    rw [mach_dig hd.1 (by omega), hd.2]
    congr 1
    omega
  | succ f ih =>
    intro n rest s l hn h
    by_cases h9 : 9 < n
    · rw [decDigits_big h9, List.append_assoc, ih (n / 10) _ s l (by omega) (by omega)]
      have hd := digB_48 (d := n % 10) (Nat.mod_lt _ (by omega))
      show mach (UInt8.ofNat (48 + n % 10) :: rest) (n / 10) s l = _
      rw [mach_dig hd.1 h, hd.2]
      congr 1
      omega
    · rw [Lib.decDigits_one (by omega)]
      have hd := digB_48 (d := n) (by omega)
      show mach (UInt8.ofNat (48 + n) :: rest) 0 s l = _
      rw [mach_dig hd.1 (by omega), hd.2]
      congr 1
      omega
theorem mach_joint {j : J} (h1 : 1 ≤ j.1) (h2 : j.1 ≤ 200000) {l : List J} (hl : l.length < 200) (rest : List UInt8) : mach (fmtJ j ++ [32] ++ rest) 0 true l = mach rest 0 true (l ++ [j]) := by
  obtain ⟨n, s⟩ := j
  obtain ⟨m, rfl⟩ : ∃ m : Nat, n = (m : Int) := ⟨n.toNat, by omega⟩
  dsimp only at h1 h2
  unfold fmtJ
  dsimp only
  rw [itoa_nat, List.append_assoc, List.append_assoc, mach_dec m m _ _ _ (Nat.le_refl _) (by omega)]
  cases s
  · show mach (33 :: 32 :: rest) m true l = _
    rw [mach_bang, mach_sp hl]
  · show mach (32 :: rest) m true l = _
    rw [mach_sp hl]
theorem mach_all : ∀ (l2 l : List J), (∀ j ∈ l2, 1 ≤ j.1 ∧ j.1 ≤ 200000) → l.length + l2.length ≤ 200 → mach ((l2.map fmtJ).flatMap (· ++ [32])) 0 true l = some (l ++ l2) := by
  intro l2
  induction l2 with
  | nil => intro l _ _; simp [mach]
  | cons j l2 ih =>
    intro l hj hl
    have hl' : l.length + (l2.length + 1) ≤ 200 := by simpa using hl
    have h0 := hj j (List.mem_cons_self ..)
    rw [List.map_cons, List.flatMap_cons, mach_joint h0.1 h0.2 (by omega), ih _ (fun x hx => hj x (List.mem_cons_of_mem _ hx)) (by simp; omega)]
    simp
theorem vJ_mem {l : List J} (h : vJ l = true) {j : J} (hj : j ∈ l) : 1 ≤ j.1 ∧ j.1 ≤ 200000 := by
  obtain ⟨k, hk, rfl⟩ := List.getElem_of_mem hj
  have := (vJ_spec h).2.1 k hk
  unfold hgt at this
  rw [List.getElem?_eq_getElem hk] at this
  exact this
theorem fmtL_eq {l : List J} (h : vJ l = true) : fmtL l = Lib.join (l.map fmtJ) [32] := by
  unfold fmtL fmtK
  rw [if_pos h, List.take_length]
theorem mach_fmtL {l : List J} (h : vJ l = true) (h0 : l ≠ []) : mach (fmtL l ++ [32]) 0 true [] = some l := by
  rw [fmtL_eq h, join_sp (by simpa using h0), mach_all l [] (fun j hj => vJ_mem h hj) (by simpa using (vJ_spec h).1)]
  simp
theorem fmtJ_no {j : J} : (32 : UInt8) ∉ fmtJ j := by
  intro h
  unfold fmtJ at h
  rcases List.mem_append.1 h with h | h
  · rcases itoa_chars h with h | h
    · revert h; decide
    · revert h; decide
  · unfold bang at h
    split at h
    · cases h
    · revert h; decide
theorem fmtJ_back {j : J} (h1 : 1 ≤ j.1) (h2 : j.1 ≤ 200000) : okY (fmtJ j) = true ∧ jY (fmtJ j) = j := by
  obtain ⟨n, s⟩ := j
  dsimp only at h1 h2
  have hr := numR_itoa (n := n) (by omega) (by omega)
  have hst : stemW (fmtJ (n, s)) = Lib.itoa n ∧ sndW (fmtJ (n, s)) = s := by
    cases s
    · have e : fmtJ (n, false) = Lib.itoa n ++ [33] := rfl
      have hs : sndW (fmtJ (n, false)) = false := by rw [e, sndW_snoc]; rfl
      exact ⟨by unfold stemW; rw [hs, e]; simp, hs⟩
    · have e : fmtJ (n, true) = Lib.itoa n := by unfold fmtJ bang; simp
      have hs : sndW (fmtJ (n, true)) = true := by
        rw [e]
        rcases List.eq_nil_or_concat (Lib.itoa n) with h | ⟨z, c, h⟩
        · exact absurd h (itoa_ne n)
        · rw [List.concat_eq_append] at h
          rw [h, sndW_snoc]
          have hc : c ∈ Lib.itoa n := by rw [h]; simp
          have : c ≠ 33 := by
            intro e
            rw [e] at hc
            rcases itoa_chars hc with h | h
            · revert h; decide
            · revert h; decide
          simp [this]
      exact ⟨by unfold stemW; rw [hs, if_pos rfl, e], hs⟩
  unfold okY jY
  rw [hst.1, hst.2, hr]
  exact ⟨rfl, rfl⟩
theorem fmtJ_of {y : List UInt8} (h : okY y = true) : fmtJ (jY y) = y := by
  unfold okY at h
  have h1 := (numR_yes h).1
  unfold fmtJ jY
  dsimp only
  rw [← h1]
  unfold stemW bang
  cases hs : sndW y
  · rcases List.eq_nil_or_concat y with rfl | ⟨z, c, hz⟩
    · cases hs
    · rw [List.concat_eq_append] at hz
      rw [hz, sndW_snoc] at hs
      have hc : c = 33 := by simpa using hs
      rw [hz, hc]
      simp
  · simp
/-- Both readings: exactly the texts of valid joints are read. -/
theorem rp_yes {l : List J} (h : vJ l = true) (h0 : l ≠ []) : okW (words 32 (fmtL l)) = true ∧ (words 32 (fmtL l)).map jY = l := by
  rw [fmtL_eq h, words_join (by simpa using h0) (fun y hy => by obtain ⟨j, _, rfl⟩ := List.mem_map.1 hy; exact fmtJ_no)]
  constructor
  · unfold okW
    rw [List.all_map]
    exact List.all_eq_true.2 fun j hj => (fmtJ_back (vJ_mem h hj).1 (vJ_mem h hj).2).1
  · rw [List.map_map]
    conv => rhs; rw [← List.map_id l]
    exact List.map_congr_left fun j hj => (fmtJ_back (vJ_mem h hj).1 (vJ_mem h hj).2).2
theorem rp_back {b : List UInt8} (h : okW (words 32 b) = true) (hv : vJ ((words 32 b).map jY) = true) : fmtL ((words 32 b).map jY) = b := by
  rw [fmtL_eq hv, List.map_map]
  have : (words 32 b).map (fmtJ ∘ jY) = words 32 b := by
    conv => rhs; rw [← List.map_id (words 32 b)]
    exact List.map_congr_left fun y hy => fmtJ_of (List.all_eq_true.1 h y hy)
  rw [this, join_words]
theorem fmtL_nil_of {l : List J} {b : List UInt8} (h : fmtL l = b) (hb : b ≠ []) : vJ l = true ∧ l ≠ [] := by
  constructor
  · by_cases hv : vJ l = true
    · exact hv
    · unfold fmtL at h; rw [if_neg hv] at h; exact absurd h.symm hb
  · rintro rfl
    exact hb (by rw [← h]; rfl)
/-- What is read where b is the text of l. -/
theorem both_yes {l : List J} (h : vJ l = true) (h0 : l ≠ []) {b : List UInt8} (hb : fmtL l = b) (hn : b ≠ []) (hl : ¬ 65536 < b.length) : (ppV b = l ∧ ppE b = 0) ∧ (rpV b = l ∧ rpE b = 0) := by
  have hm := mach_fmtL h h0
  have hr := rp_yes h h0
  rw [hb] at hm hr
  constructor
  · unfold ppV ppE
    rw [if_neg hl, if_neg hn, if_neg hl, if_neg hn, hm]
    dsimp only
    rw [if_pos hb, if_pos hb]
    exact ⟨rfl, rfl⟩
  · unfold rpV rpE
    rw [if_neg hl, if_neg hn, if_neg hl, if_neg hn, hr.1, hr.2, h]
    exact ⟨rfl, rfl⟩
theorem both_eq (b : List UInt8) : ppV b = rpV b ∧ ppE b = rpE b ∧ (ppE b = 0 → fmtL (ppV b) = b) := by
  by_cases hl : 65536 < b.length
  · unfold ppV rpV ppE rpE
    rw [if_pos hl, if_pos hl, if_pos hl, if_pos hl]
    exact ⟨rfl, rfl, fun h => absurd h (by decide)⟩
  · by_cases hn : b = []
    · subst hn
      exact ⟨rfl, rfl, fun _ => rfl⟩
    · by_cases hx : ∃ l, fmtL l = b
      · obtain ⟨l, hb⟩ := hx
        obtain ⟨hv, h0⟩ := fmtL_nil_of hb hn
        obtain ⟨⟨h1, h2⟩, h3, h4⟩ := both_yes hv h0 hb hn hl
        exact ⟨by rw [h1, h3], by rw [h2, h4], fun _ => by rw [h1]; exact hb⟩
      · have hp : ppV b = [] ∧ ppE b = 2 := by
          unfold ppV ppE
          rw [if_neg hl, if_neg hn, if_neg hl, if_neg hn]
          cases mach (b ++ [32]) 0 true [] with
          | none => exact ⟨rfl, rfl⟩
          | some l =>
            dsimp only
            rw [if_neg (fun h => hx ⟨l, h⟩), if_neg (fun h => hx ⟨l, h⟩)]
            exact ⟨rfl, rfl⟩
        have hr : rpV b = [] ∧ rpE b = 2 := by
          have : (okW (words 32 b) && vJ ((words 32 b).map jY)) = false := by
            by_cases h1 : okW (words 32 b) = true
            · by_cases h2 : vJ ((words 32 b).map jY) = true
              · exact absurd ⟨_, rp_back h1 h2⟩ hx
              · rw [h1]; simpa using h2
            · simp only [Bool.not_eq_true] at h1; rw [h1]; rfl
          unfold rpV rpE
          rw [if_neg hl, if_neg hn, if_neg hl, if_neg hn, this]
          exact ⟨rfl, rfl⟩
        rw [hp.1, hp.2, hr.1, hr.2]
        exact ⟨rfl, rfl, fun h => absurd h (by decide)⟩
/-- A text of valid joints is read back. -/
theorem back_eq {l : List J} (h : vJ l = true) : ppV (fmtL l) = l ∧ ppE (fmtL l) = 0 ∧ (fmtL l).length ≤ 65536 := by
  have hlen : (fmtL l).length ≤ 65536 := by
    have h1 := fmtK_len h l.length (Nat.le_refl _)
    have h2 := (vJ_spec h).1
    unfold fmtL
    rw [if_pos h]
    omega
  by_cases h0 : l = []
  · subst h0
    exact ⟨rfl, rfl, hlen⟩
  · have hn : fmtL l ≠ [] := by
      intro he
      have h1 := (rp_yes h h0).1
      rw [he] at h1
      revert h1
      decide
    obtain ⟨⟨h1, h2⟩, -⟩ := both_yes h h0 rfl hn (by omega)
    exact ⟨h1, h2, hlen⟩
end Go.Proofs.YtjgibipficojaaaDoor
