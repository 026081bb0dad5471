/- JobTexts: plans as texts, plain. -/
import Derived.Test.YtmionebfepkolaaGreatDoorYJb
import Derived.Test.YtmionebfepkolaaGreatDoorYJa
set_option linter.unusedSimpArgs false
set_option linter.unusedVariables false
namespace Go.Proofs.YtmionebfepkolaaGreatDoor
open Go.RowKit

def bsj (x : List UInt8) : ByteArray := ⟨x.toArray⟩
def lsj (s : ByteArray) : List UInt8 := s.data.toList
theorem lsj_bsj (x : List UInt8) : lsj (bsj x) = x := by simp [lsj, bsj]
theorem bsj_lsj (s : ByteArray) : bsj (lsj s) = s := by
  apply ByteArray.ext
  simp [lsj, bsj]
theorem bsj_size (x : List UInt8) : (bsj x).size = x.length := rfl
theorem lsj_len (s : ByteArray) : (lsj s).length = s.size := by simp [lsj]
theorem bsj_inj {x y : List UInt8} (h : bsj x = bsj y) : x = y := by rw [← lsj_bsj x, h, lsj_bsj]
theorem map_bsj_lsj (xs : List ByteArray) : (xs.map lsj).map bsj = xs := by
  rw [List.map_map]
  have : bsj ∘ lsj = id := by funext s; exact bsj_lsj s
  rw [this, List.map_id]
theorem map_lsj_bsj (xs : List (List UInt8)) : (xs.map bsj).map lsj = xs := by
  rw [List.map_map]
  have : lsj ∘ bsj = id := by funext s; exact lsj_bsj s
  rw [this, List.map_id]

/-- Whether a text is a number from 0 to 10^9 as Itoa writes it. -/
def nmOk (y : List UInt8) : Bool := atoiOk y && ((Lib.itoa (atoiV y) == y) && wi (atoiV y) 0 1000000000)
theorem nmOk_yes {y : List UInt8} (h : nmOk y = true) : Lib.itoa (atoiV y) = y ∧ 0 ≤ atoiV y ∧ atoiV y ≤ 1000000000 := by
  unfold nmOk at h
  rw [Bool.and_eq_true, Bool.and_eq_true] at h
  exact ⟨eq_of_beq h.2.1, wi_iff.1 h.2.2⟩
theorem nmOk_itoa {n : Int} (h1 : 0 ≤ n) (h2 : n ≤ 1000000000) : nmOk (Lib.itoa n) = true ∧ atoiV (Lib.itoa n) = n := by
  obtain ⟨e1, e2⟩ := atoiV_itoa (n := n) (by omega) (by omega)
  refine ⟨?_, e1⟩
  unfold nmOk
  rw [e1, e2, beq_self_eq_true, wi_iff.2 ⟨h1, h2⟩]; rfl
/-- The words of a line, and the task that they are. -/
def wd (y : List UInt8) (i : Nat) : List UInt8 := (words 32 y)[i]?.getD []
def lineOk (y : List UInt8) : Bool := decide (3 ≤ (words 32 y).length) && (!(words 32 y).contains [] && (nmOk (wd y 1) && nmOk (wd y 2)))
def lineT (y : List UInt8) : Tk := ⟨bsj (wd y 0), atoiV (wd y 1), atoiV (wd y 2), ((words 32 y).drop 3).map bsj⟩
def lineJ (t : Tk) : List UInt8 := Lib.join (lsj t.nm :: Lib.itoa t.dy :: Lib.itoa t.mn :: t.af.map lsj) [32]
def fmtP (l : List Tk) : List UInt8 := if checkE l = 0 then l.flatMap (fun t => lineJ t ++ [10]) else []
theorem lineOk_yes {y : List UInt8} (h : lineOk y = true) : 3 ≤ (words 32 y).length ∧ [] ∉ words 32 y ∧ nmOk (wd y 1) = true ∧ nmOk (wd y 2) = true := by
  unfold lineOk at h
  simp only [Bool.and_eq_true, decide_eq_true_eq, Bool.not_eq_true'] at h
  exact ⟨h.1, by have := h.2.1; simpa using this, h.2.2.1, h.2.2.2⟩
theorem lineOk_mk {y : List UInt8} (h1 : 3 ≤ (words 32 y).length) (h2 : [] ∉ words 32 y) (h3 : nmOk (wd y 1) = true) (h4 : nmOk (wd y 2) = true) : lineOk y = true := by
  unfold lineOk
  rw [decide_eq_true h1, h3, h4]
  simp [h2]
/-- A line that reads as a task is what that task is written as. -/
theorem lineJ_T {y : List UInt8} (h : lineOk y = true) : lineJ (lineT y) = y := by
  obtain ⟨h1, h2, h3, h4⟩ := lineOk_yes h
  obtain ⟨e3, -⟩ := nmOk_yes h3
  obtain ⟨e4, -⟩ := nmOk_yes h4
  unfold lineJ lineT
  simp only
  rw [e3, e4, lsj_bsj, map_lsj_bsj]
  have : wd y 0 :: wd y 1 :: wd y 2 :: (words 32 y).drop 3 = words 32 y := by
    unfold wd
    generalize words 32 y = ws at *
    match ws, h1 with
    | a :: b :: c :: r, _ => rfl
  rw [this]
  exact join_words 32 y
/-- The words of what a task is written as. -/
def tkOk (t : Tk) : Prop := (∀ x ∈ (t.nm :: t.af), lsj x ≠ [] ∧ (32 : UInt8) ∉ lsj x ∧ (10 : UInt8) ∉ lsj x) ∧ (0 ≤ t.dy ∧ t.dy ≤ 1000000000) ∧ 0 ≤ t.mn ∧ t.mn ≤ 1000000000
def wsJ (t : Tk) : List (List UInt8) := lsj t.nm :: Lib.itoa t.dy :: Lib.itoa t.mn :: t.af.map lsj
theorem words_lineJ {t : Tk} (h : tkOk t) : words 32 (lineJ t) = wsJ t := by
  refine words_join (by simp) fun y hy => ?_
  rcases List.mem_cons.1 hy with rfl | hy
  · exact (h.1 _ (List.mem_cons_self ..)).2.1
  · rcases List.mem_cons.1 hy with rfl | hy
    · exact itoa_no _ (by decide) (by decide)
    · rcases List.mem_cons.1 hy with rfl | hy
      · exact itoa_no _ (by decide) (by decide)
      · obtain ⟨x, hx, rfl⟩ := List.mem_map.1 hy
        exact (h.1 _ (List.mem_cons_of_mem _ hx)).2.1
theorem wsJ_ne {t : Tk} (h : tkOk t) : [] ∉ wsJ t := by
  intro hy
  rcases List.mem_cons.1 hy with e | hy
  · exact (h.1 _ (List.mem_cons_self ..)).1 e.symm
  · rcases List.mem_cons.1 hy with e | hy
    · exact itoa_ne _ e.symm
    · rcases List.mem_cons.1 hy with e | hy
      · exact itoa_ne _ e.symm
      · obtain ⟨x, hx, e⟩ := List.mem_map.1 hy
        exact (h.1 _ (List.mem_cons_of_mem _ hx)).1 e
theorem lineOk_J {t : Tk} (h : tkOk t) : lineOk (lineJ t) = true ∧ lineT (lineJ t) = t := by
  have hw := words_lineJ h
  have e0 : wd (lineJ t) 0 = lsj t.nm := by unfold wd; rw [hw]; rfl
  have e1 : wd (lineJ t) 1 = Lib.itoa t.dy := by unfold wd; rw [hw]; rfl
  have e2 : wd (lineJ t) 2 = Lib.itoa t.mn := by unfold wd; rw [hw]; rfl
  obtain ⟨k1, v1⟩ := nmOk_itoa h.2.1.1 h.2.1.2
  obtain ⟨k2, v2⟩ := nmOk_itoa h.2.2.1 h.2.2.2
  refine ⟨lineOk_mk (by rw [hw]; simp [wsJ]) (by rw [hw]; exact wsJ_ne h) (by rw [e1]; exact k1) (by rw [e2]; exact k2), ?_⟩
  unfold lineT
  rw [e0, e1, e2, v1, v2, bsj_lsj, hw]
  show Tk.mk t.nm t.dy t.mn ((t.af.map lsj).map bsj) = t
  rw [map_bsj_lsj]
theorem lineJ_no10 {t : Tk} (h : tkOk t) : (10 : UInt8) ∉ lineJ t := by
  have key : ∀ (r : List (List UInt8)) (x : List UInt8), (10 : UInt8) ∉ x → (∀ y ∈ r, (10 : UInt8) ∉ y) → (10 : UInt8) ∉ Lib.join (x :: r) [32] := by
    intro r
    induction r with
    | nil => intro x hx _; rw [Lib.join_one]; exact hx
    | cons z r ih =>
      intro x hx hr
      have h1 := ih z (hr z (List.mem_cons_self ..)) (fun y hy => hr y (List.mem_cons_of_mem _ hy))
      rw [Lib.join_cons] at h1 ⊢
      rw [joinTail_cons]
      intro hm
      rcases List.mem_append.1 hm with hm | hm
      · exact hx hm
      · rw [List.append_assoc] at hm
        rcases List.mem_append.1 hm with hm | hm
        · simp at hm
        · exact h1 hm
  refine key _ _ (h.1 _ (List.mem_cons_self ..)).2.2 fun y hy => ?_
  rcases List.mem_cons.1 hy with rfl | hy
  · exact itoa_no _ (by decide) (by decide)
  · rcases List.mem_cons.1 hy with rfl | hy
    · exact itoa_no _ (by decide) (by decide)
    · obtain ⟨x, hx, rfl⟩ := List.mem_map.1 hy
      exact (h.1 _ (List.mem_cons_of_mem _ hx)).2.2
theorem nm_tk {s : ByteArray} (h : isNm s = true) : lsj s ≠ [] ∧ (32 : UInt8) ∉ lsj s ∧ (10 : UInt8) ∉ lsj s ∧ (lsj s).length ≤ 16 := by
  unfold isNm at h
  rw [Bool.and_eq_true, decide_eq_true_eq] at h
  have hl := lsj_len s
  have key : ∀ c ∈ lsj s, 48 ≤ c.toNat := by
    intro c hc
    obtain ⟨i, hi, rfl⟩ := List.getElem_of_mem hc
    have h1 := List.all_eq_true.1 h.1 i (List.mem_range.2 (by omega))
    unfold chV byA at h1
    have e : s.data.toList[i]? = some (lsj s)[i] := List.getElem?_eq_getElem hi
    rw [e] at h1
    simp at h1
    omega
  refine ⟨fun e => ?_, fun hm => ?_, fun hm => ?_, by omega⟩
  · rw [e] at hl; simp at hl; omega
  · have := key _ hm; exact absurd this (by decide)
  · have := key _ hm; exact absurd this (by decide)
theorem okP_tk {l : List Tk} (h : okP l) : ∀ t ∈ l, tkOk t ∧ t.af.length ≤ 10 ∧ t.dy ≤ 1000 ∧ t.mn ≤ 16 ∧ ∀ x ∈ (t.nm :: t.af), (lsj x).length ≤ 16 := by
  intro t ht
  obtain ⟨i, hi, rfl⟩ := mem_tkA ht
  have h1 := h.each i hi
  have hn : ∀ j, j < l.length → isNm (tkA l j).nm = true := fun j hj => by
    have := h.each j hj
    unfold okTk at this
    rw [Bool.and_eq_true, Bool.and_eq_true] at this
    exact this.1.1
  unfold okTk at h1
  rw [Bool.and_eq_true, Bool.and_eq_true, wi_iff, wi_iff] at h1
  have hx : ∀ x ∈ ((tkA l i).nm :: (tkA l i).af), isNm x = true := by
    intro x hx
    rcases List.mem_cons.1 hx with rfl | hx
    · exact hn i hi
    · have h2 := h.known i hi x hx
      rw [← fnd_at h2]
      exact hn _ h2
  exact ⟨⟨fun x hh => by obtain ⟨a, b, c, -⟩ := nm_tk (hx x hh); exact ⟨a, b, c⟩, by omega, by omega⟩, h.few i hi, by omega, by omega, fun x hh => (nm_tk (hx x hh)).2.2.2⟩

/-! ### texts -/
def finJ (L : List Tk) : List Tk × Nat × Int := if checkE L = 0 then (L, 0, 0) else ([], 0, checkE L)
def runJ : List (List UInt8) → Nat → List Tk → List Tk × Nat × Int
  | [], k, _ => ([], k, 2)
  | [y], k, L => if k ≠ 0 ∧ y = [] then finJ L else ([], k, 2)
  | y :: z :: r, k, L => if lineOk y = true then runJ (z :: r) (k + 1) (L ++ [lineT y]) else ([], k, 2)
def rpJ (b : List UInt8) : List Tk × Nat × Int := runJ (words 10 b) 0 []
theorem runJ_yes {y : List UInt8} {r : List (List UInt8)} {k : Nat} {L : List Tk} (hr : r ≠ []) (h : lineOk y = true) : runJ (y :: r) k L = runJ r (k + 1) (L ++ [lineT y]) := by
  cases r with
  | nil => exact absurd rfl hr
  | cons z r => rw [runJ, if_pos h]
theorem runJ_no {y : List UInt8} {r : List (List UInt8)} {k : Nat} {L : List Tk} (h : lineOk y = false) (hk : r ≠ [] ∨ ¬ (k ≠ 0 ∧ y = [])) : runJ (y :: r) k L = ([], k, 2) := by
  cases r with
  | nil =>
    rcases hk with hk | hk
    · exact absurd rfl hk
    · rw [runJ, if_neg hk]
  | cons z r => rw [runJ, if_neg (by rw [h]; simp)]
theorem runJ_last {y : List UInt8} {k : Nat} {L : List Tk} (h : ¬ (k ≠ 0 ∧ y = [])) : runJ [y] k L = ([], k, 2) := by rw [runJ, if_neg h]
theorem runJ_end {k : Nat} {L : List Tk} (h : k ≠ 0) : runJ [[]] k L = finJ L := by rw [runJ, if_pos ⟨h, rfl⟩]
theorem runJ_all : ∀ (l : List Tk) (k : Nat) (L : List Tk), (∀ t ∈ l, tkOk t) → k + l.length ≠ 0 → runJ (l.map lineJ ++ [[]]) k L = finJ (L ++ l) := by
  intro l
  induction l with
  | nil => intro k L _ hk; rw [List.append_nil]; exact runJ_end (by simpa using hk)
  | cons t l ih =>
    intro k L h hk
    obtain ⟨h1, h2⟩ := lineOk_J (h t (List.mem_cons_self ..))
    rw [List.map_cons, List.cons_append, runJ_yes (by simp) h1, h2, ih _ _ (fun x hx => h x (List.mem_cons_of_mem _ hx)) (by omega), List.append_assoc]
    rfl
theorem words_flat : ∀ (l : List Tk), (∀ t ∈ l, (10 : UInt8) ∉ lineJ t) → words 10 (l.flatMap fun t => lineJ t ++ [10]) = l.map lineJ ++ [[]] := by
  intro l
  induction l with
  | nil => intro _; rfl
  | cons t l ih =>
    intro h
    rw [List.flatMap_cons, List.append_assoc, List.singleton_append, words_app _ (h t (List.mem_cons_self ..)), ih fun x hx => h x (List.mem_cons_of_mem _ hx)]
    rfl
/-- What a plan was written as is read back. -/
theorem rpJ_fmt {l : List Tk} (h : checkE l = 0) : rpJ (fmtP l) = (l, 0, 0) := by
  have hP := check_spec h
  have hp := hP.pos
  have hT := okP_tk hP
  unfold rpJ fmtP
  rw [if_pos h, words_flat l fun t ht => lineJ_no10 (hT t ht).1, runJ_all _ _ _ (fun t ht => (hT t ht).1) (by omega)]
  unfold finJ
  rw [List.nil_append, if_pos h]
theorem flat_join : ∀ (l : List Tk), (l.flatMap fun t => lineJ t ++ [10]) = Lib.join (l.map lineJ ++ [[]]) [10] := by
  intro l
  induction l with
  | nil => rfl
  | cons t l ih =>
    rw [List.flatMap_cons, ih, List.map_cons, List.cons_append, Lib.join_cons]
    cases l with
    | nil => simp [Lib.joinTail, Lib.join_one]
    | cons u l =>
      rw [List.map_cons, List.cons_append, Lib.join_cons, joinTail_cons]
      simp
theorem runJ_back : ∀ (ws : List (List UInt8)) (k : Nat) (L : List Tk), (runJ ws k L).2.2 = 0 → ∃ l, ws = l.map lineJ ++ [[]] ∧ runJ ws k L = (L ++ l, 0, 0) ∧ checkE (L ++ l) = 0 := by
  intro ws
  induction ws with
  | nil => intro k L h; exact absurd (show (2 : Int) = 0 from h) (by decide)
  | cons y r ih =>
    intro k L h
    cases r with
    | nil =>
      by_cases hk : k ≠ 0 ∧ y = []
      · obtain ⟨hk, rfl⟩ := hk
        rw [runJ_end hk] at h
        unfold finJ at h
        split at h
        · rename_i hc
          refine ⟨[], rfl, ?_, by rw [List.append_nil]; exact hc⟩
          rw [runJ_end hk, List.append_nil]; unfold finJ; rw [if_pos hc]
        · rename_i hc; exact absurd h hc
      · rw [runJ_last hk] at h; exact absurd (show (2 : Int) = 0 from h) (by decide)
    | cons z r =>
      by_cases hl : lineOk y = true
      · rw [runJ_yes (by simp) hl] at h
        obtain ⟨l, h1, h2, h3⟩ := ih _ _ h
        refine ⟨lineT y :: l, by rw [h1, List.map_cons, lineJ_T hl]; rfl, ?_, ?_⟩
        · rw [runJ_yes (by simp) hl, h2, List.append_assoc]; rfl
        · rw [List.append_assoc] at h3; exact h3
      · rw [runJ_no (by simpa using hl) (.inl (by simp))] at h; exact absurd (show (2 : Int) = 0 from h) (by decide)
/-- What is read without an error is written as it was. -/
theorem rpJ_back {b : List UInt8} (h : (rpJ b).2.2 = 0) : ∃ L, rpJ b = (L, 0, 0) ∧ checkE L = 0 ∧ fmtP L = b := by
  obtain ⟨l, h1, h2, h3⟩ := runJ_back _ _ _ h
  rw [List.nil_append] at h2 h3
  refine ⟨l, h2, h3, ?_⟩
  unfold fmtP
  rw [if_pos h3, flat_join, ← h1]
  exact join_words 10 b
/-- The lines that were read so far. -/
def ReadJ (ws : List (List UInt8)) (L : List Tk) : Prop := ws = L.map lineJ ∧ ∀ t ∈ L, lineT (lineJ t) = t ∧ lineOk (lineJ t) = true
theorem ReadJ.nil : ReadJ [] [] := ⟨rfl, fun t h => absurd h (by simp)⟩
theorem ReadJ.push {ws : List (List UInt8)} {L : List Tk} {y : List UInt8} (h : ReadJ ws L) (hy : lineOk y = true) : ReadJ (ws ++ [y]) (L ++ [lineT y]) := by
  refine ⟨by rw [List.map_append, ← h.1, List.map_cons, lineJ_T hy]; rfl, fun t ht => ?_⟩
  rcases List.mem_append.1 ht with ht | ht
  · exact h.2 t ht
  · rw [List.mem_singleton.1 ht, lineJ_T hy]; exact ⟨rfl, hy⟩
theorem ReadJ.one {ws : List (List UInt8)} {L L' : List Tk} (h : ReadJ ws L) (h' : ReadJ ws L') : L = L' := by
  have e : ∀ {M : List Tk}, ReadJ ws M → M = ws.map lineT := fun {M} hM => by
    rw [hM.1, List.map_map]
    conv => lhs; rw [← List.map_id M]
    exact List.map_congr_left fun t ht => ((hM.2 t ht).1).symm
  rw [e h, e h']
theorem readJ_ok {l : List Tk} (h : okP l) : ReadJ (l.map lineJ) l := ⟨rfl, fun t ht => (lineOk_J (okP_tk h t ht).1).symm⟩
theorem joinTail_ge : ∀ (r : List (List UInt8)), (∀ y ∈ r, y ≠ []) → 2 * r.length ≤ (Lib.joinTail [32] r).length := by
  intro r
  induction r with
  | nil => intro _; simp
  | cons y r ih =>
    intro h
    have h1 := ih fun z hz => h z (List.mem_cons_of_mem _ hz)
    have h2 := List.length_pos_iff.2 (h y (List.mem_cons_self ..))
    rw [joinTail_cons]
    simp only [List.length_append, List.length_cons, List.length_nil]
    omega
theorem join_ge {ws : List (List UInt8)} (h : [] ∉ ws) (h0 : ws ≠ []) : 2 * ws.length ≤ (Lib.join ws [32]).length + 1 := by
  cases ws with
  | nil => exact absurd rfl h0
  | cons y r =>
    have h1 := joinTail_ge r fun z hz e => h (by rw [← e]; exact List.mem_cons_of_mem _ hz)
    have h2 := List.length_pos_iff.2 (fun e : y = [] => h (by rw [e]; exact List.mem_cons_self ..))
    rw [Lib.join_cons]
    simp only [List.length_append, List.length_cons]
    omega
theorem joinTail_mem : ∀ (r : List (List UInt8)) (y : List UInt8), y ∈ r → y.length ≤ (Lib.joinTail [32] r).length := by
  intro r
  induction r with
  | nil => intro y h; simp at h
  | cons z r ih =>
    intro y h
    rw [joinTail_cons]
    simp only [List.length_append]
    rcases List.mem_cons.1 h with rfl | h
    · omega
    · have := ih y h; omega
theorem join_mem {ws : List (List UInt8)} {y : List UInt8} (h : y ∈ ws) : y.length ≤ (Lib.join ws [32]).length := by
  cases ws with
  | nil => simp at h
  | cons z r =>
    rw [Lib.join_cons, List.length_append]
    rcases List.mem_cons.1 h with rfl | h
    · omega
    · have := joinTail_mem r y h; omega
theorem words_mem_len {y b : List UInt8} (h : y ∈ words 32 b) : y.length ≤ b.length := by
  have := join_mem h
  rwa [join_words] at this
theorem lineOk_len {y : List UInt8} (h : lineOk y = true) : 5 ≤ y.length ∧ 2 * (lineT y).af.length + 5 ≤ y.length ∧ (lineT y).nm.size ≤ y.length ∧ ∀ s ∈ (lineT y).af, s.size ≤ y.length := by
  obtain ⟨h1, h2, -, -⟩ := lineOk_yes h
  have hg := join_ge h2 (by intro e; rw [e] at h1; simp at h1)
  rw [join_words] at hg
  have ha : (lineT y).af.length = (words 32 y).length - 3 := by simp [lineT]
  refine ⟨by omega, by omega, ?_, fun s hs => ?_⟩
  · show (wd y 0).length ≤ _
    unfold wd
    rw [List.getElem?_eq_getElem (by omega)]
    exact words_mem_len (List.getElem_mem _)
  · obtain ⟨x, hx, rfl⟩ := List.mem_map.1 hs
    exact words_mem_len (List.mem_of_mem_drop hx)
theorem flat_len : ∀ (L : List Tk), (∀ t ∈ L, 5 ≤ (lineJ t).length) → 6 * L.length ≤ (L.flatMap fun t => lineJ t ++ [10]).length := by
  intro L
  induction L with
  | nil => intro _; simp
  | cons t L ih =>
    intro h
    have h1 := ih fun x hx => h x (List.mem_cons_of_mem _ hx)
    have h2 := h t (List.mem_cons_self ..)
    rw [List.flatMap_cons]
    simp only [List.length_append, List.length_cons, List.length_nil]
    omega
theorem flat_mem : ∀ (L : List Tk) (t : Tk), t ∈ L → (lineJ t).length ≤ (L.flatMap fun t => lineJ t ++ [10]).length := by
  intro L
  induction L with
  | nil => intro t h; simp at h
  | cons u L ih =>
    intro t h
    rw [List.flatMap_cons]
    simp only [List.length_append, List.length_cons, List.length_nil]
    rcases List.mem_cons.1 h with rfl | h
    · omega
    · have := ih t h; omega
/-- The whole text was read. -/
def AllJ (b : List UInt8) (L : List Tk) : Prop := ∃ ws, words 10 b = ws ++ [[]] ∧ ReadJ ws L
theorem AllJ.text {b : List UInt8} {L : List Tk} (h : AllJ b L) : (L.flatMap fun t => lineJ t ++ [10]) = b := by
  obtain ⟨ws, h1, h2, -⟩ := h
  rw [flat_join, ← h2, ← h1]
  exact join_words 10 b
theorem AllJ.sml {b : List UInt8} {L : List Tk} (h : AllJ b L) (hb : b.length ≤ 2000) : Sml L := by
  have ht := h.text
  obtain ⟨ws, h1, h2, h3⟩ := h
  have hk : ∀ t ∈ L, 5 ≤ (lineJ t).length ∧ 2 * t.af.length + 5 ≤ (lineJ t).length ∧ t.nm.size ≤ (lineJ t).length ∧ ∀ s ∈ t.af, s.size ≤ (lineJ t).length := fun t hh => by
    have := lineOk_len (h3 t hh).2
    rwa [(h3 t hh).1] at this
  have hm : ∀ t ∈ L, (lineJ t).length ≤ 2000 := fun t hh => by
    have := flat_mem L t hh
    rw [ht] at this; omega
  have hl := flat_len L fun t hh => (hk t hh).1
  rw [ht] at hl
  refine ⟨by omega, fun i hi => ?_, fun i hi => ?_, fun i hi s hs => ?_⟩
  · have := hk _ (tkA_mem hi); have := hm _ (tkA_mem hi); omega
  · have := hk _ (tkA_mem hi); have := hm _ (tkA_mem hi); omega
  · have := (hk _ (tkA_mem hi)).2.2.2 s hs; have := hm _ (tkA_mem hi); omega
theorem fmt_all {l L : List Tk} (h : checkE l = 0) (hL : AllJ (fmtP l) L) : L = l := by
  have hP := check_spec h
  have hT := okP_tk hP
  obtain ⟨ws, h1, h2⟩ := hL
  unfold fmtP at h1
  rw [if_pos h, words_flat l fun t ht => lineJ_no10 (hT t ht).1] at h1
  have : ws = l.map lineJ := (List.append_inj_left' h1 rfl).symm
  rw [this] at h2
  exact h2.one (readJ_ok hP)
theorem sml_okP {l : List Tk} (h : okP l) : Sml l := by
  have h5 := h.len
  refine ⟨by omega, fun i hi => ?_, fun i hi => ?_, fun i hi s hs => ?_⟩
  · have := (okP_tk h _ (tkA_mem hi)).2.2.2.2 _ (List.mem_cons_self ..)
    rw [lsj_len] at this; omega
  · have := h.few i hi; omega
  · have := (okP_tk h _ (tkA_mem hi)).2.2.2.2 _ (List.mem_cons_of_mem _ hs)
    rw [lsj_len] at this; omega
theorem joinTail_le : ∀ (r : List (List UInt8)), (∀ y ∈ r, y.length ≤ 19) → (Lib.joinTail [32] r).length ≤ 20 * r.length := by
  intro r
  induction r with
  | nil => intro _; simp [Lib.joinTail]
  | cons y r ih =>
    intro h
    have h1 := ih fun z hz => h z (List.mem_cons_of_mem _ hz)
    have h2 := h y (List.mem_cons_self ..)
    rw [joinTail_cons]
    simp only [List.length_append, List.length_cons, List.length_nil]
    omega
/-- A line of a valid plan is short. -/
theorem lineJ_len {l : List Tk} (h : okP l) : ∀ t ∈ l, (lineJ t).length ≤ 260 := by
  intro t ht
  obtain ⟨-, h1, -, -, h2⟩ := okP_tk h t ht
  obtain ⟨⟨-, h3, h4⟩, -⟩ := okP_tk h t ht
  unfold lineJ
  rw [Lib.join_cons, List.length_append]
  have k1 := h2 _ (List.mem_cons_self ..)
  have k2 := joinTail_le (Lib.itoa t.dy :: Lib.itoa t.mn :: t.af.map lsj) fun y hy => by
    rcases List.mem_cons.1 hy with rfl | hy
    · exact itoa_len20 (by omega) (by omega)
    · rcases List.mem_cons.1 hy with rfl | hy
      · exact itoa_len20 (by omega) (by omega)
      · obtain ⟨x, hx, rfl⟩ := List.mem_map.1 hy
        have := h2 x (List.mem_cons_of_mem _ hx); omega
  simp only [List.length_cons, List.length_map] at k2
  omega
theorem flat_le : ∀ (L : List Tk), (∀ t ∈ L, (lineJ t).length ≤ 260) → (L.flatMap fun t => lineJ t ++ [10]).length ≤ 261 * L.length := by
  intro L
  induction L with
  | nil => intro _; simp
  | cons t L ih =>
    intro h
    have h1 := ih fun x hx => h x (List.mem_cons_of_mem _ hx)
    have h2 := h t (List.mem_cons_self ..)
    rw [List.flatMap_cons]
    simp only [List.length_append, List.length_cons, List.length_nil]
    omega
/-- What was written of the first k tasks. -/
def fmtK (l : List Tk) (k : Nat) : List UInt8 := (l.take k).flatMap fun t => lineJ t ++ [10]
theorem fmtK_succ {l : List Tk} {k : Nat} (h : k < l.length) : fmtK l (k + 1) = fmtK l k ++ lineJ (tkA l k) ++ [10] := by
  unfold fmtK
  rw [List.take_succ_eq_append_getElem h, List.flatMap_append, tkA_get h, List.append_assoc]
  simp
theorem fmtK_le {l : List Tk} (h : okP l) (k : Nat) : (fmtK l k).length ≤ 5220 := by
  have h1 := flat_le (l.take k) fun t ht => lineJ_len h t (List.mem_of_mem_take ht)
  have h2 := h.len
  rw [List.length_take] at h1
  unfold fmtK
  omega
theorem fmtK_all {l : List Tk} (h : checkE l = 0) : fmtK l l.length = fmtP l := by
  unfold fmtK fmtP
  rw [List.take_length, if_pos h]
theorem fmtP_le (l : List Tk) : (fmtP l).length ≤ 5220 := by
  by_cases h : checkE l = 0
  · rw [← fmtK_all h]; exact fmtK_le (check_spec h) _
  · unfold fmtP; rw [if_neg h]; simp
theorem fmtP_no {l : List Tk} (h : checkE l ≠ 0) : fmtP l = [] := by unfold fmtP; rw [if_neg h]
end Go.Proofs.YtmionebfepkolaaGreatDoor
