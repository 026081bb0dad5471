/- Plans: what the program's Listed holds while it runs. -/
import Derived.Test.YtgijekhlbkfanaaJobA1
import Derived.Test.YtgijekhlbkfanaaJobA2
set_option linter.unusedSimpArgs false
set_option linter.unusedVariables false
namespace Go.Proofs.Ytgijekhlbkfanaa
open Go.RowKit Go.Shelf Go.Maps
attribute [local go_sem] Oper.semAt_some Later.cell Same.cell

theorem pig {α β : Type} {R : α → β → Prop} (hR : ∀ p q q', R p q → R p q' → q = q') : ∀ {qs : List β} {es : List α}, qs.Nodup → (∀ q ∈ qs, ∃ p ∈ es, R p q) → qs.length ≤ es.length
  | [], es, _, _ => Nat.zero_le _
  | q :: qs, es, hn, h => by
    obtain ⟨p, hp, hpq⟩ := h q (List.mem_cons_self ..)
    obtain ⟨h1, h2⟩ := List.nodup_cons.1 hn
    obtain ⟨l1, l2, rfl⟩ := List.append_of_mem hp
    have := pig hR (qs := qs) (es := l1 ++ l2) h2 fun q' hq' => by
      obtain ⟨p', hp', hpq'⟩ := h q' (List.mem_cons_of_mem _ hq')
      rcases List.mem_append.1 hp' with h3 | h3
      · exact ⟨p', List.mem_append_left _ h3, hpq'⟩
      · rcases List.mem_cons.1 h3 with rfl | h3
        · exact absurd (hR p' q q' hpq hpq') (fun e => h1 (e ▸ hq'))
        · exact ⟨p', List.mem_append_right _ h3, hpq'⟩
    rw [List.length_append] at this
    rw [List.length_cons, List.length_append, List.length_cons]
    omega
/-- How many entries a map of names has. -/
theorem maps_size {W : World} {mb n : Nat} {M : ByteArray → Option Bool} (h : MapS W mb n M) (qs : List ByteArray) (hn : qs.Nodup) (hq : ∀ q ∈ qs, (M q).isSome = true) : ∃ D : DataW Unit, W.ownsMap Try.prog 9 (plainElem Try.prog 4) mb n D ∧ qs.length ≤ Maps.size D ∧ Maps.size D ≤ n := by
  obtain ⟨D, h1, ⟨es, rfl⟩, h3, -⟩ := h
  refine ⟨_, h1, ?_, h1.size_le⟩
  rw [Maps.size_eq]
  refine pig (R := fun (p : Lit × DataW Unit) q => p.1.sameKey (slit q) = true) (fun p q q' a b => ?_) hn fun q hq' => ?_
  · have e1 := WideAt.sameKey_eq a
    have e2 := WideAt.sameKey_eq b
    exact slit_inj (e1.symm.trans e2)
  · have := h3 q
    rw [hq q hq', Maps.has_eq, List.any_eq_true] at this
    exact this
theorem map_inj_nodup {α β : Type} {f : α → β} : ∀ {xs : List α}, (∀ x ∈ xs, ∀ y ∈ xs, f x = f y → x = y) → xs.Nodup → (xs.map f).Nodup
  | [], _, _ => List.nodup_nil
  | x :: xs, hf, hn => by
    obtain ⟨h1, h2⟩ := List.nodup_cons.1 hn
    rw [List.map_cons, List.nodup_cons]
    refine ⟨fun hh => ?_, map_inj_nodup (fun a ha b hb => hf a (List.mem_cons_of_mem _ ha) b (List.mem_cons_of_mem _ hb)) h2⟩
    obtain ⟨y, hy, e⟩ := List.mem_map.1 hh
    have := hf y (List.mem_cons_of_mem _ hy) x (List.mem_cons_self ..) e
    exact h1 (this ▸ hy)
theorem begun_size {l : List Tk} (hP : okP l) {W : World} {mb : Nat} {B : List Nat} (h : MapS W mb B.length (nmsOf l B)) (hn : B.Nodup) (hl : ∀ i ∈ B, i < l.length) : ∃ D : DataW Unit, W.ownsMap Try.prog 9 (plainElem Try.prog 4) mb B.length D ∧ Maps.size D = B.length := by
  obtain ⟨D, h1, h2, h3⟩ := maps_size h (B.map fun i => (tkA l i).nm) (map_inj_nodup (fun x hx y hy e => apN_inj hP.apart (hl x hx) (hl y hy) e) hn) (fun q hq => by
    obtain ⟨i, hi, rfl⟩ := List.mem_map.1 hq
    unfold nmsOf
    rw [if_pos (List.any_eq_true.2 ⟨i, hi, by simp⟩)]; rfl)
  rw [List.length_map] at h2
  exact ⟨D, h1, by omega⟩
structure LsR (A : Option Addr) (cap : Nat) (l : List Tk) (w : World) (N Bl gl capl go mb Bb : Nat) (s : Sc) (W : World) : Prop where
  out : W.ownsRow w.heap.size 3 1 (.slice (some ⟨go, 0, none⟩) l.length l.length) l.length (icells s.1)
  map : MapS W mb s.2.length (nmsOf l s.2)
  cl : W.cell? ⟨w.heap.size, 0, none⟩ = some (.slice A l.length cap)
  cb : W.cell? ⟨Bb, 0, none⟩ = some (.map (some mb))
  lat : LateAt W Bl gl l.length capl (latP l)
  bel : Below w.heap.size w W
  ord : (w.heap.size < gl ∧ gl < Bl ∧ Bl < go) ∧ (go < mb ∧ mb < Bb ∧ Bb < N) ∧ N ≤ W.heap.size
section
variable {A : Option Addr} {cap : Nat} {l : List Tk} {w : World} {N Bl gl capl go mb Bb : Nat} {s : Sc} {W W' : World}
theorem LsR.later (h : LsR A cap l w N Bl gl capl go mb Bb s W) (hb : Below W.heap.size W W') : LsR A cap l w N Bl gl capl go mb Bb s W' :=
  have hc := fun b u (hu : W.cell? ⟨b, 0, none⟩ = some u) => (hb.cell (p := ⟨b, 0, none⟩) (World.block_lt_of_cell? W _ hu)).trans hu
  ⟨jown_later h.out hb, h.map.below hb, hc _ _ h.cl, hc _ _ h.cb, h.lat.later hb, h.bel.trans (hb.mono h.bel.size), h.ord.1, h.ord.2.1, Nat.le_trans h.ord.2.2 hb.size⟩
theorem LateAt.grown {nl : Nat} {late : List Int} {row : Option Nat} (h : LateAt W Bl gl nl capl late) (hg : W.grownBy W' row) (h1 : some Bl ≠ row) (h2 : some gl ≠ row) : LateAt W' Bl gl nl capl late :=
  ⟨(World.cell?_of_block (a := ⟨Bl, 0, none⟩) (hg.block Bl (World.block_lt_of_cell? W _ h.1) h1)).trans h.1, fun k hk => (World.cell?_of_block (a := ⟨gl, k, none⟩) (hg.block gl (World.block_lt_of_cell? W _ (h.2 k hk)) h2)).trans (h.2 k hk)⟩
theorem LsR.grown (h : LsR A cap l w N Bl gl capl go mb Bb s W) {row : Option Nat} (hg : W.grownBy W' row) (hr : ∀ r, row = some r → N ≤ r) : LsR A cap l w N Bl gl capl go mb Bb s W' := by
  obtain ⟨⟨o1, o2, o3⟩, ⟨o4, o5, o6⟩, o7⟩ := h.ord
  have hne : ∀ b, b < N → some b ≠ row := fun b hb e => by have := hr b e.symm; omega
  have hc := fun b (hb : b < N) u (hu : W.cell? ⟨b, 0, none⟩ = some u) => (World.cell?_of_block (a := ⟨b, 0, none⟩) (hg.block b (World.block_lt_of_cell? W _ hu) (hne b hb))).trans hu
  refine ⟨h.out.kept hg (.inr (fun e => hne go (by omega) e)), h.map.kept hg (hne mb (by omega)), hc _ (by omega) _ h.cl, hc _ (by omega) _ h.cb, h.lat.grown hg (hne Bl (by omega)) (hne gl (by omega)), h.bel.trans (grown_below hg h.bel.size fun k hk => by have := hr k hk; omega), ⟨o1, o2, o3⟩, ⟨o4, o5, o6⟩, Nat.le_trans o7 hg.size⟩
theorem LsR.store (h : LsR A cap l w N Bl gl capl go mb Bb s W) (i : Nat) (v : Int) : LsR A cap l w N Bl gl capl go mb Bb (s.1.set i v, s.2) (W.setCell ⟨go, i, none⟩ (.int .i64 v)) := by
  obtain ⟨⟨o1, o2, o3⟩, ⟨o4, o5, o6⟩, o7⟩ := h.ord
  obtain ⟨q1, hg⟩ := jown_store h.out i v
  have hne : ∀ b, b ≠ go → some b ≠ some go := fun b hb e => hb (by injection e)
  have hc := fun b (hb : b ≠ go) u (hu : W.cell? ⟨b, 0, none⟩ = some u) => (World.cell?_of_block (a := ⟨b, 0, none⟩) (hg.block b (World.block_lt_of_cell? W _ hu) (hne b hb))).trans hu
  exact ⟨q1, h.map.kept hg (hne mb (by omega)), hc _ (by omega) _ h.cl, hc _ (by omega) _ h.cb, h.lat.grown hg (hne Bl (by omega)) (hne gl (by omega)), h.bel.trans (grown_below hg h.bel.size fun k hk => by injection hk with hk; omega), ⟨o1, o2, o3⟩, ⟨o4, o5, o6⟩, Nat.le_trans o7 hg.size⟩
theorem LsR.put (h : LsR A cap l w N Bl gl capl go mb Bb s W) {B : List Nat} (hM : MapS W' mb B.length (nmsOf l B)) (hg : W.grownBy W' (some mb)) : LsR A cap l w N Bl gl capl go mb Bb (s.1, B) W' := by
  obtain ⟨⟨o1, o2, o3⟩, ⟨o4, o5, o6⟩, o7⟩ := h.ord
  have hne : ∀ b, b ≠ mb → some b ≠ some mb := fun b hb e => hb (by injection e)
  have hc := fun b (hb : b ≠ mb) u (hu : W.cell? ⟨b, 0, none⟩ = some u) => (World.cell?_of_block (a := ⟨b, 0, none⟩) (hg.block b (World.block_lt_of_cell? W _ hu) (hne b hb))).trans hu
  exact ⟨h.out.kept hg (.inr (fun e => hne go (by omega) e)), hM, hc _ (by omega) _ h.cl, hc _ (by omega) _ h.cb, h.lat.grown hg (hne Bl (by omega)) (hne gl (by omega)), h.bel.trans (grown_below hg h.bel.size fun k hk => by injection hk with hk; omega), ⟨o1, o2, o3⟩, ⟨o4, o5, o6⟩, Nat.le_trans o7 hg.size⟩
end
/-- The tasks ahead of k that have ended. -/
def endN (l : List Tk) (s : Sc) (d : Int) (k : Nat) : List Nat := (List.range k).filter fun i => s.2.contains i && decide (gI s.1 i + dyA l i ≤ d)
theorem endN_next (l : List Tk) (s : Sc) (d : Int) (k : Nat) : endN l s d (k + 1) = if (s.2.contains k && decide (gI s.1 k + dyA l k ≤ d)) = true then endN l s d k ++ [k] else endN l s d k := by
  unfold endN
  rw [List.range_succ, List.filter_append]
  cases h : s.2.contains k && decide (gI s.1 k + dyA l k ≤ d)
  · simp only [List.filter_cons, List.filter_nil, h, Bool.false_eq_true, if_false, List.append_nil]
  · simp only [List.filter_cons, List.filter_nil, h, if_true]
theorem endN_mem {l : List Tk} {s : Sc} {d : Int} {k i : Nat} : i ∈ endN l s d k ↔ i < k ∧ i ∈ s.2 ∧ gI s.1 i + dyA l i ≤ d := by
  unfold endN; rw [List.mem_filter, List.mem_range]; simp
theorem endN_len (l : List Tk) (s : Sc) (d : Int) (k : Nat) : (endN l s d k).length ≤ k := by
  unfold endN; exact Nat.le_trans (List.length_filter_le ..) (by rw [List.length_range]; exact Nat.le_refl _)
/-- The free tasks, in the plan's order. -/
def freeL (l : List Tk) (s : Sc) (d : Int) : List Nat := (List.range l.length).filter (rdD l s.1 s.2 d)
theorem free_is {l : List Tk} (hP : okP l) (s : Sc) (d : Int) : (rdN l (nmsOf l (endN l s d l.length)) l.length).filter (fun i => !s.2.contains i) = freeL l s d := by
  unfold rdN freeL
  rw [List.filter_filter]
  refine List.filter_congr fun i hi => ?_
  rw [List.mem_range] at hi
  rw [rdyM_rdy hP.names (fun j hj => (endN_mem.1 hj).1) hi]
  rw [Bool.eq_iff_iff, Bool.and_eq_true, rdy_iff, rdD_iff]
  constructor
  · rintro ⟨h1, h2, h3⟩
    refine ⟨by simpa using h1, fun a ha => ?_⟩
    have := endN_mem.1 (h3 a ha)
    exact ⟨this.2.1, this.2.2⟩
  · rintro ⟨h1, h2⟩
    refine ⟨by simpa using h1, fun hh => h1 (endN_mem.1 hh).2.1, fun a ha => ?_⟩
    obtain ⟨h3, h4⟩ := h2 a ha
    exact endN_mem.2 ⟨afs_lt hP hi ha, h3, h4⟩
/-- Men that are left behind the first k tasks. -/
def leftN (l : List Tk) (c : Int) (s : Sc) (d : Int) (k : Nat) : Int := c - sN (rnF l s.1 s.2 d) k
theorem leftN_next (l : List Tk) (c : Int) (s : Sc) (d : Int) (k : Nat) : leftN l c s d (k + 1) = leftN l c s d k - rnF l s.1 s.2 d k := by
  unfold leftN; show c - (sN _ k + rnF l s.1 s.2 d k) = _; omega
theorem leftN_bd {l : List Tk} (hP : okP l) (c : Int) (s : Sc) (d : Int) : ∀ k, k ≤ l.length → leftN l c s d k ≤ c ∧ c - 16 * k ≤ leftN l c s d k
  | 0, _ => by unfold leftN; show c - 0 ≤ c ∧ _ ≤ c - 0; omega
  | k + 1, hk => by
    have := leftN_bd hP c s d k (by omega)
    have h2 := mnA_bd hP (i := k) (by omega)
    rw [leftN_next]
    unfold rnF
    split <;> omega
/-- The free tasks while they are gathered. -/
def FrR (W0 : World) (Bf : Nat) (fr : List Nat) (W : World) : Prop :=
  ∃ v, Boxed W Bf 32 v ∧ W.ownsRow W0.heap.size 3 1 v fr.length (icells (iN fr)) ∧ W0.grownBy W (some Bf)
theorem own_cells {W : World} {base : Nat} {e : TypeId} {size : Nat} {v : Value} {n : Nat} {xs : List Value} (ho : W.ownsRow base e size v n xs) {r : Nat} {o : Obj} (hr : W.heap[r]? = some o) (hc : o.isCells = false) : v.ownBlock ≠ some r := by
  intro hh
  rcases ho.2 with ⟨h1, _⟩ | ⟨g, cap, cur, h1, _, h3, _⟩
  · rw [h1] at hh; simp [Value.ownBlock] at hh
  · rw [h1] at hh
    have : g = r := by simpa [Value.ownBlock] using hh
    subst this
    rw [hr] at h3
    injection h3 with h3
    subst h3
    cases hc
theorem FrR.own {W0 : World} {Bf : Nat} (hB : Bf < W0.heap.size) {f : List Nat → List Nat} : OwnFrom W0.heap.size (fun pre W => FrR W0 Bf (f pre) W) := by
  rintro s X Y row ⟨v, h1, h2, h3⟩ hg hr
  refine ⟨v, h1.kept hg (fun e => by obtain ⟨hb, _⟩ := hr Bf e.symm; omega), ?_, h3.andThen hg fun r e => .inl (hr r e).1⟩
  cases row with
  | none => exact jown_later h2 (grown_below hg (Nat.le_refl _) (fun k hk => by cases hk))
  | some r =>
    obtain ⟨-, o, ho, hc⟩ := hr r rfl
    exact h2.kept hg (.inr (own_cells h2 ho hc))
def frP (l : List Tk) (s : Sc) (pre : List Nat) : List Nat := (pre.map fun z => z % l.length).filter fun i => !s.2.contains i
theorem frP_next (l : List Tk) (s : Sc) (pre : List Nat) (z : Nat) : frP l s (pre ++ [z]) = if s.2.contains (z % l.length) = true then frP l s pre else frP l s pre ++ [z % l.length] := by
  unfold frP
  rw [List.map_append, List.filter_append]
  simp only [List.map_cons, List.map_nil, List.filter_cons, List.filter_nil]
  cases h : s.2.contains (z % l.length)
  · simp only [Bool.not_false, if_true, Bool.false_eq_true, if_false]
  · simp only [Bool.not_true, if_true, Bool.false_eq_true, if_false, List.append_nil]
theorem frP_rd {l : List Tk} (hP : okP l) (s : Sc) (d : Int) : frP l s (rdN l (nmsOf l (endN l s d l.length)) l.length) = freeL l s d := by
  rw [← free_is hP s d]
  unfold frP
  congr 1
  rw [List.map_congr_left (g := id), List.map_id]
  intro z hz
  unfold rdN at hz
  rw [List.mem_filter, List.mem_range] at hz
  exact Nat.mod_eq_of_lt hz.1
theorem freeL_len (l : List Tk) (s : Sc) (d : Int) : (freeL l s d).length ≤ l.length := by
  unfold freeL; exact Nat.le_trans (List.length_filter_le ..) (by rw [List.length_range]; exact Nat.le_refl _)
theorem freeL_lt {l : List Tk} {s : Sc} {d : Int} {i : Nat} (h : i ∈ freeL l s d) : i < l.length := by
  unfold freeL at h; rw [List.mem_filter, List.mem_range] at h; exact h.1
end Go.Proofs.Ytgijekhlbkfanaa
