/- Append onto a row of the call's own: what is appended is a slice that may be nil. No program is named here. -/
import Derived.Test.YtmionebfepkolaaGreatDoorBase
import Derived.Laws.AppendOwn
import Derived.Deep.AppendSrc
set_option linter.unusedSimpArgs false
set_option linter.unusedVariables false
namespace Go.Proofs.YtmionebfepkolaaGreatDoor
open Go.RowKit

def pcells (xs : List (Int × Int)) : List Value := xs.flatMap (fun x => [.int .i64 x.1, .int .i64 x.2])
def icells (xs : List Int) : List Value := xs.map (fun x => .int .i64 x)
theorem pcells_len (xs : List (Int × Int)) : (pcells xs).length = xs.length * 2 := by
  induction xs with
  | nil => rfl
  | cons x xs ih => simp only [pcells, List.flatMap_cons, List.length_append, List.length_cons, List.length_nil] at *; omega
theorem icells_len (xs : List Int) : (icells xs).length = xs.length * 1 := by simp [icells]
theorem pcells_app (xs ys : List (Int × Int)) : pcells (xs ++ ys) = pcells xs ++ pcells ys := by simp [pcells]
theorem icells_app (xs ys : List Int) : icells (xs ++ ys) = icells xs ++ icells ys := by simp [icells]
theorem pcells_one (xs : List (Int × Int)) : ∀ u ∈ pcells xs, u.oneCell' = true := by
  intro u hu
  simp only [pcells, List.mem_flatMap, List.mem_cons, List.not_mem_nil, or_false] at hu
  obtain ⟨x, _, rfl | rfl⟩ := hu <;> rfl
theorem icells_one (xs : List Int) : ∀ u ∈ icells xs, u.oneCell' = true := by
  intro u hu
  simp only [icells, List.mem_map] at hu
  obtain ⟨x, _, rfl⟩ := hu
  rfl
theorem pcells_get : ∀ (xs : List (Int × Int)) (k : Nat), k < xs.length → (pcells xs)[k * 2]? = some (.int .i64 (xs[k]?.getD (0,0)).1) ∧ (pcells xs)[k * 2 + 1]? = some (.int .i64 (xs[k]?.getD (0,0)).2) := by
  intro xs
  induction xs with
  | nil => intro k h; exact absurd h (by simp)
  | cons x xs ih =>
    intro k h
    cases k with
    | zero => simp [pcells]
    | succ k =>
      have := ih k (by simpa using h)
      have e1 : (k + 1) * 2 = (k * 2 + 1) + 1 := by omega
      have e2 : (k + 1) * 2 + 1 = (k * 2 + 1 + 1) + 1 := by omega
      rw [e1]
      simpa [pcells] using this
theorem icells_get (xs : List Int) (k : Nat) (h : k < xs.length) : (icells xs)[k]? = some (.int .i64 (xs[k]?.getD 0)) := by simp [icells, List.getElem?_eq_getElem h]

/-- The cells 'news' lie at A, or there are none. -/
def Cells (w : World) (A : Option Addr) (news : List Value) : Prop := news = [] ∨ ∃ b off, A = some ⟨b, off, none⟩ ∧ ∀ j u, news[j]? = some u → w.cell? ⟨b, off + j, none⟩ = some u
theorem Pairs.cells {w : World} {B : Nat} {A : Option Addr} {len : Nat} {xs : List (Int × Int)} (h : Pairs w B A len xs) : Cells w A (pcells xs) := by
  by_cases h0 : len = 0
  · left
    have : xs = [] := List.eq_nil_of_length_eq_zero (by rw [h.1]; exact h0)
    rw [this]; rfl
  · right
    obtain ⟨b, off, h1, h2, h3⟩ := h.2 (by omega)
    refine ⟨b, off, h1, fun j u hj => ?_⟩
    have hlt : j < xs.length * 2 := by
      rw [← pcells_len]
      exact (List.getElem?_eq_some_iff.1 hj).1
    have hk : j / 2 < xs.length := by omega
    have hg := pcells_get xs (j / 2) hk
    have hw := h3 (j / 2) (by rw [← h.1]; exact hk)
    rcases Nat.mod_two_eq_zero_or_one j with hm | hm
    · have e : j / 2 * 2 = j := by omega
      rw [e] at hg hw
      rw [hw.1, ← hg.1, hj]
    · have e : j / 2 * 2 + 1 = j := by omega
      rw [e] at hg
      rw [Nat.add_assoc, e] at hw
      rw [hw.2, ← hg.2, hj]
theorem Ints.cells {w : World} {B : Nat} {A : Option Addr} {len : Nat} {xs : List Int} (h : Ints w B A len xs) : Cells w A (icells xs) := by
  by_cases h0 : len = 0
  · left
    have : xs = [] := List.eq_nil_of_length_eq_zero (by rw [h.1]; exact h0)
    rw [this]; rfl
  · right
    obtain ⟨b, off, h1, h2, h3⟩ := h.2 (by omega)
    refine ⟨b, off, h1, fun j u hj => ?_⟩
    have hlt : j < xs.length := by
      have := (List.getElem?_eq_some_iff.1 hj).1
      rw [icells_len] at this
      omega
    rw [h3 j (by rw [← h.1]; exact hlt), ← icells_get xs j hlt, hj]

theorem grown_below {B : Nat} {w w' : World} {row : Option Nat} (h : w.grownBy w' row) (hB : B ≤ w.heap.size) (hr : ∀ k, row = some k → B ≤ k) : Below B w w' :=
  ⟨h.os, h.tape, h.output, h.size, fun k hk => h.block k (by omega) (fun e => by have := hr k e.symm; omega)⟩

/-- A row of pairs that the call made, as a slice. -/
theorem own_pairs {w : World} {base : Nat} {e : TypeId} {v : Value} {n : Nat} {xs : List (Int × Int)} (h : w.ownsRow base e 2 v n (pcells xs)) :
    ∃ A cap, v = .slice A n cap ∧ n ≤ cap ∧ cap ≤ maxLen ∧ Pairs w w.heap.size A n xs ∧ (0 < n → ∃ g, A = some ⟨g, 0, none⟩ ∧ base ≤ g ∧ g < w.heap.size ∧ ∀ o, o < n * 2 → w.frozen? ⟨g, o, none⟩ = false) := by
  obtain ⟨h1, h2⟩ := h
  rw [pcells_len] at h1
  have hl : xs.length = n := by omega
  rcases h2 with ⟨rfl, rfl⟩ | ⟨g, cap, cur, rfl, hb, hg, hnc, hm, hcs, ht⟩
  · exact ⟨none, 0, rfl, Nat.le_refl _, Nat.zero_le _, ⟨hl, fun h => absurd h (by omega)⟩, fun h => absurd h (by omega)⟩
  · have hlt : g < w.heap.size := (Array.getElem?_eq_some_iff.1 hg).1
    have hcell : ∀ j, j < n * 2 → w.cell? ⟨g, 0 + j, none⟩ = (pcells xs)[j]? := by
      intro j hj
      rw [← ht, Nat.zero_add]
      simp [World.cell?, hg, List.getElem?_take, hj]
    refine ⟨some ⟨g, 0, none⟩, cap, rfl, hnc, hm, ⟨hl, fun h0 => ⟨g, 0, rfl, hlt, fun k hk => ?_⟩⟩, fun h0 => ⟨g, rfl, hb, hlt, fun o ho => ?_⟩⟩
    · have := pcells_get xs k (by omega)
      rw [hcell _ (by omega), Nat.add_assoc, hcell _ (by omega)]
      exact this
    · simp [World.frozen?, hg]
theorem own_ints {w : World} {base : Nat} {e : TypeId} {v : Value} {n : Nat} {xs : List Int} (h : w.ownsRow base e 1 v n (icells xs)) :
    ∃ A cap, v = .slice A n cap ∧ n ≤ cap ∧ cap ≤ maxLen ∧ Ints w w.heap.size A n xs ∧ (0 < n → ∃ g, A = some ⟨g, 0, none⟩ ∧ base ≤ g ∧ g < w.heap.size ∧ ∀ o, o < n → w.frozen? ⟨g, o, none⟩ = false) := by
  obtain ⟨h1, h2⟩ := h
  rw [icells_len] at h1
  have hl : xs.length = n := by omega
  rcases h2 with ⟨rfl, rfl⟩ | ⟨g, cap, cur, rfl, hb, hg, hnc, hm, hcs, ht⟩
  · exact ⟨none, 0, rfl, Nat.le_refl _, Nat.zero_le _, ⟨hl, fun h => absurd h (by omega)⟩, fun h => absurd h (by omega)⟩
  · have hlt : g < w.heap.size := (Array.getElem?_eq_some_iff.1 hg).1
    have hcell : ∀ j, j < n → w.cell? ⟨g, 0 + j, none⟩ = (icells xs)[j]? := by
      intro j hj
      rw [← ht, Nat.zero_add]
      simp [World.cell?, hg, List.getElem?_take, hj]
    refine ⟨some ⟨g, 0, none⟩, cap, rfl, hnc, hm, ⟨hl, fun h0 => ⟨g, 0, rfl, hlt, fun k hk => ?_⟩⟩, fun h0 => ⟨g, rfl, hb, hlt, fun o ho => ?_⟩⟩
    · rw [hcell _ hk]
      exact icells_get xs k (by omega)
    · simp [World.frozen?, hg]

theorem pairs_set_fst {w : World} {B g len : Nat} {xs : List (Int × Int)} (h : Pairs w B (some ⟨g, 0, none⟩) len xs) (I : Nat) (hI : I < len) (to : Int) :
    Pairs (w.setCell ⟨g, I * 2, none⟩ (.int .i64 to)) B (some ⟨g, 0, none⟩) len (xs.set I (to, (xs[I]?.getD (0,0)).2)) := by
  refine ⟨by rw [List.length_set]; exact h.1, fun h0 => ?_⟩
  obtain ⟨b, off, h1, h2, h3⟩ := h.2 h0
  cases h1
  refine ⟨g, 0, rfl, h2, fun k hk => ?_⟩
  obtain ⟨h4, h5⟩ := h3 k hk
  rw [Nat.zero_add] at *
  by_cases hkI : I = k
  · subst hkI
    rw [World.cell?_setCell_same _ _ _ h4, World.cell?_setCell_other _ _ _ _ (by simp)]
    rw [List.getElem?_set_self (by rw [h.1]; exact hI)]
    exact ⟨rfl, h5⟩
  · rw [World.cell?_setCell_other _ _ _ _ (by simp [hkI]), World.cell?_setCell_other _ _ _ _ (by first | (simp; done) | (simp; omega)), List.getElem?_set_ne hkI]
    exact ⟨h4, h5⟩

/-- append(own row that is not nil, whatever slice...). -/
theorem wpList_append_src {P : Program} {w : World} {ops : Array Oper} {rest : List Oper} {o : Oper} {a : Act} {Q : Exit → Act → World → Prop} (hgd : o.guard = none) (s x : Operand) (t : TypeId)
    (ho : o.op = .call { callee := .builtin .append, args := #[s, x], argTypes := #[t, t] })
    (base : Nat) (e : TypeId) (i : TypeInfo) (z : Value) (size bytes : Nat) (ht : P.underlying t = some (.slice e)) (hi : P.info? e = some i) (hz : i.zero = some z)
    (hsize : i.size = size) (hby : i.bytes = bytes) (hzs : z.cells.size = size) (hsz : 0 < size)
    (v : Value) (n : Nat) (xs : List Value) (hs : a.eval s = v) (hown : w.ownsRow base e size v n xs) (hv : v ≠ .slice none 0 0)
    (A : Option Addr) (m c : Nat) (news : List Value) (hx : a.eval x = .slice A m c) (hl : news.length = m * size) (hA : A = none → m = 0) (hnews : Cells w A news) (h1 : ∀ u ∈ news, u.oneCell' = true)
    (h63 : n + m ≤ maxLen) (hbytes : (n + m) * bytes ≤ 140737488355328) (hbase : base ≤ w.heap.size)
    (h : ∀ v' w', w'.ownsRow base e size v' (n + m) (xs ++ news) → w.grownBy w' v.ownBlock → v' ≠ .slice none 0 0 → wpList P ops Q rest (a.put o.dst v') w') : wpList P ops Q (o :: rest) a w := by
  cases A with
  | some ad =>
    refine wpList_append_own w hgd s x t ho base e i z size bytes ht hi hz hsize hby hzs hsz v n xs hs hown ad m c news hx hl ?_ h1 h63 hbytes hbase fun v' w' h2 h3 h4 => h v' w' h2 h3 (fun hh => hv (h4.1 hh).1)
    intro j u hj
    rcases hnews with rfl | ⟨b, off, hb, hc⟩
    · simp at hj
    · cases hb
      rw [Addr.add_lit]
      exact hc j u hj
  | none =>
    have hm0 : m = 0 := hA rfl
    subst hm0
    have hn0 : news = [] := List.eq_nil_of_length_eq_zero (by rw [hl]; omega)
    subst hn0
    rcases hown.2 with ⟨hv', _⟩ | ⟨g, cap, cur, hv', hb, hg, hnc, hmx, hcs, htk⟩
    · exact absurd hv' hv
    · refine wpList_plain hgd fun K hK => ?_
      have hrun : (Builtin.append_ #[t, t] o.type #[v, .slice none 0 c]).run P w = .ok v w := by
        have := run_append_room_src (P := P) w t t o.type e i ht hi g 0 n cap (.slice none 0 c) 0 [] (Src.ofNil w ht c) (by omega) (by simp) (by simp)
        rw [hv']
        simpa [World.setCells] using this
      unfold Oper.wp
      simp [execOp, ho, resolve, invoke, builtin, hs, hx, hrun, Result.andThen]
      exact hK _ _ (h v w (by simpa using hown) ⟨rfl, rfl, rfl, Nat.le_refl _, fun _ _ _ => rfl⟩ hv)

end Go.Proofs.YtmionebfepkolaaGreatDoor
