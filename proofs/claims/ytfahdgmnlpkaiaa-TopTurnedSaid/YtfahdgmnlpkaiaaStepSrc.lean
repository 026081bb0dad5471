/- append(own row that is not nil, whatever slice...) at a step of a region that draws its order; tapes as cells. No program is named. -/
import Derived.Test.YtfahdgmnlpkaiaaStepApp
import Derived.Test.YtfahdgmnlpkaiaaOwnT
set_option linter.unusedSimpArgs false
set_option linter.unusedVariables false
namespace Go.Proofs.Ytfahdgmnlpkaiaa
open Go.RowKit

theorem grown_cell {w w' : World} {row : Option Nat} (h : w.grownBy w' row) {k : Nat} (hk : k < w.heap.size) (hr : row ≠ some k) (o : Nat) : w'.cell? ⟨k, o, none⟩ = w.cell? ⟨k, o, none⟩ ∧ w'.frozen? ⟨k, o, none⟩ = w.frozen? ⟨k, o, none⟩ := by
  have := h.block k hk (fun e => hr e.symm)
  constructor <;> simp [World.cell?, World.frozen?, this]
theorem wp_append_at {P : Program} {w : World} {o : Oper} {a : Act} {K : Act → World → Prop} {Q : Exit → Act → World → Prop} (s x : Operand) (t : TypeId)
    (ho : o.op = .call { callee := .builtin .append, args := #[s, x], argTypes := #[t, t] })
    (base : Nat) (e : TypeId) (i : TypeInfo) (z : Value) (size bytes : Nat) (ht : P.underlying t = some (.slice e)) (hi : P.info? e = some i) (hz : i.zero = some z)
    (hsize : i.size = size) (hby : i.bytes = bytes) (hzs : z.cells.size = size) (hsz : 0 < size)
    (v : Value) (n : Nat) (xs : List Value) (hs : a.eval s = v) (hown : w.ownsRow base e size v n xs) (hv : v ≠ .slice none 0 0)
    (ad : Addr) (m c : Nat) (news : List Value) (hx : a.eval x = .slice (some ad) m c) (hl : news.length = m * size) (hnews : ∀ j u, news[j]? = some u → w.cell? (ad.add j) = some u) (h1 : ∀ u ∈ news, u.oneCell' = true)
    (h63 : n + m ≤ maxLen) (hbytes : (n + m) * bytes ≤ 140737488355328) (hbase : base ≤ w.heap.size)
    (h : ∀ g cap w', w'.ownsRow base e size (.slice (some ⟨g, 0, none⟩) (n + m) cap) (n + m) (xs ++ news) → w.grownBy w' v.ownBlock → (some g = v.ownBlock ∨ g = w.heap.size) → K (a.put o.dst (.slice (some ⟨g, 0, none⟩) (n + m) cap)) w') : o.wp P a w K Q := by
  obtain ⟨v', w', hr, h2, h3, h4, h5⟩ := run_append_own_at (P := P) w base t o.type e i z size bytes ht hi hz hsize hby hzs hsz v n xs hown ad m c news hl hnews h1 h63 hbytes hbase
  have hv' : v' ≠ .slice none 0 0 := fun hh => hv (h4.1 hh).1
  obtain ⟨g, cap, rfl⟩ : ∃ g cap, v' = .slice (some ⟨g, 0, none⟩) (n + m) cap := by
    rcases h2.2 with ⟨h0, _⟩ | ⟨g, cap, cur, hv, _⟩
    · exact absurd h0 hv'
    · exact ⟨g, cap, hv⟩
  unfold Oper.wp execOp
  simp only [ho, resolve, invoke, builtin, Sem.run_bind, Sem.run_pure, Result.andThen_ok, List.map_toArray, List.map_cons, List.map_nil, hs, hx, hr]
  exact h g cap w' h2 h3 (h5.imp (fun e => e) (fun e => by simpa [Value.ownBlock] using e))
theorem wp_append_src {P : Program} {w : World} {o : Oper} {a : Act} {K : Act → World → Prop} {Q : Exit → Act → World → Prop} (s x : Operand) (t : TypeId)
    (ho : o.op = .call { callee := .builtin .append, args := #[s, x], argTypes := #[t, t] })
    (base : Nat) (e : TypeId) (i : TypeInfo) (z : Value) (size bytes : Nat) (ht : P.underlying t = some (.slice e)) (hi : P.info? e = some i) (hz : i.zero = some z)
    (hsize : i.size = size) (hby : i.bytes = bytes) (hzs : z.cells.size = size) (hsz : 0 < size)
    (v : Value) (n : Nat) (xs : List Value) (hs : a.eval s = v) (hown : w.ownsRow base e size v n xs) (hv : v ≠ .slice none 0 0)
    (A : Option Addr) (m c : Nat) (news : List Value) (hx : a.eval x = .slice A m c) (hl : news.length = m * size) (hA : A = none → m = 0) (hnews : Cells w A news) (h1 : ∀ u ∈ news, u.oneCell' = true)
    (h63 : n + m ≤ maxLen) (hbytes : (n + m) * bytes ≤ 140737488355328) (hbase : base ≤ w.heap.size)
    (h : ∀ g cap w', w'.ownsRow base e size (.slice (some ⟨g, 0, none⟩) (n + m) cap) (n + m) (xs ++ news) → w.grownBy w' v.ownBlock → (some g = v.ownBlock ∨ g = w.heap.size) → K (a.put o.dst (.slice (some ⟨g, 0, none⟩) (n + m) cap)) w') : o.wp P a w K Q := by
  cases A with
  | some ad =>
    refine wp_append_at s x t ho base e i z size bytes ht hi hz hsize hby hzs hsz v n xs hs hown hv ad m c news hx hl ?_ h1 h63 hbytes hbase h
    intro j u hj
    rcases hnews with rfl | ⟨b, off, hb, hc⟩
    · simp at hj
    · cases hb
      rw [Addr.add_lit]
      exact hc j u hj
  | none =>
    have hm0 : m = 0 := hA rfl
    subst hm0
    have hn0 : news = [] := List.eq_nil_of_length_eq_zero (by rw [hl]; omega)
    subst hn0
    rcases hown.2 with ⟨hv', _⟩ | ⟨g, cap, cur, hv', hb, hg, hnc, hmx, hcs, htk⟩
    · exact absurd hv' hv
    · have hrun : (Builtin.append_ #[t, t] o.type #[v, .slice none 0 c]).run P w = .ok v w := by
        have := run_append_room_src (P := P) w t t o.type e i ht hi g 0 n cap (.slice none 0 c) 0 [] (Src.ofNil w ht c) (by omega) (by simp) (by simp)
        rw [hv']
        simpa [World.setCells] using this
      unfold Oper.wp execOp
      simp only [ho, resolve, invoke, builtin, Sem.run_bind, Sem.run_pure, Result.andThen_ok, List.map_toArray, List.map_cons, List.map_nil, hs, hx, hrun]
      have := h g cap w (by rw [hv'] at hown; simpa using hown) ⟨rfl, rfl, rfl, Nat.le_refl _, fun _ _ _ => rfl⟩ (.inl (by rw [hv']; rfl))
      rw [hv']
      have h9 : K (a.put o.dst (.slice (some ⟨g, 0, none⟩) n cap)) w := by simpa using this
      exact h9
theorem step_append_src {P : Program} {w : World} {ops : Array Oper} {o : Oper} {a : Act} {K : Act → World → Prop} {Q : Exit → Act → World → Prop} {E : Prop} (hgd : o.guard = none) (s x : Operand) (t : TypeId)
    (ho : o.op = .call { callee := .builtin .append, args := #[s, x], argTypes := #[t, t] })
    (base : Nat) (e : TypeId) (i : TypeInfo) (z : Value) (size bytes : Nat) (ht : P.underlying t = some (.slice e)) (hi : P.info? e = some i) (hz : i.zero = some z)
    (hsize : i.size = size) (hby : i.bytes = bytes) (hzs : z.cells.size = size) (hsz : 0 < size)
    (v : Value) (n : Nat) (xs : List Value) (hs : a.eval s = v) (hown : w.ownsRow base e size v n xs) (hv : v ≠ .slice none 0 0)
    (A : Option Addr) (m c : Nat) (news : List Value) (hx : a.eval x = .slice A m c) (hl : news.length = m * size) (hA : A = none → m = 0) (hnews : Cells w A news) (h1 : ∀ u ∈ news, u.oneCell' = true)
    (h63 : n + m ≤ maxLen) (hbytes : (n + m) * bytes ≤ 140737488355328) (hbase : base ≤ w.heap.size)
    (h : ∀ g cap w', w'.ownsRow base e size (.slice (some ⟨g, 0, none⟩) (n + m) cap) (n + m) (xs ++ news) → w.grownBy w' v.ownBlock → (some g = v.ownBlock ∨ g = w.heap.size) → K (a.put o.dst (.slice (some ⟨g, 0, none⟩) (n + m) cap)) w') :
    if Region.wanted o (yielded ops a.tmps) = true then Oper.wp P o a w K Q else E := by
  have hw : Region.wanted o (yielded ops a.tmps) = true := by simp [Region.wanted, hgd]
  rw [if_pos hw]
  exact wp_append_src s x t ho base e i z size bytes ht hi hz hsize hby hzs hsz v n xs hs hown hv A m c news hx hl hA hnews h1 h63 hbytes hbase h
theorem Rows.nil' {w : World} {B : Nat} {A : Option Addr} {len : Nat} {l : List Tp} (h : Rows 3 int3 (0,0,0) w B A len l) : A = none → len = 0 := by
  intro hA
  rcases Nat.eq_zero_or_pos len with h0 | h0
  · exact h0
  · obtain ⟨b, off, h1, -⟩ := h.2 h0
    rw [hA] at h1; cases h1
theorem Rows.cellsT {w : World} {B : Nat} {A : Option Addr} {len : Nat} {l : List Tp} (h : Rows 3 int3 (0,0,0) w B A len l) : Cells w A (tcells l) := by
  by_cases h0 : len = 0
  · left
    have : l = [] := List.eq_nil_of_length_eq_zero (by rw [h.1]; exact h0)
    rw [this]; rfl
  · right
    obtain ⟨b, off, h1, h2, h3⟩ := h.2 (by omega)
    refine ⟨b, off, h1, fun j u hj => ?_⟩
    have hlt : j < l.length * 3 := by
      rw [← tcells_len]
      exact (List.getElem?_eq_some_iff.1 hj).1
    have hk : j / 3 < l.length := by omega
    have hg := tcells_get l (j / 3) hk
    have hw := h3 (j / 3) (by rw [← h.1]; exact hk)
    rcases (by omega : j % 3 = 0 ∨ j % 3 = 1 ∨ j % 3 = 2) with hm | hm | hm
    · have e : j / 3 * 3 = j := by omega
      rw [e] at hg hw
      rw [hg.1] at hj
      injection hj with hj
      have := hw 0 u (by rw [← hj]; rfl)
      simpa using this
    · have e : j / 3 * 3 + 1 = j := by omega
      rw [e] at hg
      rw [hg.2.1] at hj
      injection hj with hj
      have := hw 1 u (by rw [← hj]; rfl)
      rw [Nat.add_assoc, e] at this
      exact this
    · have e : j / 3 * 3 + 2 = j := by omega
      rw [e] at hg
      rw [hg.2.2] at hj
      injection hj with hj
      have := hw 2 u (by rw [← hj]; rfl)
      rw [Nat.add_assoc, e] at this
      exact this
end Go.Proofs.Ytfahdgmnlpkaiaa
