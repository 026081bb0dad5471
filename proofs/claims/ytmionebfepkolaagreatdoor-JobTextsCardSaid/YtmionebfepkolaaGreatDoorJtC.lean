/- JobTexts: rows that the Parses read and make. -/
import Derived.Test.YtmionebfepkolaaGreatDoorJtN
import Derived.Test.YtmionebfepkolaaGreatDoorCut6
import Derived.Test.YtmionebfepkolaaGreatDoorJobU4
import Derived.Test.YtmionebfepkolaaGreatDoorJobR4
import Derived.Test.YtmionebfepkolaaGreatDoorYJg
import Derived.Test.YtmionebfepkolaaGreatDoorYJc
set_option linter.unusedSimpArgs false
set_option linter.unusedVariables false
namespace Go.Proofs.YtmionebfepkolaaGreatDoor
open Go.RowKit

theorem Txts.strs {w : World} {B : Nat} {A : Option Addr} {n : Nat} {ws : List (List UInt8)} (h : Txts w B A n ws) : Strs w B A n (ws.map bsj) := by
  refine ⟨by rw [List.length_map]; exact h.1, fun h0 => ?_⟩
  obtain ⟨b, off, h1, h2, h3⟩ := h.2 h0
  refine ⟨b, off, h1, h2, fun k hk j u hu => ?_⟩
  have hj : j = 0 := by
    have := (List.getElem?_eq_some_iff.1 hu).1
    simpa [str1] using this
  subst hj
  rw [Nat.add_zero, Nat.mul_one, h3 k hk]
  have hkl : k < ws.length := by rw [h.1]; exact hk
  rw [List.getElem?_map, List.getElem?_eq_getElem hkl] at hu
  rw [List.getElem?_eq_getElem hkl]
  have : u = .string (bsj ws[k]) := by simpa [str1] using hu.symm
  rw [this]; rfl
theorem isIn_bsj (ws : List (List UInt8)) : isIn (ws.map bsj) ⟨#[]⟩ = ws.contains [] := by
  cases hc : ws.contains ([] : List UInt8)
  · cases hi : isIn (ws.map bsj) ⟨#[]⟩
    · rfl
    · obtain ⟨x, hx, e⟩ := List.mem_map.1 (isIn_iff.1 hi)
      have : x = [] := bsj_inj (y := []) e
      subst this
      have h2 : ws.contains ([] : List UInt8) = true := by simpa using hx
      rw [hc] at h2; exact absurd h2 (by simp)
  · exact isIn_iff.2 (List.mem_map.2 ⟨[], by simpa using hc, rfl⟩)
theorem bcel_scel (xs : List (List UInt8)) : bcel xs = scel (xs.map bsj) := by
  unfold bcel scel
  rw [List.map_map]
  rfl
theorem opv_slice {W : World} {base n : Nat} {v : Value} {xs : List TkR} (h : OPv W base v n xs) : ∃ A cap, v = .slice A n cap ∧ n ≤ cap ∧ cap ≤ maxLen := by
  rcases h.own.2 with ⟨h1, h2⟩ | ⟨g, cap, cur, h1, -, -, h2, h3, -⟩
  · exact ⟨none, 0, by rw [h1, h2], by omega, Nat.zero_le _⟩
  · exact ⟨_, _, h1, h2, h3⟩
theorem opv_len {W : World} {base n : Nat} {v : Value} {xs : List TkR} (h : OPv W base v n xs) : xs.length = n := by
  have := h.own.1
  rw [tcel_len] at this; omega
theorem opv_plan {W : World} {base n : Nat} {A : Option Addr} {cap : Nat} {xs : List TkR} (h : OPv W base (.slice A n cap) n xs) : Plan W W.heap.size A n (xs.map (·.2)) := by
  by_cases hn : 0 < n
  · obtain ⟨g, cap', e, -, hO⟩ := h.to hn
    injection e with e1 e2 e3
    rw [e1]
    exact hO.plan
  · have h0 := opv_len h
    exact ⟨by rw [List.length_map]; exact h0, fun h => absurd h hn⟩
theorem opv_mono {W : World} {base base' n : Nat} {v : Value} {xs : List TkR} (h : OPv W base v n xs) (hb : base' ≤ base) : OPv W base' v n xs := ⟨xown_mono h.own hb, h.ok, h.nb⟩
theorem row0_new (W : World) (t : TypeId) : (W.alloc (.cells #[] t)).ownsRow W.heap.size t 1 (.slice (some ⟨W.heap.size, 0, none⟩) 0 0) 0 [] :=
  ⟨rfl, .inr ⟨W.heap.size, 0, #[], rfl, Nat.le_refl _, heap_alloc_new W _, Nat.le_refl _, by unfold maxLen; decide, rfl, rfl⟩⟩
theorem Txts.drop3 {w : World} {B g c n : Nat} {ws : List (List UInt8)} (h : Txts w B (some ⟨g, 0, none⟩) n ws) (hc : n ≤ c + 3) : Cells w (if c = 0 then some ⟨g, 0, none⟩ else some ⟨g, 3, none⟩) (bcel (ws.drop 3)) := by
  by_cases h0 : c = 0
  · left
    have : ws.drop 3 = [] := List.drop_eq_nil_iff.2 (by rw [h.1]; omega)
    rw [this]; rfl
  · rw [if_neg h0]
    by_cases hn : n ≤ 3
    · left
      have : ws.drop 3 = [] := List.drop_eq_nil_iff.2 (by rw [h.1]; omega)
      rw [this]; rfl
    · right
      obtain ⟨b, off, h1, h2, h3⟩ := h.2 (by omega)
      injection h1 with h1
      injection h1 with h1 h4
      subst h1 h4
      refine ⟨_, 3, rfl, fun j u hj => ?_⟩
      unfold bcel at hj
      rw [List.getElem?_map, List.getElem?_drop, Option.map_eq_some_iff] at hj
      obtain ⟨x, hx, rfl⟩ := hj
      have hl := (List.getElem?_eq_some_iff.1 hx).1
      have := h3 (3 + j) (by rw [← h.1]; exact hl)
      rw [hx, Nat.zero_add] at this
      exact this
theorem wp_append_own_at {P : Program} {w : World} {o : Oper} {a : Act} {K : Act → World → Prop} {Q : Exit → Act → World → Prop} (s x : Operand) (t : TypeId)
    (ho : o.op = .call { callee := .builtin .append, args := #[s, x], argTypes := #[t, t] })
    (base : Nat) (e : TypeId) (i : TypeInfo) (z : Value) (size bytes : Nat) (ht : P.underlying t = some (.slice e)) (hi : P.info? e = some i) (hz : i.zero = some z)
    (hsize : i.size = size) (hby : i.bytes = bytes) (hzs : z.cells.size = size) (hsz : 0 < size)
    (v : Value) (n : Nat) (xs : List Value) (hs : a.eval s = v) (hown : w.ownsRow base e size v n xs)
    (ad : Addr) (m c : Nat) (news : List Value) (hx : a.eval x = .slice (some ad) m c) (hl : news.length = m * size) (hnews : ∀ j u, news[j]? = some u → w.cell? (ad.add j) = some u) (h1 : ∀ u ∈ news, u.oneCell' = true)
    (h63 : n + m ≤ maxLen) (hbytes : (n + m) * bytes ≤ 140737488355328) (hbase : base ≤ w.heap.size)
    (h : ∀ v' w', w'.ownsRow base e size v' (n + m) (xs ++ news) → w.grownBy w' v.ownBlock → (v'.ownBlock = v.ownBlock ∨ v'.ownBlock = some w.heap.size) → K (a.put o.dst v') w') : o.wp P a w K Q := by
  obtain ⟨v', w', hr, h2, h3, h4, h5⟩ := run_append_own_at (P := P) w base t o.type e i z size bytes ht hi hz hsize hby hzs hsz v n xs hown ad m c news hl hnews h1 h63 hbytes hbase
  unfold Oper.wp execOp
  simp only [ho, resolve, invoke, builtin, Sem.run_bind, Sem.run_pure, Result.andThen_ok, List.map_toArray, List.map_cons, List.map_nil, hs, hx, hr]
  exact h v' w' h2 h3 h5
theorem lineOk_short {y : List UInt8} (h : (words 32 y).length < 3) : lineOk y = false := by
  unfold lineOk; rw [decide_eq_false (by omega)]; rfl
theorem lineOk_hole {y : List UInt8} (h : (words 32 y).contains [] = true) : lineOk y = false := by
  unfold lineOk; rw [h]; simp
theorem lineOk_num {y : List UInt8} (h : nmOk (wd y 1) = false ∨ nmOk (wd y 2) = false) : lineOk y = false := by
  unfold lineOk
  rcases h with h | h <;> rw [h] <;> simp
theorem lineOk_yes' {y : List UInt8} (h1 : 3 ≤ (words 32 y).length) (h2 : (words 32 y).contains [] = false) (h3 : nmOk (wd y 1) = true) (h4 : nmOk (wd y 2) = true) : lineOk y = true := by
  unfold lineOk; rw [decide_eq_true h1, h2, h3, h4]; rfl
theorem words10_len {b y : List UInt8} (h : y ∈ words 10 b) : y.length ≤ b.length := by
  have key : ∀ (m : UInt8) (b cur y : List UInt8), y ∈ wordsA m cur b → y.length ≤ cur.length + b.length := by
    intro m b
    induction b with
    | nil => intro cur y hy; simp [wordsA] at hy; rw [hy]; simp
    | cons c r ih =>
      intro cur y hy
      unfold wordsA at hy
      split at hy
      · rcases List.mem_cons.1 hy with rfl | hy
        · simp
        · have := ih [] y hy; simp at *; omega
      · have := ih _ y hy; simp at *; omega
  have := key 10 b [] y h
  simpa using this
end Go.Proofs.YtmionebfepkolaaGreatDoor
