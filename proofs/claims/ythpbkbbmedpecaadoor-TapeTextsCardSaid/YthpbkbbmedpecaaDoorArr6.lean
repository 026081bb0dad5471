/- Arrays of six ints in a block of the call's own. No program is named. -/
import Derived.Test.YthpbkbbmedpecaaDoorBase
import Derived.Test.YthpbkbbmedpecaaDoorNetT
set_option linter.unusedSimpArgs false
set_option linter.unusedVariables false
namespace Go.Proofs.YthpbkbbmedpecaaDoor
open Go.RowKit

/-- The number at place k of a list. -/
def num (ds : List Int) (k : Nat) : Int := ds[k]?.getD 0
def Arr (w : World) (b : Nat) (r : List Int) : Prop := b < w.heap.size ∧ r.length = 6 ∧ ∀ x, x < 6 → w.cell? ⟨b, x, none⟩ = some (.int .i64 (num r x)) ∧ w.frozen? ⟨b, x, none⟩ = false
section
variable {w w' : World} {b : Nat} {r : List Int}
theorem Arr.at_ (h : Arr w b r) (x : Nat) (hx : x < 6) : w.cell? ⟨b, x, none⟩ = some (.int .i64 (num r x)) ∧ w.frozen? ⟨b, x, none⟩ = false := h.2.2 x hx
theorem Arr.below {B : Nat} (h : Arr w b r) (hb : Below B w w') (hB : b < B) : Arr w' b r :=
  ⟨Nat.lt_of_lt_of_le h.1 hb.size, h.2.1, fun x hx => by rw [hb.cell (p := ⟨b, x, none⟩) hB, hb.frozen (p := ⟨b, x, none⟩) hB]; exact h.2.2 x hx⟩
theorem Arr.alloc (h : Arr w b r) (o : Obj) : Arr (w.alloc o) b r := by
  refine ⟨by have := h.1; simp; omega, h.2.1, fun x hx => ?_⟩
  have hne : (⟨b, x, none⟩ : Addr).block ≠ w.heap.size := by have := h.1; show b ≠ _; omega
  rw [World.cell?_alloc_old _ _ _ hne, World.frozen?_alloc_old _ _ _ hne]
  exact h.2.2 x hx
theorem Arr.drew (h : Arr w b r) : Arr w.drew b r := ⟨h.1, h.2.1, fun x hx => h.2.2 x hx⟩
theorem Arr.drewN (h : Arr w b r) (n : Nat) : Arr (w.drewN n) b r := ⟨h.1, h.2.1, fun x hx => by rw [World.cell?_drewN, World.frozen?_drewN]; exact h.2.2 x hx⟩
theorem Arr.other (h : Arr w b r) {p : Addr} (hp : p.block ≠ b) (v : Value) : Arr (w.setCell p v) b r := by
  refine ⟨by simpa using h.1, h.2.1, fun x hx => ?_⟩
  rw [World.cell?_setCell_other _ _ _ _ (fun he => hp (by rw [he])), World.frozen?_setCell]
  exact h.2.2 x hx
theorem Arr.set (h : Arr w b r) {k : Nat} (hk : k < 6) (v : Int) : Arr (w.setCell ⟨b, k, none⟩ (.int .i64 v)) b (r.set k v) := by
  refine ⟨by simpa using h.1, by rw [List.length_set]; exact h.2.1, fun x hx => ?_⟩
  rw [World.frozen?_setCell]
  refine ⟨?_, (h.2.2 x hx).2⟩
  by_cases hxk : k = x
  · subst hxk
    rw [World.cell?_setCell_same _ _ _ (h.2.2 k hk).1]
    unfold num
    rw [List.getElem?_set_self (by rw [h.2.1]; exact hk)]; rfl
  · rw [World.cell?_setCell_other _ _ _ _ (fun he => hxk (congrArg Addr.off he))]
    unfold num
    rw [List.getElem?_set_ne hxk]
    exact (h.2.2 x hx).1
theorem Arr.new (w : World) (r : List Int) (hr : r.length = 6) (t : TypeId) : Arr (w.alloc (.cells (r.map (Value.int .i64)).toArray t)) w.heap.size r := by
  refine ⟨by simp, hr, fun x hx => ⟨?_, World.frozen?_alloc_at _ _ _ _ rfl⟩⟩
  rw [World.cell?_alloc_at _ _ _ _ rfl]
  unfold num
  rw [List.getElem?_toArray, List.getElem?_map, List.getElem?_eq_getElem (by omega)]; rfl
end
theorem num_at6 (r : List Int) (x : Nat) : num r x = at6 r x := by unfold num at6; rw [Int.toNat_natCast]
theorem num_at6' (r : List Int) (x : Int) : num r x.toNat = at6 r x := rfl
abbrev arrV (r : List Int) : Value := .agg #[.int .i64 (num r 0), .int .i64 (num r 1), .int .i64 (num r 2), .int .i64 (num r 3), .int .i64 (num r 4), .int .i64 (num r 5)]
/-- The first k cells have been merged. -/
def mgK (p q : Int) (r : List Int) (k : Nat) : List Int := (r.take k).map (mg p q) ++ r.drop k
theorem mgK_zero (p q : Int) (r : List Int) : mgK p q r 0 = r := rfl
theorem mgK_all (p q : Int) {r : List Int} (h : r.length = 6) : mgK p q r 6 = r.map (mg p q) := by unfold mgK; rw [List.take_of_length_le (by omega), List.drop_eq_nil_of_le (by omega), List.append_nil]
theorem mgK_num {p q : Int} {r : List Int} {k : Nat} (h : r.length = 6) (hk : k < 6) : num (mgK p q r k) k = num r k := by
  unfold num mgK
  rw [List.getElem?_append_right (by rw [List.length_map, List.length_take]; omega), List.length_map, List.length_take, Nat.min_eq_left (by omega), Nat.sub_self, List.getElem?_drop, Nat.add_zero]
theorem mgK_len {p q : Int} {r : List Int} {k : Nat} (h : r.length = 6) : (mgK p q r k).length = 6 := by
  unfold mgK; rw [List.length_append, List.length_map, List.length_take, List.length_drop]; omega
theorem mgK_succ {p q : Int} {r : List Int} {k : Nat} (h : r.length = 6) (hk : k < 6) : mgK p q r (k + 1) = (mgK p q r k).set k (mg p q (num r k)) := by
  apply List.ext_getElem?
  intro x
  have hl : ((r.take k).map (mg p q)).length = k := by rw [List.length_map, List.length_take]; omega
  have hl1 : ((r.take (k + 1)).map (mg p q)).length = k + 1 := by rw [List.length_map, List.length_take]; omega
  by_cases hxk : x = k
  · subst hxk
    rw [List.getElem?_set_self (by rw [mgK_len h]; exact hk)]
    unfold mgK num
    rw [List.getElem?_append_left (by omega), List.getElem?_map, List.getElem?_take, if_pos (by omega), List.getElem?_eq_getElem (by omega)]; rfl
  · rw [List.getElem?_set_ne (Ne.symm hxk)]
    unfold mgK
    by_cases hlt : x < k
    · rw [List.getElem?_append_left (by omega), List.getElem?_append_left (by omega), List.getElem?_map, List.getElem?_map, List.getElem?_take, List.getElem?_take, if_pos (by omega), if_pos (by omega)]
    · rw [List.getElem?_append_right (by omega), List.getElem?_append_right (by omega), hl, hl1, List.getElem?_drop, List.getElem?_drop]
      congr 1; omega
theorem set_same {r : List Int} {k : Nat} (v : Int) (h : num r k = v) (hk : k < r.length) : r.set k v = r := by
  apply List.ext_getElem?
  intro x
  by_cases hxk : k = x
  · subst hxk
    rw [List.getElem?_set_self hk, ← h]
    unfold num
    rw [List.getElem?_eq_getElem hk]; rfl
  · rw [List.getElem?_set_ne hxk]
/-- The first k cells count up. -/
def upK (k : Nat) : List Int := R0.take k ++ ([0, 0, 0, 0, 0, 0] : List Int).drop k
theorem upK_succ : ∀ k, k < 6 → upK (k + 1) = (upK k).set k (k : Int) := by
  intro k hk
  have : k = 0 ∨ k = 1 ∨ k = 2 ∨ k = 3 ∨ k = 4 ∨ k = 5 := by omega
  rcases this with rfl | rfl | rfl | rfl | rfl | rfl <;> rfl
end Go.Proofs.YthpbkbbmedpecaaDoor
