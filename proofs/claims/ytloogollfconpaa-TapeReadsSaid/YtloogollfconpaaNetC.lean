/- Nets of tapes: two merges in either order: plain. No program is named. -/
import Derived.Test.YtloogollfconpaaNetT
namespace Go.Proofs.Ytloogollfconpaa

theorem mg_symm (p q x : Int) : mg p q x = mg q p x := by unfold mg; rw [Int.max_comm, Int.min_comm]
theorem mg_lt {p q : Int} (h : p ≤ q) (x : Int) : mg p q x = if x = q then p else x := by unfold mg; rw [Int.max_eq_right h, Int.min_eq_left h]
set_option maxHeartbeats 4000000 in
theorem mg_comm1 {c d e f : Int} (h1 : c ≤ d) (h2 : e ≤ f) (x : Int) : mg (mg c d e) (mg c d f) (mg c d x) = mg (mg e f c) (mg e f d) (mg e f x) := by
  simp only [mg_lt h1, mg_lt h2]
  unfold mg
  generalize hA : (if e = d then c else e) = A
  generalize hB : (if f = d then c else f) = B
  generalize hX : (if x = d then c else x) = X
  generalize hC : (if c = f then e else c) = C
  generalize hD : (if d = f then e else d) = D
  generalize hY : (if x = f then e else x) = Y
  have hA : (e = d ∧ A = c) ∨ (e ≠ d ∧ A = e) := by rw [← hA]; split <;> simp_all
  have hB : (f = d ∧ B = c) ∨ (f ≠ d ∧ B = f) := by rw [← hB]; split <;> simp_all
  have hX : (x = d ∧ X = c) ∨ (x ≠ d ∧ X = x) := by rw [← hX]; split <;> simp_all
  have hC : (c = f ∧ C = e) ∨ (c ≠ f ∧ C = c) := by rw [← hC]; split <;> simp_all
  have hD : (d = f ∧ D = e) ∨ (d ≠ f ∧ D = d) := by rw [← hD]; split <;> simp_all
  have hY : (x = f ∧ Y = e) ∨ (x ≠ f ∧ Y = x) := by rw [← hY]; split <;> simp_all
  rcases hA with ⟨a1, rfl⟩ | ⟨a1, rfl⟩ <;> rcases hB with ⟨a2, rfl⟩ | ⟨a2, rfl⟩ <;> rcases hX with ⟨a3, rfl⟩ | ⟨a3, rfl⟩ <;> rcases hC with ⟨a4, rfl⟩ | ⟨a4, rfl⟩ <;> rcases hD with ⟨a5, rfl⟩ | ⟨a5, rfl⟩ <;> rcases hY with ⟨a6, rfl⟩ | ⟨a6, rfl⟩ <;> split <;> split <;> omega
theorem mg_comm (c d e f x : Int) : mg (mg c d e) (mg c d f) (mg c d x) = mg (mg e f c) (mg e f d) (mg e f x) := by
  rcases Int.le_total c d with h1 | h1 <;> rcases Int.le_total e f with h2 | h2
  · exact mg_comm1 h1 h2 x
  · have := mg_comm1 h1 h2 x
    simp only [mg_symm e f]
    rw [mg_symm (mg c d e)]; exact this
  · have := mg_comm1 h1 h2 x
    simp only [mg_symm c d]
    rw [mg_symm (mg e f c)]; exact this
  · have := mg_comm1 h1 h2 x
    simp only [mg_symm c d, mg_symm e f]
    rw [mg_symm (mg d c e), mg_symm (mg f e c)]; exact this
/-- Two merges in either order. -/
theorem mgL_swap {r : List Int} {s t : Tp} (hr : r.length = 6) (s1 : nod s.1) (s2 : nod s.2.1) (t1 : nod t.1) (t2 : nod t.2.1) : mgL (mgL r s) t = mgL (mgL r t) s := by
  show ((mgL r s).map (mg (at6 (mgL r s) t.1) (at6 (mgL r s) t.2.1))) = (mgL r t).map (mg (at6 (mgL r t) s.1) (at6 (mgL r t) s.2.1))
  rw [at6_mgL hr t1.1 t1.2, at6_mgL hr t2.1 t2.2, at6_mgL hr s1.1 s1.2, at6_mgL hr s2.1 s2.2]
  unfold mgL
  rw [List.map_map, List.map_map]
  exact List.map_congr_left fun x _ => mg_comm _ _ _ _ x
end Go.Proofs.Ytloogollfconpaa
