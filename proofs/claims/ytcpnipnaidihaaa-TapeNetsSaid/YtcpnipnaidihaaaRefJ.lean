/- Tapes: the reference's Joined. -/
import Derived.Test.YtcpnipnaidihaaaRefP
import Derived.Test.YtcpnipnaidihaaaTreesM
import Derived.Test.YtcpnipnaidihaaaSeriesM
set_option linter.unusedSimpArgs false
set_option linter.unusedVariables false
namespace Go.Proofs.Ytcpnipnaidihaaa
open Go.RowKit
attribute [local go_sem] Later.cell Same.cell

theorem vNet_inn {n : Int} {l : List Tp} (h : vNet n l = true) : inn n.toNat l := by
  obtain ⟨h1, h2, h3⟩ := vNet_iff.1 h
  intro t ht
  have := h3 t ht
  omega
/-- The labels of the part, as the reference has them. -/
theorem part_jn {n : Int} {l : List Tp} {a b : Int} (h : vNet n l = true) (ha : 0 ≤ a ∧ a < n) (hb : 0 ≤ b ∧ b < n) : sB (partL n.toNat l a) b = (at6 (full l R0) b == at6 (full l R0) a) := by
  obtain ⟨h1, h2, h3⟩ := vNet_spec h
  exact part_spec h3 (vNet_inn h) (by omega) (by omega) (by omega)
set_option maxRecDepth 20000 in
set_option maxHeartbeats 4000000 in
theorem rJoined_any (n : Int) (A : Option Addr) (len cap : Nat) (l : List Tp) (a b : Int) (w : World) (hm : len ≤ 9223372036854775807) (hx : Rows 3 int3 (0,0,0) w w.heap.size A len l) :
    Calls Try.prog 26 #[.int .i64 n, .slice A len cap, .int .i64 a, .int .i64 b] w fun e w' => e = .returned (.tuple #[.bool (jnV n l a b), .int .i64 (askE n l [a, b])]) ∧ Below w.heap.size w w' := by
  have c1 := fun W (h : Below w.heap.size w W) => pairE_any n A len cap l a b W hm ((hx.below h).more h.size)
  have hV : jnV n l a b = (decide (askE n l [a, b] = 0) && jnB l a b) := rfl
  rcases ask_cases n l a b with ⟨h0, hv, ha, hb⟩ | h0
  · obtain ⟨hn, hlen, hl⟩ := vNet_spec hv
    have hin := allW2 h0
    rw [hx.1] at hlen
    obtain ⟨N, rfl⟩ : ∃ N : Nat, n = N := ⟨n.toNat, by omega⟩
    have hinn : inn N l := by have := vNet_inn hv; simpa using this
    have hpj := part_jn hv ⟨hin.1, hin.2.1⟩ hin.2.2
    rw [Int.toNat_natCast] at hpj
    have c2 := fun W (h : Below w.heap.size w W) => rpart_any N A len cap l a W (by omega) hlen (by omega) hinn ((hx.below h).more h.size)
    rw [h0, decide_eq_true rfl, Bool.true_and] at hV
    rw [h0] at c1
    have hJ : jnB l a b = sB (partL N l a) b := by rw [hpj]; unfold jnB; rw [Bool.beq_comm]
    rw [h0, hV, hJ]
    obtain ⟨hb0, hb1⟩ := hin.2.2
    have C1 := Lib.hid c1
    have C2 := Lib.hid c2
    clear c1 c2 hx hV hJ h0 hv hl hpj hinn
    go_enter Try.func26, Try.ntmps26
    go_wp2_with fail
    refine (C1.out _ (by repeat (first | exact Below.refl _ _ | assumption | refine Below.setCell ?_ (by first | (simp; done) | (simp; omega) | omega) _ | refine Below.drew ?_ | refine below_drewN ?_ _ | refine Below.alloc ?_ (by first | (simp; done) | (simp; omega) | omega) _ | refine below_alloc ?_ _ | refine below_step ?_ (by assumption)))).mono ?_
    rintro e w1 ⟨rfl, hb1'⟩
    go_wp2_with fail
    refine (C2.out _ hb1').mono ?_
    rintro e w2 ⟨⟨v, rfl, ho⟩, hb2⟩
    obtain ⟨g, cp, rfl, -, -, -, -, hfr, hce⟩ := own_bools ho (by omega)
    have hc := hce b hb0 hb1
    clear hce hfr ho
    go_wp2
    go_ret2
    exact ⟨rfl, below_step hb1' hb2⟩
  · have h0' : (askE n l [a, b] == 0) = false := by simpa using h0
    rw [decide_eq_false h0, Bool.false_and] at hV
    rw [hV]
    generalize askE n l [a, b] = E at *
    have C1 := Lib.hid c1
    clear c1 hx hV h0
    go_enter Try.func26, Try.ntmps26
    go_wp2_with fail
    refine (C1.out _ (by repeat (first | exact Below.refl _ _ | assumption | refine Below.setCell ?_ (by first | (simp; done) | (simp; omega) | omega) _ | refine Below.drew ?_ | refine below_drewN ?_ _ | refine Below.alloc ?_ (by first | (simp; done) | (simp; omega) | omega) _ | refine below_alloc ?_ _ | refine below_step ?_ (by assumption)))).mono ?_
    rintro e w1 ⟨rfl, hb⟩
    go_wp2
    go_ret2
    exact ⟨rfl, hb⟩
end Go.Proofs.Ytcpnipnaidihaaa
