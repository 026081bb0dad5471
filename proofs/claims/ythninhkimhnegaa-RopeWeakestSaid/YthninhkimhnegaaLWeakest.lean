/- RopeWeakest: the walk of the statement. -/
import Derived.Test.YthninhkimhnegaaWeakP
import Derived.Test.YthninhkimhnegaaWeakR
import Derived.Test.YthninhkimhnegaaAwake4
set_option linter.unusedSimpArgs false
set_option linter.unusedVariables false
namespace Go.Proofs.Ythninhkimhnegaa
open Go.RowKit
attribute [local go_sem] Later.cell

set_option maxRecDepth 20000 in
set_option maxHeartbeats 4000000 in
theorem weakest_walk (A : Option Addr) (n cap : Nat) (rs : List (Int × Int × Int)) (A' : Option Addr) (m cap' : Nat) (us : List RowU) (day : Int) (w : World) (hm : n ≤ cap ∧ cap ≤ 9223372036854775807) (hx : Rows 3 int3 (0,0,0) w w.heap.size A n rs) (_ : ∀ x ∈ rs, (-9223372036854775808 ≤ x.1 ∧ x.1 ≤ 9223372036854775807) ∧ (-9223372036854775808 ≤ x.2.1 ∧ x.2.1 ≤ 9223372036854775807) ∧ (-9223372036854775808 ≤ x.2.2 ∧ x.2.2 ≤ 9223372036854775807))
    (hm' : m ≤ cap' ∧ cap' ≤ 9223372036854775807) (hy : Rows 1 sliceU dU w w.heap.size A' m us) (hu : ∀ x ∈ us, (x.1.2.1 ≤ x.1.2.2 ∧ x.1.2.2 ≤ 9223372036854775807) ∧ Pairs w w.heap.size x.1.1 x.1.2.1 x.2) (_ : -9223372036854775808 ≤ day ∧ day ≤ 9223372036854775807) :
    Calls Try.prog 8 #[.slice A n cap, .slice A' m cap', .int .i64 day] w fun e w' => e = .returned (.bool true) ∧ Below w.heap.size w w' := by
  by_cases h1 : 40 < n
  · clear hx hy hu
    go_enter Try.func8, Try.ntmps8
    go_wp2_with (go_at_call 26; refine (awake_any _).mono ?_; rintro e w1 ⟨rfl, hb1⟩)
    go_ret
    exact ⟨rfl, (by repeat (first | exact Below.refl _ _ | assumption | refine Below.setCell ?_ (by first | (simp; done) | (simp; omega) | omega) _ | refine Below.drew ?_ | refine below_drewN ?_ _ | refine Below.alloc ?_ (by first | (simp; done) | (simp; omega) | omega) _ | refine below_alloc ?_ _ | refine below_step ?_ (by assumption)))⟩
  · by_cases h2 : 40 < m
    · clear hx hy hu
      go_enter Try.func8, Try.ntmps8
      go_wp2_with (go_at_call 26; refine (awake_any _).mono ?_; rintro e w1 ⟨rfl, hb1⟩)
      go_ret
      exact ⟨rfl, (by repeat (first | exact Below.refl _ _ | assumption | refine Below.setCell ?_ (by first | (simp; done) | (simp; omega) | omega) _ | refine Below.drew ?_ | refine below_drewN ?_ _ | refine Below.alloc ?_ (by first | (simp; done) | (simp; omega) | omega) _ | refine below_alloc ?_ _ | refine below_step ?_ (by assumption)))⟩
    · have c1 := fun W (h : Below w.heap.size w W) => Weakest_any A n cap rs A' m cap' us day W hm ((hx.below h).more h.size) hm' ((hy.below h).more h.size) (fun x hx => ⟨(hu x hx).1, ((hu x hx).2.below h).more h.size⟩)
      have c2 := fun W (h : Below w.heap.size w W) => rWeakest_any A n cap rs A' m cap' us day W hm ((hx.below h).more h.size) hm' ((hy.below h).more h.size) (fun x hx => ⟨(hu x hx).1, ((hu x hx).2.below h).more h.size⟩)
      generalize weakV rs us day = V at *
      generalize weakE rs us day = E at *
      have C1 := Lib.hid c1
      have C2 := Lib.hid c2
      have HY := Lib.hid hy
      have HU := Lib.hid hu
      clear c1 c2 hx hy hu
      go_enter Try.func8, Try.ntmps8
      go_wp2
      go_loop [7] (fun i => ∃ k : Nat, k ≤ m ∧ i = .int .i64 k) (fun i => m - (intOf i).toNat)
      case atStart => exact ⟨0, Nat.zero_le _, rfl⟩
      case round =>
        obtain ⟨k, hk, rfl⟩ := hrel
        by_cases hlt : k < m
        · obtain ⟨d, doff, rfl, hd0, hd1⟩ := HY.out.atU k hlt
          have hlen := (HU.out _ (HY.out.mem hlt)).1
          generalize us[k]?.getD dU = u at *
          obtain ⟨⟨u1, u2, u3⟩, u4⟩ := u
          dsimp only at hd1 hlen
          by_cases h3 : 100 < u2
          · go_wp2_with (go_at_call 26; refine (awake_any _).mono ?_; rintro e w1 ⟨rfl, hb1⟩)
            go_ret
            exact ⟨rfl, (by repeat (first | exact Below.refl _ _ | assumption | refine Below.setCell ?_ (by first | (simp; done) | (simp; omega) | omega) _ | refine Below.drew ?_ | refine below_drewN ?_ _ | refine Below.alloc ?_ (by first | (simp; done) | (simp; omega) | omega) _ | refine below_alloc ?_ _ | refine below_step ?_ (by assumption)))⟩
          · go_wp2
            go_round
            case rel => exact ⟨k + 1, by omega, by go_num⟩
            case measure => simp [intOf]; omega
        · go_wp2_with fail
          refine (C1.out _ (by repeat (first | exact Below.refl _ _ | assumption | refine Below.setCell ?_ (by first | (simp; done) | (simp; omega) | omega) _ | refine Below.drew ?_ | refine below_drewN ?_ _ | refine Below.alloc ?_ (by first | (simp; done) | (simp; omega) | omega) _ | refine below_alloc ?_ _ | refine below_step ?_ (by assumption)))).mono ?_
          rintro e w1 ⟨rfl, hb⟩
          have hB1 : Below w.heap.size w w1 := (by repeat (first | exact Below.refl _ _ | assumption | refine Below.setCell ?_ (by first | (simp; done) | (simp; omega) | omega) _ | refine Below.drew ?_ | refine below_drewN ?_ _ | refine Below.alloc ?_ (by first | (simp; done) | (simp; omega) | omega) _ | refine below_alloc ?_ _ | refine below_step ?_ (by assumption)))
          go_wp2_with fail
          refine (C2.out _ hB1).mono ?_
          rintro e w2 ⟨rfl, hb⟩
          have hB2 : Below w.heap.size w w2 := hB1.trans (hb.mono hB1.size)
          clear hb hB1
          go_wp2_with (go_at_call 26; refine (awake_any _).mono ?_; rintro e w3 ⟨rfl, hb1⟩)
          go_ret
          exact ⟨rfl, (by repeat (first | exact Below.refl _ _ | assumption | refine Below.setCell ?_ (by first | (simp; done) | (simp; omega) | omega) _ | refine Below.drew ?_ | refine below_drewN ?_ _ | refine Below.alloc ?_ (by first | (simp; done) | (simp; omega) | omega) _ | refine below_alloc ?_ _ | refine below_step ?_ (by assumption)))⟩
end Go.Proofs.Ythninhkimhnegaa
