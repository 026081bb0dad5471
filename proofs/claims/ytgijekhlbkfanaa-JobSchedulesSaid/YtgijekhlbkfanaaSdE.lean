/- Joined by merge.py from: JobA7 JobA8 JobB5 JobB4 LSchedules. -/
import Derived.Test.YtgijekhlbkfanaaSdA
import Derived.Test.YtgijekhlbkfanaaJobF
import Derived.Laws.EntriesVeiled
import Derived.Test.YtgijekhlbkfanaaSdB
import Derived.Test.YtgijekhlbkfanaaSdC
import Derived.Test.YtgijekhlbkfanaaJobZ
import Derived.Test.YtgijekhlbkfanaaJobN
import Derived.Test.YtgijekhlbkfanaaSdD
set_option linter.unusedSimpArgs false
set_option linter.unusedVariables false
namespace Go.Proofs.Ytgijekhlbkfanaa
open Go.RowKit Go.Shelf Go.Maps
attribute [local go_sem] Later.cell Same.cell

structure RtR (Bl Bd Bn nb : Nat) (A : Option Addr) (cap : Nat) (l : List Tk) (A' : Option Addr) (cap' : Nat) (days : List Int) (w : World) : Prop where
  cl : w.cell? ⟨Bl, 0, none⟩ = some (.slice A l.length cap)
  cd : w.cell? ⟨Bd, 0, none⟩ = some (.slice A' l.length cap')
  cn : w.cell? ⟨Bn, 0, none⟩ = some (.map (some nb))
  map : MapN w nb l.length (fndM l l.length)
  pl : Plan w w.heap.size A l.length l
  dy : Ints w w.heap.size A' l.length days
theorem RtR.go {Bl Bd Bn nb : Nat} {A : Option Addr} {cap : Nat} {l : List Tk} {A' : Option Addr} {cap' : Nat} {days : List Int} {w w' : World} (h : RtR Bl Bd Bn nb A cap l A' cap' days w) (hb : Below w.heap.size w w') : RtR Bl Bd Bn nb A cap l A' cap' days w' :=
  have hc := fun b u (hu : w.cell? ⟨b, 0, none⟩ = some u) => (hb.cell (p := ⟨b, 0, none⟩) (World.block_lt_of_cell? w _ hu)).trans hu
  ⟨hc _ _ h.cl, hc _ _ h.cd, hc _ _ h.cn, h.map.below hb, h.pl.go hb, (h.dy.below hb).more hb.size⟩
def rt1 (l : List Tk) (days : List Int) (i : Nat) (s : ByteArray) : Bool := decide (gI days i < gI days (fnd l s) + dyA l (fnd l s))
set_option maxRecDepth 20000 in
set_option maxHeartbeats 4000000 in
theorem right11_any (s : ByteArray) (i Bi Bl Bd Bn nb : Nat) (A : Option Addr) (cap : Nat) (l : List Tk) (A' : Option Addr) (cap' : Nat) (days : List Int) (w : World) (hP : okP l) (hd : bdE 1000000 days) (hi : i < l.length) (hs : s.size ≤ 9223372036854775807) (hF : fnd l s < l.length) (hR : RtR Bl Bd Bn nb A cap l A' cap' days w) (hci : w.cell? ⟨Bi, 0, none⟩ = some (.int .i64 (i : Int))) :
    Calls Try.prog 94 #[.string s, .pointer (some ⟨Bd, 0, none⟩), .pointer (some ⟨Bi, 0, none⟩), .pointer (some ⟨Bn, 0, none⟩), .pointer (some ⟨Bl, 0, none⟩)] w fun e w' => e = .returned (.bool (rt1 l days i s)) ∧ Below w.heap.size w w' := by
  have hL := hP.len
  obtain ⟨h1, h2, h3, hM, hx, hy⟩ := hR
  have hlk : ∀ x : Later w, (Instr.lookup 68 (.map (some nb)) (.string s) false).run Try.prog x.val = .ok (.int .i64 ((fnd l s : Nat) : Int)) x.val := fun x => by
    have := MapV.run_int (t := 68) (hM.below x.h) lawS Try.underlying68 Try.underlying3 (zeroIn _) s (keyS hs)
    rw [fndM_at hF] at this
    exact this
  obtain ⟨b, off, rfl, hb0, hc1, hc2, hc3, -⟩ := hx.at_ (fnd l s) hF
  obtain ⟨b2, off2, rfl, hb2, hc6⟩ := hy.at_ i hi
  obtain ⟨b3, off3, e3, hb3, hc7⟩ := hy.at_ (fnd l s) hF
  injection e3 with e3
  injection e3 with e31 e32
  subst e31 e32
  change w.cell? _ = some (.int .i64 (gI days i)) at hc6
  change w.cell? _ = some (.int .i64 (gI days (fnd l s))) at hc7
  have hdi := hd i
  have hdf := hd (fnd l s)
  have hda := dy_bd hP hF
  have hv : rt1 l days i s = decide (gI days i < gI days (fnd l s) + (tkA l (fnd l s)).dy) := rfl
  rw [hv]
  change 1 ≤ (tkA l (fnd l s)).dy ∧ (tkA l (fnd l s)).dy ≤ 1000 at hda
  have g1 := World.block_lt_of_cell? w _ h1
  have g2 := World.block_lt_of_cell? w _ h2
  have g3 := World.block_lt_of_cell? w _ h3
  have g4 := World.block_lt_of_cell? w _ hci
  generalize (tkA l (fnd l s)).dy = Y at *
  generalize fnd l s = F at *
  generalize gI days i = Gi at *
  generalize gI days F = Gf at *
  have hwr : wrap64 (Gf + Y) = Gf + Y := IntWalk.wrap64_in _ ⟨by omega, by omega⟩
  have i1 : (i : Int) < l.length := by omega
  have i2 : ¬ l.length ≤ i := by omega
  have f1 : (F : Int) < l.length := by omega
  have f2 : ¬ l.length ≤ F := by omega
  clear hM hx hy hd hP hv hc1 hc3 hs
  go_enter Try.func94, Try.ntmps94
  go_wp2_with fail
  (refine wp_region_later (by kernel_rfl) (by kernel_rfl) ?_; (repeat (go_big_quiet_step ((fail)))); refine wpQuiet_nil ?_)
  intro w3 hb3
  go_wp2
  go_ret
  exact ⟨rfl, hb3⟩
set_option maxRecDepth 20000 in
set_option maxHeartbeats 2000000 in
theorem IdxRight_any (Bd Bi Bn Bl : Nat) (p : ByteArray → Bool) (A : Option Addr) (len cap : Nat) (ss : List ByteArray) (w : World) (hm : len ≤ 9223372036854775807) (hx : Strs w w.heap.size A len ss)
    (hc : ∀ s ∈ ss, ∀ W, Below w.heap.size w W → Calls Try.prog 94 #[.string s, .pointer (some ⟨Bd, 0, none⟩), .pointer (some ⟨Bi, 0, none⟩), .pointer (some ⟨Bn, 0, none⟩), .pointer (some ⟨Bl, 0, none⟩)] W fun e w' => e = .returned (.bool (p s)) ∧ Below W.heap.size W w') :
    Calls Try.prog 107 #[.slice A len cap, .func (.func 94) #[] #[.pointer (some ⟨Bd, 0, none⟩), .pointer (some ⟨Bi, 0, none⟩), .pointer (some ⟨Bn, 0, none⟩), .pointer (some ⟨Bl, 0, none⟩)]] w fun e w' => e = .returned (.int .i64 (fiS p ss)) ∧ Below w.heap.size w w' := by
  obtain rfl : ss.length = len := hx.1
  obtain ⟨R, hR⟩ : ∃ R, R = fiS p ss := ⟨_, rfl⟩
  rw [← hR]
  have HR := Lib.hid hR
  have C1 := Lib.hid hc
  have HX := Lib.hid hx
  clear hc hx hR
  go_enter Try.func107, Try.ntmps107
  go_wp2
  go_loopw [8] (fun i wr => ∃ k : Nat, k ≤ ss.length ∧ i = .int .i64 k ∧ Hid (∀ j, j < k → p (ssA ss j) = false) ∧ Below w.heap.size w wr) (fun i _ => ss.length - (intOf i).toNat)
  case atStart => exact ⟨0, Nat.zero_le _, rfl, Lib.hid (fun j hj => absurd hj (by omega)), Below.refl _ _⟩
  case round =>
    obtain ⟨k, hk, rfl, hT, hB⟩ := hrel
    have hbs := hB.size
    by_cases hlt : k < ss.length
    · obtain ⟨b, off, rfl, hb0, hc1⟩ := (HX.out.below hB).atS k hlt
      change wr.cell? _ = some (.string (ssA ss k)) at hc1
      have HN := Lib.hid (fun h => fiS_at hlt hT.out h)
      have HY := Lib.hid (fun h j (hj : j < k + 1) => if e : j = k then (by rw [e]; exact h : p (ssA ss j) = false) else hT.out j (by omega))
      have c2 := C1.out (ssA ss k) (ssA_mem hlt) wr hB
      have hk1 : (k : Int) < ss.length := by omega
      have hk2 : ¬ ss.length ≤ k := by omega
      generalize ssA ss k = X at *
      cases hv : p X
      · have h4 := Lib.hid (HY.out hv)
        rw [hv] at c2
        have C2 := Lib.hid c2
        clear c2 hv HN HY
        go_wp2_with fail
        refine C2.out.mono ?_
        rintro e w1 ⟨rfl, hb⟩
        have HB := Lib.hid (hB.trans (hb.mono hbs))
        clear hb hB
        go_wp2
        go_roundw
        case rel => exact ⟨k + 1, by omega, by go_num, h4, HB.out⟩
        case measure => simp [intOf]; omega
      · have h4 : Hid ((k : Int) = R) := Lib.hid (by rw [HR.out]; exact HN.out hv)
        rw [hv] at c2
        have C2 := Lib.hid c2
        clear c2 hv HN HY
        go_wp2_with fail
        refine C2.out.mono ?_
        rintro e w1 ⟨rfl, hb⟩
        have HB := Lib.hid (hB.trans (hb.mono hbs))
        clear hb hB
        go_wp2
        go_ret
        exact ⟨ret_int h4.out, HB.out⟩
    · have hfin : Hid ((-1 : Int) = R) := Lib.hid (by rw [HR.out]; exact fiS_no fun j hj => hT.out j (by omega))
      have hk1 : ¬ (k : Int) < ss.length := by omega
      have HB := Lib.hid hB
      clear hT hB
      go_wp2
      go_ret
      exact ⟨ret_int hfin.out, HB.out⟩
set_option maxHeartbeats 1000000 in
theorem ContRight_any (Bd Bi Bn Bl : Nat) (p : ByteArray → Bool) (A : Option Addr) (len cap : Nat) (ss : List ByteArray) (w : World) (hm : len ≤ 9223372036854775807) (hx : Strs w w.heap.size A len ss)
    (hc : ∀ s ∈ ss, ∀ W, Below w.heap.size w W → Calls Try.prog 94 #[.string s, .pointer (some ⟨Bd, 0, none⟩), .pointer (some ⟨Bi, 0, none⟩), .pointer (some ⟨Bn, 0, none⟩), .pointer (some ⟨Bl, 0, none⟩)] W fun e w' => e = .returned (.bool (p s)) ∧ Below W.heap.size W w') :
    Calls Try.prog 80 #[.slice A len cap, .func (.func 94) #[] #[.pointer (some ⟨Bd, 0, none⟩), .pointer (some ⟨Bi, 0, none⟩), .pointer (some ⟨Bn, 0, none⟩), .pointer (some ⟨Bl, 0, none⟩)]] w fun e w' => e = .returned (.bool (ss.any p)) ∧ Below w.heap.size w w' := by
  have c1 := IdxRight_any Bd Bi Bn Bl p A len cap ss w hm hx hc
  have hg := fiS_ge p ss
  generalize fiS p ss = I at *
  have C1 := Lib.hid c1
  have HG := Lib.hid hg
  clear c1 hx hc hg
  go_enter Try.func80, Try.ntmps80
  go_wp2_with fail
  refine C1.out.mono ?_
  rintro e w1 ⟨rfl, hb⟩
  have HB := Lib.hid hb
  clear hb
  go_wp2
  go_ret
  exact ⟨ret_bool HG.out, HB.out⟩
def rtA (l : List Tk) (days : List Int) (i : Nat) : Bool := !(tkA l i).af.any (rt1 l days i)
def rtB (l : List Tk) (c : Int) (days : List Int) (i : Nat) : Bool := decide (menV l days (gI days i) ≤ c)
set_option maxHeartbeats 4000000 in
theorem right1_any (i Bl Bd Bn nb : Nat) (A : Option Addr) (cap : Nat) (l : List Tk) (A' : Option Addr) (cap' : Nat) (days : List Int) (w : World) (hS : Sml l) (hP : okP l) (hd : bdE 1000000 days) (hi : i < l.length) (hR : RtR Bl Bd Bn nb A cap l A' cap' days w) :
    Calls Try.prog 93 #[.int .i64 i, .pointer (some ⟨Bl, 0, none⟩), .pointer (some ⟨Bd, 0, none⟩), .pointer (some ⟨Bn, 0, none⟩)] w fun e w' => e = .returned (.bool (rtA l days i)) ∧ Below w.heap.size w w' := by
  have hmf : ∀ (fn : Fn) (first cap : Array Value) (w : World), (Instr.makeFunc fn first cap).run Try.prog w = .ok (.func fn first cap) w := fun _ _ _ _ => rfl
  have hB1 : Below w.heap.size w (w.alloc (.cells #[.int .i64 (i : Int)] 3)) := (Below.refl _ w).alloc (Nat.le_refl _) _
  have hR1 := hR.go hB1
  have hci := (Boxed.new w 3 (.int .i64 (i : Int))).cell
  obtain ⟨b, off, rfl, hb0, -, -, -, Aa, n, cc, hc4, -, -, hSt⟩ := hR1.pl.at_ i hi
  obtain rfl : (tkA l i).af.length = n := hSt.1
  have hfew := hP.few i hi
  have c1 := ContRight_any Bd w.heap.size Bn Bl (rt1 l days i) Aa (tkA l i).af.length cc (tkA l i).af _ (by omega) hSt (fun s hs W hb => right11_any s i w.heap.size Bl Bd Bn nb _ cap l A' cap' days W hP hd hi (hS.an i hi s hs) (hP.known i hi s hs) (hR1.go hb) ((hb.cell (p := ⟨w.heap.size, 0, none⟩) (by simp)).trans hci))
  have hcl := hR1.cl
  have hv : rtA l days i = !(tkA l i).af.any (rt1 l days i) := rfl
  rw [hv]
  generalize (tkA l i).af.any (rt1 l days i) = V at *
  generalize (tkA l i).af.length = n at *
  have i1 : (i : Int) < l.length := by omega
  have i2 : ¬ l.length ≤ i := by omega
  have C1 := Lib.hid c1
  clear c1 hR hR1 hSt hv
  go_enter Try.func93, Try.ntmps93
  go_wp2_with fail
  refine C1.out.mono ?_
  rintro e w1 ⟨rfl, hb⟩
  have HB := Lib.hid (hB1.trans (hb.mono hB1.size))
  clear hb hB1
  go_wp2
  go_ret
  exact ⟨rfl, HB.out⟩
set_option maxHeartbeats 4000000 in
theorem right2_any (i Bl Bd Bn nb Bc : Nat) (A : Option Addr) (cap : Nat) (l : List Tk) (A' : Option Addr) (cap' : Nat) (days : List Int) (c : Int) (w : World) (hP : okP l) (hd : bdE 1000000 days) (hi : i < l.length) (hR : RtR Bl Bd Bn nb A cap l A' cap' days w) (hcc : w.cell? ⟨Bc, 0, none⟩ = some (.int .i64 c)) :
    Calls Try.prog 95 #[.int .i64 i, .pointer (some ⟨Bl, 0, none⟩), .pointer (some ⟨Bd, 0, none⟩), .pointer (some ⟨Bc, 0, none⟩)] w fun e w' => e = .returned (.bool (rtB l c days i)) ∧ Below w.heap.size w w' := by
  have c1 := fun W (h : Below w.heap.size w W) => men_any A l.length cap l A' cap' days (gI days i) W hP (hR.go h).pl (hR.go h).dy hd
  obtain ⟨h1, h2, -, -, -, hy⟩ := hR
  obtain ⟨b2, off2, rfl, hb2, hc6⟩ := hy.at_ i hi
  change w.cell? _ = some (.int .i64 (gI days i)) at hc6
  have hv : rtB l c days i = decide (menV l days (gI days i) ≤ c) := rfl
  rw [hv]
  generalize menV l days (gI days i) = V at *
  generalize gI days i = G at *
  have g1 := World.block_lt_of_cell? w _ h1
  have g2 := World.block_lt_of_cell? w _ h2
  have g4 := World.block_lt_of_cell? w _ hcc
  have i1 : (i : Int) < l.length := by omega
  have i2 : ¬ l.length ≤ i := by omega
  have C1 := Lib.hid c1
  clear c1 hy hP hd hv
  go_enter Try.func95, Try.ntmps95
  go_wp2_with fail
  (refine wp_region_later (by kernel_rfl) (by kernel_rfl) ?_; (repeat (go_big_quiet_step ((go_at_call 96; exact later_call (C1.out _ (‹Later _›).h))))); refine wpQuiet_nil ?_)
  intro w3 hb3
  go_wp2
  go_ret
  exact ⟨rfl, hb3⟩
end Go.Proofs.Ytgijekhlbkfanaa

namespace Go.Proofs.Ytgijekhlbkfanaa
open Go.RowKit Go.Shelf Go.Maps
attribute [local go_sem] Later.cell Same.cell

set_option maxRecDepth 20000 in
set_option maxHeartbeats 2000000 in
theorem right3a_any (i Bi p1 p2 p3 : Nat) (V : Bool) (w : World) (hci : w.cell? ⟨Bi, 0, none⟩ = some (.int .i64 (i : Int)))
    (hc : ∀ W, Below w.heap.size w W → Calls Try.prog 93 #[.int .i64 (i : Int), .pointer (some ⟨p1, 0, none⟩), .pointer (some ⟨p2, 0, none⟩), .pointer (some ⟨p3, 0, none⟩)] W fun e w' => e = .returned (.bool V) ∧ Below W.heap.size W w') :
    Calls Try.prog 98 #[.agg #[.func (.func 93) #[] #[.pointer (some ⟨p1, 0, none⟩), .pointer (some ⟨p2, 0, none⟩), .pointer (some ⟨p3, 0, none⟩)]], .pointer (some ⟨Bi, 0, none⟩)] w fun e w' => e = .returned (.bool (!V)) ∧ Below w.heap.size w w' := by
  have g4 := World.block_lt_of_cell? w _ hci
  have hci1 : (w.alloc (.cells #[.func (.func 93) #[] #[.pointer (some ⟨p1, 0, none⟩), .pointer (some ⟨p2, 0, none⟩), .pointer (some ⟨p3, 0, none⟩)]] 87)).cell? ⟨Bi, 0, none⟩ = some (.int .i64 (i : Int)) := cell_kept hci (World.grownBy_alloc w _ none) (fun r e => by cases e)
  have C1 := Lib.hid hc
  clear hc
  go_enter Try.func98, Try.ntmps98
  go_wp2_with fail
  refine (C1.out _ (by repeat (first | exact Below.refl _ _ | assumption | refine Below.setCell ?_ (by first | (simp; done) | (simp; omega) | omega) _ | refine Below.drew ?_ | refine below_drewN ?_ _ | refine Below.alloc ?_ (by first | (simp; done) | (simp; omega) | omega) _ | refine below_alloc ?_ _ | refine below_step ?_ (by assumption)))).mono ?_
  rintro e w1 ⟨rfl, hb⟩
  have HB : Hid (Below w.heap.size w w1) := Lib.hid (by repeat (first | exact Below.refl _ _ | assumption | refine Below.setCell ?_ (by first | (simp; done) | (simp; omega) | omega) _ | refine Below.drew ?_ | refine below_drewN ?_ _ | refine Below.alloc ?_ (by first | (simp; done) | (simp; omega) | omega) _ | refine below_alloc ?_ _ | refine below_step ?_ (by assumption)))
  clear hb
  go_wp2
  go_ret
  exact ⟨rfl, HB.out⟩
set_option maxRecDepth 20000 in
set_option maxHeartbeats 2000000 in
theorem right3b_any (i Bi p1 p2 p3 : Nat) (V : Bool) (w : World) (hci : w.cell? ⟨Bi, 0, none⟩ = some (.int .i64 (i : Int)))
    (hc : ∀ W, Below w.heap.size w W → Calls Try.prog 95 #[.int .i64 (i : Int), .pointer (some ⟨p1, 0, none⟩), .pointer (some ⟨p2, 0, none⟩), .pointer (some ⟨p3, 0, none⟩)] W fun e w' => e = .returned (.bool V) ∧ Below W.heap.size W w') :
    Calls Try.prog 98 #[.agg #[.func (.func 95) #[] #[.pointer (some ⟨p1, 0, none⟩), .pointer (some ⟨p2, 0, none⟩), .pointer (some ⟨p3, 0, none⟩)]], .pointer (some ⟨Bi, 0, none⟩)] w fun e w' => e = .returned (.bool (!V)) ∧ Below w.heap.size w w' := by
  have g4 := World.block_lt_of_cell? w _ hci
  have hci1 : (w.alloc (.cells #[.func (.func 95) #[] #[.pointer (some ⟨p1, 0, none⟩), .pointer (some ⟨p2, 0, none⟩), .pointer (some ⟨p3, 0, none⟩)]] 87)).cell? ⟨Bi, 0, none⟩ = some (.int .i64 (i : Int)) := cell_kept hci (World.grownBy_alloc w _ none) (fun r e => by cases e)
  have C1 := Lib.hid hc
  clear hc
  go_enter Try.func98, Try.ntmps98
  go_wp2_with fail
  refine (C1.out _ (by repeat (first | exact Below.refl _ _ | assumption | refine Below.setCell ?_ (by first | (simp; done) | (simp; omega) | omega) _ | refine Below.drew ?_ | refine below_drewN ?_ _ | refine Below.alloc ?_ (by first | (simp; done) | (simp; omega) | omega) _ | refine below_alloc ?_ _ | refine below_step ?_ (by assumption)))).mono ?_
  rintro e w1 ⟨rfl, hb⟩
  have HB : Hid (Below w.heap.size w w1) := Lib.hid (by repeat (first | exact Below.refl _ _ | assumption | refine Below.setCell ?_ (by first | (simp; done) | (simp; omega) | omega) _ | refine Below.drew ?_ | refine below_drewN ?_ _ | refine Below.alloc ?_ (by first | (simp; done) | (simp; omega) | omega) _ | refine below_alloc ?_ _ | refine below_step ?_ (by assumption)))
  clear hb
  go_wp2
  go_ret
  exact ⟨rfl, HB.out⟩
set_option maxRecDepth 20000 in
set_option maxHeartbeats 4000000 in
theorem keepIdx_any (i Bi Bl Bd Bn Bc g : Nat) (V1 V2 : Bool) (w : World) (hci : w.cell? ⟨Bi, 0, none⟩ = some (.int .i64 (i : Int))) (hg0 : w.cell? ⟨g, 0, none⟩ = some (.func (.func 93) #[] #[.pointer (some ⟨Bl, 0, none⟩), .pointer (some ⟨Bd, 0, none⟩), .pointer (some ⟨Bn, 0, none⟩)])) (hg1 : w.cell? ⟨g, 1, none⟩ = some (.func (.func 95) #[] #[.pointer (some ⟨Bl, 0, none⟩), .pointer (some ⟨Bd, 0, none⟩), .pointer (some ⟨Bc, 0, none⟩)]))
    (hc1 : ∀ W, Below w.heap.size w W → Calls Try.prog 93 #[.int .i64 (i : Int), .pointer (some ⟨Bl, 0, none⟩), .pointer (some ⟨Bd, 0, none⟩), .pointer (some ⟨Bn, 0, none⟩)] W fun e w' => e = .returned (.bool V1) ∧ Below W.heap.size W w')
    (hc2 : ∀ W, Below w.heap.size w W → Calls Try.prog 95 #[.int .i64 (i : Int), .pointer (some ⟨Bl, 0, none⟩), .pointer (some ⟨Bd, 0, none⟩), .pointer (some ⟨Bc, 0, none⟩)] W fun e w' => e = .returned (.bool V2) ∧ Below W.heap.size W w') :
    Calls Try.prog 118 #[.slice (some ⟨g, 0, none⟩) 2 2, .func (.func 98) #[] #[.pointer (some ⟨Bi, 0, none⟩)]] w fun e w' => (∃ R : Int, e = .returned (.int .i64 R) ∧ decide (0 ≤ R) = !(V1 && V2)) ∧ Below w.heap.size w w' := by
  have gi := World.block_lt_of_cell? w _ hci
  have gg := World.block_lt_of_cell? w _ hg0
  have c1 := fun W (h : Below w.heap.size w W) => right3a_any i Bi Bl Bd Bn V1 W ((h.cell (p := ⟨Bi, 0, none⟩) gi).trans hci) (fun W' h' => hc1 W' (h.trans (h'.mono h.size)))
  have c2 := fun W (h : Below w.heap.size w W) => right3b_any i Bi Bl Bd Bc V2 W ((h.cell (p := ⟨Bi, 0, none⟩) gi).trans hci) (fun W' h' => hc2 W' (h.trans (h'.mono h.size)))
  have C1 := Lib.hid c1
  have C2 := Lib.hid c2
  have H0 := Lib.hid hg0
  have H1 := Lib.hid hg1
  clear c1 c2 hc1 hc2 hci hg0 hg1
  go_enter Try.func118, Try.ntmps118
  go_wp2
  go_loopw [8] (fun i' W => (i' = .int .i64 0 ∨ (i' = .int .i64 1 ∧ Hid (V1 = true)) ∨ (i' = .int .i64 2 ∧ Hid (V1 = true ∧ V2 = true))) ∧ Below w.heap.size w W) (fun i' _ => 2 - (intOf i').toNat)
  case atStart => exact ⟨.inl rfl, Below.refl _ _⟩
  case round =>
    obtain ⟨hi', hB⟩ := hrel
    have hbs := hB.size
    have h0 := (hB.cell (p := ⟨g, 0, none⟩) gg).trans H0.out
    have h1 := (hB.cell (p := ⟨g, 1, none⟩) gg).trans H1.out
    rcases hi' with rfl | ⟨rfl, hV⟩ | ⟨rfl, hV⟩
    · cases V1
      · have HF : Hid (decide ((0 : Int) ≤ 0) = !(false && V2)) := Lib.hid rfl
        go_wp2_with fail
        refine (C1.out _ hB).mono ?_
        rintro e w1 ⟨rfl, hb⟩
        have HB := Lib.hid (hB.trans (hb.mono hbs))
        clear hb hB h0 h1
        go_wp2
        go_ret
        exact ⟨⟨0, rfl, HF.out⟩, HB.out⟩
      · go_wp2_with fail
        refine (C1.out _ hB).mono ?_
        rintro e w1 ⟨rfl, hb⟩
        have HB := Lib.hid (hB.trans (hb.mono hbs))
        clear hb hB h0 h1
        go_wp2
        go_roundw
        case rel => exact ⟨.inr (.inl ⟨rfl, by first | exact Lib.hid rfl | exact Lib.hid trivial⟩), HB.out⟩
        case measure => simp [intOf]
    · cases V2
      · have HF : Hid (decide ((0 : Int) ≤ 1) = !(V1 && false)) := Lib.hid (by rw [Bool.and_false]; rfl)
        go_wp2_with fail
        refine (C2.out _ hB).mono ?_
        rintro e w1 ⟨rfl, hb⟩
        have HB := Lib.hid (hB.trans (hb.mono hbs))
        clear hb hB h0 h1
        go_wp2
        go_ret
        exact ⟨⟨1, rfl, HF.out⟩, HB.out⟩
      · go_wp2_with fail
        refine (C2.out _ hB).mono ?_
        rintro e w1 ⟨rfl, hb⟩
        have HB := Lib.hid (hB.trans (hb.mono hbs))
        clear hb hB h0 h1
        go_wp2
        go_roundw
        case rel => exact ⟨.inr (.inr ⟨rfl, by first | exact Lib.hid ⟨hV.out, rfl⟩ | exact Lib.hid ⟨hV.out, trivial⟩ | exact hV⟩), HB.out⟩
        case measure => simp [intOf]
    · have HF : Hid (decide ((0 : Int) ≤ -1) = !(V1 && V2)) := Lib.hid (by rw [hV.out.1, hV.out.2]; rfl)
      have HB := Lib.hid hB
      clear hB h0 h1
      go_wp2
      go_ret
      exact ⟨⟨-1, rfl, HF.out⟩, HB.out⟩
set_option maxHeartbeats 1000000 in
theorem keepAny_any (i Bi Bl Bd Bn Bc g : Nat) (V1 V2 : Bool) (w : World) (hci : w.cell? ⟨Bi, 0, none⟩ = some (.int .i64 (i : Int))) (hg0 : w.cell? ⟨g, 0, none⟩ = some (.func (.func 93) #[] #[.pointer (some ⟨Bl, 0, none⟩), .pointer (some ⟨Bd, 0, none⟩), .pointer (some ⟨Bn, 0, none⟩)])) (hg1 : w.cell? ⟨g, 1, none⟩ = some (.func (.func 95) #[] #[.pointer (some ⟨Bl, 0, none⟩), .pointer (some ⟨Bd, 0, none⟩), .pointer (some ⟨Bc, 0, none⟩)]))
    (hc1 : ∀ W, Below w.heap.size w W → Calls Try.prog 93 #[.int .i64 (i : Int), .pointer (some ⟨Bl, 0, none⟩), .pointer (some ⟨Bd, 0, none⟩), .pointer (some ⟨Bn, 0, none⟩)] W fun e w' => e = .returned (.bool V1) ∧ Below W.heap.size W w')
    (hc2 : ∀ W, Below w.heap.size w W → Calls Try.prog 95 #[.int .i64 (i : Int), .pointer (some ⟨Bl, 0, none⟩), .pointer (some ⟨Bd, 0, none⟩), .pointer (some ⟨Bc, 0, none⟩)] W fun e w' => e = .returned (.bool V2) ∧ Below W.heap.size W w') :
    Calls Try.prog 97 #[.slice (some ⟨g, 0, none⟩) 2 2, .func (.func 98) #[] #[.pointer (some ⟨Bi, 0, none⟩)]] w fun e w' => e = .returned (.bool (!(V1 && V2))) ∧ Below w.heap.size w w' := by
  have c1 := keepIdx_any i Bi Bl Bd Bn Bc g V1 V2 w hci hg0 hg1 hc1 hc2
  have C1 := Lib.hid c1
  generalize (V1 && V2) = V at *
  clear c1 hc1 hc2 hci hg0 hg1
  go_enter Try.func97, Try.ntmps97
  go_wp2_with fail
  refine C1.out.mono ?_
  rintro e w1 ⟨⟨R, rfl, hR⟩, hb⟩
  have HR := Lib.hid hR
  have HB := Lib.hid hb
  clear hR hb
  go_wp2
  go_ret
  exact ⟨ret_bool HR.out, HB.out⟩
def rightA (l : List Tk) (c : Int) (days : List Int) : Bool := (List.range l.length).all fun i => rtA l days i && rtB l c days i
def rightV (l : List Tk) (c : Int) (days : List Int) : Bool := decide (checkE l = 0) && (bgB l days && (wi c 1 100 && rightA l c days))
theorem rightA_no {l : List Tk} {c : Int} {days : List Int} {k : Nat} (hk : k < l.length) (h : (rtA l days k && rtB l c days k) = false) : rightA l c days = false := by
  cases hd : rightA l c days with
  | false => rfl
  | true =>
    have := List.all_eq_true.1 hd k (List.mem_range.2 hk)
    rw [h] at this; cases this
theorem rightA_yes {l : List Tk} {c : Int} {days : List Int} (h : ∀ k, k < l.length → (rtA l days k && rtB l c days k) = true) : rightA l c days = true := by
  unfold rightA
  rw [List.all_eq_true]
  exact fun i hi => h i (List.mem_range.1 hi)
set_option maxRecDepth 20000 in
set_option maxHeartbeats 8000000 in
theorem Right_any (A : Option Addr) (len cap : Nat) (l : List Tk) (c : Int) (A' : Option Addr) (len' cap' : Nat) (days : List Int) (w : World) (hS : Sml l) (hm' : len' ≤ 9223372036854775807) (hx : Plan w w.heap.size A len l) (hy : Ints w w.heap.size A' len' days) :
    Calls Try.prog 47 #[.slice A len cap, .int .i64 c, .slice A' len' cap'] w fun e w' => e = .returned (.bool (rightV l c days)) ∧ Below w.heap.size w w' := by
  obtain rfl : l.length = len := hx.1
  have c1 := fun W (h : Below w.heap.size w W) => Check_any A l.length cap l W hS (hx.go h)
  have c2 := fun W (h : Below w.heap.size w W) => begins_any A l.length cap l A' len' cap' days W (by have := hS.len; omega) hm' rfl ((hy.below h).more h.size)
  have c3 := fun W => jwithin_any c 1 100 W
  have c4 := fun W (h : Below w.heap.size w W) => byName_any A l.length cap l W hS (hx.go h)
  obtain ⟨V, hV⟩ : ∃ V, V = rightV l c days := ⟨_, rfl⟩
  rw [← hV]
  unfold rightV at hV
  have HV := Lib.hid hV
  obtain ⟨W0, hW0⟩ : ∃ W0, W0 = ((w.alloc (.cells #[.slice A l.length cap] 31)).alloc (.cells #[.int .i64 c] 3)).alloc (.cells #[.slice A' len' cap'] 32) := ⟨_, rfl⟩
  have hs0 : W0.heap.size = w.heap.size + 1 + 1 + 1 := by rw [hW0]; simp
  have hB0 : Below w.heap.size w W0 := by rw [hW0]; exact (((Below.refl _ _).alloc (Nat.le_refl _) _).alloc (by simp) _).alloc (by simp; omega) _
  have q0 : W0.cell? ⟨w.heap.size, 0, none⟩ = some (.slice A l.length cap) := by rw [hW0]; exact (((Boxed.new w 31 (.slice A l.length cap)).alloc _).alloc _).cell
  have q1 : W0.cell? ⟨w.heap.size + 1, 0, none⟩ = some (.int .i64 c) := by
    have := ((Boxed.new (w.alloc (.cells #[.slice A l.length cap] 31)) 3 (.int .i64 c)).alloc (.cells #[.slice A' len' cap'] 32)).cell
    rw [World.size_alloc] at this; rw [hW0]; exact this
  have q2 : W0.cell? ⟨w.heap.size + 1 + 1, 0, none⟩ = some (.slice A' len' cap') := by
    have := (Boxed.new ((w.alloc (.cells #[.slice A l.length cap] 31)).alloc (.cells #[.int .i64 c] 3)) 32 (.slice A' len' cap')).cell
    rw [World.size_alloc, World.size_alloc] at this; rw [hW0]; exact this
  have hmf : ∀ (fn : Fn) (first cap : Array Value) (w : World), (Instr.makeFunc fn first cap).run Try.prog w = .ok (.func fn first cap) w := fun _ _ _ _ => rfl
  have C1 := Lib.hid c1
  have C2 := Lib.hid c2
  have C3 := Lib.hid c3
  have C4 := Lib.hid c4
  have HX := Lib.hid hx
  have HY := Lib.hid hy
  have HS := Lib.hid hS
  clear c1 c2 c3 c4 hx hy hS hV
  go_enter Try.func47, Try.ntmps47
  go_wp2_with fail
  rw [← hW0]
  clear hW0
  refine (C1.out _ hB0).mono ?_
  rintro e w1 ⟨rfl, hb⟩
  have hB1 := hB0.trans (hb.mono (by omega))
  have p0 := (hb.cell (p := ⟨w.heap.size, 0, none⟩) (show w.heap.size < _ by omega)).trans q0
  have p1 := (hb.cell (p := ⟨w.heap.size + 1, 0, none⟩) (show w.heap.size + 1 < _ by omega)).trans q1
  have p2 := (hb.cell (p := ⟨w.heap.size + 1 + 1, 0, none⟩) (show w.heap.size + 1 + 1 < _ by omega)).trans q2
  have hs1 : w.heap.size + 1 + 1 + 1 ≤ w1.heap.size := by have := hb.size; omega
  have HB1 := Lib.hid hB1
  clear hb q0 q1 q2 hB0 hB1 hs0 C1
  by_cases h0 : checkE l = 0
  case neg =>
    have HF : Hid (false = V) := Lib.hid (by rw [HV.out, decide_eq_false h0]; rfl)
    have hne : (checkE l == 0) = false := by simpa using h0
    generalize checkE l = E at *
    clear HV
    go_wp2_with fail
    go_ret
    exact ⟨ret_bool HF.out, HB1.out⟩
  rw [decide_eq_true h0, Bool.true_and] at HV
  have HP := Lib.hid (check_spec h0)
  rw [h0]
  clear h0
  have c2 := C2.out _ HB1.out
  cases hb2 : bgB l days
  case false =>
    rw [hb2] at c2 HV
    have C2' := Lib.hid c2
    have HF : Hid (false = V) := Lib.hid (by rw [HV.out]; rfl)
    clear HV c2 C2 hb2
    go_wp2_with fail
    refine C2'.out.mono ?_
    rintro e w2 ⟨rfl, rfl⟩
    go_wp2_with fail
    go_ret
    exact ⟨ret_bool HF.out, HB1.out⟩
  have hbb := hb2
  unfold bgB at hbb
  rw [Bool.and_eq_true, decide_eq_true_eq] at hbb
  rw [hb2, Bool.true_and] at HV
  rw [hb2] at c2
  have C2' := Lib.hid c2
  have HDB := Lib.hid (dysB_bd hbb.2)
  have hll : days.length = len' := HY.out.1
  have hle : len' = l.length := by omega
  subst hle
  clear hbb hll hb2 c2 C2
  have c3 := C3.out w1
  cases hw : wi c 1 100
  case false =>
    rw [hw] at c3 HV
    have C3' := Lib.hid c3
    have HF : Hid (false = V) := Lib.hid (by rw [HV.out]; rfl)
    clear HV c3 C3 hw
    go_wp2_with fail
    refine C2'.out.mono ?_
    rintro e w2 ⟨rfl, rfl⟩
    go_wp2_with fail
    refine C3'.out.mono ?_
    rintro e w2 ⟨rfl, rfl⟩
    go_wp2_with fail
    go_ret
    exact ⟨ret_bool HF.out, HB1.out⟩
  rw [hw, Bool.true_and] at HV
  rw [hw] at c3
  have C3' := Lib.hid c3
  clear c3 C3 hw
  go_wp2_with fail
  refine C2'.out.mono ?_
  rintro e w2 ⟨rfl, rfl⟩
  go_wp2_with fail
  refine C3'.out.mono ?_
  rintro e w2 ⟨rfl, rfl⟩
  go_wp2_with fail
  refine (C4.out _ HB1.out).mono ?_
  rintro e w2 ⟨⟨nb, rfl, hnb, hM⟩, hb⟩
  clear C2' C3' C4
  have b0 := (hb.cell (p := ⟨w.heap.size, 0, none⟩) (show w.heap.size < _ by omega)).trans p0
  have b1 := (hb.cell (p := ⟨w.heap.size + 1, 0, none⟩) (show w.heap.size + 1 < _ by omega)).trans p1
  have b2 := (hb.cell (p := ⟨w.heap.size + 1 + 1, 0, none⟩) (show w.heap.size + 1 + 1 < _ by omega)).trans p2
  have hs2 := hb.size
  have HB2 := Lib.hid (HB1.out.trans (hb.mono HB1.out.size))
  have HM := Lib.hid hM
  have ba := cell_kept (cell_kept b0 (World.grownBy_alloc w2 (.cells #[.map (some nb)] 68) none) (fun r e => by cases e)) (World.grownBy_alloc _ (.cells #[.func (.func 93) #[] #[.pointer (some ⟨w.heap.size, 0, none⟩), .pointer (some ⟨w.heap.size + 1 + 1, 0, none⟩), .pointer (some ⟨w2.heap.size, 0, none⟩)], .func (.func 95) #[] #[.pointer (some ⟨w.heap.size, 0, none⟩), .pointer (some ⟨w.heap.size + 1 + 1, 0, none⟩), .pointer (some ⟨w.heap.size + 1, 0, none⟩)]] 87) none) (fun r e => by cases e)
  clear hb p0 p1 p2 hM
  go_wp2_with fail
  obtain ⟨WK, hWK⟩ : ∃ WK, WK = (w2.alloc (.cells #[.map (some nb)] 68)).alloc (.cells #[.func (.func 93) #[] #[.pointer (some ⟨w.heap.size, 0, none⟩), .pointer (some ⟨w.heap.size + 1 + 1, 0, none⟩), .pointer (some ⟨w2.heap.size, 0, none⟩)], .func (.func 95) #[] #[.pointer (some ⟨w.heap.size, 0, none⟩), .pointer (some ⟨w.heap.size + 1 + 1, 0, none⟩), .pointer (some ⟨w.heap.size + 1, 0, none⟩)]] 87) := ⟨_, rfl⟩
  rw [← hWK]
  have hbk : Below w2.heap.size w2 WK := by rw [hWK]; exact ((Below.refl _ _).alloc (Nat.le_refl _) _).alloc (by simp) _
  have hsk : WK.heap.size = w2.heap.size + 1 + 1 := by rw [hWK]; simp
  have k1 : WK.cell? ⟨w2.heap.size, 0, none⟩ = some (.map (some nb)) := by rw [hWK]; exact ((Boxed.new w2 68 (.map (some nb))).alloc _).cell
  have k2 : ∀ j u, ([.func (.func 93) #[] #[.pointer (some ⟨w.heap.size, 0, none⟩), .pointer (some ⟨w.heap.size + 1 + 1, 0, none⟩), .pointer (some ⟨w2.heap.size, 0, none⟩)], .func (.func 95) #[] #[.pointer (some ⟨w.heap.size, 0, none⟩), .pointer (some ⟨w.heap.size + 1 + 1, 0, none⟩), .pointer (some ⟨w.heap.size + 1, 0, none⟩)]] : List Value)[j]? = some u → WK.cell? ⟨w2.heap.size + 1, j, none⟩ = some u := fun j u hj => by
    rw [hWK]
    have hn := World.alloc_heap_new (w2.alloc (.cells #[.map (some nb)] 68)) (.cells #[.func (.func 93) #[] #[.pointer (some ⟨w.heap.size, 0, none⟩), .pointer (some ⟨w.heap.size + 1 + 1, 0, none⟩), .pointer (some ⟨w2.heap.size, 0, none⟩)], .func (.func 95) #[] #[.pointer (some ⟨w.heap.size, 0, none⟩), .pointer (some ⟨w.heap.size + 1 + 1, 0, none⟩), .pointer (some ⟨w.heap.size + 1, 0, none⟩)]] 87)
    rw [World.size_alloc] at hn
    unfold World.cell?
    dsimp only
    rw [hn]
    simpa using hj
  have g0 := k2 0 _ rfl
  have g1 := k2 1 _ rfl
  have hRK : RtR w.heap.size (w.heap.size + 1 + 1) w2.heap.size nb A cap l A' cap' days WK :=
    ⟨(hbk.cell (p := ⟨w.heap.size, 0, none⟩) (show w.heap.size < _ by omega)).trans b0, (hbk.cell (p := ⟨w.heap.size + 1 + 1, 0, none⟩) (show w.heap.size + 1 + 1 < _ by omega)).trans b2, k1, HM.out.below hbk, (HX.out.go HB2.out).go hbk, (((HY.out.below HB2.out).more HB2.out.size).below hbk).more hbk.size⟩
  have hcK := (hbk.cell (p := ⟨w.heap.size + 1, 0, none⟩) (show w.heap.size + 1 < _ by omega)).trans b1
  have HBK := Lib.hid (HB2.out.trans (hbk.mono HB2.out.size))
  have HRK := Lib.hid hRK
  have HCK := Lib.hid hcK
  have HG0 := Lib.hid g0
  have HG1 := Lib.hid g1
  have hlg : w2.heap.size + 1 < WK.heap.size := by omega
  have hlc : w.heap.size + 1 < WK.heap.size := by omega
  have hL : l.length ≤ 20 := HP.out.len
  clear hWK hbk k1 k2 g0 g1 hRK hcK b0 b1 b2 ba HM HB2 HB1 hnb hsk
  go_loopw [33] (fun i W => ∃ k : Nat, k ≤ l.length ∧ i = .int .i64 (k : Int) ∧ Hid (∀ j, j < k → (rtA l days j && rtB l c days j) = true) ∧ Hid (Below WK.heap.size WK W)) (fun i _ => l.length - (intOf i).toNat)
  case atStart => exact ⟨0, Nat.zero_le _, rfl, Lib.hid (fun j hj => absurd hj (by omega)), Lib.hid (Below.refl _ _)⟩
  case round =>
    obtain ⟨k, hk, rfl, hT, HB⟩ := hrel
    have hbs := HB.out.size
    by_cases hlt : k < l.length
    · have hB1 : Below WK.heap.size WK (wr.alloc (.cells #[.int .i64 (k : Int)] 3)) := HB.out.alloc hbs _
      have hR1 := HRK.out.go hB1
      have hc1 := (hB1.cell (p := ⟨w.heap.size + 1, 0, none⟩) hlc).trans HCK.out
      have hg0 := (hB1.cell (p := ⟨w2.heap.size + 1, 0, none⟩) hlg).trans HG0.out
      have hg1 := (hB1.cell (p := ⟨w2.heap.size + 1, 1, none⟩) hlg).trans HG1.out
      have ck := keepAny_any k wr.heap.size w.heap.size (w.heap.size + 1 + 1) w2.heap.size (w.heap.size + 1) (w2.heap.size + 1) (rtA l days k) (rtB l c days k) (wr.alloc (.cells #[.int .i64 (k : Int)] 3)) (Boxed.new wr 3 (.int .i64 (k : Int))).cell hg0 hg1
        (fun W hb => right1_any k w.heap.size (w.heap.size + 1 + 1) w2.heap.size nb A cap l A' cap' days W HS.out HP.out HDB.out hlt (hR1.go hb))
        (fun W hb => right2_any k w.heap.size (w.heap.size + 1 + 1) w2.heap.size nb (w.heap.size + 1) A cap l A' cap' days c W HP.out HDB.out hlt (hR1.go hb) ((hb.cell (p := ⟨w.heap.size + 1, 0, none⟩) (by simp; omega)).trans hc1))
      have k1 : (k : Int) < l.length := by omega
      have k2 : ¬ l.length ≤ k := by omega
      have HB1 := Lib.hid hB1
      cases hv : rtA l days k && rtB l c days k
      · have HF : Hid (false = V) := Lib.hid (by rw [HV.out, rightA_no hlt hv])
        rw [hv] at ck
        have CK := Lib.hid ck
        clear ck hv hT hR1 hc1 hg0 hg1 hB1
        go_wp2_with fail
        refine CK.out.mono ?_
        rintro e w5 ⟨rfl, hb⟩
        have HB5 := Lib.hid (HBK.out.trans ((HB1.out.trans (hb.mono HB1.out.size)).mono HBK.out.size))
        clear hb
        go_wp2
        go_ret
        exact ⟨ret_bool HF.out, HB5.out⟩
      · have hT2 : Hid (∀ j, j < k + 1 → (rtA l days j && rtB l c days j) = true) := Lib.hid (fun j hj => if e : j = k then (by rw [e]; exact hv) else hT.out j (by omega))
        rw [hv] at ck
        have CK := Lib.hid ck
        clear ck hv hT hR1 hc1 hg0 hg1 hB1
        go_wp2_with fail
        refine CK.out.mono ?_
        rintro e w5 ⟨rfl, hb⟩
        have HB5 := Lib.hid (HB1.out.trans (hb.mono HB1.out.size))
        clear hb
        go_wp2
        go_roundw
        case rel => exact ⟨k + 1, by omega, by go_num, hT2, HB5⟩
        case measure => simp [intOf]; omega
    · have k1 : ¬ (k : Int) < l.length := by omega
      have HF : Hid (true = V) := Lib.hid (by rw [HV.out, rightA_yes fun j hj => hT.out j (by omega)])
      clear hT
      go_wp2
      go_ret
      exact ⟨ret_bool HF.out, HBK.out.trans (HB.out.mono HBK.out.size)⟩
end Go.Proofs.Ytgijekhlbkfanaa

namespace Go.Proofs.Ytgijekhlbkfanaa
open Go.RowKit Go.Shelf
attribute [local go_sem] Later.cell Same.cell

/-- Afters, one by one. -/
theorem rtA_afs {l : List Tk} {days : List Int} {i : Nat} : rtA l days i = (afs l i).all fun a => decide (gI days a + dyA l a ≤ gI days i) := by
  unfold rtA afs
  rw [List.all_map, List.any_eq_not_all_not, Bool.not_not]
  refine List.all_congr rfl fun s => ?_
  unfold rt1
  show (!decide _) = decide _
  by_cases h : gI days i < gI days (fnd l s) + dyA l (fnd l s)
  · rw [decide_eq_true h, decide_eq_false (by omega)]; rfl
  · rw [decide_eq_false h, decide_eq_true (by omega)]; rfl
theorem rtA_no {l : List Tk} {days : List Int} {i j : Nat} (hj : j < (afs l i).length) (h : gI days i < gI days (afs l i)[j] + dyA l (afs l i)[j]) : rtA l days i = false := by
  rw [rtA_afs]
  cases hq : (afs l i).all fun a => decide (gI days a + dyA l a ≤ gI days i) with
  | false => rfl
  | true =>
    have := List.all_eq_true.1 hq _ (List.getElem_mem hj)
    rw [decide_eq_true_eq] at this
    omega
theorem rtA_yes {l : List Tk} {days : List Int} {i : Nat} (h : ∀ j (hj : j < (afs l i).length), gI days (afs l i)[j] + dyA l (afs l i)[j] ≤ gI days i) : rtA l days i = true := by
  rw [rtA_afs, List.all_eq_true]
  intro a ha
  obtain ⟨j, hj, rfl⟩ := List.getElem_of_mem ha
  exact decide_eq_true (h j hj)
set_option maxRecDepth 20000 in
set_option maxHeartbeats 8000000 in
theorem rRight_ok (A : Option Addr) (len cap : Nat) (l : List Tk) (c : Int) (A' : Option Addr) (cap' : Nat) (days : List Int) (w : World) (hS : Sml l) (hc0 : checkE l = 0) (hw : wi c 1 100 = true) (hbg : bgB l days = true) (hx : Plan w w.heap.size A len l) (hy : Ints w w.heap.size A' len days) :
    Calls Try.prog 48 #[.slice A len cap, .int .i64 c, .slice A' len cap'] w fun e w' => e = .returned (.bool (rightA l c days)) ∧ Below w.heap.size w w' := by
  obtain rfl : l.length = len := hx.1
  have hP := check_spec hc0
  have hbb := hbg
  unfold bgB at hbb
  rw [Bool.and_eq_true, decide_eq_true_eq] at hbb
  have hd := dysB_bd hbb.2
  have c1 := rCheck_any A l.length cap l w hS hx
  rw [hc0] at c1
  have c2 := fun W (h : Below w.heap.size w W) => dated_any A l.length cap l A' l.length cap' days W (by have := hS.len; omega) (by have := hS.len; omega) rfl ((hy.below h).more h.size)
  rw [hbg] at c2
  have c3 := fun W => qwithin_any c 1 100 W
  rw [hw] at c3
  have c4 := fun i W (h : Below w.heap.size w W) (hi : i < l.length) => afters_any A l.length cap l i W (by have := hP.len; omega) hi (by have := hP.few i hi; omega) (hx.go h)
  have haz : ∀ i, i < l.length → afZ l i = iN (afs l i) := fun i hi => afZ_afs (hP.known i hi)
  have c5 := fun i W (h : Below w.heap.size w W) => rmen_any A l.length cap l A' cap' days (gI days i) W hP (hx.go h) ((hy.below h).more h.size) hd
  obtain ⟨V, hV⟩ : ∃ V, V = rightA l c days := ⟨_, rfl⟩
  rw [← hV]
  have HV := Lib.hid hV
  have C1 := Lib.hid c1
  have C2 := Lib.hid c2
  have C3 := Lib.hid c3
  have C4 := Lib.hid c4
  have C5 := Lib.hid c5
  have HAZ := Lib.hid haz
  have HX := Lib.hid hx
  have HY := Lib.hid hy
  have HP := Lib.hid hP
  have HD := Lib.hid hd
  have hL := hP.len
  clear c1 c2 c3 c4 c5 haz hx hy hP hd hV hbb hbg hw hc0 hS
  go_enter Try.func48, Try.ntmps48
  go_wp2_with fail
  refine C1.out.mono ?_
  rintro e w1 ⟨rfl, hb⟩
  have HB := Lib.hid hb
  clear hb C1
  go_wp2_with fail
  refine (C3.out _).mono ?_
  rintro e w2 ⟨rfl, rfl⟩
  go_wp2_with fail
  refine (C2.out _ HB.out).mono ?_
  rintro e w2 ⟨rfl, rfl⟩
  clear C2 C3
  go_wp2_with fail
  go_loopw [7] (fun i W => ∃ k : Nat, k ≤ l.length ∧ i = .int .i64 (k : Int) ∧ Hid (∀ j, j < k → (rtA l days j && rtB l c days j) = true) ∧ Hid (Below w.heap.size w W)) (fun i _ => l.length - (intOf i).toNat)
  case atStart => exact ⟨0, Nat.zero_le _, rfl, Lib.hid (fun j hj => absurd hj (by omega)), HB⟩
  case round =>
    obtain ⟨k, hk, rfl, hT, HBr⟩ := hrel
    have hbs := HBr.out.size
    by_cases hlt : k < l.length
    · have c3 := C4.out k wr HBr.out hlt
      rw [HAZ.out _ hlt, iN_len] at c3
      have hfew := HP.out.few _ hlt
      have hal := afs_len l k
      have hm10 : (afs l k).length ≤ 10 := by omega
      have k1 : (k : Int) < l.length := by omega
      have k2 : ¬ l.length ≤ k := by omega
      have C3 := Lib.hid c3
      clear c3 hal hfew
      go_wp2_with fail
      refine C3.out.mono ?_
      rintro e w4 ⟨⟨v4, rfl, ho4⟩, hb4⟩
      obtain ⟨A4, cap4, rfl, hq4, hq5, hI4, -⟩ := own_ints ho4
      have HB4 := Lib.hid (HBr.out.trans (hb4.mono hbs))
      have HI4 := Lib.hid hI4
      clear ho4 hI4 C3 hb4
      go_wp2_with fail
      go_loopw [9] (fun i' W => ∃ j : Nat, j ≤ (afs l k).length ∧ i' = .int .i64 (j : Int) ∧ Hid (∀ q (hq : q < (afs l k).length), q < j → gI days (afs l k)[q] + dyA l (afs l k)[q] ≤ gI days k) ∧ Hid (Below w4.heap.size w4 W)) (fun i' _ => (afs l k).length - (intOf i').toNat)
      case atStart => exact ⟨0, Nat.zero_le _, rfl, Lib.hid (fun q hq hj => absurd hj (by omega)), Lib.hid (Below.refl _ _)⟩
      case round =>
        obtain ⟨j, hj, rfl, hTj, HBj⟩ := hrel
        have hbj := HBj.out.size
        have hB5 := HB4.out.trans (HBj.out.mono HB4.out.size)
        have HB5 := Lib.hid hB5
        by_cases hlj : j < (afs l k).length
        · obtain ⟨b5, off5, rfl, hb5, hc5⟩ := (HI4.out.below HBj.out).at_ j hlj
          change wr.cell? _ = some (.int .i64 (gI (iN (afs l k)) j)) at hc5
          rw [iN_at hlj] at hc5
          have hal := afs_lt HP.out hlt (List.getElem_mem hlj)
          have hno := fun h => rtA_no (days := days) hlj h
          have hyes : gI days (afs l k)[j] + dyA l (afs l k)[j] ≤ gI days k → ∀ q (hq : q < (afs l k).length), q < j + 1 → gI days (afs l k)[q] + dyA l (afs l k)[q] ≤ gI days k := fun h q hq hqj => by
            by_cases e : q = j
            · subst e; exact h
            · exact hTj.out q hq (by omega)
          generalize (afs l k)[j] = a at *
          obtain ⟨b, off, rfl, hb0, -, hc2, -, -⟩ := (HX.out.below hB5).at_ a hal
          obtain ⟨b2, off2, rfl, hb2, hc6⟩ := (HY.out.below hB5).at_ a hal
          obtain ⟨b3, off3, e3, hb3, hc7⟩ := (HY.out.below hB5).at_ k hlt
          injection e3 with e3
          injection e3 with e31 e32
          subst e31 e32
          change wr.cell? _ = some (.int .i64 (gI days a)) at hc6
          change wr.cell? _ = some (.int .i64 (gI days k)) at hc7
          have hda := dy_bd HP.out hal
          change 1 ≤ (tkA l a).dy ∧ (tkA l a).dy ≤ 1000 at hda
          have hdv : dyA l a = (tkA l a).dy := rfl
          rw [hdv] at hno hyes
          have hga := HD.out a
          have hgk := HD.out k
          have hb1 : b < wr.heap.size := by have := hB5.size; omega
          have hb3' : b2 < wr.heap.size := by have := hB5.size; omega
          have hb5' : b5 < wr.heap.size := by omega
          have a1 : (a : Int) < l.length := by omega
          have a2 : ¬ l.length ≤ a := by omega
          have j1 : (j : Int) < (afs l k).length := by omega
          have j2 : ¬ (afs l k).length ≤ j := by omega
          generalize (tkA l a).dy = Y at *
          generalize gI days a = Ga at *
          generalize gI days k = Gk at *
          have hwr : wrap64 (Ga + Y) = Ga + Y := IntWalk.wrap64_in _ ⟨by omega, by omega⟩
          by_cases hgt : Gk < Ga + Y
          · have HF : Hid (false = V) := Lib.hid (by rw [HV.out]; exact (rightA_no hlt (by rw [hno hgt, Bool.false_and])).symm)
            clear hno hyes hdv hB5 hTj hT
            go_wp2_with fail
            (refine wp_region_later (by kernel_rfl) (by kernel_rfl) ?_; (repeat (go_big_quiet_step ((fail)))); refine wpQuiet_nil ?_)
            intro w6 hb6
            have HB6 := Lib.hid (HB5.out.trans (hb6.mono HB5.out.size))
            clear hb6
            go_wp2_with fail
            go_ret
            exact ⟨ret_bool HF.out, HB6.out⟩
          · have HTN := Lib.hid (hyes (by omega))
            clear hno hyes hdv hB5 hTj hT
            go_wp2_with fail
            (refine wp_region_later (by kernel_rfl) (by kernel_rfl) ?_; (repeat (go_big_quiet_step ((fail)))); refine wpQuiet_nil ?_)
            intro w6 hb6
            have HB6 := Lib.hid (HBj.out.trans (hb6.mono HBj.out.size))
            clear hb6
            go_wp2_with fail
            go_roundw
            case rel => exact ⟨j + 1, by omega, by go_num, HTN, HB6⟩
            case measure => simp [intOf]; omega
        · have hjn : j = (afs l k).length := by omega
          have j1 : ¬ (j : Int) < (afs l k).length := by omega
          have HRA := Lib.hid (rtA_yes (days := days) fun q hq => hTj.out q hq (by omega))
          have c5 := C5.out k wr HB5.out
          obtain ⟨b3, off3, rfl, hb3, hc7⟩ := (HY.out.below HB5.out).at_ k hlt
          change wr.cell? _ = some (.int .i64 (gI days k)) at hc7
          have hno := fun h => rightA_no (c := c) (days := days) hlt (by rw [HRA.out, Bool.true_and]; exact decide_eq_false h)
          have hyes : menV l days (gI days k) ≤ c → ∀ q, q < k + 1 → (rtA l days q && rtB l c days q) = true := fun h q hq => by
            by_cases e : q = k
            · subst e; rw [HRA.out, Bool.true_and]; exact decide_eq_true h
            · exact hT.out q (by omega)
          generalize menV l days (gI days k) = MV at *
          generalize gI days k = Gk at *
          have C5' := Lib.hid c5
          by_cases hgt : MV ≤ c
          · have hgt2 : ¬ c < MV := by omega
            have HTN := Lib.hid (hyes hgt)
            clear hno hyes hTj hT hB5 c5 HRA
            go_wp2_with fail
            refine C5'.out.mono ?_
            rintro e w6 ⟨rfl, hb6⟩
            have HB6 := Lib.hid (HB5.out.trans (hb6.mono HB5.out.size))
            clear hb6
            go_wp2_with fail
            go_roundw
            case rel => exact ⟨k + 1, by omega, by go_num, HTN, HB6⟩
            case measure => simp [intOf]; omega
          · have hgt2 : c < MV := by omega
            have HF : Hid (false = V) := Lib.hid (by rw [HV.out]; exact (hno hgt).symm)
            clear hno hyes hTj hT hB5 c5 HRA
            go_wp2_with fail
            refine C5'.out.mono ?_
            rintro e w6 ⟨rfl, hb6⟩
            have HB6 := Lib.hid (HB5.out.trans (hb6.mono HB5.out.size))
            clear hb6
            go_wp2_with fail
            go_ret
            exact ⟨ret_bool HF.out, HB6.out⟩
    · have k1 : ¬ (k : Int) < l.length := by omega
      have HF : Hid (true = V) := Lib.hid (by rw [HV.out]; exact (rightA_yes fun j hj => hT.out j (by omega)).symm)
      clear hT
      go_wp2_with fail
      go_ret
      exact ⟨ret_bool HF.out, HBr.out⟩
set_option maxHeartbeats 4000000 in
theorem rRight_any (A : Option Addr) (len cap : Nat) (l : List Tk) (c : Int) (A' : Option Addr) (len' cap' : Nat) (days : List Int) (w : World) (hS : Sml l) (hm' : len' ≤ 9223372036854775807) (hx : Plan w w.heap.size A len l) (hy : Ints w w.heap.size A' len' days) :
    Calls Try.prog 48 #[.slice A len cap, .int .i64 c, .slice A' len' cap'] w fun e w' => e = .returned (.bool (rightV l c days)) ∧ Below w.heap.size w w' := by
  obtain rfl : l.length = len := hx.1
  have c1 := rCheck_any A l.length cap l w hS hx
  have c2 := fun W (h : Below w.heap.size w W) => dated_any A l.length cap l A' len' cap' days W (by have := hS.len; omega) hm' rfl ((hy.below h).more h.size)
  have c3 := fun W => qwithin_any c 1 100 W
  by_cases h0 : checkE l = 0
  case neg =>
    have hv : rightV l c days = false := by unfold rightV; rw [decide_eq_false h0]; rfl
    rw [hv]
    have hne : (checkE l == 0) = false := by simpa using h0
    have hne2 : (checkE l != 0) = true := by simpa using h0
    generalize checkE l = E at *
    have C1 := Lib.hid c1
    clear c1 c2 c3 h0 hx hy hv hS
    go_enter Try.func48, Try.ntmps48
    go_wp2_with fail
    refine C1.out.mono ?_
    rintro e w1 ⟨rfl, hb⟩
    have HB := Lib.hid hb
    clear hb
    go_wp2_with fail
    go_ret
    exact ⟨rfl, HB.out⟩
  rw [h0] at c1
  cases hw : wi c 1 100
  case false =>
    have hv : rightV l c days = false := by unfold rightV; rw [hw, Bool.false_and, Bool.and_false, Bool.and_false]
    rw [hv]
    rw [hw] at c3
    have C1 := Lib.hid c1
    have C3 := Lib.hid c3
    clear c1 c2 c3 h0 hx hy hv hS hw
    go_enter Try.func48, Try.ntmps48
    go_wp2_with fail
    refine C1.out.mono ?_
    rintro e w1 ⟨rfl, hb⟩
    have HB := Lib.hid hb
    clear hb
    go_wp2_with fail
    refine (C3.out _).mono ?_
    rintro e w2 ⟨rfl, rfl⟩
    go_wp2_with fail
    go_ret
    exact ⟨rfl, HB.out⟩
  cases hbg : bgB l days
  case false =>
    have hv : rightV l c days = false := by unfold rightV; rw [hbg, Bool.false_and, Bool.and_false]
    rw [hv]
    rw [hw] at c3
    rw [hbg] at c2
    have C1 := Lib.hid c1
    have C2 := Lib.hid c2
    have C3 := Lib.hid c3
    clear c1 c2 c3 h0 hx hy hv hS hw hbg
    go_enter Try.func48, Try.ntmps48
    go_wp2_with fail
    refine C1.out.mono ?_
    rintro e w1 ⟨rfl, hb⟩
    have HB := Lib.hid hb
    clear hb
    go_wp2_with fail
    refine (C3.out _).mono ?_
    rintro e w2 ⟨rfl, rfl⟩
    go_wp2_with fail
    refine (C2.out _ HB.out).mono ?_
    rintro e w2 ⟨rfl, rfl⟩
    go_wp2_with fail
    go_ret
    exact ⟨rfl, HB.out⟩
  have hbb := hbg
  unfold bgB at hbb
  rw [Bool.and_eq_true, decide_eq_true_eq] at hbb
  have hll : days.length = len' := hy.1
  have hle : len' = l.length := by omega
  subst hle
  rw [show rightV l c days = rightA l c days from by unfold rightV; rw [decide_eq_true h0, hbg, hw]; simp]
  exact rRight_ok A l.length cap l c A' cap' days w hS h0 hw hbg hx hy
end Go.Proofs.Ytgijekhlbkfanaa

namespace Go.Proofs.Ytgijekhlbkfanaa
open Go.RowKit Go.Shelf
attribute [local go_sem] Later.cell Same.cell

set_option maxRecDepth 20000 in
set_option maxHeartbeats 8000000 in
theorem rBound_ok (A : Option Addr) (len cap : Nat) (l : List Tk) (c : Int) (w : World) (hS : Sml l) (hP : okP l) (hE : crewE l c = 0) (hcb : 1 ≤ c ∧ c ≤ 100) (hx : Plan w w.heap.size A len l) :
    Calls Try.prog 54 #[.slice A len cap, .int .i64 c] w fun e w' => e = .returned (.tuple #[.int .i64 (if ceilV l c < lenV l then lenV l else ceilV l c), .int .i64 0]) ∧ Below w.heap.size w w' := by
  obtain rfl : l.length = len := hx.1
  have c1 := strong_any A l.length cap l c w hS hx
  rw [hE] at c1
  have c2 := fun W (h : Below w.heap.size w W) => rearliest_any A l.length cap l W hS hP (hx.go h)
  have c3 := fun A' cap' W (h : Below w.heap.size w W) (hy : Ints W W.heap.size A' l.length (ear l)) => rends_any A l.length cap l A' cap' (ear l) W hP (hx.go h) hy (ear_bdE hP)
  change ∀ A' cap' W _ _, Calls _ _ _ _ (fun e w' => e = .returned (.int .i64 (lenV l)) ∧ _) at c3
  have hL := hP.len
  have hwb := wkG_bd hP l.length (Nat.le_refl _)
  have hwk : sN (wkG l) l.length = wrkV l := rfl
  rw [hwk] at hwb
  have hcv : ceilV l c = (wrkV l + c - 1) / c := rfl
  have hlb := lenV_bd hP
  have hdv : Int.tdiv (wrkV l + c - 1) c = (wrkV l + c - 1) / c := Int.tdiv_eq_ediv_of_nonneg (by omega)
  have hdb : 0 ≤ (wrkV l + c - 1) / c ∧ (wrkV l + c - 1) / c ≤ 1000000 := by
    refine ⟨Int.ediv_nonneg (by omega) (by omega), ?_⟩
    have := Int.ediv_le_self (b := c) (a := wrkV l + c - 1) (by omega)
    omega
  have HX := Lib.hid hx
  have HP := Lib.hid hP
  have HWB := Lib.hid (fun k hk => wkG_bd hP k hk)
  have C1 := Lib.hid c1
  have C2 := Lib.hid c2
  have C3 := Lib.hid c3
  have HDV := Lib.hid hdv
  have HCV := Lib.hid hcv
  have HWK := Lib.hid hwk
  generalize wrkV l = WK at *
  generalize lenV l = LV at *
  generalize ceilV l c = CV at *
  obtain ⟨MX, hMX⟩ : ∃ MX, MX = if CV < LV then LV else CV := ⟨_, rfl⟩
  rw [← hMX]
  have HMX := Lib.hid hMX
  clear c1 c2 c3 hx hP hE hwk hcv hdv hMX
  go_enter Try.func54, Try.ntmps54
  go_wp2_with fail
  refine C1.out.mono ?_
  rintro e w1 ⟨rfl, hb⟩
  have HB := Lib.hid hb
  clear hb C1
  go_wp2_with fail
  go_loopw [7, 8] (fun v i W => ∃ k : Nat, k ≤ l.length ∧ i = .int .i64 (k : Int) ∧ v = .int .i64 (sN (wkG l) k) ∧ Below w.heap.size w W) (fun _ i _ => l.length - (intOf i).toNat)
  case atStart => exact ⟨0, Nat.zero_le _, rfl, rfl, HB.out⟩
  case round =>
    obtain ⟨k, hk, rfl, rfl, hB⟩ := hrel
    have hbs := hB.size
    by_cases hlt : k < l.length
    · obtain ⟨b, off, rfl, hb0, hc1, hc2, hc3, -⟩ := (HX.out.below hB).at_ k hlt
      have hk1 : (k : Int) < l.length := by omega
      have hk2 : ¬ l.length ≤ k := by omega
      have hb1 : b < wr.heap.size := by omega
      have hm := HWB.out k hk
      have hnx : sN (wkG l) (k + 1) = sN (wkG l) k + (tkA l k).mn * (tkA l k).dy := rfl
      have h2 := mnA_bd HP.out hlt
      have h3 := dy_bd HP.out hlt
      have h4 := mul_bd (x := mnA l k) (y := dyA l k) (X := 16) (Y := 1000) ⟨by omega, h2.2⟩ ⟨by omega, h3.2⟩
      change 0 ≤ (tkA l k).mn * (tkA l k).dy ∧ (tkA l k).mn * (tkA l k).dy ≤ _ at h4
      generalize (tkA l k).dy = Y at *
      generalize (tkA l k).mn = Z at *
      generalize sN (wkG l) k = M at *
      have hwm : wrap64 (Z * Y) = Z * Y := IntWalk.wrap64_in _ ⟨by omega, by omega⟩
      have hwr : wrap64 (M + Z * Y) = M + Z * Y := IntWalk.wrap64_in _ ⟨by omega, by omega⟩
      have HNX := Lib.hid hnx
      clear hnx h4 hc1
      go_wp2_with fail
      (refine wp_region_later (by kernel_rfl) (by kernel_rfl) ?_; (repeat (go_big_quiet_step ((fail)))); refine wpQuiet_nil ?_)
      intro w3 hb3
      have hB3 := hB.trans (hb3.mono hbs)
      clear hb3
      go_wp2
      go_roundw
      case rel => exact ⟨k + 1, by omega, by go_num, by rw [HNX.out, hwr], hB3⟩
      case measure => simp [intOf]; omega
    · have hkl : k = l.length := by omega
      have hk1 : ¬ (k : Int) < l.length := by omega
      have HB1 := Lib.hid hB
      subst hkl
      rw [HWK.out]
      have hw1 : wrap64 (WK + c) = WK + c := IntWalk.wrap64_in _ ⟨by omega, by omega⟩
      have hw2 : wrap64 (WK + c - 1) = WK + c - 1 := IntWalk.wrap64_in _ ⟨by omega, by omega⟩
      have hne : ¬ c = 0 := by omega
      have hdv := HDV.out
      rw [← HCV.out] at hdv hdb
      clear hB
      go_wp2_with fail
      refine (C2.out _ HB1.out).mono ?_
      rintro e w4 ⟨⟨v, rfl, ho⟩, hb⟩
      obtain ⟨A1, cap1, rfl, -, -, hI1, -⟩ := own_ints ho
      have HB4 := Lib.hid (HB1.out.trans (hb.mono HB1.out.size))
      have HI := Lib.hid hI1
      clear hb ho hI1
      go_wp2_with fail
      refine (C3.out A1 cap1 _ HB4.out HI.out).mono ?_
      rintro e w5 ⟨rfl, hb⟩
      have HB5 := Lib.hid (HB4.out.trans (hb.mono HB4.out.size))
      clear hb
      clear hw1 hw2 hdv
      by_cases hcl : CV < LV
      · have HF : Hid (LV = MX) := Lib.hid (by rw [HMX.out, if_pos hcl])
        go_wp2_with fail
        go_ret2
        exact ⟨by rw [← HF.out]; rfl, HB5.out⟩
      · have HF : Hid (CV = MX) := Lib.hid (by rw [HMX.out, if_neg hcl])
        go_wp2_with fail
        go_ret2
        exact ⟨by rw [← HF.out]; rfl, HB5.out⟩
set_option maxHeartbeats 2000000 in
theorem rBound_any (A : Option Addr) (len cap : Nat) (l : List Tk) (c : Int) (w : World) (hS : Sml l) (hx : Plan w w.heap.size A len l) :
    Calls Try.prog 54 #[.slice A len cap, .int .i64 c] w fun e w' => e = .returned (.tuple #[.int .i64 (bndV l c), .int .i64 (crewE l c)]) ∧ Below w.heap.size w w' := by
  by_cases hE : crewE l c = 0
  · have hk := crewE_ok hE
    rw [show bndV l c = if ceilV l c < lenV l then lenV l else ceilV l c from if_pos hE, hE]
    exact rBound_ok A len cap l c w hS (check_spec hk.1) hE hk.2 hx
  · rw [show bndV l c = 0 from if_neg hE]
    have c1 := strong_any A len cap l c w hS hx
    have hne : (crewE l c == 0) = false := by simpa using hE
    generalize crewE l c = E at *
    have C1 := Lib.hid c1
    clear c1 hE hx hS
    go_enter Try.func54, Try.ntmps54
    go_wp2_with fail
    refine C1.out.mono ?_
    rintro e w1 ⟨rfl, hb⟩
    have HB := Lib.hid hb
    clear hb
    go_wp2_with fail
    go_ret2
    exact ⟨rfl, HB.out⟩
end Go.Proofs.Ytgijekhlbkfanaa

namespace Go.Proofs.Ytgijekhlbkfanaa
open Go.RowKit
attribute [local go_sem] Later.cell Same.cell

theorem lst_bg {l : List Tk} {c : Int} (hP : okP l) (hm : ∀ i, i < l.length → mnA l i ≤ c) : bgB l (LST l c) = true := by
  have h := LST_is hP hm
  have hd : dysB (LST l c) = true := by
    unfold dysB
    rw [List.all_eq_true]
    intro d hd
    obtain ⟨i, hi, rfl⟩ := List.getElem_of_mem hd
    have hi' : i < l.length := by rw [← h.len]; exact hi
    have h1 := h.pos i hi'
    have h2 := totD_bd hP
    have h3 := hP.len
    rw [show gI (LST l c) i = (LST l c)[i] from by unfold gI; rw [List.getElem?_eq_getElem hi]; rfl] at h1
    exact wi_iff.2 (by omega)
  unfold bgB
  rw [hd, decide_eq_true h.len]; rfl
theorem lst_right {l : List Tk} {c : Int} (hE : crewE l c = 0) : rightV l c (LST l c) = true := by
  have hk := crew_ok hE
  have hP := check_spec hk.1
  have h := LST_is hP hk.2.2
  unfold rightV
  rw [decide_eq_true hk.1, lst_bg hP hk.2.2, wi_iff.2 hk.2.1, rightA_yes]
  · rfl
  · intro k hk2
    have h1 : rtA l (LST l c) k = true := by
      rw [rtA_afs, List.all_eq_true]
      intro a ha
      exact decide_eq_true (h.aft k hk2 a ha)
    have h2 : rtB l c (LST l c) k = true := decide_eq_true (h.crew _)
    rw [h1, h2]; rfl
theorem sched_fin (l : List Tk) (c : Int) (hE : crewE l c = 0) : rightV l c (lstX l c) = true ∧ endE l (lstX l c) = 0 ∧ bndV l c ≤ endV l (lstX l c) := by
  have hk := crew_ok hE
  have hP := check_spec hk.1
  have h := LST_is hP hk.2.2
  have hX : lstX l c = LST l c := if_pos hE
  have hEE : endE l (LST l c) = 0 := by
    unfold endE
    rw [if_pos hk.1, if_pos (lst_bg hP hk.2.2)]
  rw [hX]
  refine ⟨lst_right hE, hEE, ?_⟩
  unfold bndV endV
  rw [if_pos hE, if_pos hEE]
  have h1 := h.ceil_le hP hk.2.1.1
  have h2 := h.len_le hP
  split
  · exact h2
  · exact h1
set_option maxRecDepth 20000 in
set_option maxHeartbeats 16000000 in
theorem schedules_walk (A : Option Addr) (len cap : Nat) (xs : List TkR) (c : Int) (A' : Option Addr) (len' cap' : Nat) (days : List Int) (day : Int) (w : World) (hlc : len ≤ cap ∧ cap ≤ 9223372036854775807) (hP : Rows 4 tk4 dTR w w.heap.size A len xs) (hg : ∀ x ∈ xs, gTk w x) (hY : Ints w w.heap.size A' len' days) :
    Calls Try.prog 9 #[.slice A len cap, .int .i64 c, .slice A' len' cap', .int .i64 day] w fun e w' => e = .returned (.bool true) ∧ Below w.heap.size w w' := by
  have hx := plan_in hP hg
  obtain ⟨l, hl⟩ : ∃ l, l = xs.map (·.2) := ⟨_, rfl⟩
  rw [← hl] at hx
  have hSm : l.length ≤ 1000 → (∀ i, i < l.length → (tkA l i).af.length ≤ 1000) → Sml l := fun a b => by rw [hl] at a b ⊢; exact sml_in hg a b
  clear hP hg hl
  obtain rfl : l.length = len := hx.1
  have c0 := fun W => awake9_any W
  have cm := fun W (h : Below w.heap.size w W) => many_any A l.length cap l W (by omega) (hx.go h)
  have C0 := Lib.hid c0
  have CM := Lib.hid cm
  have HB0 := Lib.hid (Below.refl w.heap.size w)
  have HX := Lib.hid hx
  have HSM := Lib.hid hSm
  clear c0 cm hx hSm
  have HY := Lib.hid hY
  clear hY
  go_enter Try.func9, Try.ntmps9
  go_wp2_with fail
  refine (C0.out _).mono ?_
  rintro e w1 ⟨rfl, hb1⟩
  have HB1 := Lib.hid (HB0.out.trans (hb1.mono HB0.out.size))
  clear hb1
  go_wp2_with fail
  refine (CM.out _ HB1.out).mono ?_
  rintro e w1001 ⟨⟨b, rfl, hmb⟩, rfl⟩
  cases b
  case true =>
    clear hmb
    go_wp2
    go_ret
    exact ⟨rfl, HB1.out⟩
  by_cases h30 : 30 < len'
  case pos =>
    clear hmb
    have h30' : (30 : Int) < len' := by omega
    go_wp2_with fail
    go_ret
    exact ⟨rfl, HB1.out⟩
  have h30' : ¬ (30 : Int) < len' := by omega
  obtain ⟨m1, m2, m3⟩ := hmb rfl
  have hS := HSM.out (by omega) (fun i hi => by have := m1 i hi; omega)
  have h9 : checkE l = 0 → l.length ≤ 9 := fun hc0 => by have := (check_spec hc0).len; omega
  have hm' : len' ≤ 9223372036854775807 := by omega
  have c1 := fun W (h : Below w.heap.size w W) => long_any A l.length cap l W (by omega) (HX.out.go h)
  have c2 := fun W (h : Below w.heap.size w W) => Right_any A l.length cap l c A' len' cap' days W hS hm' (HX.out.go h) (HY.out.go h)
  have c3 := fun W (h : Below w.heap.size w W) => rRight_any A l.length cap l c A' len' cap' days W hS hm' (HX.out.go h) (HY.out.go h)
  have c4 := fun W (h : Below w.heap.size w W) => listed_any A l.length cap l c W hS h9 (HX.out.go h)
  have c5 := fun W (h : Below w.heap.size w W) => rlisted_any A l.length cap l c W hS (HX.out.go h)
  have c6 := fun W (h : Below w.heap.size w W) => Ends_any A l.length cap l A' len' cap' days W hS hm' (HX.out.go h) (HY.out.go h)
  have c7 := fun W (h : Below w.heap.size w W) => rEnds_any A l.length cap l A' len' cap' days W hS hm' (HX.out.go h) (HY.out.go h)
  have c8 := fun W (h : Below w.heap.size w W) => Men_any A l.length cap l A' len' cap' days day W hS hm' (HX.out.go h) (HY.out.go h)
  have c9 := fun W (h : Below w.heap.size w W) => rMen_any A l.length cap l A' len' cap' days day W hS hm' (HX.out.go h) (HY.out.go h)
  have c10 := fun W (h : Below w.heap.size w W) => Bound_any A l.length cap l c W hS (HX.out.go h)
  have c11 := fun W (h : Below w.heap.size w W) => rBound_any A l.length cap l c W hS (HX.out.go h)
  have hle : (lstX l c).length ≤ 9 ∨ (lstX l c).length ≤ 20 := by
    unfold lstX
    split
    · rename_i hE
      have hk := crew_ok hE
      have := (LST_is (check_spec hk.1) hk.2.2).len
      have := h9 hk.1
      omega
    · exact .inl (Nat.zero_le _)
  have hlst : (lstX l c).length ≤ 20 := by omega
  have c12 := fun A9 k9 W (h : Below w.heap.size w W) (hy : Ints W W.heap.size A9 (lstX l c).length (lstX l c)) => Ends_any A l.length cap l A9 (lstX l c).length k9 (lstX l c) W hS (by omega) (HX.out.go h) hy
  have c13 := fun A9 k9 W (h : Below w.heap.size w W) (hy : Ints W W.heap.size A9 (lstX l c).length (lstX l c)) => Right_any A l.length cap l c A9 (lstX l c).length k9 (lstX l c) W hS (by omega) (HX.out.go h) hy
  have hfin := sched_fin l c
  generalize lngV l l.length = LG at *
  generalize rightV l c (lstX l c) = R9 at *
  generalize endV l (lstX l c) = N9 at *
  generalize endE l (lstX l c) = E9 at *
  generalize rightV l c days = R1 at *
  generalize endV l days = N1 at *
  generalize endE l days = E1 at *
  generalize menX l days day = N2 at *
  generalize menE l days day = E2 at *
  generalize bndV l c = N3 at *
  generalize crewE l c = E3 at *
  generalize lstX l c = X1 at *
  have C1 := Lib.hid c1
  have C2 := Lib.hid c2
  have C3 := Lib.hid c3
  have C4 := Lib.hid c4
  have C5 := Lib.hid c5
  have C6 := Lib.hid c6
  have C7 := Lib.hid c7
  have C8 := Lib.hid c8
  have C9 := Lib.hid c9
  have C10 := Lib.hid c10
  have C11 := Lib.hid c11
  have C12 := Lib.hid c12
  have C13 := Lib.hid c13
  have HF := Lib.hid hfin
  clear c1 c2 c3 c4 c5 c6 c7 c8 c9 c10 c11 c12 c13 hfin hmb m1 m2 m3 hS h9 hle C0 CM HSM
  go_wp2_with fail
  refine (C1.out _ HB1.out).mono ?_
  rintro e w2 ⟨rfl, hb2⟩
  have HB2 := Lib.hid (HB1.out.trans (hb2.mono HB1.out.size))
  clear hb2
  cases hlg : decide (1500 < LG)
  case true =>
    go_wp2_with fail
    go_ret
    exact ⟨rfl, HB2.out⟩
  clear hlg
  go_wp2_with fail
  refine (C2.out _ HB2.out).mono ?_
  rintro e w3 ⟨rfl, hb3⟩
  have HB3 := Lib.hid (HB2.out.trans (hb3.mono HB2.out.size))
  clear hb3
  go_wp2_with fail
  refine (C3.out _ HB3.out).mono ?_
  rintro e w4 ⟨rfl, hb4⟩
  have HB4 := Lib.hid (HB3.out.trans (hb4.mono HB3.out.size))
  clear hb4
  go_wp2_with fail
  refine (C4.out _ HB4.out).mono ?_
  rintro e w5 ⟨⟨va, rfl, hoa⟩, hb5⟩
  have HB5 := Lib.hid (HB4.out.trans (hb5.mono HB4.out.size))
  obtain ⟨Aa, ka, rfl, qa1, qa2, hIa, -⟩ := own_ints hoa
  clear hoa
  clear hb5
  go_wp2_with fail
  refine (C5.out _ HB5.out).mono ?_
  rintro e w6 ⟨⟨vb, rfl, hob⟩, hb6⟩
  have HB6 := Lib.hid (HB5.out.trans (hb6.mono HB5.out.size))
  replace hIa := hIa.go hb6
  obtain ⟨Ab, kb, rfl, qb1, qb2, hIb, -⟩ := own_ints hob
  clear hob
  clear hb6
  go_wp2_with fail
  have hq := SameInts6_any Aa (X1).length ka (X1) Ab (X1).length kb (X1) _ (by unfold maxLen at qa2; omega) (by unfold maxLen at qb2; omega) hIa hIb
  rw [decide_eq_true (rfl : (X1) = X1)] at hq
  refine (hq).mono ?_
  rintro e w7 ⟨rfl, hb7⟩
  have HB7 := Lib.hid (HB6.out.trans (hb7.mono HB6.out.size))
  replace hIa := hIa.go hb7
  replace hIb := hIb.go hb7
  clear hq
  clear hb7
  go_wp2_with fail
  refine (C6.out _ HB7.out).mono ?_
  rintro e w8 ⟨rfl, hb8⟩
  have HB8 := Lib.hid (HB7.out.trans (hb8.mono HB7.out.size))
  replace hIa := hIa.go hb8
  clear hb8
  go_wp2_with fail
  refine (C7.out _ HB8.out).mono ?_
  rintro e w9 ⟨rfl, hb9⟩
  have HB9 := Lib.hid (HB8.out.trans (hb9.mono HB8.out.size))
  replace hIa := hIa.go hb9
  clear hb9
  go_wp2_with fail
  refine (C8.out _ HB9.out).mono ?_
  rintro e w10 ⟨rfl, hb10⟩
  have HB10 := Lib.hid (HB9.out.trans (hb10.mono HB9.out.size))
  replace hIa := hIa.go hb10
  clear hb10
  go_wp2_with fail
  refine (C9.out _ HB10.out).mono ?_
  rintro e w11 ⟨rfl, hb11⟩
  have HB11 := Lib.hid (HB10.out.trans (hb11.mono HB10.out.size))
  replace hIa := hIa.go hb11
  clear hb11
  go_wp2_with fail
  refine (C10.out _ HB11.out).mono ?_
  rintro e w12 ⟨rfl, hb12⟩
  have HB12 := Lib.hid (HB11.out.trans (hb12.mono HB11.out.size))
  replace hIa := hIa.go hb12
  clear hb12
  go_wp2_with fail
  refine (C11.out _ HB12.out).mono ?_
  rintro e w13 ⟨rfl, hb13⟩
  have HB13 := Lib.hid (HB12.out.trans (hb13.mono HB12.out.size))
  replace hIa := hIa.go hb13
  clear hb13
  by_cases hE3 : E3 = 0
  case neg =>
    have hne : (E3 == 0) = false := by simpa using hE3
    clear HF hE3
    go_wp2_with fail
    go_ret
    exact ⟨by simp, HB13.out⟩
  obtain ⟨f1, f2, f3⟩ := HF.out hE3
  subst f1 f2 hE3
  have HF3 := Lib.hid (decide_eq_true f3)
  have f4 : N3 ≤ N9 := f3
  clear HF f3
  go_wp2_with fail
  refine (C12.out _ _ _ HB13.out hIa).mono ?_
  rintro e w14 ⟨rfl, hb14⟩
  have HB14 := Lib.hid (HB13.out.trans (hb14.mono HB13.out.size))
  replace hIa := hIa.go hb14
  clear hb14
  go_wp2_with fail
  refine (C13.out _ _ _ HB14.out hIa).mono ?_
  rintro e w15 ⟨rfl, hb15⟩
  have HB15 := Lib.hid (HB14.out.trans (hb15.mono HB14.out.size))
  replace hIa := hIa.go hb15
  clear hb15
  go_wp2_with fail
  go_ret
  exact ⟨by first | rfl | simp [f4], HB15.out⟩
theorem schedules_walk2 (A : Option Addr) (len cap : Nat) (xs : List TkR) (c : Int) (A' : Option Addr) (len' cap' : Nat) (days : List Int) (day : Int) (w : World) (hlc : len ≤ cap ∧ cap ≤ 9223372036854775807) (hP : Rows 4 tk4 dTR w w.heap.size A len xs) (hg : ∀ x ∈ xs, gTk w x) (hc : -9223372036854775808 ≤ c ∧ c ≤ 9223372036854775807) (hlc' : len' ≤ cap' ∧ cap' ≤ 9223372036854775807) (hY : Ints w w.heap.size A' len' days) (hb : ∀ x ∈ days, bd64 x) (hd : -9223372036854775808 ≤ day ∧ day ≤ 9223372036854775807) :
    Calls Try.prog 9 #[.slice A len cap, .int .i64 c, .slice A' len' cap', .int .i64 day] w fun e w' => e = .returned (.bool true) ∧ Below w.heap.size w w' :=
  schedules_walk A len cap xs c A' len' cap' days day w hlc hP hg hY
end Go.Proofs.Ytgijekhlbkfanaa
