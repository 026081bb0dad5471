/- Plans: crewed. -/
import Derived.Test.YtgijekhlbkfanaaJobQ5
import Derived.Test.YtgijekhlbkfanaaJobP
import Derived.Test.YtgijekhlbkfanaaSchN
import Derived.BigQuiet
set_option linter.unusedSimpArgs false
set_option linter.unusedVariables false
namespace Go.Proofs.Ytgijekhlbkfanaa
open Go.RowKit Go.Shelf
attribute [local go_sem] Later.cell Same.cell

/-- Are there tasks that ask more men? -/
def many1 (l : List Tk) (c : Int) : Bool := (List.range l.length).any fun i => decide (c < mnA l i)
theorem many1_iff {l : List Tk} {c : Int} : many1 l c = true ↔ ∃ i, i < l.length ∧ c < mnA l i := by unfold many1; simp
def crewE (l : List Tk) (c : Int) : Int := if checkE l = 0 then (if wi c 1 100 = true then (if many1 l c = true then 8 else 0) else 7) else checkE l
set_option maxHeartbeats 1000000 in
theorem crew1_any (X : ByteArray) (Y Z : Int) (A' : Option Addr) (q cc : Nat) (B : Nat) (c : Int) (w : World) (hc : w.cell? ⟨B, 0, none⟩ = some (.int .i64 c)) :
    Calls Try.prog 111 #[.agg #[.string X, .int .i64 Y, .int .i64 Z, .slice A' q cc], .pointer (some ⟨B, 0, none⟩)] w fun e w' => e = .returned (.bool (decide (c < Z))) ∧ Below w.heap.size w w' := by
  have hB := World.block_lt_of_cell? w _ hc
  go_enter Try.func111, Try.ntmps111
  go_wp2
  go_ret
  exact ⟨rfl, (by repeat (first | exact Below.refl _ _ | assumption | refine Below.setCell ?_ (by first | (simp; done) | (simp; omega) | omega) _ | refine Below.drew ?_ | refine below_drewN ?_ _ | refine Below.alloc ?_ (by first | (simp; done) | (simp; omega) | omega) _ | refine below_alloc ?_ _ | refine below_step ?_ (by assumption)))⟩
set_option maxRecDepth 20000 in
set_option maxHeartbeats 2000000 in
theorem crewIdx_any (B : Nat) (c : Int) (A : Option Addr) (len cap : Nat) (l : List Tk) (w : World) (hm : len ≤ 1000) (hx : Plan w w.heap.size A len l) (hc : w.cell? ⟨B, 0, none⟩ = some (.int .i64 c)) :
    Calls Try.prog 120 #[.slice A len cap, .func (.func 111) #[] #[.pointer (some ⟨B, 0, none⟩)]] w fun e w' => (∃ R : Int, e = .returned (.int .i64 R) ∧ decide (0 ≤ R) = many1 l c) ∧ Below w.heap.size w w' := by
  obtain rfl : l.length = len := hx.1
  have HX := Lib.hid hx
  have HB := World.block_lt_of_cell? w _ hc
  clear hx
  go_enter Try.func120, Try.ntmps120
  go_wp2
  go_loopw [8] (fun i W => ∃ k : Nat, k ≤ l.length ∧ i = .int .i64 k ∧ Hid (∀ j, j < k → mnA l j ≤ c) ∧ Below w.heap.size w W) (fun i _ => l.length - (intOf i).toNat)
  case atStart => exact ⟨0, Nat.zero_le _, rfl, Lib.hid (fun j hj => absurd hj (by omega)), Below.refl _ _⟩
  case round =>
    obtain ⟨k, hk, rfl, hT, hB⟩ := hrel
    by_cases hlt : k < l.length
    · obtain ⟨b, off, rfl, hb0, hc1, hc2, hc3, A', q, cc, hc4, -, -, -⟩ := (HX.out.below hB).at_ k hlt
      have hbs := hB.size
      have hcB := (hB.cell (p := ⟨B, 0, none⟩) HB).trans hc
      have c2 := fun W (h : Below wr.heap.size wr W) => crew1_any (tkA l k).nm (tkA l k).dy (tkA l k).mn A' q cc B c W ((h.cell (p := ⟨B, 0, none⟩) (show B < _ by omega)).trans hcB)
      have hk1 : (k : Int) < l.length := by omega
      have hk2 : ¬ l.length ≤ k := by omega
      have hbr : b < wr.heap.size := by omega
      by_cases hv : c < (tkA l k).mn
      · have HF : Hid (decide ((0 : Int) ≤ (k : Int)) = many1 l c) := Lib.hid (by rw [many1_iff.2 ⟨k, hlt, hv⟩]; simp)
        generalize (tkA l k).nm = X at *
        generalize (tkA l k).dy = Y at *
        generalize (tkA l k).mn = Z at *
        have C2 := Lib.hid c2
        clear c2 hT
        go_wp2_with fail
        refine (C2.out _ (by repeat (first | exact Below.refl _ _ | assumption | refine Below.setCell ?_ (by first | (simp; done) | (simp; omega) | omega) _ | refine Below.drew ?_ | refine below_drewN ?_ _ | refine Below.alloc ?_ (by first | (simp; done) | (simp; omega) | omega) _ | refine below_alloc ?_ _ | refine below_step ?_ (by assumption)))).mono ?_
        rintro e w1 ⟨rfl, hb⟩
        have HB2 := Lib.hid (hB.trans (hb.mono hbs))
        clear hb hB hcB
        go_wp2
        go_ret
        exact ⟨⟨_, rfl, HF.out⟩, HB2.out⟩
      · have hT2 : Hid (∀ j, j < k + 1 → mnA l j ≤ c) := Lib.hid (fun j hj => if e : j = k then (by rw [e]; exact Int.not_lt.1 hv) else hT.out j (by omega))
        generalize (tkA l k).nm = X at *
        generalize (tkA l k).dy = Y at *
        generalize (tkA l k).mn = Z at *
        have C2 := Lib.hid c2
        clear c2 hT
        go_wp2_with fail
        refine (C2.out _ (by repeat (first | exact Below.refl _ _ | assumption | refine Below.setCell ?_ (by first | (simp; done) | (simp; omega) | omega) _ | refine Below.drew ?_ | refine below_drewN ?_ _ | refine Below.alloc ?_ (by first | (simp; done) | (simp; omega) | omega) _ | refine below_alloc ?_ _ | refine below_step ?_ (by assumption)))).mono ?_
        rintro e w1 ⟨rfl, hb⟩
        have HB2 := Lib.hid (hB.trans (hb.mono hbs))
        clear hb hB hcB
        go_wp2
        go_roundw
        case rel => exact ⟨k + 1, by omega, by go_num, hT2, HB2.out⟩
        case measure => simp [intOf]; omega
    · have hk1 : ¬ (k : Int) < l.length := by omega
      have HF : Hid (decide ((0 : Int) ≤ -1) = many1 l c) := Lib.hid (by
        cases hq : many1 l c with
        | false => rfl
        | true =>
          obtain ⟨i, hi, h2⟩ := many1_iff.1 hq
          exact absurd h2 (Int.not_lt.2 (hT.out i (by omega))))
      have HB2 := Lib.hid hB
      clear hT hB
      go_wp2
      go_ret
      exact ⟨⟨_, rfl, HF.out⟩, HB2.out⟩
set_option maxHeartbeats 1000000 in
theorem crewAny_any (B : Nat) (c : Int) (A : Option Addr) (len cap : Nat) (l : List Tk) (w : World) (hm : len ≤ 1000) (hx : Plan w w.heap.size A len l) (hc : w.cell? ⟨B, 0, none⟩ = some (.int .i64 c)) :
    Calls Try.prog 110 #[.slice A len cap, .func (.func 111) #[] #[.pointer (some ⟨B, 0, none⟩)]] w fun e w' => e = .returned (.bool (many1 l c)) ∧ Below w.heap.size w w' := by
  have c1 := crewIdx_any B c A len cap l w hm hx hc
  generalize many1 l c = M at *
  have C1 := Lib.hid c1
  clear c1 hx hc
  go_enter Try.func110, Try.ntmps110
  go_wp2_with fail
  refine C1.out.mono ?_
  rintro e w1 ⟨⟨R, rfl, hR⟩, hb⟩
  have HR := Lib.hid hR
  have HB := Lib.hid hb
  clear hR hb
  go_wp2
  go_ret
  exact ⟨ret_bool HR.out, HB.out⟩
set_option maxHeartbeats 2000000 in
theorem crewed_any (A : Option Addr) (len cap : Nat) (l : List Tk) (c : Int) (w : World) (hS : Sml l) (hx : Plan w w.heap.size A len l) :
    Calls Try.prog 87 #[.slice A len cap, .int .i64 c] w fun e w' => e = .returned (.int .i64 (crewE l c)) ∧ Below w.heap.size w w' := by
  obtain rfl : l.length = len := hx.1
  have c1 := fun W (h : Below w.heap.size w W) => Check_any A l.length cap l W hS (hx.go h)
  have c2 := fun W => jwithin_any c 1 100 W
  have c3 := fun B W (h : Below w.heap.size w W) hc => crewAny_any B c A l.length cap l W (by have := hS.len; omega) (hx.go h) hc
  have hmf : ∀ (fn : Fn) (first cap : Array Value) (w : World), (Instr.makeFunc fn first cap).run Try.prog w = .ok (.func fn first cap) w := fun _ _ _ _ => rfl
  have HE : Hid (crewE l c = if checkE l = 0 then (if wi c 1 100 = true then (if many1 l c = true then 8 else 0) else 7) else checkE l) := Lib.hid rfl
  generalize crewE l c = E at *
  generalize hCE : checkE l = CE at *
  have hw : wi c 1 100 = decide (1 ≤ c ∧ c ≤ 100) := rfl
  have C1 := Lib.hid c1
  have C2 := Lib.hid c2
  have C3 := Lib.hid c3
  clear c1 c2 c3 hx hS hCE
  have hlb := (Boxed.new w 3 (.int .i64 c)).cell
  go_enter Try.func87, Try.ntmps87
  go_wp2_with fail
  refine (C1.out _ (by repeat (first | exact Below.refl _ _ | assumption | refine Below.setCell ?_ (by first | (simp; done) | (simp; omega) | omega) _ | refine Below.drew ?_ | refine below_drewN ?_ _ | refine Below.alloc ?_ (by first | (simp; done) | (simp; omega) | omega) _ | refine below_alloc ?_ _ | refine below_step ?_ (by assumption)))).mono ?_
  rintro e w1 ⟨rfl, hb⟩
  have hB1 : Below w.heap.size w w1 := (by repeat (first | exact Below.refl _ _ | assumption | refine Below.setCell ?_ (by first | (simp; done) | (simp; omega) | omega) _ | refine Below.drew ?_ | refine below_drewN ?_ _ | refine Below.alloc ?_ (by first | (simp; done) | (simp; omega) | omega) _ | refine below_alloc ?_ _ | refine below_step ?_ (by assumption)))
  have hlb1 : w1.cell? ⟨w.heap.size, 0, none⟩ = some (.int .i64 c) := (hb.cell (p := ⟨w.heap.size, 0, none⟩) (by simp)).trans hlb
  have HB1 := Lib.hid hB1
  clear hlb hb hB1 C1
  by_cases h0 : CE = 0
  · subst h0
    rw [if_pos rfl] at HE
    have c2 := C2.out
    cases h1 : wi c 1 100
    · rw [h1] at HE c2
      have HF : Hid (E = 7) := Lib.hid (by rw [HE.out]; rfl)
      have C2' := Lib.hid c2
      clear h1 hw c2 C2 HE
      go_wp2_with fail
      refine (C2'.out _).mono ?_
      rintro e w2 ⟨rfl, rfl⟩
      go_wp2_with fail
      go_ret
      exact ⟨by rw [HF.out]; rfl, HB1.out⟩
    · rw [h1] at HE c2
      rw [if_pos rfl] at HE
      have C2' := Lib.hid c2
      clear h1 hw c2 C2
      go_wp2_with fail
      refine (C2'.out _).mono ?_
      rintro e w2 ⟨rfl, rfl⟩
      go_wp2_with fail
      refine (C3.out _ _ HB1.out hlb1).mono ?_
      rintro e w3 ⟨rfl, hb⟩
      have HB3 := Lib.hid (HB1.out.trans (hb.mono HB1.out.size))
      clear hb hlb1
      cases hm : many1 l c
      · rw [hm] at HE
        have HF : Hid (E = 0) := Lib.hid (by rw [HE.out]; rfl)
        go_wp2_with fail
        go_ret
        exact ⟨by rw [HF.out]; rfl, HB3.out⟩
      · rw [hm] at HE
        have HF : Hid (E = 8) := Lib.hid (by rw [HE.out]; rfl)
        go_wp2_with fail
        go_ret
        exact ⟨by rw [HF.out]; rfl, HB3.out⟩
  · have h2 : (CE == 0) = false := by simpa using h0
    have HF : Hid (E = CE) := Lib.hid (by rw [HE.out, if_neg h0])
    clear HE h0 hw
    go_wp2_with fail
    go_ret
    exact ⟨by rw [HF.out]; rfl, HB1.out⟩
end Go.Proofs.Ytgijekhlbkfanaa
