/- Joined by merge.py from: Flw RFlw LFlows. -/
import Derived.Test.YtpfhfmnlojigpaaCmpN
import Derived.Test.YtpfhfmnlojigpaaCurL
import Derived.Test.YtpfhfmnlojigpaaRResN
import Derived.Test.YtpfhfmnlojigpaaTape9
set_option linter.unusedSimpArgs false
set_option linter.unusedVariables false
namespace Go.Proofs.Ytpfhfmnlojigpaa
open Go.RowKit
attribute [local go_sem] Later.cell Same.cell

theorem ca_pairs2 {W : World} {g len : Nat} {L : List (Int × Int)} (h : CA W g (pcells L)) (hl : L.length = len) : Pairs W W.heap.size (some ⟨g, 0, none⟩) len L := by
  refine ⟨hl, fun h0 => ⟨g, 0, rfl, h.1, fun k hk => ?_⟩⟩
  have := pcells_get L k (by omega)
  have a1 := (h.2 _ _ this.1).1
  have a2 := (h.2 _ _ this.2).1
  rw [Nat.zero_add]
  exact ⟨a1, a2⟩
/-- Whether a fraction is a fit number, equal to the due one. -/
def okF (x y : Int × Int) : Bool := (withinB y.2 1 1000000000000000000 && withinB y.1 (-1000000000000000000) 1000000000000000000) && decide (cmpR x.1 x.2 y.1 y.2 = 0)
def eqF (xs ys : List (Int × Int)) : Bool := decide (xs.length = ys.length) && (List.range xs.length).all fun i => okF (xs[i]?.getD (0,0)) (ys[i]?.getD (0,0))
def bdP (x : Int × Int) : Prop := (-9223372036854775808 ≤ x.1 ∧ x.1 ≤ 9223372036854775807) ∧ (-9223372036854775808 ≤ x.2 ∧ x.2 ≤ 9223372036854775807)
theorem bdP_get {xs : List (Int × Int)} (h : ∀ x ∈ xs, bdP x) (k : Nat) : bdP (xs[k]?.getD (0,0)) := by
  by_cases hk : k < xs.length
  · rw [List.getElem?_eq_getElem hk]; exact h _ (List.getElem_mem hk)
  · rw [List.getElem?_eq_none (by omega)]; exact ⟨by decide, by decide⟩
set_option maxRecDepth 20000 in
set_option maxHeartbeats 4000000 in
theorem Flows1_any (x y : Int × Int) (w : World) (hx : bdP x) (hy : bdP y) :
    Calls Try.prog 47 #[.agg #[.int .i64 x.1, .int .i64 x.2], .agg #[.int .i64 y.1, .int .i64 y.2]] w fun e w' => e = .returned (.bool (okF x y)) ∧ Below w.heap.size w w' := by
  obtain ⟨x1, x2⟩ := x
  obtain ⟨y1, y2⟩ := y
  obtain ⟨⟨a1, a2⟩, a3, a4⟩ := hx
  obtain ⟨⟨b1, b2⟩, b3, b4⟩ := hy
  dsimp only at *
  have c1 := fun W => CompareT_any x1 x2 y1 y2 W a1 a2 a3 a4 b1 b2 b3 b4
  have c2 := fun W => twithin_any y2 1 1000000000000000000 W
  have c3 := fun W => twithin_any y1 (-1000000000000000000) 1000000000000000000 W
  have hR : Hid (okF (x1, x2) (y1, y2) = ((withinB y2 1 1000000000000000000 && withinB y1 (-1000000000000000000) 1000000000000000000) && decide (cmpR x1 x2 y1 y2 = 0))) := Lib.hid rfl
  rw [hR.out]
  clear hR
  generalize cmpR x1 x2 y1 y2 = R at *
  generalize withinB y2 1 1000000000000000000 = P at *
  generalize withinB y1 (-1000000000000000000) 1000000000000000000 = Q at *
  have C1 := Lib.hid c1
  have C2 := Lib.hid c2
  have C3 := Lib.hid c3
  clear c1 c2 c3
  have hd : (decide (R = 0)) = (R == 0) := by rw [Bool.eq_iff_iff]; simp
  rw [hd]
  clear hd
  cases P
  · go_enter Try.func47, Try.ntmps47
    go_wp2_with fail
    refine (C2.out _).mono ?_
    rintro e w1 ⟨rfl, rfl⟩
    go_wp2
    go_ret
    exact ⟨rfl, (by repeat (first | exact Below.refl _ _ | assumption | refine Below.setCell ?_ (by first | (simp; done) | (simp; omega) | omega) _ | refine Below.drew ?_ | refine below_drewN ?_ _ | refine Below.alloc ?_ (by first | (simp; done) | (simp; omega) | omega) _ | refine below_alloc ?_ _ | refine below_step ?_ (by assumption)))⟩
  · cases Q
    · go_enter Try.func47, Try.ntmps47
      go_wp2_with fail
      refine (C2.out _).mono ?_
      rintro e w1 ⟨rfl, rfl⟩
      go_wp2_with fail
      refine (C3.out _).mono ?_
      rintro e w1 ⟨rfl, rfl⟩
      go_wp2
      go_ret
      exact ⟨rfl, (by repeat (first | exact Below.refl _ _ | assumption | refine Below.setCell ?_ (by first | (simp; done) | (simp; omega) | omega) _ | refine Below.drew ?_ | refine below_drewN ?_ _ | refine Below.alloc ?_ (by first | (simp; done) | (simp; omega) | omega) _ | refine below_alloc ?_ _ | refine below_step ?_ (by assumption)))⟩
    · go_enter Try.func47, Try.ntmps47
      go_wp2_with fail
      refine (C2.out _).mono ?_
      rintro e w1 ⟨rfl, rfl⟩
      go_wp2_with fail
      refine (C3.out _).mono ?_
      rintro e w1 ⟨rfl, rfl⟩
      go_wp2_with fail
      refine (C1.out _).mono ?_
      rintro e w1 ⟨rfl, hb⟩
      go_wp2
      go_ret
      exact ⟨rfl, (by repeat (first | exact Below.refl _ _ | assumption | refine Below.setCell ?_ (by first | (simp; done) | (simp; omega) | omega) _ | refine Below.drew ?_ | refine below_drewN ?_ _ | refine Below.alloc ?_ (by first | (simp; done) | (simp; omega) | omega) _ | refine below_alloc ?_ _ | refine below_step ?_ (by assumption)))⟩
theorem eqF_step {xs ys : List (Int × Int)} {k : Nat} (h : (List.range k).all (fun i => okF (xs[i]?.getD (0,0)) (ys[i]?.getD (0,0))) = true) (h2 : okF (xs[k]?.getD (0,0)) (ys[k]?.getD (0,0)) = true) : (List.range (k + 1)).all (fun i => okF (xs[i]?.getD (0,0)) (ys[i]?.getD (0,0))) = true := by
  rw [List.range_succ, List.all_append, h]; simpa using h2
theorem eqF_no {xs ys : List (Int × Int)} {k : Nat} (hk : k < xs.length) (h2 : okF (xs[k]?.getD (0,0)) (ys[k]?.getD (0,0)) = false) : eqF xs ys = false := by
  unfold eqF
  rw [Bool.and_eq_false_iff]
  right
  rw [List.all_eq_false]
  exact ⟨k, List.mem_range.2 hk, by rw [h2]; decide⟩
set_option maxRecDepth 20000 in
set_option maxHeartbeats 4000000 in
theorem EqF_any (A : Option Addr) (len cap : Nat) (xs : List (Int × Int)) (A' : Option Addr) (len' cap' : Nat) (ys : List (Int × Int)) (w : World) (hm : len ≤ 9223372036854775807) (hm' : len' ≤ 9223372036854775807) (hx : Pairs w w.heap.size A len xs) (hy : Pairs w w.heap.size A' len' ys) (bx : ∀ x ∈ xs, bdP x) (by_ : ∀ x ∈ ys, bdP x) :
    Calls Try.prog 46 #[.slice A len cap, .slice A' len' cap', .func (.func 47) #[] #[]] w fun e w' => e = .returned (.bool (eqF xs ys)) ∧ Below w.heap.size w w' := by
  have HX := Lib.hid hx
  have HY := Lib.hid hy
  have c1 := fun k W => Flows1_any (xs[k]?.getD (0,0)) (ys[k]?.getD (0,0)) W (bdP_get bx k) (bdP_get by_ k)
  have hno := fun k hk h => eqF_no (xs := xs) (ys := ys) (k := k) hk h
  have hst := fun k h h2 => eqF_step (xs := xs) (ys := ys) (k := k) h h2
  have C1 := Lib.hid c1
  have HNO := Lib.hid hno
  have HST := Lib.hid hst
  have hl1 := hx.1
  have hl2 := hy.1
  have HE : Hid (eqF xs ys = (decide (xs.length = ys.length) && (List.range xs.length).all fun i => okF (xs[i]?.getD (0,0)) (ys[i]?.getD (0,0)))) := Lib.hid rfl
  have HL1 := Lib.hid hl1
  rw [hl1, hl2] at HE
  clear c1 hno hst hx hy bx by_ hl1 hl2
  by_cases hl : len = len'
  · subst hl
    go_enter Try.func46, Try.ntmps46
    go_wp2
    go_loopw [17] (fun i wr => ∃ k : Nat, k ≤ len ∧ i = .int .i64 k ∧ Hid ((List.range k).all (fun i => okF (xs[i]?.getD (0,0)) (ys[i]?.getD (0,0))) = true) ∧ Below w.heap.size w wr) (fun i _ => len - (intOf i).toNat)
    case atStart => exact ⟨0, Nat.zero_le _, rfl, Lib.hid rfl, Below.refl _ _⟩
    case round =>
      obtain ⟨k, hk, rfl, HT, hB⟩ := hrel
      by_cases hlt : k < len
      · obtain ⟨b, off, rfl, hb0, hc1, hc2⟩ := (HX.out.below hB).at_ k hlt
        obtain ⟨b', off', rfl, hb0', hc1', hc2'⟩ := (HY.out.below hB).at_ k hlt
        have hbs := hB.size
        have hb1 : b < wr.heap.size := by omega
        have hb1' : b' < wr.heap.size := by omega
        have hb2 : ¬ b = wr.heap.size := by omega
        have hb2' : ¬ b' = wr.heap.size := by omega
        have c2 := fun W => C1.out k W
        have hk1 : (k : Int) < len := by omega
        have hn := HNO.out k (by rw [HL1.out]; exact hlt)
        have hs := HST.out k HT.out
        generalize xs[k]?.getD (0,0) = X at *
        generalize ys[k]?.getD (0,0) = Y at *
        have C2 := Lib.hid c2
        clear c2
        cases hok : okF X Y
        · have HN := Lib.hid (hn hok)
          rw [hok] at C2
          clear hn hs hok HT
          go_wp2_with fail
          refine (C2.out _).mono ?_
          rintro e w1 ⟨rfl, hb9⟩
          go_wp2
          go_ret
          exact ⟨ret_bool HN.out.symm, below_step ((hB.alloc hB.size _).alloc (by simp; omega) _) hb9⟩
        · have HS := Lib.hid (hs hok)
          rw [hok] at C2
          clear hn hs hok HT
          go_wp2_with fail
          refine (C2.out _).mono ?_
          rintro e w1 ⟨rfl, hb9⟩
          go_wp2
          go_roundw
          case rel => exact ⟨k + 1, by omega, by go_num, HS, below_step ((hB.alloc hB.size _).alloc (by simp; omega) _) hb9⟩
          case measure => simp [intOf]; omega
      · have hkl : k = len := by omega
        have hfin : Hid (true = eqF xs ys) := Lib.hid (by rw [HE.out, ← hkl, HT.out]; simp)
        clear HT
        have hk1 : ¬ (k : Int) < len := by omega
        go_wp2
        go_ret
        exact ⟨ret_bool hfin.out, hB⟩
  · have hfin : Hid (false = eqF xs ys) := Lib.hid (by rw [HE.out, decide_eq_false hl]; rfl)
    have hne : ((len : Int) == (len' : Int)) = false := by simp; omega
    go_enter Try.func46, Try.ntmps46
    go_wp2
    go_ret
    exact ⟨ret_bool hfin.out, (by repeat (first | exact Below.refl _ _ | assumption | refine Below.setCell ?_ (by first | (simp; done) | (simp; omega) | omega) _ | refine Below.drew ?_ | refine below_drewN ?_ _ | refine Below.alloc ?_ (by first | (simp; done) | (simp; omega) | omega) _ | refine below_alloc ?_ _ | refine below_step ?_ (by assumption)))⟩
/-- What both Flows answer. -/
def flB (n : Int) (l : List Tp) (a b : Int) (cs : List (Int × Int)) : Bool := decide (resE n l a b = 0) && eqF (curL l a b) cs
/-- The currents' parts are small. -/
theorem curL_bd {n : Int} {l : List Tp} {a b : Int} (h : resE n l a b = 0) : ∀ x ∈ curL l a b, (-1000000000000000000 ≤ x.1 ∧ x.1 ≤ 1000000000000000000) ∧ (1 ≤ x.2 ∧ x.2 ≤ 1000000000000000000) := by
  intro x hx
  have hE : resE n l a b = if askE n l [a, b] = 0 then (if jnB l a b then 0 else 8) else askE n l [a, b] := rfl
  rcases ask_cases n l a b with ⟨h0, hv, ha, hb⟩ | h0
  · obtain ⟨hn, hlen, hl⟩ := vNet_spec hv
    rw [h0, if_pos rfl, h] at hE
    have hj : jnB l a b = true := by
      cases hjj : jnB l a b with
      | true => rfl
      | false => rw [hjj] at hE; cases hE
    have hab : at6 (full l R0) a = at6 (full l R0) b := by unfold jnB at hj; exact eq_of_beq hj
    obtain ⟨i, hi, rfl⟩ := List.mem_iff_getElem.1 hx
    have hi' : i < l.length := by rwa [curL_len] at hi
    have hg := curL_get (a := a) (b := b) hi'
    rw [List.getElem?_eq_getElem hi] at hg
    simp only [Option.getD_some] at hg
    rw [hg]
    have ht := trees_pos hl ha
    by_cases hc : a ≠ b
    · have hbig := trees_big hl hlen (cls_two ha hb hc hab)
      have hf := curF_bd hl ha hb hab hi'
      have h9 := low_bd ht hf.1 hf.2
      dsimp only; omega
    · have h9 : curF l a b i = 0 := by unfold curF; rw [if_neg (fun h => hc h.1)]
      rw [h9, (low_zero ht).1, (low_zero ht).2]
      exact ⟨⟨by decide, by decide⟩, by decide, by decide⟩
  · rw [if_neg h0, h] at hE; exact absurd hE.symm h0
theorem curL_bdP {n : Int} {l : List Tp} {a b : Int} (h : resE n l a b = 0) : ∀ x ∈ curL l a b, bdP x := fun x hx => by
  have := curL_bd h x hx
  exact ⟨⟨by omega, by omega⟩, by omega, by omega⟩
set_option maxRecDepth 20000 in
set_option maxHeartbeats 4000000 in
theorem Flows_any (n : Int) (A : Option Addr) (len cap : Nat) (l : List Tp) (a b : Int) (A' : Option Addr) (m cap' : Nat) (cs : List (Int × Int)) (w : World) (hm : len ≤ 9223372036854775807) (hm' : m ≤ 9223372036854775807) (hx : Rows 3 int3 (0,0,0) w w.heap.size A len l) (hc : Pairs w w.heap.size A' m cs) (bc : ∀ x ∈ cs, bdP x) :
    Calls Try.prog 22 #[.int .i64 n, .slice A len cap, .int .i64 a, .int .i64 b, .slice A' m cap'] w fun e w' => e = .returned (.bool (flB n l a b cs)) ∧ Below w.heap.size w w' := by
  have c1 := Currents_any n A len cap l a b w hm hx
  have hlc := curL_len l a b
  rw [hx.1] at hlc
  have hbd := curL_bdP (n := n) (l := l) (a := a) (b := b)
  have hF : flB n l a b cs = (decide (resE n l a b = 0) && eqF (curL l a b) cs) := rfl
  have HC := Lib.hid hc
  have HLC := Lib.hid hlc
  by_cases hE : resE n l a b = 0
  · have c2 := fun B W h1 h2 => EqF_any (some ⟨B, 0, none⟩) len len (curL l a b) A' m cap' cs W hm hm' h1 h2 (hbd hE) bc
    rw [decide_eq_true hE, Bool.true_and] at hF
    rw [hE] at c1
    rw [hF]
    generalize curL l a b = CL at *
    generalize eqF CL cs = R at *
    have C1 := Lib.hid c1
    have C2 := Lib.hid c2
    clear c1 c2 hx hc bc hlc hbd hF hE
    go_enter Try.func22, Try.ntmps22
    go_wp2_with fail
    refine C1.out.mono ?_
    rintro e w1 ⟨⟨v, rfl, hV⟩, hb⟩
    obtain ⟨g, rfl, hg, hCA⟩ := hV.1 rfl
    have HP := Lib.hid (ca_pairs2 hCA HLC.out)
    have HC1 := Lib.hid ((HC.out.below hb).more hb.size)
    clear hV hCA HC
    go_wp2_with fail
    refine (C2.out _ _ HP.out HC1.out).mono ?_
    rintro e w2 ⟨rfl, hb2⟩
    go_wp2
    go_ret
    exact ⟨rfl, below_step hb hb2⟩
  · rw [decide_eq_false hE, Bool.false_and] at hF
    rw [hF]
    have hE' : (resE n l a b == 0) = false := by simpa using hE
    have hV0 : ∀ v w', CurV w (resE n l a b) len (curL l a b) v w' → v = .slice none 0 0 := fun _ _ h => h.2 hE
    generalize resE n l a b = E at *
    generalize curL l a b = CL at *
    have C1 := Lib.hid c1
    have HV := Lib.hid hV0
    clear c1 hx hc bc hlc hbd hF hE HC hV0
    go_enter Try.func22, Try.ntmps22
    go_wp2_with fail
    refine C1.out.mono ?_
    rintro e w1 ⟨⟨v, rfl, hV⟩, hb⟩
    obtain rfl := HV.out _ _ hV
    clear hV HV
    go_wp2
    go_ret
    exact ⟨rfl, hb⟩
end Go.Proofs.Ytpfhfmnlojigpaa

namespace Go.Proofs.Ytpfhfmnlojigpaa
open Go.RowKit
attribute [local go_sem] Later.cell Same.cell

theorem cmpR_flip (a b c d : Int) : (cmpR a b c d = 0) = (cmpR c d a b = 0) := by
  unfold cmpR sgn
  apply propext
  constructor <;> intro h <;> split at h <;> (try omega) <;> split at h <;> (try omega) <;> split <;> (try omega) <;> split <;> omega
set_option maxRecDepth 20000 in
set_option maxHeartbeats 8000000 in
theorem rFlows_any (n : Int) (A : Option Addr) (len cap : Nat) (l : List Tp) (a b : Int) (A' : Option Addr) (m cap' : Nat) (cs : List (Int × Int)) (w : World) (hm : len ≤ 9223372036854775807) (hm' : m ≤ 9223372036854775807) (hx : Rows 3 int3 (0,0,0) w w.heap.size A len l) (hc : Pairs w w.heap.size A' m cs) (bc : ∀ x ∈ cs, bdP x) :
    Calls Try.prog 23 #[.int .i64 n, .slice A len cap, .int .i64 a, .int .i64 b, .slice A' m cap'] w fun e w' => e = .returned (.bool (flB n l a b cs)) ∧ Below w.heap.size w w' := by
  have c1 := fun W (h : Below w.heap.size w W) => pairE_any n A len cap l a b W hm ((hx.below h).more h.size)
  have hE : resE n l a b = if askE n l [a, b] = 0 then (if jnB l a b then 0 else 8) else askE n l [a, b] := rfl
  have hlc := curL_len l a b
  rw [hx.1] at hlc
  have hbd := curL_bdP (n := n) (l := l) (a := a) (b := b)
  have hF : flB n l a b cs = (decide (resE n l a b = 0) && eqF (curL l a b) cs) := rfl
  rcases ask_cases n l a b with ⟨h0, hv, ha, hb⟩ | h0
  · obtain ⟨hn, hlen, hl⟩ := vNet_spec hv
    have hin := allW2 h0
    rw [hx.1] at hlen
    obtain ⟨N, rfl⟩ : ∃ N : Nat, n = N := ⟨n.toNat, by omega⟩
    have hinn : inn N l := by have := vNet_inn hv; simpa using this
    have hpj := part_jn hv ⟨hin.1, hin.2.1⟩ hin.2.2
    rw [Int.toNat_natCast] at hpj
    have c2 := fun W (h : Below w.heap.size w W) => rpart_any N A len cap l a W (by omega) hlen (by omega) hinn ((hx.below h).more h.size)
    have c3 := fun W hab (h : Below w.heap.size w W) => rcurrents_any N A len cap l a b W hv ⟨hin.1, hin.2.1⟩ hb hab ((hx.below h).more h.size)
    rw [h0, if_pos rfl] at hE
    rw [h0] at c1
    have hJ : jnB l a b = sB (partL N l a) b := by rw [hpj]; unfold jnB; rw [Bool.beq_comm]
    have hab : sB (partL N l a) b = true → at6 (full l R0) a = at6 (full l R0) b := fun h => by rw [← hJ] at h; unfold jnB at h; exact eq_of_beq h
    obtain ⟨hb0, hb1⟩ := hin.2.2
    rw [hJ] at hE
    have C1 := Lib.hid c1
    have C2 := Lib.hid c2
    clear c1 c2 h0 hv hl hpj hinn hJ
    generalize hS : sB (partL N l a) b = jb at *
    have HS := Lib.hid hS
    clear hS
    cases jb
    · rw [hF, hE]
      clear c3 hx hc bc hbd hF hE hab hlc
      go_enter Try.func23, Try.ntmps23
      go_wp2_with fail
      refine (C1.out _ (by repeat (first | exact Below.refl _ _ | assumption | refine Below.setCell ?_ (by first | (simp; done) | (simp; omega) | omega) _ | refine Below.drew ?_ | refine below_drewN ?_ _ | refine Below.alloc ?_ (by first | (simp; done) | (simp; omega) | omega) _ | refine below_alloc ?_ _ | refine below_step ?_ (by assumption)))).mono ?_
      rintro e w1 ⟨rfl, hb⟩
      have hB_w1 : Below w.heap.size w w1 := (by repeat (first | exact Below.refl _ _ | assumption | refine Below.setCell ?_ (by first | (simp; done) | (simp; omega) | omega) _ | refine Below.drew ?_ | refine below_drewN ?_ _ | refine Below.alloc ?_ (by first | (simp; done) | (simp; omega) | omega) _ | refine below_alloc ?_ _ | refine below_step ?_ (by assumption))); have hz_w1 := hB_w1.size; clear hb
      go_wp2_with fail
      refine (C2.out _ (by repeat (first | exact Below.refl _ _ | assumption | refine Below.setCell ?_ (by first | (simp; done) | (simp; omega) | omega) _ | refine Below.drew ?_ | refine below_drewN ?_ _ | refine Below.alloc ?_ (by first | (simp; done) | (simp; omega) | omega) _ | refine below_alloc ?_ _ | refine below_step ?_ (by assumption)))).mono ?_
      rintro e w2 ⟨⟨v, rfl, ho⟩, hb⟩
      obtain ⟨g, cp, rfl, -, -, -, -, hfr, hce⟩ := own_bools ho (by omega)
      have hc := hce b hb0 hb1
      rw [HS.out] at hc
      clear hce hfr ho
      have hB_w2 : Below w.heap.size w w2 := (by repeat (first | exact Below.refl _ _ | assumption | refine Below.setCell ?_ (by first | (simp; done) | (simp; omega) | omega) _ | refine Below.drew ?_ | refine below_drewN ?_ _ | refine Below.alloc ?_ (by first | (simp; done) | (simp; omega) | omega) _ | refine below_alloc ?_ _ | refine below_step ?_ (by assumption))); have hz_w2 := hB_w2.size; clear hb hB_w1
      go_wp2
      go_ret
      exact ⟨rfl, (by repeat (first | exact Below.refl _ _ | assumption | refine Below.setCell ?_ (by first | (simp; done) | (simp; omega) | omega) _ | refine Below.drew ?_ | refine below_drewN ?_ _ | refine Below.alloc ?_ (by first | (simp; done) | (simp; omega) | omega) _ | refine below_alloc ?_ _ | refine below_step ?_ (by assumption)))⟩
    · have hE0 : resE N l a b = 0 := hE
      have hbd := hbd hE0
      rw [hE0, decide_eq_true rfl, Bool.true_and] at hF
      rw [hF]
      have HX3 := Lib.hid (fun W => c3 W (hab rfl))
      have HC := Lib.hid hc
      have HLC := Lib.hid hlc
      have c5 := fun k W => Compare_any (cs[k]?.getD (0,0)).1 (cs[k]?.getD (0,0)).2 ((curL l a b)[k]?.getD (0,0)).1 ((curL l a b)[k]?.getD (0,0)).2 W (bdP_get bc k).1.1 (bdP_get bc k).1.2 (bdP_get bc k).2.1 (bdP_get bc k).2.2 (bdP_get hbd k).1.1 (bdP_get hbd k).1.2 (bdP_get hbd k).2.1 (bdP_get hbd k).2.2
      have hcl := hc.1
      generalize curL l a b = CL at *
      have hno := fun k hk h => eqF_no (xs := CL) (ys := cs) (k := k) hk h
      have hst := fun k h h2 => eqF_step (xs := CL) (ys := cs) (k := k) h h2
      have HNO := Lib.hid hno
      have HST := Lib.hid hst
      have C5 := Lib.hid c5
      have HE : Hid (eqF CL cs = (decide (len = m) && (List.range len).all fun i => okF (CL[i]?.getD (0,0)) (cs[i]?.getD (0,0)))) := Lib.hid (by unfold eqF; rw [hlc, hcl])
      clear c3 c5 hx hc bc hbd hF hE hE0 hab hlc hno hst hcl
      by_cases hl : m = len
      · subst hl
        have hmm : ((m : Int) == (m : Int)) = true := by simp
        go_enter Try.func23, Try.ntmps23
        go_wp2_with fail
        refine (C1.out _ (by repeat (first | exact Below.refl _ _ | assumption | refine Below.setCell ?_ (by first | (simp; done) | (simp; omega) | omega) _ | refine Below.drew ?_ | refine below_drewN ?_ _ | refine Below.alloc ?_ (by first | (simp; done) | (simp; omega) | omega) _ | refine below_alloc ?_ _ | refine below_step ?_ (by assumption)))).mono ?_
        rintro e w1 ⟨rfl, hb⟩
        have hB_w1 : Below w.heap.size w w1 := (by repeat (first | exact Below.refl _ _ | assumption | refine Below.setCell ?_ (by first | (simp; done) | (simp; omega) | omega) _ | refine Below.drew ?_ | refine below_drewN ?_ _ | refine Below.alloc ?_ (by first | (simp; done) | (simp; omega) | omega) _ | refine below_alloc ?_ _ | refine below_step ?_ (by assumption))); have hz_w1 := hB_w1.size; clear hb
        go_wp2_with fail
        refine (C2.out _ (by repeat (first | exact Below.refl _ _ | assumption | refine Below.setCell ?_ (by first | (simp; done) | (simp; omega) | omega) _ | refine Below.drew ?_ | refine below_drewN ?_ _ | refine Below.alloc ?_ (by first | (simp; done) | (simp; omega) | omega) _ | refine below_alloc ?_ _ | refine below_step ?_ (by assumption)))).mono ?_
        rintro e w2 ⟨⟨v, rfl, ho⟩, hb⟩
        obtain ⟨g, cp, rfl, -, -, -, -, hfr, hce⟩ := own_bools ho (by omega)
        have hc := hce b hb0 hb1
        rw [HS.out] at hc
        clear hce hfr ho
        have hB_w2 : Below w.heap.size w w2 := (by repeat (first | exact Below.refl _ _ | assumption | refine Below.setCell ?_ (by first | (simp; done) | (simp; omega) | omega) _ | refine Below.drew ?_ | refine below_drewN ?_ _ | refine Below.alloc ?_ (by first | (simp; done) | (simp; omega) | omega) _ | refine below_alloc ?_ _ | refine below_step ?_ (by assumption))); have hz_w2 := hB_w2.size; clear hb hB_w1
        go_wp2_with fail
        refine (HX3.out _ (by repeat (first | exact Below.refl _ _ | assumption | refine Below.setCell ?_ (by first | (simp; done) | (simp; omega) | omega) _ | refine Below.drew ?_ | refine below_drewN ?_ _ | refine Below.alloc ?_ (by first | (simp; done) | (simp; omega) | omega) _ | refine below_alloc ?_ _ | refine below_step ?_ (by assumption)))).mono ?_
        rintro e w3 ⟨⟨v, rfl, ho⟩, hb⟩
        obtain ⟨A3, cap3, rfl, -, -, hP3, -⟩ := own_pairs ho
        have HP := Lib.hid hP3
        clear ho hP3
        have hB_w3 : Below w.heap.size w w3 := (by repeat (first | exact Below.refl _ _ | assumption | refine Below.setCell ?_ (by first | (simp; done) | (simp; omega) | omega) _ | refine Below.drew ?_ | refine below_drewN ?_ _ | refine Below.alloc ?_ (by first | (simp; done) | (simp; omega) | omega) _ | refine below_alloc ?_ _ | refine below_step ?_ (by assumption))); have hz_w3 := hB_w3.size; clear hb hB_w2
        have hs03 := hB_w3.size
        clear hc
        go_wp2
        go_loopw [12] (fun i wr => ∃ k : Nat, k ≤ m ∧ i = .int .i64 k ∧ Hid ((List.range k).all (fun i => okF (CL[i]?.getD (0,0)) (cs[i]?.getD (0,0))) = true) ∧ Below w3.heap.size w3 wr) (fun i _ => m - (intOf i).toNat)
        case atStart => exact ⟨0, Nat.zero_le _, rfl, Lib.hid rfl, Below.refl _ _⟩
        case round =>
          obtain ⟨k, hk, rfl, HT, hB⟩ := hrel
          have hBw : Below w.heap.size w wr := hB_w3.trans (hB.mono hs03)
          by_cases hlt : k < m
          · obtain ⟨b1, off1, rfl, hq0, hq1, hq2⟩ := (HP.out.below hB).at_ k hlt
            obtain ⟨b2, off2, rfl, hr0, hr1, hr2⟩ := (HC.out.below hBw).at_ k hlt
            have hbs := hB.size
            have hbz := hBw.size
            have hb1' : b1 < wr.heap.size := by omega
            have hb2' : b2 < wr.heap.size := by omega
            have hk1 : (k : Int) < m := by omega
            have hn := HNO.out k (by rw [HLC.out]; exact hlt)
            have hs := HST.out k HT.out
            have c6 := C5.out k
            have ca1 := fun W => uwithin_any (cs[k]?.getD (0,0)).2 1 1000000000000000000 W
            have ca2 := fun W => uwithin_any (cs[k]?.getD (0,0)).1 (-1000000000000000000) 1000000000000000000 W
            generalize CL[k]?.getD (0,0) = X at *
            generalize cs[k]?.getD (0,0) = Y at *
            have hok : okF X Y = ((withinB Y.2 1 1000000000000000000 && withinB Y.1 (-1000000000000000000) 1000000000000000000) && decide (cmpR Y.1 Y.2 X.1 X.2 = 0)) := by
              unfold okF
              rw [decide_eq_decide.2 (iff_of_eq (cmpR_flip X.1 X.2 Y.1 Y.2))]
            rw [hok] at hn hs
            clear hok HT
            generalize cmpR Y.1 Y.2 X.1 X.2 = R at *
            generalize withinB Y.2 1 1000000000000000000 = P1 at *
            generalize withinB Y.1 (-1000000000000000000) 1000000000000000000 = P2 at *
            have C6 := Lib.hid c6
            have CA1 := Lib.hid ca1
            have CA2 := Lib.hid ca2
            have hN0 := Lib.hid hn
            have hS0 := Lib.hid hs
            clear c6 ca1 ca2 hn hs
            cases P1
            · have HN := Lib.hid (hN0.out rfl)
              clear hN0 hS0
              go_wp2_with fail
              refine wp_region_later (by kernel_rfl) (by kernel_rfl) ?_
              repeat (go_big_quiet_step (fail))
              go_big_quiet_step ((go_at_call 49; exact later_same (CA1.out _)))
              repeat (go_big_quiet_step (fail))
              refine wpQuiet_nil ?_
              intro w4 hb4
              go_wp2
              go_ret
              exact ⟨ret_bool HN.out.symm, hBw.trans (hb4.mono hBw.size)⟩
            · cases P2
              · have HN := Lib.hid (hN0.out rfl)
                clear hN0 hS0
                go_wp2_with fail
                refine wp_region_later (by kernel_rfl) (by kernel_rfl) ?_
                repeat (go_big_quiet_step (fail))
                go_big_quiet_step ((go_at_call 49; exact later_same (CA1.out _)))
                repeat (go_big_quiet_step (fail))
                go_big_quiet_step ((go_at_call 49; exact later_same (CA2.out _)))
                repeat (go_big_quiet_step (fail))
                refine wpQuiet_nil ?_
                intro w4 hb4
                go_wp2
                go_ret
                exact ⟨ret_bool HN.out.symm, hBw.trans (hb4.mono hBw.size)⟩
              · by_cases hR : R = 0
                · subst hR
                  have HS1 := Lib.hid (hS0.out rfl)
                  clear hN0 hS0
                  go_wp2_with fail
                  refine wp_region_later (by kernel_rfl) (by kernel_rfl) ?_
                  repeat (go_big_quiet_step (fail))
                  go_big_quiet_step ((go_at_call 49; exact later_same (CA1.out _)))
                  repeat (go_big_quiet_step (fail))
                  go_big_quiet_step ((go_at_call 49; exact later_same (CA2.out _)))
                  repeat (go_big_quiet_step (fail))
                  go_big_quiet_step ((go_at_call 21; exact later_call (C6.out _)))
                  repeat (go_big_quiet_step (fail))
                  refine wpQuiet_nil ?_
                  intro w4 hb4
                  go_wp2
                  go_roundw
                  case rel => exact ⟨k + 1, by omega, by go_num, HS1, hB.trans (hb4.mono hB.size)⟩
                  case measure => simp [intOf]; omega
                · have HN := Lib.hid (hN0.out (by rw [decide_eq_false hR]; rfl))
                  have hR' : (R == 0) = false := by simpa using hR
                  clear hN0 hS0
                  go_wp2_with fail
                  refine wp_region_later (by kernel_rfl) (by kernel_rfl) ?_
                  repeat (go_big_quiet_step (fail))
                  go_big_quiet_step ((go_at_call 49; exact later_same (CA1.out _)))
                  repeat (go_big_quiet_step (fail))
                  go_big_quiet_step ((go_at_call 49; exact later_same (CA2.out _)))
                  repeat (go_big_quiet_step (fail))
                  go_big_quiet_step ((go_at_call 21; exact later_call (C6.out _)))
                  repeat (go_big_quiet_step (fail))
                  refine wpQuiet_nil ?_
                  intro w4 hb4
                  go_wp2
                  go_ret
                  exact ⟨ret_bool HN.out.symm, hBw.trans (hb4.mono hBw.size)⟩
          · have hkl : k = m := by omega
            have hfin : Hid (true = eqF CL cs) := Lib.hid (by rw [HE.out, ← hkl, HT.out]; simp)
            clear HT
            have hk1 : ¬ (k : Int) < m := by omega
            go_wp2
            go_ret
            exact ⟨ret_bool hfin.out, hBw⟩
      · have hfin : Hid (false = eqF CL cs) := Lib.hid (by rw [HE.out, decide_eq_false (fun h => hl h.symm)]; rfl)
        have hmm : ((m : Int) == (len : Int)) = false := by simp; omega
        go_enter Try.func23, Try.ntmps23
        go_wp2_with fail
        refine (C1.out _ (by repeat (first | exact Below.refl _ _ | assumption | refine Below.setCell ?_ (by first | (simp; done) | (simp; omega) | omega) _ | refine Below.drew ?_ | refine below_drewN ?_ _ | refine Below.alloc ?_ (by first | (simp; done) | (simp; omega) | omega) _ | refine below_alloc ?_ _ | refine below_step ?_ (by assumption)))).mono ?_
        rintro e w1 ⟨rfl, hb⟩
        have hB_w1 : Below w.heap.size w w1 := (by repeat (first | exact Below.refl _ _ | assumption | refine Below.setCell ?_ (by first | (simp; done) | (simp; omega) | omega) _ | refine Below.drew ?_ | refine below_drewN ?_ _ | refine Below.alloc ?_ (by first | (simp; done) | (simp; omega) | omega) _ | refine below_alloc ?_ _ | refine below_step ?_ (by assumption))); have hz_w1 := hB_w1.size; clear hb
        go_wp2_with fail
        refine (C2.out _ (by repeat (first | exact Below.refl _ _ | assumption | refine Below.setCell ?_ (by first | (simp; done) | (simp; omega) | omega) _ | refine Below.drew ?_ | refine below_drewN ?_ _ | refine Below.alloc ?_ (by first | (simp; done) | (simp; omega) | omega) _ | refine below_alloc ?_ _ | refine below_step ?_ (by assumption)))).mono ?_
        rintro e w2 ⟨⟨v, rfl, ho⟩, hb⟩
        obtain ⟨g, cp, rfl, -, -, -, -, hfr, hce⟩ := own_bools ho (by omega)
        have hc := hce b hb0 hb1
        rw [HS.out] at hc
        clear hce hfr ho
        have hB_w2 : Below w.heap.size w w2 := (by repeat (first | exact Below.refl _ _ | assumption | refine Below.setCell ?_ (by first | (simp; done) | (simp; omega) | omega) _ | refine Below.drew ?_ | refine below_drewN ?_ _ | refine Below.alloc ?_ (by first | (simp; done) | (simp; omega) | omega) _ | refine below_alloc ?_ _ | refine below_step ?_ (by assumption))); have hz_w2 := hB_w2.size; clear hb hB_w1
        go_wp2
        go_ret
        exact ⟨ret_bool hfin.out, (by repeat (first | exact Below.refl _ _ | assumption | refine Below.setCell ?_ (by first | (simp; done) | (simp; omega) | omega) _ | refine Below.drew ?_ | refine below_drewN ?_ _ | refine Below.alloc ?_ (by first | (simp; done) | (simp; omega) | omega) _ | refine below_alloc ?_ _ | refine below_step ?_ (by assumption)))⟩
  · have h0' : (askE n l [a, b] == 0) = false := by simpa using h0
    have h0'' : (askE n l [a, b] != 0) = true := by simpa using h0
    rw [if_neg h0] at hE
    rw [hE, decide_eq_false h0, Bool.false_and] at hF
    rw [hF]
    generalize askE n l [a, b] = E at *
    have C1 := Lib.hid c1
    clear c1 hx hE hF h0 hc bc hbd hlc
    go_enter Try.func23, Try.ntmps23
    go_wp2_with fail
    refine (C1.out _ (by repeat (first | exact Below.refl _ _ | assumption | refine Below.setCell ?_ (by first | (simp; done) | (simp; omega) | omega) _ | refine Below.drew ?_ | refine below_drewN ?_ _ | refine Below.alloc ?_ (by first | (simp; done) | (simp; omega) | omega) _ | refine below_alloc ?_ _ | refine below_step ?_ (by assumption)))).mono ?_
    rintro e w1 ⟨rfl, hb⟩
    have hB_w1 : Below w.heap.size w w1 := (by repeat (first | exact Below.refl _ _ | assumption | refine Below.setCell ?_ (by first | (simp; done) | (simp; omega) | omega) _ | refine Below.drew ?_ | refine below_drewN ?_ _ | refine Below.alloc ?_ (by first | (simp; done) | (simp; omega) | omega) _ | refine below_alloc ?_ _ | refine below_step ?_ (by assumption))); have hz_w1 := hB_w1.size; clear hb
    go_wp2
    go_ret
    exact ⟨rfl, (by repeat (first | exact Below.refl _ _ | assumption | refine Below.setCell ?_ (by first | (simp; done) | (simp; omega) | omega) _ | refine Below.drew ?_ | refine below_drewN ?_ _ | refine Below.alloc ?_ (by first | (simp; done) | (simp; omega) | omega) _ | refine below_alloc ?_ _ | refine below_step ?_ (by assumption)))⟩
end Go.Proofs.Ytpfhfmnlojigpaa

namespace Go.Proofs.Ytpfhfmnlojigpaa
open Go.RowKit
attribute [local go_sem] Later.cell Same.cell

theorem flB_own {n : Int} {l : List Tp} {a b : Int} (h : resE n l a b = 0) : flB n l a b (curL l a b) = true := by
  have hb := curL_bd h
  unfold flB eqF
  rw [decide_eq_true h, decide_eq_true rfl, Bool.true_and, Bool.true_and, List.all_eq_true]
  intro i hi
  have hi' := List.mem_range.1 hi
  have h1 := hb ((curL l a b)[i]?.getD (0,0)) (by rw [List.getElem?_eq_getElem hi']; exact List.getElem_mem hi')
  have hc : ∀ x y : Int, cmpR x y x y = 0 := fun x y => by unfold cmpR; exact sgn_of_zero (by omega)
  unfold okF
  rw [hc, withinB_iff.2 h1.2, withinB_iff.2 h1.1]; rfl
set_option maxRecDepth 20000 in
set_option maxHeartbeats 8000000 in
theorem flows_walk (n : Int) (A : Option Addr) (len cap : Nat) (l : List Tp) (a b : Int) (A' : Option Addr) (m cap' : Nat) (cs : List (Int × Int)) (w : World)
    (hm : len ≤ cap ∧ cap ≤ 9223372036854775807) (hx : Rows 3 int3 (0,0,0) w w.heap.size A len l)
    (hm' : m ≤ cap' ∧ cap' ≤ 9223372036854775807) (hc : Pairs w w.heap.size A' m cs) (bc : ∀ x ∈ cs, bdP x) :
    Calls Try.prog 7 #[.agg #[.int .i64 n, .slice A len cap], .agg #[.int .i64 a, .int .i64 b], .slice A' m cap'] w fun e w' => e = .returned (.bool true) ∧ Below w.heap.size w w' := by
  have c0 := fun W => tsmall_any n A len cap W
  by_cases hs : decide (len ≤ 30) = true
  · rw [hs] at c0
    by_cases hs2 : 30 < m
    · have hs2' : (30 : Int) < m := by omega
      have C0 := Lib.hid c0
      clear c0 hx hs hc bc
      go_enter Try.func7, Try.ntmps7
      go_wp2_with fail
      refine (C0.out _).mono ?_
      rintro e w0 ⟨rfl, hb⟩
      have hB_w0 : Below w.heap.size w w0 := (by repeat (first | exact Below.refl _ _ | assumption | refine Below.setCell ?_ (by first | (simp; done) | (simp; omega) | omega) _ | refine Below.drew ?_ | refine below_drewN ?_ _ | refine Below.alloc ?_ (by first | (simp; done) | (simp; omega) | omega) _ | refine below_alloc ?_ _ | refine below_step ?_ (by assumption))); have hz_w0 := hB_w0.size; have hsw00 : w.heap.size < w0.heap.size := Nat.lt_of_lt_of_le (by first | (simp; done) | (simp; omega) | omega) hb.size; have hnw00 : ¬ w.heap.size = w0.heap.size := (by omega); have hmw00 : ¬ w0.heap.size = w.heap.size := (by omega); have hlw00_0 : w.heap.size ≤ w0.heap.size := (by omega); have hlw00_1 : w.heap.size ≤ w0.heap.size + 1 := (by omega); have hlw00_2 : w.heap.size ≤ w0.heap.size + 1 + 1 := (by omega); have hkw00 : w0.cell? ⟨w.heap.size, 0, none⟩ = some (.int .i64 n) := (by rw [hb.cell (p := ⟨w.heap.size, 0, none⟩) (by first | (simp; done) | (simp; omega) | omega)]; first | (go_simp; done) | assumption); have hkw01 : w0.cell? ⟨w.heap.size, 1, none⟩ = some (.slice A len cap) := (by rw [hb.cell (p := ⟨w.heap.size, 1, none⟩) (by first | (simp; done) | (simp; omega) | omega)]; first | (go_simp; done) | assumption); have hsw02 : w.heap.size + 1 < w0.heap.size := Nat.lt_of_lt_of_le (by first | (simp; done) | (simp; omega) | omega) hb.size; have hnw02 : ¬ w.heap.size + 1 = w0.heap.size := (by omega); have hmw02 : ¬ w0.heap.size = w.heap.size + 1 := (by omega); have hlw02_0 : w.heap.size + 1 ≤ w0.heap.size := (by omega); have hlw02_1 : w.heap.size + 1 ≤ w0.heap.size + 1 := (by omega); have hlw02_2 : w.heap.size + 1 ≤ w0.heap.size + 1 + 1 := (by omega); have hkw02 : w0.cell? ⟨w.heap.size + 1, 0, none⟩ = some (.int .i64 a) := (by rw [hb.cell (p := ⟨w.heap.size + 1, 0, none⟩) (by first | (simp; done) | (simp; omega) | omega)]; first | (go_simp; done) | assumption); have hkw03 : w0.cell? ⟨w.heap.size + 1, 1, none⟩ = some (.int .i64 b) := (by rw [hb.cell (p := ⟨w.heap.size + 1, 1, none⟩) (by first | (simp; done) | (simp; omega) | omega)]; first | (go_simp; done) | assumption); clear hb
      go_wp2_with (go_at_call 10; refine (tawake_any _).mono ?_; rintro e w8 ⟨rfl, hb1⟩)
      go_ret
      exact ⟨rfl, (by repeat (first | exact Below.refl _ _ | assumption | refine Below.setCell ?_ (by first | (simp; done) | (simp; omega) | omega) _ | refine Below.drew ?_ | refine below_drewN ?_ _ | refine Below.alloc ?_ (by first | (simp; done) | (simp; omega) | omega) _ | refine below_alloc ?_ _ | refine below_step ?_ (by assumption)))⟩
    · have hs2' : ¬ (30 : Int) < m := by omega
      have c1 := fun W (hh : Below w.heap.size w W) => Flows_any n A len cap l a b A' m cap' cs W (by omega) (by omega) ((hx.below hh).more hh.size) ((hc.below hh).more hh.size) bc
      have c2 := fun W (hh : Below w.heap.size w W) => rFlows_any n A len cap l a b A' m cap' cs W (by omega) (by omega) ((hx.below hh).more hh.size) ((hc.below hh).more hh.size) bc
      have c3 := fun W (hh : Below w.heap.size w W) => Currents_any n A len cap l a b W (by omega) ((hx.below hh).more hh.size)
      have c4 := fun (hE : resE n l a b = 0) B W (hh : Below w.heap.size w W) h2 => Flows_any n A len cap l a b (some ⟨B, 0, none⟩) len len (curL l a b) W (by omega) (by omega) ((hx.below hh).more hh.size) h2 (curL_bdP hE)
      have hlc := curL_len l a b
      rw [hx.1] at hlc
      have hfl := fun (hE : resE n l a b = 0) => flB_own hE
      generalize flB n l a b cs = F at *
      by_cases hE : resE n l a b = 0
      · have c4 := c4 hE
        rw [hfl hE] at c4
        rw [hE] at c3
        generalize curL l a b = CL at *
        have C0 := Lib.hid c0
        have C1 := Lib.hid c1
        have C2 := Lib.hid c2
        have C3 := Lib.hid c3
        have C4 := Lib.hid c4
        have HLC := Lib.hid hlc
        clear c0 c1 c2 c3 c4 hx hs hc bc hlc hfl hE
        have hFF : (F == F) = true := by simp
        go_enter Try.func7, Try.ntmps7
        go_wp2_with fail
        refine (C0.out _).mono ?_
        rintro e w0 ⟨rfl, hb⟩
        have hB_w0 : Below w.heap.size w w0 := (by repeat (first | exact Below.refl _ _ | assumption | refine Below.setCell ?_ (by first | (simp; done) | (simp; omega) | omega) _ | refine Below.drew ?_ | refine below_drewN ?_ _ | refine Below.alloc ?_ (by first | (simp; done) | (simp; omega) | omega) _ | refine below_alloc ?_ _ | refine below_step ?_ (by assumption))); have hz_w0 := hB_w0.size; have hsw00 : w.heap.size < w0.heap.size := Nat.lt_of_lt_of_le (by first | (simp; done) | (simp; omega) | omega) hb.size; have hnw00 : ¬ w.heap.size = w0.heap.size := (by omega); have hmw00 : ¬ w0.heap.size = w.heap.size := (by omega); have hlw00_0 : w.heap.size ≤ w0.heap.size := (by omega); have hlw00_1 : w.heap.size ≤ w0.heap.size + 1 := (by omega); have hlw00_2 : w.heap.size ≤ w0.heap.size + 1 + 1 := (by omega); have hkw00 : w0.cell? ⟨w.heap.size, 0, none⟩ = some (.int .i64 n) := (by rw [hb.cell (p := ⟨w.heap.size, 0, none⟩) (by first | (simp; done) | (simp; omega) | omega)]; first | (go_simp; done) | assumption); have hkw01 : w0.cell? ⟨w.heap.size, 1, none⟩ = some (.slice A len cap) := (by rw [hb.cell (p := ⟨w.heap.size, 1, none⟩) (by first | (simp; done) | (simp; omega) | omega)]; first | (go_simp; done) | assumption); have hsw02 : w.heap.size + 1 < w0.heap.size := Nat.lt_of_lt_of_le (by first | (simp; done) | (simp; omega) | omega) hb.size; have hnw02 : ¬ w.heap.size + 1 = w0.heap.size := (by omega); have hmw02 : ¬ w0.heap.size = w.heap.size + 1 := (by omega); have hlw02_0 : w.heap.size + 1 ≤ w0.heap.size := (by omega); have hlw02_1 : w.heap.size + 1 ≤ w0.heap.size + 1 := (by omega); have hlw02_2 : w.heap.size + 1 ≤ w0.heap.size + 1 + 1 := (by omega); have hkw02 : w0.cell? ⟨w.heap.size + 1, 0, none⟩ = some (.int .i64 a) := (by rw [hb.cell (p := ⟨w.heap.size + 1, 0, none⟩) (by first | (simp; done) | (simp; omega) | omega)]; first | (go_simp; done) | assumption); have hkw03 : w0.cell? ⟨w.heap.size + 1, 1, none⟩ = some (.int .i64 b) := (by rw [hb.cell (p := ⟨w.heap.size + 1, 1, none⟩) (by first | (simp; done) | (simp; omega) | omega)]; first | (go_simp; done) | assumption); clear hb
        go_wp2_with fail
        refine wp_region_later (by kernel_rfl) (by kernel_rfl) ?_
        repeat (go_big_quiet_step (fail))
        go_big_quiet_step ((go_at_call 22; exact later_call (C1.out _ (below_step hB_w0 (‹Later _›).h))))
        repeat (go_big_quiet_step (fail))
        go_big_quiet_step ((go_at_call 23; exact later_call (C2.out _ (below_step hB_w0 (‹Later _›).h))))
        repeat (go_big_quiet_step (fail))
        refine wpQuiet_nil ?_
        intro w2 hb
        have hB_w2 : Below w.heap.size w w2 := (by repeat (first | exact Below.refl _ _ | assumption | refine Below.setCell ?_ (by first | (simp; done) | (simp; omega) | omega) _ | refine Below.drew ?_ | refine below_drewN ?_ _ | refine Below.alloc ?_ (by first | (simp; done) | (simp; omega) | omega) _ | refine below_alloc ?_ _ | refine below_step ?_ (by assumption))); have hz_w2 := hB_w2.size; have hsw20 : w.heap.size < w2.heap.size := Nat.lt_of_lt_of_le (by first | (simp; done) | (simp; omega) | omega) hb.size; have hnw20 : ¬ w.heap.size = w2.heap.size := (by omega); have hmw20 : ¬ w2.heap.size = w.heap.size := (by omega); have hlw20_0 : w.heap.size ≤ w2.heap.size := (by omega); have hlw20_1 : w.heap.size ≤ w2.heap.size + 1 := (by omega); have hlw20_2 : w.heap.size ≤ w2.heap.size + 1 + 1 := (by omega); have hkw20 : w2.cell? ⟨w.heap.size, 0, none⟩ = some (.int .i64 n) := (by rw [hb.cell (p := ⟨w.heap.size, 0, none⟩) (by first | (simp; done) | (simp; omega) | omega)]; first | (go_simp; done) | assumption); have hkw21 : w2.cell? ⟨w.heap.size, 1, none⟩ = some (.slice A len cap) := (by rw [hb.cell (p := ⟨w.heap.size, 1, none⟩) (by first | (simp; done) | (simp; omega) | omega)]; first | (go_simp; done) | assumption); have hsw22 : w.heap.size + 1 < w2.heap.size := Nat.lt_of_lt_of_le (by first | (simp; done) | (simp; omega) | omega) hb.size; have hnw22 : ¬ w.heap.size + 1 = w2.heap.size := (by omega); have hmw22 : ¬ w2.heap.size = w.heap.size + 1 := (by omega); have hlw22_0 : w.heap.size + 1 ≤ w2.heap.size := (by omega); have hlw22_1 : w.heap.size + 1 ≤ w2.heap.size + 1 := (by omega); have hlw22_2 : w.heap.size + 1 ≤ w2.heap.size + 1 + 1 := (by omega); have hkw22 : w2.cell? ⟨w.heap.size + 1, 0, none⟩ = some (.int .i64 a) := (by rw [hb.cell (p := ⟨w.heap.size + 1, 0, none⟩) (by first | (simp; done) | (simp; omega) | omega)]; first | (go_simp; done) | assumption); have hkw23 : w2.cell? ⟨w.heap.size + 1, 1, none⟩ = some (.int .i64 b) := (by rw [hb.cell (p := ⟨w.heap.size + 1, 1, none⟩) (by first | (simp; done) | (simp; omega) | omega)]; first | (go_simp; done) | assumption); clear hb hB_w0 hlw00_0 hlw00_1 hlw00_2 hkw00 hkw01 hlw02_0 hlw02_1 hlw02_2 hkw02 hkw03
        go_wp2_with fail
        refine (C3.out _ (by repeat (first | exact Below.refl _ _ | assumption | refine Below.setCell ?_ (by first | (simp; done) | (simp; omega) | omega) _ | refine Below.drew ?_ | refine below_drewN ?_ _ | refine Below.alloc ?_ (by first | (simp; done) | (simp; omega) | omega) _ | refine below_alloc ?_ _ | refine below_step ?_ (by assumption)))).mono ?_
        rintro e w3 ⟨⟨v3, rfl, hV⟩, hb⟩
        obtain ⟨g, rfl, hg, hCA⟩ := hV.1 rfl
        have HP := Lib.hid (ca_pairs2 hCA HLC.out)
        clear hV hCA
        have hB_w3 : Below w.heap.size w w3 := (by repeat (first | exact Below.refl _ _ | assumption | refine Below.setCell ?_ (by first | (simp; done) | (simp; omega) | omega) _ | refine Below.drew ?_ | refine below_drewN ?_ _ | refine Below.alloc ?_ (by first | (simp; done) | (simp; omega) | omega) _ | refine below_alloc ?_ _ | refine below_step ?_ (by assumption))); have hz_w3 := hB_w3.size; have hsw30 : w.heap.size < w3.heap.size := Nat.lt_of_lt_of_le (by first | (simp; done) | (simp; omega) | omega) hb.size; have hnw30 : ¬ w.heap.size = w3.heap.size := (by omega); have hmw30 : ¬ w3.heap.size = w.heap.size := (by omega); have hlw30_0 : w.heap.size ≤ w3.heap.size := (by omega); have hlw30_1 : w.heap.size ≤ w3.heap.size + 1 := (by omega); have hlw30_2 : w.heap.size ≤ w3.heap.size + 1 + 1 := (by omega); have hkw30 : w3.cell? ⟨w.heap.size, 0, none⟩ = some (.int .i64 n) := (by rw [hb.cell (p := ⟨w.heap.size, 0, none⟩) (by first | (simp; done) | (simp; omega) | omega)]; first | (go_simp; done) | assumption); have hkw31 : w3.cell? ⟨w.heap.size, 1, none⟩ = some (.slice A len cap) := (by rw [hb.cell (p := ⟨w.heap.size, 1, none⟩) (by first | (simp; done) | (simp; omega) | omega)]; first | (go_simp; done) | assumption); have hsw32 : w.heap.size + 1 < w3.heap.size := Nat.lt_of_lt_of_le (by first | (simp; done) | (simp; omega) | omega) hb.size; have hnw32 : ¬ w.heap.size + 1 = w3.heap.size := (by omega); have hmw32 : ¬ w3.heap.size = w.heap.size + 1 := (by omega); have hlw32_0 : w.heap.size + 1 ≤ w3.heap.size := (by omega); have hlw32_1 : w.heap.size + 1 ≤ w3.heap.size + 1 := (by omega); have hlw32_2 : w.heap.size + 1 ≤ w3.heap.size + 1 + 1 := (by omega); have hkw32 : w3.cell? ⟨w.heap.size + 1, 0, none⟩ = some (.int .i64 a) := (by rw [hb.cell (p := ⟨w.heap.size + 1, 0, none⟩) (by first | (simp; done) | (simp; omega) | omega)]; first | (go_simp; done) | assumption); have hkw33 : w3.cell? ⟨w.heap.size + 1, 1, none⟩ = some (.int .i64 b) := (by rw [hb.cell (p := ⟨w.heap.size + 1, 1, none⟩) (by first | (simp; done) | (simp; omega) | omega)]; first | (go_simp; done) | assumption); clear hb hB_w2 hlw20_0 hlw20_1 hlw20_2 hkw20 hkw21 hlw22_0 hlw22_1 hlw22_2 hkw22 hkw23
        go_wp2_with fail
        refine (C4.out _ _ (by repeat (first | exact Below.refl _ _ | assumption | refine Below.setCell ?_ (by first | (simp; done) | (simp; omega) | omega) _ | refine Below.drew ?_ | refine below_drewN ?_ _ | refine Below.alloc ?_ (by first | (simp; done) | (simp; omega) | omega) _ | refine below_alloc ?_ _ | refine below_step ?_ (by assumption))) HP.out).mono ?_
        rintro e w4 ⟨rfl, hb⟩
        have hB_w4 : Below w.heap.size w w4 := (by repeat (first | exact Below.refl _ _ | assumption | refine Below.setCell ?_ (by first | (simp; done) | (simp; omega) | omega) _ | refine Below.drew ?_ | refine below_drewN ?_ _ | refine Below.alloc ?_ (by first | (simp; done) | (simp; omega) | omega) _ | refine below_alloc ?_ _ | refine below_step ?_ (by assumption))); have hz_w4 := hB_w4.size; clear hb hB_w3 hlw30_0 hlw30_1 hlw30_2 hkw30 hkw31 hlw32_0 hlw32_1 hlw32_2 hkw32 hkw33
        go_wp2_with (go_at_call 10; refine (tawake_any _).mono ?_; rintro e w8 ⟨rfl, hb1⟩)
        go_ret
        exact ⟨rfl, (by repeat (first | exact Below.refl _ _ | assumption | refine Below.setCell ?_ (by first | (simp; done) | (simp; omega) | omega) _ | refine Below.drew ?_ | refine below_drewN ?_ _ | refine Below.alloc ?_ (by first | (simp; done) | (simp; omega) | omega) _ | refine below_alloc ?_ _ | refine below_step ?_ (by assumption)))⟩
      · have hE' : (resE n l a b == 0) = false := by simpa using hE
        have hE'' : (resE n l a b != 0) = true := by simpa using hE
        generalize resE n l a b = E at *
        have C0 := Lib.hid c0
        have C1 := Lib.hid c1
        have C2 := Lib.hid c2
        have C3 := Lib.hid c3
        clear c0 c1 c2 c3 c4 hx hs hc bc hlc hfl hE
        have hFF : (F == F) = true := by simp
        go_enter Try.func7, Try.ntmps7
        go_wp2_with fail
        refine (C0.out _).mono ?_
        rintro e w0 ⟨rfl, hb⟩
        have hB_w0 : Below w.heap.size w w0 := (by repeat (first | exact Below.refl _ _ | assumption | refine Below.setCell ?_ (by first | (simp; done) | (simp; omega) | omega) _ | refine Below.drew ?_ | refine below_drewN ?_ _ | refine Below.alloc ?_ (by first | (simp; done) | (simp; omega) | omega) _ | refine below_alloc ?_ _ | refine below_step ?_ (by assumption))); have hz_w0 := hB_w0.size; have hsw00 : w.heap.size < w0.heap.size := Nat.lt_of_lt_of_le (by first | (simp; done) | (simp; omega) | omega) hb.size; have hnw00 : ¬ w.heap.size = w0.heap.size := (by omega); have hmw00 : ¬ w0.heap.size = w.heap.size := (by omega); have hlw00_0 : w.heap.size ≤ w0.heap.size := (by omega); have hlw00_1 : w.heap.size ≤ w0.heap.size + 1 := (by omega); have hlw00_2 : w.heap.size ≤ w0.heap.size + 1 + 1 := (by omega); have hkw00 : w0.cell? ⟨w.heap.size, 0, none⟩ = some (.int .i64 n) := (by rw [hb.cell (p := ⟨w.heap.size, 0, none⟩) (by first | (simp; done) | (simp; omega) | omega)]; first | (go_simp; done) | assumption); have hkw01 : w0.cell? ⟨w.heap.size, 1, none⟩ = some (.slice A len cap) := (by rw [hb.cell (p := ⟨w.heap.size, 1, none⟩) (by first | (simp; done) | (simp; omega) | omega)]; first | (go_simp; done) | assumption); have hsw02 : w.heap.size + 1 < w0.heap.size := Nat.lt_of_lt_of_le (by first | (simp; done) | (simp; omega) | omega) hb.size; have hnw02 : ¬ w.heap.size + 1 = w0.heap.size := (by omega); have hmw02 : ¬ w0.heap.size = w.heap.size + 1 := (by omega); have hlw02_0 : w.heap.size + 1 ≤ w0.heap.size := (by omega); have hlw02_1 : w.heap.size + 1 ≤ w0.heap.size + 1 := (by omega); have hlw02_2 : w.heap.size + 1 ≤ w0.heap.size + 1 + 1 := (by omega); have hkw02 : w0.cell? ⟨w.heap.size + 1, 0, none⟩ = some (.int .i64 a) := (by rw [hb.cell (p := ⟨w.heap.size + 1, 0, none⟩) (by first | (simp; done) | (simp; omega) | omega)]; first | (go_simp; done) | assumption); have hkw03 : w0.cell? ⟨w.heap.size + 1, 1, none⟩ = some (.int .i64 b) := (by rw [hb.cell (p := ⟨w.heap.size + 1, 1, none⟩) (by first | (simp; done) | (simp; omega) | omega)]; first | (go_simp; done) | assumption); clear hb
        go_wp2_with fail
        refine wp_region_later (by kernel_rfl) (by kernel_rfl) ?_
        repeat (go_big_quiet_step (fail))
        go_big_quiet_step ((go_at_call 22; exact later_call (C1.out _ (below_step hB_w0 (‹Later _›).h))))
        repeat (go_big_quiet_step (fail))
        go_big_quiet_step ((go_at_call 23; exact later_call (C2.out _ (below_step hB_w0 (‹Later _›).h))))
        repeat (go_big_quiet_step (fail))
        refine wpQuiet_nil ?_
        intro w2 hb
        have hB_w2 : Below w.heap.size w w2 := (by repeat (first | exact Below.refl _ _ | assumption | refine Below.setCell ?_ (by first | (simp; done) | (simp; omega) | omega) _ | refine Below.drew ?_ | refine below_drewN ?_ _ | refine Below.alloc ?_ (by first | (simp; done) | (simp; omega) | omega) _ | refine below_alloc ?_ _ | refine below_step ?_ (by assumption))); have hz_w2 := hB_w2.size; have hsw20 : w.heap.size < w2.heap.size := Nat.lt_of_lt_of_le (by first | (simp; done) | (simp; omega) | omega) hb.size; have hnw20 : ¬ w.heap.size = w2.heap.size := (by omega); have hmw20 : ¬ w2.heap.size = w.heap.size := (by omega); have hlw20_0 : w.heap.size ≤ w2.heap.size := (by omega); have hlw20_1 : w.heap.size ≤ w2.heap.size + 1 := (by omega); have hlw20_2 : w.heap.size ≤ w2.heap.size + 1 + 1 := (by omega); have hkw20 : w2.cell? ⟨w.heap.size, 0, none⟩ = some (.int .i64 n) := (by rw [hb.cell (p := ⟨w.heap.size, 0, none⟩) (by first | (simp; done) | (simp; omega) | omega)]; first | (go_simp; done) | assumption); have hkw21 : w2.cell? ⟨w.heap.size, 1, none⟩ = some (.slice A len cap) := (by rw [hb.cell (p := ⟨w.heap.size, 1, none⟩) (by first | (simp; done) | (simp; omega) | omega)]; first | (go_simp; done) | assumption); have hsw22 : w.heap.size + 1 < w2.heap.size := Nat.lt_of_lt_of_le (by first | (simp; done) | (simp; omega) | omega) hb.size; have hnw22 : ¬ w.heap.size + 1 = w2.heap.size := (by omega); have hmw22 : ¬ w2.heap.size = w.heap.size + 1 := (by omega); have hlw22_0 : w.heap.size + 1 ≤ w2.heap.size := (by omega); have hlw22_1 : w.heap.size + 1 ≤ w2.heap.size + 1 := (by omega); have hlw22_2 : w.heap.size + 1 ≤ w2.heap.size + 1 + 1 := (by omega); have hkw22 : w2.cell? ⟨w.heap.size + 1, 0, none⟩ = some (.int .i64 a) := (by rw [hb.cell (p := ⟨w.heap.size + 1, 0, none⟩) (by first | (simp; done) | (simp; omega) | omega)]; first | (go_simp; done) | assumption); have hkw23 : w2.cell? ⟨w.heap.size + 1, 1, none⟩ = some (.int .i64 b) := (by rw [hb.cell (p := ⟨w.heap.size + 1, 1, none⟩) (by first | (simp; done) | (simp; omega) | omega)]; first | (go_simp; done) | assumption); clear hb hB_w0 hlw00_0 hlw00_1 hlw00_2 hkw00 hkw01 hlw02_0 hlw02_1 hlw02_2 hkw02 hkw03
        go_wp2_with fail
        refine (C3.out _ (by repeat (first | exact Below.refl _ _ | assumption | refine Below.setCell ?_ (by first | (simp; done) | (simp; omega) | omega) _ | refine Below.drew ?_ | refine below_drewN ?_ _ | refine Below.alloc ?_ (by first | (simp; done) | (simp; omega) | omega) _ | refine below_alloc ?_ _ | refine below_step ?_ (by assumption)))).mono ?_
        rintro e w3 ⟨⟨v3, rfl, -⟩, hb⟩
        have hB_w3 : Below w.heap.size w w3 := (by repeat (first | exact Below.refl _ _ | assumption | refine Below.setCell ?_ (by first | (simp; done) | (simp; omega) | omega) _ | refine Below.drew ?_ | refine below_drewN ?_ _ | refine Below.alloc ?_ (by first | (simp; done) | (simp; omega) | omega) _ | refine below_alloc ?_ _ | refine below_step ?_ (by assumption))); have hz_w3 := hB_w3.size; clear hb hB_w2 hlw20_0 hlw20_1 hlw20_2 hkw20 hkw21 hlw22_0 hlw22_1 hlw22_2 hkw22 hkw23
        go_wp2_with (go_at_call 10; refine (tawake_any _).mono ?_; rintro e w8 ⟨rfl, hb1⟩)
        go_ret
        exact ⟨rfl, (by repeat (first | exact Below.refl _ _ | assumption | refine Below.setCell ?_ (by first | (simp; done) | (simp; omega) | omega) _ | refine Below.drew ?_ | refine below_drewN ?_ _ | refine Below.alloc ?_ (by first | (simp; done) | (simp; omega) | omega) _ | refine below_alloc ?_ _ | refine below_step ?_ (by assumption)))⟩
  · have hs' : decide (len ≤ 30) = false := by simpa using hs
    rw [hs'] at c0
    have C0 := Lib.hid c0
    clear c0 hx hs hs' hc bc
    go_enter Try.func7, Try.ntmps7
    go_wp2_with fail
    refine (C0.out _).mono ?_
    rintro e w0 ⟨rfl, hb⟩
    have hB_w0 : Below w.heap.size w w0 := (by repeat (first | exact Below.refl _ _ | assumption | refine Below.setCell ?_ (by first | (simp; done) | (simp; omega) | omega) _ | refine Below.drew ?_ | refine below_drewN ?_ _ | refine Below.alloc ?_ (by first | (simp; done) | (simp; omega) | omega) _ | refine below_alloc ?_ _ | refine below_step ?_ (by assumption))); have hz_w0 := hB_w0.size; have hsw00 : w.heap.size < w0.heap.size := Nat.lt_of_lt_of_le (by first | (simp; done) | (simp; omega) | omega) hb.size; have hnw00 : ¬ w.heap.size = w0.heap.size := (by omega); have hmw00 : ¬ w0.heap.size = w.heap.size := (by omega); have hlw00_0 : w.heap.size ≤ w0.heap.size := (by omega); have hlw00_1 : w.heap.size ≤ w0.heap.size + 1 := (by omega); have hlw00_2 : w.heap.size ≤ w0.heap.size + 1 + 1 := (by omega); have hkw00 : w0.cell? ⟨w.heap.size, 0, none⟩ = some (.int .i64 n) := (by rw [hb.cell (p := ⟨w.heap.size, 0, none⟩) (by first | (simp; done) | (simp; omega) | omega)]; first | (go_simp; done) | assumption); have hkw01 : w0.cell? ⟨w.heap.size, 1, none⟩ = some (.slice A len cap) := (by rw [hb.cell (p := ⟨w.heap.size, 1, none⟩) (by first | (simp; done) | (simp; omega) | omega)]; first | (go_simp; done) | assumption); clear hb
    go_wp2_with (go_at_call 10; refine (tawake_any _).mono ?_; rintro e w8 ⟨rfl, hb1⟩)
    go_ret
    exact ⟨rfl, (by repeat (first | exact Below.refl _ _ | assumption | refine Below.setCell ?_ (by first | (simp; done) | (simp; omega) | omega) _ | refine Below.drew ?_ | refine below_drewN ?_ _ | refine Below.alloc ?_ (by first | (simp; done) | (simp; omega) | omega) _ | refine below_alloc ?_ _ | refine below_step ?_ (by assumption)))⟩
theorem flows_walk2 (n : Int) (A : Option Addr) (len cap : Nat) (l : List Tp) (a b : Int) (A' : Option Addr) (m cap' : Nat) (cs : List (Int × Int)) (w : World)
    (_ : -9223372036854775808 ≤ n ∧ n ≤ 9223372036854775807)
    (hm : len ≤ cap ∧ cap ≤ 9223372036854775807) (hx : Rows 3 int3 (0,0,0) w w.heap.size A len l) (_ : ∀ x ∈ l, (-9223372036854775808 ≤ x.1 ∧ x.1 ≤ 9223372036854775807) ∧ (-9223372036854775808 ≤ x.2.1 ∧ x.2.1 ≤ 9223372036854775807) ∧ (-9223372036854775808 ≤ x.2.2 ∧ x.2.2 ≤ 9223372036854775807))
    (_ : -9223372036854775808 ≤ a ∧ a ≤ 9223372036854775807) (_ : -9223372036854775808 ≤ b ∧ b ≤ 9223372036854775807)
    (hm' : m ≤ cap' ∧ cap' ≤ 9223372036854775807) (hc : Pairs w w.heap.size A' m cs) (bc : ∀ x ∈ cs, (-9223372036854775808 ≤ x.1 ∧ x.1 ≤ 9223372036854775807) ∧ (-9223372036854775808 ≤ x.2 ∧ x.2 ≤ 9223372036854775807)) :
    Calls Try.prog 7 #[.agg #[.int .i64 n, .slice A len cap], .agg #[.int .i64 a, .int .i64 b], .slice A' m cap'] w fun e w' => e = .returned (.bool true) ∧ Below w.heap.size w w' :=
  flows_walk n A len cap l a b A' m cap' cs w hm hx hm' hc (fun x h => bc x h)
end Go.Proofs.Ytpfhfmnlojigpaa
