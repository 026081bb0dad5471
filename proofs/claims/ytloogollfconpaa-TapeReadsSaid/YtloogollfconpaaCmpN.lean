/- Joined by merge.py from: MixB CmpT. -/
import Derived.Test.YtloogollfconpaaMix
import Derived.Test.YtloogollfconpaaNumR
import Derived.Test.YtloogollfconpaaCurM
import Derived.Laws.Bits64b
import Derived.Deep.DeepCutAuto
set_option linter.unusedSimpArgs false
set_option linter.unusedVariables false
namespace Go.Proofs.Ytloogollfconpaa
open Go.RowKit

section
variable {P : Program} {md : Region.Mode} {ops : Array Oper} {C : World → Prop}

def plainOp2 (o : Op) : Bool := plainOp o || match o with
  | .call c => match c.callee with
    | .builtin .max => true
    | _ => false
  | _ => false
theorem plain_ne2 {o : Oper} (h : plainOp2 o.op = true) (ρ : Operand → Value) (w w' : World) (f : FuncId) (args : Array Value) : (execOp ρ o).run P w ≠ .ok (.enter f args) w' := by
  unfold plainOp2 at h
  rw [Bool.or_eq_true] at h
  rcases h with h | h
  · exact plain_ne h ρ w w' f args
  · split at h
    · rename_i c hop
      split at h
      · rename_i hc
        unfold execOp
        simp only [hop, resolve, hc, pure_bind, invoke, builtin]
        exact seq_ne
      · cases h
    · cases h
theorem plain_same2 {o : Oper} (h : plainOp2 o.op = true) (hg : noGuard ops = true) {i : Nat} (hi : ops[i]? = some o) {v : Value} (w : World) (hw : C w) (a : Act) (hy : YieldsIn P ops C o v a) : Oper.wp P o a w (fun a' w' => a' = a.put o.dst v ∧ w' = w) Qz := by
  rcases hy with ⟨-, h2⟩ | ⟨h2, -⟩
  · have h3 := h2 w hw
    have h4 := plain_ne2 (P := P) h a.eval w
    unfold Oper.quietAt at h3
    unfold Oper.wp
    generalize (execOp a.eval o).run P w = r at *
    cases r with
    | ok n w' =>
      cases n <;> simp only [Oper.quietUpon] at h3 <;> simp only [Oper.upon]
      case value u => exact ⟨by rw [h3.2], h3.1⟩
      case skip => exact ⟨by rw [h3.2], h3.1⟩
      case enter f args => exact absurd rfl (h4 w' f args)
    | halt x w' => simp only [Oper.quietUpon] at h3
  · rw [noGuard_spec hg hi] at h2; cases h2
/-- Which operations are taken first, in this order. -/
def takeB2 (md : Region.Mode) (ops : Array Oper) : List Nat → Array Bool → Bool
  | [], _ => true
  | i :: is, listed => ((ops[i]?).map (fun o => plainOp2 o.op)).getD false && ((Region.ready md ops listed).contains i && (Region.free md ops listed i && takeB2 md ops is (listed.setIfInBounds i true)))
theorem wpC_take2 (hg : noGuard ops = true) (hs : Region.noSelect ops = true) {Q : Exit → Act → World → Prop} {f : Nat} {w : World} (hw : C w) : ∀ (is : List Nat) (listed : Array Bool) (a : Act), takeB2 md ops is listed = true →
    wpQuiet P ops C (fun a' => wpC P md ops C Q f (setAll is listed) a' w) (is.map fun i => ops[i]?.getD { dst := none, op := .move (.tmp 0), type := 0, pos := "", after := #[], guard := none }) a → wpC P md ops C Q (f + is.length) listed a w
  | [], _, _, _, h => h
  | i :: is, listed, a, hb, h => by
    simp only [takeB2, Bool.and_eq_true] at hb
    obtain ⟨h1, h2, h3, h4⟩ := hb
    cases ho : ops[i]? with
    | none => rw [ho] at h1; cases h1
    | some o =>
      rw [ho] at h1
      have hp : plainOp2 o.op = true := by simpa using h1
      have hq : qOp P ops C i (fun a' => wpQuiet P ops C (fun a' => wpC P md ops C Q f (setAll is (listed.setIfInBounds i true)) a' w) (is.map fun i => ops[i]?.getD { dst := none, op := .move (.tmp 0), type := 0, pos := "", after := #[], guard := none }) a') a := by
        unfold qOp
        rw [List.map_cons, ho] at h
        simp only [ho]
        exact h
      obtain ⟨v, hy, hK⟩ := yieldsIn_of_qOp ho hq
      rw [show f + (i :: is).length = (f + is.length) + 1 by simp; omega]
      exact wpC_first hg hs ho (fun w hw a hy => plain_same2 hp hg ho w hw a hy) (f + is.length) listed a w hw (Region.free_spec ho h3) (by simpa using h2) hy (wpC_take2 hg hs hw is _ _ h4 hK)
end
end Go.Proofs.Ytloogollfconpaa

namespace Go.Proofs.Ytloogollfconpaa
open Go.RowKit
attribute [local go_sem] Later.cell Same.cell

/-- A wide number. -/
abbrev wideV (p : Int) : Value := .agg #[.bool (decide (p < 0)), .int .u64 ((p.natAbs / 18446744073709551616 : Nat) : Int), .int .u64 ((p.natAbs % 18446744073709551616 : Nat) : Int)]
set_option maxHeartbeats 1000000 in
theorem sizeT_any (n : Int) (w : World) (h1 : -9223372036854775808 ≤ n) (h2 : n ≤ 9223372036854775807) :
    Calls Try.prog 55 #[.int .i64 n] w fun e w' => e = .returned (.int .u64 (n.natAbs : Int)) ∧ w = w' := by
  by_cases h : n < 0
  · go_enter Try.func55, Try.ntmps55
    go_wp2
    go_ret
    exact ⟨ret_int (by simp only [IntKind.wrap_u64]; omega), rfl⟩
  · go_enter Try.func55, Try.ntmps55
    go_wp2
    go_ret
    exact ⟨ret_int (by omega), rfl⟩
set_option maxHeartbeats 2000000 in
theorem times_any (a b : Int) (w : World) (h1 : -9223372036854775808 ≤ a) (h2 : a ≤ 9223372036854775807) (h3 : -9223372036854775808 ≤ b) (h4 : b ≤ 9223372036854775807) :
    Calls Try.prog 43 #[.int .i64 a, .int .i64 b] w fun e w' => e = .returned (wideV (a * b)) ∧ Below w.heap.size w w' := by
  have c3 := fun W => sizeT_any a W h1 h2
  have c4 := fun W => sizeT_any b W h3 h4
  have c7 := fun W => Mul64_any a.natAbs b.natAbs (by omega) (by omega) W
  have C3 := Lib.hid c3
  have C4 := Lib.hid c4
  have C7 := Lib.hid c7
  clear c3 c4 c7
  have hW : Hid (wideV (a * b) = .agg #[.bool (decide (a * b < 0)), .int .u64 (hiW a.natAbs b.natAbs : Int), .int .u64 (loW a.natAbs b.natAbs : Int)]) := by
    show wideV (a * b) = _
    unfold wideV hiW loW; rw [natAbs_prod]
  rw [hW.out]
  have hlo : loW a.natAbs b.natAbs < 18446744073709551616 := Nat.mod_lt _ (by decide)
  have hhi : hiW a.natAbs b.natAbs < 18446744073709551616 := by
    unfold hiW
    have : a.natAbs * b.natAbs ≤ 9223372036854775808 * 9223372036854775808 := Nat.mul_le_mul (by omega) (by omega)
    omega
  have hz : (hiW a.natAbs b.natAbs = 0 ∧ loW a.natAbs b.natAbs = 0) ↔ a * b = 0 := by
    have := natAbs_prod a b
    unfold hiW loW; rw [← this]; omega
  clear hW
  generalize hiW a.natAbs b.natAbs = H at *
  generalize loW a.natAbs b.natAbs = L at *
  by_cases ha : a < 0 <;> by_cases hb : b < 0
  · have hd : decide (a * b < 0) = false := decide_eq_false (by have := Int.mul_pos_of_neg_of_neg ha hb; omega)
    rw [hd]
    clear hd hz
    go_enter Try.func43, Try.ntmps43
    go_wp2_with fail
    refine (C3.out _).mono ?_
    rintro e w1 ⟨rfl, rfl⟩
    go_wp2_with fail
    refine (C4.out _).mono ?_
    rintro e w1 ⟨rfl, rfl⟩
    go_wp2_with fail
    refine (C7.out _).mono ?_
    rintro e w1 ⟨rfl, rfl⟩
    go_wp2
    exact bodyPost_ret (v := .agg #[.bool false, .int .u64 H, .int .u64 L]) (by simp [results, Try.results43, go_sem, *]) rfl ⟨rfl, (by repeat (first | exact Below.refl _ _ | assumption | refine Below.setCell ?_ (by first | (simp; done) | (simp; omega) | omega) _ | refine Below.drew ?_ | refine below_drewN ?_ _ | refine Below.alloc ?_ (by first | (simp; done) | (simp; omega) | omega) _ | refine below_alloc ?_ _ | refine below_step ?_ (by assumption)))⟩
  · have hp : a * b ≤ 0 := Int.mul_nonpos_of_nonpos_of_nonneg (by omega) (by omega)
    have hb' : decide (b < 0) = false := decide_eq_false hb
    have hor : Hid (decide ((0 : Int) < bits BinOp.or IntKind.u64 (H : Int) (L : Int)) = decide (a * b < 0)) := Lib.hid (by
      rw [bits_or_u64_nat H L hhi hlo, decide_eq_decide]
      have hO : H ||| L = 0 ↔ H = 0 ∧ L = 0 := Nat.or_eq_zero_iff
      constructor
      · intro h; have : ¬ a * b = 0 := fun e => by have := hO.2 (hz.2 e); omega
        omega
      · intro h; have : ¬ H ||| L = 0 := fun e => by have := hz.1 (hO.1 e); omega
        omega)
    clear hz
    generalize decide (a * b < 0) = D at *
    go_enter Try.func43, Try.ntmps43
    go_wp2_with fail
    refine (C3.out _).mono ?_
    rintro e w1 ⟨rfl, rfl⟩
    go_wp2_with fail
    refine (C4.out _).mono ?_
    rintro e w1 ⟨rfl, rfl⟩
    go_wp2_with fail
    refine (C7.out _).mono ?_
    rintro e w1 ⟨rfl, rfl⟩
    go_wp2
    rw [hor.out]
    exact bodyPost_ret (v := .agg #[.bool D, .int .u64 H, .int .u64 L]) (by simp [results, Try.results43, go_sem, *]) rfl ⟨rfl, (by repeat (first | exact Below.refl _ _ | assumption | refine Below.setCell ?_ (by first | (simp; done) | (simp; omega) | omega) _ | refine Below.drew ?_ | refine below_drewN ?_ _ | refine Below.alloc ?_ (by first | (simp; done) | (simp; omega) | omega) _ | refine below_alloc ?_ _ | refine below_step ?_ (by assumption)))⟩
  · have hp : a * b ≤ 0 := Int.mul_nonpos_of_nonneg_of_nonpos (by omega) (by omega)
    have ha' : decide (a < 0) = false := decide_eq_false ha
    have hor : Hid (decide ((0 : Int) < bits BinOp.or IntKind.u64 (H : Int) (L : Int)) = decide (a * b < 0)) := Lib.hid (by
      rw [bits_or_u64_nat H L hhi hlo, decide_eq_decide]
      have hO : H ||| L = 0 ↔ H = 0 ∧ L = 0 := Nat.or_eq_zero_iff
      constructor
      · intro h; have : ¬ a * b = 0 := fun e => by have := hO.2 (hz.2 e); omega
        omega
      · intro h; have : ¬ H ||| L = 0 := fun e => by have := hz.1 (hO.1 e); omega
        omega)
    clear hz
    generalize decide (a * b < 0) = D at *
    go_enter Try.func43, Try.ntmps43
    go_wp2_with fail
    refine (C3.out _).mono ?_
    rintro e w1 ⟨rfl, rfl⟩
    go_wp2_with fail
    refine (C4.out _).mono ?_
    rintro e w1 ⟨rfl, rfl⟩
    go_wp2_with fail
    refine (C7.out _).mono ?_
    rintro e w1 ⟨rfl, rfl⟩
    go_wp2
    rw [hor.out]
    exact bodyPost_ret (v := .agg #[.bool D, .int .u64 H, .int .u64 L]) (by simp [results, Try.results43, go_sem, *]) rfl ⟨rfl, (by repeat (first | exact Below.refl _ _ | assumption | refine Below.setCell ?_ (by first | (simp; done) | (simp; omega) | omega) _ | refine Below.drew ?_ | refine below_drewN ?_ _ | refine Below.alloc ?_ (by first | (simp; done) | (simp; omega) | omega) _ | refine below_alloc ?_ _ | refine below_step ?_ (by assumption)))⟩
  · have hd : decide (a * b < 0) = false := decide_eq_false (by have := Int.mul_nonneg (a := a) (b := b) (by omega) (by omega); omega)
    have ha' : decide (a < 0) = false := decide_eq_false ha
    have hb' : decide (b < 0) = false := decide_eq_false hb
    rw [hd]
    clear hd hz
    go_enter Try.func43, Try.ntmps43
    go_wp2_with fail
    refine (C3.out _).mono ?_
    rintro e w1 ⟨rfl, rfl⟩
    go_wp2_with fail
    refine (C4.out _).mono ?_
    rintro e w1 ⟨rfl, rfl⟩
    go_wp2_with fail
    refine (C7.out _).mono ?_
    rintro e w1 ⟨rfl, rfl⟩
    go_wp2
    exact bodyPost_ret (v := .agg #[.bool false, .int .u64 H, .int .u64 L]) (by simp [results, Try.results43, go_sem, *]) rfl ⟨rfl, (by repeat (first | exact Below.refl _ _ | assumption | refine Below.setCell ?_ (by first | (simp; done) | (simp; omega) | omega) _ | refine Below.drew ?_ | refine below_drewN ?_ _ | refine Below.alloc ?_ (by first | (simp; done) | (simp; omega) | omega) _ | refine below_alloc ?_ _ | refine below_step ?_ (by assumption)))⟩
/-- The order of two wide numbers, by their parts. -/
def lessB (x y : Bool) (H L K M : Nat) : Bool := if x = y then (if x then decide (K < H ∨ K = H ∧ M < L) else decide (H < K ∨ H = K ∧ L < M)) else x
theorem lessB_eq (p q : Int) : lessB (decide (p < 0)) (decide (q < 0)) (p.natAbs / 18446744073709551616) (p.natAbs % 18446744073709551616) (q.natAbs / 18446744073709551616) (q.natAbs % 18446744073709551616) = decide (p < q) := by
  unfold lessB
  by_cases hp : p < 0 <;> by_cases hq : q < 0
  · rw [decide_eq_true hp, decide_eq_true hq, if_pos rfl, if_pos rfl, decide_eq_decide]; omega
  · rw [decide_eq_true hp, decide_eq_false hq, if_neg (by decide), eq_comm, decide_eq_true_eq]; omega
  · rw [decide_eq_false hp, decide_eq_true hq, if_neg (by decide), eq_comm, decide_eq_false_iff_not]; omega
  · rw [decide_eq_false hp, decide_eq_false hq, if_pos rfl, if_neg (by decide), decide_eq_decide]; omega
set_option maxHeartbeats 2000000 in
theorem lessR_any (x y : Bool) (H L K M : Nat) (w : World) :
    Calls Try.prog 44 #[.agg #[.bool x, .int .u64 H, .int .u64 L], .agg #[.bool y, .int .u64 K, .int .u64 M]] w fun e w' => e = .returned (.bool (lessB x y H L K M)) ∧ Below w.heap.size w w' := by
  rcases Nat.lt_trichotomy H K with h | h | h
  · have e1 : ((H : Int) == (K : Int)) = false := by simp; omega
    have e2 : ((K : Int) == (H : Int)) = false := by simp; omega
    cases x <;> cases y
    all_goals
      go_enter Try.func44, Try.ntmps44
      go_wp2
      go_ret
      exact ⟨ret_bool (by simp [lessB] <;> omega), (by repeat (first | exact Below.refl _ _ | assumption | refine Below.setCell ?_ (by first | (simp; done) | (simp; omega) | omega) _ | refine Below.drew ?_ | refine below_drewN ?_ _ | refine Below.alloc ?_ (by first | (simp; done) | (simp; omega) | omega) _ | refine below_alloc ?_ _ | refine below_step ?_ (by assumption)))⟩
  · subst h
    have e1 : ((H : Int) == (H : Int)) = true := by simp
    cases x <;> cases y
    all_goals
      go_enter Try.func44, Try.ntmps44
      go_wp2
      go_ret
      exact ⟨ret_bool (by simp [lessB] <;> omega), (by repeat (first | exact Below.refl _ _ | assumption | refine Below.setCell ?_ (by first | (simp; done) | (simp; omega) | omega) _ | refine Below.drew ?_ | refine below_drewN ?_ _ | refine Below.alloc ?_ (by first | (simp; done) | (simp; omega) | omega) _ | refine below_alloc ?_ _ | refine below_step ?_ (by assumption)))⟩
  · have e1 : ((H : Int) == (K : Int)) = false := by simp; omega
    have e2 : ((K : Int) == (H : Int)) = false := by simp; omega
    cases x <;> cases y
    all_goals
      go_enter Try.func44, Try.ntmps44
      go_wp2
      go_ret
      exact ⟨ret_bool (by simp [lessB] <;> omega), (by repeat (first | exact Below.refl _ _ | assumption | refine Below.setCell ?_ (by first | (simp; done) | (simp; omega) | omega) _ | refine Below.drew ?_ | refine below_drewN ?_ _ | refine Below.alloc ?_ (by first | (simp; done) | (simp; omega) | omega) _ | refine below_alloc ?_ _ | refine below_step ?_ (by assumption)))⟩
theorem less_any (p q : Int) (w : World) :
    Calls Try.prog 44 #[wideV p, wideV q] w fun e w' => e = .returned (.bool (decide (p < q))) ∧ Below w.heap.size w w' := by
  have h := lessR_any (decide (p < 0)) (decide (q < 0)) (p.natAbs / 18446744073709551616) (p.natAbs % 18446744073709551616) (q.natAbs / 18446744073709551616) (q.natAbs % 18446744073709551616) w
  rw [lessB_eq] at h
  exact h
/-! ### Compare of the tapes -/
theorem CA.store3 {W : World} {g : Nat} {a b c : Value} (h : CA W g [a, b, c]) (x y z : Value) : CA (((W.setCell ⟨g, 0, none⟩ x).setCell ⟨g, 1, none⟩ y).setCell ⟨g, 2, none⟩ z) g [x, y, z] :=
  ((h.set (k := 0) (by simp) x).set (k := 1) (by simp) y).set (k := 2) (by simp) z
theorem CA.other3 {W : World} {g q : Nat} {cs : List Value} (h : CA W q cs) (hn : ¬ g = q) (x y z : Value) : CA (((W.setCell ⟨g, 0, none⟩ x).setCell ⟨g, 1, none⟩ y).setCell ⟨g, 2, none⟩ z) q cs :=
  ((h.other hn x).other hn y).other hn z
/-- A pointer to the block b. -/
def isPw (v : Value) (b : Nat) : Prop := v = .pointer (some ⟨b, 0, none⟩)
theorem natAbs_parts {p q : Int} (hx : decide (p < 0) = decide (q < 0)) (hH : p.natAbs / 18446744073709551616 = q.natAbs / 18446744073709551616) (hL : p.natAbs % 18446744073709551616 = q.natAbs % 18446744073709551616) : p = q := by
  have : p < 0 ↔ q < 0 := decide_eq_decide.1 hx
  omega
theorem max_den (d : Int) : (if 1 < d then d else 1) = den1 d := by
  unfold den1; split <;> split <;> omega
set_option maxRecDepth 20000 in
set_option maxHeartbeats 8000000 in
theorem CompareT_any (an ad bn bd : Int) (w : World) (h1 : -9223372036854775808 ≤ an) (h2 : an ≤ 9223372036854775807) (h3 : -9223372036854775808 ≤ ad) (h4 : ad ≤ 9223372036854775807) (h5 : -9223372036854775808 ≤ bn) (h6 : bn ≤ 9223372036854775807) (h7 : -9223372036854775808 ≤ bd) (h8 : bd ≤ 9223372036854775807) :
    Calls Try.prog 25 #[.agg #[.int .i64 an, .int .i64 ad], .agg #[.int .i64 bn, .int .i64 bd]] w fun e w' => e = .returned (.int .i64 (cmpR an ad bn bd)) ∧ Below w.heap.size w w' := by
  have dd : ∀ d : Int, -9223372036854775808 ≤ d → d ≤ 9223372036854775807 → -9223372036854775808 ≤ den1 d ∧ den1 d ≤ 9223372036854775807 := fun d _ _ => by unfold den1; split <;> omega
  have c1 := fun W => times_any an ((if 1 < bd then bd else 1)) W h1 h2 (by rw [max_den]; exact (dd bd h7 h8).1) (by rw [max_den]; exact (dd bd h7 h8).2)
  have c2 := fun W => times_any bn ((if 1 < ad then ad else 1)) W h5 h6 (by rw [max_den]; exact (dd ad h3 h4).1) (by rw [max_den]; exact (dd ad h3 h4).2)
  have hR : cmpR an ad bn bd = sgn (an * (if 1 < bd then bd else 1) - bn * (if 1 < ad then ad else 1)) := by rw [max_den, max_den]; rfl
  rw [hR]
  clear hR dd h1 h2 h3 h4 h5 h6 h7 h8
  generalize an * (if 1 < bd then bd else 1) = p at *
  generalize bn * (if 1 < ad then ad else 1) = q at *
  have cl := less_any p q
  have hne := @natAbs_parts p q
  have hpq0 : p = q → decide (p < 0) = decide (q < 0) ∧ p.natAbs / 18446744073709551616 = q.natAbs / 18446744073709551616 ∧ p.natAbs % 18446744073709551616 = q.natAbs % 18446744073709551616 := fun h => by subst h; exact ⟨rfl, rfl, rfl⟩
  have hS : (p = q → sgn (p - q) = 0) ∧ (p < q → sgn (p - q) = -1) ∧ (¬ p = q → ¬ p < q → sgn (p - q) = 1) := ⟨fun h => sgn_of_zero (by omega), fun h => sgn_of_neg (by omega), fun h h' => sgn_of_pos (by omega)⟩
  generalize sgn (p - q) = S at *
  have HS := Lib.hid hS
  clear hS
  unfold wideV at c1 c2 cl
  generalize decide (p < 0) = x at *
  generalize p.natAbs / 18446744073709551616 = H at *
  generalize p.natAbs % 18446744073709551616 = L at *
  generalize decide (q < 0) = y at *
  generalize q.natAbs / 18446744073709551616 = K at *
  generalize q.natAbs % 18446744073709551616 = M at *
  have C1 := Lib.hid c1
  have C2 := Lib.hid c2
  have CL := Lib.hid cl
  have HN := Lib.hid hne
  have hPQ := Lib.hid hpq0
  clear c1 c2 cl hne hpq0
  go_enter Try.func25, Try.ntmps25
  go_upto_region 1 with fail
  obtain ⟨W1, hW1⟩ : ∃ q, q = (w.alloc (.cells #[.int .i64 an, .int .i64 ad] 39)).alloc (.cells #[.int .i64 bn, .int .i64 bd] 39) := ⟨_, rfl⟩
  have hBW : Below w.heap.size w W1 := by rw [hW1]; exact ((Below.refl _ _).alloc (Nat.le_refl _) _).alloc (by simp) _
  have ca0 : CA W1 w.heap.size [.int .i64 an, .int .i64 ad] := by rw [hW1]; exact (CA.new w [.int .i64 an, .int .i64 ad] 39).alloc _
  have cb0 : CA W1 (w.heap.size + 1) [.int .i64 bn, .int .i64 bd] := by rw [hW1]; have := CA.new (w.alloc (.cells #[.int .i64 an, .int .i64 ad] 39)) [.int .i64 bn, .int .i64 bd] 39; rw [World.size_alloc] at this; exact this
  have k0 := (ca0.2 0 _ rfl).1
  have k1 := (ca0.2 1 _ rfl).1
  have k2 := (cb0.2 0 _ rfl).1
  have k3 := (cb0.2 1 _ rfl).1
  have k4 := ca0.1
  have k5 := cb0.1
  have hsz := hBW.size
  rw [← hW1]
  clear hW1 ca0 cb0
  go_cut [5, 6] (fun s5 s6 wc => ∃ g k, isPw s5 g ∧ isPw s6 k ∧ CA wc g [.bool x, .int .u64 H, .int .u64 L] ∧ CA wc k [.bool y, .int .u64 K, .int .u64 M] ∧ Below W1.heap.size W1 wc)
  case first =>
    refine wp_region_mix (by kernel_rfl) (by kernel_rfl) ?_
    refine wpC_take2 (f := 6) (by kernel_rfl) (by kernel_rfl) ⟨⟨_, (Below.refl _ _).drew⟩, rfl⟩ [0, 1, 2, 3, 4, 6, 7, 8, 9, 10] _ _ (by kernel_rfl) ?_
    simp only [List.map_cons, List.map_nil, List.getElem?_toArray, List.getElem?_cons_succ, List.getElem?_cons_zero, Option.getD_some]
    repeat (go_big_quiet_step (fail))
    refine wpQuiet_nil ?_
    generalize (if 1 < bd then bd else 1) = X at *
    generalize (if 1 < ad then ad else 1) = Y at *
    have hB : Below W1.heap.size W1 W1.drew := (Below.refl _ _).drew
    refine wpC_all (rs := [5, 12, 13]) (by kernel_rfl) (by decide) ?_
    intro i hi
    simp only [List.mem_cons, List.not_mem_nil, or_false] at hi
    rcases hi with rfl | rfl | rfl
    · refine ⟨_, rfl, ?_⟩
      go_simp
      refine (C1.out _).mono ?_
      rintro e WW0 ⟨rfl, hb9⟩
      replace hB := below_step hB hb9
      clear hb9
      refine ⟨⟨⟨_, hB⟩, rfl⟩, ?_⟩
      go_simp
      refine wpC_all (rs := [11, 12, 13]) (by kernel_rfl) (by decide) ?_
      intro i hi
      simp only [List.mem_cons, List.not_mem_nil, or_false] at hi
      rcases hi with rfl | rfl | rfl
      · refine ⟨_, rfl, ?_⟩
        go_simp
        refine (C2.out _).mono ?_
        rintro e WW1 ⟨rfl, hb9⟩
        replace hB := below_step hB hb9
        clear hb9
        refine ⟨⟨⟨_, hB⟩, rfl⟩, ?_⟩
        go_simp
        refine wpC_all (rs := [12, 13]) (by kernel_rfl) (by decide) ?_
        intro i hi
        simp only [List.mem_cons, List.not_mem_nil, or_false] at hi
        rcases hi with rfl | rfl
        · refine ⟨_, rfl, ?_⟩
          go_simp
          obtain ⟨ga, hga⟩ : ∃ q, q = (WW1).heap.size := ⟨_, rfl⟩
          have h0ga : W1.heap.size ≤ ga := by rw [hga]; exact hB.size
          have hca : CA ((WW1).alloc (.cells #[.bool false, .int .u64 0, .int .u64 0] 84)) ga [.bool false, .int .u64 0, .int .u64 0] := by rw [hga]; exact CA.new (WW1) [.bool false, .int .u64 0, .int .u64 0] 84
          replace hB := hB.alloc hB.size (.cells #[.bool false, .int .u64 0, .int .u64 0] 84)
          rw [← hga]
          clear hga
          generalize (WW1).alloc (.cells #[.bool false, .int .u64 0, .int .u64 0] 84) = WW2 at *
          refine ⟨⟨⟨_, hB⟩, rfl⟩, ?_⟩
          refine wpC_all (rs := [13]) (by kernel_rfl) (by decide) ?_
          intro i hi
          simp only [List.mem_cons, List.not_mem_nil, or_false] at hi
          subst hi
          refine ⟨_, rfl, ?_⟩
          go_simp
          obtain ⟨gb, hgb⟩ : ∃ q, q = (WW2).heap.size := ⟨_, rfl⟩
          have h0gb : W1.heap.size ≤ gb := by rw [hgb]; exact hB.size
          have hcb : CA ((WW2).alloc (.cells #[.bool false, .int .u64 0, .int .u64 0] 84)) gb [.bool false, .int .u64 0, .int .u64 0] := by rw [hgb]; exact CA.new (WW2) [.bool false, .int .u64 0, .int .u64 0] 84
          replace hB := hB.alloc hB.size (.cells #[.bool false, .int .u64 0, .int .u64 0] 84)
          have hne1 : ¬ gb = ga := by have := hca.1; omega
          have hne2 : ¬ ga = gb := by omega
          replace hca := hca.alloc (.cells #[.bool false, .int .u64 0, .int .u64 0] 84)
          rw [← hgb]
          clear hgb
          generalize (WW2).alloc (.cells #[.bool false, .int .u64 0, .int .u64 0] 84) = WW3 at *
          refine ⟨⟨⟨_, hB⟩, rfl⟩, ?_⟩
          refine wpC_all (rs := [14]) (by kernel_rfl) (by decide) ?_
          intro i hi
          simp only [List.mem_cons, List.not_mem_nil, or_false] at hi
          subst hi
          refine ⟨_, rfl, ?_⟩
          obtain ⟨z0, f0⟩ := hca.2 0 _ rfl
          obtain ⟨z1, f1⟩ := hca.2 1 _ rfl
          obtain ⟨z2, f2⟩ := hca.2 2 _ rfl
          go_simp
          replace hca := hca.store3 (.bool x) (.int .u64 H) (.int .u64 L)
          replace hcb := hcb.other3 (g := ga) (by omega) (.bool x) (.int .u64 H) (.int .u64 L)
          replace hB := ((hB.setCell (p := ⟨ga, 0, none⟩) h0ga (.bool x)).setCell (p := ⟨ga, 1, none⟩) h0ga (.int .u64 H)).setCell (p := ⟨ga, 2, none⟩) h0ga (.int .u64 L)
          clear z0 z1 z2 f0 f1 f2
          generalize ((WW3.setCell ⟨ga, 0, none⟩ (.bool x)).setCell ⟨ga, 1, none⟩ (.int .u64 H)).setCell ⟨ga, 2, none⟩ (.int .u64 L) = WW4 at *
          refine ⟨⟨⟨_, hB⟩, rfl⟩, ?_⟩
          refine wpC_all (rs := [15]) (by kernel_rfl) (by decide) ?_
          intro i hi
          simp only [List.mem_cons, List.not_mem_nil, or_false] at hi
          subst hi
          refine ⟨_, rfl, ?_⟩
          obtain ⟨z0, f0⟩ := hcb.2 0 _ rfl
          obtain ⟨z1, f1⟩ := hcb.2 1 _ rfl
          obtain ⟨z2, f2⟩ := hcb.2 2 _ rfl
          go_simp
          replace hcb := hcb.store3 (.bool y) (.int .u64 K) (.int .u64 M)
          replace hca := hca.other3 (g := gb) (by omega) (.bool y) (.int .u64 K) (.int .u64 M)
          replace hB := ((hB.setCell (p := ⟨gb, 0, none⟩) h0gb (.bool y)).setCell (p := ⟨gb, 1, none⟩) h0gb (.int .u64 K)).setCell (p := ⟨gb, 2, none⟩) h0gb (.int .u64 M)
          clear z0 z1 z2 f0 f1 f2
          generalize ((WW4.setCell ⟨gb, 0, none⟩ (.bool y)).setCell ⟨gb, 1, none⟩ (.int .u64 K)).setCell ⟨gb, 2, none⟩ (.int .u64 M) = WW5 at *
          refine ⟨⟨⟨_, hB⟩, rfl⟩, ?_⟩
          refine wpC_done (by kernel_rfl) ?_
          go_wp2_with fail
          go_meet
          case rel => exact ⟨_, _, rfl, rfl, hca, hcb, hB⟩
        · refine ⟨_, rfl, ?_⟩
          go_simp
          obtain ⟨gb, hgb⟩ : ∃ q, q = (WW1).heap.size := ⟨_, rfl⟩
          have h0gb : W1.heap.size ≤ gb := by rw [hgb]; exact hB.size
          have hcb : CA ((WW1).alloc (.cells #[.bool false, .int .u64 0, .int .u64 0] 84)) gb [.bool false, .int .u64 0, .int .u64 0] := by rw [hgb]; exact CA.new (WW1) [.bool false, .int .u64 0, .int .u64 0] 84
          replace hB := hB.alloc hB.size (.cells #[.bool false, .int .u64 0, .int .u64 0] 84)
          rw [← hgb]
          clear hgb
          generalize (WW1).alloc (.cells #[.bool false, .int .u64 0, .int .u64 0] 84) = WW2 at *
          refine ⟨⟨⟨_, hB⟩, rfl⟩, ?_⟩
          refine wpC_all (rs := [12]) (by kernel_rfl) (by decide) ?_
          intro i hi
          simp only [List.mem_cons, List.not_mem_nil, or_false] at hi
          subst hi
          refine ⟨_, rfl, ?_⟩
          go_simp
          obtain ⟨ga, hga⟩ : ∃ q, q = (WW2).heap.size := ⟨_, rfl⟩
          have h0ga : W1.heap.size ≤ ga := by rw [hga]; exact hB.size
          have hca : CA ((WW2).alloc (.cells #[.bool false, .int .u64 0, .int .u64 0] 84)) ga [.bool false, .int .u64 0, .int .u64 0] := by rw [hga]; exact CA.new (WW2) [.bool false, .int .u64 0, .int .u64 0] 84
          replace hB := hB.alloc hB.size (.cells #[.bool false, .int .u64 0, .int .u64 0] 84)
          have hne1 : ¬ ga = gb := by have := hcb.1; omega
          have hne2 : ¬ gb = ga := by omega
          replace hcb := hcb.alloc (.cells #[.bool false, .int .u64 0, .int .u64 0] 84)
          rw [← hga]
          clear hga
          generalize (WW2).alloc (.cells #[.bool false, .int .u64 0, .int .u64 0] 84) = WW3 at *
          refine ⟨⟨⟨_, hB⟩, rfl⟩, ?_⟩
          refine wpC_all (rs := [14]) (by kernel_rfl) (by decide) ?_
          intro i hi
          simp only [List.mem_cons, List.not_mem_nil, or_false] at hi
          subst hi
          refine ⟨_, rfl, ?_⟩
          obtain ⟨z0, f0⟩ := hca.2 0 _ rfl
          obtain ⟨z1, f1⟩ := hca.2 1 _ rfl
          obtain ⟨z2, f2⟩ := hca.2 2 _ rfl
          go_simp
          replace hca := hca.store3 (.bool x) (.int .u64 H) (.int .u64 L)
          replace hcb := hcb.other3 (g := ga) (by omega) (.bool x) (.int .u64 H) (.int .u64 L)
          replace hB := ((hB.setCell (p := ⟨ga, 0, none⟩) h0ga (.bool x)).setCell (p := ⟨ga, 1, none⟩) h0ga (.int .u64 H)).setCell (p := ⟨ga, 2, none⟩) h0ga (.int .u64 L)
          clear z0 z1 z2 f0 f1 f2
          generalize ((WW3.setCell ⟨ga, 0, none⟩ (.bool x)).setCell ⟨ga, 1, none⟩ (.int .u64 H)).setCell ⟨ga, 2, none⟩ (.int .u64 L) = WW4 at *
          refine ⟨⟨⟨_, hB⟩, rfl⟩, ?_⟩
          refine wpC_all (rs := [15]) (by kernel_rfl) (by decide) ?_
          intro i hi
          simp only [List.mem_cons, List.not_mem_nil, or_false] at hi
          subst hi
          refine ⟨_, rfl, ?_⟩
          obtain ⟨z0, f0⟩ := hcb.2 0 _ rfl
          obtain ⟨z1, f1⟩ := hcb.2 1 _ rfl
          obtain ⟨z2, f2⟩ := hcb.2 2 _ rfl
          go_simp
          replace hcb := hcb.store3 (.bool y) (.int .u64 K) (.int .u64 M)
          replace hca := hca.other3 (g := gb) (by omega) (.bool y) (.int .u64 K) (.int .u64 M)
          replace hB := ((hB.setCell (p := ⟨gb, 0, none⟩) h0gb (.bool y)).setCell (p := ⟨gb, 1, none⟩) h0gb (.int .u64 K)).setCell (p := ⟨gb, 2, none⟩) h0gb (.int .u64 M)
          clear z0 z1 z2 f0 f1 f2
          generalize ((WW4.setCell ⟨gb, 0, none⟩ (.bool y)).setCell ⟨gb, 1, none⟩ (.int .u64 K)).setCell ⟨gb, 2, none⟩ (.int .u64 M) = WW5 at *
          refine ⟨⟨⟨_, hB⟩, rfl⟩, ?_⟩
          refine wpC_done (by kernel_rfl) ?_
          go_wp2_with fail
          go_meet
          case rel => exact ⟨_, _, rfl, rfl, hca, hcb, hB⟩
      · refine ⟨_, rfl, ?_⟩
        go_simp
        obtain ⟨ga, hga⟩ : ∃ q, q = (WW0).heap.size := ⟨_, rfl⟩
        have h0ga : W1.heap.size ≤ ga := by rw [hga]; exact hB.size
        have hca : CA ((WW0).alloc (.cells #[.bool false, .int .u64 0, .int .u64 0] 84)) ga [.bool false, .int .u64 0, .int .u64 0] := by rw [hga]; exact CA.new (WW0) [.bool false, .int .u64 0, .int .u64 0] 84
        replace hB := hB.alloc hB.size (.cells #[.bool false, .int .u64 0, .int .u64 0] 84)
        rw [← hga]
        clear hga
        generalize (WW0).alloc (.cells #[.bool false, .int .u64 0, .int .u64 0] 84) = WW1 at *
        refine ⟨⟨⟨_, hB⟩, rfl⟩, ?_⟩
        refine wpC_all (rs := [11, 13]) (by kernel_rfl) (by decide) ?_
        intro i hi
        simp only [List.mem_cons, List.not_mem_nil, or_false] at hi
        rcases hi with rfl | rfl
        · refine ⟨_, rfl, ?_⟩
          go_simp
          refine (C2.out _).mono ?_
          rintro e WW2 ⟨rfl, hb9⟩
          replace hB := below_step hB hb9
          replace hca := hca.later hb9
          clear hb9
          refine ⟨⟨⟨_, hB⟩, rfl⟩, ?_⟩
          go_simp
          refine wpC_all (rs := [13]) (by kernel_rfl) (by decide) ?_
          intro i hi
          simp only [List.mem_cons, List.not_mem_nil, or_false] at hi
          subst hi
          refine ⟨_, rfl, ?_⟩
          go_simp
          obtain ⟨gb, hgb⟩ : ∃ q, q = (WW2).heap.size := ⟨_, rfl⟩
          have h0gb : W1.heap.size ≤ gb := by rw [hgb]; exact hB.size
          have hcb : CA ((WW2).alloc (.cells #[.bool false, .int .u64 0, .int .u64 0] 84)) gb [.bool false, .int .u64 0, .int .u64 0] := by rw [hgb]; exact CA.new (WW2) [.bool false, .int .u64 0, .int .u64 0] 84
          replace hB := hB.alloc hB.size (.cells #[.bool false, .int .u64 0, .int .u64 0] 84)
          have hne1 : ¬ gb = ga := by have := hca.1; omega
          have hne2 : ¬ ga = gb := by omega
          replace hca := hca.alloc (.cells #[.bool false, .int .u64 0, .int .u64 0] 84)
          rw [← hgb]
          clear hgb
          generalize (WW2).alloc (.cells #[.bool false, .int .u64 0, .int .u64 0] 84) = WW3 at *
          refine ⟨⟨⟨_, hB⟩, rfl⟩, ?_⟩
          refine wpC_all (rs := [14]) (by kernel_rfl) (by decide) ?_
          intro i hi
          simp only [List.mem_cons, List.not_mem_nil, or_false] at hi
          subst hi
          refine ⟨_, rfl, ?_⟩
          obtain ⟨z0, f0⟩ := hca.2 0 _ rfl
          obtain ⟨z1, f1⟩ := hca.2 1 _ rfl
          obtain ⟨z2, f2⟩ := hca.2 2 _ rfl
          go_simp
          replace hca := hca.store3 (.bool x) (.int .u64 H) (.int .u64 L)
          replace hcb := hcb.other3 (g := ga) (by omega) (.bool x) (.int .u64 H) (.int .u64 L)
          replace hB := ((hB.setCell (p := ⟨ga, 0, none⟩) h0ga (.bool x)).setCell (p := ⟨ga, 1, none⟩) h0ga (.int .u64 H)).setCell (p := ⟨ga, 2, none⟩) h0ga (.int .u64 L)
          clear z0 z1 z2 f0 f1 f2
          generalize ((WW3.setCell ⟨ga, 0, none⟩ (.bool x)).setCell ⟨ga, 1, none⟩ (.int .u64 H)).setCell ⟨ga, 2, none⟩ (.int .u64 L) = WW4 at *
          refine ⟨⟨⟨_, hB⟩, rfl⟩, ?_⟩
          refine wpC_all (rs := [15]) (by kernel_rfl) (by decide) ?_
          intro i hi
          simp only [List.mem_cons, List.not_mem_nil, or_false] at hi
          subst hi
          refine ⟨_, rfl, ?_⟩
          obtain ⟨z0, f0⟩ := hcb.2 0 _ rfl
          obtain ⟨z1, f1⟩ := hcb.2 1 _ rfl
          obtain ⟨z2, f2⟩ := hcb.2 2 _ rfl
          go_simp
          replace hcb := hcb.store3 (.bool y) (.int .u64 K) (.int .u64 M)
          replace hca := hca.other3 (g := gb) (by omega) (.bool y) (.int .u64 K) (.int .u64 M)
          replace hB := ((hB.setCell (p := ⟨gb, 0, none⟩) h0gb (.bool y)).setCell (p := ⟨gb, 1, none⟩) h0gb (.int .u64 K)).setCell (p := ⟨gb, 2, none⟩) h0gb (.int .u64 M)
          clear z0 z1 z2 f0 f1 f2
          generalize ((WW4.setCell ⟨gb, 0, none⟩ (.bool y)).setCell ⟨gb, 1, none⟩ (.int .u64 K)).setCell ⟨gb, 2, none⟩ (.int .u64 M) = WW5 at *
          refine ⟨⟨⟨_, hB⟩, rfl⟩, ?_⟩
          refine wpC_done (by kernel_rfl) ?_
          go_wp2_with fail
          go_meet
          case rel => exact ⟨_, _, rfl, rfl, hca, hcb, hB⟩
        · refine ⟨_, rfl, ?_⟩
          go_simp
          obtain ⟨gb, hgb⟩ : ∃ q, q = (WW1).heap.size := ⟨_, rfl⟩
          have h0gb : W1.heap.size ≤ gb := by rw [hgb]; exact hB.size
          have hcb : CA ((WW1).alloc (.cells #[.bool false, .int .u64 0, .int .u64 0] 84)) gb [.bool false, .int .u64 0, .int .u64 0] := by rw [hgb]; exact CA.new (WW1) [.bool false, .int .u64 0, .int .u64 0] 84
          replace hB := hB.alloc hB.size (.cells #[.bool false, .int .u64 0, .int .u64 0] 84)
          have hne1 : ¬ gb = ga := by have := hca.1; omega
          have hne2 : ¬ ga = gb := by omega
          replace hca := hca.alloc (.cells #[.bool false, .int .u64 0, .int .u64 0] 84)
          rw [← hgb]
          clear hgb
          generalize (WW1).alloc (.cells #[.bool false, .int .u64 0, .int .u64 0] 84) = WW2 at *
          refine ⟨⟨⟨_, hB⟩, rfl⟩, ?_⟩
          refine wpC_all (rs := [11]) (by kernel_rfl) (by decide) ?_
          intro i hi
          simp only [List.mem_cons, List.not_mem_nil, or_false] at hi
          subst hi
          refine ⟨_, rfl, ?_⟩
          go_simp
          refine (C2.out _).mono ?_
          rintro e WW3 ⟨rfl, hb9⟩
          replace hB := below_step hB hb9
          replace hca := hca.later hb9
          replace hcb := hcb.later hb9
          clear hb9
          refine ⟨⟨⟨_, hB⟩, rfl⟩, ?_⟩
          go_simp
          refine wpC_all (rs := [14]) (by kernel_rfl) (by decide) ?_
          intro i hi
          simp only [List.mem_cons, List.not_mem_nil, or_false] at hi
          subst hi
          refine ⟨_, rfl, ?_⟩
          obtain ⟨z0, f0⟩ := hca.2 0 _ rfl
          obtain ⟨z1, f1⟩ := hca.2 1 _ rfl
          obtain ⟨z2, f2⟩ := hca.2 2 _ rfl
          go_simp
          replace hca := hca.store3 (.bool x) (.int .u64 H) (.int .u64 L)
          replace hcb := hcb.other3 (g := ga) (by omega) (.bool x) (.int .u64 H) (.int .u64 L)
          replace hB := ((hB.setCell (p := ⟨ga, 0, none⟩) h0ga (.bool x)).setCell (p := ⟨ga, 1, none⟩) h0ga (.int .u64 H)).setCell (p := ⟨ga, 2, none⟩) h0ga (.int .u64 L)
          clear z0 z1 z2 f0 f1 f2
          generalize ((WW3.setCell ⟨ga, 0, none⟩ (.bool x)).setCell ⟨ga, 1, none⟩ (.int .u64 H)).setCell ⟨ga, 2, none⟩ (.int .u64 L) = WW4 at *
          refine ⟨⟨⟨_, hB⟩, rfl⟩, ?_⟩
          refine wpC_all (rs := [15]) (by kernel_rfl) (by decide) ?_
          intro i hi
          simp only [List.mem_cons, List.not_mem_nil, or_false] at hi
          subst hi
          refine ⟨_, rfl, ?_⟩
          obtain ⟨z0, f0⟩ := hcb.2 0 _ rfl
          obtain ⟨z1, f1⟩ := hcb.2 1 _ rfl
          obtain ⟨z2, f2⟩ := hcb.2 2 _ rfl
          go_simp
          replace hcb := hcb.store3 (.bool y) (.int .u64 K) (.int .u64 M)
          replace hca := hca.other3 (g := gb) (by omega) (.bool y) (.int .u64 K) (.int .u64 M)
          replace hB := ((hB.setCell (p := ⟨gb, 0, none⟩) h0gb (.bool y)).setCell (p := ⟨gb, 1, none⟩) h0gb (.int .u64 K)).setCell (p := ⟨gb, 2, none⟩) h0gb (.int .u64 M)
          clear z0 z1 z2 f0 f1 f2
          generalize ((WW4.setCell ⟨gb, 0, none⟩ (.bool y)).setCell ⟨gb, 1, none⟩ (.int .u64 K)).setCell ⟨gb, 2, none⟩ (.int .u64 M) = WW5 at *
          refine ⟨⟨⟨_, hB⟩, rfl⟩, ?_⟩
          refine wpC_done (by kernel_rfl) ?_
          go_wp2_with fail
          go_meet
          case rel => exact ⟨_, _, rfl, rfl, hca, hcb, hB⟩
      · refine ⟨_, rfl, ?_⟩
        go_simp
        obtain ⟨gb, hgb⟩ : ∃ q, q = (WW0).heap.size := ⟨_, rfl⟩
        have h0gb : W1.heap.size ≤ gb := by rw [hgb]; exact hB.size
        have hcb : CA ((WW0).alloc (.cells #[.bool false, .int .u64 0, .int .u64 0] 84)) gb [.bool false, .int .u64 0, .int .u64 0] := by rw [hgb]; exact CA.new (WW0) [.bool false, .int .u64 0, .int .u64 0] 84
        replace hB := hB.alloc hB.size (.cells #[.bool false, .int .u64 0, .int .u64 0] 84)
        rw [← hgb]
        clear hgb
        generalize (WW0).alloc (.cells #[.bool false, .int .u64 0, .int .u64 0] 84) = WW1 at *
        refine ⟨⟨⟨_, hB⟩, rfl⟩, ?_⟩
        refine wpC_all (rs := [11, 12]) (by kernel_rfl) (by decide) ?_
        intro i hi
        simp only [List.mem_cons, List.not_mem_nil, or_false] at hi
        rcases hi with rfl | rfl
        · refine ⟨_, rfl, ?_⟩
          go_simp
          refine (C2.out _).mono ?_
          rintro e WW2 ⟨rfl, hb9⟩
          replace hB := below_step hB hb9
          replace hcb := hcb.later hb9
          clear hb9
          refine ⟨⟨⟨_, hB⟩, rfl⟩, ?_⟩
          go_simp
          refine wpC_all (rs := [12]) (by kernel_rfl) (by decide) ?_
          intro i hi
          simp only [List.mem_cons, List.not_mem_nil, or_false] at hi
          subst hi
          refine ⟨_, rfl, ?_⟩
          go_simp
          obtain ⟨ga, hga⟩ : ∃ q, q = (WW2).heap.size := ⟨_, rfl⟩
          have h0ga : W1.heap.size ≤ ga := by rw [hga]; exact hB.size
          have hca : CA ((WW2).alloc (.cells #[.bool false, .int .u64 0, .int .u64 0] 84)) ga [.bool false, .int .u64 0, .int .u64 0] := by rw [hga]; exact CA.new (WW2) [.bool false, .int .u64 0, .int .u64 0] 84
          replace hB := hB.alloc hB.size (.cells #[.bool false, .int .u64 0, .int .u64 0] 84)
          have hne1 : ¬ ga = gb := by have := hcb.1; omega
          have hne2 : ¬ gb = ga := by omega
          replace hcb := hcb.alloc (.cells #[.bool false, .int .u64 0, .int .u64 0] 84)
          rw [← hga]
          clear hga
          generalize (WW2).alloc (.cells #[.bool false, .int .u64 0, .int .u64 0] 84) = WW3 at *
          refine ⟨⟨⟨_, hB⟩, rfl⟩, ?_⟩
          refine wpC_all (rs := [14]) (by kernel_rfl) (by decide) ?_
          intro i hi
          simp only [List.mem_cons, List.not_mem_nil, or_false] at hi
          subst hi
          refine ⟨_, rfl, ?_⟩
          obtain ⟨z0, f0⟩ := hca.2 0 _ rfl
          obtain ⟨z1, f1⟩ := hca.2 1 _ rfl
          obtain ⟨z2, f2⟩ := hca.2 2 _ rfl
          go_simp
          replace hca := hca.store3 (.bool x) (.int .u64 H) (.int .u64 L)
          replace hcb := hcb.other3 (g := ga) (by omega) (.bool x) (.int .u64 H) (.int .u64 L)
          replace hB := ((hB.setCell (p := ⟨ga, 0, none⟩) h0ga (.bool x)).setCell (p := ⟨ga, 1, none⟩) h0ga (.int .u64 H)).setCell (p := ⟨ga, 2, none⟩) h0ga (.int .u64 L)
          clear z0 z1 z2 f0 f1 f2
          generalize ((WW3.setCell ⟨ga, 0, none⟩ (.bool x)).setCell ⟨ga, 1, none⟩ (.int .u64 H)).setCell ⟨ga, 2, none⟩ (.int .u64 L) = WW4 at *
          refine ⟨⟨⟨_, hB⟩, rfl⟩, ?_⟩
          refine wpC_all (rs := [15]) (by kernel_rfl) (by decide) ?_
          intro i hi
          simp only [List.mem_cons, List.not_mem_nil, or_false] at hi
          subst hi
          refine ⟨_, rfl, ?_⟩
          obtain ⟨z0, f0⟩ := hcb.2 0 _ rfl
          obtain ⟨z1, f1⟩ := hcb.2 1 _ rfl
          obtain ⟨z2, f2⟩ := hcb.2 2 _ rfl
          go_simp
          replace hcb := hcb.store3 (.bool y) (.int .u64 K) (.int .u64 M)
          replace hca := hca.other3 (g := gb) (by omega) (.bool y) (.int .u64 K) (.int .u64 M)
          replace hB := ((hB.setCell (p := ⟨gb, 0, none⟩) h0gb (.bool y)).setCell (p := ⟨gb, 1, none⟩) h0gb (.int .u64 K)).setCell (p := ⟨gb, 2, none⟩) h0gb (.int .u64 M)
          clear z0 z1 z2 f0 f1 f2
          generalize ((WW4.setCell ⟨gb, 0, none⟩ (.bool y)).setCell ⟨gb, 1, none⟩ (.int .u64 K)).setCell ⟨gb, 2, none⟩ (.int .u64 M) = WW5 at *
          refine ⟨⟨⟨_, hB⟩, rfl⟩, ?_⟩
          refine wpC_done (by kernel_rfl) ?_
          go_wp2_with fail
          go_meet
          case rel => exact ⟨_, _, rfl, rfl, hca, hcb, hB⟩
        · refine ⟨_, rfl, ?_⟩
          go_simp
          obtain ⟨ga, hga⟩ : ∃ q, q = (WW1).heap.size := ⟨_, rfl⟩
          have h0ga : W1.heap.size ≤ ga := by rw [hga]; exact hB.size
          have hca : CA ((WW1).alloc (.cells #[.bool false, .int .u64 0, .int .u64 0] 84)) ga [.bool false, .int .u64 0, .int .u64 0] := by rw [hga]; exact CA.new (WW1) [.bool false, .int .u64 0, .int .u64 0] 84
          replace hB := hB.alloc hB.size (.cells #[.bool false, .int .u64 0, .int .u64 0] 84)
          have hne1 : ¬ ga = gb := by have := hcb.1; omega
          have hne2 : ¬ gb = ga := by omega
          replace hcb := hcb.alloc (.cells #[.bool false, .int .u64 0, .int .u64 0] 84)
          rw [← hga]
          clear hga
          generalize (WW1).alloc (.cells #[.bool false, .int .u64 0, .int .u64 0] 84) = WW2 at *
          refine ⟨⟨⟨_, hB⟩, rfl⟩, ?_⟩
          refine wpC_all (rs := [11]) (by kernel_rfl) (by decide) ?_
          intro i hi
          simp only [List.mem_cons, List.not_mem_nil, or_false] at hi
          subst hi
          refine ⟨_, rfl, ?_⟩
          go_simp
          refine (C2.out _).mono ?_
          rintro e WW3 ⟨rfl, hb9⟩
          replace hB := below_step hB hb9
          replace hca := hca.later hb9
          replace hcb := hcb.later hb9
          clear hb9
          refine ⟨⟨⟨_, hB⟩, rfl⟩, ?_⟩
          go_simp
          refine wpC_all (rs := [14]) (by kernel_rfl) (by decide) ?_
          intro i hi
          simp only [List.mem_cons, List.not_mem_nil, or_false] at hi
          subst hi
          refine ⟨_, rfl, ?_⟩
          obtain ⟨z0, f0⟩ := hca.2 0 _ rfl
          obtain ⟨z1, f1⟩ := hca.2 1 _ rfl
          obtain ⟨z2, f2⟩ := hca.2 2 _ rfl
          go_simp
          replace hca := hca.store3 (.bool x) (.int .u64 H) (.int .u64 L)
          replace hcb := hcb.other3 (g := ga) (by omega) (.bool x) (.int .u64 H) (.int .u64 L)
          replace hB := ((hB.setCell (p := ⟨ga, 0, none⟩) h0ga (.bool x)).setCell (p := ⟨ga, 1, none⟩) h0ga (.int .u64 H)).setCell (p := ⟨ga, 2, none⟩) h0ga (.int .u64 L)
          clear z0 z1 z2 f0 f1 f2
          generalize ((WW3.setCell ⟨ga, 0, none⟩ (.bool x)).setCell ⟨ga, 1, none⟩ (.int .u64 H)).setCell ⟨ga, 2, none⟩ (.int .u64 L) = WW4 at *
          refine ⟨⟨⟨_, hB⟩, rfl⟩, ?_⟩
          refine wpC_all (rs := [15]) (by kernel_rfl) (by decide) ?_
          intro i hi
          simp only [List.mem_cons, List.not_mem_nil, or_false] at hi
          subst hi
          refine ⟨_, rfl, ?_⟩
          obtain ⟨z0, f0⟩ := hcb.2 0 _ rfl
          obtain ⟨z1, f1⟩ := hcb.2 1 _ rfl
          obtain ⟨z2, f2⟩ := hcb.2 2 _ rfl
          go_simp
          replace hcb := hcb.store3 (.bool y) (.int .u64 K) (.int .u64 M)
          replace hca := hca.other3 (g := gb) (by omega) (.bool y) (.int .u64 K) (.int .u64 M)
          replace hB := ((hB.setCell (p := ⟨gb, 0, none⟩) h0gb (.bool y)).setCell (p := ⟨gb, 1, none⟩) h0gb (.int .u64 K)).setCell (p := ⟨gb, 2, none⟩) h0gb (.int .u64 M)
          clear z0 z1 z2 f0 f1 f2
          generalize ((WW4.setCell ⟨gb, 0, none⟩ (.bool y)).setCell ⟨gb, 1, none⟩ (.int .u64 K)).setCell ⟨gb, 2, none⟩ (.int .u64 M) = WW5 at *
          refine ⟨⟨⟨_, hB⟩, rfl⟩, ?_⟩
          refine wpC_done (by kernel_rfl) ?_
          go_wp2_with fail
          go_meet
          case rel => exact ⟨_, _, rfl, rfl, hca, hcb, hB⟩
    · refine ⟨_, rfl, ?_⟩
      go_simp
      obtain ⟨ga, hga⟩ : ∃ q, q = W1.heap.size := ⟨_, rfl⟩
      have h0ga : W1.heap.size ≤ ga := by rw [hga]; exact Nat.le_refl _
      have hca : CA (W1.alloc (.cells #[.bool false, .int .u64 0, .int .u64 0] 84)).drew ga [.bool false, .int .u64 0, .int .u64 0] := by rw [hga]; exact (CA.new W1 [.bool false, .int .u64 0, .int .u64 0] 84).drew
      replace hB : Below W1.heap.size W1 (W1.alloc (.cells #[.bool false, .int .u64 0, .int .u64 0] 84)).drew := ((Below.refl _ _).alloc (Nat.le_refl _) (.cells #[.bool false, .int .u64 0, .int .u64 0] 84)).drew
      rw [← hga]
      rw [← hga] at hB
      generalize (W1.alloc (.cells #[.bool false, .int .u64 0, .int .u64 0] 84)).drew = WW0 at *
      rw [hga] at hB
      clear hga
      refine ⟨⟨⟨_, hB⟩, rfl⟩, ?_⟩
      refine wpC_all (rs := [5, 13]) (by kernel_rfl) (by decide) ?_
      intro i hi
      simp only [List.mem_cons, List.not_mem_nil, or_false] at hi
      rcases hi with rfl | rfl
      · refine ⟨_, rfl, ?_⟩
        go_simp
        refine (C1.out _).mono ?_
        rintro e WW1 ⟨rfl, hb9⟩
        replace hB := below_step hB hb9
        replace hca := hca.later hb9
        clear hb9
        refine ⟨⟨⟨_, hB⟩, rfl⟩, ?_⟩
        go_simp
        refine wpC_all (rs := [11, 13]) (by kernel_rfl) (by decide) ?_
        intro i hi
        simp only [List.mem_cons, List.not_mem_nil, or_false] at hi
        rcases hi with rfl | rfl
        · refine ⟨_, rfl, ?_⟩
          go_simp
          refine (C2.out _).mono ?_
          rintro e WW2 ⟨rfl, hb9⟩
          replace hB := below_step hB hb9
          replace hca := hca.later hb9
          clear hb9
          refine ⟨⟨⟨_, hB⟩, rfl⟩, ?_⟩
          go_simp
          refine wpC_all (rs := [13]) (by kernel_rfl) (by decide) ?_
          intro i hi
          simp only [List.mem_cons, List.not_mem_nil, or_false] at hi
          subst hi
          refine ⟨_, rfl, ?_⟩
          go_simp
          obtain ⟨gb, hgb⟩ : ∃ q, q = (WW2).heap.size := ⟨_, rfl⟩
          have h0gb : W1.heap.size ≤ gb := by rw [hgb]; exact hB.size
          have hcb : CA ((WW2).alloc (.cells #[.bool false, .int .u64 0, .int .u64 0] 84)) gb [.bool false, .int .u64 0, .int .u64 0] := by rw [hgb]; exact CA.new (WW2) [.bool false, .int .u64 0, .int .u64 0] 84
          replace hB := hB.alloc hB.size (.cells #[.bool false, .int .u64 0, .int .u64 0] 84)
          have hne1 : ¬ gb = ga := by have := hca.1; omega
          have hne2 : ¬ ga = gb := by omega
          replace hca := hca.alloc (.cells #[.bool false, .int .u64 0, .int .u64 0] 84)
          rw [← hgb]
          clear hgb
          generalize (WW2).alloc (.cells #[.bool false, .int .u64 0, .int .u64 0] 84) = WW3 at *
          refine ⟨⟨⟨_, hB⟩, rfl⟩, ?_⟩
          refine wpC_all (rs := [14]) (by kernel_rfl) (by decide) ?_
          intro i hi
          simp only [List.mem_cons, List.not_mem_nil, or_false] at hi
          subst hi
          refine ⟨_, rfl, ?_⟩
          obtain ⟨z0, f0⟩ := hca.2 0 _ rfl
          obtain ⟨z1, f1⟩ := hca.2 1 _ rfl
          obtain ⟨z2, f2⟩ := hca.2 2 _ rfl
          go_simp
          replace hca := hca.store3 (.bool x) (.int .u64 H) (.int .u64 L)
          replace hcb := hcb.other3 (g := ga) (by omega) (.bool x) (.int .u64 H) (.int .u64 L)
          replace hB := ((hB.setCell (p := ⟨ga, 0, none⟩) h0ga (.bool x)).setCell (p := ⟨ga, 1, none⟩) h0ga (.int .u64 H)).setCell (p := ⟨ga, 2, none⟩) h0ga (.int .u64 L)
          clear z0 z1 z2 f0 f1 f2
          generalize ((WW3.setCell ⟨ga, 0, none⟩ (.bool x)).setCell ⟨ga, 1, none⟩ (.int .u64 H)).setCell ⟨ga, 2, none⟩ (.int .u64 L) = WW4 at *
          refine ⟨⟨⟨_, hB⟩, rfl⟩, ?_⟩
          refine wpC_all (rs := [15]) (by kernel_rfl) (by decide) ?_
          intro i hi
          simp only [List.mem_cons, List.not_mem_nil, or_false] at hi
          subst hi
          refine ⟨_, rfl, ?_⟩
          obtain ⟨z0, f0⟩ := hcb.2 0 _ rfl
          obtain ⟨z1, f1⟩ := hcb.2 1 _ rfl
          obtain ⟨z2, f2⟩ := hcb.2 2 _ rfl
          go_simp
          replace hcb := hcb.store3 (.bool y) (.int .u64 K) (.int .u64 M)
          replace hca := hca.other3 (g := gb) (by omega) (.bool y) (.int .u64 K) (.int .u64 M)
          replace hB := ((hB.setCell (p := ⟨gb, 0, none⟩) h0gb (.bool y)).setCell (p := ⟨gb, 1, none⟩) h0gb (.int .u64 K)).setCell (p := ⟨gb, 2, none⟩) h0gb (.int .u64 M)
          clear z0 z1 z2 f0 f1 f2
          generalize ((WW4.setCell ⟨gb, 0, none⟩ (.bool y)).setCell ⟨gb, 1, none⟩ (.int .u64 K)).setCell ⟨gb, 2, none⟩ (.int .u64 M) = WW5 at *
          refine ⟨⟨⟨_, hB⟩, rfl⟩, ?_⟩
          refine wpC_done (by kernel_rfl) ?_
          go_wp2_with fail
          go_meet
          case rel => exact ⟨_, _, rfl, rfl, hca, hcb, hB⟩
        · refine ⟨_, rfl, ?_⟩
          go_simp
          obtain ⟨gb, hgb⟩ : ∃ q, q = (WW1).heap.size := ⟨_, rfl⟩
          have h0gb : W1.heap.size ≤ gb := by rw [hgb]; exact hB.size
          have hcb : CA ((WW1).alloc (.cells #[.bool false, .int .u64 0, .int .u64 0] 84)) gb [.bool false, .int .u64 0, .int .u64 0] := by rw [hgb]; exact CA.new (WW1) [.bool false, .int .u64 0, .int .u64 0] 84
          replace hB := hB.alloc hB.size (.cells #[.bool false, .int .u64 0, .int .u64 0] 84)
          have hne1 : ¬ gb = ga := by have := hca.1; omega
          have hne2 : ¬ ga = gb := by omega
          replace hca := hca.alloc (.cells #[.bool false, .int .u64 0, .int .u64 0] 84)
          rw [← hgb]
          clear hgb
          generalize (WW1).alloc (.cells #[.bool false, .int .u64 0, .int .u64 0] 84) = WW2 at *
          refine ⟨⟨⟨_, hB⟩, rfl⟩, ?_⟩
          refine wpC_all (rs := [11]) (by kernel_rfl) (by decide) ?_
          intro i hi
          simp only [List.mem_cons, List.not_mem_nil, or_false] at hi
          subst hi
          refine ⟨_, rfl, ?_⟩
          go_simp
          refine (C2.out _).mono ?_
          rintro e WW3 ⟨rfl, hb9⟩
          replace hB := below_step hB hb9
          replace hca := hca.later hb9
          replace hcb := hcb.later hb9
          clear hb9
          refine ⟨⟨⟨_, hB⟩, rfl⟩, ?_⟩
          go_simp
          refine wpC_all (rs := [14]) (by kernel_rfl) (by decide) ?_
          intro i hi
          simp only [List.mem_cons, List.not_mem_nil, or_false] at hi
          subst hi
          refine ⟨_, rfl, ?_⟩
          obtain ⟨z0, f0⟩ := hca.2 0 _ rfl
          obtain ⟨z1, f1⟩ := hca.2 1 _ rfl
          obtain ⟨z2, f2⟩ := hca.2 2 _ rfl
          go_simp
          replace hca := hca.store3 (.bool x) (.int .u64 H) (.int .u64 L)
          replace hcb := hcb.other3 (g := ga) (by omega) (.bool x) (.int .u64 H) (.int .u64 L)
          replace hB := ((hB.setCell (p := ⟨ga, 0, none⟩) h0ga (.bool x)).setCell (p := ⟨ga, 1, none⟩) h0ga (.int .u64 H)).setCell (p := ⟨ga, 2, none⟩) h0ga (.int .u64 L)
          clear z0 z1 z2 f0 f1 f2
          generalize ((WW3.setCell ⟨ga, 0, none⟩ (.bool x)).setCell ⟨ga, 1, none⟩ (.int .u64 H)).setCell ⟨ga, 2, none⟩ (.int .u64 L) = WW4 at *
          refine ⟨⟨⟨_, hB⟩, rfl⟩, ?_⟩
          refine wpC_all (rs := [15]) (by kernel_rfl) (by decide) ?_
          intro i hi
          simp only [List.mem_cons, List.not_mem_nil, or_false] at hi
          subst hi
          refine ⟨_, rfl, ?_⟩
          obtain ⟨z0, f0⟩ := hcb.2 0 _ rfl
          obtain ⟨z1, f1⟩ := hcb.2 1 _ rfl
          obtain ⟨z2, f2⟩ := hcb.2 2 _ rfl
          go_simp
          replace hcb := hcb.store3 (.bool y) (.int .u64 K) (.int .u64 M)
          replace hca := hca.other3 (g := gb) (by omega) (.bool y) (.int .u64 K) (.int .u64 M)
          replace hB := ((hB.setCell (p := ⟨gb, 0, none⟩) h0gb (.bool y)).setCell (p := ⟨gb, 1, none⟩) h0gb (.int .u64 K)).setCell (p := ⟨gb, 2, none⟩) h0gb (.int .u64 M)
          clear z0 z1 z2 f0 f1 f2
          generalize ((WW4.setCell ⟨gb, 0, none⟩ (.bool y)).setCell ⟨gb, 1, none⟩ (.int .u64 K)).setCell ⟨gb, 2, none⟩ (.int .u64 M) = WW5 at *
          refine ⟨⟨⟨_, hB⟩, rfl⟩, ?_⟩
          refine wpC_done (by kernel_rfl) ?_
          go_wp2_with fail
          go_meet
          case rel => exact ⟨_, _, rfl, rfl, hca, hcb, hB⟩
      · refine ⟨_, rfl, ?_⟩
        go_simp
        obtain ⟨gb, hgb⟩ : ∃ q, q = (WW0).heap.size := ⟨_, rfl⟩
        have h0gb : W1.heap.size ≤ gb := by rw [hgb]; exact hB.size
        have hcb : CA ((WW0).alloc (.cells #[.bool false, .int .u64 0, .int .u64 0] 84)) gb [.bool false, .int .u64 0, .int .u64 0] := by rw [hgb]; exact CA.new (WW0) [.bool false, .int .u64 0, .int .u64 0] 84
        replace hB := hB.alloc hB.size (.cells #[.bool false, .int .u64 0, .int .u64 0] 84)
        have hne1 : ¬ gb = ga := by have := hca.1; omega
        have hne2 : ¬ ga = gb := by omega
        replace hca := hca.alloc (.cells #[.bool false, .int .u64 0, .int .u64 0] 84)
        rw [← hgb]
        clear hgb
        generalize (WW0).alloc (.cells #[.bool false, .int .u64 0, .int .u64 0] 84) = WW1 at *
        refine ⟨⟨⟨_, hB⟩, rfl⟩, ?_⟩
        refine wpC_all (rs := [5]) (by kernel_rfl) (by decide) ?_
        intro i hi
        simp only [List.mem_cons, List.not_mem_nil, or_false] at hi
        subst hi
        refine ⟨_, rfl, ?_⟩
        go_simp
        refine (C1.out _).mono ?_
        rintro e WW2 ⟨rfl, hb9⟩
        replace hB := below_step hB hb9
        replace hca := hca.later hb9
        replace hcb := hcb.later hb9
        clear hb9
        refine ⟨⟨⟨_, hB⟩, rfl⟩, ?_⟩
        go_simp
        refine wpC_all (rs := [11]) (by kernel_rfl) (by decide) ?_
        intro i hi
        simp only [List.mem_cons, List.not_mem_nil, or_false] at hi
        subst hi
        refine ⟨_, rfl, ?_⟩
        go_simp
        refine (C2.out _).mono ?_
        rintro e WW3 ⟨rfl, hb9⟩
        replace hB := below_step hB hb9
        replace hca := hca.later hb9
        replace hcb := hcb.later hb9
        clear hb9
        refine ⟨⟨⟨_, hB⟩, rfl⟩, ?_⟩
        go_simp
        refine wpC_all (rs := [14]) (by kernel_rfl) (by decide) ?_
        intro i hi
        simp only [List.mem_cons, List.not_mem_nil, or_false] at hi
        subst hi
        refine ⟨_, rfl, ?_⟩
        obtain ⟨z0, f0⟩ := hca.2 0 _ rfl
        obtain ⟨z1, f1⟩ := hca.2 1 _ rfl
        obtain ⟨z2, f2⟩ := hca.2 2 _ rfl
        go_simp
        replace hca := hca.store3 (.bool x) (.int .u64 H) (.int .u64 L)
        replace hcb := hcb.other3 (g := ga) (by omega) (.bool x) (.int .u64 H) (.int .u64 L)
        replace hB := ((hB.setCell (p := ⟨ga, 0, none⟩) h0ga (.bool x)).setCell (p := ⟨ga, 1, none⟩) h0ga (.int .u64 H)).setCell (p := ⟨ga, 2, none⟩) h0ga (.int .u64 L)
        clear z0 z1 z2 f0 f1 f2
        generalize ((WW3.setCell ⟨ga, 0, none⟩ (.bool x)).setCell ⟨ga, 1, none⟩ (.int .u64 H)).setCell ⟨ga, 2, none⟩ (.int .u64 L) = WW4 at *
        refine ⟨⟨⟨_, hB⟩, rfl⟩, ?_⟩
        refine wpC_all (rs := [15]) (by kernel_rfl) (by decide) ?_
        intro i hi
        simp only [List.mem_cons, List.not_mem_nil, or_false] at hi
        subst hi
        refine ⟨_, rfl, ?_⟩
        obtain ⟨z0, f0⟩ := hcb.2 0 _ rfl
        obtain ⟨z1, f1⟩ := hcb.2 1 _ rfl
        obtain ⟨z2, f2⟩ := hcb.2 2 _ rfl
        go_simp
        replace hcb := hcb.store3 (.bool y) (.int .u64 K) (.int .u64 M)
        replace hca := hca.other3 (g := gb) (by omega) (.bool y) (.int .u64 K) (.int .u64 M)
        replace hB := ((hB.setCell (p := ⟨gb, 0, none⟩) h0gb (.bool y)).setCell (p := ⟨gb, 1, none⟩) h0gb (.int .u64 K)).setCell (p := ⟨gb, 2, none⟩) h0gb (.int .u64 M)
        clear z0 z1 z2 f0 f1 f2
        generalize ((WW4.setCell ⟨gb, 0, none⟩ (.bool y)).setCell ⟨gb, 1, none⟩ (.int .u64 K)).setCell ⟨gb, 2, none⟩ (.int .u64 M) = WW5 at *
        refine ⟨⟨⟨_, hB⟩, rfl⟩, ?_⟩
        refine wpC_done (by kernel_rfl) ?_
        go_wp2_with fail
        go_meet
        case rel => exact ⟨_, _, rfl, rfl, hca, hcb, hB⟩
    · refine ⟨_, rfl, ?_⟩
      go_simp
      obtain ⟨gb, hgb⟩ : ∃ q, q = W1.heap.size := ⟨_, rfl⟩
      have h0gb : W1.heap.size ≤ gb := by rw [hgb]; exact Nat.le_refl _
      have hcb : CA (W1.alloc (.cells #[.bool false, .int .u64 0, .int .u64 0] 84)).drew gb [.bool false, .int .u64 0, .int .u64 0] := by rw [hgb]; exact (CA.new W1 [.bool false, .int .u64 0, .int .u64 0] 84).drew
      replace hB : Below W1.heap.size W1 (W1.alloc (.cells #[.bool false, .int .u64 0, .int .u64 0] 84)).drew := ((Below.refl _ _).alloc (Nat.le_refl _) (.cells #[.bool false, .int .u64 0, .int .u64 0] 84)).drew
      rw [← hgb]
      rw [← hgb] at hB
      generalize (W1.alloc (.cells #[.bool false, .int .u64 0, .int .u64 0] 84)).drew = WW0 at *
      rw [hgb] at hB
      clear hgb
      refine ⟨⟨⟨_, hB⟩, rfl⟩, ?_⟩
      refine wpC_all (rs := [5, 12]) (by kernel_rfl) (by decide) ?_
      intro i hi
      simp only [List.mem_cons, List.not_mem_nil, or_false] at hi
      rcases hi with rfl | rfl
      · refine ⟨_, rfl, ?_⟩
        go_simp
        refine (C1.out _).mono ?_
        rintro e WW1 ⟨rfl, hb9⟩
        replace hB := below_step hB hb9
        replace hcb := hcb.later hb9
        clear hb9
        refine ⟨⟨⟨_, hB⟩, rfl⟩, ?_⟩
        go_simp
        refine wpC_all (rs := [11, 12]) (by kernel_rfl) (by decide) ?_
        intro i hi
        simp only [List.mem_cons, List.not_mem_nil, or_false] at hi
        rcases hi with rfl | rfl
        · refine ⟨_, rfl, ?_⟩
          go_simp
          refine (C2.out _).mono ?_
          rintro e WW2 ⟨rfl, hb9⟩
          replace hB := below_step hB hb9
          replace hcb := hcb.later hb9
          clear hb9
          refine ⟨⟨⟨_, hB⟩, rfl⟩, ?_⟩
          go_simp
          refine wpC_all (rs := [12]) (by kernel_rfl) (by decide) ?_
          intro i hi
          simp only [List.mem_cons, List.not_mem_nil, or_false] at hi
          subst hi
          refine ⟨_, rfl, ?_⟩
          go_simp
          obtain ⟨ga, hga⟩ : ∃ q, q = (WW2).heap.size := ⟨_, rfl⟩
          have h0ga : W1.heap.size ≤ ga := by rw [hga]; exact hB.size
          have hca : CA ((WW2).alloc (.cells #[.bool false, .int .u64 0, .int .u64 0] 84)) ga [.bool false, .int .u64 0, .int .u64 0] := by rw [hga]; exact CA.new (WW2) [.bool false, .int .u64 0, .int .u64 0] 84
          replace hB := hB.alloc hB.size (.cells #[.bool false, .int .u64 0, .int .u64 0] 84)
          have hne1 : ¬ ga = gb := by have := hcb.1; omega
          have hne2 : ¬ gb = ga := by omega
          replace hcb := hcb.alloc (.cells #[.bool false, .int .u64 0, .int .u64 0] 84)
          rw [← hga]
          clear hga
          generalize (WW2).alloc (.cells #[.bool false, .int .u64 0, .int .u64 0] 84) = WW3 at *
          refine ⟨⟨⟨_, hB⟩, rfl⟩, ?_⟩
          refine wpC_all (rs := [14]) (by kernel_rfl) (by decide) ?_
          intro i hi
          simp only [List.mem_cons, List.not_mem_nil, or_false] at hi
          subst hi
          refine ⟨_, rfl, ?_⟩
          obtain ⟨z0, f0⟩ := hca.2 0 _ rfl
          obtain ⟨z1, f1⟩ := hca.2 1 _ rfl
          obtain ⟨z2, f2⟩ := hca.2 2 _ rfl
          go_simp
          replace hca := hca.store3 (.bool x) (.int .u64 H) (.int .u64 L)
          replace hcb := hcb.other3 (g := ga) (by omega) (.bool x) (.int .u64 H) (.int .u64 L)
          replace hB := ((hB.setCell (p := ⟨ga, 0, none⟩) h0ga (.bool x)).setCell (p := ⟨ga, 1, none⟩) h0ga (.int .u64 H)).setCell (p := ⟨ga, 2, none⟩) h0ga (.int .u64 L)
          clear z0 z1 z2 f0 f1 f2
          generalize ((WW3.setCell ⟨ga, 0, none⟩ (.bool x)).setCell ⟨ga, 1, none⟩ (.int .u64 H)).setCell ⟨ga, 2, none⟩ (.int .u64 L) = WW4 at *
          refine ⟨⟨⟨_, hB⟩, rfl⟩, ?_⟩
          refine wpC_all (rs := [15]) (by kernel_rfl) (by decide) ?_
          intro i hi
          simp only [List.mem_cons, List.not_mem_nil, or_false] at hi
          subst hi
          refine ⟨_, rfl, ?_⟩
          obtain ⟨z0, f0⟩ := hcb.2 0 _ rfl
          obtain ⟨z1, f1⟩ := hcb.2 1 _ rfl
          obtain ⟨z2, f2⟩ := hcb.2 2 _ rfl
          go_simp
          replace hcb := hcb.store3 (.bool y) (.int .u64 K) (.int .u64 M)
          replace hca := hca.other3 (g := gb) (by omega) (.bool y) (.int .u64 K) (.int .u64 M)
          replace hB := ((hB.setCell (p := ⟨gb, 0, none⟩) h0gb (.bool y)).setCell (p := ⟨gb, 1, none⟩) h0gb (.int .u64 K)).setCell (p := ⟨gb, 2, none⟩) h0gb (.int .u64 M)
          clear z0 z1 z2 f0 f1 f2
          generalize ((WW4.setCell ⟨gb, 0, none⟩ (.bool y)).setCell ⟨gb, 1, none⟩ (.int .u64 K)).setCell ⟨gb, 2, none⟩ (.int .u64 M) = WW5 at *
          refine ⟨⟨⟨_, hB⟩, rfl⟩, ?_⟩
          refine wpC_done (by kernel_rfl) ?_
          go_wp2_with fail
          go_meet
          case rel => exact ⟨_, _, rfl, rfl, hca, hcb, hB⟩
        · refine ⟨_, rfl, ?_⟩
          go_simp
          obtain ⟨ga, hga⟩ : ∃ q, q = (WW1).heap.size := ⟨_, rfl⟩
          have h0ga : W1.heap.size ≤ ga := by rw [hga]; exact hB.size
          have hca : CA ((WW1).alloc (.cells #[.bool false, .int .u64 0, .int .u64 0] 84)) ga [.bool false, .int .u64 0, .int .u64 0] := by rw [hga]; exact CA.new (WW1) [.bool false, .int .u64 0, .int .u64 0] 84
          replace hB := hB.alloc hB.size (.cells #[.bool false, .int .u64 0, .int .u64 0] 84)
          have hne1 : ¬ ga = gb := by have := hcb.1; omega
          have hne2 : ¬ gb = ga := by omega
          replace hcb := hcb.alloc (.cells #[.bool false, .int .u64 0, .int .u64 0] 84)
          rw [← hga]
          clear hga
          generalize (WW1).alloc (.cells #[.bool false, .int .u64 0, .int .u64 0] 84) = WW2 at *
          refine ⟨⟨⟨_, hB⟩, rfl⟩, ?_⟩
          refine wpC_all (rs := [11]) (by kernel_rfl) (by decide) ?_
          intro i hi
          simp only [List.mem_cons, List.not_mem_nil, or_false] at hi
          subst hi
          refine ⟨_, rfl, ?_⟩
          go_simp
          refine (C2.out _).mono ?_
          rintro e WW3 ⟨rfl, hb9⟩
          replace hB := below_step hB hb9
          replace hca := hca.later hb9
          replace hcb := hcb.later hb9
          clear hb9
          refine ⟨⟨⟨_, hB⟩, rfl⟩, ?_⟩
          go_simp
          refine wpC_all (rs := [14]) (by kernel_rfl) (by decide) ?_
          intro i hi
          simp only [List.mem_cons, List.not_mem_nil, or_false] at hi
          subst hi
          refine ⟨_, rfl, ?_⟩
          obtain ⟨z0, f0⟩ := hca.2 0 _ rfl
          obtain ⟨z1, f1⟩ := hca.2 1 _ rfl
          obtain ⟨z2, f2⟩ := hca.2 2 _ rfl
          go_simp
          replace hca := hca.store3 (.bool x) (.int .u64 H) (.int .u64 L)
          replace hcb := hcb.other3 (g := ga) (by omega) (.bool x) (.int .u64 H) (.int .u64 L)
          replace hB := ((hB.setCell (p := ⟨ga, 0, none⟩) h0ga (.bool x)).setCell (p := ⟨ga, 1, none⟩) h0ga (.int .u64 H)).setCell (p := ⟨ga, 2, none⟩) h0ga (.int .u64 L)
          clear z0 z1 z2 f0 f1 f2
          generalize ((WW3.setCell ⟨ga, 0, none⟩ (.bool x)).setCell ⟨ga, 1, none⟩ (.int .u64 H)).setCell ⟨ga, 2, none⟩ (.int .u64 L) = WW4 at *
          refine ⟨⟨⟨_, hB⟩, rfl⟩, ?_⟩
          refine wpC_all (rs := [15]) (by kernel_rfl) (by decide) ?_
          intro i hi
          simp only [List.mem_cons, List.not_mem_nil, or_false] at hi
          subst hi
          refine ⟨_, rfl, ?_⟩
          obtain ⟨z0, f0⟩ := hcb.2 0 _ rfl
          obtain ⟨z1, f1⟩ := hcb.2 1 _ rfl
          obtain ⟨z2, f2⟩ := hcb.2 2 _ rfl
          go_simp
          replace hcb := hcb.store3 (.bool y) (.int .u64 K) (.int .u64 M)
          replace hca := hca.other3 (g := gb) (by omega) (.bool y) (.int .u64 K) (.int .u64 M)
          replace hB := ((hB.setCell (p := ⟨gb, 0, none⟩) h0gb (.bool y)).setCell (p := ⟨gb, 1, none⟩) h0gb (.int .u64 K)).setCell (p := ⟨gb, 2, none⟩) h0gb (.int .u64 M)
          clear z0 z1 z2 f0 f1 f2
          generalize ((WW4.setCell ⟨gb, 0, none⟩ (.bool y)).setCell ⟨gb, 1, none⟩ (.int .u64 K)).setCell ⟨gb, 2, none⟩ (.int .u64 M) = WW5 at *
          refine ⟨⟨⟨_, hB⟩, rfl⟩, ?_⟩
          refine wpC_done (by kernel_rfl) ?_
          go_wp2_with fail
          go_meet
          case rel => exact ⟨_, _, rfl, rfl, hca, hcb, hB⟩
      · refine ⟨_, rfl, ?_⟩
        go_simp
        obtain ⟨ga, hga⟩ : ∃ q, q = (WW0).heap.size := ⟨_, rfl⟩
        have h0ga : W1.heap.size ≤ ga := by rw [hga]; exact hB.size
        have hca : CA ((WW0).alloc (.cells #[.bool false, .int .u64 0, .int .u64 0] 84)) ga [.bool false, .int .u64 0, .int .u64 0] := by rw [hga]; exact CA.new (WW0) [.bool false, .int .u64 0, .int .u64 0] 84
        replace hB := hB.alloc hB.size (.cells #[.bool false, .int .u64 0, .int .u64 0] 84)
        have hne1 : ¬ ga = gb := by have := hcb.1; omega
        have hne2 : ¬ gb = ga := by omega
        replace hcb := hcb.alloc (.cells #[.bool false, .int .u64 0, .int .u64 0] 84)
        rw [← hga]
        clear hga
        generalize (WW0).alloc (.cells #[.bool false, .int .u64 0, .int .u64 0] 84) = WW1 at *
        refine ⟨⟨⟨_, hB⟩, rfl⟩, ?_⟩
        refine wpC_all (rs := [5]) (by kernel_rfl) (by decide) ?_
        intro i hi
        simp only [List.mem_cons, List.not_mem_nil, or_false] at hi
        subst hi
        refine ⟨_, rfl, ?_⟩
        go_simp
        refine (C1.out _).mono ?_
        rintro e WW2 ⟨rfl, hb9⟩
        replace hB := below_step hB hb9
        replace hca := hca.later hb9
        replace hcb := hcb.later hb9
        clear hb9
        refine ⟨⟨⟨_, hB⟩, rfl⟩, ?_⟩
        go_simp
        refine wpC_all (rs := [11]) (by kernel_rfl) (by decide) ?_
        intro i hi
        simp only [List.mem_cons, List.not_mem_nil, or_false] at hi
        subst hi
        refine ⟨_, rfl, ?_⟩
        go_simp
        refine (C2.out _).mono ?_
        rintro e WW3 ⟨rfl, hb9⟩
        replace hB := below_step hB hb9
        replace hca := hca.later hb9
        replace hcb := hcb.later hb9
        clear hb9
        refine ⟨⟨⟨_, hB⟩, rfl⟩, ?_⟩
        go_simp
        refine wpC_all (rs := [14]) (by kernel_rfl) (by decide) ?_
        intro i hi
        simp only [List.mem_cons, List.not_mem_nil, or_false] at hi
        subst hi
        refine ⟨_, rfl, ?_⟩
        obtain ⟨z0, f0⟩ := hca.2 0 _ rfl
        obtain ⟨z1, f1⟩ := hca.2 1 _ rfl
        obtain ⟨z2, f2⟩ := hca.2 2 _ rfl
        go_simp
        replace hca := hca.store3 (.bool x) (.int .u64 H) (.int .u64 L)
        replace hcb := hcb.other3 (g := ga) (by omega) (.bool x) (.int .u64 H) (.int .u64 L)
        replace hB := ((hB.setCell (p := ⟨ga, 0, none⟩) h0ga (.bool x)).setCell (p := ⟨ga, 1, none⟩) h0ga (.int .u64 H)).setCell (p := ⟨ga, 2, none⟩) h0ga (.int .u64 L)
        clear z0 z1 z2 f0 f1 f2
        generalize ((WW3.setCell ⟨ga, 0, none⟩ (.bool x)).setCell ⟨ga, 1, none⟩ (.int .u64 H)).setCell ⟨ga, 2, none⟩ (.int .u64 L) = WW4 at *
        refine ⟨⟨⟨_, hB⟩, rfl⟩, ?_⟩
        refine wpC_all (rs := [15]) (by kernel_rfl) (by decide) ?_
        intro i hi
        simp only [List.mem_cons, List.not_mem_nil, or_false] at hi
        subst hi
        refine ⟨_, rfl, ?_⟩
        obtain ⟨z0, f0⟩ := hcb.2 0 _ rfl
        obtain ⟨z1, f1⟩ := hcb.2 1 _ rfl
        obtain ⟨z2, f2⟩ := hcb.2 2 _ rfl
        go_simp
        replace hcb := hcb.store3 (.bool y) (.int .u64 K) (.int .u64 M)
        replace hca := hca.other3 (g := gb) (by omega) (.bool y) (.int .u64 K) (.int .u64 M)
        replace hB := ((hB.setCell (p := ⟨gb, 0, none⟩) h0gb (.bool y)).setCell (p := ⟨gb, 1, none⟩) h0gb (.int .u64 K)).setCell (p := ⟨gb, 2, none⟩) h0gb (.int .u64 M)
        clear z0 z1 z2 f0 f1 f2
        generalize ((WW4.setCell ⟨gb, 0, none⟩ (.bool y)).setCell ⟨gb, 1, none⟩ (.int .u64 K)).setCell ⟨gb, 2, none⟩ (.int .u64 M) = WW5 at *
        refine ⟨⟨⟨_, hB⟩, rfl⟩, ?_⟩
        refine wpC_done (by kernel_rfl) ?_
        go_wp2_with fail
        go_meet
        case rel => exact ⟨_, _, rfl, rfl, hca, hcb, hB⟩
  case rest =>
    obtain ⟨ga, gb, e5, e6, ca, cb, hB⟩ := hcut
    unfold isPw at e5 e6
    subst e5 e6
    have m0 := (ca.2 0 _ rfl).1
    have m1 := (ca.2 1 _ rfl).1
    have m2 := (ca.2 2 _ rfl).1
    have n0 := (cb.2 0 _ rfl).1
    have n1 := (cb.2 1 _ rfl).1
    have n2 := (cb.2 2 _ rfl).1
    have hBz : Below w.heap.size w wc := hBW.trans (hB.mono hBW.size)
    clear ca cb hB hBW k0 k1 k2 k3 k4 k5 C1 C2
    by_cases hxy : x = y
    · by_cases hHK : H = K
      · by_cases hLM : L = M
        · have hpq := HN.out hxy hHK hLM
          obtain rfl := HS.out.1 hpq
          subst hxy hHK hLM
          clear hpq HN HS
          have hxx : (x == x) = true := by simp
          have hHH : ((H : Int) == (H : Int)) = true := by simp
          have hLL : ((L : Int) == (L : Int)) = true := by simp
          go_wp2
          go_ret
          exact ⟨rfl, hBz⟩
        · have hpq : ¬ p = q := fun h => hLM (hPQ.out h).2.2
          subst hxy hHK
          have hLL : ((L : Int) == (M : Int)) = false := by simp; omega
          have hxx : (x == x) = true := by simp
          have hHH : ((H : Int) == (H : Int)) = true := by simp
          clear hLM HN hPQ
          by_cases hlt : p < q
          · have hd : decide (p < q) = true := decide_eq_true hlt
            obtain rfl := HS.out.2.1 hlt
            rw [hd] at CL
            clear hlt hpq hd HS
            go_wp2_with (go_at_call 44; refine (CL.out _).mono ?_; rintro e w9 ⟨rfl, hb9⟩)
            go_ret
            exact ⟨rfl, below_step hBz hb9⟩
          · have hd : decide (p < q) = false := decide_eq_false hlt
            obtain rfl := HS.out.2.2 hpq hlt
            rw [hd] at CL
            clear hlt hpq hd HS
            go_wp2_with (go_at_call 44; refine (CL.out _).mono ?_; rintro e w9 ⟨rfl, hb9⟩)
            go_ret
            exact ⟨rfl, below_step hBz hb9⟩
      · have hpq : ¬ p = q := fun h => hHK (hPQ.out h).2.1
        subst hxy
        have hHH : ((H : Int) == (K : Int)) = false := by simp; omega
        have hxx : (x == x) = true := by simp
        clear hHK HN hPQ
        by_cases hlt : p < q
        · have hd : decide (p < q) = true := decide_eq_true hlt
          obtain rfl := HS.out.2.1 hlt
          rw [hd] at CL
          clear hlt hpq hd HS
          go_wp2_with (go_at_call 44; refine (CL.out _).mono ?_; rintro e w9 ⟨rfl, hb9⟩)
          go_ret
          exact ⟨rfl, below_step hBz hb9⟩
        · have hd : decide (p < q) = false := decide_eq_false hlt
          obtain rfl := HS.out.2.2 hpq hlt
          rw [hd] at CL
          clear hlt hpq hd HS
          go_wp2_with (go_at_call 44; refine (CL.out _).mono ?_; rintro e w9 ⟨rfl, hb9⟩)
          go_ret
          exact ⟨rfl, below_step hBz hb9⟩
    · have hpq : ¬ p = q := fun h => hxy (hPQ.out h).1
      have hxx : (x == y) = false := by simpa using hxy
      clear hxy HN hPQ
      by_cases hlt : p < q
      · have hd : decide (p < q) = true := decide_eq_true hlt
        obtain rfl := HS.out.2.1 hlt
        rw [hd] at CL
        clear hlt hpq hd HS
        go_wp2_with (go_at_call 44; refine (CL.out _).mono ?_; rintro e w9 ⟨rfl, hb9⟩)
        go_ret
        exact ⟨rfl, below_step hBz hb9⟩
      · have hd : decide (p < q) = false := decide_eq_false hlt
        obtain rfl := HS.out.2.2 hpq hlt
        rw [hd] at CL
        clear hlt hpq hd HS
        go_wp2_with (go_at_call 44; refine (CL.out _).mono ?_; rintro e w9 ⟨rfl, hb9⟩)
        go_ret
        exact ⟨rfl, below_step hBz hb9⟩
end Go.Proofs.Ytloogollfconpaa
