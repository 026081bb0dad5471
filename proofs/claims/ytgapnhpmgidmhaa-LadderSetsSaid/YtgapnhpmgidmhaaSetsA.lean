/- Ladders: the sets of a number of ladders: the search. -/
import Derived.Test.YtgapnhpmgidmhaaLadM3
import Derived.Test.YtgapnhpmgidmhaaRests
import Derived.Test.YtgapnhpmgidmhaaMixG
import Derived.RangeFuncNested
import Derived.RangeFuncBound
import Derived.RangeFuncCalls
import Derived.RangeFuncLeaves
import Derived.RangeFuncFrom
import Derived.Shelf.Abstract
import Derived.OwnWalkIn
import Derived.TacticsInMore
import Derived.LoopNIn
import Derived.LoopIn
import Derived.Stop.RegionWithIn
set_option linter.unusedSimpArgs false
set_option linter.unusedVariables false
namespace Go.Proofs.Ytgapnhpmgidmhaa
open Go.RowKit Go.Shelf Go.Maps
attribute [local go_sem] Oper.semAt_some

theorem cloneI_any (A : Option Addr) (n cap : Nat) (ds : List Int) (w : World) (hn : 0 < n) (hm : n ≤ 100000000) (hy : Ints w w.heap.size A n ds) :
    Calls Try.prog 34 #[.slice A n cap] w fun e w' => (∃ v, e = .returned v ∧ w'.ownsRow w.heap.size 3 1 v n (icells ds)) ∧ Below w.heap.size w w' := by
  obtain ⟨b, off, rfl, hb0, hc⟩ := hy.2 hn
  have hl := hy.1
  refine (Try.slices_Clone_int b off n cap ds w (by omega) (by omega) (fun j hj => by rw [hc j (by omega)]; simp [List.getD])).mono fun e w' ⟨v, he, ho, _, hb⟩ => ⟨⟨v, he, ?_⟩, hb⟩
  rw [List.take_of_length_le (by omega)] at ho
  exact ho
/-- Below n every block lies as it lay, but for those of S. -/
def KeepS (n : Nat) (S : Nat → Prop) (A B : World) : Prop := A.heap.size ≤ B.heap.size ∧ ∀ k, k < n → ¬ S k → B.heap[k]? = A.heap[k]?
theorem KeepS.refl (n : Nat) (S : Nat → Prop) (A : World) : KeepS n S A A := ⟨Nat.le_refl _, fun _ _ _ => rfl⟩
theorem KeepS.trans {n : Nat} {S : Nat → Prop} {A B C : World} (h : KeepS n S A B) (k : KeepS n S B C) : KeepS n S A C := ⟨Nat.le_trans h.1 k.1, fun j h1 h2 => (k.2 j h1 h2).trans (h.2 j h1 h2)⟩
theorem KeepS.of {n : Nat} {S : Nat → Prop} {A B : World} (h : Below n A B) : KeepS n S A B := ⟨h.size, fun k hk _ => h.block k hk⟩
theorem KeepS.drew {n : Nat} {S : Nat → Prop} {A B : World} (h : KeepS n S A B) : KeepS n S A.drew B := h
theorem KeepS.cell {n : Nat} {S : Nat → Prop} {A B : World} (h : KeepS n S A B) {b o : Nat} (hb : b < n) (hs : ¬ S b) : B.cell? ⟨b, o, none⟩ = A.cell? ⟨b, o, none⟩ := World.cell?_of_block (a := ⟨b, o, none⟩) (h.2 b hb hs)
/-- The worlds that keep so. -/
structure LtS (w : World) (n : Nat) (S : Nat → Prop) where
  val : World
  h : KeepS n S w val
instance ltsSome (w : World) (n : Nat) (S : Nat → Prop) : Nonempty (LtS w n S) := ⟨⟨w, KeepS.refl _ _ _⟩⟩
theorem LtS.cell {w : World} {n : Nat} {S : Nat → Prop} (x : LtS w n S) (b o : Nat) (hb : b < n) (hs : ¬ S b) : x.val.cell? ⟨b, o, none⟩ = w.cell? ⟨b, o, none⟩ := x.h.cell hb hs
attribute [local go_sem] LtS.cell
theorem wp_region_lts {P : Program} {id : Nat} {Q : Exit → Act → World → Prop} {a : Act} {w : World} {l : List Oper} (n : Nat) (S : Nat → Prop) (hm : P.follows .mixedOrders = true)
    (h : wpG P .any l.toArray (fun W => ∃ x : LtS w n S, W = x.val) Q l.length (Array.replicate l.length false) a w.drew) : (Code.region id l.toArray true).wp P Q a w :=
  wp_region_any hm (wpG_any _ _ _ _ (by simpa using h))
/-- What the search finds in memory. -/
structure EnvM (N0 : Nat) (S : Nat → Prop) (Bn By Bw Br Bm y mb mm n0 number : Nat) (c : Clb) (A : Option Addr) (len cap : Nat) (l : List J) (A' : Option Addr) (n cap' : Nat) (ds : List Int) (W : World) : Prop where
  hb : (Bn < N0 ∧ By < N0 ∧ Bw < N0 ∧ Br < N0 ∧ Bm < N0 ∧ mb < N0) ∧ n0 ≤ N0 ∧ N0 ≤ W.heap.size
  hs : (¬ S Bn ∧ ¬ S By ∧ ¬ S Bw ∧ ¬ S Br ∧ ¬ S Bm ∧ ¬ S mb) ∧ ∀ k, k < n0 → ¬ S k
  cn : W.cell? ⟨Bn, 0, none⟩ = some (.int .i64 (number : Int))
  cy : W.cell? ⟨By, 0, none⟩ = some (.func (.yield y) #[] #[])
  cw : WallAt W Bw c A len cap A' n cap'
  cr : W.cell? ⟨Br, 0, none⟩ = some (.map (some mb))
  cm : W.cell? ⟨Bm, 0, none⟩ = some (.func (.func 33) #[] #[.pointer (some ⟨Bn, 0, none⟩), .pointer (some ⟨By, 0, none⟩), .pointer (some ⟨Bw, 0, none⟩), .pointer (some ⟨Br, 0, none⟩), .pointer (some ⟨Bm, 0, none⟩)])
  mp : MapI W mb mm (rsM (lc c) (ft c l ds) 0)
  rj : Rows 2 jointV dJ W n0 A len l
  rd : Ints W n0 A' n ds
section
variable {N0 : Nat} {S : Nat → Prop} {Bn By Bw Br Bm y mb mm n0 number : Nat} {c : Clb} {A : Option Addr} {len cap : Nat} {l : List J} {A' : Option Addr} {n cap' : Nat} {ds : List Int} {W W' : World}
theorem rows_keepS {N : Nat} (h : Rows 2 jointV dJ W N A len l) (hk : ∀ k, k < N → W'.heap[k]? = W.heap[k]?) : Rows 2 jointV dJ W' N A len l := by
  refine ⟨h.1, fun h0 => ?_⟩
  obtain ⟨b, off, h1, h2, h3⟩ := h.2 h0
  refine ⟨b, off, h1, h2, fun k hk' j v hv => ?_⟩
  exact (World.cell?_of_block (a := ⟨b, _, none⟩) (hk b h2)).trans (h3 k hk' j v hv)
theorem ints_keepS {N : Nat} {xs : List Int} (h : Ints W N A n xs) (hk : ∀ k, k < N → W'.heap[k]? = W.heap[k]?) : Ints W' N A n xs := by
  refine ⟨h.1, fun h0 => ?_⟩
  obtain ⟨b, off, h1, h2, h3⟩ := h.2 h0
  exact ⟨b, off, h1, h2, fun k hk' => (World.cell?_of_block (a := ⟨b, _, none⟩) (hk b h2)).trans (h3 k hk')⟩
theorem EnvM.keep (h : EnvM N0 S Bn By Bw Br Bm y mb mm n0 number c A len cap l A' n cap' ds W) (hk : KeepS N0 S W W') : EnvM N0 S Bn By Bw Br Bm y mb mm n0 number c A len cap l A' n cap' ds W' := by
  obtain ⟨⟨⟨b1, b2, b3, b4, b5, b6⟩, b7, b8⟩, ⟨⟨s1, s2, s3, s4, s5, s6⟩, s7⟩, cn, cy, cw, cr, cm, mp, rj, rd⟩ := h
  exact ⟨⟨⟨b1, b2, b3, b4, b5, b6⟩, b7, Nat.le_trans b8 hk.1⟩, ⟨⟨s1, s2, s3, s4, s5, s6⟩, s7⟩, (hk.cell b1 s1).trans cn, (hk.cell b2 s2).trans cy, cw.block (hk.2 Bw b3 s3), (hk.cell b4 s4).trans cr, (hk.cell b5 s5).trans cm, mp.block (hk.2 mb b6 s6), rows_keepS rj fun k hk' => hk.2 k (by omega) (s7 k hk'), ints_keepS rd fun k hk' => hk.2 k (by omega) (s7 k hk')⟩
end
theorem icells_app' (xs : List Int) (v : Int) : icells xs ++ [.int .i64 v] = icells (xs ++ [v]) := by rw [icells_app]; rfl
/-- Where the feet end. -/
def lastA (out : List Int) : Int := if out.length = 0 then -1 else (out[out.length - 1]?).getD 0
theorem lastA_app (out : List Int) (E : Int) : lastA (out ++ [E]) = E := by unfold lastA; simp
theorem own_last {w : World} {base n cap : Nat} {e : TypeId} {A : Option Addr} {xs : List Int} (h : w.ownsRow base e 1 (.slice A n cap) n (icells xs)) (hn : 0 < n) : ∃ g, A = some ⟨g, 0, none⟩ ∧ g < w.heap.size ∧ w.cell? ⟨g, n - 1, none⟩ = some (.int .i64 (lastA xs)) := by
  obtain ⟨A1, c1, hv, -, -, hR, hg⟩ := own_ints h
  injection hv with e1 e2 e3
  subst e1 e3
  obtain ⟨g, rfl, -, hgl, -⟩ := hg hn
  obtain ⟨b, off, hb, -, hc⟩ := hR.at_ (n - 1) (by omega)
  injection hb with hb
  injection hb with hb1 hb2
  subst hb1 hb2
  refine ⟨_, rfl, hgl, ?_⟩
  have hl := hR.1
  unfold lastA
  rw [if_neg (by omega), hl]
  rw [Nat.zero_add] at hc
  exact hc

set_option maxRecDepth 100000 in
set_option maxHeartbeats 8000000 in
theorem more_any (N0 : Nat) (S : Nat → Prop) (Bn By Bw Br Bm y mb mm n0 number : Nat) (c : Clb) (A : Option Addr) (len cap : Nat) (l : List J) (A' : Option Addr) (n cap' : Nat) (ds : List Int) (fin : List Int) (Fin J : World → Prop)
    (hvc : vC c = true) (hm : len ≤ 9223372036854775807) (hm' : n ≤ 80) (hn80 : number ≤ 80) (hok : WallOk l ds) (hfin0 : 0 < fin.length)
    (hFin : ∀ W W', Fin W → Below W.heap.size W W' → Fin W')
    (hJ : ∀ W W', J W → Below N0 W W' → J W')
    (hY : ∀ Wy v, J Wy → EnvM N0 S Bn By Bw Br Bm y mb mm n0 number c A len cap l A' n cap' ds Wy → Wy.ownsRow N0 3 1 v fin.length (icells fin) → YieldAt Fence.wide 5 Try.prog y #[v] Wy fun e W' => e = .returned (.bool false) ∧ Fin W' ∧ KeepS N0 S Wy W') :
    ∀ (r : Nat) (out : List Int) (k : Nat) (v : Value) (W : World) (st : Bool), J W → EnvM N0 S Bn By Bw Br Bm y mb mm n0 number c A len cap l A' n cap' ds W → W.ownsRow N0 3 1 v k (icells out) → k + r = number → lastA out < n → -1 ≤ lastA out →
      ((st = true ∧ Way (lc c) (ft c l ds) fin out (lastA out) r) ∨ (st = false ∧ 0 < r ∧ ∀ K, K < n → folB (lc c) (ft c l ds) (lastA out) K = true → need (lc c) (ft c l ds) K ≠ r)) →
      CallsIn Fence.wide 6 Try.prog 33 #[v, .pointer (some ⟨Bn, 0, none⟩), .pointer (some ⟨By, 0, none⟩), .pointer (some ⟨Bw, 0, none⟩), .pointer (some ⟨Br, 0, none⟩), .pointer (some ⟨Bm, 0, none⟩)] W fun e W' => e = .returned (.bool (!st)) ∧ KeepS N0 S W W' ∧ (st = true → Fin W') ∧ (st = false → Below N0 W W') := by
  intro r
  induction r with
  | zero =>
    intro out k v W st hj hE hown hkr hl1 hl2 hst
    obtain ⟨rfl, hw⟩ : st = true ∧ out = fin := by
      rcases hst with ⟨h1, h2⟩ | ⟨_, h2, _⟩
      · cases h2; exact ⟨h1, rfl⟩
      · omega
    subst hw
    obtain ⟨A1, cap1, rfl, hn1, hn2, hI, -⟩ := own_ints hown
    have hol : out.length = k := hI.1
    have hEk : EnvM N0 S Bn By Bw Br Bm y mb mm n0 number c A len cap l A' n cap' ds W := hE
    obtain ⟨⟨⟨b1, b2, b3, b4, b5, b6⟩, b7, b8⟩, ⟨⟨s1, s2, s3, s4, s5, s6⟩, s7⟩, cn, cy, cw, cr, cm, mp, rj, rd⟩ := hE
    have hkn : ((k : Int) == (number : Int)) = true := by rw [show (number : Int) = (k : Int) by omega]; exact beq_self_eq_true _
    have C1 := Lib.hid (fun W1 (h : Below W.heap.size W W1) => cloneI_any A1 k cap1 out W1 (by omega) (by omega) ((hI.below h).more h.size))
    have HEK := Lib.hid hEk
    have HY := Lib.hid hY
    have HFI := Lib.hid hFin
    clear hI hown hEk hY hFin hst cw cr cm mp rj rd hl1 hl2
    refine callsIn_of_wp Try.func33 rfl trivial ?_ rfl
    simp only [Try.ntmps33, List.size_toArray, List.length_cons, List.length_nil, Nat.reduceAdd, Nat.reduceSub, Array.replicate_succ, Array.replicate_zero, List.push_toArray, List.append_toArray, List.nil_append, List.cons_append]
    gi_wp2
    have hmix : Try.prog.follows .mixedOrders = true := by kernel_rfl
    gi_region_with (first | (refine ⟨trivial, ?_⟩; gi_at_call 34; refine (callsIn_wide.2 (C1.out _ (Below.refl _ _).drew)).mono ?_; rintro e w5 ⟨⟨v5, rfl, ho5⟩, hb5⟩; have hb5' : Below W.heap.size W w5 := (Below.refl _ _).drew.trans hb5; obtain ⟨fn, tmps, assign, body, hy, hR⟩ := HY.out w5 v5 (hJ _ _ hj (hb5'.mono b8)) (HEK.out.keep (KeepS.of (hb5'.mono b8))) (own_mono (by rw [← hol] at ho5; exact ho5) b8); have HR := Lib.hid hR; have HB5 := Lib.hid hb5'; have hcy5 : w5.cell? ⟨By, 0, none⟩ = some (.func (.yield y) #[] #[]) := (hb5'.cell (p := ⟨By, 0, none⟩) (by show By < _; omega)).trans cy; clear hR hb5 hb5' ho5) | (refine HR.out.mono ?_; rintro e W3 ⟨rfl, hF3, hK3⟩; have HF3 := Lib.hid hF3; have HK3 := Lib.hid ((KeepS.of (HB5.out.mono b8)).trans hK3); clear hF3 hK3))
    all_goals gi_wp2
    all_goals go_ret
    all_goals exact ⟨rfl, HK3.out, fun _ => HF3.out, fun h => by cases h⟩
  | succ r ih =>
    intro out k v W st hj hE hown hkr hl1 hl2 hst
    obtain ⟨F, hF⟩ : ∃ F, F = ft c l ds := ⟨_, rfl⟩
    have hdn : ds.length = n := hE.rd.1
    have hfl : F.length = n := by rw [hF, ft_len, hdn]
    obtain ⟨E, hE1, hE2, hE3, hE4⟩ : ∃ E : Nat, (∀ K, K < E → folB (lc c) F (lastA out) K = true → need (lc c) F K ≠ r + 1) ∧ E ≤ n ∧ (E < n → folB (lc c) F (lastA out) E = true ∧ need (lc c) F E = r + 1 ∧ st = true ∧ Way (lc c) F fin (out ++ [(E : Int)]) E r) ∧ (E = n → st = false) := by
      rw [hF]
      rcases hst with ⟨h1, h2⟩ | ⟨h1, -, h3⟩
      · cases h2 with
        | step E g1 g2 g3 g4 g5 =>
          have hlt : E < n := by rw [← hF, hfl] at g1; exact g1
          exact ⟨E, g4, by omega, fun _ => ⟨g2, g3, h1, g5⟩, fun h => by omega⟩
      · exact ⟨n, h3, Nat.le_refl _, fun h => by omega, fun _ => h1⟩
    have hq : ∀ K, K < n → K ≤ E → (nd1 (lc c) F K = r + 1 ∧ aftB c l ds (lastA out) K = true → K = E) := fun K hK hKE ⟨h1, h2⟩ => by
      rw [aft_fol (by omega) (by omega), ← hF, Bool.and_eq_true] at h2
      rw [nd1_need (by omega) h2.1] at h1
      have := hE1 K
      by_cases h : K < E
      · exact absurd h1 (this h h2.2)
      · omega
    have hEa : lastA out < E := by
      by_cases h : E < n
      · have h1 := (hE3 h).1
        unfold folB at h1
        split at h1
        · omega
        · rw [Bool.and_eq_true, decide_eq_true_eq] at h1; exact h1.1
      · omega
    have hq2 : E < n → nd1 (lc c) F E = r + 1 ∧ aftB c l ds (lastA out) E = true := fun h => by
      obtain ⟨g1, g2, -, -⟩ := hE3 h
      have hs := (need_snd (c := lc c) (l := F) (d := E) (by omega)).2
      exact ⟨by rw [nd1_need (by omega) hs]; exact g2, by rw [aft_fol (by omega) (by omega), ← hF, hs, g1]; rfl⟩
    obtain ⟨A1, cap1, rfl, hn1, hn2, hI, -⟩ := own_ints hown
    have hol : out.length = k := hI.1
    obtain ⟨a, ha⟩ : ∃ a : Int, a = lastA out := ⟨_, rfl⟩
    have hEk : EnvM N0 S Bn By Bw Br Bm y mb mm n0 number c A len cap l A' n cap' ds W := hE
    obtain ⟨⟨⟨b1, b2, b3, b4, b5, b6⟩, b7, b8⟩, ⟨⟨s1, s2, s3, s4, s5, s6⟩, s7⟩, cn, cy, cw, cr, cm, mp, rj, rd⟩ := hE
    have hkn : ((k : Int) == (number : Int)) = false := beq_eq_false_iff_ne.2 (by omega)
    have hlastc := fun h => own_last hown (n := k) h
    rw [← ha] at hq hq2 hlastc hl1 hl2 hEa
    have HIH := Lib.hid ih
    have HQ := Lib.hid hq
    have HQ2 := Lib.hid hq2
    have HE3 := Lib.hid (fun h => (hE3 h).2.2)
    have HE4 := Lib.hid hE4
    have HEK := Lib.hid hEk
    have HO := Lib.hid hown
    have HF := Lib.hid hF
    have HFI := Lib.hid hFin
    have HA := Lib.hid ha
    clear ih hq hq2 hE1 hE3 hE4 hEk hown hI hF hst hY hFin ha mp rj rd hdn
    refine callsIn_wide.2 ?_
    go_enter Try.func33, Try.ntmps33
    by_cases hk0 : k = 0
    · subst hk0
      obtain rfl : out = [] := List.eq_nil_of_length_eq_zero hol
      have ham : a = -1 := HA.out
      subst ham
      have hA0 : A1 = A1 := rfl
      go_wp2
      clear cn cy cw cr cm
      go_loopw [10] (fun x wr => ∃ K : Nat, (-1 : Int) < K ∧ K ≤ n ∧ K ≤ E ∧ x = .int .i64 (K : Int) ∧ Hid (Below W.heap.size W wr)) (fun x _ => n - (intOf x).toNat)
      case atStart => exact ⟨0, by omega, by omega, by omega, by go_num, Lib.hid (Below.refl _ _)⟩
      case round =>
        obtain ⟨K, hK1, hK2, hK3, rfl, HB⟩ := hrel
        have HEr := Lib.hid (HEK.out.keep (KeepS.of (HB.out.mono b8)))
        have hor := own_later HO.out HB.out
        have hwr := HB.out.size
        obtain ⟨⟨-, -, c8⟩, -, cn, cy, ⟨⟨q0, q1, q2, q3, q4, q5⟩, q6, q7⟩, cr, cm, mp, rj, rd⟩ := id HEr.out
        by_cases hlt : K < n
        · have hget : (rsM (lc c) F 0 (K : Int)).getD 0 = (nd1 (lc c) F K : Int) := rsM_get (Nat.zero_le _) (by omega)
          have hnb := nd1_bd (lc c) F K
          have hrun : (Instr.lookup 59 (.map (some mb)) (.int .i64 (K : Int)) false).run Try.prog wr.drew = .ok (.int .i64 (nd1 (lc c) F K : Int)) wr.drew := by
            have h := (mp.block (w' := wr.drew) rfl).run_int lawI Try.underlying59 Try.underlying3 (zeroI _) (K : Int) (keyOf_int_mk Try.underlying3 (WalkArith.wf_i64 (by omega)))
            rw [← HF.out, hget] at h; exact h
          have c1 := fun W1 (h : Below wr.heap.size wr W1) => after_any c A len cap l A' n cap' ds (-1) K W1 hvc hm (by omega) (((rj.more (by omega)).below h).more h.size) (((rd.more (by omega)).below h).more h.size) hok hl1 hlt
          have hqk := fun h1 h2 => HQ.out K hlt hK3 ⟨h1, h2⟩
          have hqe := fun (h : K = E) => by have h2 := HQ2.out (by omega); rw [← h] at h2; exact h2
          clear hget hnb mp
          generalize nd1 (lc c) F K = ND at *
          have hkl : (K : Int) < n := by omega
          go_wp2
          by_cases hkE : K = E
          · subst hkE
            obtain ⟨hnd, hf⟩ := hqe rfl
            obtain ⟨hst, hwy⟩ := HE3.out hlt
            subst hst
            rw [hf] at c1
            have C1 := Lib.hid c1
            have HWY := Lib.hid hwy
            rw [show (ND : Int) = (number : Int) by omega] at hrun
            obtain ⟨i0, hi, hz0, hz1, hz2⟩ := info_parts info_int
            have hI0 := Lib.hid hi
            have hI1 := Lib.hid hz0
            have hI2 := Lib.hid hz1
            have hI3 := Lib.hid hz2
            clear hi hz0 hz1 hz2 c1 hqk hqe HQ HQ2 HE3 HE4 HA HFI rj rd hf hwy
            refine wp_region_lts N0 S (by kernel_rfl) ?_
            refine wpG_take (f := 17) (by kernel_rfl) ⟨⟨_, KeepS.of (Below.refl _ _).drew⟩, rfl⟩ [0, 1, 3, 4, 5, 6] _ _ (by kernel_rfl) ?_
            simp only [List.map_cons, List.map_nil, List.getElem?_toArray, List.getElem?_cons_succ, List.getElem?_cons_zero, Option.getD_some]
            repeat (go_big_quiet_step (fail))
            refine wpQuiet_nil ?_
            refine wpG_one (i := 2) (by kernel_rfl) rfl ?_
            refine wpO_yes (by kernel_rfl) ?_
            go_simp
            refine ⟨⟨⟨_, KeepS.of (Below.refl _ _).drew⟩, rfl⟩, ?_⟩
            refine wpG_take (f := 11) (by kernel_rfl) ⟨⟨_, KeepS.of (Below.refl _ _).drew⟩, rfl⟩ [7, 8, 9, 10, 11] _ _ (by kernel_rfl) ?_
            simp only [List.map_cons, List.map_nil, List.getElem?_toArray, List.getElem?_cons_succ, List.getElem?_cons_zero, Option.getD_some]
            repeat (go_big_quiet_step (fail))
            refine wpQuiet_nil ?_
            refine wpG_one (i := 12) (by kernel_rfl) rfl ?_
            refine wpO_yes (by kernel_rfl) ?_
            go_simp
            refine (C1.out _ ((Below.refl _ _).drew)).mono ?_
            rintro e W1 ⟨rfl, hb9⟩
            have hb8 : Below wr.heap.size wr W1 := (Below.refl _ _).drew.trans hb9
            clear hb9
            have hB : Below N0 wr W1 := hb8.mono c8
            replace hor := own_later hor hb8
            replace c8 : N0 ≤ W1.heap.size := Nat.le_trans c8 hb8.size
            clear hb8
            refine ⟨⟨⟨_, KeepS.of hB⟩, rfl⟩, ?_⟩
            go_simp
            refine wpG_take (f := 5) (by kernel_rfl) ⟨⟨_, KeepS.of hB⟩, rfl⟩ [13, 14, 15, 16, 17] _ _ (by kernel_rfl) ?_
            simp only [List.map_cons, List.map_nil, List.getElem?_toArray, List.getElem?_cons_succ, List.getElem?_cons_zero, Option.getD_some]
            repeat (go_big_quiet_step (fail))
            refine wpQuiet_nil ?_
            refine wpG_one (i := 18) (by kernel_rfl) rfl ?_
            refine wpO_yes (by kernel_rfl) ?_
            go_simp
            replace hB := hB.trans ((Below.refl _ W1).alloc c8 (.cells #[.int .i64 (K : Int)] 3))
            replace hor := hor.alloc (.cells #[.int .i64 (K : Int)] 3)
            refine ⟨⟨⟨_, KeepS.of hB⟩, rfl⟩, ?_⟩
            go_simp
            refine wpG_one (i := 19) (by kernel_rfl) rfl ?_
            refine wpO_yes (by kernel_rfl) ?_
            refine wp_append_own1 (.tmp 53) (.tmp 55) 25 rfl N0 3 i0 (.int .i64 0) 1 8 Try.underlying25 hI0.out hI1.out hI2.out hI3.out rfl (by decide) (.slice A1 0 cap1) 0 (icells []) (by simp [Act.eval, Act.put]) hor ⟨W1.heap.size, 0, none⟩ 1 1 (by omega) [.int .i64 (K : Int)] (by simp [Act.eval, Act.put]) rfl (news1 _ _ _) (one1 _) (by unfold maxLen; omega) (by omega) (by simp; omega) ?_
            intro g8 cap8 w8 hown8 hgrow8
            have hB8 : Below N0 wr w8 := hB.trans (grown_below hgrow8 (by simp; omega) (fun q hq => (hor.lt q hq).1))
            rw [icells_app'] at hown8
            clear hB hgrow8 hor
            refine ⟨⟨⟨_, KeepS.of hB8⟩, rfl⟩, ?_⟩
            go_simp
            refine wpG_one (i := 20) (by kernel_rfl) rfl ?_
            refine wpO_yes (by kernel_rfl) ?_
            go_simp
            refine (callsIn_wide.1 (HIH.out ([] ++ [(K : Int)]) (0 + 1) _ w8 true (hJ _ _ (hJ _ _ hj (HB.out.mono b8)) hB8) (HEr.out.keep (KeepS.of hB8)) hown8 (by omega) (by rw [lastA_app]; omega) (by rw [lastA_app]; omega) (.inl ⟨rfl, by rw [lastA_app, ← HF.out]; exact HWY.out⟩))).mono ?_
            rintro e W9 ⟨rfl, hK9, hF9, -⟩
            have hB9 : KeepS N0 S wr W9 := (KeepS.of hB8).trans hK9
            have HF9 := Lib.hid (hF9 rfl)
            have HB9 := Lib.hid ((KeepS.of (HB.out.mono b8)).trans hB9)
            clear hF9 hK9 hB8 hown8
            refine ⟨⟨⟨_, hB9⟩, rfl⟩, ?_⟩
            go_simp
            refine wpG_take (f := 0) (by kernel_rfl) ⟨⟨_, hB9⟩, rfl⟩ [21, 22] _ _ (by kernel_rfl) ?_
            simp only [List.map_cons, List.map_nil, List.getElem?_toArray, List.getElem?_cons_succ, List.getElem?_cons_zero, Option.getD_some]
            repeat (go_big_quiet_step (fail))
            refine wpQuiet_nil ?_
            refine wpG_done (by kernel_rfl) ?_
            clear hB9
            go_wp2
            go_ret
            exact ⟨rfl, HB9.out, HF9.out⟩
          · by_cases hnd : ND = r + 1
            · have hf : aftB c l ds (-1) K = false := by
                cases h : aftB c l ds (-1) K
                · rfl
                · exact absurd (hqk hnd h) hkE
              rw [hf] at c1
              have C1 := Lib.hid c1
              rw [show (ND : Int) = (number : Int) by omega] at hrun
              clear c1 hqk hqe HQ HQ2 HIH HF HA HFI rj rd hf
              refine wp_region_lts N0 S (by kernel_rfl) ?_
              refine wpG_take (f := 17) (by kernel_rfl) ⟨⟨_, KeepS.of (Below.refl _ _).drew⟩, rfl⟩ [0, 1, 3, 4, 5, 6] _ _ (by kernel_rfl) ?_
              simp only [List.map_cons, List.map_nil, List.getElem?_toArray, List.getElem?_cons_succ, List.getElem?_cons_zero, Option.getD_some]
              repeat (go_big_quiet_step (fail))
              refine wpQuiet_nil ?_
              refine wpG_one (i := 2) (by kernel_rfl) rfl ?_
              refine wpO_yes (by kernel_rfl) ?_
              go_simp
              refine ⟨⟨⟨_, KeepS.of (Below.refl _ _).drew⟩, rfl⟩, ?_⟩
              refine wpG_take (f := 11) (by kernel_rfl) ⟨⟨_, KeepS.of (Below.refl _ _).drew⟩, rfl⟩ [7, 8, 9, 10, 11] _ _ (by kernel_rfl) ?_
              simp only [List.map_cons, List.map_nil, List.getElem?_toArray, List.getElem?_cons_succ, List.getElem?_cons_zero, Option.getD_some]
              repeat (go_big_quiet_step (fail))
              refine wpQuiet_nil ?_
              refine wpG_one (i := 12) (by kernel_rfl) rfl ?_
              refine wpO_yes (by kernel_rfl) ?_
              go_simp
              refine (C1.out _ ((Below.refl _ _).drew)).mono ?_
              rintro e W1 ⟨rfl, hb9⟩
              have hb8 : Below wr.heap.size wr W1 := (Below.refl _ _).drew.trans hb9
              clear hb9
              have hB : KeepS N0 S wr W1 := KeepS.of (hb8.mono c8)
              have HB2 := Lib.hid (HB.out.trans (hb8.mono hwr))
              clear hb8
              refine ⟨⟨⟨_, hB⟩, rfl⟩, ?_⟩
              go_simp
              refine wpG_take (f := 5) (by kernel_rfl) ⟨⟨_, hB⟩, rfl⟩ [13, 14, 15, 16, 17] _ _ (by kernel_rfl) ?_
              simp only [List.map_cons, List.map_nil, List.getElem?_toArray, List.getElem?_cons_succ, List.getElem?_cons_zero, Option.getD_some]
              repeat (go_big_quiet_step (fail))
              refine wpQuiet_nil ?_
              refine wpG_one (i := 18) (by kernel_rfl) rfl ?_
              refine wpO_no (by kernel_rfl) ?_
              refine ⟨⟨⟨_, hB⟩, rfl⟩, ?_⟩
              go_simp
              refine wpG_one (i := 19) (by kernel_rfl) rfl ?_
              refine wpO_no (by kernel_rfl) ?_
              refine ⟨⟨⟨_, hB⟩, rfl⟩, ?_⟩
              go_simp
              refine wpG_one (i := 20) (by kernel_rfl) rfl ?_
              refine wpO_no (by kernel_rfl) ?_
              refine ⟨⟨⟨_, hB⟩, rfl⟩, ?_⟩
              go_simp
              refine wpG_take (f := 0) (by kernel_rfl) ⟨⟨_, hB⟩, rfl⟩ [21, 22] _ _ (by kernel_rfl) ?_
              simp only [List.map_cons, List.map_nil, List.getElem?_toArray, List.getElem?_cons_succ, List.getElem?_cons_zero, Option.getD_some]
              repeat (go_big_quiet_step (fail))
              refine wpQuiet_nil ?_
              refine wpG_done (by kernel_rfl) ?_
              go_wp2
              go_roundw
              case rel => exact ⟨K + 1, by omega, by omega, by omega, by go_num, HB2⟩
              case measure => first | (simp [intOf]; done) | (simp [intOf]; omega)
            · have hbq : ((ND : Int) == (number : Int)) = false := beq_eq_false_iff_ne.2 (by omega)
              clear c1 hqk hqe HQ HQ2 HIH HF HA HFI rj rd
              have HB2 := Lib.hid (HB.out.trans ((Below.refl _ _).drew ))
              refine wp_region_lts N0 S (by kernel_rfl) ?_
              refine wpG_take (f := 17) (by kernel_rfl) ⟨⟨_, KeepS.of (Below.refl _ _).drew⟩, rfl⟩ [0, 1, 3, 4, 5, 6] _ _ (by kernel_rfl) ?_
              simp only [List.map_cons, List.map_nil, List.getElem?_toArray, List.getElem?_cons_succ, List.getElem?_cons_zero, Option.getD_some]
              repeat (go_big_quiet_step (fail))
              refine wpQuiet_nil ?_
              refine wpG_one (i := 2) (by kernel_rfl) rfl ?_
              refine wpO_yes (by kernel_rfl) ?_
              go_simp
              refine ⟨⟨⟨_, KeepS.of (Below.refl _ _).drew⟩, rfl⟩, ?_⟩
              refine wpG_take (f := 11) (by kernel_rfl) ⟨⟨_, KeepS.of (Below.refl _ _).drew⟩, rfl⟩ [7, 8, 9, 10, 11] _ _ (by kernel_rfl) ?_
              simp only [List.map_cons, List.map_nil, List.getElem?_toArray, List.getElem?_cons_succ, List.getElem?_cons_zero, Option.getD_some]
              repeat (go_big_quiet_step (fail))
              refine wpQuiet_nil ?_
              refine wpG_one (i := 12) (by kernel_rfl) rfl ?_
              refine wpO_no (by kernel_rfl) ?_
              refine ⟨⟨⟨_, KeepS.of (Below.refl _ _).drew⟩, rfl⟩, ?_⟩
              go_simp
              refine wpG_take (f := 5) (by kernel_rfl) ⟨⟨_, KeepS.of (Below.refl _ _).drew⟩, rfl⟩ [13, 14, 15, 16, 17] _ _ (by kernel_rfl) ?_
              simp only [List.map_cons, List.map_nil, List.getElem?_toArray, List.getElem?_cons_succ, List.getElem?_cons_zero, Option.getD_some]
              repeat (go_big_quiet_step (fail))
              refine wpQuiet_nil ?_
              refine wpG_one (i := 18) (by kernel_rfl) rfl ?_
              refine wpO_no (by kernel_rfl) ?_
              refine ⟨⟨⟨_, KeepS.of (Below.refl _ _).drew⟩, rfl⟩, ?_⟩
              go_simp
              refine wpG_one (i := 19) (by kernel_rfl) rfl ?_
              refine wpO_no (by kernel_rfl) ?_
              refine ⟨⟨⟨_, KeepS.of (Below.refl _ _).drew⟩, rfl⟩, ?_⟩
              go_simp
              refine wpG_one (i := 20) (by kernel_rfl) rfl ?_
              refine wpO_no (by kernel_rfl) ?_
              refine ⟨⟨⟨_, KeepS.of (Below.refl _ _).drew⟩, rfl⟩, ?_⟩
              go_simp
              refine wpG_take (f := 0) (by kernel_rfl) ⟨⟨_, KeepS.of (Below.refl _ _).drew⟩, rfl⟩ [21, 22] _ _ (by kernel_rfl) ?_
              simp only [List.map_cons, List.map_nil, List.getElem?_toArray, List.getElem?_cons_succ, List.getElem?_cons_zero, Option.getD_some]
              repeat (go_big_quiet_step (fail))
              refine wpQuiet_nil ?_
              refine wpG_done (by kernel_rfl) ?_
              go_wp2
              go_roundw
              case rel => exact ⟨K + 1, by omega, by omega, by omega, by go_num, HB2⟩
              case measure => first | (simp [intOf]; done) | (simp [intOf]; omega)
        · have hkE : K = E := by omega
          have hKn : K = n := by omega
          have hk9 : ¬ (K : Int) < n := by omega
          have hst := HE4.out (by omega)
          clear HEr hor cn cy cr cm mp rj rd
          go_wp2
          go_ret
          exact ⟨rfl, KeepS.of (HB.out.mono b8), HB.out.mono b8⟩
    · obtain ⟨g, hge, hgl, hgc⟩ := hlastc (by omega)
      subst hge
      have hk1 : decide ((k : Int) > 0) = true := decide_eq_true (by omega)
      have hk2 : decide (0 < k) = true := decide_eq_true (by omega)
      have hk3 : decide (0 < (k : Int)) = true := decide_eq_true (by omega)
      have hk4 : ((k - 1 : Nat) : Int) = (k : Int) - 1 := by omega
      go_wp2
      clear cn cy cw cr cm
      go_loopw [10] (fun x wr => ∃ K : Nat, a < K ∧ K ≤ n ∧ K ≤ E ∧ x = .int .i64 (K : Int) ∧ Hid (Below W.heap.size W wr)) (fun x _ => n - (intOf x).toNat)
      case atStart => exact ⟨(a + 1).toNat, by omega, by omega, by omega, by go_num, Lib.hid (Below.refl _ _)⟩
      case round =>
        obtain ⟨K, hK1, hK2, hK3, rfl, HB⟩ := hrel
        have HEr := Lib.hid (HEK.out.keep (KeepS.of (HB.out.mono b8)))
        have hor := own_later HO.out HB.out
        have hwr := HB.out.size
        obtain ⟨⟨-, -, c8⟩, -, cn, cy, ⟨⟨q0, q1, q2, q3, q4, q5⟩, q6, q7⟩, cr, cm, mp, rj, rd⟩ := id HEr.out
        by_cases hlt : K < n
        · have hget : (rsM (lc c) F 0 (K : Int)).getD 0 = (nd1 (lc c) F K : Int) := rsM_get (Nat.zero_le _) (by omega)
          have hnb := nd1_bd (lc c) F K
          have hrun : (Instr.lookup 59 (.map (some mb)) (.int .i64 (K : Int)) false).run Try.prog wr.drew = .ok (.int .i64 (nd1 (lc c) F K : Int)) wr.drew := by
            have h := (mp.block (w' := wr.drew) rfl).run_int lawI Try.underlying59 Try.underlying3 (zeroI _) (K : Int) (keyOf_int_mk Try.underlying3 (WalkArith.wf_i64 (by omega)))
            rw [← HF.out, hget] at h; exact h
          have c1 := fun W1 (h : Below wr.heap.size wr W1) => after_any c A len cap l A' n cap' ds a K W1 hvc hm (by omega) (((rj.more (by omega)).below h).more h.size) (((rd.more (by omega)).below h).more h.size) hok hl1 hlt
          have hqk := fun h1 h2 => HQ.out K hlt hK3 ⟨h1, h2⟩
          have hqe := fun (h : K = E) => by have h2 := HQ2.out (by omega); rw [← h] at h2; exact h2
          clear hget hnb mp
          generalize nd1 (lc c) F K = ND at *
          have hkl : (K : Int) < n := by omega
          go_wp2
          by_cases hkE : K = E
          · subst hkE
            obtain ⟨hnd, hf⟩ := hqe rfl
            obtain ⟨hst, hwy⟩ := HE3.out hlt
            subst hst
            rw [hf] at c1
            have C1 := Lib.hid c1
            have HWY := Lib.hid hwy
            rw [show (ND : Int) = (number : Int) - (k : Int) by omega] at hrun
            obtain ⟨i0, hi, hz0, hz1, hz2⟩ := info_parts info_int
            have hI0 := Lib.hid hi
            have hI1 := Lib.hid hz0
            have hI2 := Lib.hid hz1
            have hI3 := Lib.hid hz2
            clear hi hz0 hz1 hz2 c1 hqk hqe HQ HQ2 HE3 HE4 HA HFI rj rd hf hwy
            refine wp_region_lts N0 S (by kernel_rfl) ?_
            refine wpG_take (f := 17) (by kernel_rfl) ⟨⟨_, KeepS.of (Below.refl _ _).drew⟩, rfl⟩ [0, 1, 3, 4, 5, 6] _ _ (by kernel_rfl) ?_
            simp only [List.map_cons, List.map_nil, List.getElem?_toArray, List.getElem?_cons_succ, List.getElem?_cons_zero, Option.getD_some]
            repeat (go_big_quiet_step (fail))
            refine wpQuiet_nil ?_
            refine wpG_one (i := 2) (by kernel_rfl) rfl ?_
            refine wpO_yes (by kernel_rfl) ?_
            go_simp
            refine ⟨⟨⟨_, KeepS.of (Below.refl _ _).drew⟩, rfl⟩, ?_⟩
            refine wpG_take (f := 11) (by kernel_rfl) ⟨⟨_, KeepS.of (Below.refl _ _).drew⟩, rfl⟩ [7, 8, 9, 10, 11] _ _ (by kernel_rfl) ?_
            simp only [List.map_cons, List.map_nil, List.getElem?_toArray, List.getElem?_cons_succ, List.getElem?_cons_zero, Option.getD_some]
            repeat (go_big_quiet_step (fail))
            refine wpQuiet_nil ?_
            refine wpG_one (i := 12) (by kernel_rfl) rfl ?_
            refine wpO_yes (by kernel_rfl) ?_
            go_simp
            refine (C1.out _ ((Below.refl _ _).drew)).mono ?_
            rintro e W1 ⟨rfl, hb9⟩
            have hb8 : Below wr.heap.size wr W1 := (Below.refl _ _).drew.trans hb9
            clear hb9
            have hB : Below N0 wr W1 := hb8.mono c8
            replace hor := own_later hor hb8
            replace c8 : N0 ≤ W1.heap.size := Nat.le_trans c8 hb8.size
            clear hb8
            refine ⟨⟨⟨_, KeepS.of hB⟩, rfl⟩, ?_⟩
            go_simp
            refine wpG_take (f := 5) (by kernel_rfl) ⟨⟨_, KeepS.of hB⟩, rfl⟩ [13, 14, 15, 16, 17] _ _ (by kernel_rfl) ?_
            simp only [List.map_cons, List.map_nil, List.getElem?_toArray, List.getElem?_cons_succ, List.getElem?_cons_zero, Option.getD_some]
            repeat (go_big_quiet_step (fail))
            refine wpQuiet_nil ?_
            refine wpG_one (i := 18) (by kernel_rfl) rfl ?_
            refine wpO_yes (by kernel_rfl) ?_
            go_simp
            replace hB := hB.trans ((Below.refl _ W1).alloc c8 (.cells #[.int .i64 (K : Int)] 3))
            replace hor := hor.alloc (.cells #[.int .i64 (K : Int)] 3)
            refine ⟨⟨⟨_, KeepS.of hB⟩, rfl⟩, ?_⟩
            go_simp
            refine wpG_one (i := 19) (by kernel_rfl) rfl ?_
            refine wpO_yes (by kernel_rfl) ?_
            refine wp_append_own1 (.tmp 53) (.tmp 55) 25 rfl N0 3 i0 (.int .i64 0) 1 8 Try.underlying25 hI0.out hI1.out hI2.out hI3.out rfl (by decide) (.slice (some ⟨g, 0, none⟩) k cap1) k (icells out) (by simp [Act.eval, Act.put]) hor ⟨W1.heap.size, 0, none⟩ 1 1 (by omega) [.int .i64 (K : Int)] (by simp [Act.eval, Act.put]) rfl (news1 _ _ _) (one1 _) (by unfold maxLen; omega) (by omega) (by simp; omega) ?_
            intro g8 cap8 w8 hown8 hgrow8
            have hB8 : Below N0 wr w8 := hB.trans (grown_below hgrow8 (by simp; omega) (fun q hq => (hor.lt q hq).1))
            rw [icells_app'] at hown8
            clear hB hgrow8 hor
            refine ⟨⟨⟨_, KeepS.of hB8⟩, rfl⟩, ?_⟩
            go_simp
            refine wpG_one (i := 20) (by kernel_rfl) rfl ?_
            refine wpO_yes (by kernel_rfl) ?_
            go_simp
            refine (callsIn_wide.1 (HIH.out (out ++ [(K : Int)]) (k + 1) _ w8 true (hJ _ _ (hJ _ _ hj (HB.out.mono b8)) hB8) (HEr.out.keep (KeepS.of hB8)) hown8 (by omega) (by rw [lastA_app]; omega) (by rw [lastA_app]; omega) (.inl ⟨rfl, by rw [lastA_app, ← HF.out]; exact HWY.out⟩))).mono ?_
            rintro e W9 ⟨rfl, hK9, hF9, -⟩
            have hB9 : KeepS N0 S wr W9 := (KeepS.of hB8).trans hK9
            have HF9 := Lib.hid (hF9 rfl)
            have HB9 := Lib.hid ((KeepS.of (HB.out.mono b8)).trans hB9)
            clear hF9 hK9 hB8 hown8
            refine ⟨⟨⟨_, hB9⟩, rfl⟩, ?_⟩
            go_simp
            refine wpG_take (f := 0) (by kernel_rfl) ⟨⟨_, hB9⟩, rfl⟩ [21, 22] _ _ (by kernel_rfl) ?_
            simp only [List.map_cons, List.map_nil, List.getElem?_toArray, List.getElem?_cons_succ, List.getElem?_cons_zero, Option.getD_some]
            repeat (go_big_quiet_step (fail))
            refine wpQuiet_nil ?_
            refine wpG_done (by kernel_rfl) ?_
            clear hB9
            go_wp2
            go_ret
            exact ⟨rfl, HB9.out, HF9.out⟩
          · by_cases hnd : ND = r + 1
            · have hf : aftB c l ds a K = false := by
                cases h : aftB c l ds a K
                · rfl
                · exact absurd (hqk hnd h) hkE
              rw [hf] at c1
              have C1 := Lib.hid c1
              rw [show (ND : Int) = (number : Int) - (k : Int) by omega] at hrun
              clear c1 hqk hqe HQ HQ2 HIH HF HA HFI rj rd hf
              refine wp_region_lts N0 S (by kernel_rfl) ?_
              refine wpG_take (f := 17) (by kernel_rfl) ⟨⟨_, KeepS.of (Below.refl _ _).drew⟩, rfl⟩ [0, 1, 3, 4, 5, 6] _ _ (by kernel_rfl) ?_
              simp only [List.map_cons, List.map_nil, List.getElem?_toArray, List.getElem?_cons_succ, List.getElem?_cons_zero, Option.getD_some]
              repeat (go_big_quiet_step (fail))
              refine wpQuiet_nil ?_
              refine wpG_one (i := 2) (by kernel_rfl) rfl ?_
              refine wpO_yes (by kernel_rfl) ?_
              go_simp
              refine ⟨⟨⟨_, KeepS.of (Below.refl _ _).drew⟩, rfl⟩, ?_⟩
              refine wpG_take (f := 11) (by kernel_rfl) ⟨⟨_, KeepS.of (Below.refl _ _).drew⟩, rfl⟩ [7, 8, 9, 10, 11] _ _ (by kernel_rfl) ?_
              simp only [List.map_cons, List.map_nil, List.getElem?_toArray, List.getElem?_cons_succ, List.getElem?_cons_zero, Option.getD_some]
              repeat (go_big_quiet_step (fail))
              refine wpQuiet_nil ?_
              refine wpG_one (i := 12) (by kernel_rfl) rfl ?_
              refine wpO_yes (by kernel_rfl) ?_
              go_simp
              refine (C1.out _ ((Below.refl _ _).drew)).mono ?_
              rintro e W1 ⟨rfl, hb9⟩
              have hb8 : Below wr.heap.size wr W1 := (Below.refl _ _).drew.trans hb9
              clear hb9
              have hB : KeepS N0 S wr W1 := KeepS.of (hb8.mono c8)
              have HB2 := Lib.hid (HB.out.trans (hb8.mono hwr))
              clear hb8
              refine ⟨⟨⟨_, hB⟩, rfl⟩, ?_⟩
              go_simp
              refine wpG_take (f := 5) (by kernel_rfl) ⟨⟨_, hB⟩, rfl⟩ [13, 14, 15, 16, 17] _ _ (by kernel_rfl) ?_
              simp only [List.map_cons, List.map_nil, List.getElem?_toArray, List.getElem?_cons_succ, List.getElem?_cons_zero, Option.getD_some]
              repeat (go_big_quiet_step (fail))
              refine wpQuiet_nil ?_
              refine wpG_one (i := 18) (by kernel_rfl) rfl ?_
              refine wpO_no (by kernel_rfl) ?_
              refine ⟨⟨⟨_, hB⟩, rfl⟩, ?_⟩
              go_simp
              refine wpG_one (i := 19) (by kernel_rfl) rfl ?_
              refine wpO_no (by kernel_rfl) ?_
              refine ⟨⟨⟨_, hB⟩, rfl⟩, ?_⟩
              go_simp
              refine wpG_one (i := 20) (by kernel_rfl) rfl ?_
              refine wpO_no (by kernel_rfl) ?_
              refine ⟨⟨⟨_, hB⟩, rfl⟩, ?_⟩
              go_simp
              refine wpG_take (f := 0) (by kernel_rfl) ⟨⟨_, hB⟩, rfl⟩ [21, 22] _ _ (by kernel_rfl) ?_
              simp only [List.map_cons, List.map_nil, List.getElem?_toArray, List.getElem?_cons_succ, List.getElem?_cons_zero, Option.getD_some]
              repeat (go_big_quiet_step (fail))
              refine wpQuiet_nil ?_
              refine wpG_done (by kernel_rfl) ?_
              go_wp2
              go_roundw
              case rel => exact ⟨K + 1, by omega, by omega, by omega, by go_num, HB2⟩
              case measure => first | (simp [intOf]; done) | (simp [intOf]; omega)
            · have hbq : ((ND : Int) == (number : Int) - (k : Int)) = false := beq_eq_false_iff_ne.2 (by omega)
              clear c1 hqk hqe HQ HQ2 HIH HF HA HFI rj rd
              have HB2 := Lib.hid (HB.out.trans ((Below.refl _ _).drew ))
              refine wp_region_lts N0 S (by kernel_rfl) ?_
              refine wpG_take (f := 17) (by kernel_rfl) ⟨⟨_, KeepS.of (Below.refl _ _).drew⟩, rfl⟩ [0, 1, 3, 4, 5, 6] _ _ (by kernel_rfl) ?_
              simp only [List.map_cons, List.map_nil, List.getElem?_toArray, List.getElem?_cons_succ, List.getElem?_cons_zero, Option.getD_some]
              repeat (go_big_quiet_step (fail))
              refine wpQuiet_nil ?_
              refine wpG_one (i := 2) (by kernel_rfl) rfl ?_
              refine wpO_yes (by kernel_rfl) ?_
              go_simp
              refine ⟨⟨⟨_, KeepS.of (Below.refl _ _).drew⟩, rfl⟩, ?_⟩
              refine wpG_take (f := 11) (by kernel_rfl) ⟨⟨_, KeepS.of (Below.refl _ _).drew⟩, rfl⟩ [7, 8, 9, 10, 11] _ _ (by kernel_rfl) ?_
              simp only [List.map_cons, List.map_nil, List.getElem?_toArray, List.getElem?_cons_succ, List.getElem?_cons_zero, Option.getD_some]
              repeat (go_big_quiet_step (fail))
              refine wpQuiet_nil ?_
              refine wpG_one (i := 12) (by kernel_rfl) rfl ?_
              refine wpO_no (by kernel_rfl) ?_
              refine ⟨⟨⟨_, KeepS.of (Below.refl _ _).drew⟩, rfl⟩, ?_⟩
              go_simp
              refine wpG_take (f := 5) (by kernel_rfl) ⟨⟨_, KeepS.of (Below.refl _ _).drew⟩, rfl⟩ [13, 14, 15, 16, 17] _ _ (by kernel_rfl) ?_
              simp only [List.map_cons, List.map_nil, List.getElem?_toArray, List.getElem?_cons_succ, List.getElem?_cons_zero, Option.getD_some]
              repeat (go_big_quiet_step (fail))
              refine wpQuiet_nil ?_
              refine wpG_one (i := 18) (by kernel_rfl) rfl ?_
              refine wpO_no (by kernel_rfl) ?_
              refine ⟨⟨⟨_, KeepS.of (Below.refl _ _).drew⟩, rfl⟩, ?_⟩
              go_simp
              refine wpG_one (i := 19) (by kernel_rfl) rfl ?_
              refine wpO_no (by kernel_rfl) ?_
              refine ⟨⟨⟨_, KeepS.of (Below.refl _ _).drew⟩, rfl⟩, ?_⟩
              go_simp
              refine wpG_one (i := 20) (by kernel_rfl) rfl ?_
              refine wpO_no (by kernel_rfl) ?_
              refine ⟨⟨⟨_, KeepS.of (Below.refl _ _).drew⟩, rfl⟩, ?_⟩
              go_simp
              refine wpG_take (f := 0) (by kernel_rfl) ⟨⟨_, KeepS.of (Below.refl _ _).drew⟩, rfl⟩ [21, 22] _ _ (by kernel_rfl) ?_
              simp only [List.map_cons, List.map_nil, List.getElem?_toArray, List.getElem?_cons_succ, List.getElem?_cons_zero, Option.getD_some]
              repeat (go_big_quiet_step (fail))
              refine wpQuiet_nil ?_
              refine wpG_done (by kernel_rfl) ?_
              go_wp2
              go_roundw
              case rel => exact ⟨K + 1, by omega, by omega, by omega, by go_num, HB2⟩
              case measure => first | (simp [intOf]; done) | (simp [intOf]; omega)
        · have hkE : K = E := by omega
          have hKn : K = n := by omega
          have hk9 : ¬ (K : Int) < n := by omega
          have hst := HE4.out (by omega)
          clear HEr hor cn cy cr cm mp rj rd
          go_wp2
          go_ret
          exact ⟨rfl, KeepS.of (HB.out.mono b8), HB.out.mono b8⟩
end Go.Proofs.Ytgapnhpmgidmhaa
