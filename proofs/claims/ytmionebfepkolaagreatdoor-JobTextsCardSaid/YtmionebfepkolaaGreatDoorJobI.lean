/- Plans: the iterator of the tasks that are ready. -/
import Derived.Test.YtmionebfepkolaaGreatDoorJobF
import Derived.RangeFuncNested
import Derived.RangeFuncBound
import Derived.RangeFuncCalls
import Derived.RangeFuncLeaves
import Derived.RangeFuncFrom
import Derived.Shelf.Abstract
import Derived.OwnWalkIn
import Derived.TacticsInMore
import Derived.LoopNIn
import Derived.LoopIn
set_option linter.unusedSimpArgs false
set_option linter.unusedVariables false
namespace Go.Proofs.YtmionebfepkolaaGreatDoor
open Go.RowKit Go.Shelf Go.Maps
attribute [local go_sem] Oper.semAt_some

theorem jgrown {W w1 : World} (h : Below W.heap.size W w1) : W.grownBy w1 none := ⟨h.os, h.tape, h.output, h.size, fun k hk _ => h.block k hk⟩
/-- Each block ahead of n but x lies as it lay. -/
def KeepE (n x : Nat) (A B : World) : Prop := A.heap.size ≤ B.heap.size ∧ ∀ k, k < n → k ≠ x → B.heap[k]? = A.heap[k]?
theorem KeepE.t {n x : Nat} {A B C : World} (h : KeepE n x A B) (k : KeepE n x B C) : KeepE n x A C := ⟨Nat.le_trans h.1 k.1, fun j h1 h2 => (k.2 j h1 h2).trans (h.2 j h1 h2)⟩
theorem KeepE.b {n x : Nat} {w : World} (hn : n ≤ w.heap.size) (W : World) (l : Nat) (o o' : Obj) (hl : w.heap.size ≤ l) (h : W.heap[l]? = some o) (h1 : o.isCells = false) (h2 : o.isWalk = false) : KeepE n x W (W.putObj l o') :=
  ⟨by have := (belowK_b (n₀ := 0) (w := w) (Nat.zero_le _) W l o o' hl h h1 h2).size; exact this, fun k hk _ => World.putObj_heap_other (by omega)⟩
theorem KeepE.refl (n x : Nat) (A : World) : KeepE n x A A := ⟨Nat.le_refl _, fun _ _ _ => rfl⟩
theorem KeepE.of_below {n x : Nat} {A B : World} (h : Below A.heap.size A B) (hn : n ≤ A.heap.size) : KeepE n x A B := ⟨h.size, fun k hk _ => h.block k (by omega)⟩
theorem KeepE.cell {n x : Nat} {A B : World} (h : KeepE n x A B) {b o : Nat} {v : Value} (hb : b < n) (hx : b ≠ x) (hc : A.cell? ⟨b, o, none⟩ = some v) : B.cell? ⟨b, o, none⟩ = some v := (World.cell?_of_block (a := ⟨b, o, none⟩) (h.2 b hb hx)).trans hc
section
variable {κ ε : Type} {P : Program} {k e : TypeId} {kl : κ → Lit} {el : ε → Lit} {z : ε} {w : World} {b n : Nat} {M : κ → Option ε}
theorem MapV.inblock {w' : World} (h : MapV P k e kl el z w b n M) (hb : w'.heap[b]? = w.heap[b]?) : MapV P k e kl el z w' b n M := by
  obtain ⟨D, h1, h2⟩ := h
  obtain ⟨es, clock, he, h3⟩ := h1
  exact ⟨D, ⟨es, clock, hb.trans he, h3⟩, h2⟩
end
theorem Strs.keep {w w' : World} {B : Nat} {A : Option Addr} {n : Nat} {ss : List ByteArray} (h : Strs w B A n ss) (hb : ∀ k, k < B → w'.heap[k]? = w.heap[k]?) : Strs w' B A n ss := by
  refine ⟨h.1, fun h0 => ?_⟩
  obtain ⟨b, off, h1, h2, h3⟩ := h.2 h0
  refine ⟨b, off, h1, h2, fun k hk j v hv => ?_⟩
  exact (World.cell?_of_block (a := ⟨b, _, none⟩) (hb b h2)).trans (h3 k hk j v hv)
theorem Plan.keep {w w' : World} {B : Nat} {A : Option Addr} {len : Nat} {l : List Tk} (h : Plan w B A len l) (hb : ∀ k, k < B → w'.heap[k]? = w.heap[k]?) : Plan w' B A len l := by
  refine ⟨h.1, fun h0 => ?_⟩
  obtain ⟨b, off, h1, h2, h3⟩ := h.2 h0
  refine ⟨b, off, h1, h2, fun k hk => ?_⟩
  obtain ⟨c1, c2, c3, A', n, c, c4, c5, c6, c7⟩ := h3 k hk
  have hc := fun o v (hv : w.cell? ⟨b, o, none⟩ = some v) => (World.cell?_of_block (a := ⟨b, o, none⟩) (hb b h2)).trans hv
  exact ⟨hc _ _ c1, hc _ _ c2, hc _ _ c3, A', n, c, hc _ _ c4, c5, c6, c7.keep hb⟩
/-- The tasks ahead of k that are ready. -/
def rdN (l : List Tk) (M : ByteArray → Option Bool) (k : Nat) : List Nat := (List.range k).filter (rdyM l M)
theorem rdN_yes {l : List Tk} {M : ByteArray → Option Bool} {k : Nat} (h : rdyM l M k = true) : rdN l M (k + 1) = rdN l M k ++ [k] := by
  unfold rdN; rw [List.range_succ, List.filter_append]; simp [h]
theorem rdN_no {l : List Tk} {M : ByteArray → Option Bool} {k : Nat} (h : rdyM l M k = false) : rdN l M (k + 1) = rdN l M k := by
  unfold rdN; rw [List.range_succ, List.filter_append]; simp [h]
theorem rdN_len (l : List Tk) (M : ByteArray → Option Bool) (k : Nat) : (rdN l M k).length ≤ k := by
  unfold rdN; exact Nat.le_trans (List.length_filter_le ..) (by rw [List.length_range]; exact Nat.le_refl _)
theorem rdyM_any (l : List Tk) (M : ByteArray → Option Bool) (k : Nat) : rdyM l M k = (!((M (tkA l k).nm).getD false) && !((tkA l k).af.any fun s => !(M s).getD false)) := by
  unfold rdyM
  congr 1
  rw [List.all_eq_not_any_not]
def encT (m x : Nat) : Array Value := #[.int .i64 ((x % m : Nat) : Int)]
theorem encT_eq {m x : Nat} (h : x < m) : encT m x = #[.int .i64 (x : Int)] := by unfold encT; rw [Nat.mod_eq_of_lt h]

set_option maxRecDepth 100000 in
set_option maxHeartbeats 4000000 in
theorem ready1_in (n : Nat) (hn : 1 ≤ n) (y Bl Bt mb mn n0 nB x : Nat) (A : Option Addr) (len cap : Nat) (l : List Tk) (M : ByteArray → Option Bool) (hS : Sml l) (J Jx : List Nat → World → Prop)
    (W : World) (hJ : AbidesFrom W.heap.size J) (hb : (Bl < nB ∧ Bl ≠ x) ∧ (Bt < nB ∧ Bt ≠ x) ∧ (mb < nB ∧ mb ≠ x) ∧ n0 ≤ x ∧ n0 ≤ nB ∧ nB ≤ W.heap.size)
    (hY : ∀ pre x' W, J pre W → pre.length < len → YieldAt Fence.wide (n - 1) Tryz.prog y (encT len x') W fun e W' =>
      (e = .returned (.bool true) ∧ J (pre ++ [x']) W' ∧ KeepE nB x W W') ∨ (e = .returned (.bool false) ∧ Jx (pre ++ [x']) W'))
    (hcl : W.cell? ⟨Bl, 0, none⟩ = some (.slice A len cap)) (hct : W.cell? ⟨Bt, 0, none⟩ = some (.map (some mb))) (hM : MapS W mb mn M) (hX : Plan W n0 A len l) (h0 : J [] W) :
    CallsIn Fence.wide n Tryz.prog 72 #[.func (.yield y) #[] #[], .pointer (some ⟨Bl, 0, none⟩), .pointer (some ⟨Bt, 0, none⟩)] W fun e W' => (∃ v, e = .returned v) ∧
      ((∃ ys, ys = rdN l M len ∧ J ys W') ∨ (∃ pre, (∃ j, j < len ∧ rdyM l M j = true ∧ pre = rdN l M j ++ [j]) ∧ Jx pre W')) := by
  obtain rfl : l.length = len := hX.1
  obtain ⟨⟨hl1, hl2⟩, ⟨ht1, ht2⟩, ⟨hm1, hm2⟩, hn0x, hn0, hnB⟩ := hb
  have hlen := hS.len
  have hnn := Lib.hid hS.nm
  have haa := Lib.hid hS.an
  have HJ := Lib.hid hJ
  have HY := Lib.hid hY
  have HX := Lib.hid hX
  have HM := Lib.hid hM
  have HRL := Lib.hid (rdN_len l M)
  have hmf : ∀ (fn : Fn) (first cap : Array Value) (w : World), (Instr.makeFunc fn first cap).run Tryz.prog w = .ok (.func fn first cap) w := fun _ _ _ _ => rfl
  clear hJ hY hX hM
  refine callsIn_of_wp Tryz.func72 rfl trivial ?_ rfl
  simp only [Tryz.ntmps72, List.size_toArray, List.length_cons, List.length_nil, Nat.reduceAdd, Nat.reduceSub, Array.replicate_succ, Array.replicate_zero, List.push_toArray, List.append_toArray, List.nil_append, List.cons_append]
  gi_wp2
  gi_loopw [9] (fun i wr => ∃ k : Nat, k ≤ l.length ∧ i = .int .i64 k ∧ J (rdN l M k) wr ∧ KeepE nB x W wr) (fun i _ => l.length - (intOf i).toNat)
  case atStart => exact ⟨0, Nat.zero_le _, rfl, h0, KeepE.refl _ _ _⟩
  case round =>
    obtain ⟨k, hk, rfl, hJs, hke⟩ := hrel
    have hsz := hke.1
    have hct1 := hke.cell ht1 ht2 hct
    have hXr := HX.out.keep (w' := wr) (fun j hj => hke.2 j (by omega) (by omega))
    have hMr := HM.out.inblock (hke.2 mb hm1 hm2)
    by_cases hlt : k < l.length
    · obtain ⟨b, off, rfl, hb0, hc1, hc2, hc3, A', q, cc, hc4, hq1, hq2, hSt⟩ := hXr.at_ k hlt
      have hb1 : b < wr.heap.size := by omega
      have hk1 : (k : Int) < l.length := by omega
      have hk2 : ¬ l.length ≤ k := by omega
      have HSZ := Lib.hid (hnn.out k hlt)
      have HAZ := Lib.hid (haa.out k hlt)
      have hrd := rdyM_any l M k
      have HYS := Lib.hid (rdN_yes (l := l) (M := M) (k := k))
      have HNO := Lib.hid (rdN_no (l := l) (M := M) (k := k))
      have hrl := HRL.out k
      generalize hrm : rdyM l M k = r at *
      have HRM := Lib.hid hrm
      clear hrm
      generalize (tkA l k).nm = X at *
      generalize (tkA l k).dy = Y at *
      generalize (tkA l k).mn = Z at *
      generalize (tkA l k).af = ss at *
      obtain ⟨W1, hW1⟩ : ∃ W1, W1 = wr.alloc (.cells #[.string X, .int .i64 Y, .int .i64 Z, .slice A' q cc] 34) := ⟨_, rfl⟩
      have hBW : Below wr.heap.size wr W1 := by rw [hW1]; exact (Below.refl _ _).alloc (Nat.le_refl _) _
      have hct2 : W1.cell? ⟨Bt, 0, none⟩ = some (.map (some mb)) := (hBW.cell (p := ⟨Bt, 0, none⟩) (by simp; omega)).trans hct1
      have hM1 : MapS W1 mb mn M := hMr.below hBW
      have hSt1 : Strs W1 W1.heap.size A' q ss := (hSt.below (hBW.mono (by omega))).more (by have := hBW.size; omega)
      have hlk := MapV.run_bool (t := 74) hM1 lawS Tryz.underlying74 underBo (zeroBo _) X (keyS HSZ.out)
      have c1 := ContReady_any Bt (fun s => !(M s).getD false) A' q cc ss W1 (by omega) hSt1 (fun s hs W hb => ready11_any s Bt mb mn M W (HAZ.out s hs) ((hb.cell (p := ⟨Bt, 0, none⟩) (by have := hBW.size; show Bt < _; omega)).trans hct2) (hM1.below hb))
      have hJ1 := HJ.out _ _ _ none hJs (jgrown hBW) (fun r e => by cases e)
      have hk3 : KeepE nB x W W1 := hke.t (KeepE.of_below hBW (by omega))
      have HK3 := Lib.hid hk3
      have HJ1 := Lib.hid hJ1
      have C1 := Lib.hid c1
      rw [hW1] at hlk hct2
      rw [hW1] at C1
      clear hSt hSt1 hM1 hMr c1 hXr hJ1 hk3 hJs HJ
      generalize hmx : (M X).getD false = mx at *
      generalize hal : (ss.any fun s => !(M s).getD false) = al at *
      have HRD := Lib.hid hrd
      have hsW := hBW.size
      clear hrd hmx hal hke hct1
      cases mx
      · cases al
        · have hr : Hid (r = true) := Lib.hid (by rw [HRD.out]; rfl)
          have HF := Lib.hid (HYS.out hr.out)
          obtain ⟨fn, tmps, assign, body, hy, hR⟩ := HY.out _ k _ HJ1.out (by omega)
          rw [encT_eq hlt] at hy
          rw [hW1] at hy
          have HR := Lib.hid hR
          clear hR HYS HNO HRD
          rw [hW1] at HR HJ1 HK3
          clear hBW
          subst hW1
          gi_wp2_with (refine ⟨trivial, ?_⟩; gi_at_call 73; refine (callsIn_wide.2 C1.out).mono ?_; rintro e w' ⟨rfl, rfl⟩)
          refine HR.out.mono ?_
          rintro e W3 (⟨rfl, hJ3, hk3⟩ | ⟨rfl, hJx3⟩)
          · have HJ3 := Lib.hid hJ3
            have hK4 := HK3.out.t hk3
            clear hJ3 hk3
            gi_wp2
            go_roundw
            case rel => exact ⟨k + 1, by omega, by go_num, by rw [HF.out]; exact HJ3.out, hK4⟩
            case measure => simp [intOf]; omega
          · gi_wp2
            refine bodyPost_ret (results_none rfl _ _ _) rfl ?_
            exact ⟨⟨_, rfl⟩, .inr ⟨_, ⟨k, hlt, by rw [HRM.out]; exact hr.out, rfl⟩, hJx3⟩⟩
        · have hr : Hid (r = false) := Lib.hid (by rw [HRD.out]; rfl)
          have HF := Lib.hid (HNO.out hr.out)
          rw [hW1] at HJ1 HK3
          clear HYS HNO HRD hBW
          subst hW1
          gi_wp2_with (refine ⟨trivial, ?_⟩; gi_at_call 73; refine (callsIn_wide.2 C1.out).mono ?_; rintro e w' ⟨rfl, rfl⟩)
          refine ⟨(by intro f hf; cases hf), ?_⟩
          gi_wp2
          go_roundw
          case rel => exact ⟨k + 1, by omega, by go_num, by rw [HF.out]; exact HJ1.out, HK3.out⟩
          case measure => simp [intOf]; omega
      · have hr : Hid (r = false) := Lib.hid (by rw [HRD.out]; rfl)
        have HF := Lib.hid (HNO.out hr.out)
        rw [hW1] at HJ1 HK3
        clear HYS HNO HRD hBW
        subst hW1
        gi_wp2_with (refine ⟨trivial, ?_⟩; gi_at_call 73; refine (callsIn_wide.2 C1.out).mono ?_; rintro e w' ⟨rfl, rfl⟩)
        refine ⟨(by intro f hf; cases hf), ?_⟩
        gi_wp2
        go_roundw
        case rel => exact ⟨k + 1, by omega, by go_num, by rw [HF.out]; exact HJ1.out, HK3.out⟩
        case measure => simp [intOf]; omega
    · have hkn : k = l.length := by omega
      have hk2 : ¬ (k : Int) < l.length := by omega
      have HJS := Lib.hid hJs
      clear hJs hXr hMr
      subst hkn
      gi_wp2
      go_end0
      first | exact ⟨⟨_, rfl⟩, .inl ⟨_, rfl, HJS.out⟩⟩ | exact ⟨⟨_, rfl⟩, .inl HJS.out⟩
theorem ready_stops (n : Nat) (hn : 1 ≤ n) (Bl Bt mb mn n0 nB x : Nat) (A : Option Addr) (len cap : Nat) (l : List Tk) (M : ByteArray → Option Bool) (hS : Sml l) (w : World)
    (hb : (Bl < nB ∧ Bl ≠ x) ∧ (Bt < nB ∧ Bt ≠ x) ∧ (mb < nB ∧ mb ≠ x) ∧ n0 ≤ x ∧ n0 ≤ nB ∧ nB ≤ w.heap.size)
    (hcl : w.cell? ⟨Bl, 0, none⟩ = some (.slice A len cap)) (hct : w.cell? ⟨Bt, 0, none⟩ = some (.map (some mb))) (hM : MapS w mb mn M) (hX : Plan w n0 A len l) :
    SeqStopsK Fence.wide n Tryz.prog 72 #[.pointer (some ⟨Bl, 0, none⟩), .pointer (some ⟨Bt, 0, none⟩)] (encT len) (KeepE nB x) (fun ys => ys = rdN l M len) (fun pre => ∃ j, j < len ∧ rdyM l M j = true ∧ pre = rdN l M j ++ [j]) len w := fun y J Jx W hW hJ _ hY h0 =>
  ready1_in n hn y Bl Bt mb mn n0 nB x A len cap l M hS J Jx W hJ ⟨hb.1, hb.2.1, hb.2.2.1, hb.2.2.2.1, hb.2.2.2.2.1, by have := hW.size; omega⟩ hY ((hW.cell (p := ⟨Bl, 0, none⟩) (by show Bl < _; omega)).trans hcl) ((hW.cell (p := ⟨Bt, 0, none⟩) (by show Bt < _; omega)).trans hct) (hM.below hW) (hX.below (hW.mono (by omega))) h0
end Go.Proofs.YtmionebfepkolaaGreatDoor
