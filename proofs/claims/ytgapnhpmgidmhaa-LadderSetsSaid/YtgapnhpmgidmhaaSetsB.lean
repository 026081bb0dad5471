/- Ladders: the sets of a number of ladders: the iterator. -/
import Derived.Test.YtgapnhpmgidmhaaSetsA
set_option linter.unusedSimpArgs false
set_option linter.unusedVariables false
namespace Go.Proofs.Ytgapnhpmgidmhaa
open Go.RowKit Go.Shelf Go.Maps
attribute [local go_sem] Oper.semAt_some

/-- What sets has made. -/
structure SetsAt (W : World) (B Bn Bw Br mb mm number : Nat) (c : Clb) (A : Option Addr) (len cap : Nat) (l : List J) (A' : Option Addr) (n cap' : Nat) (ds : List Int) : Prop where
  hb : (B ≤ Bn ∧ B ≤ Bw ∧ B ≤ Br ∧ B ≤ mb) ∧ Bn < W.heap.size ∧ Bw < W.heap.size ∧ Br < W.heap.size ∧ mb < W.heap.size
  cn : W.cell? ⟨Bn, 0, none⟩ = some (.int .i64 (number : Int))
  cw : WallAt W Bw c A len cap A' n cap'
  cr : W.cell? ⟨Br, 0, none⟩ = some (.map (some mb))
  mp : MapI W mb mm (rsM (lc c) (ft c l ds) 0)
set_option maxRecDepth 20000 in
set_option maxHeartbeats 8000000 in
theorem sets_any (number : Nat) (c : Clb) (A : Option Addr) (len cap : Nat) (l : List J) (A' : Option Addr) (n cap' : Nat) (ds : List Int) (w : World) (hvc : vC c = true) (hm : len ≤ 9223372036854775807) (hm' : n ≤ 80) (hok : WallOk l ds) (hx : Rows 2 jointV dJ w w.heap.size A len l) (hy : Ints w w.heap.size A' n ds) :
    Calls Try.prog 17 #[wallV c A len cap A' n cap', .int .i64 (number : Int)] w fun e w' => (∃ Bn Bw Br mb mm, e = .returned (.func (.func 32) #[] #[.pointer (some ⟨Bn, 0, none⟩), .pointer (some ⟨Bw, 0, none⟩), .pointer (some ⟨Br, 0, none⟩)]) ∧ SetsAt w' w.heap.size Bn Bw Br mb mm number c A len cap l A' n cap' ds) ∧ Below w.heap.size w w' := by
  have c1 := fun W (h : Below w.heap.size w W) => rests_any c A len cap l A' n cap' ds W hvc hm hm' ((hx.below h).more h.size) ((hy.below h).more h.size) hok
  have C1 := Lib.hid c1
  have hmf : ∀ (fn : Fn) (first cap : Array Value) (w : World), (Instr.makeFunc fn first cap).run Try.prog w = .ok (.func fn first cap) w := fun _ _ _ _ => rfl
  clear c1 hx hy hok
  go_enter Try.func17, Try.ntmps17
  go_wp2_with fail
  have hC := wallAt_box w c A len cap A' n cap' 42
  obtain ⟨W1, hW1⟩ : ∃ W1, W1 = (w.alloc (.cells #[.int .i64 c.fi, .int .i64 c.ga, .int .i64 c.to, .int .i64 c.le, .int .i64 c.la, .int .i64 c.st, .slice A len cap, .slice A' n cap'] 42)).alloc (.cells #[.int .i64 (number : Int)] 3) := ⟨_, rfl⟩
  have hB1 : Below w.heap.size w W1 := by rw [hW1]; exact ((Below.refl _ w).alloc (Nat.le_refl _) _).alloc (by simp) _
  have hs1 : W1.heap.size = w.heap.size + 2 := by rw [hW1]; simp
  have hC1 : WallAt W1 w.heap.size c A len cap A' n cap' := by rw [hW1]; exact hC.block ((Below.alloc (Below.refl _ _) (Nat.le_refl _) _).block w.heap.size (by simp))
  have hN1 : W1.cell? ⟨w.heap.size + 1, 0, none⟩ = some (.int .i64 (number : Int)) := by
    have := (Boxed.new (w.alloc (.cells #[.int .i64 c.fi, .int .i64 c.ga, .int .i64 c.to, .int .i64 c.le, .int .i64 c.la, .int .i64 c.st, .slice A len cap, .slice A' n cap'] 42)) 3 (.int .i64 (number : Int))).cell
    rw [World.size_alloc] at this; rw [hW1]; exact this
  rw [← hW1]
  clear hW1 hC
  refine (C1.out _ hB1).mono ?_
  rintro e w3 ⟨⟨mb, mm, rfl, hM3, hmb⟩, hb⟩
  have hB3 : Below w.heap.size w w3 := hB1.trans (hb.mono hB1.size)
  have hs3 := hb.size
  have hC3 := hC1.block (hb.block w.heap.size (by omega))
  have hN3 : w3.cell? ⟨w.heap.size + 1, 0, none⟩ = some (.int .i64 (number : Int)) := (hb.cell (p := ⟨w.heap.size + 1, 0, none⟩) (by show w.heap.size + 1 < W1.heap.size; omega)).trans hN1
  obtain ⟨_, ⟨es, clock, hmm, -⟩, -⟩ := id hM3
  have hml : mb < w3.heap.size := (Array.getElem?_eq_some_iff.1 hmm).1
  have HM3 := Lib.hid hM3
  have HC3 := Lib.hid hC3
  clear hM3 hb hC1 hN1 hC3 hmm
  go_wp2_with fail
  go_ret
  have hBX : Below w3.heap.size w3 (w3.alloc (.cells #[.map (some mb)] 59)) := (Below.refl _ _).alloc (Nat.le_refl _) _
  refine ⟨⟨w.heap.size + 1, w.heap.size, w3.heap.size, mb, mm, rfl, ⟨⟨⟨by omega, by omega, by omega, by omega⟩, by simp; omega, by simp; omega, by simp, by simp; omega⟩, (hBX.cell (p := ⟨w.heap.size + 1, 0, none⟩) (by show w.heap.size + 1 < w3.heap.size; omega)).trans hN3, HC3.out.block (hBX.block w.heap.size (by omega)), (Boxed.new w3 59 (.map (some mb))).cell, HM3.out.block (hBX.block mb hml)⟩⟩, hB3.trans (hBX.mono (by omega))⟩
set_option maxRecDepth 20000 in
set_option maxHeartbeats 8000000 in
theorem seq_any (S : Nat → Prop) (B Bn Bw Br y mb mm n0 number : Nat) (c : Clb) (A : Option Addr) (len cap : Nat) (l : List J) (A' : Option Addr) (n cap' : Nat) (ds : List Int) (fin : List Int) (Fin : World → Prop) (W : World) (st : Bool)
    (hvc : vC c = true) (hm : len ≤ 9223372036854775807) (hm' : n ≤ 80) (hn80 : number ≤ 80) (hok : WallOk l ds) (hfin0 : 0 < fin.length) (hn0 : n0 ≤ W.heap.size)
    (hSt : SetsAt W B Bn Bw Br mb mm number c A len cap l A' n cap' ds) (hx : Rows 2 jointV dJ W n0 A len l) (hy : Ints W n0 A' n ds)
    (hS : (¬ S Bn ∧ ¬ S Bw ∧ ¬ S Br ∧ ¬ S mb) ∧ (∀ k, k < n0 → ¬ S k) ∧ ∀ k, S k → k < W.heap.size)
    (hFin : ∀ W W', Fin W → Below W.heap.size W W' → Fin W')
    (hY : ∀ Wy v, Below W.heap.size W Wy → Wy.ownsRow W.heap.size 3 1 v fin.length (icells fin) → YieldAt Fence.wide 5 Try.prog y #[v] Wy fun e W' => e = .returned (.bool false) ∧ Fin W' ∧ KeepS (W.heap.size + 2) S Wy W')
    (hst : (st = true ∧ Way (lc c) (ft c l ds) fin [] (-1) number) ∨ (st = false ∧ 0 < number ∧ ∀ K, K < n → folB (lc c) (ft c l ds) (-1) K = true → need (lc c) (ft c l ds) K ≠ number)) :
    CallsIn Fence.wide 8 Try.prog 32 #[.func (.yield y) #[] #[], .pointer (some ⟨Bn, 0, none⟩), .pointer (some ⟨Bw, 0, none⟩), .pointer (some ⟨Br, 0, none⟩)] W fun e W' => (∃ v, e = .returned v) ∧ (st = true → Fin W') ∧ (st = false → Below W.heap.size W W') := by
  obtain ⟨⟨⟨b1, b2, b3, b4⟩, b5, b6, b7, b8⟩, cn, cw, cr, mp⟩ := hSt
  obtain ⟨⟨s1, s2, s3, s4⟩, s5, s6⟩ := hS
  obtain ⟨W2, hW2⟩ : ∃ W2, W2 = (W.alloc (.cells #[.func (.yield y) #[] #[]] 61)).alloc (.cells #[.func (.func 33) #[] #[.pointer (some ⟨Bn, 0, none⟩), .pointer (some ⟨W.heap.size, 0, none⟩), .pointer (some ⟨Bw, 0, none⟩), .pointer (some ⟨Br, 0, none⟩), .pointer (some ⟨W.heap.size + 1, 0, none⟩)]] 61) := ⟨_, rfl⟩
  have hB2 : Below W.heap.size W W2 := by rw [hW2]; exact ((Below.refl _ W).alloc (Nat.le_refl _) _).alloc (by simp) _
  have hs2 : W2.heap.size = W.heap.size + 2 := by rw [hW2]; simp
  have hcy : W2.cell? ⟨W.heap.size, 0, none⟩ = some (.func (.yield y) #[] #[]) := by rw [hW2]; exact ((Boxed.new W _ _).alloc _).cell
  have hcm : W2.cell? ⟨W.heap.size + 1, 0, none⟩ = some (.func (.func 33) #[] #[.pointer (some ⟨Bn, 0, none⟩), .pointer (some ⟨W.heap.size, 0, none⟩), .pointer (some ⟨Bw, 0, none⟩), .pointer (some ⟨Br, 0, none⟩), .pointer (some ⟨W.heap.size + 1, 0, none⟩)]) := by
    have := (Boxed.new (W.alloc (.cells #[.func (.yield y) #[] #[]] 61)) 61 (.func (.func 33) #[] #[.pointer (some ⟨Bn, 0, none⟩), .pointer (some ⟨W.heap.size, 0, none⟩), .pointer (some ⟨Bw, 0, none⟩), .pointer (some ⟨Br, 0, none⟩), .pointer (some ⟨W.heap.size + 1, 0, none⟩)])).cell
    rw [World.size_alloc] at this; rw [hW2]; exact this
  have hE : EnvM W2.heap.size S Bn W.heap.size Bw Br (W.heap.size + 1) y mb mm n0 number c A len cap l A' n cap' ds W2 :=
    ⟨⟨⟨by omega, by omega, by omega, by omega, by omega, by omega⟩, by omega, Nat.le_refl _⟩, ⟨⟨s1, fun h => by have := s6 _ h; omega, s2, s3, fun h => by have := s6 _ h; omega, s4⟩, s5⟩, (hB2.cell (p := ⟨Bn, 0, none⟩) b5).trans cn, hcy, cw.block (hB2.block Bw b6), (hB2.cell (p := ⟨Br, 0, none⟩) b7).trans cr, hcm, mp.block (hB2.block mb b8), hx.below (hB2.mono hn0), hy.below (hB2.mono hn0)⟩
  have hM := more_any W2.heap.size S Bn W.heap.size Bw Br (W.heap.size + 1) y mb mm n0 number c A len cap l A' n cap' ds fin Fin (Below W.heap.size W) hvc hm hm' hn80 hok hfin0 hFin (fun X X' h h' => h.trans (h'.mono (by omega)))
    (fun Wy v hj _ ho => by rw [hs2]; exact hY Wy v hj (own_mono ho (by omega)))
    number [] 0 (.slice none 0 0) W2 st hB2 hE (World.ownsRow_nil _ _ _ _) (by omega) (by show (-1 : Int) < n; omega) (Int.le_refl _) hst
  have HM := Lib.hid hM
  have hmf : ∀ (fn : Fn) (first cap : Array Value) (w : World), (Instr.makeFunc fn first cap).run Try.prog w = .ok (.func fn first cap) w := fun _ _ _ _ => rfl
  have hsf := fun (a : Addr) (c : Array Value) (w : World) => run_store Try.prog w a (.func (.func 33) #[] c) .plain rfl
  clear hM hE hcy cn cw cr mp hx hy hY hFin hst
  refine callsIn_wide.2 ?_
  go_enter Try.func32, Try.ntmps32
  go_wp2_with fail
  rw [← hW2]
  clear hW2
  refine (callsIn_wide.1 HM.out).mono ?_
  rintro e W3 ⟨rfl, -, hF, hN⟩
  have HF := Lib.hid hF
  have HN := Lib.hid (fun h => hB2.trans ((hN h).mono (by omega)))
  clear hF hN hB2 hmf hsf
  go_wp2
  go_end0
  exact ⟨⟨_, rfl⟩, HF.out, HN.out⟩
end Go.Proofs.Ytgapnhpmgidmhaa
