/- A range over an iterator that yields once at most, where the body returns. No program is named. -/
import Derived.Test.YtgapnhpmgidmhaaSetsA
set_option linter.unusedSimpArgs false
set_option linter.unusedVariables false
namespace Go.Proofs.Ytgapnhpmgidmhaa
open Go.RowKit Go.Shelf Go.Maps

theorem yieldAt_wide {P : Program} {m m' l : Nat} {args : Array Value} {W : World} {R : Ending → World → Prop} (h : YieldAt Fence.wide m P l args W R) : YieldAt Fence.wide m' P l args W R := by
  obtain ⟨fn, t, u, b, h1, h2⟩ := h
  exact ⟨fn, t, u, b, h1, h2.1, fun c cs _ => h2.2 c cs (room_wide _)⟩
theorem wpIn_rangeFunc_one {F : Fence} {n : Nat} {P : Program} {g : Operand} {ps : Array Tmp} {assign body : Code} {Q : Exit → Act → World → Prop} {a : Act} {w : World}
    (hro : F.round = none) (h1 : 1 ≤ n) {gf : Nat} {lb : Array Value} (hg : a.eval g = .func (.func gf) #[] lb) (hFg : F.fn gf) (eg : ∀ args w, (callFunc gf args).run P w = .ok (.enter gf args) w)
    (hps : ps.size = 1) (st : Bool) (N : Nat) (S : Nat → Prop) (hSy : S (w.heap.size + 1)) (Gd X : Value → World → Prop) (a₁ : Value → Act)
    (hX1 : ∀ v W W', X v W → Below W.heap.size W W' → X v W')
    (hX2 : ∀ v W l o o', X v W → w.heap.size ≤ l → W.heap[l]? = some o → o.isCells = false → X v (W.putObj l o'))
    (hG2 : ∀ v W l o o', Gd v W → w.heap.size ≤ l → W.heap[l]? = some o → o.isCells = false → Gd v (W.putObj l o'))
    (hseq : ∀ (W1 : World) (Fin : World → Prop), Below w.heap.size w W1 → W1.heap.size = w.heap.size + 2 → (∀ W W', Fin W → Below W.heap.size W W' → Fin W') →
      (∀ Wy v, Below W1.heap.size W1 Wy → Gd v Wy → YieldAt F (n - 1 - 1) P (w.heap.size + 1) #[v] Wy fun e W' => e = .returned (.bool false) ∧ Fin W' ∧ KeepS N S Wy W') →
      CallsIn F (n - 1) P gf (#[.func (.yield (w.heap.size + 1)) #[] #[]] ++ lb) W1 fun e W' => (∃ v, e = .returned v) ∧ (st = true → Fin W') ∧ (st = false → Below W1.heap.size W1 W'))
    (hassign : ∀ (l : Nat) (v : Value) (W : World) (K : Act → World → Prop), K (a₁ v) W → assign.wpIn (F.inRound l) (n - 1 - 1) P (Exit.then K (fun _ _ _ => False)) { tmps := (ps.zip #[v]).foldl (fun t (p, v) => t.setIfInBounds p v) a.tmps, defers := [] } W)
    (hbody : ∀ (l : Nat) (v : Value) (W : World), w.heap.size ≤ l → Gd v W → Below w.heap.size w W → body.wpIn (F.inRound l) (n - 1 - 1) P (fun e _ W' => e = .ret ∧ KeepsFrom w.heap.size W W' ∧ KeepS N S W W' ∧ X v W') (a₁ v) W)
    (hdone : st = false → ∀ W, Below w.heap.size w W → W.heap[w.heap.size]? = some (.deferred (some [])) → Q .normal { a with defers := { target := .collected w.heap.size, args := #[] } :: a.defers } W)
    (hstop : st = true → ∀ v W, X v W → W.heap[w.heap.size]? = some (.deferred (some [])) → Code.ret.wpIn F n P Q { a with defers := { target := .collected w.heap.size, args := #[] } :: a.defers } W) :
    (Code.rangeFunc g ps assign body).wpIn F n P Q a w := by
  refine wpIn_rangeFunc ?_
  intro fn hfn
  rw [hro]
  obtain ⟨rec, hrec⟩ : ∃ rec : LoopState → Option Code → Loop, rec = fun st pe => { state := st, pending := pe, fn, tmps := a.tmps, params := ps, assign, body, defers := w.heap.size } := ⟨_, rfl⟩
  obtain ⟨W1, hW1⟩ : ∃ W1, (w.alloc (.deferred (some []))).alloc (.loop (rec .ready none)) = W1 := ⟨_, rfl⟩
  have hL1 : W1.heap[w.heap.size + 1]? = some (.loop (rec .ready none)) := by
    rw [← hW1]; have := World.alloc_heap_new (w.alloc (.deferred (some []))) (.loop (rec .ready none)); rwa [World.size_alloc] at this
  have hK1 : W1.heap[w.heap.size]? = some (.deferred (some [])) := by
    rw [← hW1]; exact (Below.heap_alloc _ _ _ (by simp)).trans (World.alloc_heap_new w _)
  have hb1 : Below w.heap.size w W1 := by
    rw [← hW1]; exact ((Below.refl _ w).alloc (Nat.le_refl _) _).alloc (by simp) _
  have hs1 : W1.heap.size = w.heap.size + 2 := by rw [← hW1]; simp
  refine ⟨w.heap.size + 1, [{ target := .collected w.heap.size, args := #[] }], W1, { target := .fn (.func gf) lb, args := #[.func (.yield (w.heap.size + 1)) #[] #[]] }, W1, gf,
    #[.func (.yield (w.heap.size + 1)) #[] #[]] ++ lb, W1, ?_, ?_, ?_, ?_, fun _ => h1, ?_⟩
  · rw [← hW1, hrec]; exact run_enterLoop_outer _ _ _ _ _
  · simp only [resolve, hg]
    simp [go_sem]
  · intro f' hf'; simp [Target.leads] at hf'; subst hf'; exact hFg
  · simp [invoke, go_sem, eg]
  · refine (hseq W1 (fun W => ∃ v, X v W ∧ W.heap[w.heap.size + 1]? = some (.loop (rec .done (some .ret))) ∧ W.heap[w.heap.size]? = some (.deferred (some []))) hb1 hs1 ?_ ?_).mono ?_
    · rintro W W' ⟨v, hx, hl, hk⟩ hb
      exact ⟨v, hX1 v W W' hx hb, (hb.block _ (Array.getElem?_eq_some_iff.1 hl).1).trans hl, (hb.block _ (Array.getElem?_eq_some_iff.1 hk).1).trans hk⟩
    · intro W v hbW hgd
      have hl : W.heap[w.heap.size + 1]? = some (.loop (rec .ready none)) := (hbW.block _ (by omega)).trans hL1
      have hk : W.heap[w.heap.size]? = some (.deferred (some [])) := (hbW.block _ (by omega)).trans hK1
      have hlt : w.heap.size + 1 < W.heap.size := (Array.getElem?_eq_some_iff.1 hl).1
      have hy := run_yield (P := P) (args := #[v]) hl (by rw [hrec]; exact hps.symm)
      rw [hrec] at hy
      refine ⟨fn, _, assign, body, hy, roundIn_of_wpIn hfn (hassign _ v W _ ?_)⟩
      clear hy
      refine ⟨_, run_beginRound hl (by rw [hrec]), ?_⟩
      have hl2 : (W.putObj (w.heap.size + 1) (.loop { rec .ready none with state := .busy })).heap[w.heap.size + 1]? = some (.loop { rec .ready none with state := .busy }) := World.putObj_heap_same hlt
      have hk2 : (W.putObj (w.heap.size + 1) (.loop { rec .ready none with state := .busy })).heap[w.heap.size]? = some (.deferred (some [])) := (World.putObj_heap_other (by omega)).trans hk
      have hbP : Below w.heap.size w (W.putObj (w.heap.size + 1) (.loop { rec .ready none with state := .busy })) := (hb1.trans (hbW.mono (by omega))).trans (belowK_b (w := w) (Nat.le_refl _) W _ _ _ (by omega) hl rfl rfl)
      refine wpIn_mono (hbody _ v _ (by omega) (hG2 v W _ _ _ hgd (by omega) hl rfl) hbP) ?_
      rintro e a3 W3 ⟨rfl, hk3, hkS, hx3⟩
      have hl3 := hk3.same _ _ (by omega) hl2 rfl
      have hd3 := hk3.same _ _ (Nat.le_refl _) hk2 rfl
      have hr := run_endRound (P := P) (some .ret) hl3
      rw [hrec] at hr hl3
      have hlt3 := (Array.getElem?_eq_some_iff.1 hl3).1
      refine ⟨_, _, hr, rfl, ⟨v, hX2 v W3 _ _ _ hx3 (by omega) hl3 rfl, ?_, (World.putObj_heap_other (by omega)).trans hd3⟩, ?_⟩
      · rw [World.putObj_heap_same hlt3, hrec]; rfl
      · refine ⟨?_, fun k hk hs => ?_⟩
        · have := hkS.1; simpa using this
        · have hne : k ≠ w.heap.size + 1 := fun e => hs (by rw [e]; exact hSy)
          rw [World.putObj_heap_other hne, hkS.2 k hk hs, World.putObj_heap_other hne]
    · rintro e W2 ⟨⟨v, rfl⟩, ht, hf⟩
      cases st with
      | true =>
        obtain ⟨v, hx, hl, hk⟩ := ht rfl
        exact ⟨some .ret, _, by have := run_endLoop (P := P) hl (by rw [hrec]; simp); rw [hrec] at this; exact this, hstop rfl v _ (hX2 v W2 _ _ _ hx (by omega) hl rfl) ((World.putObj_heap_other (by omega)).trans hk)⟩
      | false =>
        have hb := hf rfl
        have hl : W2.heap[w.heap.size + 1]? = some (.loop (rec .ready none)) := (hb.block _ (by omega)).trans hL1
        have hk : W2.heap[w.heap.size]? = some (.deferred (some [])) := (hb.block _ (by omega)).trans hK1
        exact ⟨none, _, by have := run_endLoop (P := P) hl (by rw [hrec]; simp); rw [hrec] at this; exact this, hdone rfl _ ((hb1.trans (hb.mono (by omega))).trans (belowK_b (w := w) (Nat.le_refl _) W2 _ _ _ (by omega) hl rfl rfl)) ((World.putObj_heap_other (by omega)).trans hk)⟩
end Go.Proofs.Ytgapnhpmgidmhaa
