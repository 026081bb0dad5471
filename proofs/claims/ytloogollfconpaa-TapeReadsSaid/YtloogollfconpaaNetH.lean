/- Two small nets in series or beside each other: plain. No program is named. -/
import Derived.Test.YtloogollfconpaaNetG
set_option linter.unusedSimpArgs false
set_option linter.unusedVariables false
namespace Go.Proofs.Ytloogollfconpaa

theorem conv_at {f g : Nat → Int} {p q k : Nat} (hk : p + q = k) (hf : ∀ i, p < i → f i = 0) (hg : ∀ j, q < j → g j = 0) : sumTo (fun i => f i * g (k - i)) (k + 1) = f p * g q := by
  rw [sumTo_one (p := p) (by omega) (fun i _ hi => ?_), show k - p = q by omega]
  rcases Nat.lt_or_ge p i with h | h
  · simp only [hf i h, Int.zero_mul]
  · simp only [hg (k - i) (by omega), Int.mul_zero]
theorem conv_no {f g : Nat → Int} {k : Nat} (hg : ∀ j, g j = 0) : sumTo (fun i => f i * g (k - i)) (k + 1) = 0 := by
  rw [sumTo_congr (h' := fun _ => 0) (fun i _ => by simp only [hg, Int.mul_zero]), sumTo_zero]
theorem conv_no' {f g : Nat → Int} {k : Nat} (hf : ∀ j, f j = 0) : sumTo (fun i => f i * g (k - i)) (k + 1) = 0 := by
  rw [sumTo_congr (h' := fun _ => 0) (fun i _ => by simp only [hf, Int.zero_mul]), sumTo_zero]
theorem full_app (l l' : List Tp) (r : List Int) : full (l ++ l') r = full l' (full l r) := List.foldl_append ..
theorem full_X {c n : Int} (hc : c ∈ C12) (hn : n ∈ N3) (hcn : c ≤ n) {l : List Tp} (hl : ∀ t ∈ l, inN n t) : ∀ {r : List Int}, r ∈ LL n → full l (gl c n r R0) = gl c n (full l r) R0 := by
  induction l with
  | nil => intro r _; rfl
  | cons t l ih =>
    intro r hr
    have ht := hl t (List.mem_cons_self ..)
    rw [full_cons, full_cons, (gl_X hc hn hcn hr ht).2]
    exact ih (fun u hu => hl u (List.mem_cons_of_mem _ hu)) (LL_mgL hn hr ht)
theorem full_Y {c n m : Int} {r : List Int} (hc : c ∈ C12) (hn : n ∈ N3) (hm : m ∈ N3) (hcn : c ≤ n) (hcm : c ≤ m) (hr : r ∈ LL n) {l : List Tp} (hl : ∀ t ∈ l, inN m t) : ∀ {r2 : List Int}, r2 ∈ LL m → okY c r r2 →
    full (l.map (sh c n)) (gl c n r r2) = gl c n r (full l r2) := by
  induction l with
  | nil => intro r2 _ _; rfl
  | cons t l ih =>
    intro r2 h1 h2
    have ht := hl t (List.mem_cons_self ..)
    rw [List.map_cons, full_cons, full_cons, (gl_Y hc hn hm hcn hcm hr h1 h2 ht).2]
    exact ih (fun u hu => hl u (List.mem_cons_of_mem _ hu)) (LL_mgL hm h1 ht) (okY_mgL hc hn hm hr h1 h2 ht)
def J01 : Tp := (0, 1, 0)
theorem gl_J {n : Int} {r : List Int} (hn : n ∈ N3) (hr : r ∈ LL n) (h : at6 r 0 = at6 r 1) : gl 2 n r R0 = gl 2 n r (mgL R0 J01) := by
  have key : ∀ n ∈ N3, ∀ r ∈ LL n, at6 r 0 = at6 r 1 → gl 2 n r R0 = gl 2 n r (mgL R0 J01) := by decide +kernel
  exact key n hn r hr h
theorem LL_J {m : Int} (hm : m ∈ N3) (h : 2 ≤ m) : mgL R0 J01 ∈ LL m := by
  have key : ∀ m ∈ N3, 2 ≤ m → mgL R0 J01 ∈ LL m := by decide +kernel
  exact key m hm h
theorem inN_ok {n : Int} (hn : n ∈ N3) {t : Tp} (h : inN n t) : nod t.1 ∧ nod t.2.1 := by
  have : n = 1 ∨ n = 2 ∨ n = 3 := by simpa [N3] using hn
  obtain ⟨h1, h2, h3⟩ := h
  exact ⟨⟨h1, by omega⟩, by omega, by omega⟩
/-- The labelling of both nets at the end. -/
theorem full_gl {c n m : Int} (hc : c ∈ C12) (hn : n ∈ N3) (hm : m ∈ N3) (hcn : c ≤ n) (hcm : c ≤ m) {lx ly : List Tp} (hx : ∀ t ∈ lx, inN n t) (hy : ∀ t ∈ ly, inN m t) (hoy : okL ly)
    (h : c = 2 → at6 (full lx R0) 0 = at6 (full lx R0) 1 ∧ at6 (full ly R0) 0 = at6 (full ly R0) 1) : full (lx ++ ly.map (sh c n)) R0 = gl c n (full lx R0) (full ly R0) := by
  have h1 := LL_full hn hx LL_R0
  rw [full_app]
  have e : full lx R0 = gl c n (full lx R0) R0 := by
    have := full_X hc hn hcn hx LL_R0
    rw [gl_R0 hc hn hcn] at this
    exact this
  have key : full (ly.map (sh c n)) (gl c n (full lx R0) R0) = gl c n (full lx R0) (full ly R0) := by
    rcases (by simpa [C12] using hc : c = 1 ∨ c = 2) with rfl | rfl
    · exact full_Y hc hn hm hcn hcm h1 hy LL_R0 (fun h => by cases h)
    · obtain ⟨h2, h3⟩ := h rfl
      rw [gl_J hn h1 h2, full_Y hc hn hm hcn hcm h1 hy (LL_J hm hcm) (fun _ _ => by decide), full_mgL hoy (t := J01) (show nod (0 : Int) from ⟨by omega, by omega⟩) (show nod (1 : Int) from ⟨by omega, by omega⟩) lab_R0, mgL_same h3]
  rw [← e] at key
  exact key
def X3 : List Int := [0, 1, 2]
theorem x3 {n x : Int} (hn : n ∈ N3) (h0 : 0 ≤ x) (h1 : x < n) : x ∈ X3 := by
  have : n = 1 ∨ n = 2 ∨ n = 3 := by simpa [N3] using hn
  rcases (by omega : x = 0 ∨ x = 1 ∨ x = 2) with rfl | rfl | rfl <;> decide
def okB (c : Int) (r r2 : List Int) : Prop := c = 2 → at6 r 0 = at6 r 1 ∧ at6 r2 0 = at6 r2 1
instance (c : Int) (r r2 : List Int) : Decidable (okB c r r2) := by unfold okB; infer_instance
theorem gl_near {c n m a : Int} {r r2 : List Int} (hc : c ∈ C12) (hn : n ∈ N3) (hm : m ∈ N3) (hcn : c ≤ n) (hcm : c ≤ m) (hr : r ∈ LL n) (hr2 : r2 ∈ LL m) (hb : okB c r r2) (ha : 0 ≤ a ∧ a < n) (h : at6 r a = at6 r 0) :
    (∀ x ∈ X3, x < n → (at6 (gl c n r r2) x == at6 (gl c n r r2) a) = (at6 r x == at6 r a)) ∧ (∀ x ∈ X3, x < m → (at6 (gl c n r r2) (sg c n x) == at6 (gl c n r r2) a) = (at6 r2 x == at6 r2 0)) ∧
    ((cnt6 fun x => at6 (gl c n r r2) x = at6 (gl c n r r2) a) : Int) + c = ((cnt6 fun x => at6 r x = at6 r a) : Int) + ((cnt6 fun x => at6 r2 x = at6 r2 0) : Int) := by
  have key : ∀ c ∈ C12, ∀ n ∈ N3, ∀ m ∈ N3, c ≤ n → c ≤ m → ∀ r ∈ LL n, ∀ r2 ∈ LL m, okB c r r2 → ∀ a ∈ X3, a < n → at6 r a = at6 r 0 →
    (∀ x ∈ X3, x < n → (at6 (gl c n r r2) x == at6 (gl c n r r2) a) = (at6 r x == at6 r a)) ∧ (∀ x ∈ X3, x < m → (at6 (gl c n r r2) (sg c n x) == at6 (gl c n r r2) a) = (at6 r2 x == at6 r2 0)) ∧
    ((cnt6 fun x => at6 (gl c n r r2) x = at6 (gl c n r r2) a) : Int) + c = ((cnt6 fun x => at6 r x = at6 r a) : Int) + ((cnt6 fun x => at6 r2 x = at6 r2 0) : Int) := by decide +kernel
  exact key c hc n hn m hm hcn hcm r hr r2 hr2 hb a (x3 hn ha.1 ha.2) ha.2 h
theorem gl_ser {n m a y : Int} {r r2 : List Int} (hn : n ∈ N3) (hm : m ∈ N3) (hr : r ∈ LL n) (hr2 : r2 ∈ LL m) (ha : 0 ≤ a ∧ a < n) (hy : 0 ≤ y ∧ y < m) :
    apt a (sg 1 n y) (gl 1 n r r2) = (if (at6 r a == at6 r 0) = true then apt 0 y r2 else true) := by
  have key : ∀ n ∈ N3, ∀ m ∈ N3, ∀ r ∈ LL n, ∀ r2 ∈ LL m, ∀ a ∈ X3, a < n → ∀ y ∈ X3, y < m → apt a (sg 1 n y) (gl 1 n r r2) = (if (at6 r a == at6 r 0) = true then apt 0 y r2 else true) := by decide +kernel
  exact key n hn m hm r hr r2 hr2 a (x3 hn ha.1 ha.2) ha.2 y (x3 hm hy.1 hy.2) hy.2
theorem gl_bes {n m : Int} {r r2 : List Int} (hn : n ∈ N3) (hm : m ∈ N3) (hn2 : 2 ≤ n) (hm2 : 2 ≤ m) (hr : r ∈ LL n) (hr2 : r2 ∈ LL m) (h : okY 2 r r2) : apt 0 1 (gl 2 n r r2) = (apt 0 1 r && apt 0 1 r2) := by
  have key : ∀ n ∈ N3, ∀ m ∈ N3, 2 ≤ n → 2 ≤ m → ∀ r ∈ LL n, ∀ r2 ∈ LL m, okY 2 r r2 → apt 0 1 (gl 2 n r r2) = (apt 0 1 r && apt 0 1 r2) := by decide +kernel
  exact key n hn m hm hn2 hm2 r hr r2 hr2 h
/-- The part of both nets that is joined. -/
theorem near_gl {c n m a : Int} (hc : c ∈ C12) (hn : n ∈ N3) (hm : m ∈ N3) (hcn : c ≤ n) (hcm : c ≤ m) {lx ly : List Tp} (hx : ∀ t ∈ lx, inN n t) (hy : ∀ t ∈ ly, inN m t) (hoy : okL ly)
    (h : c = 2 → at6 (full lx R0) 0 = at6 (full lx R0) 1 ∧ at6 (full ly R0) 0 = at6 (full ly R0) 1) (ha : 0 ≤ a ∧ a < n) (hj : at6 (full lx R0) a = at6 (full lx R0) 0) :
    near (lx ++ ly.map (sh c n)) a = near lx a ++ (near ly 0).map (sh c n) ∧ (cls (lx ++ ly.map (sh c n)) a : Int) + c = cls lx a + cls ly 0 := by
  have hg := full_gl hc hn hm hcn hcm hx hy hoy h
  obtain ⟨g1, g2, g3⟩ := gl_near hc hn hm hcn hcm (LL_full hn hx LL_R0) (LL_full hm hy LL_R0) h ha hj
  unfold near cls
  rw [hg]
  refine ⟨?_, g3⟩
  rw [List.filter_append, List.filter_map]
  congr 1
  · refine List.filter_congr (fun t ht => ?_)
    obtain ⟨h1, h2, h3⟩ := hx t ht
    exact g1 t.1 (x3 hn h1 (by omega)) (by omega)
  · congr 1
    refine List.filter_congr (fun t ht => ?_)
    obtain ⟨h1, h2, h3⟩ := hy t ht
    exact g2 t.1 (x3 hm h1 (by omega)) (by omega)
theorem near_in {n : Int} {l : List Tp} (h : ∀ t ∈ l, inN n t) (a : Int) : ∀ t ∈ near l a, inN n t := fun t ht => h t (List.mem_filter.1 ht).1
/-- Where sums of a part are nothing. -/
theorem part_over {P : List Int → Bool} {l : List Tp} (h : okL l) {a : Int} (ha : nod a) {i : Nat} (hi : cls l a - 1 < i) : sumL P i (near l a) R0 = 0 := by
  have h1 := near_labs h ha
  exact sumL_over (near_ok h a) i R0 lab_R0 (by rw [labs_R0]; omega)
theorem part_span {P : List Int → Bool} {l : List Tp} (h : okL l) {a : Int} (ha : nod a) : sumL P (cls l a - 1) (near l a) R0 = if P (full (near l a) R0) = true then treesN l a else 0 := by
  have h1 := near_labs h ha
  exact sumL_span (near_ok h a) _ R0 lab_R0 (by rw [labs_R0]; omega)
theorem part_apt {l : List Tp} (h : okL l) {a x y : Int} (ha : nod a) (hx : nod x) (hy : nod y) (e1 : at6 (full l R0) x = at6 (full l R0) a) (e2 : at6 (full l R0) y = at6 (full l R0) a) {i : Nat} (hi : cls l a - 1 ≤ i) : sumL (apt x y) i (near l a) R0 = 0 := by
  rcases Nat.lt_or_ge (cls l a - 1) i with h1 | h1
  · exact part_over h ha h1
  · obtain rfl : i = cls l a - 1 := by omega
    rw [part_span h ha, if_neg]
    have h2 := near_labels h ha
    unfold apt
    rw [h2.1 x hx e1, h2.1 y hy e2]
    simp
/-- Trees and forests of nets in series. -/
theorem series_sums {n m a y : Int} (hn : n ∈ N3) (hm : m ∈ N3) {lx ly : List Tp} (hx : ∀ t ∈ lx, inN n t) (hy : ∀ t ∈ ly, inN m t) (hox : okL lx) (hoy : okL ly)
    (ha : 0 ≤ a ∧ a < n) (hb : 0 ≤ y ∧ y < m) (hj : at6 (full lx R0) a = at6 (full lx R0) 0) (hj2 : at6 (full ly R0) 0 = at6 (full ly R0) y) :
    treesN (lx ++ ly.map (sh 1 n)) a = treesN lx a * treesN ly 0 ∧
    twosN (lx ++ ly.map (sh 1 n)) a a (sg 1 n y) = twosN lx a a 0 * treesN ly 0 + treesN lx a * twosN ly 0 0 y := by
  have n3 : n = 1 ∨ n = 2 ∨ n = 3 := by simpa [N3] using hn
  have m3 : m = 1 ∨ m = 2 ∨ m = 3 := by simpa [N3] using hm
  have hc : (1 : Int) ∈ C12 := by decide
  obtain ⟨e1, e2⟩ := near_gl hc hn hm (by omega) (by omega) hx hy hoy (fun h => by cases h) ha hj
  have na : nod a := ⟨ha.1, by omega⟩
  have n0 : nod 0 := ⟨by omega, by omega⟩
  have ny : nod y := ⟨hb.1, by omega⟩
  have k1 := (near_labs hox na).2
  have k2 := (near_labs hoy n0).2
  have hk : cls (lx ++ ly.map (sh 1 n)) a - 1 = (cls lx a - 1) + (cls ly 0 - 1) := by omega
  have o1 := @part_over (fun _ => true) lx hox a na
  have o2 := @part_over (fun _ => true) ly hoy 0 n0
  have o3 := @part_over (fun r => at6 r a == at6 r 0) lx hox a na
  have o4 := @part_apt lx hox a a 0 na na n0 rfl hj.symm
  have o5 := @part_apt ly hoy 0 0 y n0 n0 ny rfl hj2.symm
  have s3 : sumL (fun r => at6 r a == at6 r 0) (cls lx a - 1) (near lx a) R0 = treesN lx a := by
    rw [part_span hox na, if_pos]
    rw [(near_labels hox na).1 0 n0 hj.symm]
    simp
  have hg0 : gl 1 n R0 R0 = R0 := gl_R0 hc hn (by omega)
  have hX := near_in hx a
  have hY := near_in hy 0
  constructor
  · have hq : ∀ r ∈ LL n, ∀ j, sumL (fun _ => true) j ((near ly 0).map (sh 1 n)) (gl 1 n r R0) = if (fun _ : List Int => true) r = true then sumL (fun _ => true) j (near ly 0) R0 else (fun _ : Nat => (0 : Int)) j := by
      intro r hr j
      rw [if_pos rfl]
      exact sumL_Y hc hn hm (by omega) (by omega) hr (fun _ _ _ => rfl) hY j R0 LL_R0 (fun h => by cases h)
    have hs := sumL_X (A := fun j => sumL (fun _ => true) j (near ly 0) R0) (B := fun _ => 0) hc hn (by omega) hq hX (cls lx a - 1 + (cls ly 0 - 1)) R0 LL_R0
    rw [hg0] at hs
    rw [show treesN (lx ++ ly.map (sh 1 n)) a = sumL (fun _ => true) (cls (lx ++ ly.map (sh 1 n)) a - 1) (near (lx ++ ly.map (sh 1 n)) a) R0 from rfl, e1, hk, hs]
    simp only [Int.mul_zero, Int.add_zero]
    exact conv_at (f := fun i => sumL (fun _ => true) i (near lx a) R0) (g := fun j => sumL (fun _ => true) j (near ly 0) R0) rfl (fun i hi => o1 hi) (fun j hj => o2 hj)
  · have hq : ∀ r ∈ LL n, ∀ j, sumL (apt a (sg 1 n y)) j ((near ly 0).map (sh 1 n)) (gl 1 n r R0) = if (fun r : List Int => at6 r a == at6 r 0) r = true then sumL (apt 0 y) j (near ly 0) R0 else sumL (fun _ => true) j (near ly 0) R0 := by
      intro r hr j
      by_cases hJ : (at6 r a == at6 r 0) = true
      · rw [if_pos hJ]
        exact sumL_Y hc hn hm (by omega) (by omega) hr (fun r2 h2 _ => by rw [gl_ser hn hm hr h2 ha hb, if_pos hJ]) hY j R0 LL_R0 (fun h => by cases h)
      · rw [if_neg hJ]
        exact sumL_Y hc hn hm (by omega) (by omega) hr (fun r2 h2 _ => by rw [gl_ser hn hm hr h2 ha hb, if_neg hJ]) hY j R0 LL_R0 (fun h => by cases h)
    have hs := fun k => sumL_X (A := fun j => sumL (apt 0 y) j (near ly 0) R0) (B := fun j => sumL (fun _ => true) j (near ly 0) R0) hc hn (by omega) hq hX k R0 LL_R0
    rw [hg0] at hs
    have hs2 : ∀ k, sumL (apt a (sg 1 n y)) k (near lx a ++ (near ly 0).map (sh 1 n)) R0 = sumTo (fun i => sumL (fun r => at6 r a == at6 r 0) i (near lx a) R0 * sumL (apt 0 y) (k - i) (near ly 0) R0 + sumL (apt a 0) i (near lx a) R0 * sumL (fun _ => true) (k - i) (near ly 0) R0) (k + 1) := hs
    clear hs
    rw [show twosN (lx ++ ly.map (sh 1 n)) a a (sg 1 n y) = if cls (lx ++ ly.map (sh 1 n)) a - 1 = 0 then 0 else sumL (apt a (sg 1 n y)) (cls (lx ++ ly.map (sh 1 n)) a - 1 - 1) (near (lx ++ ly.map (sh 1 n)) a) R0 from rfl, e1, hk,
      show twosN lx a a 0 = if cls lx a - 1 = 0 then 0 else sumL (apt a 0) (cls lx a - 1 - 1) (near lx a) R0 from rfl, show twosN ly 0 0 y = if cls ly 0 - 1 = 0 then 0 else sumL (apt 0 y) (cls ly 0 - 1 - 1) (near ly 0) R0 from rfl]
    rw [show treesN ly 0 = sumL (fun _ => true) (cls ly 0 - 1) (near ly 0) R0 from rfl]
    generalize cls lx a - 1 = p at *
    generalize cls ly 0 - 1 = q at *
    by_cases hpq : p + q = 0
    · obtain ⟨rfl, rfl⟩ : p = 0 ∧ q = 0 := by omega
      simp
    · rw [if_neg hpq, hs2, sumTo_add (fun i => sumL (fun r => at6 r a == at6 r 0) i (near lx a) R0 * sumL (apt 0 y) (p + q - 1 - i) (near ly 0) R0) (fun i => sumL (apt a 0) i (near lx a) R0 * sumL (fun _ => true) (p + q - 1 - i) (near ly 0) R0)]
      have t1 : sumTo (fun i => sumL (fun r => at6 r a == at6 r 0) i (near lx a) R0 * sumL (apt 0 y) (p + q - 1 - i) (near ly 0) R0) (p + q - 1 + 1) = treesN lx a * (if q = 0 then 0 else sumL (apt 0 y) (q - 1) (near ly 0) R0) := by
        by_cases hq0 : q = 0
        · subst hq0
          rw [if_pos rfl, Int.mul_zero]
          exact conv_no (f := fun i => sumL (fun r => at6 r a == at6 r 0) i (near lx a) R0) (g := fun j => sumL (apt 0 y) j (near ly 0) R0) (fun j => o5 (by omega))
        · rw [if_neg hq0, ← s3]
          exact conv_at (f := fun i => sumL (fun r => at6 r a == at6 r 0) i (near lx a) R0) (g := fun j => sumL (apt 0 y) j (near ly 0) R0) (by omega) (fun i hi => o3 hi) (fun j hj => o5 (by omega))
      have t2 : sumTo (fun i => sumL (apt a 0) i (near lx a) R0 * sumL (fun _ => true) (p + q - 1 - i) (near ly 0) R0) (p + q - 1 + 1) = (if p = 0 then 0 else sumL (apt a 0) (p - 1) (near lx a) R0) * sumL (fun _ => true) q (near ly 0) R0 := by
        by_cases hp0 : p = 0
        · subst hp0
          rw [if_pos rfl, Int.zero_mul]
          exact conv_no' (f := fun i => sumL (apt a 0) i (near lx a) R0) (g := fun j => sumL (fun _ => true) j (near ly 0) R0) (fun j => o4 (by omega))
        · rw [if_neg hp0]
          exact conv_at (f := fun i => sumL (apt a 0) i (near lx a) R0) (g := fun j => sumL (fun _ => true) j (near ly 0) R0) (by omega) (fun i hi => o4 (by omega)) (fun j hj => o2 hj)
      rw [t1, t2]
      omega
theorem gl_off {n m : Int} {r r2 : List Int} (hn : n ∈ N3) (hm : m ∈ N3) (hn2 : 2 ≤ n) (hm2 : 2 ≤ m) (hr : r ∈ LL n) (hr2 : r2 ∈ LL m) (h : okY 2 r r2) (hJ : at6 r 0 = at6 r 1) : apt 0 1 (gl 2 n r r2) = false := by
  rw [gl_bes hn hm hn2 hm2 hr hr2 h]
  unfold apt
  rw [hJ]
  simp
/-- Trees and forests of nets beside each other. -/
theorem beside_sums {n m : Int} (hn : n ∈ N3) (hm : m ∈ N3) (hn2 : 2 ≤ n) (hm2 : 2 ≤ m) {lx ly : List Tp} (hx : ∀ t ∈ lx, inN n t) (hy : ∀ t ∈ ly, inN m t) (hox : okL lx) (hoy : okL ly)
    (hj : at6 (full lx R0) 0 = at6 (full lx R0) 1) (hj2 : at6 (full ly R0) 0 = at6 (full ly R0) 1) :
    treesN (lx ++ ly.map (sh 2 n)) 0 = treesN lx 0 * twosN ly 0 0 1 + twosN lx 0 0 1 * treesN ly 0 ∧
    twosN (lx ++ ly.map (sh 2 n)) 0 0 1 = twosN lx 0 0 1 * twosN ly 0 0 1 ∧ (1 ≤ twosN lx 0 0 1) := by
  have n3 : n = 1 ∨ n = 2 ∨ n = 3 := by simpa [N3] using hn
  have m3 : m = 1 ∨ m = 2 ∨ m = 3 := by simpa [N3] using hm
  have hc : (2 : Int) ∈ C12 := by decide
  obtain ⟨e1, e2⟩ := near_gl hc hn hm hn2 hm2 hx hy hoy (fun _ => ⟨hj, hj2⟩) ⟨by omega, by omega⟩ (rfl : at6 (full lx R0) 0 = at6 (full lx R0) 0)
  have n0 : nod 0 := ⟨by omega, by omega⟩
  have n1 : nod 1 := ⟨by omega, by omega⟩
  have two : ∀ l : List Tp, at6 (full l R0) 0 = at6 (full l R0) 1 → 2 ≤ cls l 0 := by
    intro l h
    have a0 : one6 (fun x => at6 (full l R0) x = at6 (full l R0) 0) 0 = 1 := by unfold one6; simp
    have a1 : one6 (fun x => at6 (full l R0) x = at6 (full l R0) 0) 1 = 1 := by unfold one6; rw [if_pos h.symm]
    unfold cls cnt6
    omega
  have k1 := two lx hj
  have k2 := two ly hj2
  have hk : cls (lx ++ ly.map (sh 2 n)) 0 - 1 = (cls lx 0 - 1) + (cls ly 0 - 1) - 1 := by omega
  have o2 := @part_over (fun _ => true) ly hoy 0 n0
  have o3 := @part_over (fun r => at6 r 0 == at6 r 1) lx hox 0 n0
  have o4 := @part_apt lx hox 0 0 1 n0 n0 n1 rfl hj.symm
  have o5 := @part_apt ly hoy 0 0 1 n0 n0 n1 rfl hj2.symm
  have s3 : sumL (fun r => at6 r 0 == at6 r 1) (cls lx 0 - 1) (near lx 0) R0 = treesN lx 0 := by
    rw [part_span hox n0, if_pos]
    rw [(near_labels hox n0).1 1 n1 hj.symm]
    simp
  have hg0 : gl 2 n R0 R0 = R0 := gl_R0 hc hn hn2
  have hX := near_in hx 0
  have hY := near_in hy 0
  have hcon : ∀ j, sumL (fun _ => true) j (near ly 0) (mgL R0 J01) = sumL (apt 0 1) j (near ly 0) R0 := by
    intro j
    rw [sumL_contract (t := J01) n0 n1 (near_ok hoy 0) j R0 lab_R0 (by decide)]
    exact sumL_congr (fun r => Bool.and_true _) _ _ _
  have hp : 1 ≤ cls lx 0 - 1 := by omega
  have hq1 : 1 ≤ cls ly 0 - 1 := by omega
  have t0 : twosN lx 0 0 1 = sumL (apt 0 1) (cls lx 0 - 1 - 1) (near lx 0) R0 := if_neg (by omega)
  have t1 : twosN ly 0 0 1 = sumL (apt 0 1) (cls ly 0 - 1 - 1) (near ly 0) R0 := if_neg (by omega)
  refine ⟨?_, ?_, ?_⟩
  · have hq : ∀ r ∈ LL n, ∀ j, sumL (fun _ => true) j ((near ly 0).map (sh 2 n)) (gl 2 n r R0) = if (fun r : List Int => at6 r 0 == at6 r 1) r = true then sumL (apt 0 1) j (near ly 0) R0 else sumL (fun _ => true) j (near ly 0) R0 := by
      intro r hr j
      by_cases hJ : (at6 r 0 == at6 r 1) = true
      · rw [if_pos hJ, gl_J hn hr (beq_iff_eq.1 hJ), ← hcon j]
        exact sumL_Y hc hn hm hn2 hm2 hr (fun _ _ _ => rfl) hY j _ (LL_J hm hm2) (fun _ _ => by decide)
      · rw [if_neg hJ]
        exact sumL_Y hc hn hm hn2 hm2 hr (fun _ _ _ => rfl) hY j R0 LL_R0 (fun _ h => absurd (beq_iff_eq.2 h) hJ)
    have hs := fun k => sumL_X (A := fun j => sumL (apt 0 1) j (near ly 0) R0) (B := fun j => sumL (fun _ => true) j (near ly 0) R0) hc hn hn2 hq hX k R0 LL_R0
    rw [hg0] at hs
    have hs2 : ∀ k, sumL (fun _ => true) k (near lx 0 ++ (near ly 0).map (sh 2 n)) R0 = sumTo (fun i => sumL (fun r => at6 r 0 == at6 r 1) i (near lx 0) R0 * sumL (apt 0 1) (k - i) (near ly 0) R0 + sumL (apt 0 1) i (near lx 0) R0 * sumL (fun _ => true) (k - i) (near ly 0) R0) (k + 1) := hs
    clear hs
    rw [show treesN (lx ++ ly.map (sh 2 n)) 0 = sumL (fun _ => true) (cls (lx ++ ly.map (sh 2 n)) 0 - 1) (near (lx ++ ly.map (sh 2 n)) 0) R0 from rfl, e1, hk, hs2,
      sumTo_add (fun i => sumL (fun r => at6 r 0 == at6 r 1) i (near lx 0) R0 * sumL (apt 0 1) (cls lx 0 - 1 + (cls ly 0 - 1) - 1 - i) (near ly 0) R0) (fun i => sumL (apt 0 1) i (near lx 0) R0 * sumL (fun _ => true) (cls lx 0 - 1 + (cls ly 0 - 1) - 1 - i) (near ly 0) R0),
      t0, t1, show treesN ly 0 = sumL (fun _ => true) (cls ly 0 - 1) (near ly 0) R0 from rfl, ← s3]
    generalize cls lx 0 - 1 = p at *
    generalize cls ly 0 - 1 = q at *
    congr 1
    · exact conv_at (f := fun i => sumL (fun r => at6 r 0 == at6 r 1) i (near lx 0) R0) (g := fun j => sumL (apt 0 1) j (near ly 0) R0) (by omega) (fun i hi => o3 hi) (fun j hj => o5 (by omega))
    · exact conv_at (f := fun i => sumL (apt 0 1) i (near lx 0) R0) (g := fun j => sumL (fun _ => true) j (near ly 0) R0) (by omega) (fun i hi => o4 (by omega)) (fun j hj => o2 hj)
  · have hq : ∀ r ∈ LL n, ∀ j, sumL (apt 0 1) j ((near ly 0).map (sh 2 n)) (gl 2 n r R0) = if (fun r : List Int => at6 r 0 == at6 r 1) r = true then (fun _ : Nat => (0 : Int)) j else sumL (apt 0 1) j (near ly 0) R0 := by
      intro r hr j
      by_cases hJ : (at6 r 0 == at6 r 1) = true
      · rw [if_pos hJ, gl_J hn hr (beq_iff_eq.1 hJ), sumL_Y (Q := fun _ => false) hc hn hm hn2 hm2 hr (fun r2 h2 h3 => gl_off hn hm hn2 hm2 hr h2 h3 (beq_iff_eq.1 hJ)) hY j _ (LL_J hm hm2) (fun _ _ => by decide)]
        exact sumL_ff (fun _ => rfl) _ _ _
      · rw [if_neg hJ]
        refine sumL_Y hc hn hm hn2 hm2 hr (fun r2 h2 h3 => ?_) hY j R0 LL_R0 (fun _ h => absurd (beq_iff_eq.2 h) hJ)
        rw [gl_bes hn hm hn2 hm2 hr h2 h3, show apt 0 1 r = true from by unfold apt; simpa using hJ, Bool.true_and]
    have hs := fun k => sumL_X (A := fun _ => 0) (B := fun j => sumL (apt 0 1) j (near ly 0) R0) hc hn hn2 hq hX k R0 LL_R0
    rw [hg0] at hs
    have hs2 : ∀ k, sumL (apt 0 1) k (near lx 0 ++ (near ly 0).map (sh 2 n)) R0 = sumTo (fun i => sumL (fun r => at6 r 0 == at6 r 1) i (near lx 0) R0 * 0 + sumL (apt 0 1) i (near lx 0) R0 * sumL (apt 0 1) (k - i) (near ly 0) R0) (k + 1) := hs
    clear hs
    rw [show twosN (lx ++ ly.map (sh 2 n)) 0 0 1 = if cls (lx ++ ly.map (sh 2 n)) 0 - 1 = 0 then 0 else sumL (apt 0 1) (cls (lx ++ ly.map (sh 2 n)) 0 - 1 - 1) (near (lx ++ ly.map (sh 2 n)) 0) R0 from rfl, e1, hk, if_neg (by omega), hs2, t0, t1]
    simp only [Int.mul_zero, Int.zero_add]
    generalize cls lx 0 - 1 = p at *
    generalize cls ly 0 - 1 = q at *
    exact conv_at (f := fun i => sumL (apt 0 1) i (near lx 0) R0) (g := fun j => sumL (apt 0 1) j (near ly 0) R0) (by omega) (fun i hi => o4 (by omega)) (fun j hj => o5 (by omega))
  · have h1 := near_labs hox n0
    have hJ : Lab (mgL R0 J01) := lab_R0.mgL n0 n1
    have h2 := sumL_pos (near_ok hox 0) hJ
    have h3 : full (near lx 0) (mgL R0 J01) = full (near lx 0) R0 := by
      rw [full_mgL (near_ok hox 0) (t := J01) n0 n1 lab_R0]
      exact mgL_same ((near_labels hox n0).1 1 n1 hj.symm).symm
    rw [h3, show labs (mgL R0 J01) = 5 by decide, show 5 - labs (full (near lx 0) R0) = cls lx 0 - 1 - 1 by omega, sumL_contract (t := J01) n0 n1 (near_ok hox 0) _ R0 lab_R0 (by decide)] at h2
    rw [t0]
    exact Int.le_trans h2 (Int.le_of_eq (sumL_congr (fun r => Bool.and_true _) _ _ _))
end Go.Proofs.Ytloogollfconpaa
