/- How high one can come: the program. -/
import Derived.Test.YtecocbohaggokaaReachP
set_option linter.unusedSimpArgs false
set_option linter.unusedVariables false
namespace Go.Proofs.Ytecocbohaggokaa
open Go.RowKit Go.Maps
attribute [local go_sem] Later.cell

def metM (R : List Nat) (q : Int) : Option Bool := if q = -1 ∨ q ∈ R.map (fun k : Nat => (k : Int)) then some true else none
theorem metM_nil : metM [] = upd (fun _ => none) (-1) true := by
  funext q
  unfold metM upd
  by_cases h : q = -1
  · rw [if_pos (.inl h), if_pos h]
  · rw [if_neg (by simpa using h), if_neg h]
theorem metM_add (R : List Nat) (d : Nat) : upd (metM R) (d : Int) true = metM (R ++ [d]) := by
  funext q
  show (if q = (d : Int) then some true else metM R q) = metM (R ++ [d]) q
  by_cases h : q = (d : Int)
  · rw [if_pos h]
    unfold metM
    rw [if_pos]
    right; rw [h]; simp
  · rw [if_neg h]
    unfold metM
    have e : (q = -1 ∨ q ∈ (R ++ [d]).map (fun k : Nat => (k : Int))) ↔ (q = -1 ∨ q ∈ R.map (fun k : Nat => (k : Int))) := by
      simp only [List.map_append, List.mem_append, List.map_cons, List.map_nil, List.mem_cons, List.not_mem_nil, or_false]
      constructor
      · rintro (h1 | h1 | h1)
        · exact .inl h1
        · exact .inr h1
        · exact absurd h1 h
      · rintro (h1 | h1)
        · exact .inl h1
        · exact .inr (.inl h1)
    by_cases h2 : q = -1 ∨ q ∈ R.map (fun k : Nat => (k : Int))
    · rw [if_pos h2, if_pos (e.2 h2)]
    · rw [if_neg h2, if_neg (fun hh => h2 (e.1 hh))]
theorem metM_mem {R : List Nat} {q : Int} : (metM R q).isSome = true ↔ q = -1 ∨ ∃ b ∈ R, q = (b : Int) := by
  unfold metM
  have e : q ∈ R.map (fun k : Nat => (k : Int)) ↔ ∃ b ∈ R, q = (b : Int) := by
    rw [List.mem_map]; exact ⟨fun ⟨b, h1, h2⟩ => ⟨b, h1, h2.symm⟩, fun ⟨b, h1, h2⟩ => ⟨b, h1, h2.symm⟩⟩
  by_cases h : q = -1 ∨ q ∈ R.map (fun k : Nat => (k : Int))
  · rw [if_pos h]; rw [e] at h; simp [h]
  · rw [if_neg h]; rw [e] at h; simp [h]
abbrev MapB (w : World) (b n : Nat) (M : Int → Option Bool) : Prop := MapV Try.prog 3 4 ilit blit false w b n M
theorem underB : Try.prog.underlying 4 = some .bool := Try.underlying4
def ROut (c : Clb) (l : List J) (w2 : World) (mb n : Nat) (f i : Value) (wr : World) : Prop :=
  ∃ (p : Nat) (R : List Nat) (F : Int) (m : Nat), p ≤ n ∧ i = .int .i64 p ∧ f = .int .i64 F ∧ F = farS c l ((sndL l l.length).take p) ∧ Hid (FarI l R F) ∧ Hid (∀ b ∈ R, b ∈ (sndL l l.length).take p) ∧ m ≤ p + 1 ∧ Hid (MapB wr mb m (metM R)) ∧ w2.grownBy wr (some mb)
theorem ROut.mk {c : Clb} {l : List J} {w2 : World} {mb n : Nat} {f i : Value} {wr : World} (p : Nat) (R : List Nat) (F : Int) (m : Nat) (h1 : p ≤ n) (h2 : i = .int .i64 p) (h3 : f = .int .i64 F) (h4 : F = farS c l ((sndL l l.length).take p)) (h5 : Hid (FarI l R F)) (h6 : Hid (∀ b ∈ R, b ∈ (sndL l l.length).take p)) (h7 : m ≤ p + 1) (h8 : Hid (MapB wr mb m (metM R))) (h9 : w2.grownBy wr (some mb)) : ROut c l w2 mb n f i wr := ⟨p, R, F, m, h1, h2, h3, h4, h5, h6, h7, h8, h9⟩
def RInn (c : Clb) (l : List J) (w2 : World) (mb rb m d : Nat) (F : Int) (D : DataW Unit) (f : Value) (wr : World) : Prop :=
  f = .int .i64 F ∧ ∃ (left : Lit → Bool) (cnt : Nat), Hid (wr.ranges Try.prog 3 (plainElem Try.prog 4) mb rb m D left cnt) ∧ Hid (∀ q : Int, Maps.has D (ilit q) = true → left (ilit q) = false → folB c l q d = false) ∧ w2.grownBy wr (some mb) ∧ rb < wr.heap.size
theorem RInn.mk {c : Clb} {l : List J} {w2 : World} {mb rb m d : Nat} {F : Int} {D : DataW Unit} {f : Value} {wr : World} (h0 : f = .int .i64 F) (left : Lit → Bool) (cnt : Nat) (h1 : Hid (wr.ranges Try.prog 3 (plainElem Try.prog 4) mb rb m D left cnt)) (h2 : Hid (∀ q : Int, Maps.has D (ilit q) = true → left (ilit q) = false → folB c l q d = false)) (h3 : w2.grownBy wr (some mb)) (h4 : rb < wr.heap.size) : RInn c l w2 mb rb m d F D f wr := ⟨h0, left, cnt, h1, h2, h3, h4⟩

set_option maxRecDepth 20000 in
set_option maxHeartbeats 8000000 in
theorem reach_any (c : Clb) (A : Option Addr) (len cap : Nat) (l : List J) (w : World) (hv1 : vC c = true) (hv2 : vJ l = true) (hx : Rows 2 jointV dJ w w.heap.size A len l) :
    Calls Try.prog 57 #[climbV c, .slice A len cap] w fun e w' => e = .returned (.int .i64 (reachC c l)) ∧ Below w.heap.size w w' := by
  have hvj := vJ_spec hv2
  obtain rfl : l.length = len := hx.1
  have hlen2 : l.length ≤ 200 := hvj.1
  have c1 := fun W (h : Below w.heap.size w W) => sound_any A l.length cap l W (by omega) ((hx.below h).more h.size)
  have c3 := fun b D W (h : Below w.heap.size w W) (hb : b < (l.length : Int)) (hD : D < l.length) => follows_any c A l.length cap l b D W (by omega) ((hx.below h).more h.size) hvj.2.1 hb hD
  have C1 := Lib.hid c1
  have C3 := Lib.hid c3
  have HX := Lib.hid hx
  have HVJ := Lib.hid hvj
  have hmm := @run_makeMap Try.prog
  clear c1 c3 hx hvj hv1 hv2
  have hM0 : MapB ((w.alloc (.cells #[.int .i64 c.fi, .int .i64 c.ga, .int .i64 c.to, .int .i64 c.le, .int .i64 c.la, .int .i64 c.st] 23)).alloc (.map #[] 0)) (w.heap.size + 1) 0 (fun _ => none) := by
    have h := mapv_made (w.alloc (.cells #[.int .i64 c.fi, .int .i64 c.ga, .int .i64 c.to, .int .i64 c.le, .int .i64 c.la, .int .i64 c.st] 23)) Try.prog 3 4 ilit blit false
    have e : (w.alloc (.cells #[.int .i64 c.fi, .int .i64 c.ga, .int .i64 c.to, .int .i64 c.le, .int .i64 c.la, .int .i64 c.st] 23)).heap.size = w.heap.size + 1 := by simp
    rw [e] at h
    exact h
  have hC0 : ClimbAt ((w.alloc (.cells #[.int .i64 c.fi, .int .i64 c.ga, .int .i64 c.to, .int .i64 c.le, .int .i64 c.la, .int .i64 c.st] 23)).alloc (.map #[] 0)) w.heap.size c :=
    (climbAt_box w c _).block ((Below.alloc (Below.refl _ _) (Nat.le_refl _) _).block w.heap.size (by simp))
  have hB00 : Below w.heap.size w ((w.alloc (.cells #[.int .i64 c.fi, .int .i64 c.ga, .int .i64 c.to, .int .i64 c.le, .int .i64 c.la, .int .i64 c.st] 23)).alloc (.map #[] 0)) := (by repeat (first | exact Below.refl _ _ | assumption | refine Below.setCell ?_ (by first | (simp; done) | (simp; omega) | omega) _ | refine Below.drew ?_ | refine below_drewN ?_ _ | refine Below.alloc ?_ (by first | (simp; done) | (simp; omega) | omega) _ | refine below_alloc ?_ _ | refine below_step ?_ (by assumption)))
  have hS00 : ((w.alloc (.cells #[.int .i64 c.fi, .int .i64 c.ga, .int .i64 c.to, .int .i64 c.le, .int .i64 c.la, .int .i64 c.st] 23)).alloc (.map #[] 0)).heap.size = w.heap.size + 2 := by simp
  have HM0 := Lib.hid hM0
  have HC0 := Lib.hid hC0
  have HB00 := Lib.hid hB00
  have HS00 := Lib.hid hS00
  clear hM0 hC0 hB00 hS00
  go_enter Try.func57, Try.ntmps57
  go_wp2_with (refine wpList_mapv_ins (κ := Int) (M := fun _ => none) rfl (.tmp 10) (.const (.int .i64 (-1))) (.const (.bool true)) 79 rfl lawI Try.underlying79 (fun _ _ => ilit_inj) (fun _ => trivial) rfl HM0.out (by unfold maxLen; omega) (-1) true _ _ rfl rfl (keyOf_int_mk Try.underlying3 (by decide)) (plainElem_bool underB true) ?_; intro w1 hM1 hg1)
  rw [← metM_nil] at hM1
  have hB1 : Below w.heap.size w w1 := HB00.out.trans (grown_below hg1 (by rw [HS00.out]; omega) (fun k hk => by injection hk; omega))
  have hs1 := hg1.size
  rw [HS00.out] at hs1
  have hC1 := HC0.out.block (hg1.block w.heap.size (by rw [HS00.out]; omega) (by simp))
  have HM1 := Lib.hid hM1
  have HC1 := Lib.hid hC1
  have HB1 := Lib.hid hB1
  clear hM1 hg1 hC1 hB1 hmm
  go_wp2_with fail
  refine (C1.out _ HB1.out).mono ?_
  rintro e w2 ⟨⟨v, rfl, ho⟩, hb⟩
  obtain ⟨A1, cap1, rfl, hn1, hn2, hI, hg1⟩ := own_ints ho
  have hsl : (sndI l l.length).length = (sndL l l.length).length := by simp [sndI]
  rw [hsl] at hI hg1 hn1 ⊢
  have hNl := sndL_len l l.length
  have hM2 := HM1.out.block (hb.block (w.heap.size + 1) (by omega))
  have hC2 := HC1.out.block (hb.block w.heap.size (by omega))
  have hB2 : Below w.heap.size w w2 := HB1.out.trans (hb.mono (by omega))
  have hs2 : w.heap.size + 2 ≤ w2.heap.size := Nat.le_trans hs1 hb.size
  have hne : ∀ b off, 0 < (sndL l l.length).length → A1 = some ⟨b, off, none⟩ → b ≠ w.heap.size + 1 := fun b off h0 h1 => by
    obtain ⟨g, h2, h3, _⟩ := hg1 h0
    rw [h1] at h2
    injection h2 with h2
    injection h2 with h4 h5 h6
    omega
  have HM2 := Lib.hid hM2
  have HC := Lib.hid hC2
  have HI := Lib.hid hI
  have HNE := Lib.hid hne
  clear ho hb hg1 hM2 hC2 hI hne hsl
  generalize hnn : (sndL l l.length).length = n at *
  have HNN := Lib.hid hnn
  clear hnn
  go_wp2
  go_loopw [6, 15] (fun f i wr => ROut c l w2 (w.heap.size + 1) n f i wr) (fun _ i _ => n - (intOf i).toNat)
  case atStart => exact ROut.mk 0 [] 0 1 (Nat.zero_le _) rfl rfl rfl (Lib.hid (.inl ⟨rfl, rfl⟩)) (Lib.hid (fun b hb => by cases hb)) (by omega) HM2 (below_grown (Below.refl _ _) _)
  case round =>
    obtain ⟨p, R, F, m, hp, rfl, rfl, hF, hFI, hRm, hm, HM, hg⟩ := hrel
    have HF := Lib.hid hF
    clear hF
    have hBr : Below w.heap.size w wr := hB2.trans (grown_below hg (by omega) (fun k hk => by injection hk; omega))
    have hsr := hg.size
    by_cases hlt : p < n
    · obtain ⟨d, hd⟩ : ∃ d, (sndL l l.length)[p]? = some d := ⟨_, List.getElem?_eq_getElem (by rw [HNN.out]; exact hlt)⟩
      have hdl := (mem_sndL.1 (List.mem_iff_getElem?.2 ⟨p, hd⟩)).1
      obtain ⟨b, off, hA1, hb0, hc0⟩ := (HI.out.grown hg (Nat.le_refl _) (fun b off h0 h1 => HNE.out b off h0 h1)).at_ p hlt
      have hcast : (sndI l l.length)[p]?.getD 0 = (d : Int) := cast_at hd
      rw [hcast] at hc0
      subst hA1
      have hRd : ∀ b ∈ R, b < d := fun b hb => sndL_lt hd (hRm.out b hb)
      have hRh : ∀ b ∈ R, hgt l b < hgt l d := fun b hb => HVJ.out.2.2 b d (hRd b hb) hdl
      have hcan := hFI.out.can (c := c) hRd
      have htk : (sndL l l.length).take (p + 1) = (sndL l l.length).take p ++ [d] := by
        have hlt' := (List.getElem?_eq_some_iff.1 hd).1
        rw [List.take_succ_eq_append_getElem hlt', (List.getElem?_eq_some_iff.1 hd).2]
      have hfs : farS c l ((sndL l l.length).take (p + 1)) = if canB c F (hgt l d) then hgt l d else F := by rw [htk, farS_snoc, ← HF.out]
      have hadd := hFI.out.add (HVJ.out.2.1 d hdl).1 hRh
      have HCAN := Lib.hid hcan
      have HFS := Lib.hid hfs
      have HADD := Lib.hid hadd
      have HTK := Lib.hid htk
      have HRD := Lib.hid hRd
      obtain ⟨D, hD1, hD2, hD3, hD4⟩ := HM.out
      have HD3 := Lib.hid hD3
      have HD2 := Lib.hid hD2
      have HD4 := Lib.hid hD4
      have hb1 : b < wr.heap.size := by omega
      have hd1 : (d : Int) < l.length := by omega
      have hd2 : ¬ l.length ≤ d := by omega
      have hp1 : (p : Int) < n := by omega
      clear hcast hRd hRh hcan htk hfs hadd hD2 hD3 hD4
      go_wp2_with (at_range; refine wpList_range_own _ rfl (.tmp 19) 79 rfl 3 4 lawI Try.underlying79 _ (w.heap.size + 1) m D rfl hD1 ?_; intro w0 hrg0 hg0 hs0)
      go_frame
      have hg00 : w2.grownBy w0 (some (w.heap.size + 1)) := hg.andThen hg0 (fun j hj => by cases hj)
      have HR0 := Lib.hid hrg0
      have hrb : wr.heap.size < w0.heap.size := by omega
      obtain ⟨rb, hrbe⟩ : ∃ rb, rb = wr.heap.size := ⟨_, rfl⟩
      rw [← hrbe] at HR0 hrb ⊢
      have hrb2 : w2.heap.size ≤ rb := by rw [hrbe]; exact hsr
      clear hrg0 hg0 hs0 hD1 hrbe hc0 hg hBr hsr hb1
      go_loopw [6, 9] (fun f _ wr => RInn c l w2 (w.heap.size + 1) rb m d F D f wr) (fun _ _ wr => wr.rangeLeft (w.heap.size + 1) rb)
      case atStart => exact RInn.mk rfl _ _ HR0 (Lib.hid (fun q h1 h2 => by rw [h1] at h2; cases h2)) hg00 hrb
      case round =>
        obtain ⟨rfl, left, cnt, HR, HL, hg, hrb⟩ := hrel
        have hBr : Below w.heap.size w wr := hB2.trans (grown_below hg (by omega) (fun k hk => by injection hk; omega))
        have hsr := hg.size
        go_wp2_with (at_next; refine wpList_next_ranges _ rfl (.tmp 20) rfl 3 lawI (plainElem Try.prog 4) (Value.int .i64) (fun v : Value => v) (fun key kl hkey => by obtain ⟨x, rfl, _⟩ := Maps.keyOf_int_inv Try.underlying3 hkey; exact ⟨x, rfl⟩) (fun v y hv => ⟨v, rfl⟩) (w.heap.size + 1) rb m D left cnt rfl HR.out ?_ ?_)
        · intro hc0 hl0
          have hno : canB c F (hgt l d) = false := by
            cases hcb : canB c F (hgt l d)
            · rfl
            · exfalso
              rcases HCAN.out.1 hcb with h | ⟨b, h1, h2⟩
              · rw [HL.out (-1) (by rw [HD3.out]; exact metM_mem.2 (.inl rfl)) (hl0 _)] at h; cases h
              · rw [HL.out b (by rw [HD3.out]; exact metM_mem.2 (.inr ⟨b, h1, rfl⟩)) (hl0 _)] at h2; cases h2
          have h4 : Hid (F = farS c l ((sndL l l.length).take (p + 1))) := Lib.hid (by rw [HFS.out, hno]; rfl)
          have hRm2 : Hid (∀ b ∈ R, b ∈ (sndL l l.length).take (p + 1)) := Lib.hid (fun b hb => by rw [HTK.out]; simp [hRm.out b hb])
          have HM2 : Hid (MapB wr (w.heap.size + 1) m (metM R)) := Lib.hid ⟨D, HR.out.owns, HD2.out, HD3.out, HD4.out⟩
          clear hno hc0 hl0
          go_wp2
          go_roundw
          case rel => exact ROut.mk (p + 1) R F m (by omega) (by go_num) rfl h4.out hFI hRm2 (by omega) HM2 hg
          case measure => first | (simp [intOf]; done) | (simp [intOf]; omega)
        · intro x ce kl y1 y2 w5 cnt1 hkey hlk hv hat hrg1 hlt1 hg1 hs1 hen
          obtain ⟨x', ex, rfl, hwx⟩ := Maps.keyOf_int_inv Try.underlying3 hkey
          cases ex
          have hhas : Maps.has D (ilit x) = true := Maps.has_true_of_atKey hat
          have hxm := metM_mem.1 (by rw [← HD3.out]; exact hhas : (metM R x).isSome = true)
          have hxl : x < (l.length : Int) := by
            rcases hxm with h | ⟨b, h1, h2⟩
            · omega
            · have := HRD.out b h1; omega
          have hg5 : w2.grownBy w5 (some (w.heap.size + 1)) := hg.andThen hg1 (fun j hj => by injection hj with hj; left; omega)
          have hB5 : Below w.heap.size w w5 := hB2.trans (grown_below hg5 (by omega) (fun k hk => by injection hk; omega))
          have c5 := fun W (h : Below w.heap.size w W) => C3.out x d W h hxl hdl
          obtain ⟨q0, q1, q2, q3, q4, q5⟩ := HC.out.block (hg5.block w.heap.size (by omega) (by simp))
          have hs5 : w.heap.size + 1 < w5.heap.size := by omega
          have hrb5 : rb < w5.heap.size := by omega
          have HR1 := Lib.hid hrg1
          have hmeas : Hid (wr.rangeLeft (w.heap.size + 1) rb = cnt) := Lib.hid HR.out.left_eq
          cases hfo : folB c l x d
          · rw [hfo] at c5
            have C5 := Lib.hid c5
            have HFO := Lib.hid hfo
            have HXS : Hid (∀ q : Int, Maps.has D (ilit q) = true → (left (ilit q) && !(ilit q).sameKey (.int .i64 x)) = false → folB c l q d = false) := Lib.hid (fun q h1 h2 => by
              cases hlq : left (ilit q)
              · exact HL.out q h1 hlq
              · rw [hlq, Bool.true_and, Bool.not_eq_false'] at h2
                have := ilit_inj (WideAt.sameKey_eq h2)
                rw [this]; exact HFO.out)
            clear c5 hkey hlk hv hat hrg1 hg1 hhas hxm hfo HR HL
            go_wp2_with fail
            refine (C5.out _ hB5).mono ?_
            rintro e w6 ⟨rfl, hb⟩
            have HR2 := Lib.hid (HR1.out.kept (below_grown hb none) (by simp) (by simp))
            have hg6 : w2.grownBy w6 (some (w.heap.size + 1)) := hg5.andThen (below_grown hb none) (fun j hj => by cases hj)
            have hrb6 : rb < w6.heap.size := Nat.lt_of_lt_of_le hrb5 hb.size
            clear hb hg5 HR1
            go_wp2
            go_roundw
            case rel => exact RInn.mk rfl _ cnt1 HR2 HXS hg6 hrb6
            case measure => rw [HR2.out.left_eq, hmeas.out]; exact hlt1
          · rw [hfo] at c5
            have C5 := Lib.hid c5
            have hcb : canB c F (hgt l d) = true := HCAN.out.2 (by
              rcases hxm with h | ⟨b, h1, h2⟩
              · left; rw [← h]; exact hfo
              · right; exact ⟨b, h1, by rw [← h2]; exact hfo⟩)
            have h4 : Hid (hgt l d = farS c l ((sndL l l.length).take (p + 1))) := Lib.hid (by rw [HFS.out, hcb]; rfl)
            have hRm2 : Hid (∀ b ∈ R ++ [d], b ∈ (sndL l l.length).take (p + 1)) := Lib.hid (fun b hb => by
              rw [HTK.out]
              rcases List.mem_append.1 hb with hb | hb
              · simp [hRm.out b hb]
              · have hbd : b = d := by simpa using hb
                rw [hbd]; simp)
            have HM5 : Hid (MapB w5 (w.heap.size + 1) m (metM R)) := Lib.hid ⟨D, HR1.out.owns, HD2.out, HD3.out, HD4.out⟩
            clear c5 hkey hlk hv hat hrg1 hg1 hhas hxm hfo HR HL hcb HR1 hmeas
            go_wp2_with fail
            refine (C5.out _ hB5).mono ?_
            rintro e w6 ⟨rfl, hb⟩
            have HM6 := Lib.hid (HM5.out.below hb)
            have hg6 : w2.grownBy w6 (some (w.heap.size + 1)) := hg5.andThen (below_grown hb none) (fun j hj => by cases hj)
            have hB6 : Below w.heap.size w w6 := hB5.trans (hb.mono hB5.size)
            have hs6 := hb.size
            clear hb hg5 HM5 q0 q1 q2 q3 q4 q5 hen
            obtain ⟨b2, off2, rfl, hb2', hj1', hj2'⟩ := HX.out.atJ d hdl
            have HG : Hid (∀ W, w6.grownBy W (some (w.heap.size + 1)) → w2.grownBy W (some (w.heap.size + 1))) := Lib.hid (fun W h => hg6.andThen h (fun j hj => by injection hj with hj; right; rw [hj]))
            have HJ : Hid (∀ W, w2.grownBy W (some (w.heap.size + 1)) → b2 < W.heap.size ∧ W.cell? ⟨b2, off2 + d * 2, none⟩ = some (.int .i64 (hgt l d))) := Lib.hid (fun W h => by
              have hB7 : Below w.heap.size w W := hB2.trans (grown_below h (by omega) (fun k hk => by injection hk; omega))
              obtain ⟨b3, off3, he, h0, h1, h2⟩ := (HX.out.below hB7).atJ d hdl
              cases he
              have := hB7.size
              exact ⟨by omega, h1⟩)
            clear hj1' hj2' hg6 hB6 hB5
            go_wp2_with (at_mapUpdate; refine wpList_mapv_put (κ := Int) rfl (.tmp 30) (.tmp 31) (.const (.bool true)) 79 rfl lawI Try.underlying79 (fun _ _ => ilit_inj) (fun _ => trivial) rfl HM6.out (by unfold maxLen; omega) (d : Int) true _ _ rfl rfl (keyOf_int_mk Try.underlying3 (WalkArith.wf_i64 (by omega))) (plainElem_bool underB true) ?_; intro w7 hM7 hg7; have hg8 := HG.out _ hg7; have hj78 := HJ.out _ hg8; have hb27 := hj78.1; have hj1 := hj78.2; clear hj78)
            rw [metM_add] at hM7
            have HM7 := Lib.hid hM7
            generalize hgt l d = X at *
            clear hM7 hg7
            try go_wp2
            go_roundw
            case rel => exact ROut.mk (p + 1) (R ++ [d]) X (m + 1) (by omega) (by go_num) rfl h4.out HADD hRm2 (by omega) HM7 hg8
            case measure => first | (simp [intOf]; done) | (simp [intOf]; omega)
    · have hfin : Hid (F = reachC c l) := Lib.hid (by
        have h5 := HF.out
        rw [show p = n by omega, ← HNN.out, List.take_length] at h5
        exact h5)
      go_wp2
      go_ret
      exact ⟨ret_int hfin.out, hBr⟩
end Go.Proofs.Ytecocbohaggokaa
