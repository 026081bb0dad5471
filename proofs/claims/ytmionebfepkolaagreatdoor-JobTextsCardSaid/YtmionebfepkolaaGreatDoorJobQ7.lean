/- Plans: the program's Chain. -/
import Derived.Test.YtmionebfepkolaaGreatDoorJobQ6
import Derived.Test.YtmionebfepkolaaGreatDoorYJa
set_option linter.unusedSimpArgs false
set_option linter.unusedVariables false
namespace Go.Proofs.YtmionebfepkolaaGreatDoor
open Go.RowKit Go.Maps
attribute [local go_sem] Later.cell Same.cell

set_option maxRecDepth 20000 in
set_option maxHeartbeats 2000000 in
theorem sIndex_any (A : Option Addr) (len cap : Nat) (ss : List ByteArray) (x : ByteArray) (w : World) (hm : len ≤ 9223372036854775807) (hx : Strs w w.heap.size A len ss) :
    Calls Tryz.prog 51 #[.slice A len cap, .string x] w fun e w' => e = .returned (.int .i64 (fiS (fun s => decide (s = x)) ss)) ∧ w = w' := by
  obtain rfl : ss.length = len := hx.1
  obtain ⟨R, hR⟩ : ∃ R, R = fiS (fun s => decide (s = x)) ss := ⟨_, rfl⟩
  rw [← hR]
  have HR := Lib.hid hR
  have HX := Lib.hid hx
  clear hx hR
  go_enter Tryz.func51, Tryz.ntmps51
  go_wp2
  go_loopw [8] (fun i wr => ∃ k : Nat, k ≤ ss.length ∧ i = .int .i64 k ∧ Hid (∀ j, j < k → (fun s => decide (s = x)) (ssA ss j) = false) ∧ w = wr) (fun i _ => ss.length - (intOf i).toNat)
  case atStart => exact ⟨0, Nat.zero_le _, rfl, Lib.hid (fun j hj => absurd hj (by omega)), rfl⟩
  case round =>
    obtain ⟨k, hk, rfl, hT, rfl⟩ := hrel
    by_cases hlt : k < ss.length
    · obtain ⟨b, off, rfl, hb0, hc1⟩ := HX.out.atS k hlt
      change w.cell? _ = some (.string (ssA ss k)) at hc1
      have HN := Lib.hid (fun h => fiS_at (p := fun s => decide (s = x)) hlt hT.out h)
      have HY := Lib.hid (fun h j (hj : j < k + 1) => if e : j = k then (by rw [e]; exact h : (fun s => decide (s = x)) (ssA ss j) = false) else hT.out j (by omega))
      have hk1 : (k : Int) < ss.length := by omega
      have hk2 : ¬ ss.length ≤ k := by omega
      generalize ssA ss k = X at *
      by_cases hv : X = x
      · have he : (X.toList == x.toList) = true := by rw [beqS]; exact decide_eq_true hv
        have he2 : (x.toList == X.toList) = true := by rw [beqS]; exact decide_eq_true hv.symm
        have h4 : Hid ((k : Int) = R) := Lib.hid (by rw [HR.out]; exact HN.out (decide_eq_true hv))
        clear hv HN HY
        go_wp2
        go_ret
        exact ⟨ret_int h4.out, rfl⟩
      · have he : (X.toList == x.toList) = false := by rw [beqS]; exact decide_eq_false hv
        have he2 : (x.toList == X.toList) = false := by rw [beqS]; exact decide_eq_false (Ne.symm hv)
        have h4 := Lib.hid (HY.out (decide_eq_false hv))
        clear hv HN HY
        go_wp2
        go_roundw
        case rel => exact ⟨k + 1, by omega, by go_num, h4, by first | rfl | trivial⟩
        case measure => simp [intOf]; omega
    · have hfin : Hid ((-1 : Int) = R) := Lib.hid (by rw [HR.out]; exact fiS_no fun j hj => hT.out j (by omega))
      have hk1 : ¬ (k : Int) < ss.length := by omega
      clear hT
      go_wp2
      go_ret
      exact ⟨ret_int hfin.out, rfl⟩
theorem isIn_any' (ss : List ByteArray) (x : ByteArray) : (ss.any fun s => decide (s = x)) = isIn ss x := rfl
set_option maxHeartbeats 1000000 in
theorem sContains_any (A : Option Addr) (len cap : Nat) (ss : List ByteArray) (x : ByteArray) (w : World) (hm : len ≤ 9223372036854775807) (hx : Strs w w.heap.size A len ss) :
    Calls Tryz.prog 24 #[.slice A len cap, .string x] w fun e w' => e = .returned (.bool (isIn ss x)) ∧ w = w' := by
  have c1 := sIndex_any A len cap ss x w hm hx
  have hg := fiS_ge (fun s => decide (s = x)) ss
  rw [isIn_any'] at hg
  generalize fiS (fun s => decide (s = x)) ss = I at *
  have C1 := Lib.hid c1
  have HG := Lib.hid hg
  clear c1 hx hg
  go_enter Tryz.func24, Tryz.ntmps24
  go_wp2_with fail
  refine C1.out.mono ?_
  rintro e w1 ⟨rfl, rfl⟩
  go_wp2
  go_ret
  exact ⟨ret_bool HG.out, rfl⟩
/-- A name stands among those before a task exactly if its task does. -/
theorem isIn_afs {l : List Tk} (h : okP l) {c j : Nat} (hc : c < l.length) (hj : j < l.length) : isIn (tkA l j).af (tkA l c).nm = (afs l j).contains c := by
  rw [Bool.eq_iff_iff, isIn_iff, List.contains_iff_mem]
  unfold afs
  rw [List.mem_map]
  constructor
  · intro hm; exact ⟨_, hm, h.apart c hc⟩
  · rintro ⟨s, hs, e⟩
    have := fnd_at (h.known j hj s hs)
    rw [e] at this
    rw [this]; exact hs
theorem nm_ne {l : List Tk} (h : okP l) {c : Nat} (hc : c < l.length) : (tkA l c).nm ≠ ByteArray.empty := by
  intro e
  have h1 := (okTk_spec (h.each c hc)).1
  unfold isNm at h1
  simp only [Bool.and_eq_true, decide_eq_true_eq] at h1
  rw [e] at h1
  have := h1.2.1
  simp at this
/-- The name after which the next one comes. -/
def cNm (l : List Tk) : Option Nat → ByteArray
  | none => ByteArray.empty
  | some c => (tkA l c).nm
/-- Whether a task comes after another one, on a day. -/
def folC (l : List Tk) (c : Option Nat) (j : Nat) : Bool := match c with
  | none => true
  | some i => (afs l j).contains i
def pcB (l : List Tk) (c : Option Nat) (f : Int) (j : Nat) : Bool := folC l c j && (decide (gI (ear l) j = f) && decide (gI (latP l) j = f))
theorem pcN_eq (l : List Tk) (c : Option Nat) (f : Int) : pcN l c f = (List.range l.length).find? (pcB l c f) := rfl
theorem pcN_at {l : List Tk} {c : Option Nat} {f : Int} {j : Nat} (hj : j < l.length) (h : pcB l c f j = true) (hb : ∀ q, q < j → pcB l c f q = false) : pcN l c f = some j := by
  rw [pcN_eq]
  exact List.find?_range_eq_some.2 ⟨h, List.mem_range.2 hj, fun q hq => by rw [hb q hq]; rfl⟩
theorem pcN_no {l : List Tk} {c : Option Nat} {f : Int} (hb : ∀ q, q < l.length → pcB l c f q = false) : pcN l c f = none := by
  rw [pcN_eq]
  exact List.find?_eq_none.2 fun q hq => by rw [hb q (List.mem_range.1 hq)]; decide
theorem toList_nil {s : ByteArray} : s.toList = [] ↔ s = ⟨#[]⟩ := by
  rw [ByteArray.toList_eq]
  constructor
  · intro h; exact ByteArray.ext (Array.toList_inj.1 h)
  · intro h; rw [h]
theorem chO_len {l : List Tk} (h : okP l) (o : Option Nat) (ho : ∀ i, o = some i → i < l.length) : (chO l o).length ≤ 20 := by
  have hl := h.len
  cases o with
  | none => simp [chO]
  | some i =>
    have h1 := lnk_len h (chX_lnk h i (ho i rfl)).1
    show (chX l i).length ≤ 20
    omega
theorem nxS_lt {l : List Tk} {k : Nat} : ∀ i, nxS l k = some i → i < l.length := fun i h => (nxS_some h).1
set_option maxRecDepth 20000 in
set_option maxHeartbeats 16000000 in
theorem chain1_any (A : Option Addr) (cap : Nat) (l : List Tk) (A2 : Option Addr) (cap2 : Nat) (A3 : Option Addr) (cap3 : Nat) (Bl Be Bt Bc : Nat) (w0 : World) (hS : Sml l) (hP : okP l) (hx : Plan w0 w0.heap.size A l.length l)
    (he : Ints w0 w0.heap.size A2 l.length (ear l)) (ht : Ints w0 w0.heap.size A3 l.length (latP l))
    (b1 : w0.cell? ⟨Bl, 0, none⟩ = some (.slice A l.length cap)) (b2 : w0.cell? ⟨Be, 0, none⟩ = some (.slice A2 l.length cap2)) (b3 : w0.cell? ⟨Bt, 0, none⟩ = some (.slice A3 l.length cap3))
    (b4 : w0.cell? ⟨Bc, 0, none⟩ = some (.func (.func 38) #[] #[.pointer (some ⟨Bl, 0, none⟩), .pointer (some ⟨Be, 0, none⟩), .pointer (some ⟨Bt, 0, none⟩), .pointer (some ⟨Bc, 0, none⟩)])) :
    ∀ (m : Nat) (c : Option Nat) (f : Int) (w : World), (lenV l + 1 - f).toNat ≤ m → (∀ i, c = some i → i < l.length) → Below w0.heap.size w0 w →
    Calls Tryz.prog 38 #[.string (cNm l c), .int .i64 f, .pointer (some ⟨Bl, 0, none⟩), .pointer (some ⟨Be, 0, none⟩), .pointer (some ⟨Bt, 0, none⟩), .pointer (some ⟨Bc, 0, none⟩)] w fun e w' =>
      (∃ v, e = .returned v ∧ w'.ownsRow w.heap.size 3 1 v (chO l (pcN l c f)).length (icells (iN (chO l (pcN l c f))))) ∧ Below w.heap.size w w' := by
  have q1 := World.block_lt_of_cell? w0 _ b1
  have q2 := World.block_lt_of_cell? w0 _ b2
  have q3 := World.block_lt_of_cell? w0 _ b3
  have q4 := World.block_lt_of_cell? w0 _ b4
  change Bl < _ at q1
  change Be < _ at q2
  change Bt < _ at q3
  change Bc < _ at q4
  obtain ⟨j0, hj, hy0, hy1, hy2⟩ := info_parts jinfo_int
  have hI0 := Lib.hid hj
  have hI1 := Lib.hid hy0
  have hI2 := Lib.hid hy1
  have hI3 := Lib.hid hy2
  have HS := Lib.hid hS
  have HP := Lib.hid hP
  have HX := Lib.hid hx
  have HEr := Lib.hid he
  have HLt := Lib.hid ht
  have HB1 := Lib.hid b1
  have HB2 := Lib.hid b2
  have HB3 := Lib.hid b3
  have HB4 := Lib.hid b4
  have hL := hP.len
  clear hS hP hx he ht b1 b2 b3 b4 hj hy0 hy1 hy2
  intro m
  induction m using Nat.strongRecOn with
  | _ m ih =>
    intro c f w hm hc hbw
    have IH := Lib.hid ih
    have HC := Lib.hid hc
    have HMM := Lib.hid hm
    have hbs := hbw.size
    have HBW := Lib.hid hbw
    have hsz : Hid ((cNm l c).size ≤ 9223372036854775807) := Lib.hid (by cases c with | none => simp [cNm] | some i => exact HS.out.nm i (hc i rfl))
    obtain ⟨S, hSe⟩ : ∃ S, S = cNm l c := ⟨_, rfl⟩
    rw [← hSe]
    have HSE := Lib.hid hSe
    have k1 : w.cell? ⟨Bl, 0, none⟩ = some (.slice A l.length cap) := (hbw.cell (p := ⟨Bl, 0, none⟩) q1).trans HB1.out
    clear ih hc hSe hbw hm
    go_enter Tryz.func38, Tryz.ntmps38
    go_wp2
    go_loopw [15] (fun i W => ∃ k : Nat, k ≤ l.length ∧ i = .int .i64 k ∧ Hid (∀ q, q < k → pcB l c f q = false) ∧ Below w.heap.size w W) (fun i _ => l.length - (intOf i).toNat)
    case atStart => exact ⟨0, Nat.zero_le _, rfl, Lib.hid (fun q hq => absurd hq (by omega)), Below.refl _ _⟩
    case round =>
      clear k1
      obtain ⟨k, hk, rfl, HT, hB⟩ := hrel
      have hbs2 := hB.size
      have hBw := HBW.out.trans (hB.mono hbs)
      by_cases hlt : k < l.length
      · obtain ⟨b, off, rfl, hb0, hc1, hc2, hc3, A', n, cc, hc4, hn1, hn2, hSt⟩ := (HX.out.below hBw).at_ k hlt
        obtain ⟨be, offe, rfl, hbe, e1⟩ := (HEr.out.below hBw).at_ k hlt
        obtain ⟨bt, offt, rfl, hbt, t1⟩ := (HLt.out.below hBw).at_ k hlt
        change wr.cell? _ = some (.int .i64 (gI (ear l) k)) at e1
        change wr.cell? _ = some (.int .i64 (gI (latP l) k)) at t1
        have hk1 : (k : Int) < l.length := by omega
        have hk2 : ¬ l.length ≤ k := by omega
        have hda := dy_bd HP.out hlt
        have heb := ear_bd HP.out k
        have hel := ear_end (l := l) hlt
        change 1 ≤ (tkA l k).dy ∧ (tkA l k).dy ≤ 1000 at hda
        have hdy : dyA l k = (tkA l k).dy := rfl
        rw [hdy] at hel
        obtain rfl : (tkA l k).af.length = n := hSt.1
        have hpb : pcB l c f k = (folC l c k && (decide (gI (ear l) k = f) && decide (gI (latP l) k = f))) := rfl
        have HNO : Hid (pcB l c f k = false → ∀ q, q < k + 1 → pcB l c f q = false) := Lib.hid (fun h q hq => if e : q = k then by rw [e]; exact h else HT.out q (by omega))
        have HYE : Hid (pcB l c f k = true → pcN l c f = some k) := Lib.hid (fun h => pcN_at hlt h HT.out)
        have IH2 := Lib.hid (fun W (hW : Below w0.heap.size w0 W) (he : gI (ear l) k = f) => IH.out (lenV l + 1 - (f + (tkA l k).dy)).toNat (by have := HMM.out; omega) (some k) (f + (tkA l k).dy) W (Nat.le_refl _) (fun i e => by injection e with e; subst e; exact hlt) hW)
        have HPC : Hid (gI (ear l) k = f → gI (latP l) k = f → pcN l (some k) (f + (tkA l k).dy) = nxS l k) := Lib.hid (fun h1 h2 => by have := pc_nxS HP.out hlt (by rw [h1, h2]); rw [h1] at this; exact this)
        have HCX := Lib.hid (chX_eq HP.out hlt)
        have HCL := Lib.hid (chO_len HP.out (nxS l k) nxS_lt)
        have HSt := Lib.hid hSt
        have HNM : Hid (cNm l (some k) = (tkA l k).nm) := Lib.hid rfl
        have hnn : (tkA l k).af.length ≤ 9223372036854775807 := by omega
        have HIS := Lib.hid (fun i (h : i < l.length) => isIn_afs HP.out h hlt)
        have k2 : wr.cell? ⟨Be, 0, none⟩ = some (.slice (some ⟨be, offe, none⟩) l.length cap2) := (hBw.cell (p := ⟨Be, 0, none⟩) q2).trans HB2.out
        have k3 : wr.cell? ⟨Bt, 0, none⟩ = some (.slice (some ⟨bt, offt, none⟩) l.length cap3) := (hBw.cell (p := ⟨Bt, 0, none⟩) q3).trans HB3.out
        have k4 := (hBw.cell (p := ⟨Bc, 0, none⟩) q4).trans HB4.out
        have s1 : b < wr.heap.size ∧ be < wr.heap.size ∧ bt < wr.heap.size := by omega
        have s2 : Be < wr.heap.size ∧ Bt < wr.heap.size ∧ Bc < wr.heap.size := by omega
        obtain ⟨s11, s12, s13⟩ := s1
        obtain ⟨s21, s22, s23⟩ := s2
        generalize (tkA l k).nm = X at *
        generalize (tkA l k).dy = Y at *
        generalize (tkA l k).mn = Z at *
        generalize (tkA l k).af = ss at *
        generalize gI (ear l) k = E at *
        generalize gI (latP l) k = T at *
        have hBt : Below w.heap.size w (wr.alloc (.cells #[.string X, .int .i64 Y, .int .i64 Z, .slice A' ss.length cc] 34)) := hB.alloc hbs2 _
        have HPB := Lib.hid hpb
        have HB := Lib.hid hBt
        have HBV := Lib.hid (HBW.out.trans (hBt.mono hbs))
        have c1 := sContains_any A' ss.length cc ss S (wr.alloc (.cells #[.string X, .int .i64 Y, .int .i64 Z, .slice A' ss.length cc] 34)) hnn ((hSt.below ((Below.refl w0.heap.size wr).alloc (by omega) _)).more (by simp; omega))
        clear hSt hpb HT IH hBt hB hBw
        cases c with
        | none =>
          have hfo : Hid (folC l none k = true) := Lib.hid rfl
          have hs0 : S = ⟨#[]⟩ := HSE.out
          have he1 : S.toList = [] := toList_nil.2 hs0
          clear c1 hs0
          by_cases h1 : E = f
          · by_cases h2 : T = f
            · have hp : Hid (pcN l none f = some k) := Lib.hid (HYE.out (by rw [HPB.out, hfo.out, decide_eq_true h1, decide_eq_true h2]; rfl))
              have hpc := Lib.hid (HPC.out h1 h2)
              have ih3 := IH2.out _ HBV.out h1
              rw [HNM.out] at ih3
              have IH3 := Lib.hid ih3
              have hwr : wrap64 (f + Y) = f + Y := IntWalk.wrap64_in _ ⟨by omega, by omega⟩
              have e2 : (E == f) = true := by simpa using h1
              have e3 : (T == f) = true := by simpa using h2
              clear HNO HYE HPC HPB IH2 ih3 h1 h2
              go_wp2_with fail
              refine IH3.out.mono ?_
              rintro e w5 ⟨⟨v5, rfl, ho5⟩, hb5⟩
              rw [hpc.out] at ho5
              obtain ⟨A5, cap5, rfl, hm1, hm2, hI5, -⟩ := own_ints ho5
              have HI5 := Lib.hid hI5
              have HB5 := Lib.hid (HB.out.trans (hb5.mono (by simp; omega)))
              have hcl := HCL.out
              have hs5 := hb5.size
              simp at hs5
              clear ho5 hb5 hI5
              go_wp2_with (at_builtin; go_loud (refine wpList_append_src rfl (.tmp 54) (.tmp 55) 37 rfl w.heap.size 3 j0 (.int .i64 0) 1 8 Tryz.underlying37 hI0.out hI1.out hI2.out hI3.out rfl (by decide) (.slice (some ⟨w5.heap.size, 0, none⟩) 1 1) 1 [.int .i64 (k : Int)] rfl (World.ownsRow_lit w5 #[.int .i64 (k : Int)] 1 (by omega) (by unfold maxLen; omega) rfl) (by simp) A5 (chO l (nxS l k)).length cap5 (icells (iN (chO l (nxS l k)))) rfl (by rw [icells_len, iN_len]) (by intro hA; rcases Nat.eq_zero_or_pos (chO l (nxS l k)).length with h | h; exact h; obtain ⟨q, _, hq, _⟩ := HI5.out.2 h; rw [hA] at hq; cases hq) ((HI5.out.below (below_alloc (Below.refl _ _) _)).more (B' := w5.heap.size + 1) (by omega)).cells (icells_one _) (by unfold maxLen; omega) (by omega) (by simp; omega) ?_); intro v8 w8 hown8 hgrow8 _)
              have hb9 : Below w.heap.size (w5.alloc (.cells #[.int .i64 (k : Int)] 3)) w8 := grown_below hgrow8 (by simp; omega) (fun q hq => by simp [Value.ownBlock] at hq; omega)
              have hb10 : Below w.heap.size w w8 := (HB5.out.alloc (by omega) _).trans hb9
              have HR : Hid (w8.ownsRow w.heap.size 3 1 v8 (chO l (pcN l none f)).length (icells (iN (chO l (pcN l none f))))) := Lib.hid (by
                rw [hp.out]
                show w8.ownsRow w.heap.size 3 1 v8 (chX l k).length (icells (iN (chX l k)))
                rw [HCX.out, List.length_cons, Nat.add_comm]
                exact hown8)
              clear hown8 hgrow8 hb9
              go_wp2
              go_ret
              exact ⟨⟨_, rfl, HR.out⟩, hb10⟩
            · have hno := Lib.hid (HNO.out (by rw [HPB.out, hfo.out, decide_eq_false h2]; simp))
              have e2 : (E == f) = true := by simpa using h1
              have e3 : (T == f) = false := by simpa using h2
              clear HNO HYE HPC HPB IH2 h1 h2
              go_wp2
              go_roundw
              case rel => exact ⟨k + 1, by omega, by go_num, hno, HB.out⟩
              case measure => simp [intOf]; omega
          · have hno := Lib.hid (HNO.out (by rw [HPB.out, hfo.out, decide_eq_false h1]; simp))
            have e2 : (E == f) = false := by simpa using h1
            clear HNO HYE HPC HPB IH2 h1
            go_wp2
            go_roundw
            case rel => exact ⟨k + 1, by omega, by go_num, hno, HB.out⟩
            case measure => simp [intOf]; omega
        | some i =>
          have hil := HC.out i rfl
          have hs0 : ¬ S = ⟨#[]⟩ := fun e => nm_ne HP.out hil (HSE.out.symm.trans e)
          have he1 : ¬ S.toList = [] := fun h => hs0 (toList_nil.1 h)
          have hSn : S = (tkA l i).nm := HSE.out
          rw [hSn, HIS.out i hil] at c1
          rw [← hSn] at c1
          have hfe : folC l (some i) k = (afs l k).contains i := rfl
          cases hcn : (afs l k).contains i
          · rw [hcn] at c1 hfe
            have C1 := Lib.hid c1
            have hno := Lib.hid (HNO.out (by rw [HPB.out, hfe]; rfl))
            clear c1 hcn hfe hSn hs0 hil HNO HYE HPC HPB IH2
            go_wp2_with fail
            refine C1.out.mono ?_
            rintro e w1 ⟨rfl, rfl⟩
            go_wp2
            go_roundw
            case rel => exact ⟨k + 1, by omega, by go_num, hno, HB.out⟩
            case measure => simp [intOf]; omega
          · rw [hcn] at c1 hfe
            have C1 := Lib.hid c1
            have hfo := Lib.hid hfe
            clear c1 hcn hfe hSn hs0 hil
            by_cases h1 : E = f
            · by_cases h2 : T = f
              · have hp : Hid (pcN l (some i) f = some k) := Lib.hid (HYE.out (by rw [HPB.out, hfo.out, decide_eq_true h1, decide_eq_true h2]; rfl))
                have hpc := Lib.hid (HPC.out h1 h2)
                have ih3 := IH2.out _ HBV.out h1
                rw [HNM.out] at ih3
                have IH3 := Lib.hid ih3
                have hwr : wrap64 (f + Y) = f + Y := IntWalk.wrap64_in _ ⟨by omega, by omega⟩
                have e2 : (E == f) = true := by simpa using h1
                have e3 : (T == f) = true := by simpa using h2
                clear HNO HYE HPC HPB IH2 ih3 h1 h2
                go_wp2_with fail
                refine C1.out.mono ?_
                rintro e w1 ⟨rfl, rfl⟩
                go_wp2_with fail
                refine IH3.out.mono ?_
                rintro e w5 ⟨⟨v5, rfl, ho5⟩, hb5⟩
                rw [hpc.out] at ho5
                obtain ⟨A5, cap5, rfl, hm1, hm2, hI5, -⟩ := own_ints ho5
                have HI5 := Lib.hid hI5
                have HB5 := Lib.hid (HB.out.trans (hb5.mono (by simp; omega)))
                have hcl := HCL.out
                have hs5 := hb5.size
                simp at hs5
                clear ho5 hb5 hI5
                go_wp2_with (at_builtin; go_loud (refine wpList_append_src rfl (.tmp 54) (.tmp 55) 37 rfl w.heap.size 3 j0 (.int .i64 0) 1 8 Tryz.underlying37 hI0.out hI1.out hI2.out hI3.out rfl (by decide) (.slice (some ⟨w5.heap.size, 0, none⟩) 1 1) 1 [.int .i64 (k : Int)] rfl (World.ownsRow_lit w5 #[.int .i64 (k : Int)] 1 (by omega) (by unfold maxLen; omega) rfl) (by simp) A5 (chO l (nxS l k)).length cap5 (icells (iN (chO l (nxS l k)))) rfl (by rw [icells_len, iN_len]) (by intro hA; rcases Nat.eq_zero_or_pos (chO l (nxS l k)).length with h | h; exact h; obtain ⟨q, _, hq, _⟩ := HI5.out.2 h; rw [hA] at hq; cases hq) ((HI5.out.below (below_alloc (Below.refl _ _) _)).more (B' := w5.heap.size + 1) (by omega)).cells (icells_one _) (by unfold maxLen; omega) (by omega) (by simp; omega) ?_); intro v8 w8 hown8 hgrow8 _)
                have hb9 : Below w.heap.size (w5.alloc (.cells #[.int .i64 (k : Int)] 3)) w8 := grown_below hgrow8 (by simp; omega) (fun q hq => by simp [Value.ownBlock] at hq; omega)
                have hb10 : Below w.heap.size w w8 := (HB5.out.alloc (by omega) _).trans hb9
                have HR : Hid (w8.ownsRow w.heap.size 3 1 v8 (chO l (pcN l (some i) f)).length (icells (iN (chO l (pcN l (some i) f))))) := Lib.hid (by
                  rw [hp.out]
                  show w8.ownsRow w.heap.size 3 1 v8 (chX l k).length (icells (iN (chX l k)))
                  rw [HCX.out, List.length_cons, Nat.add_comm]
                  exact hown8)
                clear hown8 hgrow8 hb9
                go_wp2
                go_ret
                exact ⟨⟨_, rfl, HR.out⟩, hb10⟩
              · have hno := Lib.hid (HNO.out (by rw [HPB.out, hfo.out, decide_eq_false h2]; simp))
                have e2 : (E == f) = true := by simpa using h1
                have e3 : (T == f) = false := by simpa using h2
                clear HNO HYE HPC HPB IH2 h1 h2
                go_wp2_with fail
                refine C1.out.mono ?_
                rintro e w1 ⟨rfl, rfl⟩
                go_wp2
                go_roundw
                case rel => exact ⟨k + 1, by omega, by go_num, hno, HB.out⟩
                case measure => simp [intOf]; omega
            · have hno := Lib.hid (HNO.out (by rw [HPB.out, hfo.out, decide_eq_false h1]; simp))
              have e2 : (E == f) = false := by simpa using h1
              clear HNO HYE HPC HPB IH2 h1
              go_wp2_with fail
              refine C1.out.mono ?_
              rintro e w1 ⟨rfl, rfl⟩
              go_wp2
              go_roundw
              case rel => exact ⟨k + 1, by omega, by go_num, hno, HB.out⟩
              case measure => simp [intOf]; omega
      · have hkl : k = l.length := by omega
        have hk1 : ¬ (k : Int) < l.length := by omega
        have hp : Hid (pcN l c f = none) := Lib.hid (pcN_no fun q hq => HT.out q (by omega))
        have HB := Lib.hid hB
        have HR : Hid (wr.ownsRow w.heap.size 3 1 (.slice none 0 0) (chO l (pcN l c f)).length (icells (iN (chO l (pcN l c f))))) := Lib.hid (by rw [hp.out]; exact World.ownsRow_nil _ _ _ _)
        clear HT hB hBw
        subst hkl
        go_wp2
        go_ret
        exact ⟨⟨_, rfl, HR.out⟩, HB.out⟩
end Go.Proofs.YtmionebfepkolaaGreatDoor
