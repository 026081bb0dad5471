/- Plans: the program's earliest days. -/
import Derived.Test.YtgijekhlbkfanaaJobQ3
import Derived.Test.YtgijekhlbkfanaaTail
set_option linter.unusedSimpArgs false
set_option linter.unusedVariables false
namespace Go.Proofs.Ytgijekhlbkfanaa
open Go.RowKit Go.Maps
attribute [local go_sem] Later.cell Same.cell

theorem afs_get {l : List Tk} {i j : Nat} (h : j < (tkA l i).af.length) : (afs l i)[j]'(by rw [afs_len]; exact h) = fnd l (afA l i j) := by
  unfold afs
  rw [List.getElem_map]
  unfold afA
  rw [List.getElem?_eq_getElem h]; rfl
theorem jmade1 (n : Nat) : (madeCells (Value.int .i64 0).cells (n * 1)).toList = icells (List.replicate n 0) := by
  apply List.ext_getElem?
  intro i
  by_cases hi : i < n
  · have e : (Value.int .i64 0).cells = #[.int .i64 0] := rfl
    rw [e]
    simp [madeCells, hi, icells, Nat.mod_one]
  · simp [madeCells, hi, icells]
theorem own_not_mapn {W : World} {base : Nat} {e : TypeId} {size : Nat} {v : Value} {n : Nat} {xs : List Value} (ho : W.ownsRow base e size v n xs) {mb mn : Nat} {M : ByteArray → Option Int} (hM : MapN W mb mn M) : some mb ≠ v.ownBlock := by
  intro hh
  obtain ⟨D, ⟨es, clock, hD, -⟩, -⟩ := hM
  rcases ho.2 with ⟨h1, _⟩ | ⟨g, cap, cur, h1, _, h3, _⟩
  · rw [h1] at hh; simp [Value.ownBlock] at hh
  · rw [h1] at hh
    have : mb = g := by simpa [Value.ownBlock] using hh
    subst this
    rw [hD] at h3; cases h3
structure EaR (l : List Tk) (w : World) (nb g : Nat) (A1 : Option Addr) (n cap1 : Nat) (out : List Int) (W : World) : Prop where
  own : W.ownsRow w.heap.size 3 1 (.slice (some ⟨g, 0, none⟩) l.length l.length) l.length (icells out)
  map : MapN W nb l.length (fndM l l.length)
  ord : W.ownsRow (g + 1) 3 1 (.slice A1 n cap1) n (icells (iN (ord l)))
  bel : Below w.heap.size w W
theorem EaR.store {l : List Tk} {w : World} {nb g : Nat} {A1 : Option Addr} {n cap1 : Nat} {out : List Int} {W : World} (h : EaR l w nb g A1 n cap1 out W) (i : Nat) (v : Int) : EaR l w nb g A1 n cap1 (out.set i v) (W.setCell ⟨g, i, none⟩ (.int .i64 v)) := by
  obtain ⟨h1, h2⟩ := jown_store h.own i v
  have hg := (jown_at h.own).2.1
  refine ⟨h1, h.map.setCell (fun e => own_not_mapn h.own h.map (by simp [Value.ownBlock]; exact e.symm)) _, h.ord.kept h2 (.inr fun e => ?_), h.bel.setCell (p := ⟨g, i, none⟩) hg _⟩
  have := (h.ord.lt g e).1
  omega
theorem EaR.later {l : List Tk} {w : World} {nb g : Nat} {A1 : Option Addr} {n cap1 : Nat} {out : List Int} {W W' : World} (h : EaR l w nb g A1 n cap1 out W) (hb : Below W.heap.size W W') : EaR l w nb g A1 n cap1 out W' :=
  ⟨jown_later h.own hb, h.map.below hb, jown_later h.ord hb, h.bel.trans (hb.mono h.bel.size)⟩
theorem iN_at {xs : List Nat} {k : Nat} (h : k < xs.length) : gI (iN xs) k = (xs[k] : Int) := iN_get h
set_option maxRecDepth 20000 in
set_option maxHeartbeats 8000000 in
theorem earliest_any (A : Option Addr) (len cap : Nat) (l : List Tk) (w : World) (hS : Sml l) (hP : okP l) (hx : Plan w w.heap.size A len l) :
    Calls Try.prog 60 #[.slice A len cap] w fun e w' => (∃ v, e = .returned v ∧ w'.ownsRow w.heap.size 3 1 v len (icells (ear l))) ∧ Below w.heap.size w w' := by
  obtain rfl : l.length = len := hx.1
  have c2 := fun W (h : Below w.heap.size w W) => byName_any A l.length cap l W hS (hx.go h)
  have c5 := fun W (h : Below w.heap.size w W) => order_any A l.length cap l W hS hP.names (hx.go h)
  obtain ⟨j0, hj, hy0, hy1, hy2⟩ := info_parts jinfo_int
  have hI0 := Lib.hid hj
  have hI1 := Lib.hid hy0
  have hI2 := Lib.hid hy1
  have hI3 := Lib.hid hy2
  have hL := hP.len
  have C2 := Lib.hid c2
  have C5 := Lib.hid c5
  have HX := Lib.hid hx
  have HS := Lib.hid hS
  have HP := Lib.hid hP
  clear c2 c5 hx hS hP hj hy0 hy1 hy2
  go_enter Try.func60, Try.ntmps60
  go_wp2_with fail
  refine (C2.out _ (by repeat (first | exact Below.refl _ _ | assumption | refine Below.setCell ?_ (by first | (simp; done) | (simp; omega) | omega) _ | refine Below.drew ?_ | refine below_drewN ?_ _ | refine Below.alloc ?_ (by first | (simp; done) | (simp; omega) | omega) _ | refine below_alloc ?_ _ | refine below_step ?_ (by assumption)))).mono ?_
  rintro e w1 ⟨⟨nb, rfl, hnb, hMN⟩, hb⟩
  have HMN := Lib.hid hMN
  have HB1 := Lib.hid hb
  clear hMN hb
  go_wp2_with (at_make; refine wpList_make_full _ rfl _ _ 32 rfl w.heap.size 3 j0 (.int .i64 0) 1 Try.underlying32 hI0.out hI1.out hI2.out _ _ _ _ l.length rfl rfl (by omega) (by omega) (by rw [hI3.out]; omega) (by unfold maxLen; omega) (HB1.out.size) ?_; intro w2 hown hgrow; go_frame)
  rw [jmade1] at hown
  have hg2 : Below w1.heap.size w1 w2 := grown_below hgrow (Nat.le_refl _) (fun k hk => by cases hk)
  have hB2 : Below w.heap.size w w2 := HB1.out.trans (hg2.mono HB1.out.size)
  have HM2 := Lib.hid (HMN.out.below hg2)
  have HOW := Lib.hid hown
  have hg0 : w1.heap.size < w2.heap.size := (jown_at hown).1
  have HB2 := Lib.hid hB2
  have hw1 := HB1.out.size
  generalize hgg : w1.heap.size = g at *
  clear hown hgrow hg2 hB2 HMN HB1 hgg
  refine (C5.out _ HB2.out).mono ?_
  rintro e w3 ⟨⟨v, rfl, ho⟩, hb⟩
  obtain ⟨A1, cap1, rfl, hq1, hq2, -, -⟩ := own_ints ho
  have hol : (ord l).length = l.length := HP.out.all
  have HE : Hid (EaR l w nb g A1 (ord l).length cap1 (earK l 0) w3) := Lib.hid ⟨by rw [earK_zero]; exact jown_later HOW.out hb, HM2.out.below hb, jown_mono ho (by omega), HB2.out.trans (hb.mono (by have := HB2.out.size; omega))⟩
  clear ho hb HOW HM2 HB2
  rw [hol] at HE hq1 ⊢
  go_wp2
  go_loopw [18] (fun i W => ∃ k : Nat, k ≤ l.length ∧ i = .int .i64 k ∧ Hid (EaR l w nb g A1 l.length cap1 (earK l k) W)) (fun i _ => l.length - (intOf i).toNat)
  case atStart => exact ⟨0, Nat.zero_le _, rfl, HE⟩
  case round =>
    obtain ⟨k, hk, rfl, HE⟩ := hrel
    by_cases hlt : k < l.length
    · have hko : k < (ord l).length := by omega
      have hil := ord_lt (List.getElem_mem hko)
      obtain ⟨b, off, rfl, hb0, d1, d2, d3, A', n, cc, d4, hn1, hn2, hSt⟩ := HX.out.at_ (ord l)[k] hil
      have D4 := Lib.hid d4
      have HSt := Lib.hid hSt
      obtain rfl : (tkA l (ord l)[k]).af.length = n := hSt.1
      have h5 := HE.out.ord
      obtain ⟨A2, cap2, he, -, -, hI5, hg5⟩ := own_ints h5
      injection he with he1 he2 he3
      subst he1 he3
      obtain ⟨b5, off5, rfl, hb5, hc5⟩ := hI5.at_ k hlt
      change wr.cell? _ = some (.int .i64 (gI (iN (ord l)) k)) at hc5
      rw [iN_at hko] at hc5
      have hbd := fun j (hj : j ≤ 10) => earKJ_bd HP.out hko hj
      have hfew := HP.out.few _ hil
      have hkn := fun j (h : j < (tkA l (ord l)[k]).af.length) => HP.out.known _ hil _ (afA_mem h)
      have hEn := fun j (h : j < (tkA l (ord l)[k]).af.length) => (earJ_next (l := l) (i := (ord l)[k]) (out := earK l k) (j := j) (by rw [afs_len]; exact h)).trans (by rw [afs_get h])
      have hEe := earJ_end (l := l) (i := (ord l)[k]) (out := earK l k) (j := (tkA l (ord l)[k]).af.length) (by rw [afs_len]; exact Nat.le_refl _)
      have hKn := earK_next hko
      have hEz := earJ_zero l (ord l)[k] (earK l k)
      have HAN := Lib.hid (HS.out.an _ hil)
      generalize hio : (ord l)[k] = i at *
      have HBD := Lib.hid hbd
      have HKN := Lib.hid hkn
      have HEN := Lib.hid hEn
      have HEE := Lib.hid hEe
      have HKX := Lib.hid hKn
      have HE0 : Hid (EaR l w nb g (some ⟨b5, off5, none⟩) l.length cap1 (earJ l i (earK l k) 0) wr) := Lib.hid (by rw [hEz]; exact HE.out)
      have hBw := HE.out.bel
      have hbs := hBw.size
      have hb1 : b < wr.heap.size := by omega
      have hc4 : wr.cell? ⟨b, off + i * 4 + 3, none⟩ = some (.slice A' (tkA l i).af.length cc) := (hBw.cell (p := ⟨b, _, none⟩) hb0).trans D4.out
      have hk1 : (k : Int) < l.length := by omega
      have hk2 : ¬ l.length ≤ k := by omega
      have hi1 : (i : Int) < l.length := by omega
      have hi2 : ¬ l.length ≤ i := by omega
      have hnn : (tkA l i).af.length ≤ 9223372036854775807 := by omega
      clear d1 d2 d3 d4 hSt h5 hI5 hg5 hbd hkn hEn hEe hKn hEz HE hBw hio
      go_wp2
      go_loopw [28] (fun i' W => ∃ j : Nat, j ≤ (tkA l i).af.length ∧ i' = .int .i64 j ∧ Hid (EaR l w nb g (some ⟨b5, off5, none⟩) l.length cap1 (earJ l i (earK l k) j) W)) (fun i' _ => (tkA l i).af.length - (intOf i').toNat)
      case atStart => exact ⟨0, Nat.zero_le _, rfl, HE0⟩
      case round =>
        clear hb1 hc4 hbs hc5 hb5
        obtain ⟨j, hj, rfl, HE⟩ := hrel
        by_cases hlj : j < (tkA l i).af.length
        · have hBw := HE.out.bel
          have hbs := hBw.size
          obtain ⟨b2, off2, rfl, hb2, hc6⟩ := (HSt.out.below hBw).atS j hlj
          change wr.cell? _ = some (.string (afA l i j)) at hc6
          have hal := HKN.out j hlj
          have HMV := Lib.hid (fndM_at (l := l) (k := l.length) hal)
          have HSZ := Lib.hid (HAN.out _ (afA_mem hlj))
          have hnx := HEN.out j hlj
          obtain ⟨b7, off7, he7, hb7, d1, d2, d3, -⟩ := (HX.out.below hBw).at_ (fnd l (afA l i j)) hal
          injection he7 with he7
          injection he7 with he71 he72
          subst he71 he72
          have hbd := HBD.out j (by omega)
          have hda := dy_bd HP.out hal
          change 1 ≤ (tkA l _).dy ∧ (tkA l _).dy ≤ 1000 at hda
          obtain ⟨hgs, hgb, hgc, hgf⟩ := jown_at HE.out.own
          have hci := hgc i (by omega)
          have hca := hgc (fnd l (afA l i j)) hal
          have hfi := hgf i
          have hst := HE.out.store i (imax (gI (earJ l i (earK l k) j) i) (gI (earJ l i (earK l k) j) (fnd l (afA l i j)) + (tkA l (fnd l (afA l i j))).dy))
          have hbi := hbd i
          have hba := hbd (fnd l (afA l i j))
          unfold earS dyA at hnx
          rw [← hnx] at hst
          have HM := Lib.hid HE.out.map
          generalize hQ : earJ l i (earK l k) j = Q at *
          generalize afA l i j = X at *
          generalize hF : fnd l X = F at *
          generalize (tkA l F).dy = Y at *
          generalize gI Q i = Gi at *
          generalize gI Q F = Ga at *
          have HST := Lib.hid hst
          have hF1 : (F : Int) < l.length := by omega
          have hF2 : ¬ l.length ≤ F := by omega
          have hj1 : (j : Int) < (tkA l i).af.length := by omega
          have hj2 : ¬ (tkA l i).af.length ≤ j := by omega
          have hb1 : b < wr.heap.size := by omega
          have hb3 : b2 < wr.heap.size := by omega
          unfold imax at HST
          clear hst hnx hbd hgc hgf hBw hQ hF d1 d3
          go_wp2_with (at_lookup; go_loud (refine wpList_mapv_int (z := 0) rfl (.tmp 32) (.tmp 33) 68 rfl lawS Try.underlying68 Try.underlying3 (zeroIn _) rfl HM.out X _ rfl (keyS HSZ.out) ?_; rw [HMV.out]))
          have hwr : wrap64 (Ga + Y) = Ga + Y := IntWalk.wrap64_in _ ⟨by omega, by omega⟩
          (refine wp_region_tail 18 (by kernel_rfl) (by kernel_rfl) ?_; simp only [List.take_succ_cons, List.take_zero, List.drop_succ_cons, List.drop_zero]; (repeat (go_big_quiet_step ((fail)))); refine wpQuiet_nil ?_)
          go_wp2
          refine ⟨⟨j + 1, by omega, by go_num, ?_⟩, by simp [intOf]; omega⟩
          first | exact Lib.hid (HST.out.later (Below.refl _ _).drew) | (rw [hwr]; exact Lib.hid (HST.out.later (Below.refl _ _).drew))
        · have hjn : j = (tkA l i).af.length := by omega
          have hj1 : ¬ (j : Int) < (tkA l i).af.length := by omega
          have HF : Hid (EaR l w nb g (some ⟨b5, off5, none⟩) l.length cap1 (earK l (k + 1)) wr) := Lib.hid (by rw [HKX.out, ← HEE.out, ← hjn]; exact HE.out)
          clear HE
          go_wp2
          go_roundw
          case rel => exact ⟨k + 1, by omega, by go_num, HF⟩
          case measure => simp [intOf]; omega
    · have hkl : k = l.length := by omega
      have hk1 : ¬ (k : Int) < l.length := by omega
      have HF : Hid (EaR l w nb g A1 l.length cap1 (ear l) wr) := Lib.hid (by rw [← earK_end (l := l) (k := k) (by omega)]; exact HE.out)
      clear HE
      go_wp2
      go_ret
      exact ⟨⟨_, rfl, HF.out.own⟩, HF.out.bel⟩
end Go.Proofs.Ytgijekhlbkfanaa
