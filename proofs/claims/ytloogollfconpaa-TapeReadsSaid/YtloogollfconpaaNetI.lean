/- Nets of tapes: currents by trees: the law of nodes, the law of voltages, the law of least heat: plain. No program is named. -/
import Derived.Test.YtloogollfconpaaNetE
set_option linter.unusedSimpArgs false
set_option linter.unusedVariables false
namespace Go.Proofs.Ytloogollfconpaa

def tt (_ : List Int) : Bool := true
def rk (l : List Tp) : Nat := 6 - labs (full l R0)
def TT (l : List Tp) : Int := sumL tt (rk l) l R0
def pos (e : Tp) (a b : Int) (r : List Int) : Bool := apt e.1 e.2.1 r && (at6 r a == at6 r e.1 && at6 r b == at6 r e.2.1)
def neg (e : Tp) (a b : Int) (r : List Int) : Bool := apt e.1 e.2.1 r && (at6 r a == at6 r e.2.1 && at6 r b == at6 r e.1)
/-- The current in a tape e: m are the others, k is one less than the rank. -/
def flo (k : Nat) (m : List Tp) (e : Tp) (a b : Int) : Int := sumL (pos e a b) k m R0 - sumL (neg e a b) k m R0
def b01 (x : Bool) : Int := if x = true then 1 else 0
theorem pin_b (P : List Int → Bool) (k : Nat) (F : List Tp) (w : Int) : pin P k R0 (F, w) = if F.length = k ∧ ind F R0 = true then w * b01 (P (full F R0)) else 0 := by
  unfold pin b01
  by_cases h : F.length = k ∧ ind F R0 = true
  · rw [if_pos h]
    by_cases h2 : P (full F R0) = true
    · rw [if_pos ⟨h.1, h.2, h2⟩, if_pos h2, Int.mul_one]
    · rw [if_neg (fun h3 => h2 h3.2.2), if_neg h2, Int.mul_zero]
  · rw [if_neg h, if_neg (fun h3 => h ⟨h3.1, h3.2.1⟩)]
theorem labs_le6 {r : List Int} : labs r ≤ 6 := cnt6_le _
def sgP (p : Tp × List Tp) (a b : Int) : Int := b01 (pos p.1 a b (full p.2 R0)) - b01 (neg p.1 a b (full p.2 R0))
def one (r : List Int) (u v : Int) : Int := if at6 r u = at6 r v then 1 else 0
theorem sgn_one {r : List Int} (hr : r.length = 6) {e : Tp} {a b : Int} (e1 : nod e.1) (e2 : nod e.2.1) (ha : nod a) (hb : nod b) (h : apt e.1 e.2.1 r = true) (hab : at6 (mgL r e) a = at6 (mgL r e) b) :
    b01 (pos e a b r) - b01 (neg e a b r) = one r a e.1 - one r b e.1 := by
  rw [mgL_iff hr ha hb] at hab
  have h' := apt_iff.1 h
  unfold pos neg b01 one
  rw [h]
  simp only [Bool.true_and, Bool.and_eq_true, beq_iff_eq]
  generalize at6 r a = α at *
  generalize at6 r b = β at *
  generalize at6 r e.1 = A at *
  generalize at6 r e.2.1 = B at *
  by_cases h1 : α = A <;> by_cases h2 : β = A <;> by_cases h3 : α = B <;> by_cases h4 : β = B <;> simp_all
/-- In a tree the path's steps add up. -/
theorem tele {F : List Tp} (hF : okL F) (hi : ind F R0 = true) {a b : Int} (ha : nod a) (hb : nod b) (hab : at6 (full F R0) a = at6 (full F R0) b) (φ : Int → Int) :
    lsum (fun p => (φ p.1.1 - φ p.1.2.1) * sgP p a b) (picks F) = φ a - φ b := by
  have hok : ∀ p, p ∈ picks F → okT p.1 ∧ okL p.2 ∧ apt p.1.1 p.1.2.1 (full p.2 R0) = true ∧ full F R0 = mgL (full p.2 R0) p.1 := by
    intro p hp
    have hm := picks_perm hp
    obtain ⟨h1, h2⟩ := ind_pick hF lab_R0 hp
    exact ⟨hF _ (hm.mem_iff.2 (List.mem_cons_self ..)), fun t ht => hF t (hm.mem_iff.2 (List.mem_cons_of_mem _ ht)), (h2.1 hi).2, h1⟩
  let g : Int → Int := fun u => lsum (fun p => (φ p.1.1 - φ p.1.2.1) * one (full p.2 R0) u p.1.1) (picks F)
  have h1 : lsum (fun p => (φ p.1.1 - φ p.1.2.1) * sgP p a b) (picks F) = g a - g b := by
    show _ = lsum _ _ - lsum _ _
    rw [← lsum_sub]
    refine lsum_congr (fun p hp => ?_)
    obtain ⟨o1, o2, o3, o4⟩ := hok p hp
    rw [o4] at hab
    unfold sgP
    rw [sgn_one (full_len _ _) o1.1 o1.2.1 ha hb o3 hab, Int.mul_sub]
  rw [h1]
  have h2 : ∀ t, t ∈ F → g t.1 - φ t.1 = g t.2.1 - φ t.2.1 := by
    intro t ht
    obtain ⟨P1, G, P2, hp, q1, q2⟩ := picks_split ht
    have hz : ∀ p, p ∈ picks F → t ∈ p.2 → (φ p.1.1 - φ p.1.2.1) * one (full p.2 R0) t.1 p.1.1 - (φ p.1.1 - φ p.1.2.1) * one (full p.2 R0) t.2.1 p.1.1 = 0 := by
      intro p hp ht
      obtain ⟨o1, o2, o3, o4⟩ := hok p hp
      unfold one
      rw [full_tape o2 (r := R0) rfl t ht]
      exact Int.sub_self _
    have h3 : g t.1 - g t.2.1 = φ t.1 - φ t.2.1 := by
      show lsum _ _ - lsum _ _ = _
      rw [← lsum_sub, hp, lsum_app, lsum_cons]
      have hin : (t, G) ∈ picks F := by rw [hp]; exact List.mem_append_right _ (List.mem_cons_self ..)
      rw [lsum_zero (l := P1) (fun p hp1 => hz p (by rw [hp]; exact List.mem_append_left _ hp1) (q1 p hp1)), lsum_zero (l := P2) (fun p hp2 => hz p (by rw [hp]; exact List.mem_append_right _ (List.mem_cons_of_mem _ hp2)) (q2 p hp2))]
      obtain ⟨o1, o2, o3, o4⟩ := hok _ hin
      have hne := apt_iff.1 o3
      dsimp only at hne ⊢
      unfold one
      rw [if_pos rfl, if_neg (fun h => hne h.symm)]
      omega
    omega
  have h4 := full_inv (h := fun u => g u - φ u) hF h2 (r := R0) rfl (fun x y hx hy hxy => by rw [at6_R0 hx, at6_R0 hy] at hxy; rw [hxy]) a b ha hb hab
  omega
/-- The law of nodes, for any numbers at the nodes. -/
theorem node_law {l : List Tp} (hl : okL l) {k : Nat} (hk : rk l = k + 1) {a b : Int} (ha : nod a) (hb : nod b) (hab : at6 (full l R0) a = at6 (full l R0) b) (φ : Int → Int) :
    lsum (fun p => (φ p.1.1 - φ p.1.2.1) * flo k p.2 p.1 a b) (picks l) = TT l * (φ a - φ b) := by
  have h1 : ∀ p, p ∈ picks l → (φ p.1.1 - φ p.1.2.1) * flo k p.2 p.1 a b = lsum (fun q => (φ p.1.1 - φ p.1.2.1) * (pin (pos p.1 a b) k R0 (q.1, q.2) - pin (neg p.1 a b) k R0 (q.1, q.2))) (subs p.2) := by
    intro p _
    unfold flo
    rw [sumL_subs, sumL_subs, lsum_mul, lsum_sub]
  rw [lsum_congr h1, exch l (fun e F w => (φ e.1 - φ e.2.1) * (pin (pos e a b) k R0 (F, w) - pin (neg e a b) k R0 (F, w)))]
  unfold TT
  rw [sumL_subs, Int.mul_comm, ← lsum_mul]
  refine lsum_congr (fun q hq => ?_)
  have hqo := subs_ok hl hq
  by_cases h : q.1.length = rk l ∧ ind q.1 R0 = true
  · have hlab := (ind_labs hqo lab_R0).2.1 h.2
    rw [labs_R0, h.1] at hlab
    have hspan := full_span hl hq (by unfold rk at *; have := labs_le6 (r := full l R0); omega)
    have ht := tele hqo h.2 ha hb (by rw [hspan]; exact hab) φ
    have e1 : pin tt (rk l) R0 q = q.2 := by unfold pin tt; rw [if_pos ⟨h.1, h.2, rfl⟩]
    rw [e1, ← ht, Int.mul_comm, ← lsum_mul]
    refine lsum_congr (fun p hp => ?_)
    have hpl := picks_len hp
    have hip := ((ind_pick hqo lab_R0 hp).2.1 h.2).1
    rw [pin_b, pin_b, if_pos ⟨by omega, hip⟩, if_pos ⟨by omega, hip⟩]
    unfold sgP
    rw [← Int.mul_sub]
    exact Int.mul_left_comm ..
  · have e1 : pin tt (rk l) R0 q = 0 := by unfold pin; rw [if_neg (fun h2 => h ⟨h2.1, h2.2.1⟩)]
    rw [e1, Int.mul_zero]
    refine lsum_zero (fun p hp => ?_)
    have hpl := picks_len hp
    have hip := (ind_pick hqo lab_R0 hp).2
    have hz : ∀ P : List Int → Bool, (∀ r, P r = true → apt p.1.1 p.1.2.1 r = true) → pin P k R0 (p.2, q.2) = 0 := by
      intro P hP
      unfold pin
      rw [if_neg]
      rintro ⟨g1, g2, g3⟩
      exact h ⟨by dsimp only at g1; omega, hip.2 ⟨g2, hP _ g3⟩⟩
    rw [hz (pos p.1 a b) (fun r hr => by unfold pos at hr; exact (Bool.and_eq_true _ _ ▸ hr).1), hz (neg p.1 a b) (fun r hr => by unfold neg at hr; exact (Bool.and_eq_true _ _ ▸ hr).1)]
    simp
/-! ### Voltages -/
def vol (k : Nat) (l : List Tp) (a b x : Int) : Int := sumL (fun r => apt a b r && at6 r x == at6 r a) k l R0
theorem b01_sub (P : List Int → Bool) (k : Nat) (l : List Tp) : sumL P k l R0 = lsum (fun q => if q.1.length = k ∧ ind q.1 R0 = true then q.2 * b01 (P (full q.1 R0)) else 0) (subs l) := by
  rw [sumL_subs]
  exact lsum_congr (fun q _ => pin_b P k q.1 q.2)
/-- A forest of one tape less than the rank, and two nodes that it leaves apart though the list joins them. -/
theorem two_cls {l : List Tp} (hl : okL l) {k : Nat} (hk : rk l = k + 1) {a b : Int} (ha : nod a) (hb : nod b) (hab : at6 (full l R0) a = at6 (full l R0) b)
    {q : List Tp × Int} (hq : q ∈ subs l) (h1 : q.1.length = k) (h2 : ind q.1 R0 = true) (h3 : at6 (full q.1 R0) a ≠ at6 (full q.1 R0) b) : full l R0 = mgL (full q.1 R0) (a, b, 0) := by
  obtain ⟨m, hm⟩ := subs_perm hq
  have hok : okL (q.1 ++ m) := fun t ht => hl t (hm.mem_iff.2 ht)
  have h4 := full_perm hm hl R0 lab_R0
  rw [full_app'] at h4
  have hmo : okL m := fun t ht => hok t (List.mem_append_right _ ht)
  have hqo := subs_ok hl hq
  have hlab := (ind_labs hqo lab_R0).2.1 h2
  rw [labs_R0, h1] at hlab
  have hLq := lab_R0.full hqo
  have h5 := labs_mgL hLq (t := (a, b, 0)) ha hb h3
  have h6 := full_mgL hmo (t := (a, b, 0)) ha hb hLq
  rw [← h4, mgL_same (t := (a, b, 0)) hab] at h6
  rw [← h6]
  refine full_still hmo (hLq.mgL ha hb) ?_
  rw [h6]
  unfold rk at hk
  omega
theorem pw {α β A B : Int} (h : α ≠ β → A = B ∨ ((A = α ∨ A = β) ∧ (B = α ∨ B = β))) :
    (b01 (!(A == B) && (α == A && β == B)) - b01 (!(A == B) && (α == B && β == A)) = b01 (!(α == β) && A == α) - b01 (!(α == β) && B == α)) ∧
    2 * (b01 (!(α == β) && A == α) - b01 (!(α == β) && B == α)) = b01 (!(A == β)) - b01 (!(α == A)) - b01 (!(B == β)) + b01 (!(α == B)) := by
  unfold b01
  simp only [Bool.and_eq_true, Bool.not_eq_true', beq_eq_false_iff_ne, beq_iff_eq]
  by_cases h0 : α = β
  · subst h0
    by_cases h1 : α = A <;> by_cases h2 : α = B <;> by_cases h3 : A = B <;> simp_all <;> omega
  · rcases h h0 with h1 | ⟨h1 | h1, h2 | h2⟩
    · subst h1
      by_cases h1 : α = A <;> by_cases h2 : β = A <;> simp_all <;> omega
    · subst h1; subst h2; simp_all
    · subst h1; subst h2; have h0' : ¬ B = A := fun h => h0 h.symm; simp_all
    · subst h1; subst h2; simp_all; split <;> omega
    · subst h1; subst h2; simp_all
theorem vol_pw {l : List Tp} (hl : okL l) {k : Nat} (hk : rk l = k + 1) {a b : Int} (ha : nod a) (hb : nod b) (hab : at6 (full l R0) a = at6 (full l R0) b) {e : Tp} (he : e ∈ l) :
    sumL (pos e a b) k l R0 - sumL (neg e a b) k l R0 = vol k l a b e.1 - vol k l a b e.2.1 ∧
    2 * (vol k l a b e.1 - vol k l a b e.2.1) = sumL (apt e.1 b) k l R0 - sumL (apt a e.1) k l R0 - sumL (apt e.2.1 b) k l R0 + sumL (apt a e.2.1) k l R0 := by
  have heo := hl e he
  have key : ∀ q, q ∈ subs l → q.1.length = k ∧ ind q.1 R0 = true → (at6 (full q.1 R0) a ≠ at6 (full q.1 R0) b → at6 (full q.1 R0) e.1 = at6 (full q.1 R0) e.2.1 ∨ ((at6 (full q.1 R0) e.1 = at6 (full q.1 R0) a ∨ at6 (full q.1 R0) e.1 = at6 (full q.1 R0) b) ∧ (at6 (full q.1 R0) e.2.1 = at6 (full q.1 R0) a ∨ at6 (full q.1 R0) e.2.1 = at6 (full q.1 R0) b))) := by
    intro q hq h hne
    have h1 := two_cls hl hk ha hb hab hq h.1 h.2 hne
    have h2 := full_tape hl (r := R0) rfl e he
    rw [h1, mgL_iff (full_len _ _) heo.1 heo.2.1] at h2
    exact h2
  unfold vol
  simp only [b01_sub]
  constructor
  · rw [← lsum_sub, ← lsum_sub]
    refine lsum_congr (fun q hq => ?_)
    by_cases h : q.1.length = k ∧ ind q.1 R0 = true
    · have := (pw (key q hq h)).1
      simp only [if_pos h, ← Int.mul_sub]
      unfold pos neg apt
      rw [this]
    · simp only [if_neg h]
  · rw [← lsum_sub, ← lsum_sub, ← lsum_sub, ← lsum_add, ← lsum_mul]
    refine lsum_congr (fun q hq => ?_)
    by_cases h : q.1.length = k ∧ ind q.1 R0 = true
    · have := (pw (key q hq h)).2
      simp only [if_pos h, ← Int.mul_sub, ← Int.mul_add]
      unfold apt
      rw [Int.mul_left_comm, this]
    · simp only [if_neg h]; rfl
/-- Ohms times the current is the fall of the voltage. -/
theorem vol_law {l : List Tp} (hl : okL l) {k : Nat} (hk : rk l = k + 1) {a b : Int} (ha : nod a) (hb : nod b) (hab : at6 (full l R0) a = at6 (full l R0) b) {p : Tp × List Tp} (hp : p ∈ picks l) :
    p.1.2.2 * flo k p.2 p.1 a b = vol k l a b p.1.1 - vol k l a b p.1.2.1 := by
  have hm := picks_perm hp
  have hok : okL (p.1 :: p.2) := fun t ht => hl t (hm.mem_iff.2 ht)
  have hin : p.1 ∈ l := hm.mem_iff.2 (List.mem_cons_self ..)
  rw [← (vol_pw hl hk ha hb hab hin).1]
  have key : ∀ Q : List Int → Bool, sumL (fun r => apt p.1.1 p.1.2.1 r && Q r) k l R0 = p.1.2.2 * sumL (fun r => apt p.1.1 p.1.2.1 r && Q r) k p.2 R0 := by
    intro Q
    have ho := okL_head hok
    rw [sumL_perm hm hl k R0 lab_R0, sumL_cons]
    have hz : (if at6 R0 p.1.1 = at6 R0 p.1.2.1 then (0 : Int) else sm (fun r => apt p.1.1 p.1.2.1 r && Q r) k p.2 (mgL R0 p.1)) = 0 := by
      split
      · rfl
      · cases k with
        | zero => rfl
        | succ k => exact sumL_joined ho.1 ho.2.1 (okL_tail hok) k _ (by rw [mgL_len]; rfl) ((mgL_iff (r := R0) rfl ho.1 ho.2.1).2 (.inr ⟨.inl rfl, .inr rfl⟩))
    rw [hz, Int.add_zero]
  unfold flo
  rw [Int.mul_sub]
  show p.1.2.2 * sumL (fun r => apt p.1.1 p.1.2.1 r && (at6 r a == at6 r p.1.1 && at6 r b == at6 r p.1.2.1)) k p.2 R0 - p.1.2.2 * sumL (fun r => apt p.1.1 p.1.2.1 r && (at6 r a == at6 r p.1.2.1 && at6 r b == at6 r p.1.1)) k p.2 R0 = _
  rw [← key, ← key]
  rfl
theorem vol_a (k : Nat) (l : List Tp) (a b : Int) : vol k l a b a = sumL (apt a b) k l R0 := sumL_congr (fun r => by simp) _ _ _
theorem vol_b (k : Nat) (l : List Tp) (a b : Int) : vol k l a b b = 0 := sumL_ff (fun r => by unfold apt; cases h : at6 r a == at6 r b <;> simp_all; exact fun h2 => h h2.symm) _ _ _
/-! ### Heat -/
theorem heat {l : List Tp} (hl : okL l) {k : Nat} (hk : rk l = k + 1) {a b : Int} (ha : nod a) (hb : nod b) (hab : at6 (full l R0) a = at6 (full l R0) b) :
    lsum (fun p => p.1.2.2 * flo k p.2 p.1 a b * flo k p.2 p.1 a b) (picks l) = TT l * sumL (apt a b) k l R0 := by
  have h1 := node_law hl hk ha hb hab (vol k l a b)
  rw [vol_a, vol_b, Int.sub_zero] at h1
  rw [← h1]
  exact lsum_congr (fun p hp => by rw [vol_law hl hk ha hb hab hp])
theorem rk_cons {t : Tp} {m : List Tp} (hl : okL (t :: m)) : (at6 (full m R0) t.1 = at6 (full m R0) t.2.1 ∧ full (t :: m) R0 = full m R0 ∧ rk (t :: m) = rk m) ∨ (at6 (full m R0) t.1 ≠ at6 (full m R0) t.2.1 ∧ rk (t :: m) = rk m + 1) := by
  obtain ⟨t1, t2, -, -, -⟩ := okL_head hl
  unfold rk
  have h6 := labs_le6 (r := full m R0)
  rcases labs_full_cons (okL_tail hl) t1 t2 lab_R0 with ⟨h, h2⟩ | ⟨h, h2⟩
  · exact .inl ⟨h, h2, by rw [h2]⟩
  · exact .inr ⟨h, by omega⟩
theorem full_cons_keep {t : Tp} {m : List Tp} (hl : okL (t :: m)) {a b : Int} (ha : nod a) (hb : nod b) (hab : at6 (full m R0) a = at6 (full m R0) b) : at6 (full (t :: m) R0) a = at6 (full (t :: m) R0) b := by
  obtain ⟨t1, t2, -, -, -⟩ := okL_head hl
  rw [full_cons, full_mgL (okL_tail hl) t1 t2 lab_R0]
  exact (mgL_iff (full_len _ _) ha hb).2 (.inl hab)
theorem TT_pos {l : List Tp} (hl : okL l) : 1 ≤ TT l := by
  have := sumL_pos hl lab_R0
  rw [labs_R0] at this
  exact this
/-- Without a tape no resistance is less. -/
theorem rayleigh {t : Tp} {m : List Tp} (hl : okL (t :: m)) {k k' : Nat} (hk : rk (t :: m) = k + 1) (hk' : rk m = k' + 1) {a b : Int} (ha : nod a) (hb : nod b) (hab : at6 (full m R0) a = at6 (full m R0) b) :
    TT m * sumL (apt a b) k (t :: m) R0 ≤ TT (t :: m) * sumL (apt a b) k' m R0 := by
  have hm := okL_tail hl
  have ht := okL_head hl
  have hab' := full_cons_keep hl ha hb hab
  have s1 := heat hl hk ha hb hab'
  rw [picks_cons] at s1
  have s2 := heat hm hk' ha hb hab
  have s3 := node_law hm hk' ha hb hab (vol k (t :: m) a b)
  rw [vol_a, vol_b, Int.sub_zero] at s3
  have hv : ∀ p, p ∈ picks m → p.1.2.2 * flo k (t :: p.2) p.1 a b = vol k (t :: m) a b p.1.1 - vol k (t :: m) a b p.1.2.1 := fun p hp =>
    vol_law hl hk ha hb hab' (p := (p.1, t :: p.2)) (List.mem_cons_of_mem _ (List.mem_map_of_mem (f := fun p : Tp × List Tp => (p.1, t :: p.2)) hp))
  rw [lsum_congr (g := fun p => p.1.2.2 * flo k (t :: p.2) p.1 a b * flo k' p.2 p.1 a b) (fun p hp => by rw [← hv p hp])] at s3
  have hT := TT_pos hl
  have hT' := TT_pos hm
  have ho : ∀ p, p ∈ picks m → 1 ≤ p.1.2.2 := fun p hp => (hm _ ((picks_perm hp).mem_iff.2 (List.mem_cons_self ..))).2.2.2.1
  generalize TT (t :: m) = T at *
  generalize TT m = T' at *
  generalize sumL (apt a b) k (t :: m) R0 = U at *
  generalize sumL (apt a b) k' m R0 = U' at *
  dsimp only at s1
  have hsq : ∀ x : Int, 0 ≤ x * x := fun x => by
    rcases Int.le_total 0 x with h | h
    · exact Int.mul_nonneg h h
    · have := Int.mul_nonneg (show 0 ≤ -x by omega) (show 0 ≤ -x by omega)
      rwa [Int.neg_mul_neg] at this
  have h0 : 0 ≤ lsum (fun p => p.1.2.2 * ((T * flo k' p.2 p.1 a b - T' * flo k (t :: p.2) p.1 a b) * (T * flo k' p.2 p.1 a b - T' * flo k (t :: p.2) p.1 a b))) (picks m) :=
    lsum_nonneg (fun p hp => Int.mul_nonneg (by have := ho p hp; omega) (hsq _))
  have h1 : lsum (fun p => p.1.2.2 * ((T * flo k' p.2 p.1 a b - T' * flo k (t :: p.2) p.1 a b) * (T * flo k' p.2 p.1 a b - T' * flo k (t :: p.2) p.1 a b))) (picks m)
      = T * T * lsum (fun p => p.1.2.2 * flo k' p.2 p.1 a b * flo k' p.2 p.1 a b) (picks m) - 2 * T * T' * lsum (fun p => p.1.2.2 * flo k (t :: p.2) p.1 a b * flo k' p.2 p.1 a b) (picks m) + T' * T' * lsum (fun p => p.1.2.2 * flo k (t :: p.2) p.1 a b * flo k (t :: p.2) p.1 a b) (picks m) := by
    rw [← lsum_mul, ← lsum_mul, ← lsum_mul, ← lsum_sub, ← lsum_add]
    refine lsum_congr (fun p _ => ?_)
    generalize flo k' p.2 p.1 a b = y
    generalize flo k (t :: p.2) p.1 a b = x
    generalize p.1.2.2 = o
    have e1 : o * ((T * y - T' * x) * (T * y - T' * x)) = o * (T * y * (T * y)) - o * (T * y * (T' * x)) - o * (T' * x * (T * y)) + o * (T' * x * (T' * x)) := by
      rw [Int.sub_mul, Int.mul_sub, Int.mul_sub, Int.mul_sub, Int.mul_sub, Int.mul_sub]; omega
    have e2 : o * (T * y * (T * y)) = T * T * (o * y * y) := by ac_rfl
    have e3 : o * (T * y * (T' * x)) = T * T' * (o * x * y) := by ac_rfl
    have e4 : o * (T' * x * (T * y)) = T * T' * (o * x * y) := by ac_rfl
    have e5 : o * (T' * x * (T' * x)) = T' * T' * (o * x * x) := by ac_rfl
    have e6 : 2 * T * T' * (o * x * y) = 2 * (T * T' * (o * x * y)) := by ac_rfl
    rw [e1, e2, e3, e4, e5, e6]; omega
  rw [h1, s2, s3] at h0
  have h2 : lsum (fun p => p.1.2.2 * flo k (t :: p.2) p.1 a b * flo k (t :: p.2) p.1 a b) (picks m) ≤ T * U := by
    have : 0 ≤ t.2.2 * flo k m t a b * flo k m t a b := by
      rw [Int.mul_assoc]; exact Int.mul_nonneg (by have := ht.2.2.2.1; omega) (hsq _)
    omega
  generalize lsum (fun p => p.1.2.2 * flo k (t :: p.2) p.1 a b * flo k (t :: p.2) p.1 a b) (picks m) = E at *
  have h3 : T' * T' * E ≤ T' * T' * (T * U) := Int.mul_le_mul_of_nonneg_left h2 (Int.mul_nonneg (by omega) (by omega))
  have e1 : T * T * (T' * U') = T * T' * (T * U') := by ac_rfl
  have e2 : 2 * T * T' * (T' * U) = 2 * (T * T' * (T' * U)) := by ac_rfl
  have e3 : T' * T' * (T * U) = T * T' * (T' * U) := by ac_rfl
  rw [e1, e2] at h0
  rw [e3] at h3
  have h4 : T * T' * (T' * U) ≤ T * T' * (T * U') := by omega
  have hp : 0 < T * T' := Int.mul_pos (by omega) (by omega)
  exact Int.le_of_mul_le_mul_left h4 hp
end Go.Proofs.Ytloogollfconpaa
