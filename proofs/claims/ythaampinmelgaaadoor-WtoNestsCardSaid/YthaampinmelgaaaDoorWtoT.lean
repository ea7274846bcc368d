/- Package wto: the visits end, what they leave, and the reference's come to the same. No program here. -/
import Derived.Test.YthaampinmelgaaaDoorWtoL
namespace Go.Proofs.YthaampinmelgaaaDoor

def cntB (n : Nat) (p : Nat → Bool) : Nat := ((List.range n).filter p).length
theorem cntB_succ (n : Nat) (p : Nat → Bool) : cntB (n + 1) p = cntB n p + if p n then 1 else 0 := by
  unfold cntB
  rw [List.range_succ, List.filter_append, List.length_append]
  by_cases h : p n <;> simp [h]
theorem cntB_le (n : Nat) (p : Nat → Bool) : cntB n p ≤ n := by
  unfold cntB
  exact Nat.le_trans (List.length_filter_le _ _) (by simp)
theorem cntB_mono {p q : Nat → Bool} : ∀ n : Nat, (∀ x, x < n → p x = true → q x = true) → cntB n p ≤ cntB n q
  | 0, _ => Nat.le_refl _
  | n + 1, h => by
    rw [cntB_succ, cntB_succ]
    have h1 := cntB_mono n (fun x hx => h x (by omega))
    have h2 := h n (by omega)
    by_cases hp : p n = true
    · rw [if_pos hp, if_pos (h2 hp)]; omega
    · rw [if_neg hp]; omega
theorem cntB_lt {p q : Nat → Bool} : ∀ n : Nat, (∀ x, x < n → p x = true → q x = true) → (∃ x, x < n ∧ p x = false ∧ q x = true) → cntB n p + 1 ≤ cntB n q
  | 0, _, ⟨x, hx, _⟩ => by omega
  | n + 1, h, ⟨x, hx, hp, hq⟩ => by
    rw [cntB_succ, cntB_succ]
    have h2 := h n (by omega)
    by_cases e : x = n
    · subst e
      have h1 := cntB_mono x (fun y hy => h y (by omega))
      rw [hp, hq]
      simp only [if_true, Bool.false_eq_true, if_false]
      omega
    · have h1 := cntB_lt n (fun y hy => h y (by omega)) ⟨x, by omega, hp, hq⟩
      by_cases hpn : p n = true
      · rw [if_pos hpn, if_pos (h2 hpn)]; omega
      · rw [if_neg hpn]; omega

def dn (s : VSt) (x : Nat) : Prop := getI s.nums x = maxI
def ndV (n : Nat) (s : VSt) : Nat := cntB n fun x => decide (getI s.nums x ≠ maxI)
def zrV (n : Nat) (s : VSt) : Nat := cntB n fun x => decide (getI s.nums x = 0)
def fM (n : Nat) (s : VSt) : Nat := ndV n s * (n + 1) + zrV n s
theorem ndV_mono {n : Nat} {s t : VSt} (h : ∀ x, dn s x → dn t x) : ndV n t ≤ ndV n s :=
  cntB_mono n fun x _ hx => by
    have hx' := of_decide_eq_true hx
    exact decide_eq_true (fun e => hx' (h x e))
theorem ndV_lt {n : Nat} {s t : VSt} (h : ∀ x, dn s x → dn t x) {v : Nat} (hv : v < n) (h1 : ¬ dn s v) (h2 : dn t v) : ndV n t + 1 ≤ ndV n s :=
  cntB_lt n (fun x _ hx => by
    have hx' := of_decide_eq_true hx
    exact decide_eq_true (fun e => hx' (h x e))) ⟨v, hv, decide_eq_false (fun h => h h2), decide_eq_true h1⟩
theorem zrV_mono {n : Nat} {s t : VSt} (h : ∀ x, getI t.nums x = 0 → getI s.nums x = 0) : zrV n t ≤ zrV n s :=
  cntB_mono n fun x _ hx => decide_eq_true (h x (of_decide_eq_true hx))
theorem zrV_lt {n : Nat} {s t : VSt} (h : ∀ x, getI t.nums x = 0 → getI s.nums x = 0) {v : Nat} (hv : v < n) (h1 : getI s.nums v = 0) (h2 : getI t.nums v ≠ 0) : zrV n t + 1 ≤ zrV n s :=
  cntB_lt n (fun x _ hx => decide_eq_true (h x (of_decide_eq_true hx))) ⟨v, hv, decide_eq_false h2, decide_eq_true h1⟩
theorem fM_drop {n : Nat} {s t : VSt} (h : ndV n t + 1 ≤ ndV n s) : fM n t + 1 ≤ fM n s := by
  unfold fM
  have h1 := Nat.mul_le_mul_right (n + 1) h
  have h2 : zrV n t ≤ n := cntB_le _ _
  rw [Nat.add_mul] at h1
  omega

structure Inv (n : Nat) (s : VSt) : Prop where
  len : s.nums.length = n
  lt : ∀ x ∈ s.stack, x < n
  sorted : s.stack.Pairwise (fun x y => getI s.nums x < getI s.nums y)
  on : ∀ x ∈ s.stack, 1 ≤ getI s.nums x ∧ getI s.nums x ≤ (s.next : Int)
  cls : ∀ x, x < n → getI s.nums x = 0 ∨ getI s.nums x = maxI ∨ x ∈ s.stack
def Tgt (s t : VSt) (h : Int) (v : Nat) (X : List Nat) (y : Nat) : Prop := dn t y ∨ y ∈ X ∨ y = v ∨ (y ∈ s.stack ∧ h ≤ getI s.nums y)
structure Post (E : List (Nat × Nat)) (n : Nat) (s : VSt) (l : List El) (v : Nat) (r : VRes) (A : List El) (X : List Nat) : Prop where
  inv : Inv n r.1
  meas : fM n r.1 + r.1.next ≤ fM n s + s.next
  less : fM n r.1 < fM n s
  nxt : s.next < r.1.next
  lst : r.2.1 = A ++ l
  cnt : r.2.1.length + ndV n r.1 ≤ l.length + ndV n s
  stk : r.1.stack = s.stack ++ X
  keep : ∀ x, getI s.nums x ≠ 0 → getI r.1.nums x = getI s.nums x
  lstE : Lst E (dn s) (dn r.1) A
  edges : ∀ x ∈ X, ∀ y, (x, y) ∈ E → dn r.1 y ∨ y ∈ X ∨ (y ∈ s.stack ∧ r.2.2 ≤ getI s.nums y)
  path : ∀ x, (x ∈ X ∨ (dn r.1 x ∧ ¬ dn s x)) → Rch (sE E) (fun x => getI s.nums x = 0) v x
  ret : (X = [] ∧ dn r.1 v ∧ r.2.2 = (s.next : Int) + 1 ∧ ∃ c B A', A = El.mk (v : Int) c B :: A') ∨ (∃ X', X = v :: X' ∧ ∃ x ∈ X, ∃ y ∈ s.stack, (x, y) ∈ E ∧ r.2.2 = getI s.nums y)
  down : ∀ x ∈ X, ∃ y ∈ s.stack ++ X, getI r.1.nums y < getI r.1.nums x ∧ ∃ z ∈ X, Rch (sE E) (· ∈ X) x z ∧ (z, y) ∈ E
structure LoopInv (E : List (Nat × Nat)) (n : Nat) (s : VSt) (l : List El) (v : Nat) (pre : List Nat) (a : VSt × List El × Int × Bool) (A : List El) (X : List Nat) : Prop where
  inv : Inv n a.1
  meas : fM n a.1 + a.1.next ≤ fM n s + s.next
  less : fM n a.1 < fM n s
  nxt : s.next < a.1.next
  lst : a.2.1 = A ++ l
  cnt : a.2.1.length + ndV n a.1 ≤ l.length + ndV n s
  stk : a.1.stack = s.stack ++ v :: X
  numv : getI a.1.nums v = (s.next : Int) + 1
  keep : ∀ x, getI s.nums x ≠ 0 → getI a.1.nums x = getI s.nums x
  lstE : Lst E (dn s) (dn a.1) A
  edX : ∀ x ∈ X, ∀ y, (x, y) ∈ E → Tgt s a.1 a.2.2.1 v X y
  edV : ∀ k ∈ pre, Tgt s a.1 a.2.2.1 v X (tgt E k)
  hle : a.2.2.1 ≤ (s.next : Int) + 1
  hval : a.2.2.1 = (s.next : Int) + 1 ∨ ∃ x ∈ v :: X, ∃ y ∈ s.stack, (x, y) ∈ E ∧ a.2.2.1 = getI s.nums y
  nl : a.2.2.2 = false → X = [] ∧ a.2.2.1 = (s.next : Int) + 1 ∧ ∀ k ∈ pre, dn a.1 (tgt E k)
  path : ∀ x, (x ∈ X ∨ (dn a.1 x ∧ ¬ dn s x)) → Rch (sE E) (fun x => getI s.nums x = 0) v x
  down : ∀ x ∈ X, ∃ y ∈ s.stack ++ v :: X, getI a.1.nums y < getI a.1.nums x ∧ ∃ z ∈ X, Rch (sE E) (· ∈ X) x z ∧ (z, y) ∈ E

def gR (x : Int) : Int := if x = maxI then doneR else x
def toR (s : VSt) (l : List El) : RSt := ⟨s.nums.map gR, s.next, s.stack, l⟩
def toRa (a : VSt × List El × Int × Bool) : RSt × Int × Bool := (toR a.1 a.2.1, a.2.2.1, a.2.2.2)
theorem getI_gR (l : List Int) (x : Nat) : getI (l.map gR) x = gR (getI l x) := by
  unfold getI
  rw [List.getD_eq_getElem?_getD, List.getD_eq_getElem?_getD, List.getElem?_map]
  cases l[x]? with
  | none => simp [gR, maxI]
  | some y => rfl
theorem gR_zero (x : Int) : gR x = 0 ↔ x = 0 := by
  unfold gR doneR
  split
  · rename_i h; subst h; simp [maxI]
  · exact Iff.rfl
theorem gR_le {x h : Int} (hh : h ≤ 400000) : gR x ≤ h ↔ x ≤ h := by
  unfold gR doneR
  split
  · rename_i e; subst e; unfold maxI; omega
  · exact Iff.rfl
theorem gR_small {x : Int} (h : x ≤ 400000) : gR x = x := by
  unfold gR
  rw [if_neg]
  unfold maxI
  omega
def VisitOk (E : List (Nat × Nat)) (n : Nat) (f : VSt → List El → Nat → Option VRes) (g : RSt → Nat → Option RRes) (M : Nat) : Prop :=
  ∀ s l v, Inv n s → v < n → getI s.nums v = 0 → fM n s < M → s.next + fM n s ≤ 300000 → l.length + ndV n s ≤ 2000 →
    ∃ r A X, f s l v = some r ∧ g (toR s l) v = some (toR r.1 r.2.1, r.2.2) ∧ Post E n s l v r A X

section
variable {E : List (Nat × Nat)} {n : Nat} {s : VSt} {l : List El} {v : Nat} {pre : List Nat} {a : VSt × List El × Int × Bool} {A : List El} {X : List Nat}
theorem Inv.ne {s : VSt} (h : Inv n s) {y : Nat} (hy : y ∈ s.stack) : getI s.nums y ≠ 0 := by have := h.on y hy; omega
theorem LoopInv.low (h : LoopInv E n s l v pre a A X) : ∀ y ∈ s.stack, getI s.nums y < (s.next : Int) + 1 := fun y hy => by
  have h1 := h.inv.sorted
  rw [h.stk, List.pairwise_append] at h1
  have h2 := h1.2.2 y hy v (by simp)
  rw [h.numv] at h2
  have h3 : getI a.1.nums y = getI s.nums y ∨ getI s.nums y = 0 := by
    by_cases e : getI s.nums y = 0
    · exact .inr e
    · exact .inl (h.keep y e)
  rcases h3 with h3 | h3 <;> omega
theorem LoopInv.high (h : LoopInv E n s l v pre a A X) : ∀ x ∈ X, (s.next : Int) + 1 < getI a.1.nums x := fun x hx => by
  have h1 := h.inv.sorted
  rw [h.stk, List.pairwise_append, List.pairwise_cons] at h1
  have h2 := h1.2.1.1 x hx
  rwa [h.numv] at h2
end
theorem src_of {E : List (Nat × Nat)} {v k : Nat} (h : k ∈ idxs Prod.fst E v) : src E k = v ∧ (v, tgt E k) ∈ E := by
  obtain ⟨x, hx, rfl⟩ := (mem_idxs _ _ _ _).1 h
  have h1 : src E k = x.1 := by unfold src; rw [List.getD_eq_getElem?_getD, hx]; rfl
  have h2 : tgt E k = x.2 := by unfold tgt; rw [List.getD_eq_getElem?_getD, hx]; rfl
  rw [h1, h2]
  exact ⟨rfl, List.mem_of_getElem? hx⟩

theorem stepR_visit {f : RSt → Nat → Option RRes} {E : List (Nat × Nat)} {v i : Nat} {s : RSt} {h : Int} {b : Bool} (h1 : src E i = v) (h2 : getI s.nums (tgt E i) = 0) :
    stepR f E v (s, h, b) i = (f s (tgt E i)).map fun r => (r.1, if r.2 ≤ h then r.2 else h, decide (r.2 ≤ h) || b) := by
  unfold stepR
  rw [if_neg (by simp [h1]), if_pos h2]
theorem stepR_skip {f : RSt → Nat → Option RRes} {E : List (Nat × Nat)} {v i : Nat} {s : RSt} {h : Int} {b : Bool} (h1 : src E i = v) {m : Int} (hm : getI s.nums (tgt E i) = m) (h2 : m ≠ 0) :
    stepR f E v (s, h, b) i = some (s, if m ≤ h then m else h, decide (m ≤ h) || b) := by
  subst hm
  unfold stepR
  rw [if_neg (by simp [h1]), if_neg h2]

theorem loop_step {E : List (Nat × Nat)} {n M : Nat} {f : VSt → List El → Nat → Option VRes} {g : RSt → Nat → Option RRes} {s : VSt} {l : List El} {v : Nat} {pre : List Nat} {a : VSt × List El × Int × Bool} {A : List El} {X : List Nat} {k : Nat}
    (hE : ∀ x ∈ E, x.1 < n ∧ x.2 < n) (hf : VisitOk E n f g M) (hs : Inv n s) (hz : getI s.nums v = 0) (hM : fM n s ≤ M) (hb : s.next + fM n s ≤ 300000) (hl : l.length + ndV n s ≤ 2000)
    (hk : k ∈ idxs Prod.fst E v) (h : LoopInv E n s l v pre a A X) : ∃ a' A' X', stepV f E a k = some a' ∧ stepR g E v (toRa a) k = some (toRa a') ∧ LoopInv E n s l v (pre ++ [k]) a' A' X' := by
  obtain ⟨hsrc, hedge⟩ := src_of hk
  obtain ⟨t, l', hh, lp⟩ := a
  have hwn : tgt E k < n := (hE _ hedge).2
  obtain ⟨w, hw⟩ : ∃ w, w = tgt E k := ⟨_, rfl⟩
  rw [← hw] at hedge hwn
  have hlow := h.low
  have hhigh := h.high
  have hmeas := h.meas
  have hless := h.less
  have hnx := h.nxt
  have hcnt := h.cnt
  have hle := h.hle
  have hstk := h.stk
  have hkeep := h.keep
  simp only at hlow hhigh hmeas hless hnx hcnt hle hstk hkeep
  have hh4 : hh ≤ 400000 := by omega
  -- what is white now was white
  have hwh : ∀ x, getI t.nums x = 0 → getI s.nums x = 0 := fun x hx => Classical.byContradiction fun e => e ((hkeep x e).symm.trans hx)
  -- numbers on the stack
  have hnum : ∀ y ∈ t.stack, getI t.nums y ≤ hh → (y ∈ s.stack ∧ getI t.nums y = getI s.nums y) ∨ (y = v ∧ getI t.nums y = (s.next : Int) + 1) := fun y hy hyh => by
    rw [hstk] at hy
    rcases List.mem_append.1 hy with hy | hy
    · exact .inl ⟨hy, hkeep y (hs.ne hy)⟩
    · rcases List.mem_cons.1 hy with rfl | hy
      · exact .inr ⟨rfl, h.numv⟩
      · have := hhigh y hy; omega
  have hdd : ∀ x, dn s x → dn t x := fun x hx => by
    unfold dn at *
    rw [hkeep x (by rw [hx]; simp [maxI])]; exact hx
  by_cases hw0 : getI t.nums w = 0
  · obtain ⟨r, Aw, Xw, hr, hg, P⟩ := hf t l' w h.inv hwn hw0 (by omega) (by omega) (by omega)
    obtain ⟨t', l2, m⟩ := r
    have pk := P.keep
    have pst := P.stk
    have pm := P.meas
    have pn := P.nxt
    have pc := P.cnt
    have pl := P.less
    simp only at pk pst pm pn pc pl
    have hd2 : ∀ x, dn t x → dn t' x := fun x hx => by
      unfold dn at *
      rw [pk x (by rw [hx]; simp [maxI])]; exact hx
    have hon : ∀ y ∈ s.stack, getI t.nums y = getI s.nums y := fun y hy => hkeep y (hs.ne hy)
    -- the number that the visit yields
    have hm : (m ≤ hh → (hh = (s.next : Int) + 1 ∧ m = hh) ∨ ∃ x ∈ Xw, ∃ y ∈ s.stack, (x, y) ∈ E ∧ m = getI s.nums y) := fun hmh => by
      rcases P.ret with ⟨-, -, h3, -⟩ | ⟨X', -, x, hx, y, hy, hxy, hmy⟩
      · simp only at h3; omega
      · simp only at hmy
        rcases hnum y hy (by omega) with ⟨h1, h2⟩ | ⟨-, h2⟩
        · exact .inr ⟨x, hx, y, h1, hxy, by omega⟩
        · exact .inl (by omega)
    have hnl : lp = false → ¬ m ≤ hh → Xw = [] ∧ dn t' w := fun hlp hmh => by
      obtain ⟨h1, h2, -⟩ := h.nl hlp
      simp only at h2
      rcases P.ret with ⟨h3, h4, -⟩ | ⟨X', -, x, hx, y, hy, hxy, hmy⟩
      · exact ⟨h3, h4⟩
      · simp only at hmy
        rw [hstk, h1] at hy
        rcases List.mem_append.1 hy with hy | hy
        · have := hlow y hy; have := hon y hy; omega
        · rw [List.mem_singleton] at hy; subst hy; have h5 := h.numv; simp only at h5; omega
    refine ⟨(t', l2, if m ≤ hh then m else hh, decide (m ≤ hh) || lp), Aw ++ A, X ++ Xw, ?_, ?_, ?_⟩
    · unfold stepV; simp only; rw [← hw, if_pos hw0, hr]; rfl
    · unfold toRa
      rw [stepR_visit hsrc (by rw [← hw]; exact (getI_gR t.nums w).trans ((gR_zero _).2 hw0)), ← hw, hg]; rfl
    have hmin1 : (if m ≤ hh then m else hh) ≤ hh := by split <;> omega
    have hmin2 : (if m ≤ hh then m else hh) ≤ m := by split <;> omega
    have up : ∀ y, Tgt s t hh v X y → Tgt s t' (if m ≤ hh then m else hh) v (X ++ Xw) y := fun y hy => by
      rcases hy with hy | hy | hy | ⟨hy, hyh⟩
      · exact .inl (hd2 y hy)
      · exact .inr (.inl (List.mem_append_left _ hy))
      · exact .inr (.inr (.inl hy))
      · exact .inr (.inr (.inr ⟨hy, by omega⟩))
    refine ⟨P.inv, by simp only; omega, by simp only; omega, by simp only; omega, ?_, by simp only; omega, ?_, ?_, ?_, h.lstE.comp P.lstE hdd hd2, ?_, ?_, by simp only; omega, ?_, ?_, ?_, ?_⟩
    · have h1 := P.lst; have h2 := h.lst; simp only at h1 h2 ⊢; rw [h1, h2, List.append_assoc]
    · simp only; rw [pst, hstk]; simp
    · simp only; rw [pk v (by have h5 := h.numv; simp only at h5; omega)]; exact h.numv
    · intro x hx; simp only; rw [pk x (by rw [hkeep x hx]; exact hx)]; exact hkeep x hx
    · intro x hx y hxy
      rcases List.mem_append.1 hx with hx | hx
      · exact up y (h.edX x hx y hxy)
      · rcases P.edges x hx y hxy with h1 | h1 | ⟨h1, h2⟩
        · exact .inl h1
        · exact .inr (.inl (List.mem_append_right _ h1))
        · rw [hstk] at h1
          rcases List.mem_append.1 h1 with h1 | h1
          · have := hon y h1; simp only at h2; exact .inr (.inr (.inr ⟨h1, by simp only; omega⟩))
          · rcases List.mem_cons.1 h1 with rfl | h1
            · exact .inr (.inr (.inl rfl))
            · exact .inr (.inl (List.mem_append_left _ h1))
    · intro j hj
      rcases List.mem_append.1 hj with hj | hj
      · exact up _ (h.edV j hj)
      · rw [List.mem_singleton] at hj
        subst hj
        rw [← hw]
        rcases P.ret with ⟨-, h4, -⟩ | ⟨X', h4, -⟩
        · exact .inl h4
        · exact .inr (.inl (by rw [h4]; simp))
    · simp only
      by_cases hmh : m ≤ hh
      · rw [if_pos hmh]
        rcases hm hmh with ⟨h1, h2⟩ | ⟨x, hx, y, hy, hxy, e⟩
        · exact .inl (by omega)
        · exact .inr ⟨x, List.mem_cons_of_mem _ (List.mem_append_right _ hx), y, hy, hxy, e⟩
      · rw [if_neg hmh]
        rcases h.hval with h1 | ⟨x, hx, y, hy, hxy, e⟩
        · exact .inl h1
        · exact .inr ⟨x, by rcases List.mem_cons.1 hx with rfl | hx; · simp
                            · exact List.mem_cons_of_mem _ (List.mem_append_left _ hx), y, hy, hxy, e⟩
    · intro hlp
      simp only [Bool.or_eq_false_iff, decide_eq_false_iff_not] at hlp
      obtain ⟨h1, h2, h3⟩ := h.nl hlp.2
      obtain ⟨h4, h5⟩ := hnl hlp.2 hlp.1
      refine ⟨by rw [h1, h4]; rfl, by simp only; rw [if_neg hlp.1]; exact h2, fun j hj => ?_⟩
      rcases List.mem_append.1 hj with hj | hj
      · exact hd2 _ (h3 j hj)
      · rw [List.mem_singleton] at hj
        subst hj
        rw [← hw]
        exact h5
    · intro x hx
      have hPx : (x ∈ Xw ∨ (dn t' x ∧ ¬ dn t x)) → Rch (sE E) (fun x => getI s.nums x = 0) v x := fun h1 =>
        Rch.head (mem_sE.2 hedge) hz ((P.path x h1).mono hwh)
      rcases hx with hx | ⟨hx, hx2⟩
      · rcases List.mem_append.1 hx with hx | hx
        · exact h.path x (.inl hx)
        · exact hPx (.inl hx)
      · by_cases ht : dn t x
        · exact h.path x (.inr ⟨ht, hx2⟩)
        · exact hPx (.inr ⟨hx, ht⟩)
    · intro x hx
      rcases List.mem_append.1 hx with hx | hx
      · obtain ⟨y, hy, hyx, z, hz', hp, he⟩ := h.down x hx
        simp only at hyx
        have hxt : x ∈ t.stack := by rw [hstk]; exact List.mem_append_right _ (List.mem_cons_of_mem _ hx)
        have hyt : y ∈ t.stack := by rw [hstk]; exact hy
        refine ⟨y, ?_, ?_, z, List.mem_append_left _ hz', hp.mono fun q hq => List.mem_append_left _ hq, he⟩
        · rcases List.mem_append.1 hy with hy | hy
          · exact List.mem_append_left _ hy
          · refine List.mem_append_right _ ?_
            rcases List.mem_cons.1 hy with rfl | hy
            · simp
            · exact List.mem_cons_of_mem _ (List.mem_append_left _ hy)
        · simp only; rw [pk x (h.inv.ne hxt), pk y (h.inv.ne hyt)]; exact hyx
      · obtain ⟨y, hy, hyx, z, hz', hp, he⟩ := P.down x hx
        refine ⟨y, ?_, hyx, z, List.mem_append_right _ hz', hp.mono fun q hq => List.mem_append_right _ hq, he⟩
        rw [hstk] at hy
        simpa using hy
  · -- no visit
    have hwt : dn t w ∨ w ∈ t.stack := by
      rcases h.inv.cls w hwn with h1 | h1 | h1
      · exact absurd h1 hw0
      · exact .inl h1
      · exact .inr h1
    obtain ⟨m, hm⟩ : ∃ m, m = getI t.nums w := ⟨_, rfl⟩
    have hmd : m ≤ hh → w ∈ t.stack := fun hmh => by
      rcases hwt with h1 | h1
      · unfold dn at h1; rw [h1] at hm; unfold maxI at hm; omega
      · exact h1
    have hnl : lp = false → ¬ m ≤ hh → dn t w := fun hlp hmh => by
      rcases hwt with h1 | h1
      · exact h1
      · obtain ⟨h2, h3, -⟩ := h.nl hlp
        simp only at h3
        rw [hstk, h2] at h1
        rcases List.mem_append.1 h1 with h1 | h1
        · have := hlow w h1; have := hkeep w (hs.ne h1); omega
        · rw [List.mem_singleton] at h1; subst h1; have h5 := h.numv; simp only at h5; omega
    refine ⟨(t, l', if m ≤ hh then m else hh, decide (m ≤ hh) || lp), A, X, ?_, ?_, ?_⟩
    · unfold stepV; simp only; rw [← hw, if_neg hw0, hm]
    · unfold toRa
      rw [stepR_skip hsrc (m := gR m) (by rw [← hw, hm]; exact getI_gR t.nums w) (fun e => hw0 (hm ▸ (gR_zero _).1 e))]
      have h1 := gR_le (x := m) hh4
      by_cases hmh : m ≤ hh
      · simp only; rw [if_pos (h1.2 hmh), if_pos hmh, gR_small (by omega)]
      · simp only; rw [if_neg (fun e => hmh (h1.1 e)), if_neg hmh, decide_eq_false hmh, decide_eq_false (fun e => hmh (h1.1 e))]
    have hmin1 : (if m ≤ hh then m else hh) ≤ hh := by split <;> omega
    have hmin2 : (if m ≤ hh then m else hh) ≤ m := by split <;> omega
    have up : ∀ y, Tgt s t hh v X y → Tgt s t (if m ≤ hh then m else hh) v X y := fun y hy => by
      rcases hy with hy | hy | hy | ⟨hy, hyh⟩
      · exact .inl hy
      · exact .inr (.inl hy)
      · exact .inr (.inr (.inl hy))
      · exact .inr (.inr (.inr ⟨hy, by omega⟩))
    refine ⟨h.inv, hmeas, hless, hnx, h.lst, hcnt, hstk, h.numv, hkeep, h.lstE, fun x hx y hxy => up y (h.edX x hx y hxy), fun j hj => ?_, by simp only; omega, ?_, fun hlp => ?_, h.path, h.down⟩
    · rcases List.mem_append.1 hj with hj | hj
      · exact up _ (h.edV j hj)
      · rw [List.mem_singleton] at hj
        subst hj
        rw [← hw]
        rcases hwt with h1 | h1
        · exact .inl h1
        · rw [hstk] at h1
          rcases List.mem_append.1 h1 with h1 | h1
          · exact .inr (.inr (.inr ⟨h1, by have := hkeep w (hs.ne h1); simp only; omega⟩))
          · rcases List.mem_cons.1 h1 with h1 | h1
            · exact .inr (.inr (.inl h1))
            · exact .inr (.inl h1)
    · simp only
      by_cases hmh : m ≤ hh
      · rw [if_pos hmh]
        rcases hnum w (hmd hmh) (by omega) with ⟨h1, h2⟩ | ⟨-, h2⟩
        · exact .inr ⟨v, by simp, w, h1, hedge, by omega⟩
        · exact .inl (by omega)
      · rw [if_neg hmh]; exact h.hval
    · simp only [Bool.or_eq_false_iff, decide_eq_false_iff_not] at hlp
      obtain ⟨h1, h2, h3⟩ := h.nl hlp.2
      refine ⟨h1, by simp only; rw [if_neg hlp.1]; exact h2, fun j hj => ?_⟩
      rcases List.mem_append.1 hj with hj | hj
      · exact h3 j hj
      · rw [List.mem_singleton] at hj
        subst hj
        rw [← hw]
        exact hnl hlp.2 hlp.1

theorem loop_all {E : List (Nat × Nat)} {n M : Nat} {f : VSt → List El → Nat → Option VRes} {g : RSt → Nat → Option RRes} {s : VSt} {l : List El} {v : Nat}
    (hE : ∀ x ∈ E, x.1 < n ∧ x.2 < n) (hf : VisitOk E n f g M) (hs : Inv n s) (hz : getI s.nums v = 0) (hM : fM n s ≤ M) (hb : s.next + fM n s ≤ 300000) (hl : l.length + ndV n s ≤ 2000) :
    ∀ (ks pre : List Nat) (a : VSt × List El × Int × Bool) (A : List El) (X : List Nat), (∀ k ∈ ks, k ∈ idxs Prod.fst E v) → LoopInv E n s l v pre a A X →
      ∃ a' A' X', foldO (stepV f E) ks a = some a' ∧ foldO (stepR g E v) ks (toRa a) = some (toRa a') ∧ LoopInv E n s l v (pre ++ ks) a' A' X'
  | [], pre, a, A, X, _, h => ⟨a, A, X, rfl, rfl, by rw [List.append_nil]; exact h⟩
  | k :: ks, pre, a, A, X, hks, h => by
    obtain ⟨a1, A1, X1, h1, h2, h3⟩ := loop_step hE hf hs hz hM hb hl (hks k List.mem_cons_self) h
    obtain ⟨a2, A2, X2, h4, h5, h6⟩ := loop_all hE hf hs hz hM hb hl ks (pre ++ [k]) a1 A1 X1 (fun j hj => hks j (List.mem_cons_of_mem _ hj)) h3
    refine ⟨a2, A2, X2, ?_, ?_, by rw [List.append_assoc] at h6; exact h6⟩
    · simp only [foldO]; rw [h1]; exact h4
    · simp only [foldO]; rw [h2]; exact h5
end Go.Proofs.YthaampinmelgaaaDoor
