/- The visits of wto and of the reference, plain: they end, and what they give is a weak topological order. -/
import Derived.Test.YthaampinmelgaaaGreatDoorWtoL
/-! Package wto: the visits end, what they leave, and the reference's come to the same. No program here. -/
namespace Go.Proofs.YthaampinmelgaaaGreatDoor

def cntB (n : Nat) (p : Nat → Bool) : Nat := ((List.range n).filter p).length
theorem cntB_succ (n : Nat) (p : Nat → Bool) : cntB (n + 1) p = cntB n p + if p n then 1 else 0 := by
  unfold cntB
  rw [List.range_succ, List.filter_append, List.length_append]
  by_cases h : p n <;> simp [h]
theorem cntB_le (n : Nat) (p : Nat → Bool) : cntB n p ≤ n := by
  unfold cntB
  exact Nat.le_trans (List.length_filter_le _ _) (by simp)
theorem cntB_mono {p q : Nat → Bool} : ∀ n : Nat, (∀ x, x < n → p x = true → q x = true) → cntB n p ≤ cntB n q
  | 0, _ => Nat.le_refl _
  | n + 1, h => by
    rw [cntB_succ, cntB_succ]
    have h1 := cntB_mono n (fun x hx => h x (by omega))
    have h2 := h n (by omega)
    by_cases hp : p n = true
    · rw [if_pos hp, if_pos (h2 hp)]; omega
    · rw [if_neg hp]; omega
theorem cntB_lt {p q : Nat → Bool} : ∀ n : Nat, (∀ x, x < n → p x = true → q x = true) → (∃ x, x < n ∧ p x = false ∧ q x = true) → cntB n p + 1 ≤ cntB n q
  | 0, _, ⟨x, hx, _⟩ => by omega
  | n + 1, h, ⟨x, hx, hp, hq⟩ => by
    rw [cntB_succ, cntB_succ]
    have h2 := h n (by omega)
    by_cases e : x = n
    · subst e
      have h1 := cntB_mono x (fun y hy => h y (by omega))
      rw [hp, hq]
      simp only [if_true, Bool.false_eq_true, if_false]
      omega
    · have h1 := cntB_lt n (fun y hy => h y (by omega)) ⟨x, by omega, hp, hq⟩
      by_cases hpn : p n = true
      · rw [if_pos hpn, if_pos (h2 hpn)]; omega
      · rw [if_neg hpn]; omega

def dn (s : VSt) (x : Nat) : Prop := getI s.nums x = maxI
def ndV (n : Nat) (s : VSt) : Nat := cntB n fun x => decide (getI s.nums x ≠ maxI)
def zrV (n : Nat) (s : VSt) : Nat := cntB n fun x => decide (getI s.nums x = 0)
def fM (n : Nat) (s : VSt) : Nat := ndV n s * (n + 1) + zrV n s
theorem ndV_mono {n : Nat} {s t : VSt} (h : ∀ x, dn s x → dn t x) : ndV n t ≤ ndV n s :=
  cntB_mono n fun x _ hx => by
    have hx' := of_decide_eq_true hx
    exact decide_eq_true (fun e => hx' (h x e))
theorem ndV_lt {n : Nat} {s t : VSt} (h : ∀ x, dn s x → dn t x) {v : Nat} (hv : v < n) (h1 : ¬ dn s v) (h2 : dn t v) : ndV n t + 1 ≤ ndV n s :=
  cntB_lt n (fun x _ hx => by
    have hx' := of_decide_eq_true hx
    exact decide_eq_true (fun e => hx' (h x e))) ⟨v, hv, decide_eq_false (fun h => h h2), decide_eq_true h1⟩
theorem zrV_mono {n : Nat} {s t : VSt} (h : ∀ x, getI t.nums x = 0 → getI s.nums x = 0) : zrV n t ≤ zrV n s :=
  cntB_mono n fun x _ hx => decide_eq_true (h x (of_decide_eq_true hx))
theorem zrV_lt {n : Nat} {s t : VSt} (h : ∀ x, getI t.nums x = 0 → getI s.nums x = 0) {v : Nat} (hv : v < n) (h1 : getI s.nums v = 0) (h2 : getI t.nums v ≠ 0) : zrV n t + 1 ≤ zrV n s :=
  cntB_lt n (fun x _ hx => decide_eq_true (h x (of_decide_eq_true hx))) ⟨v, hv, decide_eq_false h2, decide_eq_true h1⟩
theorem fM_drop {n : Nat} {s t : VSt} (h : ndV n t + 1 ≤ ndV n s) : fM n t + 1 ≤ fM n s := by
  unfold fM
  have h1 := Nat.mul_le_mul_right (n + 1) h
  have h2 : zrV n t ≤ n := cntB_le _ _
  rw [Nat.add_mul] at h1
  omega

structure Inv (n : Nat) (s : VSt) : Prop where
  len : s.nums.length = n
  lt : ∀ x ∈ s.stack, x < n
  sorted : s.stack.Pairwise (fun x y => getI s.nums x < getI s.nums y)
  on : ∀ x ∈ s.stack, 1 ≤ getI s.nums x ∧ getI s.nums x ≤ (s.next : Int)
  cls : ∀ x, x < n → getI s.nums x = 0 ∨ getI s.nums x = maxI ∨ x ∈ s.stack
def Tgt (s t : VSt) (h : Int) (v : Nat) (X : List Nat) (y : Nat) : Prop := dn t y ∨ y ∈ X ∨ y = v ∨ (y ∈ s.stack ∧ h ≤ getI s.nums y)
structure Post (E : List (Nat × Nat)) (n : Nat) (s : VSt) (l : List El) (v : Nat) (r : VRes) (A : List El) (X : List Nat) : Prop where
  inv : Inv n r.1
  meas : fM n r.1 + r.1.next ≤ fM n s + s.next
  less : fM n r.1 < fM n s
  nxt : s.next < r.1.next
  lst : r.2.1 = A ++ l
  cnt : r.2.1.length + ndV n r.1 ≤ l.length + ndV n s
  stk : r.1.stack = s.stack ++ X
  keep : ∀ x, getI s.nums x ≠ 0 → getI r.1.nums x = getI s.nums x
  lstE : Lst E (dn s) (dn r.1) A
  edges : ∀ x ∈ X, ∀ y, (x, y) ∈ E → dn r.1 y ∨ y ∈ X ∨ (y ∈ s.stack ∧ r.2.2 ≤ getI s.nums y)
  path : ∀ x, (x ∈ X ∨ (dn r.1 x ∧ ¬ dn s x)) → Rch (sE E) (fun x => getI s.nums x = 0) v x
  ret : (X = [] ∧ dn r.1 v ∧ r.2.2 = (s.next : Int) + 1 ∧ ∃ c B A', A = El.mk (v : Int) c B :: A') ∨ (∃ X', X = v :: X' ∧ ∃ x ∈ X, ∃ y ∈ s.stack, (x, y) ∈ E ∧ r.2.2 = getI s.nums y)
  down : ∀ x ∈ X, ∃ y ∈ s.stack ++ X, getI r.1.nums y < getI r.1.nums x ∧ ∃ z ∈ X, Rch (sE E) (· ∈ X) x z ∧ (z, y) ∈ E
structure LoopInv (E : List (Nat × Nat)) (n : Nat) (s : VSt) (l : List El) (v : Nat) (pre : List Nat) (a : VSt × List El × Int × Bool) (A : List El) (X : List Nat) : Prop where
  inv : Inv n a.1
  meas : fM n a.1 + a.1.next ≤ fM n s + s.next
  less : fM n a.1 < fM n s
  nxt : s.next < a.1.next
  lst : a.2.1 = A ++ l
  cnt : a.2.1.length + ndV n a.1 ≤ l.length + ndV n s
  stk : a.1.stack = s.stack ++ v :: X
  numv : getI a.1.nums v = (s.next : Int) + 1
  keep : ∀ x, getI s.nums x ≠ 0 → getI a.1.nums x = getI s.nums x
  lstE : Lst E (dn s) (dn a.1) A
  edX : ∀ x ∈ X, ∀ y, (x, y) ∈ E → Tgt s a.1 a.2.2.1 v X y
  edV : ∀ k ∈ pre, Tgt s a.1 a.2.2.1 v X (tgt E k)
  hle : a.2.2.1 ≤ (s.next : Int) + 1
  hval : a.2.2.1 = (s.next : Int) + 1 ∨ ∃ x ∈ v :: X, ∃ y ∈ s.stack, (x, y) ∈ E ∧ a.2.2.1 = getI s.nums y
  nl : a.2.2.2 = false → X = [] ∧ a.2.2.1 = (s.next : Int) + 1 ∧ ∀ k ∈ pre, dn a.1 (tgt E k)
  path : ∀ x, (x ∈ X ∨ (dn a.1 x ∧ ¬ dn s x)) → Rch (sE E) (fun x => getI s.nums x = 0) v x
  down : ∀ x ∈ X, ∃ y ∈ s.stack ++ v :: X, getI a.1.nums y < getI a.1.nums x ∧ ∃ z ∈ X, Rch (sE E) (· ∈ X) x z ∧ (z, y) ∈ E

def gR (x : Int) : Int := if x = maxI then doneR else x
def toR (s : VSt) (l : List El) : RSt := ⟨s.nums.map gR, s.next, s.stack, l⟩
def toRa (a : VSt × List El × Int × Bool) : RSt × Int × Bool := (toR a.1 a.2.1, a.2.2.1, a.2.2.2)
theorem getI_gR (l : List Int) (x : Nat) : getI (l.map gR) x = gR (getI l x) := by
  unfold getI
  rw [List.getD_eq_getElem?_getD, List.getD_eq_getElem?_getD, List.getElem?_map]
  cases l[x]? with
  | none => simp [gR, maxI]
  | some y => rfl
theorem gR_zero (x : Int) : gR x = 0 ↔ x = 0 := by
  unfold gR doneR
  split
  · rename_i h; subst h; simp [maxI]
  · exact Iff.rfl
theorem gR_le {x h : Int} (hh : h ≤ 400000) : gR x ≤ h ↔ x ≤ h := by
  unfold gR doneR
  split
  · rename_i e; subst e; unfold maxI; omega
  · exact Iff.rfl
theorem gR_small {x : Int} (h : x ≤ 400000) : gR x = x := by
  unfold gR
  rw [if_neg]
  unfold maxI
  omega
def VisitOk (E : List (Nat × Nat)) (n : Nat) (f : VSt → List El → Nat → Option VRes) (g : RSt → Nat → Option RRes) (M : Nat) : Prop :=
  ∀ s l v, Inv n s → v < n → getI s.nums v = 0 → fM n s < M → s.next + fM n s ≤ 300000 → l.length + ndV n s ≤ 2000 →
    ∃ r A X, f s l v = some r ∧ g (toR s l) v = some (toR r.1 r.2.1, r.2.2) ∧ Post E n s l v r A X

section
variable {E : List (Nat × Nat)} {n : Nat} {s : VSt} {l : List El} {v : Nat} {pre : List Nat} {a : VSt × List El × Int × Bool} {A : List El} {X : List Nat}
theorem Inv.ne {s : VSt} (h : Inv n s) {y : Nat} (hy : y ∈ s.stack) : getI s.nums y ≠ 0 := by have := h.on y hy; omega
theorem LoopInv.low (h : LoopInv E n s l v pre a A X) : ∀ y ∈ s.stack, getI s.nums y < (s.next : Int) + 1 := fun y hy => by
  have h1 := h.inv.sorted
  rw [h.stk, List.pairwise_append] at h1
  have h2 := h1.2.2 y hy v (by simp)
  rw [h.numv] at h2
  have h3 : getI a.1.nums y = getI s.nums y ∨ getI s.nums y = 0 := by
    by_cases e : getI s.nums y = 0
    · exact .inr e
    · exact .inl (h.keep y e)
  rcases h3 with h3 | h3 <;> omega
theorem LoopInv.high (h : LoopInv E n s l v pre a A X) : ∀ x ∈ X, (s.next : Int) + 1 < getI a.1.nums x := fun x hx => by
  have h1 := h.inv.sorted
  rw [h.stk, List.pairwise_append, List.pairwise_cons] at h1
  have h2 := h1.2.1.1 x hx
  rwa [h.numv] at h2
end
theorem src_of {E : List (Nat × Nat)} {v k : Nat} (h : k ∈ idxs Prod.fst E v) : src E k = v ∧ (v, tgt E k) ∈ E := by
  obtain ⟨x, hx, rfl⟩ := (mem_idxs _ _ _ _).1 h
  have h1 : src E k = x.1 := by unfold src; rw [List.getD_eq_getElem?_getD, hx]; rfl
  have h2 : tgt E k = x.2 := by unfold tgt; rw [List.getD_eq_getElem?_getD, hx]; rfl
  rw [h1, h2]
  exact ⟨rfl, List.mem_of_getElem? hx⟩

theorem stepR_visit {f : RSt → Nat → Option RRes} {E : List (Nat × Nat)} {v i : Nat} {s : RSt} {h : Int} {b : Bool} (h1 : src E i = v) (h2 : getI s.nums (tgt E i) = 0) :
    stepR f E v (s, h, b) i = (f s (tgt E i)).map fun r => (r.1, if r.2 ≤ h then r.2 else h, decide (r.2 ≤ h) || b) := by
  unfold stepR
  rw [if_neg (by simp [h1]), if_pos h2]
theorem stepR_skip {f : RSt → Nat → Option RRes} {E : List (Nat × Nat)} {v i : Nat} {s : RSt} {h : Int} {b : Bool} (h1 : src E i = v) {m : Int} (hm : getI s.nums (tgt E i) = m) (h2 : m ≠ 0) :
    stepR f E v (s, h, b) i = some (s, if m ≤ h then m else h, decide (m ≤ h) || b) := by
  subst hm
  unfold stepR
  rw [if_neg (by simp [h1]), if_neg h2]

theorem loop_step {E : List (Nat × Nat)} {n M : Nat} {f : VSt → List El → Nat → Option VRes} {g : RSt → Nat → Option RRes} {s : VSt} {l : List El} {v : Nat} {pre : List Nat} {a : VSt × List El × Int × Bool} {A : List El} {X : List Nat} {k : Nat}
    (hE : ∀ x ∈ E, x.1 < n ∧ x.2 < n) (hf : VisitOk E n f g M) (hs : Inv n s) (hz : getI s.nums v = 0) (hM : fM n s ≤ M) (hb : s.next + fM n s ≤ 300000) (hl : l.length + ndV n s ≤ 2000)
    (hk : k ∈ idxs Prod.fst E v) (h : LoopInv E n s l v pre a A X) : ∃ a' A' X', stepV f E a k = some a' ∧ stepR g E v (toRa a) k = some (toRa a') ∧ LoopInv E n s l v (pre ++ [k]) a' A' X' := by
  obtain ⟨hsrc, hedge⟩ := src_of hk
  obtain ⟨t, l', hh, lp⟩ := a
  have hwn : tgt E k < n := (hE _ hedge).2
  obtain ⟨w, hw⟩ : ∃ w, w = tgt E k := ⟨_, rfl⟩
  rw [← hw] at hedge hwn
  have hlow := h.low
  have hhigh := h.high
  have hmeas := h.meas
  have hless := h.less
  have hnx := h.nxt
  have hcnt := h.cnt
  have hle := h.hle
  have hstk := h.stk
  have hkeep := h.keep
  simp only at hlow hhigh hmeas hless hnx hcnt hle hstk hkeep
  have hh4 : hh ≤ 400000 := by omega
  -- what is white now was white
  have hwh : ∀ x, getI t.nums x = 0 → getI s.nums x = 0 := fun x hx => Classical.byContradiction fun e => e ((hkeep x e).symm.trans hx)
  -- numbers on the stack
  have hnum : ∀ y ∈ t.stack, getI t.nums y ≤ hh → (y ∈ s.stack ∧ getI t.nums y = getI s.nums y) ∨ (y = v ∧ getI t.nums y = (s.next : Int) + 1) := fun y hy hyh => by
    rw [hstk] at hy
    rcases List.mem_append.1 hy with hy | hy
    · exact .inl ⟨hy, hkeep y (hs.ne hy)⟩
    · rcases List.mem_cons.1 hy with rfl | hy
      · exact .inr ⟨rfl, h.numv⟩
      · have := hhigh y hy; omega
  have hdd : ∀ x, dn s x → dn t x := fun x hx => by
    unfold dn at *
    rw [hkeep x (by rw [hx]; simp [maxI])]; exact hx
  by_cases hw0 : getI t.nums w = 0
  · obtain ⟨r, Aw, Xw, hr, hg, P⟩ := hf t l' w h.inv hwn hw0 (by omega) (by omega) (by omega)
    obtain ⟨t', l2, m⟩ := r
    have pk := P.keep
    have pst := P.stk
    have pm := P.meas
    have pn := P.nxt
    have pc := P.cnt
    have pl := P.less
    simp only at pk pst pm pn pc pl
    have hd2 : ∀ x, dn t x → dn t' x := fun x hx => by
      unfold dn at *
      rw [pk x (by rw [hx]; simp [maxI])]; exact hx
    have hon : ∀ y ∈ s.stack, getI t.nums y = getI s.nums y := fun y hy => hkeep y (hs.ne hy)
    -- the number that the visit yields
    have hm : (m ≤ hh → (hh = (s.next : Int) + 1 ∧ m = hh) ∨ ∃ x ∈ Xw, ∃ y ∈ s.stack, (x, y) ∈ E ∧ m = getI s.nums y) := fun hmh => by
      rcases P.ret with ⟨-, -, h3, -⟩ | ⟨X', -, x, hx, y, hy, hxy, hmy⟩
      · simp only at h3; omega
      · simp only at hmy
        rcases hnum y hy (by omega) with ⟨h1, h2⟩ | ⟨-, h2⟩
        · exact .inr ⟨x, hx, y, h1, hxy, by omega⟩
        · exact .inl (by omega)
    have hnl : lp = false → ¬ m ≤ hh → Xw = [] ∧ dn t' w := fun hlp hmh => by
      obtain ⟨h1, h2, -⟩ := h.nl hlp
      simp only at h2
      rcases P.ret with ⟨h3, h4, -⟩ | ⟨X', -, x, hx, y, hy, hxy, hmy⟩
      · exact ⟨h3, h4⟩
      · simp only at hmy
        rw [hstk, h1] at hy
        rcases List.mem_append.1 hy with hy | hy
        · have := hlow y hy; have := hon y hy; omega
        · rw [List.mem_singleton] at hy; subst hy; have h5 := h.numv; simp only at h5; omega
    refine ⟨(t', l2, if m ≤ hh then m else hh, decide (m ≤ hh) || lp), Aw ++ A, X ++ Xw, ?_, ?_, ?_⟩
    · unfold stepV; simp only; rw [← hw, if_pos hw0, hr]; rfl
    · unfold toRa
      rw [stepR_visit hsrc (by rw [← hw]; exact (getI_gR t.nums w).trans ((gR_zero _).2 hw0)), ← hw, hg]; rfl
    have hmin1 : (if m ≤ hh then m else hh) ≤ hh := by split <;> omega
    have hmin2 : (if m ≤ hh then m else hh) ≤ m := by split <;> omega
    have up : ∀ y, Tgt s t hh v X y → Tgt s t' (if m ≤ hh then m else hh) v (X ++ Xw) y := fun y hy => by
      rcases hy with hy | hy | hy | ⟨hy, hyh⟩
      · exact .inl (hd2 y hy)
      · exact .inr (.inl (List.mem_append_left _ hy))
      · exact .inr (.inr (.inl hy))
      · exact .inr (.inr (.inr ⟨hy, by omega⟩))
    refine ⟨P.inv, by simp only; omega, by simp only; omega, by simp only; omega, ?_, by simp only; omega, ?_, ?_, ?_, h.lstE.comp P.lstE hdd hd2, ?_, ?_, by simp only; omega, ?_, ?_, ?_, ?_⟩
    · have h1 := P.lst; have h2 := h.lst; simp only at h1 h2 ⊢; rw [h1, h2, List.append_assoc]
    · simp only; rw [pst, hstk]; simp
    · simp only; rw [pk v (by have h5 := h.numv; simp only at h5; omega)]; exact h.numv
    · intro x hx; simp only; rw [pk x (by rw [hkeep x hx]; exact hx)]; exact hkeep x hx
    · intro x hx y hxy
      rcases List.mem_append.1 hx with hx | hx
      · exact up y (h.edX x hx y hxy)
      · rcases P.edges x hx y hxy with h1 | h1 | ⟨h1, h2⟩
        · exact .inl h1
        · exact .inr (.inl (List.mem_append_right _ h1))
        · rw [hstk] at h1
          rcases List.mem_append.1 h1 with h1 | h1
          · have := hon y h1; simp only at h2; exact .inr (.inr (.inr ⟨h1, by simp only; omega⟩))
          · rcases List.mem_cons.1 h1 with rfl | h1
            · exact .inr (.inr (.inl rfl))
            · exact .inr (.inl (List.mem_append_left _ h1))
    · intro j hj
      rcases List.mem_append.1 hj with hj | hj
      · exact up _ (h.edV j hj)
      · rw [List.mem_singleton] at hj
        subst hj
        rw [← hw]
        rcases P.ret with ⟨-, h4, -⟩ | ⟨X', h4, -⟩
        · exact .inl h4
        · exact .inr (.inl (by rw [h4]; simp))
    · simp only
      by_cases hmh : m ≤ hh
      · rw [if_pos hmh]
        rcases hm hmh with ⟨h1, h2⟩ | ⟨x, hx, y, hy, hxy, e⟩
        · exact .inl (by omega)
        · exact .inr ⟨x, List.mem_cons_of_mem _ (List.mem_append_right _ hx), y, hy, hxy, e⟩
      · rw [if_neg hmh]
        rcases h.hval with h1 | ⟨x, hx, y, hy, hxy, e⟩
        · exact .inl h1
        · exact .inr ⟨x, by rcases List.mem_cons.1 hx with rfl | hx; · simp
                            · exact List.mem_cons_of_mem _ (List.mem_append_left _ hx), y, hy, hxy, e⟩
    · intro hlp
      simp only [Bool.or_eq_false_iff, decide_eq_false_iff_not] at hlp
      obtain ⟨h1, h2, h3⟩ := h.nl hlp.2
      obtain ⟨h4, h5⟩ := hnl hlp.2 hlp.1
      refine ⟨by rw [h1, h4]; rfl, by simp only; rw [if_neg hlp.1]; exact h2, fun j hj => ?_⟩
      rcases List.mem_append.1 hj with hj | hj
      · exact hd2 _ (h3 j hj)
      · rw [List.mem_singleton] at hj
        subst hj
        rw [← hw]
        exact h5
    · intro x hx
      have hPx : (x ∈ Xw ∨ (dn t' x ∧ ¬ dn t x)) → Rch (sE E) (fun x => getI s.nums x = 0) v x := fun h1 =>
        Rch.head (mem_sE.2 hedge) hz ((P.path x h1).mono hwh)
      rcases hx with hx | ⟨hx, hx2⟩
      · rcases List.mem_append.1 hx with hx | hx
        · exact h.path x (.inl hx)
        · exact hPx (.inl hx)
      · by_cases ht : dn t x
        · exact h.path x (.inr ⟨ht, hx2⟩)
        · exact hPx (.inr ⟨hx, ht⟩)
    · intro x hx
      rcases List.mem_append.1 hx with hx | hx
      · obtain ⟨y, hy, hyx, z, hz', hp, he⟩ := h.down x hx
        simp only at hyx
        have hxt : x ∈ t.stack := by rw [hstk]; exact List.mem_append_right _ (List.mem_cons_of_mem _ hx)
        have hyt : y ∈ t.stack := by rw [hstk]; exact hy
        refine ⟨y, ?_, ?_, z, List.mem_append_left _ hz', hp.mono fun q hq => List.mem_append_left _ hq, he⟩
        · rcases List.mem_append.1 hy with hy | hy
          · exact List.mem_append_left _ hy
          · refine List.mem_append_right _ ?_
            rcases List.mem_cons.1 hy with rfl | hy
            · simp
            · exact List.mem_cons_of_mem _ (List.mem_append_left _ hy)
        · simp only; rw [pk x (h.inv.ne hxt), pk y (h.inv.ne hyt)]; exact hyx
      · obtain ⟨y, hy, hyx, z, hz', hp, he⟩ := P.down x hx
        refine ⟨y, ?_, hyx, z, List.mem_append_right _ hz', hp.mono fun q hq => List.mem_append_right _ hq, he⟩
        rw [hstk] at hy
        simpa using hy
  · -- no visit
    have hwt : dn t w ∨ w ∈ t.stack := by
      rcases h.inv.cls w hwn with h1 | h1 | h1
      · exact absurd h1 hw0
      · exact .inl h1
      · exact .inr h1
    obtain ⟨m, hm⟩ : ∃ m, m = getI t.nums w := ⟨_, rfl⟩
    have hmd : m ≤ hh → w ∈ t.stack := fun hmh => by
      rcases hwt with h1 | h1
      · unfold dn at h1; rw [h1] at hm; unfold maxI at hm; omega
      · exact h1
    have hnl : lp = false → ¬ m ≤ hh → dn t w := fun hlp hmh => by
      rcases hwt with h1 | h1
      · exact h1
      · obtain ⟨h2, h3, -⟩ := h.nl hlp
        simp only at h3
        rw [hstk, h2] at h1
        rcases List.mem_append.1 h1 with h1 | h1
        · have := hlow w h1; have := hkeep w (hs.ne h1); omega
        · rw [List.mem_singleton] at h1; subst h1; have h5 := h.numv; simp only at h5; omega
    refine ⟨(t, l', if m ≤ hh then m else hh, decide (m ≤ hh) || lp), A, X, ?_, ?_, ?_⟩
    · unfold stepV; simp only; rw [← hw, if_neg hw0, hm]
    · unfold toRa
      rw [stepR_skip hsrc (m := gR m) (by rw [← hw, hm]; exact getI_gR t.nums w) (fun e => hw0 (hm ▸ (gR_zero _).1 e))]
      have h1 := gR_le (x := m) hh4
      by_cases hmh : m ≤ hh
      · simp only; rw [if_pos (h1.2 hmh), if_pos hmh, gR_small (by omega)]
      · simp only; rw [if_neg (fun e => hmh (h1.1 e)), if_neg hmh, decide_eq_false hmh, decide_eq_false (fun e => hmh (h1.1 e))]
    have hmin1 : (if m ≤ hh then m else hh) ≤ hh := by split <;> omega
    have hmin2 : (if m ≤ hh then m else hh) ≤ m := by split <;> omega
    have up : ∀ y, Tgt s t hh v X y → Tgt s t (if m ≤ hh then m else hh) v X y := fun y hy => by
      rcases hy with hy | hy | hy | ⟨hy, hyh⟩
      · exact .inl hy
      · exact .inr (.inl hy)
      · exact .inr (.inr (.inl hy))
      · exact .inr (.inr (.inr ⟨hy, by omega⟩))
    refine ⟨h.inv, hmeas, hless, hnx, h.lst, hcnt, hstk, h.numv, hkeep, h.lstE, fun x hx y hxy => up y (h.edX x hx y hxy), fun j hj => ?_, by simp only; omega, ?_, fun hlp => ?_, h.path, h.down⟩
    · rcases List.mem_append.1 hj with hj | hj
      · exact up _ (h.edV j hj)
      · rw [List.mem_singleton] at hj
        subst hj
        rw [← hw]
        rcases hwt with h1 | h1
        · exact .inl h1
        · rw [hstk] at h1
          rcases List.mem_append.1 h1 with h1 | h1
          · exact .inr (.inr (.inr ⟨h1, by have := hkeep w (hs.ne h1); simp only; omega⟩))
          · rcases List.mem_cons.1 h1 with h1 | h1
            · exact .inr (.inr (.inl h1))
            · exact .inr (.inl h1)
    · simp only
      by_cases hmh : m ≤ hh
      · rw [if_pos hmh]
        rcases hnum w (hmd hmh) (by omega) with ⟨h1, h2⟩ | ⟨-, h2⟩
        · exact .inr ⟨v, by simp, w, h1, hedge, by omega⟩
        · exact .inl (by omega)
      · rw [if_neg hmh]; exact h.hval
    · simp only [Bool.or_eq_false_iff, decide_eq_false_iff_not] at hlp
      obtain ⟨h1, h2, h3⟩ := h.nl hlp.2
      refine ⟨h1, by simp only; rw [if_neg hlp.1]; exact h2, fun j hj => ?_⟩
      rcases List.mem_append.1 hj with hj | hj
      · exact h3 j hj
      · rw [List.mem_singleton] at hj
        subst hj
        rw [← hw]
        exact hnl hlp.2 hlp.1

theorem loop_all {E : List (Nat × Nat)} {n M : Nat} {f : VSt → List El → Nat → Option VRes} {g : RSt → Nat → Option RRes} {s : VSt} {l : List El} {v : Nat}
    (hE : ∀ x ∈ E, x.1 < n ∧ x.2 < n) (hf : VisitOk E n f g M) (hs : Inv n s) (hz : getI s.nums v = 0) (hM : fM n s ≤ M) (hb : s.next + fM n s ≤ 300000) (hl : l.length + ndV n s ≤ 2000) :
    ∀ (ks pre : List Nat) (a : VSt × List El × Int × Bool) (A : List El) (X : List Nat), (∀ k ∈ ks, k ∈ idxs Prod.fst E v) → LoopInv E n s l v pre a A X →
      ∃ a' A' X', foldO (stepV f E) ks a = some a' ∧ foldO (stepR g E v) ks (toRa a) = some (toRa a') ∧ LoopInv E n s l v (pre ++ ks) a' A' X'
  | [], pre, a, A, X, _, h => ⟨a, A, X, rfl, rfl, by rw [List.append_nil]; exact h⟩
  | k :: ks, pre, a, A, X, hks, h => by
    obtain ⟨a1, A1, X1, h1, h2, h3⟩ := loop_step hE hf hs hz hM hb hl (hks k List.mem_cons_self) h
    obtain ⟨a2, A2, X2, h4, h5, h6⟩ := loop_all hE hf hs hz hM hb hl ks (pre ++ [k]) a1 A1 X1 (fun j hj => hks j (List.mem_cons_of_mem _ hj)) h3
    refine ⟨a2, A2, X2, ?_, ?_, by rw [List.append_assoc] at h6; exact h6⟩
    · simp only [foldO]; rw [h1]; exact h4
    · simp only [foldO]; rw [h2]; exact h5
end Go.Proofs.YthaampinmelgaaaGreatDoor

/-! Package wto: what a visit leaves, for every visit. No program here. -/
namespace Go.Proofs.YthaampinmelgaaaGreatDoor

theorem foldO_filter {σ α : Type} {f : σ → α → Option σ} {p : α → Bool} (hp : ∀ s x, p x = false → f s x = some s) : ∀ (xs : List α) (s : σ), foldO f xs s = foldO f (xs.filter p) s
  | [], s => rfl
  | x :: xs, s => by
    rw [List.filter_cons]
    by_cases h : p x = true
    · rw [if_pos h]
      simp only [foldO]
      cases f s x with
      | none => rfl
      | some t => exact foldO_filter hp xs t
    · rw [if_neg h]
      simp only [foldO]
      rw [hp s x (by simpa using h)]
      exact foldO_filter hp xs s
theorem zeroAll_length (nums : List Int) (Y : List Nat) : (zeroAll nums Y).length = nums.length := by
  unfold zeroAll
  induction Y generalizing nums with
  | nil => rfl
  | cons y Y ih => rw [List.foldl_cons, ih]; simp
theorem getI_zeroAll (nums : List Int) (Y : List Nat) (x : Nat) : getI (zeroAll nums Y) x = if x ∈ Y ∧ x < nums.length then 0 else getI nums x := by
  unfold zeroAll
  induction Y generalizing nums with
  | nil => simp
  | cons y Y ih =>
    rw [List.foldl_cons, ih, List.length_set, getI_set]
    by_cases h1 : x ∈ Y
    · by_cases h2 : x < nums.length
      · simp [h1, h2]
      · have : ¬ (y = x ∧ y < nums.length) := fun e => h2 (e.1 ▸ e.2)
        simp [h1, h2, this]
    · by_cases h3 : y = x
      · subst h3; simp [h1]
      · have h4 : ¬ x = y := fun e => h3 e.symm
        simp [h1, h3, h4]
theorem getI_ext' {a b : List Int} (hl : a.length = b.length) (h : ∀ x, getI a x = getI b x) : a = b := by
  apply List.ext_getElem hl
  intro i h1 h2
  have := h i
  unfold getI at this
  rw [List.getD_eq_getElem?_getD, List.getD_eq_getElem?_getD, List.getElem?_eq_getElem h1, List.getElem?_eq_getElem h2] at this
  exact this
theorem popR_all (v : Nat) : ∀ (Y : List Nat) (nums : List Int) (rs : List Nat), v ∉ Y → popR v nums (Y ++ v :: rs) = (zeroAll nums Y, rs)
  | [], nums, rs, _ => by simp [popR, zeroAll]
  | y :: Y, nums, rs, h => by
    have h1 : ¬ y = v := fun e => h (by rw [e]; simp)
    rw [List.cons_append, popR, if_neg h1, popR_all v Y _ rs (fun e => h (List.mem_cons_of_mem _ e))]
    rfl
theorem pop_same {nums : List Int} {v : Nat} {X : List Nat} : zeroAll ((nums.map gR).set v doneR) X.reverse = (zeroAll (nums.set v maxI) X).map gR := by
  refine getI_ext' (by simp [zeroAll_length]) fun x => ?_
  have e1 : (nums.map gR).set v doneR = (nums.set v maxI).map gR := by rw [List.map_set]; rfl
  rw [e1, getI_gR, getI_zeroAll, getI_zeroAll, getI_gR, List.length_map]
  simp only [List.mem_reverse]
  split
  · simp [gR, maxI]
  · rfl
theorem idx_at {S X : List Nat} {v : Nat} (h : v ∉ S) : idxI (castN (S ++ v :: X)) (v : Int) = (S.length : Int) := by
  refine findIdx_some_of (by simp [castN]) (fun m hm => ?_) ?_
  · unfold castN getI
    rw [List.getD_eq_getElem?_getD, List.getElem?_map, List.getElem?_append_left hm, List.getElem?_eq_getElem hm]
    simp only [Option.map_some, Option.getD_some]
    intro e
    have e' : S[m] = v := by omega
    exact h (e' ▸ List.getElem_mem hm)
  · unfold castN getI
    rw [List.getD_eq_getElem?_getD, List.getElem?_map, List.getElem?_append_right (Nat.le_refl _)]
    simp
theorem Inv.nodup {n : Nat} {s : VSt} (h : Inv n s) : s.stack.Nodup := h.sorted.imp fun hab e => by rw [e] at hab; omega
theorem Inv.notDone {n : Nat} {s : VSt} (h : Inv n s) (hn : s.next ≤ 400000) {y : Nat} (hy : y ∈ s.stack) : ¬ dn s y := fun e => by
  have := (h.on y hy).2
  unfold dn at e
  rw [e] at this
  unfold maxI at this
  omega
theorem dn_lt {n : Nat} {s : VSt} (h : s.nums.length = n) {x : Nat} (hx : dn s x) : x < n := by
  rcases Nat.lt_or_ge x n with h1 | h1
  · exact h1
  · unfold dn getI at hx
    rw [List.getD_eq_getElem?_getD, List.getElem?_eq_none (by omega)] at hx
    simp [maxI] at hx
theorem zero_lt {n : Nat} {s : VSt} (h : s.nums.length = n) {x : Nat} (hx : getI s.nums x = 0) : x < n := by
  rcases Nat.lt_or_ge x n with h1 | h1
  · exact h1
  · unfold getI at hx
    rw [List.getD_eq_getElem?_getD, List.getElem?_eq_none (by omega)] at hx
    simp at hx

/-- The loop of a component. -/
structure CompInv (E : List (Nat × Nat)) (n : Nat) (t2 : VSt) (X pre : List Nat) (b : VSt × List El) : Prop where
  inv : Inv n b.1
  stk : b.1.stack = t2.stack
  meas : fM n b.1 + b.1.next ≤ fM n t2 + t2.next
  fl : fM n b.1 ≤ fM n t2
  nxt : t2.next ≤ b.1.next
  cnt : b.2.length + ndV n b.1 ≤ ndV n t2
  keep : ∀ x, getI t2.nums x ≠ 0 → getI b.1.nums x = getI t2.nums x
  lstE : Lst E (dn t2) (dn b.1) b.2
  edV : ∀ k ∈ pre, dn b.1 (tgt E k)
  new : ∀ x, dn b.1 x → ¬ dn t2 x → x ∈ X
theorem comp_step {E : List (Nat × Nat)} {n M : Nat} {f : VSt → List El → Nat → Option VRes} {g : RSt → Nat → Option RRes} {t2 : VSt} {X pre : List Nat} {b : VSt × List El} {v k : Nat}
    (hE : ∀ x ∈ E, x.1 < n ∧ x.2 < n) (hf : VisitOk E n f g M) (h2 : Inv n t2) (hM : fM n t2 < M) (hb : t2.next + fM n t2 ≤ 300000) (hn : n ≤ 512)
    (hX : ∀ x ∈ X, ∀ y, (x, y) ∈ E → dn t2 y ∨ y ∈ X) (hV : ∀ k ∈ idxs Prod.fst E v, dn t2 (tgt E k) ∨ tgt E k ∈ X) (hS : ∀ x ∈ X, x ∉ t2.stack)
    (hk : k ∈ idxs Prod.fst E v) (h : CompInv E n t2 X pre b) : ∃ b', compS f E b k = some b' ∧ insR g E v (toR b.1 b.2) k = some (toR b'.1 b'.2) ∧ CompInv E n t2 X (pre ++ [k]) b' := by
  obtain ⟨hsrc, hedge⟩ := src_of hk
  obtain ⟨u, B⟩ := b
  have hwn : tgt E k < n := (hE _ hedge).2
  have hVk := hV k hk
  obtain ⟨w, hw⟩ : ∃ w, w = tgt E k := ⟨_, rfl⟩
  rw [← hw] at hedge hwn hVk
  have hmeas := h.meas
  have hfl := h.fl
  have hnx := h.nxt
  have hcnt := h.cnt
  have hkeep := h.keep
  have hstk := h.stk
  simp only at hmeas hfl hnx hcnt hkeep hstk
  have hnd : ndV n t2 ≤ n := cntB_le _ _
  have hdd : ∀ x, dn t2 x → dn u x := fun x hx => by
    unfold dn at *
    rw [hkeep x (by rw [hx]; simp [maxI])]; exact hx
  have hwh : ∀ x, getI u.nums x = 0 → ¬ dn t2 x := fun x hx e => by
    have h1 := hdd x e
    unfold dn at h1
    rw [hx] at h1
    simp [maxI] at h1
  by_cases hw0 : getI u.nums w = 0
  · have hwX : w ∈ X := hVk.elim (fun e => absurd e (hwh w hw0)) id
    obtain ⟨r, Aw, Xw, hr, hg, P⟩ := hf u B w h.inv hwn hw0 (by omega) (by omega) (by omega)
    obtain ⟨u', l2, m⟩ := r
    have pk := P.keep
    have pst := P.stk
    have pm := P.meas
    have pn := P.nxt
    have pc := P.cnt
    have pl := P.less
    simp only at pk pst pm pn pc pl
    have hd2 : ∀ x, dn u x → dn u' x := fun x hx => by
      unfold dn at *
      rw [pk x (by rw [hx]; simp [maxI])]; exact hx
    have hin : ∀ {x : Nat}, Rch (sE E) (fun x => getI u.nums x = 0) w x → x ∈ X := fun hp => by
      induction hp with
      | refl _ => exact hwX
      | step _ hc h0 ih => exact (hX _ ih _ (mem_sE.1 hc)).elim (fun e => absurd e (hwh _ h0)) id
    have hempty : Xw = [] ∧ dn u' w := by
      rcases P.ret with ⟨h1, h3, -⟩ | ⟨X', -, x, hx, y, hy, hxy, -⟩
      · exact ⟨h1, h3⟩
      · have hxX := hin (P.path x (.inl hx))
        rw [hstk] at hy
        rcases hX x hxX y hxy with h1 | h1
        · exact absurd h1 (h2.notDone (by omega) hy)
        · exact absurd hy (hS y h1)
    refine ⟨(u', l2), ?_, ?_, ?_⟩
    · unfold compS; simp only; rw [← hw, if_pos hw0, hr]; rfl
    · unfold insR
      rw [if_pos ⟨hsrc, by rw [← hw]; exact (getI_gR u.nums w).trans ((gR_zero _).2 hw0)⟩, ← hw]
      show Option.map (·.1) (g (toR u B) w) = _
      rw [hg]; rfl
    refine ⟨P.inv, ?_, by simp only; omega, by simp only; omega, by simp only; omega, by simp only; omega, ?_, ?_, ?_, ?_⟩
    · simp only; rw [pst, hempty.1, hstk, List.append_nil]
    · intro x hx; simp only; rw [pk x (by rw [hkeep x hx]; exact hx)]; exact hkeep x hx
    · have h1 := P.lst
      simp only at h1 ⊢
      rw [h1]
      exact h.lstE.comp P.lstE hdd hd2
    · intro j hj
      rcases List.mem_append.1 hj with hj | hj
      · exact hd2 _ (h.edV j hj)
      · rw [List.mem_singleton] at hj
        subst hj
        rw [← hw]
        exact hempty.2
    · intro x hx hx2
      by_cases hu : dn u x
      · exact h.new x hu hx2
      · exact hin (P.path x (.inr ⟨hx, hu⟩))
  · have hdw : dn u w := by
      rcases h.inv.cls w hwn with h1 | h1 | h1
      · exact absurd h1 hw0
      · exact h1
      · rw [hstk] at h1
        rcases hVk with h3 | h3
        · exact hdd w h3
        · exact absurd h1 (hS w h3)
    refine ⟨(u, B), ?_, ?_, ⟨h.inv, hstk, hmeas, hfl, hnx, hcnt, hkeep, h.lstE, fun j hj => ?_, h.new⟩⟩
    · unfold compS; simp only; rw [← hw, if_neg hw0]
    · unfold insR
      rw [if_neg]
      rintro ⟨-, e⟩
      rw [← hw] at e
      exact hw0 ((gR_zero _).1 ((getI_gR u.nums w).symm.trans e))
    · rcases List.mem_append.1 hj with hj | hj
      · exact h.edV j hj
      · rw [List.mem_singleton] at hj
        subst hj
        rw [← hw]
        exact hdw
theorem comp_all {E : List (Nat × Nat)} {n M : Nat} {f : VSt → List El → Nat → Option VRes} {g : RSt → Nat → Option RRes} {t2 : VSt} {X : List Nat} {v : Nat}
    (hE : ∀ x ∈ E, x.1 < n ∧ x.2 < n) (hf : VisitOk E n f g M) (h2 : Inv n t2) (hM : fM n t2 < M) (hb : t2.next + fM n t2 ≤ 300000) (hn : n ≤ 512)
    (hX : ∀ x ∈ X, ∀ y, (x, y) ∈ E → dn t2 y ∨ y ∈ X) (hV : ∀ k ∈ idxs Prod.fst E v, dn t2 (tgt E k) ∨ tgt E k ∈ X) (hS : ∀ x ∈ X, x ∉ t2.stack) :
    ∀ (ks pre : List Nat) (b : VSt × List El), (∀ k ∈ ks, k ∈ idxs Prod.fst E v) → CompInv E n t2 X pre b →
      ∃ b', foldO (compS f E) ks b = some b' ∧ foldO (insR g E v) ks (toR b.1 b.2) = some (toR b'.1 b'.2) ∧ CompInv E n t2 X (pre ++ ks) b'
  | [], pre, b, _, h => ⟨b, rfl, rfl, by rw [List.append_nil]; exact h⟩
  | k :: ks, pre, b, hks, h => by
    obtain ⟨b1, h3, h4, h5⟩ := comp_step hE hf h2 hM hb hn hX hV hS (hks k List.mem_cons_self) h
    obtain ⟨b2, h6, h7, h8⟩ := comp_all hE hf h2 hM hb hn hX hV hS ks (pre ++ [k]) b1 (fun j hj => hks j (List.mem_cons_of_mem _ hj)) h5
    refine ⟨b2, ?_, ?_, by rw [List.append_assoc] at h8; exact h8⟩
    · simp only [foldO]; rw [h3]; exact h6
    · simp only [foldO]; rw [h4]; exact h7

theorem loop_start {E : List (Nat × Nat)} {n : Nat} {s : VSt} {l : List El} {v : Nat} (hs : Inv n s) (hv : v < n) (hz : getI s.nums v = 0) (hb : s.next + fM n s ≤ 300000) :
    LoopInv E n s l v [] (⟨s.nums.set v ((s.next : Int) + 1), s.stack ++ [v], s.next + 1⟩, l, (s.next : Int) + 1, false) [] [] := by
  have hlen := hs.len
  have hget : ∀ x, getI (s.nums.set v ((s.next : Int) + 1)) x = if v = x then (s.next : Int) + 1 else getI s.nums x := fun x => by
    rw [getI_set]
    by_cases e : v = x
    · simp [e]; omega
    · simp [e]
  have hvs : v ∉ s.stack := fun h => hs.ne h hz
  have hne : ∀ x ∈ s.stack, ¬ v = x := fun x hx e => hvs (e ▸ hx)
  have hdn : dn (⟨s.nums.set v ((s.next : Int) + 1), s.stack ++ [v], s.next + 1⟩ : VSt) = dn s := by
    funext x
    unfold dn
    simp only
    rw [hget]
    by_cases e : v = x
    · subst e
      rw [if_pos rfl, hz]
      simp [maxI]
      omega
    · rw [if_neg e]
  have hnd : ndV n (⟨s.nums.set v ((s.next : Int) + 1), s.stack ++ [v], s.next + 1⟩ : VSt) ≤ ndV n s := ndV_mono fun x hx => by rw [hdn]; exact hx
  have hzr : zrV n (⟨s.nums.set v ((s.next : Int) + 1), s.stack ++ [v], s.next + 1⟩ : VSt) + 1 ≤ zrV n s := zrV_lt (fun x hx => by
    simp only at hx
    rw [hget] at hx
    split at hx
    · omega
    · exact hx) hv hz (by simp only; rw [hget, if_pos rfl]; omega)
  have hf1 : fM n (⟨s.nums.set v ((s.next : Int) + 1), s.stack ++ [v], s.next + 1⟩ : VSt) + 1 ≤ fM n s := by
    unfold fM
    have := Nat.mul_le_mul_right (n + 1) hnd
    omega
  refine ⟨⟨by simp [hlen], fun x hx => ?_, ?_, fun x hx => ?_, fun x hx => ?_⟩, by simp only; omega, by simp only; omega, by simp only; omega, rfl, by simp only; omega, rfl, by simp only; rw [hget, if_pos rfl], fun x hx => ?_, ?_, fun x hx => by simp at hx, fun k hk => by simp at hk, Int.le_refl _, .inl rfl, fun _ => ⟨rfl, rfl, fun k hk => by simp at hk⟩, fun x hx => ?_, fun x hx => by simp at hx⟩
  · rcases List.mem_append.1 hx with hx | hx
    · exact hs.lt x hx
    · rw [List.mem_singleton] at hx; omega
  · simp only
    rw [List.pairwise_append]
    refine ⟨List.Pairwise.imp_of_mem (fun {a b} ha hb' hab => ?_) hs.sorted, List.pairwise_singleton _ _, fun a ha b hb' => ?_⟩
    · rw [hget, hget, if_neg (hne a ha), if_neg (hne b hb')]; exact hab
    · rw [List.mem_singleton] at hb'
      subst hb'
      rw [hget, hget, if_neg (hne a ha), if_pos rfl]
      have := (hs.on a ha).2
      omega
  · simp only at hx ⊢
    rw [hget]
    rcases List.mem_append.1 hx with hx | hx
    · rw [if_neg (hne x hx)]
      have := hs.on x hx
      omega
    · rw [List.mem_singleton] at hx
      subst hx
      rw [if_pos rfl]
      omega
  · simp only
    rw [hget]
    by_cases e : v = x
    · subst e; exact .inr (.inr (by simp))
    · rw [if_neg e]
      rcases hs.cls x hx with h1 | h1 | h1
      · exact .inl h1
      · exact .inr (.inl h1)
      · exact .inr (.inr (List.mem_append_left _ h1))
  · simp only
    rw [hget, if_neg]
    rintro rfl
    exact hx hz
  · simp only; rw [hdn]; exact Lst.nil E _
  · rcases hx with hx | ⟨hx, hx2⟩
    · simp at hx
    · simp only at hx; rw [hdn] at hx; exact absurd hx hx2

theorem leave_ok {E : List (Nat × Nat)} {n M : Nat} {f : VSt → List El → Nat → Option VRes} {g : RSt → Nat → Option RRes} {s : VSt} {l : List El} {v : Nat} {a : VSt × List El × Int × Bool} {A : List El} {X : List Nat}
    (hE : ∀ x ∈ E, x.1 < n ∧ x.2 < n) (hf : VisitOk E n f g M) (hs : Inv n s) (hv : v < n) (hz : getI s.nums v = 0) (hM : fM n s ≤ M) (hb : s.next + fM n s ≤ 300000) (hl : l.length + ndV n s ≤ 2000) (hn : n ≤ 512)
    (h : LoopInv E n s l v (idxs Prod.fst E v) a A X) : ∃ r A' X', leaveV f E v a = some r ∧ leaveR g E v (toRa a) = some (toR r.1 r.2.1, r.2.2) ∧ Post E n s l v r A' X' := by
  obtain ⟨t, l', hh, lp⟩ := a
  have hlow := h.low
  have hhigh := h.high
  have hmeas := h.meas
  have hless := h.less
  have hnx := h.nxt
  have hcnt := h.cnt
  have hle := h.hle
  have hstk := h.stk
  have hkeep := h.keep
  have hnv := h.numv
  have hinv := h.inv
  simp only at hlow hhigh hmeas hless hnx hcnt hle hstk hkeep hnv hinv
  have hnod := hinv.nodup
  rw [hstk, List.nodup_append] at hnod
  obtain ⟨hn1, hn2, hn3⟩ := hnod
  obtain ⟨hvX, hn4⟩ := List.nodup_cons.1 hn2
  have hvS : v ∉ s.stack := fun e => hn3 v e v (by simp) rfl
  have hXS : ∀ x ∈ X, x ∉ s.stack := fun x hx e => hn3 x e x (List.mem_cons_of_mem _ hx) rfl
  have hon : ∀ y ∈ s.stack, getI t.nums y = getI s.nums y := fun y hy => hkeep y (hs.ne hy)
  have hnd : ∀ y ∈ t.stack, ¬ dn t y := fun y hy => hinv.notDone (by omega) hy
  have hvt : v ∈ t.stack := by rw [hstk]; simp
  have hXt : ∀ x ∈ X, x ∈ t.stack := fun x hx => by rw [hstk]; exact List.mem_append_right _ (List.mem_cons_of_mem _ hx)
  have hSt : ∀ x ∈ s.stack, x ∈ t.stack := fun x hx => by rw [hstk]; exact List.mem_append_left _ hx
  have hdd : ∀ x, dn s x → dn t x := fun x hx => by
    unfold dn at *
    rw [hkeep x (by rw [hx]; simp [maxI])]; exact hx
  have edA : ∀ x ∈ v :: X, ∀ y, (x, y) ∈ E → Tgt s t hh v X y := fun x hx y hxy => by
    rcases List.mem_cons.1 hx with rfl | hx
    · obtain ⟨k, hk, rfl⟩ := List.mem_map.1 (mem_sE.2 hxy)
      exact h.edV k hk
    · exact h.edX x hx y hxy
  have hwp : ∀ {x : Nat}, Rch (sE E) (fun x => getI s.nums x = 0) v x → dn t x ∨ Rch (sE E) (· ∈ v :: X) v x := fun hp => by
    induction hp with
    | refl _ => exact .inr (.refl (by simp))
    | @step b c hp hc h0 ih =>
      rcases ih with ih | ih
      · exact .inl (h.lstE.closed _ ih (fun e => by have := hp.ok_right; unfold dn at e; rw [this] at e; simp [maxI] at e) _ (mem_sE.1 hc))
      · rcases edA _ ih.ok_right _ (mem_sE.1 hc) with h1 | h1 | h1 | ⟨h1, -⟩
        · exact .inl h1
        · exact .inr (.step ih hc (List.mem_cons_of_mem _ h1))
        · exact .inr (.step ih hc (by rw [h1]; simp))
        · exact absurd h0 (hs.ne h1)
  have hwx : ∀ x ∈ v :: X, Rch (sE E) (fun x => getI s.nums x = 0) v x := fun x hx => by
    rcases List.mem_cons.1 hx with rfl | hx
    · exact .refl hz
    · exact h.path x (.inl hx)
  have hgv : getI (t.nums.map gR) v = (s.next : Int) + 1 := by rw [getI_gR, hnv, gR_small (by omega)]
  by_cases hN : hh = (s.next : Int) + 1
  rotate_left
  · -- the visit leaves its point on the stack
    refine ⟨(t, l', hh), A, v :: X, ?_, ?_, h.inv, hmeas, hless, hnx, h.lst, hcnt, hstk, hkeep, h.lstE, fun x hx y hxy => ?_, fun x hx => ?_, .inr ⟨X, rfl, ?_⟩, fun x hx => ?_⟩
    · unfold leaveV; simp only; rw [if_pos (by rw [hnv]; exact hN)]
    · unfold leaveR toRa toR; simp only; rw [if_pos (by rw [hgv]; exact hN)]
    · rcases edA x hx y hxy with h1 | h1 | h1 | h1
      · exact .inl h1
      · exact .inr (.inl (List.mem_cons_of_mem _ h1))
      · exact .inr (.inl (by rw [h1]; simp))
      · exact .inr (.inr h1)
    · rcases hx with hx | hx
      · exact hwx x hx
      · exact h.path x (.inr hx)
    · rcases h.hval with h1 | h1
      · exact absurd h1 hN
      · exact h1
    · rcases List.mem_cons.1 hx with rfl | hx
      · rcases h.hval with h1 | ⟨x0, hx0, y, hy, hxy, e⟩
        · exact absurd h1 hN
        · simp only at e
          refine ⟨y, List.mem_append_left _ hy, ?_, x0, hx0, ?_, hxy⟩
          · simp only; rw [hnv, hon y hy]; omega
          · rcases hwp (hwx x0 hx0) with h1 | h1
            · exact absurd h1 (hnd x0 (by rw [hstk]; exact List.mem_append_right _ hx0))
            · exact h1
      · obtain ⟨y, hy, hyx, z, hz', hp, he⟩ := h.down x hx
        exact ⟨y, hy, hyx, z, List.mem_cons_of_mem _ hz', hp.mono fun q hq => List.mem_cons_of_mem _ hq, he⟩
  -- the head of a component, or a plain point
  have edB : ∀ x ∈ v :: X, ∀ y, (x, y) ∈ E → dn t y ∨ y ∈ X ∨ y = v := fun x hx y hxy => by
    rcases edA x hx y hxy with h1 | h1 | h1 | ⟨h1, h2⟩
    · exact .inl h1
    · exact .inr (.inl h1)
    · exact .inr (.inr h1)
    · have := hlow y h1; omega
  have hidx : idxI (castN t.stack) (v : Int) = (s.stack.length : Int) := by rw [hstk]; exact idx_at hvS
  have htake : t.stack.take s.stack.length = s.stack := by rw [hstk]; simp
  have hdrop : t.stack.drop (s.stack.length + 1) = X := by
    rw [hstk, List.drop_append]
    simp
  have hrev : t.stack.reverse = X.reverse ++ v :: s.stack.reverse := by rw [hstk]; simp
  have hpop : popR v ((t.nums.map gR).set v doneR) t.stack.reverse = ((zeroAll (t.nums.set v maxI) X).map gR, s.stack.reverse) := by
    rw [hrev, popR_all v X.reverse _ _ (by simpa using hvX), pop_same]
  have hlen := hinv.len
  have hget : ∀ x, getI (zeroAll (t.nums.set v maxI) X) x = if x ∈ X then 0 else if v = x then maxI else getI t.nums x := fun x => by
    rw [getI_zeroAll, getI_set, List.length_set]
    by_cases hx : x ∈ X
    · have := hinv.lt x (hXt x hx)
      rw [if_pos ⟨hx, by omega⟩, if_pos hx]
    · rw [if_neg (fun e => hx e.1), if_neg hx]
      by_cases e : v = x
      · rw [if_pos ⟨e, by omega⟩, if_pos e]
      · rw [if_neg (fun e' => e e'.1), if_neg e]
  obtain ⟨t2, ht2⟩ : ∃ t2 : VSt, t2 = ⟨zeroAll (t.nums.set v maxI) X, s.stack, t.next⟩ := ⟨_, rfl⟩
  have hg2 : ∀ x, getI t2.nums x = if x ∈ X then 0 else if v = x then maxI else getI t.nums x := by rw [ht2]; exact hget
  have hS2 : ∀ y ∈ s.stack, getI t2.nums y = getI t.nums y := fun y hy => by
    rw [hg2, if_neg (fun e => hXS y e hy), if_neg (fun e => by subst e; exact hvS hy)]
  have hst2 : t2.stack = s.stack := by rw [ht2]
  have hnx2 : t2.next = t.next := by rw [ht2]
  have hinv2 : Inv n t2 := by
    refine ⟨by rw [ht2]; simp [zeroAll_length, hlen], fun x hx => hs.lt x (by rwa [hst2] at hx), ?_, fun x hx => ?_, fun x hx => ?_⟩
    · rw [hst2]
      refine List.Pairwise.imp_of_mem (fun {p q} hp hq hpq => ?_) hs.sorted
      rw [hS2 p hp, hS2 q hq, hon p hp, hon q hq]; exact hpq
    · rw [hst2] at hx
      rw [hS2 x hx, hon x hx, hnx2]
      have := hs.on x hx
      omega
    · rw [hg2, hst2]
      by_cases h1 : x ∈ X
      · exact .inl (if_pos h1)
      · rw [if_neg h1]
        by_cases h2 : v = x
        · exact .inr (.inl (if_pos h2))
        · rw [if_neg h2]
          rcases hinv.cls x hx with h3 | h3 | h3
          · exact .inl h3
          · exact .inr (.inl h3)
          · rw [hstk] at h3
            rcases List.mem_append.1 h3 with h3 | h3
            · exact .inr (.inr h3)
            · rcases List.mem_cons.1 h3 with h3 | h3
              · exact absurd h3.symm h2
              · exact absurd h3 h1
  have hd2 : ∀ x, dn t2 x ↔ dn t x ∨ x = v := fun x => by
    unfold dn
    rw [hg2]
    by_cases h1 : x ∈ X
    · rw [if_pos h1]
      constructor
      · intro e; simp [maxI] at e
      · rintro (e | e)
        · exact absurd e (hnd x (hXt x h1))
        · subst e; exact absurd h1 hvX
    · rw [if_neg h1]
      by_cases h2 : v = x
      · rw [if_pos h2]
        exact ⟨fun _ => .inr h2.symm, fun _ => rfl⟩
      · rw [if_neg h2]
        exact ⟨.inl, fun e => e.elim id (fun e => absurd e.symm h2)⟩
  have hvnd : ¬ dn t v := hnd v hvt
  have hk2 : ∀ x, getI s.nums x ≠ 0 → getI t2.nums x = getI s.nums x := fun x hx => by
    have h1 := hkeep x hx
    rw [hg2, if_neg, if_neg, h1]
    · intro e; subst e; exact hx hz
    · intro e
      rcases (hwx x (List.mem_cons_of_mem _ e)).ok_right with h3
      exact hx h3
  have hnd2 : ndV n t2 + 1 ≤ ndV n t := ndV_lt (fun x hx => (hd2 x).2 (.inl hx)) hv hvnd ((hd2 v).2 (.inr rfl))
  have hf2 := fM_drop hnd2
  have hvd2 : ∀ x, dn t x → dn t2 x := fun x hx => (hd2 x).2 (.inl hx)
  have hsv : s.nums.length = n := hs.len
  cases lp with
  | false =>
    obtain ⟨hX0, -, hnl⟩ := h.nl rfl
    subst hX0
    have hz0 : zeroAll (t.nums.set v maxI) [] = t.nums.set v maxI := rfl
    rw [hz0] at ht2 hpop
    have hlc : l'.length < 1000000 := by omega
    refine ⟨(t2, El.mk (v : Int) false [] :: l', hh), El.mk (v : Int) false [] :: A, [], ?_, ?_, hinv2, by simp only; omega, by simp only; omega, by simp only; omega, ?_, by simp only [List.length_cons]; omega, by rw [hst2]; simp, hk2, ?_, fun x hx => by simp at hx, fun x hx => ?_, .inl ⟨rfl, (hd2 v).2 (.inr rfl), hN, _, _, _, rfl⟩, fun x hx => by simp at hx⟩
    · unfold leaveV; simp only
      rw [if_neg (by rw [hnv]; exact fun e => e hN), hidx, if_neg (by omega), if_pos trivial]
      unfold consL
      rw [if_pos ⟨hlc, by simp [El.body]⟩]
      simp only [Int.toNat_natCast, htake, Option.map_some]
      rw [ht2]
    · unfold leaveR toRa toR; simp only
      rw [if_neg (by rw [hgv]; exact fun e => e hN), if_pos trivial, hpop]
      unfold consR
      simp only [List.reverse_reverse]
      rw [if_pos ⟨hlc, by simp [El.body]⟩, ht2]
    · have h1 := h.lst; simp only at h1 ⊢; rw [h1]; rfl
    · exact (h.lstE.comp (B := [El.mk (v : Int) false []]) (Lst.plain hvnd hd2 (fun y hy => by
        obtain ⟨k, hk, rfl⟩ := List.mem_map.1 (mem_sE.2 hy)
        exact hnl k hk)) hdd hvd2)
    · rcases hx with hx | ⟨hx, hx2⟩
      · simp at hx
      · rcases (hd2 x).1 hx with h1 | rfl
        · exact h.path x (.inr ⟨h1, hx2⟩)
        · exact .refl hz
  | true =>
    have hV2 : ∀ k ∈ idxs Prod.fst E v, dn t2 (tgt E k) ∨ tgt E k ∈ X := fun k hk => by
      rcases edB v (by simp) _ (src_of hk).2 with h1 | h1 | h1
      · exact .inl (hvd2 _ h1)
      · exact .inr h1
      · exact .inl ((hd2 _).2 (.inr h1))
    have hX2 : ∀ x ∈ X, ∀ y, (x, y) ∈ E → dn t2 y ∨ y ∈ X := fun x hx y hxy => by
      rcases edB x (List.mem_cons_of_mem _ hx) y hxy with h1 | h1 | h1
      · exact .inl (hvd2 _ h1)
      · exact .inr h1
      · exact .inl ((hd2 _).2 (.inr h1))
    have hnn : ndV n t2 ≤ n := cntB_le _ _
    obtain ⟨⟨u, B⟩, hc1, hc2, C⟩ := comp_all hE hf hinv2 (by omega) (by omega) hn hX2 hV2 (fun x hx => by rw [hst2]; exact hXS x hx) (idxs Prod.fst E v) [] (t2, []) (fun _ h => h)
      ⟨hinv2, rfl, Nat.le_refl _, Nat.le_refl _, Nat.le_refl _, by simp, fun _ _ => rfl, Lst.nil E _, fun k hk => by simp at hk, fun x h1 h2 => absurd h1 h2⟩
    rw [List.nil_append] at C
    have cm := C.meas
    have cf := C.fl
    have cn := C.nxt
    have cc := C.cnt
    have cs := C.stk
    have ck := C.keep
    simp only at cm cf cn cc cs ck
    have hlc : l'.length < 1000000 := by omega
    have hlb : B.length < 1000000 := by omega
    have hdu : ∀ x, dn t2 x → dn u x := fun x hx => by
      unfold dn at *
      rw [ck x (by rw [hx]; simp [maxI])]; exact hx
    -- every point of the stack's end reaches the head
    have hback : ∀ (m : Nat) (x : Nat), x ∈ X → (getI t.nums x).toNat ≤ m → Rch (sE E) (fun _ => True) x v := fun m => by
      induction m with
      | zero => intro x hx hm; have := hhigh x hx; omega
      | succ m ih =>
        intro x hx hm
        obtain ⟨y, hy, hyx, z, hz', hp, he⟩ := h.down x hx
        simp only at hyx
        have hxy : Rch (sE E) (fun _ => True) x y := .step (hp.mono fun _ _ => trivial) (mem_sE.2 he) trivial
        have hyt : y ∈ t.stack := by rw [hstk]; exact hy
        rcases edB z (List.mem_cons_of_mem _ hz') y he with h1 | h1 | h1
        · exact absurd h1 (hnd y hyt)
        · have := hinv.on y hyt
          exact hxy.trans (ih y h1 (by omega))
        · rw [h1] at hxy; exact hxy
    refine ⟨(u, El.mk (v : Int) true B :: l', hh), El.mk (v : Int) true B :: A, [], ?_, ?_, C.inv, by simp only; omega, by simp only; omega, by simp only; omega, ?_, by simp only [List.length_cons]; omega, by simp only; rw [cs, hst2]; simp, ?_, ?_, fun x hx => by simp at hx, fun x hx => ?_, .inl ⟨rfl, hdu v ((hd2 v).2 (.inr rfl)), hN, _, _, _, rfl⟩, fun x hx => by simp at hx⟩
    · unfold leaveV; simp only
      rw [if_neg (by rw [hnv]; exact fun e => e hN), hidx, if_neg (by omega), if_neg (by simp)]
      simp only [Int.toNat_natCast, htake, hdrop]
      rw [← ht2, hc1]
      simp only [Option.bind_some]
      unfold consL
      rw [if_pos ⟨hlc, by simpa [El.body] using hlb⟩]
      rfl
    · unfold leaveR toRa toR; simp only
      rw [if_neg (by rw [hgv]; exact fun e => e hN), if_neg (by simp), hpop, foldO_filter (p := fun k => Prod.fst (E.getD k (0, 0)) == v) (fun s x hx => by
        unfold insR
        rw [if_neg]
        rintro ⟨e, -⟩
        unfold src at e
        rw [e] at hx
        simp at hx)]
      simp only [List.reverse_reverse]
      have e2 : (⟨(zeroAll (t.nums.set v maxI) X).map gR, t.next, s.stack, []⟩ : RSt) = toR t2 [] := by rw [ht2]; rfl
      rw [e2]
      have hc2' : foldO (insR g E v) ((List.range E.length).filter fun k => Prod.fst (E.getD k (0, 0)) == v) (toR t2 []) = some (toR u B) := hc2
      rw [hc2']
      simp only [Option.bind_some, toR]
      unfold consR
      rw [if_pos ⟨hlc, by simpa [El.body] using hlb⟩]
      simp only
      rw [cs, hst2]
    · have h1 := h.lst; simp only at h1 ⊢; rw [h1]; rfl
    · intro x hx; simp only; rw [ck x (by rw [hk2 x hx]; exact hx)]; exact hk2 x hx
    · refine h.lstE.comp (B := [El.mk (v : Int) true B]) (C.lstE.loop hvnd hd2 hdu (fun y hy => ?_) (fun x hx hx2 => ?_)) hdd (fun x hx => hdu x (hvd2 x hx))
      · obtain ⟨k, hk, rfl⟩ := List.mem_map.1 (mem_sE.2 hy)
        exact C.edV k hk
      · have hxX := C.new x hx hx2
        exact ⟨(hwx x (List.mem_cons_of_mem _ hxX)).mono fun _ _ => trivial, hback _ x hxX (Nat.le_refl _)⟩
    · rcases hx with hx | ⟨hx, hx2⟩
      · simp at hx
      · by_cases h1 : dn t2 x
        · rcases (hd2 x).1 h1 with h2 | rfl
          · exact h.path x (.inr ⟨h2, hx2⟩)
          · exact .refl hz
        · exact hwx x (List.mem_cons_of_mem _ (C.new x hx h1))

theorem visit_ok {E : List (Nat × Nat)} {n : Nat} (hE : ∀ x ∈ E, x.1 < n ∧ x.2 < n) (hn : n ≤ 512) : ∀ k, VisitOk E n (visitV E k) (enterR E k) k
  | 0 => fun s l v _ _ _ h => by omega
  | k + 1 => fun s l v hs hv hz hM hb hl => by
    have hf := visit_ok hE hn k
    obtain ⟨a, A, X, h1, h2, h3⟩ := loop_all hE hf hs hz (by omega) hb hl (idxs Prod.fst E v) [] _ [] [] (fun _ h => h) (loop_start hs hv hz hb)
    rw [List.nil_append] at h3
    obtain ⟨r, A', X', h4, h5, h6⟩ := leave_ok hE hf hs hv hz (by omega) hb hl hn h3
    have hsl : s.stack.length < 1000000 := by
      have := nodup_lt_length hs.nodup hs.lt
      omega
    refine ⟨r, A', X', ?_, ?_, h6⟩
    · unfold visitV
      rw [if_pos ⟨hsl, by omega⟩, h1]
      exact h4
    · unfold enterR
      have hsn : (toR s l).stack.length < 1000000 ∧ (toR s l).next < 1000000000000000 := ⟨hsl, by show s.next < _; omega⟩
      rw [if_pos hsn, foldO_filter (p := fun k => Prod.fst (E.getD k (0, 0)) == v) (fun s x hx => by
        unfold stepR
        rw [if_pos]
        unfold src
        simpa using hx)]
      have e0 : ((⟨(toR s l).nums.set v (((toR s l).next : Int) + 1), (toR s l).next + 1, (toR s l).stack ++ [v], (toR s l).list⟩ : RSt), ((toR s l).next : Int) + 1, false) = toRa ((⟨s.nums.set v ((s.next : Int) + 1), s.stack ++ [v], s.next + 1⟩ : VSt), l, (s.next : Int) + 1, false) := by
        unfold toRa toR
        simp only [List.map_set]
        rw [gR_small (by omega)]
      rw [e0]
      have h2' : foldO (stepR (enterR E k) E v) ((List.range E.length).filter fun k => Prod.fst (E.getD k (0, 0)) == v) _ = _ := h2
      rw [h2']
      exact h5

/-- What the order of a graph is. -/
structure IsWto (E : List (Nat × Nat)) (L : List El) : Prop where
  nodup : (ptsL L).Nodup
  mem : ∀ p : Int, p ∈ ptsL L ↔ ∃ x : Nat, p = (x : Int) ∧ Rch (sE E) (fun _ => True) 0 x
  good : Good E L
  form : okL L = true
  tied : ∀ e ∈ L, Tied E e
  head : ∃ c B A, L = El.mk 0 c B :: A
theorem order_plain {n : Nat} {E : List (Nat × Nat)} (hE : ∀ x ∈ E, x.1 < n ∧ x.2 < n) (h1 : 1 ≤ n) (hn : n ≤ 512) :
    ∃ (k : Nat) (r : VRes), visitV E k ⟨List.replicate n 0, [], 0⟩ [] 0 = some r ∧ (∃ t, enterR E k ⟨List.replicate n 0, 0, [], []⟩ 0 = some t ∧ t.1.list = r.2.1) ∧ IsWto E r.2.1 ∧ r.2.1.length ≤ 512 ∧ (∀ p ∈ ptsL r.2.1, 0 ≤ p ∧ p < n) := by
  obtain ⟨s0, hs0⟩ : ∃ s0 : VSt, s0 = ⟨List.replicate n 0, [], 0⟩ := ⟨_, rfl⟩
  have hg0 : ∀ x, x < n → getI s0.nums x = 0 := fun x hx => by
    rw [hs0]; unfold getI
    rw [List.getD_eq_getElem?_getD, List.getElem?_replicate, if_pos hx]; rfl
  have hg1 : ∀ x, ¬ dn s0 x := fun x hx => by
    have hlt : x < n := dn_lt (n := n) (by rw [hs0]; simp) hx
    unfold dn at hx
    rw [hg0 x hlt] at hx
    simp [maxI] at hx
  have hinv : Inv n s0 := ⟨by rw [hs0]; simp, fun x hx => by rw [hs0] at hx; simp at hx, by rw [hs0]; exact List.Pairwise.nil, fun x hx => by rw [hs0] at hx; simp at hx, fun x hx => .inl (hg0 x hx)⟩
  have hnd : ndV n s0 ≤ n := cntB_le _ _
  have hzr : zrV n s0 ≤ n := cntB_le _ _
  have hf : fM n s0 ≤ 263200 := by
    unfold fM
    have h2 := Nat.mul_le_mul (Nat.le_trans hnd hn) (show n + 1 ≤ 513 by omega)
    omega
  have hnx : s0.next = 0 := by rw [hs0]
  have hst : s0.stack = [] := by rw [hs0]
  obtain ⟨r, A, X, hr, hg, P⟩ := visit_ok hE hn (fM n s0 + 1) s0 [] 0 hinv (by omega) (hg0 0 (by omega)) (by omega) (by omega) (by simp; omega)
  have hret : X = [] ∧ dn r.1 0 ∧ ∃ c B A', A = El.mk ((0 : Nat) : Int) c B :: A' := by
    rcases P.ret with ⟨h2, h3, -, h4⟩ | ⟨X', -, x, hx, y, hy, -⟩
    · exact ⟨h2, h3, h4⟩
    · rw [hst] at hy; simp at hy
  have hlA : r.2.1 = A := by rw [P.lst]; simp
  have hdR : ∀ x, dn r.1 x ↔ Rch (sE E) (fun _ => True) 0 x := fun x => by
    constructor
    · intro h; exact (P.path x (.inr ⟨h, hg1 x⟩)).mono fun _ _ => trivial
    · intro h
      induction h with
      | refl _ => exact hret.2.1
      | step _ hc _ ih => exact P.lstE.closed _ ih (hg1 _) _ (mem_sE.1 hc)
  refine ⟨fM n s0 + 1, r, by rw [← hs0]; exact hr, ⟨(toR r.1 r.2.1, r.2.2), ?_, rfl⟩, ?_, ?_, ?_⟩
  · have e : (⟨List.replicate n 0, 0, [], []⟩ : RSt) = toR s0 [] := by
      rw [hs0]; unfold toR; simp [gR, maxI]
    rw [e]; exact hg
  · rw [hlA]
    refine ⟨P.lstE.nodup, fun p => ?_, P.lstE.good, P.lstE.form, P.lstE.tied, ?_⟩
    · rw [P.lstE.mem]
      constructor
      · rintro ⟨x, hx, h2, -⟩; exact ⟨x, hx, (hdR x).1 h2⟩
      · rintro ⟨x, hx, h2⟩; exact ⟨x, hx, (hdR x).2 h2, hg1 x⟩
    · obtain ⟨c, B, A', h⟩ := hret.2.2; exact ⟨c, B, A', h⟩
  · have := P.cnt
    simp only [List.length_nil] at this
    omega
  · intro p hp
    rw [hlA] at hp
    obtain ⟨x, rfl, h2, -⟩ := (P.lstE.mem p).1 hp
    have := dn_lt P.inv.len h2
    omega
end Go.Proofs.YthaampinmelgaaaGreatDoor
