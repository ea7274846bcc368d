/- Plain laws: the tree that the search for dominators keeps, one step of it. No program here. -/
import Derived.Test.YtngfoinceakgdaaReachT
import Derived.Test.YtngfoinceakgdaaModel
namespace Go.Proofs.Ytngfoinceakgdaa

/-- d stands above p, or is p. -/
inductive Anc (A : Nat → Int) : Nat → Nat → Prop
  | refl (p : Nat) : Anc A p p
  | up {p q d : Nat} : A p = (q : Int) → Anc A q d → Anc A p d

theorem Anc.trans {A : Nat → Int} {p q d : Nat} (h : Anc A p q) (k : Anc A q d) : Anc A p d := by
  induction h with
  | refl => exact k
  | up e _ ih => exact .up e (ih k)

/-- Of two points above one, one is above the other. -/
theorem Anc.comp {A : Nat → Int} {p a b : Nat} (h : Anc A p a) (k : Anc A p b) : Anc A a b ∨ Anc A b a := by
  induction h with
  | refl => exact .inl k
  | up e h ih =>
    cases k with
    | refl => exact .inr (.up e h)
    | up e' k =>
      have he := e.symm.trans e'
      have he' := Int.ofNat.inj he
      subst he'
      exact ih k

/-- A tree in which places grow upwards. -/
structure Tree (P A : Nat → Int) (ent : Nat) : Prop where
  entA : A ent = (ent : Int)
  up : ∀ p, 0 ≤ A p → p ≠ ent → ∃ q : Nat, A p = (q : Int) ∧ P p < P q ∧ 0 ≤ A q
  pos : ∀ p, 0 ≤ A p → 0 ≤ P p
  neg : ∀ p, P p < 0 → A p = -1

/-- What the search by depth tells of the places. -/
structure DG (succ preds : Nat → List Nat) (P : Nat → Int) (ent : Nat) : Prop where
  inj : ∀ p q, 0 ≤ P p → P p = P q → p = q
  max : ∀ p, P p ≤ P ent
  entP : 0 ≤ P ent
  sp : ∀ p q, 0 ≤ P p → (q ∈ preds p ↔ p ∈ succ q)
  reach : ∀ p, 0 ≤ P p ↔ Rch succ (fun _ => True) ent p
  par : ∀ p, 0 ≤ P p → p ≠ ent → ∃ f ∈ preds p, P p < P f

section
variable {succ preds : Nat → List Nat} {P A : Nat → Int} {ent : Nat}

theorem Tree.anc_le (t : Tree P A ent) {p d : Nat} (h : Anc A p d) : 0 ≤ A p → P p ≤ P d ∧ 0 ≤ A d := by
  induction h with
  | refl => exact fun h => ⟨Int.le_refl _, h⟩
  | @up p q d e h ih =>
    intro hp
    by_cases hpe : p = ent
    · subst hpe
      have hq := Int.ofNat.inj (e.symm.trans t.entA)
      subst hq
      exact ih hp
    · obtain ⟨q', e', hlt, hq⟩ := t.up p hp hpe
      have hqq := Int.ofNat.inj (e.symm.trans e')
      subst hqq
      have := ih hq
      exact ⟨by omega, this.2⟩

theorem Tree.anc_lt (t : Tree P A ent) (g : DG succ preds P ent) {p d : Nat} (h : Anc A p d) (hp : 0 ≤ A p) (hne : p ≠ d) : P p < P d := by
  have h1 := t.anc_le h hp
  have h2 := t.pos p hp
  rcases Int.lt_or_eq_of_le h1.1 with h3 | h3
  · exact h3
  · exact absurd (g.inj _ _ h2 h3) hne

theorem Tree.antisymm (t : Tree P A ent) (g : DG succ preds P ent) {p d : Nat} (h : Anc A p d) (hp : 0 ≤ A p) (k : Anc A d p) : p = d := by
  have h1 := t.anc_le h hp
  have h2 := t.anc_le k h1.2
  exact g.inj _ _ (t.pos p hp) (by omega)

theorem Tree.ent_only (t : Tree P A ent) {p d : Nat} (h : Anc A p d) : p = ent → d = ent := by
  induction h with
  | refl => exact id
  | @up p q d e h ih =>
    intro hp
    subst hp
    exact ih (Int.ofNat.inj (e.symm.trans t.entA))

theorem Tree.to_ent (t : Tree P A ent) (g : DG succ preds P ent) : ∀ (d : Nat) (p : Nat), (P ent - P p).toNat ≤ d → 0 ≤ A p → Anc A p ent := by
  intro d
  induction d with
  | zero =>
    intro p h hp
    have := g.max p
    have h2 := g.inj p ent (t.pos p hp) (by omega)
    subst h2
    exact .refl _
  | succ d ih =>
    intro p h hp
    by_cases hpe : p = ent
    · subst hpe; exact .refl _
    · obtain ⟨q, e, hlt, hq⟩ := t.up p hp hpe
      have := g.max q
      exact .up e (ih q (by omega) hq)

/-- The nearest point above all of a set, or -1. -/
def BS (A : Nat → Int) (S : Nat → Prop) (b : Int) : Prop :=
  (b = -1 ∧ ∀ q, ¬ S q) ∨ ∃ m : Nat, b = (m : Int) ∧ 0 ≤ A m ∧ (∃ q, S q) ∧ (∀ q, S q → Anc A q m) ∧ ∀ d, (∀ q, S q → Anc A q d) → Anc A m d

theorem BS.congr {S T : Nat → Prop} {b : Int} (h : BS A S b) (hst : ∀ q, S q ↔ T q) : BS A T b := by
  have : S = T := funext fun q => propext (hst q)
  rwa [this] at h

/-- What holds of the tree ahead of the point whose place is c. -/
structure DInv (succ preds : Nat → List Nat) (P : Nat → Int) (ent : Nat) (c : Int) (A : Nat → Int) : Prop where
  tree : Tree P A ent
  q1 : ∀ p, c < P p → 0 ≤ A p
  q3 : (∀ p, 0 ≤ P p → 0 ≤ A p) ∨ (∀ p, 0 ≤ A p → c < P p)
  m : ∀ p, 0 ≤ A p → p ≠ ent → ∀ a : Nat, A p = (a : Int) → ∀ d, (∀ q ∈ preds p, 0 ≤ A q → Anc A q d) → Anc A a d
  f : ∀ p, 0 ≤ A p → p ≠ ent → ∀ a : Nat, A p = (a : Int) → (c < P p ∨ P a ≤ c) → ∀ f ∈ preds p, P p < P f → Anc A f a
  path : ∀ p, 0 ≤ A p → p ≠ ent → ∀ a : Nat, A p = (a : Int) → ∀ d, P a < P d → Rch succ (fun q => q ≠ d) a p
  dom : ∀ u, 0 ≤ A u → ∀ d, ¬ Rch succ (fun q => q ≠ d) ent u → Anc A u d

/-- The tree with one point's place turned. -/
def updA (A : Nat → Int) (w : Nat) (b : Int) : Nat → Int := fun x => if x = w then b else A x
theorem updA_same (w : Nat) (b : Int) : updA A w b w = b := by simp [updA]
theorem updA_ne {w x : Nat} (b : Int) (h : x ≠ w) : updA A w b x = A x := by simp [updA, h]

theorem upd_of_not {w u d : Nat} {b : Int} (h : Anc A u d) : ¬ Anc A u w → Anc (updA A w b) u d := by
  induction h with
  | refl => exact fun _ => .refl _
  | @up p q d e h ih =>
    intro hn
    have hpw : p ≠ w := fun e' => hn (e' ▸ .refl _)
    exact .up ((updA_ne b hpw).trans e) (ih fun k => hn (.up e k))

theorem of_upd_not {w u d : Nat} {b : Int} (h : Anc (updA A w b) u d) : ¬ Anc A u w → Anc A u d := by
  induction h with
  | refl => exact fun _ => .refl _
  | @up p q d e h ih =>
    intro hn
    have hpw : p ≠ w := fun e' => hn (e' ▸ .refl _)
    have e2 := (updA_ne (A := A) b hpw).symm.trans e
    exact .up e2 (ih fun k => hn (.up e2 k))

theorem upd_low (t : Tree P A ent) (g : DG succ preds P ent) {w u d : Nat} {b : Int} (h : Anc A u d) : Anc A d w → 0 ≤ A u → Anc (updA A w b) u d := by
  induction h with
  | refl => exact fun _ _ => .refl _
  | @up p q d e h ih =>
    intro hd hp
    have hpd : Anc A p d := .up e h
    by_cases hpw : p = w
    · subst hpw
      have := t.antisymm g hpd hp hd
      subst this
      exact .refl _
    · have hq : 0 ≤ A q := (t.anc_le (.up e (.refl q)) hp).2
      exact .up ((updA_ne b hpw).trans e) (ih hd hq)

theorem chain_path {c : Int} (g : DG succ preds P ent) (h : DInv succ preds P ent c A) {u v d : Nat} (k : Anc A u v) : 0 ≤ A u → P v < P d → Rch succ (fun q => q ≠ d) v u := by
  induction k with
  | refl v => exact fun _ hd => .refl (by rintro rfl; omega)
  | @up p q v e k ih =>
    intro hp hd
    have h1 := h.tree.anc_le (.up e (.refl q)) hp
    have h2 := h.tree.anc_le k h1.2
    by_cases hpe : p = ent
    · subst hpe
      have := g.max d
      omega
    · exact (ih h1.2 hd).trans (h.path p hp hpe q e d (by omega))

/-- One point taken on. -/
theorem DInv.step {c : Int} (g : DG succ preds P ent) (h : DInv succ preds P ent c A) {w : Nat} {b : Int} (hw : P w = c) (hc : 0 ≤ c) (hwe : w ≠ ent) (hb : BS A (fun q => q ∈ preds w ∧ 0 ≤ A q) b) :
    DInv succ preds P ent (c - 1) (updA A w b) ∧ ∃ m : Nat, b = (m : Int) ∧ P w < P m ∧ ∀ a : Nat, A w = (a : Int) → Anc A a m := by
  have t := h.tree
  obtain ⟨f, hf, hfl⟩ := g.par w (by omega) hwe
  have hfA : 0 ≤ A f := h.q1 f (by omega)
  rcases hb with ⟨_, hno⟩ | ⟨m, rfl, hm0, -, hall, hlow⟩
  · exact absurd ⟨hf, hfA⟩ (hno f)
  have hfm := hall f ⟨hf, hfA⟩
  have hwm : P w < P m := by have := t.anc_le hfm hfA; omega
  have hmw : m ≠ w := by rintro rfl; omega
  have hall' : ∀ q ∈ preds w, 0 ≤ A q → Anc A q m := fun q hq hq0 => hall q ⟨hq, hq0⟩
  have hlow' : ∀ d, (∀ q ∈ preds w, 0 ≤ A q → Anc A q d) → Anc A m d := fun d hd => hlow d fun q hq => hd q hq.1 hq.2
  -- what is above w keeps its way
  have hnot : ∀ x, 0 ≤ A x → P w < P x → ¬ Anc A x w := fun x hx hlt k => by have := (t.anc_le k hx).1; omega
  have ham : ∀ a : Nat, A w = (a : Int) → Anc A a m := fun a ha => h.m w (by omega) hwe a ha m hall'
  have hA'w : updA A w (m : Int) w = (m : Int) := updA_same w _
  have hA' : ∀ x, x ≠ w → updA A w (m : Int) x = A x := fun x hx => updA_ne _ hx
  -- nothing new is above anything
  have shrink : ∀ q d, Anc (updA A w (m : Int)) q d → 0 ≤ A q → Anc A q d := by
    intro q d k
    induction k with
    | refl => exact fun _ => .refl _
    | @up p q d e k ih =>
      intro hp
      by_cases hpw : p = w
      · subst hpw
        rw [hA'w] at e
        have e2 := Int.ofNat.inj e
        subst e2
        obtain ⟨a, ha⟩ : ∃ a : Nat, A p = (a : Int) := ⟨(A p).toNat, by omega⟩
        exact .up ha ((ham a ha).trans (ih hm0))
      · rw [hA' p hpw] at e
        exact .up e (ih (t.anc_le (.up e (.refl q)) hp).2)
  have keep : ∀ q, q ≠ w → 0 ≤ updA A w (m : Int) q → 0 ≤ A q := fun q hq h0 => by rw [hA' q hq] at h0; exact h0
  have more : ∀ q, 0 ≤ A q → 0 ≤ updA A w (m : Int) q := fun q h0 => by
    by_cases hq : q = w
    · subst hq; rw [hA'w]; omega
    · rw [hA' q hq]; exact h0
  have unw : ∀ q, P q ≤ c → q ≠ w → P q < c := fun q h1 h2 => by
    rcases Int.lt_or_eq_of_le h1 with h3 | h3
    · exact h3
    · exact absurd (g.inj w q (by omega) (by omega)).symm h2
  refine ⟨⟨⟨?_, ?_, ?_, ?_⟩, ?_, ?_, ?_, ?_, ?_, ?_⟩, m, rfl, hwm, ham⟩
  · rw [hA' ent (Ne.symm hwe)]; exact t.entA
  · intro p hp hpe
    by_cases hpw : p = w
    · subst hpw
      exact ⟨m, hA'w, hwm, more m hm0⟩
    · obtain ⟨q, e, h1, h2⟩ := t.up p (keep p hpw hp) hpe
      exact ⟨q, (hA' p hpw).trans e, h1, more q h2⟩
  · intro p hp
    by_cases hpw : p = w
    · subst hpw; omega
    · exact t.pos p (keep p hpw hp)
  · intro p hp
    rw [hA' p (by rintro rfl; omega)]
    exact t.neg p hp
  · intro p hp
    by_cases hpw : p = w
    · subst hpw; rw [hA'w]; omega
    · refine more p (h.q1 p ?_)
      rcases Int.lt_or_le c (P p) with h1 | h1
      · exact h1
      · have := unw p h1 hpw; omega
  · rcases h.q3 with h1 | h1
    · exact .inl fun p hp => more p (h1 p hp)
    · refine .inr fun p hp => ?_
      by_cases hpw : p = w
      · subst hpw; omega
      · have := h1 p (keep p hpw hp); omega
  · -- m
    intro p hp hpe a ha d hd
    by_cases hpw : p = w
    · subst hpw
      rw [hA'w] at ha
      have e2 := Int.ofNat.inj ha
      subst e2
      refine upd_of_not (hlow' d fun q hq hq0 => shrink q d (hd q hq (more q hq0)) hq0) (hnot m hm0 hwm)
    · rw [hA' p hpw] at ha
      have hp0 := keep p hpw hp
      have k1 : Anc A a d := h.m p hp0 hpe a ha d fun q hq hq0 => shrink q d (hd q hq (more q hq0)) hq0
      have ha0 := t.anc_le (.up ha (.refl a)) hp0
      by_cases haw : Anc A a w
      · have hPaw := (t.anc_le haw ha0.2).1
        have hpa : P p < P a := by
          obtain ⟨q, e, h1, h2⟩ := t.up p hp0 hpe
          have := Int.ofNat.inj (e.symm.trans ha)
          subst this
          exact h1
        obtain ⟨f2, hf2, hfl2⟩ := g.par p (t.pos p hp0) hpe
        have kf := h.f p hp0 hpe a ha (.inr (by omega)) f2 hf2 hfl2
        have hf20 : 0 ≤ A f2 := by
          rcases h.q3 with h3 | h3
          · exact h3 f2 (by have := t.pos p hp0; omega)
          · exact h.q1 f2 (by have := h3 p hp0; omega)
        have kf' : Anc (updA A w (m : Int)) f2 a := upd_low t g kf haw hf20
        have kd' := hd f2 hf2 (more f2 hf20)
        rcases kf'.comp kd' with h3 | h3
        · exact h3
        · have h4 := shrink d a h3 (t.anc_le k1 ha0.2).2
          have := t.antisymm g k1 ha0.2 h4
          subst this
          exact .refl _
      · exact upd_of_not k1 haw
  · -- f
    intro p hp hpe a ha hor f2 hf2 hfl2
    by_cases hpw : p = w
    · subst hpw
      rw [hA'w] at ha
      have e2 := Int.ofNat.inj ha
      subst e2
      have hf20 : 0 ≤ A f2 := h.q1 f2 (by omega)
      exact upd_of_not (hall' f2 hf2 hf20) (hnot f2 hf20 hfl2)
    · rw [hA' p hpw] at ha
      have hp0 := keep p hpw hp
      have hf20 : 0 ≤ A f2 := by
        rcases h.q3 with h3 | h3
        · exact h3 f2 (by have := t.pos p hp0; omega)
        · exact h.q1 f2 (by have := h3 p hp0; omega)
      rcases Int.lt_or_le c (P p) with h1 | h1
      · exact upd_of_not (h.f p hp0 hpe a ha (.inl h1) f2 hf2 hfl2) (hnot f2 hf20 (by omega))
      · have h2 := unw p h1 hpw
        have h3 : P a ≤ c - 1 := by omega
        have k1 := h.f p hp0 hpe a ha (.inr (by omega)) f2 hf2 hfl2
        by_cases hfw : Anc A f2 w
        · refine upd_low t g k1 ?_ hf20
          rcases k1.comp hfw with h4 | h4
          · exact h4
          · have := (t.anc_le h4 (t.anc_le hfw hf20).2).1
            omega
        · exact upd_of_not k1 hfw
  · -- path
    intro p hp hpe a ha d hd
    by_cases hpw : p = w
    · subst hpw
      rw [hA'w] at ha
      have e2 := Int.ofNat.inj ha
      subst e2
      refine .step (chain_path g h hfm hfA hd) ((g.sp p f (by omega)).1 hf) ?_
      rintro rfl
      omega
    · rw [hA' p hpw] at ha
      exact h.path p (keep p hpw hp) hpe a ha d hd
  · -- dom
    have hdw : ∀ d, ¬ Rch succ (fun q => q ≠ d) ent w → d ≠ w → Anc A m d := fun d hd hne => hlow' d fun q hq hq0 => h.dom q hq0 d fun k => hd (.step k ((g.sp w q (by omega)).1 hq) (Ne.symm hne))
    have hupw : ∀ d, ¬ Rch succ (fun q => q ≠ d) ent w → Anc (updA A w (m : Int)) w d := fun d hd => by
      by_cases hne : d = w
      · subst hne; exact .refl _
      · exact .up hA'w (upd_of_not (hdw d hd hne) (hnot m hm0 hwm))
    intro u hu d hd
    by_cases huw : u = w
    · subst huw; exact hupw d hd
    · have hu0 := keep u huw hu
      have k1 := h.dom u hu0 d hd
      by_cases hau : Anc A u w
      · have hw0 := (t.anc_le hau hu0).2
        rcases k1.comp hau with h4 | h4
        · exact upd_low t g k1 h4 hu0
        · by_cases hne : w = d
          · subst hne; exact upd_low t g hau (.refl _) hu0
          · have hlt := t.anc_lt g h4 hw0 hne
            exact (upd_low t g hau (.refl _) hu0).trans (hupw d fun k => hd (k.trans (chain_path g h hau hu0 hlt)))
      · exact upd_of_not k1 hau

/-- At a tree that no step turns, what stands above a point dominates it. -/
theorem fix_dom (t : Tree P A ent) (g : DG succ preds P ent) (hall : ∀ p, 0 ≤ P p → 0 ≤ A p) (hfix : ∀ w, 0 ≤ P w → w ≠ ent → BS A (fun q => q ∈ preds w ∧ 0 ≤ A q) (A w)) {d v : Nat} (h : Rch succ (fun q => q ≠ d) ent v) : ¬ Anc A v d := by
  induction h with
  | refl hok =>
    intro k
    exact hok (t.ent_only k rfl).symm
  | @step u v hr hm hok ih =>
    intro k
    have hu : 0 ≤ P u := (g.reach u).2 (hr.mono fun _ _ => trivial)
    have hv : 0 ≤ P v := (g.reach v).2 (.step (hr.mono fun _ _ => trivial) hm trivial)
    by_cases hve : v = ent
    · exact hok (hve.trans (t.ent_only k hve).symm)
    · rcases hfix v hv hve with ⟨_, hno⟩ | ⟨a, ha, -, -, hS, -⟩
      · exact hno u ⟨(g.sp v u hv).2 hm, hall u hu⟩
      · have k2 : Anc A a d := by
          cases k with
          | refl => exact absurd rfl hok
          | up e k =>
            have e2 := Int.ofNat.inj (e.symm.trans ha)
            subst e2
            exact k
        exact ih ((hS u ⟨(g.sp v u hv).2 hm, hall u hu⟩).trans k2)
end
end Go.Proofs.Ytngfoinceakgdaa
