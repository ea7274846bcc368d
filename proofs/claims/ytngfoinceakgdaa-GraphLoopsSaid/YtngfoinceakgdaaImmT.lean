/- Plain laws: the reference's immediate dominators are the program's. -/
import Derived.Test.YtngfoinceakgdaaImm
import Derived.Test.YtngfoinceakgdaaNumT
namespace Go.Proofs.Ytngfoinceakgdaa

section
variable {succ : Nat → List Nat} {ent n : Nat} {res : List Int}
/-- What dominates a point stands above it. -/
theorem dom_rank (h : IsIdom succ ent n res) {R : Nat → Nat} (hR : ∀ p, R p ≤ n) (hlt : ∀ p a : Nat, getI res p = (a : Int) → R p < R a) : ∀ (k q : Nat), n - R q ≤ k → Rch succ (fun _ => True) ent q → ∀ d, ¬ Rch succ (fun x => x ≠ d) ent q → q = d ∨ R q < R d
  | k, q, hk, hq, d, hd => by
    by_cases he : q = ent
    · subst he
      by_cases e : q = d
      · exact .inl e
      · exact absurd (.refl e) hd
    · obtain ⟨a, ha, hra, hne, hiff⟩ := h.up q hq he
      rcases (hiff d).1 hd with h1 | h1
      · exact .inl h1.symm
      · have hqa := hlt q a ha
        have := hR a
        cases k with
        | zero => omega
        | succ k =>
          rcases dom_rank h hR hlt k a (by omega) hra d h1 with h2 | h2
          · subst h2; exact .inr hqa
          · exact .inr (by omega)
theorem rch_split {ok : Nat → Prop} {a b : Nat} (d : Nat) (h : Rch succ ok a b) : Rch succ (fun x => x ≠ d) a b ∨ Rch succ ok a d := by
  induction h with
  | refl ha =>
    by_cases e : a = d
    · subst e; exact .inr (.refl ha)
    · exact .inl (.refl e)
  | @step b c hr hc hok ih =>
    rcases ih with h1 | h1
    · by_cases e : c = d
      · subst e; exact .inr (.step hr hc hok)
      · exact .inl (.step h1 hc e)
    · exact .inr h1
theorem dom_trans {p d e : Nat} (h1 : ¬ Rch succ (fun x => x ≠ d) ent p) (h2 : ¬ Rch succ (fun x => x ≠ e) ent d) : ¬ Rch succ (fun x => x ≠ e) ent p := fun h => by
  rcases rch_split d h with h3 | h3
  · exact h1 h3
  · exact h2 h3
theorem dom_reach {p d : Nat} (hp : Rch succ (fun _ => True) ent p) (h1 : ¬ Rch succ (fun x => x ≠ d) ent p) : Rch succ (fun _ => True) ent d := by
  rcases rch_split d hp with h3 | h3
  · exact absurd h3 h1
  · exact h3
theorem cntD_eq (n : Nat) (D : Nat → Nat → Bool) (i : Nat) : cntD n D i = ((List.range n).filter (D i)).length := by
  unfold cntD
  rw [List.count_eq_countP, List.countP_map, List.countP_eq_length_filter]
  congr 1
  exact List.filter_congr fun x _ => by simp
/-- The search for the candidate with the most dominators. -/
structure ImmInv (n : Nat) (D : Nat → Nat → Bool) (p m : Nat) (b : Int) : Prop where
  neg : b < 0 → b = -1 ∧ ∀ d, d < m → ¬ (d ≠ p ∧ D p d = true)
  pos : 0 ≤ b → ∃ bn : Nat, b = bn ∧ bn < m ∧ bn ≠ p ∧ D p bn = true ∧ ∀ d, d < m → d ≠ p → D p d = true → cntD n D d ≤ cntD n D bn
theorem immInv (n : Nat) (D : Nat → Nat → Bool) (p : Nat) : ∀ m, ImmInv n D p m ((List.range m).foldl (immStep n D p) (-1))
  | 0 => ⟨fun _ => ⟨rfl, fun d hd => by omega⟩, fun h => by simp at h⟩
  | m + 1 => by
    obtain ⟨h1, h2⟩ := immInv n D p m
    rw [immFold_succ]
    revert h1 h2
    generalize (List.range m).foldl (immStep n D p) (-1) = b
    intro h1 h2
    unfold immStep
    by_cases hc : m ≠ p ∧ D p m = true ∧ (b < 0 ∨ cntD n D b.toNat < cntD n D m)
    · rw [if_pos hc]
      refine ⟨fun h => by omega, fun _ => ⟨m, rfl, by omega, hc.1, hc.2.1, fun d hd hdp hdd => ?_⟩⟩
      by_cases e : d = m
      · subst e; exact Nat.le_refl _
      · by_cases hb : b < 0
        · exact absurd ⟨hdp, hdd⟩ ((h1 hb).2 d (by omega))
        · have hb0 : 0 ≤ b := by omega
          obtain ⟨bn, rfl, -, -, -, hmax⟩ := h2 hb0
          have hdm : d < m := Nat.lt_of_le_of_ne (Nat.le_of_lt_succ hd) e
          have := hmax d hdm hdp hdd
          clear h1 h2 hmax
          rcases hc.2.2 with h3 | h3
          · omega
          · simp only [Int.toNat_natCast] at h3; omega
    · rw [if_neg hc]
      refine ⟨fun hb => ⟨(h1 hb).1, fun d hd hdd => ?_⟩, fun hb => ?_⟩
      · by_cases e : d = m
        · subst e; exact hc ⟨hdd.1, hdd.2, .inl hb⟩
        · exact (h1 hb).2 d (by omega) hdd
      · obtain ⟨bn, rfl, h3, h4, h5, hmax⟩ := h2 hb
        refine ⟨bn, rfl, by omega, h4, h5, fun d hd hdp hdd => ?_⟩
        by_cases e : d = m
        · subst e
          rcases Nat.lt_or_ge (cntD n D bn) (cntD n D d) with h6 | h6
          · exact absurd ⟨hdp, hdd, .inr (by simpa using h6)⟩ hc
          · exact h6
        · exact hmax d (by omega) hdp hdd
theorem imm_same (h : IsIdom succ ent n res) (hs : ∀ p, p < n → ∀ x ∈ succ p, x < n) (hent : ent < n) {D : Nat → Nat → Bool} (hD : ∀ p d, D p d = true ↔ Rch succ (fun _ => True) ent p ∧ ¬ Rch succ (fun q => q ≠ d) ent p) :
    (List.range n).map (immF n D) = res := by
  apply getI_ext
  · simp [h.len]
  intro p
  by_cases hpn : p < n
  · have e1 : getI ((List.range n).map (immF n D)) p = immF n D p := by
      unfold getI
      rw [List.getD_eq_getElem?_getD, List.getElem?_map, List.getElem?_range hpn]; rfl
    rw [e1]
    obtain ⟨i1, i2⟩ := immInv n D p n
    unfold immF
    revert i1 i2
    generalize (List.range n).foldl (immStep n D p) (-1) = b
    intro i1 i2
    by_cases hp : Rch succ (fun _ => True) ent p
    · by_cases he : p = ent
      · subst he
        rw [h.entR]
        by_cases hb : b < 0
        · exact (i1 hb).1
        · have hb0 : 0 ≤ b := by omega
          obtain ⟨bn, rfl, -, h4, h5, -⟩ := i2 hb0
          exact absurd (.refl (Ne.symm h4)) ((hD _ _).1 h5).2
      · obtain ⟨a, ha, hra, hne, hiff⟩ := h.up p hp he
        obtain ⟨R, hR, hlt⟩ := h.rank
        have han := hra.lt hs hent
        have hca : a ≠ p ∧ D p a = true := ⟨hne, (hD _ _).2 ⟨hp, (hiff a).2 (.inr fun k => k.ok_right rfl)⟩⟩
        rw [ha]
        by_cases hb : b < 0
        · exact absurd hca ((i1 hb).2 a han)
        · have hb0 : 0 ≤ b := by omega
          obtain ⟨bn, rfl, h3, h4, h5, hmax⟩ := i2 hb0
          by_cases e : bn = a
          · subst e; rfl
          · exfalso
            have hle := hmax a han hne hca.2
            have h6 := ((hD _ _).1 h5).2
            rcases (hiff bn).1 h6 with h7 | h7
            · exact h4 h7
            · have hrb := dom_reach hra h7
              have hsub : ∀ e, D bn e = true → D a e = true := fun e he => (hD _ _).2 ⟨hra, dom_trans h7 ((hD _ _).1 he).2⟩
              have hnot : D bn a = false := by
                cases hx : D bn a with
                | false => rfl
                | true =>
                  exfalso
                  rcases dom_rank h hR hlt n bn (by omega) hrb a ((hD _ _).1 hx).2 with h8 | h8
                  · exact e h8
                  · rcases dom_rank h hR hlt n a (by omega) hra bn h7 with h9 | h9
                    · exact e h9.symm
                    · omega
              have haa : D a a = true := (hD _ _).2 ⟨hra, fun k => k.ok_right rfl⟩
              rw [cntD_eq, cntD_eq] at hle
              have := filter_lt (f := D a) (g := D bn) (l := List.range n) (fun x _ hx => hsub x hx) ⟨a, List.mem_range.2 han, haa, hnot⟩
              omega
    · rw [h.no p hp]
      by_cases hb : b < 0
      · exact (i1 hb).1
      · have hb0 : 0 ≤ b := by omega
        obtain ⟨bn, -, -, -, h5, -⟩ := i2 hb0
        exact absurd ((hD _ _).1 h5).1 hp
  · have hl : ∀ l : List Int, l.length ≤ p → getI l p = -1 := fun l hl => by
      unfold getI
      rw [List.getD_eq_getElem?_getD, List.getElem?_eq_none hl]; rfl
    rw [hl _ (by simp; omega), hl _ (by rw [h.len]; omega)]
end
theorem Rch.congr {s1 s2 : Nat → List Nat} (hs : ∀ p x, x ∈ s1 p → x ∈ s2 p) {ok : Nat → Prop} {a b : Nat} (h : Rch s1 ok a b) : Rch s2 ok a b := by
  induction h with
  | refl h => exact .refl h
  | step _ hc hok ih => exact .step ih (hs _ _ hc) hok
theorem domB_iff {n : Nat} {E : List (Nat × Nat)} {f p d : Nat} : domB n E f p d = true ↔ Rch (nx n E) (fun _ => True) f p ∧ ¬ Rch (nx n E) (fun q => q ≠ d) f p := by
  unfold domB rB
  rw [Bool.and_eq_true, Bool.not_eq_true', bP_iff, bP_false]
  have h1 : Rch (nx n E) (fun q => (q : Int) ≠ -1) f p ↔ Rch (nx n E) (fun _ => True) f p := ⟨fun h => h.mono fun _ _ => trivial, fun h => h.mono fun _ _ => by omega⟩
  have h2 : Rch (nx n E) (fun q => (q : Int) ≠ (d : Int)) f p ↔ Rch (nx n E) (fun q => q ≠ d) f p := ⟨fun h => h.mono fun _ h => by omega, fun h => h.mono fun _ h => by omega⟩
  rw [h1, h2]
theorem imm_dom {n : Nat} {exit : Int} {E : List (Nat × Nat)} (hg : GOk n exit E) {res : List Int} (h : IsIdom (nx n E) 0 n res) : (List.range n).map (immF n (domB n E 0)) = res :=
  imm_same h hg.next_lt hg.n1 (fun _ _ => domB_iff)
theorem imm_pdom {n x : Nat} {exit : Int} {E : List (Nat × Nat)} (hg : GOk n exit E) (hx : x < n) {res : List Int} (h : IsIdom ((shapeOf n E).rev x).next x n res) : (List.range n).map (immF n (domB n (swapE E) x)) = res := by
  have hc : ∀ p q, q ∈ nx n (swapE E) p ↔ q ∈ ((shapeOf n E).rev x).next p := fun p q => (hg.swap.mem_nx).trans (mem_swapE.trans hg.mem_rv.symm)
  refine imm_same h (hg.next_rev_lt x) hx (fun p d => domB_iff.trans ?_)
  constructor
  · rintro ⟨h1, h2⟩; exact ⟨h1.congr fun p q => (hc p q).1, fun k => h2 (k.congr fun p q => (hc p q).2)⟩
  · rintro ⟨h1, h2⟩; exact ⟨h1.congr fun p q => (hc p q).2, fun k => h2 (k.congr fun p q => (hc p q).1)⟩
end Go.Proofs.Ytngfoinceakgdaa
