/- Plain laws: the groups are the sets of points that can be reached from each other. No program here. -/
import Derived.Test.YtngfoinceakgdaaGrpT
import Derived.Test.YtngfoinceakgdaaShapeT
namespace Go.Proofs.Ytngfoinceakgdaa

/-- Of each visit: what it saw can be reached from its point, and nothing that was finished before leads to it. -/
def SegN (succ : Nat → List Nat) (old new : List Nat) : Prop :=
  ∀ (i r : Nat), new[i]? = some r → ∃ a, a ≤ i ∧ (∀ (j x : Nat), a ≤ j → j ≤ i → new[j]? = some x → Rch succ (fun _ => True) r x) ∧
    ∀ z, (z ∈ old ∨ ∃ j, j < a ∧ new[j]? = some z) → ∀ (l y : Nat), a ≤ l → l ≤ i → new[l]? = some y → y ∉ succ z

theorem SegN.append {succ : Nat → List Nat} {old n1 n2 : List Nat} (h1 : SegN succ old n1) (h2 : SegN succ (old ++ n1) n2) : SegN succ old (n1 ++ n2) := by
  intro i r hr
  by_cases hi : i < n1.length
  · rw [List.getElem?_append_left hi] at hr
    obtain ⟨a, ha, hA, hB⟩ := h1 i r hr
    refine ⟨a, ha, fun j x h3 h4 hx => ?_, fun z hz l y h3 h4 hy => ?_⟩
    · rw [List.getElem?_append_left (by omega)] at hx
      exact hA j x h3 h4 hx
    · rw [List.getElem?_append_left (by omega)] at hy
      refine hB z ?_ l y h3 h4 hy
      rcases hz with hz | ⟨j, hj, hz⟩
      · exact .inl hz
      · rw [List.getElem?_append_left (by omega)] at hz
        exact .inr ⟨j, hj, hz⟩
  · rw [List.getElem?_append_right (by omega)] at hr
    obtain ⟨a, ha, hA, hB⟩ := h2 _ r hr
    refine ⟨n1.length + a, by omega, fun j x h3 h4 hx => ?_, fun z hz l y h3 h4 hy => ?_⟩
    · rw [List.getElem?_append_right (by omega)] at hx
      exact hA _ x (by omega) (by omega) hx
    · rw [List.getElem?_append_right (by omega)] at hy
      refine hB z ?_ _ y (by omega) (by omega) hy
      rcases hz with hz | ⟨j, hj, hz⟩
      · exact .inl (List.mem_append_left _ hz)
      · by_cases hj1 : j < n1.length
        · rw [List.getElem?_append_left hj1] at hz
          exact .inl (List.mem_append_right _ (List.mem_of_getElem? hz))
        · rw [List.getElem?_append_right (by omega)] at hz
          exact .inr ⟨_, by omega, hz⟩

/-- All that is finished leads to what has been seen. -/
def Shut (succ : Nat → List Nat) (s : List Bool × List Nat) : Prop := ∀ z ∈ s.2, ∀ y ∈ succ z, s.1.getD y false = true

theorem foldO_seg {n : Nat} {succ : Nat → List Nat} {f : List Bool × List Nat → Nat → Option (List Bool × List Nat)}
    (hf : ∀ s x t, s.1.length = n → x < n → Shut succ s → f s x = some t → t.1.length = n ∧ Shut succ t ∧ ∃ new, t.2 = s.2 ++ new ∧ SegN succ s.2 new) :
    ∀ (xs : List Nat) (s t : List Bool × List Nat), s.1.length = n → (∀ x ∈ xs, x < n) → Shut succ s → foldO f xs s = some t → t.1.length = n ∧ Shut succ t ∧ ∃ new, t.2 = s.2 ++ new ∧ SegN succ s.2 new
  | [], s, t, hl, _, hs, h => by cases h; exact ⟨hl, hs, [], by simp, fun i r hr => by simp at hr⟩
  | x :: xs, s, t, hl, hx, hs, h => by
    simp only [foldO] at h
    cases hq : f s x with
    | none => rw [hq] at h; cases h
    | some u =>
      rw [hq] at h
      obtain ⟨a1, a2, n1, a3, a4⟩ := hf s x u hl (hx x List.mem_cons_self) hs hq
      obtain ⟨b1, b2, n2, b3, b4⟩ := foldO_seg hf xs u t a1 (fun y hy => hx y (List.mem_cons_of_mem _ hy)) a2 h
      refine ⟨b1, b2, n1 ++ n2, by rw [b3, a3, List.append_assoc], a4.append ?_⟩
      rwa [← a3]

theorem dfsV_seg {n : Nat} {succ : Nat → List Nat} (hsucc : ∀ p, p < n → ∀ x ∈ succ p, x < n) : ∀ (k : Nat) (s : List Bool × List Nat) (p : Nat) (t : List Bool × List Nat), s.1.length = n → p < n → Shut succ s → dfsV succ (-1) k s p = some t →
    t.1.length = n ∧ Shut succ t ∧ ∃ new, t.2 = s.2 ++ new ∧ SegN succ s.2 new
  | 0, _, _, _, _, _, _, h => by simp [dfsV] at h
  | k + 1, s, p, t, hl, hp, hs, h => by
    obtain ⟨nw, had⟩ := dfsV_adds hsucc (k + 1) s p t hl hp h
    have hsaid := dfsV_said hsucc (k + 1) s p t hl hp h
    have hshut : Shut succ t := by
      intro z hz y hy
      rw [had.ord] at hz
      rcases List.mem_append.1 hz with hz | hz
      · exact had.keep y (hs z hz y hy)
      · obtain ⟨-, hz2, hz3⟩ := had.fresh z hz
        rcases hsaid.closed z hz3 with h1 | h1
        · rw [hz2] at h1; cases h1
        · rcases h1 y hy with h2 | h2
          · omega
          · exact h2
    refine ⟨had.len.trans hl, hshut, ?_⟩
    simp only [dfsV] at h
    rw [if_neg (by omega)] at h
    split at h
    · cases h; exact ⟨[], by simp, fun i r hr => by simp at hr⟩
    · obtain ⟨u, hu, rfl⟩ := Option.map_eq_some_iff.1 h
      obtain ⟨-, -, a, ha, hseg⟩ := foldO_seg (n := n) (fun s x t h1 h2 h3 h4 => dfsV_seg hsucc k s x t h1 h2 h3 h4) (succ p) (s.1.set p true, s.2) u (by simpa using hl) (hsucc p hp) (fun z hz y hy => by
        simp only
        rw [getD_set_b]
        split
        · rfl
        · exact hs z hz y hy) hu
      have hnw : nw = a ++ [p] := by
        have h1 := had.ord
        simp only at h1 ha
        rw [ha, List.append_assoc] at h1
        exact (List.append_cancel_left h1).symm
      refine ⟨a ++ [p], by simp only; rw [ha, List.append_assoc], fun i r hr => ?_⟩
      by_cases hi : i < a.length
      · rw [List.getElem?_append_left hi] at hr
        obtain ⟨b, hb, hA, hB⟩ := hseg i r hr
        refine ⟨b, hb, fun j x h3 h4 hx => ?_, fun z hz l y h3 h4 hy => ?_⟩
        · rw [List.getElem?_append_left (by omega)] at hx
          exact hA j x h3 h4 hx
        · rw [List.getElem?_append_left (by omega)] at hy
          refine hB z ?_ l y h3 h4 hy
          rcases hz with hz | ⟨j, hj, hz⟩
          · exact .inl hz
          · rw [List.getElem?_append_left (by omega)] at hz
            exact .inr ⟨j, hj, hz⟩
      · have hrp : r = p := by
          rw [List.getElem?_append_right (by omega)] at hr
          have := List.mem_of_getElem? hr
          simpa using this
        subst hrp
        refine ⟨0, Nat.zero_le _, fun j x _ _ hx => ?_, fun z hz l y _ _ hy => ?_⟩
        · have hx' : x ∈ nw := by rw [hnw]; exact List.mem_of_getElem? hx
          obtain ⟨-, h1, h2⟩ := had.fresh x hx'
          rcases hsaid.sound x h2 with h3 | ⟨c, hc, hrc⟩
          · rw [h1] at h3; cases h3
          · simp at hc
            subst hc
            exact hrc.mono fun _ _ => trivial
        · have hy' : y ∈ nw := by rw [hnw]; exact List.mem_of_getElem? hy
          obtain ⟨-, h1, h2⟩ := had.fresh y hy'
          rcases hz with hz | ⟨j, hj, _⟩
          · intro hm
            have := hs z hz y hm
            rw [h1] at this
            cases this
          · omega

/-- The visits for a group go through points that had not been taken. -/
theorem foldO_path {n : Nat} {succ : Nat → List Nat} {f : List Bool × List Nat → Nat → Option (List Bool × List Nat)} (hlen : ∀ s x t, s.1.length = n → x < n → f s x = some t → t.1.length = n ∧ ∀ y, s.1.getD y false = true → t.1.getD y false = true)
    (hf : ∀ s x t, s.1.length = n → x < n → f s x = some t → ∀ y, t.1.getD y false = true → s.1.getD y false = true ∨ Rch succ (fun q => s.1.getD q false = false) x y) :
    ∀ (xs : List Nat) (s t : List Bool × List Nat), s.1.length = n → (∀ x ∈ xs, x < n) → foldO f xs s = some t → ∀ y, t.1.getD y false = true → s.1.getD y false = true ∨ ∃ x ∈ xs, Rch succ (fun q => s.1.getD q false = false) x y
  | [], s, t, _, _, h => by cases h; exact fun y hy => .inl hy
  | x :: xs, s, t, hl, hx, h => by
    simp only [foldO] at h
    cases hq : f s x with
    | none => rw [hq] at h; cases h
    | some u =>
      rw [hq] at h
      have h1 := hlen s x u hl (hx x List.mem_cons_self) hq
      intro y hy
      rcases foldO_path hlen hf xs u t h1.1 (fun y hy => hx y (List.mem_cons_of_mem _ hy)) h y hy with h2 | ⟨c, hc, hr⟩
      · rcases hf s x u hl (hx x List.mem_cons_self) hq y h2 with h3 | h3
        · exact .inl h3
        · exact .inr ⟨x, List.mem_cons_self, h3⟩
      · refine .inr ⟨c, List.mem_cons_of_mem _ hc, hr.mono fun q hq => ?_⟩
        cases hs : s.1.getD q false with
        | false => rfl
        | true => have := h1.2 q hs; rw [hq] at this; cases this

theorem grpV_path {n : Nat} {succ : Nat → List Nat} (hsucc : ∀ p, p < n → ∀ x ∈ succ p, x < n) : ∀ (k : Nat) (s : List Bool × List Nat) (p : Nat) (t : List Bool × List Nat), s.1.length = n → p < n → grpV succ k s p = some t →
    ∀ y, t.1.getD y false = true → s.1.getD y false = true ∨ Rch succ (fun q => s.1.getD q false = false) p y
  | 0, _, _, _, _, _, h => by simp [grpV] at h
  | k + 1, s, p, t, hl, hp, h => by
    simp only [grpV] at h
    split at h
    · cases h; exact fun y hy => .inl hy
    · rename_i hps
      have hps' : s.1.getD p false = false := by simpa using hps
      have ih := foldO_path (n := n) (succ := succ) (fun s x t h1 h2 h3 => by obtain ⟨a, ha⟩ := grpV_adds hsucc k s x t h1 h2 h3; exact ⟨ha.len.trans h1, ha.keep⟩) (fun s x t h1 h2 h3 => grpV_path hsucc k s x t h1 h2 h3)
        (succ p) (s.1.set p true, s.2 ++ [p]) t (by simpa using hl) (hsucc p hp) h
      intro y hy
      rcases ih y hy with h1 | ⟨c, hc, hr⟩
      · simp only at h1
        rw [getD_set_b] at h1
        split at h1
        · rename_i h2
          rw [← h2.1]
          exact .inr (.refl hps')
        · exact .inl h1
      · refine .inr (Rch.head hc hps' (hr.mono fun q hq => ?_))
        simp only at hq
        rw [getD_set_b] at hq
        split at hq
        · cases hq
        · exact hq

/-- Each can be reached from the other. -/
def Mut (succ : Nat → List Nat) (x y : Nat) : Prop := Rch succ (fun _ => True) x y ∧ Rch succ (fun _ => True) y x
theorem Mut.refl (succ : Nat → List Nat) (x : Nat) : Mut succ x x := ⟨.refl trivial, .refl trivial⟩
theorem Mut.symm {succ : Nat → List Nat} {x y : Nat} (h : Mut succ x y) : Mut succ y x := ⟨h.2, h.1⟩
theorem Mut.trans {succ : Nat → List Nat} {x y z : Nat} (h : Mut succ x y) (k : Mut succ y z) : Mut succ x z := ⟨h.1.trans k.1, k.2.trans h.2⟩

theorem Rch.lt {n : Nat} {succ : Nat → List Nat} (hsucc : ∀ p, p < n → ∀ x ∈ succ p, x < n) {ok : Nat → Prop} {a b : Nat} (h : Rch succ ok a b) (ha : a < n) : b < n := by
  induction h with
  | refl _ => exact ha
  | step _ h1 _ ih => exact hsucc _ ih _ h1

theorem Rch.turn {n : Nat} {succ pred : Nat → List Nat} (hsucc : ∀ p, p < n → ∀ x ∈ succ p, x < n) (hps : ∀ p q, p < n → q < n → (q ∈ succ p ↔ p ∈ pred q)) {ok : Nat → Prop} {a b : Nat} (h : Rch succ ok a b) (ha : a < n) : Rch pred ok b a := by
  induction h with
  | refl h => exact .refl h
  | @step b c h h1 h2 ih =>
    have hb := h.lt hsucc ha
    exact Rch.head ((hps b c hb (hsucc b hb c h1)).1 h1) h2 ih

/-- What holds of the groups that have been found. -/
structure GInv (succ : Nat → List Nat) (n : Nat) (tk : List Bool) (gs : List (List Nat)) : Prop where
  len : tk.length = n
  mutc : ∀ x y, x < n → tk.getD x false = true → Mut succ x y → tk.getD y false = true
  mem : ∀ x, tk.getD x false = true ↔ ∃ g ∈ gs, x ∈ g
  cls : ∀ g ∈ gs, ∀ x ∈ g, x < n ∧ ∀ y, y ∈ g ↔ Mut succ x y
  ne : ∀ g ∈ gs, g ≠ []
  sorted : ∀ g ∈ gs, g.Pairwise (· < ·)
  apart : gs.Pairwise fun a b => ∀ x ∈ a, x ∉ b

theorem sortN_mem {l : List Nat} {x : Nat} : x ∈ sortN l ↔ x ∈ l := List.mem_mergeSort
theorem sortN_lt {l : List Nat} (h : l.Nodup) : (sortN l).Pairwise (· < ·) := by
  have h1 : (sortN l).Pairwise fun a b => decide (a ≤ b) = true := List.pairwise_mergeSort (fun a b c h1 h2 => by simp at *; omega) (fun a b => by simp; omega) l
  have h2 : (sortN l).Nodup := (List.mergeSort_perm l _).nodup_iff.2 h
  have h3 := List.pairwise_and_iff.2 ⟨h1, h2⟩
  exact h3.imp fun {a b} h => by have := h.1; have := h.2; simp at *; omega

theorem grp_step {n : Nat} {succ rsucc : Nat → List Nat} (hs : ∀ p, p < n → ∀ x ∈ succ p, x < n) (hr : ∀ p, p < n → ∀ x ∈ rsucc p, x < n) (hps : ∀ p q, p < n → q < n → (q ∈ succ p ↔ p ∈ rsucc q)) {ord : List Nat} (hord : ∀ x ∈ ord, x < n) (hall : ∀ x, x < n → x ∈ ord) (hseg : SegN succ [] ord)
    {k i : Nat} {tk : List Bool} {gs : List (List Nat)} {r : Nat} {t : List Bool × List Nat} (h : GInv succ n tk gs) (hri : ord[i]? = some r) (hlate : ∀ j x, i < j → ord[j]? = some x → tk.getD x false = true) (hrt : tk.getD r false = false) (hg : grpV rsucc k (tk, []) r = some t) :
    GInv succ n t.1 (gs ++ [sortN t.2]) ∧ t.1.getD r false = true ∧ ∀ x, tk.getD x false = true → t.1.getD x false = true := by
  have hrn := hord r (List.mem_of_getElem? hri)
  obtain ⟨nw, had⟩ := grpV_adds hr k (tk, []) r t h.len hrn hg
  have hsaid := grpV_said hr k (tk, []) r t h.len hrn hg
  have hpath := grpV_path hr k (tk, []) r t h.len hrn hg
  have hnw : t.2 = nw := by simpa using had.ord
  have hstart : t.1.getD r false = true := by
    rcases hsaid.start r (by simp) with h1 | h1
    · omega
    · exact h1
  have hps' : ∀ p q, p < n → q < n → (q ∈ rsucc p ↔ p ∈ succ q) := fun p q hp hq => (hps q p hq hp).symm
  -- what has been added: the points that can be reached from r and from which r can be reached
  have hcls : ∀ x, x ∈ nw ↔ Mut succ r x := by
    intro x
    constructor
    · intro hx
      obtain ⟨hxn, h1, h2⟩ := had.fresh x hx
      rcases hpath x h2 with h3 | h3
      · rw [h1] at h3; cases h3
      · refine ⟨?_, (h3.mono fun _ _ => trivial).turn hr hps' hrn⟩
        obtain ⟨a, ha, hA, hB⟩ := hseg i r hri
        have key : ∀ y, Rch rsucc (fun q => tk.getD q false = false) r y → y < n ∧ ∃ l, a ≤ l ∧ l ≤ i ∧ ord[l]? = some y := by
          intro y hy
          induction hy with
          | refl _ => exact ⟨hrn, i, ha, Nat.le_refl _, hri⟩
          | @step b c hb hc hok ih =>
            obtain ⟨hbn, l, hl1, hl2, hl3⟩ := ih
            have hcn := hr b hbn c hc
            refine ⟨hcn, ?_⟩
            obtain ⟨m, hm, hmc⟩ := List.mem_iff_getElem.1 (hall c hcn)
            have hm? : ord[m]? = some c := by rw [List.getElem?_eq_getElem hm, hmc]
            have hmi : m ≤ i := by
              rcases Nat.lt_or_ge i m with h5 | h5
              · have := hlate m c h5 hm?
                rw [hok] at this
                cases this
              · exact h5
            refine ⟨m, ?_, hmi, hm?⟩
            rcases Nat.lt_or_ge m a with h5 | h5
            · exact absurd ((hps' b c hbn hcn).1 hc) (hB c (.inr ⟨m, h5, hm?⟩) l b hl1 hl2 hl3)
            · exact h5
        obtain ⟨-, l, hl1, hl2, hl3⟩ := key x h3
        exact hA l x hl1 hl2 hl3
    · intro hm
      have key : ∀ y, Rch rsucc (fun _ => True) r y → Rch succ (fun _ => True) r y → y < n ∧ t.1.getD y false = true ∧ tk.getD y false = false := by
        intro y hy
        have hun : ∀ z, z < n → Rch succ (fun _ => True) r z → Rch succ (fun _ => True) z r → tk.getD z false = false := fun z hz h1 h2 => by
          cases hq : tk.getD z false with
          | false => rfl
          | true => have := h.mutc z r hz hq ⟨h2, h1⟩; rw [hrt] at this; cases this
        induction hy with
        | refl _ => exact fun _ => ⟨hrn, hstart, hrt⟩
        | @step b c hb hc _ ih =>
          intro hrc
          have hbn := hb.lt hr hrn
          have hcn := hr b hbn c hc
          obtain ⟨-, h2, h3⟩ := ih (.step hrc ((hps' b c hbn hcn).1 hc) trivial)
          refine ⟨hcn, ?_, hun c hcn hrc ((Rch.step hb hc trivial).turn hr hps' hrn)⟩
          rcases hsaid.closed b h2 with h4 | h4
          · simp only at h4; rw [h3] at h4; cases h4
          · rcases h4 c hc with h5 | h5
            · omega
            · exact h5
      have hxn := hm.1.lt hs hrn
      obtain ⟨-, h1, h2⟩ := key x (hm.2.turn hs hps hxn) hm.1
      rcases had.only x h1 with h3 | h3
      · simp only at h3; rw [h2] at h3; cases h3
      · exact h3
  rw [hnw]
  refine ⟨⟨had.len.trans h.len, fun x y hx hxt hxy => ?_, fun x => ?_, fun g hg x hx => ?_, fun g hg => ?_, fun g hg => ?_, ?_⟩, hstart, had.keep⟩
  · rcases had.only x hxt with h1 | h1
    · exact had.keep y (h.mutc x y hx h1 hxy)
    · exact (had.fresh y ((hcls y).2 (((hcls x).1 h1).trans hxy))).2.2
  · constructor
    · intro hx
      rcases had.only x hx with h1 | h1
      · obtain ⟨g, hg, hxg⟩ := (h.mem x).1 h1
        exact ⟨g, List.mem_append_left _ hg, hxg⟩
      · exact ⟨sortN nw, by simp, sortN_mem.2 h1⟩
    · rintro ⟨g, hg, hxg⟩
      rcases List.mem_append.1 hg with hg | hg
      · exact had.keep x ((h.mem x).2 ⟨g, hg, hxg⟩)
      · simp at hg
        subst hg
        exact (had.fresh x (sortN_mem.1 hxg)).2.2
  · rcases List.mem_append.1 hg with hg | hg
    · exact h.cls g hg x hx
    · simp at hg
      subst hg
      have hxw := sortN_mem.1 hx
      refine ⟨(had.fresh x hxw).1, fun y => ?_⟩
      rw [sortN_mem, hcls y]
      have hrx := (hcls x).1 hxw
      exact ⟨fun h => hrx.symm.trans h, fun h => hrx.trans h⟩
  · rcases List.mem_append.1 hg with hg | hg
    · exact h.ne g hg
    · simp at hg
      subst hg
      intro he
      have : r ∈ sortN nw := sortN_mem.2 ((hcls r).2 (Mut.refl _ _))
      rw [he] at this
      cases this
  · rcases List.mem_append.1 hg with hg | hg
    · exact h.sorted g hg
    · simp at hg
      subst hg
      exact sortN_lt had.nodup
  · refine List.pairwise_append.2 ⟨h.apart, by simp, fun a ha b hb x hx hxb => ?_⟩
    simp at hb
    subst hb
    have h1 := (had.fresh x (sortN_mem.1 hxb)).2.1
    have h2 := (h.mem x).2 ⟨a, ha, hx⟩
    simp only at h1
    rw [h2] at h1
    cases h1

theorem grps_spec {n : Nat} {succ rsucc : Nat → List Nat} (hs : ∀ p, p < n → ∀ x ∈ succ p, x < n) (hr : ∀ p, p < n → ∀ x ∈ rsucc p, x < n) (hps : ∀ p q, p < n → q < n → (q ∈ succ p ↔ p ∈ rsucc q)) {ord : List Nat} (hord : ∀ x ∈ ord, x < n) (hall : ∀ x, x < n → x ∈ ord) (hseg : SegN succ [] ord)
    {k : Nat} (hk : n < k) : ∀ (m : Nat), m ≤ ord.length → ∀ (tk : List Bool) (gs : List (List Nat)), GInv succ n tk gs → (∀ j x, m ≤ j → ord[j]? = some x → tk.getD x false = true) →
      ∃ r, foldO (grpStep rsucc k) (ord.take m).reverse (tk, gs) = some r ∧ GInv succ n r.1 r.2 ∧ ∀ x ∈ ord, r.1.getD x false = true
  | 0, _, tk, gs, h, hl => ⟨(tk, gs), rfl, h, fun x hx => by
      obtain ⟨j, hj, rfl⟩ := List.mem_iff_getElem.1 hx
      exact hl j _ (Nat.zero_le _) (List.getElem?_eq_getElem hj)⟩
  | m + 1, hm, tk, gs, h, hl => by
    have hmo : m < ord.length := by omega
    have hmn := hord _ (List.getElem_mem hmo)
    rw [List.take_succ_eq_append_getElem hmo, List.reverse_append, List.reverse_cons, List.reverse_nil, List.nil_append, List.cons_append, List.nil_append]
    by_cases hrt : tk.getD ord[m] false = true
    · obtain ⟨r, h1, h2, h3⟩ := grps_spec hs hr hps hord hall hseg hk m (by omega) tk gs h (fun j x hj hx => by
        by_cases e : j = m
        · subst e
          rw [List.getElem?_eq_getElem hmo] at hx
          cases hx
          exact hrt
        · exact hl j x (by omega) hx)
      refine ⟨r, ?_, h2, h3⟩
      simp only [foldO, grpStep]
      rw [if_pos hrt]
      exact h1
    · have hrf : tk.getD ord[m] false = false := by simpa using hrt
      obtain ⟨t, ht⟩ := grpV_some hr k (tk, []) ord[m] h.len hmn (Nat.lt_of_le_of_lt (List.count_le_length) (by rw [h.len]; exact hk))
      obtain ⟨h1, h2, h3⟩ := grp_step hs hr hps hord hall hseg h (List.getElem?_eq_getElem hmo) (fun j x hj hx => hl j x (by omega) hx) hrf ht
      obtain ⟨r, h4, h5, h6⟩ := grps_spec hs hr hps hord hall hseg hk m (by omega) t.1 (gs ++ [sortN t.2]) h1 (fun j x hj hx => by
        by_cases e : j = m
        · subst e
          rw [List.getElem?_eq_getElem hmo] at hx
          cases hx
          exact h2
        · exact h3 x (hl j x (by omega) hx))
      refine ⟨r, ?_, h5, h6⟩
      simp only [foldO, grpStep]
      rw [if_neg hrt, ht]
      exact h4

/-- The groups of a graph, in the order of their least points. -/
structure IsGroups (succ : Nat → List Nat) (n : Nat) (gs : List (List Nat)) : Prop where
  all : ∀ x, x < n → ∃ g ∈ gs, x ∈ g
  cls : ∀ g ∈ gs, ∀ x ∈ g, x < n ∧ ∀ y, y ∈ g ↔ Mut succ x y
  ne : ∀ g ∈ gs, g ≠ []
  sorted : ∀ g ∈ gs, g.Pairwise (· < ·)
  heads : gs.Pairwise fun a b => a.getD 0 0 < b.getD 0 0

theorem compareM_heads {x y : Nat} {xs ys : List Nat} (h : ¬ compareM (y :: ys) (x :: xs) < 0) (hne : x ≠ y) : x < y := by
  unfold compareM at h
  split at h
  · exact absurd (by omega) h
  · rename_i h1
    omega

theorem sortG_heads {n : Nat} {succ : Nat → List Nat} {tk : List Bool} {gs : List (List Nat)} (h : GInv succ n tk gs) (hall : ∀ x, x < n → tk.getD x false = true) : IsGroups succ n (sortG gs) := by
  have hm : ∀ g, g ∈ sortG gs ↔ g ∈ gs := fun g => List.mem_mergeSort
  have hp := List.mergeSort_perm gs fun a b => !decide (compareM b a < 0)
  have ha : (sortG gs).Pairwise fun a b => ∀ x ∈ a, x ∉ b := (hp.pairwise_iff (fun {a b} h x hx hb => h x hb hx)).2 h.apart
  have hsrt : (sortG gs).Pairwise fun a b => (!decide (compareM b a < 0)) = true := by
    refine List.pairwise_mergeSort (fun a b c h1 h2 => ?_) (fun a b => ?_) gs
    · simp only [Bool.not_eq_true', decide_eq_false_iff_not] at *
      intro h3
      by_cases hab : compareM a b < 0
      · exact h2 (compareM_trans c a b h3 hab)
      · have := compareM_eq a b hab h1
        subst this
        exact h2 h3
    · simp only [Bool.or_eq_true, Bool.not_eq_true', decide_eq_false_iff_not]
      by_cases hab : compareM a b < 0
      · refine .inl fun h3 => ?_
        have := compareM_trans a b a hab h3
        rw [compareM_lt_irrefl] at this
        omega
      · exact .inr hab
  refine ⟨fun x hx => ?_, fun g hg => h.cls g ((hm g).1 hg), fun g hg => h.ne g ((hm g).1 hg), fun g hg => h.sorted g ((hm g).1 hg), ?_⟩
  · obtain ⟨g, hg, hxg⟩ := (h.mem x).1 (hall x hx)
    exact ⟨g, (hm g).2 hg, hxg⟩
  · have hne : ∀ g ∈ sortG gs, g ≠ [] := fun g hg => h.ne g ((hm g).1 hg)
    have h3 := List.pairwise_and_iff.2 ⟨hsrt, ha⟩
    refine List.Pairwise.imp_of_mem (fun {a b} hma hmb hab => ?_) h3
    obtain ⟨x, xs, rfl⟩ := List.exists_cons_of_ne_nil (hne a hma)
    obtain ⟨y, ys, rfl⟩ := List.exists_cons_of_ne_nil (hne b hmb)
    have h4 := hab.1
    simp only [Bool.not_eq_true', decide_eq_false_iff_not] at h4
    have hxy : x ≠ y := by
      rintro rfl
      exact hab.2 x (by simp) (by simp)
    simpa using compareM_heads h4 hxy

/-- The search for groups comes to an end, and finds the groups. -/
theorem groups_total {n : Nat} {succ rsucc : Nat → List Nat} (hs : ∀ p, p < n → ∀ x ∈ succ p, x < n) (hr : ∀ p, p < n → ∀ x ∈ rsucc p, x < n) (hps : ∀ p q, p < n → q < n → (q ∈ succ p ↔ p ∈ rsucc q)) {k : Nat} (hk : n < k) {t : List Bool × List Nat}
    (h : foldO (dfsV succ (-1) k) (List.range n) (List.replicate n false, []) = some t) (hn : 0 < n) :
    ∃ r, grpsF rsucc k n t.2 = some r ∧ IsGroups succ n (sortG r.2) ∧ r.2.Nodup ∧ 0 < r.2.length := by
  have hx : ∀ x ∈ List.range n, x < n := fun x hx => List.mem_range.1 hx
  obtain ⟨h1, h2, h3, h4, h5⟩ := dfs_order hs hx h
  have h6 := dfs_reach hs hx h
  have hall : ∀ x, x < n → x ∈ t.2 := fun x hx => (h5 x).1 ((h6 x).2 ⟨x, List.mem_range.2 hx, .refl (by omega)⟩)
  obtain ⟨-, -, nw, hnw, hseg⟩ := foldO_seg (n := n) (fun s x t h1 h2 h3 h4 => dfsV_seg hs k s x t h1 h2 h3 h4) (List.range n) (List.replicate n false, []) t (by simp) hx (fun z hz => by simp at hz) h
  have hnw' : t.2 = nw := by simpa using hnw
  rw [← hnw'] at hseg
  have hf : ∀ x, (List.replicate n false).getD x false = true → False := fun x h => by rw [List.getD_eq_getElem?_getD, List.getElem?_replicate] at h; split at h <;> cases h
  have h0 : GInv succ n (List.replicate n false) [] := ⟨by simp, fun x y _ hx => (hf x hx).elim, fun x => ⟨fun hx => (hf x hx).elim, fun ⟨g, hg, _⟩ => (List.not_mem_nil hg).elim⟩, fun g hg => (List.not_mem_nil hg).elim, fun g hg => (List.not_mem_nil hg).elim, fun g hg => (List.not_mem_nil hg).elim, .nil⟩
  obtain ⟨r, hr1, hr2, hr3⟩ := grps_spec hs hr hps h2 hall hseg hk t.2.length (Nat.le_refl _) _ _ h0 (fun j x hj hx => by rw [List.getElem?_eq_none hj] at hx; cases hx)
  rw [List.take_length] at hr1
  have hcov : ∀ x, x < n → r.1.getD x false = true := fun x hx => hr3 x (hall x hx)
  refine ⟨r, hr1, sortG_heads hr2 hcov, ?_, ?_⟩
  · refine List.Pairwise.imp_of_mem (fun {a b} hma hmb hab => ?_) hr2.apart
    rintro rfl
    obtain ⟨x, xs, rfl⟩ := List.exists_cons_of_ne_nil (hr2.ne a hma)
    exact hab x (by simp) (by simp)
  · obtain ⟨g, hg, _⟩ := (hr2.mem 0).1 (hcov 0 hn)
    exact List.length_pos_of_mem hg

end Go.Proofs.Ytngfoinceakgdaa
