/- Plain laws about graphs. No program here. -/
import Derived.Test.YthaampinmelgaaaGreatDoorPlain1
/-! Plain laws on the search by depth: what it adds to the order. No program here. -/
namespace Go.Proofs.YthaampinmelgaaaGreatDoor

/-- What a search adds to what has been seen and to the order. -/
structure Adds (n : Nat) (s t : List Bool × List Nat) (new : List Nat) : Prop where
  ord : t.2 = s.2 ++ new
  nodup : new.Nodup
  fresh : ∀ x ∈ new, x < n ∧ s.1.getD x false = false ∧ t.1.getD x false = true
  keep : ∀ x, s.1.getD x false = true → t.1.getD x false = true
  only : ∀ x, t.1.getD x false = true → s.1.getD x false = true ∨ x ∈ new
  len : t.1.length = s.1.length

theorem Adds.refl (n : Nat) (s : List Bool × List Nat) : Adds n s s [] := ⟨by simp, List.nodup_nil, fun x hx => by simp at hx, fun _ h => h, fun _ h => .inl h, rfl⟩
theorem Adds.trans {n : Nat} {s t u : List Bool × List Nat} {a b : List Nat} (h : Adds n s t a) (k : Adds n t u b) : Adds n s u (a ++ b) := by
  refine ⟨by rw [k.ord, h.ord, List.append_assoc], List.nodup_append.2 ⟨h.nodup, k.nodup, fun x hx y hy => ?_⟩, fun x hx => ?_, fun x hx => k.keep x (h.keep x hx), fun x hx => ?_, k.len.trans h.len⟩
  · rintro rfl
    have h1 := (h.fresh x hx).2.2
    have h2 := (k.fresh x hy).2.1
    rw [h1] at h2; cases h2
  · rcases List.mem_append.1 hx with hx | hx
    · have := h.fresh x hx
      exact ⟨this.1, this.2.1, k.keep x this.2.2⟩
    · have h1 := k.fresh x hx
      refine ⟨h1.1, ?_, h1.2.2⟩
      cases hs : s.1.getD x false with
      | false => rfl
      | true => have := h.keep x hs; rw [h1.2.1] at this; cases this
  · rcases k.only x hx with hx | hx
    · rcases h.only x hx with hx | hx
      · exact .inl hx
      · exact .inr (List.mem_append_left _ hx)
    · exact .inr (List.mem_append_right _ hx)

theorem getD_set_b (l : List Bool) (p x : Nat) : (l.set p true).getD x false = if p = x ∧ p < l.length then true else l.getD x false := by
  rw [List.getD_eq_getElem?_getD, List.getD_eq_getElem?_getD, List.getElem?_set]
  by_cases h : p = x
  · subst h
    by_cases h2 : p < l.length <;> simp [h2]
  · simp [h]

theorem foldO_adds {n : Nat} {f : List Bool × List Nat → Nat → Option (List Bool × List Nat)} (hf : ∀ s x t, s.1.length = n → x < n → f s x = some t → ∃ new, Adds n s t new) :
    ∀ (xs : List Nat) (s t : List Bool × List Nat), s.1.length = n → (∀ x ∈ xs, x < n) → foldO f xs s = some t → ∃ new, Adds n s t new
  | [], s, t, _, _, h => by cases h; exact ⟨[], Adds.refl n s⟩
  | x :: xs, s, t, hs, hx, h => by
    simp only [foldO] at h
    cases hq : f s x with
    | none => rw [hq] at h; cases h
    | some u =>
      rw [hq] at h
      obtain ⟨a, ha⟩ := hf s x u hs (hx x List.mem_cons_self) hq
      obtain ⟨b, hb⟩ := foldO_adds hf xs u t (ha.len.trans hs) (fun y hy => hx y (List.mem_cons_of_mem _ hy)) h
      exact ⟨a ++ b, ha.trans hb⟩

theorem dfsV_adds {n : Nat} {succ : Nat → List Nat} {wo : Int} (hsucc : ∀ p, p < n → ∀ x ∈ succ p, x < n) : ∀ (k : Nat) (s : List Bool × List Nat) (p : Nat) (t : List Bool × List Nat), s.1.length = n → p < n → dfsV succ wo k s p = some t → ∃ new, Adds n s t new
  | 0, _, _, _, _, _, h => by simp [dfsV] at h
  | k + 1, s, p, t, hs, hp, h => by
    simp only [dfsV] at h
    split at h
    · cases h; exact ⟨[], Adds.refl n _⟩
    · split at h
      · cases h; exact ⟨[], Adds.refl n _⟩
      · rename_i h2
        obtain ⟨u, hu, rfl⟩ := Option.map_eq_some_iff.1 h
        obtain ⟨a, ha⟩ := foldO_adds (fun s x t h1 h2 h3 => dfsV_adds hsucc k s x t h1 h2 h3) (succ p) (s.1.set p true, s.2) u (by simpa using hs) (hsucc p hp) hu
        have hpf : s.1.getD p false = false := by simpa using h2
        have hself : (s.1.set p true).getD p false = true := by rw [getD_set_b, if_pos ⟨rfl, by omega⟩]
        have hpa : p ∉ a := fun hm => by have := (ha.fresh p hm).2.1; simp only at this; rw [hself] at this; cases this
        refine ⟨a ++ [p], by rw [ha.ord, List.append_assoc], List.nodup_append.2 ⟨ha.nodup, by simp, fun x hx y hy => ?_⟩, fun x hx => ?_, fun x hx => ?_, fun x hx => ?_, by rw [ha.len]; simp⟩
        · rintro rfl
          simp at hy
          subst hy
          exact hpa hx
        · rcases List.mem_append.1 hx with hx | hx
          · have h1 := ha.fresh x hx
            refine ⟨h1.1, ?_, h1.2.2⟩
            have h2 := h1.2.1
            simp only at h2
            rw [getD_set_b] at h2
            split at h2
            · cases h2
            · exact h2
          · simp at hx
            subst hx
            exact ⟨hp, hpf, ha.keep x hself⟩
        · refine ha.keep x ?_
          simp only
          rw [getD_set_b]
          split
          · rfl
          · exact hx
        · rcases ha.only x hx with h1 | h1
          · simp only at h1
            rw [getD_set_b] at h1
            split at h1
            · rename_i h3
              exact .inr (List.mem_append_right _ (by simp [h3.1]))
            · exact .inl h1
          · exact .inr (List.mem_append_left _ h1)

/-- Numbers below n without doubles are at most n. -/
theorem nodup_lt_length : ∀ {n : Nat} {l : List Nat}, l.Nodup → (∀ x ∈ l, x < n) → l.length ≤ n
  | 0, l, _, hl => by
    cases l with
    | nil => exact Nat.le_refl _
    | cons x xs => have := hl x List.mem_cons_self; omega
  | n + 1, l, hn, hl => by
    have h1 := nodup_lt_length (n := n) (l := l.erase n) (hn.erase n) (fun x hx => by
      have h2 := hl x (List.mem_of_mem_erase hx)
      have h3 : x ≠ n := (hn.mem_erase_iff.1 hx).1
      omega)
    rw [List.length_erase] at h1
    split at h1 <;> omega

/-- The whole search: its order is short, without doubles, and says what has been seen. -/
theorem dfs_order {n : Nat} {succ : Nat → List Nat} {wo : Int} (hsucc : ∀ p, p < n → ∀ x ∈ succ p, x < n) {k : Nat} {xs : List Nat} {t : List Bool × List Nat} (hx : ∀ x ∈ xs, x < n) (h : foldO (dfsV succ wo k) xs (List.replicate n false, []) = some t) :
    t.2.Nodup ∧ (∀ x ∈ t.2, x < n) ∧ t.2.length ≤ n ∧ t.1.length = n ∧ ∀ x, t.1.getD x false = true ↔ x ∈ t.2 := by
  obtain ⟨new, ha⟩ := foldO_adds (fun s x t h1 h2 h3 => dfsV_adds hsucc k s x t h1 h2 h3) xs _ t (by simp) hx h
  have ho : t.2 = new := by rw [ha.ord]; rfl
  rw [ho]
  have hf : ∀ x, (List.replicate n false).getD x false = false := fun x => by rw [List.getD_eq_getElem?_getD, List.getElem?_replicate]; split <;> rfl
  refine ⟨ha.nodup, fun x hx => (ha.fresh x hx).1, nodup_lt_length ha.nodup (fun x hx => (ha.fresh x hx).1), by rw [ha.len]; simp, fun x => ⟨fun hx => ?_, fun hx => (ha.fresh x hx).2.2⟩⟩
  rcases ha.only x hx with h1 | h1
  · simp only at h1; rw [hf] at h1; cases h1
  · exact h1

theorem count_false_le : ∀ {a b : List Bool}, a.length = b.length → (∀ x, a.getD x false = true → b.getD x false = true) → b.count false ≤ a.count false
  | [], [], _, _ => Nat.le_refl _
  | [], _ :: _, h, _ => by simp at h
  | _ :: _, [], h, _ => by simp at h
  | x :: xs, y :: ys, h, hk => by
    have ih := count_false_le (a := xs) (b := ys) (by simpa using h) (fun i hi => by have := hk (i + 1); simpa using this (by simpa using hi))
    have h0 := hk 0
    simp at h0
    cases x <;> cases y <;> simp at h0 ⊢ <;> omega

theorem count_false_set : ∀ (a : List Bool) (p : Nat), p < a.length → a.getD p false = false → (a.set p true).count false + 1 = a.count false
  | [], p, h, _ => by simp at h
  | x :: xs, 0, _, h => by
    simp at h
    subst h
    simp
  | x :: xs, p + 1, h, hp => by
    have ih := count_false_set xs p (by simpa using h) (by simpa using hp)
    rw [List.set_cons_succ]
    cases x <;> simp <;> omega

theorem foldO_some {n c : Nat} {f : List Bool × List Nat → Nat → Option (List Bool × List Nat)} (hf : ∀ s x t, s.1.length = n → x < n → f s x = some t → ∃ new, Adds n s t new)
    (hs : ∀ s x, s.1.length = n → x < n → s.1.count false ≤ c → ∃ t, f s x = some t) : ∀ (xs : List Nat) (s : List Bool × List Nat), s.1.length = n → (∀ x ∈ xs, x < n) → s.1.count false ≤ c → ∃ t, foldO f xs s = some t
  | [], s, _, _, _ => ⟨s, rfl⟩
  | x :: xs, s, hl, hx, hc => by
    obtain ⟨u, hu⟩ := hs s x hl (hx x List.mem_cons_self) hc
    obtain ⟨new, ha⟩ := hf s x u hl (hx x List.mem_cons_self) hu
    obtain ⟨t, ht⟩ := foldO_some hf hs xs u (ha.len.trans hl) (fun y hy => hx y (List.mem_cons_of_mem _ hy)) (Nat.le_trans (count_false_le ha.len.symm ha.keep) hc)
    exact ⟨t, by simp only [foldO, hu, Option.bind_some]; exact ht⟩

theorem dfsV_some {n : Nat} {succ : Nat → List Nat} {wo : Int} (hsucc : ∀ p, p < n → ∀ x ∈ succ p, x < n) : ∀ (k : Nat) (s : List Bool × List Nat) (p : Nat), s.1.length = n → p < n → s.1.count false < k → ∃ t, dfsV succ wo k s p = some t
  | 0, _, _, _, _, h => by omega
  | k + 1, s, p, hl, hp, hc => by
    simp only [dfsV]
    by_cases h1 : (p : Int) = wo
    · rw [if_pos h1]; exact ⟨_, rfl⟩
    · rw [if_neg h1]
      by_cases h2 : s.1.getD p false = true
      · rw [if_pos h2]; exact ⟨_, rfl⟩
      · rw [if_neg h2]
        have h3 := count_false_set s.1 p (by omega) (by simpa using h2)
        obtain ⟨t, ht⟩ := foldO_some (c := k - 1) (fun s x t h1 h2 h3 => dfsV_adds hsucc k s x t h1 h2 h3) (fun s x h1 h2 h4 => dfsV_some hsucc k s x h1 h2 (by omega)) (succ p) (s.1.set p true, s.2) (by simpa using hl) (hsucc p hp) (by simp only; omega)
        rw [ht]
        exact ⟨_, rfl⟩

/-- Enough fuel: one more than there are points. -/
theorem dfs_total {n : Nat} {succ : Nat → List Nat} {wo : Int} (hsucc : ∀ p, p < n → ∀ x ∈ succ p, x < n) {k : Nat} (hk : n < k) {xs : List Nat} (hx : ∀ x ∈ xs, x < n) : ∃ t, foldO (dfsV succ wo k) xs (List.replicate n false, []) = some t :=
  foldO_some (c := n) (fun s x t h1 h2 h3 => dfsV_adds hsucc k s x t h1 h2 h3) (fun s x h1 h2 h3 => dfsV_some hsucc k s x h1 h2 (by omega)) xs _ (by simp) hx (Nat.le_trans (List.count_le_length) (by simp))

end Go.Proofs.YthaampinmelgaaaGreatDoor

/-! Plain laws: the search by depth sees exactly what can be reached. No program here. -/
namespace Go.Proofs.YthaampinmelgaaaGreatDoor

/-- Reached by a path on which every point is allowed. -/
inductive Rch (succ : Nat → List Nat) (ok : Nat → Prop) : Nat → Nat → Prop
  | refl {a : Nat} : ok a → Rch succ ok a a
  | step {a b c : Nat} : Rch succ ok a b → c ∈ succ b → ok c → Rch succ ok a c

theorem Rch.trans {succ : Nat → List Nat} {ok : Nat → Prop} {a b c : Nat} (h : Rch succ ok a b) (k : Rch succ ok b c) : Rch succ ok a c := by
  induction k with
  | refl _ => exact h
  | step _ h1 h2 ih => exact .step ih h1 h2
theorem Rch.head {succ : Nat → List Nat} {ok : Nat → Prop} {a b c : Nat} (h : b ∈ succ a) (ha : ok a) (k : Rch succ ok b c) : Rch succ ok a c := by
  induction k with
  | refl hb => exact .step (.refl ha) h hb
  | step _ h1 h2 ih => exact .step ih h1 h2
theorem Rch.ok_right {succ : Nat → List Nat} {ok : Nat → Prop} {a b : Nat} (h : Rch succ ok a b) : ok b := by cases h <;> assumption
theorem Rch.ok_left {succ : Nat → List Nat} {ok : Nat → Prop} {a b : Nat} (h : Rch succ ok a b) : ok a := by
  induction h with
  | refl h => exact h
  | step _ _ _ ih => exact ih

theorem Rch.mono {succ : Nat → List Nat} {ok ok' : Nat → Prop} {a b : Nat} (hm : ∀ x, ok x → ok' x) (h : Rch succ ok a b) : Rch succ ok' a b := by
  induction h with
  | refl h => exact .refl (hm _ h)
  | step _ h1 h2 ih => exact .step ih h1 (hm _ h2)


/-- What a search says of what it adds: it can be reached, and nothing that it leads to is left out. -/
structure Said (succ : Nat → List Nat) (wo : Int) (xs : List Nat) (s t : List Bool × List Nat) : Prop where
  sound : ∀ x, t.1.getD x false = true → s.1.getD x false = true ∨ ∃ a ∈ xs, Rch succ (fun q => (q : Int) ≠ wo) a x
  closed : ∀ x, t.1.getD x false = true → s.1.getD x false = true ∨ ∀ y ∈ succ x, (y : Int) = wo ∨ t.1.getD y false = true
  start : ∀ a ∈ xs, (a : Int) = wo ∨ t.1.getD a false = true
  keep : ∀ x, s.1.getD x false = true → t.1.getD x false = true

theorem foldO_said {n : Nat} {succ : Nat → List Nat} {wo : Int} {f : List Bool × List Nat → Nat → Option (List Bool × List Nat)} (hlen : ∀ s x t, s.1.length = n → x < n → f s x = some t → t.1.length = n)
    (hf : ∀ s x t, s.1.length = n → x < n → f s x = some t → Said succ wo [x] s t) :
    ∀ (xs : List Nat) (s t : List Bool × List Nat), s.1.length = n → (∀ x ∈ xs, x < n) → foldO f xs s = some t → Said succ wo xs s t
  | [], s, t, _, _, h => by cases h; exact ⟨fun _ h => .inl h, fun _ h => .inl h, fun a ha => by simp at ha, fun _ h => h⟩
  | x :: xs, s, t, hs, hx, h => by
    simp only [foldO] at h
    cases hq : f s x with
    | none => rw [hq] at h; cases h
    | some u =>
      rw [hq] at h
      have h1 := hf s x u hs (hx x List.mem_cons_self) hq
      have h2 := foldO_said hlen hf xs u t (hlen s x u hs (hx x List.mem_cons_self) hq) (fun y hy => hx y (List.mem_cons_of_mem _ hy)) h
      refine ⟨fun y hy => ?_, fun y hy => ?_, fun a ha => ?_, fun y hy => h2.keep y (h1.keep y hy)⟩
      · rcases h2.sound y hy with h3 | ⟨a, ha, hr⟩
        · rcases h1.sound y h3 with h4 | ⟨a, ha, hr⟩
          · exact .inl h4
          · simp at ha; subst ha; exact .inr ⟨a, List.mem_cons_self, hr⟩
        · exact .inr ⟨a, List.mem_cons_of_mem _ ha, hr⟩
      · rcases h2.closed y hy with h3 | h3
        · rcases h1.closed y h3 with h4 | h4
          · exact .inl h4
          · exact .inr fun z hz => (h4 z hz).imp id (h2.keep z)
        · exact .inr h3
      · rcases List.mem_cons.1 ha with rfl | ha
        · exact (h1.start a (by simp)).imp id (h2.keep a)
        · exact h2.start a ha

theorem dfsV_said {n : Nat} {succ : Nat → List Nat} {wo : Int} (hsucc : ∀ p, p < n → ∀ x ∈ succ p, x < n) : ∀ (k : Nat) (s : List Bool × List Nat) (p : Nat) (t : List Bool × List Nat), s.1.length = n → p < n → dfsV succ wo k s p = some t → Said succ wo [p] s t
  | 0, _, _, _, _, _, h => by simp [dfsV] at h
  | k + 1, s, p, t, hs, hp, h => by
    simp only [dfsV] at h
    split at h
    · rename_i hw
      cases h
      exact ⟨fun _ h => .inl h, fun _ h => .inl h, fun a ha => by simp at ha; subst ha; exact .inl hw, fun _ h => h⟩
    · rename_i hw
      split at h
      · rename_i hp2
        cases h
        exact ⟨fun _ h => .inl h, fun _ h => .inl h, fun a ha => by simp at ha; subst ha; exact .inr hp2, fun _ h => h⟩
      · obtain ⟨u, hu, rfl⟩ := Option.map_eq_some_iff.1 h
        have ih := foldO_said (succ := succ) (wo := wo) (fun s x t h1 h2 h3 => (dfsV_length k s x t h3).trans h1) (fun s x t h1 h2 h3 => dfsV_said hsucc k s x t h1 h2 h3) (succ p) (s.1.set p true, s.2) u (by simpa using hs) (hsucc p hp) hu
        have hself : (s.1.set p true).getD p false = true := by rw [getD_set_b, if_pos ⟨rfl, by omega⟩]
        refine ⟨fun y hy => ?_, fun y hy => ?_, fun a ha => ?_, fun y hy => ih.keep y ?_⟩
        · rcases ih.sound y hy with h1 | ⟨a, ha, hr⟩
          · simp only at h1
            rw [getD_set_b] at h1
            split at h1
            · rename_i h3
              obtain ⟨rfl, _⟩ := h3
              exact .inr ⟨p, by simp, .refl hw⟩
            · exact .inl h1
          · exact .inr ⟨p, by simp, Rch.head ha hw hr⟩
        · rcases ih.closed y hy with h1 | h1
          · simp only at h1
            rw [getD_set_b] at h1
            split at h1
            · rename_i h3
              obtain ⟨rfl, _⟩ := h3
              exact .inr fun z hz => ih.start z hz
            · exact .inl h1
          · exact .inr h1
        · simp at ha; subst ha
          exact .inr (ih.keep a hself)
        · simp only
          rw [getD_set_b]
          split
          · rfl
          · exact hy

/-- The search sees exactly what can be reached. -/
theorem dfs_reach {n : Nat} {succ : Nat → List Nat} {wo : Int} (hsucc : ∀ p, p < n → ∀ x ∈ succ p, x < n) {k : Nat} {xs : List Nat} {t : List Bool × List Nat} (hx : ∀ x ∈ xs, x < n) (h : foldO (dfsV succ wo k) xs (List.replicate n false, []) = some t) (x : Nat) :
    t.1.getD x false = true ↔ ∃ a ∈ xs, Rch succ (fun q => (q : Int) ≠ wo) a x := by
  have hs := foldO_said (succ := succ) (wo := wo) (fun s x t h1 h2 h3 => (dfsV_length k s x t h3).trans h1) (fun s x t h1 h2 h3 => dfsV_said hsucc k s x t h1 h2 h3) xs (List.replicate n false, []) t (by simp) hx h
  have hf : ∀ x, (List.replicate n false).getD x false = true → False := fun x h => by rw [List.getD_eq_getElem?_getD, List.getElem?_replicate] at h; split at h <;> cases h
  constructor
  · intro h1
    rcases hs.sound x h1 with h2 | h2
    · exact (hf x h2).elim
    · exact h2
  · rintro ⟨a, ha, hr⟩
    induction hr with
    | refl hok =>
      rcases hs.start _ ha with h1 | h1
      · exact absurd h1 hok
      · exact h1
    | step hr' hm hok ih =>
      rcases hs.closed _ ih with h1 | h1
      · exact (hf _ h1).elim
      · rcases h1 _ hm with h2 | h2
        · exact absurd h2 hok
        · exact h2

end Go.Proofs.YthaampinmelgaaaGreatDoor

/-! Plain laws: the edges of a shape. -/
namespace Go.Proofs.YthaampinmelgaaaGreatDoor

theorem mem_idxs (f : Nat × Nat → Nat) (E : List (Nat × Nat)) (p k : Nat) : k ∈ idxs f E p ↔ ∃ x, E[k]? = some x ∧ f x = p := by
  unfold idxs
  rw [List.mem_filter, List.mem_range]
  constructor
  · rintro ⟨hk, h⟩
    refine ⟨E[k], List.getElem?_eq_getElem hk, ?_⟩
    rw [List.getD_eq_getElem?_getD, List.getElem?_eq_getElem hk] at h
    simpa using h
  · rintro ⟨x, hx, rfl⟩
    obtain ⟨hk, rfl⟩ := List.getElem?_eq_some_iff.1 hx
    refine ⟨hk, ?_⟩
    rw [List.getD_eq_getElem?_getD, hx]
    simp

theorem row_getD (f : Nat × Nat → Nat) (n : Nat) (E : List (Nat × Nat)) (p : Nat) (hp : p < n) : ((List.range n).map (idxs f E)).getD p [] = idxs f E p := by
  rw [List.getD_eq_getElem?_getD, List.getElem?_map, List.getElem?_range hp]; rfl

theorem map_getD' (f : Nat × Nat → Nat) (E : List (Nat × Nat)) (k : Nat) (x : Nat × Nat) (h : E[k]? = some x) : (E.map f).getD k 0 = f x := by
  rw [List.getD_eq_getElem?_getD, List.getElem?_map, h]; rfl

theorem mem_next {n : Nat} {E : List (Nat × Nat)} {p x : Nat} (hp : p < n) : x ∈ (shapeOf n E).next p ↔ (p, x) ∈ E := by
  unfold Shp.next shapeOf
  simp only
  rw [row_getD _ _ _ _ hp, List.mem_map]
  constructor
  · rintro ⟨k, hk, rfl⟩
    obtain ⟨⟨a, b⟩, he, rfl⟩ := (mem_idxs _ _ _ _).1 hk
    rw [map_getD' _ _ _ _ he]
    exact List.mem_of_getElem? he
  · intro h
    obtain ⟨k, hk⟩ := List.mem_iff_getElem?.1 h
    exact ⟨k, (mem_idxs _ _ _ _).2 ⟨_, hk, rfl⟩, map_getD' _ _ _ _ hk⟩

theorem mem_next_rev {n : Nat} {E : List (Nat × Nat)} {p x e : Nat} (hp : p < n) : x ∈ ((shapeOf n E).rev e).next p ↔ (x, p) ∈ E := by
  unfold Shp.next Shp.rev shapeOf
  simp only
  rw [row_getD _ _ _ _ hp, List.mem_map]
  constructor
  · rintro ⟨k, hk, rfl⟩
    obtain ⟨⟨a, b⟩, he, rfl⟩ := (mem_idxs _ _ _ _).1 hk
    rw [map_getD' _ _ _ _ he]
    exact List.mem_of_getElem? he
  · intro h
    obtain ⟨k, hk⟩ := List.mem_iff_getElem?.1 h
    exact ⟨k, (mem_idxs _ _ _ _).2 ⟨_, hk, rfl⟩, map_getD' _ _ _ _ hk⟩

theorem mem_preds {n : Nat} {E : List (Nat × Nat)} {p x : Nat} (hp : p < n) : x ∈ (shapeOf n E).preds p ↔ (x, p) ∈ E := by
  unfold Shp.preds shapeOf
  simp only
  rw [row_getD _ _ _ _ hp, List.mem_map]
  constructor
  · rintro ⟨k, hk, rfl⟩
    obtain ⟨⟨a, b⟩, he, rfl⟩ := (mem_idxs _ _ _ _).1 hk
    rw [map_getD' _ _ _ _ he]
    exact List.mem_of_getElem? he
  · intro h
    obtain ⟨k, hk⟩ := List.mem_iff_getElem?.1 h
    exact ⟨k, (mem_idxs _ _ _ _).2 ⟨_, hk, rfl⟩, map_getD' _ _ _ _ hk⟩

theorem GOk.next_lt {n : Nat} {exit : Int} {E : List (Nat × Nat)} (h : GOk n exit E) : ∀ p, p < n → ∀ x ∈ (shapeOf n E).next p, x < n := fun _ hp _ hx => (h.lt _ ((mem_next hp).1 hx)).2
theorem GOk.next_rev_lt {n : Nat} {exit : Int} {E : List (Nat × Nat)} (h : GOk n exit E) (e : Nat) : ∀ p, p < n → ∀ x ∈ ((shapeOf n E).rev e).next p, x < n := fun _ hp _ hx => (h.lt _ ((mem_next_rev hp).1 hx)).1

end Go.Proofs.YthaampinmelgaaaGreatDoor

/-! Plain laws: the tree that the search for dominators keeps, one step of it. No program here. -/
namespace Go.Proofs.YthaampinmelgaaaGreatDoor

/-- d stands above p, or is p. -/
inductive Anc (A : Nat → Int) : Nat → Nat → Prop
  | refl (p : Nat) : Anc A p p
  | up {p q d : Nat} : A p = (q : Int) → Anc A q d → Anc A p d

theorem Anc.trans {A : Nat → Int} {p q d : Nat} (h : Anc A p q) (k : Anc A q d) : Anc A p d := by
  induction h with
  | refl => exact k
  | up e _ ih => exact .up e (ih k)

/-- Of two points above one, one is above the other. -/
theorem Anc.comp {A : Nat → Int} {p a b : Nat} (h : Anc A p a) (k : Anc A p b) : Anc A a b ∨ Anc A b a := by
  induction h with
  | refl => exact .inl k
  | up e h ih =>
    cases k with
    | refl => exact .inr (.up e h)
    | up e' k =>
      have he := e.symm.trans e'
      have he' := Int.ofNat.inj he
      subst he'
      exact ih k

/-- A tree in which places grow upwards. -/
structure Tree (P A : Nat → Int) (ent : Nat) : Prop where
  entA : A ent = (ent : Int)
  up : ∀ p, 0 ≤ A p → p ≠ ent → ∃ q : Nat, A p = (q : Int) ∧ P p < P q ∧ 0 ≤ A q
  pos : ∀ p, 0 ≤ A p → 0 ≤ P p
  neg : ∀ p, P p < 0 → A p = -1

/-- What the search by depth tells of the places. -/
structure DG (succ preds : Nat → List Nat) (P : Nat → Int) (ent : Nat) : Prop where
  inj : ∀ p q, 0 ≤ P p → P p = P q → p = q
  max : ∀ p, P p ≤ P ent
  entP : 0 ≤ P ent
  sp : ∀ p q, 0 ≤ P p → (q ∈ preds p ↔ p ∈ succ q)
  reach : ∀ p, 0 ≤ P p ↔ Rch succ (fun _ => True) ent p
  par : ∀ p, 0 ≤ P p → p ≠ ent → ∃ f ∈ preds p, P p < P f

section
variable {succ preds : Nat → List Nat} {P A : Nat → Int} {ent : Nat}

theorem Tree.anc_le (t : Tree P A ent) {p d : Nat} (h : Anc A p d) : 0 ≤ A p → P p ≤ P d ∧ 0 ≤ A d := by
  induction h with
  | refl => exact fun h => ⟨Int.le_refl _, h⟩
  | @up p q d e h ih =>
    intro hp
    by_cases hpe : p = ent
    · subst hpe
      have hq := Int.ofNat.inj (e.symm.trans t.entA)
      subst hq
      exact ih hp
    · obtain ⟨q', e', hlt, hq⟩ := t.up p hp hpe
      have hqq := Int.ofNat.inj (e.symm.trans e')
      subst hqq
      have := ih hq
      exact ⟨by omega, this.2⟩

theorem Tree.anc_lt (t : Tree P A ent) (g : DG succ preds P ent) {p d : Nat} (h : Anc A p d) (hp : 0 ≤ A p) (hne : p ≠ d) : P p < P d := by
  have h1 := t.anc_le h hp
  have h2 := t.pos p hp
  rcases Int.lt_or_eq_of_le h1.1 with h3 | h3
  · exact h3
  · exact absurd (g.inj _ _ h2 h3) hne

theorem Tree.antisymm (t : Tree P A ent) (g : DG succ preds P ent) {p d : Nat} (h : Anc A p d) (hp : 0 ≤ A p) (k : Anc A d p) : p = d := by
  have h1 := t.anc_le h hp
  have h2 := t.anc_le k h1.2
  exact g.inj _ _ (t.pos p hp) (by omega)

theorem Tree.ent_only (t : Tree P A ent) {p d : Nat} (h : Anc A p d) : p = ent → d = ent := by
  induction h with
  | refl => exact id
  | @up p q d e h ih =>
    intro hp
    subst hp
    exact ih (Int.ofNat.inj (e.symm.trans t.entA))

theorem Tree.to_ent (t : Tree P A ent) (g : DG succ preds P ent) : ∀ (d : Nat) (p : Nat), (P ent - P p).toNat ≤ d → 0 ≤ A p → Anc A p ent := by
  intro d
  induction d with
  | zero =>
    intro p h hp
    have := g.max p
    have h2 := g.inj p ent (t.pos p hp) (by omega)
    subst h2
    exact .refl _
  | succ d ih =>
    intro p h hp
    by_cases hpe : p = ent
    · subst hpe; exact .refl _
    · obtain ⟨q, e, hlt, hq⟩ := t.up p hp hpe
      have := g.max q
      exact .up e (ih q (by omega) hq)

/-- The nearest point above all of a set, or -1. -/
def BS (A : Nat → Int) (S : Nat → Prop) (b : Int) : Prop :=
  (b = -1 ∧ ∀ q, ¬ S q) ∨ ∃ m : Nat, b = (m : Int) ∧ 0 ≤ A m ∧ (∃ q, S q) ∧ (∀ q, S q → Anc A q m) ∧ ∀ d, (∀ q, S q → Anc A q d) → Anc A m d

theorem BS.congr {S T : Nat → Prop} {b : Int} (h : BS A S b) (hst : ∀ q, S q ↔ T q) : BS A T b := by
  have : S = T := funext fun q => propext (hst q)
  rwa [this] at h

/-- What holds of the tree ahead of the point whose place is c. -/
structure DInv (succ preds : Nat → List Nat) (P : Nat → Int) (ent : Nat) (c : Int) (A : Nat → Int) : Prop where
  tree : Tree P A ent
  q1 : ∀ p, c < P p → 0 ≤ A p
  q3 : (∀ p, 0 ≤ P p → 0 ≤ A p) ∨ (∀ p, 0 ≤ A p → c < P p)
  m : ∀ p, 0 ≤ A p → p ≠ ent → ∀ a : Nat, A p = (a : Int) → ∀ d, (∀ q ∈ preds p, 0 ≤ A q → Anc A q d) → Anc A a d
  f : ∀ p, 0 ≤ A p → p ≠ ent → ∀ a : Nat, A p = (a : Int) → (c < P p ∨ P a ≤ c) → ∀ f ∈ preds p, P p < P f → Anc A f a
  path : ∀ p, 0 ≤ A p → p ≠ ent → ∀ a : Nat, A p = (a : Int) → ∀ d, P a < P d → Rch succ (fun q => q ≠ d) a p
  dom : ∀ u, 0 ≤ A u → ∀ d, ¬ Rch succ (fun q => q ≠ d) ent u → Anc A u d

/-- The tree with one point's place turned. -/
def updA (A : Nat → Int) (w : Nat) (b : Int) : Nat → Int := fun x => if x = w then b else A x
theorem updA_same (w : Nat) (b : Int) : updA A w b w = b := by simp [updA]
theorem updA_ne {w x : Nat} (b : Int) (h : x ≠ w) : updA A w b x = A x := by simp [updA, h]

theorem upd_of_not {w u d : Nat} {b : Int} (h : Anc A u d) : ¬ Anc A u w → Anc (updA A w b) u d := by
  induction h with
  | refl => exact fun _ => .refl _
  | @up p q d e h ih =>
    intro hn
    have hpw : p ≠ w := fun e' => hn (e' ▸ .refl _)
    exact .up ((updA_ne b hpw).trans e) (ih fun k => hn (.up e k))

theorem of_upd_not {w u d : Nat} {b : Int} (h : Anc (updA A w b) u d) : ¬ Anc A u w → Anc A u d := by
  induction h with
  | refl => exact fun _ => .refl _
  | @up p q d e h ih =>
    intro hn
    have hpw : p ≠ w := fun e' => hn (e' ▸ .refl _)
    have e2 := (updA_ne (A := A) b hpw).symm.trans e
    exact .up e2 (ih fun k => hn (.up e2 k))

theorem upd_low (t : Tree P A ent) (g : DG succ preds P ent) {w u d : Nat} {b : Int} (h : Anc A u d) : Anc A d w → 0 ≤ A u → Anc (updA A w b) u d := by
  induction h with
  | refl => exact fun _ _ => .refl _
  | @up p q d e h ih =>
    intro hd hp
    have hpd : Anc A p d := .up e h
    by_cases hpw : p = w
    · subst hpw
      have := t.antisymm g hpd hp hd
      subst this
      exact .refl _
    · have hq : 0 ≤ A q := (t.anc_le (.up e (.refl q)) hp).2
      exact .up ((updA_ne b hpw).trans e) (ih hd hq)

theorem chain_path {c : Int} (g : DG succ preds P ent) (h : DInv succ preds P ent c A) {u v d : Nat} (k : Anc A u v) : 0 ≤ A u → P v < P d → Rch succ (fun q => q ≠ d) v u := by
  induction k with
  | refl v => exact fun _ hd => .refl (by rintro rfl; omega)
  | @up p q v e k ih =>
    intro hp hd
    have h1 := h.tree.anc_le (.up e (.refl q)) hp
    have h2 := h.tree.anc_le k h1.2
    by_cases hpe : p = ent
    · subst hpe
      have := g.max d
      omega
    · exact (ih h1.2 hd).trans (h.path p hp hpe q e d (by omega))

/-- One point taken on. -/
theorem DInv.step {c : Int} (g : DG succ preds P ent) (h : DInv succ preds P ent c A) {w : Nat} {b : Int} (hw : P w = c) (hc : 0 ≤ c) (hwe : w ≠ ent) (hb : BS A (fun q => q ∈ preds w ∧ 0 ≤ A q) b) :
    DInv succ preds P ent (c - 1) (updA A w b) ∧ ∃ m : Nat, b = (m : Int) ∧ P w < P m ∧ ∀ a : Nat, A w = (a : Int) → Anc A a m := by
  have t := h.tree
  obtain ⟨f, hf, hfl⟩ := g.par w (by omega) hwe
  have hfA : 0 ≤ A f := h.q1 f (by omega)
  rcases hb with ⟨_, hno⟩ | ⟨m, rfl, hm0, -, hall, hlow⟩
  · exact absurd ⟨hf, hfA⟩ (hno f)
  have hfm := hall f ⟨hf, hfA⟩
  have hwm : P w < P m := by have := t.anc_le hfm hfA; omega
  have hmw : m ≠ w := by rintro rfl; omega
  have hall' : ∀ q ∈ preds w, 0 ≤ A q → Anc A q m := fun q hq hq0 => hall q ⟨hq, hq0⟩
  have hlow' : ∀ d, (∀ q ∈ preds w, 0 ≤ A q → Anc A q d) → Anc A m d := fun d hd => hlow d fun q hq => hd q hq.1 hq.2
  -- what is above w keeps its way
  have hnot : ∀ x, 0 ≤ A x → P w < P x → ¬ Anc A x w := fun x hx hlt k => by have := (t.anc_le k hx).1; omega
  have ham : ∀ a : Nat, A w = (a : Int) → Anc A a m := fun a ha => h.m w (by omega) hwe a ha m hall'
  have hA'w : updA A w (m : Int) w = (m : Int) := updA_same w _
  have hA' : ∀ x, x ≠ w → updA A w (m : Int) x = A x := fun x hx => updA_ne _ hx
  -- nothing new is above anything
  have shrink : ∀ q d, Anc (updA A w (m : Int)) q d → 0 ≤ A q → Anc A q d := by
    intro q d k
    induction k with
    | refl => exact fun _ => .refl _
    | @up p q d e k ih =>
      intro hp
      by_cases hpw : p = w
      · subst hpw
        rw [hA'w] at e
        have e2 := Int.ofNat.inj e
        subst e2
        obtain ⟨a, ha⟩ : ∃ a : Nat, A p = (a : Int) := ⟨(A p).toNat, by omega⟩
        exact .up ha ((ham a ha).trans (ih hm0))
      · rw [hA' p hpw] at e
        exact .up e (ih (t.anc_le (.up e (.refl q)) hp).2)
  have keep : ∀ q, q ≠ w → 0 ≤ updA A w (m : Int) q → 0 ≤ A q := fun q hq h0 => by rw [hA' q hq] at h0; exact h0
  have more : ∀ q, 0 ≤ A q → 0 ≤ updA A w (m : Int) q := fun q h0 => by
    by_cases hq : q = w
    · subst hq; rw [hA'w]; omega
    · rw [hA' q hq]; exact h0
  have unw : ∀ q, P q ≤ c → q ≠ w → P q < c := fun q h1 h2 => by
    rcases Int.lt_or_eq_of_le h1 with h3 | h3
    · exact h3
    · exact absurd (g.inj w q (by omega) (by omega)).symm h2
  refine ⟨⟨⟨?_, ?_, ?_, ?_⟩, ?_, ?_, ?_, ?_, ?_, ?_⟩, m, rfl, hwm, ham⟩
  · rw [hA' ent (Ne.symm hwe)]; exact t.entA
  · intro p hp hpe
    by_cases hpw : p = w
    · subst hpw
      exact ⟨m, hA'w, hwm, more m hm0⟩
    · obtain ⟨q, e, h1, h2⟩ := t.up p (keep p hpw hp) hpe
      exact ⟨q, (hA' p hpw).trans e, h1, more q h2⟩
  · intro p hp
    by_cases hpw : p = w
    · subst hpw; omega
    · exact t.pos p (keep p hpw hp)
  · intro p hp
    rw [hA' p (by rintro rfl; omega)]
    exact t.neg p hp
  · intro p hp
    by_cases hpw : p = w
    · subst hpw; rw [hA'w]; omega
    · refine more p (h.q1 p ?_)
      rcases Int.lt_or_le c (P p) with h1 | h1
      · exact h1
      · have := unw p h1 hpw; omega
  · rcases h.q3 with h1 | h1
    · exact .inl fun p hp => more p (h1 p hp)
    · refine .inr fun p hp => ?_
      by_cases hpw : p = w
      · subst hpw; omega
      · have := h1 p (keep p hpw hp); omega
  · -- m
    intro p hp hpe a ha d hd
    by_cases hpw : p = w
    · subst hpw
      rw [hA'w] at ha
      have e2 := Int.ofNat.inj ha
      subst e2
      refine upd_of_not (hlow' d fun q hq hq0 => shrink q d (hd q hq (more q hq0)) hq0) (hnot m hm0 hwm)
    · rw [hA' p hpw] at ha
      have hp0 := keep p hpw hp
      have k1 : Anc A a d := h.m p hp0 hpe a ha d fun q hq hq0 => shrink q d (hd q hq (more q hq0)) hq0
      have ha0 := t.anc_le (.up ha (.refl a)) hp0
      by_cases haw : Anc A a w
      · have hPaw := (t.anc_le haw ha0.2).1
        have hpa : P p < P a := by
          obtain ⟨q, e, h1, h2⟩ := t.up p hp0 hpe
          have := Int.ofNat.inj (e.symm.trans ha)
          subst this
          exact h1
        obtain ⟨f2, hf2, hfl2⟩ := g.par p (t.pos p hp0) hpe
        have kf := h.f p hp0 hpe a ha (.inr (by omega)) f2 hf2 hfl2
        have hf20 : 0 ≤ A f2 := by
          rcases h.q3 with h3 | h3
          · exact h3 f2 (by have := t.pos p hp0; omega)
          · exact h.q1 f2 (by have := h3 p hp0; omega)
        have kf' : Anc (updA A w (m : Int)) f2 a := upd_low t g kf haw hf20
        have kd' := hd f2 hf2 (more f2 hf20)
        rcases kf'.comp kd' with h3 | h3
        · exact h3
        · have h4 := shrink d a h3 (t.anc_le k1 ha0.2).2
          have := t.antisymm g k1 ha0.2 h4
          subst this
          exact .refl _
      · exact upd_of_not k1 haw
  · -- f
    intro p hp hpe a ha hor f2 hf2 hfl2
    by_cases hpw : p = w
    · subst hpw
      rw [hA'w] at ha
      have e2 := Int.ofNat.inj ha
      subst e2
      have hf20 : 0 ≤ A f2 := h.q1 f2 (by omega)
      exact upd_of_not (hall' f2 hf2 hf20) (hnot f2 hf20 hfl2)
    · rw [hA' p hpw] at ha
      have hp0 := keep p hpw hp
      have hf20 : 0 ≤ A f2 := by
        rcases h.q3 with h3 | h3
        · exact h3 f2 (by have := t.pos p hp0; omega)
        · exact h.q1 f2 (by have := h3 p hp0; omega)
      rcases Int.lt_or_le c (P p) with h1 | h1
      · exact upd_of_not (h.f p hp0 hpe a ha (.inl h1) f2 hf2 hfl2) (hnot f2 hf20 (by omega))
      · have h2 := unw p h1 hpw
        have h3 : P a ≤ c - 1 := by omega
        have k1 := h.f p hp0 hpe a ha (.inr (by omega)) f2 hf2 hfl2
        by_cases hfw : Anc A f2 w
        · refine upd_low t g k1 ?_ hf20
          rcases k1.comp hfw with h4 | h4
          · exact h4
          · have := (t.anc_le h4 (t.anc_le hfw hf20).2).1
            omega
        · exact upd_of_not k1 hfw
  · -- path
    intro p hp hpe a ha d hd
    by_cases hpw : p = w
    · subst hpw
      rw [hA'w] at ha
      have e2 := Int.ofNat.inj ha
      subst e2
      refine .step (chain_path g h hfm hfA hd) ((g.sp p f (by omega)).1 hf) ?_
      rintro rfl
      omega
    · rw [hA' p hpw] at ha
      exact h.path p (keep p hpw hp) hpe a ha d hd
  · -- dom
    have hdw : ∀ d, ¬ Rch succ (fun q => q ≠ d) ent w → d ≠ w → Anc A m d := fun d hd hne => hlow' d fun q hq hq0 => h.dom q hq0 d fun k => hd (.step k ((g.sp w q (by omega)).1 hq) (Ne.symm hne))
    have hupw : ∀ d, ¬ Rch succ (fun q => q ≠ d) ent w → Anc (updA A w (m : Int)) w d := fun d hd => by
      by_cases hne : d = w
      · subst hne; exact .refl _
      · exact .up hA'w (upd_of_not (hdw d hd hne) (hnot m hm0 hwm))
    intro u hu d hd
    by_cases huw : u = w
    · subst huw; exact hupw d hd
    · have hu0 := keep u huw hu
      have k1 := h.dom u hu0 d hd
      by_cases hau : Anc A u w
      · have hw0 := (t.anc_le hau hu0).2
        rcases k1.comp hau with h4 | h4
        · exact upd_low t g k1 h4 hu0
        · by_cases hne : w = d
          · subst hne; exact upd_low t g hau (.refl _) hu0
          · have hlt := t.anc_lt g h4 hw0 hne
            exact (upd_low t g hau (.refl _) hu0).trans (hupw d fun k => hd (k.trans (chain_path g h hau hu0 hlt)))
      · exact upd_of_not k1 hau

/-- At a tree that no step turns, what stands above a point dominates it. -/
theorem fix_dom (t : Tree P A ent) (g : DG succ preds P ent) (hall : ∀ p, 0 ≤ P p → 0 ≤ A p) (hfix : ∀ w, 0 ≤ P w → w ≠ ent → BS A (fun q => q ∈ preds w ∧ 0 ≤ A q) (A w)) {d v : Nat} (h : Rch succ (fun q => q ≠ d) ent v) : ¬ Anc A v d := by
  induction h with
  | refl hok =>
    intro k
    exact hok (t.ent_only k rfl).symm
  | @step u v hr hm hok ih =>
    intro k
    have hu : 0 ≤ P u := (g.reach u).2 (hr.mono fun _ _ => trivial)
    have hv : 0 ≤ P v := (g.reach v).2 (.step (hr.mono fun _ _ => trivial) hm trivial)
    by_cases hve : v = ent
    · exact hok (hve.trans (t.ent_only k hve).symm)
    · rcases hfix v hv hve with ⟨_, hno⟩ | ⟨a, ha, -, -, hS, -⟩
      · exact hno u ⟨(g.sp v u hv).2 hm, hall u hu⟩
      · have k2 : Anc A a d := by
          cases k with
          | refl => exact absurd rfl hok
          | up e k =>
            have e2 := Int.ofNat.inj (e.symm.trans ha)
            subst e2
            exact k
        exact ih ((hS u ⟨(g.sp v u hv).2 hm, hall u hu⟩).trans k2)
end
end Go.Proofs.YthaampinmelgaaaGreatDoor

/-! Plain laws: the sweeps of the search for dominators come to an end, at the tree of the dominators. No program here. -/
namespace Go.Proofs.YthaampinmelgaaaGreatDoor

theorem nodup_inj {l : List Nat} (hn : l.Nodup) {i j : Nat} (hi : i < l.length) (hj : j < l.length) (h : l[i] = l[j]) : i = j :=
  (List.getElem?_inj hi hn).1 (by rw [List.getElem?_eq_getElem hi, List.getElem?_eq_getElem hj, h])

/-- The places are the order's. -/
theorem placesOf_at (n : Nat) (ord : List Nat) (hn : ord.Nodup) (hlt : ∀ x ∈ ord, x < n) : ∀ k, k ≤ ord.length →
    (∀ (i : Nat) (_ : i < k) (h : i < ord.length), getI (placesOf n (ord.take k)) ord[i] = (i : Int)) ∧ ∀ x, x ∉ ord.take k → getI (placesOf n (ord.take k)) x = -1
  | 0, _ => ⟨fun i hi => by omega, fun x _ => by
      unfold placesOf getI
      rw [List.take_zero, List.zipIdx_nil, List.foldl_nil, List.getD_eq_getElem?_getD, List.getElem?_replicate]
      split <;> rfl⟩
  | k + 1, h => by
    obtain ⟨h1, h2⟩ := placesOf_at n ord hn hlt k (by omega)
    have hk : k < ord.length := by omega
    rw [placesOf_succ n ord k hk]
    have hl := placesOf_length n (ord.take k)
    refine ⟨fun i hi hio => ?_, fun x hx => ?_⟩
    · rw [getI_set]
      by_cases e : i = k
      · subst e
        rw [if_pos ⟨rfl, by rw [hl]; exact hlt _ (List.getElem_mem _)⟩]
      · rw [if_neg (fun e2 => e (nodup_inj hn hio hk e2.1.symm))]
        exact h1 i (by omega) hio
    · rw [List.take_succ_eq_append_getElem hk, List.mem_append, not_or] at hx
      rw [getI_set, if_neg (fun e2 => hx.2 (by simp [e2.1]))]
      exact h2 x hx.1

theorem place_get {n : Nat} {ord : List Nat} (hn : ord.Nodup) (hlt : ∀ x ∈ ord, x < n) {i : Nat} (h : i < ord.length) : getI (placesOf n ord) ord[i] = (i : Int) := by
  have := (placesOf_at n ord hn hlt ord.length (Nat.le_refl _)).1 i h h
  rwa [List.take_length] at this
theorem place_no {n : Nat} {ord : List Nat} (hn : ord.Nodup) (hlt : ∀ x ∈ ord, x < n) {x : Nat} (h : x ∉ ord) : getI (placesOf n ord) x = -1 := by
  have := (placesOf_at n ord hn hlt ord.length (Nat.le_refl _)).2 x (by rwa [List.take_length])
  rwa [List.take_length] at this
theorem place_mem {n : Nat} {ord : List Nat} (hn : ord.Nodup) (hlt : ∀ x ∈ ord, x < n) {x : Nat} : 0 ≤ getI (placesOf n ord) x ↔ x ∈ ord := by
  constructor
  · intro h
    by_cases hx : x ∈ ord
    · exact hx
    · rw [place_no hn hlt hx] at h; omega
  · intro h
    obtain ⟨i, hi, rfl⟩ := List.mem_iff_getElem.1 h
    rw [place_get hn hlt hi]; omega
theorem place_lt {n : Nat} {ord : List Nat} (hn : ord.Nodup) (hlt : ∀ x ∈ ord, x < n) (x : Nat) (h0 : 0 < ord.length) : getI (placesOf n ord) x ≤ (ord.length : Int) - 1 := by
  by_cases hx : x ∈ ord
  · obtain ⟨i, hi, rfl⟩ := List.mem_iff_getElem.1 hx
    rw [place_get hn hlt hi]; omega
  · rw [place_no hn hlt hx]; omega
theorem place_inj {n : Nat} {ord : List Nat} (hn : ord.Nodup) (hlt : ∀ x ∈ ord, x < n) {p q : Nat} (h0 : 0 ≤ getI (placesOf n ord) p) (h : getI (placesOf n ord) p = getI (placesOf n ord) q) : p = q := by
  have hq : q ∈ ord := (place_mem hn hlt).1 (h ▸ h0)
  have hp := (place_mem hn hlt).1 h0
  obtain ⟨i, hi, rfl⟩ := List.mem_iff_getElem.1 hp
  obtain ⟨j, hj, rfl⟩ := List.mem_iff_getElem.1 hq
  rw [place_get hn hlt hi, place_get hn hlt hj] at h
  have : i = j := by omega
  subst this
  rfl

section
variable {succ preds : Nat → List Nat} {ent : Nat} {pl ab : List Int}

/-- The two fingers meet at the nearest point above both. -/
theorem meet_spec (g : DG succ preds (getI pl) ent) (t : Tree (getI pl) (getI ab) ent) : ∀ (k p q : Nat), 0 ≤ getI ab p → 0 ≤ getI ab q → (getI pl ent - getI pl p) + (getI pl ent - getI pl q) < (k : Int) →
    ∃ m, meetF pl ab k p q = some m ∧ 0 ≤ getI ab m ∧ Anc (getI ab) p m ∧ Anc (getI ab) q m ∧ ∀ d, Anc (getI ab) p d → Anc (getI ab) q d → Anc (getI ab) m d
  | 0, p, q, hp, hq, hk => by have := g.max p; have := g.max q; omega
  | k + 1, p, q, hp, hq, hk => by
    unfold meetF
    by_cases hpq : p = q
    · subst hpq
      rw [if_pos rfl]
      exact ⟨p, rfl, hp, .refl _, .refl _, fun d h _ => h⟩
    · rw [if_neg hpq]
      by_cases hlt : getI pl p < getI pl q
      · rw [if_pos hlt, if_pos hp]
        have hpe : p ≠ ent := by rintro rfl; have := g.max q; omega
        obtain ⟨p', e, h1, h2⟩ := t.up p hp hpe
        have e' : (getI ab p).toNat = p' := by omega
        rw [e']
        obtain ⟨m, hm, hm0, ha, hb, hc⟩ := meet_spec g t k p' q h2 hq (by omega)
        refine ⟨m, hm, hm0, .up e ha, hb, fun d hd1 hd2 => hc d ?_ hd2⟩
        cases hd1 with
        | refl => have := (t.anc_le hd2 hq).1; omega
        | up e2 h => have e3 := Int.ofNat.inj (e2.symm.trans e); subst e3; exact h
      · rw [if_neg hlt, if_pos hq]
        have hql : getI pl q < getI pl p := by
          rcases Int.lt_trichotomy (getI pl p) (getI pl q) with h | h | h
          · exact absurd h hlt
          · exact absurd (g.inj p q (t.pos p hp) h) hpq
          · exact h
        have hqe : q ≠ ent := by rintro rfl; have := g.max p; omega
        obtain ⟨q', e, h1, h2⟩ := t.up q hq hqe
        have e' : (getI ab q).toNat = q' := by omega
        rw [e']
        obtain ⟨m, hm, hm0, ha, hb, hc⟩ := meet_spec g t k p q' hp h2 (by omega)
        refine ⟨m, hm, hm0, ha, .up e hb, fun d hd1 hd2 => hc d hd1 ?_⟩
        cases hd2 with
        | refl => have := (t.anc_le hd1 hp).1; omega
        | up e2 h => have e3 := Int.ofNat.inj (e2.symm.trans e); subst e3; exact h

theorem best_fold (g : DG succ preds (getI pl) ent) (t : Tree (getI pl) (getI ab) ent) {k : Nat} (hk : 2 * getI pl ent + 2 < (k : Int)) : ∀ (qs : List Nat) (b : Int) (S : Nat → Prop), BS (getI ab) S b →
    ∃ b', foldO (bestStep pl ab k) qs b = some b' ∧ BS (getI ab) (fun q => S q ∨ (q ∈ qs ∧ 0 ≤ getI ab q)) b'
  | [], b, S, h => ⟨b, rfl, h.congr fun q => by simp⟩
  | x :: xs, b, S, h => by
    have hstep : ∃ b1, bestStep pl ab k b x = some b1 ∧ BS (getI ab) (fun q => S q ∨ (q = x ∧ 0 ≤ getI ab q)) b1 := by
      unfold bestStep
      by_cases h1 : getI pl x < 0 ∨ getI ab x < 0
      · rw [if_pos h1]
        have hx : getI ab x < 0 := by
          rcases h1 with h1 | h1
          · rcases Int.lt_or_le (getI ab x) 0 with h2 | h2
            · exact h2
            · have := t.pos x h2; omega
          · exact h1
        refine ⟨b, rfl, h.congr fun q => ⟨.inl, ?_⟩⟩
        rintro (h2 | ⟨rfl, h2⟩)
        · exact h2
        · omega
      · rw [if_neg h1]
        have hx : 0 ≤ getI ab x := by omega
        rcases h with ⟨rfl, hno⟩ | ⟨m, rfl, hm0, hex, hall, hlow⟩
        · rw [if_pos (by omega)]
          refine ⟨(x : Int), rfl, .inr ⟨x, rfl, hx, ⟨x, .inr ⟨rfl, hx⟩⟩, ?_, fun d hd => hd x (.inr ⟨rfl, hx⟩)⟩⟩
          rintro q (h2 | ⟨rfl, h2⟩)
          · exact absurd h2 (hno q)
          · exact .refl _
        · rw [if_neg (by omega)]
          have hpm := t.pos m hm0
          have hpx := t.pos x hx
          obtain ⟨r, hr, hr0, ha, hb, hc⟩ := meet_spec g t k m x hm0 hx (by omega)
          rw [Int.toNat_natCast, hr]
          refine ⟨(r : Int), rfl, .inr ⟨r, rfl, hr0, ⟨x, .inr ⟨rfl, hx⟩⟩, ?_, fun d hd => hc d (hlow d fun q hq => hd q (.inl hq)) (hd x (.inr ⟨rfl, hx⟩))⟩⟩
          rintro q (h2 | ⟨rfl, h2⟩)
          · exact (hall q h2).trans ha
          · exact hb
    obtain ⟨b1, hb1, hs1⟩ := hstep
    obtain ⟨b', hb', hs'⟩ := best_fold g t hk xs b1 _ hs1
    refine ⟨b', by simp only [foldO, hb1, Option.bind_some]; exact hb', hs'.congr fun q => ?_⟩
    simp only [List.mem_cons]
    constructor
    · rintro ((h1 | ⟨rfl, h1⟩) | ⟨h1, h2⟩)
      · exact .inl h1
      · exact .inr ⟨.inl rfl, h1⟩
      · exact .inr ⟨.inr h1, h2⟩
    · rintro (h1 | ⟨rfl | h1, h2⟩)
      · exact .inl (.inl h1)
      · exact .inl (.inr ⟨rfl, h2⟩)
      · exact .inr ⟨h1, h2⟩

theorem best_spec (g : DG succ preds (getI pl) ent) (t : Tree (getI pl) (getI ab) ent) {k : Nat} (hk : 2 * getI pl ent + 2 < (k : Int)) (qs : List Nat) :
    ∃ b, foldO (bestStep pl ab k) qs (-1) = some b ∧ BS (getI ab) (fun q => q ∈ qs ∧ 0 ≤ getI ab q) b := by
  obtain ⟨b, h, hs⟩ := best_fold g t hk qs (-1) (fun _ => False) (.inl ⟨rfl, fun _ h => h⟩)
  exact ⟨b, h, hs.congr fun q => by simp⟩
end

theorem sum_le {f h : Nat → Nat} : ∀ (l : List Nat), (∀ x ∈ l, f x ≤ h x) → (l.map f).sum ≤ (l.map h).sum
  | [], _ => Nat.le_refl _
  | x :: xs, hl => by
    have := sum_le xs fun y hy => hl y (List.mem_cons_of_mem _ hy)
    have := hl x List.mem_cons_self
    simp only [List.map_cons, List.sum_cons]
    omega
theorem sum_lt {f h : Nat → Nat} : ∀ (l : List Nat), (∀ x ∈ l, f x ≤ h x) → (∃ x ∈ l, f x < h x) → (l.map f).sum < (l.map h).sum
  | [], _, ⟨_, hx, _⟩ => by cases hx
  | x :: xs, hl, ⟨y, hy, hlt⟩ => by
    have h1 := sum_le xs fun y hy => hl y (List.mem_cons_of_mem _ hy)
    have h2 := hl x List.mem_cons_self
    simp only [List.map_cons, List.sum_cons]
    rcases List.mem_cons.1 hy with rfl | hy
    · omega
    · have := sum_lt xs (fun y hy => hl y (List.mem_cons_of_mem _ hy)) ⟨y, hy, hlt⟩
      omega
theorem sum_const_le {f : Nat → Nat} {c : Nat} : ∀ (l : List Nat), (∀ x ∈ l, f x ≤ c) → (l.map f).sum ≤ l.length * c
  | [], _ => by simp
  | x :: xs, hl => by
    have h1 := sum_const_le xs fun y hy => hl y (List.mem_cons_of_mem _ hy)
    have h2 := hl x List.mem_cons_self
    simp only [List.map_cons, List.sum_cons, List.length_cons, Nat.succ_mul]
    omega

/-- How far the tree has come. -/
def muX (pl : List Int) (A : Nat → Int) (x : Nat) : Nat := if 0 ≤ A x then (getI pl (A x).toNat + 2).toNat else 0
def mu (pl : List Int) (n : Nat) (A : Nat → Int) : Nat := ((List.range n).map (muX pl A)).sum

theorem getI_upd {ab : List Int} {w : Nat} {b : Int} (hw : w < ab.length) : getI (ab.set w b) = updA (getI ab) w b := by
  funext x
  rw [getI_set]
  unfold updA
  by_cases h : w = x
  · subst h; rw [if_pos ⟨rfl, hw⟩, if_pos rfl]
  · rw [if_neg (fun e => h e.1), if_neg (fun e => h e.symm)]

theorem upd_self {A : Nat → Int} {w : Nat} {b : Int} (h : b = A w) : updA A w b = A := by
  funext x
  unfold updA
  split
  · rename_i e; rw [h, e]
  · rfl

section
variable {s : Shp} {ord : List Nat} {k : Nat}

theorem mu_step {succ preds : Nat → List Nat} {P : Nat → Int} {ent : Nat} {pl : List Int} (hP : P = getI pl) {n : Nat} {A : Nat → Int} {w m : Nat} (hw : w < n) (hwm : P w < P m) (hw0 : 0 ≤ P w) (t : Tree P A ent) (g : DG succ preds P ent) (hne : (m : Int) ≠ A w) (ham : ∀ a : Nat, A w = (a : Int) → Anc A a m) (hwe : w ≠ ent) :
    mu pl n A < mu pl n (updA A w (m : Int)) := by
  subst hP
  have hmw : muX pl A w < muX pl (updA A w (m : Int)) w := by
    have e1 : muX pl (updA A w (m : Int)) w = (getI pl m + 2).toNat := by
      unfold muX
      rw [updA_same, if_pos (by omega), Int.toNat_natCast]
    rw [e1]
    unfold muX
    split
    · rename_i h0
      obtain ⟨a, ha, h1, h2⟩ := t.up w h0 hwe
      rw [ha, Int.toNat_natCast]
      have hne' : a ≠ m := by rintro rfl; exact hne ha.symm
      have := t.anc_lt g (ham a ha) h2 hne'
      omega
    · omega
  refine sum_lt _ (fun x _ => ?_) ⟨w, by simpa using hw, hmw⟩
  by_cases h : x = w
  · subst h; omega
  · unfold muX
    rw [updA_ne _ h]
    exact Nat.le_refl _

/-- One sweep over the first m places, from above. -/
theorem sweep_spec (pl : List Int) (hpl : pl = placesOf s.n ord) (hn : ord.Nodup) (hlt : ∀ x ∈ ord, x < s.n) {succ : Nat → List Nat} {ent : Nat} (g : DG succ s.preds (getI pl) ent) (hent : getI pl ent = (ord.length : Int) - 1) (hk : 2 * ord.length < k) :
    ∀ (m : Nat), m + 1 ≤ ord.length → ∀ (ab : List Int) (fl : Bool), ab.length = s.n → DInv succ s.preds (getI pl) ent ((m : Int) - 1) (getI ab) →
      ∃ ab' fl', foldO (domStep s pl k) (ord.take m).reverse (ab, fl) = some (ab', fl') ∧ ab'.length = s.n ∧ DInv succ s.preds (getI pl) ent (-1) (getI ab') ∧
        (fl' = false → fl = false ∧ ab' = ab ∧ ∀ i, i < m → ∀ w, ord[i]? = some w → BS (getI ab) (fun q => q ∈ s.preds w ∧ 0 ≤ getI ab q) (getI ab w)) ∧
        mu pl s.n (getI ab) ≤ mu pl s.n (getI ab') ∧ (fl' = true → fl = true ∨ mu pl s.n (getI ab) < mu pl s.n (getI ab'))
  | 0, _, ab, fl, hl, h => ⟨ab, fl, rfl, hl, h, fun e => ⟨e, rfl, fun i hi => by omega⟩, Nat.le_refl _, fun e => .inl e⟩
  | m + 1, hm, ab, fl, hl, h => by
    have hmo : m < ord.length := by omega
    have hpw : getI pl ord[m] = (m : Int) := by rw [hpl]; exact place_get hn hlt hmo
    have hwn : ord[m] < s.n := hlt _ (List.getElem_mem hmo)
    have hwe : ord[m] ≠ ent := by intro e; rw [e, hent] at hpw; omega
    rw [List.take_succ_eq_append_getElem hmo, List.reverse_append, List.reverse_cons, List.reverse_nil, List.nil_append, List.cons_append, List.nil_append]
    obtain ⟨b, hb, hbs⟩ := best_spec g h.tree (k := k) (by omega) (s.preds ord[m])
    obtain ⟨hi, mm, rfl, hwm, ham⟩ := h.step g (w := ord[m]) (by omega) (by omega) hwe hbs
    rw [show ((m + 1 : Nat) : Int) - 1 - 1 = (m : Int) - 1 by omega] at hi
    by_cases hsame : (mm : Int) = getI ab ord[m]
    · have hstep : domStep s pl k (ab, fl) ord[m] = some (ab, fl) := by
        unfold domStep
        simp only
        rw [hb]
        simp [hsame]
      rw [upd_self hsame] at hi
      obtain ⟨ab', fl', h1, h2, h3, h4, h5, h6⟩ := sweep_spec pl hpl hn hlt g hent hk m (by omega) ab fl hl hi
      refine ⟨ab', fl', by simp only [foldO, hstep, Option.bind_some]; exact h1, h2, h3, fun e => ?_, h5, h6⟩
      obtain ⟨a1, a2, a3⟩ := h4 e
      refine ⟨a1, a2, fun i hi w hw => ?_⟩
      rcases Nat.lt_or_ge i m with h7 | h7
      · exact a3 i h7 w hw
      · have : i = m := by omega
        subst this
        rw [List.getElem?_eq_getElem hmo] at hw
        cases hw
        rw [← hsame]
        exact hbs
    · have hstep : domStep s pl k (ab, fl) ord[m] = some (ab.set ord[m] (mm : Int), true) := by
        unfold domStep
        simp only
        rw [hb]
        simp [hsame]
      have hupd := getI_upd (ab := ab) (w := ord[m]) (b := (mm : Int)) (by omega)
      rw [← hupd] at hi
      obtain ⟨ab', fl', h1, h2, h3, h4, h5, h6⟩ := sweep_spec pl hpl hn hlt g hent hk m (by omega) (ab.set ord[m] (mm : Int)) true (by simpa using hl) hi
      have hmu := mu_step rfl hwn hwm (by omega) h.tree g hsame ham hwe
      rw [← hupd] at hmu
      refine ⟨ab', fl', by simp only [foldO, hstep, Option.bind_some]; exact h1, h2, h3, fun e => ?_, by omega, fun _ => .inr (by omega)⟩
      have := (h4 e).1
      cases this

theorem DInv.again {succ preds : Nat → List Nat} {P A : Nat → Int} {ent : Nat} (h : DInv succ preds P ent (-1) A) {c : Int} (hc : -1 ≤ c) : DInv succ preds P ent c A :=
  ⟨h.tree, fun p hp => h.q1 p (by omega), .inl fun p hp => h.q1 p (by omega), h.m, fun p h1 h2 a h3 _ f hf hl => h.f p h1 h2 a h3 (.inl (by have := h.tree.pos p h1; omega)) f hf hl, h.path, h.dom⟩

theorem mu_le (pl : List Int) (n N : Nat) (A : Nat → Int) (hP : ∀ x, getI pl x ≤ (N : Int) - 1) : mu pl n A ≤ n * (N + 1) := by
  have := sum_const_le (f := muX pl A) (c := N + 1) (List.range n) (fun x _ => by
    unfold muX
    split
    · have := hP (A x).toNat; omega
    · omega)
  rwa [List.length_range] at this

/-- The sweeps come to an end: at a tree that none of them turns. -/
theorem loop_spec (pl : List Int) (hpl : pl = placesOf s.n ord) (hn : ord.Nodup) (hlt : ∀ x ∈ ord, x < s.n) {succ : Nat → List Nat} {ent : Nat} (g : DG succ s.preds (getI pl) ent) (hent : getI pl ent = (ord.length : Int) - 1) (hk : 2 * ord.length < k) (h0 : 0 < ord.length) :
    ∀ (j : Nat) (ab : List Int), ab.length = s.n → DInv succ s.preds (getI pl) ent ((ord.length : Int) - 2) (getI ab) → s.n * (ord.length + 1) < j + mu pl s.n (getI ab) →
      ∃ res, domLoop s pl k ord j ab = some res ∧ res.length = s.n ∧ DInv succ s.preds (getI pl) ent (-1) (getI res) ∧ ∀ w, w ∈ ord → w ≠ ent → BS (getI res) (fun q => q ∈ s.preds w ∧ 0 ≤ getI res q) (getI res w)
  | 0, ab, _, _, hj => by
    have := mu_le pl s.n ord.length (getI ab) (fun x => by have := g.max x; omega)
    omega
  | j + 1, ab, hl, h, hj => by
    obtain ⟨m, hm⟩ : ∃ m, ord.length = m + 1 := ⟨ord.length - 1, by omega⟩
    obtain ⟨ab', fl', h1, h2, h3, h4, h5, h6⟩ := sweep_spec pl hpl hn hlt g hent hk m (by omega) ab false hl (by rw [hm] at h; rwa [show ((m + 1 : Nat) : Int) - 2 = (m : Int) - 1 by omega] at h)
    have hsw : domSweep s pl k ord ab = some (ab', fl') := by
      unfold domSweep
      rw [List.dropLast_eq_take, hm, Nat.add_sub_cancel]
      exact h1
    unfold domLoop
    rw [hsw, Option.bind_some]
    cases fl' with
    | true =>
      simp only [if_true]
      have := h6 rfl
      exact loop_spec pl hpl hn hlt g hent hk h0 j ab' h2 (h3.again (by omega)) (by simp at this; omega)
    | false =>
      obtain ⟨-, rfl, hfix⟩ := h4 rfl
      refine ⟨ab', by simp, h2, h3, fun w hw hwe => ?_⟩
      obtain ⟨i, hi, rfl⟩ := List.mem_iff_getElem.1 hw
      have him : i < m := by
        rcases Nat.lt_or_ge i m with h7 | h7
        · exact h7
        · have h8 : getI pl ord[i] = (i : Int) := by rw [hpl]; exact place_get hn hlt hi
          exact absurd (g.inj _ _ (by omega) (by omega)) hwe
      exact hfix i him _ (List.getElem?_eq_getElem hi)
end

/-- Each point but the entry has one above it that is behind it in the order. -/
def TreeP (succ : Nat → List Nat) (roots new : List Nat) : Prop := ∀ (i x : Nat), new[i]? = some x → x ∈ roots ∨ ∃ j f : Nat, i < j ∧ new[j]? = some f ∧ x ∈ succ f

theorem TreeP.append {succ : Nat → List Nat} {r1 r2 n1 n2 : List Nat} (h1 : TreeP succ r1 n1) (h2 : TreeP succ r2 n2) : TreeP succ (r1 ++ r2) (n1 ++ n2) := by
  intro i x hx
  rw [List.getElem?_append] at hx
  split at hx
  · rcases h1 i x hx with h | ⟨j, f, hj, hf, hs⟩
    · exact .inl (List.mem_append_left _ h)
    · exact .inr ⟨j, f, hj, by rw [List.getElem?_append_left (List.getElem?_eq_some_iff.1 hf).1]; exact hf, hs⟩
  · rcases h2 _ x hx with h | ⟨j, f, hj, hf, hs⟩
    · exact .inl (List.mem_append_right _ h)
    · exact .inr ⟨n1.length + j, f, by omega, by rw [List.getElem?_append_right (by omega), Nat.add_sub_cancel_left]; exact hf, hs⟩

theorem foldO_tree {succ : Nat → List Nat} {f : List Bool × List Nat → Nat → Option (List Bool × List Nat)} (hf : ∀ s x t, f s x = some t → ∃ new, t.2 = s.2 ++ new ∧ TreeP succ [x] new) :
    ∀ (xs : List Nat) (s t : List Bool × List Nat), foldO f xs s = some t → ∃ new, t.2 = s.2 ++ new ∧ TreeP succ xs new
  | [], s, t, h => by cases h; exact ⟨[], by simp, fun i x hx => by simp at hx⟩
  | x :: xs, s, t, h => by
    simp only [foldO] at h
    cases hq : f s x with
    | none => rw [hq] at h; cases h
    | some u =>
      rw [hq] at h
      obtain ⟨a, ha, hta⟩ := hf s x u hq
      obtain ⟨b, hb, htb⟩ := foldO_tree hf xs u t h
      exact ⟨a ++ b, by rw [hb, ha, List.append_assoc], hta.append htb⟩

theorem dfsV_tree {succ : Nat → List Nat} {wo : Int} : ∀ (k : Nat) (s : List Bool × List Nat) (p : Nat) (t : List Bool × List Nat), dfsV succ wo k s p = some t → ∃ new, t.2 = s.2 ++ new ∧ TreeP succ [p] new
  | 0, _, _, _, h => by simp [dfsV] at h
  | k + 1, s, p, t, h => by
    simp only [dfsV] at h
    split at h
    · cases h; exact ⟨[], by simp, fun i x hx => by simp at hx⟩
    · split at h
      · cases h; exact ⟨[], by simp, fun i x hx => by simp at hx⟩
      · obtain ⟨u, hu, rfl⟩ := Option.map_eq_some_iff.1 h
        obtain ⟨a, ha, hta⟩ := foldO_tree (fun s x t h => dfsV_tree k s x t h) _ _ _ hu
        refine ⟨a ++ [p], by simp only; rw [ha, List.append_assoc], fun i x hx => ?_⟩
        rw [List.getElem?_append] at hx
        split at hx
        · rename_i hi
          rcases hta i x hx with h1 | ⟨j, f, hj, hf, hs⟩
          · exact .inr ⟨a.length, p, hi, by simp, h1⟩
          · exact .inr ⟨j, f, hj, by rw [List.getElem?_append_left (List.getElem?_eq_some_iff.1 hf).1]; exact hf, hs⟩
        · have hx' := List.mem_of_getElem? hx
          exact .inl hx'

theorem dfsV_last {succ : Nat → List Nat} {wo : Int} {k : Nat} {s : List Bool × List Nat} {p : Nat} {t : List Bool × List Nat} (h : dfsV succ wo k s p = some t) (hw : (p : Int) ≠ wo) (hp : s.1.getD p false = false) : ∃ l, t.2 = l ++ [p] := by
  cases k with
  | zero => simp [dfsV] at h
  | succ k =>
    simp only [dfsV] at h
    rw [if_neg hw, if_neg (by rw [hp]; simp)] at h
    obtain ⟨u, hu, rfl⟩ := Option.map_eq_some_iff.1 h
    exact ⟨u.2, rfl⟩

/-- The immediate dominators, by what they mean. -/
structure IsIdom (succ : Nat → List Nat) (ent n : Nat) (res : List Int) : Prop where
  len : res.length = n
  entR : getI res ent = -1
  no : ∀ p, ¬ Rch succ (fun _ => True) ent p → getI res p = -1
  up : ∀ p, Rch succ (fun _ => True) ent p → p ≠ ent → ∃ a : Nat, getI res p = (a : Int) ∧ Rch succ (fun _ => True) ent a ∧ a ≠ p ∧ ∀ d, ¬ Rch succ (fun q => q ≠ d) ent p ↔ d = p ∨ ¬ Rch succ (fun q => q ≠ d) ent a
  rank : ∃ R : Nat → Nat, (∀ p, R p ≤ n) ∧ ∀ p a : Nat, getI res p = (a : Int) → R p < R a

theorem dg_of {s : Shp} {k : Nat} {t : List Bool × List Nat} (hsucc : ∀ p, p < s.n → ∀ x ∈ s.next p, x < s.n) (hsp : ∀ p q, p < s.n → (q ∈ s.preds p ↔ p ∈ s.next q)) (hent : s.entry < s.n)
    (h : foldO (dfsV s.next (-1) k) [s.entry] (List.replicate s.n false, []) = some t) :
    DG s.next s.preds (getI (placesOf s.n t.2)) s.entry ∧ getI (placesOf s.n t.2) s.entry = (t.2.length : Int) - 1 ∧ 0 < t.2.length := by
  have hx : ∀ x ∈ [s.entry], x < s.n := fun x hx => by simp at hx; omega
  obtain ⟨h1, h2, h3, h4, h5⟩ := dfs_order hsucc hx h
  have h6 := dfs_reach hsucc hx h
  have hd : dfsV s.next (-1) k (List.replicate s.n false, []) s.entry = some t := by
    simp only [foldO] at h
    cases hq : dfsV s.next (-1) k (List.replicate s.n false, []) s.entry with
    | none => rw [hq] at h; cases h
    | some u => rw [hq] at h; exact h
  obtain ⟨l, hl⟩ := dfsV_last hd (by omega) (by simp only; rw [List.getD_eq_getElem?_getD, List.getElem?_replicate]; split <;> rfl)
  obtain ⟨new, hnew, htree⟩ := dfsV_tree k _ _ _ hd
  have hnew' : t.2 = new := by simpa using hnew
  have hll : t.2.length = l.length + 1 := by rw [hl]; simp
  have hpe : getI (placesOf s.n t.2) s.entry = (t.2.length : Int) - 1 := by
    have hlt : l.length < t.2.length := by omega
    have he : t.2[l.length] = s.entry := by simp [hl]
    have := place_get h1 h2 hlt
    rw [he] at this
    omega
  have hmem : ∀ {x}, 0 ≤ getI (placesOf s.n t.2) x ↔ x ∈ t.2 := fun {x} => place_mem h1 h2
  refine ⟨⟨fun p q => place_inj h1 h2, fun p => ?_, by omega, fun p q hp => hsp p q (h2 p (hmem.1 hp)), fun p => ?_, fun p hp hne => ?_⟩, hpe, by omega⟩
  · rw [hpe]; exact place_lt h1 h2 p (by omega)
  · rw [hmem, ← h5 p, h6 p]
    constructor
    · rintro ⟨a, ha, hr⟩
      simp at ha
      subst ha
      exact hr.mono fun _ _ => trivial
    · intro hr
      exact ⟨s.entry, by simp, hr.mono fun x _ => by omega⟩
  · obtain ⟨i, hi, rfl⟩ := List.mem_iff_getElem.1 (hmem.1 hp)
    rcases htree i _ (by rw [← hnew']; exact List.getElem?_eq_getElem hi) with h7 | ⟨j, f, hj, hf, hs⟩
    · simp at h7; exact absurd h7 hne
    · rw [← hnew'] at hf
      obtain ⟨hjl, rfl⟩ := List.getElem?_eq_some_iff.1 hf
      refine ⟨_, (hsp _ _ (h2 _ (List.getElem_mem hi))).2 hs, ?_⟩
      rw [place_get h1 h2 hi, place_get h1 h2 hjl]
      omega

theorem getI_replicate (n x : Nat) : getI (List.replicate n (-1)) x = -1 := by
  unfold getI
  rw [List.getD_eq_getElem?_getD, List.getElem?_replicate]
  split <;> rfl

/-- The search for dominators comes to an end, and finds the immediate dominators. -/
theorem dom_total {s : Shp} {k : Nat} {t : List Bool × List Nat} (hsucc : ∀ p, p < s.n → ∀ x ∈ s.next p, x < s.n) (hsp : ∀ p q, p < s.n → (q ∈ s.preds p ↔ p ∈ s.next q)) (hent : s.entry < s.n)
    (h : foldO (dfsV s.next (-1) k) [s.entry] (List.replicate s.n false, []) = some t) (hk : 2 * s.n < k) {j : Nat} (hj : s.n * (s.n + 1) < j) :
    ∃ res, domF s k j t.2 = some res ∧ IsIdom s.next s.entry s.n res := by
  obtain ⟨g, hpe, hpos⟩ := dg_of hsucc hsp hent h
  obtain ⟨h1, h2, h3, h4, h5⟩ := dfs_order hsucc (fun x hx => by simp at hx; omega) h
  have h0 : ∀ x, getI ((List.replicate s.n (-1)).set s.entry (s.entry : Int)) x = if s.entry = x then (s.entry : Int) else -1 := fun x => by
    rw [getI_set, getI_replicate]
    by_cases e : s.entry = x
    · rw [if_pos ⟨e, by simpa using hent⟩, if_pos e]
    · rw [if_neg (fun e2 => e e2.1), if_neg e]
  have hno : ∀ {p}, p ≠ s.entry → ¬ 0 ≤ getI ((List.replicate s.n (-1)).set s.entry (s.entry : Int)) p := fun {p} hp h => by
    rw [h0, if_neg (Ne.symm hp)] at h; omega
  have hinit : DInv s.next s.preds (getI (placesOf s.n t.2)) s.entry ((t.2.length : Int) - 2) (getI ((List.replicate s.n (-1)).set s.entry (s.entry : Int))) := by
    refine ⟨⟨by rw [h0, if_pos rfl], fun p hp hne => absurd hp (hno hne), fun p hp => ?_, fun p hp => ?_⟩, fun p hp => ?_, .inr fun p hp => ?_, fun p hp hne => absurd hp (hno hne), fun p hp hne => absurd hp (hno hne), fun p hp hne => absurd hp (hno hne), fun u hu d hd => ?_⟩
    · by_cases e : p = s.entry
      · subst e; omega
      · exact absurd hp (hno e)
    · rw [h0, if_neg (by rintro rfl; omega)]
    · have := g.max p
      have e := g.inj p s.entry (by omega) (by omega)
      subst e
      rw [h0, if_pos rfl]; omega
    · by_cases e : p = s.entry
      · subst e; omega
      · exact absurd hp (hno e)
    · by_cases e : u = s.entry
      · subst e
        by_cases e2 : s.entry = d
        · subst e2; exact .refl _
        · exact absurd (.refl e2) hd
      · exact absurd hu (hno e)
  have hmul : s.n * (t.2.length + 1) ≤ s.n * (s.n + 1) := Nat.mul_le_mul_left _ (by omega)
  obtain ⟨ab, hab, hl, hi, hfix⟩ := loop_spec (k := k) (placesOf s.n t.2) rfl h1 h2 g hpe (by omega) hpos j _ (by simp) hinit (by omega)
  have hmem : ∀ {x}, 0 ≤ getI (placesOf s.n t.2) x ↔ x ∈ t.2 := fun {x} => place_mem h1 h2
  have hfix' : ∀ w, 0 ≤ getI (placesOf s.n t.2) w → w ≠ s.entry → BS (getI ab) (fun q => q ∈ s.preds w ∧ 0 ≤ getI ab q) (getI ab w) := fun w hw hne => hfix w (hmem.1 hw) hne
  have hall : ∀ p, 0 ≤ getI (placesOf s.n t.2) p → 0 ≤ getI ab p := fun p hp => hi.q1 p (by omega)
  have hiff : ∀ p, 0 ≤ getI (placesOf s.n t.2) p → ∀ d, ¬ Rch s.next (fun q => q ≠ d) s.entry p ↔ Anc (getI ab) p d := fun p hp d =>
    ⟨hi.dom p (hall p hp) d, fun k hr => fix_dom hi.tree g hall hfix' hr k⟩
  have hres : ∀ x, getI (ab.set s.entry (-1)) x = if s.entry = x then -1 else getI ab x := fun x => by
    rw [getI_set]
    by_cases e : s.entry = x
    · rw [if_pos ⟨e, by rw [hl]; exact hent⟩, if_pos e]
    · rw [if_neg (fun e2 => e e2.1), if_neg e]
  have hneg : ∀ x, ¬ 0 ≤ getI (placesOf s.n t.2) x → getI ab x = -1 := fun x hx => hi.tree.neg x (by omega)
  refine ⟨ab.set s.entry (-1), by unfold domF; rw [hab]; rfl, by simpa using hl, by rw [hres, if_pos rfl], fun p hp => ?_, fun p hp hne => ?_, ?_⟩
  · rw [hres]
    split
    · rfl
    · exact hneg p fun h => hp ((g.reach p).1 h)
  · have hp0 := (g.reach p).2 hp
    obtain ⟨a, ha, hlt, ha0⟩ := hi.tree.up p (hall p hp0) hne
    have ha1 := hi.tree.pos a ha0
    refine ⟨a, by rw [hres, if_neg (Ne.symm hne)]; exact ha, (g.reach a).1 ha1, by rintro rfl; omega, fun d => ?_⟩
    rw [hiff p hp0, hiff a ha1]
    constructor
    · intro k
      cases k with
      | refl => exact .inl rfl
      | up e k => have e2 := Int.ofNat.inj (e.symm.trans ha); subst e2; exact .inr k
    · rintro (rfl | k)
      · exact .refl _
      · exact .up ha k
  · refine ⟨fun p => (getI (placesOf s.n t.2) p + 1).toNat, fun p => ?_, fun p a ha => ?_⟩
    · have := g.max p; simp only; omega
    · rw [hres] at ha
      split at ha
      · omega
      · rename_i hne
        obtain ⟨q, hq, hlt, hq0⟩ := hi.tree.up p (by omega) (Ne.symm hne)
        have e2 := Int.ofNat.inj (hq.symm.trans ha)
        subst e2
        have := hi.tree.pos p (by omega)
        simp only
        omega

end Go.Proofs.YthaampinmelgaaaGreatDoor

/-! Plain laws: back edges and natural loops, by what they mean. No program here. -/
namespace Go.Proofs.YthaampinmelgaaaGreatDoor

/-- A statement as a Boolean. -/
noncomputable def bP (p : Prop) : Bool := @decide p (Classical.propDecidable p)
theorem bP_iff {p : Prop} : bP p = true ↔ p := by unfold bP; exact @decide_eq_true_iff p (Classical.propDecidable p)
theorem bP_false {p : Prop} : bP p = false ↔ ¬ p :=
  ⟨fun h hp => (by rw [bP_iff.2 hp] at h; cases h), fun h => (by
    cases hb : bP p
    · rfl
    · exact absurd (bP_iff.1 hb) h)⟩
theorem filter_one {α : Type} (f : α → Bool) (x : α) : [x].filter f = if f x = true then [x] else [] := by rw [List.filter_cons]; rfl
theorem bP_congr {p q : Prop} (h : p ↔ q) : bP p = bP q := by rw [propext h]
theorem eq_bP {b : Bool} {p : Prop} (h : b = true ↔ p) : b = bP p := by
  cases hb : b
  · rw [hb] at h
    exact (bP_false.2 fun hp => by have := h.2 hp; cases this).symm
  · exact (bP_iff.2 (h.1 hb)).symm

abbrev nx (n : Nat) (E : List (Nat × Nat)) : Nat → List Nat := (shapeOf n E).next
abbrev rx (n : Nat) (E : List (Nat × Nat)) : Nat → List Nat := ((shapeOf n E).rev 0).next
/-- Reached from the entry. -/
abbrev RchE (n : Nat) (E : List (Nat × Nat)) (p : Nat) : Prop := Rch (nx n E) (fun _ => True) 0 p
/-- v dominates p, which can be reached. -/
def DomE (n : Nat) (E : List (Nat × Nat)) (v p : Nat) : Prop := RchE n E p ∧ ¬ Rch (nx n E) (fun q => q ≠ v) 0 p

theorem hits_spec {succ : Nat → List Nat} {ent n : Nat} {res : List Int} (h : IsIdom succ ent n res) {R : Nat → Nat} (hR : ∀ p, R p ≤ n) (hlt : ∀ p a : Nat, getI res p = (a : Int) → R p < R a) (q : Nat) :
    ∀ (k p : Nat), Rch succ (fun _ => True) ent p → n + 1 < k + R p → ∃ b, hitsF res k (p : Int) q = some b ∧ (b = true ↔ ¬ Rch succ (fun x => x ≠ q) ent p)
  | 0, p, _, hk => by have := hR p; omega
  | k + 1, p, hp, hk => by
    unfold hitsF
    rw [if_neg (by omega)]
    by_cases hpq : (p : Int) = (q : Int)
    · have e : p = q := by omega
      subst e
      rw [if_pos rfl]
      exact ⟨true, rfl, fun _ hr => hr.ok_right rfl, fun _ => rfl⟩
    · rw [if_neg hpq, Int.toNat_natCast]
      have hne : p ≠ q := by omega
      by_cases hpe : p = ent
      · subst hpe
        rw [h.entR]
        cases k with
        | zero => have := hR p; omega
        | succ k =>
          unfold hitsF
          rw [if_pos (by omega)]
          exact ⟨false, rfl, fun hf => (by cases hf), fun hn => absurd (.refl hne) hn⟩
      · obtain ⟨a, ha, hra, -, hd⟩ := h.up p hp hpe
        have := hlt p a ha
        obtain ⟨b, hb, hbi⟩ := hits_spec h hR hlt q k a hra (by omega)
        rw [ha]
        refine ⟨b, hb, hbi.trans ?_⟩
        rw [hd q]
        exact ⟨.inr, fun h1 => h1.resolve_left (Ne.symm hne)⟩

/-- The back edges. -/
noncomputable def backsOf (n : Nat) (E : List (Nat × Nat)) : List Nat := (List.range E.length).filter fun e => bP (DomE n E (E.getD e (0, 0)).2 (E.getD e (0, 0)).1)

theorem sr_getD (n : Nat) (E : List (Nat × Nat)) (e : Nat) : (shapeOf n E).sr.getD e 0 = (E.getD e (0, 0)).1 := by
  simp only [shapeOf, List.getD_eq_getElem?_getD, List.getElem?_map]
  cases E[e]? <;> rfl
theorem tg_getD (n : Nat) (E : List (Nat × Nat)) (e : Nat) : (shapeOf n E).tg.getD e 0 = (E.getD e (0, 0)).2 := by
  simp only [shapeOf, List.getD_eq_getElem?_getD, List.getElem?_map]
  cases E[e]? <;> rfl

theorem backs_fold {n : Nat} {E : List (Nat × Nat)} {res : List Int} (h : IsIdom (nx n E) 0 n res) {seen : List Bool} (hseen : ∀ x, seen.getD x false = true ↔ RchE n E x) {k : Nat} (hk : n + 1 < k) :
    ∀ m, foldO (backStep (shapeOf n E) res seen k) (List.range m) [] = some ((List.range m).filter fun e => bP (DomE n E (E.getD e (0, 0)).2 (E.getD e (0, 0)).1))
  | 0 => rfl
  | m + 1 => by
    rw [List.range_succ, foldO_snoc _ _ _ _ _ (backs_fold h hseen hk m), List.filter_append]
    unfold backStep
    rw [sr_getD, tg_getD]
    by_cases hs : seen.getD (E.getD m (0, 0)).1 false = true
    · rw [if_neg (by rw [hs]; simp)]
      have hr := (hseen _).1 hs
      obtain ⟨R, hR, hlt⟩ := h.rank
      obtain ⟨b, hb, hbi⟩ := hits_spec h hR hlt (E.getD m (0, 0)).2 k (E.getD m (0, 0)).1 hr (by omega)
      rw [hb]
      have hbb : b = bP (DomE n E (E.getD m (0, 0)).2 (E.getD m (0, 0)).1) := eq_bP (hbi.trans ⟨fun h => ⟨hr, h⟩, fun h => h.2⟩)
      rw [filter_one, ← hbb]
      cases b <;> simp
    · have hs' : seen.getD (E.getD m (0, 0)).1 false = false := by simpa using hs
      rw [if_pos hs']
      have hf : bP (DomE n E (E.getD m (0, 0)).2 (E.getD m (0, 0)).1) = false := bP_false.2 fun h => hs ((hseen _).2 h.1)
      rw [filter_one, hf]
      simp

theorem backs_spec {n : Nat} {E : List (Nat × Nat)} {res : List Int} (h : IsIdom (nx n E) 0 n res) {seen : List Bool} (hseen : ∀ x, seen.getD x false = true ↔ RchE n E x) {k : Nat} (hk : n + 1 < k) :
    backF (shapeOf n E) res seen k = some (backsOf n E) := by
  unfold backF backsOf
  have : (shapeOf n E).sr.length = E.length := by simp [shapeOf]
  rw [this]
  exact backs_fold h hseen hk _

theorem mem_backs {n : Nat} {E : List (Nat × Nat)} {e : Nat} : e ∈ backsOf n E ↔ e < E.length ∧ DomE n E (E.getD e (0, 0)).2 (E.getD e (0, 0)).1 := by
  unfold backsOf
  rw [List.mem_filter, List.mem_range, bP_iff]

/-- The points from which back edges lead to a point. -/
def tailsOf (E : List (Nat × Nat)) (bl : List Nat) (q : Nat) : List Nat := (bl.filter fun e => (E.getD e (0, 0)).2 == q).map fun e => (E.getD e (0, 0)).1

theorem tails_fold {n : Nat} {E : List (Nat × Nat)} : ∀ (bl : List Nat), (∀ e ∈ bl, (E.getD e (0, 0)).2 < n) → tailsF (shapeOf n E) bl = (List.range n).map (tailsOf E bl) := by
  intro bl
  suffices ∀ (m : Nat), m ≤ bl.length → (∀ e ∈ bl, (E.getD e (0, 0)).2 < n) → tailsF (shapeOf n E) (bl.take m) = (List.range n).map (tailsOf E (bl.take m)) by
    intro h
    have h1 := this bl.length (Nat.le_refl _) h
    rwa [List.take_length] at h1
  intro m
  induction m with
  | zero =>
    intro _ _
    unfold tailsF
    rw [List.take_zero, List.foldl_nil]
    apply List.ext_getElem?
    intro i
    rw [List.getElem?_replicate, List.getElem?_map]
    show (if i < n then some [] else none) = _
    by_cases hi : i < n
    · rw [if_pos hi, List.getElem?_range hi]; rfl
    · rw [if_neg hi, List.getElem?_eq_none (by simpa using hi)]; rfl
  | succ m ih =>
    intro hm hall
    have hmo : m < bl.length := by omega
    rw [tailsF_succ _ _ _ hmo, ih (by omega) hall]
    unfold tailStep
    rw [sr_getD, tg_getD]
    have hq := hall _ (List.getElem_mem hmo)
    apply List.ext_getElem?
    intro i
    rw [List.getElem?_set, List.getElem?_map]
    have hsplit : ∀ q, tailsOf E (bl.take (m + 1)) q = tailsOf E (bl.take m) q ++ if (E.getD bl[m] (0, 0)).2 = q then [(E.getD bl[m] (0, 0)).1] else [] := by
      intro q
      unfold tailsOf
      rw [List.take_succ_eq_append_getElem hmo, List.filter_append, List.map_append]
      congr 1
      rw [filter_one]
      by_cases e : (E.getD bl[m] (0, 0)).2 = q
      · rw [if_pos e, if_pos (by rw [e]; exact beq_self_eq_true q)]; rfl
      · rw [if_neg e, if_neg (by rw [beq_iff_eq]; exact e)]; rfl
    by_cases hi : (E.getD bl[m] (0, 0)).2 = i
    · rw [if_pos hi]
      have hin : i < n := by omega
      rw [List.length_map, List.length_range, if_pos (by omega), List.getElem?_map, List.getElem?_range hin]
      simp only [Option.map_some, hsplit i, if_pos hi]
      rw [hi, List.getD_eq_getElem?_getD, List.getElem?_map, List.getElem?_range hin]
      rfl
    · rw [if_neg hi, List.getElem?_map]
      by_cases hin : i < n
      · rw [List.getElem?_range hin]
        simp only [Option.map_some, hsplit i, if_neg hi, List.append_nil]
      · rw [List.getElem?_eq_none (by simpa using hin)]; rfl

/-- The points of the loop of a head. -/
noncomputable def pointsOf (n : Nat) (E : List (Nat × Nat)) (bl : List Nat) (q : Nat) : List Nat :=
  (List.range n).filter fun p => p == q || (bP (∃ a ∈ tailsOf E bl q, Rch (rx n E) (fun x => x ≠ q) a p) && bP (RchE n E p))
/-- The natural loops. -/
noncomputable def loopsOf (n : Nat) (E : List (Nat × Nat)) (bl : List Nat) (m : Nat) : List (Nat × List Nat) :=
  (List.range m).filterMap fun q => if tailsOf E bl q = [] then none else some (q, pointsOf n E bl q)

theorem loops_fold {n : Nat} {exit : Int} {E : List (Nat × Nat)} (hg : GOk n exit E) {bl : List Nat} (hT : ∀ q, ∀ x ∈ tailsOf E bl q, x < n) {seen : List Bool} (hseen : ∀ x, seen.getD x false = true ↔ RchE n E x) {k : Nat} (hk : n < k) :
    ∀ m, foldO (loopStep (shapeOf n E) seen k) ((List.range m).map fun q => (tailsOf E bl q, q)) [] = some (loopsOf n E bl m)
  | 0 => rfl
  | m + 1 => by
    unfold loopsOf
    rw [List.range_succ, List.map_append, List.map_cons, List.map_nil, foldO_snoc _ _ _ _ _ (loops_fold hg hT hseen hk m), List.filterMap_append]
    unfold loopStep
    by_cases he : tailsOf E bl m = []
    · simp [he, loopsOf]
    · simp only
      rw [if_neg he]
      obtain ⟨t, ht⟩ := dfs_total (wo := (m : Int)) (hg.next_rev_lt 0) hk (hT m)
      have hd := dfs_reach (hg.next_rev_lt 0) (hT m) ht
      have hn : (shapeOf n E).n = n := rfl
      have hent : (shapeOf n E).entry = 0 := rfl
      rw [hn, hent, ht]
      have hin : inLoop n m t.1 seen = pointsOf n E bl m := by
        unfold inLoop pointsOf
        refine List.filter_congr fun p _ => ?_
        have h1 : t.1.getD p false = bP (∃ a ∈ tailsOf E bl m, Rch (rx n E) (fun x => x ≠ m) a p) := eq_bP ((hd p).trans ⟨fun ⟨a, ha, hr⟩ => ⟨a, ha, hr.mono fun x hx => by omega⟩, fun ⟨a, ha, hr⟩ => ⟨a, ha, hr.mono fun x hx => by omega⟩⟩)
        have h2 : seen.getD p false = bP (RchE n E p) := eq_bP (hseen p)
        rw [h1, h2]
      simp [he, hin, loopsOf]

theorem loops_spec {n : Nat} {exit : Int} {E : List (Nat × Nat)} (hg : GOk n exit E) {bl : List Nat} (hb : ∀ e ∈ bl, e < E.length) {seen : List Bool} (hseen : ∀ x, seen.getD x false = true ↔ RchE n E x) {k : Nat} (hk : n < k) :
    loopsF (shapeOf n E) seen bl k = some (loopsOf n E bl n) := by
  have hE : ∀ e ∈ bl, (E.getD e (0, 0)).1 < n ∧ (E.getD e (0, 0)).2 < n := fun e he => by
    have h1 := hb e he
    rw [List.getD_eq_getElem?_getD, List.getElem?_eq_getElem h1]
    exact hg.lt _ (List.getElem_mem h1)
  have hT : ∀ q, ∀ x ∈ tailsOf E bl q, x < n := fun q x hx => by
    unfold tailsOf at hx
    obtain ⟨e, he, rfl⟩ := List.mem_map.1 hx
    exact (hE e (List.mem_filter.1 he).1).1
  unfold loopsF
  rw [tails_fold bl fun e he => (hE e he).2]
  have hz : ((List.range n).map (tailsOf E bl)).zipIdx = (List.range n).map fun q => (tailsOf E bl q, q) := by
    apply List.ext_getElem?
    intro i
    rw [List.getElem?_zipIdx, List.getElem?_map, List.getElem?_map]
    by_cases hi : i < n
    · rw [List.getElem?_range hi]; simp
    · rw [List.getElem?_eq_none (by simpa using hi)]; rfl
  rw [hz]
  exact loops_fold hg hT hseen hk n

end Go.Proofs.YthaampinmelgaaaGreatDoor

/-! Plain laws on the visits that make a group. No program here. -/
namespace Go.Proofs.YthaampinmelgaaaGreatDoor

theorem grpV_adds {n : Nat} {succ : Nat → List Nat} (hsucc : ∀ p, p < n → ∀ x ∈ succ p, x < n) : ∀ (k : Nat) (s : List Bool × List Nat) (p : Nat) (t : List Bool × List Nat), s.1.length = n → p < n → grpV succ k s p = some t → ∃ new, Adds n s t new
  | 0, _, _, _, _, _, h => by simp [grpV] at h
  | k + 1, s, p, t, hs, hp, h => by
    simp only [grpV] at h
    split at h
    · cases h; exact ⟨[], Adds.refl n _⟩
    · rename_i h2
      obtain ⟨a, ha⟩ := foldO_adds (fun s x t h1 h2 h3 => grpV_adds hsucc k s x t h1 h2 h3) (succ p) (s.1.set p true, s.2 ++ [p]) t (by simpa using hs) (hsucc p hp) h
      have hpf : s.1.getD p false = false := by simpa using h2
      have hself : (s.1.set p true).getD p false = true := by rw [getD_set_b, if_pos ⟨rfl, by omega⟩]
      have hfirst : Adds n s (s.1.set p true, s.2 ++ [p]) [p] := by
        refine ⟨rfl, by simp, fun x hx => ?_, fun x hx => ?_, fun x hx => ?_, by simp⟩
        · simp at hx; subst hx; exact ⟨hp, hpf, hself⟩
        · simp only
          rw [getD_set_b]
          split
          · rfl
          · exact hx
        · simp only at hx
          rw [getD_set_b] at hx
          split at hx
          · rename_i h3; exact .inr (by simp [h3.1])
          · exact .inl hx
      exact ⟨[p] ++ a, hfirst.trans ha⟩

theorem grpV_some {n : Nat} {succ : Nat → List Nat} (hsucc : ∀ p, p < n → ∀ x ∈ succ p, x < n) : ∀ (k : Nat) (s : List Bool × List Nat) (p : Nat), s.1.length = n → p < n → s.1.count false < k → ∃ t, grpV succ k s p = some t
  | 0, _, _, _, _, h => by omega
  | k + 1, s, p, hl, hp, hc => by
    simp only [grpV]
    by_cases h2 : s.1.getD p false = true
    · rw [if_pos h2]; exact ⟨_, rfl⟩
    · rw [if_neg h2]
      have h3 := count_false_set s.1 p (by omega) (by simpa using h2)
      exact foldO_some (c := k - 1) (fun s x t h1 h2 h3 => grpV_adds hsucc k s x t h1 h2 h3) (fun s x h1 h2 h4 => grpV_some hsucc k s x h1 h2 (by omega)) (succ p) (s.1.set p true, s.2 ++ [p]) (by simpa using hl) (hsucc p hp) (by simp only; omega)

theorem grpV_said {n : Nat} {succ : Nat → List Nat} (hsucc : ∀ p, p < n → ∀ x ∈ succ p, x < n) : ∀ (k : Nat) (s : List Bool × List Nat) (p : Nat) (t : List Bool × List Nat), s.1.length = n → p < n → grpV succ k s p = some t → Said succ (-1) [p] s t
  | 0, _, _, _, _, _, h => by simp [grpV] at h
  | k + 1, s, p, t, hs, hp, h => by
    simp only [grpV] at h
    split at h
    · rename_i hp2
      cases h
      exact ⟨fun _ h => .inl h, fun _ h => .inl h, fun a ha => by simp at ha; subst ha; exact .inr hp2, fun _ h => h⟩
    · have hw : (p : Int) ≠ -1 := by omega
      have ih := foldO_said (succ := succ) (wo := -1) (fun s x t h1 h2 h3 => by obtain ⟨a, ha⟩ := grpV_adds hsucc k s x t h1 h2 h3; exact ha.len.trans h1) (fun s x t h1 h2 h3 => grpV_said hsucc k s x t h1 h2 h3) (succ p) (s.1.set p true, s.2 ++ [p]) t (by simpa using hs) (hsucc p hp) h
      have hself : (s.1.set p true).getD p false = true := by rw [getD_set_b, if_pos ⟨rfl, by omega⟩]
      refine ⟨fun y hy => ?_, fun y hy => ?_, fun a ha => ?_, fun y hy => ih.keep y ?_⟩
      · rcases ih.sound y hy with h1 | ⟨a, ha, hr⟩
        · simp only at h1
          rw [getD_set_b] at h1
          split at h1
          · rename_i h3
            obtain ⟨rfl, _⟩ := h3
            exact .inr ⟨p, by simp, .refl hw⟩
          · exact .inl h1
        · exact .inr ⟨p, by simp, Rch.head ha hw hr⟩
      · rcases ih.closed y hy with h1 | h1
        · simp only at h1
          rw [getD_set_b] at h1
          split at h1
          · rename_i h3
            obtain ⟨rfl, _⟩ := h3
            exact .inr fun z hz => ih.start z hz
          · exact .inl h1
        · exact .inr h1
      · simp at ha; subst ha
        exact .inr (ih.keep a hself)
      · simp only
        rw [getD_set_b]
        split
        · rfl
        · exact hy

end Go.Proofs.YthaampinmelgaaaGreatDoor

/-! Plain laws: the groups are the sets of points that can be reached from each other. No program here. -/
namespace Go.Proofs.YthaampinmelgaaaGreatDoor

/-- Of each visit: what it saw can be reached from its point, and nothing that was finished before leads to it. -/
def SegN (succ : Nat → List Nat) (old new : List Nat) : Prop :=
  ∀ (i r : Nat), new[i]? = some r → ∃ a, a ≤ i ∧ (∀ (j x : Nat), a ≤ j → j ≤ i → new[j]? = some x → Rch succ (fun _ => True) r x) ∧
    ∀ z, (z ∈ old ∨ ∃ j, j < a ∧ new[j]? = some z) → ∀ (l y : Nat), a ≤ l → l ≤ i → new[l]? = some y → y ∉ succ z

theorem SegN.append {succ : Nat → List Nat} {old n1 n2 : List Nat} (h1 : SegN succ old n1) (h2 : SegN succ (old ++ n1) n2) : SegN succ old (n1 ++ n2) := by
  intro i r hr
  by_cases hi : i < n1.length
  · rw [List.getElem?_append_left hi] at hr
    obtain ⟨a, ha, hA, hB⟩ := h1 i r hr
    refine ⟨a, ha, fun j x h3 h4 hx => ?_, fun z hz l y h3 h4 hy => ?_⟩
    · rw [List.getElem?_append_left (by omega)] at hx
      exact hA j x h3 h4 hx
    · rw [List.getElem?_append_left (by omega)] at hy
      refine hB z ?_ l y h3 h4 hy
      rcases hz with hz | ⟨j, hj, hz⟩
      · exact .inl hz
      · rw [List.getElem?_append_left (by omega)] at hz
        exact .inr ⟨j, hj, hz⟩
  · rw [List.getElem?_append_right (by omega)] at hr
    obtain ⟨a, ha, hA, hB⟩ := h2 _ r hr
    refine ⟨n1.length + a, by omega, fun j x h3 h4 hx => ?_, fun z hz l y h3 h4 hy => ?_⟩
    · rw [List.getElem?_append_right (by omega)] at hx
      exact hA _ x (by omega) (by omega) hx
    · rw [List.getElem?_append_right (by omega)] at hy
      refine hB z ?_ _ y (by omega) (by omega) hy
      rcases hz with hz | ⟨j, hj, hz⟩
      · exact .inl (List.mem_append_left _ hz)
      · by_cases hj1 : j < n1.length
        · rw [List.getElem?_append_left hj1] at hz
          exact .inl (List.mem_append_right _ (List.mem_of_getElem? hz))
        · rw [List.getElem?_append_right (by omega)] at hz
          exact .inr ⟨_, by omega, hz⟩

/-- All that is finished leads to what has been seen. -/
def Shut (succ : Nat → List Nat) (s : List Bool × List Nat) : Prop := ∀ z ∈ s.2, ∀ y ∈ succ z, s.1.getD y false = true

theorem foldO_seg {n : Nat} {succ : Nat → List Nat} {f : List Bool × List Nat → Nat → Option (List Bool × List Nat)}
    (hf : ∀ s x t, s.1.length = n → x < n → Shut succ s → f s x = some t → t.1.length = n ∧ Shut succ t ∧ ∃ new, t.2 = s.2 ++ new ∧ SegN succ s.2 new) :
    ∀ (xs : List Nat) (s t : List Bool × List Nat), s.1.length = n → (∀ x ∈ xs, x < n) → Shut succ s → foldO f xs s = some t → t.1.length = n ∧ Shut succ t ∧ ∃ new, t.2 = s.2 ++ new ∧ SegN succ s.2 new
  | [], s, t, hl, _, hs, h => by cases h; exact ⟨hl, hs, [], by simp, fun i r hr => by simp at hr⟩
  | x :: xs, s, t, hl, hx, hs, h => by
    simp only [foldO] at h
    cases hq : f s x with
    | none => rw [hq] at h; cases h
    | some u =>
      rw [hq] at h
      obtain ⟨a1, a2, n1, a3, a4⟩ := hf s x u hl (hx x List.mem_cons_self) hs hq
      obtain ⟨b1, b2, n2, b3, b4⟩ := foldO_seg hf xs u t a1 (fun y hy => hx y (List.mem_cons_of_mem _ hy)) a2 h
      refine ⟨b1, b2, n1 ++ n2, by rw [b3, a3, List.append_assoc], a4.append ?_⟩
      rwa [← a3]

theorem dfsV_seg {n : Nat} {succ : Nat → List Nat} (hsucc : ∀ p, p < n → ∀ x ∈ succ p, x < n) : ∀ (k : Nat) (s : List Bool × List Nat) (p : Nat) (t : List Bool × List Nat), s.1.length = n → p < n → Shut succ s → dfsV succ (-1) k s p = some t →
    t.1.length = n ∧ Shut succ t ∧ ∃ new, t.2 = s.2 ++ new ∧ SegN succ s.2 new
  | 0, _, _, _, _, _, _, h => by simp [dfsV] at h
  | k + 1, s, p, t, hl, hp, hs, h => by
    obtain ⟨nw, had⟩ := dfsV_adds hsucc (k + 1) s p t hl hp h
    have hsaid := dfsV_said hsucc (k + 1) s p t hl hp h
    have hshut : Shut succ t := by
      intro z hz y hy
      rw [had.ord] at hz
      rcases List.mem_append.1 hz with hz | hz
      · exact had.keep y (hs z hz y hy)
      · obtain ⟨-, hz2, hz3⟩ := had.fresh z hz
        rcases hsaid.closed z hz3 with h1 | h1
        · rw [hz2] at h1; cases h1
        · rcases h1 y hy with h2 | h2
          · omega
          · exact h2
    refine ⟨had.len.trans hl, hshut, ?_⟩
    simp only [dfsV] at h
    rw [if_neg (by omega)] at h
    split at h
    · cases h; exact ⟨[], by simp, fun i r hr => by simp at hr⟩
    · obtain ⟨u, hu, rfl⟩ := Option.map_eq_some_iff.1 h
      obtain ⟨-, -, a, ha, hseg⟩ := foldO_seg (n := n) (fun s x t h1 h2 h3 h4 => dfsV_seg hsucc k s x t h1 h2 h3 h4) (succ p) (s.1.set p true, s.2) u (by simpa using hl) (hsucc p hp) (fun z hz y hy => by
        simp only
        rw [getD_set_b]
        split
        · rfl
        · exact hs z hz y hy) hu
      have hnw : nw = a ++ [p] := by
        have h1 := had.ord
        simp only at h1 ha
        rw [ha, List.append_assoc] at h1
        exact (List.append_cancel_left h1).symm
      refine ⟨a ++ [p], by simp only; rw [ha, List.append_assoc], fun i r hr => ?_⟩
      by_cases hi : i < a.length
      · rw [List.getElem?_append_left hi] at hr
        obtain ⟨b, hb, hA, hB⟩ := hseg i r hr
        refine ⟨b, hb, fun j x h3 h4 hx => ?_, fun z hz l y h3 h4 hy => ?_⟩
        · rw [List.getElem?_append_left (by omega)] at hx
          exact hA j x h3 h4 hx
        · rw [List.getElem?_append_left (by omega)] at hy
          refine hB z ?_ l y h3 h4 hy
          rcases hz with hz | ⟨j, hj, hz⟩
          · exact .inl hz
          · rw [List.getElem?_append_left (by omega)] at hz
            exact .inr ⟨j, hj, hz⟩
      · have hrp : r = p := by
          rw [List.getElem?_append_right (by omega)] at hr
          have := List.mem_of_getElem? hr
          simpa using this
        subst hrp
        refine ⟨0, Nat.zero_le _, fun j x _ _ hx => ?_, fun z hz l y _ _ hy => ?_⟩
        · have hx' : x ∈ nw := by rw [hnw]; exact List.mem_of_getElem? hx
          obtain ⟨-, h1, h2⟩ := had.fresh x hx'
          rcases hsaid.sound x h2 with h3 | ⟨c, hc, hrc⟩
          · rw [h1] at h3; cases h3
          · simp at hc
            subst hc
            exact hrc.mono fun _ _ => trivial
        · have hy' : y ∈ nw := by rw [hnw]; exact List.mem_of_getElem? hy
          obtain ⟨-, h1, h2⟩ := had.fresh y hy'
          rcases hz with hz | ⟨j, hj, _⟩
          · intro hm
            have := hs z hz y hm
            rw [h1] at this
            cases this
          · omega

/-- The visits for a group go through points that had not been taken. -/
theorem foldO_path {n : Nat} {succ : Nat → List Nat} {f : List Bool × List Nat → Nat → Option (List Bool × List Nat)} (hlen : ∀ s x t, s.1.length = n → x < n → f s x = some t → t.1.length = n ∧ ∀ y, s.1.getD y false = true → t.1.getD y false = true)
    (hf : ∀ s x t, s.1.length = n → x < n → f s x = some t → ∀ y, t.1.getD y false = true → s.1.getD y false = true ∨ Rch succ (fun q => s.1.getD q false = false) x y) :
    ∀ (xs : List Nat) (s t : List Bool × List Nat), s.1.length = n → (∀ x ∈ xs, x < n) → foldO f xs s = some t → ∀ y, t.1.getD y false = true → s.1.getD y false = true ∨ ∃ x ∈ xs, Rch succ (fun q => s.1.getD q false = false) x y
  | [], s, t, _, _, h => by cases h; exact fun y hy => .inl hy
  | x :: xs, s, t, hl, hx, h => by
    simp only [foldO] at h
    cases hq : f s x with
    | none => rw [hq] at h; cases h
    | some u =>
      rw [hq] at h
      have h1 := hlen s x u hl (hx x List.mem_cons_self) hq
      intro y hy
      rcases foldO_path hlen hf xs u t h1.1 (fun y hy => hx y (List.mem_cons_of_mem _ hy)) h y hy with h2 | ⟨c, hc, hr⟩
      · rcases hf s x u hl (hx x List.mem_cons_self) hq y h2 with h3 | h3
        · exact .inl h3
        · exact .inr ⟨x, List.mem_cons_self, h3⟩
      · refine .inr ⟨c, List.mem_cons_of_mem _ hc, hr.mono fun q hq => ?_⟩
        cases hs : s.1.getD q false with
        | false => rfl
        | true => have := h1.2 q hs; rw [hq] at this; cases this

theorem grpV_path {n : Nat} {succ : Nat → List Nat} (hsucc : ∀ p, p < n → ∀ x ∈ succ p, x < n) : ∀ (k : Nat) (s : List Bool × List Nat) (p : Nat) (t : List Bool × List Nat), s.1.length = n → p < n → grpV succ k s p = some t →
    ∀ y, t.1.getD y false = true → s.1.getD y false = true ∨ Rch succ (fun q => s.1.getD q false = false) p y
  | 0, _, _, _, _, _, h => by simp [grpV] at h
  | k + 1, s, p, t, hl, hp, h => by
    simp only [grpV] at h
    split at h
    · cases h; exact fun y hy => .inl hy
    · rename_i hps
      have hps' : s.1.getD p false = false := by simpa using hps
      have ih := foldO_path (n := n) (succ := succ) (fun s x t h1 h2 h3 => by obtain ⟨a, ha⟩ := grpV_adds hsucc k s x t h1 h2 h3; exact ⟨ha.len.trans h1, ha.keep⟩) (fun s x t h1 h2 h3 => grpV_path hsucc k s x t h1 h2 h3)
        (succ p) (s.1.set p true, s.2 ++ [p]) t (by simpa using hl) (hsucc p hp) h
      intro y hy
      rcases ih y hy with h1 | ⟨c, hc, hr⟩
      · simp only at h1
        rw [getD_set_b] at h1
        split at h1
        · rename_i h2
          rw [← h2.1]
          exact .inr (.refl hps')
        · exact .inl h1
      · refine .inr (Rch.head hc hps' (hr.mono fun q hq => ?_))
        simp only at hq
        rw [getD_set_b] at hq
        split at hq
        · cases hq
        · exact hq

/-- Each can be reached from the other. -/
def Mut (succ : Nat → List Nat) (x y : Nat) : Prop := Rch succ (fun _ => True) x y ∧ Rch succ (fun _ => True) y x
theorem Mut.refl (succ : Nat → List Nat) (x : Nat) : Mut succ x x := ⟨.refl trivial, .refl trivial⟩
theorem Mut.symm {succ : Nat → List Nat} {x y : Nat} (h : Mut succ x y) : Mut succ y x := ⟨h.2, h.1⟩
theorem Mut.trans {succ : Nat → List Nat} {x y z : Nat} (h : Mut succ x y) (k : Mut succ y z) : Mut succ x z := ⟨h.1.trans k.1, k.2.trans h.2⟩

theorem Rch.lt {n : Nat} {succ : Nat → List Nat} (hsucc : ∀ p, p < n → ∀ x ∈ succ p, x < n) {ok : Nat → Prop} {a b : Nat} (h : Rch succ ok a b) (ha : a < n) : b < n := by
  induction h with
  | refl _ => exact ha
  | step _ h1 _ ih => exact hsucc _ ih _ h1

theorem Rch.turn {n : Nat} {succ pred : Nat → List Nat} (hsucc : ∀ p, p < n → ∀ x ∈ succ p, x < n) (hps : ∀ p q, p < n → q < n → (q ∈ succ p ↔ p ∈ pred q)) {ok : Nat → Prop} {a b : Nat} (h : Rch succ ok a b) (ha : a < n) : Rch pred ok b a := by
  induction h with
  | refl h => exact .refl h
  | @step b c h h1 h2 ih =>
    have hb := h.lt hsucc ha
    exact Rch.head ((hps b c hb (hsucc b hb c h1)).1 h1) h2 ih

/-- What holds of the groups that have been found. -/
structure GInv (succ : Nat → List Nat) (n : Nat) (tk : List Bool) (gs : List (List Nat)) : Prop where
  len : tk.length = n
  mutc : ∀ x y, x < n → tk.getD x false = true → Mut succ x y → tk.getD y false = true
  mem : ∀ x, tk.getD x false = true ↔ ∃ g ∈ gs, x ∈ g
  cls : ∀ g ∈ gs, ∀ x ∈ g, x < n ∧ ∀ y, y ∈ g ↔ Mut succ x y
  ne : ∀ g ∈ gs, g ≠ []
  sorted : ∀ g ∈ gs, g.Pairwise (· < ·)
  apart : gs.Pairwise fun a b => ∀ x ∈ a, x ∉ b

theorem sortN_mem {l : List Nat} {x : Nat} : x ∈ sortN l ↔ x ∈ l := List.mem_mergeSort
theorem sortN_lt {l : List Nat} (h : l.Nodup) : (sortN l).Pairwise (· < ·) := by
  have h1 : (sortN l).Pairwise fun a b => decide (a ≤ b) = true := List.pairwise_mergeSort (fun a b c h1 h2 => by simp at *; omega) (fun a b => by simp; omega) l
  have h2 : (sortN l).Nodup := (List.mergeSort_perm l _).nodup_iff.2 h
  have h3 := List.pairwise_and_iff.2 ⟨h1, h2⟩
  exact h3.imp fun {a b} h => by have := h.1; have := h.2; simp at *; omega

theorem grp_step {n : Nat} {succ rsucc : Nat → List Nat} (hs : ∀ p, p < n → ∀ x ∈ succ p, x < n) (hr : ∀ p, p < n → ∀ x ∈ rsucc p, x < n) (hps : ∀ p q, p < n → q < n → (q ∈ succ p ↔ p ∈ rsucc q)) {ord : List Nat} (hord : ∀ x ∈ ord, x < n) (hall : ∀ x, x < n → x ∈ ord) (hseg : SegN succ [] ord)
    {k i : Nat} {tk : List Bool} {gs : List (List Nat)} {r : Nat} {t : List Bool × List Nat} (h : GInv succ n tk gs) (hri : ord[i]? = some r) (hlate : ∀ j x, i < j → ord[j]? = some x → tk.getD x false = true) (hrt : tk.getD r false = false) (hg : grpV rsucc k (tk, []) r = some t) :
    GInv succ n t.1 (gs ++ [sortN t.2]) ∧ t.1.getD r false = true ∧ ∀ x, tk.getD x false = true → t.1.getD x false = true := by
  have hrn := hord r (List.mem_of_getElem? hri)
  obtain ⟨nw, had⟩ := grpV_adds hr k (tk, []) r t h.len hrn hg
  have hsaid := grpV_said hr k (tk, []) r t h.len hrn hg
  have hpath := grpV_path hr k (tk, []) r t h.len hrn hg
  have hnw : t.2 = nw := by simpa using had.ord
  have hstart : t.1.getD r false = true := by
    rcases hsaid.start r (by simp) with h1 | h1
    · omega
    · exact h1
  have hps' : ∀ p q, p < n → q < n → (q ∈ rsucc p ↔ p ∈ succ q) := fun p q hp hq => (hps q p hq hp).symm
  -- what has been added: the points that can be reached from r and from which r can be reached
  have hcls : ∀ x, x ∈ nw ↔ Mut succ r x := by
    intro x
    constructor
    · intro hx
      obtain ⟨hxn, h1, h2⟩ := had.fresh x hx
      rcases hpath x h2 with h3 | h3
      · rw [h1] at h3; cases h3
      · refine ⟨?_, (h3.mono fun _ _ => trivial).turn hr hps' hrn⟩
        obtain ⟨a, ha, hA, hB⟩ := hseg i r hri
        have key : ∀ y, Rch rsucc (fun q => tk.getD q false = false) r y → y < n ∧ ∃ l, a ≤ l ∧ l ≤ i ∧ ord[l]? = some y := by
          intro y hy
          induction hy with
          | refl _ => exact ⟨hrn, i, ha, Nat.le_refl _, hri⟩
          | @step b c hb hc hok ih =>
            obtain ⟨hbn, l, hl1, hl2, hl3⟩ := ih
            have hcn := hr b hbn c hc
            refine ⟨hcn, ?_⟩
            obtain ⟨m, hm, hmc⟩ := List.mem_iff_getElem.1 (hall c hcn)
            have hm? : ord[m]? = some c := by rw [List.getElem?_eq_getElem hm, hmc]
            have hmi : m ≤ i := by
              rcases Nat.lt_or_ge i m with h5 | h5
              · have := hlate m c h5 hm?
                rw [hok] at this
                cases this
              · exact h5
            refine ⟨m, ?_, hmi, hm?⟩
            rcases Nat.lt_or_ge m a with h5 | h5
            · exact absurd ((hps' b c hbn hcn).1 hc) (hB c (.inr ⟨m, h5, hm?⟩) l b hl1 hl2 hl3)
            · exact h5
        obtain ⟨-, l, hl1, hl2, hl3⟩ := key x h3
        exact hA l x hl1 hl2 hl3
    · intro hm
      have key : ∀ y, Rch rsucc (fun _ => True) r y → Rch succ (fun _ => True) r y → y < n ∧ t.1.getD y false = true ∧ tk.getD y false = false := by
        intro y hy
        have hun : ∀ z, z < n → Rch succ (fun _ => True) r z → Rch succ (fun _ => True) z r → tk.getD z false = false := fun z hz h1 h2 => by
          cases hq : tk.getD z false with
          | false => rfl
          | true => have := h.mutc z r hz hq ⟨h2, h1⟩; rw [hrt] at this; cases this
        induction hy with
        | refl _ => exact fun _ => ⟨hrn, hstart, hrt⟩
        | @step b c hb hc _ ih =>
          intro hrc
          have hbn := hb.lt hr hrn
          have hcn := hr b hbn c hc
          obtain ⟨-, h2, h3⟩ := ih (.step hrc ((hps' b c hbn hcn).1 hc) trivial)
          refine ⟨hcn, ?_, hun c hcn hrc ((Rch.step hb hc trivial).turn hr hps' hrn)⟩
          rcases hsaid.closed b h2 with h4 | h4
          · simp only at h4; rw [h3] at h4; cases h4
          · rcases h4 c hc with h5 | h5
            · omega
            · exact h5
      have hxn := hm.1.lt hs hrn
      obtain ⟨-, h1, h2⟩ := key x (hm.2.turn hs hps hxn) hm.1
      rcases had.only x h1 with h3 | h3
      · simp only at h3; rw [h2] at h3; cases h3
      · exact h3
  rw [hnw]
  refine ⟨⟨had.len.trans h.len, fun x y hx hxt hxy => ?_, fun x => ?_, fun g hg x hx => ?_, fun g hg => ?_, fun g hg => ?_, ?_⟩, hstart, had.keep⟩
  · rcases had.only x hxt with h1 | h1
    · exact had.keep y (h.mutc x y hx h1 hxy)
    · exact (had.fresh y ((hcls y).2 (((hcls x).1 h1).trans hxy))).2.2
  · constructor
    · intro hx
      rcases had.only x hx with h1 | h1
      · obtain ⟨g, hg, hxg⟩ := (h.mem x).1 h1
        exact ⟨g, List.mem_append_left _ hg, hxg⟩
      · exact ⟨sortN nw, by simp, sortN_mem.2 h1⟩
    · rintro ⟨g, hg, hxg⟩
      rcases List.mem_append.1 hg with hg | hg
      · exact had.keep x ((h.mem x).2 ⟨g, hg, hxg⟩)
      · simp at hg
        subst hg
        exact (had.fresh x (sortN_mem.1 hxg)).2.2
  · rcases List.mem_append.1 hg with hg | hg
    · exact h.cls g hg x hx
    · simp at hg
      subst hg
      have hxw := sortN_mem.1 hx
      refine ⟨(had.fresh x hxw).1, fun y => ?_⟩
      rw [sortN_mem, hcls y]
      have hrx := (hcls x).1 hxw
      exact ⟨fun h => hrx.symm.trans h, fun h => hrx.trans h⟩
  · rcases List.mem_append.1 hg with hg | hg
    · exact h.ne g hg
    · simp at hg
      subst hg
      intro he
      have : r ∈ sortN nw := sortN_mem.2 ((hcls r).2 (Mut.refl _ _))
      rw [he] at this
      cases this
  · rcases List.mem_append.1 hg with hg | hg
    · exact h.sorted g hg
    · simp at hg
      subst hg
      exact sortN_lt had.nodup
  · refine List.pairwise_append.2 ⟨h.apart, by simp, fun a ha b hb x hx hxb => ?_⟩
    simp at hb
    subst hb
    have h1 := (had.fresh x (sortN_mem.1 hxb)).2.1
    have h2 := (h.mem x).2 ⟨a, ha, hx⟩
    simp only at h1
    rw [h2] at h1
    cases h1

theorem grps_spec {n : Nat} {succ rsucc : Nat → List Nat} (hs : ∀ p, p < n → ∀ x ∈ succ p, x < n) (hr : ∀ p, p < n → ∀ x ∈ rsucc p, x < n) (hps : ∀ p q, p < n → q < n → (q ∈ succ p ↔ p ∈ rsucc q)) {ord : List Nat} (hord : ∀ x ∈ ord, x < n) (hall : ∀ x, x < n → x ∈ ord) (hseg : SegN succ [] ord)
    {k : Nat} (hk : n < k) : ∀ (m : Nat), m ≤ ord.length → ∀ (tk : List Bool) (gs : List (List Nat)), GInv succ n tk gs → (∀ j x, m ≤ j → ord[j]? = some x → tk.getD x false = true) →
      ∃ r, foldO (grpStep rsucc k) (ord.take m).reverse (tk, gs) = some r ∧ GInv succ n r.1 r.2 ∧ ∀ x ∈ ord, r.1.getD x false = true
  | 0, _, tk, gs, h, hl => ⟨(tk, gs), rfl, h, fun x hx => by
      obtain ⟨j, hj, rfl⟩ := List.mem_iff_getElem.1 hx
      exact hl j _ (Nat.zero_le _) (List.getElem?_eq_getElem hj)⟩
  | m + 1, hm, tk, gs, h, hl => by
    have hmo : m < ord.length := by omega
    have hmn := hord _ (List.getElem_mem hmo)
    rw [List.take_succ_eq_append_getElem hmo, List.reverse_append, List.reverse_cons, List.reverse_nil, List.nil_append, List.cons_append, List.nil_append]
    by_cases hrt : tk.getD ord[m] false = true
    · obtain ⟨r, h1, h2, h3⟩ := grps_spec hs hr hps hord hall hseg hk m (by omega) tk gs h (fun j x hj hx => by
        by_cases e : j = m
        · subst e
          rw [List.getElem?_eq_getElem hmo] at hx
          cases hx
          exact hrt
        · exact hl j x (by omega) hx)
      refine ⟨r, ?_, h2, h3⟩
      simp only [foldO, grpStep]
      rw [if_pos hrt]
      exact h1
    · have hrf : tk.getD ord[m] false = false := by simpa using hrt
      obtain ⟨t, ht⟩ := grpV_some hr k (tk, []) ord[m] h.len hmn (Nat.lt_of_le_of_lt (List.count_le_length) (by rw [h.len]; exact hk))
      obtain ⟨h1, h2, h3⟩ := grp_step hs hr hps hord hall hseg h (List.getElem?_eq_getElem hmo) (fun j x hj hx => hl j x (by omega) hx) hrf ht
      obtain ⟨r, h4, h5, h6⟩ := grps_spec hs hr hps hord hall hseg hk m (by omega) t.1 (gs ++ [sortN t.2]) h1 (fun j x hj hx => by
        by_cases e : j = m
        · subst e
          rw [List.getElem?_eq_getElem hmo] at hx
          cases hx
          exact h2
        · exact h3 x (hl j x (by omega) hx))
      refine ⟨r, ?_, h5, h6⟩
      simp only [foldO, grpStep]
      rw [if_neg hrt, ht]
      exact h4

/-- The groups of a graph, in the order of their least points. -/
structure IsGroups (succ : Nat → List Nat) (n : Nat) (gs : List (List Nat)) : Prop where
  all : ∀ x, x < n → ∃ g ∈ gs, x ∈ g
  cls : ∀ g ∈ gs, ∀ x ∈ g, x < n ∧ ∀ y, y ∈ g ↔ Mut succ x y
  ne : ∀ g ∈ gs, g ≠ []
  sorted : ∀ g ∈ gs, g.Pairwise (· < ·)
  heads : gs.Pairwise fun a b => a.getD 0 0 < b.getD 0 0

theorem compareM_heads {x y : Nat} {xs ys : List Nat} (h : ¬ compareM (y :: ys) (x :: xs) < 0) (hne : x ≠ y) : x < y := by
  unfold compareM at h
  split at h
  · exact absurd (by omega) h
  · rename_i h1
    omega

theorem sortG_heads {n : Nat} {succ : Nat → List Nat} {tk : List Bool} {gs : List (List Nat)} (h : GInv succ n tk gs) (hall : ∀ x, x < n → tk.getD x false = true) : IsGroups succ n (sortG gs) := by
  have hm : ∀ g, g ∈ sortG gs ↔ g ∈ gs := fun g => List.mem_mergeSort
  have hp := List.mergeSort_perm gs fun a b => !decide (compareM b a < 0)
  have ha : (sortG gs).Pairwise fun a b => ∀ x ∈ a, x ∉ b := (hp.pairwise_iff (fun {a b} h x hx hb => h x hb hx)).2 h.apart
  have hsrt : (sortG gs).Pairwise fun a b => (!decide (compareM b a < 0)) = true := by
    refine List.pairwise_mergeSort (fun a b c h1 h2 => ?_) (fun a b => ?_) gs
    · simp only [Bool.not_eq_true', decide_eq_false_iff_not] at *
      intro h3
      by_cases hab : compareM a b < 0
      · exact h2 (compareM_trans c a b h3 hab)
      · have := compareM_eq a b hab h1
        subst this
        exact h2 h3
    · simp only [Bool.or_eq_true, Bool.not_eq_true', decide_eq_false_iff_not]
      by_cases hab : compareM a b < 0
      · refine .inl fun h3 => ?_
        have := compareM_trans a b a hab h3
        rw [compareM_lt_irrefl] at this
        omega
      · exact .inr hab
  refine ⟨fun x hx => ?_, fun g hg => h.cls g ((hm g).1 hg), fun g hg => h.ne g ((hm g).1 hg), fun g hg => h.sorted g ((hm g).1 hg), ?_⟩
  · obtain ⟨g, hg, hxg⟩ := (h.mem x).1 (hall x hx)
    exact ⟨g, (hm g).2 hg, hxg⟩
  · have hne : ∀ g ∈ sortG gs, g ≠ [] := fun g hg => h.ne g ((hm g).1 hg)
    have h3 := List.pairwise_and_iff.2 ⟨hsrt, ha⟩
    refine List.Pairwise.imp_of_mem (fun {a b} hma hmb hab => ?_) h3
    obtain ⟨x, xs, rfl⟩ := List.exists_cons_of_ne_nil (hne a hma)
    obtain ⟨y, ys, rfl⟩ := List.exists_cons_of_ne_nil (hne b hmb)
    have h4 := hab.1
    simp only [Bool.not_eq_true', decide_eq_false_iff_not] at h4
    have hxy : x ≠ y := by
      rintro rfl
      exact hab.2 x (by simp) (by simp)
    simpa using compareM_heads h4 hxy

/-- The search for groups comes to an end, and finds the groups. -/
theorem groups_total {n : Nat} {succ rsucc : Nat → List Nat} (hs : ∀ p, p < n → ∀ x ∈ succ p, x < n) (hr : ∀ p, p < n → ∀ x ∈ rsucc p, x < n) (hps : ∀ p q, p < n → q < n → (q ∈ succ p ↔ p ∈ rsucc q)) {k : Nat} (hk : n < k) {t : List Bool × List Nat}
    (h : foldO (dfsV succ (-1) k) (List.range n) (List.replicate n false, []) = some t) (hn : 0 < n) :
    ∃ r, grpsF rsucc k n t.2 = some r ∧ IsGroups succ n (sortG r.2) ∧ r.2.Nodup ∧ 0 < r.2.length := by
  have hx : ∀ x ∈ List.range n, x < n := fun x hx => List.mem_range.1 hx
  obtain ⟨h1, h2, h3, h4, h5⟩ := dfs_order hs hx h
  have h6 := dfs_reach hs hx h
  have hall : ∀ x, x < n → x ∈ t.2 := fun x hx => (h5 x).1 ((h6 x).2 ⟨x, List.mem_range.2 hx, .refl (by omega)⟩)
  obtain ⟨-, -, nw, hnw, hseg⟩ := foldO_seg (n := n) (fun s x t h1 h2 h3 h4 => dfsV_seg hs k s x t h1 h2 h3 h4) (List.range n) (List.replicate n false, []) t (by simp) hx (fun z hz => by simp at hz) h
  have hnw' : t.2 = nw := by simpa using hnw
  rw [← hnw'] at hseg
  have hf : ∀ x, (List.replicate n false).getD x false = true → False := fun x h => by rw [List.getD_eq_getElem?_getD, List.getElem?_replicate] at h; split at h <;> cases h
  have h0 : GInv succ n (List.replicate n false) [] := ⟨by simp, fun x y _ hx => (hf x hx).elim, fun x => ⟨fun hx => (hf x hx).elim, fun ⟨g, hg, _⟩ => (List.not_mem_nil hg).elim⟩, fun g hg => (List.not_mem_nil hg).elim, fun g hg => (List.not_mem_nil hg).elim, fun g hg => (List.not_mem_nil hg).elim, .nil⟩
  obtain ⟨r, hr1, hr2, hr3⟩ := grps_spec hs hr hps h2 hall hseg hk t.2.length (Nat.le_refl _) _ _ h0 (fun j x hj hx => by rw [List.getElem?_eq_none hj] at hx; cases hx)
  rw [List.take_length] at hr1
  have hcov : ∀ x, x < n → r.1.getD x false = true := fun x hx => hr3 x (hall x hx)
  refine ⟨r, hr1, sortG_heads hr2 hcov, ?_, ?_⟩
  · refine List.Pairwise.imp_of_mem (fun {a b} hma hmb hab => ?_) hr2.apart
    rintro rfl
    obtain ⟨x, xs, rfl⟩ := List.exists_cons_of_ne_nil (hr2.ne a hma)
    exact hab x (by simp) (by simp)
  · obtain ⟨g, hg, _⟩ := (hr2.mem 0).1 (hcov 0 hn)
    exact List.length_pos_of_mem hg

end Go.Proofs.YthaampinmelgaaaGreatDoor

/-! Plain laws: the search for a cycle finds one exactly if there is one. No program here. -/
namespace Go.Proofs.YthaampinmelgaaaGreatDoor

/-- The points to which edges lead that are not in a set. -/
def sub (s : Shp) (S : Nat → Bool) (p : Nat) : List Nat := ((s.out.getD p []).filter fun e => !S e).map fun e => s.tg.getD e 0

theorem mem_sub {s : Shp} {S : Nat → Bool} {p y : Nat} : y ∈ sub s S p ↔ ∃ e ∈ s.out.getD p [], S e = false ∧ s.tg.getD e 0 = y := by
  unfold sub
  rw [List.mem_map]
  constructor
  · rintro ⟨e, he, rfl⟩
    obtain ⟨h1, h2⟩ := List.mem_filter.1 he
    exact ⟨e, h1, by simpa using h2, rfl⟩
  · rintro ⟨e, h1, h2, rfl⟩
    exact ⟨e, List.mem_filter.2 ⟨h1, by simp [h2]⟩, rfl⟩

structure AInv (s : Shp) (S : Nat → Bool) (st : List Nat) : Prop where
  len : st.length = s.n
  val : ∀ x, st.getD x 0 ≤ 2
  closed : ∀ x, st.getD x 0 = 2 → ∀ y ∈ sub s S x, st.getD y 0 = 2
  acyc : ∀ x, st.getD x 0 = 2 → ∀ y ∈ sub s S x, ¬ Rch (sub s S) (fun _ => True) y x

theorem AInv.reach {s : Shp} {S : Nat → Bool} {st : List Nat} (h : AInv s S st) {x y : Nat} (hr : Rch (sub s S) (fun _ => True) x y) (hx : st.getD x 0 = 2) : st.getD y 0 = 2 := by
  induction hr with
  | refl _ => exact hx
  | step _ h1 _ ih => exact h.closed _ ih _ h1

/-- A cycle that can be reached. -/
def Cyc (s : Shp) (S : Nat → Bool) (p : Nat) : Prop := ∃ x y, Rch (sub s S) (fun _ => True) p x ∧ y ∈ sub s S x ∧ Rch (sub s S) (fun _ => True) y x

structure AYes (s : Shp) (S : Nat → Bool) (st st' : List Nat) : Prop where
  inv : AInv s S st'
  gray : ∀ x, st'.getD x 0 = 1 ↔ st.getD x 0 = 1
  black : ∀ x, st.getD x 0 = 2 → st'.getD x 0 = 2

theorem getD_set_n (l : List Nat) (p v x : Nat) : (l.set p v).getD x 0 = if p = x ∧ p < l.length then v else l.getD x 0 := by
  rw [List.getD_eq_getElem?_getD, List.getD_eq_getElem?_getD, List.getElem?_set]
  by_cases h : p = x
  · subst h
    by_cases h2 : p < l.length <;> simp [h2]
  · simp [h]

theorem acyL_spec {s : Shp} {S : Nat → Bool} {f : List Nat → Nat → Option (List Nat × Bool)} (hto : ∀ p, ∀ y ∈ sub s S p, y < s.n)
    (hf : ∀ st p r, AInv s S st → p < s.n → (∀ g, st.getD g 0 = 1 → Rch (sub s S) (fun _ => True) g p) → f st p = some r → (r.2 = true → AYes s S st r.1 ∧ r.1.getD p 0 = 2) ∧ (r.2 = false → st.getD p 0 = 1 ∨ Cyc s S p)) (x : Nat) :
    ∀ (es : List Nat) (st : List Nat) (r : List Nat × Bool), (∀ e ∈ es, e ∈ s.out.getD x []) → AInv s S st → (∀ g, st.getD g 0 = 1 → Rch (sub s S) (fun _ => True) g x) → acyL s S f es st = some r →
      (r.2 = true → AYes s S st r.1 ∧ ∀ e ∈ es, S e = false → r.1.getD (s.tg.getD e 0) 0 = 2) ∧ (r.2 = false → Cyc s S x)
  | [], st, r, _, h, _, hr => by
    cases hr
    exact ⟨fun _ => ⟨⟨h, fun _ => Iff.rfl, fun _ h => h⟩, fun e he => by cases he⟩, fun h => by cases h⟩
  | e :: es, st, r, he, h, hg, hr => by
    have hes : ∀ e ∈ es, e ∈ s.out.getD x [] := fun e' h' => he e' (List.mem_cons_of_mem _ h')
    unfold acyL at hr
    by_cases hS : S e = true
    · rw [if_pos hS] at hr
      obtain ⟨h1, h2⟩ := acyL_spec hto hf x es st r hes h hg hr
      refine ⟨fun ht => ⟨(h1 ht).1, fun e' he' hS' => ?_⟩, h2⟩
      rcases List.mem_cons.1 he' with rfl | he'
      · rw [hS] at hS'; cases hS'
      · exact (h1 ht).2 e' he' hS'
    · have hSf : S e = false := by simpa using hS
      have hedge : s.tg.getD e 0 ∈ sub s S x := mem_sub.2 ⟨e, he e List.mem_cons_self, hSf, rfl⟩
      rw [if_neg hS] at hr
      cases hq : f st (s.tg.getD e 0) with
      | none => rw [hq] at hr; cases hr
      | some u =>
        rw [hq] at hr
        simp only [Option.bind_some] at hr
        obtain ⟨a1, a2⟩ := hf st _ u h (hto _ _ hedge) (fun g hgg => .step (hg g hgg) hedge trivial) hq
        by_cases hu : u.2 = true
        · rw [if_pos hu] at hr
          obtain ⟨b1, b2⟩ := a1 hu
          obtain ⟨h1, h2⟩ := acyL_spec hto hf x es u.1 r hes b1.inv (fun g hgg => hg g ((b1.gray g).1 hgg)) hr
          refine ⟨fun ht => ?_, h2⟩
          obtain ⟨c1, c2⟩ := h1 ht
          refine ⟨⟨c1.inv, fun y => (c1.gray y).trans (b1.gray y), fun y hy => c1.black y (b1.black y hy)⟩, fun e' he' hS' => ?_⟩
          rcases List.mem_cons.1 he' with rfl | he'
          · exact c1.black _ b2
          · exact c2 e' he' hS'
        · have huf : u.2 = false := by simpa using hu
          rw [if_neg hu] at hr
          cases hr
          refine ⟨fun h => by simp at h, fun _ => ?_⟩
          rcases a2 huf with h3 | ⟨y, z, h3, h4, h5⟩
          · exact ⟨x, _, .refl trivial, hedge, hg _ h3⟩
          · exact ⟨y, z, Rch.head hedge trivial h3, h4, h5⟩

theorem acyF_spec {s : Shp} {S : Nat → Bool} (hto : ∀ p, ∀ y ∈ sub s S p, y < s.n) : ∀ (k : Nat) (st : List Nat) (p : Nat) (r : List Nat × Bool), AInv s S st → p < s.n → (∀ g, st.getD g 0 = 1 → Rch (sub s S) (fun _ => True) g p) → acyF s S k st p = some r →
    (r.2 = true → AYes s S st r.1 ∧ r.1.getD p 0 = 2) ∧ (r.2 = false → st.getD p 0 = 1 ∨ Cyc s S p)
  | 0, _, _, _, _, _, _, h => by simp [acyF] at h
  | k + 1, st, p, r, hi, hp, hg, h => by
    unfold acyF at h
    by_cases h0 : st.getD p 0 ≠ 0
    · rw [if_pos h0] at h
      cases h
      refine ⟨fun h => ?_, fun h => ?_⟩
      · simp only [beq_iff_eq] at h
        exact ⟨⟨hi, fun _ => Iff.rfl, fun _ h => h⟩, h⟩
      · simp only [beq_eq_false_iff_ne] at h
        have := hi.val p
        exact .inl (by omega)
    · rw [if_neg h0] at h
      have h0' : st.getD p 0 = 0 := by omega
      obtain ⟨u, hu, rfl⟩ := Option.map_eq_some_iff.1 h
      have hset : ∀ x, (st.set p 1).getD x 0 = if p = x then 1 else st.getD x 0 := fun x => by
        rw [getD_set_n]
        by_cases e : p = x
        · rw [if_pos ⟨e, by rw [hi.len]; exact hp⟩, if_pos e]
        · rw [if_neg (fun h => e h.1), if_neg e]
      have hi1 : AInv s S (st.set p 1) := by
        refine ⟨by simpa using hi.len, fun x => ?_, fun x hx y hy => ?_, fun x hx y hy => ?_⟩
        · rw [hset]
          split
          · omega
          · exact hi.val x
        · rw [hset] at hx ⊢
          split at hx
          · omega
          · have := hi.closed x hx y hy
            split
            · rename_i e; subst e; omega
            · exact this
        · rw [hset] at hx
          split at hx
          · omega
          · exact hi.acyc x hx y hy
      have hg1 : ∀ g, (st.set p 1).getD g 0 = 1 → Rch (sub s S) (fun _ => True) g p := fun g hgg => by
        rw [hset] at hgg
        split at hgg
        · rename_i e; subst e; exact .refl trivial
        · exact hg g hgg
      obtain ⟨h1, h2⟩ := acyL_spec hto (fun st p r a b c d => acyF_spec hto k st p r a b c d) p (s.out.getD p []) (st.set p 1) u (fun _ h => h) hi1 hg1 hu
      by_cases hu2 : u.2 = true
      · rw [if_pos hu2]
        refine ⟨fun _ => ?_, fun h => by simp at h⟩
        obtain ⟨a1, a2⟩ := h1 hu2
        have hul := a1.inv.len
        have hset2 : ∀ x, (u.1.set p 2).getD x 0 = if p = x then 2 else u.1.getD x 0 := fun x => by
          rw [getD_set_n]
          by_cases e : p = x
          · rw [if_pos ⟨e, by omega⟩, if_pos e]
          · rw [if_neg (fun h => e h.1), if_neg e]
        have hup : u.1.getD p 0 = 1 := (a1.gray p).2 (by rw [hset, if_pos rfl])
        have hsub : ∀ y ∈ sub s S p, u.1.getD y 0 = 2 := fun y hy => by
          obtain ⟨e, he, hSe, rfl⟩ := mem_sub.1 hy
          exact a2 e he hSe
        have hno : ∀ y ∈ sub s S p, ¬ Rch (sub s S) (fun _ => True) y p := fun y hy hr => by
          have := a1.inv.reach hr (hsub y hy)
          omega
        refine ⟨⟨⟨by simpa using hul, fun x => ?_, fun x hx y hy => ?_, fun x hx y hy => ?_⟩, fun x => ?_, fun x hx => ?_⟩, by rw [hset2, if_pos rfl]⟩
        · rw [hset2]
          split
          · omega
          · exact a1.inv.val x
        · rw [hset2] at hx ⊢
          split
          · rfl
          · split at hx
            · rename_i e; subst e; exact hsub y hy
            · exact a1.inv.closed x hx y hy
        · rw [hset2] at hx
          split at hx
          · rename_i e; subst e; exact hno y hy
          · exact a1.inv.acyc x hx y hy
        · rw [hset2]
          by_cases e : p = x
          · subst e; rw [if_pos rfl]; omega
          · rw [if_neg e, a1.gray x, hset, if_neg e]
        · rw [hset2]
          split
          · rfl
          · rename_i e
            exact a1.black x (by rw [hset, if_neg e]; exact hx)
      · rw [if_neg hu2]
        have huf : u.2 = false := by simpa using hu2
        exact ⟨fun h => by simp at h, fun _ => .inr (h2 huf)⟩

/-- What is seen stays seen. -/
def Less (st st' : List Nat) : Prop := st'.length = st.length ∧ ∀ x, st'.getD x 0 = 0 → st.getD x 0 = 0
theorem Less.trans {a b c : List Nat} (h : Less a b) (k : Less b c) : Less a c := ⟨k.1.trans h.1, fun x hx => h.2 x (k.2 x hx)⟩

theorem count_zero_le : ∀ {a b : List Nat}, a.length = b.length → (∀ x, b.getD x 0 = 0 → a.getD x 0 = 0) → b.count 0 ≤ a.count 0
  | [], [], _, _ => Nat.le_refl _
  | [], _ :: _, h, _ => by simp at h
  | _ :: _, [], h, _ => by simp at h
  | x :: xs, y :: ys, h, hk => by
    have ih := count_zero_le (a := xs) (b := ys) (by simpa using h) (fun i hi => by have := hk (i + 1); simpa using this (by simpa using hi))
    have h0 := hk 0
    simp at h0
    rw [List.count_cons, List.count_cons]
    by_cases hy : y = 0
    · subst hy
      have := h0 rfl
      subst this
      simp; omega
    · have : (y == 0) = false := by simpa using hy
      rw [this]
      simp only [Bool.false_eq_true, if_false]
      split <;> omega

theorem count_zero_set : ∀ (a : List Nat) (p : Nat), p < a.length → a.getD p 0 = 0 → (a.set p 1).count 0 + 1 = a.count 0
  | [], p, h, _ => by simp at h
  | x :: xs, 0, _, h => by
    simp at h
    subst h
    simp
  | x :: xs, p + 1, h, hp => by
    have ih := count_zero_set xs p (by simpa using h) (by simpa using hp)
    rw [List.set_cons_succ, List.count_cons, List.count_cons]
    omega

theorem acyL_some {s : Shp} {S : Nat → Bool} {f : List Nat → Nat → Option (List Nat × Bool)} {n c : Nat} (hf : ∀ st p, st.length = n → p < n → st.count 0 ≤ c → ∃ r, f st p = some r ∧ Less st r.1) : ∀ (es st : List Nat), (∀ e ∈ es, s.tg.getD e 0 < n) → st.length = n → st.count 0 ≤ c →
    ∃ r, acyL s S f es st = some r ∧ Less st r.1
  | [], st, _, _, _ => ⟨_, rfl, rfl, fun _ h => h⟩
  | e :: es, st, he, hl, hc => by
    have hes : ∀ e ∈ es, s.tg.getD e 0 < n := fun e' h' => he e' (List.mem_cons_of_mem _ h')
    unfold acyL
    by_cases hS : S e = true
    · rw [if_pos hS]
      exact acyL_some hf es st hes hl hc
    · rw [if_neg hS]
      obtain ⟨u, hu, hlu⟩ := hf st _ hl (he e List.mem_cons_self) hc
      rw [hu]
      simp only [Option.bind_some]
      by_cases hu2 : u.2 = true
      · rw [if_pos hu2]
        obtain ⟨r, hr, hlr⟩ := acyL_some hf es u.1 hes (hlu.1.trans hl) (Nat.le_trans (count_zero_le hlu.1.symm hlu.2) hc)
        exact ⟨r, hr, hlu.trans hlr⟩
      · rw [if_neg hu2]
        exact ⟨_, rfl, hlu⟩

theorem acyF_some {s : Shp} {S : Nat → Bool} (hout : ∀ p, ∀ e ∈ s.out.getD p [], s.tg.getD e 0 < s.n) : ∀ (k : Nat) (st : List Nat) (p : Nat), st.length = s.n → p < s.n → st.count 0 < k → ∃ r, acyF s S k st p = some r ∧ Less st r.1
  | 0, _, _, _, _, h => by omega
  | k + 1, st, p, hl, hp, hc => by
    unfold acyF
    by_cases h0 : st.getD p 0 ≠ 0
    · rw [if_pos h0]
      exact ⟨_, rfl, rfl, fun _ h => h⟩
    · rw [if_neg h0]
      have h1 := count_zero_set st p (by omega) (by omega)
      obtain ⟨u, hu, hlu⟩ := acyL_some (s := s) (S := S) (n := s.n) (c := k - 1) (fun st p a b c => acyF_some hout k st p a b (by omega)) (s.out.getD p []) (st.set p 1) (hout p) (by simpa using hl) (by omega)
      rw [hu]
      have hle : Less st u.1 := by
        refine ⟨hlu.1.trans (by simp), fun x hx => ?_⟩
        have := hlu.2 x hx
        rw [getD_set_n] at this
        split at this
        · omega
        · exact this
      by_cases hu2 : u.2 = true
      · refine ⟨_, rfl, ?_⟩
        simp only [hu2, if_true]
        refine ⟨by simpa using hle.1, fun x hx => ?_⟩
        rw [getD_set_n] at hx
        split at hx
        · omega
        · exact hle.2 x hx
      · refine ⟨_, rfl, ?_⟩
        simp only [hu2]
        exact hle

/-- The search for a cycle comes to an end, and says whether there is one. -/
theorem acy_total {s : Shp} {S : Nat → Bool} (hout : ∀ p, ∀ e ∈ s.out.getD p [], s.tg.getD e 0 < s.n) {k p : Nat} (hp : p < s.n) (hk : s.n < k) :
    ∃ r, acyF s S k (List.replicate s.n 0) p = some r ∧ (r.2 = true ↔ ¬ Cyc s S p) := by
  obtain ⟨r, hr, -⟩ := acyF_some hout k (List.replicate s.n 0) p (by simp) hp (Nat.lt_of_le_of_lt List.count_le_length (by simpa using hk))
  have h0 : ∀ x, (List.replicate s.n 0).getD x 0 = 0 := fun x => by rw [List.getD_eq_getElem?_getD, List.getElem?_replicate]; split <;> rfl
  have hto : ∀ p, ∀ y ∈ sub s S p, y < s.n := fun p y hy => by
    obtain ⟨e, he, -, rfl⟩ := mem_sub.1 hy
    exact hout p e he
  have hi : AInv s S (List.replicate s.n 0) := ⟨by simp, fun x => by rw [h0]; omega, fun x hx => by rw [h0] at hx; omega, fun x hx => by rw [h0] at hx; omega⟩
  obtain ⟨h1, h2⟩ := acyF_spec hto k _ p r hi hp (fun g hg => by rw [h0] at hg; omega) hr
  refine ⟨r, hr, fun ht => ?_, fun hn => ?_⟩
  · obtain ⟨a1, a2⟩ := h1 ht
    rintro ⟨x, y, hx, hy, hyx⟩
    exact a1.inv.acyc x (a1.inv.reach hx a2) y hy hyx
  · cases hr2 : r.2 with
    | true => rfl
    | false =>
      rcases h2 hr2 with h3 | h3
      · rw [h0] at h3; omega
      · exact absurd h3 hn

end Go.Proofs.YthaampinmelgaaaGreatDoor

/-! What the plain functions come to at the example that every law looks at. No program here. -/
namespace Go.Proofs.YthaampinmelgaaaGreatDoor

def ex5 : List (Nat × Nat) := [(0, 1), (1, 2), (2, 1), (1, 3), (3, 4)]
def ex6 : List (Nat × Nat) := ex5 ++ [(0, 2)]
def all5 : List Bool := [true, true, true, true, true]

theorem ex5_ok : GOk 5 4 ex5 := ⟨by decide, by decide, by decide, by decide, by decide, by decide⟩
theorem ex6_ok : GOk 5 4 ex6 := ⟨by decide, by decide, by decide, by decide, by decide, by decide⟩
theorem ex5_all : foldO (dfsV (shapeOf 5 ex5).next (-1) 20) (List.range 5) (List.replicate 5 false, []) = some (all5, [2, 4, 3, 1, 0]) := by decide
theorem ex5_dfs : foldO (dfsV (shapeOf 5 ex5).next (-1) 20) [0] (List.replicate 5 false, []) = some (all5, [2, 4, 3, 1, 0]) := by decide
theorem ex5_dom : domF (shapeOf 5 ex5) 20 20 [2, 4, 3, 1, 0] = some [-1, 0, 1, 1, 3] := by decide
theorem ex5_rdfs : foldO (dfsV ((shapeOf 5 ex5).rev 4).next (-1) 20) [4] (List.replicate 5 false, []) = some (all5, [0, 2, 1, 3, 4]) := by decide
theorem ex5_pdom : domF ((shapeOf 5 ex5).rev 4) 20 20 [0, 2, 1, 3, 4] = some [1, 3, 1, 4, -1] := by decide
theorem ex5_back : backF (shapeOf 5 ex5) [-1, 0, 1, 1, 3] all5 20 = some [2] := by decide
theorem ex5_tails : tailsF (shapeOf 5 ex5) [2] = [[], [2], [], [], []] := by decide
theorem ex5_loops : loopsF (shapeOf 5 ex5) all5 [2] 20 = some [(1, [1, 2])] := by decide
theorem ex5_acy : acyF (shapeOf 5 ex5) (inL [2]) 20 (List.replicate 5 0) 0 = some ([2, 2, 2, 2, 2], true) := by decide
theorem ex6_dfs : foldO (dfsV (shapeOf 5 ex6).next (-1) 20) [0] (List.replicate 5 false, []) = some (all5, [2, 4, 3, 1, 0]) := by decide
theorem ex6_dom : domF (shapeOf 5 ex6) 20 20 [2, 4, 3, 1, 0] = some [-1, 0, 0, 1, 3] := by decide
theorem ex6_back : backF (shapeOf 5 ex6) [-1, 0, 0, 1, 3] all5 20 = some [] := by decide
theorem ex6_acy : acyF (shapeOf 5 ex6) (inL []) 20 (List.replicate 5 0) 0 = some ([1, 1, 1, 0, 0], false) := by decide

theorem sortN_of {l : List Nat} (h : l.Pairwise fun a b => decide (a ≤ b) = true) : sortN l = l := List.mergeSort_of_pairwise h
theorem step_old {succ : Nat → List Nat} {k : Nat} {st : List Bool × List (List Nat)} {p : Nat} (h : st.1.getD p false = true) : grpStep succ k st p = some st := by
  unfold grpStep; rw [if_pos h]
theorem step_new {succ : Nat → List Nat} {k : Nat} {st : List Bool × List (List Nat)} {p : Nat} {t : List Bool × List Nat} (h : st.1.getD p false = false) (ht : grpV succ k (st.1, []) p = some t) (hs : t.2.Pairwise fun a b => decide (a ≤ b) = true) :
    grpStep succ k st p = some (t.1, st.2 ++ [t.2]) := by
  unfold grpStep; rw [if_neg (by rw [h]; simp), ht, Option.map_some, sortN_of hs]
theorem ex5_groups : grpsF ((shapeOf 5 ex5).rev 0).next 20 5 [2, 4, 3, 1, 0] = some (all5, [[0], [1, 2], [3], [4]]) := by
  unfold grpsF
  show foldO _ [0, 1, 3, 4, 2] _ = _
  unfold foldO
  rw [step_new (t := ([true, false, false, false, false], [0])) (by decide) (by decide) (by decide), Option.bind_some]
  unfold foldO
  rw [step_new (t := ([true, true, true, false, false], [1, 2])) (by decide) (by decide) (by decide), Option.bind_some]
  unfold foldO
  rw [step_new (t := ([true, true, true, true, false], [3])) (by decide) (by decide) (by decide), Option.bind_some]
  unfold foldO
  rw [step_new (t := ([true, true, true, true, true], [4])) (by decide) (by decide) (by decide), Option.bind_some]
  unfold foldO
  rw [step_old (by decide), Option.bind_some]
  rfl
theorem ex5_sorted : sortG [[0], [1, 2], [3], [4]] = [[0], [1, 2], [3], [4]] := List.mergeSort_of_pairwise (by decide)
theorem ex5_comp : compF (shapeOf 5 ex5) [[0], [1, 2], [3], [4]] = [3, 2, 2, 1, 0] := by decide

/-- The groups are short, whatever point they are begun at. -/
theorem GOk.grp_short {n : Nat} {exit : Int} {E : List (Nat × Nat)} (hg : GOk n exit E) {k : Nat} : ∀ (sn : List Bool) (p : Nat) (u : List Bool × List Nat), sn.length = n → grpV ((shapeOf n E).rev 0).next k (sn, []) p = some u → u.2.length ≤ 1000000 := by
  intro sn p u hl hu
  have h512 := hg.n512
  by_cases hp : p < n
  · obtain ⟨nw, had⟩ := grpV_adds (hg.next_rev_lt 0) k (sn, []) p u hl hp hu
    have h1 : u.2 = nw := by simpa using had.ord
    rw [h1]
    have := nodup_lt_length had.nodup (fun x hx => (had.fresh x hx).1)
    omega
  · cases k with
    | zero => simp [grpV] at hu
    | succ k =>
      have hnx : ((shapeOf n E).rev 0).next p = [] := by
        unfold Shp.next Shp.rev shapeOf
        simp only
        rw [List.getD_eq_getElem?_getD, List.getElem?_eq_none (by simp; omega)]
        rfl
      simp only [grpV] at hu
      split at hu
      · cases hu; simp
      · rw [hnx] at hu
        cases hu
        simp
theorem GOk.dfs_short {n : Nat} {exit : Int} {E : List (Nat × Nat)} (hg : GOk n exit E) {k : Nat} : ∀ (h : Int) l (t' : List Bool × List Nat), (∀ x ∈ l, x < n) → foldO (dfsV ((shapeOf n E).rev 0).next h k) l (List.replicate n false, []) = some t' → t'.2.length ≤ 1000000 := by
  intro h l t' hl ht
  have h512 := hg.n512
  have := (dfs_order (hg.next_rev_lt 0) hl ht).2.2.1
  omega

end Go.Proofs.YthaampinmelgaaaGreatDoor

/-! The plain model of the reference: Reached. No program here. -/
namespace Go.Proofs.YthaampinmelgaaaGreatDoor

/-- One edge of a round over all edges. -/
def rEdge (wo : Int) (st : List Bool × Bool) (x : Nat × Nat) : List Bool × Bool := if st.1.getD x.1 false && (!st.1.getD x.2 false && decide ((x.2 : Int) ≠ wo)) then (st.1.set x.2 true, true) else st
def rSweep (E : List (Nat × Nat)) (wo : Int) (o : List Bool) : List Bool × Bool := E.foldl (rEdge wo) (o, false)
def rLoop (E : List (Nat × Nat)) (wo : Int) : Nat → List Bool → Option (List Bool)
  | 0, _ => none
  | k + 1, o => if (rSweep E wo o).2 then rLoop E wo k (rSweep E wo o).1 else some (rSweep E wo o).1
/-- Which points can be reached from a point without another one. -/
def reachedF (n : Nat) (E : List (Nat × Nat)) (f : Nat) (wo : Int) (k : Nat) : Option (List Bool) := if (f : Int) = wo then some (List.replicate n false) else rLoop E wo k ((List.replicate n false).set f true)
theorem foldl_take_succ {σ : Type} (g : σ → Nat × Nat → σ) (E : List (Nat × Nat)) (m : Nat) (h : m < E.length) (s : σ) : (E.take (m + 1)).foldl g s = g ((E.take m).foldl g s) E[m] := by
  rw [List.take_succ_eq_append_getElem h, List.foldl_append]; rfl
theorem rEdge_length (wo : Int) (st : List Bool × Bool) (x : Nat × Nat) : (rEdge wo st x).1.length = st.1.length := by
  unfold rEdge; split <;> simp
theorem foldl_rEdge_length (wo : Int) : ∀ (l : List (Nat × Nat)) (st : List Bool × Bool), (l.foldl (rEdge wo) st).1.length = st.1.length
  | [], _ => rfl
  | x :: xs, st => by rw [List.foldl_cons, foldl_rEdge_length wo xs]; exact rEdge_length wo st x
theorem rEdge_no {wo : Int} {o : List Bool} {mb : Bool} {p q : Nat} (h : o.getD p false = false ∨ o.getD q false = true ∨ (q : Int) = wo) : rEdge wo (o, mb) (p, q) = (o, mb) := by
  unfold rEdge
  rw [if_neg]
  simp only [Bool.and_eq_true, Bool.not_eq_true', decide_eq_true_eq]
  rintro ⟨h1, h2, h3⟩
  rcases h with h | h | h
  · rw [h1] at h; cases h
  · rw [h2] at h; cases h
  · exact h3 h
/-- What is asked of a round over all edges: it may be the last one. -/
def RRel (E : List (Nat × Nat)) (wo : Int) (k : Nat) (b : Bool) (o' o : List Bool) : Prop := (b = true ∧ rLoop E wo k o' = some o) ∨ (b = false ∧ o' = o)
theorem rLoop_next {E : List (Nat × Nat)} {wo : Int} {k : Nat} {o' o : List Bool} (h : rLoop E wo (k + 1) o' = some o) : RRel E wo k (rSweep E wo o').2 (rSweep E wo o').1 o := by
  simp only [rLoop] at h
  split at h
  · rename_i h1; exact .inl ⟨h1, h⟩
  · rename_i h1; exact .inr ⟨by simpa using h1, Option.some.inj h⟩

end Go.Proofs.YthaampinmelgaaaGreatDoor

/-! Plain laws: the reference's search over all edges sees exactly what can be reached. No program here. -/
namespace Go.Proofs.YthaampinmelgaaaGreatDoor

theorem rEdge_keep (wo : Int) (st : List Bool × Bool) (x : Nat × Nat) (y : Nat) (h : st.1.getD y false = true) : (rEdge wo st x).1.getD y false = true := by
  unfold rEdge
  split
  · rw [getD_set_b]; split
    · rfl
    · exact h
  · exact h

/-- What a sweep says. -/
structure Swept (wo : Int) (l : List (Nat × Nat)) (s t : List Bool × Bool) : Prop where
  keep : ∀ y, s.1.getD y false = true → t.1.getD y false = true
  len : t.1.length = s.1.length
  same : t.2 = false → s.2 = false ∧ t.1 = s.1 ∧ ∀ x ∈ l, s.1.getD x.1 false = true → s.1.getD x.2 false = true ∨ (x.2 : Int) = wo
  less : t.2 = true → s.2 = true ∨ t.1.count false < s.1.count false

theorem swept (wo : Int) : ∀ (l : List (Nat × Nat)) (s : List Bool × Bool), (∀ x ∈ l, x.2 < s.1.length) → Swept wo l s (l.foldl (rEdge wo) s)
  | [], s, _ => ⟨fun _ h => h, rfl, fun h => ⟨h, rfl, fun x hx => (List.not_mem_nil hx).elim⟩, fun h => .inl h⟩
  | x :: xs, s, hl => by
    have hlen : (rEdge wo s x).1.length = s.1.length := rEdge_length wo s x
    have ih := swept wo xs (rEdge wo s x) (fun y hy => by rw [hlen]; exact hl y (List.mem_cons_of_mem _ hy))
    rw [List.foldl_cons]
    refine ⟨fun y hy => ih.keep y (rEdge_keep wo s x y hy), ih.len.trans hlen, fun ht => ?_, fun ht => ?_⟩
    · obtain ⟨h1, h2, h3⟩ := ih.same ht
      have hr : rEdge wo s x = s := by
        unfold rEdge at h1 ⊢
        split
        · rename_i h; rw [if_pos h] at h1; cases h1
        · rfl
      have h2' : (xs.foldl (rEdge wo) (rEdge wo s x)).1 = s.1 := by rw [h2, hr]
      rw [hr] at h1 h3
      refine ⟨h1, h2', fun y hy hy1 => ?_⟩
      rcases List.mem_cons.1 hy with rfl | hy
      · by_cases h4 : s.1.getD y.2 false = true
        · exact .inl h4
        · by_cases h5 : (y.2 : Int) = wo
          · exact .inr h5
          · have h4' : s.1.getD y.2 false = false := by simpa using h4
            have : rEdge wo s y = (s.1.set y.2 true, true) := by
              unfold rEdge
              rw [if_pos]
              rw [hy1, h4']
              simpa using h5
            rw [this] at hr
            have h6 := congrArg Prod.fst hr
            simp only at h6
            rw [← h6, getD_set_b, if_pos ⟨rfl, hl y List.mem_cons_self⟩] at h4
            exact absurd rfl h4
      · exact h3 y hy hy1
    · by_cases hc : (s.1.getD x.1 false && (!s.1.getD x.2 false && decide ((x.2 : Int) ≠ wo))) = true
      · have hr : rEdge wo s x = (s.1.set x.2 true, true) := by unfold rEdge; rw [if_pos hc]
        simp only [Bool.and_eq_true, Bool.not_eq_true'] at hc
        have h1 := count_false_set s.1 x.2 (hl x List.mem_cons_self) hc.2.1
        have h2 := count_false_le (a := (rEdge wo s x).1) (b := (xs.foldl (rEdge wo) (rEdge wo s x)).1) ih.len.symm ih.keep
        rw [hr] at h2 ⊢
        exact .inr (by simp only at h2; omega)
      · have hr : rEdge wo s x = s := by unfold rEdge; rw [if_neg hc]
        rw [hr] at ih ht ⊢
        exact ih.less ht

theorem fold_sound {n : Nat} {E : List (Nat × Nat)} {R : Nat → Prop} {wo : Int} (hstep : ∀ x ∈ E, R x.1 → (x.2 : Int) ≠ wo → R x.2) : ∀ (l : List (Nat × Nat)) (s : List Bool × Bool), (∀ x ∈ l, x ∈ E) → (∀ y, s.1.getD y false = true → R y) →
    ∀ y, (l.foldl (rEdge wo) s).1.getD y false = true → R y
  | [], s, _, h => h
  | x :: xs, s, hl, h => by
    rw [List.foldl_cons]
    refine fold_sound (n := n) hstep xs (rEdge wo s x) (fun y hy => hl y (List.mem_cons_of_mem _ hy)) (fun y hy => ?_)
    unfold rEdge at hy
    split at hy
    · rename_i hc
      simp only [Bool.and_eq_true, Bool.not_eq_true', decide_eq_true_eq] at hc
      rw [getD_set_b] at hy
      split at hy
      · rename_i he
        rw [← he.1]
        exact hstep x (hl x List.mem_cons_self) (h _ hc.1) hc.2.2
      · exact h y hy
    · exact h y hy

theorem rLoop_spec {E : List (Nat × Nat)} {R : Nat → Prop} {wo : Int} (hstep : ∀ x ∈ E, R x.1 → (x.2 : Int) ≠ wo → R x.2) : ∀ (k : Nat) (o : List Bool), (∀ x ∈ E, x.2 < o.length) → (∀ y, o.getD y false = true → R y) → o.count false < k →
    ∃ r, rLoop E wo k o = some r ∧ r.length = o.length ∧ (∀ y, o.getD y false = true → r.getD y false = true) ∧ (∀ y, r.getD y false = true → R y) ∧ ∀ x ∈ E, r.getD x.1 false = true → r.getD x.2 false = true ∨ (x.2 : Int) = wo
  | 0, o, _, _, h => by omega
  | k + 1, o, hl, hR, hk => by
    have hsw := swept wo E (o, false) hl
    have hso := fold_sound (n := 0) hstep E (o, false) (fun _ h => h) hR
    unfold rLoop rSweep
    by_cases h2 : (E.foldl (rEdge wo) (o, false)).2 = true
    · rw [if_pos h2]
      rcases hsw.less h2 with h3 | h3
      · cases h3
      · obtain ⟨r, h4, h5, h6, h7, h8⟩ := rLoop_spec hstep k (E.foldl (rEdge wo) (o, false)).1 (fun x hx => by rw [hsw.len]; exact hl x hx) hso (by simp only at h3; omega)
        exact ⟨r, h4, h5.trans hsw.len, fun y hy => h6 y (hsw.keep y hy), h7, h8⟩
    · rw [if_neg h2]
      obtain ⟨-, h4, h5⟩ := hsw.same (by simpa using h2)
      refine ⟨_, rfl, hsw.len, hsw.keep, hso, fun x hx hx1 => ?_⟩
      rw [h4] at hx1 ⊢
      exact h5 x hx hx1

/-- The reference sees exactly what can be reached. -/
theorem reached_total {n : Nat} {E : List (Nat × Nat)} (hE : ∀ x ∈ E, x.1 < n ∧ x.2 < n) {f : Nat} (hf : f < n) (wo : Int) {k : Nat} (hk : n < k) :
    ∃ o, reachedF n E f wo k = some o ∧ o.length = n ∧ ∀ x, o.getD x false = true ↔ Rch (shapeOf n E).next (fun q => (q : Int) ≠ wo) f x := by
  have h0 : ∀ x, (List.replicate n false).getD x false = false := fun x => by rw [List.getD_eq_getElem?_getD, List.getElem?_replicate]; split <;> rfl
  unfold reachedF
  by_cases hw : (f : Int) = wo
  · rw [if_pos hw]
    refine ⟨_, rfl, by simp, fun x => ⟨fun h => (by rw [h0] at h; cases h), fun h => absurd hw h.ok_left⟩⟩
  · rw [if_neg hw]
    have hset : ∀ x, ((List.replicate n false).set f true).getD x false = true → x = f := fun x hx => by
      rw [getD_set_b, h0] at hx
      split at hx
      · rename_i h; exact h.1.symm
      · cases hx
    obtain ⟨r, h1, h2, h3, h4, h5⟩ := rLoop_spec (E := E) (R := fun x => x < n ∧ Rch (shapeOf n E).next (fun q => (q : Int) ≠ wo) f x) (wo := wo) (fun x hx hR hne => ⟨(hE x hx).2, .step hR.2 ((mem_next hR.1).2 hx) hne⟩)
      k ((List.replicate n false).set f true) (fun x hx => by simpa using (hE x hx).2) (fun y hy => by rw [hset y hy]; exact ⟨hf, .refl hw⟩) (Nat.lt_of_le_of_lt List.count_le_length (by simpa using hk))
    refine ⟨r, h1, by simpa using h2, fun x => ⟨fun h => (h4 x h).2, fun h => ?_⟩⟩
    induction h with
    | refl _ => exact h3 f (by rw [getD_set_b, if_pos ⟨rfl, by simpa using hf⟩])
    | @step b c hr hc hok ih =>
      have hb := (h4 b ih).1
      rcases h5 (b, c) ((mem_next hb).1 hc) ih with h6 | h6
      · exact h6
      · exact absurd h6 hok

end Go.Proofs.YthaampinmelgaaaGreatDoor
