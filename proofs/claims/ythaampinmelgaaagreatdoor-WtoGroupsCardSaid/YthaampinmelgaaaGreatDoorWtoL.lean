/- Package wto: plain laws of lists of elements: points in order, the heads around a point, what makes a weak topological order. No program here. -/
import Derived.Test.YthaampinmelgaaaGreatDoorWtoD
namespace Go.Proofs.YthaampinmelgaaaGreatDoor

mutual
def El.pts : El → List Int
  | .mk p _ b => p :: ptsL b
def ptsL : List El → List Int
  | [] => []
  | x :: l => x.pts ++ ptsL l
end
mutual
def insE : El → Int → Option (List Int)
  | .mk p c b, q => if p = q then some (if c then [p] else []) else (insL b q).map fun r => (if c then [p] else []) ++ r
def insL : List El → Int → Option (List Int)
  | [], _ => none
  | x :: l, q => match insE x q with
    | some r => some r
    | none => insL l q
end
mutual
def El.ok : El → Bool
  | .mk _ c b => (c || b.isEmpty) && okL b
def okL : List El → Bool
  | [] => true
  | x :: l => x.ok && okL l
end
theorem ptsL_nil : ptsL [] = [] := by simp [ptsL]
theorem ptsL_cons (x : El) (l : List El) : ptsL (x :: l) = x.pts ++ ptsL l := by simp [ptsL]
theorem El.pts_mk (p : Int) (c : Bool) (b : List El) : (El.mk p c b).pts = p :: ptsL b := by simp [El.pts]
theorem ptsL_append : ∀ (a b : List El), ptsL (a ++ b) = ptsL a ++ ptsL b
  | [], b => by simp [ptsL_nil]
  | x :: a, b => by simp [ptsL_cons, ptsL_append a b]
theorem insL_nil (q : Int) : insL [] q = none := by simp [insL]
theorem insL_cons (x : El) (l : List El) (q : Int) : insL (x :: l) q = match insE x q with
    | some r => some r
    | none => insL l q := by simp [insL]
theorem insE_mk (p : Int) (c : Bool) (b : List El) (q : Int) : insE (.mk p c b) q = if p = q then some (if c then [p] else []) else (insL b q).map fun r => (if c then [p] else []) ++ r := by simp [insE]
theorem insL_append_left {a : List El} {q : Int} {r : List Int} (b : List El) (h : insL a q = some r) : insL (a ++ b) q = some r := by
  induction a with
  | nil => rw [insL_nil] at h; cases h
  | cons x a ih =>
    rw [List.cons_append, insL_cons]
    rw [insL_cons] at h
    cases hx : insE x q with
    | some r' => rw [hx] at h; exact h
    | none => rw [hx] at h; exact ih h
theorem insL_append_right {a : List El} {q : Int} (b : List El) (h : insL a q = none) : insL (a ++ b) q = insL b q := by
  induction a with
  | nil => rfl
  | cons x a ih =>
    rw [List.cons_append, insL_cons]
    rw [insL_cons] at h
    cases hx : insE x q with
    | some r' => rw [hx] at h; cases h
    | none => rw [hx] at h; exact ih h
mutual
theorem insE_none : ∀ (x : El) (q : Int), insE x q = none ↔ q ∉ x.pts
  | .mk p c b, q => by
    rw [insE_mk, El.pts_mk]
    by_cases h : p = q
    · simp [h]
    · rw [if_neg h, Option.map_eq_none_iff, insL_none b q]
      simp only [List.mem_cons, not_or]
      exact ⟨fun e => ⟨fun e' => h e'.symm, e⟩, fun e => e.2⟩
theorem insL_none : ∀ (l : List El) (q : Int), insL l q = none ↔ q ∉ ptsL l
  | [], q => by simp [insL_nil, ptsL_nil]
  | x :: l, q => by
    rw [insL_cons, ptsL_cons, List.mem_append, not_or, ← insE_none x q, ← insL_none l q]
    cases insE x q <;> simp
end
theorem insL_some {l : List El} {q : Int} (h : q ∈ ptsL l) : ∃ r, insL l q = some r := by
  cases hx : insL l q with
  | none => exact absurd h ((insL_none l q).1 hx)
  | some r => exact ⟨r, rfl⟩
theorem okL_append (a b : List El) : okL (a ++ b) = (okL a && okL b) := by
  induction a with
  | nil => simp [okL]
  | cons x a ih => simp [okL, ih, Bool.and_assoc]

/-- u comes before y. -/
def Bef (l : List Int) (u y : Int) : Prop := ∃ a b c, l = a ++ u :: (b ++ y :: c)
theorem Bef.left {l : List Int} {u y : Int} (h : Bef l u y) (m : List Int) : Bef (l ++ m) u y := by
  obtain ⟨a, b, c, rfl⟩ := h
  exact ⟨a, b, c ++ m, by simp⟩
theorem Bef.right {l : List Int} {u y : Int} (h : Bef l u y) (m : List Int) : Bef (m ++ l) u y := by
  obtain ⟨a, b, c, rfl⟩ := h
  exact ⟨m ++ a, b, c, by simp⟩
theorem Bef.cross {l m : List Int} {u y : Int} (hu : u ∈ l) (hy : y ∈ m) : Bef (l ++ m) u y := by
  obtain ⟨a, b, rfl⟩ := List.append_of_mem hu
  obtain ⟨c, d, rfl⟩ := List.append_of_mem hy
  exact ⟨a, b ++ c, d, by simp⟩

/-- No edge leads backwards, but to heads around the point that it leaves. -/
def Good (E : List (Nat × Nat)) (l : List El) : Prop := ∀ u y : Nat, (u, y) ∈ E → (u : Int) ∈ ptsL l → (y : Int) ∈ ptsL l → Bef (ptsL l) u y ∨ ∃ hs, insL l u = some hs ∧ (y : Int) ∈ hs
def sE (E : List (Nat × Nat)) (p : Nat) : List Nat := (idxs Prod.fst E p).map (tgt E)
theorem mem_sE {E : List (Nat × Nat)} {p y : Nat} : y ∈ sE E p ↔ (p, y) ∈ E := by
  unfold sE
  rw [List.mem_map]
  constructor
  · rintro ⟨k, hk, rfl⟩
    obtain ⟨x, hx, rfl⟩ := (mem_idxs _ _ _ _).1 hk
    have : tgt E k = x.2 := by unfold tgt; rw [List.getD_eq_getElem?_getD, hx]; rfl
    rw [this]
    exact List.mem_of_getElem? hx
  · intro h
    obtain ⟨k, hk⟩ := List.mem_iff_getElem?.1 h
    exact ⟨k, (mem_idxs _ _ _ _).2 ⟨_, hk, rfl⟩, by unfold tgt; rw [List.getD_eq_getElem?_getD, hk]; rfl⟩
/-- Every point of a component can be reached from its head, and reaches it. -/
def Tied (E : List (Nat × Nat)) (e : El) : Prop := ∀ p ∈ e.pts, ∃ v x : Nat, e.p = (v : Int) ∧ p = (x : Int) ∧ Rch (sE E) (fun _ => True) v x ∧ Rch (sE E) (fun _ => True) x v
structure Lst (E : List (Nat × Nat)) (D0 D1 : Nat → Prop) (A : List El) : Prop where
  nodup : (ptsL A).Nodup
  mem : ∀ p : Int, p ∈ ptsL A ↔ ∃ x : Nat, p = (x : Int) ∧ D1 x ∧ ¬ D0 x
  good : Good E A
  form : okL A = true
  tied : ∀ e ∈ A, Tied E e
  closed : ∀ d, D1 d → ¬ D0 d → ∀ y, (d, y) ∈ E → D1 y
theorem Lst.nil (E : List (Nat × Nat)) (D : Nat → Prop) : Lst E D D [] :=
  ⟨by simp [ptsL_nil], fun p => by simp [ptsL_nil], fun u y _ h => by simp [ptsL_nil] at h, by simp [okL], fun e h => by simp at h, fun d h k => absurd h k⟩
theorem Lst.out {E : List (Nat × Nat)} {D0 D1 : Nat → Prop} {A : List El} (h : Lst E D0 D1 A) {x : Nat} : (x : Int) ∈ ptsL A ↔ D1 x ∧ ¬ D0 x := by
  rw [h.mem]
  constructor
  · rintro ⟨y, hy, h1⟩
    obtain rfl : x = y := by omega
    exact h1
  · exact fun h1 => ⟨x, rfl, h1⟩
theorem Lst.comp {E : List (Nat × Nat)} {D0 D1 D2 : Nat → Prop} {A B : List El} (h : Lst E D0 D1 A) (k : Lst E D1 D2 B) (h01 : ∀ x, D0 x → D1 x) (h12 : ∀ x, D1 x → D2 x) : Lst E D0 D2 (B ++ A) := by
  have hdis : ∀ u : Int, u ∈ ptsL A → u ∉ ptsL B := fun u hu hu' => by
    obtain ⟨x, rfl, h1, -⟩ := (h.mem u).1 hu
    exact (k.out.1 hu').2 h1
  refine ⟨?_, fun p => ?_, ?_, by rw [okL_append, h.form, k.form]; rfl, fun e he => ?_, fun d h2 h0 y hy => ?_⟩
  · rw [ptsL_append, List.nodup_append]
    exact ⟨k.nodup, h.nodup, fun a ha b hb e => by subst e; exact hdis a hb ha⟩
  · rw [ptsL_append, List.mem_append, h.mem, k.mem]
    constructor
    · rintro (⟨x, rfl, h1, h2⟩ | ⟨x, rfl, h1, h2⟩)
      · exact ⟨x, rfl, h1, fun e => h2 (h01 x e)⟩
      · exact ⟨x, rfl, h12 x h1, h2⟩
    · rintro ⟨x, rfl, h1, h2⟩
      by_cases hx : D1 x
      · exact .inr ⟨x, rfl, hx, h2⟩
      · exact .inl ⟨x, rfl, h1, hx⟩
  · intro u y he hu hy
    rw [ptsL_append] at hu hy ⊢
    rcases List.mem_append.1 hu with hu | hu
    · rcases List.mem_append.1 hy with hy | hy
      · rcases k.good u y he hu hy with h1 | ⟨hs, h1, h2⟩
        · exact .inl (h1.left _)
        · exact .inr ⟨hs, insL_append_left _ h1, h2⟩
      · exact .inl (.cross hu hy)
    · rcases List.mem_append.1 hy with hy | hy
      · exact absurd (h.closed u (h.out.1 hu).1 (h.out.1 hu).2 y he) (k.out.1 hy).2
      · rcases h.good u y he hu hy with h1 | ⟨hs, h1, h2⟩
        · exact .inl (h1.right _)
        · exact .inr ⟨hs, by rw [insL_append_right _ ((insL_none _ _).2 (hdis u hu))]; exact h1, h2⟩
  · rcases List.mem_append.1 he with he | he
    · exact k.tied e he
    · exact h.tied e he
  · by_cases h1 : D1 d
    · exact h12 _ (h.closed d h1 h0 y hy)
    · exact k.closed d h2 h1 y hy
theorem Lst.plain {E : List (Nat × Nat)} {D1 D2 : Nat → Prop} {v : Nat} (hv : ¬ D1 v) (h2 : ∀ x, D2 x ↔ D1 x ∨ x = v) (ht : ∀ y, (v, y) ∈ E → D1 y) : Lst E D1 D2 [El.mk (v : Int) false []] := by
  have hp : ptsL [El.mk (v : Int) false []] = [(v : Int)] := by simp [ptsL_cons, ptsL_nil, El.pts_mk]
  refine ⟨by rw [hp]; simp, fun p => ?_, fun u y he hu hy => ?_, by simp [okL, El.ok], fun e he => ?_, fun d hd hd1 y hy => ?_⟩
  · rw [hp, List.mem_singleton]
    constructor
    · rintro rfl; exact ⟨v, rfl, (h2 v).2 (.inr rfl), hv⟩
    · rintro ⟨x, rfl, h3, h4⟩
      rcases (h2 x).1 h3 with h5 | rfl
      · exact absurd h5 h4
      · rfl
  · rw [hp, List.mem_singleton] at hu hy
    obtain rfl : u = v := by omega
    obtain rfl : y = u := by omega
    exact absurd (ht _ he) hv
  · rw [List.mem_singleton] at he
    subst he
    intro p hp'
    rw [El.pts_mk, ptsL_nil, List.mem_singleton] at hp'
    exact ⟨v, v, rfl, hp', .refl trivial, .refl trivial⟩
  · rcases (h2 d).1 hd with h5 | rfl
    · exact absurd h5 hd1
    · exact (h2 y).2 (.inl (ht y hy))
theorem Lst.loop {E : List (Nat × Nat)} {D1 D2 D3 : Nat → Prop} {v : Nat} {B : List El} (k : Lst E D2 D3 B) (hv : ¬ D1 v) (h2 : ∀ x, D2 x ↔ D1 x ∨ x = v) (h23 : ∀ x, D2 x → D3 x) (ht : ∀ y, (v, y) ∈ E → D3 y)
    (hm : ∀ x : Nat, D3 x → ¬ D2 x → Rch (sE E) (fun _ => True) v x ∧ Rch (sE E) (fun _ => True) x v) : Lst E D1 D3 [El.mk (v : Int) true B] := by
  have hp : ptsL [El.mk (v : Int) true B] = (v : Int) :: ptsL B := by simp [ptsL_cons, ptsL_nil, El.pts_mk]
  have hvB : (v : Int) ∉ ptsL B := fun h => (k.out.1 h).2 ((h2 v).2 (.inr rfl))
  have hin : ∀ u : Int, insL [El.mk (v : Int) true B] u = if (v : Int) = u then some [(v : Int)] else (insL B u).map fun r => (v : Int) :: r := fun u => by
    rw [insL_cons, insE_mk]
    by_cases e : (v : Int) = u
    · simp [e]
    · simp only [if_neg e]
      cases insL B u <;> simp [insL_nil]
  refine ⟨by rw [hp]; exact List.nodup_cons.2 ⟨hvB, k.nodup⟩, fun p => ?_, fun u y he hu hy => ?_, by simp [okL, El.ok, k.form], fun e he => ?_, fun d hd hd1 y hy => ?_⟩
  · rw [hp, List.mem_cons, k.mem]
    constructor
    · rintro (rfl | ⟨x, rfl, h3, h4⟩)
      · exact ⟨v, rfl, h23 v ((h2 v).2 (.inr rfl)), hv⟩
      · exact ⟨x, rfl, h3, fun h => h4 ((h2 x).2 (.inl h))⟩
    · rintro ⟨x, rfl, h3, h4⟩
      by_cases e : x = v
      · exact .inl (by rw [e])
      · exact .inr ⟨x, rfl, h3, fun h => ((h2 x).1 h).elim h4 e⟩
  · rw [hp] at hu hy ⊢
    rcases List.mem_cons.1 hu with hu | hu
    · obtain rfl : u = v := by omega
      rcases List.mem_cons.1 hy with hy | hy
      · exact .inr ⟨[(u : Int)], by rw [hin, if_pos rfl], by simp [hy]⟩
      · obtain ⟨c, d, hcd⟩ := List.append_of_mem hy
        exact .inl ⟨[], c, d, by rw [hcd]; rfl⟩
    · have hne : ¬ (v : Int) = u := fun e => hvB (e ▸ hu)
      obtain ⟨r, hr⟩ := insL_some hu
      rcases List.mem_cons.1 hy with hy | hy
      · exact .inr ⟨(v : Int) :: r, by rw [hin, if_neg hne, hr]; rfl, by simp [hy]⟩
      · rcases k.good u y he hu hy with h1 | ⟨hs, h1, h3⟩
        · exact .inl (h1.right [(v : Int)])
        · exact .inr ⟨(v : Int) :: hs, by rw [hin, if_neg hne, h1]; rfl, List.mem_cons_of_mem _ h3⟩
  · rw [List.mem_singleton] at he
    subst he
    intro p hp'
    rw [El.pts_mk, List.mem_cons] at hp'
    rcases hp' with rfl | hp'
    · exact ⟨v, v, rfl, rfl, .refl trivial, .refl trivial⟩
    · obtain ⟨x, rfl, h3, h4⟩ := (k.mem p).1 hp'
      exact ⟨v, x, rfl, rfl, hm x h3 h4⟩
  · by_cases h5 : D2 d
    · rcases (h2 d).1 h5 with h5 | rfl
      · exact absurd h5 hd1
      · exact ht y hy
    · exact k.closed d hd h5 y hy
end Go.Proofs.YthaampinmelgaaaGreatDoor
