/- Families of rows of whole numbers, each of the call's own, no two of them in one block. -/
import Derived.Test.YthaampinmelgaaaGreatDoorBase
import Derived.Deep.AppendLies
import Derived.OwnWalk
namespace Go.Proofs.YthaampinmelgaaaGreatDoor
open Go.RowKit

def natV (x : Nat) : Value := .int .i64 (x : Int)

structure Fam (e : TypeId) (w : World) (base : Nat) (R : List Value) (L : List (List Nat)) : Prop where
  len : R.length = L.length
  own : ∀ (i : Nat) (v : Value) (l : List Nat), R[i]? = some v → L[i]? = some l → w.ownsRow base e 1 v l.length (l.map natV)
  apart : ∀ (i j : Nat) (u v : Value), R[i]? = some u → R[j]? = some v → i ≠ j → u.ownBlock = none ∨ u.ownBlock ≠ v.ownBlock

section
variable {e : TypeId} {w w' : World} {base : Nat} {R : List Value} {L : List (List Nat)}
theorem Fam.get (h : Fam e w base R L) {i : Nat} {v : Value} (hv : R[i]? = some v) : ∃ l, L[i]? = some l ∧ w.ownsRow base e 1 v l.length (l.map natV) := by
  have hi : i < L.length := by rw [← h.len]; exact (List.getElem?_eq_some_iff.1 hv).1
  exact ⟨L[i], List.getElem?_eq_getElem hi, h.own i v L[i] hv (List.getElem?_eq_getElem hi)⟩
theorem own_typed {n : Nat} {v : Value} {xs : List Value} {g : Nat} {t : TypeId} {cs : List Value} (h : w.ownsRow base e 1 v n xs) (hb : Blk w g t cs) (hne : t ≠ e) : v.ownBlock ≠ some g := by
  rcases h.2 with ⟨rfl, _⟩ | ⟨g', cap, cur, rfl, _, hh, _⟩
  · simp [Value.ownBlock]
  · intro he
    obtain rfl : g' = g := by simpa [Value.ownBlock] using he
    unfold Blk at hb
    rw [hh] at hb
    cases hb
    exact hne rfl
theorem Fam.grown (h : Fam e w base R L) {row : Option Nat} (hg : w.grownBy w' row) (hr : ∀ b, row = some b → ∀ v ∈ R, v.ownBlock ≠ some b) : Fam e w' base R L :=
  ⟨h.len, fun i v l hv hl => (h.own i v l hv hl).kept hg (by
    cases hvb : v.ownBlock with
    | none => exact .inl rfl
    | some b => exact .inr (fun e' => hr b e'.symm v (List.mem_of_getElem? hv) hvb)), h.apart⟩
theorem Fam.alloc (h : Fam e w base R L) (o : Obj) : Fam e (w.alloc o) base R L := h.grown (World.grownBy_alloc w o none) (fun b e => by cases e)
theorem Fam.drewN (h : Fam e w base R L) (n : Nat) : Fam e (w.drewN n) base R L := ⟨h.len, h.own, h.apart⟩
theorem Fam.drew (h : Fam e w base R L) : Fam e w.drew base R L := ⟨h.len, h.own, h.apart⟩
/-- A store into a block of another type. -/
theorem Fam.set (h : Fam e w base R L) {g : Nat} {t : TypeId} {cs : List Value} (hb : Blk w g t cs) (hne : t ≠ e) (i : Nat) (u : Value) : Fam e (w.setCell ⟨g, i, none⟩ u) base R L :=
  ⟨h.len, fun j v l hv hl => ownsRow_setCell_other (h.own j v l hv hl) (a := ⟨g, i, none⟩) (own_typed (h.own j v l hv hl) hb hne) u, h.apart⟩
theorem Fam.lt (h : Fam e w base R L) {i : Nat} {v : Value} (hv : R[i]? = some v) {b : Nat} (hb : v.ownBlock = some b) : base ≤ b ∧ b < w.heap.size := by
  obtain ⟨l, _, ho⟩ := h.get hv
  exact ho.lt b hb
/-- One row is appended to: in its own block, or in one that was not there. -/
theorem Fam.push (h : Fam e w base R L) {i : Nat} {v v' : Value} {l : List Nat} {x : Nat} (hv : R[i]? = some v) (hl : L[i]? = some l) (hg : w.grownBy w' v.ownBlock)
    (hown : w'.ownsRow base e 1 v' (l.length + 1) (l.map natV ++ [natV x])) (hat : v'.ownBlock = v.ownBlock ∨ ∃ b, v'.ownBlock = some b ∧ w.heap.size ≤ b) :
    Fam e w' base (R.set i v') (L.set i (l ++ [x])) := by
  have hi : i < R.length := (List.getElem?_eq_some_iff.1 hv).1
  have hL : i < L.length := (List.getElem?_eq_some_iff.1 hl).1
  have hap : ∀ j u, R[j]? = some u → j ≠ i → (u.ownBlock = none ∨ u.ownBlock ≠ v.ownBlock) ∧ (v'.ownBlock = none ∨ v'.ownBlock ≠ u.ownBlock) := fun j u hu hj => by
    refine ⟨h.apart j i u v hu hv hj, ?_⟩
    rcases hat with hat | ⟨b, hb, hbs⟩
    · rw [hat]; exact h.apart i j v u hv hu (Ne.symm hj)
    · right
      intro e'
      rw [hb] at e'
      have := h.lt hu e'.symm
      omega
  refine ⟨by simp [h.len], fun j u m hu hm => ?_, fun j k u t hu ht hjk => ?_⟩
  · by_cases hj : j = i
    · subst hj
      rw [List.getElem?_set_self hi] at hu
      rw [List.getElem?_set_self hL] at hm
      cases hu; cases hm
      simpa using hown
    · rw [List.getElem?_set_ne (Ne.symm hj)] at hu hm
      exact (h.own j u m hu hm).kept hg (hap j u hu hj).1
  · by_cases hj : j = i
    · subst hj
      rw [List.getElem?_set_self hi] at hu
      rw [List.getElem?_set_ne hjk] at ht
      cases hu
      exact (hap k t ht (Ne.symm hjk)).2
    · rw [List.getElem?_set_ne (Ne.symm hj)] at hu
      by_cases hk : k = i
      · subst hk
        rw [List.getElem?_set_self hi] at ht
        cases ht
        rcases hat with hat | ⟨b, hb, hbs⟩
        · rw [hat]; exact (hap j u hu hj).1
        · right
          intro e'
          rw [hb] at e'
          have := h.lt hu e'
          omega
      · rw [List.getElem?_set_ne (Ne.symm hk)] at ht
        exact h.apart j k u t hu ht hjk
/-- What is no row of the family's stands. -/
theorem Blk.famKeep {g : Nat} {t : TypeId} {cs : List Value} (hb : Blk w g t cs) (h : Fam e w base R L) {v : Value} (hv : v ∈ R) (hg : w.grownBy w' v.ownBlock) (hne : t ≠ e) : Blk w' g t cs := by
  obtain ⟨i, hi⟩ := List.mem_iff_getElem?.1 hv
  obtain ⟨l, _, ho⟩ := h.get hi
  exact hb.same (hg.block g hb.lt (fun e' => own_typed ho hb hne e'.symm))
end

/-- A new element's own block stands when a row of the family's is appended to. -/
theorem Blk.after {e : TypeId} {w0 w w' : World} {base : Nat} {R : List Value} {L : List (List Nat)} {nb : Nat} {t : TypeId} {cs : List Value} (h : Blk w nb t cs) (hF : Fam e w0 base R L) {i : Nat} {v : Value} (hv : R[i]? = some v)
    (hg : w.grownBy w' v.ownBlock) (hnb : w0.heap.size ≤ nb) : Blk w' nb t cs :=
  h.same (hg.block nb h.lt (fun e' => by have := hF.lt hv e'.symm; omega))

section
variable {P : Program}
/-- append of one element to a row of the family's, at a step of a region that draws. -/
theorem step_append_fam {w : World} {ops : Array Oper} {o : Oper} {a : Act} {K : Act → World → Prop} {Q : Exit → Act → World → Prop} {E : Prop} (hgd : o.guard = none) (s x : Operand) (t : TypeId)
    (ho : o.op = .call { callee := .builtin .append, args := #[s, x], argTypes := #[t, t] })
    (e : TypeId) (ht : P.underlying t = some (.slice e)) (hinfo : (P.info? e).map (fun i => (i.zero, i.size, i.bytes)) = some (some (.int .i64 0), 1, 8))
    (base : Nat) (R : List Value) (L : List (List Nat)) (i : Nat) (v : Value) (l : List Nat) (y nb : Nat) (hs : a.eval s = v) (hx : a.eval x = .slice (some ⟨nb, 0, none⟩) 1 1)
    (hF : Fam e w base R L) (hnb : Blk w nb e [natV y]) (hv : R[i]? = some v) (hl : L[i]? = some l) (hb : base ≤ w.heap.size) (hlen : l.length + 1 ≤ 1000000)
    (h : ∀ g cap w', Fam e w' base (R.set i (.slice (some ⟨g, 0, none⟩) (l.length + 1) cap)) (L.set i (l ++ [y])) → w.grownBy w' v.ownBlock → K (a.put o.dst (.slice (some ⟨g, 0, none⟩) (l.length + 1) cap)) w') :
    if Region.wanted o (yielded ops a.tmps) = true then Oper.wp P o a w K Q else E := by
  obtain ⟨i0, hi0, hz0, hz1, hz2⟩ := info_parts hinfo
  obtain ⟨l', hl', hown⟩ := hF.get hv
  obtain rfl : l' = l := by rw [hl] at hl'; exact (Option.some.inj hl').symm
  refine step_append_lies w hgd s x t ho base e i0 (.int .i64 0) 1 8 ht hi0 hz0 hz1 hz2 rfl (by decide) v l'.length (l'.map natV) hs hown ⟨nb, 0, none⟩ 1 1 [natV y] hx rfl
    (fun j u hj => by rw [add_none]; exact hnb.cellAt hj) (fun u hu => by simp at hu; subst hu; rfl) (by omega) (by unfold maxLen; omega) (by omega) hb w.heap.size rfl ?_
  intro g cap w' h1 h2 h3 _
  refine h g cap w' (hF.push hv hl h2 h1 ?_) h2
  rcases h3 with h3 | h3
  · exact .inl h3.symm
  · exact .inr ⟨g, rfl, by omega⟩
end

end Go.Proofs.YthaampinmelgaaaGreatDoor
