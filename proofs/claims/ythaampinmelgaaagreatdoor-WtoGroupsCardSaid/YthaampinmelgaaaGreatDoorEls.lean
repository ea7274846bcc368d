/- Elements (points and components) as they lie in memory. Nothing here speaks of a program. -/
import Derived.Test.YthaampinmelgaaaGreatDoorWtoD
import Derived.Test.YthaampinmelgaaaGreatDoorFam
namespace Go.Proofs.YthaampinmelgaaaGreatDoor
open Go.RowKit

/-- Elements as they are read, in blocks of which P holds. -/
inductive Els (P : Nat → Prop) (w : World) : Value → List El → Prop
  | mk (A : Option Addr) (c : Nat) (l : List El) (us : Nat → Value) (hlc : l.length ≤ c) (hm : c ≤ maxLen) (hz : l.length * 40 ≤ 140737488355328)
    (hc : ∀ (j : Nat) (x : El), l[j]? = some x → ∃ ad, A = some ad ∧ P ad.block ∧ w.cell? (ad.add (j * 3)) = some (.int .i64 x.p) ∧ w.cell? (ad.add (j * 3 + 1)) = some (.bool x.c) ∧ w.cell? (ad.add (j * 3 + 2)) = some (us j) ∧ InI64 x.p)
    (hr : ∀ (j : Nat) (x : El), l[j]? = some x → Els P w (us j) x.body) : Els P w (.slice A l.length c) l

section
variable {P Q : Nat → Prop} {w w' : World} {v : Value} {l : List El}
theorem Els.shape (h : Els P w v l) : ∃ A c, v = .slice A l.length c ∧ l.length ≤ c ∧ c ≤ maxLen ∧ l.length * 40 ≤ 140737488355328 ∧
    ∀ (j : Nat) (x : El), l[j]? = some x → ∃ ad u, A = some ad ∧ P ad.block ∧ w.cell? (ad.add (j * 3)) = some (.int .i64 x.p) ∧ w.cell? (ad.add (j * 3 + 1)) = some (.bool x.c) ∧ w.cell? (ad.add (j * 3 + 2)) = some u ∧ InI64 x.p ∧ Els P w u x.body := by
  cases h with
  | mk A c l us hlc hm hz hc hr =>
    refine ⟨A, c, rfl, hlc, hm, hz, fun j x hx => ?_⟩
    obtain ⟨ad, h1, h2, h3, h4, h5, h6⟩ := hc j x hx
    exact ⟨ad, us j, h1, h2, h3, h4, h5, h6, hr j x hx⟩
theorem Els.of (A : Option Addr) (c : Nat) (l : List El) (hlc : l.length ≤ c) (hm : c ≤ maxLen) (hz : l.length * 40 ≤ 140737488355328)
    (h : ∀ (j : Nat) (x : El), l[j]? = some x → ∃ ad u, A = some ad ∧ P ad.block ∧ w.cell? (ad.add (j * 3)) = some (.int .i64 x.p) ∧ w.cell? (ad.add (j * 3 + 1)) = some (.bool x.c) ∧ w.cell? (ad.add (j * 3 + 2)) = some u ∧ InI64 x.p ∧ Els P w u x.body) : Els P w (.slice A l.length c) l := by
  have h' : ∀ j, ∃ u, ∀ x, l[j]? = some x → ∃ ad, A = some ad ∧ P ad.block ∧ w.cell? (ad.add (j * 3)) = some (.int .i64 x.p) ∧ w.cell? (ad.add (j * 3 + 1)) = some (.bool x.c) ∧ w.cell? (ad.add (j * 3 + 2)) = some u ∧ InI64 x.p ∧ Els P w u x.body := fun j => by
    cases hx : l[j]? with
    | none => exact ⟨.bool false, fun x e => by cases e⟩
    | some x =>
      obtain ⟨ad, u, h1⟩ := h j x hx
      exact ⟨u, fun y e => by cases e; exact ⟨ad, h1⟩⟩
  obtain ⟨us, hus⟩ := Classical.axiomOfChoice h'
  refine .mk A c l us hlc hm hz (fun j x hx => ?_) (fun j x hx => ?_)
  · obtain ⟨ad, h1, h2, h3, h4, h5, h6, -⟩ := hus j x hx
    exact ⟨ad, h1, h2, h3, h4, h5, h6⟩
  · obtain ⟨ad, h1, h2, h3, h4, h5, h6, h7⟩ := hus j x hx
    exact h7
theorem Els.keep (h : Els P w v l) (hk : ∀ p : Addr, P p.block → w'.cell? p = w.cell? p) : Els P w' v l := by
  induction h with
  | mk A c l us hlc hm hz hc hr ih =>
    refine .mk A c l us hlc hm hz (fun j x hx => ?_) ih
    obtain ⟨ad, h1, h2, h3, h4, h5, h6⟩ := hc j x hx
    exact ⟨ad, h1, h2, (hk _ (by rw [block_add]; exact h2)).trans h3, (hk _ (by rw [block_add]; exact h2)).trans h4, (hk _ (by rw [block_add]; exact h2)).trans h5, h6⟩
theorem Els.mono (h : Els P w v l) (hPQ : ∀ b, P b → Q b) : Els Q w v l := by
  induction h with
  | mk A c l us hlc hm hz hc hr ih =>
    refine .mk A c l us hlc hm hz (fun j x hx => ?_) ih
    obtain ⟨ad, h1, h2, h3⟩ := hc j x hx
    exact ⟨ad, h1, hPQ _ h2, h3⟩
theorem Els.nil : Els P w (.slice none 0 0) [] := .mk none 0 [] (fun _ => .bool false) (Nat.le_refl _) (by simp [maxLen]) (by simp) (fun j x hx => by simp at hx) (fun j x hx => by simp at hx)
theorem Els.only {S : Nat → Prop} (h : Els P w v l) (ho : Only S w w') (hP : ∀ b, P b → b < w.heap.size ∧ ¬ S b) : Els P w' v l :=
  h.keep fun _ hp => World.cell?_of_block (ho.block _ (hP _ hp).1 (hP _ hp).2)
theorem Els.under {B : Nat} (h : Els P w v l) (hb : Below B w w') (hP : ∀ b, P b → b < B) : Els P w' v l := h.keep fun _ hp => hb.cell (hP _ hp)
end

/-- The cells of elements whose bodies are us. -/
def elCells : List El → List Value → List Value
  | x :: l, u :: us => .int .i64 x.p :: .bool x.c :: u :: elCells l us
  | _, _ => []
theorem elCells_length : ∀ (l : List El) (us : List Value), us.length = l.length → (elCells l us).length = l.length * 3
  | [], [], _ => rfl
  | x :: l, u :: us, h => by simp [elCells, elCells_length l us (by simpa using h)]; omega
  | [], _ :: _, h => by simp at h
  | _ :: _, [], h => by simp at h
theorem elCells_append : ∀ (l m : List El) (us vs : List Value), us.length = l.length → elCells (l ++ m) (us ++ vs) = elCells l us ++ elCells m vs
  | [], m, [], vs, _ => rfl
  | x :: l, m, u :: us, vs, h => by simp [elCells, elCells_append l m us vs (by simpa using h)]
  | [], _, _ :: _, _, h => by simp at h
  | _ :: _, _, [], _, h => by simp at h
theorem elCells_get : ∀ (l : List El) (us : List Value) (j : Nat) (x : El) (u : Value), l[j]? = some x → us[j]? = some u →
    (elCells l us)[j * 3]? = some (.int .i64 x.p) ∧ (elCells l us)[j * 3 + 1]? = some (.bool x.c) ∧ (elCells l us)[j * 3 + 2]? = some u
  | [], _, j, x, u, h, _ => by simp at h
  | _ :: _, [], j, x, u, _, h => by simp at h
  | y :: l, v :: us, 0, x, u, h1, h2 => by cases h1; cases h2; exact ⟨rfl, rfl, rfl⟩
  | y :: l, v :: us, j + 1, x, u, h1, h2 => by
    have := elCells_get l us j x u (by simpa using h1) (by simpa using h2)
    simp only [elCells]
    rw [show (j + 1) * 3 = j * 3 + 3 by omega]
    exact this

/-- A block is one of a type. -/
def Typed (w : World) (b : Nat) (T : TypeId) : Prop := ∃ cs fr, w.heap[b]? = some (.cells cs T fr)
theorem Typed.lt {w : World} {b : Nat} {T : TypeId} (h : Typed w b T) : b < w.heap.size := by obtain ⟨cs, fr, h⟩ := h; exact lt_of_block h
theorem Typed.of_row {w : World} {base n m : Nat} {T : TypeId} {v : Value} {xs : List Value} (h : w.ownsRow base T m v n xs) {b : Nat} (hb : v.ownBlock = some b) : Typed w b T := by
  rcases h.2 with ⟨rfl, _⟩ | ⟨g, cap, cur, rfl, _, hh, _⟩
  · cases hb
  · cases hb; exact ⟨_, _, hh⟩
theorem Typed.blk {w : World} {b : Nat} {T : TypeId} {cs : List Value} (h : Blk w b T cs) : Typed w b T := ⟨_, _, h⟩
theorem Typed.ne {w : World} {b c : Nat} {T U : TypeId} (h : Typed w b T) (k : Typed w c U) (hne : T ≠ U) : b ≠ c := by
  rintro rfl
  obtain ⟨cs, fr, h⟩ := h
  obtain ⟨cs', fr', k⟩ := k
  rw [h] at k
  cases k
  exact hne rfl
theorem Typed.same {w w' : World} {b : Nat} {T : TypeId} (h : Typed w b T) (hs : w'.heap[b]? = w.heap[b]?) : Typed w' b T := by
  obtain ⟨cs, fr, h⟩ := h; exact ⟨cs, fr, hs.trans h⟩
theorem Typed.only {S : Nat → Prop} {w w' : World} {b : Nat} {T : TypeId} (h : Typed w b T) (ho : Only S w w') (hS : ¬ S b) : Typed w' b T := h.same (ho.block b h.lt hS)

theorem own_slice {w : World} {e : TypeId} {base n m : Nat} {v : Value} {xs : List Value} (h : w.ownsRow base e m v n xs) : ∃ A c, v = .slice A n c := by
  rcases h.2 with ⟨rfl, rfl⟩ | ⟨g, cap, cur, rfl, _⟩
  · exact ⟨_, _, rfl⟩
  · exact ⟨_, _, rfl⟩
/-- Elements in a row of the call's own, their bodies in blocks of which P holds. -/
structure EO (T : TypeId) (base : Nat) (P : Nat → Prop) (w : World) (v : Value) (l : List El) (us : List Value) : Prop where
  own : w.ownsRow base T 3 v l.length (elCells l us)
  len : us.length = l.length
  bod : ∀ (j : Nat) (u : Value) (x : El), us[j]? = some u → l[j]? = some x → Els P w u x.body
  wf : ∀ x ∈ l, InI64 x.p
  apart : ∀ b, P b → base ≤ b ∧ Typed w b T ∧ v.ownBlock ≠ some b
section
variable {T : TypeId} {base : Nat} {P Q : Nat → Prop} {w w' : World} {v v' : Value} {l : List El} {us : List Value}
theorem EO.nil (T : TypeId) (base : Nat) (w : World) : EO T base (fun _ => False) w (.slice none 0 0) [] [] := ⟨World.ownsRow_nil _ _ _ _, rfl, fun j u x h => by simp at h, fun x h => by simp at h, fun b h => h.elim⟩
theorem EO.alloc (h : EO T base P w v l us) (o : Obj) : EO T base P (w.alloc o) v l us :=
  ⟨h.own.alloc _, h.len, fun j u x hu hx => (h.bod j u x hu hx).keep fun _ hp => World.cell?_of_block (Below.heap_alloc _ _ _ (h.apart _ hp).2.1.lt), h.wf, fun b hb => ⟨(h.apart b hb).1, (h.apart b hb).2.1.same (Below.heap_alloc _ _ _ (h.apart b hb).2.1.lt), (h.apart b hb).2.2⟩⟩
/-- What changes no block of it. -/
theorem EO.only {S : Nat → Prop} (h : EO T base P w v l us) (ho : Only S w w') (hv : ∀ b, v.ownBlock = some b → ¬ S b) (hP : ∀ b, P b → ¬ S b) : EO T base P w' v l us := by
  refine ⟨?_, h.len, fun j u x hu hx => (h.bod j u x hu hx).only ho (fun b hb => ⟨(h.apart b hb).2.1.lt, hP b hb⟩), h.wf, fun b hb => ⟨(h.apart b hb).1, (h.apart b hb).2.1.only ho (hP b hb), (h.apart b hb).2.2⟩⟩
  rcases h.own with ⟨hl, ⟨rfl, hn⟩ | ⟨g, cap, cur, rfl, hb, hh, h1, h2, h3, h4⟩⟩
  · exact ⟨hl, .inl ⟨rfl, hn⟩⟩
  · exact ⟨hl, .inr ⟨g, cap, cur, rfl, hb, (ho.block g (lt_of_block hh) (hv g rfl)).trans hh, h1, h2, h3, h4⟩⟩
/-- One element more, wherever it is put: the new row is known. -/
theorem EO.put (h : EO T base P w v l us) {Q : Nat → Prop} {u : Value} {x : El} {pre post : List El} {ups uqs : List Value} (hl : l = pre ++ post) (hus : us = ups ++ uqs) (hpl : ups.length = pre.length)
    (hu : Els Q w u x.body) (hQ : ∀ b, Q b → base ≤ b ∧ Typed w b T ∧ v.ownBlock ≠ some b) (hx : InI64 x.p)
    (hg : w.grownBy w' v.ownBlock) (hown : w'.ownsRow base T 3 v' (l.length + 1) (elCells (pre ++ x :: post) (ups ++ u :: uqs))) (hat : v.ownBlock = v'.ownBlock ∨ ∃ b, v'.ownBlock = some b ∧ w.heap.size ≤ b) :
    EO T base (fun b => P b ∨ Q b) w' v' (pre ++ x :: post) (ups ++ u :: uqs) := by
  subst hl
  subst hus
  have hR : ∀ b, P b ∨ Q b → base ≤ b ∧ Typed w b T ∧ v.ownBlock ≠ some b := fun b hb => hb.elim (h.apart b) (hQ b)
  have hk : ∀ b, P b ∨ Q b → w'.heap[b]? = w.heap[b]? := fun b hb => hg.block b (hR b hb).2.1.lt (fun e => (hR b hb).2.2 e.symm)
  have hlen := h.len
  have hlen2 : uqs.length = post.length := by simp only [List.length_append] at hlen; omega
  refine ⟨?_, by simp [hpl, hlen2], fun j u' x' hu' hx' => ?_, fun y hy => ?_, fun b hb => ⟨(hR b hb).1, (hR b hb).2.1.same (hk b hb), ?_⟩⟩
  · have e : (pre ++ x :: post).length = (pre ++ post).length + 1 := by simp; omega
    rw [e]; exact hown
  · by_cases hj : j < pre.length
    · rw [List.getElem?_append_left (by omega)] at hu' hx'
      refine ((h.bod j u' x' (by rw [List.getElem?_append_left (by omega)]; exact hu') (by rw [List.getElem?_append_left hj]; exact hx')).mono (fun b hb => Or.inl hb)).keep fun _ hp => World.cell?_of_block (hk _ hp)
    · rw [List.getElem?_append_right (by omega)] at hu' hx'
      rw [hpl] at hu'
      cases hjj : j - pre.length with
      | zero =>
        rw [hjj] at hu' hx'
        cases hu'; cases hx'
        exact (hu.mono (fun b hb => Or.inr hb)).keep fun _ hp => World.cell?_of_block (hk _ hp)
      | succ i =>
        rw [hjj] at hu' hx'
        have h1 := h.bod (pre.length + i) u' x' (by rw [List.getElem?_append_right (by omega), hpl, Nat.add_sub_cancel_left]; simpa using hu') (by rw [List.getElem?_append_right (by omega), Nat.add_sub_cancel_left]; simpa using hx')
        exact (h1.mono (fun b hb => Or.inl hb)).keep fun _ hp => World.cell?_of_block (hk _ hp)
  · rcases List.mem_append.1 hy with hy | hy
    · exact h.wf y (List.mem_append_left _ hy)
    · rcases List.mem_cons.1 hy with rfl | hy
      · exact hx
      · exact h.wf y (List.mem_append_right _ hy)
  · rcases hat with hat | ⟨b', hb', hbs⟩
    · rw [← hat]; exact (hR b hb).2.2
    · rw [hb']
      intro e
      cases e
      have := (hR b hb).2.1.lt
      omega
theorem Els.one (h : Els P w v l) : v.oneCell' = true := by
  obtain ⟨A, c, rfl, -⟩ := h.shape
  rfl
theorem elCells_one : ∀ (l : List El) (us : List Value), (∀ u ∈ us, u.oneCell' = true) → ∀ u ∈ elCells l us, u.oneCell' = true
  | [], _, _, u, hu => by simp [elCells] at hu
  | _ :: _, [], _, u, hu => by simp [elCells] at hu
  | x :: l, y :: us, h, u, hu => by
    simp only [elCells, List.mem_cons] at hu
    rcases hu with rfl | rfl | rfl | hu
    · rfl
    · rfl
    · exact h _ List.mem_cons_self
    · exact elCells_one l us (fun z hz => h z (List.mem_cons_of_mem _ hz)) u hu
theorem EO.one (h : EO T base P w v l us) : ∀ u ∈ elCells l us, u.oneCell' = true := by
  refine elCells_one l us fun u hu => ?_
  obtain ⟨j, hj⟩ := List.mem_iff_getElem?.1 hu
  have hjl : j < l.length := by rw [← h.len]; exact (List.getElem?_eq_some_iff.1 hj).1
  exact (h.bod j u l[j] hj (List.getElem?_eq_getElem hjl)).one
/-- What is read of it. -/
theorem EO.els (h : EO T base P w v l us) (hz : l.length * 40 ≤ 140737488355328) : Els (fun b => base ≤ b ∧ Typed w b T) w v l := by
  rcases h.own.2 with ⟨rfl, hn⟩ | ⟨g, cap, cur, rfl, hb, hh, h1, h2, h3, h4⟩
  · have : l = [] := List.eq_nil_of_length_eq_zero hn
    subst this
    exact Els.nil
  · refine Els.of _ _ _ h1 h2 hz fun j x hx => ?_
    have hj : j < l.length := (List.getElem?_eq_some_iff.1 hx).1
    obtain ⟨u, hu⟩ : ∃ u, us[j]? = some u := ⟨_, List.getElem?_eq_getElem (by rw [h.len]; exact hj)⟩
    obtain ⟨g0, g1, g2⟩ := elCells_get l us j x u hx hu
    have hc := fun i v => h.own.cells (g := g) rfl i v
    refine ⟨_, u, rfl, ⟨hb, _, _, hh⟩, hc _ _ g0, hc _ _ g1, hc _ _ g2, h.wf x (List.mem_of_getElem? hx), (h.bod j u x hu hx).mono fun b hb' => ⟨(h.apart b hb').1, (h.apart b hb').2.1⟩⟩
end
end Go.Proofs.YthaampinmelgaaaGreatDoor
