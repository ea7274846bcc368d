/- Rows of edges of the call's own, and what is read of them. -/
import Derived.Test.YthaampinmelgaaaGreatDoorGraph
import Derived.Test.YthaampinmelgaaaGreatDoorPlain1
namespace Go.Proofs.YthaampinmelgaaaGreatDoor
open Go.RowKit

def int0 : Value := .int .i64 0
def str0 : Value := .string (ByteArray.mk #[])
def nil0 : Value := .slice none 0 0
/-- The cells of an empty command. -/
def cmd0 : List Value := [int0, int0, int0, int0, int0, int0, int0, str0, int0, nil0, int0, str0, int0, nil0, int0, nil0, nil0, nil0, nil0]
def edge0 : Value := .agg ([int0, int0] ++ cmd0).toArray
/-- The cells of an edge without a command. -/
def edgeRow (x : Nat × Nat) : List Value := .int .i64 (x.1 : Int) :: .int .i64 (x.2 : Int) :: cmd0
theorem info_edge : (Tryz.prog.info? 61).map (fun i => (i.zero, i.size, i.bytes)) = some (some edge0, 21, 280) := by kernel_rfl

/-- The cells of a list of rows, each of 21 cells. -/
theorem flat_get {rows : List (List Value)} (hl : ∀ r ∈ rows, r.length = 21) : ∀ {j i : Nat} {r : List Value} {u : Value}, rows[j]? = some r → r[i]? = some u → rows.flatten[j * 21 + i]? = some u := by
  induction rows with
  | nil => intro j i r u h; simp at h
  | cons x xs ih =>
    intro j i r u h hu
    have hx := hl x List.mem_cons_self
    have hi : i < r.length := (List.getElem?_eq_some_iff.1 hu).1
    rw [List.flatten_cons]
    cases j with
    | zero =>
      cases h
      rw [List.getElem?_append_left (by omega)]
      rwa [Nat.zero_mul, Nat.zero_add]
    | succ j =>
      rw [List.getElem?_append_right (by rw [hx]; omega), hx]
      have := ih (fun r hr => hl r (List.mem_cons_of_mem _ hr)) (j := j) (i := i) (by simpa using h) hu
      rw [show (j + 1) * 21 + i - 21 = j * 21 + i by omega]
      exact this

theorem Edges.of_rows {w : World} {base : Nat} {v : Value} {rows : List (List Value)} {es : List (Int × Int)} (h : w.ownsRow base 61 21 v rows.length rows.flatten) (hl : rows.length = es.length)
    (hr : ∀ (j : Nat) (r : List Value) (x : Int × Int), rows[j]? = some r → es[j]? = some x → r.length = 21 ∧ r[0]? = some (.int .i64 x.1) ∧ r[1]? = some (.int .i64 x.2) ∧ ∀ u ∈ r, u.oneCell' = true) : Edges w.heap.size w v es := by
  have hall : ∀ r ∈ rows, r.length = 21 := fun r hm => by
    obtain ⟨j, hj, rfl⟩ := List.mem_iff_getElem.1 hm
    have hj2 : j < es.length := by omega
    exact (hr j _ _ (List.getElem?_eq_getElem hj) (List.getElem?_eq_getElem hj2)).1
  have h0 := h
  rcases h.2 with ⟨rfl, hn⟩ | ⟨g, cap, cur, rfl, hb, hh, h1, h2, h3, h4⟩
  · have : es = [] := List.eq_nil_of_length_eq_zero (by omega)
    subst this
    exact ⟨none, 0, rfl, by simp, by simp [maxLen], fun j x hx => by simp at hx⟩
  · refine ⟨_, cap, by rw [hl], by omega, h2, fun j x hx => ?_⟩
    have hj : j < rows.length := by rw [hl]; exact (List.getElem?_eq_some_iff.1 hx).1
    have hrow : rows[j]? = some rows[j] := List.getElem?_eq_getElem hj
    obtain ⟨a1, a2, a3, a4⟩ := hr j _ x hrow hx
    refine ⟨_, rows[j], rfl, lt_of_block hh, a1, fun i u hu => ?_, a2, a3, a4⟩
    have := h0.cells (g := g) rfl (j * 21 + i) u (flat_get hall hrow hu)
    rw [add_add']
    exact this

theorem edgeRow_length (x : Nat × Nat) : (edgeRow x).length = 21 := rfl
theorem edgeRow_one (x : Nat × Nat) : ∀ u ∈ edgeRow x, u.oneCell' = true := by
  intro u hu
  unfold edgeRow cmd0 at hu
  simp only [List.mem_cons, List.not_mem_nil, or_false] at hu
  rcases hu with h | h | h | h | h | h | h | h | h | h | h | h | h | h | h | h | h | h | h | h | h <;> subst h <;> rfl

theorem Blk.keptOwn {W W' : World} {g base m n : Nat} {t e : TypeId} {cs xs : List Value} {v : Value} (h : Blk W g t cs) (hg : W.grownBy W' v.ownBlock) (ho : W.ownsRow base e m v n xs) (hne : t ≠ e) : Blk W' g t cs := by
  refine h.same (hg.block g h.lt fun e' => ?_)
  rcases ho.2 with ⟨rfl, _⟩ | ⟨g2, cap, cur, rfl, _, hh, _⟩
  · simp [Value.ownBlock] at e'
  · simp [Value.ownBlock] at e'
    subst e'
    unfold Blk at h
    rw [h] at hh
    injection hh with hh
    injection hh with _ ht
    exact hne ht

theorem Edges.of_edgeRows {w : World} {base : Nat} {v : Value} {E : List (Nat × Nat)} (h : w.ownsRow base 61 21 v E.length (E.map edgeRow).flatten) : Edges w.heap.size w v (castE E) := by
  refine Edges.of_rows (rows := E.map edgeRow) (by simpa using h) (by simp [castE]) (fun j r x hr hx => ?_)
  rw [List.getElem?_map, Option.map_eq_some_iff] at hr
  obtain ⟨y, hy, rfl⟩ := hr
  unfold castE at hx
  rw [List.getElem?_map, hy] at hx
  cases hx
  exact ⟨rfl, rfl, rfl, edgeRow_one y⟩

end Go.Proofs.YthaampinmelgaaaGreatDoor
