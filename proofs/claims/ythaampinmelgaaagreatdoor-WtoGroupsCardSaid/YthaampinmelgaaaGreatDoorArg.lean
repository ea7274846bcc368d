/- A graph that comes in as an argument, laid open. -/
import Derived.Test.YthaampinmelgaaaGreatDoorBase
import Derived.Test.YthaampinmelgaaaGreatDoorProg
import Derived.Lib.SmallJoins
import Derived.Deep.Slices
import Derived.Deep.Fields
import Derived.ChangeSame
import Derived.Carry
import Derived.OpenShut
import Derived.ProofKit
namespace Go.Proofs.YthaampinmelgaaaGreatDoor
open Go.RowKit Go.Joins Go.ChangeShapes Go.WideShapes Go.Deep

theorem laidOut : laidOutB Tryz.prog = true := by kernel_rfl

/-- Is every cell of a type's one of a field's, down to cells that stand alone? -/
def coverB (P : Program) : Nat → TypeId → Bool
  | 0, _ => false
  | d + 1, t => match P.underlying t with
    | some (.struct fs) => (List.range (P.cellsOf t)).all fun i => fs.toList.any fun f => decide (f.offset ≤ i) && decide (i < f.offset + P.cellsOf f.type) && coverB P d f.type
    | some (.array ..) => false
    | _ => true
section
variable {H : Type} {enc : TypeId × Value → H} {P : Program} {w : World} {base : Nat} {spare : Nat → Bool} {held : Bool}
theorem trod_one : ∀ (d fuel : Nat) (t : TypeId) (cs : List Value) (x : DataW H × List MemPlace), coverB P d t = true → DataW.trod enc P w base spare held fuel t cs = some x → ∀ u ∈ cs, u.oneCell' = true
  | 0, _, _, _, _, hc, _ => by simp [coverB] at hc
  | d + 1, fuel, t, cs, x, hc, h => by
    unfold coverB at hc
    cases hu : P.underlying t with
    | none =>
      cases fuel with
      | zero => simp [DataW.trod] at h
      | succ n => unfold DataW.trod at h; rw [hu] at h; simp at h
    | some ty =>
      rw [hu] at hc
      by_cases hs : ∃ fs, ty = .struct fs
      · obtain ⟨fs, rfl⟩ := hs
        obtain ⟨xs, n, -, -, hlen, hxs, hf⟩ := DataW.trod_struct hu h
        intro u hm
        obtain ⟨i, hi, rfl⟩ := List.mem_iff_getElem.1 hm
        simp only [List.all_eq_true, List.any_eq_true, Bool.and_eq_true, decide_eq_true_eq] at hc
        obtain ⟨f, hfm, ⟨h1, h2⟩, h3⟩ := hc i (List.mem_range.2 (by omega))
        obtain ⟨j, hj⟩ := List.mem_iff_getElem?.1 hfm
        have hj' : fs[j]? = some f := by simpa using hj
        have h4 := hf j f hj'
        have hjl : j < xs.length := by rw [hxs]; exact (Array.getElem?_eq_some_iff.1 hj').1
        rw [List.getElem?_eq_getElem hjl] at h4
        refine trod_one d n f.type _ _ h3 h4 _ ?_
        refine List.mem_iff_getElem?.2 ⟨i - f.offset, ?_⟩
        rw [List.getElem?_take, if_pos (by omega), List.getElem?_drop, show f.offset + (i - f.offset) = i by omega]
        exact List.getElem?_eq_getElem hi
      · by_cases ha : ∃ n e, ty = .array n e
        · obtain ⟨n, e, rfl⟩ := ha
          simp at hc
        · cases fuel with
          | zero => simp [DataW.trod] at h
          | succ n =>
            unfold DataW.trod at h
            rw [hu] at h
            intro u hm
            split at h <;> first
              | (simp only [List.mem_singleton] at hm; subst hm; rfl)
              | (exfalso; rename_i heq; injection heq with heq; exact hs ⟨_, heq⟩)
              | (exfalso; rename_i heq; injection heq with heq; exact ha ⟨_, _, heq⟩)
              | (simp at h)
end
theorem lt_of_cell {w : World} {p : Addr} {v : Value} (h : w.cell? p = some v) : p.block < w.heap.size := by
  rcases Nat.lt_or_ge p.block w.heap.size with h1 | h1
  · exact h1
  · rw [World.cell?, Array.getElem?_eq_none h1] at h; cases h

theorem choose_pairs {Q : Nat → Int × Int → Prop} : ∀ (len : Nat), (∀ i, i < len → ∃ x, Q i x) → ∃ es : List (Int × Int), es.length = len ∧ ∀ i x, es[i]? = some x → Q i x
  | 0, _ => ⟨[], rfl, fun i x h => by simp at h⟩
  | n + 1, h => by
    obtain ⟨es, h1, h2⟩ := choose_pairs n (fun i hi => h i (by omega))
    obtain ⟨y, hy⟩ := h n (by omega)
    refine ⟨es ++ [y], by simp [h1], fun i x hx => ?_⟩
    by_cases hi : i < n
    · rw [List.getElem?_append_left (by omega)] at hx; exact h2 i x hx
    · by_cases e : i = n
      · subst e
        rw [List.getElem?_append_right (by omega), h1, Nat.sub_self] at hx
        cases hx; exact hy
      · rw [List.getElem?_eq_none (by simp; omega)] at hx; cases hx

set_option maxRecDepth 100000 in
theorem open_graph {H : Type} {enc : TypeId × Value → H} {W : World} {base : Nat} {v : Value} {d : DataW H} {p : List MemPlace} (hv : Value.okWide Tryz.prog W .any base 24 v)
    (h : DataW.Trod enc Tryz.prog W 0 (fun _ => true) true 24 v d p) : ∃ (n exit : Int) (vs : Value) (es : List (Int × Int)), v = .agg #[.int .i64 n, .int .i64 exit, vs] ∧ Edges W.heap.size W vs es := by
  obtain ⟨v0, v1, v2, y0, y1, y2, nn, rfl, -, -, h0, h1, h2⟩ := open_agg3 Tryz.underlying24 (by kernel_rfl) (by kernel_rfl) hv h
  obtain ⟨n, e0, -⟩ := DataW.trod_int Tryz.underlying3 h0
  obtain ⟨exit, e1, -⟩ := DataW.trod_int Tryz.underlying3 h1
  cases e0
  cases e1
  have hC : Tryz.prog.cellsOf 61 = 21 := by kernel_rfl
  rcases open_slice Tryz.underlying22 h2 with ⟨e2, -⟩ | ⟨a, len, cap, m, n2, D, Pl, e2, hb, hl, hm, hmm, -, hi⟩
  · cases e2
    exact ⟨n, exit, _, [], rfl, none, 0, rfl, by simp, by simp [maxLen], fun j x hx => by simp at hx⟩
  · cases e2
    have hlm : len ≤ m := by rw [hmm]; split <;> omega
    have key : ∀ i, i < len → ∃ x : Int × Int, ∃ cs : List Value, a.block < W.heap.size ∧ cs.length = 21 ∧ (∀ j u, cs[j]? = some u → W.cell? ((a.add (i * 21)).add j) = some u) ∧ cs[0]? = some (.int .i64 x.1) ∧ cs[1]? = some (.int .i64 x.2) ∧ ∀ u ∈ cs, u.oneCell' = true := by
      intro i hil
      obtain ⟨cs, hc, ht⟩ := hi i (by omega)
      rw [hC] at hc
      obtain ⟨_, hcl, hat⟩ := World.cells?_some hc
      have hone := trod_one 8 n2 61 cs _ (by kernel_rfl) ht
      obtain ⟨xs, n3, -, -, -, hxs, hf⟩ := DataW.trod_struct Tryz.underlying61 ht
      have hcell : ∀ j u, cs[j]? = some u → W.cell? ((a.add (i * 21)).add j) = some u := fun j u hu => by
        have hj : j < 21 := by rw [← hcl]; exact (List.getElem?_eq_some_iff.1 hu).1
        rw [hat j hj]; exact hu
      match cs, hcl with
      | c0 :: c1 :: rest, hcl =>
        have f0 := hf 0 _ rfl
        have f1 := hf 1 _ rfl
        have hx0 : 0 < xs.length := by rw [hxs]; decide
        have hx1 : 1 < xs.length := by rw [hxs]; decide
        rw [List.getElem?_eq_getElem hx0] at f0
        rw [List.getElem?_eq_getElem hx1] at f1
        have g0 : DataW.trod enc Tryz.prog W 0 (fun _ => true) true n3 3 [c0] = some xs[0] := by
          have hc3 : Tryz.prog.cellsOf 3 = 1 := by kernel_rfl
          have f0' : DataW.trod enc Tryz.prog W 0 (fun _ => true) true n3 3 (((c0 :: c1 :: rest).drop 0).take (Tryz.prog.cellsOf 3)) = some xs[0] := f0
          rw [hc3] at f0'
          exact f0'
        have g1 : DataW.trod enc Tryz.prog W 0 (fun _ => true) true n3 3 [c1] = some xs[1] := by
          have hc3 : Tryz.prog.cellsOf 3 = 1 := by kernel_rfl
          have f1' : DataW.trod enc Tryz.prog W 0 (fun _ => true) true n3 3 (((c0 :: c1 :: rest).drop 1).take (Tryz.prog.cellsOf 3)) = some xs[1] := f1
          rw [hc3] at f1'
          exact f1'
        obtain ⟨x0, q0, -⟩ := DataW.trod_int Tryz.underlying3 g0
        obtain ⟨x1, q1, -⟩ := DataW.trod_int Tryz.underlying3 g1
        cases q0
        cases q1
        refine ⟨(x0, x1), _, ?_, hcl, hcell, rfl, rfl, hone⟩
        have := lt_of_cell (hcell 0 _ rfl)
        rw [block_add, block_add] at this
        exact this
    obtain ⟨es, hel, hes⟩ := choose_pairs len key
    subst hel
    exact ⟨n, exit, _, es, rfl, some a, cap, rfl, hl, hm, fun j x hx => by
      obtain ⟨cs, r1, r2, r3, r4, r5, r6⟩ := hes j x hx
      exact ⟨a, cs, rfl, r1, r2, r3, r4, r5, r6⟩⟩
end Go.Proofs.YthaampinmelgaaaGreatDoor
