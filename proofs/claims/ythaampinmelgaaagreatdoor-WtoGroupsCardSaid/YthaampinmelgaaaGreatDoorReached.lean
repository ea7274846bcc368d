/- Edges as they are read; the reached points. -/
import Derived.Test.YthaampinmelgaaaGreatDoorOut
import Derived.Test.YthaampinmelgaaaGreatDoorPlain2
import Derived.Test.YthaampinmelgaaaGreatDoorReach
import Derived.Test.YthaampinmelgaaaGreatDoorBack
import Derived.Deep.LoopGhost
namespace Go.Proofs.YthaampinmelgaaaGreatDoor
open Go.RowKit Go.Shelf

theorem bool_cell {w : World} {g : Nat} {o : List Bool} (h : Blk w g 4 (o.map Value.bool)) {p : Nat} (hp : p < o.length) : w.cell? ⟨g, p, none⟩ = some (.bool (o.getD p false)) :=
  h.cellAt (by rw [List.getElem?_map, List.getElem?_eq_getElem hp, List.getD_eq_getElem?_getD, List.getElem?_eq_getElem hp]; rfl)

/-- The edges of a well-formed graph, as they are read. -/
theorem Edges.nat {B : Nat} {w : World} {A : Option Addr} {E : List (Nat × Nat)} (h : ∀ (j : Nat) (x : Int × Int), (castE E)[j]? = some x →
    ∃ (ad : Addr) (cs : List Value), A = some ad ∧ ad.block < B ∧ cs.length = 21 ∧ (∀ i u, cs[i]? = some u → w.cell? ((ad.add (j * 21)).add i) = some u) ∧ cs[0]? = some (.int .i64 x.1) ∧ cs[1]? = some (.int .i64 x.2) ∧ ∀ u ∈ cs, u.oneCell' = true) :
    ∀ (j : Nat) (x : Nat × Nat), E[j]? = some x → ∃ (ad : Addr) (cs : List Value), A = some ad ∧ ad.block < B ∧ cs.length = 21 ∧ (∀ i u, cs[i]? = some u → w.cell? ((ad.add (j * 21)).add i) = some u) ∧ cs[0]? = some (.int .i64 (x.1 : Int)) ∧ cs[1]? = some (.int .i64 (x.2 : Int)) ∧ ∀ u ∈ cs, u.oneCell' = true :=
  fun j x hx => h j ((x.1 : Int), (x.2 : Int)) (by unfold castE; rw [List.getElem?_map, hx]; rfl)

/-- The graph in its variable, and the points that have been reached. -/
structure RB (w W : World) (gv : List Value) (ob : Nat) (o : List Bool) : Prop where
  g : Blk W w.heap.size 24 gv
  o : Blk W ob 4 (o.map Value.bool)
  bel : Below w.heap.size w W
  ob1 : w.heap.size ≤ ob

theorem RB.alloc {w W : World} {gv : List Value} {ob : Nat} {o : List Bool} (h : RB w W gv ob o) (x : Obj) : RB w (W.alloc x) gv ob o := ⟨h.g.alloc _, h.o.alloc _, h.bel.alloc h.bel.size _, h.ob1⟩
theorem RB.set {w W : World} {gv : List Value} {ob : Nat} {o : List Bool} (h : RB w W gv ob o) (p : Nat) : RB w (W.setCell ⟨ob, p, none⟩ (.bool true)) gv ob (o.set p true) := by
  refine ⟨h.g.far (h.g.ne h.o (by decide)) _, ?_, h.bel.setCell h.ob1 _, h.ob1⟩
  have := h.o.set p (.bool true)
  rw [List.map_set]
  exact this

end Go.Proofs.YthaampinmelgaaaGreatDoor
