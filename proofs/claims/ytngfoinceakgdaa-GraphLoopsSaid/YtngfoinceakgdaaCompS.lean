/- Package graph: Components: what lies in memory. -/
import Derived.Test.YtngfoinceakgdaaGroups
import Derived.Test.YtngfoinceakgdaaLeave
/-! The plain model of Components. -/
namespace Go.Proofs.Ytngfoinceakgdaa

end Go.Proofs.Ytngfoinceakgdaa

/-! Package graph: Components, where the graph is not well-formed. -/
namespace Go.Proofs.Ytngfoinceakgdaa
open Go.RowKit Go.Shelf

section
variable (B : Nat) (w : World) (v : Value)
set_option maxRecDepth 100000
set_option maxHeartbeats 1000000
theorem components_bad (n exit : Int) (es : List (Int × Int)) (hv : Edges B w v es) (hB : B ≤ w.heap.size) (hc : chk n exit es ≠ 0) :
    Calls Try.prog 15 #[.agg #[.int .i64 n, .int .i64 exit, v]] w fun en w' => en = .returned (.tuple #[.slice none 0 0, .int .i64 (chk n exit es)]) ∧ Below w.heap.size w w' := by
  obtain ⟨A, c, rfl, hlc, -, hm, hes⟩ := id hv.shape
  have hcheck := fun w1 (h1 : Below w.heap.size w w1) => check_any B w1 n exit _ es (hv.below (h1.mono hB)) (by have := h1.size; omega)
  have HC := Lib.hid hcheck
  clear hcheck hes hv
  go_enter Try.func15, Try.ntmps15
  go_wp2_with (go_at_call 30; refine (HC.out _ ((Below.refl _ _).alloc (Nat.le_refl _) _)).mono ?_; rintro en w1 ⟨rfl, hb1⟩)
  go_ret2
  exact ⟨rfl, ((Below.refl _ _).alloc (Nat.le_refl _) _).trans (hb1.mono (by simp))⟩
end
end Go.Proofs.Ytngfoinceakgdaa

/-! Package graph: Components: what lies in memory. -/
namespace Go.Proofs.Ytngfoinceakgdaa
open Go.RowKit Go.Shelf

theorem bcell {W w1 : World} (hb : Below W.heap.size W w1) : (∀ b o, b < W.heap.size → w1.cell? ⟨b, o, none⟩ = W.cell? ⟨b, o, none⟩) ∧ (∀ b o, b < W.heap.size → w1.frozen? ⟨b, o, none⟩ = W.frozen? ⟨b, o, none⟩) :=
  ⟨fun b o h => hb.cell (p := ⟨b, o, none⟩) h, fun b o h => hb.frozen (p := ⟨b, o, none⟩) h⟩

/-- The numbers of the groups and the numbers of the components, in their variables. -/
structure CS (w3 W : World) (a7 a8 go gn n : Nat) (ofs : List Nat) (num : List Int) : Prop where
  v7 : Blk W a7 27 [.slice (some ⟨go, 0, none⟩) n n]
  v8 : Blk W a8 27 [.slice (some ⟨gn, 0, none⟩) n n]
  o : Blk W go 3 (ofs.map natV)
  m : Blk W gn 3 (num.map intV)
  ne : go ≠ gn
  lo : ofs.length = n
  ln : num.length = n
  h7 : w3.heap.size ≤ a7
  h8 : w3.heap.size ≤ a8
  hgo : w3.heap.size ≤ go
  hgn : w3.heap.size ≤ gn
  bel : Below w3.heap.size w3 W

theorem CS.start {w3 W : World} {a7 a8 go gn n : Nat} (v7 : Blk W a7 27 [.slice (some ⟨go, 0, none⟩) n n]) (v8 : Blk W a8 27 [.slice (some ⟨gn, 0, none⟩) n n])
    (o : Blk W go 3 (Array.replicate n (.int .i64 0)).toList) (m : Blk W gn 3 (List.replicate n (.int .i64 (-1)))) (ne : go ≠ gn) (h7 : w3.heap.size ≤ a7) (h8 : w3.heap.size ≤ a8) (hgo : w3.heap.size ≤ go) (hgn : w3.heap.size ≤ gn) (bel : Below w3.heap.size w3 W) :
    CS w3 W a7 a8 go gn n (List.replicate n 0) (List.replicate n (-1)) :=
  ⟨v7, v8, by rw [List.map_replicate]; rw [Array.toList_replicate] at o; exact o, by rw [List.map_replicate]; exact m, ne, by simp, by simp, h7, h8, hgo, hgn, bel⟩
theorem Blk.new1 {w : World} {t : TypeId} {u : Value} {N : Nat} (hN : w.heap.size = N) : Blk (w.alloc (.cells #[u] t)) N t [u] := Blk.newAt w t #[u] hN
theorem Blk.newA {w : World} {t : TypeId} {cs : Array Value} {N : Nat} (hN : w.heap.size = N) : Blk (w.alloc (.cells cs t)) N t cs.toList := Blk.newAt w t cs hN
theorem Blk.set1 {W : World} {g : Nat} {t : TypeId} {u0 u : Value} (h : Blk W g t [u0]) : Blk (W.setCell ⟨g, 0, none⟩ u) g t [u] := h.set 0 u

/-- The numbers of the groups while they are filled in. -/
def fillOf (o : List Nat) (g : List Nat) (k : Nat) : List Nat := g.foldl (fun o p => o.set p k) o
def ofP (n : Nat) (gs : List (List Nat)) (m : Nat) : List Nat := (gs.zipIdx.take m).foldl (fun o x => fillOf o x.1 x.2) (List.replicate n 0)
theorem ofP_zero (n : Nat) (gs : List (List Nat)) : ofP n gs 0 = List.replicate n 0 := rfl
theorem ofP_succ (n : Nat) (gs : List (List Nat)) (m : Nat) (h : m < gs.length) : ofP n gs (m + 1) = fillOf (ofP n gs m) gs[m] m := by
  unfold ofP
  rw [List.take_succ_eq_append_getElem (by simpa using h), List.foldl_append]
  simp
theorem ofP_all (n : Nat) (gs : List (List Nat)) : ofP n gs gs.length = ofF n gs := by
  unfold ofP ofF
  rw [List.take_of_length_le (by simp)]
  rfl
theorem fillOf_succ (o g : List Nat) (k j : Nat) (h : j < g.length) : fillOf o (g.take (j + 1)) k = (fillOf o (g.take j) k).set g[j] k := by
  unfold fillOf
  rw [List.take_succ_eq_append_getElem h, List.foldl_append]
  rfl
theorem fillOf_length (g : List Nat) (k : Nat) : ∀ o : List Nat, (fillOf o g k).length = o.length := by
  unfold fillOf
  induction g with
  | nil => intro o; rfl
  | cons x xs ih => intro o; rw [List.foldl_cons, ih]; simp

section
variable {w3 W : World} {a7 a8 go gn n : Nat} {ofs : List Nat} {num : List Int}
theorem CS.setOf (h : CS w3 W a7 a8 go gn n ofs num) (p k : Nat) : CS w3 (W.setCell ⟨go, p, none⟩ (.int .i64 (k : Int))) a7 a8 go gn n (ofs.set p k) num := by
  refine ⟨h.v7.far (h.v7.ne h.o (by decide)) _, h.v8.far (h.v8.ne h.o (by decide)) _, ?_, h.m.far h.ne.symm _, h.ne, by simpa using h.lo, h.ln, h.h7, h.h8, h.hgo, h.hgn, h.bel.setCell h.hgo _⟩
  have := h.o.set p (.int .i64 (k : Int))
  rw [List.map_set]
  exact this
theorem CS.setNum (h : CS w3 W a7 a8 go gn n ofs num) (p : Nat) (k : Int) : CS w3 (W.setCell ⟨gn, p, none⟩ (.int .i64 k)) a7 a8 go gn n ofs (num.set p k) := by
  refine ⟨h.v7.far (h.v7.ne h.m (by decide)) _, h.v8.far (h.v8.ne h.m (by decide)) _, h.o.far h.ne _, ?_, h.ne, h.lo, by simpa using h.ln, h.h7, h.h8, h.hgo, h.hgn, h.bel.setCell h.hgn _⟩
  have := h.m.set p (.int .i64 k)
  rw [List.map_set]
  exact this
theorem CS.alloc (h : CS w3 W a7 a8 go gn n ofs num) (o : Obj) : CS w3 (W.alloc o) a7 a8 go gn n ofs num :=
  ⟨h.v7.alloc _, h.v8.alloc _, h.o.alloc _, h.m.alloc _, h.ne, h.lo, h.ln, h.h7, h.h8, h.hgo, h.hgn, h.bel.alloc h.bel.size _⟩
theorem CS.drewN (h : CS w3 W a7 a8 go gn n ofs num) (k : Nat) : CS w3 (W.drewN k) a7 a8 go gn n ofs num :=
  ⟨h.v7, h.v8, h.o, h.m, h.ne, h.lo, h.ln, h.h7, h.h8, h.hgo, h.hgn, below_drewN' h.bel k⟩
theorem CS.blk (h : CS w3 W a7 a8 go gn n ofs num) : ∃ cs7 cs8 cso csm, W.heap[a7]? = some cs7 ∧ W.heap[a8]? = some cs8 ∧ W.heap[go]? = some cso ∧ W.heap[gn]? = some csm ∧ cs7.isCells = true ∧ cs8.isCells = true ∧ cso.isCells = true ∧ csm.isCells = true :=
  ⟨_, _, _, _, h.v7, h.v8, h.o, h.m, rfl, rfl, rfl, rfl⟩
/-- Nothing but what is below block W.heap.size and no cells has been turned. -/
theorem CS.keep (h : CS w3 W a7 a8 go gn n ofs num) {W' : World} (hg : Below w3.heap.size W W') (h1 : W'.heap[a7]? = W.heap[a7]?) (h2 : W'.heap[a8]? = W.heap[a8]?) (h3 : W'.heap[go]? = W.heap[go]?) (h4 : W'.heap[gn]? = W.heap[gn]?) : CS w3 W' a7 a8 go gn n ofs num :=
  ⟨h.v7.same h1, h.v8.same h2, h.o.same h3, h.m.same h4, h.ne, h.lo, h.ln, h.h7, h.h8, h.hgo, h.hgn, h.bel.trans hg⟩
theorem CS.ofCell (h : CS w3 W a7 a8 go gn n ofs num) {p : Nat} (hp : p < n) : W.cell? ⟨go, p, none⟩ = some (.int .i64 (ofs.getD p 0 : Nat)) :=
  h.o.cellAt (by rw [List.getElem?_map, List.getElem?_eq_getElem (by rw [h.lo]; exact hp), List.getD_eq_getElem?_getD, List.getElem?_eq_getElem (by rw [h.lo]; exact hp)]; rfl)
theorem CS.numCell (h : CS w3 W a7 a8 go gn n ofs num) {p : Nat} (hp : p < n) : W.cell? ⟨gn, p, none⟩ = some (.int .i64 (getI num p)) :=
  getI_cell h.m (by rw [h.ln]; exact hp)
end
/-- One of the lists, as it is read. -/
theorem Natss.at {B : Nat} {w : World} {A : Option Addr} {m c : Nat} {xss : List (List Nat)} (h : Natss B w (.slice A m c) xss) {j : Nat} (hj : j < xss.length) : ∃ (ad : Addr) (A' : Option Addr) (c' : Nat), A = some ad ∧ ad.block < B ∧ w.cell? (ad.add j) = some (.slice A' xss[j].length c') ∧ Nats B w (.slice A' xss[j].length c') xss[j] ∧ xss[j].length ≤ 9223372036854775807 := by
  obtain ⟨A1, c1, he, -, -, h3⟩ := h
  cases he
  obtain ⟨ad, u, rfl, hb, hc, hr⟩ := h3 j _ (List.getElem?_eq_getElem hj)
  obtain ⟨A', c', rfl, -, -, hm, -⟩ := Sl.shape hr
  exact ⟨ad, A', c', rfl, hb, hc, hr, hm⟩

end Go.Proofs.Ytngfoinceakgdaa
