/- Words on memory that the walks of this seat use: what lies below a block number, slices that are read, rows of the call's own. Nothing here speaks of a program. -/
import Derived.WalkKit
import Derived.Maps.AppendAt
import Derived.Deep.Draws
import Derived.Deep.QuietTactic
import Derived.BigQuiet
import Derived.WalkLawsBesides
import Derived.WalkSpells
import Derived.Lib.Hide
import Derived.Deep.LoopGhost
import Derived.Deep.DeepMust
import Derived.Deep.DeepFit
import Derived.Deep.DeepCutAuto
import Derived.Deep.CutBlock
import Derived.Deep.OwnRows
import Derived.Deep.WholeRow
import Derived.Deep.MidRow
import Derived.Deep.RegionWith
namespace Go.Proofs.YthaampinmelgaaaGreatDoor
open Go.RowKit

theorem add_none (g j : Nat) : (⟨g, 0, none⟩ : Addr).add j = ⟨g, j, none⟩ := by unfold Addr.add; split <;> simp_all
theorem block_add (a : Addr) (n : Nat) : (a.add n).block = a.block := by unfold Addr.add; split <;> rfl
theorem add_add' (a : Addr) (i j : Nat) : (a.add i).add j = a.add (i + j) := by
  unfold Addr.add
  by_cases hi : i = 0 <;> by_cases hj : j = 0 <;> simp [hi, hj, Nat.add_assoc]

/-- What is not in S, and was there, is as it was. -/
structure Only (S : Nat → Prop) (w w' : World) : Prop where
  os : w'.os = w.os
  tape : w'.tape = w.tape
  output : w'.output = w.output
  size : w.heap.size ≤ w'.heap.size
  block : ∀ k, k < w.heap.size → ¬ S k → w'.heap[k]? = w.heap[k]?

section
variable {S T : Nat → Prop} {w w' w'' : World}
theorem Only.refl (S : Nat → Prop) (w : World) : Only S w w := ⟨rfl, rfl, rfl, Nat.le_refl _, fun _ _ _ => rfl⟩
theorem Only.trans (h : Only S w w') (k : Only T w' w'') (hS : ∀ b, b < w.heap.size → T b → S b) : Only S w w'' :=
  ⟨k.os.trans h.os, k.tape.trans h.tape, k.output.trans h.output, Nat.le_trans h.size k.size,
    fun i hi hs => (k.block i (Nat.lt_of_lt_of_le hi h.size) (fun ht => hs (hS i hi ht))).trans (h.block i hi hs)⟩
theorem Only.mono (h : Only S w w') (hS : ∀ b, b < w.heap.size → S b → T b) : Only T w w' :=
  ⟨h.os, h.tape, h.output, h.size, fun i hi hs => h.block i hi (fun ht => hs (hS i hi ht))⟩
theorem Only.of_below {B : Nat} (h : Below B w w') (hS : ∀ b, B ≤ b → b < w.heap.size → S b) : Only S w w' :=
  ⟨h.os, h.tape, h.output, h.size, fun i hi hs => h.block i (by
    rcases Nat.lt_or_ge i B with h1 | h1
    · exact h1
    · exact absurd (hS i h1 hi) hs)⟩
theorem Only.below {B : Nat} (h : Only S w w') (hB : B ≤ w.heap.size) (hS : ∀ b, b < B → ¬ S b) : Below B w w' :=
  ⟨h.os, h.tape, h.output, h.size, fun k hk => h.block k (by omega) (hS k hk)⟩
theorem Only.of_grown {row : Option Nat} (h : w.grownBy w' row) (hS : ∀ b, row = some b → S b) : Only S w w' :=
  ⟨h.os, h.tape, h.output, h.size, fun k hk hs => h.block k hk (fun e => hs (hS k e.symm))⟩
theorem Only.alloc (h : Only S w w') (o : Obj) : Only S w (w'.alloc o) :=
  h.trans (T := fun _ => False) ⟨rfl, rfl, rfl, by simp, fun k hk _ => Below.heap_alloc _ _ _ hk⟩ (fun _ _ f => f.elim)
theorem Only.set (h : Only S w w') {p : Addr} (hp : p.block < w.heap.size → S p.block) (u : Value) : Only S w (w'.setCell p u) :=
  h.trans (T := fun b => b = p.block) ⟨rfl, rfl, rfl, by simp [World.setCell], fun k _ hs => Below.heap_setCell _ _ _ _ hs⟩ (fun b hb e => by subst e; exact hp hb)
theorem Only.drewN (h : Only S w w') (n : Nat) : Only S w (w'.drewN n) := ⟨h.os, h.tape, h.output, h.size, h.block⟩
theorem Only.drew (h : Only S w w') : Only S w w'.drew := ⟨h.os, h.tape, h.output, h.size, h.block⟩
end
theorem below_drewN' {B : Nat} {w w' : World} (h : Below B w w') (n : Nat) : Below B w (w'.drewN n) := ⟨h.os, h.tape, h.output, h.size, h.block⟩
theorem below_then {B : Nat} {w w1 w2 : World} (h : Below B w w1) (hB : B ≤ w1.heap.size) (k : Below w1.heap.size w1 w2) : Below B w w2 := h.trans (k.mono hB)

/-- A block that is known whole, no cell of it frozen. -/
def Blk (w : World) (g : Nat) (t : TypeId) (cs : List Value) : Prop := w.heap[g]? = some (.cells cs.toArray t (0, 0))
section
variable {w w' : World} {g : Nat} {t : TypeId} {cs : List Value}
theorem Blk.lt (h : Blk w g t cs) : g < w.heap.size := lt_of_block h
theorem Blk.cell (h : Blk w g t cs) (i : Nat) : w.cell? ⟨g, i, none⟩ = cs[i]? := by
  rw [cell_of_row w g i cs.toArray t (0, 0) h]; simp
theorem Blk.cellAt (h : Blk w g t cs) {i : Nat} {u : Value} (hu : cs[i]? = some u) : w.cell? ⟨g, i, none⟩ = some u := (h.cell i).trans hu
theorem Blk.frozen (h : Blk w g t cs) (i : Nat) : w.frozen? ⟨g, i, none⟩ = false := by unfold Blk at h; simp [World.frozen?, h]
theorem Blk.new (w : World) (t : TypeId) (cs : List Value) : Blk (w.alloc (.cells cs.toArray t)) w.heap.size t cs := heap_alloc_new w _
theorem Blk.newAt {N : Nat} (w : World) (t : TypeId) (cs : Array Value) (hN : w.heap.size = N) : Blk (w.alloc (.cells cs t)) N t cs.toList := by
  subst hN
  unfold Blk
  simpa using heap_alloc_new w (.cells cs t)
theorem Blk.drewN (h : Blk w g t cs) (n : Nat) : Blk (w.drewN n) g t cs := h
theorem Blk.drew (h : Blk w g t cs) : Blk w.drew g t cs := h
theorem Blk.alloc (h : Blk w g t cs) (o : Obj) : Blk (w.alloc o) g t cs := (Below.heap_alloc w o g h.lt).trans h
theorem Blk.set (h : Blk w g t cs) (i : Nat) (u : Value) : Blk (w.setCell ⟨g, i, none⟩ u) g t (cs.set i u) := by
  unfold Blk at h ⊢
  rw [heap_setCell_same w g i cs.toArray t u h]
  simp
theorem Blk.far (h : Blk w g t cs) {p : Addr} (hp : g ≠ p.block) (u : Value) : Blk (w.setCell p u) g t cs := (Below.heap_setCell w p u g hp).trans h
theorem Blk.below {B : Nat} (h : Blk w g t cs) (hb : Below B w w') (hg : g < B) : Blk w' g t cs := (hb.block g hg).trans h
theorem Blk.only {S : Nat → Prop} (h : Blk w g t cs) (hb : Only S w w') (hg : ¬ S g) : Blk w' g t cs := (hb.block g h.lt hg).trans h
theorem Blk.same (h : Blk w g t cs) (hb : w'.heap[g]? = w.heap[g]?) : Blk w' g t cs := hb.trans h
theorem Blk.ne {g' : Nat} {t' : TypeId} {cs' : List Value} (h : Blk w g t cs) (h' : Blk w g' t' cs') (hne : t ≠ t') : g ≠ g' := by
  rintro rfl
  unfold Blk at h h'
  rw [h] at h'
  injection h' with h'
  injection h' with _ ht
  exact hne ht
end

/-- A slice that is read: its elements lie below block B, one cell each, and each stands for one of xs. -/
def Sl {α : Type} (R : World → Value → α → Prop) (B : Nat) (w : World) (v : Value) (xs : List α) : Prop :=
  ∃ A c, v = .slice A xs.length c ∧ xs.length ≤ c ∧ c ≤ maxLen ∧ ∀ (j : Nat) (x : α), xs[j]? = some x → ∃ ad u, A = some ad ∧ ad.block < B ∧ w.cell? (ad.add j) = some u ∧ R w u x
section
variable {α : Type} {R : World → Value → α → Prop} {B B' : Nat} {w w' : World} {v : Value} {xs : List α}
theorem Sl.keep (h : Sl R B w v xs) (hk : ∀ p : Addr, p.block < B → w'.cell? p = w.cell? p) (hR : ∀ u x, R w u x → R w' u x) : Sl R B w' v xs := by
  obtain ⟨A, c, rfl, h1, h2, h3⟩ := h
  refine ⟨A, c, rfl, h1, h2, fun j x hx => ?_⟩
  obtain ⟨ad, u, rfl, hb, hc, hr⟩ := h3 j x hx
  exact ⟨ad, u, rfl, hb, (hk _ (by rw [block_add]; exact hb)).trans hc, hR _ _ hr⟩
theorem Sl.more (h : Sl R B w v xs) (hB : B ≤ B') : Sl R B' w v xs := by
  obtain ⟨A, c, rfl, h1, h2, h3⟩ := h
  refine ⟨A, c, rfl, h1, h2, fun j x hx => ?_⟩
  obtain ⟨ad, u, rfl, hb, hc, hr⟩ := h3 j x hx
  exact ⟨ad, u, rfl, by omega, hc, hr⟩
theorem Sl.relax {R' : World → Value → α → Prop} (h : Sl R B w v xs) (hR : ∀ u x, x ∈ xs → R w u x → R' w u x) : Sl R' B w v xs := by
  obtain ⟨A, c, rfl, h1, h2, h3⟩ := h
  refine ⟨A, c, rfl, h1, h2, fun j x hx => ?_⟩
  obtain ⟨ad, u, rfl, hb, hc, hr⟩ := h3 j x hx
  exact ⟨ad, u, rfl, hb, hc, hR _ _ (List.mem_of_getElem? hx) hr⟩
/-- The slice's shape, and the cell of element j. -/
theorem Sl.shape (h : Sl R B w v xs) : ∃ A c, v = .slice A xs.length c ∧ xs.length ≤ c ∧ c ≤ maxLen ∧ xs.length ≤ 9223372036854775807 ∧
    ∀ (j : Nat) (x : α), xs[j]? = some x → ∃ ad u, A = some ad ∧ ad.block < B ∧ w.cell? (ad.add j) = some u ∧ R w u x := by
  obtain ⟨A, c, rfl, h1, h2, h3⟩ := h
  exact ⟨A, c, rfl, h1, h2, by unfold maxLen at h2; omega, h3⟩
theorem Sl.nil (R : World → Value → α → Prop) (B : Nat) (w : World) : Sl R B w (.slice none 0 0) [] := ⟨none, 0, rfl, by simp, by simp [maxLen], fun j x hx => by simp at hx⟩
end

def RNat : World → Value → Nat → Prop := fun _ u x => u = .int .i64 (x : Int)
def RInt : World → Value → Int → Prop := fun _ u x => u = .int .i64 x
def RBool : World → Value → Bool → Prop := fun _ u x => u = .bool x
abbrev Nats := Sl RNat
abbrev Ints := Sl RInt
abbrev Bools := Sl RBool
def Natss (B : Nat) (w : World) (v : Value) (xss : List (List Nat)) : Prop := Sl (fun w u xs => Nats B w u xs) B w v xss
section
variable {B B' : Nat} {w w' : World} {v : Value}
theorem Nats.below {xs : List Nat} (h : Nats B w v xs) (hb : Below B w w') : Nats B w' v xs := h.keep (fun _ hp => hb.cell hp) (fun _ _ e => e)
theorem Ints.below {xs : List Int} (h : Ints B w v xs) (hb : Below B w w') : Ints B w' v xs := h.keep (fun _ hp => hb.cell hp) (fun _ _ e => e)
theorem Bools.below {xs : List Bool} (h : Bools B w v xs) (hb : Below B w w') : Bools B w' v xs := h.keep (fun _ hp => hb.cell hp) (fun _ _ e => e)
theorem Natss.below {xss : List (List Nat)} (h : Natss B w v xss) (hb : Below B w w') : Natss B w' v xss := Sl.keep h (fun _ hp => hb.cell hp) (fun _ _ e => Nats.below e hb)
theorem Natss.more {xss : List (List Nat)} (h : Natss B w v xss) (hB : B ≤ B') : Natss B' w v xss := Sl.relax (Sl.more h hB) (fun _ _ _ e => Sl.more e hB)
end

/-- Out of a row of one's own: a slice that is read. -/
theorem Sl.of_own {α : Type} {R : World → Value → α → Prop} {w : World} {base : Nat} {e : TypeId} {v : Value} {xs : List α} (f : α → Value) (hf : ∀ x, x ∈ xs → R w (f x) x)
    (h : w.ownsRow base e 1 v xs.length (xs.map f)) : Sl R w.heap.size w v xs := by
  rcases h.2 with ⟨rfl, hn⟩ | ⟨g, cap, cur, rfl, hb, hh, h1, h2, h3, h4⟩
  · have : xs = [] := List.eq_nil_of_length_eq_zero hn
    subst this
    exact Sl.nil R _ w
  · refine ⟨_, cap, rfl, h1, h2, fun j x hx => ⟨_, f x, rfl, lt_of_block hh, ?_, hf x (List.mem_of_getElem? hx)⟩⟩
    exact h.cells (g := g) rfl j (f x) (by simp [hx])
theorem Sl.of_blk {α : Type} {R : World → Value → α → Prop} {w : World} {g : Nat} {e : TypeId} {xs : List α} (f : α → Value) (hf : ∀ x, x ∈ xs → R w (f x) x) (h : Blk w g e (xs.map f)) {c : Nat} (hc : xs.length ≤ c) (hm : c ≤ maxLen) {B : Nat} (hB : g < B) :
    Sl R B w (.slice (some ⟨g, 0, none⟩) xs.length c) xs :=
  ⟨_, c, rfl, hc, hm, fun j x hx => ⟨_, f x, rfl, hB, by rw [add_none]; exact h.cellAt (by simp [hx]), hf x (List.mem_of_getElem? hx)⟩⟩

/-- 'make([]T, m)', laid ahead of the walk. -/
theorem madeCells_one (v : Value) (m : Nat) : madeCells #[v] m = (List.replicate m v).toArray := by
  apply Array.ext
  · simp [madeCells]
  · intro i h1 h2
    simp [madeCells, Nat.mod_one]
theorem make_one {P : Program} (t e : TypeId) (z : Value) (bytes : Nat) (ht : P.underlying t = some (.slice e)) (hinfo : (P.info? e).map (fun i => (i.zero, i.size, i.bytes)) = some (some z, 1, bytes)) (hz : z.cells = #[z])
    (m : Nat) (hn : m * bytes ≤ 281474976710656) (hm : m ≤ 281474976710656) (W : World) :
    (Instr.makeSlice t (.int .i64 (m : Int)) (.int .i64 (m : Int))).run P W = .ok (.slice (some ⟨W.heap.size, 0, none⟩) m m) (W.alloc (.cells (List.replicate m z).toArray e)) := by
  have h := run_make_row' t e z bytes ht hinfo hz .i64 .i64 m (by rw [Nat.mul_comm]; exact hn) (by omega) W
  rw [madeCells_one] at h
  exact h

/-! A struct of several cells out of a slice: its cells as a list. -/
section
variable {P : Program}
theorem run_loadVar_list (w : World) (ad : Addr) (ty : TypeId) (cs : List Value) (d : TypeDesc) (hc : ∀ j v, cs[j]? = some v → w.cell? (ad.add j) = some v)
    (hu : P.underlying ty = some d) (hd : d.isRow = true) (hi : (P.info? ty).map (·.size) = some cs.length) : (loadVar ty ad).run P w = .ok (.agg cs.toArray) w := by
  have hl := run_loadCells_list (P := P) w ad cs hc
  cases hq : P.info? ty with
  | none => simp [hq] at hi
  | some i =>
    have hs : i.size = cs.length := by simpa [hq] using hi
    have hagg : (isAgg ty).run P w = .ok true w := by
      unfold isAgg
      rw [Sem.run_bind, run_underlying hu w]
      cases d <;> simp_all
    simp [loadVar, Sem.run_bind, hagg, sizeOf, typeInfo, hq, hs, hl]
theorem wpList_load_list {ops : Array Oper} {rest : List Oper} {o : Oper} {a : Act} {w : World} {Q : Exit → Act → World → Prop} (hgd : o.guard = none) (ty : TypeId) (x : Operand) (ho : o.op = .load ty x)
    (ad : Addr) (hx : a.eval x = .pointer (some ad)) (cs : List Value) (d : TypeDesc) (hc : ∀ j v, cs[j]? = some v → w.cell? (ad.add j) = some v)
    (hu : P.underlying ty = some d) (hd : d.isRow = true) (hi : (P.info? ty).map (·.size) = some cs.length)
    (h : wpList P ops Q rest (a.put o.dst (.agg cs.toArray)) w) : wpList P ops Q (o :: rest) a w :=
  wpList_plain hgd fun _ hK => by
    unfold Oper.wp execOp
    simp only [ho, hx, Instr.loadAt, Instr.sureAddr, Sem.run_bind, Sem.run_pure, Result.andThen_ok, run_loadVar_list w ad ty cs d hc hu hd hi]
    exact hK _ _ h
/-- A struct's cells go into the block that was made last. -/
theorem wpList_store_new {ops : Array Oper} {rest : List Oper} {o : Oper} {a : Act} {w : World} {Q : Exit → Act → World → Prop} (hgd : o.guard = none) (ty : TypeId) (x y : Operand) (ho : o.op = .store ty x y)
    (t : TypeId) (old : Array Value) (cs : List Value) (hx : a.eval x = .pointer (some ⟨w.heap.size, 0, none⟩)) (hy : a.eval y = .agg cs.toArray)
    (hi : (P.info? ty).map (·.size) = some cs.length) (hold : old.size = cs.length) (h1 : ∀ v ∈ cs, v.oneCell' = true)
    (h : wpList P ops Q rest (a.put o.dst undef) (w.alloc (.cells cs.toArray t))) : wpList P ops Q (o :: rest) a (w.alloc (.cells old t)) :=
  wpList_store_row hgd ty x y ho w.heap.size cs.toArray hx hy t old (heap_alloc_last w _) (by simpa using hi) (by simpa using hold) (all_oneCell_toArray h1) (by rw [World.setRow_alloc_new]; exact h)
end

/-- The edges of a graph, as they are read: of each the cells, of which the first two are its ends. -/
def Edges (B : Nat) (w : World) (v : Value) (es : List (Int × Int)) : Prop :=
  ∃ A c, v = .slice A es.length c ∧ es.length ≤ c ∧ c ≤ maxLen ∧ ∀ (j : Nat) (x : Int × Int), es[j]? = some x →
    ∃ (ad : Addr) (cs : List Value), A = some ad ∧ ad.block < B ∧ cs.length = 21 ∧ (∀ i u, cs[i]? = some u → w.cell? ((ad.add (j * 21)).add i) = some u) ∧ cs[0]? = some (.int .i64 x.1) ∧ cs[1]? = some (.int .i64 x.2) ∧ ∀ u ∈ cs, u.oneCell' = true
theorem Edges.below {B : Nat} {w w' : World} {v : Value} {es : List (Int × Int)} (h : Edges B w v es) (hb : Below B w w') : Edges B w' v es := by
  obtain ⟨A, c, rfl, h1, h2, h3⟩ := h
  refine ⟨A, c, rfl, h1, h2, fun j x hx => ?_⟩
  obtain ⟨ad, cs, rfl, hbk, hl, hc, r⟩ := h3 j x hx
  exact ⟨ad, cs, rfl, hbk, hl, fun i u hu => (hb.cell (by rw [block_add, block_add]; exact hbk)).trans (hc i u hu), r⟩
theorem Edges.more {B B' : Nat} {w : World} {v : Value} {es : List (Int × Int)} (h : Edges B w v es) (hB : B ≤ B') : Edges B' w v es := by
  obtain ⟨A, c, rfl, h1, h2, h3⟩ := h
  refine ⟨A, c, rfl, h1, h2, fun j x hx => ?_⟩
  obtain ⟨ad, cs, rfl, hbk, r⟩ := h3 j x hx
  exact ⟨ad, cs, rfl, by omega, r⟩
theorem Edges.shape {B : Nat} {w : World} {v : Value} {es : List (Int × Int)} (h : Edges B w v es) : ∃ A c, v = .slice A es.length c ∧ es.length ≤ c ∧ c ≤ maxLen ∧ es.length ≤ 9223372036854775807 ∧
    ∀ (j : Nat) (x : Int × Int), es[j]? = some x → ∃ (ad : Addr) (cs : List Value), A = some ad ∧ ad.block < B ∧ cs.length = 21 ∧ (∀ i u, cs[i]? = some u → w.cell? ((ad.add (j * 21)).add i) = some u) ∧ cs[0]? = some (.int .i64 x.1) ∧ cs[1]? = some (.int .i64 x.2) ∧ ∀ u ∈ cs, u.oneCell' = true := by
  obtain ⟨A, c, rfl, h1, h2, h3⟩ := h
  exact ⟨A, c, rfl, h1, h2, by unfold maxLen at h2; omega, h3⟩

end Go.Proofs.YthaampinmelgaaaGreatDoor
