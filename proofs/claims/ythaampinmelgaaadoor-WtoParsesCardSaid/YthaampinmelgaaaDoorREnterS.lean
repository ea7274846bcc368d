/- The reference's order: an append from whatever slice; the plain model; the state in memory. -/
import Derived.Test.YthaampinmelgaaaDoorVisitS
import Derived.Test.YthaampinmelgaaaDoorGV
namespace Go.Proofs.YthaampinmelgaaaDoor
open Go.RowKit Go.Shelf

section
variable {P : Program} {w : World}
theorem run_append_zero (t ty e : TypeId) (i : TypeInfo) (ht : P.underlying t = some (.slice e)) (hi : P.info? e = some i) {base size n : Nat} {v : Value} {xs : List Value} (hown : w.ownsRow base e size v n xs) (A : Option Addr) (c : Nat) :
    (Builtin.append_ #[t, t] ty #[v, .slice A 0 c]).run P w = .ok v w := by
  have hl : ∀ (x : Addr), (loadCells x 0).run P w = .ok #[] w := fun x => by simpa using run_loadCells_list (P := P) w x [] (by simp)
  rcases hown.2 with ⟨rfl, rfl⟩ | ⟨g, cap, cur, rfl, -, -, hnc, -⟩
  · cases A <;> simp [Builtin.append_, run_underlying ht, sizeOf, typeInfo, hi, Builtin.lenOf, Builtin.firstCells, hl]
  · cases A <;> simp [Builtin.append_, run_underlying ht, sizeOf, typeInfo, hi, Builtin.lenOf, Builtin.firstCells, hl, hnc, storeCells]
/-- append of all elements of a slice that is read, nil, empty or not, to a row of the call's own. -/
theorem wpList_append_cat {ops : Array Oper} {rest : List Oper} {o : Oper} {a : Act} {Q : Exit → Act → World → Prop} (hgd : o.guard = none) (s x : Operand) (t : TypeId)
    (ho : o.op = .call { callee := .builtin .append, args := #[s, x], argTypes := #[t, t] })
    (base : Nat) (e : TypeId) (i : TypeInfo) (z : Value) (size bytes : Nat) (ht : P.underlying t = some (.slice e)) (hi : P.info? e = some i) (hz : i.zero = some z)
    (hsize : i.size = size) (hby : i.bytes = bytes) (hzs : z.cells.size = size) (hsz : 0 < size)
    (v : Value) (n : Nat) (xs : List Value) (hs : a.eval s = v) (hown : w.ownsRow base e size v n xs)
    (A : Option Addr) (m c : Nat) (news : List Value) (hx : a.eval x = .slice A m c) (hl : news.length = m * size) (hnews : 0 < m → ∃ ad, A = some ad ∧ ∀ j u, news[j]? = some u → w.cell? (ad.add j) = some u) (h1 : ∀ u ∈ news, u.oneCell' = true)
    (h63 : n + m ≤ maxLen) (hbytes : (n + m) * bytes ≤ 140737488355328) (hbase : base ≤ w.heap.size)
    (h : ∀ v' w', w'.ownsRow base e size v' (n + m) (xs ++ news) → w.grownBy w' v.ownBlock → (v.ownBlock = v'.ownBlock ∨ ∃ b, v'.ownBlock = some b ∧ w.heap.size ≤ b) → wpList P ops Q rest (a.put o.dst v') w') : wpList P ops Q (o :: rest) a w := by
  by_cases hm : m = 0
  · subst hm
    have hn0 : news = [] := List.eq_nil_of_length_eq_zero (by simpa using hl)
    subst hn0
    refine wpList_plain hgd fun K hK => ?_
    have hrun := run_append_zero (P := P) (w := w) t o.type e i ht hi hown A c
    unfold Oper.wp
    simp [execOp, ho, resolve, invoke, builtin, hs, hx, hrun, Result.andThen]
    exact hK _ _ (h v w (by simpa using hown) ⟨rfl, rfl, rfl, Nat.le_refl _, fun _ _ _ => rfl⟩ (.inl rfl))
  · obtain ⟨ad, rfl, hc⟩ := hnews (by omega)
    refine wpList_append_lies w hgd s x t ho base e i z size bytes ht hi hz hsize hby hzs hsz v n xs hs hown ad m c news hx hl hc h1 (by omega) h63 hbytes hbase w.heap.size rfl ?_
    intro g cap w' h2 h3 h4 _
    refine h _ w' h2 h3 ?_
    rcases h4 with h4 | h4
    · exact .inl (by rw [h4]; rfl)
    · exact .inr ⟨g, rfl, by omega⟩
end

/-- The graph, and where the numbers lie. -/
structure REnv where
  n : Nat
  exit : Int
  E : List (Nat × Nat)
  A : Option Addr
  c : Nat
  na : Nat
  lb : Nat
structure REnv.Ok (e : REnv) : Prop where
  n512 : e.n ≤ 512
  lE : e.E.length ≤ 1024
  lt : ∀ x ∈ e.E, x.1 < e.n ∧ x.2 < e.n
def REnv.val (e : REnv) (next : Nat) (skv lkv : Value) : Value := .agg #[.int .i64 (e.n : Int), .int .i64 e.exit, .slice e.A e.E.length e.c, .slice (some ⟨e.na, 0, none⟩) e.n e.n, .int .i64 (next : Int), skv, lkv]
def REnv.cells (e : REnv) (next : Nat) (skv lkv : Value) : List Value := [.int .i64 (e.n : Int), .int .i64 e.exit, .slice e.A e.E.length e.c, .slice (some ⟨e.na, 0, none⟩) e.n e.n, .int .i64 (next : Int), skv, lkv]

structure RS (e : REnv) (w : World) (s : RSt) (skv lkv : Value) : Prop where
  ed : Edges e.na w (.slice e.A e.E.length e.c) (castE e.E)
  a : Blk w e.na 3 (s.nums.map intV)
  len : s.nums.length = e.n
  st : w.ownsRow (e.na + 1) 3 1 skv s.stack.length (s.stack.map natV)
  sl : ∀ x ∈ s.stack, x < e.n
  ls : Els (fun b => e.lb < b ∧ Typed w b 88) w lkv s.list
  lo : e.na ≤ e.lb
  hi : e.lb < w.heap.size
section
variable {e : REnv} {w w' : World} {s : RSt} {skv lkv : Value}
theorem RS.only (h : RS e w s skv lkv) {S : Nat → Prop} (ho : Only S w w') (hS : ∀ b, b ≤ e.na → ¬ S b) (hT : ∀ b, e.na < b → (Typed w b 3 ∨ Typed w b 88) → ¬ S b) : RS e w' s skv lkv := by
  have hlt := h.a.lt
  have hlo := h.lo
  refine ⟨h.ed.below (ho.below (by omega) (fun b hb => hS b (by omega))), h.a.only ho (hS _ (Nat.le_refl _)), h.len, ?_, h.sl, (h.ls.only ho (fun b hb => ⟨hb.2.lt, hT b (by omega) (.inr hb.2)⟩)).mono (fun b hb => ⟨hb.1, hb.2.only ho (hT b (by omega) (.inr hb.2))⟩), h.lo, Nat.lt_of_lt_of_le h.hi ho.size⟩
  have hst := h.st
  rcases h.st with ⟨hl, ⟨rfl, hn⟩ | ⟨g, cap, cur, rfl, hb, hh, h1, h2, h3, h4⟩⟩
  · exact ⟨hl, .inl ⟨rfl, hn⟩⟩
  · exact ⟨hl, .inr ⟨g, cap, cur, rfl, hb, (ho.block g (lt_of_block hh) (hT g (by omega) (.inl (Typed.of_row hst rfl)))).trans hh, h1, h2, h3, h4⟩⟩
theorem RS.still (h : RS e w s skv lkv) (ho : Only (fun _ => False) w w') : RS e w' s skv lkv := h.only ho (fun _ _ f => f) (fun _ _ _ f => f)
theorem RS.alloc (h : RS e w s skv lkv) (o : Obj) : RS e (w.alloc o) s skv lkv := h.still ((Only.refl (fun _ => False) w).alloc o)
theorem RS.setNum (h : RS e w s skv lkv) (p : Nat) (x : Int) : RS e (w.setCell ⟨e.na, p, none⟩ (.int .i64 x)) ⟨s.nums.set p x, s.next, s.stack, s.list⟩ skv lkv := by
  have ho := (Only.refl (fun b => b = e.na) w).set (p := ⟨e.na, p, none⟩) (fun _ => rfl) (.int .i64 x)
  have hlo := h.lo
  refine ⟨h.ed.below (ho.below (by have := h.a.lt; omega) (fun b hb he => by omega)), ?_, by simpa using h.len, ?_, h.sl, (h.ls.only ho (fun b hb => ⟨hb.2.lt, by have := hb.1; omega⟩)).mono (fun b hb => ⟨hb.1, hb.2.only ho (by have := hb.1; omega)⟩), h.lo, Nat.lt_of_lt_of_le h.hi ho.size⟩
  · have := h.a.set p (.int .i64 x)
    rw [List.map_set]
    exact this
  · rcases h.st with ⟨hl, ⟨rfl, hn⟩ | ⟨g, cap, cur, rfl, hb, hh, h1, h2, h3, h4⟩⟩
    · exact ⟨hl, .inl ⟨rfl, hn⟩⟩
    · exact ⟨hl, .inr ⟨g, cap, cur, rfl, hb, (ho.block g (lt_of_block hh) (by omega)).trans hh, h1, h2, h3, h4⟩⟩
theorem RS.num (h : RS e w s skv lkv) {p : Nat} (hp : p < e.n) : w.cell? ⟨e.na, p, none⟩ = some (.int .i64 (getI s.nums p)) := by
  have hl := h.len
  refine h.a.cellAt ?_
  unfold getI
  rw [List.getElem?_map, List.getD_eq_getElem?_getD, List.getElem?_eq_getElem (by omega)]; rfl
theorem RS.edge (h : RS e w s skv lkv) (hok : e.Ok) {k : Nat} (hk : k < e.E.length) : ∃ ad : Addr, e.A = some ad ∧ ad.block < e.na ∧ w.cell? (ad.add (k * 21)) = some (.int .i64 (src e.E k : Int)) ∧ w.cell? ⟨(ad.add (k * 21)).block, (ad.add (k * 21)).off + 1, none⟩ = some (.int .i64 (tgt e.E k : Int)) ∧ tgt e.E k < e.n := by
  obtain ⟨A, c, he, -, -, hat⟩ := h.ed
  rw [castE_length] at he
  cases he
  have hx : e.E[k]? = some e.E[k] := List.getElem?_eq_getElem hk
  obtain ⟨ad, cs, he2, hb, hl, hc, h0, h1, -⟩ := Edges.nat hat k _ hx
  have g1 := hc 1 _ h1
  have g0 := hc 0 _ h0
  rw [addrOne] at g1
  rw [addrZero] at g0
  have ht : tgt e.E k = e.E[k].2 := by unfold tgt; rw [List.getD_eq_getElem?_getD, hx]; rfl
  have hs : src e.E k = e.E[k].1 := by unfold src; rw [List.getD_eq_getElem?_getD, hx]; rfl
  exact ⟨ad, he2, hb, by rw [hs]; exact g0, by rw [ht]; exact g1, by rw [ht]; exact (hok.lt _ (List.getElem_mem hk)).2⟩
end
/-- The contract of a visit at some fuel. -/
def EnterAt (e : REnv) (k : Nat) : Prop := ∀ (w : World) (s : RSt) (skv lkv : Value) (v : Nat) (r : RRes), RS e w s skv lkv → v < e.n → enterR e.E k s v = some r →
  Calls Tryd.prog 62 #[e.val s.next skv lkv, .int .i64 (v : Int)] w fun en w' => ∃ skv' lkv', en = .returned (.tuple #[e.val r.1.next skv' lkv', .int .i64 r.2]) ∧ RS e w' r.1 skv' lkv' ∧ Only (fun b => b = e.na) w w'
end Go.Proofs.YthaampinmelgaaaDoor
