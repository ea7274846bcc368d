/- Package wto: Order's closures: the plain model, and the state in memory. -/
import Derived.Test.YthaampinmelgaaaGreatDoorEls
import Derived.Test.YthaampinmelgaaaGreatDoorEq
import Derived.Test.YthaampinmelgaaaGreatDoorMat
import Derived.Test.YthaampinmelgaaaGreatDoorInsert
namespace Go.Proofs.YthaampinmelgaaaGreatDoor
open Go.RowKit Go.Shelf

theorem Only.frozenAt {w w' : World} {p : Addr} {b : Bool} (h : Only (fun _ => False) w w') (hf : w.frozen? p = b) (hp : p.block < w.heap.size) : w'.frozen? p = b := (World.frozen?_of_block (h.block p.block hp id)).trans hf
/-- Where the closures' variables lie. -/
structure OEnv where
  n : Nat
  exit : Int
  E : List (Nat × Nat)
  A : Option Addr
  c : Nat
  ov : Value
  gb : Nat
  ob : Nat
  na : Nat
  mb : Nat
  sb : Nat
  nb : Nat
  vb : Nat
  cb : Nat
  base : Nat
def OEnv.vfn (e : OEnv) : Value := .func (.func 20) #[] #[.pointer (some ⟨e.sb, 0, none⟩), .pointer (some ⟨e.nb, 0, none⟩), .pointer (some ⟨e.mb, 0, none⟩), .pointer (some ⟨e.ob, 0, none⟩), .pointer (some ⟨e.gb, 0, none⟩), .pointer (some ⟨e.vb, 0, none⟩), .pointer (some ⟨e.cb, 0, none⟩)]
def OEnv.cfn (e : OEnv) : Value := .func (.func 19) #[] #[.pointer (some ⟨e.ob, 0, none⟩), .pointer (some ⟨e.gb, 0, none⟩), .pointer (some ⟨e.mb, 0, none⟩), .pointer (some ⟨e.vb, 0, none⟩)]

structure OEnv.Ok (e : OEnv) : Prop where
  h1 : e.gb < e.ob
  h2 : e.ob < e.na
  h3 : e.na < e.mb
  h4 : e.mb < e.sb
  h5 : e.sb < e.nb
  h6 : e.nb < e.vb
  h7 : e.vb < e.cb
  h8 : e.cb < e.base
  n512 : e.n ≤ 512
  lE : e.E.length ≤ 1024
  lt : ∀ x ∈ e.E, x.1 < e.n ∧ x.2 < e.n

structure OS (e : OEnv) (w : World) (s : VSt) (sv : Value) : Prop where
  g : Blk w e.gb 24 [.int .i64 (e.n : Int), .int .i64 e.exit, .slice e.A e.E.length e.c]
  ed : Edges e.gb w (.slice e.A e.E.length e.c) (castE e.E)
  o : Blk w e.ob 47 [e.ov]
  rows : Natss e.ob w e.ov ((List.range e.n).map (idxs Prod.fst e.E))
  m : Blk w e.mb 31 [.slice (some ⟨e.na, 0, none⟩) e.n e.n]
  a : Blk w e.na 3 (s.nums.map intV)
  len : s.nums.length = e.n
  sk : Blk w e.sb 31 [sv]
  st : w.ownsRow e.base 3 1 sv s.stack.length (s.stack.map natV)
  nx : Blk w e.nb 3 [.int .i64 (s.next : Int)]
  v : Blk w e.vb 50 [e.vfn]
  c : Blk w e.cb 63 [e.cfn]
  sl : ∀ x ∈ s.stack, x < e.n

section
variable {e : OEnv} {w w' : World} {s : VSt} {sv : Value}
/-- What changes nothing below the base, nor the stack's row. -/
theorem OS.only (h : OS e w s sv) (hok : e.Ok) {S : Nat → Prop} (ho : Only S w w') (hS : ∀ b, b < e.base → ¬ S b) (hv : ∀ b, sv.ownBlock = some b → ¬ S b) : OS e w' s sv := by
  obtain ⟨h1, h2, h3, h4, h5, h6, h7, h8, -⟩ := id hok
  have hk : ∀ {g : Nat} {t : TypeId} {cs : List Value}, Blk w g t cs → g < e.base → Blk w' g t cs := fun hb hg => hb.only ho (hS _ hg)
  have hb : ∀ {B : Nat}, B ≤ e.base → B ≤ w.heap.size → Below B w w' := fun hB hB2 => ho.below hB2 (fun b hb => hS b (by omega))
  have hgs := h.g.lt
  have hos := h.o.lt
  refine ⟨hk h.g (by omega), h.ed.below (hb (by omega) (by omega)), hk h.o (by omega), h.rows.below (hb (by omega) (by omega)), hk h.m (by omega), hk h.a (by omega), h.len, hk h.sk (by omega), ?_, hk h.nx (by omega), hk h.v (by omega), hk h.c (by omega), h.sl⟩
  rcases h.st with ⟨hl, ⟨rfl, hn⟩ | ⟨g, cap, cur, rfl, hb, hh, h1, h2, h3, h4⟩⟩
  · exact ⟨hl, .inl ⟨rfl, hn⟩⟩
  · exact ⟨hl, .inr ⟨g, cap, cur, rfl, hb, (ho.block g (lt_of_block hh) (hv g rfl)).trans hh, h1, h2, h3, h4⟩⟩
theorem OS.lt (h : OS e w s sv) {b : Nat} (hb : sv.ownBlock = some b) : e.base ≤ b ∧ b < w.heap.size := h.st.lt b hb
theorem OS.alloc (h : OS e w s sv) (hok : e.Ok) (o : Obj) : OS e (w.alloc o) s sv := h.only hok ((Only.refl (fun _ => False) w).alloc o) (fun _ _ f => f) (fun _ _ f => f)
theorem OS.setNum (h : OS e w s sv) (hok : e.Ok) (p : Nat) (x : Int) : OS e (w.setCell ⟨e.na, p, none⟩ (.int .i64 x)) ⟨s.nums.set p x, s.stack, s.next⟩ sv := by
  obtain ⟨h1, h2, h3, h4, h5, h6, h7, h8, -⟩ := id hok
  have hs1 := h.g.lt
  have hs2 := h.o.lt
  have far : ∀ {g : Nat} {t : TypeId} {cs : List Value}, Blk w g t cs → g ≠ e.na → Blk (w.setCell ⟨e.na, p, none⟩ (.int .i64 x)) g t cs := fun hb hne => hb.far (p := ⟨e.na, p, none⟩) hne _
  refine ⟨far h.g (by omega), h.ed.below ((Below.refl _ w).setCell (by show e.gb ≤ e.na; omega) _), far h.o (by omega), h.rows.below ((Below.refl _ w).setCell (by show e.ob ≤ e.na; omega) _), far h.m (by omega), ?_, by simpa using h.len, far h.sk (by omega), ownsRow_setCell_below h.st (by show e.na < e.base; omega) _, far h.nx (by omega), far h.v (by omega), far h.c (by omega), h.sl⟩
  have := h.a.set p (.int .i64 x)
  rw [List.map_set]
  exact this
theorem OS.setNext (h : OS e w s sv) (hok : e.Ok) (x : Nat) : OS e (w.setCell ⟨e.nb, 0, none⟩ (.int .i64 (x : Int))) ⟨s.nums, s.stack, x⟩ sv := by
  obtain ⟨h1, h2, h3, h4, h5, h6, h7, h8, -⟩ := id hok
  have far : ∀ {g : Nat} {t : TypeId} {cs : List Value}, Blk w g t cs → g ≠ e.nb → Blk (w.setCell ⟨e.nb, 0, none⟩ (.int .i64 (x : Int))) g t cs := fun hb hne => hb.far (p := ⟨e.nb, 0, none⟩) hne _
  exact ⟨far h.g (by omega), h.ed.below ((Below.refl _ w).setCell (by show e.gb ≤ e.nb; omega) _), far h.o (by omega), h.rows.below ((Below.refl _ w).setCell (by show e.ob ≤ e.nb; omega) _), far h.m (by omega), far h.a (by omega), h.len, far h.sk (by omega), ownsRow_setCell_below h.st (by show e.nb < e.base; omega) _, by simpa using h.nx.set 0 (.int .i64 (x : Int)), far h.v (by omega), far h.c (by omega), h.sl⟩
/-- A new value of the stack's variable, its row known. -/
theorem OS.setStack (h : OS e w s sv) (hok : e.Ok) {st : List Nat} {sv' : Value} (hst : w.ownsRow e.base 3 1 sv' st.length (st.map natV)) (hsl : ∀ x ∈ st, x < e.n) : OS e (w.setCell ⟨e.sb, 0, none⟩ sv') ⟨s.nums, st, s.next⟩ sv' := by
  obtain ⟨h1, h2, h3, h4, h5, h6, h7, h8, -⟩ := id hok
  have far : ∀ {g : Nat} {t : TypeId} {cs : List Value}, Blk w g t cs → g ≠ e.sb → Blk (w.setCell ⟨e.sb, 0, none⟩ sv') g t cs := fun hb hne => hb.far (p := ⟨e.sb, 0, none⟩) hne _
  exact ⟨far h.g (by omega), h.ed.below ((Below.refl _ w).setCell (by show e.gb ≤ e.sb; omega) _), far h.o (by omega), h.rows.below ((Below.refl _ w).setCell (by show e.ob ≤ e.sb; omega) _), far h.m (by omega), far h.a (by omega), h.len, by simpa using h.sk.set 0 sv', ownsRow_setCell_below (a := ⟨e.sb, 0, none⟩) hst (by show e.sb < e.base; omega) _, far h.nx (by omega), far h.v (by omega), far h.c (by omega), hsl⟩
/-- The stack's row has grown by an append: all else stands; the row is known anew. -/
theorem OS.grown (h : OS e w s sv) (hok : e.Ok) (hb : e.base ≤ w.heap.size) {st : List Nat} {sv' : Value} (hg : w.grownBy w' sv.ownBlock) (hst : w'.ownsRow e.base 3 1 sv' st.length (st.map natV)) (hsl : ∀ x ∈ st, x < e.n) :
    OS e (w'.setCell ⟨e.sb, 0, none⟩ sv') ⟨s.nums, st, s.next⟩ sv' ∧ (∀ {g : Nat} {t : TypeId} {cs : List Value}, Blk w g t cs → g < e.base → Blk w' g t cs) := by
  obtain ⟨h1, h2, h3, h4, h5, h6, h7, h8, -⟩ := id hok
  have hrow : ∀ k, sv.ownBlock = some k → e.base ≤ k := fun k hk => (h.lt hk).1
  have hk : ∀ {g : Nat} {t : TypeId} {cs : List Value}, Blk w g t cs → g < e.base → Blk w' g t cs := fun {g t cs} hblk hlt => hblk.same (hg.block g hblk.lt (fun e' => by have := hrow g e'.symm; omega))
  have hbe : ∀ {B : Nat}, B ≤ e.base → Below B w w' := fun hB => (Below.refl _ w).grown hg (by omega) (fun k hk => by have := hrow k hk; omega)
  have far : ∀ {g : Nat} {t : TypeId} {cs : List Value}, Blk w g t cs → g < e.base → g ≠ e.sb → Blk (w'.setCell ⟨e.sb, 0, none⟩ sv') g t cs := fun hb hlt hne => (hk hb hlt).far (p := ⟨e.sb, 0, none⟩) hne _
  refine ⟨⟨far h.g (by omega) (by omega), h.ed.below ((hbe (by omega)).setCell (by show e.gb ≤ e.sb; omega) _), far h.o (by omega) (by omega), h.rows.below ((hbe (by omega)).setCell (by show e.ob ≤ e.sb; omega) _), far h.m (by omega) (by omega), far h.a (by omega) (by omega), h.len, ?_, ownsRow_setCell_below (a := ⟨e.sb, 0, none⟩) hst (by show e.sb < e.base; omega) _, far h.nx (by omega) (by omega), far h.v (by omega) (by omega), far h.c (by omega) (by omega), hsl⟩, hk⟩
  simpa using (hk h.sk (by omega)).set 0 sv'
theorem OS.num (h : OS e w s sv) {p : Nat} (hp : p < e.n) : w.cell? ⟨e.na, p, none⟩ = some (.int .i64 (getI s.nums p)) := by
  have hl := h.len
  refine h.a.cellAt ?_
  unfold getI
  rw [List.getElem?_map, List.getD_eq_getElem?_getD, List.getElem?_eq_getElem (by omega)]; rfl
end

/-- The blocks that a visit may change. -/
def SW (e : OEnv) (sv lv : Value) (lb b : Nat) : Prop := b = e.sb ∨ b = e.nb ∨ b = e.na ∨ b = lb ∨ sv.ownBlock = some b ∨ lv.ownBlock = some b
/-- The list that a visit adds to: its variable, and its row. -/
structure LO (e : OEnv) (w : World) (lb off : Nat) (T : TypeId) (cs : List Value) (base : Nat) (P : Nat → Prop) (lv : Value) (l : List El) (us : List Value) : Prop where
  b : Blk w lb T cs
  at_ : cs[off]? = some lv
  ne : T ≠ 3
  lo : e.base ≤ lb
  hi : lb < base
  eo : EO 36 base P w lv l us
def Same (w : World) (v v' : Value) : Prop := v'.ownBlock = v.ownBlock ∨ ∃ b, v'.ownBlock = some b ∧ w.heap.size ≤ b
theorem Same.refl (w : World) (v : Value) : Same w v v := .inl rfl
theorem Same.trans {w w' : World} {u v x : Value} (h : Same w u v) (k : Same w' v x) (hs : w.heap.size ≤ w'.heap.size) : Same w u x := by
  rcases k with k | ⟨b, hb, hbs⟩
  · rcases h with h | ⟨b, hb, hbs⟩
    · exact .inl (k.trans h)
    · exact .inr ⟨b, by rw [k]; exact hb, hbs⟩
  · exact .inr ⟨b, hb, by omega⟩
/-- What a visit leaves. -/
def VDone (e : OEnv) (w : World) (sv : Value) (lb off : Nat) (T : TypeId) (cs : List Value) (base : Nat) (lv : Value) (r : VRes) (en : Ending) (w' : World) : Prop :=
  en = .returned (.int .i64 r.2.2) ∧ ∃ sv' lv' us' P', OS e w' r.1 sv' ∧ LO e w' lb off T (cs.set off lv') base P' lv' r.2.1 us' ∧ Only (SW e sv lv lb) w w' ∧ Same w sv sv' ∧ Same w lv lv'
theorem SW.trans {e : OEnv} {w w1 w2 : World} {sv sv1 lv lv1 : Value} {lb : Nat} (h : Only (SW e sv lv lb) w w1) (k : Only (SW e sv1 lv1 lb) w1 w2) (hs : Same w sv sv1) (hl : Same w lv lv1) : Only (SW e sv lv lb) w w2 :=
  h.trans k fun b hb hv => by
    rcases hv with hv | hv | hv | hv | hv | hv
    · exact .inl hv
    · exact .inr (.inl hv)
    · exact .inr (.inr (.inl hv))
    · exact .inr (.inr (.inr (.inl hv)))
    · rcases hs with hs | ⟨b', hb', hbs⟩
      · exact .inr (.inr (.inr (.inr (.inl (hs ▸ hv)))))
      · rw [hb'] at hv; cases hv; omega
    · rcases hl with hl | ⟨b', hb', hbs⟩
      · exact .inr (.inr (.inr (.inr (.inr (hl ▸ hv)))))
      · rw [hb'] at hv; cases hv; omega
end Go.Proofs.YthaampinmelgaaaGreatDoor
