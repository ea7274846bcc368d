/- Maps from whole numbers that a call makes: what each key holds. -/
import Derived.Test.YthaampinmelgaaaGreatDoorBack
import Derived.Test.YthaampinmelgaaaGreatDoorWtoD
import Derived.Maps.Own
import Derived.Maps.OwnSet
import Derived.Maps.Views
namespace Go.Proofs.YthaampinmelgaaaGreatDoor
open Go.RowKit Go.Shelf Go.Maps

theorem lawI : Keyed Tryz.prog 3 := int_keyed Tryz.underlying3
/-- How an element is kept in mind: as it is. -/
def RV : Value → Option (DataW Value × List MemPlace) := fun v => some (.held v, [])
/-- Block b is a map from whole numbers of n entries; S says what each key holds. -/
def MapV (w : World) (b n : Nat) (S : Int → Option Value) : Prop :=
  ∃ D : DataW Value, w.ownsMap Tryz.prog 3 RV b n D ∧ Tidy D ∧ (∀ k : Int, InI64 k → has D (.int .i64 k) = (S k).isSome) ∧ (∀ k z, InI64 k → D.atKey (.int .i64 k) (.held z) = .held ((S k).getD z)) ∧ size D = n
theorem wf_i64 {k : Int} (h : InI64 k) : (Lit.int .i64 k).wf = true := WalkArith.wf_i64 (by unfold InI64 at h; omega)
theorem MapV.made (w : World) : MapV (w.alloc (.map #[] 0)) w.heap.size 0 (fun _ => none) :=
  ⟨.map [], World.ownsMap_made _ _ _ _, tidy_empty, fun _ _ => rfl, fun _ _ _ => rfl, rfl⟩
section
variable {w w' : World} {b n : Nat} {S : Int → Option Value}
theorem MapV.lt (h : MapV w b n S) : b < w.heap.size := by obtain ⟨D, h1, -⟩ := h; exact h1.lt
theorem MapV.same (h : MapV w b n S) (hb : w'.heap[b]? = w.heap[b]?) : MapV w' b n S := by
  obtain ⟨D, ⟨es, clock, hh, F, hs, hD⟩, h2⟩ := h
  exact ⟨D, ⟨es, clock, hb.trans hh, F, hs, hD⟩, h2⟩
theorem MapV.obj (h : MapV w b n S) : ∃ o : Obj, w.heap[b]? = some o ∧ o.isCells = false := by
  obtain ⟨D, ⟨es, clock, hh, -⟩, -⟩ := h
  exact ⟨_, hh, rfl⟩
theorem MapV.notLoop (h : MapV w b n S) : ∀ r, w.heap[b]? ≠ some (.loop r) := fun r e => by
  obtain ⟨D, ⟨es, clock, hh, -⟩, -⟩ := h
  rw [hh] at e; cases e
theorem MapV.look {t e : TypeId} (h : MapV w b n S) (ht : Tryz.prog.underlying t = some (.map 3 e)) {z : Value} (hz : ∀ w, (zeroValue e).run Tryz.prog w = .ok z w) {k : Int} (hk : InI64 k) :
    (Instr.lookup t (.map (some b)) (.int .i64 k) false).run Tryz.prog w = .ok ((S k).getD z) w := by
  obtain ⟨D, h1, h2, h3, h4, h5⟩ := h
  obtain ⟨v, ps, hrun, hv⟩ := h1.lookup lawI ht (hz w) (zd := .held z) (zp := []) rfl (keyOf_int_mk Tryz.underlying3 (wf_i64 hk))
  rw [h4 k z hk] at hv
  unfold RV at hv
  simp only [Option.some.injEq, Prod.mk.injEq, DataW.held.injEq] at hv
  rw [hrun, hv.1]
theorem MapV.look2 {t e : TypeId} (h : MapV w b n S) (ht : Tryz.prog.underlying t = some (.map 3 e)) {z : Value} (hz : ∀ w, (zeroValue e).run Tryz.prog w = .ok z w) {k : Int} (hk : InI64 k) :
    (Instr.lookup t (.map (some b)) (.int .i64 k) true).run Tryz.prog w = .ok (.tuple #[(S k).getD z, .bool (S k).isSome]) w := by
  obtain ⟨D, h1, h2, h3, h4, h5⟩ := h
  obtain ⟨v, ps, hrun, hv⟩ := h1.look_ok lawI ht (hz w) (zd := .held z) (zp := []) rfl (keyOf_int_mk Tryz.underlying3 (wf_i64 hk))
  rw [h4 k z hk] at hv
  unfold RV at hv
  simp only [Option.some.injEq, Prod.mk.injEq, DataW.held.injEq] at hv
  rw [hrun, hv.1, h3 k hk]
theorem MapV.len {t e : TypeId} (h : MapV w b n S) (ht : Tryz.prog.underlying t = some (.map 3 e)) (ty : TypeId) : (Builtin.len_ #[t] ty #[.map (some b)]).run Tryz.prog w = .ok (.int .i64 (n : Int)) w := by
  obtain ⟨D, h1, h2, h3, h4, h5⟩ := h
  rw [h1.len ht ty, h5]
/-- A key that is new. -/
theorem MapV.put {t e : TypeId} (h : MapV w b n S) (ht : Tryz.prog.underlying t = some (.map 3 e)) (hn : n < maxLen) {k : Int} (hk : InI64 k) (hno : S k = none) (v : Value) :
    ∃ w', (Instr.mapUpdate t (.map (some b)) (.int .i64 k) v).run Tryz.prog w = .ok () w' ∧ MapV w' b (n + 1) (fun j => if j = k then some v else S j) ∧ w.grownBy w' (some b) := by
  obtain ⟨D, h1, h2, h3, h4, h5⟩ := h
  have hkey := keyOf_int_mk Tryz.underlying3 (wf_i64 hk)
  obtain ⟨w', hrun, h6, h7⟩ := h1.update lawI ht hn (val := v) (d := .held v) (ps := []) hkey rfl
  have hkl : WideAt.IsKeyLit (.int .i64 k : Lit) := by first | trivial | (simp [WideAt.IsKeyLit])
  have hne : ∀ {j : Int}, j ≠ k → (Lit.int .i64 j) ≠ (Lit.int .i64 k) := fun hj e => hj (by simpa using e)
  refine ⟨w', hrun, ⟨D.put (.int .i64 k) (.held v), h6, h2.put hkl _, fun j hj => ?_, fun j z hj => ?_, ?_⟩, h7⟩
  · by_cases e' : j = k
    · subst e'; rw [has_put_same h2.isMap hkl]; simp
    · rw [has_put_other (hne e')]; show _ = (if j = k then some v else S j).isSome; rw [if_neg e']; exact h3 j hj
  · by_cases e' : j = k
    · subst e'; rw [atKey_put_same h2.isMap hkl]; simp
    · rw [atKey_put_other (hne e')]; show _ = DataW.held ((if j = k then some v else S j).getD z); rw [if_neg e']; exact h4 j z hj
  · rw [size_put h2, h3 k hk, hno, h5]; simp
end
/-- 'm[k] = v' at a key that is new, at the operation. -/
theorem wpList_put_mapV {w : World} {ops : Array Oper} {rest : List Oper} {o : Oper} {a : Act} {Q : Exit → Act → World → Prop} (hg : o.guard = none) (m x v : Operand) (t e : TypeId) (hop : o.op = Op.mapUpdate t m x v) (ht : Tryz.prog.underlying t = some (.map 3 e))
    {b n : Nat} {S : Int → Option Value} (hm : a.eval m = .map (some b)) (h : MapV w b n S) (hn : n < maxLen) {k : Int} (hx : a.eval x = .int .i64 k) (hk : InI64 k) (hno : S k = none) {u : Value} (hv : a.eval v = u)
    (hK : ∀ w', MapV w' b (n + 1) (fun j => if j = k then some u else S j) → w.grownBy w' (some b) → wpList Tryz.prog ops Q rest (a.put o.dst undef) w') : wpList Tryz.prog ops Q (o :: rest) a w := by
  refine wpList_plain hg fun K' hK' => ?_
  obtain ⟨w', hrun, h1, h2⟩ := h.put ht hn hk hno u
  unfold Oper.wp
  simp [execOp, hop, hm, hx, hv, hrun, Result.andThen]
  exact hK' _ _ (hK w' h1 h2)
/-- The same, of the operation alone. -/
theorem oper_put_mapV {w : World} {o : Oper} {a : Act} {K : Act → World → Prop} {Q : Exit → Act → World → Prop} (m x v : Operand) (t e : TypeId) (hop : o.op = Op.mapUpdate t m x v) (ht : Tryz.prog.underlying t = some (.map 3 e))
    {b n : Nat} {S : Int → Option Value} (hm : a.eval m = .map (some b)) (h : MapV w b n S) (hn : n < maxLen) {k : Int} (hx : a.eval x = .int .i64 k) (hk : InI64 k) (hno : S k = none) {u : Value} (hv : a.eval v = u)
    (hK : ∀ w', MapV w' b (n + 1) (fun j => if j = k then some u else S j) → w.grownBy w' (some b) → K (a.put o.dst undef) w') : o.wp Tryz.prog a w K Q := by
  obtain ⟨w', hrun, h1, h2⟩ := h.put ht hn hk hno u
  unfold Oper.wp
  simp [execOp, hop, hm, hx, hv, hrun, Result.andThen]
  exact hK w' h1 h2
end Go.Proofs.YthaampinmelgaaaGreatDoor
