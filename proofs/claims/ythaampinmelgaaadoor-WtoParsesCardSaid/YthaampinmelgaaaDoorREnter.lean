/- The reference's order: enter. -/
import Derived.Test.YthaampinmelgaaaDoorInside
import Derived.Test.YthaampinmelgaaaDoorVisit
namespace Go.Proofs.YthaampinmelgaaaDoor
open Go.RowKit Go.Shelf

theorem fresh_row {w : World} {N : Nat} {v v' : Value} (hv : ∀ b, v.ownBlock = some b → N ≤ b) (hat : v.ownBlock = v'.ownBlock ∨ ∃ b, v'.ownBlock = some b ∧ w.heap.size ≤ b) (hN : N ≤ w.heap.size) : ∀ b, v'.ownBlock = some b → N ≤ b := by
  intro b hb
  rcases hat with h | ⟨b', hb', hs⟩
  · exact hv b (h.trans hb)
  · rw [hb'] at hb; cases hb; omega
theorem blk_past {w w' : World} {N g : Nat} {T : TypeId} {cs : List Value} {v : Value} (h : Blk w g T cs) (hg : w.grownBy w' v.ownBlock) (hv : ∀ b, v.ownBlock = some b → N ≤ b) (hN : g < N) : Blk w' g T cs :=
  h.same (hg.block g h.lt (fun e => by have := hv g e.symm; omega))
theorem info_rel : (Tryd.prog.info? 88).map (fun i => (i.zero, i.size, i.bytes)) = some (some (.agg #[.int .i64 0, .bool false, .slice none 0 0]), 3, 40) := by kernel_rfl
theorem Els.cells {P : Nat → Prop} {w : World} {v : Value} {l : List El} (h : Els P w v l) : ∃ A c us, v = .slice A l.length c ∧ us.length = l.length ∧ (0 < l.length → ∃ ad, A = some ad ∧ ∀ j u, (elCells l us)[j]? = some u → w.cell? (ad.add j) = some u) ∧ (∀ (j : Nat) (u : Value) (x : El), us[j]? = some u → l[j]? = some x → Els P w u x.body) ∧ (∀ x ∈ l, InI64 x.p) ∧ (∀ u ∈ us, u.oneCell' = true) := by
  cases h with
  | mk A c l f hlc hm hz hc hr =>
    refine ⟨A, c, (List.range l.length).map f, rfl, by simp, fun hp => ?_, fun j u x hu hx => ?_, fun x hx => ?_, fun u hu => ?_⟩
    · obtain ⟨ad, rfl, -⟩ := hc 0 l[0] (List.getElem?_eq_getElem hp)
      refine ⟨ad, rfl, fun j u hj => ?_⟩
      have hl := elCells_length l ((List.range l.length).map f) (by simp)
      have hjl : j < l.length * 3 := by rw [← hl]; exact (List.getElem?_eq_some_iff.1 hj).1
      have hq : j / 3 < l.length := by omega
      have hx : l[j / 3]? = some l[j / 3] := List.getElem?_eq_getElem hq
      obtain ⟨ad', he, -, h0, h1, h2, -⟩ := hc (j / 3) _ hx
      cases he
      obtain ⟨g0, g1, g2⟩ := elCells_get l ((List.range l.length).map f) (j / 3) l[j / 3] (f (j / 3)) hx (by simp [hq])
      have hr3 : j % 3 = 0 ∨ j % 3 = 1 ∨ j % 3 = 2 := by omega
      rcases hr3 with hr3 | hr3 | hr3
      · have e : j / 3 * 3 = j := by omega
        rw [e] at g0 h0
        rw [g0] at hj; cases hj; exact h0
      · have e : j / 3 * 3 + 1 = j := by omega
        rw [e] at g1 h1
        rw [g1] at hj; cases hj; exact h1
      · have e : j / 3 * 3 + 2 = j := by omega
        rw [e] at g2 h2
        rw [g2] at hj; cases hj; exact h2
    · have hj : j < l.length := (List.getElem?_eq_some_iff.1 hx).1
      rw [List.getElem?_map, List.getElem?_range hj] at hu
      cases hu
      exact hr j x hx
    · obtain ⟨j, hj⟩ := List.mem_iff_getElem?.1 hx
      obtain ⟨ad, -, -, -, -, -, h6⟩ := hc j x hj
      exact h6
    · obtain ⟨j, hj, rfl⟩ := List.mem_map.1 hu
      have hj' := List.mem_range.1 hj
      exact (hr j _ (List.getElem?_eq_getElem hj')).one
theorem own_one {w : World} {T : TypeId} {base m : Nat} (cs : List Value) (hb : base ≤ w.heap.size) (hm : cs.length = m) : (w.alloc (.cells cs.toArray T)).ownsRow base T m (.slice (some ⟨w.heap.size, 0, none⟩) 1 1) 1 cs :=
  ⟨by simp [hm], .inr ⟨w.heap.size, 1, cs.toArray, rfl, hb, heap_alloc_new w _, Nat.le_refl _, by simp [maxLen], by simp [hm], by simp [← hm]⟩⟩
/-- The list with one element more at its head, in a new row. -/
theorem els_cons {T : TypeId} {N : Nat} {w w' : World} {l : List El} {us : List Value} {x : El} {u : Value} {v' : Value} (hlen : us.length = l.length)
    (hb : ∀ (j : Nat) (u : Value) (x : El), us[j]? = some u → l[j]? = some x → Els (fun b => N < b ∧ Typed w b T) w u x.body) (hwf : ∀ x ∈ l, InI64 x.p) (hu : Els (fun b => N < b ∧ Typed w b T) w u x.body) (hx : InI64 x.p)
    (ho : Only (fun _ => False) w w') (hown : w'.ownsRow (N + 1) T 3 v' (l.length + 1) ([.int .i64 x.p, .bool x.c, u] ++ elCells l us)) (hv : ∀ b, v'.ownBlock = some b → w.heap.size ≤ b) (hz : (l.length + 1) * 40 ≤ 140737488355328) :
    Els (fun b => N < b ∧ Typed w' b T) w' v' (x :: l) := by
  have hk : ∀ {v : Value} {l : List El}, Els (fun b => N < b ∧ Typed w b T) w v l → Els (fun b => (N < b ∧ Typed w b T)) w' v l := fun h => h.only ho (fun b hb => ⟨hb.2.lt, fun f => f⟩)
  have heo : EO T (N + 1) (fun b => N < b ∧ Typed w b T) w' v' (x :: l) (u :: us) := by
    refine ⟨hown, by simp [hlen], fun j u' x' hu' hx' => ?_, fun y hy => ?_, fun b hb' => ⟨by omega, hb'.2.only ho (fun f => f), fun he => by have := hv b he; have := hb'.2.lt; omega⟩⟩
    · cases j with
      | zero => cases hu'; cases hx'; exact hk hu
      | succ j => exact hk (hb j u' x' (by simpa using hu') (by simpa using hx'))
    · rcases List.mem_cons.1 hy with rfl | hy
      · exact hx
      · exact hwf y hy
  exact (heo.els (by simpa using hz)).mono (fun b hb => ⟨by omega, hb.2⟩)
theorem RS.list {e : REnv} {w : World} {s : RSt} {skv lkv lk2 : Value} (h : RS e w s skv lkv) {l : List El} (hl : Els (fun b => e.lb < b ∧ Typed w b 88) w lk2 l) : RS e w ⟨s.nums, s.next, s.stack, l⟩ skv lk2 := ⟨h.ed, h.a, h.len, h.st, h.sl, hl, h.lo, h.hi⟩
/-- The old stack and list beside the numbers that another call has left. -/
theorem RS.mix {e : REnv} {w w' : World} {s t : RSt} {skv lkv sk2 lk2 : Value} (h : RS e w s skv lkv) (ho : Only (fun b => b = e.na) w w') {N : Nat} (k : RS { e with lb := N } w' t sk2 lk2) : RS e w' ⟨t.nums, t.next, s.stack, s.list⟩ skv lkv := by
  have hlo := h.lo
  refine ⟨k.ed, k.a, k.len, ?_, h.sl, (h.ls.only ho (fun b hb => ⟨hb.2.lt, by have := hb.1; omega⟩)).mono (fun b hb => ⟨hb.1, hb.2.only ho (by have := hb.1; omega)⟩), h.lo, Nat.lt_of_lt_of_le h.hi ho.size⟩
  rcases h.st with ⟨hl, ⟨rfl, hn⟩ | ⟨g, cap, cur, rfl, hb, hh, h1, h2, h3, h4⟩⟩
  · exact ⟨hl, .inl ⟨rfl, hn⟩⟩
  · exact ⟨hl, .inr ⟨g, cap, cur, rfl, hb, (ho.block g (lt_of_block hh) (by omega)).trans hh, h1, h2, h3, h4⟩⟩
theorem els_cons2 {T : TypeId} {N : Nat} {Q : Nat → Prop} {w' : World} {l : List El} {us : List Value} {x : El} {u : Value} {v' : Value} (hlen : us.length = l.length)
    (hb : ∀ (j : Nat) (u : Value) (x : El), us[j]? = some u → l[j]? = some x → Els Q w' u x.body) (hwf : ∀ x ∈ l, InI64 x.p) (hu : Els Q w' u x.body) (hx : InI64 x.p)
    (hown : w'.ownsRow (N + 1) T 3 v' (l.length + 1) ([.int .i64 x.p, .bool x.c, u] ++ elCells l us)) (hQ : ∀ b, Q b → N < b ∧ Typed w' b T ∧ v'.ownBlock ≠ some b) (hz : (l.length + 1) * 40 ≤ 140737488355328) :
    Els (fun b => N < b ∧ Typed w' b T) w' v' (x :: l) := by
  have heo : EO T (N + 1) Q w' v' (x :: l) (u :: us) := by
    refine ⟨hown, by simp [hlen], fun j u' x' hu' hx' => ?_, fun y hy => ?_, fun b hb' => ⟨by have := (hQ b hb').1; omega, (hQ b hb').2⟩⟩
    · cases j with
      | zero => cases hu'; cases hx'; exact hu
      | succ j => exact hb j u' x' (by simpa using hu') (by simpa using hx')
    · rcases List.mem_cons.1 hy with rfl | hy
      · exact hx
      · exact hwf y hy
  exact (heo.els (by simpa using hz)).mono (fun b hb => ⟨by omega, hb.2⟩)
theorem RS.relb {e : REnv} {w : World} {s : RSt} {skv lkv : Value} (h : RS e w s skv lkv) (N : Nat) (h1 : e.na ≤ N) (h2 : N < w.heap.size) : RS { e with lb := N } w ⟨s.nums, s.next, s.stack, []⟩ skv (.slice none 0 0) := ⟨h.ed, h.a, h.len, h.st, h.sl, Els.nil, h1, h2⟩
theorem RS.build {e : REnv} {w w' : World} {s : RSt} {skv lkv lk2 : Value} {l : List El} (h : RS e w s skv lkv) {S : Nat → Prop} (ho : Only S w w') (hS : ∀ b, b ≤ e.na → ¬ S b) (hT : ∀ b, e.na < b → Typed w b 3 → ¬ S b)
    (hl : Els (fun b => e.lb < b ∧ Typed w' b 88) w' lk2 l) : RS e w' ⟨s.nums, s.next, s.stack, l⟩ skv lk2 := by
  have hlt := h.a.lt
  refine ⟨h.ed.below (ho.below (by omega) (fun b hb => hS b (by omega))), h.a.only ho (hS _ (Nat.le_refl _)), h.len, ?_, h.sl, hl, h.lo, Nat.lt_of_lt_of_le h.hi ho.size⟩
  have hst := h.st
  rcases h.st with ⟨hl, ⟨rfl, hn⟩ | ⟨g, cap, cur, rfl, hb, hh, h1, h2, h3, h4⟩⟩
  · exact ⟨hl, .inl ⟨rfl, hn⟩⟩
  · exact ⟨hl, .inr ⟨g, cap, cur, rfl, hb, (ho.block g (lt_of_block hh) (hT g (by omega) (Typed.of_row hst rfl))).trans hh, h1, h2, h3, h4⟩⟩
theorem popR_cons (v : Nat) (nums : List Int) (x : Nat) (rs : List Nat) : popR v nums (x :: rs) = if x = v then (nums, rs) else popR v (nums.set x 0) rs := rfl
theorem own_empty {w : World} {T : TypeId} {base m : Nat} (hb : base ≤ w.heap.size) : (w.alloc (.cells #[] T)).ownsRow base T m (.slice (some ⟨w.heap.size, 0, none⟩) 0 0) 0 [] :=
  ⟨by simp, .inr ⟨w.heap.size, 0, #[], rfl, hb, heap_alloc_new w _, Nat.le_refl _, by simp [maxLen], by simp, by simp⟩⟩
theorem RS.put {e : REnv} {w : World} {s : RSt} {skv lkv sk2 : Value} (h : RS e w s skv lkv) {st : List Nat} (hst : w.ownsRow (e.na + 1) 3 1 sk2 st.length (st.map natV)) (hsl : ∀ x ∈ st, x < e.n) : RS e w ⟨s.nums, s.next, st, s.list⟩ sk2 lkv := ⟨h.ed, h.a, h.len, hst, hsl, h.ls, h.lo, h.hi⟩
theorem RS.nxt {e : REnv} {w : World} {s : RSt} {skv lkv : Value} (h : RS e w s skv lkv) (x : Nat) : RS e w ⟨s.nums, x, s.stack, s.list⟩ skv lkv := ⟨h.ed, h.a, h.len, h.st, h.sl, h.ls, h.lo, h.hi⟩
/-- What is written in a struct of the walk's state leaves what is read as it was. -/
theorem RS.loc {e : REnv} {w w' : World} {s : RSt} {skv lkv : Value} (h : RS e w s skv lkv) {b0 : Nat} {cs : List Value} {T : TypeId} (hb : Blk w b0 T cs) (hT1 : T ≠ 3) (hT2 : T ≠ 88) (hn : e.na < b0) (ho : Only (fun b => b = b0) w w') : RS e w' s skv lkv :=
  h.only ho (fun b hb' he => by omega) (fun b _ ht he => by
    subst he
    rcases ht with ht | ht
    · exact (Typed.blk hb).ne ht hT1 rfl
    · exact (Typed.blk hb).ne ht hT2 rfl)

set_option maxRecDepth 100000 in
set_option maxHeartbeats 16000000 in
theorem enter_succ (k : Nat) (iha : ∀ e : REnv, e.Ok → EnterAt e k) (e : REnv) (hok : e.Ok) : EnterAt e (k + 1) := by
  have ih := iha e hok
  have HIA := Lib.hid iha
  clear iha
  intro w s skv lkv v r hs hv h
  have hna := hs.a.lt
  have hlE := hok.lE
  obtain ⟨ie, hi, hz0, hz1, hz2⟩ := info_parts info_int
  unfold enterR at h
  by_cases hg : s.stack.length < 1000000 ∧ s.next < 1000000000000000
  rotate_left
  · rw [if_neg hg] at h; cases h
  rw [if_pos hg] at h
  obtain ⟨ha, hn⟩ := hg
  obtain ⟨a, hfold, hleave⟩ := Option.bind_eq_some_iff.1 h
  have hvn : (v : Int) < (e.n : Int) := by omega
  obtain ⟨w2, hw2⟩ : ∃ w2, w2 = (w.alloc (.cells #[.int .i64 (e.n : Int), .int .i64 e.exit, .slice e.A e.E.length e.c, .slice (some ⟨e.na, 0, none⟩) e.n e.n, .int .i64 (s.next : Int), skv, lkv] 124)).alloc (.cells #[.int .i64 0, .int .i64 0, .slice none 0 0, .slice none 0 0, .int .i64 0, .slice none 0 0, .slice none 0 0] 124) := ⟨_, rfl⟩
  have hs2 : RS e w2 s skv lkv := by rw [hw2]; exact (hs.alloc _).alloc _
  have hb2 : Blk w2 w.heap.size 124 (e.cells s.next skv lkv) := by rw [hw2]; exact (Blk.newAt w 124 #[.int .i64 (e.n : Int), .int .i64 e.exit, .slice e.A e.E.length e.c, .slice (some ⟨e.na, 0, none⟩) e.n e.n, .int .i64 (s.next : Int), skv, lkv] rfl).alloc _
  have hr2 : Blk w2 (w.heap.size + 1) 124 [.int .i64 0, .int .i64 0, .slice none 0 0, .slice none 0 0, .int .i64 0, .slice none 0 0, .slice none 0 0] := by rw [hw2]; exact Blk.newAt _ 124 #[.int .i64 0, .int .i64 0, .slice none 0 0, .slice none 0 0, .int .i64 0, .slice none 0 0, .slice none 0 0] (by simp)
  have ho2 : Only (fun b => b = e.na) w w2 := by rw [hw2]; exact ((Only.refl _ w).alloc _).alloc _
  have hz2' : w2.heap.size = w.heap.size + 2 := by rw [hw2]; simp
  unfold REnv.cells at hb2
  obtain ⟨Ak, ck, rfl⟩ := own_slice hs2.st
  obtain ⟨Al, cl, rfl, -⟩ := hs2.ls.shape
  have q0 := hb2.cellAt (i := 0) rfl
  have q3 := hb2.cellAt (i := 3) rfl
  have q4 := hb2.cellAt (i := 4) rfl
  have q5 := hb2.cellAt (i := 5) rfl
  have HS2 := Lib.hid hs2
  have HB2 := Lib.hid hb2
  have HR2 := Lib.hid hr2
  have HO2 := Lib.hid ho2
  have HZ2 := Lib.hid hz2'
  have HFO := Lib.hid hfold
  have HLE := Lib.hid hleave
  have HOK := Lib.hid hok
  have HIH := Lib.hid ih
  clear hs hs2 hb2 hr2 ho2 h hok ih hfold hleave hz2'
  unfold REnv.val
  go_enter Tryd.func62, Tryd.ntmps62
  go_upto_region 1 with fail
  rw [← hw2]
  clear hw2
  have hbA := HB2.out.alloc (.cells #[] 3)
  have p5 := hbA.cellAt (i := 5) rfl
  have hownA : (w2.alloc (.cells #[] 3)).ownsRow (e.na + 1) 3 1 (.slice (some ⟨w2.heap.size, 0, none⟩) 0 0) 0 [] := own_empty (by have := HZ2.out; omega)
  have hskA := HS2.out.st.alloc (.cells #[] 3)
  have hcatA : 0 < s.stack.length → ∃ ad, Ak = some ad ∧ ∀ j u, (s.stack.map natV)[j]? = some u → (w2.alloc (.cells #[] 3)).cell? (ad.add j) = some u := fun hp => by
    obtain ⟨g, c, he, -, -⟩ := ownsRow_pos hskA hp
    cases he
    exact ⟨_, rfl, fun j u hj => hskA.cells (g := g) rfl j u hj⟩
  have HCA := Lib.hid hcatA
  have HBA := Lib.hid hbA
  clear hcatA hbA hskA q0 q3 q4 q5
  have hv0 : ∀ b, (Value.slice (some ⟨w2.heap.size, 0, none⟩) 0 0).ownBlock = some b → w2.heap.size ≤ b := fun b h => by cases h; exact Nat.le_refl _
  have hnw : w.heap.size < w2.heap.size := by have := HZ2.out; omega
  have hb26 : e.na + 1 ≤ w2.heap.size := by omega
  go_upto_region 2 with (first
    | (at_builtin; refine wpList_append_cat rfl (.tmp 14) (.tmp 16) 51 rfl (e.na + 1) 3 ie (.int .i64 0) 1 8 Tryd.underlying51 hi hz0 hz1 hz2 rfl (by decide) _ 0 [] rfl hownA Ak s.stack.length ck (s.stack.map natV) rfl (by simp) HCA.out (by intro u hu; obtain ⟨x, -, rfl⟩ := List.mem_map.1 hu; rfl) (by unfold maxLen; omega) (by omega) (by rw [World.size_alloc]; omega) ?_; intro v4 w4 hown4 hgr4 hat4; rw [Nat.zero_add, List.nil_append] at hown4; have hv4 := fresh_row hv0 hat4 (by rw [World.size_alloc]; omega); have hb4 := blk_past HBA.out hgr4 hv0 hnw; have hs4 := hgr4.size; rw [World.size_alloc] at hs4; have hnb4 := Blk.newAt w4 3 #[.int .i64 (v : Int)] rfl; have hown4a := hown4.alloc (.cells #[.int .i64 (v : Int)] 3))
    | (at_builtin; refine wpList_append_lies _ rfl (.tmp 17) (.tmp 19) 51 rfl (e.na + 1) 3 ie (.int .i64 0) 1 8 Tryd.underlying51 hi hz0 hz1 hz2 rfl (by decide) v4 s.stack.length (s.stack.map natV) rfl hown4a ⟨w4.heap.size, 0, none⟩ 1 1 [.int .i64 (v : Int)] rfl rfl (fun q u hq => by rw [add_none]; exact hnb4.cellAt hq) (by intro u hu; simp at hu; subst hu; rfl) (by decide) (by unfold maxLen; omega) (by omega) (by rw [World.size_alloc]; omega) _ rfl ?_; intro g6 c6 w6 hown6 hgr6 hat6 _; have hb6 := blk_past (hb4.alloc (.cells #[.int .i64 (v : Int)] 3)) hgr6 hv4 hnw; have p5 := hb6.cellAt (i := 5) rfl; have f5 := hb6.frozen 5))
  have hz4 := hgr6.size
  rw [World.size_alloc] at hz4
  have ho26 : Only (fun _ => False) w2 w6 :=
    ((((Only.refl (fun _ => False) w2).alloc (.cells #[] 3)).trans (Only.of_grown (S := fun b => w2.heap.size ≤ b) hgr4 hv0) (fun b hb h => by omega)).alloc (.cells #[.int .i64 (v : Int)] 3)).trans (Only.of_grown (S := fun b => w2.heap.size ≤ b) hgr6 hv4) (fun b hb h => by omega)
  have hst6 : w6.ownsRow (e.na + 1) 3 1 (.slice (some ⟨g6, 0, none⟩) (s.stack.length + 1) c6) (s.stack ++ [v]).length ((s.stack ++ [v]).map natV) := by simpa [natV] using hown6
  have hs6 := (HS2.out.still ho26).put hst6 (fun x hx => by
    rcases List.mem_append.1 hx with hx | hx
    · exact HS2.out.sl x hx
    · simp at hx; omega)
  have hr6 := HR2.out.only ho26 (fun f => f)
  have ho6 := HO2.out.trans ho26 (fun _ _ f => f.elim)
  have HB6 := Lib.hid hb6
  have HS6 := Lib.hid hs6
  have HR6 := Lib.hid hr6
  have HO6 := Lib.hid ho6
  clear ho26 hst6 hs6 hr6 ho6 hown6 hgr6 hat6 hown4 hgr4 hat4 hv4 hnb4 hown4a hv0 hownA p5 f5 HBA HCA
  have q4 := hb6.cellAt (i := 4) rfl
  have f4 := hb6.frozen 4
  have q3 := hb6.cellAt (i := 3) rfl
  have a1 := HS6.out.num hv
  have a2 := HS6.out.a.frozen v
  have hn1 : (s.next : Int) ≤ 1000000000000000 := by omega
  clear hb6
  go_upto_region 5 with fail
  have hnn : ((s.next + 1 : Nat) : Int) = (s.next : Int) + 1 := by omega
  have hs7 := (((HS6.out.loc HB6.out (by decide) (by decide) hna ((Only.refl (fun b => b = w.heap.size) w6).set (p := ⟨w.heap.size, 5, none⟩) (fun _ => rfl) (.slice (some ⟨g6, 0, none⟩) (s.stack.length + 1) c6))).nxt (s.next + 1)).loc (HB6.out.set 5 (.slice (some ⟨g6, 0, none⟩) (s.stack.length + 1) c6)) (by decide) (by decide) hna ((Only.refl (fun b => b = w.heap.size) _).set (p := ⟨w.heap.size, 4, none⟩) (fun _ => rfl) (.int .i64 ((s.next : Int) + 1)))).setNum v ((s.next : Int) + 1)
  have hb7 := ((HB6.out.set 5 (.slice (some ⟨g6, 0, none⟩) (s.stack.length + 1) c6)).set 4 (.int .i64 ((s.next : Int) + 1))).far (p := ⟨e.na, v, none⟩) (by show w.heap.size ≠ e.na; omega) (.int .i64 ((s.next : Int) + 1))
  have hr7 := ((HR6.out.far (p := ⟨w.heap.size, 5, none⟩) (by show w.heap.size + 1 ≠ w.heap.size; omega) (.slice (some ⟨g6, 0, none⟩) (s.stack.length + 1) c6)).far (p := ⟨w.heap.size, 4, none⟩) (by show w.heap.size + 1 ≠ w.heap.size; omega) (.int .i64 ((s.next : Int) + 1))).far (p := ⟨e.na, v, none⟩) (by show w.heap.size + 1 ≠ e.na; omega) (.int .i64 ((s.next : Int) + 1))
  have ho7 := ((HO6.out.set (p := ⟨w.heap.size, 5, none⟩) (fun h => absurd h (Nat.lt_irrefl _)) (.slice (some ⟨g6, 0, none⟩) (s.stack.length + 1) c6)).set (p := ⟨w.heap.size, 4, none⟩) (fun h => absurd h (Nat.lt_irrefl _)) (.int .i64 ((s.next : Int) + 1))).set (p := ⟨e.na, v, none⟩) (fun _ => rfl) (.int .i64 ((s.next : Int) + 1))
  obtain ⟨w7, hw7⟩ : ∃ w7, w7 = (((w6.setCell ⟨w.heap.size, 5, none⟩ (.slice (some ⟨g6, 0, none⟩) (s.stack.length + 1) c6)).setCell ⟨w.heap.size, 4, none⟩ (.int .i64 ((s.next : Int) + 1))).setCell ⟨e.na, v, none⟩ (.int .i64 ((s.next : Int) + 1))) := ⟨_, rfl⟩
  rw [← hw7] at hs7 hb7 hr7 ho7 ⊢
  have hb7' := hb7.cast (cs' := e.cells (s.next + 1) (.slice (some ⟨g6, 0, none⟩) (s.stack.length + 1) c6) (.slice Al s.list.length cl)) (by unfold REnv.cells; rw [hnn]; rfl)
  have HS7 := Lib.hid hs7
  have HB7 := Lib.hid hb7'
  have HR7 := Lib.hid hr7
  have HO7 := Lib.hid ho7
  clear hs7 hb7 hb7' hr7 ho7 hw7 hnn q3 q4 f4 a1 a2 HS6 HB6 HR6 HO6 HS2 HB2 HR2 HO2 HZ2
  go_wp2
  go_loopw [6, 7, 8, 9, 10] (fun x6 x7 y _ _ wr => ∃ (m : Nat) (st : RSt × Int × Bool) (skm lkm : Value), m ≤ e.E.length ∧ y = .int .i64 m ∧ x6 = .int .i64 st.2.1 ∧ x7 = .bool st.2.2 ∧
    foldO (stepR (enterR e.E k) e.E v) ((List.range e.E.length).take m) (⟨s.nums.set v ((s.next : Int) + 1), s.next + 1, s.stack ++ [v], s.list⟩, (s.next : Int) + 1, false) = some st ∧ RS e wr st.1 skm lkm ∧
    Blk wr w.heap.size 124 (e.cells st.1.next skm lkm) ∧ Blk wr (w.heap.size + 1) 124 [.int .i64 0, .int .i64 0, .slice none 0 0, .slice none 0 0, .int .i64 0, .slice none 0 0, .slice none 0 0] ∧ Only (fun b => b = e.na) w wr) (fun _ _ y _ _ _ => e.E.length - (intOf y).toNat)
  case atStart => exact ⟨0, _, _, _, Nat.zero_le _, rfl, rfl, rfl, rfl, HS7.out, HB7.out, HR7.out, HO7.out⟩
  case round =>
    obtain ⟨m, st, skm, lkm, hm, rfl, rfl, rfl, hf, hs, hb, hr, ho⟩ := hrel
    obtain ⟨st1, sh, sp⟩ := st
    simp only at hs hb
    unfold REnv.cells at hb
    have q0 := hb.cellAt (i := 0) rfl
    have q1 := hb.cellAt (i := 1) rfl
    have q2 := hb.cellAt (i := 2) rfl
    have q3 := hb.cellAt (i := 3) rfl
    have q4 := hb.cellAt (i := 4) rfl
    have q5 := hb.cellAt (i := 5) rfl
    have q6 := hb.cellAt (i := 6) rfl
    have hsz := ho.size
    by_cases hlt : m < e.E.length
    · have hlt1 : (m : Int) < (e.E.length : Int) := by omega
      obtain ⟨st', hstep, hnext⟩ := foldO_at _ _ m (by simpa using hlt) _ _ _ HFO.out hf
      rw [range_at hlt] at hstep
      obtain ⟨ade, hA, hbe, hsr, htg, htn⟩ := hs.edge HOK.out hlt
      have hnum := hs.num htn
      rw [hA] at q2
      have hlt2 : decide ((e.E.length : Int) ≤ (m : Int)) = false := by rw [decide_eq_false_iff_not]; omega
      have hlt3 : decide (e.E.length ≤ m) = false := by rw [decide_eq_false_iff_not]; omega
      have htn1 : (tgt e.E m : Int) < (e.n : Int) := by omega
      unfold stepR at hstep
      simp only at hstep
      have HNX := Lib.hid hnext
      have HB := Lib.hid hb
      have HR := Lib.hid hr
      have HO := Lib.hid ho
      have HA := Lib.hid hA
      clear hnext hf hb hr ho hA
      by_cases hsv : src e.E m = v
      · rw [if_neg (fun h => h hsv)] at hstep
        rw [hsv] at hsr
        have hg1 : ((v : Int) != (v : Int)) = false := by simp
        have hg2 : (v != v) = false := by simp
        by_cases hz : getI st1.nums (tgt e.E m) = 0
        · rw [if_pos hz] at hstep
          rw [hz] at hnum
          obtain ⟨r3, hr1, rfl⟩ := Option.map_eq_some_iff.1 hstep
          obtain ⟨r31, rh⟩ := r3
          simp only at HNX
          have hcall := HIH.out wr st1 skm lkm _ _ hs htn hr1
          unfold REnv.val at hcall
          rw [HA.out] at hcall
          have HC := Lib.hid hcall
          clear hcall hstep hr1 hz hs hsv
          by_cases hle : rh ≤ sh
          · have hle1 : decide (rh ≤ sh) = true := decide_eq_true hle
            rw [if_pos hle, hle1, Bool.true_or] at HNX
            go_wp2_with (go_at_call 62; refine HC.out.mono ?_; rintro en w5 ⟨skx, lkx, rfl, hs5, ho5⟩; obtain ⟨As, cks, rfl⟩ := own_slice hs5.st; obtain ⟨Ar, ckl, rfl, -⟩ := hs5.ls.shape; have hb5 := HB.out.only ho5 (by omega); have k0 := hb5.cellAt (i := 0) rfl; have k1 := hb5.cellAt (i := 1) rfl; have k2 := hb5.cellAt (i := 2) rfl; have k3 := hb5.cellAt (i := 3) rfl; have k4 := hb5.cellAt (i := 4) rfl; have k5 := hb5.cellAt (i := 5) rfl; have k6 := hb5.cellAt (i := 6) rfl; have kf := fun i => hb5.frozen i; rw [HA.out] at k2; have HB5 := Lib.hid hb5; have HS5 := Lib.hid hs5; have HO5 := Lib.hid ho5; clear hb5 hs5 ho5)
            have hb6 := ((((((HB5.out.set 0 (.int .i64 (e.n : Int))).set 1 (.int .i64 e.exit)).set 2 (.slice (some ade) e.E.length e.c)).set 3 (.slice (some ⟨e.na, 0, none⟩) e.n e.n)).set 4 (.int .i64 (r31.next : Int))).set 5 (.slice As r31.stack.length cks)).set 6 (.slice Ar r31.list.length ckl)
            have ho6 : Only (fun b => b = w.heap.size) w5 _ := (((((((Only.refl (fun b => b = w.heap.size) w5).set (p := ⟨w.heap.size, 0, none⟩) (fun _ => rfl) (.int .i64 (e.n : Int))).set (p := ⟨w.heap.size, 1, none⟩) (fun _ => rfl) (.int .i64 e.exit)).set (p := ⟨w.heap.size, 2, none⟩) (fun _ => rfl) (.slice (some ade) e.E.length e.c)).set (p := ⟨w.heap.size, 3, none⟩) (fun _ => rfl) (.slice (some ⟨e.na, 0, none⟩) e.n e.n)).set (p := ⟨w.heap.size, 4, none⟩) (fun _ => rfl) (.int .i64 (r31.next : Int))).set (p := ⟨w.heap.size, 5, none⟩) (fun _ => rfl) (.slice As r31.stack.length cks)).set (p := ⟨w.heap.size, 6, none⟩) (fun _ => rfl) (.slice Ar r31.list.length ckl)
            have hsz5 := HO5.out.size
            have hs6 := HS5.out.loc HB5.out (by decide) (by decide) hna ho6
            have hr6 := (HR.out.only HO5.out (by omega)).only ho6 (by omega)
            have ho7 := (HO.out.trans HO5.out (fun _ _ h => h)).trans ho6 (fun b hb h => by omega)
            have hb7 := hb6.cast (cs' := e.cells r31.next (.slice As r31.stack.length cks) (.slice Ar r31.list.length ckl)) (by unfold REnv.cells; rw [HA.out]; rfl)
            have HS6 := Lib.hid hs6
            have HR6 := Lib.hid hr6
            have HO7 := Lib.hid ho7
            have HB7 := Lib.hid hb7
            clear hs6 hr6 ho7 hb7 hb6 ho6 kf k0 k1 k2 k3 k4 k5 k6 hsz5
            go_roundw
            case rel => exact ⟨m + 1, _, _, _, by omega, by go_num, rfl, rfl, HNX.out, HS6.out, HB7.out, HR6.out, HO7.out⟩
            case measure => simp [intOf]; omega
          · have hle1 : decide (rh ≤ sh) = false := decide_eq_false hle
            rw [if_neg hle, hle1, Bool.false_or] at HNX
            go_wp2_with (go_at_call 62; refine HC.out.mono ?_; rintro en w5 ⟨skx, lkx, rfl, hs5, ho5⟩; obtain ⟨As, cks, rfl⟩ := own_slice hs5.st; obtain ⟨Ar, ckl, rfl, -⟩ := hs5.ls.shape; have hb5 := HB.out.only ho5 (by omega); have k0 := hb5.cellAt (i := 0) rfl; have k1 := hb5.cellAt (i := 1) rfl; have k2 := hb5.cellAt (i := 2) rfl; have k3 := hb5.cellAt (i := 3) rfl; have k4 := hb5.cellAt (i := 4) rfl; have k5 := hb5.cellAt (i := 5) rfl; have k6 := hb5.cellAt (i := 6) rfl; have kf := fun i => hb5.frozen i; rw [HA.out] at k2; have HB5 := Lib.hid hb5; have HS5 := Lib.hid hs5; have HO5 := Lib.hid ho5; clear hb5 hs5 ho5)
            have hb6 := ((((((HB5.out.set 0 (.int .i64 (e.n : Int))).set 1 (.int .i64 e.exit)).set 2 (.slice (some ade) e.E.length e.c)).set 3 (.slice (some ⟨e.na, 0, none⟩) e.n e.n)).set 4 (.int .i64 (r31.next : Int))).set 5 (.slice As r31.stack.length cks)).set 6 (.slice Ar r31.list.length ckl)
            have ho6 : Only (fun b => b = w.heap.size) w5 _ := (((((((Only.refl (fun b => b = w.heap.size) w5).set (p := ⟨w.heap.size, 0, none⟩) (fun _ => rfl) (.int .i64 (e.n : Int))).set (p := ⟨w.heap.size, 1, none⟩) (fun _ => rfl) (.int .i64 e.exit)).set (p := ⟨w.heap.size, 2, none⟩) (fun _ => rfl) (.slice (some ade) e.E.length e.c)).set (p := ⟨w.heap.size, 3, none⟩) (fun _ => rfl) (.slice (some ⟨e.na, 0, none⟩) e.n e.n)).set (p := ⟨w.heap.size, 4, none⟩) (fun _ => rfl) (.int .i64 (r31.next : Int))).set (p := ⟨w.heap.size, 5, none⟩) (fun _ => rfl) (.slice As r31.stack.length cks)).set (p := ⟨w.heap.size, 6, none⟩) (fun _ => rfl) (.slice Ar r31.list.length ckl)
            have hsz5 := HO5.out.size
            have hs6 := HS5.out.loc HB5.out (by decide) (by decide) hna ho6
            have hr6 := (HR.out.only HO5.out (by omega)).only ho6 (by omega)
            have ho7 := (HO.out.trans HO5.out (fun _ _ h => h)).trans ho6 (fun b hb h => by omega)
            have hb7 := hb6.cast (cs' := e.cells r31.next (.slice As r31.stack.length cks) (.slice Ar r31.list.length ckl)) (by unfold REnv.cells; rw [HA.out]; rfl)
            have HS6 := Lib.hid hs6
            have HR6 := Lib.hid hr6
            have HO7 := Lib.hid ho7
            have HB7 := Lib.hid hb7
            clear hs6 hr6 ho7 hb7 hb6 ho6 kf k0 k1 k2 k3 k4 k5 k6 hsz5
            go_roundw
            case rel => exact ⟨m + 1, _, _, _, by omega, by go_num, rfl, rfl, HNX.out, HS6.out, HB7.out, HR6.out, HO7.out⟩
            case measure => simp [intOf]; omega
        · rw [if_neg hz] at hstep
          obtain rfl := Option.some.inj hstep
          revert hnum hz HNX
          generalize getI st1.nums (tgt e.E m) = x
          intro hnum hz HNX
          have hz1 : (x == 0) = false := by rw [beq_eq_false_iff_ne]; exact hz
          have hz2 : decide (x = 0) = false := by rw [decide_eq_false_iff_not]; exact hz
          have HS := Lib.hid hs
          clear hstep hs hsv
          by_cases hle : x ≤ sh
          · have hle1 : decide (x ≤ sh) = true := decide_eq_true hle
            rw [if_pos hle, hle1, Bool.true_or] at HNX
            go_wp2
            go_roundw
            case rel => exact ⟨m + 1, _, _, _, by omega, by go_num, rfl, rfl, HNX.out, HS.out, HB.out, HR.out, HO.out⟩
            case measure => simp [intOf]; omega
          · have hle1 : decide (x ≤ sh) = false := decide_eq_false hle
            rw [if_neg hle, hle1, Bool.false_or] at HNX
            go_wp2
            go_roundw
            case rel => exact ⟨m + 1, _, _, _, by omega, by go_num, rfl, rfl, HNX.out, HS.out, HB.out, HR.out, HO.out⟩
            case measure => simp [intOf]; omega
      · rw [if_pos hsv] at hstep
        obtain rfl := Option.some.inj hstep
        have hg1 : ((src e.E m : Int) != (v : Int)) = true := by rw [bne_iff_ne]; omega
        have hg2 : decide ((src e.E m : Int) = (v : Int)) = false := by rw [decide_eq_false_iff_not]; omega
        have hg3 : (src e.E m != v) = true := by rw [bne_iff_ne]; exact hsv
        have hg4 : decide (src e.E m = v) = false := by rw [decide_eq_false_iff_not]; exact hsv
        have HS := Lib.hid hs
        clear hstep hs hsv
        go_wp2
        go_roundw
        case rel => exact ⟨m + 1, _, _, _, by omega, by go_num, rfl, rfl, HNX.out, HS.out, HB.out, HR.out, HO.out⟩
        case measure => simp [intOf]; omega
    · obtain rfl : m = e.E.length := by omega
      rw [List.take_of_length_le (by simp), HFO.out] at hf
      obtain rfl := Option.some.inj hf
      have hnum := hs.num hv
      have hnf := hs.a.frozen v
      obtain ⟨As, cks, rfl⟩ := own_slice hs.st
      obtain ⟨Ar, ckl, rfl, -⟩ := hs.ls.shape
      have hle := HLE.out
      unfold leaveR at hle
      simp only at hle
      have HB := Lib.hid hb
      have HRX := Lib.hid hr
      have HO := Lib.hid ho
      have HS := Lib.hid hs
      have hm0 : ∃ q : Nat, q = e.E.length := ⟨_, rfl⟩
      clear hf HFO HLE hlt hm hb hr ho hs
      by_cases hne : sh ≠ getI st1.nums v
      · rw [if_pos hne] at hle
        obtain rfl := Option.some.inj hle
        revert hnum hne
        generalize getI st1.nums v = x
        intro hnum hne
        have hne1 : (sh != x) = true := by rw [bne_iff_ne]; exact hne
        have hne2 : decide (sh = x) = false := by rw [decide_eq_false_iff_not]; exact hne
        have hne3 : (sh == x) = false := by rw [beq_eq_false_iff_ne]; exact hne
        have r0 := HRX.out.cellAt (i := 0) rfl
        have r1 := HRX.out.cellAt (i := 1) rfl
        have r2 := HRX.out.cellAt (i := 2) rfl
        have r3 := HRX.out.cellAt (i := 3) rfl
        have r4 := HRX.out.cellAt (i := 4) rfl
        have r5 := HRX.out.cellAt (i := 5) rfl
        have r6 := HRX.out.cellAt (i := 6) rfl
        have rf := fun i => HRX.out.frozen i
        clear hle hne
        go_wp2
        have hb6 := ((((((HRX.out.set 0 (.int .i64 (e.n : Int))).set 1 (.int .i64 e.exit)).set 2 (.slice e.A e.E.length e.c)).set 3 (.slice (some ⟨e.na, 0, none⟩) e.n e.n)).set 4 (.int .i64 (st1.next : Int))).set 5 (.slice As st1.stack.length cks)).set 6 (.slice Ar st1.list.length ckl)
        have ho6 : Only (fun b => b = w.heap.size + 1) wr _ := (((((((Only.refl (fun b => b = w.heap.size + 1) wr).set (p := ⟨w.heap.size + 1, 0, none⟩) (fun _ => rfl) (.int .i64 (e.n : Int))).set (p := ⟨w.heap.size + 1, 1, none⟩) (fun _ => rfl) (.int .i64 e.exit)).set (p := ⟨w.heap.size + 1, 2, none⟩) (fun _ => rfl) (.slice e.A e.E.length e.c)).set (p := ⟨w.heap.size + 1, 3, none⟩) (fun _ => rfl) (.slice (some ⟨e.na, 0, none⟩) e.n e.n)).set (p := ⟨w.heap.size + 1, 4, none⟩) (fun _ => rfl) (.int .i64 (st1.next : Int))).set (p := ⟨w.heap.size + 1, 5, none⟩) (fun _ => rfl) (.slice As st1.stack.length cks)).set (p := ⟨w.heap.size + 1, 6, none⟩) (fun _ => rfl) (.slice Ar st1.list.length ckl)
        have k0 := hb6.cellAt (i := 0) rfl
        have k1 := hb6.cellAt (i := 1) rfl
        have k2 := hb6.cellAt (i := 2) rfl
        have k3 := hb6.cellAt (i := 3) rfl
        have k4 := hb6.cellAt (i := 4) rfl
        have k5 := hb6.cellAt (i := 5) rfl
        have k6 := hb6.cellAt (i := 6) rfl
        refine bodyPost_ret (v := .tuple #[.agg #[.int .i64 (e.n : Int), .int .i64 e.exit, .slice e.A e.E.length e.c, .slice (some ⟨e.na, 0, none⟩) e.n e.n, .int .i64 (st1.next : Int), .slice As st1.stack.length cks, .slice Ar st1.list.length ckl], .int .i64 sh]) (by simp [results, Tryd.results62, go_sem, k0, k1, k2, k3, k4, k5, k6]) rfl ⟨_, _, rfl, HS.out.loc HRX.out (by decide) (by decide) (by omega) ho6, HO.out.trans ho6 (fun b hb h => by omega)⟩
      · rw [if_neg hne] at hle
        have hsh : getI st1.nums v = sh := by simpa using (Classical.not_not.1 hne).symm
        rw [hsh] at hnum
        have hne0 : (sh != sh) = false := by simp
        have HLE2 := Lib.hid hle
        clear hle hne hsh
        go_upto_region 18 with fail
        have hs8 : RS e (wr.setCell ⟨e.na, v, none⟩ (.int .i64 524288)) ⟨st1.nums.set v doneR, st1.next, st1.stack, st1.list⟩ _ _ := HS.out.setNum v doneR
        have hb8 := HB.out.far (p := ⟨e.na, v, none⟩) (by show w.heap.size ≠ e.na; omega) (.int .i64 524288)
        have hr8 := HRX.out.far (p := ⟨e.na, v, none⟩) (by show w.heap.size + 1 ≠ e.na; omega) (.int .i64 524288)
        have ho8 := HO.out.set (p := ⟨e.na, v, none⟩) (fun _ => rfl) (.int .i64 524288)
        have HS8 := Lib.hid hs8
        have HB8 := Lib.hid hb8
        have HR8 := Lib.hid hr8
        have HO8 := Lib.hid ho8
        clear hs8 hb8 hr8 ho8 hnum hnf q0 q1 q2 q3 q4 q5 q6 HS HB HRX HO
        revert HS8 HB8 HR8 HO8
        generalize wr.setCell ⟨e.na, v, none⟩ (.int .i64 524288) = w8
        intro HS8 HB8 HR8 HO8
        go_loopw [11] (fun _ wr => ∃ (rs : List Nat) (nums : List Int) (skx : Value), popR v nums rs = popR v (st1.nums.set v doneR) st1.stack.reverse ∧ RS e wr ⟨nums, st1.next, rs.reverse, st1.list⟩ skx (.slice Ar st1.list.length ckl) ∧
          Blk wr w.heap.size 124 [.int .i64 (e.n : Int), .int .i64 e.exit, .slice e.A e.E.length e.c, .slice (some ⟨e.na, 0, none⟩) e.n e.n, .int .i64 (st1.next : Int), skx, .slice Ar st1.list.length ckl] ∧
          Blk wr (w.heap.size + 1) 124 [.int .i64 0, .int .i64 0, .slice none 0 0, .slice none 0 0, .int .i64 0, .slice none 0 0, .slice none 0 0] ∧ Only (fun b => b = e.na) w wr)
          (fun _ wr => match wr.cell? ⟨w.heap.size, 5, none⟩ with | some (.slice _ n _) => n | _ => 0)
        case atStart => exact ⟨st1.stack.reverse, _, _, rfl, by rw [List.reverse_reverse]; exact HS8.out, HB8.out, HR8.out, HO8.out⟩
        case round =>
          obtain ⟨rs, nums, skx, hpp, hs, hb, hr, ho⟩ := hrel
          cases rs with
          | nil =>
            have q5 := hb.cellAt (i := 5) rfl
            obtain ⟨Ax, cx, hsk⟩ := own_slice hs.st
            have hsk2 : skx = .slice Ax 0 cx := hsk
            subst hsk2
            clear hsk
            go_upto_region 23 with fail
            obtain ⟨wx, rfl⟩ : ∃ wx : World, wx = wr := ⟨_, rfl⟩
            have hpx : (nums, ([] : List Nat)) = popR v (st1.nums.set v doneR) st1.stack.reverse := hpp
            have HPX := Lib.hid hpx
            have HSX := Lib.hid hs
            have HBX := Lib.hid hb
            have HRX := Lib.hid hr
            have HOX := Lib.hid ho
            clear hpp hpx hs hb hr ho q5
            have hn512 := HOK.out.n512
            have hle := HLE2.out
            rw [← HPX.out] at hle
            simp only at hle
            cases sp with
            | false =>
              rw [if_pos rfl] at hle
              unfold consR at hle
              have hgd : st1.list.length < 1000000 ∧ (El.mk (v : Int) false []).body.length < 1000000 := Classical.byContradiction fun hn => by rw [if_neg hn] at hle; cases hle
              rw [if_pos hgd] at hle
              obtain rfl := Option.some.inj hle
              have hsl1 : st1.list.length < 1000000 := hgd.1
              obtain ⟨Ay, cy, us, hve, hul, hcu, hbu, hwu, hou⟩ := HSX.out.ls.cells
              cases hve
              obtain ⟨il, hil, hl0, hl1, hl2⟩ := info_parts info_rel
              have hwx := HRX.out.lt
              have hlbx := HSX.out.hi
              have hba := (HBX.out.alloc (.cells #[.int .i64 (v : Int), .bool false, .slice none 0 0] 88)).alloc (.cells #[.int .i64 (v : Int), .bool false, .slice none 0 0] 88)
              have p6 := hba.cellAt (i := 6) rfl
              have hown1 := own_one (w := wx.alloc (.cells #[.int .i64 (v : Int), .bool false, .slice none 0 0] 88)) (T := 88) (base := e.lb + 1) (m := 3) [.int .i64 (v : Int), .bool false, .slice none 0 0] (by rw [World.size_alloc]; omega) rfl
              rw [World.size_alloc] at hown1
              have hv0 : ∀ b, (Value.slice (some ⟨wx.heap.size + 1, 0, none⟩) 1 1).ownBlock = some b → wx.heap.size ≤ b := fun b h => by cases h; exact Nat.le_succ _
              have hcatA : 0 < st1.list.length → ∃ ad, Ar = some ad ∧ ∀ j u, (elCells st1.list us)[j]? = some u → ((wx.alloc (.cells #[.int .i64 (v : Int), .bool false, .slice none 0 0] 88)).alloc (.cells #[.int .i64 (v : Int), .bool false, .slice none 0 0] 88)).cell? (ad.add j) = some u := fun hp => by
                obtain ⟨ad, h1, h2⟩ := hcu hp
                exact ⟨ad, h1, fun j u hj => by simp [World.cell?_alloc_some, h2 j u hj]⟩
              have hra := (HRX.out.alloc (.cells #[.int .i64 (v : Int), .bool false, .slice none 0 0] 88)).alloc (.cells #[.int .i64 (v : Int), .bool false, .slice none 0 0] 88)
              have HRA := Lib.hid hra
              clear hra
              have HCA := Lib.hid hcatA
              have HOW := Lib.hid hown1
              have HOU := Lib.hid hou
              have HBA := Lib.hid hba
              have HUL := Lib.hid hul
              clear hle hcu hcatA hown1 hou hba hul
              go_wp2_with (at_builtin; refine wpList_append_cat rfl (.tmp 131) (.tmp 133) 31 rfl (e.lb + 1) 88 il (.agg #[.int .i64 0, .bool false, .slice none 0 0]) 3 40 Tryd.underlying31 hil hl0 hl1 hl2 rfl (by decide) _ 1 _ rfl HOW.out Ar st1.list.length ckl (elCells st1.list us) rfl (elCells_length _ _ HUL.out) HCA.out (elCells_one _ _ HOU.out) (by unfold maxLen; omega) (by omega) (by rw [World.size_alloc, World.size_alloc]; omega) ?_; intro v12 w12 hown12 hgr12 hat12; have hv12 := fresh_row (N := wx.heap.size) hv0 hat12 (by rw [World.size_alloc, World.size_alloc]; omega); have hb12 := blk_past HBA.out hgr12 hv0 (by omega); have f12 := hb12.frozen 6; have p12 := hb12.cellAt (i := 6) rfl; have k0 := hb12.cellAt (i := 0) rfl; have k1 := hb12.cellAt (i := 1) rfl; have k2 := hb12.cellAt (i := 2) rfl; have k3 := hb12.cellAt (i := 3) rfl; have k4 := hb12.cellAt (i := 4) rfl; have k5 := hb12.cellAt (i := 5) rfl; have hr12 := blk_past HRA.out hgr12 hv0 (by omega); have rf := fun i => hr12.frozen i; have r0 := hr12.cellAt (i := 0) rfl; have r1 := hr12.cellAt (i := 1) rfl; have r2 := hr12.cellAt (i := 2) rfl; have r3 := hr12.cellAt (i := 3) rfl; have r4 := hr12.cellAt (i := 4) rfl; have r5 := hr12.cellAt (i := 5) rfl; have r6 := hr12.cellAt (i := 6) rfl; obtain ⟨A12, c12, rfl⟩ := own_slice hown12)
              have ho12 : Only (fun _ => False) wx w12 := (((Only.refl (fun _ => False) wx).alloc (.cells #[.int .i64 (v : Int), .bool false, .slice none 0 0] 88)).alloc (.cells #[.int .i64 (v : Int), .bool false, .slice none 0 0] 88)).trans (Only.of_grown (S := fun b => wx.heap.size ≤ b) hgr12 hv0) (fun b hb h => by omega)
              have hown13 : w12.ownsRow (e.lb + 1) 88 3 (.slice A12 (1 + st1.list.length) c12) (st1.list.length + 1) ([.int .i64 (El.mk (v : Int) false []).p, .bool (El.mk (v : Int) false []).c, .slice none 0 0] ++ elCells st1.list us) := by rw [Nat.add_comm st1.list.length 1]; exact hown12
              have hels := els_cons (x := El.mk (v : Int) false []) HUL.out hbu hwu Els.nil ⟨by show _ ≤ (v : Int); omega, by show (v : Int) ≤ _; omega⟩ ho12 hown13 hv12 (by omega)
              have hs12 := HSX.out.still ho12
              have hs13 := (RS.list hs12 hels).loc hb12 (by decide) (by decide) hna ((Only.refl (fun b => b = w.heap.size) w12).set (p := ⟨w.heap.size, 6, none⟩) (fun _ => rfl) (.slice A12 (1 + st1.list.length) c12))
              have hr13 := hr12.far (p := ⟨w.heap.size, 6, none⟩) (by show w.heap.size + 1 ≠ w.heap.size; omega) (.slice A12 (1 + st1.list.length) c12)
              have ho13 := (HOX.out.trans ho12 (fun _ _ f => f.elim)).set (p := ⟨w.heap.size, 6, none⟩) (fun h => absurd h (Nat.lt_irrefl _)) (.slice A12 (1 + st1.list.length) c12)
              revert hs13 hr13 ho13
              generalize w12.setCell ⟨w.heap.size, 6, none⟩ (.slice A12 (1 + st1.list.length) c12) = w13
              intro hs13 hr13 ho13
              have hb14 := ((((((hr13.set 0 (.int .i64 (e.n : Int))).set 1 (.int .i64 e.exit)).set 2 (.slice e.A e.E.length e.c)).set 3 (.slice (some ⟨e.na, 0, none⟩) e.n e.n)).set 4 (.int .i64 (st1.next : Int))).set 5 (.slice Ax 0 cx)).set 6 (.slice A12 (1 + st1.list.length) c12)
              have ho14 : Only (fun b => b = w.heap.size + 1) w13 _ := (((((((Only.refl (fun b => b = w.heap.size + 1) w13).set (p := ⟨w.heap.size + 1, 0, none⟩) (fun _ => rfl) (.int .i64 (e.n : Int))).set (p := ⟨w.heap.size + 1, 1, none⟩) (fun _ => rfl) (.int .i64 e.exit)).set (p := ⟨w.heap.size + 1, 2, none⟩) (fun _ => rfl) (.slice e.A e.E.length e.c)).set (p := ⟨w.heap.size + 1, 3, none⟩) (fun _ => rfl) (.slice (some ⟨e.na, 0, none⟩) e.n e.n)).set (p := ⟨w.heap.size + 1, 4, none⟩) (fun _ => rfl) (.int .i64 (st1.next : Int))).set (p := ⟨w.heap.size + 1, 5, none⟩) (fun _ => rfl) (.slice Ax 0 cx)).set (p := ⟨w.heap.size + 1, 6, none⟩) (fun _ => rfl) (.slice A12 (1 + st1.list.length) c12)
              have y0 := hb14.cellAt (i := 0) rfl
              have y1 := hb14.cellAt (i := 1) rfl
              have y2 := hb14.cellAt (i := 2) rfl
              have y3 := hb14.cellAt (i := 3) rfl
              have y4 := hb14.cellAt (i := 4) rfl
              have y5 := hb14.cellAt (i := 5) rfl
              have y6 := hb14.cellAt (i := 6) rfl
              refine bodyPost_ret (v := .tuple #[.agg #[.int .i64 (e.n : Int), .int .i64 e.exit, .slice e.A e.E.length e.c, .slice (some ⟨e.na, 0, none⟩) e.n e.n, .int .i64 (st1.next : Int), (.slice Ax 0 cx), .slice A12 (1 + st1.list.length) c12], .int .i64 sh]) (by simp [results, Tryd.results62, go_sem, y0, y1, y2, y3, y4, y5, y6]) rfl ⟨_, _, rfl, hs13.loc hr13 (by decide) (by decide) (by omega) ho14, ho13.trans ho14 (fun b hb h => by omega)⟩
            | true =>
              rw [if_neg (by decide)] at hle
              obtain ⟨t, ht, hle⟩ := Option.bind_eq_some_iff.1 hle
              unfold consR at hle
              have hgd : st1.list.length < 1000000 ∧ (El.mk (v : Int) true t.list).body.length < 1000000 := Classical.byContradiction fun hn => by simp only at hle; rw [if_neg hn] at hle; cases hle
              simp only at hle
              rw [if_pos hgd] at hle
              obtain rfl := Option.some.inj hle
              have hsl1 : st1.list.length < 1000000 := hgd.1
              have hsl2 : t.list.length < 1000000 := hgd.2
              have hwx := HRX.out.lt
              have hlbx := HSX.out.hi
              have hba := HBX.out.alloc (.cells #[.int .i64 (v : Int), .bool true, .slice none 0 0] 88)
              have q0 := hba.cellAt (i := 0) rfl
              have q1 := hba.cellAt (i := 1) rfl
              have q2 := hba.cellAt (i := 2) rfl
              have q3 := hba.cellAt (i := 3) rfl
              have q4 := hba.cellAt (i := 4) rfl
              have q5 := hba.cellAt (i := 5) rfl
              have q6 := hba.cellAt (i := 6) rfl
              have hsin := ((HSX.out.alloc (.cells #[.int .i64 (v : Int), .bool true, .slice none 0 0] 88)).alloc (.cells #[.int .i64 (e.n : Int), .int .i64 e.exit, .slice e.A e.E.length e.c, .slice (some ⟨e.na, 0, none⟩) e.n e.n, .int .i64 (st1.next : Int), (.slice Ax 0 cx), .slice none 0 0] 124)).relb (wx.heap.size + 1) (by omega) (by rw [World.size_alloc, World.size_alloc]; omega)
              have hok2 : REnv.Ok { e with lb := wx.heap.size + 1 } := ⟨HOK.out.n512, HOK.out.lE, HOK.out.lt⟩
              have hin := inside_any { e with lb := wx.heap.size + 1 } hok2 k (HIA.out _ hok2) _ _ _ _ v t hsin ht
              unfold REnv.val at hin
              simp only at hin
              have HIN := Lib.hid hin
              clear hin hsin hle ht
              go_upto_region 28 with (go_at_call 75; refine HIN.out.mono ?_; rintro en w27 ⟨ski, lki, rfl, hs27, ho27⟩; obtain ⟨Ai, ci, rfl⟩ := own_slice hs27.st; obtain ⟨Aj, cj, rfl, -⟩ := hs27.ls.shape; have hin27 := (Blk.newAt (N := wx.heap.size + 1) (wx.alloc (.cells #[.int .i64 (v : Int), .bool true, .slice none 0 0] 88)) 124 #[.int .i64 (e.n : Int), .int .i64 e.exit, .slice e.A e.E.length e.c, .slice (some ⟨e.na, 0, none⟩) e.n e.n, .int .i64 (st1.next : Int), (.slice Ax 0 cx), .slice none 0 0] (by simp)).only ho27 (by omega); have k0 := hin27.cellAt (i := 0) rfl; have k1 := hin27.cellAt (i := 1) rfl; have k2 := hin27.cellAt (i := 2) rfl; have k3 := hin27.cellAt (i := 3) rfl; have k4 := hin27.cellAt (i := 4) rfl; have k5 := hin27.cellAt (i := 5) rfl; have k6 := hin27.cellAt (i := 6) rfl; have kf := fun i => hin27.frozen i)
              have hown27 := ((Blk.newAt (N := wx.heap.size) wx 88 #[.int .i64 (v : Int), .bool true, .slice none 0 0] rfl).alloc (.cells #[.int .i64 (e.n : Int), .int .i64 e.exit, .slice e.A e.E.length e.c, .slice (some ⟨e.na, 0, none⟩) e.n e.n, .int .i64 (st1.next : Int), (.slice Ax 0 cx), .slice none 0 0] 124)).only ho27 (by omega)
              have hb27 := (hba.alloc (.cells #[.int .i64 (e.n : Int), .int .i64 e.exit, .slice e.A e.E.length e.c, .slice (some ⟨e.na, 0, none⟩) e.n e.n, .int .i64 (st1.next : Int), (.slice Ax 0 cx), .slice none 0 0] 124)).only ho27 (by omega)
              have hr27 := ((HRX.out.alloc (.cells #[.int .i64 (v : Int), .bool true, .slice none 0 0] 88)).alloc (.cells #[.int .i64 (e.n : Int), .int .i64 e.exit, .slice e.A e.E.length e.c, .slice (some ⟨e.na, 0, none⟩) e.n e.n, .int .i64 (st1.next : Int), (.slice Ax 0 cx), .slice none 0 0] 124)).only ho27 (by omega)
              have hmx := ((HSX.out.alloc (.cells #[.int .i64 (v : Int), .bool true, .slice none 0 0] 88)).alloc (.cells #[.int .i64 (e.n : Int), .int .i64 e.exit, .slice e.A e.E.length e.c, .slice (some ⟨e.na, 0, none⟩) e.n e.n, .int .i64 (st1.next : Int), (.slice Ax 0 cx), .slice none 0 0] 124)).mix ho27 hs27
              have hset : Only (fun b => b = wx.heap.size + 1) w27 _ := (((((((Only.refl (fun b => b = wx.heap.size + 1) w27).set (p := ⟨wx.heap.size + 1, 0, none⟩) (fun _ => rfl) (.int .i64 (e.n : Int))).set (p := ⟨wx.heap.size + 1, 1, none⟩) (fun _ => rfl) (.int .i64 e.exit)).set (p := ⟨wx.heap.size + 1, 2, none⟩) (fun _ => rfl) (.slice e.A e.E.length e.c)).set (p := ⟨wx.heap.size + 1, 3, none⟩) (fun _ => rfl) (.slice (some ⟨e.na, 0, none⟩) e.n e.n)).set (p := ⟨wx.heap.size + 1, 4, none⟩) (fun _ => rfl) (.int .i64 (t.next : Int))).set (p := ⟨wx.heap.size + 1, 5, none⟩) (fun _ => rfl) (.slice Ai t.stack.length ci)).set (p := ⟨wx.heap.size + 1, 6, none⟩) (fun _ => rfl) (.slice Aj t.list.length cj)
              have hs28 := hs27.loc hin27 (by decide) (by decide) (show e.na < wx.heap.size + 1 by omega) hset
              have hm28 := hmx.loc hin27 (by decide) (by decide) (by omega) hset
              have hin28 := ((((((hin27.set 0 (.int .i64 (e.n : Int))).set 1 (.int .i64 e.exit)).set 2 (.slice e.A e.E.length e.c)).set 3 (.slice (some ⟨e.na, 0, none⟩) e.n e.n)).set 4 (.int .i64 (t.next : Int))).set 5 (.slice Ai t.stack.length ci)).set 6 (.slice Aj t.list.length cj)
              have hown28 := ((((((hown27.far (p := ⟨wx.heap.size + 1, 0, none⟩) (by show wx.heap.size ≠ wx.heap.size + 1; omega) (.int .i64 (e.n : Int))).far (p := ⟨wx.heap.size + 1, 1, none⟩) (by show wx.heap.size ≠ wx.heap.size + 1; omega) (.int .i64 e.exit)).far (p := ⟨wx.heap.size + 1, 2, none⟩) (by show wx.heap.size ≠ wx.heap.size + 1; omega) (.slice e.A e.E.length e.c)).far (p := ⟨wx.heap.size + 1, 3, none⟩) (by show wx.heap.size ≠ wx.heap.size + 1; omega) (.slice (some ⟨e.na, 0, none⟩) e.n e.n)).far (p := ⟨wx.heap.size + 1, 4, none⟩) (by show wx.heap.size ≠ wx.heap.size + 1; omega) (.int .i64 (t.next : Int))).far (p := ⟨wx.heap.size + 1, 5, none⟩) (by show wx.heap.size ≠ wx.heap.size + 1; omega) (.slice Ai t.stack.length ci)).far (p := ⟨wx.heap.size + 1, 6, none⟩) (by show wx.heap.size ≠ wx.heap.size + 1; omega) (.slice Aj t.list.length cj)
              have hb28 := ((((((hb27.far (p := ⟨wx.heap.size + 1, 0, none⟩) (by show w.heap.size ≠ wx.heap.size + 1; omega) (.int .i64 (e.n : Int))).far (p := ⟨wx.heap.size + 1, 1, none⟩) (by show w.heap.size ≠ wx.heap.size + 1; omega) (.int .i64 e.exit)).far (p := ⟨wx.heap.size + 1, 2, none⟩) (by show w.heap.size ≠ wx.heap.size + 1; omega) (.slice e.A e.E.length e.c)).far (p := ⟨wx.heap.size + 1, 3, none⟩) (by show w.heap.size ≠ wx.heap.size + 1; omega) (.slice (some ⟨e.na, 0, none⟩) e.n e.n)).far (p := ⟨wx.heap.size + 1, 4, none⟩) (by show w.heap.size ≠ wx.heap.size + 1; omega) (.int .i64 (t.next : Int))).far (p := ⟨wx.heap.size + 1, 5, none⟩) (by show w.heap.size ≠ wx.heap.size + 1; omega) (.slice Ai t.stack.length ci)).far (p := ⟨wx.heap.size + 1, 6, none⟩) (by show w.heap.size ≠ wx.heap.size + 1; omega) (.slice Aj t.list.length cj)
              have hr28 := ((((((hr27.far (p := ⟨wx.heap.size + 1, 0, none⟩) (by show w.heap.size + 1 ≠ wx.heap.size + 1; omega) (.int .i64 (e.n : Int))).far (p := ⟨wx.heap.size + 1, 1, none⟩) (by show w.heap.size + 1 ≠ wx.heap.size + 1; omega) (.int .i64 e.exit)).far (p := ⟨wx.heap.size + 1, 2, none⟩) (by show w.heap.size + 1 ≠ wx.heap.size + 1; omega) (.slice e.A e.E.length e.c)).far (p := ⟨wx.heap.size + 1, 3, none⟩) (by show w.heap.size + 1 ≠ wx.heap.size + 1; omega) (.slice (some ⟨e.na, 0, none⟩) e.n e.n)).far (p := ⟨wx.heap.size + 1, 4, none⟩) (by show w.heap.size + 1 ≠ wx.heap.size + 1; omega) (.int .i64 (t.next : Int))).far (p := ⟨wx.heap.size + 1, 5, none⟩) (by show w.heap.size + 1 ≠ wx.heap.size + 1; omega) (.slice Ai t.stack.length ci)).far (p := ⟨wx.heap.size + 1, 6, none⟩) (by show w.heap.size + 1 ≠ wx.heap.size + 1; omega) (.slice Aj t.list.length cj)
              have hox28 : Only (fun b => b = e.na) wx _ := ((((Only.refl (fun b => b = e.na) wx).alloc (.cells #[.int .i64 (v : Int), .bool true, .slice none 0 0] 88)).alloc (.cells #[.int .i64 (e.n : Int), .int .i64 e.exit, .slice e.A e.E.length e.c, .slice (some ⟨e.na, 0, none⟩) e.n e.n, .int .i64 (st1.next : Int), (.slice Ax 0 cx), .slice none 0 0] 124)).trans ho27 (fun _ _ h => h)).trans hset (fun b hb h => by omega)
              have ho28 := (((HOX.out.alloc (.cells #[.int .i64 (v : Int), .bool true, .slice none 0 0] 88)).alloc (.cells #[.int .i64 (e.n : Int), .int .i64 e.exit, .slice e.A e.E.length e.c, .slice (some ⟨e.na, 0, none⟩) e.n e.n, .int .i64 (st1.next : Int), (.slice Ax 0 cx), .slice none 0 0] 124)).trans ho27 (fun _ _ h => h)).trans hset (fun b hb h => by omega)
              have hz28 : wx.heap.size + 2 ≤ _ := (by have h := ho27.size; rw [World.size_alloc, World.size_alloc] at h; exact Nat.le_trans h hset.size)
              clear hset hown27 hb27 hr27 hmx hs27 hin27 ho27 hba k0 k1 k2 k3 k4 k5 k6 kf q0 q1 q2 q3 q4 q5 q6 HIN
              revert hs28 hm28 hin28 hown28 hb28 hr28 hox28 ho28 hz28
              generalize ((((((w27.setCell ⟨wx.heap.size + 1, 0, none⟩ (.int .i64 (e.n : Int))).setCell ⟨wx.heap.size + 1, 1, none⟩ (.int .i64 e.exit)).setCell ⟨wx.heap.size + 1, 2, none⟩ (.slice e.A e.E.length e.c)).setCell ⟨wx.heap.size + 1, 3, none⟩ (.slice (some ⟨e.na, 0, none⟩) e.n e.n)).setCell ⟨wx.heap.size + 1, 4, none⟩ (.int .i64 (t.next : Int))).setCell ⟨wx.heap.size + 1, 5, none⟩ (.slice Ai t.stack.length ci)).setCell ⟨wx.heap.size + 1, 6, none⟩ (.slice Aj t.list.length cj) = w28
              intro hs28 hm28 hin28 hown28 hb28 hr28 hox28 ho28 hz28
              have i6 := hin28.cellAt (i := 6) rfl
              have i4 := hin28.cellAt (i := 4) rfl
              have o2 := hown28.cellAt (i := 2) rfl
              have o2f := hown28.frozen 2
              have b4 := hb28.cellAt (i := 4) rfl
              have b4f := hb28.frozen 4
              have hzz : w.heap.size ≠ wx.heap.size := by omega
              go_upto_region 30 with fail
              have hown29 := (hown28.set 2 (.slice Aj t.list.length cj)).far (p := ⟨w.heap.size, 4, none⟩) (by show wx.heap.size ≠ w.heap.size; omega) (.int .i64 (t.next : Int))
              have hb29 := (hb28.far (p := ⟨wx.heap.size, 2, none⟩) (by show w.heap.size ≠ wx.heap.size; omega) (.slice Aj t.list.length cj)).set 4 (.int .i64 (t.next : Int))
              have hr29 := (hr28.far (p := ⟨wx.heap.size, 2, none⟩) (by show w.heap.size + 1 ≠ wx.heap.size; omega) (.slice Aj t.list.length cj)).far (p := ⟨w.heap.size, 4, none⟩) (by show w.heap.size + 1 ≠ w.heap.size; omega) (.int .i64 (t.next : Int))
              have hon29 := ((Only.refl (fun b => b = w.heap.size ∨ b = wx.heap.size) w28).set (p := ⟨wx.heap.size, 2, none⟩) (fun _ => .inr rfl) (.slice Aj t.list.length cj)).set (p := ⟨w.heap.size, 4, none⟩) (fun _ => .inl rfl) (.int .i64 (t.next : Int))
              have hz29 := hon29.size
              clear i6 i4 o2 o2f b4 b4f
              revert hown29 hb29 hr29 hon29 hz29
              generalize (w28.setCell ⟨wx.heap.size, 2, none⟩ (.slice Aj t.list.length cj)).setCell ⟨w.heap.size, 4, none⟩ (.int .i64 (t.next : Int)) = w29
              intro hown29 hb29 hr29 hon29 hz29
              have hox29 : Only (fun b => b = e.na ∨ b = w.heap.size) wx w29 := (hox28.mono (fun b _ h => .inl h)).trans hon29 (fun b hb h => h.elim .inr (fun h => by omega))
              have hlist := HSX.out.ls
              obtain ⟨Ay, cy, hve, -, -, -, hsh⟩ := hlist.shape
              cases hve
              have hblk : 0 < st1.list.length → ∃ ad : Addr, Ar = some ad ∧ e.lb < ad.block ∧ Typed wx ad.block 88 := fun hp => by
                obtain ⟨ad, u, h1, h2, -⟩ := hsh 0 st1.list[0] (List.getElem?_eq_getElem hp)
                exact ⟨ad, h1, h2⟩
              obtain ⟨Ay, cy, us, hve, hul, hcu, hbu, hwu, hou⟩ := hlist.cells
              cases hve
              have hwb : Typed wx w.heap.size 124 := Typed.blk HBX.out
              have hlo := HSX.out.lo
              have hkeep : ∀ b, e.lb < b → Typed wx b 88 → ¬ (b = e.na ∨ b = w.heap.size) := fun b h1 h2 h => by
                rcases h with h | h
                · omega
                · exact h2.ne hwb (by decide) h
              obtain ⟨il, hil, hl0, hl1, hl2⟩ := info_parts info_rel
              have p0 := hown29.cellAt (i := 0) rfl
              have p1 := hown29.cellAt (i := 1) rfl
              have p2 := hown29.cellAt (i := 2) rfl
              have hba := hb29.alloc (.cells #[.int .i64 (v : Int), .bool true, .slice Aj t.list.length cj] 88)
              have hra := hr29.alloc (.cells #[.int .i64 (v : Int), .bool true, .slice Aj t.list.length cj] 88)
              have p6 := hba.cellAt (i := 6) rfl
              have hown1 := own_one (w := w29) (T := 88) (base := e.lb + 1) (m := 3) [.int .i64 (v : Int), .bool true, .slice Aj t.list.length cj] (by omega) rfl
              have hv0 : ∀ b, (Value.slice (some ⟨w29.heap.size, 0, none⟩) 1 1).ownBlock = some b → w29.heap.size ≤ b := fun b h => by cases h; exact Nat.le_refl _
              have hcatA : 0 < st1.list.length → ∃ ad, Ar = some ad ∧ ∀ j u, (elCells st1.list us)[j]? = some u → (w29.alloc (.cells #[.int .i64 (v : Int), .bool true, .slice Aj t.list.length cj] 88)).cell? (ad.add j) = some u := fun hp => by
                obtain ⟨ad, h1, h2⟩ := hcu hp
                obtain ⟨ad', h3, h4, h5⟩ := hblk hp
                rw [h1] at h3
                cases h3
                refine ⟨ad, h1, fun j u hj => ?_⟩
                have h6 := World.cell?_of_block (a := ad.add j) (hox29.block (ad.add j).block (by rw [block_add]; exact h5.lt) (by rw [block_add]; exact hkeep _ h4 h5))
                have h7 := h6.trans (h2 j u hj)
                simp [World.cell?_alloc_some, h7]
              have HCA := Lib.hid hcatA
              have HOW := Lib.hid hown1
              have HOU := Lib.hid hou
              have HBA := Lib.hid hba
              have HRA := Lib.hid hra
              have HUL := Lib.hid hul
              have hww : w.heap.size + 1 < w29.heap.size := by omega
              clear hcu hcatA hown1 hou hba hra hul hblk hsh
              go_wp2_with (at_builtin; refine wpList_append_cat rfl (.tmp 131) (.tmp 133) 31 rfl (e.lb + 1) 88 il (.agg #[.int .i64 0, .bool false, .slice none 0 0]) 3 40 Tryd.underlying31 hil hl0 hl1 hl2 rfl (by decide) _ 1 _ rfl HOW.out Ar st1.list.length ckl (elCells st1.list us) rfl (elCells_length _ _ HUL.out) HCA.out (elCells_one _ _ HOU.out) (by unfold maxLen; omega) (by omega) (by rw [World.size_alloc]; omega) ?_; intro v12 w12 hown12 hgr12 hat12; have hv12 := fresh_row (N := w29.heap.size) hv0 hat12 (by rw [World.size_alloc]; omega); have hb12 := blk_past HBA.out hgr12 hv0 (by omega); have f12 := hb12.frozen 6; have p12 := hb12.cellAt (i := 6) rfl; have k0 := hb12.cellAt (i := 0) rfl; have k1 := hb12.cellAt (i := 1) rfl; have k2 := hb12.cellAt (i := 2) rfl; have k3 := hb12.cellAt (i := 3) rfl; have k4 := hb12.cellAt (i := 4) rfl; have k5 := hb12.cellAt (i := 5) rfl; have hr12 := blk_past HRA.out hgr12 hv0 hww; have rf := fun i => hr12.frozen i; have r0 := hr12.cellAt (i := 0) rfl; have r1 := hr12.cellAt (i := 1) rfl; have r2 := hr12.cellAt (i := 2) rfl; have r3 := hr12.cellAt (i := 3) rfl; have r4 := hr12.cellAt (i := 4) rfl; have r5 := hr12.cellAt (i := 5) rfl; have r6 := hr12.cellAt (i := 6) rfl; obtain ⟨A12, c12, rfl⟩ := own_slice hown12)
              have ho912 : Only (fun _ => False) w29 w12 := ((Only.refl (fun _ => False) w29).alloc (.cells #[.int .i64 (v : Int), .bool true, .slice Aj t.list.length cj] 88)).trans (Only.of_grown (S := fun b => w29.heap.size ≤ b) hgr12 hv0) (fun b hb h => by omega)
              have hox12 : Only (fun b => b = e.na ∨ b = w.heap.size) wx w12 := hox29.trans ho912 (fun _ _ f => f.elim)
              have ho812 : Only (fun b => b = w.heap.size ∨ b = wx.heap.size) w28 w12 := hon29.trans ho912 (fun _ _ f => f.elim)
              have hown13 : w12.ownsRow (e.lb + 1) 88 3 (.slice A12 (1 + st1.list.length) c12) (st1.list.length + 1) ([.int .i64 (El.mk (v : Int) true t.list).p, .bool (El.mk (v : Int) true t.list).c, .slice Aj t.list.length cj] ++ elCells st1.list us) := by rw [Nat.add_comm st1.list.length 1]; exact hown12
              have hels : Els (fun b => e.lb < b ∧ Typed w12 b 88) w12 (.slice A12 (1 + st1.list.length) c12) (El.mk (v : Int) true t.list :: st1.list) := by
                refine els_cons2 (Q := fun b => e.lb < b ∧ Typed w12 b 88 ∧ b < w29.heap.size) HUL.out (fun j u x hu hx => ?_) hwu ?_ ⟨by show _ ≤ (v : Int); omega, by show (v : Int) ≤ _; omega⟩ hown13 (fun b hb => ⟨hb.1, hb.2.1, fun he => by have := hv12 b he; have := hb.2.2; omega⟩) (by omega)
                · exact ((hbu j u x hu hx).only hox12 (fun b hb => ⟨hb.2.lt, hkeep b hb.1 hb.2⟩)).mono (fun b hb => ⟨hb.1, hb.2.only hox12 (hkeep b hb.1 hb.2), by have := hb.2.lt; omega⟩)
                · exact (hs28.ls.only ho812 (fun b hb => ⟨hb.2.lt, fun h => by have h1 : wx.heap.size + 1 < b := hb.1; omega⟩)).mono (fun b hb => by
                    have h1 : wx.heap.size + 1 < b := hb.1
                    exact ⟨by omega, hb.2.only ho812 (fun h => by omega), by have := hb.2.lt; omega⟩)
              have hs13 := (hm28.build ho812 (fun b hb h => by omega) (fun b hb ht h => by
                rcases h with h | h
                · exact ht.ne (Typed.blk hb28) (by decide) h
                · exact ht.ne (Typed.blk hown28) (by decide) h) hels).loc hb12 (by decide) (by decide) hna ((Only.refl (fun b => b = w.heap.size) w12).set (p := ⟨w.heap.size, 6, none⟩) (fun _ => rfl) (.slice A12 (1 + st1.list.length) c12))
              have hr13 := hr12.far (p := ⟨w.heap.size, 6, none⟩) (by show w.heap.size + 1 ≠ w.heap.size; omega) (.slice A12 (1 + st1.list.length) c12)
              have ho13 := (ho28.trans ho812 (fun b hb h => by omega)).set (p := ⟨w.heap.size, 6, none⟩) (fun h => absurd h (Nat.lt_irrefl _)) (.slice A12 (1 + st1.list.length) c12)
              revert hs13 hr13 ho13
              generalize w12.setCell ⟨w.heap.size, 6, none⟩ (.slice A12 (1 + st1.list.length) c12) = w13
              intro hs13 hr13 ho13
              have hb14 := ((((((hr13.set 0 (.int .i64 (e.n : Int))).set 1 (.int .i64 e.exit)).set 2 (.slice e.A e.E.length e.c)).set 3 (.slice (some ⟨e.na, 0, none⟩) e.n e.n)).set 4 (.int .i64 (t.next : Int))).set 5 (.slice Ax 0 cx)).set 6 (.slice A12 (1 + st1.list.length) c12)
              have ho14 : Only (fun b => b = w.heap.size + 1) w13 _ := (((((((Only.refl (fun b => b = w.heap.size + 1) w13).set (p := ⟨w.heap.size + 1, 0, none⟩) (fun _ => rfl) (.int .i64 (e.n : Int))).set (p := ⟨w.heap.size + 1, 1, none⟩) (fun _ => rfl) (.int .i64 e.exit)).set (p := ⟨w.heap.size + 1, 2, none⟩) (fun _ => rfl) (.slice e.A e.E.length e.c)).set (p := ⟨w.heap.size + 1, 3, none⟩) (fun _ => rfl) (.slice (some ⟨e.na, 0, none⟩) e.n e.n)).set (p := ⟨w.heap.size + 1, 4, none⟩) (fun _ => rfl) (.int .i64 (t.next : Int))).set (p := ⟨w.heap.size + 1, 5, none⟩) (fun _ => rfl) (.slice Ax 0 cx)).set (p := ⟨w.heap.size + 1, 6, none⟩) (fun _ => rfl) (.slice A12 (1 + st1.list.length) c12)
              have y0 := hb14.cellAt (i := 0) rfl
              have y1 := hb14.cellAt (i := 1) rfl
              have y2 := hb14.cellAt (i := 2) rfl
              have y3 := hb14.cellAt (i := 3) rfl
              have y4 := hb14.cellAt (i := 4) rfl
              have y5 := hb14.cellAt (i := 5) rfl
              have y6 := hb14.cellAt (i := 6) rfl
              refine bodyPost_ret (v := .tuple #[.agg #[.int .i64 (e.n : Int), .int .i64 e.exit, .slice e.A e.E.length e.c, .slice (some ⟨e.na, 0, none⟩) e.n e.n, .int .i64 (t.next : Int), (.slice Ax 0 cx), .slice A12 (1 + st1.list.length) c12], .int .i64 sh]) (by simp [results, Tryd.results62, go_sem, y0, y1, y2, y3, y4, y5, y6]) rfl ⟨_, _, rfl, hs13.loc hr13 (by decide) (by decide) (by omega) ho14, ho13.trans ho14 (fun b hb h => by omega)⟩
          | cons x rs =>
            have hlen : (x :: rs).reverse.length = rs.length + 1 := by simp
            have hst := hs.st
            simp only at hst
            rw [hlen] at hst
            obtain ⟨gs, cs', rfl, hsc, hscm⟩ := ownsRow_pos hst (by omega)
            have d1 : wr.cell? ⟨gs, rs.length, none⟩ = some (.int .i64 (x : Int)) := (by rw [← add_none]; exact hst.cells (g := gs) rfl rs.length (natV x) (by rw [List.getElem?_map, List.reverse_cons, List.getElem?_append_right (by simp), List.length_reverse, Nat.sub_self]; rfl))
            have hxn : x < e.n := hs.sl x (by simp)
            have hst2 : wr.ownsRow (e.na + 1) 3 1 (.slice (some ⟨gs, 0, none⟩) rs.length cs') rs.reverse.length (rs.reverse.map natV) := by
              have h1 := ownsRow_take hst (k := rs.length) (by omega)
              rw [← List.map_take, List.reverse_cons, List.take_left' (by simp)] at h1
              rw [List.length_reverse]
              exact h1
            have hs2 := hs.put hst2 (fun y hy => hs.sl y (by simp at hy ⊢; exact .inl hy))
            have q5 := hb.cellAt (i := 5) rfl
            have f5 := hb.frozen 5
            have q3 := hb.cellAt (i := 3) rfl
            have hnum := hs.num hxn
            have hnf := hs.a.frozen x
            have hxn1 : (x : Int) < (e.n : Int) := by omega
            unfold maxLen at hscm
            have hl1 : (rs.length : Int) + 1 ≤ 9223372036854775807 := by omega
            have hl2 : (rs.length : Int) ≤ (cs' : Int) := by omega
            have hl3 : ¬ (cs' = 0) := by omega
            have hs3 := hs2.loc hb (by decide) (by decide) hna ((Only.refl (fun b => b = w.heap.size) wr).set (p := ⟨w.heap.size, 5, none⟩) (fun _ => rfl) (.slice (some ⟨gs, 0, none⟩) rs.length cs'))
            have hb3 := hb.set 5 (.slice (some ⟨gs, 0, none⟩) rs.length cs')
            have hr3 := hr.far (p := ⟨w.heap.size, 5, none⟩) (by show w.heap.size + 1 ≠ w.heap.size; omega) (.slice (some ⟨gs, 0, none⟩) rs.length cs')
            have ho3 := ho.set (p := ⟨w.heap.size, 5, none⟩) (fun h => absurd h (Nat.lt_irrefl _)) (.slice (some ⟨gs, 0, none⟩) rs.length cs')
            rw [popR_cons] at hpp
            have HPP := Lib.hid hpp
            have HS3 := Lib.hid hs3
            have HB3 := Lib.hid hb3
            have HR3 := Lib.hid hr3
            have HO3 := Lib.hid ho3
            clear hpp hs hs2 hs3 hb hb3 hr hr3 ho ho3 hst hst2 hlen
            by_cases hxv : x = v
            · obtain rfl : v = x := hxv.symm
              go_upto_region 23 with fail
              have hpx : (nums, rs) = popR v (st1.nums.set v doneR) st1.stack.reverse := by have h := HPP.out; rw [if_pos rfl] at h; exact h
              have HPX := Lib.hid hpx
              revert HS3 HB3 HR3 HO3
              generalize wr.setCell ⟨w.heap.size, 5, none⟩ (.slice (some ⟨gs, 0, none⟩) rs.length cs') = wx
              intro HBX HRX HOX HSX
              clear hpx HPP d1 q5 f5 q3 hnum hnf
              have hn512 := HOK.out.n512
              have hle := HLE2.out
              rw [← HPX.out] at hle
              simp only at hle
              cases sp with
              | false =>
                rw [if_pos rfl] at hle
                unfold consR at hle
                have hgd : st1.list.length < 1000000 ∧ (El.mk (v : Int) false []).body.length < 1000000 := Classical.byContradiction fun hn => by rw [if_neg hn] at hle; cases hle
                rw [if_pos hgd] at hle
                obtain rfl := Option.some.inj hle
                have hsl1 : st1.list.length < 1000000 := hgd.1
                obtain ⟨Ay, cy, us, hve, hul, hcu, hbu, hwu, hou⟩ := HSX.out.ls.cells
                cases hve
                obtain ⟨il, hil, hl0, hl1, hl2⟩ := info_parts info_rel
                have hwx := HRX.out.lt
                have hlbx := HSX.out.hi
                have hba := (HBX.out.alloc (.cells #[.int .i64 (v : Int), .bool false, .slice none 0 0] 88)).alloc (.cells #[.int .i64 (v : Int), .bool false, .slice none 0 0] 88)
                have p6 := hba.cellAt (i := 6) rfl
                have hown1 := own_one (w := wx.alloc (.cells #[.int .i64 (v : Int), .bool false, .slice none 0 0] 88)) (T := 88) (base := e.lb + 1) (m := 3) [.int .i64 (v : Int), .bool false, .slice none 0 0] (by rw [World.size_alloc]; omega) rfl
                rw [World.size_alloc] at hown1
                have hv0 : ∀ b, (Value.slice (some ⟨wx.heap.size + 1, 0, none⟩) 1 1).ownBlock = some b → wx.heap.size ≤ b := fun b h => by cases h; exact Nat.le_succ _
                have hcatA : 0 < st1.list.length → ∃ ad, Ar = some ad ∧ ∀ j u, (elCells st1.list us)[j]? = some u → ((wx.alloc (.cells #[.int .i64 (v : Int), .bool false, .slice none 0 0] 88)).alloc (.cells #[.int .i64 (v : Int), .bool false, .slice none 0 0] 88)).cell? (ad.add j) = some u := fun hp => by
                  obtain ⟨ad, h1, h2⟩ := hcu hp
                  exact ⟨ad, h1, fun j u hj => by simp [World.cell?_alloc_some, h2 j u hj]⟩
                have hra := (HRX.out.alloc (.cells #[.int .i64 (v : Int), .bool false, .slice none 0 0] 88)).alloc (.cells #[.int .i64 (v : Int), .bool false, .slice none 0 0] 88)
                have HRA := Lib.hid hra
                clear hra
                have HCA := Lib.hid hcatA
                have HOW := Lib.hid hown1
                have HOU := Lib.hid hou
                have HBA := Lib.hid hba
                have HUL := Lib.hid hul
                clear hle hcu hcatA hown1 hou hba hul
                go_wp2_with (at_builtin; refine wpList_append_cat rfl (.tmp 131) (.tmp 133) 31 rfl (e.lb + 1) 88 il (.agg #[.int .i64 0, .bool false, .slice none 0 0]) 3 40 Tryd.underlying31 hil hl0 hl1 hl2 rfl (by decide) _ 1 _ rfl HOW.out Ar st1.list.length ckl (elCells st1.list us) rfl (elCells_length _ _ HUL.out) HCA.out (elCells_one _ _ HOU.out) (by unfold maxLen; omega) (by omega) (by rw [World.size_alloc, World.size_alloc]; omega) ?_; intro v12 w12 hown12 hgr12 hat12; have hv12 := fresh_row (N := wx.heap.size) hv0 hat12 (by rw [World.size_alloc, World.size_alloc]; omega); have hb12 := blk_past HBA.out hgr12 hv0 (by omega); have f12 := hb12.frozen 6; have p12 := hb12.cellAt (i := 6) rfl; have k0 := hb12.cellAt (i := 0) rfl; have k1 := hb12.cellAt (i := 1) rfl; have k2 := hb12.cellAt (i := 2) rfl; have k3 := hb12.cellAt (i := 3) rfl; have k4 := hb12.cellAt (i := 4) rfl; have k5 := hb12.cellAt (i := 5) rfl; have hr12 := blk_past HRA.out hgr12 hv0 (by omega); have rf := fun i => hr12.frozen i; have r0 := hr12.cellAt (i := 0) rfl; have r1 := hr12.cellAt (i := 1) rfl; have r2 := hr12.cellAt (i := 2) rfl; have r3 := hr12.cellAt (i := 3) rfl; have r4 := hr12.cellAt (i := 4) rfl; have r5 := hr12.cellAt (i := 5) rfl; have r6 := hr12.cellAt (i := 6) rfl; obtain ⟨A12, c12, rfl⟩ := own_slice hown12)
                have ho12 : Only (fun _ => False) wx w12 := (((Only.refl (fun _ => False) wx).alloc (.cells #[.int .i64 (v : Int), .bool false, .slice none 0 0] 88)).alloc (.cells #[.int .i64 (v : Int), .bool false, .slice none 0 0] 88)).trans (Only.of_grown (S := fun b => wx.heap.size ≤ b) hgr12 hv0) (fun b hb h => by omega)
                have hown13 : w12.ownsRow (e.lb + 1) 88 3 (.slice A12 (1 + st1.list.length) c12) (st1.list.length + 1) ([.int .i64 (El.mk (v : Int) false []).p, .bool (El.mk (v : Int) false []).c, .slice none 0 0] ++ elCells st1.list us) := by rw [Nat.add_comm st1.list.length 1]; exact hown12
                have hels := els_cons (x := El.mk (v : Int) false []) HUL.out hbu hwu Els.nil ⟨by show _ ≤ (v : Int); omega, by show (v : Int) ≤ _; omega⟩ ho12 hown13 hv12 (by omega)
                have hs12 := HSX.out.still ho12
                have hs13 := (RS.list hs12 hels).loc hb12 (by decide) (by decide) hna ((Only.refl (fun b => b = w.heap.size) w12).set (p := ⟨w.heap.size, 6, none⟩) (fun _ => rfl) (.slice A12 (1 + st1.list.length) c12))
                have hr13 := hr12.far (p := ⟨w.heap.size, 6, none⟩) (by show w.heap.size + 1 ≠ w.heap.size; omega) (.slice A12 (1 + st1.list.length) c12)
                have ho13 := (HOX.out.trans ho12 (fun _ _ f => f.elim)).set (p := ⟨w.heap.size, 6, none⟩) (fun h => absurd h (Nat.lt_irrefl _)) (.slice A12 (1 + st1.list.length) c12)
                revert hs13 hr13 ho13
                generalize w12.setCell ⟨w.heap.size, 6, none⟩ (.slice A12 (1 + st1.list.length) c12) = w13
                intro hs13 hr13 ho13
                have hb14 := ((((((hr13.set 0 (.int .i64 (e.n : Int))).set 1 (.int .i64 e.exit)).set 2 (.slice e.A e.E.length e.c)).set 3 (.slice (some ⟨e.na, 0, none⟩) e.n e.n)).set 4 (.int .i64 (st1.next : Int))).set 5 (.slice (some ⟨gs, 0, none⟩) rs.length cs')).set 6 (.slice A12 (1 + st1.list.length) c12)
                have ho14 : Only (fun b => b = w.heap.size + 1) w13 _ := (((((((Only.refl (fun b => b = w.heap.size + 1) w13).set (p := ⟨w.heap.size + 1, 0, none⟩) (fun _ => rfl) (.int .i64 (e.n : Int))).set (p := ⟨w.heap.size + 1, 1, none⟩) (fun _ => rfl) (.int .i64 e.exit)).set (p := ⟨w.heap.size + 1, 2, none⟩) (fun _ => rfl) (.slice e.A e.E.length e.c)).set (p := ⟨w.heap.size + 1, 3, none⟩) (fun _ => rfl) (.slice (some ⟨e.na, 0, none⟩) e.n e.n)).set (p := ⟨w.heap.size + 1, 4, none⟩) (fun _ => rfl) (.int .i64 (st1.next : Int))).set (p := ⟨w.heap.size + 1, 5, none⟩) (fun _ => rfl) (.slice (some ⟨gs, 0, none⟩) rs.length cs')).set (p := ⟨w.heap.size + 1, 6, none⟩) (fun _ => rfl) (.slice A12 (1 + st1.list.length) c12)
                have y0 := hb14.cellAt (i := 0) rfl
                have y1 := hb14.cellAt (i := 1) rfl
                have y2 := hb14.cellAt (i := 2) rfl
                have y3 := hb14.cellAt (i := 3) rfl
                have y4 := hb14.cellAt (i := 4) rfl
                have y5 := hb14.cellAt (i := 5) rfl
                have y6 := hb14.cellAt (i := 6) rfl
                refine bodyPost_ret (v := .tuple #[.agg #[.int .i64 (e.n : Int), .int .i64 e.exit, .slice e.A e.E.length e.c, .slice (some ⟨e.na, 0, none⟩) e.n e.n, .int .i64 (st1.next : Int), (.slice (some ⟨gs, 0, none⟩) rs.length cs'), .slice A12 (1 + st1.list.length) c12], .int .i64 sh]) (by simp [results, Tryd.results62, go_sem, y0, y1, y2, y3, y4, y5, y6]) rfl ⟨_, _, rfl, hs13.loc hr13 (by decide) (by decide) (by omega) ho14, ho13.trans ho14 (fun b hb h => by omega)⟩
              | true =>
                rw [if_neg (by decide)] at hle
                obtain ⟨t, ht, hle⟩ := Option.bind_eq_some_iff.1 hle
                unfold consR at hle
                have hgd : st1.list.length < 1000000 ∧ (El.mk (v : Int) true t.list).body.length < 1000000 := Classical.byContradiction fun hn => by simp only at hle; rw [if_neg hn] at hle; cases hle
                simp only at hle
                rw [if_pos hgd] at hle
                obtain rfl := Option.some.inj hle
                have hsl1 : st1.list.length < 1000000 := hgd.1
                have hsl2 : t.list.length < 1000000 := hgd.2
                have hwx := HRX.out.lt
                have hlbx := HSX.out.hi
                have hba := HBX.out.alloc (.cells #[.int .i64 (v : Int), .bool true, .slice none 0 0] 88)
                have q0 := hba.cellAt (i := 0) rfl
                have q1 := hba.cellAt (i := 1) rfl
                have q2 := hba.cellAt (i := 2) rfl
                have q3 := hba.cellAt (i := 3) rfl
                have q4 := hba.cellAt (i := 4) rfl
                have q5 := hba.cellAt (i := 5) rfl
                have q6 := hba.cellAt (i := 6) rfl
                have hsin := ((HSX.out.alloc (.cells #[.int .i64 (v : Int), .bool true, .slice none 0 0] 88)).alloc (.cells #[.int .i64 (e.n : Int), .int .i64 e.exit, .slice e.A e.E.length e.c, .slice (some ⟨e.na, 0, none⟩) e.n e.n, .int .i64 (st1.next : Int), (.slice (some ⟨gs, 0, none⟩) rs.length cs'), .slice none 0 0] 124)).relb (wx.heap.size + 1) (by omega) (by rw [World.size_alloc, World.size_alloc]; omega)
                have hok2 : REnv.Ok { e with lb := wx.heap.size + 1 } := ⟨HOK.out.n512, HOK.out.lE, HOK.out.lt⟩
                have hin := inside_any { e with lb := wx.heap.size + 1 } hok2 k (HIA.out _ hok2) _ _ _ _ v t hsin ht
                unfold REnv.val at hin
                simp only at hin
                have HIN := Lib.hid hin
                clear hin hsin hle ht
                go_upto_region 28 with (go_at_call 75; refine HIN.out.mono ?_; rintro en w27 ⟨ski, lki, rfl, hs27, ho27⟩; obtain ⟨Ai, ci, rfl⟩ := own_slice hs27.st; obtain ⟨Aj, cj, rfl, -⟩ := hs27.ls.shape; have hin27 := (Blk.newAt (N := wx.heap.size + 1) (wx.alloc (.cells #[.int .i64 (v : Int), .bool true, .slice none 0 0] 88)) 124 #[.int .i64 (e.n : Int), .int .i64 e.exit, .slice e.A e.E.length e.c, .slice (some ⟨e.na, 0, none⟩) e.n e.n, .int .i64 (st1.next : Int), (.slice (some ⟨gs, 0, none⟩) rs.length cs'), .slice none 0 0] (by simp)).only ho27 (by omega); have k0 := hin27.cellAt (i := 0) rfl; have k1 := hin27.cellAt (i := 1) rfl; have k2 := hin27.cellAt (i := 2) rfl; have k3 := hin27.cellAt (i := 3) rfl; have k4 := hin27.cellAt (i := 4) rfl; have k5 := hin27.cellAt (i := 5) rfl; have k6 := hin27.cellAt (i := 6) rfl; have kf := fun i => hin27.frozen i)
                have hown27 := ((Blk.newAt (N := wx.heap.size) wx 88 #[.int .i64 (v : Int), .bool true, .slice none 0 0] rfl).alloc (.cells #[.int .i64 (e.n : Int), .int .i64 e.exit, .slice e.A e.E.length e.c, .slice (some ⟨e.na, 0, none⟩) e.n e.n, .int .i64 (st1.next : Int), (.slice (some ⟨gs, 0, none⟩) rs.length cs'), .slice none 0 0] 124)).only ho27 (by omega)
                have hb27 := (hba.alloc (.cells #[.int .i64 (e.n : Int), .int .i64 e.exit, .slice e.A e.E.length e.c, .slice (some ⟨e.na, 0, none⟩) e.n e.n, .int .i64 (st1.next : Int), (.slice (some ⟨gs, 0, none⟩) rs.length cs'), .slice none 0 0] 124)).only ho27 (by omega)
                have hr27 := ((HRX.out.alloc (.cells #[.int .i64 (v : Int), .bool true, .slice none 0 0] 88)).alloc (.cells #[.int .i64 (e.n : Int), .int .i64 e.exit, .slice e.A e.E.length e.c, .slice (some ⟨e.na, 0, none⟩) e.n e.n, .int .i64 (st1.next : Int), (.slice (some ⟨gs, 0, none⟩) rs.length cs'), .slice none 0 0] 124)).only ho27 (by omega)
                have hmx := ((HSX.out.alloc (.cells #[.int .i64 (v : Int), .bool true, .slice none 0 0] 88)).alloc (.cells #[.int .i64 (e.n : Int), .int .i64 e.exit, .slice e.A e.E.length e.c, .slice (some ⟨e.na, 0, none⟩) e.n e.n, .int .i64 (st1.next : Int), (.slice (some ⟨gs, 0, none⟩) rs.length cs'), .slice none 0 0] 124)).mix ho27 hs27
                have hset : Only (fun b => b = wx.heap.size + 1) w27 _ := (((((((Only.refl (fun b => b = wx.heap.size + 1) w27).set (p := ⟨wx.heap.size + 1, 0, none⟩) (fun _ => rfl) (.int .i64 (e.n : Int))).set (p := ⟨wx.heap.size + 1, 1, none⟩) (fun _ => rfl) (.int .i64 e.exit)).set (p := ⟨wx.heap.size + 1, 2, none⟩) (fun _ => rfl) (.slice e.A e.E.length e.c)).set (p := ⟨wx.heap.size + 1, 3, none⟩) (fun _ => rfl) (.slice (some ⟨e.na, 0, none⟩) e.n e.n)).set (p := ⟨wx.heap.size + 1, 4, none⟩) (fun _ => rfl) (.int .i64 (t.next : Int))).set (p := ⟨wx.heap.size + 1, 5, none⟩) (fun _ => rfl) (.slice Ai t.stack.length ci)).set (p := ⟨wx.heap.size + 1, 6, none⟩) (fun _ => rfl) (.slice Aj t.list.length cj)
                have hs28 := hs27.loc hin27 (by decide) (by decide) (show e.na < wx.heap.size + 1 by omega) hset
                have hm28 := hmx.loc hin27 (by decide) (by decide) (by omega) hset
                have hin28 := ((((((hin27.set 0 (.int .i64 (e.n : Int))).set 1 (.int .i64 e.exit)).set 2 (.slice e.A e.E.length e.c)).set 3 (.slice (some ⟨e.na, 0, none⟩) e.n e.n)).set 4 (.int .i64 (t.next : Int))).set 5 (.slice Ai t.stack.length ci)).set 6 (.slice Aj t.list.length cj)
                have hown28 := ((((((hown27.far (p := ⟨wx.heap.size + 1, 0, none⟩) (by show wx.heap.size ≠ wx.heap.size + 1; omega) (.int .i64 (e.n : Int))).far (p := ⟨wx.heap.size + 1, 1, none⟩) (by show wx.heap.size ≠ wx.heap.size + 1; omega) (.int .i64 e.exit)).far (p := ⟨wx.heap.size + 1, 2, none⟩) (by show wx.heap.size ≠ wx.heap.size + 1; omega) (.slice e.A e.E.length e.c)).far (p := ⟨wx.heap.size + 1, 3, none⟩) (by show wx.heap.size ≠ wx.heap.size + 1; omega) (.slice (some ⟨e.na, 0, none⟩) e.n e.n)).far (p := ⟨wx.heap.size + 1, 4, none⟩) (by show wx.heap.size ≠ wx.heap.size + 1; omega) (.int .i64 (t.next : Int))).far (p := ⟨wx.heap.size + 1, 5, none⟩) (by show wx.heap.size ≠ wx.heap.size + 1; omega) (.slice Ai t.stack.length ci)).far (p := ⟨wx.heap.size + 1, 6, none⟩) (by show wx.heap.size ≠ wx.heap.size + 1; omega) (.slice Aj t.list.length cj)
                have hb28 := ((((((hb27.far (p := ⟨wx.heap.size + 1, 0, none⟩) (by show w.heap.size ≠ wx.heap.size + 1; omega) (.int .i64 (e.n : Int))).far (p := ⟨wx.heap.size + 1, 1, none⟩) (by show w.heap.size ≠ wx.heap.size + 1; omega) (.int .i64 e.exit)).far (p := ⟨wx.heap.size + 1, 2, none⟩) (by show w.heap.size ≠ wx.heap.size + 1; omega) (.slice e.A e.E.length e.c)).far (p := ⟨wx.heap.size + 1, 3, none⟩) (by show w.heap.size ≠ wx.heap.size + 1; omega) (.slice (some ⟨e.na, 0, none⟩) e.n e.n)).far (p := ⟨wx.heap.size + 1, 4, none⟩) (by show w.heap.size ≠ wx.heap.size + 1; omega) (.int .i64 (t.next : Int))).far (p := ⟨wx.heap.size + 1, 5, none⟩) (by show w.heap.size ≠ wx.heap.size + 1; omega) (.slice Ai t.stack.length ci)).far (p := ⟨wx.heap.size + 1, 6, none⟩) (by show w.heap.size ≠ wx.heap.size + 1; omega) (.slice Aj t.list.length cj)
                have hr28 := ((((((hr27.far (p := ⟨wx.heap.size + 1, 0, none⟩) (by show w.heap.size + 1 ≠ wx.heap.size + 1; omega) (.int .i64 (e.n : Int))).far (p := ⟨wx.heap.size + 1, 1, none⟩) (by show w.heap.size + 1 ≠ wx.heap.size + 1; omega) (.int .i64 e.exit)).far (p := ⟨wx.heap.size + 1, 2, none⟩) (by show w.heap.size + 1 ≠ wx.heap.size + 1; omega) (.slice e.A e.E.length e.c)).far (p := ⟨wx.heap.size + 1, 3, none⟩) (by show w.heap.size + 1 ≠ wx.heap.size + 1; omega) (.slice (some ⟨e.na, 0, none⟩) e.n e.n)).far (p := ⟨wx.heap.size + 1, 4, none⟩) (by show w.heap.size + 1 ≠ wx.heap.size + 1; omega) (.int .i64 (t.next : Int))).far (p := ⟨wx.heap.size + 1, 5, none⟩) (by show w.heap.size + 1 ≠ wx.heap.size + 1; omega) (.slice Ai t.stack.length ci)).far (p := ⟨wx.heap.size + 1, 6, none⟩) (by show w.heap.size + 1 ≠ wx.heap.size + 1; omega) (.slice Aj t.list.length cj)
                have hox28 : Only (fun b => b = e.na) wx _ := ((((Only.refl (fun b => b = e.na) wx).alloc (.cells #[.int .i64 (v : Int), .bool true, .slice none 0 0] 88)).alloc (.cells #[.int .i64 (e.n : Int), .int .i64 e.exit, .slice e.A e.E.length e.c, .slice (some ⟨e.na, 0, none⟩) e.n e.n, .int .i64 (st1.next : Int), (.slice (some ⟨gs, 0, none⟩) rs.length cs'), .slice none 0 0] 124)).trans ho27 (fun _ _ h => h)).trans hset (fun b hb h => by omega)
                have ho28 := (((HOX.out.alloc (.cells #[.int .i64 (v : Int), .bool true, .slice none 0 0] 88)).alloc (.cells #[.int .i64 (e.n : Int), .int .i64 e.exit, .slice e.A e.E.length e.c, .slice (some ⟨e.na, 0, none⟩) e.n e.n, .int .i64 (st1.next : Int), (.slice (some ⟨gs, 0, none⟩) rs.length cs'), .slice none 0 0] 124)).trans ho27 (fun _ _ h => h)).trans hset (fun b hb h => by omega)
                have hz28 : wx.heap.size + 2 ≤ _ := (by have h := ho27.size; rw [World.size_alloc, World.size_alloc] at h; exact Nat.le_trans h hset.size)
                clear hset hown27 hb27 hr27 hmx hs27 hin27 ho27 hba k0 k1 k2 k3 k4 k5 k6 kf q0 q1 q2 q3 q4 q5 q6 HIN
                revert hs28 hm28 hin28 hown28 hb28 hr28 hox28 ho28 hz28
                generalize ((((((w27.setCell ⟨wx.heap.size + 1, 0, none⟩ (.int .i64 (e.n : Int))).setCell ⟨wx.heap.size + 1, 1, none⟩ (.int .i64 e.exit)).setCell ⟨wx.heap.size + 1, 2, none⟩ (.slice e.A e.E.length e.c)).setCell ⟨wx.heap.size + 1, 3, none⟩ (.slice (some ⟨e.na, 0, none⟩) e.n e.n)).setCell ⟨wx.heap.size + 1, 4, none⟩ (.int .i64 (t.next : Int))).setCell ⟨wx.heap.size + 1, 5, none⟩ (.slice Ai t.stack.length ci)).setCell ⟨wx.heap.size + 1, 6, none⟩ (.slice Aj t.list.length cj) = w28
                intro hs28 hm28 hin28 hown28 hb28 hr28 hox28 ho28 hz28
                have i6 := hin28.cellAt (i := 6) rfl
                have i4 := hin28.cellAt (i := 4) rfl
                have o2 := hown28.cellAt (i := 2) rfl
                have o2f := hown28.frozen 2
                have b4 := hb28.cellAt (i := 4) rfl
                have b4f := hb28.frozen 4
                have hzz : w.heap.size ≠ wx.heap.size := by omega
                go_upto_region 30 with fail
                have hown29 := (hown28.set 2 (.slice Aj t.list.length cj)).far (p := ⟨w.heap.size, 4, none⟩) (by show wx.heap.size ≠ w.heap.size; omega) (.int .i64 (t.next : Int))
                have hb29 := (hb28.far (p := ⟨wx.heap.size, 2, none⟩) (by show w.heap.size ≠ wx.heap.size; omega) (.slice Aj t.list.length cj)).set 4 (.int .i64 (t.next : Int))
                have hr29 := (hr28.far (p := ⟨wx.heap.size, 2, none⟩) (by show w.heap.size + 1 ≠ wx.heap.size; omega) (.slice Aj t.list.length cj)).far (p := ⟨w.heap.size, 4, none⟩) (by show w.heap.size + 1 ≠ w.heap.size; omega) (.int .i64 (t.next : Int))
                have hon29 := ((Only.refl (fun b => b = w.heap.size ∨ b = wx.heap.size) w28).set (p := ⟨wx.heap.size, 2, none⟩) (fun _ => .inr rfl) (.slice Aj t.list.length cj)).set (p := ⟨w.heap.size, 4, none⟩) (fun _ => .inl rfl) (.int .i64 (t.next : Int))
                have hz29 := hon29.size
                clear i6 i4 o2 o2f b4 b4f
                revert hown29 hb29 hr29 hon29 hz29
                generalize (w28.setCell ⟨wx.heap.size, 2, none⟩ (.slice Aj t.list.length cj)).setCell ⟨w.heap.size, 4, none⟩ (.int .i64 (t.next : Int)) = w29
                intro hown29 hb29 hr29 hon29 hz29
                have hox29 : Only (fun b => b = e.na ∨ b = w.heap.size) wx w29 := (hox28.mono (fun b _ h => .inl h)).trans hon29 (fun b hb h => h.elim .inr (fun h => by omega))
                have hlist := HSX.out.ls
                obtain ⟨Ay, cy, hve, -, -, -, hsh⟩ := hlist.shape
                cases hve
                have hblk : 0 < st1.list.length → ∃ ad : Addr, Ar = some ad ∧ e.lb < ad.block ∧ Typed wx ad.block 88 := fun hp => by
                  obtain ⟨ad, u, h1, h2, -⟩ := hsh 0 st1.list[0] (List.getElem?_eq_getElem hp)
                  exact ⟨ad, h1, h2⟩
                obtain ⟨Ay, cy, us, hve, hul, hcu, hbu, hwu, hou⟩ := hlist.cells
                cases hve
                have hwb : Typed wx w.heap.size 124 := Typed.blk HBX.out
                have hlo := HSX.out.lo
                have hkeep : ∀ b, e.lb < b → Typed wx b 88 → ¬ (b = e.na ∨ b = w.heap.size) := fun b h1 h2 h => by
                  rcases h with h | h
                  · omega
                  · exact h2.ne hwb (by decide) h
                obtain ⟨il, hil, hl0, hl1, hl2⟩ := info_parts info_rel
                have p0 := hown29.cellAt (i := 0) rfl
                have p1 := hown29.cellAt (i := 1) rfl
                have p2 := hown29.cellAt (i := 2) rfl
                have hba := hb29.alloc (.cells #[.int .i64 (v : Int), .bool true, .slice Aj t.list.length cj] 88)
                have hra := hr29.alloc (.cells #[.int .i64 (v : Int), .bool true, .slice Aj t.list.length cj] 88)
                have p6 := hba.cellAt (i := 6) rfl
                have hown1 := own_one (w := w29) (T := 88) (base := e.lb + 1) (m := 3) [.int .i64 (v : Int), .bool true, .slice Aj t.list.length cj] (by omega) rfl
                have hv0 : ∀ b, (Value.slice (some ⟨w29.heap.size, 0, none⟩) 1 1).ownBlock = some b → w29.heap.size ≤ b := fun b h => by cases h; exact Nat.le_refl _
                have hcatA : 0 < st1.list.length → ∃ ad, Ar = some ad ∧ ∀ j u, (elCells st1.list us)[j]? = some u → (w29.alloc (.cells #[.int .i64 (v : Int), .bool true, .slice Aj t.list.length cj] 88)).cell? (ad.add j) = some u := fun hp => by
                  obtain ⟨ad, h1, h2⟩ := hcu hp
                  obtain ⟨ad', h3, h4, h5⟩ := hblk hp
                  rw [h1] at h3
                  cases h3
                  refine ⟨ad, h1, fun j u hj => ?_⟩
                  have h6 := World.cell?_of_block (a := ad.add j) (hox29.block (ad.add j).block (by rw [block_add]; exact h5.lt) (by rw [block_add]; exact hkeep _ h4 h5))
                  have h7 := h6.trans (h2 j u hj)
                  simp [World.cell?_alloc_some, h7]
                have HCA := Lib.hid hcatA
                have HOW := Lib.hid hown1
                have HOU := Lib.hid hou
                have HBA := Lib.hid hba
                have HRA := Lib.hid hra
                have HUL := Lib.hid hul
                have hww : w.heap.size + 1 < w29.heap.size := by omega
                clear hcu hcatA hown1 hou hba hra hul hblk hsh
                go_wp2_with (at_builtin; refine wpList_append_cat rfl (.tmp 131) (.tmp 133) 31 rfl (e.lb + 1) 88 il (.agg #[.int .i64 0, .bool false, .slice none 0 0]) 3 40 Tryd.underlying31 hil hl0 hl1 hl2 rfl (by decide) _ 1 _ rfl HOW.out Ar st1.list.length ckl (elCells st1.list us) rfl (elCells_length _ _ HUL.out) HCA.out (elCells_one _ _ HOU.out) (by unfold maxLen; omega) (by omega) (by rw [World.size_alloc]; omega) ?_; intro v12 w12 hown12 hgr12 hat12; have hv12 := fresh_row (N := w29.heap.size) hv0 hat12 (by rw [World.size_alloc]; omega); have hb12 := blk_past HBA.out hgr12 hv0 (by omega); have f12 := hb12.frozen 6; have p12 := hb12.cellAt (i := 6) rfl; have k0 := hb12.cellAt (i := 0) rfl; have k1 := hb12.cellAt (i := 1) rfl; have k2 := hb12.cellAt (i := 2) rfl; have k3 := hb12.cellAt (i := 3) rfl; have k4 := hb12.cellAt (i := 4) rfl; have k5 := hb12.cellAt (i := 5) rfl; have hr12 := blk_past HRA.out hgr12 hv0 hww; have rf := fun i => hr12.frozen i; have r0 := hr12.cellAt (i := 0) rfl; have r1 := hr12.cellAt (i := 1) rfl; have r2 := hr12.cellAt (i := 2) rfl; have r3 := hr12.cellAt (i := 3) rfl; have r4 := hr12.cellAt (i := 4) rfl; have r5 := hr12.cellAt (i := 5) rfl; have r6 := hr12.cellAt (i := 6) rfl; obtain ⟨A12, c12, rfl⟩ := own_slice hown12)
                have ho912 : Only (fun _ => False) w29 w12 := ((Only.refl (fun _ => False) w29).alloc (.cells #[.int .i64 (v : Int), .bool true, .slice Aj t.list.length cj] 88)).trans (Only.of_grown (S := fun b => w29.heap.size ≤ b) hgr12 hv0) (fun b hb h => by omega)
                have hox12 : Only (fun b => b = e.na ∨ b = w.heap.size) wx w12 := hox29.trans ho912 (fun _ _ f => f.elim)
                have ho812 : Only (fun b => b = w.heap.size ∨ b = wx.heap.size) w28 w12 := hon29.trans ho912 (fun _ _ f => f.elim)
                have hown13 : w12.ownsRow (e.lb + 1) 88 3 (.slice A12 (1 + st1.list.length) c12) (st1.list.length + 1) ([.int .i64 (El.mk (v : Int) true t.list).p, .bool (El.mk (v : Int) true t.list).c, .slice Aj t.list.length cj] ++ elCells st1.list us) := by rw [Nat.add_comm st1.list.length 1]; exact hown12
                have hels : Els (fun b => e.lb < b ∧ Typed w12 b 88) w12 (.slice A12 (1 + st1.list.length) c12) (El.mk (v : Int) true t.list :: st1.list) := by
                  refine els_cons2 (Q := fun b => e.lb < b ∧ Typed w12 b 88 ∧ b < w29.heap.size) HUL.out (fun j u x hu hx => ?_) hwu ?_ ⟨by show _ ≤ (v : Int); omega, by show (v : Int) ≤ _; omega⟩ hown13 (fun b hb => ⟨hb.1, hb.2.1, fun he => by have := hv12 b he; have := hb.2.2; omega⟩) (by omega)
                  · exact ((hbu j u x hu hx).only hox12 (fun b hb => ⟨hb.2.lt, hkeep b hb.1 hb.2⟩)).mono (fun b hb => ⟨hb.1, hb.2.only hox12 (hkeep b hb.1 hb.2), by have := hb.2.lt; omega⟩)
                  · exact (hs28.ls.only ho812 (fun b hb => ⟨hb.2.lt, fun h => by have h1 : wx.heap.size + 1 < b := hb.1; omega⟩)).mono (fun b hb => by
                      have h1 : wx.heap.size + 1 < b := hb.1
                      exact ⟨by omega, hb.2.only ho812 (fun h => by omega), by have := hb.2.lt; omega⟩)
                have hs13 := (hm28.build ho812 (fun b hb h => by omega) (fun b hb ht h => by
                  rcases h with h | h
                  · exact ht.ne (Typed.blk hb28) (by decide) h
                  · exact ht.ne (Typed.blk hown28) (by decide) h) hels).loc hb12 (by decide) (by decide) hna ((Only.refl (fun b => b = w.heap.size) w12).set (p := ⟨w.heap.size, 6, none⟩) (fun _ => rfl) (.slice A12 (1 + st1.list.length) c12))
                have hr13 := hr12.far (p := ⟨w.heap.size, 6, none⟩) (by show w.heap.size + 1 ≠ w.heap.size; omega) (.slice A12 (1 + st1.list.length) c12)
                have ho13 := (ho28.trans ho812 (fun b hb h => by omega)).set (p := ⟨w.heap.size, 6, none⟩) (fun h => absurd h (Nat.lt_irrefl _)) (.slice A12 (1 + st1.list.length) c12)
                revert hs13 hr13 ho13
                generalize w12.setCell ⟨w.heap.size, 6, none⟩ (.slice A12 (1 + st1.list.length) c12) = w13
                intro hs13 hr13 ho13
                have hb14 := ((((((hr13.set 0 (.int .i64 (e.n : Int))).set 1 (.int .i64 e.exit)).set 2 (.slice e.A e.E.length e.c)).set 3 (.slice (some ⟨e.na, 0, none⟩) e.n e.n)).set 4 (.int .i64 (t.next : Int))).set 5 (.slice (some ⟨gs, 0, none⟩) rs.length cs')).set 6 (.slice A12 (1 + st1.list.length) c12)
                have ho14 : Only (fun b => b = w.heap.size + 1) w13 _ := (((((((Only.refl (fun b => b = w.heap.size + 1) w13).set (p := ⟨w.heap.size + 1, 0, none⟩) (fun _ => rfl) (.int .i64 (e.n : Int))).set (p := ⟨w.heap.size + 1, 1, none⟩) (fun _ => rfl) (.int .i64 e.exit)).set (p := ⟨w.heap.size + 1, 2, none⟩) (fun _ => rfl) (.slice e.A e.E.length e.c)).set (p := ⟨w.heap.size + 1, 3, none⟩) (fun _ => rfl) (.slice (some ⟨e.na, 0, none⟩) e.n e.n)).set (p := ⟨w.heap.size + 1, 4, none⟩) (fun _ => rfl) (.int .i64 (t.next : Int))).set (p := ⟨w.heap.size + 1, 5, none⟩) (fun _ => rfl) (.slice (some ⟨gs, 0, none⟩) rs.length cs')).set (p := ⟨w.heap.size + 1, 6, none⟩) (fun _ => rfl) (.slice A12 (1 + st1.list.length) c12)
                have y0 := hb14.cellAt (i := 0) rfl
                have y1 := hb14.cellAt (i := 1) rfl
                have y2 := hb14.cellAt (i := 2) rfl
                have y3 := hb14.cellAt (i := 3) rfl
                have y4 := hb14.cellAt (i := 4) rfl
                have y5 := hb14.cellAt (i := 5) rfl
                have y6 := hb14.cellAt (i := 6) rfl
                refine bodyPost_ret (v := .tuple #[.agg #[.int .i64 (e.n : Int), .int .i64 e.exit, .slice e.A e.E.length e.c, .slice (some ⟨e.na, 0, none⟩) e.n e.n, .int .i64 (t.next : Int), (.slice (some ⟨gs, 0, none⟩) rs.length cs'), .slice A12 (1 + st1.list.length) c12], .int .i64 sh]) (by simp [results, Tryd.results62, go_sem, y0, y1, y2, y3, y4, y5, y6]) rfl ⟨_, _, rfl, hs13.loc hr13 (by decide) (by decide) (by omega) ho14, ho13.trans ho14 (fun b hb h => by omega)⟩
            · have hx1 : ((x : Int) == (v : Int)) = false := by rw [beq_eq_false_iff_ne]; omega
              have hx2 : (x == v) = false := by rw [beq_eq_false_iff_ne]; exact hxv
              have hx3 : decide ((x : Int) = (v : Int)) = false := by rw [decide_eq_false_iff_not]; omega
              have hx4 : decide (x = v) = false := by rw [decide_eq_false_iff_not]; exact hxv
              rw [if_neg hxv] at HPP
              have hs4 := HS3.out.setNum x 0
              have hb4 := HB3.out.far (p := ⟨e.na, x, none⟩) (by show w.heap.size ≠ e.na; omega) (.int .i64 0)
              have hr4 := HR3.out.far (p := ⟨e.na, x, none⟩) (by show w.heap.size + 1 ≠ e.na; omega) (.int .i64 0)
              have ho4 := HO3.out.set (p := ⟨e.na, x, none⟩) (fun _ => rfl) (.int .i64 0)
              have k5 := hb4.cellAt (i := 5) rfl
              have HS4 := Lib.hid hs4
              have HB4 := Lib.hid hb4
              have HR4 := Lib.hid hr4
              have HO4 := Lib.hid ho4
              have K5 := Lib.hid k5
              clear hxv hs4 hb4 hr4 ho4 k5
              go_wp2
              go_roundw
              case rel => exact ⟨rs, _, _, HPP.out, HS4.out, HB4.out, HR4.out, HO4.out⟩
              case measure => rw [K5.out, q5]; exact Nat.lt_succ_self _
end Go.Proofs.YthaampinmelgaaaDoor
