/- Elements that come in as an argument, laid open. -/
import Derived.Test.YthaampinmelgaaaDoorArg
import Derived.Test.YthaampinmelgaaaDoorRows
import Derived.Test.YthaampinmelgaaaDoorEls
import Derived.Test.YthaampinmelgaaaDoorWtoL
namespace Go.Proofs.YthaampinmelgaaaDoor
open Go.RowKit Go.Joins Go.ChangeShapes Go.WideShapes Go.Deep

theorem weight_all {H : Type} {P : Program} {e : TypeId} {d : DataW H} : ∀ {l : List (DataW H)}, d ∈ l → ∀ n ∈ d.weights P e, n ∈ DataW.weightsAll P e l
  | x :: r, h, n, hn => by
    simp only [DataW.weightsAll]
    rcases List.mem_cons.1 h with rfl | h
    · exact List.mem_append_left _ hn
    · exact List.mem_append_right _ (weight_all h n hn)
theorem choose_list {α : Type} {Q : Nat → α → Prop} : ∀ (len : Nat), (∀ i, i < len → ∃ x, Q i x) → ∃ es : List α, es.length = len ∧ ∀ i x, es[i]? = some x → Q i x
  | 0, _ => ⟨[], rfl, fun i x h => by simp at h⟩
  | n + 1, h => by
    obtain ⟨es, h1, h2⟩ := choose_list n (fun i hi => h i (by omega))
    obtain ⟨y, hy⟩ := h n (by omega)
    refine ⟨es ++ [y], by simp [h1], fun i x hx => ?_⟩
    by_cases hi : i < n
    · rw [List.getElem?_append_left (by omega)] at hx; exact h2 i x hx
    · by_cases e : i = n
      · subst e
        rw [List.getElem?_append_right (by omega), h1, Nat.sub_self] at hx
        cases hx; exact hy
      · rw [List.getElem?_eq_none (by simp; omega)] at hx; cases hx
set_option maxRecDepth 100000 in
theorem open_elsAt {H : Type} {enc : TypeId × Value → H} {W : World} : ∀ (k fuel : Nat), fuel ≤ k → ∀ (v : Value) (x : DataW H × List MemPlace),
    DataW.trod enc Tryd.prog W 0 (fun _ => true) true fuel 27 [v] = some x → (∀ n ∈ x.1.weights Tryd.prog 27, n ≤ reachBytes) → ∃ l, Els (fun b => b < W.heap.size) W v l
  | 0, fuel, hk, v, x, h, _ => by
    obtain rfl : fuel = 0 := by omega
    simp [DataW.trod] at h
  | k + 1, fuel, hk, v, x, h, hB => by
    have hC : Tryd.prog.cellsOf 81 = 3 := by kernel_rfl
    rcases DataW.trod_slice Tryd.underlying27 h with ⟨e, rfl⟩ | ⟨a, len, cap, elems, rest, n, rfl, e, rfl, hb, hl, hm, hlen, hel, -, -⟩
    · obtain rfl : v = .slice none 0 0 := by simpa using e
      exact ⟨[], Els.nil⟩
    · obtain rfl : v = .slice (some a) len cap := by simpa using e
      have hw0 : DataW.weights Tryd.prog 27 (DataW.slice (elems.map (·.1)) (rest.map (·.1)) : DataW H) = ((elems.map (·.1)).length + (rest.map (·.1)).length) * Tryd.prog.bytesOf 81 :: (DataW.weightsAll Tryd.prog 81 (elems.map (·.1)) ++ DataW.weightsAll Tryd.prog 81 (rest.map (·.1))) := by
        simp only [DataW.weights, Tryd.underlying27]
      have hB' : ∀ n ∈ DataW.weights Tryd.prog 27 (DataW.slice (elems.map (·.1)) (rest.map (·.1)) : DataW H), n ≤ reachBytes := hB
      rw [hw0] at hB'
      have hby : Tryd.prog.bytesOf 81 = 40 := by kernel_rfl
      have hlen2 := hB' _ List.mem_cons_self
      rw [hby, List.length_map, hlen] at hlen2
      have hr47 : reachBytes ≤ 140737488355328 := by decide
      have key : ∀ i, i < len → ∃ x : El, ∃ u : Value, a.block < W.heap.size ∧ W.cell? (a.add (i * 3)) = some (.int .i64 x.p) ∧ W.cell? (a.add (i * 3 + 1)) = some (.bool x.c) ∧ W.cell? (a.add (i * 3 + 2)) = some u ∧ InI64 x.p ∧ Els (fun b => b < W.heap.size) W u x.body := by
        intro i hi
        obtain ⟨y, hy⟩ : ∃ y, elems[i]? = some y := ⟨_, List.getElem?_eq_getElem (by omega)⟩
        have h1 := hel i hi
        rw [hy, hC] at h1
        obtain ⟨cs, hc, ht⟩ := Option.bind_eq_some_iff.1 h1
        obtain ⟨_, hcl, hat⟩ := World.cells?_some hc
        obtain ⟨xs, n3, hn3, hyx, -, hxs, hf⟩ := DataW.trod_struct Tryd.underlying81 ht
        have hcell : ∀ j u, cs[j]? = some u → W.cell? ((a.add (i * 3)).add j) = some u := fun j u hu => by
          have hj : j < 3 := by rw [← hcl]; exact (List.getElem?_eq_some_iff.1 hu).1
          rw [hat j hj]; exact hu
        match cs, hcl, xs, hxs with
        | [c0, c1, c2], hcl, [y0, y1, y2], hxs =>
          have f0 := hf 0 _ rfl
          have f1 := hf 1 _ rfl
          have f2 := hf 2 _ rfl
          have hc3 : Tryd.prog.cellsOf 3 = 1 := by kernel_rfl
          have hc4 : Tryd.prog.cellsOf 4 = 1 := by kernel_rfl
          have hc5 : Tryd.prog.cellsOf 27 = 1 := by kernel_rfl
          have g0 : DataW.trod enc Tryd.prog W 0 (fun _ => true) true n3 3 [c0] = some y0 := by
            have f0' : DataW.trod enc Tryd.prog W 0 (fun _ => true) true n3 3 (([c0, c1, c2].drop 0).take (Tryd.prog.cellsOf 3)) = some y0 := f0
            rw [hc3] at f0'; exact f0'
          have g1 : DataW.trod enc Tryd.prog W 0 (fun _ => true) true n3 4 [c1] = some y1 := by
            have f1' : DataW.trod enc Tryd.prog W 0 (fun _ => true) true n3 4 (([c0, c1, c2].drop 1).take (Tryd.prog.cellsOf 4)) = some y1 := f1
            rw [hc4] at f1'; exact f1'
          have g2 : DataW.trod enc Tryd.prog W 0 (fun _ => true) true n3 27 [c2] = some y2 := by
            have f2' : DataW.trod enc Tryd.prog W 0 (fun _ => true) true n3 27 (([c0, c1, c2].drop 2).take (Tryd.prog.cellsOf 27)) = some y2 := f2
            rw [hc5] at f2'; exact f2'
          obtain ⟨p, q0, -, hwf⟩ := DataW.trod_int Tryd.underlying3 g0
          obtain ⟨b, q1, -⟩ := DataW.trod_bool Tryd.underlying4 g1
          cases q0
          cases q1
          have hd : (elems.map (·.1))[i]? = some (.agg [y0.1, y1.1, y2.1]) := by
            rw [List.getElem?_map, hy, hyx]; rfl
          have hp1 : ∀ n ∈ y2.1.weights Tryd.prog 27, n ≤ reachBytes := fun n hn => by
            refine hB' n (List.mem_cons_of_mem _ (List.mem_append_left _ (weight_all (List.mem_of_getElem? hd) n ?_)))
            simp only [DataW.weights, Tryd.underlying81]
            exact List.mem_append_right _ (List.mem_append_right _ (List.mem_append_left _ hn))
          obtain ⟨l, hels⟩ := open_elsAt k n3 (by omega) c2 y2 g2 hp1
          refine ⟨.mk p b l, c2, ?_, ?_, ?_, ?_, ?_, hels⟩
          · have := lt_of_cell (hcell 0 _ rfl)
            rw [block_add, block_add] at this
            exact this
          · have := hcell 0 _ rfl
            rw [add_add'] at this
            exact this
          · have := hcell 1 _ rfl
            rw [add_add'] at this
            exact this
          · have := hcell 2 _ rfl
            rw [add_add'] at this
            exact this
          · have hmin : IntKind.i64.min = -9223372036854775808 := by decide
            have hmax : IntKind.i64.max = 9223372036854775807 := by decide
            simp only [Lit.wf, Bool.and_eq_true, decide_eq_true_eq, hmin, hmax] at hwf
            exact hwf
      obtain ⟨es, hel2, hes⟩ := choose_list len key
      subst hel2
      have hz : es.length * 40 ≤ 140737488355328 := by omega
      refine ⟨es, Els.of (some a) cap es hl hm hz (fun j x hx => ?_)⟩
      obtain ⟨u, h1, h2, h3, h4, h5, h6⟩ := hes j x hx
      exact ⟨a, u, rfl, h1, h2, h3, h4, h5, h6⟩
theorem open_els {H : Type} {enc : TypeId × Value → H} {W : World} {v : Value} {d : DataW H} {p : List MemPlace} (hone : v.cells.toList = [v])
    (h : DataW.Trod enc Tryd.prog W 0 (fun _ => true) true 27 v d p) (hB : ∀ n ∈ d.weights Tryd.prog 27, n ≤ reachBytes) : ∃ l, Els (fun b => b < W.heap.size) W v l := by
  obtain ⟨fuel, hf⟩ := h
  rw [hone] at hf
  exact open_elsAt fuel fuel (Nat.le_refl _) v (d, p) hf hB
end Go.Proofs.YthaampinmelgaaaDoor
