/- Loops that hold a range over a function: each round may leave a record among what the frame puts off; and a frame of many slots, of which a few are known. -/
import Derived.Test.YtngfoinceakgdaaCompS
import Derived.Deep.LoopGhost
namespace Go.Proofs.Ytngfoinceakgdaa
open Go Go.RowKit

/-- A loop whose rounds may leave records of loops over functions. -/
theorem wp_loop_defs {P : Program} {Q : Exit → Act → World → Prop} {T0 : Array Value} {D0 : List Nat} {w : World} {c : Code} (I : Nat → Array Value → List Nat → World → Prop) (n₀ : Nat) (h₀ : I n₀ T0 D0 w)
    (round : ∀ n T D w, I n T D w → ∀ (K : Act → World → Prop), (∀ n' T' D' w', n' < n → I n' T' D' w' → K { tmps := T', defers := collected D' } w') → c.wp P (Exit.then K Q) { tmps := T, defers := collected D } w) :
    (Code.loop c).wp P Q { tmps := T0, defers := collected D0 } w := by
  refine wp_loop_ghost (fun n a w => ∃ T D, a = { tmps := T, defers := collected D } ∧ I n T D w) n₀ ⟨T0, D0, rfl, h₀⟩ ?_
  rintro n a w ⟨T, D, rfl, hI⟩
  exact round n T D w hI _ fun n' T' D' w' hlt h => ⟨n', hlt, T', D', rfl, h⟩

theorem getD_list (l : List Value) : l = (List.range l.length).map fun i => l.getD i undef := by
  apply List.ext_getElem
  · simp
  · intro i h1 h2
    simp [h1]

set_option maxRecDepth 100000 in
theorem arr117 (T : Array Value) (h : T.size = 117) : T = #[T.toList.getD 0 undef, T.toList.getD 1 undef, T.toList.getD 2 undef, T.toList.getD 3 undef, T.toList.getD 4 undef, T.toList.getD 5 undef, T.toList.getD 6 undef, T.toList.getD 7 undef, T.toList.getD 8 undef, T.toList.getD 9 undef, T.toList.getD 10 undef, T.toList.getD 11 undef, T.toList.getD 12 undef, T.toList.getD 13 undef, T.toList.getD 14 undef, T.toList.getD 15 undef, T.toList.getD 16 undef, T.toList.getD 17 undef, T.toList.getD 18 undef, T.toList.getD 19 undef, T.toList.getD 20 undef, T.toList.getD 21 undef, T.toList.getD 22 undef, T.toList.getD 23 undef, T.toList.getD 24 undef, T.toList.getD 25 undef, T.toList.getD 26 undef, T.toList.getD 27 undef, T.toList.getD 28 undef, T.toList.getD 29 undef, T.toList.getD 30 undef, T.toList.getD 31 undef, T.toList.getD 32 undef, T.toList.getD 33 undef, T.toList.getD 34 undef, T.toList.getD 35 undef, T.toList.getD 36 undef, T.toList.getD 37 undef, T.toList.getD 38 undef, T.toList.getD 39 undef, T.toList.getD 40 undef, T.toList.getD 41 undef, T.toList.getD 42 undef, T.toList.getD 43 undef, T.toList.getD 44 undef, T.toList.getD 45 undef, T.toList.getD 46 undef, T.toList.getD 47 undef, T.toList.getD 48 undef, T.toList.getD 49 undef, T.toList.getD 50 undef, T.toList.getD 51 undef, T.toList.getD 52 undef, T.toList.getD 53 undef, T.toList.getD 54 undef, T.toList.getD 55 undef, T.toList.getD 56 undef, T.toList.getD 57 undef, T.toList.getD 58 undef, T.toList.getD 59 undef, T.toList.getD 60 undef, T.toList.getD 61 undef, T.toList.getD 62 undef, T.toList.getD 63 undef, T.toList.getD 64 undef, T.toList.getD 65 undef, T.toList.getD 66 undef, T.toList.getD 67 undef, T.toList.getD 68 undef, T.toList.getD 69 undef, T.toList.getD 70 undef, T.toList.getD 71 undef, T.toList.getD 72 undef, T.toList.getD 73 undef, T.toList.getD 74 undef, T.toList.getD 75 undef, T.toList.getD 76 undef, T.toList.getD 77 undef, T.toList.getD 78 undef, T.toList.getD 79 undef, T.toList.getD 80 undef, T.toList.getD 81 undef, T.toList.getD 82 undef, T.toList.getD 83 undef, T.toList.getD 84 undef, T.toList.getD 85 undef, T.toList.getD 86 undef, T.toList.getD 87 undef, T.toList.getD 88 undef, T.toList.getD 89 undef, T.toList.getD 90 undef, T.toList.getD 91 undef, T.toList.getD 92 undef, T.toList.getD 93 undef, T.toList.getD 94 undef, T.toList.getD 95 undef, T.toList.getD 96 undef, T.toList.getD 97 undef, T.toList.getD 98 undef, T.toList.getD 99 undef, T.toList.getD 100 undef, T.toList.getD 101 undef, T.toList.getD 102 undef, T.toList.getD 103 undef, T.toList.getD 104 undef, T.toList.getD 105 undef, T.toList.getD 106 undef, T.toList.getD 107 undef, T.toList.getD 108 undef, T.toList.getD 109 undef, T.toList.getD 110 undef, T.toList.getD 111 undef, T.toList.getD 112 undef, T.toList.getD 113 undef, T.toList.getD 114 undef, T.toList.getD 115 undef, T.toList.getD 116 undef] := by
  have e := getD_list T.toList
  rw [Array.length_toList, h] at e
  exact Array.toList_inj.1 (e.trans rfl)
/-- What is known of the frame at loop 3. -/
structure IsF3 (v5 v6 v7 v8 v13 : Value) (T : Array Value) : Prop where
  size : T.size = 117
  s5 : T.toList.getD 5 undef = v5
  s6 : T.toList.getD 6 undef = v6
  s7 : T.toList.getD 7 undef = v7
  s8 : T.toList.getD 8 undef = v8
  s13 : T.toList.getD 13 undef = v13
set_option maxRecDepth 100000 in
theorem IsF3.out {v5 v6 v7 v8 v13 : Value} {T : Array Value} (h : IsF3 v5 v6 v7 v8 v13 T) : ∃ u : Nat → Value, T = #[(u 0), (u 1), (u 2), (u 3), (u 4), v5, v6, v7, v8, (u 9), (u 10), (u 11), (u 12), v13, (u 14), (u 15), (u 16), (u 17), (u 18), (u 19), (u 20), (u 21), (u 22), (u 23), (u 24), (u 25), (u 26), (u 27), (u 28), (u 29), (u 30), (u 31), (u 32), (u 33), (u 34), (u 35), (u 36), (u 37), (u 38), (u 39), (u 40), (u 41), (u 42), (u 43), (u 44), (u 45), (u 46), (u 47), (u 48), (u 49), (u 50), (u 51), (u 52), (u 53), (u 54), (u 55), (u 56), (u 57), (u 58), (u 59), (u 60), (u 61), (u 62), (u 63), (u 64), (u 65), (u 66), (u 67), (u 68), (u 69), (u 70), (u 71), (u 72), (u 73), (u 74), (u 75), (u 76), (u 77), (u 78), (u 79), (u 80), (u 81), (u 82), (u 83), (u 84), (u 85), (u 86), (u 87), (u 88), (u 89), (u 90), (u 91), (u 92), (u 93), (u 94), (u 95), (u 96), (u 97), (u 98), (u 99), (u 100), (u 101), (u 102), (u 103), (u 104), (u 105), (u 106), (u 107), (u 108), (u 109), (u 110), (u 111), (u 112), (u 113), (u 114), (u 115), (u 116)] := by
  have e := arr117 T h.size
  rw [h.s5, h.s6, h.s7, h.s8, h.s13] at e
  exact ⟨fun i => T.toList.getD i undef, e⟩
/-- What is known of the frame at loop 4. -/
structure IsF4 (v5 v6 v7 v8 v13 v66 v67 v68 : Value) (T : Array Value) : Prop where
  size : T.size = 117
  s5 : T.toList.getD 5 undef = v5
  s6 : T.toList.getD 6 undef = v6
  s7 : T.toList.getD 7 undef = v7
  s8 : T.toList.getD 8 undef = v8
  s13 : T.toList.getD 13 undef = v13
  s66 : T.toList.getD 66 undef = v66
  s67 : T.toList.getD 67 undef = v67
  s68 : T.toList.getD 68 undef = v68
set_option maxRecDepth 100000 in
theorem IsF4.out {v5 v6 v7 v8 v13 v66 v67 v68 : Value} {T : Array Value} (h : IsF4 v5 v6 v7 v8 v13 v66 v67 v68 T) : ∃ u : Nat → Value, T = #[(u 0), (u 1), (u 2), (u 3), (u 4), v5, v6, v7, v8, (u 9), (u 10), (u 11), (u 12), v13, (u 14), (u 15), (u 16), (u 17), (u 18), (u 19), (u 20), (u 21), (u 22), (u 23), (u 24), (u 25), (u 26), (u 27), (u 28), (u 29), (u 30), (u 31), (u 32), (u 33), (u 34), (u 35), (u 36), (u 37), (u 38), (u 39), (u 40), (u 41), (u 42), (u 43), (u 44), (u 45), (u 46), (u 47), (u 48), (u 49), (u 50), (u 51), (u 52), (u 53), (u 54), (u 55), (u 56), (u 57), (u 58), (u 59), (u 60), (u 61), (u 62), (u 63), (u 64), (u 65), v66, v67, v68, (u 69), (u 70), (u 71), (u 72), (u 73), (u 74), (u 75), (u 76), (u 77), (u 78), (u 79), (u 80), (u 81), (u 82), (u 83), (u 84), (u 85), (u 86), (u 87), (u 88), (u 89), (u 90), (u 91), (u 92), (u 93), (u 94), (u 95), (u 96), (u 97), (u 98), (u 99), (u 100), (u 101), (u 102), (u 103), (u 104), (u 105), (u 106), (u 107), (u 108), (u 109), (u 110), (u 111), (u 112), (u 113), (u 114), (u 115), (u 116)] := by
  have e := arr117 T h.size
  rw [h.s5, h.s6, h.s7, h.s8, h.s13, h.s66, h.s67, h.s68] at e
  exact ⟨fun i => T.toList.getD i undef, e⟩
/-- What is known of the frame at loop 5. -/
structure IsF5 (v5 v6 v7 v8 v13 v14 v15 v66 v67 v68 v80 v81 v82 : Value) (T : Array Value) : Prop where
  size : T.size = 117
  s5 : T.toList.getD 5 undef = v5
  s6 : T.toList.getD 6 undef = v6
  s7 : T.toList.getD 7 undef = v7
  s8 : T.toList.getD 8 undef = v8
  s13 : T.toList.getD 13 undef = v13
  s14 : T.toList.getD 14 undef = v14
  s15 : T.toList.getD 15 undef = v15
  s66 : T.toList.getD 66 undef = v66
  s67 : T.toList.getD 67 undef = v67
  s68 : T.toList.getD 68 undef = v68
  s80 : T.toList.getD 80 undef = v80
  s81 : T.toList.getD 81 undef = v81
  s82 : T.toList.getD 82 undef = v82
set_option maxRecDepth 100000 in
theorem IsF5.out {v5 v6 v7 v8 v13 v14 v15 v66 v67 v68 v80 v81 v82 : Value} {T : Array Value} (h : IsF5 v5 v6 v7 v8 v13 v14 v15 v66 v67 v68 v80 v81 v82 T) : ∃ u : Nat → Value, T = #[(u 0), (u 1), (u 2), (u 3), (u 4), v5, v6, v7, v8, (u 9), (u 10), (u 11), (u 12), v13, v14, v15, (u 16), (u 17), (u 18), (u 19), (u 20), (u 21), (u 22), (u 23), (u 24), (u 25), (u 26), (u 27), (u 28), (u 29), (u 30), (u 31), (u 32), (u 33), (u 34), (u 35), (u 36), (u 37), (u 38), (u 39), (u 40), (u 41), (u 42), (u 43), (u 44), (u 45), (u 46), (u 47), (u 48), (u 49), (u 50), (u 51), (u 52), (u 53), (u 54), (u 55), (u 56), (u 57), (u 58), (u 59), (u 60), (u 61), (u 62), (u 63), (u 64), (u 65), v66, v67, v68, (u 69), (u 70), (u 71), (u 72), (u 73), (u 74), (u 75), (u 76), (u 77), (u 78), (u 79), v80, v81, v82, (u 83), (u 84), (u 85), (u 86), (u 87), (u 88), (u 89), (u 90), (u 91), (u 92), (u 93), (u 94), (u 95), (u 96), (u 97), (u 98), (u 99), (u 100), (u 101), (u 102), (u 103), (u 104), (u 105), (u 106), (u 107), (u 108), (u 109), (u 110), (u 111), (u 112), (u 113), (u 114), (u 115), (u 116)] := by
  have e := arr117 T h.size
  rw [h.s5, h.s6, h.s7, h.s8, h.s13, h.s14, h.s15, h.s66, h.s67, h.s68, h.s80, h.s81, h.s82] at e
  exact ⟨fun i => T.toList.getD i undef, e⟩
/-- The records that have been left, in memory. -/
structure DsOk (b : Nat) (Ds : List Nat) (W : World) : Prop where
  nodup : Ds.Nodup
  at_ : ∀ D ∈ Ds, W.heap[D]? = some (.deferred (some []))
  lo : ∀ D ∈ Ds, b ≤ D
section
variable {b : Nat} {Ds : List Nat} {W W' : World}
theorem DsOk.nil (b : Nat) (W : World) : DsOk b [] W := ⟨List.nodup_nil, fun _ h => (List.not_mem_nil h).elim, fun _ h => (List.not_mem_nil h).elim⟩
theorem DsOk.lt (h : DsOk b Ds W) : ∀ D ∈ Ds, D < W.heap.size := fun D hD => lt_of_block (h.at_ D hD)
theorem DsOk.same (h : DsOk b Ds W) (hs : ∀ D ∈ Ds, W'.heap[D]? = W.heap[D]?) : DsOk b Ds W' := ⟨h.nodup, fun D hD => (hs D hD).trans (h.at_ D hD), h.lo⟩
theorem DsOk.alloc (h : DsOk b Ds W) (o : Obj) : DsOk b Ds (W.alloc o) := h.same fun D hD => Below.heap_alloc W o D (h.lt D hD)
theorem DsOk.drewN (h : DsOk b Ds W) (k : Nat) : DsOk b Ds (W.drewN k) := ⟨h.nodup, h.at_, h.lo⟩
theorem DsOk.set (h : DsOk b Ds W) {g i : Nat} {t : TypeId} {cs : List Value} (hb : Blk W g t cs) (u : Value) : DsOk b Ds (W.setCell ⟨g, i, none⟩ u) := h.same fun D hD => Below.heap_setCell W ⟨g, i, none⟩ u D (by
  rintro rfl
  have h1 := h.at_ _ hD
  unfold Blk at hb
  rw [hb] at h1
  cases h1)
theorem DsOk.cons (h : DsOk b Ds W) {D : Nat} (hD : W.heap[D]? = some (.deferred (some []))) (hb : b ≤ D) (hn : ∀ D' ∈ Ds, D' < D) : DsOk b (D :: Ds) W :=
  ⟨List.nodup_cons.2 ⟨fun hm => by have := hn D hm; omega, h.nodup⟩, fun D' h' => by
    rcases List.mem_cons.1 h' with rfl | h'
    · exact hD
    · exact h.at_ D' h', fun D' h' => by
    rcases List.mem_cons.1 h' with rfl | h'
    · exact hb
    · exact h.lo D' h'⟩
end

theorem CS.drew {w3 W : World} {a7 a8 go gn n : Nat} {ofs : List Nat} {num : List Int} (h : CS w3 W a7 a8 go gn n ofs num) : CS w3 W.drew a7 a8 go gn n ofs num :=
  ⟨h.v7, h.v8, h.o, h.m, h.ne, h.lo, h.ln, h.h7, h.h8, h.hgo, h.hgn, h.bel.drew⟩
theorem DsOk.drew {b : Nat} {Ds : List Nat} {W : World} (h : DsOk b Ds W) : DsOk b Ds W.drew := ⟨h.nodup, h.at_, h.lo⟩
theorem any_snoc {f : Nat → Bool} {l : List Nat} {x : Nat} {b c : Bool} (h1 : l.any f = b) (h2 : f x = c) : (l ++ [x]).any f = (b || c) := by
  rw [List.any_append, h1]
  simp [h2]

/-- What the rounds of a loop over a function keep, whatever the loop's own books do. -/
theorem keepCS {w3 A B : World} {a7 a8 go gn n a14 N : Nat} {ofs : List Nat} {num : List Int} {Ds : List Nat} {v : Value} {row : Option Nat} (h2 : CS w3 A a7 a8 go gn n ofs num) (h3 : DsOk w3.heap.size Ds A) (h4 : Blk A a14 3 [v]) (hg : A.grownBy B row)
    (hrow : ∀ r, row = some r → N ≤ r ∧ ∃ o : Obj, A.heap[r]? = some o ∧ o.isCells = false) (hlt : ∀ D ∈ Ds, D < N) (hN : w3.heap.size ≤ N) : CS w3 B a7 a8 go gn n ofs num ∧ DsOk w3.heap.size Ds B ∧ Blk B a14 3 [v] := by
  have hk : ∀ {g : Nat} {t : TypeId} {cs : List Value}, Blk A g t cs → B.heap[g]? = A.heap[g]? := fun {g t cs} hb => hg.block g hb.lt (fun e' => by
    obtain ⟨_, o, ho, hc⟩ := hrow g e'.symm
    unfold Blk at hb
    rw [hb] at ho
    cases ho
    simp [Obj.isCells] at hc)
  have hbel : Below w3.heap.size A B := ⟨hg.os, hg.tape, hg.output, hg.size, fun k hk => hg.block k (by have := h2.bel.size; omega) (fun e' => by have := (hrow k e'.symm).1; omega)⟩
  exact ⟨h2.keep hbel (hk h2.v7) (hk h2.v8) (hk h2.o) (hk h2.m), h3.same fun D hD => hg.block D (h3.lt D hD) (fun e' => by have := (hrow D e'.symm).1; have := hlt D hD; omega), h4.same (hk h4)⟩

/-! The numbers of the components, one round after the other. -/
def numAt (s : Shp) (gs : List (List Nat)) (c : Nat) : List Int := (List.range c).foldl (roundF s (ofF s.n gs) gs) (List.replicate s.n (-1))
theorem numAt_succ (s : Shp) (gs : List (List Nat)) (c : Nat) : numAt s gs (c + 1) = roundF s (ofF s.n gs) gs (numAt s gs c) c := by
  unfold numAt
  rw [List.range_succ, List.foldl_append]
  rfl
def badP (ofs : List Nat) (num : List Int) (k q : Nat) : Bool := decide (ofs.getD q 0 ≠ k) && decide (getI num q < 0)
def blockP (s : Shp) (ofs : List Nat) (num : List Int) (k p : Nat) : Bool := (s.next p).any (badP ofs num k)
theorem blockedF_eq (s : Shp) (ofs : List Nat) (num : List Int) (k : Nat) (g : List Nat) : blockedF s ofs num k g = g.any (blockP s ofs num k) := rfl
theorem any_take_succ' {f : Nat → Bool} {l : List Nat} {j : Nat} (h : j < l.length) (h1 : (l.take j).any f = false) (h2 : f l[j] = false) : (l.take (j + 1)).any f = false := by
  rw [List.take_succ_eq_append_getElem h, List.any_append, h1]
  simp [h2]
theorem any_of_get {f : Nat → Bool} {l : List Nat} {j : Nat} (h : j < l.length) (h2 : f l[j] = true) : l.any f = true := List.any_eq_true.2 ⟨_, List.getElem_mem h, h2⟩
theorem freeF_at {s : Shp} {ofs : List Nat} {gs : List (List Nat)} {num : List Int} {k : Nat} {g : List Nat} (h : gs[k]? = some g) : freeF s ofs gs num k = (decide (getI num (g.getD 0 0) < 0) && !g.any (blockP s ofs num k)) := by
  have e : gs.getD k [] = g := by rw [List.getD_eq_getElem?_getD, h]; rfl
  unfold freeF
  rw [e]
  rfl
theorem round_none {s : Shp} {ofs : List Nat} {gs : List (List Nat)} {num : List Int} (c : Nat) (h : ∀ k, k < gs.length → freeF s ofs gs num k = false) : roundF s ofs gs num c = num := by
  have : pickF s ofs gs num = none := by
    unfold pickF
    rw [List.find?_eq_none]
    intro k hk
    rw [h k (List.mem_range.1 hk)]
    simp
  unfold roundF
  rw [this]
theorem find_range {f : Nat → Bool} : ∀ {n k : Nat}, k < n → (∀ j, j < k → f j = false) → f k = true → (List.range n).find? f = some k
  | 0, k, h, _, _ => by omega
  | n + 1, k, h, h1, h2 => by
    rw [List.range_succ, List.find?_append]
    by_cases hk : k < n
    · rw [find_range hk h1 h2]; rfl
    · have e : k = n := by omega
      subst e
      have : (List.range k).find? f = none := by
        rw [List.find?_eq_none]
        intro j hj
        rw [h1 j (List.mem_range.1 hj)]
        simp
      rw [this]
      simp [h2]
theorem round_some {s : Shp} {ofs : List Nat} {gs : List (List Nat)} {num : List Int} (c : Nat) {k : Nat} {g : List Nat} (hk : gs[k]? = some g) (h : ∀ j, j < k → freeF s ofs gs num j = false) (h2 : freeF s ofs gs num k = true) : roundF s ofs gs num c = setAll num g c := by
  have : pickF s ofs gs num = some k := find_range (List.getElem?_eq_some_iff.1 hk).1 h h2
  unfold roundF
  rw [this]
  simp only
  rw [List.getD_eq_getElem?_getD, hk]
  rfl
theorem setAll_succ (num : List Int) (g : List Nat) (c j : Nat) (h : j < g.length) : setAll num (g.take (j + 1)) c = (setAll num (g.take j) c).set g[j] (c : Int) := by
  unfold setAll
  rw [List.take_succ_eq_append_getElem h, List.foldl_append]
  rfl

end Go.Proofs.Ytngfoinceakgdaa
