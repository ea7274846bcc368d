/- Go's library: Clone and Compact at whole numbers; what Compact leaves of a sorted list. -/
import Derived.Test.YtngfoinceakgdaaLaid2
import Derived.Test.YtngfoinceakgdaaSort
import Derived.Test.YtngfoinceakgdaaOrdT
namespace Go.Proofs.Ytngfoinceakgdaa
open Go.RowKit Go.Shelf Go.Sort

def castL (l : List Nat) : List Int := l.map fun x : Nat => (x : Int)
theorem castL_get (l : List Nat) (j : Nat) (hj : j < l.length) : (castL l).toArray[j]! = (l[j] : Int) := by
  rw [getElem!_pos _ j (by simp [castL, hj])]
  simp [castL]
theorem compact_sorted (l : List Nat) (m : Nat) (hs : l.Pairwise (· ≤ ·)) (hlt : ∀ x ∈ l, x < m) (hall : ∀ k, k < m → k ∈ l) : Lib.compact (castL l) = castL (List.range m) := by
  have hmono : ∀ (i j : Nat) (hi : i < l.length) (hj : j < l.length), i ≤ j → l[i] ≤ l[j] := fun i j hi hj hij => by
    rcases Nat.lt_or_ge i j with h | h
    · exact List.pairwise_iff_getElem.1 hs i j hi hj h
    · have : i = j := by omega
      subst this; exact Nat.le_refl _
  have key : ∀ j, j ≤ l.length → Lib.compactUpTo (castL l).toArray j = castL (List.range (if h : 0 < j ∧ j - 1 < l.length then l[j - 1] + 1 else 0)) := by
    intro j
    induction j with
    | zero => intro _; rw [dif_neg (by omega)]; rfl
    | succ j ih =>
      intro hj
      have hjl : j < l.length := by omega
      rw [Lib.compactUpTo_succ, ih (by omega), dif_pos (show 0 < j + 1 ∧ j + 1 - 1 < l.length from ⟨by omega, by omega⟩), castL_get l j hjl]
      have e1 : l[j + 1 - 1]'(by omega) = l[j] := by congr 1
      rw [e1]
      by_cases hj0 : j = 0
      · subst hj0
        rw [dif_neg (by omega), if_pos (Lib.keeps_lt_one _ 0 (by omega))]
        have h0 : l[0] = 0 := by
          have hm : 0 < m := by have := hlt _ (List.getElem_mem hjl); omega
          obtain ⟨i, hi, h1⟩ := List.mem_iff_getElem.1 (hall 0 hm)
          have := hmono 0 i hjl hi (by omega)
          omega
        rw [h0]
        rfl
      · have hjp : j - 1 < l.length := by omega
        rw [dif_pos ⟨by omega, hjp⟩]
        by_cases he : l[j] = l[j - 1]
        · rw [if_neg, he, List.append_nil]
          rw [Lib.keeps_neg (by omega) (by rw [castL_get l j hjl, castL_get l (j - 1) hjp, he])]
          simp
        · rw [if_pos (Lib.keeps_pos (by rw [castL_get l j hjl, castL_get l (j - 1) hjp]; omega))]
          have hle := hmono (j - 1) j hjp hjl (by omega)
          have hnx : l[j] = l[j - 1] + 1 := by
            have hm : l[j - 1] + 1 < m := by have := hlt _ (List.getElem_mem hjl); omega
            obtain ⟨i, hi, h1⟩ := List.mem_iff_getElem.1 (hall _ hm)
            rcases Nat.lt_or_ge i j with h2 | h2
            · have := hmono i (j - 1) hi hjp (by omega); omega
            · have := hmono j i hjl hi h2; omega
          rw [hnx, List.range_succ (n := l[j - 1] + 1)]
          simp [castL]
  have h := key l.length (Nat.le_refl _)
  unfold Lib.compact
  rw [show (castL l).length = l.length by simp [castL], h]
  congr 2
  by_cases hl : 0 < l.length
  · rw [dif_pos ⟨hl, by omega⟩]
    have h1 := hlt _ (List.getElem_mem (show l.length - 1 < l.length by omega))
    have hm : m - 1 < m := by omega
    obtain ⟨i, hi, h2⟩ := List.mem_iff_getElem.1 (hall _ hm)
    have := hmono i (l.length - 1) hi (by omega) (by omega)
    omega
  · rw [dif_neg (by omega)]
    have : l = [] := List.eq_nil_of_length_eq_zero (by omega)
    subst this
    rcases Nat.eq_zero_or_pos m with h1 | h1
    · exact h1.symm
    · have := hall 0 h1; simp at this
theorem natV_cast (l : List Nat) : l.map natV = (castL l).map (Value.int .i64) := by unfold castL; rw [List.map_map]; rfl

theorem compactUpTo_le (z : Array Int) : ∀ j, (Lib.compactUpTo z j).length ≤ j
  | 0 => by simp [Lib.compactUpTo]
  | j + 1 => by
    rw [Lib.compactUpTo_succ, List.length_append]
    have := compactUpTo_le z j
    split <;> simp <;> omega
set_option maxRecDepth 100000 in
set_option maxHeartbeats 1000000 in
theorem clone_any (B : Nat) (w : World) (v : Value) (l : List Nat) (hv : Ints B w v (castL l)) (hl : 0 < l.length) (hl2 : l.length ≤ 100000) :
    Calls Try.prog 43 #[v] w fun en w' => ∃ v', en = .returned v' ∧ w'.ownsRow w.heap.size 3 1 v' l.length (l.map natV) ∧ Below w.heap.size w w' := by
  obtain ⟨A, c, rfl, -, -, -, hc⟩ := hv.shape
  have hlen : (castL l).length = l.length := by simp [castL]
  rw [hlen]
  obtain ⟨ad, u0, rfl, -, -, -⟩ := hc 0 _ (List.getElem?_eq_getElem (by rw [hlen]; exact hl))
  have hcell : ∀ (j : Nat) (u : Value), (l.map natV)[j]? = some u → w.cell? (ad.add j) = some u := fun j u hj => by
    rw [natV_cast, List.getElem?_map, Option.map_eq_some_iff] at hj
    obtain ⟨x, hx, rfl⟩ := hj
    obtain ⟨ad', u, he, -, hcl, hu⟩ := hc j x hx
    cases he
    rw [hcl]
    exact congrArg some hu
  have HC := Lib.hid hcell
  clear hcell hc hv
  obtain ⟨i0, hi, hz0, hz1, hz2⟩ := info_parts info_int
  have q22 : ∀ (w : World) (a : Option Addr) (n c n' c' : Nat), (binOp .eql 27 (.slice a n c) (.slice none n' c')).run Try.prog w = .ok (.bool a.isNone) w := fun w a n c n' c' => Lib.run_eql_slice_nil w _ _ a n c n' c' Try.underlying27
  have u22 : ∀ w, Sem.run Try.prog (underlying 27) w = .ok (TypeDesc.slice 3) w := run_underlying Try.underlying27
  go_enter Try.func43, Try.ntmps43
  go_wp2_with (at_builtin; refine wpList_append_own _ rfl _ _ 27 rfl w.heap.size 3 i0 (.int .i64 0) 1 8 Try.underlying27 hi hz0 hz1 hz2 rfl (by decide) _ _ _ rfl (World.ownsRow_made w #[] 0 (Nat.le_refl _) (Nat.zero_le _) rfl) ad l.length c (l.map natV) rfl ?qc1 ?qc2 ?qc3 ?qc4 ?qc5 ?qc6 ?_)
  case qc1 => simp
  case qc2 =>
    intro j u hj
    exact Lib.cell?_alloc_some _ (HC.out j u hj)
  case qc3 => intro u hu; obtain ⟨x, _, rfl⟩ := List.mem_map.1 hu; rfl
  case qc4 => unfold maxLen; omega
  case qc5 => omega
  case qc6 => simp
  intro v' w1 hown hgrow hnil
  go_wp2
  go_ret
  refine ⟨v', rfl, by simpa using hown, ?_⟩
  exact ((Below.refl _ w).alloc (Nat.le_refl _) _).grown hgrow (by simp) (by intro k hk; simp [Value.ownBlock] at hk; omega)

theorem compact_own (w : World) (base : Nat) (v : Value) (l : List Nat) (m : Nat) (h : w.ownsRow base 3 1 v l.length (l.map natV)) (hl : 0 < l.length) (hl2 : l.length ≤ 100000)
    (hs : l.Pairwise (· ≤ ·)) (hlt : ∀ x ∈ l, x < m) (hall : ∀ k, k < m → k ∈ l) :
    Calls Try.prog 45 #[v] w fun en w' => ∃ v', en = .returned v' ∧ Ints w'.heap.size w' v' (castL (List.range m)) ∧ Below base w w' := by
  rcases h.2 with ⟨rfl, h0⟩ | ⟨g, cap, cur, rfl, hb, hh, h1, h2, h3, h4⟩
  · omega
  · have hlen : (castL l).length = l.length := by simp [castL]
    have hcm := compact_sorted l m hs hlt hall
    have hml : m ≤ l.length := by
      have h5 := compactUpTo_le (castL l).toArray (castL l).length
      have h6 : (Lib.compact (castL l)).length ≤ (castL l).length := h5
      rw [hcm, hlen] at h6
      simpa [castL] using h6
    have hH : Holds (Value.int .i64) w g 0 (castL l).toArray := holds_of_blockI hh (by rw [hlen, ← natV_cast, ← h4, Nat.mul_one])
    have hc := Any.slices_Compact_int Try.l220 g 0 cap (castL l) w hH (by rw [hlen]; omega) (by rw [hlen]; exact h1)
    change Calls Try.prog 45 _ _ _ at hc
    rw [hlen, hcm] at hc
    have hcl : (castL (List.range m)).length = m := by simp [castL]
    rw [hcl] at hc
    refine hc.mono ?_
    rintro en w' ⟨rfl, q, rfl⟩
    have h5 := ownsRow_sortedI (n := q) (os := #[]) (ss := castL l) (ts := castL (List.range m) ++ List.replicate (l.length - m) 0) (by simp [castL]; omega) hb hh (by rw [hlen]; exact h1) h2 h3
    have h6 := grownBy_sortedI (w := w) (g := g) (n := q) (os := #[]) (castL (List.range m) ++ List.replicate (l.length - m) 0).toArray
    rw [grow_empty] at h5 h6
    rw [hlen] at h5
    refine ⟨_, rfl, ?_, (Below.refl base w).grown h6 (by have := lt_of_block hh; omega) (fun j hj => by cases hj; exact hb)⟩
    rcases h5.2 with ⟨h7, -⟩ | ⟨g', cap', cur', h7, hb', hh', h1', h2', h3', h4'⟩
    · cases h7
    · cases h7
      refine ⟨some ⟨g, 0, none⟩, cap, by rw [hcl], by rw [hcl]; omega, h2, fun j x hx => ⟨⟨g, 0, none⟩, .int .i64 x, rfl, lt_of_block hh', ?_, rfl⟩⟩
      rw [add_none, cell_of_row _ g _ cur' _ _ hh']
      have hj : j < m := by have := (List.getElem?_eq_some_iff.1 hx).1; rwa [hcl] at this
      have h8 : (cur'.toList.take (l.length * 1))[j]? = some (.int .i64 x) := by
        rw [h4', List.getElem?_map, List.getElem?_append_left (by rw [hcl]; exact hj), hx]
        rfl
      rw [List.getElem?_take_of_lt (by omega)] at h8
      simpa using h8
end Go.Proofs.Ytngfoinceakgdaa
