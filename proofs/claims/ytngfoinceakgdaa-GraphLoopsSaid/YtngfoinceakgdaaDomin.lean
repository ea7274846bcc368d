/- The reference: Dominates. -/
import Derived.Test.YtngfoinceakgdaaMat
import Derived.Test.YtngfoinceakgdaaLoops
import Derived.StillTailTactics
namespace Go.Proofs.Ytngfoinceakgdaa
open Go.RowKit Go.Shelf

def boolRow (n : Nat) (F : Nat → Bool) : List Value := (List.range n).map fun x => .bool (F x)
theorem boolRow_set {n : Nat} {F : Nat → Bool} {j : Nat} {b : Bool} : (boolRow n F).set j (.bool b) = boolRow n (fun x => if x = j then b else F x) := by
  unfold boolRow
  apply List.ext_getElem
  · simp
  · intro i h1 h2
    simp only [List.getElem_set, List.getElem_map, List.getElem_range]
    by_cases e : j = i
    · subst e; simp
    · rw [if_neg e, if_neg (fun h => e h.symm)]
theorem boolRow_at {n : Nat} {F : Nat → Bool} {j : Nat} (hj : j < n) : (boolRow n F)[j]? = some (.bool (F j)) := by simp [boolRow, hj]
theorem boolRow_congr {n : Nat} {F G : Nat → Bool} (h : ∀ j, j < n → F j = G j) : boolRow n F = boolRow n G := List.map_congr_left fun x hx => by rw [h x (List.mem_range.1 hx)]
theorem boolRow_no (n : Nat) : boolRow n (fun _ => false) = List.replicate n (.bool false) := by
  unfold boolRow
  exact List.eq_replicate_iff.2 ⟨by simp, fun b hb => by
    obtain ⟨i, -, rfl⟩ := List.mem_map.1 hb
    rfl⟩
/-- The rows' slices: the first k are made. -/
def rowsRow (n ob k : Nat) : List Value := (List.range n).map fun i => if i < k then .slice (some ⟨ob + 1 + i, 0, none⟩) n n else .slice none 0 0
theorem rowsRow_set {n ob k : Nat} (_h : k < n) : (rowsRow n ob k).set k (.slice (some ⟨ob + 1 + k, 0, none⟩) n n) = rowsRow n ob (k + 1) := by
  unfold rowsRow
  apply List.ext_getElem
  · simp
  · intro i h1 h2
    simp only [List.getElem_set, List.getElem_map, List.getElem_range]
    by_cases e : k = i
    · subst e; simp
    · rw [if_neg e]
      by_cases h : i < k
      · rw [if_pos h, if_pos (by omega)]
      · rw [if_neg h, if_neg (by omega)]
theorem rowsRow_at {n ob k i : Nat} (hi : i < n) (hk : i < k) : (rowsRow n ob k)[i]? = some (.slice (some ⟨ob + 1 + i, 0, none⟩) n n) := by simp [rowsRow, hi, hk]
theorem rowsRow_zero (n ob : Nat) : rowsRow n ob 0 = List.replicate n (.slice none 0 0) := by
  unfold rowsRow
  exact List.eq_replicate_iff.2 ⟨by simp, fun b hb => by
    obtain ⟨i, -, rfl⟩ := List.mem_map.1 hb
    rfl⟩

structure DS (w W : World) (gv : List Value) (n ga ob : Nat) (all : Nat → Bool) (k : Nat) (F : Nat → Nat → Bool) : Prop where
  g : Blk W w.heap.size 24 gv
  a : Blk W ga 4 (boolRow n all)
  o : Blk W ob 61 (rowsRow n ob k)
  rows : ∀ i, i < k → Blk W (ob + 1 + i) 4 (boolRow n (F i))
  bel : Below w.heap.size w W
  lo : w.heap.size < ga
  ao : ga < ob
section
variable {w W W' : World} {gv : List Value} {n ga ob k : Nat} {all : Nat → Bool} {F F' : Nat → Nat → Bool}
theorem DS.step (h : DS w W gv n ga ob all k F) (hb : Below W.heap.size W W') : DS w W' gv n ga ob all k F :=
  ⟨h.g.below hb h.g.lt, h.a.below hb h.a.lt, h.o.below hb h.o.lt, fun i hi => (h.rows i hi).below hb (h.rows i hi).lt, h.bel.trans (hb.mono h.bel.size), h.lo, h.ao⟩
theorem DS.drew (h : DS w W gv n ga ob all k F) : DS w W.drew gv n ga ob all k F := ⟨h.g, h.a, h.o, h.rows, h.bel.drew, h.lo, h.ao⟩
theorem DS.congr (h : DS w W gv n ga ob all k F) (hF : ∀ i j, i < k → j < n → F i j = F' i j) : DS w W gv n ga ob all k F' :=
  ⟨h.g, h.a, h.o, fun i hi => by rw [← boolRow_congr (fun j hj => hF i j hi hj)]; exact h.rows i hi, h.bel, h.lo, h.ao⟩
theorem DS.push (h : DS w W gv n ga ob all k (fun _ _ => false)) (hs : W.heap.size = ob + 1 + k) (hk : k < n) :
    DS w ((W.alloc (.cells (Array.replicate n (.bool false)) 4)).setCell ⟨ob, k, none⟩ (.slice (some ⟨W.heap.size, 0, none⟩) n n)) gv n ga ob all (k + 1) (fun _ _ => false) := by
  have hlo := h.lo
  have hao := h.ao
  refine ⟨(h.g.alloc _).far (by show w.heap.size ≠ ob; omega) _, (h.a.alloc _).far (by show ga ≠ ob; omega) _, ?_, fun i hi => ?_, (h.bel.alloc h.bel.size _).setCell (by show w.heap.size ≤ ob; omega) _, h.lo, h.ao⟩
  · have := (h.o.alloc (.cells (Array.replicate n (.bool false)) 4)).set k (.slice (some ⟨W.heap.size, 0, none⟩) n n)
    rw [hs, rowsRow_set hk] at this
    rw [hs]
    exact this
  · by_cases e : i < k
    · exact ((h.rows i e).alloc _).far (by show ob + 1 + i ≠ ob; omega) _
    · obtain rfl : i = k := by omega
      have := Blk.newAt (N := ob + 1 + i) W 4 (Array.replicate n (.bool false)) hs
      rw [Array.toList_replicate, ← boolRow_no] at this
      exact this.far (by show ob + 1 + i ≠ ob; omega) _
theorem DS.set (h : DS w W gv n ga ob all n F) {i : Nat} (hi : i < n) (j : Nat) (b : Bool) : DS w (W.setCell ⟨ob + 1 + i, j, none⟩ (.bool b)) gv n ga ob all n (fun i' j' => if i' = i ∧ j' = j then b else F i' j') := by
  have hlo := h.lo
  have hao := h.ao
  refine ⟨h.g.far (by show w.heap.size ≠ ob + 1 + i; omega) _, h.a.far (by show ga ≠ ob + 1 + i; omega) _, h.o.far (by show ob ≠ ob + 1 + i; omega) _, fun i' hi' => ?_, h.bel.setCell (by show w.heap.size ≤ ob + 1 + i; omega) _, h.lo, h.ao⟩
  by_cases e : i' = i
  · subst e
    have := (h.rows i' hi').set j (.bool b)
    rw [boolRow_set] at this
    simp only [true_and]
    exact this
  · simp only [e, false_and, if_false]
    exact (h.rows i' hi').far (by show ob + 1 + i' ≠ ob + 1 + i; omega) _
theorem DS.mat (h : DS w W gv n ga ob all n F) (hn : n ≤ 512) : Mat W.heap.size W (some ⟨ob, 0, none⟩) n F := by
  refine ⟨_, fun i => ⟨ob + 1 + i, 0, none⟩, fun _ => n, rfl, h.o.lt, fun i hi => ⟨by rw [add_none]; exact h.o.cellAt (rowsRow_at hi hi), Nat.le_refl _, by show n ≤ maxLen; unfold maxLen; omega, (h.rows i hi).lt, fun j hj => ?_⟩⟩
  rw [add_none]
  exact (h.rows i hi).cellAt (boolRow_at hj)
end
/-- The matrix while it is filled: the columns before d are done, and of column d the first m rows. -/
def stD (D : Nat → Nat → Bool) (d m i j : Nat) : Bool := (decide (j < d) || (decide (j = d) && decide (i < m))) && D i j
theorem stD_zero (D : Nat → Nat → Bool) (i j : Nat) : stD D 0 0 i j = false := by simp [stD]
theorem stD_next (D : Nat → Nat → Bool) (n d i j : Nat) (hi : i < n) : stD D d n i j = stD D (d + 1) 0 i j := by
  unfold stD
  congr 1
  rw [Bool.eq_iff_iff]
  simp
  omega
theorem stD_all (D : Nat → Nat → Bool) (n i j : Nat) (hj : j < n) : stD D n 0 i j = D i j := by simp [stD, hj]
theorem stD_set (D : Nat → Nat → Bool) (d m i j : Nat) : (if i = m ∧ j = d then D m d else stD D d m i j) = stD D d (m + 1) i j := by
  by_cases e : i = m ∧ j = d
  · obtain ⟨rfl, rfl⟩ := e
    simp [stD]
  · rw [if_neg e]
    unfold stD
    congr 1
    rw [Bool.eq_iff_iff]
    simp
    omega
/-- p can be reached from f, and not without d. -/
noncomputable def domB (n : Nat) (E : List (Nat × Nat)) (f p d : Nat) : Bool := rB n E (-1) f p && !rB n E (d : Int) f p

set_option maxRecDepth 100000 in
set_option maxHeartbeats 8000000 in
theorem dominates_any (B : Nat) (w : World) (v : Value) (n : Nat) (exit : Int) (E : List (Nat × Nat)) (hv : Edges B w v (castE E)) (hB : B ≤ w.heap.size) (hn : n ≤ 512) (hE : ∀ x ∈ E, x.1 < n ∧ x.2 < n) (hlE : E.length ≤ 1024) (f : Nat) (hf : f < n) :
    Calls Try.prog 76 #[.agg #[.int .i64 (n : Int), .int .i64 exit, v], .int .i64 (f : Int)] w fun en w' => ∃ g, en = .returned (.slice (some ⟨g, 0, none⟩) n n) ∧ Mat w'.heap.size w' (some ⟨g, 0, none⟩) n (domB n E f) ∧ Below w.heap.size w w' := by
  obtain ⟨A, c, rfl, hlc, -, hm, -⟩ := id hv.shape
  have hlen0 : (castE E).length = E.length := castE_length E
  have hre := fun (W : World) (hb : Below w.heap.size w W) (wo : Int) => rreach_sem B W _ n exit E (hv.below (hb.mono hB)) (Nat.le_trans hB hb.size) hn hE hlE f hf wo
  rw [hlen0] at hlc hm hre ⊢
  have HRE := Lib.hid hre
  have hmk := make_one (P := Try.prog) 120 61 (.slice none 0 0) 24 Try.underlying120 info_bools rfl n (by omega) (by omega)
  have hmk2 := make_one (P := Try.prog) 61 4 (.bool false) 1 Try.underlying61 info_bool rfl n (by omega) (by omega)
  have hg0 := Blk.newAt w 24 #[.int .i64 (n : Int), .int .i64 exit, .slice A E.length c] rfl
  have hb0 := (Below.refl w.heap.size w).alloc (Nat.le_refl _) (.cells #[.int .i64 (n : Int), .int .i64 exit, .slice A E.length c] 24)
  clear hre hlen0 hv
  go_enter Try.func76, Try.ntmps76
  go_upto_region 2 with (go_at_call 62; refine (HRE.out _ hb0 (-1)).mono ?_; rintro en w1 ⟨ga, rfl, hga, hgs, hw1⟩)
  have hg1 := hg0.below hw1 hg0.lt
  have hb1 := hb0.trans (hw1.mono hb0.size)
  have c0 := hg1.cellAt (i := 0) rfl
  have hal := hga.lt
  rw [World.size_alloc] at hgs
  go_upto_region 3 with fail
  have hds : DS w (w1.alloc (.cells (List.replicate n (.slice none 0 0)).toArray 61)) [.int .i64 (n : Int), .int .i64 exit, .slice A E.length c] n ga w1.heap.size (fun x => rB n E (-1) f x) 0 (fun _ _ => false) := by
    refine ⟨hg1.alloc _, hga.alloc _, ?_, fun i hi => by omega, hb1.alloc hb1.size _, by omega, hal⟩
    have := Blk.new w1 61 (List.replicate n (.slice none 0 0))
    rw [rowsRow_zero]
    exact this
  have hsz : (w1.alloc (.cells (List.replicate n (.slice none 0 0)).toArray 61)).heap.size = w1.heap.size + 1 + 0 := by simp
  simp only [List.toArray_replicate] at hds hsz
  have hob : w.heap.size ≤ w1.heap.size := hb1.size
  clear hg0 hb0 hg1 hb1 c0 hga hal hgs hw1 hmk
  revert hds hsz hob
  generalize w1.alloc (.cells (Array.replicate n (.slice none 0 0)) 61) = w2
  generalize w1.heap.size = ob
  intro hds hsz hob
  have HSZ := Lib.hid hsz
  clear hsz
  go_wp2
  go_loopw [7] (fun y wr => ∃ k : Nat, k ≤ n ∧ y = .int .i64 k ∧ DS w wr [.int .i64 (n : Int), .int .i64 exit, .slice A E.length c] n ga ob (fun x => rB n E (-1) f x) k (fun _ _ => false) ∧ Hid (wr.heap.size = ob + 1 + k)) (fun y _ => n - (intOf y).toNat)
  case atStart => exact ⟨0, Nat.zero_le _, rfl, hds, HSZ⟩
  case round =>
    obtain ⟨k, hk, rfl, hd, HS⟩ := hrel
    clear hds
    have c0 := hd.g.cellAt (i := 0) rfl
    by_cases hlt : k < n
    · have hlt1 : (k : Int) < (n : Int) := by omega
      have hpush := hd.push HS.out hlt
      have HP := Lib.hid hpush
      have HS2 : Hid (((wr.alloc (.cells (Array.replicate n (.bool false)) 4)).setCell ⟨ob, k, none⟩ (.slice (some ⟨wr.heap.size, 0, none⟩) n n)).heap.size = ob + 1 + (k + 1)) := Lib.hid (by rw [World.size_setCell, World.size_alloc, HS.out]; omega)
      have ob2 := hd.o.alloc (.cells (Array.replicate n (.bool false)) 4)
      obtain ⟨u, hu⟩ : ∃ u, (rowsRow n ob k)[k]? = some u := ⟨_, List.getElem?_eq_getElem (by simp [rowsRow, hlt])⟩
      have d1 := ob2.cellAt hu
      have f1 := ob2.frozen k
      clear hpush ob2 hu hd
      go_wp2
      go_roundw
      case rel => exact ⟨k + 1, by omega, by go_num, HP.out, HS2⟩
      case measure => simp [intOf]; omega
    · obtain rfl : k = n := by omega
      clear HS hmk2
      have hst : DS w wr [.int .i64 (k : Int), .int .i64 exit, .slice A E.length c] k ga ob (fun x => rB k E (-1) f x) k (stD (domB k E f) 0 0) := hd.congr (fun i j _ _ => (stD_zero _ _ _).symm)
      clear hd
      go_wp2
      obtain ⟨w3, rfl⟩ : ∃ w3 : World, w3 = wr := ⟨_, rfl⟩
      go_loopw [8] (fun y wr => ∃ d : Nat, d ≤ k ∧ y = .int .i64 d ∧ DS w wr [.int .i64 (k : Int), .int .i64 exit, .slice A E.length c] k ga ob (fun x => rB k E (-1) f x) k (stD (domB k E f) d 0)) (fun y _ => k - (intOf y).toNat)
      case atStart => exact ⟨0, Nat.zero_le _, rfl, hst⟩
      case round =>
        obtain ⟨d, hd, rfl, hs⟩ := hrel
        clear hst
        obtain ⟨c0, c1, c2⟩ : wr.cell? ⟨w.heap.size, 0, none⟩ = some (.int .i64 (k : Int)) ∧ wr.cell? ⟨w.heap.size, 1, none⟩ = some (.int .i64 exit) ∧ wr.cell? ⟨w.heap.size, 2, none⟩ = some (.slice A E.length c) := ⟨hs.g.cellAt rfl, hs.g.cellAt rfl, hs.g.cellAt rfl⟩
        by_cases hdk : d < k
        · have hdk1 : (d : Int) < (k : Int) := by omega
          go_wp2_with (go_at_call 62; refine (HRE.out wr hs.bel (d : Int)).mono ?_; rintro en w4 ⟨gl, rfl, hgl, hgls, hw4⟩)
          have hs4 := hs.step hw4
          have hgo : ∀ i, i < k → gl ≠ ob + 1 + i := fun i hi => by have := (hs.rows i hi).lt; omega
          have hgl2 : gl ≠ ob := by have := hs.o.lt; omega
          clear c0 c1 c2 hs hw4
          obtain ⟨w5, rfl⟩ : ∃ w5 : World, w5 = w4 := ⟨_, rfl⟩
          go_loopw [10] (fun y wr => ∃ m : Nat, m ≤ k ∧ y = .int .i64 m ∧ DS w wr [.int .i64 (k : Int), .int .i64 exit, .slice A E.length c] k ga ob (fun x => rB k E (-1) f x) k (stD (domB k E f) d m) ∧ Blk wr gl 4 (boolRow k fun x => rB k E (d : Int) f x)) (fun y _ => k - (intOf y).toNat)
          case atStart => exact ⟨0, Nat.zero_le _, rfl, hs4, hgl⟩
          case round =>
            obtain ⟨m, hm, rfl, hq, hl⟩ := hrel
            clear hs4 hgl
            have c0 := hq.g.cellAt (i := 0) rfl
            by_cases hmk : m < k
            · have hmk1 : (m : Int) < (k : Int) := by omega
              have d1 := hq.o.cellAt (rowsRow_at hmk hmk)
              have d2 := hq.a.cellAt (boolRow_at hmk)
              have d3 := hl.cellAt (boolRow_at hmk)
              have d4 := (hq.rows m hmk).cellAt (boolRow_at hdk)
              have f4 := (hq.rows m hmk).frozen d
              have hset := (hq.drew.set hmk d (domB k E f m d)).congr (fun i j _ _ => stD_set (domB k E f) d m i j)
              have hls := hl.drew.far (p := ⟨ob + 1 + m, d, none⟩) (hgo m hmk) (.bool (domB k E f m d))
              have HSET := Lib.hid hset
              have HLS := Lib.hid hls
              clear hset hls hq hl
              revert d2 d3 HSET HLS
              have hde : domB k E f m d = (rB k E (-1) f m && !rB k E (d : Int) f m) := rfl
              rw [hde]
              clear hde
              generalize rB k E (-1) f m = b1
              generalize rB k E (d : Int) f m = b2
              intro d2 d3 HSET HLS
              cases b1 with
              | false =>
                go_upto_region 14 with fail
                go_still_tail 17, (by kernel_rfl)
                change wpList _ _ _ _ _ wr.drew
                go_wp2
                go_roundw
                case rel => exact ⟨m + 1, by omega, by go_num, HSET.out, HLS.out⟩
                case measure => simp [intOf]; omega
              | true =>
                cases b2 with
                | false =>
                  go_upto_region 14 with fail
                  go_still_tail 17, (by kernel_rfl)
                  change wpList _ _ _ _ _ wr.drew
                  go_wp2
                  go_roundw
                  case rel => exact ⟨m + 1, by omega, by go_num, HSET.out, HLS.out⟩
                  case measure => simp [intOf]; omega
                | true =>
                  go_upto_region 14 with fail
                  go_still_tail 17, (by kernel_rfl)
                  change wpList _ _ _ _ _ wr.drew
                  go_wp2
                  go_roundw
                  case rel => exact ⟨m + 1, by omega, by go_num, HSET.out, HLS.out⟩
                  case measure => simp [intOf]; omega
            · obtain rfl : m = k := by omega
              have hnx : DS w wr [.int .i64 (m : Int), .int .i64 exit, .slice A E.length c] m ga ob (fun x => rB m E (-1) f x) m (stD (domB m E f) (d + 1) 0) := hq.congr (fun i j hi _ => stD_next _ _ _ _ _ hi)
              have HNX := Lib.hid hnx
              clear hnx hq hl
              go_wp2
              go_roundw
              case rel => exact ⟨d + 1, by omega, by go_num, HNX.out⟩
              case measure => simp [intOf]; omega
        · obtain rfl : d = k := by omega
          have hfin := (hs.congr (F' := domB d E f) (fun i j _ hj => stD_all _ _ _ _ hj)).mat hn
          have hbel := hs.bel
          have HFIN := Lib.hid hfin
          clear hs hfin c1 c2
          go_wp2
          go_ret
          exact ⟨_, rfl, HFIN.out, hbel⟩
end Go.Proofs.Ytngfoinceakgdaa
