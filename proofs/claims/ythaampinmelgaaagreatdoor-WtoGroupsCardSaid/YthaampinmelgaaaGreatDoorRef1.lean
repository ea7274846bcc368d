/- The reference: Few, Check. -/
import Derived.Test.YthaampinmelgaaaGreatDoorOut
namespace Go.Proofs.YthaampinmelgaaaGreatDoor
open Go.RowKit Go.Shelf

def few (n : Int) (es : List (Int × Int)) : Bool := decide (n ≤ 16) && decide (es.length ≤ 40)

set_option maxRecDepth 100000 in
set_option maxHeartbeats 1000000 in
theorem few_any (B : Nat) (w : World) (n exit : Int) (v : Value) (es : List (Int × Int)) (hv : Edges B w v es) :
    Calls Tryz.prog 10 #[.agg #[.int .i64 n, .int .i64 exit, v]] w fun en w' => en = .returned (.bool (few n es)) ∧ Below w.heap.size w w' := by
  obtain ⟨A, c, rfl, hlc, -, hm, hes⟩ := hv.shape
  clear hes
  by_cases h1 : n ≤ 16
  · by_cases h2 : es.length ≤ 40
    · have hr : few n es = true := by unfold few; simp [h1, h2]
      have h2' : (es.length : Int) ≤ 40 := by omega
      rw [hr]
      clear hr h2
      go_enter Tryz.func10, Tryz.ntmps10
      go_wp2
      go_ret
      exact ⟨rfl, (Below.refl _ _).alloc (Nat.le_refl _) _⟩
    · have hr : few n es = false := by unfold few; simp [h2]
      have h2' : decide ((es.length : Int) ≤ 40) = false := by rw [decide_eq_false_iff_not]; omega
      rw [hr]
      clear hr h2
      go_enter Tryz.func10, Tryz.ntmps10
      go_wp2
      go_ret
      exact ⟨rfl, (Below.refl _ _).alloc (Nat.le_refl _) _⟩
  · have hr : few n es = false := by unfold few; simp [h1]
    have h1' : decide (n ≤ 16) = false := by simpa using h1
    rw [hr]
    clear hr h1
    go_enter Tryz.func10, Tryz.ntmps10
    go_wp2
    go_ret
    exact ⟨rfl, (Below.refl _ _).alloc (Nat.le_refl _) _⟩

set_option maxRecDepth 100000 in
set_option maxHeartbeats 1000000 in
theorem rcheck_any (B : Nat) (w : World) (n exit : Int) (v : Value) (es : List (Int × Int)) (hv : Edges B w v es) (hB : B ≤ w.heap.size) :
    Calls Tryz.prog 11 #[.agg #[.int .i64 n, .int .i64 exit, v]] w fun en w' => en = .returned (.int .i64 (chk n exit es)) ∧ Below w.heap.size w w' := by
  obtain ⟨A, c, rfl, hlc, -, hm, hes⟩ := hv.shape
  by_cases h1 : n < 1 ∨ n > 512 ∨ exit < 0 ∨ exit ≥ n
  · have hr : chk n exit es = 2 := by unfold chk; rw [if_pos h1]
    rw [hr]
    clear hr hes
    rcases Int.lt_or_le n 1 with g | g
    · clear h1
      go_enter Tryz.func11, Tryz.ntmps11
      go_wp2
      go_ret
      exact ⟨rfl, (Below.refl _ _).alloc (Nat.le_refl _) _⟩
    rcases Int.lt_or_le 512 n with g2 | g2
    · clear h1
      go_enter Tryz.func11, Tryz.ntmps11
      go_wp2
      go_ret
      exact ⟨rfl, (Below.refl _ _).alloc (Nat.le_refl _) _⟩
    rcases Int.lt_or_le exit 0 with g3 | g3
    · clear h1
      go_enter Tryz.func11, Tryz.ntmps11
      go_wp2
      go_ret
      exact ⟨rfl, (Below.refl _ _).alloc (Nat.le_refl _) _⟩
    have g4 : n ≤ exit := by omega
    clear h1
    go_enter Tryz.func11, Tryz.ntmps11
    go_wp2
    go_ret
    exact ⟨rfl, (Below.refl _ _).alloc (Nat.le_refl _) _⟩
  have g1 : 1 ≤ n ∧ n ≤ 512 ∧ 0 ≤ exit ∧ exit < n := by omega
  obtain ⟨a1, a2, a3, a4⟩ := g1
  by_cases h2 : (es.length : Int) > 1024
  · have hr : chk n exit es = 5 := by unfold chk; rw [if_neg h1, if_pos h2]
    rw [hr]
    clear hr hes h1
    go_enter Tryz.func11, Tryz.ntmps11
    go_wp2
    go_ret
    exact ⟨rfl, (Below.refl _ _).alloc (Nat.le_refl _) _⟩
  have hr : chk n exit es = chkTail n es := by unfold chk; rw [if_neg h1, if_neg h2]
  rw [hr]
  clear hr h1
  have h2' : (es.length : Int) ≤ 1024 := by omega
  clear h2
  have HE := Lib.hid hes
  clear hes
  go_enter Tryz.func11, Tryz.ntmps11
  go_wp2
  go_loopw [3] (fun i wr => ∃ k : Nat, k ≤ es.length ∧ i = .int .i64 k ∧ (es.take k).any (badEdge n) = false ∧ Blk wr w.heap.size 24 [.int .i64 n, .int .i64 exit, .slice A es.length c] ∧ Below w.heap.size w wr)
    (fun i _ => es.length - (intOf i).toNat)
  case atStart => exact ⟨0, Nat.zero_le _, rfl, rfl, Blk.newAt _ _ _ rfl, (Below.refl _ _).alloc (Nat.le_refl _) _⟩
  case round =>
    obtain ⟨k, hk, rfl, hany, hblk, hbel⟩ := hrel
    have c0 := hblk.cellAt (i := 0) rfl
    have c2 := hblk.cellAt (i := 2) rfl
    have hbl := hblk.lt
    by_cases hlt : k < es.length
    · have hek : es[k]? = some es[k] := List.getElem?_eq_getElem hlt
      revert hek
      generalize es[k] = x
      intro hek
      obtain ⟨f, t⟩ := x
      obtain ⟨ad, cs, rfl, hab, hcl, hcc, hc0, hc1, hone⟩ := HE.out k _ hek
      have hcr : ∀ j v, cs[j]? = some v → wr.cell? ((ad.add (k * 21)).add j) = some v := fun j v hj => (hbel.cell (by rw [block_add, block_add]; omega)).trans (hcc j v hj)
      have HA := Lib.hid hany
      have HK := Lib.hid hek
      have HC := Lib.hid hcr
      have HL := Lib.hid hcl
      have H1 := Lib.hid hone
      clear hany hcc hcr hcl hone hek
      by_cases hb : f < 0 ∨ n ≤ f ∨ t < 0 ∨ n ≤ t
      · have h6 : chkTail n es = 6 := chkTail_bad HK.out (by unfold badEdge; simp; omega)
        have H6 := Lib.hid h6
        clear h6
        have hb' : f < 0 ∨ (0 ≤ f ∧ n ≤ f) ∨ (0 ≤ f ∧ f < n ∧ t < 0) ∨ (0 ≤ f ∧ f < n ∧ 0 ≤ t ∧ n ≤ t) := by omega
        clear hb
        rcases hb' with g | ⟨g1, g⟩ | ⟨g1, g2, g⟩ | ⟨g1, g2, g3, g⟩
        all_goals
          go_wp2_with (first
            | ((with_reducible show wpList _ _ _ (⟨some 41, .load 61 (.tmp 40), _, _, _, _⟩ :: _) _ _); refine wpList_load_list rfl _ _ rfl (ad.add (k * 21)) rfl cs _ HC.out Tryz.underlying61 rfl (by rw [HL.out]; exact size_edge) ?_)
            | ((with_reducible show wpList _ _ _ (⟨none, .store 61 (.tmp 4) (.tmp 41), _, _, _, _⟩ :: _) _ _); refine wpList_store_new rfl _ _ _ rfl _ _ cs rfl rfl (by rw [HL.out]; exact size_edge) (by rw [HL.out]; rfl) H1.out ?_))
          go_ret
          exact ⟨by rw [H6.out]; rfl, hbel.alloc (by omega) _⟩
      · have hb' : 0 ≤ f ∧ f < n ∧ 0 ≤ t ∧ t < n := by omega
        obtain ⟨g1, g2, g3, g4⟩ := hb'
        clear hb
        go_wp2_with (first
          | ((with_reducible show wpList _ _ _ (⟨some 41, .load 61 (.tmp 40), _, _, _, _⟩ :: _) _ _); refine wpList_load_list rfl _ _ rfl (ad.add (k * 21)) rfl cs _ HC.out Tryz.underlying61 rfl (by rw [HL.out]; exact size_edge) ?_)
          | ((with_reducible show wpList _ _ _ (⟨none, .store 61 (.tmp 4) (.tmp 41), _, _, _, _⟩ :: _) _ _); refine wpList_store_new rfl _ _ _ rfl _ _ cs rfl rfl (by rw [HL.out]; exact size_edge) (by rw [HL.out]; rfl) H1.out ?_))
        go_roundw
        case rel => exact ⟨k + 1, by omega, by simp, any_take_succ HK.out HA.out (by unfold badEdge; simp; omega), hblk.alloc _, hbel.alloc (by omega) _⟩
        case measure => simp [intOf]; omega
    · obtain rfl : k = es.length := by omega
      have h0 : chkTail n es = 0 := by
        rw [List.take_length] at hany
        unfold chkTail
        rw [hany]
        rfl
      have H0 := Lib.hid h0
      clear h0 hany
      go_wp2
      go_ret
      exact ⟨by rw [H0.out]; rfl, hbel⟩

#print axioms rcheck_any

end Go.Proofs.YthaampinmelgaaaGreatDoor
