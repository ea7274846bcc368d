/- Lists read alike; the law WtoOrders, walked; few counts the elements; chains of heads, plain; the law WtoNests, walked. -/
import Derived.Test.YthaampinmelgaaaDoorOf
import Derived.Deep.QuietTactic
import Derived.BigQuiet
import Derived.Test.YthaampinmelgaaaDoorAwk
import Derived.Test.YthaampinmelgaaaDoorROrd
import Derived.Test.YthaampinmelgaaaDoorGV
import Derived.Test.YthaampinmelgaaaDoorWtoL
import Derived.Test.YthaampinmelgaaaDoorWithin
/-! The reference's Same at lists that are read alike. -/
namespace Go.Proofs.YthaampinmelgaaaDoor
open Go.RowKit Go.Shelf

theorem quiet_more {P : Program} {f : FuncId} {args : Array Value} {W : World} {nq x : Nat} {v : Value} (h : Calls P f args (W.drewN (nq + x)) fun e w' => e = .returned v ∧ ∃ n, w' = (W.drewN (nq + x)).drewN n) :
    Calls P f args (W.drewN (nq + x)) fun e w' => e = .returned v ∧ ∃ n, w' = W.drewN (nq + n) := by
  refine h.mono ?_
  rintro e w' ⟨he, n, rfl⟩
  exact ⟨he, x + n, by rw [World.drewN_drewN, Nat.add_assoc]⟩

set_option maxRecDepth 100000 in
set_option maxHeartbeats 4000000 in
theorem same_true {P : Nat → Prop} {w : World} {v : Value} {l : List El} (h : Els P w v l) : ∀ {Q : Nat → Prop} {v2 : Value}, Els Q w v2 l → ∀ W : World, (∀ p : Addr, W.cell? p = w.cell? p) →
    Calls Tryd.prog 14 #[v, v2] W fun en w' => en = .returned (.bool true) ∧ ∃ n, w' = W.drewN n := by
  induction h with
  | mk A c l us hlc hm hz hc hr ih =>
    intro Q v2 h2 W hW
    have HW := Lib.hid hW
    obtain ⟨A2, c2, rfl, -, -, -, hc2⟩ := h2.shape
    have HC := Lib.hid hc
    have HC2 := Lib.hid hc2
    have HIH := Lib.hid ih
    have HR := Lib.hid hr
    have hl63 : l.length ≤ 9223372036854775807 := by unfold maxLen at hm; omega
    clear hc hr ih hc2 hm h2 hW
    go_enter Tryd.func14, Tryd.ntmps14
    go_wp2
    go_loopw [5] (fun y wr => ∃ (m : Nat), m ≤ l.length ∧ y = .int .i64 m ∧ ∃ n, wr = W.drewN n) (fun y _ => l.length - (intOf y).toNat)
    case atStart => exact ⟨0, Nat.zero_le _, rfl, 0, rfl⟩
    case round =>
      obtain ⟨m, hm, rfl, nq, rfl⟩ := hrel
      by_cases hlt : m < l.length
      · obtain ⟨x, hx⟩ : ∃ x, l[m]? = some x := ⟨_, List.getElem?_eq_getElem hlt⟩
        obtain ⟨ad, hA, hPad, e0, e1, e2, hI⟩ := HC.out m x hx
        obtain ⟨ad2, u2, hA2, hQ2, b0, b1, b2, -, hb2⟩ := HC2.out m x hx
        subst hA
        subst hA2
        have hih := HIH.out m x hx hb2
        obtain ⟨Au, cu, hu, -⟩ := (HR.out m x hx).shape
        obtain ⟨Au2, cu2, hu2, -⟩ := hb2.shape
        rw [hu] at e2 hih
        rw [hu2] at b2 hih
        rw [← add_add', addrOne] at e1 b1
        rw [← add_add', addrTwo] at e2 b2
        clear hu hu2
        obtain ⟨p, c, body⟩ := x
        simp only [El.p, El.c, El.body] at e0 e1 e2 b0 b1 b2 hih hI
        have c0 : ∀ t, (W.drewN t).cell? (ad.add (m * 3)) = some (.int .i64 p) := fun t => (HW.out _).trans e0
        have c1 : ∀ t, (W.drewN t).cell? ⟨(ad.add (m * 3)).block, (ad.add (m * 3)).off + 1, none⟩ = some (.bool c) := fun t => (HW.out _).trans e1
        have c2' : ∀ t, (W.drewN t).cell? ⟨(ad.add (m * 3)).block, (ad.add (m * 3)).off + 2, none⟩ = some (.slice Au body.length cu) := fun t => (HW.out _).trans e2
        have d0 : ∀ t, (W.drewN t).cell? (ad2.add (m * 3)) = some (.int .i64 p) := fun t => (HW.out _).trans b0
        have d1 : ∀ t, (W.drewN t).cell? ⟨(ad2.add (m * 3)).block, (ad2.add (m * 3)).off + 1, none⟩ = some (.bool c) := fun t => (HW.out _).trans b1
        have d2 : ∀ t, (W.drewN t).cell? ⟨(ad2.add (m * 3)).block, (ad2.add (m * 3)).off + 2, none⟩ = some (.slice Au2 body.length cu2) := fun t => (HW.out _).trans b2
        have hlt1 : (m : Int) < (l.length : Int) := by omega
        have HI := Lib.hid hih
        clear hih e0 e1 e2 b0 b1 b2 hI hb2 hx hPad hQ2
        go_upto_region 6 with fail
        go_quiet ((go_at_call 14; exact quiet_more (HI.out _ (fun q => HW.out q))))
        rw [World.drewN_drewN]
        go_wp2
        go_roundw
        case rel => exact ⟨m + 1, by omega, by go_num, _, rfl⟩
        case measure => simp [intOf]; omega
      · obtain rfl : m = l.length := by omega
        go_wp2
        go_ret
        exact ⟨rfl, nq, rfl⟩
end Go.Proofs.YthaampinmelgaaaDoor

/-! The law WtoOrders, walked. -/
namespace Go.Proofs.YthaampinmelgaaaDoor
open Go.RowKit Go.Shelf

/-- What the program and the reference return, the same. -/
theorem order_pair (n exit : Int) (es : List (Int × Int)) : ∃ (L : List El) (e : Int),
    (∀ (B : Nat) (w : World) (v : Value), Edges B w v es → B ≤ w.heap.size → Calls Tryd.prog 12 #[.agg #[.int .i64 n, .int .i64 exit, v]] w fun en w' => ∃ vo, en = .returned (.tuple #[vo, .int .i64 e]) ∧ EL w' vo L ∧ Below w.heap.size w w') ∧
    (∀ (B : Nat) (w : World) (v : Value), Edges B w v es → B ≤ w.heap.size → Calls Tryd.prog 13 #[.agg #[.int .i64 n, .int .i64 exit, v]] w fun en w' => ∃ vo, en = .returned (.tuple #[vo, .int .i64 e]) ∧ EL w' vo L ∧ Below w.heap.size w w') := by
  by_cases hc : chk n exit es = 0
  · obtain ⟨N, E, rfl, rfl, hg⟩ := chk_ok hc
    obtain ⟨k, r, hr, ⟨t, ht, htl⟩, -, hlen, -⟩ := order_plain hg.lt hg.n1 hg.n512
    refine ⟨r.2.1, 0, fun B w v hv hB => ?_, fun B w v hv hB => ?_⟩
    · refine (order_ok B w v N exit E hv hB hg k r hr (by omega)).mono ?_
      rintro en w' ⟨vo, he, h1, h2⟩
      exact ⟨vo, he, h1.mono (fun b hb => hb.2), h2⟩
    · refine (rorder_ok B w v N exit E hv hB hg hc k t ht).mono ?_
      rintro en w' ⟨vo, he, h1, h2⟩
      rw [htl] at h1
      exact ⟨vo, he, h1.mono (fun b hb => hb.2), h2⟩
  · exact ⟨[], chk n exit es, fun B w v hv hB => (order_bad B w v n exit es hv hB hc).mono fun en w' h => ⟨_, h.1, Els.nil, h.2⟩, fun B w v hv hB => (rorder_bad B w v n exit es hv hB hc).mono fun en w' h => ⟨_, h.1, Els.nil, h.2⟩⟩

set_option maxRecDepth 100000 in
set_option maxHeartbeats 2000000 in
theorem ordersL_any (w : World) (v : Value) (n exit : Int) (es : List (Int × Int)) (hv : Edges w.heap.size w v es) :
    Calls Tryd.prog 3 #[.agg #[.int .i64 n, .int .i64 exit, v]] w fun en w' => en = .returned (.bool true) ∧ Below w.heap.size w w' := by
  obtain ⟨L, e, hp1, hp2⟩ := order_pair n exit es
  have hfw := fun (W : World) (h : GV w W n exit v) => few_any W.heap.size W n exit v es (h.edges hv)
  have h1 := fun (W : World) (h : GV w W n exit v) => hp1 W.heap.size W v (h.edges hv) (Nat.le_refl _)
  have h2 := fun (W : World) (h : GV w W n exit v) => hp2 W.heap.size W v (h.edges hv) (Nat.le_refl _)
  have hg0 := GV.start w n exit v
  have HF := Lib.hid hfw
  have H1 := Lib.hid h1
  have H2 := Lib.hid h2
  obtain ⟨A, c, rfl, hlc, -, hm, -⟩ := hv.shape
  clear hp1 hp2 hfw h1 h2 hv
  cases hb : few n es with
  | false =>
    rw [hb] at HF
    clear hb
    go_enter Tryd.func3, Tryd.ntmps3
    go_wp2_with (first
      | (go_at_call 10; refine (HF.out _ hg0).mono ?_; rintro en w1 ⟨rfl, hw1⟩; have hg1 := hg0.step hw1)
      | (go_at_call 11; refine (awake_any w1).mono ?_; rintro en w2 ⟨rfl, hw2⟩; have hg2 := hg1.step hw2))
    go_ret
    exact ⟨rfl, hg2.bel⟩
  | true =>
    rw [hb] at HF
    clear hb
    go_enter Tryd.func3, Tryd.ntmps3
    go_wp2_with (first
      | (go_at_call 10; refine (HF.out _ hg0).mono ?_; rintro en w1 ⟨rfl, hw1⟩; have hg1 := hg0.step hw1; obtain ⟨c0, c1, c2⟩ := hg1.cells)
      | (go_at_call 12; refine (H1.out _ hg1).mono ?_; rintro en w2 ⟨va, rfl, hva, hw2⟩; have hg2 := hg1.step hw2; clear c0 c1 c2; obtain ⟨c0, c1, c2⟩ := hg2.cells)
      | (go_at_call 13; refine (H2.out _ hg2).mono ?_; rintro en w3 ⟨vb, rfl, hvb, hw3⟩; have hg3 := hg2.step hw3; have hva3 := EL.step hva hw3)
      | (go_at_call 15; refine (of_any hva3 w3 (fun _ _ => rfl) (fun _ h => h)).mono ?_; rintro en w4 ⟨vc, rfl, hvc, hw4⟩; have hg4 := hg3.step hw4; have hvb4 := EL.step hvb hw4)
      | (go_at_call 14; refine (same_true hvc hvb4 w4 (fun _ => rfl)).mono ?_; rintro en w5 ⟨rfl, t, rfl⟩; have hg5 := hg4.drewN t)
      | (go_at_call 11; refine (awake_any _).mono ?_; rintro en w6 ⟨rfl, hw6⟩; have hg6 := hg5.step hw6))
    go_ret
    exact ⟨rfl, hg6.bel⟩
end Go.Proofs.YthaampinmelgaaaDoor

/-! The law WtoNests: few counts the elements; chains of heads, plain; the walk. -/
/-! The laws' few: the elements are counted. -/
namespace Go.Proofs.YthaampinmelgaaaDoor
open Go.RowKit Go.Shelf

mutual
def El.cnt : El → Int → Int
  | .mk _ _ b, k => cntGo b (k - (b.length : Int))
def cntGo : List El → Int → Int
  | [], k => k
  | x :: r, k => if k < 0 then k else cntGo r (x.cnt k)
end
theorem El.cnt_mk (p : Int) (c : Bool) (b : List El) (k : Int) : (El.mk p c b).cnt k = cntGo b (k - (b.length : Int)) := by simp [El.cnt]
theorem cntGo_nil (k : Int) : cntGo [] k = k := by simp [cntGo]
theorem cntGo_cons (x : El) (r : List El) (k : Int) : cntGo (x :: r) k = if k < 0 then k else cntGo r (x.cnt k) := by simp [cntGo]
theorem cntGo_neg {l : List El} {k : Int} (h : k < 0) : cntGo l k = k := by
  cases l with
  | nil => exact cntGo_nil k
  | cons x r => rw [cntGo_cons, if_pos h]
theorem len_pts : ∀ l : List El, l.length ≤ (ptsL l).length
  | [] => by simp
  | .mk p c b :: l => by
    have := len_pts l
    rw [ptsL_cons, El.pts_mk]
    simp
    omega
mutual
theorem El.cnt_ok : ∀ (x : El) (k : Int), ((x.pts.length : Int) - 1 ≤ k → x.cnt k = k - (x.pts.length - 1)) ∧ (k < (x.pts.length : Int) - 1 → x.cnt k < 0)
  | .mk p c b, k => by
    have h := cntGo_ok b (k - (b.length : Int))
    have hl := len_pts b
    rw [El.cnt_mk, El.pts_mk]
    simp only [List.length_cons]
    constructor
    · intro h1
      rw [h.1 (by omega)]
      omega
    · intro h1
      exact h.2 (by omega)
theorem cntGo_ok : ∀ (l : List El) (k : Int), (((ptsL l).length : Int) - l.length ≤ k → cntGo l k = k - (((ptsL l).length : Int) - l.length)) ∧ (k < ((ptsL l).length : Int) - l.length → cntGo l k < 0)
  | [], k => by
    rw [cntGo_nil, ptsL_nil]
    simp
  | x :: l, k => by
    have hx := El.cnt_ok x k
    have h := cntGo_ok l (x.cnt k)
    have hl := len_pts l
    have hp : 1 ≤ x.pts.length := by cases x; rw [El.pts_mk]; simp
    rw [cntGo_cons, ptsL_cons, List.length_append, List.length_cons]
    by_cases hk : k < 0
    · rw [if_pos hk]
      exact ⟨fun h1 => by omega, fun _ => hk⟩
    · rw [if_neg hk]
      by_cases hx1 : (x.pts.length : Int) - 1 ≤ k
      · rw [hx.1 hx1] at h ⊢
        exact ⟨fun h1 => by rw [h.1 (by omega)]; omega, fun h1 => h.2 (by omega)⟩
      · have := hx.2 (by omega)
        rw [cntGo_neg this]
        exact ⟨fun h1 => by omega, fun _ => this⟩
end
/-- A count of elements. -/
def cntV (l : List El) (k : Int) : Int := cntGo l (k - (l.length : Int))
theorem cntV_pos {l : List El} {k : Int} : (0 ≤ k → ((0 ≤ cntV l k) ↔ ((ptsL l).length : Int) ≤ k)) := by
  intro hk
  unfold cntV
  have h := cntGo_ok l (k - (l.length : Int))
  constructor
  · intro h1
    by_cases h2 : ((ptsL l).length : Int) ≤ k
    · exact h2
    · have := h.2 (by omega); omega
  · intro h1
    rw [h.1 (by omega)]
    omega

set_option maxRecDepth 100000 in
set_option maxHeartbeats 4000000 in
theorem count_any {P : Nat → Prop} {w : World} {v : Value} {l : List El} (h : Els P w v l) : ∀ W : World, (∀ p : Addr, W.cell? p = w.cell? p) → ∀ k : Int, 0 ≤ k → k ≤ 1000000 →
    Calls Tryd.prog 43 #[v, .int .i64 k] W fun en w' => en = .returned (.int .i64 (cntV l k)) ∧ (-4000000000000 ≤ cntV l k ∧ cntV l k ≤ k) ∧ w' = W := by
  induction h with
  | mk A c l us hlc hm hz hc hr ih =>
    intro W hW k hk0 hk1
    have HC := Lib.hid hc
    have HIH := Lib.hid ih
    have HR := Lib.hid hr
    have HW := Lib.hid hW
    have hl63 : l.length ≤ 9223372036854775807 := by unfold maxLen at hm; omega
    have hl4 : (l.length : Int) ≤ 3600000000000 := by omega
    have hwn : IntKind.i64.wrap (k - (l.length : Int)) = k - (l.length : Int) := IntWalk.i64_in _ (by omega)
    obtain ⟨q0, hq0⟩ : ∃ q0 : Int, k - (l.length : Int) = q0 := ⟨_, rfl⟩
    have hcv : cntV l k = cntGo l q0 := by unfold cntV; rw [hq0]
    have hb1 : -4000000000000 ≤ q0 := by omega
    have hb2 : q0 ≤ k := by omega
    rw [hcv]
    clear hc hr ih hW hm hwn hcv
    go_enter Tryd.func43, Tryd.ntmps43
    go_wp2
    have HB1 := Lib.hid hb1
    have HB2 := Lib.hid hb2
    have HK1 := Lib.hid hk1
    clear hq0 hb1 hb2 hl4 hk0 hk1
    go_loopw [1, 5] (fun x y wr => ∃ (m : Nat) (q : Int), m ≤ l.length ∧ x = .int .i64 q ∧ y = .int .i64 m ∧ Hid (cntGo (l.drop m) q = cntGo l q0 ∧ -4000000000000 ≤ q ∧ q ≤ k) ∧ wr = W) (fun _ y _ => l.length - (intOf y).toNat)
    case atStart => exact ⟨0, q0, Nat.zero_le _, rfl, rfl, Lib.hid ⟨by rw [List.drop_zero], HB1.out, HB2.out⟩, rfl⟩
    case round =>
      obtain ⟨m, q, hm, rfl, rfl, HQ, rfl⟩ := hrel
      by_cases hlt : m < l.length
      · have hlt1 : (m : Int) < (l.length : Int) := by omega
        have hdr : l.drop m = l[m] :: l.drop (m + 1) := List.drop_eq_getElem_cons hlt
        by_cases hq : 0 ≤ q
        · obtain ⟨ad, hA, hPad, e0, e1, e2, hI⟩ := HC.out m l[m] (List.getElem?_eq_getElem hlt)
          have hih := HIH.out m l[m] (List.getElem?_eq_getElem hlt) wr HW.out q hq (by have := HQ.out.2.2; have := HK1.out; omega)
          obtain ⟨Au, cu, hu, -⟩ := (HR.out m l[m] (List.getElem?_eq_getElem hlt)).shape
          subst hA
          rw [hu] at e2 hih
          rw [← add_add', addrTwo] at e2
          have c2 := (HW.out _).trans e2
          have hnx : cntGo (l.drop (m + 1)) (cntV l[m].body q) = cntGo l q0 := by
            have h1 := HQ.out.1
            rw [hdr, cntGo_cons, if_neg (by omega)] at h1
            rw [← h1]
            generalize l[m] = x
            cases x
            rw [El.cnt_mk]
            rfl
          have HNX := Lib.hid hnx
          have HI := Lib.hid hih
          clear hdr hu e0 e1 e2 hI hPad hih hnx
          revert c2 HNX HI
          generalize cntV l[m].body q = q2
          generalize l[m].body = body
          intro c2 HNX HI
          go_wp2_with (go_at_call 43; refine HI.out.mono ?_; rintro en w5 ⟨rfl, hb5, rfl⟩)
          go_roundw
          case rel => exact ⟨m + 1, q2, by omega, rfl, by go_num, Lib.hid ⟨HNX.out, hb5.1, Int.le_trans hb5.2 HQ.out.2.2⟩, trivial⟩
          case measure => simp [intOf]; omega
        · have hneg : decide (0 ≤ q) = false := by rw [decide_eq_false_iff_not]; exact hq
          have hfin : cntGo l q0 = q := by rw [← HQ.out.1, cntGo_neg (by omega)]
          have HF := Lib.hid hfin
          clear hfin hdr
          go_wp2
          go_ret
          exact ⟨by rw [HF.out]; rfl, by rw [HF.out]; exact HQ.out.2, rfl⟩
      · obtain rfl : m = l.length := by omega
        have hfin : cntGo l q0 = q := by rw [← HQ.out.1, List.drop_length, cntGo_nil]
        have HF := Lib.hid hfin
        clear hfin
        go_wp2
        go_ret
        exact ⟨by rw [HF.out]; rfl, by rw [HF.out]; exact HQ.out.2, rfl⟩
/-- few: at most sixty elements. -/
theorem few_el {P : Nat → Prop} {w : World} {v : Value} {l : List El} (h : Els P w v l) (hP : ∀ b, P b → b < w.heap.size) :
    Calls Tryd.prog 16 #[v] w fun en w' => en = .returned (.bool (decide ((ptsL l).length ≤ 60))) ∧ Below w.heap.size w w' := by
  have hof := of_any h w (fun _ _ => rfl) hP
  have hd : decide (0 ≤ cntV l 60) = decide ((ptsL l).length ≤ 60) := by
    have := cntV_pos (l := l) (k := 60) (by omega)
    rw [decide_eq_decide, this]
    omega
  have HOF := Lib.hid hof
  have HD := Lib.hid hd
  clear hof hd
  go_enter Tryd.func16, Tryd.ntmps16
  go_wp2_with (first | (go_at_call 15; refine HOF.out.mono ?_; rintro en w1 ⟨vo, rfl, h1, hb1⟩) | (go_at_call 43; refine (count_any h1 w1 (fun _ => rfl) 60 (by omega) (by omega)).mono ?_; rintro en w2 ⟨rfl, -, rfl⟩))
  go_ret
  exact ⟨by rw [← HD.out]; rfl, hb1⟩
end Go.Proofs.YthaampinmelgaaaDoor

/-! The heads that points are within form chains. No program here but words of the iterator. -/
namespace Go.Proofs.YthaampinmelgaaaDoor
open Go.RowKit

/-- Heads at a place of the walk: those around, and further ones, each with its own place. -/
def Chained (G : List (El × List Int)) (n0 : Nat) (z : El × List Int) : Prop :=
  ∀ i, n0 ≤ i → i < z.2.length → ∃ y : El, y.c = true ∧ z.2[i]? = some y.p ∧ (y, z.2.take (i + 1)) ∈ G
mutual
theorem walkE_chain : ∀ (x : El) (h : List Int) (G : List (El × List Int)), (∀ z ∈ x.walk h, z ∈ G) → ∀ z ∈ x.walk h, (∃ r, z.2 = h ++ r) ∧ Chained G h.length z ∧ (z.1.c = true → z.1.p ∈ z.2)
  | .mk p c b, h, G, hG, z, hz => by
    rw [El.walk_mk] at hG hz
    rcases List.mem_cons.1 hz with rfl | hz
    · cases c with
      | false => exact ⟨⟨[], by simp⟩, fun i h1 h2 => by simp at h2; omega, fun hc => by simp [El.c] at hc⟩
      | true =>
        refine ⟨⟨[p], by simp⟩, fun i h1 h2 => ?_, fun _ => by simp [El.p]⟩
        simp at h2
        obtain rfl : i = h.length := by omega
        refine ⟨.mk p true b, rfl, by simp [El.p], ?_⟩
        have := hG _ List.mem_cons_self
        have e : (h ++ [p]).take (h.length + 1) = h ++ [p] := List.take_of_length_le (by simp)
        simp only [if_true] at this ⊢
        rw [e]
        exact this
    · obtain ⟨⟨r, hr⟩, hch, hc⟩ := walkL_chain b (if c then h ++ [p] else h) G (fun z hz => hG z (List.mem_cons_of_mem _ hz)) z hz
      cases c with
      | false => exact ⟨⟨r, by simpa using hr⟩, by simpa using hch, hc⟩
      | true =>
        simp only [if_true] at hr hch
        refine ⟨⟨p :: r, by rw [hr]; simp⟩, fun i h1 h2 => ?_, hc⟩
        by_cases hi : i = h.length
        · subst hi
          refine ⟨.mk p true b, rfl, by rw [hr]; simp [El.p], ?_⟩
          have := hG _ List.mem_cons_self
          have e : (h ++ [p] ++ r).take (h.length + 1) = h ++ [p] := by
            rw [List.take_append_of_le_length (by simp), List.take_of_length_le (by simp)]
          rw [hr, e]
          simpa using this
        · exact hch i (by simp; omega) h2
theorem walkL_chain : ∀ (l : List El) (h : List Int) (G : List (El × List Int)), (∀ z ∈ walkL l h, z ∈ G) → ∀ z ∈ walkL l h, (∃ r, z.2 = h ++ r) ∧ Chained G h.length z ∧ (z.1.c = true → z.1.p ∈ z.2)
  | [], h, G, _, z, hz => by rw [walkL_nil] at hz; cases hz
  | x :: l, h, G, hG, z, hz => by
    rw [walkL_cons] at hG hz
    rcases List.mem_append.1 hz with hz | hz
    · exact walkE_chain x h G (fun z hz => hG z (List.mem_append_left _ hz)) z hz
    · exact walkL_chain l h G (fun z hz => hG z (List.mem_append_right _ hz)) z hz
end
section
variable {L : List El} (hn : (ptsL L).Nodup)
include hn
/-- A place of the walk is found by its point. -/
theorem ins_of {z : El × List Int} (hz : z ∈ walkL L []) : insL L z.1.p = some z.2 := by
  have h := walkL_find L [] z.1.p
  have hmap := walkL_pts L []
  rw [← hmap] at hn
  have hf : (walkL L []).find? (fun y => decide (y.1.p = z.1.p)) = some z := by
    revert hz hn
    generalize walkL L [] = G
    intro hn hz
    induction G with
    | nil => cases hz
    | cons y G ih =>
      rw [List.map_cons, List.nodup_cons] at hn
      rcases List.mem_cons.1 hz with rfl | hz
      · simp
      · have hne : y.1.p ≠ z.1.p := fun e => hn.1 (by rw [e]; exact List.mem_map.2 ⟨z, hz, rfl⟩)
        rw [List.find?_cons_of_neg (by simpa using hne)]
        exact ih hn.2 hz
  rw [hf] at h
  simp at h
  cases hi : insL L z.1.p with
  | none => rw [hi] at h; simp at h
  | some r => rw [hi] at h; simp at h; rw [← h]
theorem place_unique {y z : El × List Int} (hy : y ∈ walkL L []) (hz : z ∈ walkL L []) (h : y.1.p = z.1.p) : y = z := by
  rw [← walkL_pts L []] at hn
  obtain ⟨i, hi, rfl⟩ := List.mem_iff_getElem.1 hy
  obtain ⟨j, hj, rfl⟩ := List.mem_iff_getElem.1 hz
  have := (List.getElem_inj (xs := (walkL L []).map fun z => z.1.p) (h₀ := by simpa using hi) (h₁ := by simpa using hj) hn).1 (by simpa using h)
  subst this
  rfl
/-- What the law asks of a point. -/
theorem nest_plain {p : Int} (hp : p ∈ ptsL L) : ∃ hs, insL L p = some hs ∧ (p ∈ hs ↔ p ∈ headsL L) ∧ ∀ i h, hs[i]? = some h → insL L h = some (hs.take (i + 1)) := by
  rw [← walkL_pts L []] at hp
  obtain ⟨z, hz, rfl⟩ := List.mem_map.1 hp
  obtain ⟨-, hch, hc⟩ := walkL_chain L [] (walkL L []) (fun _ h => h) z hz
  refine ⟨z.2, ins_of hn hz, ⟨fun hm => ?_, fun hm => ?_⟩, fun i h hi => ?_⟩
  · obtain ⟨i, hi, he⟩ := List.mem_iff_getElem.1 hm
    obtain ⟨y, hyc, hyp, hyG⟩ := hch i (Nat.zero_le _) hi
    rw [List.getElem?_eq_getElem hi] at hyp
    have := place_unique hn hyG hz (by simp at hyp; rw [← he, hyp])
    rw [← walkL_heads L []]
    refine List.mem_map.2 ⟨z, List.mem_filter.2 ⟨hz, ?_⟩, rfl⟩
    rw [← this]
    exact hyc
  · rw [← walkL_heads L []] at hm
    obtain ⟨y, hy, hyp⟩ := List.mem_map.1 hm
    obtain ⟨hy1, hy2⟩ := List.mem_filter.1 hy
    have := place_unique hn hy1 hz hyp
    subst this
    exact hc hy2
  · have hi' := (List.getElem?_eq_some_iff.1 hi).1
    obtain ⟨y, hyc, hyp, hyG⟩ := hch i (Nat.zero_le _) hi'
    rw [hi] at hyp
    obtain rfl := Option.some.inj hyp
    exact ins_of hn hyG
end
end Go.Proofs.YthaampinmelgaaaDoor

/-! The law WtoNests, walked. -/
namespace Go.Proofs.YthaampinmelgaaaDoor
open Go.RowKit Go.Shelf

/-- right: few, and no error. -/
theorem right_any (w : World) (v : Value) (n exit : Int) (es : List (Int × Int)) (hv : Edges w.heap.size w v es) :
    Calls Tryd.prog 24 #[.agg #[.int .i64 n, .int .i64 exit, v]] w fun en w' => en = .returned (.bool (few n es && decide (chk n exit es = 0))) ∧ Below w.heap.size w w' := by
  have hfw := fun (W : World) (h : GV w W n exit v) => few_any W.heap.size W n exit v es (h.edges hv)
  have hrc := fun (W : World) (h : GV w W n exit v) => rcheck_any W.heap.size W n exit v es (h.edges hv) (Nat.le_refl _)
  have hg0 := GV.start w n exit v
  have HF := Lib.hid hfw
  have HR := Lib.hid hrc
  obtain ⟨A, c, rfl, hlc, -, hm, -⟩ := hv.shape
  clear hfw hrc hv
  cases hb : few n es with
  | false =>
    rw [hb] at HF
    clear hb
    go_enter Tryd.func24, Tryd.ntmps24
    go_wp2_with (go_at_call 10; refine (HF.out _ hg0).mono ?_; rintro en w1 ⟨rfl, hw1⟩; have hg1 := hg0.step hw1)
    go_ret
    exact ⟨rfl, hg1.bel⟩
  | true =>
    rw [hb] at HF
    clear hb
    obtain ⟨e, he⟩ : ∃ e, chk n exit es = e := ⟨_, rfl⟩
    rw [he] at HR ⊢
    clear he
    go_enter Tryd.func24, Tryd.ntmps24
    go_wp2_with (first
      | (go_at_call 10; refine (HF.out _ hg0).mono ?_; rintro en w1 ⟨rfl, hw1⟩; have hg1 := hg0.step hw1; obtain ⟨c0, c1, c2⟩ := hg1.cells)
      | (go_at_call 41; refine (HR.out _ hg1).mono ?_; rintro en w2 ⟨rfl, hw2⟩; have hg2 := hg1.step hw2))
    go_ret
    exact ⟨by rw [Bool.true_and]; rfl, hg2.bel⟩

/-- What the law leans on behind Order. -/
structure NSt (w W : World) (va vh vp : Value) (L : List El) : Prop where
  el : EL W va L
  hd : Ints W.heap.size W vh (headsL L)
  pt : Ints W.heap.size W vp (ptsL L)
  bel : Below w.heap.size w W
theorem NSt.step {w W W' : World} {va vh vp : Value} {L : List El} (h : NSt w W va vh vp L) (hb : Below W.heap.size W W') : NSt w W' va vh vp L :=
  ⟨h.el.step hb, (h.hd.below hb).more hb.size, (h.pt.below hb).more hb.size, h.bel.trans (hb.mono h.bel.size)⟩
theorem Ints.ofOwn {w : World} {base : Nat} {e : TypeId} {v : Value} {xs : List Int} (h : w.ownsRow base e 1 v xs.length (xs.map (Value.int .i64))) : Ints w.heap.size w v xs := Sl.of_own (R := RInt) (Value.int .i64) (fun _ _ => rfl) h
theorem Ints.pre {B : Nat} {w : World} {A : Option Addr} {k c : Nat} {xs : List Int} (h : Ints B w (.slice A xs.length c) xs) (hk : k ≤ xs.length) : Ints B w (.slice A k c) (xs.take k) := by
  obtain ⟨A', c', he, h1, h2, h3⟩ := h
  cases he
  refine ⟨A, c, by rw [List.length_take, Nat.min_eq_left hk], by rw [List.length_take]; omega, h2, fun j x hx => ?_⟩
  rw [List.getElem?_take] at hx
  split at hx
  · exact h3 j x hx
  · cases hx

theorem len_of_range : ∀ {N : Nat} {l : List Int}, l.Nodup → (∀ p ∈ l, 0 ≤ p ∧ p < (N : Int)) → l.length ≤ N
  | 0, l, _, h => by
    cases l with
    | nil => simp
    | cons x r => have := h x List.mem_cons_self; omega
  | N + 1, l, hn, h => by
    have h1 := len_of_range (N := N) (l := l.filter fun p => decide (p ≠ (N : Int))) (hn.filter _) (fun p hp => by
      obtain ⟨h1, h2⟩ := List.mem_filter.1 hp
      have := h p h1
      simp at h2
      omega)
    have h2 : l.length ≤ (l.filter fun p => decide (p ≠ (N : Int))).length + 1 := by
      clear h1 h
      induction l with
      | nil => simp
      | cons x r ih =>
        rw [List.nodup_cons] at hn
        by_cases hx : x = (N : Int)
        · subst hx
          have : r.filter (fun p => decide (p ≠ (N : Int))) = r := by
            rw [List.filter_eq_self]
            intro a ha
            simp
            rintro rfl
            exact hn.1 ha
          rw [List.filter_cons_of_neg (by simp), this]
          simp
        · rw [List.filter_cons_of_pos (by simpa using hx)]
          have := ih hn.2
          simp only [List.length_cons]
          omega
    omega

set_option maxRecDepth 100000 in
set_option maxHeartbeats 4000000 in
theorem nestsL_any (w : World) (v : Value) (n exit : Int) (es : List (Int × Int)) (hv : Edges w.heap.size w v es) :
    Calls Tryd.prog 9 #[.agg #[.int .i64 n, .int .i64 exit, v]] w fun en w' => en = .returned (.bool true) ∧ Below w.heap.size w w' := by
  have hright := fun (W : World) (h : GV w W n exit v) => right_any W v n exit es (h.edges hv)
  have hg0 := GV.start w n exit v
  by_cases hb : (few n es && decide (chk n exit es = 0)) = true
  · simp only [Bool.and_eq_true, decide_eq_true_eq] at hb
    obtain ⟨hfew, hc⟩ := hb
    have hfe : (few n es && decide (chk n exit es = 0)) = true := by simp [hfew, hc]
    rw [hfe] at hright
    obtain ⟨N, E, rfl, rfl, hg⟩ := chk_ok hc
    obtain ⟨k, r, hr, -, hI, hlen, hpts⟩ := order_plain hg.lt hg.n1 hg.n512
    have hord : ∀ (W : World), GV w W (N : Int) exit v → Calls Tryd.prog 12 #[.agg #[.int .i64 (N : Int), .int .i64 exit, v]] W fun en w' => ∃ vo, en = .returned (.tuple #[vo, .int .i64 0]) ∧ EL w' vo r.2.1 ∧ Below W.heap.size W w' := fun W h =>
      (order_ok W.heap.size W v N exit E (h.edges hv) (Nat.le_refl _) hg k r hr (by omega)).mono (fun en w' ⟨vo, he, h1, h2⟩ => ⟨vo, he, h1.mono (fun b hb => hb.2), h2⟩)
    have hN : N ≤ 16 := by
      unfold few at hfew
      simp at hfew
      omega
    have hpl : (ptsL r.2.1).length ≤ 60 := by
      have := len_of_range hI.nodup hpts
      omega
    have hnest := fun p hp => nest_plain (L := r.2.1) (p := p) hI.nodup hp
    revert hord hpl hnest
    generalize r.2.1 = L
    intro hord hpl hnest
    have HF := Lib.hid hright
    have HO := Lib.hid hord
    have HN := Lib.hid hnest
    have hdl : decide ((ptsL L).length ≤ 60) = true := decide_eq_true hpl
    have HPL := Lib.hid hpl
    have HDL := Lib.hid hdl
    obtain ⟨A, c, rfl, hlc, -, hm, -⟩ := hv.shape
    generalize (N : Int) = n at *
    clear hright hord hnest hpl hdl hv hfew hc hfe hg hr hI hlen hpts hN
    go_enter Tryd.func9, Tryd.ntmps9
    go_upto_region 6 with (first
      | (go_at_call 24; refine (HF.out _ hg0).mono ?_; rintro en w1 ⟨rfl, hw1⟩; have hg1 := hg0.step hw1; obtain ⟨c0, c1, c2⟩ := hg1.cells)
      | (go_at_call 12; refine (HO.out _ hg1).mono ?_; rintro en w2 ⟨va, rfl, hva, hw2⟩; have hg2 := hg1.step hw2; clear c0 c1 c2)
      | (go_at_call 16; refine (few_el hva (fun _ h => h)).mono ?_; rintro en w3 ⟨rfl, hw3⟩; rw [HDL.out]; have hg3 := hg2.step hw3; have hva3 := EL.step hva hw3))
    clear hg0 hg1 hg2 hw1 hw2 hw3 hva
    have hb3 := hg3.bel
    clear hg3 HF HO HDL
    go_upto_region 8 with (first
      | (go_at_call 33; refine (heads_any hva3 (fun _ h => h) (by have := HPL.out; omega)).mono ?_; rintro en w4 ⟨vh, rfl, hoh, hw4⟩; have hva4 := EL.step hva3 hw4; have hih := Ints.ofOwn hoh)
      | (go_at_call 26; refine (flat_any hva4 (fun _ h => h) (by have := HPL.out; omega)).mono ?_; rintro en w5 ⟨vp, rfl, hop, hw5⟩; have hva5 := EL.step hva4 hw5; have hih5 := (Ints.below hih hw5).more hw5.size; have hip := Ints.ofOwn hop; obtain ⟨Ap, cp, rfl, -, -, hmp, -⟩ := hip.shape))
    have hn0 : NSt w w5 va vh (.slice Ap (ptsL L).length cp) L := ⟨hva5, hih5, hip, (hb3.trans (hw4.mono hb3.size)).trans (hw5.mono (Nat.le_trans hb3.size hw4.size))⟩
    clear hva3 hva4 hva5 hih hih5 hoh hop hip hw4 hw5 hb3
    go_loopw [35] (fun y wr => ∃ (m : Nat), m ≤ (ptsL L).length ∧ y = .int .i64 m ∧ NSt w wr va vh (.slice Ap (ptsL L).length cp) L) (fun y _ => (ptsL L).length - (intOf y).toNat)
    case atStart => exact ⟨0, Nat.zero_le _, rfl, hn0⟩
    case round =>
      obtain ⟨m, hm, rfl, hs⟩ := hrel
      by_cases hlt : m < (ptsL L).length
      · have hlt1 : (m : Int) < ((ptsL L).length : Int) := by omega
        obtain ⟨A', c', he', -, -, -, hat⟩ := hs.pt.shape
        cases he'
        obtain ⟨ad, u, rfl, hbl, hcl, hru⟩ := hat m _ (List.getElem?_eq_getElem hlt)
        obtain rfl : u = .int .i64 (ptsL L)[m] := hru
        obtain ⟨hs1, hins, hmem, hch⟩ := HN.out _ (List.getElem_mem hlt)
        have hwin := within_any hs.el (fun _ h => h) (by have := HPL.out; omega) (ptsL L)[m]
        unfold WinPost wErr wHeads at hwin
        rw [hins] at hwin
        revert hcl hwin hmem hins
        generalize (ptsL L)[m] = p
        intro hcl hins hmem hwin
        simp only [Option.isSome_some, if_true, Option.getD_some] at hwin
        have HW := Lib.hid hwin
        have HS := Lib.hid hs
        have HCH := Lib.hid hch
        have HMM := Lib.hid hmem
        clear hwin hs hch hmem hat hbl hins
        go_upto_region 11 with (go_at_call 29; refine HW.out.mono ?_; rintro en w6 ⟨vi, rfl, hoi, hw6⟩)
        have hs6 := HS.out.step hw6
        have hii := Ints.ofOwn hoi
        have hc1 := contains_any w6.heap.size w6 vi hs1 p hii
        have hc2 := fun t (ht : Only (fun _ => False) w6 t) => contains_any w6.heap.size t vh (headsL L) p (Ints.only hs6.hd ht (Nat.le_refl _))
        have hbe : (headsL L).contains p = hs1.contains p := by
          by_cases h : p ∈ hs1
          · rw [List.contains_iff_mem.2 h, List.contains_iff_mem.2 (HMM.out.1 h)]
          · have h2 : p ∉ headsL L := fun h3 => h (HMM.out.2 h3)
            have e1 : hs1.contains p = false := by simpa using h
            have e2 : (headsL L).contains p = false := by simpa using h2
            rw [e1, e2]
        rw [hbe] at hc2
        obtain ⟨Ai, ci, rfl, hli, -, hmi, -⟩ := hii.shape
        have HC1 := Lib.hid hc1
        have HC2 := Lib.hid hc2
        have HS6 := Lib.hid hs6
        have HII := Lib.hid hii
        clear hc1 hc2 hs6 hii hoi hw6 hbe hcl
        generalize hs1.contains p = cb at *
        clear HS HW HMM
        go_upto_region 14 with (first
          | (go_at_call 27; (with_reducible refine HC1.out.mono ?_); rintro en w7 ⟨rfl, ho7⟩)
          | (go_at_call 27; (with_reducible refine (HC2.out _ ho7).mono ?_); rintro en w8 ⟨rfl, ho8⟩))
        have hbw8 : Below w6.heap.size w6 w8 := (ho7.below (Nat.le_refl _) (fun _ _ f => f)).trans (ho8.below ho7.size (fun _ _ f => f))
        have hs8 := HS6.out.step hbw8
        have hi8 := (Ints.below HII.out hbw8).more hbw8.size
        clear ho7 ho8 hbw8 HS6 HII HC1 HC2
        obtain ⟨wq, rfl⟩ : ∃ wq : World, wq = wr := ⟨_, rfl⟩
        go_loopw [58] (fun y wr => ∃ (i : Nat), i ≤ hs1.length ∧ y = .int .i64 i ∧ NSt w wr va vh (.slice (some ad) (ptsL L).length cp) L ∧ Ints wr.heap.size wr (.slice Ai hs1.length ci) hs1) (fun y _ => hs1.length - (intOf y).toNat)
        case atStart => exact ⟨0, Nat.zero_le _, rfl, hs8, hi8⟩
        case round =>
          obtain ⟨i, hi, rfl, hs, hin⟩ := hrel
          by_cases hil : i < hs1.length
          · have hil1 : (i : Int) < (hs1.length : Int) := by omega
            obtain ⟨A2, c2', he2, -, -, -, hat2⟩ := hin.shape
            cases he2
            obtain ⟨ad2, u2, rfl, hbl2, hcl2, hru2⟩ := hat2 i _ (List.getElem?_eq_getElem hil)
            obtain rfl : u2 = .int .i64 hs1[i] := hru2
            have hins2 := HCH.out i _ (List.getElem?_eq_getElem hil)
            have hwin := within_any hs.el (fun _ h => h) (by have := HPL.out; omega) hs1[i]
            unfold WinPost wErr wHeads at hwin
            rw [hins2] at hwin
            revert hcl2 hwin hins2
            generalize hs1[i] = h
            intro hcl2 hins2 hwin
            simp only [Option.isSome_some, if_true, Option.getD_some] at hwin
            have HW := Lib.hid hwin
            have HS := Lib.hid hs
            have HIN := Lib.hid hin
            have hi64 : (i : Int) + 1 ≤ 9223372036854775807 := by omega
            have hic : i + 1 ≤ ci := by omega
            have hic2 : (i : Int) + 1 ≤ (ci : Int) := by omega
            clear hwin hs hin hat2 hbl2 hins2 hs8 hi8
            go_upto_region 17 with (go_at_call 29; refine HW.out.mono ?_; rintro en w9 ⟨vj, rfl, hoj, hw9⟩)
            have hs9 := HS.out.step hw9
            have hi9 := (Ints.below HIN.out hw9).more hw9.size
            have hij := Ints.ofOwn hoj
            have hpre := Ints.pre hi9 (k := i + 1) (by omega)
            have heq := equal_true hij hpre
            have HEQ := Lib.hid heq
            have HS9 := Lib.hid hs9
            have HI9 := Lib.hid hi9
            clear hs9 hi9 hij hpre heq hoj hw9 hcl2
            go_wp2_with (go_at_call 31; refine HEQ.out.mono ?_; rintro en w10 ⟨rfl, hw10⟩)
            go_roundw
            case rel => exact ⟨i + 1, by omega, by go_num, HS9.out.step hw10, (Ints.below HI9.out hw10).more hw10.size⟩
            case measure => simp [intOf]; omega
          · obtain rfl : i = hs1.length := by omega
            clear hs8 hi8 hin
            have HS := Lib.hid hs
            clear hs
            go_wp2
            go_roundw
            case rel => exact ⟨m + 1, by omega, by go_num, HS.out⟩
            case measure => simp [intOf]; omega
      · obtain rfl : m = (ptsL L).length := by omega
        have hbe := hs.bel
        clear hs
        go_wp2_with (go_at_call 11; refine (awake_any wr).mono ?_; rintro en w6 ⟨rfl, hw6⟩)
        go_ret
        exact ⟨rfl, hbe.trans (hw6.mono hbe.size)⟩
  · have hfe : (few n es && decide (chk n exit es = 0)) = false := by simpa using hb
    rw [hfe] at hright
    have HF := Lib.hid hright
    obtain ⟨A, c, rfl, hlc, -, hm, -⟩ := hv.shape
    clear hright hv hb hfe
    go_enter Tryd.func9, Tryd.ntmps9
    go_wp2_with (first
      | (go_at_call 24; refine (HF.out _ hg0).mono ?_; rintro en w1 ⟨rfl, hw1⟩; have hg1 := hg0.step hw1)
      | (go_at_call 11; refine (awake_any w1).mono ?_; rintro en w2 ⟨rfl, hw2⟩; have hg2 := hg1.step hw2))
    go_ret
    exact ⟨rfl, hg2.bel⟩
end Go.Proofs.YthaampinmelgaaaDoor
