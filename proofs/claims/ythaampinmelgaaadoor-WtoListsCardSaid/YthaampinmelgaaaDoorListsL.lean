/- The law WtoLists, walked: numbers have texts by the table. -/
import Derived.Test.YthaampinmelgaaaDoorNest
import Derived.Test.YthaampinmelgaaaDoorText
import Derived.Lib.LaidTab
import Derived.Lib.ItoaLen
import Derived.Stop.LaidErr
import Derived.Lib.AppendIntMem
namespace Go.Proofs.YthaampinmelgaaaDoor
open Go.RowKit Go.Shelf

theorem g10' : Tryd.prog.globalNamed "internal/strconv.uint64pow10" = some 0 := by kernel_rfl
theorem tab_below {w w' : World} {B : Nat} (h : Lib.TabIs Tryd.prog w "internal/strconv.uint64pow10" .u64 Lib.pow10Tab) (hB : 0 < B) (hb : Below B w w') : Lib.TabIs Tryd.prog w' "internal/strconv.uint64pow10" .u64 Lib.pow10Tab := by
  unfold Lib.TabIs World.var? at h ⊢
  rw [g10'] at h ⊢
  simp only [Option.bind_some] at h ⊢
  rw [hb.block 0 hB]
  exact h
theorem tab_size {w : World} (h : Lib.TabIs Tryd.prog w "internal/strconv.uint64pow10" .u64 Lib.pow10Tab) : 0 < w.heap.size := by
  unfold Lib.TabIs World.var? at h
  rw [g10'] at h
  simp only [Option.bind_some] at h
  rcases Nat.lt_or_ge 0 w.heap.size with h' | h'
  · exact h'
  · rw [Array.getElem?_eq_none h'] at h; cases h
theorem itoa_all {w : World} (h : Lib.TabIs Tryd.prog w "internal/strconv.uint64pow10" .u64 Lib.pow10Tab) : NumOk w.heap.size w InI64 := by
  rintro p ⟨h0, h1⟩ W hb
  refine (Any.strconv_Itoa Tryd.laysM171 p h0 h1 W (tab_below h (tab_size h) hb)).mono ?_
  rintro en w' ⟨rfl, k, os, rfl⟩
  exact ⟨rfl, Lib.below_grow _ _ (Nat.le_refl _) _ _⟩
theorem els_i64 {P : Nat → Prop} {w : World} {v : Value} {l : List El} (h : Els P w v l) : ∀ p ∈ ptsL l, InI64 p := by
  induction h with
  | mk A c l us hlc hm hz hc hr ih =>
    have key : ∀ (k : List El), (∀ x ∈ k, InI64 x.p ∧ ∀ p ∈ ptsL x.body, InI64 p) → ∀ p ∈ ptsL k, InI64 p := by
      intro k
      induction k with
      | nil => intro _ p hp; rw [ptsL_nil] at hp; cases hp
      | cons x k ihk =>
        intro hk p hp
        rw [ptsL_cons, El.pts_eq, List.mem_append, List.mem_cons] at hp
        rcases hp with (rfl | hp) | hp
        · exact (hk x List.mem_cons_self).1
        · exact (hk x List.mem_cons_self).2 p hp
        · exact ihk (fun y hy => hk y (List.mem_cons_of_mem _ hy)) p hp
    refine key l fun x hx => ?_
    obtain ⟨j, hj⟩ := List.mem_iff_getElem?.1 hx
    obtain ⟨ad, -, -, -, -, -, hI⟩ := hc j x hj
    exact ⟨hI, ih j x hj⟩
mutual
theorem El.fmt_len : ∀ (x : El), (∀ p ∈ x.pts, InI64 p) → x.fmt.length + 1 ≤ 26 * x.pts.length
  | .mk p c b, h => by
    rw [El.pts_mk] at h
    have h1 := h p List.mem_cons_self
    have h2 := fmtL_len b (fun q hq => h q (List.mem_cons_of_mem _ hq))
    have h3 := Lib.itoa_length_le p h1.1 h1.2
    rw [El.fmt_mk, El.pts_mk, List.length_cons]
    unfold fmtL at h2
    split
    · split
      · simp only [List.length_cons, List.length_append, List.length_nil]; omega
      · simp only [List.length_cons, List.length_append, List.length_nil]; omega
    · omega
theorem fmtL_len : ∀ (l : List El), (∀ p ∈ ptsL l, InI64 p) → (fmtL l).length ≤ 26 * (ptsL l).length
  | [], _ => by simp [fmtL, fmtsL, Lib.join_nil]
  | x :: l, h => by
    rw [ptsL_cons] at h
    have h1 := El.fmt_len x (fun q hq => h q (List.mem_append_left _ hq))
    have h2 := fmtL_len l (fun q hq => h q (List.mem_append_right _ hq))
    rw [ptsL_cons, List.length_append]
    have h3 : (fmtL (x :: l)).length ≤ x.fmt.length + 1 + (fmtL l).length := by
      unfold fmtL
      rw [show fmtsL (x :: l) = x.fmt :: fmtsL l by simp [fmtsL], Lib.join_cons]
      cases fmtsL l with
      | nil => simp [Lib.joinTail]; omega
      | cons y r => rw [Lib.join_cons]; simp [Lib.joinTail]; omega
    omega
end

/-- What the law leans on. -/
structure LSt (w W : World) (v vo : Value) (l : List El) : Prop where
  v : EL W v l
  vo : EL W vo l
  bel : Below w.heap.size w W
theorem LSt.step {w W W' : World} {v vo : Value} {l : List El} (h : LSt w W v vo l) (hb : Below W.heap.size W W') : LSt w W' v vo l := ⟨h.v.step hb, h.vo.step hb, h.bel.trans (hb.mono h.bel.size)⟩
theorem Ints.step' {W W' : World} {v : Value} {xs : List Int} (h : Ints W.heap.size W v xs) (hb : Below W.heap.size W W') : Ints W'.heap.size W' v xs := (Ints.below h hb).more hb.size

set_option maxRecDepth 100000 in
set_option maxHeartbeats 4000000 in
theorem listsL_any (w : World) (v : Value) (l : List El) (h : EL w v l) (q : Int) (_ : (Lit.int .i64 q).wf = true) (htab : Lib.TabIs Tryd.prog w "internal/strconv.uint64pow10" .u64 Lib.pow10Tab) :
    Calls Tryd.prog 8 #[v, .int .i64 q] w fun en w' => en = .returned (.bool true) ∧ Below w.heap.size w w' := by
  have hfew := few_el h (fun _ h => h)
  by_cases hp : (ptsL l).length ≤ 60
  · rw [decide_eq_true hp] at hfew
    have HF := Lib.hid hfew
    have hfl : (fmtL l).length ≤ 1000000000 := by
      have := fmtL_len l (els_i64 h)
      omega
    have hp6 : (ptsL l).length ≤ 1000000 := by omega
    have hnum := itoa_all htab
    have hform := fun (W : World) (hs : EL W v l) (hb : Below w.heap.size w W) => format_any hnum hs W (fun _ _ => rfl) (fun _ h => h) hb hb.size (els_i64 h) hfl
    have HFO := Lib.hid hform
    have HFL := Lib.hid hfl
    have HP := Lib.hid hp6
    have H0 := Lib.hid h
    clear hfew hp hfl hp6 hnum hform htab h
    go_enter Tryd.func8, Tryd.ntmps8
    go_upto_region 6 with (first
      | (go_at_call 16; refine HF.out.mono ?_; rintro en w1 ⟨rfl, hw1⟩; have he1 := H0.out.step hw1)
      | (go_at_call 15; refine (of_any he1 w1 (fun _ _ => rfl) (fun _ h => h)).mono ?_; rintro en w2 ⟨vo, rfl, hvo, hw2⟩; have hs2 : LSt w w2 v vo l := ⟨he1.step hw2, hvo.mono (fun b hb => hb.2.lt), hw1.trans (hw2.mono hw1.size)⟩)
      | (go_at_call 29; refine (within_any hs2.v (fun _ h => h) HP.out q).mono ?_; rintro en w3 ⟨va, rfl, hoa, hw3⟩; have hs3 := hs2.step hw3; have hia := Ints.ofOwn hoa)
      | (go_at_call 30; refine (rwithin_any hs3.vo q (fun _ h => h) HP.out).mono ?_; rintro en w4 ⟨vb, rfl, hob, hw4⟩; have hs4 := hs3.step hw4; have hia4 := Ints.step' hia hw4; have hib := Ints.ofOwn hob))
    clear he1 hw1 hw2 hvo hs2 hoa hw3 hs3 hia hob hw4
    go_wp2_with (first
      | (go_at_call 26; refine (flat_any hs4.v (fun _ h => h) HP.out).mono ?_; rintro en w5 ⟨vc, rfl, hoc, hw5⟩; have hs5 := hs4.step hw5; have hia5 := Ints.step' hia4 hw5; have hib5 := Ints.step' hib hw5; have hic5 := Ints.ofOwn hoc)
      | (go_at_call 32; refine (rflat_any hs5.vo w5 (fun _ _ => rfl) (fun _ h => h) HP.out).mono ?_; rintro en w6 ⟨vd, rfl, hod, hw6⟩; have hs6 := hs5.step hw6; have hia6 := Ints.step' hia5 hw6; have hib6 := Ints.step' hib5 hw6; have hic6 := Ints.step' hic5 hw6; have hid6 := Ints.ofOwn hod)
      | (go_at_call 33; refine (heads_any hs7.v (fun _ h => h) HP.out).mono ?_; rintro en w8 ⟨ve, rfl, hoe, hw8⟩; have hs8 := hs7.step hw8; have hia8 := Ints.step' hia7 hw8; have hib8 := Ints.step' hib7 hw8; have hie8 := Ints.ofOwn hoe)
      | (go_at_call 34; refine (rheads_any hs8.vo w8 (fun _ _ => rfl) (fun _ h => h) HP.out).mono ?_; rintro en w9 ⟨vf, rfl, hof, hw9⟩; have hs9 := hs8.step hw9; have hia9 := Ints.step' hia8 hw9; have hib9 := Ints.step' hib8 hw9; have hie9 := Ints.step' hie8 hw9; have hif9 := Ints.ofOwn hof)
      | (go_at_call 31; (with_reducible refine (equal_true hic6 hid6).mono ?_); rintro en w7 ⟨rfl, hw7⟩; have hs7 := hs6.step hw7; have hia7 := Ints.step' hia6 hw7; have hib7 := Ints.step' hib6 hw7)
      | (go_at_call 31; (with_reducible refine (equal_true hie9 hif9).mono ?_); rintro en w10 ⟨rfl, hw10⟩; have hs10 := hs9.step hw10; have hia10 := Ints.step' hia9 hw10; have hib10 := Ints.step' hib9 hw10)
      | (go_at_call 31; (with_reducible refine (equal_true hia10 hib10).mono ?_); rintro en w11 ⟨rfl, hw11⟩; have hs11 := hs10.step hw11)
      | (go_at_call 23; refine (HFO.out w11 hs11.v hs11.bel).mono ?_; rintro en w12 ⟨rfl, hw12⟩; have hs12 := hs11.step hw12)
      | (go_at_call 35; refine (rtext_any hs12.vo w12 (fun _ => rfl) HFL.out).mono ?_; rintro en w13 ⟨rfl, k13, rfl⟩; have hs13 := hs12.step (below_drewN' (Below.refl _ _) k13))
      | (go_at_call 11; refine (awake_any _).mono ?_; rintro en w14 ⟨rfl, hw14⟩; have hs14 := hs13.step hw14))
    go_ret
    exact ⟨rfl, hs14.bel⟩
  · rw [decide_eq_false hp] at hfew
    have HF := Lib.hid hfew
    clear hfew hp htab h
    go_enter Tryd.func8, Tryd.ntmps8
    go_wp2_with (first
      | (go_at_call 16; refine HF.out.mono ?_; rintro en w1 ⟨rfl, hw1⟩)
      | (go_at_call 11; refine (awake_any w1).mono ?_; rintro en w2 ⟨rfl, hw2⟩))
    go_ret
    exact ⟨rfl, hw1.trans (hw2.mono hw1.size)⟩
end Go.Proofs.YthaampinmelgaaaDoor
