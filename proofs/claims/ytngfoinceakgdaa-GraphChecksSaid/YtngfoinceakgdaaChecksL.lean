/- The law GraphChecks, walked. -/
import Derived.Test.YtngfoinceakgdaaRefChk
import Derived.Test.YtngfoinceakgdaaAwake
import Derived.Test.YtngfoinceakgdaaGV
namespace Go.Proofs.Ytngfoinceakgdaa
open Go.RowKit Go.Shelf

theorem out_pair (n exit : Int) (es : List (Int × Int)) : ∃ (R : List (List Nat)) (e : Int),
    (∀ (B : Nat) (w : World) (v : Value), Edges B w v es → B ≤ w.heap.size → Calls Try.prog 35 #[.agg #[.int .i64 n, .int .i64 exit, v]] w fun en w' => ∃ vo, en = .returned (.tuple #[vo, .int .i64 e]) ∧ Natss w'.heap.size w' vo R ∧ Below w.heap.size w w') ∧
    (∀ (B : Nat) (w : World) (v : Value), Edges B w v es → B ≤ w.heap.size → Calls Try.prog 36 #[.agg #[.int .i64 n, .int .i64 exit, v]] w fun en w' => ∃ vo, en = .returned (.tuple #[vo, .int .i64 e]) ∧ Natss w'.heap.size w' vo R ∧ Below w.heap.size w w') := by
  by_cases hc : chk n exit es = 0
  · obtain ⟨N, E, rfl, rfl, hg⟩ := chk_ok hc
    exact ⟨_, 0, fun B w v hv hB => out_ok B w v N exit E hv hB hg, fun B w v hv hB => rout_ok B w v N exit E hv hB hg⟩
  · exact ⟨[], chk n exit es, fun B w v hv hB => (out_bad B w v n exit es hv hB hc).mono fun en w' h => ⟨_, h.1, Sl.nil _ _ _, h.2⟩, fun B w v hv hB => (rout_bad B w v n exit es hv hB hc).mono fun en w' h => ⟨_, h.1, Sl.nil _ _ _, h.2⟩⟩
theorem in_pair (n exit : Int) (es : List (Int × Int)) : ∃ (R : List (List Nat)) (e : Int),
    (∀ (B : Nat) (w : World) (v : Value), Edges B w v es → B ≤ w.heap.size → Calls Try.prog 37 #[.agg #[.int .i64 n, .int .i64 exit, v]] w fun en w' => ∃ vo, en = .returned (.tuple #[vo, .int .i64 e]) ∧ Natss w'.heap.size w' vo R ∧ Below w.heap.size w w') ∧
    (∀ (B : Nat) (w : World) (v : Value), Edges B w v es → B ≤ w.heap.size → Calls Try.prog 38 #[.agg #[.int .i64 n, .int .i64 exit, v]] w fun en w' => ∃ vo, en = .returned (.tuple #[vo, .int .i64 e]) ∧ Natss w'.heap.size w' vo R ∧ Below w.heap.size w w') := by
  by_cases hc : chk n exit es = 0
  · obtain ⟨N, E, rfl, rfl, hg⟩ := chk_ok hc
    exact ⟨_, 0, fun B w v hv hB => in_ok B w v N exit E hv hB hg, fun B w v hv hB => rin_ok B w v N exit E hv hB hg⟩
  · exact ⟨[], chk n exit es, fun B w v hv hB => (in_bad B w v n exit es hv hB hc).mono fun en w' h => ⟨_, h.1, Sl.nil _ _ _, h.2⟩, fun B w v hv hB => (rin_bad B w v n exit es hv hB hc).mono fun en w' h => ⟨_, h.1, Sl.nil _ _ _, h.2⟩⟩
theorem reach_pair (n exit from_ : Int) (es : List (Int × Int)) : ∃ (R : List Bool) (e : Int),
    (∀ (B : Nat) (w : World) (v : Value), Edges B w v es → B ≤ w.heap.size → Calls Try.prog 31 #[.agg #[.int .i64 n, .int .i64 exit, v], .int .i64 from_] w fun en w' => ∃ vo, en = .returned (.tuple #[vo, .int .i64 e]) ∧ Bools w'.heap.size w' vo R ∧ Below w.heap.size w w') ∧
    (∀ (B : Nat) (w : World) (v : Value), Edges B w v es → B ≤ w.heap.size → Calls Try.prog 39 #[.agg #[.int .i64 n, .int .i64 exit, v], .int .i64 from_] w fun en w' => ∃ vo, en = .returned (.tuple #[vo, .int .i64 e]) ∧ Bools w'.heap.size w' vo R ∧ Below w.heap.size w w') := by
  by_cases hc : chk n exit es = 0
  · obtain ⟨N, E, rfl, rfl, hg⟩ := chk_ok hc
    by_cases hf : from_ < 0 ∨ (N : Int) ≤ from_
    · exact ⟨[], 6, fun B w v hv hB => (reachable_none B w v N exit from_ E hv hB hg hf).mono fun en w' h => ⟨_, h.1, Sl.nil _ _ _, h.2⟩, fun B w v hv hB => (rreachable_none B w v N exit from_ E hv hB hg hf).mono fun en w' h => ⟨_, h.1, Sl.nil _ _ _, h.2⟩⟩
    · obtain ⟨f, rfl⟩ : ∃ f : Nat, from_ = f := ⟨from_.toNat, by omega⟩
      refine ⟨(List.range N).map (rB N E (-1) f), 0, fun B w v hv hB => ?_, fun B w v hv hB => rreachable_ok B w v N exit E hv hB hg f (by omega)⟩
      refine (reach_sem B w v hv hB hg f (by omega)).mono ?_
      rintro en w' ⟨vo, l, he, hb, hl, hr, hw⟩
      refine ⟨vo, he, ?_, hw⟩
      have : l = (List.range N).map (rB N E (-1) f) := by
        apply List.ext_getElem
        · simp [hl]
        · intro i h1 h2
          rw [List.getElem_map, List.getElem_range]
          have h3 := hr i
          rw [List.getD_eq_getElem?_getD, List.getElem?_eq_getElem h1] at h3
          exact eq_bP (h3.trans ⟨fun h => h.mono fun _ _ => by omega, fun h => h.mono fun _ _ => trivial⟩)
      rw [← this]
      exact hb
  · exact ⟨[], chk n exit es, fun B w v hv hB => (reachable_bad B w v n exit from_ es hv hB hc).mono fun en w' h => ⟨_, h.1, Sl.nil _ _ _, h.2⟩, fun B w v hv hB => (rreachable_bad B w v n exit from_ es hv hB hc).mono fun en w' h => ⟨_, h.1, Sl.nil _ _ _, h.2⟩⟩

set_option maxRecDepth 100000 in
set_option maxHeartbeats 4000000 in
theorem checksL_any (w : World) (v : Value) (n exit : Int) (es : List (Int × Int)) (hv : Edges w.heap.size w v es) (fr : Int) (_hf : (Lit.int .i64 fr).wf = true) :
    Calls Try.prog 9 #[.agg #[.int .i64 n, .int .i64 exit, v], .int .i64 fr] w fun en w' => en = .returned (.bool true) ∧ Below w.heap.size w w' := by
  obtain ⟨R1, e1, hp1, hp2⟩ := out_pair n exit es
  obtain ⟨R2, e2, hp3, hp4⟩ := in_pair n exit es
  obtain ⟨R3, e3, hp5, hp6⟩ := reach_pair n exit fr es
  have hfw := fun (W : World) (h : GV w W n exit v) => few_any W.heap.size W n exit v es (h.edges hv)
  have h1 := fun (W : World) (h : GV w W n exit v) => hp1 W.heap.size W v (h.edges hv) (Nat.le_refl _)
  have h2 := fun (W : World) (h : GV w W n exit v) => hp2 W.heap.size W v (h.edges hv) (Nat.le_refl _)
  have h3 := fun (W : World) (h : GV w W n exit v) => hp3 W.heap.size W v (h.edges hv) (Nat.le_refl _)
  have h4 := fun (W : World) (h : GV w W n exit v) => hp4 W.heap.size W v (h.edges hv) (Nat.le_refl _)
  have h5 := fun (W : World) (h : GV w W n exit v) => hp5 W.heap.size W v (h.edges hv) (Nat.le_refl _)
  have h6 := fun (W : World) (h : GV w W n exit v) => hp6 W.heap.size W v (h.edges hv) (Nat.le_refl _)
  have h7 := fun (W : World) (h : GV w W n exit v) => check_any W.heap.size W n exit v es (h.edges hv) (Nat.le_refl _)
  have h8 := fun (W : World) (h : GV w W n exit v) => rcheck_any W.heap.size W n exit v es (h.edges hv) (Nat.le_refl _)
  have hg0 := GV.start w n exit v
  have HF := Lib.hid hfw
  have H1 := Lib.hid h1
  have H2 := Lib.hid h2
  have H3 := Lib.hid h3
  have H4 := Lib.hid h4
  have H5 := Lib.hid h5
  have H6 := Lib.hid h6
  have H7 := Lib.hid h7
  have H8 := Lib.hid h8
  obtain ⟨A, c, rfl, hlc, -, hm, -⟩ := hv.shape
  clear hp1 hp2 hp3 hp4 hp5 hp6 hfw h1 h2 h3 h4 h5 h6 h7 h8 hv
  cases hb : few n es with
  | false =>
    rw [hb] at HF
    clear hb
    go_enter Try.func9, Try.ntmps9
    go_wp2_with (first
      | (go_at_call 13; refine (HF.out _ hg0).mono ?_; rintro en w1 ⟨rfl, hw1⟩; have hg1 := hg0.step hw1)
      | (go_at_call 14; refine (awake_any w1).mono ?_; rintro en w2 ⟨rfl, hw2⟩; have hg2 := hg1.step hw2))
    go_ret
    exact ⟨rfl, hg2.bel⟩
  | true =>
    rw [hb] at HF
    clear hb
    go_enter Try.func9, Try.ntmps9
    go_upto_region 9 with (first
      | (go_at_call 13; refine (HF.out _ hg0).mono ?_; rintro en w1 ⟨rfl, hw1⟩; have hg1 := hg0.step hw1; obtain ⟨c0, c1, c2⟩ := hg1.cells)
      | (go_at_call 35; refine (H1.out _ hg1).mono ?_; rintro en w2 ⟨va, rfl, hva, hw2⟩; have hg2 := hg1.step hw2; clear c0 c1 c2; obtain ⟨c0, c1, c2⟩ := hg2.cells)
      | (go_at_call 36; refine (H2.out _ hg2).mono ?_; rintro en w3 ⟨vb, rfl, hvb, hw3⟩; have hg3 := hg2.step hw3; have hva3 := (Natss.below hva hw3).more hw3.size; clear c0 c1 c2; obtain ⟨c0, c1, c2⟩ := hg3.cells)
      | (go_at_call 37; refine (H3.out _ hg3).mono ?_; rintro en w4 ⟨vc, rfl, hvc, hw4⟩; have hg4 := hg3.step hw4; have hva4 := (Natss.below hva3 hw4).more hw4.size; have hvb4 := (Natss.below hvb hw4).more hw4.size; clear c0 c1 c2; obtain ⟨c0, c1, c2⟩ := hg4.cells)
      | (go_at_call 38; refine (H4.out _ hg4).mono ?_; rintro en w5 ⟨vd, rfl, hvd, hw5⟩; have hg5 := hg4.step hw5; have hva5 := (Natss.below hva4 hw5).more hw5.size; have hvb5 := (Natss.below hvb4 hw5).more hw5.size; have hvc5 := (Natss.below hvc hw5).more hw5.size; clear c0 c1 c2; obtain ⟨c0, c1, c2⟩ := hg5.cells)
      | (go_at_call 31; refine (H5.out _ hg5).mono ?_; rintro en w6 ⟨ve, rfl, hve, hw6⟩; have hg6 := hg5.step hw6; have hva6 := (Natss.below hva5 hw6).more hw6.size; have hvb6 := (Natss.below hvb5 hw6).more hw6.size; have hvc6 := (Natss.below hvc5 hw6).more hw6.size; have hvd6 := (Natss.below hvd hw6).more hw6.size; clear c0 c1 c2; obtain ⟨c0, c1, c2⟩ := hg6.cells)
      | (go_at_call 39; refine (H6.out _ hg6).mono ?_; rintro en w7 ⟨vf, rfl, hvf, hw7⟩; have hg7 := hg6.step hw7; have hva7 := (Natss.below hva6 hw7).more hw7.size; have hvb7 := (Natss.below hvb6 hw7).more hw7.size; have hvc7 := (Natss.below hvc6 hw7).more hw7.size; have hvd7 := (Natss.below hvd6 hw7).more hw7.size; have hve7 := (Bools.below hve hw7).more hw7.size; clear c0 c1 c2; obtain ⟨c0, c1, c2⟩ := hg7.cells))
    clear hva hvb hvc hvd hve hva3 hva4 hva5 hva6 hvb4 hvb5 hvb6 hvc5 hvc6 hvd6 hw1 hw2 hw3 hw4 hw5 hw6 hw7 hg0 hg1 hg2 hg3 hg4 hg5 hg6
    have hgd := hg7.drew
    have kva : Natss w7.drew.heap.size w7.drew va R1 := hva7
    have kvb : Natss w7.drew.heap.size w7.drew vb R1 := hvb7
    have kvc : Natss w7.drew.heap.size w7.drew vc R2 := hvc7
    have kvd : Natss w7.drew.heap.size w7.drew vd R2 := hvd7
    have kve : Bools w7.drew.heap.size w7.drew ve R3 := hve7
    have kvf : Bools w7.drew.heap.size w7.drew vf R3 := hvf
    clear hva7 hvb7 hvc7 hvd7 hve7 hvf
    go_region_held3 (fun w' => w'.cell? ⟨w.heap.size, 0, none⟩ = some (.int .i64 n) ∧ w'.cell? ⟨w.heap.size, 1, none⟩ = some (.int .i64 exit) ∧ w'.cell? ⟨w.heap.size, 2, none⟩ = some (.slice A es.length c))
      (first | exact hgp.cells | exact hgo.cells | exact hgn.cells | exact hgm.cells | exact hgk.cells | exact hgj.cells | exact ⟨c0, c1, c2⟩)
      (first
        | (go_at_call 14; refine (awake_any w7.drew).mono ?_; rintro en w8 ⟨rfl, hw8⟩; have hgj := hgd.step hw8; have hva8 := (Natss.below kva hw8).more hw8.size; have hvb8 := (Natss.below kvb hw8).more hw8.size; have hvc8 := (Natss.below kvc hw8).more hw8.size; have hvd8 := (Natss.below kvd hw8).more hw8.size; have hve8 := (Bools.below kve hw8).more hw8.size; have hvf8 := (Bools.below kvf hw8).more hw8.size)
        | (go_at_call 30; refine (H7.out _ hgj).mono ?_; rintro en w9 ⟨rfl, hw9⟩; have hgk := hgj.step hw9; have hva9 := (Natss.below hva8 hw9).more hw9.size; have hvb9 := (Natss.below hvb8 hw9).more hw9.size; have hvc9 := (Natss.below hvc8 hw9).more hw9.size; have hvd9 := (Natss.below hvd8 hw9).more hw9.size; have hve9 := (Bools.below hve8 hw9).more hw9.size; have hvf9 := (Bools.below hvf8 hw9).more hw9.size)
        | (go_at_call 32; refine (H8.out _ hgk).mono ?_; rintro en wa ⟨rfl, hwa⟩; have hgm := hgk.step hwa; have hvaa := (Natss.below hva9 hwa).more hwa.size; have hvba := (Natss.below hvb9 hwa).more hwa.size; have hvca := (Natss.below hvc9 hwa).more hwa.size; have hvda := (Natss.below hvd9 hwa).more hwa.size; have hvea := (Bools.below hve9 hwa).more hwa.size; have hvfa := (Bools.below hvf9 hwa).more hwa.size)
        | (go_at_call 40; (with_reducible refine (sameLists_any wa.heap.size wa va vb R1 R1 hvaa hvba (Nat.le_refl _)).mono ?_); rintro en wb ⟨rfl, hwb⟩; have hgn := hgm.only hwb; have hbb := hwb.below (Nat.le_refl wa.heap.size) (fun _ _ f => f); have hvcb := (Natss.below hvca hbb).more hbb.size; have hvdb := (Natss.below hvda hbb).more hbb.size; have hveb := (Bools.below hvea hbb).more hbb.size; have hvfb := (Bools.below hvfa hbb).more hbb.size)
        | (go_at_call 40; (with_reducible refine (sameLists_any wb.heap.size wb vc vd R2 R2 hvcb hvdb (Nat.le_refl _)).mono ?_); rintro en wc ⟨rfl, hwc⟩; have hgo := hgn.only hwc; have hbc := hwc.below (Nat.le_refl wb.heap.size) (fun _ _ f => f); have hvec := (Bools.below hveb hbc).more hbc.size; have hvfc := (Bools.below hvfb hbc).more hbc.size)
        | (go_at_call 41; refine (equalB_any wc.heap.size wc ve vf R3 R3 hvec hvfc).mono ?_; rintro en wd ⟨rfl, hwd⟩; have hgp := hgo.only hwd))
    go_wp2
    go_ret
    exact ⟨rfl, hgp.bel⟩
end Go.Proofs.Ytngfoinceakgdaa
