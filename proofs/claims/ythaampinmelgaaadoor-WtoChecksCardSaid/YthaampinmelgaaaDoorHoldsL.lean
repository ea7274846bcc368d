/- The law WtoHolds: plain and walked. -/
import Derived.Test.YthaampinmelgaaaDoorNest
import Derived.Test.YthaampinmelgaaaDoorCheckW
import Derived.Test.YthaampinmelgaaaDoorReached
/-! An order is right by Check: plain. Where a point stands in the order. What can be reached. -/
namespace Go.Proofs.YthaampinmelgaaaDoor
open Go.RowKit

mutual
theorem walkE_okB : ∀ (x : El) (h : List Int), x.ok = true → ∀ z ∈ x.walk h, z.1.c = false → z.1.body = []
  | .mk p c b, h, ho, z, hz => by
    simp only [El.ok, Bool.and_eq_true, Bool.or_eq_true, List.isEmpty_iff] at ho
    rw [El.walk_mk] at hz
    rcases List.mem_cons.1 hz with rfl | hz
    · intro hc
      simp only [El.c] at hc
      subst hc
      simpa [El.body] using ho.1
    · exact walkL_okB b _ ho.2 z hz
theorem walkL_okB : ∀ (l : List El) (h : List Int), okL l = true → ∀ z ∈ walkL l h, z.1.c = false → z.1.body = []
  | [], h, _, z, hz => by rw [walkL_nil] at hz; cases hz
  | x :: l, h, ho, z, hz => by
    simp only [okL, Bool.and_eq_true] at ho
    rw [walkL_cons] at hz
    rcases List.mem_append.1 hz with hz | hz
    · exact walkE_okB x h ho.1 z hz
    · exact walkL_okB l h ho.2 z hz
end
theorem eachErr_zero {n : Nat} {R : List Bool} : ∀ (G : List (El × List Int)) (seen : List Int), (seen ++ G.map fun z => z.1.p).Nodup →
    (∀ z ∈ G, (z.1.c = false → z.1.body = []) ∧ 0 ≤ z.1.p ∧ z.1.p < (n : Int) ∧ R.getD z.1.p.toNat false = true) → eachErr n R seen G = 0
  | [], _, _, _ => rfl
  | z :: G, seen, hn, h => by
    obtain ⟨h1, h2, h3, h4⟩ := h z List.mem_cons_self
    have hns : z.1.p ∉ seen := fun hm => by
      rw [List.map_cons, List.nodup_append] at hn
      exact hn.2.2 _ hm _ List.mem_cons_self rfl
    have h0 : eltErr n R seen z.1 = 0 := by
      have := elt0 (n := n) (R := R) (seen := seen) (p := z.1.p) (cc := z.1.c) (bb := z.1.body) (fun hf => hf.2 (h1 hf.1)) (fun hf => by rw [h4] at hf; rcases hf with hf | hf | hf <;> first | omega | cases hf) hns
      rw [El.eta] at this
      exact this
    simp only [eachErr]
    rw [if_neg (fun e => e h0)]
    exact eachErr_zero G _ (by simpa using hn) (fun y hy => h y (List.mem_cons_of_mem _ hy))
theorem findIdx_at {u : Int} {c : List Int} : ∀ {a : List Int}, u ∉ a → (a ++ u :: c).findIdx? (fun x => decide (x = u)) = some a.length
  | [], _ => by simp [List.findIdx?_cons]
  | x :: a, h => by
    have h1 : ¬ x = u := fun e => h (by rw [e]; exact List.mem_cons_self)
    have h2 := findIdx_at (u := u) (c := c) (a := a) (fun e => h (List.mem_cons_of_mem _ e))
    rw [List.cons_append, List.findIdx?_cons, h2]
    simp [h1]
theorem bef_idx {l : List Int} {u y : Int} (hn : l.Nodup) (h : Bef l u y) : ∃ i j : Nat, i < j ∧ l.findIdx? (fun x => decide (x = u)) = some i ∧ l.findIdx? (fun x => decide (x = y)) = some j := by
  obtain ⟨a, b, c, rfl⟩ := h
  refine ⟨a.length, a.length + 1 + b.length, by omega, findIdx_at ?_, ?_⟩
  · intro hu
    rw [List.nodup_append] at hn
    exact hn.2.2 _ hu _ List.mem_cons_self rfl
  · have e : a ++ u :: (b ++ y :: c) = (a ++ u :: b) ++ y :: c := by simp
    rw [e] at hn ⊢
    rw [findIdx_at]
    · simp; omega
    · intro hy
      rw [List.nodup_append] at hn
      exact hn.2.2 _ hy _ List.mem_cons_self rfl
theorem placeI_of {l : List Int} {u : Int} {i : Nat} (h : l.findIdx? (fun x => decide (x = u)) = some i) : placeI l u = (i : Int) := by
  unfold placeI; rw [h]; rfl
theorem idxI_of {l : List Int} {u : Int} : idxI l u = ((l.findIdx? fun x => decide (x = u)).map fun i : Nat => (i : Int)).getD (-1) := by
  have e : (fun y : Int => u == y) = fun x => decide (x = u) := by
    funext y
    by_cases h : y = u
    · subst h; simp
    · have : ¬ u = y := fun e => h e.symm
      simp [h, this]
  unfold idxI
  rw [e]
  cases l.findIdx? (fun x => decide (x = u)) <;> rfl
theorem insW_of {L : List El} (k : Int) : insW (walkL L []) k = (insL L k).getD [] := by
  unfold insW
  have h := walkL_find L [] k
  rw [h]
  cases insL L k <;> simp

section
variable {n : Nat} {E : List (Nat × Nat)} {L : List El} {R : List Bool}
theorem chk_wto (hI : IsWto E L) (hp : ∀ p ∈ ptsL L, 0 ≤ p ∧ p < (n : Int)) (hR : ∀ x, R.getD x false = true ↔ Rch (sE E) (fun _ => True) 0 x) : chkV n E R L = 0 := by
  refine chkV_ok ?_ ?_ ?_
  · refine eachErr_zero _ _ ?_ fun z hz => ?_
    · rw [List.nil_append, walkL_pts]
      exact hI.nodup
    · have hm : z.1.p ∈ ptsL L := by rw [← walkL_pts L []]; exact List.mem_map.2 ⟨z, hz, rfl⟩
      obtain ⟨x, hx, hr⟩ := (hI.mem _).1 hm
      refine ⟨walkL_okB L [] hI.form z hz, (hp _ hm).1, (hp _ hm).2, ?_⟩
      rw [hx]
      exact (hR _).2 hr
  · exact gap_none fun j _ hj => (hI.mem _).2 ⟨j, rfl, (hR _).1 hj⟩
  · rw [List.any_eq_false]
    rintro ⟨u, y⟩ hx
    unfold badEdge'
    simp only
    by_cases hu : R.getD u false = true
    · have hru := (hR u).1 hu
      have hry : Rch (sE E) (fun _ => True) 0 y := .step hru (mem_sE.2 hx) trivial
      rcases hI.good u y hx ((hI.mem _).2 ⟨u, rfl, hru⟩) ((hI.mem _).2 ⟨y, rfl, hry⟩) with hb | ⟨hs, h1, h2⟩
      · obtain ⟨i, j, hij, hi, hj⟩ := bef_idx hI.nodup hb
        rw [placeI_of hi, placeI_of hj]
        have : ¬ ((j : Int) ≤ (i : Int)) := by omega
        simp [this]
      · rw [insW_of, h1]
        simp [h2]
    · have hu' : R.getD u false = false := by simpa using hu
      rw [hu']
      simp
/-- An edge that leads backwards leads to a head around its point. -/
theorem edge_back (hI : IsWto E L) {u y : Nat} (hx : (u, y) ∈ E) (h0 : 0 ≤ idxI (ptsL L) (u : Int)) (hk : ¬ idxI (ptsL L) (y : Int) > idxI (ptsL L) (u : Int)) : ∃ hs, insL L (u : Int) = some hs ∧ (y : Int) ∈ hs := by
  have hu : (u : Int) ∈ ptsL L := by
    have h1 := idxI_contains (ptsL L) (u : Int)
    rw [decide_eq_true h0] at h1
    exact List.contains_iff_mem.1 h1.symm
  obtain ⟨x, hxx, hru⟩ := (hI.mem _).1 hu
  obtain rfl : x = u := by omega
  have hry : Rch (sE E) (fun _ => True) 0 y := .step hru (mem_sE.2 hx) trivial
  rcases hI.good _ y hx hu ((hI.mem _).2 ⟨y, rfl, hry⟩) with hb | h
  · obtain ⟨i, j, hij, hi, hj⟩ := bef_idx hI.nodup hb
    rw [idxI_of, idxI_of, hi, hj] at hk
    simp at hk
    omega
  · exact h
theorem mem_reach (hI : IsWto E L) (hR : ∀ x, R.getD x false = true ↔ Rch (sE E) (fun _ => True) 0 x) (p : Nat) : (ptsL L).contains (p : Int) = R.getD p false := by
  by_cases h : R.getD p false = true
  · rw [h]
    exact List.contains_iff_mem.2 ((hI.mem _).2 ⟨p, rfl, (hR p).1 h⟩)
  · have h1 : (p : Int) ∉ ptsL L := fun hm => by
      obtain ⟨x, hx, hr⟩ := (hI.mem _).1 hm
      obtain rfl : p = x := by omega
      exact h ((hR _).2 hr)
    have h2 : R.getD p false = false := by simpa using h
    rw [h2]
    simpa using h1
theorem first_pt (hI : IsWto E L) : ∃ r, ptsL L = 0 :: r := by
  obtain ⟨c, B, A, rfl⟩ := hI.head
  exact ⟨ptsL B ++ ptsL A, by rw [ptsL_cons, El.pts_mk]; rfl⟩
end
theorem next_out {n : Nat} {E : List (Nat × Nat)} {p : Nat} (hp : ¬ p < n) : (shapeOf n E).next p = [] := by
  unfold Shp.next shapeOf
  simp only
  rw [List.getD_eq_getElem?_getD, List.getElem?_eq_none (by simp; omega)]
  rfl
theorem GOk.mem_nx {n : Nat} {exit : Int} {E : List (Nat × Nat)} (h : GOk n exit E) {p x : Nat} : x ∈ nx n E p ↔ (p, x) ∈ E := by
  by_cases hp : p < n
  · exact mem_next hp
  · rw [show nx n E p = [] from next_out hp]
    exact ⟨fun h => by simp at h, fun hm => absurd (h.lt _ hm).1 hp⟩
theorem GOk.nx_sE {n : Nat} {exit : Int} {E : List (Nat × Nat)} (h : GOk n exit E) {a x : Nat} : Rch (nx n E) (fun _ => True) a x ↔ Rch (sE E) (fun _ => True) a x := by
  constructor
  · intro hr
    induction hr with
    | refl _ => exact .refl trivial
    | step _ h1 _ ih => exact .step ih (mem_sE.2 (h.mem_nx.1 h1)) trivial
  · intro hr
    induction hr with
    | refl _ => exact .refl trivial
    | step _ h1 _ ih => exact .step ih (h.mem_nx.2 (mem_sE.1 h1)) trivial
theorem reach_wto {n : Nat} {exit : Int} {E : List (Nat × Nat)} (hg : GOk n exit E) : ∃ (k : Nat) (t : List Bool × List Nat), foldO (dfsV (shapeOf n E).next (-1) k) [0] (List.replicate n false, []) = some t ∧ t.2.length ≤ 1000000 ∧ t.1.length = n ∧ ∀ x, t.1.getD x false = true ↔ Rch (sE E) (fun _ => True) 0 x := by
  have hn1 := hg.n1
  have hn2 := hg.n512
  have hx : ∀ x ∈ [0], x < n := fun x hx => by simp at hx; omega
  obtain ⟨t, ht⟩ := dfs_total (wo := -1) hg.next_lt (Nat.lt_succ_self n) hx
  have h1 := dfs_order hg.next_lt hx ht
  refine ⟨n + 1, t, ht, by have := h1.2.2.1; omega, h1.2.2.2.1, fun x => (dfs_reach hg.next_lt hx ht x).trans ?_⟩
  rw [← hg.nx_sE]
  constructor
  · rintro ⟨a, ha, hr⟩
    simp at ha
    subst ha
    exact hr.mono fun _ _ => trivial
  · intro hr
    exact ⟨0, by simp, hr.mono fun _ _ => by omega⟩
end Go.Proofs.YthaampinmelgaaaDoor

/-! The law WtoHolds, walked. -/
namespace Go.Proofs.YthaampinmelgaaaDoor
open Go.RowKit Go.Shelf

set_option maxRecDepth 100000 in
set_option maxHeartbeats 1000000 in
/-- Index where nothing but draws is left behind. -/
theorem index_q (B : Nat) (w : World) (v : Value) (xs : List Int) (h1 : Ints B w v xs) : ∀ W : World, (∀ p : Addr, W.cell? p = w.cell? p) → ∀ x : Int,
    Calls Tryd.prog 28 #[v, .int .i64 x] W fun en w' => en = .returned (.int .i64 (idxI xs x)) ∧ ∃ n, w' = W.drewN n := by
  intro W hW x
  have h2 : Ints B W v xs := h1.keep (fun p _ => hW p) (fun _ _ e => e)
  clear h1 hW
  obtain ⟨A1, c1, rfl, -, -, hm1, -⟩ := h2.shape
  go_enter Tryd.func28, Tryd.ntmps28
  go_wp2
  go_loopw [8] (fun y wr => ∃ m : Nat, m ≤ xs.length ∧ y = .int .i64 m ∧ (∀ j, j < m → getI xs j ≠ x) ∧ ∃ n, wr = W.drewN n) (fun y _ => xs.length - (intOf y).toNat)
  case atStart => exact ⟨0, Nat.zero_le _, rfl, fun j hj => absurd hj (Nat.not_lt_zero j), 0, rfl⟩
  case round =>
    obtain ⟨m, hm, rfl, ht, nq, rfl⟩ := hrel
    have HT := Lib.hid ht
    clear ht
    by_cases hlt : m < xs.length
    · have hlt1 : (m : Int) < (xs.length : Int) := by omega
      obtain ⟨ad1, rfl, -, hc1⟩ := Ints.at h2 hlt
      have hd1 : (W.drewN nq).cell? (ad1.add m) = some (.int .i64 (getI xs m)) := hc1
      clear hc1
      by_cases hxy : getI xs m = x
      · have hr := findIdx_some_of hlt HT.out hxy
        rw [hxy] at hd1
        have hxb : (x == x) = true := by simp
        have HR := Lib.hid hr
        clear hr hxy
        go_wp2
        go_ret
        exact ⟨by rw [HR.out]; rfl, nq, rfl⟩
      · have hns := idx_step HT.out hxy
        have hxb : (x == getI xs m) = false := by simpa using fun e : x = getI xs m => hxy e.symm
        have hxc : ¬ (x = getI xs m) := fun e => hxy e.symm
        have HNS := Lib.hid hns
        clear hns hxy
        go_wp2
        go_roundw
        case rel => exact ⟨m + 1, by omega, by go_num, HNS.out, nq, rfl⟩
        case measure => simp [intOf]; omega
    · have hge : ¬ (m : Int) < (xs.length : Int) := by omega
      obtain rfl : xs.length = m := by omega
      have hr := findIdx_none_of HT.out
      have HR := Lib.hid hr
      clear hr
      go_wp2
      go_ret
      exact ⟨by rw [HR.out]; rfl, nq, rfl⟩

theorem addr_zero0 (a : Addr) : a.add 0 = a := by unfold Addr.add; simp
theorem quiet_base {P : Program} {f : FuncId} {args : Array Value} {W : World} {x : Nat} {v : Value} (h : Calls P f args (W.drewN x) fun e w' => e = .returned v ∧ ∃ n, w' = (W.drewN x).drewN n) :
    Calls P f args (W.drewN x) fun e w' => e = .returned v ∧ ∃ n, w' = W.drewN n := by
  refine h.mono ?_
  rintro e w' ⟨he, n, rfl⟩
  exact ⟨he, x + n, by rw [World.drewN_drewN]⟩
/-- What the law leans on. -/
structure HSt (w W : World) (n exit : Int) (v va vr vp : Value) (R : List Bool) (L : List El) : Prop where
  g : GV w W n exit v
  el : EL W va L
  rd : Bools W.heap.size W vr R
  pt : Ints W.heap.size W vp (ptsL L)
theorem HSt.step {w W W' : World} {n exit : Int} {v va vr vp : Value} {R : List Bool} {L : List El} (h : HSt w W n exit v va vr vp R L) (hb : Below W.heap.size W W') : HSt w W' n exit v va vr vp R L :=
  ⟨h.g.step hb, h.el.step hb, (Bools.below h.rd hb).more hb.size, (Ints.below h.pt hb).more hb.size⟩

set_option maxRecDepth 100000 in
set_option maxHeartbeats 4000000 in
theorem holdsL_any (w : World) (v : Value) (n exit : Int) (es : List (Int × Int)) (hv : Edges w.heap.size w v es) :
    Calls Tryd.prog 7 #[.agg #[.int .i64 n, .int .i64 exit, v]] w fun en w' => en = .returned (.bool true) ∧ Below w.heap.size w w' := by
  have hright := fun (W : World) (h : GV w W n exit v) => right_any W v n exit es (h.edges hv)
  have hg0 := GV.start w n exit v
  by_cases hb : (few n es && decide (chk n exit es = 0)) = true
  · simp only [Bool.and_eq_true, decide_eq_true_eq] at hb
    obtain ⟨hfew, hc⟩ := hb
    have hfe : (few n es && decide (chk n exit es = 0)) = true := by simp [hfew, hc]
    rw [hfe] at hright
    obtain ⟨N, E, rfl, rfl, hg⟩ := chk_ok hc
    obtain ⟨k, r, hr, -, hI, hlen, hpts⟩ := order_plain hg.lt hg.n1 hg.n512
    have hord : ∀ (W : World), GV w W (N : Int) exit v → Calls Tryd.prog 12 #[.agg #[.int .i64 (N : Int), .int .i64 exit, v]] W fun en w' => ∃ vo, en = .returned (.tuple #[vo, .int .i64 0]) ∧ EL w' vo r.2.1 ∧ Below W.heap.size W w' := fun W h =>
      (order_ok W.heap.size W v N exit E (h.edges hv) (Nat.le_refl _) hg k r hr (by omega)).mono (fun en w' ⟨vo, he, h1, h2⟩ => ⟨vo, he, h1.mono (fun b hb => hb.2), h2⟩)
    have hN : N ≤ 16 := by
      unfold few at hfew
      simp at hfew
      omega
    have hpl : (ptsL r.2.1).length ≤ 60 := by
      have := len_of_range hI.nodup hpts
      omega
    obtain ⟨kd, t, ht1, ht2, ht3, ht4⟩ := reach_wto hg
    have hreach : ∀ (W : World), GV w W (N : Int) exit v → Calls Tryd.prog 25 #[.agg #[.int .i64 (N : Int), .int .i64 exit, v], .int .i64 0] W fun en w' => ∃ vo, en = .returned (.tuple #[vo, .int .i64 0]) ∧ Bools w'.heap.size w' vo t.1 ∧ Below W.heap.size W w' := fun W h =>
      reachable_ok W.heap.size W v N exit E (h.edges hv) (Nat.le_refl _) hg 0 hg.n1 kd t ht1 ht2
    have hcheck : ∀ (W : World) (vl : Value), GV w W (N : Int) exit v → EL W vl r.2.1 → Calls Tryd.prog 17 #[.agg #[.int .i64 (N : Int), .int .i64 exit, v], vl] W fun en w' => en = .returned (.int .i64 0) ∧ Below W.heap.size W w' := fun W vl h he => by
      have := check_ok W.heap.size W v vl N exit E r.2.1 (h.edges hv) (Nat.le_refl _) hg t.1 ht3 (fun w1 h1 => hreach w1 (h.step h1)) he (fun _ h => h) (by omega)
      rw [chk_wto hI hpts ht4] at this
      exact this
    have hmr := fun p => mem_reach hI ht4 p
    have hedge := fun (u y : Nat) (hx : (u, y) ∈ E) => edge_back hI hx
    have hfirst := first_pt hI
    revert hord hpl hreach hcheck hmr hedge hfirst ht3
    clear ht1 ht2 ht4 hI hr hlen hpts
    generalize r.2.1 = L
    generalize t.1 = R
    intro hord hpl ht3 hreach hcheck hmr hedge hfirst
    subst ht3
    have HF := Lib.hid hright
    have HO := Lib.hid hord
    have HRE := Lib.hid hreach
    have HCK := Lib.hid hcheck
    have HMR := Lib.hid hmr
    have HED := Lib.hid hedge
    have hdl : decide ((ptsL L).length ≤ 60) = true := decide_eq_true hpl
    have HPL := Lib.hid hpl
    have HDL := Lib.hid hdl
    have HFI := Lib.hid hfirst
    obtain ⟨A, c, rfl, hlc, -, hm, hes⟩ := hv.shape
    have hlen0 : (castE E).length = E.length := castE_length E
    rw [hlen0] at hlc hm hg0 HF HO HRE HCK ⊢
    have HES := Lib.hid (Edges.nat hes)
    have hR16 := hN
    have HLT := Lib.hid hg.lt
    have HE4 := Lib.hid hg.len
    clear hright hord hreach hcheck hmr hedge hpl hdl hv hfew hc hfe hg hes hlen0 hfirst
    go_enter Tryd.func7, Tryd.ntmps7
    go_upto_region 5 with (first
      | (go_at_call 24; refine (HF.out _ hg0).mono ?_; rintro en w1 ⟨rfl, hw1⟩; have hg1 := hg0.step hw1; obtain ⟨c0, c1, c2⟩ := hg1.cells)
      | (go_at_call 12; refine (HO.out _ hg1).mono ?_; rintro en w2 ⟨va, rfl, hva, hw2⟩; have hg2 := hg1.step hw2; clear c0 c1 c2; obtain ⟨c0, c1, c2⟩ := hg2.cells)
      | (go_at_call 25; refine (HRE.out _ hg2).mono ?_; rintro en w3 ⟨vr, rfl, hvr, hw3⟩; have hg3 := hg2.step hw3; clear c0 c1 c2; obtain ⟨c0, c1, c2⟩ := hg3.cells; have hva3 := EL.step hva hw3; obtain ⟨Ar, cr, rfl, -, -, -, -⟩ := id hvr.shape))
    clear hg0 hg1 hg2 hw1 hw2 hw3 hva
    go_upto_region 7 with (first
      | (go_at_call 17; refine (HCK.out _ _ hg3 hva3).mono ?_; rintro en w4 ⟨rfl, hw4⟩; have hg4 := hg3.step hw4; have hva4 := EL.step hva3 hw4; have hvr4 := (Bools.below hvr hw4).more hw4.size)
      | (go_at_call 16; refine (few_el hva4 (fun _ h => h)).mono ?_; rintro en w5 ⟨rfl, hw5⟩; rw [HDL.out]; have hg5 := hg4.step hw5; have hva5 := EL.step hva4 hw5; have hvr5 := (Bools.below hvr4 hw5).more hw5.size))
    clear c0 c1 c2 hg3 hg4 hva3 hva4 hvr hvr4 hw4 hw5 HF HO HRE HCK
    go_upto_region 8 with (go_at_call 26; refine (flat_any hva5 (fun _ h => h) (by have := HPL.out; omega)).mono ?_; rintro en w6 ⟨vp, rfl, hop, hw6⟩; have hip := Ints.ofOwn hop)
    have hs6 : HSt w w6 (R.length : Int) exit (.slice A E.length c) va (.slice Ar R.length cr) vp R L := ⟨hg5.step hw6, EL.step hva5 hw6, (Bools.below hvr5 hw6).more hw6.size, hip⟩
    clear hg5 hva5 hvr5 hop hw6
    obtain ⟨Ap, cp, rfl, -, -, hmp, hatp⟩ := hip.shape
    obtain ⟨rr, hrr⟩ := HFI.out
    obtain ⟨adp, up, rfl, hbp, hcp, hup⟩ := hatp 0 0 (by rw [hrr]; rfl)
    obtain rfl : up = .int .i64 0 := hup
    have hl0 : 0 < (ptsL L).length := by rw [hrr]; simp
    have hl1 : (0 : Int) < ((ptsL L).length : Int) := by omega
    have hl2 : ¬ (((ptsL L).length : Int) = 0) := by omega
    have hl3 : decide (((ptsL L).length : Int) = 0) = false := decide_eq_false hl2
    have hl4 : (((ptsL L).length : Int) == 0) = false := by simpa using hl2
    have hcp' : w6.cell? adp = some (.int .i64 0) := by rw [← addr_zero0 adp]; exact hcp
    obtain ⟨-, -, c2⟩ := hs6.g.cells
    have HS6 := Lib.hid hs6
    clear hs6 hip hatp hrr
    go_upto_region 10 with fail
    clear hcp hcp' hl0 hl1 hl2 hl3 hl4 c2
    go_upto_region 11 with fail
    go_loopw [67] (fun y wr => ∃ (m : Nat), m ≤ R.length ∧ y = .int .i64 m ∧ HSt w wr (R.length : Int) exit (.slice A E.length c) va (.slice Ar R.length cr) (.slice (some adp) (ptsL L).length cp) R L) (fun y _ => R.length - (intOf y).toNat)
    case atStart => exact ⟨0, Nat.zero_le _, rfl, HS6.out⟩
    case round =>
      obtain ⟨m, hm, rfl, hs⟩ := hrel
      by_cases hlt : m < R.length
      · have hlt1 : (m : Int) < (R.length : Int) := by omega
        obtain ⟨_, _, he', -, -, -, hat⟩ := hs.rd.shape
        cases he'
        obtain ⟨ad, u, rfl, hbl, hcl, hru⟩ := hat m _ (List.getElem?_eq_getElem hlt)
        obtain rfl : u = .bool R[m] := hru
        have hco := contains_any _ _ _ _ (m : Int) hs.pt
        have hgd : R.getD m false = R[m] := by rw [List.getD_eq_getElem?_getD, List.getElem?_eq_getElem hlt]; rfl
        rw [HMR.out m, hgd] at hco
        revert hcl hco
        clear hgd
        generalize R[m] = cb
        intro hcl hco
        have HCO := Lib.hid hco
        have HS := Lib.hid hs
        clear hco hs hat hbl
        go_wp2_with (go_at_call 27; refine HCO.out.mono ?_; rintro en w7 ⟨rfl, ho7⟩)
        have hs7 := HS.out.step (ho7.below (Nat.le_refl _) (fun _ _ f => f))
        go_roundw
        case rel => exact ⟨m + 1, by omega, by go_num, hs7⟩
        case measure => simp [intOf]; omega
      · obtain rfl : m = R.length := by omega
        obtain ⟨-, -, c2⟩ := hs.g.cells
        have HS := Lib.hid hs
        clear hs
        go_upto_region 17 with fail
        clear c2
        obtain ⟨w0, rfl⟩ : ∃ w0 : World, w0 = wr := ⟨_, rfl⟩
        go_loopw [81] (fun y wr => ∃ (m : Nat), m ≤ E.length ∧ y = .int .i64 m ∧ HSt w wr (R.length : Int) exit (.slice A E.length c) va (.slice Ar R.length cr) (.slice (some adp) (ptsL L).length cp) R L) (fun y _ => E.length - (intOf y).toNat)
        case atStart => exact ⟨0, Nat.zero_le _, rfl, HS.out⟩
        case round =>
          obtain ⟨m, hm, rfl, hs⟩ := hrel
          by_cases hlt : m < E.length
          · have hek : E[m]? = some E[m] := List.getElem?_eq_getElem hlt
            have hx := HLT.out _ (List.getElem_mem hlt)
            have hed := HED.out E[m].1 E[m].2 (List.getElem_mem hlt)
            revert hek hx hed
            generalize E[m] = x
            intro hek hx hed
            obtain ⟨p, q⟩ := x
            obtain ⟨ad, cs, rfl, hab, hcl, hcc, hc0, hc1, hone⟩ := HES.out m _ hek
            have hcr : ∀ j v, cs[j]? = some v → wr.cell? ((ad.add (m * 21)).add j) = some v := fun j v hj => (hs.g.bel.cell (by rw [block_add, block_add]; exact hab)).trans (hcc j v hj)
            have hsa : HSt w (wr.alloc (.cells cs.toArray 64)) _ _ _ _ _ _ _ _ := hs.step ((Below.refl _ _).alloc (Nat.le_refl _) _)
            have hbx : Blk (wr.alloc (.cells cs.toArray 64)) wr.heap.size 64 cs := by
              have := Blk.newAt wr 64 cs.toArray rfl
              simpa using this
            have x0 : ∀ t, ((wr.alloc (.cells cs.toArray 64)).drewN t).cell? ⟨wr.heap.size, 0, none⟩ = some (.int .i64 (p : Int)) := fun t => hbx.cellAt (i := 0) hc0
            have x1 : ∀ t, ((wr.alloc (.cells cs.toArray 64)).drewN t).cell? ⟨wr.heap.size, 1, none⟩ = some (.int .i64 (q : Int)) := fun t => hbx.cellAt (i := 1) hc1
            have hix := index_q _ _ _ _ hsa.pt
            have hwi := within_any hsa.el (fun _ h => h) (by have := HPL.out; omega) (p : Int)
            have hlt1 : (m : Int) < (E.length : Int) := by omega
            simp only at hed
            have HC := Lib.hid hcr
            have HL := Lib.hid hcl
            have H1 := Lib.hid hone
            have HSA := Lib.hid hsa
            have HIX := Lib.hid hix
            have HED1 := Lib.hid hed
            clear hcc hcr hcl hone hek hab hsa hbx hix hc0 hc1 hs hx hed hwi
            go_upto_region 19 with (first
              | ((with_reducible show wpList _ _ _ (⟨some 84, .load 64 (.tmp 83), _, _, _, _⟩ :: _) _ _); refine wpList_load_list rfl _ _ rfl (ad.add (m * 21)) rfl cs _ HC.out Tryd.underlying64 rfl (by rw [HL.out]; exact size_edge) ?_)
              | ((with_reducible show wpList _ _ _ (⟨none, .store 64 (.tmp 11) (.tmp 84), _, _, _, _⟩ :: _) _ _); refine wpList_store_new rfl _ _ _ rfl _ _ cs rfl rfl (by rw [HL.out]; exact size_edge) (by rw [HL.out]; rfl) H1.out ?_))
            revert x0 x1 HSA HIX
            generalize wr.alloc (.cells cs.toArray 64) = wa
            generalize wr.heap.size = xb
            intro x0 x1 HSA HIX
            go_quiet ((go_at_call 28; exact quiet_base (HIX.out (wa.drewN _) (fun q => rfl) _)))
            have hs9 := HSA.out.step (below_drewN' (Below.refl _ _) nq)
            have y0 := x0 nq
            have y1 := x1 nq
            have HED2 : Hid (0 ≤ idxI (ptsL L) (p : Int) → ¬ idxI (ptsL L) (q : Int) > idxI (ptsL L) (p : Int) → ∃ hs, insL L (p : Int) = some hs ∧ (q : Int) ∈ hs) := Lib.hid (fun a b => HED1.out a (by omega))
            have HS9 := Lib.hid hs9
            clear x0 x1 HSA HIX hs9 HED1
            revert y0 y1 HS9 HED2
            generalize wa.drewN nq = wb
            generalize idxI (ptsL L) (p : Int) = ip
            generalize idxI (ptsL L) (q : Int) = iq
            intro y0 y1 HED2 HS9
            by_cases h0 : ip < 0
            · have h1 : decide (ip < 0) = true := decide_eq_true h0
              clear y0 y1
              go_wp2
              go_roundw
              case rel => exact ⟨m + 1, by omega, by go_num, HS9.out⟩
              case measure => simp [intOf]; omega
            · have h1 : decide (ip < 0) = false := decide_eq_false h0
              by_cases h2 : ip < iq
              · have h3 : decide (ip < iq) = true := decide_eq_true h2
                clear y0 y1
                go_wp2
                go_roundw
                case rel => exact ⟨m + 1, by omega, by go_num, HS9.out⟩
                case measure => simp [intOf]; omega
              · have h3 : decide (ip < iq) = false := decide_eq_false h2
                obtain ⟨hs1, hins, hmem⟩ := HED2.out (by omega) (by omega)
                have hwin := within_any HS9.out.el (fun _ h => h) (by have := HPL.out; omega) (p : Int)
                unfold WinPost wErr wHeads at hwin
                rw [hins] at hwin
                simp only [Option.isSome_some, if_true, Option.getD_some] at hwin
                have HW := Lib.hid hwin
                have hcb : hs1.contains (q : Int) = true := List.contains_iff_mem.2 hmem
                have HCB := Lib.hid hcb
                have hxb : xb < wb.heap.size := by
                  obtain ⟨o, ho, -⟩ := cells_of_cell y1
                  exact lt_of_block ho
                clear hwin hins hmem hcb HED2
                go_upto_region 22 with (go_at_call 29; refine HW.out.mono ?_; rintro en w10 ⟨vi, rfl, hoi, hw10⟩)
                have hs10 := HS9.out.step hw10
                have hco := contains_any _ _ _ _ (q : Int) (Ints.ofOwn hoi)
                rw [HCB.out] at hco
                have HCO := Lib.hid hco
                have HS10 := Lib.hid hs10
                have y2 := (hw10.cell (p := ⟨xb, 1, none⟩) hxb).trans y1
                clear hoi hco hs10 y0 y1 hw10
                go_wp2_with (go_at_call 27; refine HCO.out.mono ?_; rintro en w11 ⟨rfl, ho11⟩)
                have hs11 := HS10.out.step (ho11.below (Nat.le_refl _) (fun _ _ f => f))
                go_roundw
                case rel => exact ⟨m + 1, by omega, by go_num, hs11⟩
                case measure => simp [intOf]; omega
          · obtain rfl : m = E.length := by omega
            have hbe := hs.g.bel
            clear hs
            go_wp2_with (go_at_call 11; refine (awake_any wr).mono ?_; rintro en w6 ⟨rfl, hw6⟩)
            go_ret
            exact ⟨rfl, hbe.trans (hw6.mono hbe.size)⟩
  · have hfe : (few n es && decide (chk n exit es = 0)) = false := by simpa using hb
    rw [hfe] at hright
    have HF := Lib.hid hright
    obtain ⟨A, c, rfl, hlc, -, hm, -⟩ := hv.shape
    clear hright hv hb hfe
    go_enter Tryd.func7, Tryd.ntmps7
    go_wp2_with (first
      | (go_at_call 24; refine (HF.out _ hg0).mono ?_; rintro en w1 ⟨rfl, hw1⟩; have hg1 := hg0.step hw1)
      | (go_at_call 11; refine (awake_any w1).mono ?_; rintro en w2 ⟨rfl, hw2⟩; have hg2 := hg1.step hw2))
    go_ret
    exact ⟨rfl, hg2.bel⟩
end Go.Proofs.YthaampinmelgaaaDoor
