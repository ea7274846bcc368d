/- Package wto: Within. -/
import Derived.Test.YthaampinmelgaaaGreatDoorFlat
namespace Go.Proofs.YthaampinmelgaaaGreatDoor
open Go.RowKit Go.Shelf

attribute [local go_sem] Oper.semAt_some

mutual
theorem walk_find : ∀ (x : El) (hs : List Int) (q : Int), ((x.walk hs).find? fun z => decide (z.1.p = q)).map Prod.snd = (insE x q).map fun r => hs ++ r
  | .mk p c b, hs, q => by
    rw [El.walk_mk, insE_mk]
    by_cases h : p = q
    · rw [List.find?_cons_of_pos (by simp [El.p, h]), if_pos h]
      cases c <;> simp
    · rw [List.find?_cons_of_neg (by simp [El.p, h]), if_neg h, walkL_find b _ q]
      cases insL b q <;> cases c <;> simp
theorem walkL_find : ∀ (l : List El) (hs : List Int) (q : Int), ((walkL l hs).find? fun z => decide (z.1.p = q)).map Prod.snd = (insL l q).map fun r => hs ++ r
  | [], hs, q => by simp [walkL_nil, insL_nil]
  | x :: l, hs, q => by
    have h1 := walk_find x hs q
    rw [walkL_cons, insL_cons, List.find?_append]
    cases hx : (x.walk hs).find? fun z => decide (z.1.p = q) with
    | some z =>
      rw [hx] at h1
      cases he : insE x q with
      | none => rw [he] at h1; cases h1
      | some r => rw [he] at h1; simpa using h1
    | none =>
      rw [hx] at h1
      cases he : insE x q with
      | some r => rw [he] at h1; cases h1
      | none => simpa using walkL_find l hs q
end
mutual
theorem walk_depth : ∀ (x : El) (hs : List Int), ∀ z ∈ x.walk hs, z.2.length ≤ hs.length + x.pts.length
  | .mk p c b, hs, z, hz => by
    rw [El.walk_mk] at hz
    rw [El.pts_mk, List.length_cons]
    have hl : (if c then hs ++ [p] else hs).length ≤ hs.length + 1 := by cases c <;> simp
    rcases List.mem_cons.1 hz with rfl | hz
    · show (if c then hs ++ [p] else hs).length ≤ _; omega
    · have := walkL_depth b _ z hz; omega
theorem walkL_depth : ∀ (l : List El) (hs : List Int), ∀ z ∈ walkL l hs, z.2.length ≤ hs.length + (ptsL l).length
  | [], hs, z, hz => by simp [walkL_nil] at hz
  | x :: l, hs, z, hz => by
    rw [walkL_cons] at hz
    rw [ptsL_cons, List.length_append]
    rcases List.mem_append.1 hz with hz | hz
    · have := walk_depth x hs z hz; omega
    · have := walkL_depth l hs z hz; omega
end
theorem within_some {l : List El} {q : Int} {pre : List (El × List Int)} {x : El} {hs : List Int} {post : List (El × List Int)} (h : walkL l [] = pre ++ (x, hs) :: post) (hp : ∀ z ∈ pre, z.1.p ≠ q) (hx : x.p = q) : insL l q = some hs := by
  have h1 := walkL_find l [] q
  rw [h, List.find?_append, List.find?_eq_none.2 (fun z hz => by simpa using hp z hz), List.find?_cons_of_pos (by simpa using hx)] at h1
  cases he : insL l q with
  | none => rw [he] at h1; cases h1
  | some r => rw [he] at h1; simp at h1; rw [h1]
theorem within_none {l : List El} {q : Int} (hp : ∀ z ∈ walkL l [], z.1.p ≠ q) : insL l q = none := by
  have h1 := walkL_find l [] q
  rw [List.find?_eq_none.2 (fun z hz => by simpa using hp z hz)] at h1
  cases he : insL l q with
  | none => rfl
  | some r => rw [he] at h1; cases h1

set_option maxRecDepth 100000 in
set_option maxHeartbeats 1000000 in
theorem clone_heads (O : Nat → Prop) (w : World) (v : Value) (l : List Int) (hv : HeadsAt O w v l) (hl2 : l.length ≤ 1000000) :
    Calls Tryz.prog 34 #[v] w fun en w' => ∃ v', en = .returned v' ∧ w'.ownsRow w.heap.size 3 1 v' l.length (l.map (Value.int .i64)) ∧ Below w.heap.size w w' := by
  obtain ⟨A, c, rfl, -, -, h0, hc⟩ := hv
  have q22 : ∀ (w : World) (a : Option Addr) (n c n' c' : Nat), (binOp .eql 31 (.slice a n c) (.slice none n' c')).run Tryz.prog w = .ok (.bool a.isNone) w := fun w a n c n' c' => Lib.run_eql_slice_nil w _ _ a n c n' c' Tryz.underlying31
  have u22 : ∀ w, Sem.run Tryz.prog (underlying 31) w = .ok (TypeDesc.slice 3) w := run_underlying Tryz.underlying31
  by_cases hl : l = []
  · subst hl
    obtain ⟨rfl, rfl⟩ := h0 rfl
    clear hc h0
    go_enter Tryz.func34, Tryz.ntmps34
    go_wp2
    go_ret
    exact ⟨_, rfl, World.ownsRow_nil _ _ _ _, Below.refl _ _⟩
  · have hpos : 0 < l.length := by cases l with
      | nil => exact absurd rfl hl
      | cons x xs => simp
    obtain ⟨ad, rfl, hOa, -⟩ := hc 0 _ (List.getElem?_eq_getElem hpos)
    have hcell : ∀ (j : Nat) (u : Value), (l.map (Value.int .i64))[j]? = some u → w.cell? (ad.add j) = some u := fun j u hj => by
      rw [List.getElem?_map, Option.map_eq_some_iff] at hj
      obtain ⟨x, hx, rfl⟩ := hj
      obtain ⟨ad', he, -, hcl, -⟩ := hc j x hx
      cases he
      exact hcl
    have HC := Lib.hid hcell
    clear hcell hc h0 hl hOa
    obtain ⟨i0, hi, hz0, hz1, hz2⟩ := info_parts info_int
    go_enter Tryz.func34, Tryz.ntmps34
    go_wp2_with (at_builtin; refine wpList_append_own _ rfl _ _ 31 rfl w.heap.size 3 i0 (.int .i64 0) 1 8 Tryz.underlying31 hi hz0 hz1 hz2 rfl (by decide) _ _ _ rfl (World.ownsRow_made w #[] 0 (Nat.le_refl _) (Nat.zero_le _) rfl) ad l.length c (l.map (Value.int .i64)) rfl ?qc1 ?qc2 ?qc3 ?qc4 ?qc5 ?qc6 ?_)
    case qc1 => simp
    case qc2 =>
      intro j u hj
      exact Lib.cell?_alloc_some _ (HC.out j u hj)
    case qc3 => intro u hu; obtain ⟨x, _, rfl⟩ := List.mem_map.1 hu; rfl
    case qc4 => unfold maxLen; omega
    case qc5 => omega
    case qc6 => simp
    intro v' w1 hown hgrow hnil
    go_wp2
    go_ret
    refine ⟨v', rfl, by simpa using hown, ?_⟩
    exact ((Below.refl _ w).alloc (Nat.le_refl _) _).grown hgrow (by simp) (by intro k hk; simp [Value.ownBlock] at hk; omega)

/-- Between two rounds of Within. -/
structure WIn (w : World) (q : Int) (ys : List Yd) (O : Nat → Prop) (W : World) : Prop where
  b0 : Blk W w.heap.size 3 [.int .i64 q]
  b1 : Blk W (w.heap.size + 1) 31 [.slice none 0 0]
  b2 : Blk W (w.heap.size + 1 + 1) 28 [.int .i64 0]
  no : ∀ y ∈ ys, y.x.p ≠ q
  bel : Below w.heap.size w W
/-- Behind a round that has found the point. -/
def WOut (w : World) (hs : List Int) (W : World) : Prop := ∃ vo, Blk W (w.heap.size + 1) 31 [vo] ∧ Blk W (w.heap.size + 1 + 1) 28 [.int .i64 0] ∧ W.ownsRow (w.heap.size + 1 + 1 + 1) 3 1 vo hs.length (hs.map (Value.int .i64)) ∧ Below w.heap.size w W
theorem blk_keep {A A' : World} {row : Option Nat} {B : Nat} (hg : A.grownBy A' row) (hr : ∀ r, row = some r → B ≤ r ∧ ∃ o : Obj, A.heap[r]? = some o ∧ o.isCells = false) {g : Nat} {t : TypeId} {cs : List Value} (hb : Blk A g t cs) : Blk A' g t cs :=
  hb.same (hg.block g hb.lt (fun e' => by
    obtain ⟨_, o, ho, hc⟩ := hr g e'.symm
    unfold Blk at hb
    rw [hb] at ho
    cases ho
    simp [Obj.isCells] at hc))
theorem WIn.own {w : World} {q : Int} {B : Nat} (hB : w.heap.size < B) : OwnG B (fun s O W => WIn w q s O W) := fun s O O' A A' row h hg hr _ =>
  ⟨blk_keep hg hr h.b0, blk_keep hg hr h.b1, blk_keep hg hr h.b2, h.no, h.bel.grown hg (by have := h.b0.lt; omega) (fun k e => by have := (hr k e).1; omega)⟩
theorem row_keep {A A' : World} {row : Option Nat} {B N : Nat} {v : Value} {n m : Nat} {xs : List Value} {T : TypeId} (hg : A.grownBy A' row) (hr : ∀ r, row = some r → B ≤ r ∧ ∃ o : Obj, A.heap[r]? = some o ∧ o.isCells = false) (h2 : A.ownsRow N T m v n xs) : A'.ownsRow N T m v n xs := by
  rcases h2 with ⟨hl, ⟨rfl, hn⟩ | ⟨g, cap, cur, rfl, hb, hh, hrest⟩⟩
  · exact ⟨hl, .inl ⟨rfl, hn⟩⟩
  · have hbk : Blk A g T cur.toList := by unfold Blk; simpa using hh
    have := blk_keep hg hr hbk
    unfold Blk at this
    exact ⟨hl, .inr ⟨g, cap, cur, rfl, hb, by simpa using this, hrest⟩⟩
theorem WOut.own {α : Type} {w : World} {B : Nat} (hB : w.heap.size < B) (Q : α → List Int → Prop) : OwnFrom B (fun (s : α) W => ∃ hs, Q s hs ∧ WOut w hs W) := by
  rintro s A A' row ⟨hs, hq, vo, h1, h2, h3, h4⟩ hg hr
  exact ⟨hs, hq, vo, blk_keep hg hr h1, blk_keep hg hr h2, row_keep hg hr h3, h4.grown hg (by have := h1.lt; omega) (fun k e => by have := (hr k e).1; omega)⟩
theorem Blk.far' {w : World} {g : Nat} {t : TypeId} {cs : List Value} (h : Blk w g t cs) (D : Nat) (hD : g ≠ D) {o : Obj} : Blk (w.putObj D o) g t cs := h.same (World.putObj_heap_other hD)
theorem row_base {w : World} {N M : Nat} {T : TypeId} {m n : Nat} {v : Value} {xs : List Value} (h : w.ownsRow N T m v n xs) (hM : M ≤ N) : w.ownsRow M T m v n xs := by
  rcases h with ⟨hl, ⟨rfl, hn⟩ | ⟨g, cap, cur, rfl, hb, hh, hrest⟩⟩
  · exact ⟨hl, .inl ⟨rfl, hn⟩⟩
  · exact ⟨hl, .inr ⟨g, cap, cur, rfl, by omega, hh, hrest⟩⟩
/-- What Within leaves. -/
def wErr (l : List El) (q : Int) : Int := if (insL l q).isSome then 0 else 6
def wHeads (l : List El) (q : Int) : List Int := (insL l q).getD []
def WinPost (w : World) (l : List El) (q : Int) (en : Ending) (w' : World) : Prop :=
  ∃ vo, en = .returned (.tuple #[vo, .int .i64 (wErr l q)]) ∧ w'.ownsRow (w.heap.size + 1) 3 1 vo (wHeads l q).length ((wHeads l q).map (Value.int .i64)) ∧ Below w.heap.size w w'
set_option maxRecDepth 100000 in
set_option maxHeartbeats 4000000 in
theorem within_any {P : Nat → Prop} {w : World} {v : Value} {l : List El} (h : Els P w v l) (hP : ∀ b, P b → b < w.heap.size) (hlen : (ptsL l).length ≤ 1000000) (q : Int) :
    Calls Tryz.prog 14 #[v, .int .i64 q] w (WinPost w l q) := by
  obtain ⟨A, c, rfl, hc1, hc2, -, -⟩ := id h.shape
  have HE := Lib.hid h
  have HP := Lib.hid hP
  clear h hP
  refine (callsIn_wide (n := 5)).1 (callsIn_of_wp_marks Tryz.func14 rfl trivial (wpIn_wide.2 ?_) rfl)
  simp only [Tryz.ntmps14, List.size_toArray, List.length_cons, List.length_nil, Nat.reduceAdd, Nat.reduceSub, Array.replicate_succ, Array.replicate_zero, List.push_toArray, List.append_toArray, List.nil_append, List.cons_append]
  go_wp2_with (go_at_call 30; refine (all_any _ _ _ _).mono ?_; rintro en w1 ⟨rfl, rfl⟩)
  refine wpIn_wide (n := 5).1 ?_
  obtain ⟨W0, hW0⟩ : ∃ W0, W0 = (((w.alloc (.cells #[.int .i64 q] 3)).alloc (.cells #[.slice none 0 0] 31)).alloc (.cells #[.int .i64 0] 28)).alloc (.cells #[.slice A l.length c] 27) := ⟨_, rfl⟩
  have hs0 : W0.heap.size = w.heap.size + 4 := by rw [hW0]; simp
  have hb0 : Blk W0 w.heap.size 3 [.int .i64 q] := by rw [hW0]; exact (((Blk.newAt w 3 #[.int .i64 q] rfl).alloc _).alloc _).alloc _
  have hb1 : Blk W0 (w.heap.size + 1) 31 [.slice none 0 0] := by rw [hW0]; exact ((Blk.newAt _ 31 #[.slice none 0 0] (by simp)).alloc _).alloc _
  have hb2 : Blk W0 (w.heap.size + 1 + 1) 28 [.int .i64 0] := by rw [hW0]; exact (Blk.newAt _ 28 #[.int .i64 0] (by simp)).alloc _
  have hbt : Blk W0 (w.heap.size + 1 + 1 + 1) 27 [.slice A l.length c] := by rw [hW0]; exact Blk.newAt _ 27 #[.slice A l.length c] (by simp)
  have hbel : Below w.heap.size w W0 := by rw [hW0]; exact ((((Below.refl _ w).alloc (Nat.le_refl _) _).alloc (by simp) _).alloc (by simp; omega) _).alloc (by simp; omega) _
  have hels : Els P W0 (.slice A l.length c) l := HE.out.under hbel HP.out
  rw [← hW0]
  clear hW0
  refine wpIn_range_ghost rfl (by omega) rfl trivial (enters_of Tryz.func49 (by kernel_rfl) rfl) (all_seq 4 hbt hels (fun b hb => by have := HP.out b hb; omega) hlen) (Below.refl _ _) (fun _ => rfl) (fun b hb => by have := HP.out b hb; omega)
    (fun pre O W => WIn w q pre O W) (fun c _ W => ∃ hs, (c = .ret ∧ insL l q = some hs) ∧ WOut w hs W) (WIn.own (by omega)) (fun c => WOut.own (by omega) (fun _ hs => c = .ret ∧ insL l q = some hs))
    ⟨hb0, hb1, hb2, fun y hy => by simp at hy, hbel⟩ ?round ?done ?stop
  case round =>
    intro lr pre y O W hlr hrec hO hI hN K hK
    have hno := hI.no
    have hlW : lr < W.heap.size := by obtain ⟨r, hr⟩ := hrec; exact lt_of_block hr
    have HO := Lib.hid hO
    have HNO := Lib.hid hno
    obtain ⟨⟨p, cc, bb⟩, hs, bv, hv⟩ := y
    obtain ⟨⟨post, hG⟩, hN2, hN3, -⟩ := hN
    obtain ⟨Ah, ch, hN5, -⟩ := id hN3
    obtain ⟨Ab, cb, hN4, -⟩ := hN2.shape
    simp only at hN3 hN4 hN5
    subst hN5
    subst hN4
    have hlh : hs.length ≤ 1000000 := by
      have := walkL_depth l [] (.mk p cc bb, hs) (by rw [hG]; simp [Yd.key])
      simp at this
      omega
    have HG := Lib.hid hG
    have HN3 := Lib.hid hN3
    clear hI hN2 hN3 hrec hO hno hG
    simp only [Yd.encs, El.p, El.c, El.body]
    gi_wp2
    refine hK _ _ (World.grownBy_alloc _ _ _) ?_
    intro W2 ho2 hs2 hl2 hi2
    clear hK
    obtain ⟨r2, hr2⟩ := hl2
    have hbx : Blk W2 W.heap.size 36 [.int .i64 p, .bool cc, .slice Ab bb.length cb] := (Blk.newAt W 36 #[.int .i64 p, .bool cc, .slice Ab bb.length cb] rfl).only ho2 (fun e => by omega)
    have hh2 : HeadsAt O W2 (.slice Ah hs.length ch) hs := HN3.out.keep (fun _ h => h) (fun b hb => (ho2.block b (by have := (HO.out b hb).2; simp; omega) (fun e => (HO.out b hb).1 e)).trans (Below.heap_alloc _ _ _ (HO.out b hb).2))
    have q0 := hi2.b0.cellAt (i := 0) rfl
    have qx := hbx.cellAt (i := 0) rfl
    have q1 := hi2.b1.cellAt (i := 0) rfl
    have f1 := hi2.b1.frozen 0
    have q2 := hi2.b2.cellAt (i := 0) rfl
    have f2 := hi2.b2.frozen 0
    have hs2' : W.heap.size + 1 = W2.heap.size := by rw [hs2]; simp
    have HS2 := Lib.hid hs2'
    have HI2 := Lib.hid hi2
    have HH2 := Lib.hid hh2
    clear hs2 hs2' hi2 hh2 hbx
    by_cases hpq : p = q
    · subst hpq
      have hpe : (p == p) = true := by simp
      have hcl := clone_heads O W2 _ hs HH2.out hlh
      have HCL := Lib.hid hcl
      have hW2 := HI2.out.b2.lt
      clear hcl
      gi_wp2_with ((try refine ⟨trivial, ?_⟩); gi_at_call 34; refine (CallsIn.inRound lr (callsIn_wide.2 HCL.out)).mono ?_; rintro en w3 ⟨v3, rfl, hown3, hb3⟩; obtain ⟨A3, c3, rfl⟩ := own_slice hown3; have h31 := HI2.out.b1.below hb3 (by omega); have h32 := HI2.out.b2.below hb3 (by omega); have g1 := h31.cellAt (i := 0) rfl; have e1 := h31.frozen 0; have g2 := (h31.set 0 (.slice A3 hs.length c3)).cellAt (i := 0) rfl; have g3 := (h32.far (p := ⟨w.heap.size + 1, 0, none⟩) (by show w.heap.size + 1 + 1 ≠ w.heap.size + 1; omega) (.slice A3 hs.length c3)).cellAt (i := 0) rfl; have e3 := (h32.far (p := ⟨w.heap.size + 1, 0, none⟩) (by show w.heap.size + 1 + 1 ≠ w.heap.size + 1; omega) (.slice A3 hs.length c3)).frozen 0)
      have hne : w.heap.size + 1 ≠ w.heap.size + 1 + 1 := by omega
      refine ⟨⟨by have := hb3.size; simp [World.setCell]; omega, fun k o hk ho hc => ?_⟩, hs, ⟨rfl, within_some (q := p) HG.out (fun z hz => ?_) rfl⟩, _, by simpa using (h31.set 0 (.slice A3 hs.length c3)).far (p := ⟨w.heap.size + 1 + 1, 0, none⟩) hne (.int .i64 0), by simpa using (h32.far (p := ⟨w.heap.size + 1, 0, none⟩) (Ne.symm hne) (.slice A3 hs.length c3)).set 0 (.int .i64 0), ?_, ?_⟩
      · have hlt := lt_of_block ho
        have h41 : k ≠ w.heap.size + 1 := fun e => by subst e; have := HI2.out.b1; unfold Blk at this; rw [this] at ho; cases ho; simp [Obj.isCells] at hc
        have h42 : k ≠ w.heap.size + 1 + 1 := fun e => by subst e; have := HI2.out.b2; unfold Blk at this; rw [this] at ho; cases ho; simp [Obj.isCells] at hc
        exact (Below.heap_setCell _ ⟨w.heap.size + 1 + 1, 0, none⟩ _ k h42).trans ((Below.heap_setCell _ ⟨w.heap.size + 1, 0, none⟩ _ k h41).trans ((hb3.block k hlt).trans ho))
      · obtain ⟨y, hy, rfl⟩ := List.mem_map.1 hz
        exact HNO.out y hy
      · exact ownsRow_setCell_below (a := ⟨w.heap.size + 1 + 1, 0, none⟩) (ownsRow_setCell_below (a := ⟨w.heap.size + 1, 0, none⟩) (row_base hown3 (by omega)) (by show w.heap.size + 1 < _; omega) _) (by show w.heap.size + 1 + 1 < _; omega) _
      · exact ((HI2.out.bel.trans (hb3.mono (by omega))).setCell (by show w.heap.size ≤ w.heap.size + 1; omega) _).setCell (by show w.heap.size ≤ w.heap.size + 1 + 1; omega) _
    · have hpe : (p == q) = false := by simpa using hpq
      gi_wp2
      refine ⟨KeepsFrom.refl _ _, fun _ _ => rfl, HI2.out.b0, HI2.out.b1, HI2.out.b2, fun z hz => ?_, HI2.out.bel⟩
      rcases List.mem_append.1 hz with hz | hz
      · exact HNO.out z hz
      · rw [List.mem_singleton] at hz; subst hz; exact hpq
  case done =>
    rintro D ys W hD hE hI hdef
    have hnone : insL l q = none := within_none (fun z hz => by
      rw [← hE] at hz
      obtain ⟨y, hy, rfl⟩ := List.mem_map.1 hz
      exact hI.no y hy)
    have q1 := hI.b1.cellAt (i := 0) rfl
    have f1 := hI.b1.frozen 0
    have hne : w.heap.size + 1 + 1 ≠ w.heap.size + 1 := by omega
    have hx2 := hI.b2.far (p := ⟨w.heap.size + 1, 0, none⟩) hne (.slice none 0 0)
    have q2 := hx2.cellAt (i := 0) rfl
    have f2 := hx2.frozen 0
    have hx1 : Blk ((W.setCell ⟨w.heap.size + 1, 0, none⟩ (.slice none 0 0)).setCell ⟨w.heap.size + 1 + 1, 0, none⟩ (.int .i64 6)) (w.heap.size + 1) 31 [.slice none 0 0] := by simpa using (hI.b1.set 0 (.slice none 0 0)).far (p := ⟨w.heap.size + 1 + 1, 0, none⟩) (Ne.symm hne) (.int .i64 6)
    have hx3 : Blk ((W.setCell ⟨w.heap.size + 1, 0, none⟩ (.slice none 0 0)).setCell ⟨w.heap.size + 1 + 1, 0, none⟩ (.int .i64 6)) (w.heap.size + 1 + 1) 28 [.int .i64 6] := by simpa using hx2.set 0 (.int .i64 6)
    have hdf : ((W.setCell ⟨w.heap.size + 1, 0, none⟩ (.slice none 0 0)).setCell ⟨w.heap.size + 1 + 1, 0, none⟩ (.int .i64 6)).heap[D]? = some (.deferred (some [])) := (Below.heap_setCell _ ⟨w.heap.size + 1 + 1, 0, none⟩ _ D (by show D ≠ w.heap.size + 1 + 1; omega)).trans ((Below.heap_setCell _ ⟨w.heap.size + 1, 0, none⟩ _ D (by show D ≠ w.heap.size + 1; omega)).trans hdef)
    have hbl : Below w.heap.size w ((W.setCell ⟨w.heap.size + 1, 0, none⟩ (.slice none 0 0)).setCell ⟨w.heap.size + 1 + 1, 0, none⟩ (.int .i64 6)) := (hI.bel.setCell (by show w.heap.size ≤ w.heap.size + 1; omega) _).setCell (by show w.heap.size ≤ w.heap.size + 1 + 1; omega) _
    have HX1 := Lib.hid hx1
    have HX3 := Lib.hid hx3
    have HBL := Lib.hid hbl
    have HDF := Lib.hid hdf
    have HNN := Lib.hid hnone
    clear hx1 hx3 hbl hdf hx2 hne hnone hI hE
    go_wp2
    refine ⟨by simp, .inl ⟨_, _, rfl, run_takeDeferred HDF.out, ?_⟩⟩
    have d1 := (HX1.out.far' D (by omega) (o := .deferred none)).cellAt (i := 0) rfl
    have d2 := (HX3.out.far' D (by omega) (o := .deferred none)).cellAt (i := 0) rfl
    refine ⟨.tuple #[.slice none 0 0, .int .i64 6], by simp [results, Tryz.results14, go_sem, d1, d2], _, by unfold wErr; rw [HNN.out]; rfl, by unfold wHeads; rw [HNN.out]; exact World.ownsRow_nil _ _ _ _, HBL.out.grown (grownBy_putObj' _ D _) HBL.out.size (fun k e => by cases e; omega)⟩
  case stop =>
    rintro D c pre W hD ⟨hs, ⟨rfl, hin⟩, vo, h1, h2, h3, h4⟩ hdef
    have HIN := Lib.hid hin
    have HDF := Lib.hid hdef
    have H3 := Lib.hid h3
    have H4 := Lib.hid h4
    clear hin hdef h3 h4
    gi_wp2
    refine ⟨by simp, .inl ⟨_, _, rfl, run_takeDeferred HDF.out, ?_⟩⟩
    have d1 := (h1.far' D (by omega) (o := .deferred none)).cellAt (i := 0) rfl
    have d2 := (h2.far' D (by omega) (o := .deferred none)).cellAt (i := 0) rfl
    refine ⟨.tuple #[vo, .int .i64 0], by simp [results, Tryz.results14, go_sem, d1, d2], _, by unfold wErr; rw [HIN.out]; rfl, by unfold wHeads; rw [HIN.out]; exact row_base (ownsRow_putObj H3.out _ HDF.out rfl) (by omega), H4.out.grown (grownBy_putObj' _ D _) H4.out.size (fun k e => by cases e; omega)⟩
end Go.Proofs.YthaampinmelgaaaGreatDoor
