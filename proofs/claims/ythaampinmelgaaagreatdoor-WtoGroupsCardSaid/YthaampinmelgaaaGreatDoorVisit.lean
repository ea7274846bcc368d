/- Package wto: Order's closure visit. -/
import Derived.Test.YthaampinmelgaaaGreatDoorComponent
import Derived.Test.YthaampinmelgaaaGreatDoorFront
namespace Go.Proofs.YthaampinmelgaaaGreatDoor
open Go.RowKit Go.Shelf

theorem ownsRow_pos {e : TypeId} {w : World} {base n m : Nat} {v : Value} {xs : List Value} (h : w.ownsRow base e m v n xs) (hn : 0 < n) : ∃ g c, v = .slice (some ⟨g, 0, none⟩) n c ∧ n ≤ c ∧ c ≤ maxLen := by
  rcases h.2 with ⟨rfl, rfl⟩ | ⟨g, cap, cur, rfl, _, _, h1, h2, _⟩
  · omega
  · exact ⟨g, cap, rfl, h1, h2⟩
theorem ownsRow_take {e : TypeId} {w : World} {base n c g k : Nat} {xs : List Value} (h : w.ownsRow base e 1 (.slice (some ⟨g, 0, none⟩) n c) n xs) (hk : k ≤ n) : w.ownsRow base e 1 (.slice (some ⟨g, 0, none⟩) k c) k (xs.take k) := by
  obtain ⟨hl, ⟨h1, -⟩ | ⟨g', cap, cur, he, hb, hh, h1, h2, h3, h4⟩⟩ := h
  · cases h1
  · cases he
    refine ⟨by simp; omega, .inr ⟨g, c, cur, rfl, hb, hh, by omega, h2, h3, ?_⟩⟩
    rw [← h4, List.take_take]
    congr 1
    omega
theorem idxI_lt (l : List Int) (x : Int) : idxI l x < (l.length : Int) := by
  unfold idxI
  cases h : l.findIdx? (fun y => x == y) with
  | none => simp; omega
  | some i => have := (List.findIdx?_eq_some_iff_getElem.1 h).1; simp; omega
theorem SW.mono {e : OEnv} {sv lv : Value} {lb b : Nat} (h : b = e.sb ∨ b = e.nb ∨ b = e.na ∨ sv.ownBlock = some b) : SW e sv lv lb b := by
  rcases h with h | h | h | h
  · exact .inl h
  · exact .inr (.inl h)
  · exact .inr (.inr (.inl h))
  · exact .inr (.inr (.inr (.inr (.inl h))))
/-- What a list keeps when other things are written. -/
theorem LO.only {e : OEnv} {w w' : World} {lb off : Nat} {T : TypeId} {cs : List Value} {base : Nat} {P : Nat → Prop} {lv : Value} {l : List El} {us : List Value} (h : LO e w lb off T cs base P lv l us) {S : Nat → Prop} (ho : Only S w w')
    (hS : ∀ b, e.base ≤ b → ¬ Typed w b 3 → ¬ S b) : LO e w' lb off T cs base P lv l us := by
  have hlo := h.lo
  have hhi := h.hi
  refine ⟨h.b.only ho (hS lb hlo fun ht => (Typed.blk h.b).ne ht h.ne rfl), h.at_, h.ne, h.lo, h.hi, h.eo.only ho (fun b hb => hS b ?_ fun ht => (Typed.of_row h.eo.own hb).ne ht (by decide) rfl) (fun b hb => hS b ?_ fun ht => (h.eo.apart b hb).2.1.ne ht (by decide) rfl)⟩
  · have := (h.eo.own.lt b hb).1; omega
  · have := (h.eo.apart b hb).1; omega
theorem LO.alloc {e : OEnv} {w : World} {lb off : Nat} {T : TypeId} {cs : List Value} {base : Nat} {P : Nat → Prop} {lv : Value} {l : List El} {us : List Value} (h : LO e w lb off T cs base P lv l us) (o : Obj) : LO e (w.alloc o) lb off T cs base P lv l us :=
  h.only ((Only.refl (fun _ => False) w).alloc o) (fun _ _ _ f => f)

theorem lt_of_cell' {w : World} {b i : Nat} {v : Value} (h : w.cell? ⟨b, i, none⟩ = some v) : b < w.heap.size := by
  rcases Nat.lt_or_ge b w.heap.size with h1 | h1
  · exact h1
  · rw [World.cell?, Array.getElem?_eq_none h1] at h; cases h
/-- One element is put ahead of the list, and the list's variable set. -/
theorem LO.put {e : OEnv} {w w' : World} {lb off : Nat} {T : TypeId} {cs : List Value} {base : Nat} {P : Nat → Prop} {lv : Value} {l : List El} {us : List Value} (h : LO e w lb off T (cs.set off lv) base P lv l us) {Q : Nat → Prop} {u : Value} (x : El) {g c : Nat}
    (hu : Els Q w u x.body) (hQ : ∀ b, Q b → base ≤ b ∧ Typed w b 36 ∧ lv.ownBlock ≠ some b) (hx : InI64 x.p) (hgr : w.grownBy w' lv.ownBlock)
    (hown : w'.ownsRow base 36 3 (.slice (some ⟨g, 0, none⟩) (l.length + 1) c) (l.length + 1) ([.int .i64 x.p, .bool x.c, u] ++ elCells l us)) (hat : lv.ownBlock = some g ∨ w.heap.size ≤ g) :
    LO e (w'.setCell ⟨lb, off, none⟩ (.slice (some ⟨g, 0, none⟩) (l.length + 1) c)) lb off T (cs.set off (.slice (some ⟨g, 0, none⟩) (l.length + 1) c)) base (fun b => P b ∨ Q b) (.slice (some ⟨g, 0, none⟩) (l.length + 1) c) (x :: l) (u :: us) ∧
      Only (fun b => b = lb ∨ lv.ownBlock = some b) w (w'.setCell ⟨lb, off, none⟩ (.slice (some ⟨g, 0, none⟩) (l.length + 1) c)) ∧ Same w lv (.slice (some ⟨g, 0, none⟩) (l.length + 1) c) := by
  have hhi := h.hi
  have hsm : Same w lv (.slice (some ⟨g, 0, none⟩) (l.length + 1) c) := by
    rcases hat with hat | hat
    · exact .inl (by rw [hat]; rfl)
    · exact .inr ⟨g, rfl, hat⟩
  have heo := h.eo.put (pre := []) (post := l) (ups := []) (uqs := us) (x := x) (u := u) rfl rfl rfl hu hQ hx hgr (by simpa [elCells] using hown) (by
    rcases hat with hat | hat
    · exact .inl (by rw [hat]; rfl)
    · exact .inr ⟨g, rfl, hat⟩)
  have hb7 : Blk w' lb T (cs.set off lv) := h.b.same (hgr.block lb h.b.lt (fun he => by have := (h.eo.own.lt lb he.symm).1; omega))
  have hol : off < cs.length := by have := (List.getElem?_eq_some_iff.1 h.at_).1; simpa using this
  refine ⟨⟨?_, by simp [hol], h.ne, h.lo, h.hi, heo.only ((Only.refl (fun b => b = lb) w').set (p := ⟨lb, off, none⟩) (fun _ => rfl) _) (fun b hb he => ?_) (fun b hb he => ?_)⟩, (Only.of_grown (S := fun b => b = lb ∨ lv.ownBlock = some b) hgr (fun b hb => .inr hb)).set (p := ⟨lb, off, none⟩) (fun _ => .inl rfl) _, hsm⟩
  · have := hb7.set off (.slice (some ⟨g, 0, none⟩) (l.length + 1) c)
    rw [List.set_set] at this
    exact this
  · have := (heo.own.lt b hb).1; omega
  · have := (heo.apart b hb).1; omega

set_option maxRecDepth 100000 in
set_option maxHeartbeats 16000000 in
theorem visit_succ (e : OEnv) (hok : e.Ok) (k : Nat) (ih : VisitAt e k) : VisitAt e (k + 1) := by
  intro w s sv lb off T cs base P lv l us v r hs hl hb hv h
  obtain ⟨h1, h2, h3, h4, h5, h6, h7, h8, hn512, -, -⟩ := id hok
  obtain ⟨ie, hi, hz0, hz1, hz2⟩ := info_parts info_int
  unfold visitV at h
  by_cases hg : s.stack.length < 1000000 ∧ s.next < 1000000000000000
  rotate_left
  · rw [if_neg hg] at h; cases h
  rw [if_pos hg] at h
  obtain ⟨ha, hn⟩ := hg
  obtain ⟨a, hfold, hleave⟩ := Option.bind_eq_some_iff.1 h
  have hbase : e.base ≤ w.heap.size := by have := hl.lo; have := hl.hi; omega
  have hvn : (v : Int) < (e.n : Int) := by omega
  have hcol : cs[off]? = some lv := hl.at_
  -- the row of the point
  have hsA := hs.alloc hok (.cells #[.int .i64 (v : Int)] 3)
  have hnb := Blk.newAt w 3 #[.int .i64 (v : Int)] rfl
  have k0 := hs.sk.cellAt (i := 0) rfl
  have kf := hs.sk.frozen 0
  have HIH := Lib.hid ih
  have HOK := Lib.hid hok
  have HFO := Lib.hid hfold
  have HLE := Lib.hid hleave
  have HS := Lib.hid hs
  have HL := Lib.hid hl
  have HC := Lib.hid hcol
  clear h ih hok hfold hleave hs hl hcol
  go_enter Tryz.func20, Tryz.ntmps20
  go_upto_region 2 with (at_builtin; refine wpList_append_lies _ rfl (.tmp 22) (.tmp 24) 31 rfl e.base 3 ie (.int .i64 0) 1 8 Tryz.underlying31 hi hz0 hz1 hz2 rfl (by decide) sv s.stack.length (s.stack.map natV) rfl hsA.st ⟨w.heap.size, 0, none⟩ 1 1 [.int .i64 (v : Int)] rfl rfl (fun q u hq => by rw [add_none]; exact hnb.cellAt hq) ?c2 (by decide) ?c3 ?c4 (by rw [World.size_alloc]; omega) _ rfl ?_)
  case c2 => first | rfl | (intro u hu; simp at hu; subst hu; rfl)
  case c3 => unfold maxLen; omega
  case c4 => omega
  intro g cg w1 hown1 hgr1 hat1 _
  have hst1 : w1.ownsRow e.base 3 1 (.slice (some ⟨g, 0, none⟩) (s.stack.length + 1) cg) (s.stack ++ [v]).length ((s.stack ++ [v]).map natV) := by simpa [natV] using hown1
  obtain ⟨hs1, hk1⟩ := hsA.grown HOK.out (by rw [World.size_alloc]; omega) hgr1 hst1 (fun x hx => by
    rcases List.mem_append.1 hx with hx | hx
    · exact HS.out.sl x hx
    · simp at hx; omega)
  have k1 := (hk1 hsA.sk (by omega)).cellAt (i := 0) rfl
  have f1 := (hk1 hsA.sk (by omega)).frozen 0
  have hoA : Only (fun b => sv.ownBlock = some b) w w1 := ((Only.refl _ w).alloc (.cells #[.int .i64 (v : Int)] 3)).trans (Only.of_grown (S := fun b => sv.ownBlock = some b) hgr1 (fun b hb => hb)) (fun _ _ hb => hb)
  have n1 := (hk1 hsA.nx (by omega)).cellAt (i := 0) rfl
  have n2 := (hk1 hsA.nx (by omega)).frozen 0
  have m1 := (hk1 hsA.m (by omega)).cellAt (i := 0) rfl
  have a1 := (hk1 hsA.a (by omega)).cellAt (i := v) (u := .int .i64 (getI s.nums v)) (by
    have := hsA.len
    unfold getI
    rw [List.getElem?_map, List.getD_eq_getElem?_getD, List.getElem?_eq_getElem (by omega)]; rfl)
  have a2 := (hk1 hsA.a (by omega)).frozen v
  have hs2 := (hs1.setNext HOK.out (s.next + 1)).setNum HOK.out v ((s.next : Int) + 1)
  obtain ⟨ado, vr, ⟨co, hov⟩, hob, hor, hrow⟩ := hs2.row hv
  obtain ⟨Ar, cr, rfl, -, -, hmr, hcr⟩ := hrow.shape
  have o1 := (hk1 hsA.o (by omega)).cellAt (i := 0) rfl
  rw [hov] at o1
  have hnn : ((s.next + 1 : Nat) : Int) = (s.next : Int) + 1 := by omega
  have hn1 : (s.next : Int) ≤ 1000000000000000 := by omega
  simp only [hnn] at hs2 hor hcr
  have hots : Only (fun b => b = e.sb ∨ b = e.nb ∨ b = e.na ∨ sv.ownBlock = some b) w (((w1.setCell ⟨e.sb, 0, none⟩ (.slice (some ⟨g, 0, none⟩) (s.stack.length + 1) cg)).setCell ⟨e.nb, 0, none⟩ (.int .i64 ((s.next : Int) + 1))).setCell ⟨e.na, v, none⟩ (.int .i64 ((s.next : Int) + 1))) :=
    (((hoA.mono (fun b _ h => .inr (.inr (.inr h)))).set (p := ⟨e.sb, 0, none⟩) (fun _ => .inl rfl) _).set (p := ⟨e.nb, 0, none⟩) (fun _ => .inr (.inl rfl)) _).set (p := ⟨e.na, v, none⟩) (fun _ => .inr (.inr (.inl rfl))) _
  obtain ⟨w2, hw2⟩ : ∃ w2, w2 = ((w1.setCell ⟨e.sb, 0, none⟩ (.slice (some ⟨g, 0, none⟩) (s.stack.length + 1) cg)).setCell ⟨e.nb, 0, none⟩ (.int .i64 ((s.next : Int) + 1))).setCell ⟨e.na, v, none⟩ (.int .i64 ((s.next : Int) + 1)) := ⟨_, rfl⟩
  have d1 : e.nb ≠ e.sb := by omega
  have d2 : e.na ≠ e.sb := by omega
  have d3 : e.na ≠ e.nb := by omega
  have d4 : e.mb ≠ e.sb := by omega
  have d5 : e.mb ≠ e.nb := by omega
  have d6 : e.ob ≠ e.sb := by omega
  have d7 : e.ob ≠ e.nb := by omega
  have d8 : e.ob ≠ e.na := by omega
  have o2 : w2.cell? ⟨e.ob, 0, none⟩ = some (.slice (some ado) e.n co) := by have := hs2.o.cellAt (i := 0) rfl; rw [hw2, this, hov]
  have n3 : w2.cell? ⟨e.nb, 0, none⟩ = some (.int .i64 ((s.next : Int) + 1)) := by have := hs2.nx.cellAt (i := 0) rfl; rw [hw2]; simpa using this
  rw [← hw2] at hs2 hor hcr hots
  have hot : Only (SW e sv lv lb) w w2 := hots.mono (fun b _ h => SW.mono h)
  have HOTS := Lib.hid hots
  have HS2 := Lib.hid hs2
  have HCR := Lib.hid hcr
  have HOT := Lib.hid hot
  have HS1 := Lib.hid hs1
  have HAT := Lib.hid hat1
  clear hs2 hcr hot hots hs1 hat1 hoA hown1 hgr1 hst1 hsA hnb hov hnn hrow hk1
  go_upto_region 5 with fail
  rw [← hw2]
  revert HS2 HOT
  generalize hsv1 : Value.slice (some ⟨g, 0, none⟩) (s.stack.length + 1) cg = sv1
  intro HS2 HOT
  have hat2 : Same w sv sv1 := by
    rcases HAT.out with h | h
    · exact .inl (by rw [← hsv1]; exact h.symm)
    · exact .inr ⟨g, by rw [← hsv1]; rfl, by rw [h]; simp⟩
  have hlo2 : LO e w2 lb off T (cs.set off lv) base P lv l us := by
    rw [show cs.set off lv = cs from by
      obtain ⟨hlt, hx⟩ := List.getElem?_eq_some_iff.1 HC.out
      rw [← hx]; exact List.set_getElem_self hlt]
    refine HL.out.only HOTS.out (fun b hb ht h => ?_)
    rcases h with h | h | h | h
    · omega
    · omega
    · omega
    · exact ht (Typed.of_row HS.out.st h)
  have hswl : ∀ b, b < e.ob → ¬ SW e sv lv lb b := fun b hb h => by
    have q1 := HL.out.lo
    have q2 := HL.out.hi
    rcases h with h | h | h | h | h | h
    · omega
    · omega
    · omega
    · omega
    · have := (HS.out.lt h).1; omega
    · have := (HL.out.eo.own.lt b h).1; omega
  have HSWL := Lib.hid hswl
  have HA2 := Lib.hid hat2
  have HL2 := Lib.hid hlo2
  clear hat2 hlo2 hswl hw2 hsv1 HS1 HAT HS k1 f1 n1 n2 m1 a1 a2 d1 d2 d3 d4 d5 d6 d7 d8 o1 k0 kf
  have hidx := idxs_lt Prod.fst e.E v
  revert HCR hmr hidx HFO hor HLE
  generalize hrow : idxs Prod.fst e.E v = row
  intro HFO HLE hmr hor HCR hidx
  have HROW := Lib.hid hrow
  have HIDX := Lib.hid hidx
  clear hrow hidx
  go_wp2
  go_loopw [12, 13, 15, 16, 17, 38] (fun x12 x13 _ _ _ y wr => ∃ (m : Nat) (st : VSt × List El × Int × Bool) (svm lvm : Value) (P' : Nat → Prop) (us' : List Value), m ≤ row.length ∧ y = .int .i64 m ∧ x12 = .int .i64 st.2.2.1 ∧ x13 = .bool st.2.2.2 ∧
    foldO (stepV (visitV e.E k) e.E) (row.take m) (⟨s.nums.set v ((s.next : Int) + 1), s.stack ++ [v], s.next + 1⟩, l, (s.next : Int) + 1, false) = some st ∧ OS e wr st.1 svm ∧ LO e wr lb off T (cs.set off lvm) base P' lvm st.2.1 us' ∧ Only (SW e sv lv lb) w wr ∧ Same w sv svm ∧ Same w lv lvm) (fun _ _ _ _ _ y _ => row.length - (intOf y).toNat)
  case atStart => exact ⟨0, _, sv1, lv, P, us, Nat.zero_le _, rfl, rfl, rfl, rfl, HS2.out, HL2.out, HOT.out, HA2.out, Same.refl _ _⟩
  case round =>
    obtain ⟨m, st, svm, lvm, P', us', hm, rfl, rfl, rfl, hf, hs, hl, ho, hsm, hlm⟩ := hrel
    obtain ⟨st1, sl, sh, sp⟩ := st
    simp only at hs hl
    clear o2 n3 hor
    have hsw := ho.size
    by_cases hlt : m < row.length
    · have hlt1 : (m : Int) < (row.length : Int) := by omega
      obtain ⟨st', hstep, hnext⟩ := foldO_at _ _ m hlt _ _ _ HFO.out hf
      have hkl := HIDX.out _ (List.getElem_mem hlt)
      have hrk : row[m]? = some row[m] := List.getElem?_eq_getElem hlt
      revert hstep hkl hrk
      generalize row[m] = ke
      intro hstep hkl hrk
      obtain ⟨adr, ur, rfl, hbr, hcr, hur⟩ := HCR.out m ke hrk
      cases hur
      have d1 : wr.cell? (adr.add m) = some (.int .i64 (ke : Int)) := by
        refine (World.cell?_of_block ?_).trans hcr
        rw [block_add]
        exact (ho.block _ (by omega) (HSWL.out _ hbr)).trans (HOT.out.block _ (by omega) (HSWL.out _ hbr)).symm
      obtain ⟨ade, hA, hbe, hce, htn⟩ := hs.edge HOK.out hkl
      have g2 := hs.g.cellAt (i := 2) rfl
      rw [hA] at g2
      have e3 := hs.m.cellAt (i := 0) rfl
      have e4 := hs.num htn
      have e5 := hs.v.cellAt (i := 0) rfl
      simp only [OEnv.vfn] at e5
      have hkl1 : (ke : Int) < (e.E.length : Int) := by omega
      have hkl2 : decide ((e.E.length : Int) ≤ (ke : Int)) = false := by rw [decide_eq_false_iff_not]; omega
      have hkl3 : decide (e.E.length ≤ ke) = false := by rw [decide_eq_false_iff_not]; omega
      have htn1 : (tgt e.E ke : Int) < (e.n : Int) := by omega
      unfold stepV at hstep
      simp only at hstep
      have HNX := Lib.hid hnext
      clear hnext hf hcr hA hrk
      by_cases hz : getI st1.nums (tgt e.E ke) = 0
      · rw [if_pos hz] at hstep
        obtain ⟨r3, hr, rfl⟩ := Option.map_eq_some_iff.1 hstep
        rw [hz] at e4
        have hcall := HIH.out wr st1 svm lb off T _ base P' lvm sl us' _ r3 hs hl (by omega) htn hr
        obtain ⟨r31, r32, rh⟩ := r3
        have HC2 := Lib.hid hcall
        have HO := Lib.hid ho
        have HSM := Lib.hid hsm
        have HLM := Lib.hid hlm
        clear hstep hr hcall hz hs hl ho hsm hlm
        simp only at HNX
        by_cases hle : rh ≤ sh
        · have hle1 : decide (rh ≤ sh) = true := decide_eq_true hle
          rw [if_pos hle, hle1, Bool.true_or] at HNX
          go_wp2_with (go_at_call 20; refine HC2.out.mono ?_; rintro en w3 ⟨rfl, svx, lvx, usx, Px, hs3, hl3, ho3, hsx, hlx⟩; rw [List.set_set] at hl3)
          have hsz := HO.out.size
          go_roundw
          case rel => exact ⟨m + 1, _, svx, lvx, Px, usx, by omega, by go_num, rfl, rfl, HNX.out, hs3, hl3, SW.trans HO.out ho3 HSM.out HLM.out, HSM.out.trans hsx hsz, HLM.out.trans hlx hsz⟩
          case measure => simp [intOf]; omega
        · have hle1 : decide (rh ≤ sh) = false := decide_eq_false hle
          rw [if_neg hle, hle1, Bool.false_or] at HNX
          go_wp2_with (go_at_call 20; refine HC2.out.mono ?_; rintro en w3 ⟨rfl, svx, lvx, usx, Px, hs3, hl3, ho3, hsx, hlx⟩; rw [List.set_set] at hl3)
          have hsz := HO.out.size
          go_roundw
          case rel => exact ⟨m + 1, _, svx, lvx, Px, usx, by omega, by go_num, rfl, rfl, HNX.out, hs3, hl3, SW.trans HO.out ho3 HSM.out HLM.out, HSM.out.trans hsx hsz, HLM.out.trans hlx hsz⟩
          case measure => simp [intOf]; omega
      · rw [if_neg hz] at hstep
        obtain rfl := Option.some.inj hstep
        revert e4 hz HNX
        generalize getI st1.nums (tgt e.E ke) = x
        intro e4 hz HNX
        have hz1 : (x == 0) = false := by rw [beq_eq_false_iff_ne]; exact hz
        have hz2 : decide (x = 0) = false := by rw [decide_eq_false_iff_not]; exact hz
        clear hstep
        by_cases hle : x ≤ sh
        · have hle1 : decide (x ≤ sh) = true := decide_eq_true hle
          rw [if_pos hle, hle1, Bool.true_or] at HNX
          go_wp2
          go_roundw
          case rel => exact ⟨m + 1, _, svm, lvm, P', us', by omega, by go_num, rfl, rfl, HNX.out, hs, hl, ho, hsm, hlm⟩
          case measure => simp [intOf]; omega
        · have hle1 : decide (x ≤ sh) = false := decide_eq_false hle
          rw [if_neg hle, hle1, Bool.false_or] at HNX
          go_wp2
          go_roundw
          case rel => exact ⟨m + 1, _, svm, lvm, P', us', by omega, by go_num, rfl, rfl, HNX.out, hs, hl, ho, hsm, hlm⟩
          case measure => simp [intOf]; omega
    · obtain rfl : m = row.length := by omega
      rw [List.take_length, HFO.out] at hf
      obtain rfl := Option.some.inj hf
      have hle := HLE.out
      have e3 := hs.m.cellAt (i := 0) rfl
      have e4 := hs.num hv
      have e6 := hs.a.frozen v
      have e7 := hs.sk.cellAt (i := 0) rfl
      have e8 := hs.sk.frozen 0
      unfold leaveV at hle
      simp only at hle
      clear hf HFO HCR HIDX HLE hlt hm
      have hmr2 : ∃ q : Nat, q = row.length := ⟨_, rfl⟩
      by_cases hne : sh ≠ getI st1.nums v
      · rw [if_pos hne] at hle
        obtain rfl := Option.some.inj hle
        revert e4 hne
        generalize getI st1.nums v = x
        intro e4 hne
        have hne1 : (sh != x) = true := by rw [bne_iff_ne]; exact hne
        have hne2 : decide (sh = x) = false := by rw [decide_eq_false_iff_not]; exact hne
        have hne3 : (sh == x) = false := by rw [beq_eq_false_iff_ne]; exact hne
        have HD : Hid (VDone e w sv lb off T cs base lv (st1, sl, sh) (.returned (.int .i64 sh)) wr) := Lib.hid ⟨rfl, svm, lvm, us', P', hs, hl, ho, hsm, hlm⟩
        clear hle hs hl ho hsm hlm hne e7 e8
        go_wp2
        go_ret
        exact HD.out
      · rw [if_neg hne] at hle
        have hsh : getI st1.nums v = sh := by simpa using (Classical.not_not.1 hne).symm
        rw [hsh] at e4
        by_cases hi0 : idxI (castN st1.stack) (v : Int) < 0
        · rw [if_pos hi0] at hle; cases hle
        rw [if_neg hi0] at hle
        have hilt := idxI_lt (castN st1.stack) (v : Int)
        have hcl : (castN st1.stack).length = st1.stack.length := by simp [castN]
        rw [hcl] at hilt
        obtain ⟨at_, hat⟩ : ∃ at_ : Nat, idxI (castN st1.stack) (v : Int) = (at_ : Int) := ⟨(idxI (castN st1.stack) (v : Int)).toNat, by omega⟩
        have hs4 : OS e (wr.setCell ⟨e.na, v, none⟩ (.int .i64 9223372036854775807)) ⟨st1.nums.set v maxI, st1.stack, st1.next⟩ svm := hs.setNum HOK.out v maxI
        have hints : Ints (wr.setCell ⟨e.na, v, none⟩ (.int .i64 9223372036854775807)).heap.size (wr.setCell ⟨e.na, v, none⟩ (.int .i64 9223372036854775807)) svm (castN st1.stack) := Nats.ints (Sl.of_own natV (fun _ _ => rfl) hs4.st)
        have hix := index_any _ _ _ _ (v : Int) hints
        rw [hat] at hle hilt hix
        have hatl : at_ < st1.stack.length := by omega
        obtain ⟨gs, cs', rfl, hsc, hscm⟩ := ownsRow_pos hs.st (by omega)
        simp only [Int.toNat_natCast] at hle
        have hoc : Only (SW e sv lv lb) w (wr.setCell ⟨e.na, v, none⟩ (.int .i64 9223372036854775807)) := ho.set (p := ⟨e.na, v, none⟩) (fun _ => .inr (.inr (.inl rfl))) _
        have hl4 : LO e (wr.setCell ⟨e.na, v, none⟩ (.int .i64 9223372036854775807)) lb off T (cs.set off lvm) base P' lvm sl us' := hl.only ((Only.refl (fun b => b = e.na) wr).set (p := ⟨e.na, v, none⟩) (fun _ => rfl) _) (fun b hb _ h => by omega)
        have hsw4 : (wr.setCell ⟨e.na, v, none⟩ (.int .i64 9223372036854775807)).heap.size = wr.heap.size := by simp [World.setCell]
        have f4 := hs4.sk.frozen 0
        have k4 := hs4.sk.cellAt (i := 0) rfl
        unfold maxLen at hscm
        have hc64 : (cs' : Int) ≤ 9223372036854775807 := by omega
        have ha64 : (at_ : Int) + 1 ≤ 9223372036854775807 := by omega
        have HLE2 := Lib.hid hle
        have HIX := Lib.hid hix
        have HS4 := Lib.hid hs4
        have HO4 := Lib.hid hoc
        have HL4 := Lib.hid hl4
        have HSM := Lib.hid hsm
        have HLM := Lib.hid hlm
        have HZ4 := Lib.hid hsw4
        have hb1 : (0 : Int) ≤ (at_ : Int) + 1 := by omega
        have hb2 : (at_ : Int) + 1 ≤ (st1.stack.length : Int) := by omega
        have hb3 : (at_ : Int) ≤ (st1.stack.length : Int) := by omega
        have hb4 : (at_ : Int) ≤ (cs' : Int) := by omega
        have hb5 : (at_ : Int) + 1 ≤ (cs' : Int) := by omega
        have hb6 : ¬ cs' = 0 := by omega
        clear hne hsh hi0 hilt hcl hat hs hl ho hsm hlm hle hix hs4 hoc hl4 hints hsw4 e7 e8
        revert HIX HS4 HO4 HL4 HZ4 f4 k4
        generalize hw4 : wr.setCell ⟨e.na, v, none⟩ (.int .i64 9223372036854775807) = w4
        intro f4 k4 HIX HS4 HO4 HL4 HZ4
        go_upto_region 19 with (go_at_call 21; refine HIX.out.mono ?_; rintro en w5 ⟨rfl, ho5⟩; have k5 := ho5.cellAt k4; have f5 := (ho5.frozenAt f4 HS4.out.sk.lt))
        have HO5 := Lib.hid ho5
        clear ho5 k4 f4
        have hs5 := HS4.out.only HOK.out HO5.out (fun _ _ f => f) (fun _ _ f => f)
        have hst5 : w5.ownsRow e.base 3 1 (.slice (some ⟨gs, 0, none⟩) at_ cs') (st1.stack.take at_).length ((st1.stack.take at_).map natV) := by
          have := ownsRow_take hs5.st (k := at_) (by omega)
          rw [List.map_take, List.length_take, Nat.min_eq_left (by omega)]
          exact this
        have hs6 := hs5.setStack HOK.out hst5 (fun x hx => hs5.sl x (List.mem_of_mem_take hx))
        have hl6 := (HL4.out.only HO5.out (fun _ _ _ f => f)).only ((Only.refl (fun b => b = e.sb) w5).set (p := ⟨e.sb, 0, none⟩) (fun _ => rfl) (.slice (some ⟨gs, 0, none⟩) at_ cs')) (fun b hb _ h => by omega)
        have ho6 : Only (SW e sv lv lb) w (w5.setCell ⟨e.sb, 0, none⟩ (.slice (some ⟨gs, 0, none⟩) at_ cs')) := (HO4.out.trans HO5.out (fun _ _ f => f.elim)).set (p := ⟨e.sb, 0, none⟩) (fun _ => .inl rfl) _
        have hsm6 : Same w sv (.slice (some ⟨gs, 0, none⟩) at_ cs') := HSM.out
        have hpop : ∀ (j x : Nat), (st1.stack.drop (at_ + 1))[j]? = some x → (w5.setCell ⟨e.sb, 0, none⟩ (.slice (some ⟨gs, 0, none⟩) at_ cs')).cell? ⟨gs, at_ + 1 + j, none⟩ = some (.int .i64 (x : Int)) := fun j x hx => by
          have h1 : gs ≠ e.sb := by have := (hs5.lt (b := gs) rfl).1; omega
          rw [World.cell?_setCell_other _ _ _ _ (fun he => by have he2 := congrArg Addr.block he; first | exact h1 he2 | exact h1 he2.symm)]
          have h2 := hs5.st.cells (g := gs) rfl (at_ + 1 + j) (natV x) (by rw [List.getElem?_map, ← List.getElem?_drop, hx]; rfl)
          rw [add_none] at h2
          exact h2
        have hpn : ∀ x ∈ st1.stack.drop (at_ + 1), x < e.n := fun x hx => hs5.sl x (List.mem_of_mem_drop hx)
        have HPN := Lib.hid hpn
        have hgna : gs ≠ e.na := by have := (hs5.lt (b := gs) rfl).1; omega
        have hpl : (st1.stack.drop (at_ + 1)).length = st1.stack.length - (at_ + 1) := List.length_drop
        have HS6 := Lib.hid hs6
        have HL6 := Lib.hid hl6
        have HO6 := Lib.hid ho6
        have HM6 := Lib.hid hsm6
        have HPOP := Lib.hid hpop
        have HPL := Lib.hid hpl
        clear hpn hs5 hst5 hs6 hl6 ho6 hsm6 hpop hpl HS4 HIX HL4 HO4 HZ4 HSM
        by_cases hca : cs' = at_ + 1
        · subst hca
          go_upto_region 21 with fail
          generalize hpv0 : Value.slice (some ⟨gs, 0, none⟩) 0 0 = pv
          have hdn : st1.stack.drop (at_ + 1) = [] := List.drop_eq_nil_of_le (by omega)
          have hpv : ∃ Ap cp, pv = .slice Ap (st1.stack.drop (at_ + 1)).length cp ∧ ∀ (j x : Nat), (st1.stack.drop (at_ + 1))[j]? = some x → Ap = some ⟨gs, at_ + 1, none⟩ := ⟨_, _, by rw [hdn]; exact hpv0.symm, fun j x hx => by rw [hdn] at hx; simp at hx⟩
          clear hdn hpv0
          have hcsx : ∃ cx, cx = at_ + 1 := ⟨_, rfl⟩
          obtain ⟨Ap, cp, rfl, hap⟩ := hpv
          have HAP := Lib.hid hap
          clear hap
          revert HS6 HL6 HO6 HPOP
          generalize w5.setCell ⟨e.sb, 0, none⟩ (.slice (some ⟨gs, 0, none⟩) at_ (at_ + 1)) = w6
          intro HS6 HL6 HO6 HPOP
          have c6 := HL6.out.b.cellAt HL6.out.at_
          have f6 := HL6.out.b.frozen off
          have hlo := HL6.out.lo
          have hhi := HL6.out.hi
          have hw6 := HO6.out.size
          cases sp with
          | false =>
            have hle := HLE2.out
            rw [if_pos rfl] at hle
            obtain ⟨hsl, -, rfl⟩ := consL_map hle
            clear hle HLE2
            have hbl := Blk.newAt w6 36 #[.int .i64 (v : Int), .bool false, .slice none 0 0] rfl
            have heoA := HL6.out.eo.alloc (.cells #[.int .i64 (v : Int), .bool false, .slice none 0 0] 36)
            have hins := insert_any base (w6.alloc (.cells #[.int .i64 (v : Int), .bool false, .slice none 0 0] 36)) lvm sl.length w6.heap.size (elCells sl us') _ heoA.own hbl rfl
              (fun h => by have := (HL6.out.eo.own.lt _ h).2; omega) heoA.one (by intro u hu; simp at hu; rcases hu with rfl | rfl | rfl <;> rfl) (by rw [World.size_alloc]; omega) (by omega)
            have HINS := Lib.hid hins
            have HEO := Lib.hid heoA
            clear hbl heoA hins
            go_wp2_with (go_at_call 22; refine HINS.out.mono ?_; rintro en w7 ⟨g7, c7, rfl, hown7, hgr7, hat7⟩; have hb7 := (HL6.out.b.alloc (.cells #[.int .i64 (v : Int), .bool false, .slice none 0 0] 36)).same (hgr7.block lb (by rw [World.size_alloc]; have := HL6.out.b.lt; omega) (fun h => by have := (HL6.out.eo.own.lt lb h.symm).1; omega)); have c7 := hb7.cellAt HL6.out.at_; have f7 := hb7.frozen off)
            obtain ⟨hl8, ho8, hm8⟩ := (HL6.out.alloc (.cells #[.int .i64 (v : Int), .bool false, .slice none 0 0] 36)).put (Q := fun _ => False) (u := .slice none 0 0) (El.mk (v : Int) false []) Els.nil (fun b f => f.elim) ⟨by show _ ≤ (v : Int); omega, by show (v : Int) ≤ _; omega⟩ hgr7 hown7 hat7
            have hs8 := (HS6.out.alloc HOK.out (.cells #[.int .i64 (v : Int), .bool false, .slice none 0 0] 36)).only HOK.out ho8 (fun b hb h => by
                rcases h with h | h
                · omega
                · have := (HL6.out.eo.own.lt b h).1; omega) (fun b hb h => by
                rcases h with h | h
                · exact (Typed.of_row HS6.out.st hb).ne (Typed.blk HL6.out.b) (fun he => HL6.out.ne he.symm) h
                · exact (Typed.of_row HS6.out.st hb).ne (Typed.of_row HL6.out.eo.own h) (by decide) rfl)
            have ho9 : Only (SW e sv lv lb) w _ := (HO6.out.alloc (.cells #[.int .i64 (v : Int), .bool false, .slice none 0 0] 36)).trans ho8 (fun b hb h => by
                rcases h with h | h
                · exact .inr (.inr (.inr (.inl h)))
                · rcases HLM.out with hq | ⟨b', hb', hbs⟩
                  · exact .inr (.inr (.inr (.inr (.inr (hq ▸ h)))))
                  · rw [hb'] at h; cases h; omega)
            have hm9 := HLM.out.trans hm8 (by rw [World.size_alloc]; omega)
            go_ret
            exact ⟨rfl, _, _, _, _, hs8, hl8, ho9, HM6.out, hm9⟩
          | true =>
            have hle := HLE2.out
            rw [if_neg (by decide)] at hle
            obtain ⟨t, ht, hle⟩ := Option.bind_eq_some_iff.1 hle
            obtain ⟨hsl1, hsl2', rfl⟩ := consL_map hle
            have hsl2 : t.2.length < 1000000 := hsl2'
            have hp64 : (st1.stack.drop (at_ + 1)).length ≤ 9223372036854775807 := by rw [HPL.out]; omega
            revert HPOP HAP HPN hp64 ht
            generalize st1.stack.drop (at_ + 1) = pl
            intro HPN HAP HPOP ht hp64
            have HT := Lib.hid ht
            clear hle HLE2 HPL ht c6 f6
            go_wp2
            go_loopw [21, 97] (fun _ y wq => ∃ j : Nat, j ≤ pl.length ∧ y = .int .i64 j ∧ OS e wq ⟨zeroAll (st1.nums.set v maxI) (pl.take j), st1.stack.take at_, st1.next⟩ (.slice (some ⟨gs, 0, none⟩) at_ (at_ + 1)) ∧ Only (fun b => b = e.na) w6 wq) (fun _ y _ => pl.length - (intOf y).toNat)
            case atStart => exact ⟨0, Nat.zero_le _, rfl, HS6.out, Only.refl _ _⟩
            case round =>
              obtain ⟨j, hjl, rfl, hq, hoq⟩ := hrel
              by_cases hjlt : j < pl.length
              · have hjlt1 : (j : Int) < (pl.length : Int) := by omega
                have hxj : pl[j]? = some pl[j] := List.getElem?_eq_getElem hjlt
                have hxn := HPN.out _ (List.getElem_mem hjlt)
                revert hxj hxn
                generalize pl[j] = x
                intro hxj hxn
                obtain rfl := HAP.out j x hxj
                have d1 := HPOP.out j x hxj
                rw [← World.cell?_of_block (hoq.block gs (lt_of_cell' d1) hgna)] at d1
                have e3 := hq.m.cellAt (i := 0) rfl
                have e4 := hq.num hxn
                have e5 := hq.a.frozen x
                have hxn1 : (x : Int) < (e.n : Int) := by omega
                have hq2 := hq.setNum HOK.out x 0
                have hz := zeroAll_succ (st1.nums.set v maxI) pl j x hxj
                have HZ : Hid (zeroAll (st1.nums.set v maxI) (pl.take (j + 1)) = (zeroAll (st1.nums.set v maxI) (pl.take j)).set x 0) := Lib.hid hz
                have HQ2 := Lib.hid hq2
                have hoq2 := hoq.set (p := ⟨e.na, x, none⟩) (fun _ => rfl) (.int .i64 0)
                clear hz hxj hq hq2
                go_wp2
                go_roundw
                case rel => exact ⟨j + 1, by omega, by go_num, by rw [HZ.out]; exact HQ2.out, hoq2⟩
                case measure => simp [intOf]; omega
              · obtain rfl : j = pl.length := by omega
                rw [List.take_length] at hq
                have hlq := HL6.out.only hoq (fun b hb _ h => by omega)
                have hsq := hq.only HOK.out ((Only.refl (fun _ => False) wr).drew) (fun _ _ f => f) (fun _ _ f => f)
                have hld := hlq.only ((Only.refl (fun _ => False) wr).drew) (fun _ _ _ f => f)
                have hoqs := hoq.size
                have hod := (HO6.out.trans (hoq.mono (fun b _ h => (.inr (.inr (.inl h)) : SW e sv lv lb b))) (fun _ _ h => h)).drew
                have hHeld : wr.drew.cell? ⟨lb, off, none⟩ = some lvm ∧ wr.drew.cell? ⟨e.cb, 0, none⟩ = some (.func (.func 19) #[] #[.pointer (some ⟨e.ob, 0, none⟩), .pointer (some ⟨e.gb, 0, none⟩), .pointer (some ⟨e.mb, 0, none⟩), .pointer (some ⟨e.vb, 0, none⟩)]) := ⟨hld.b.cellAt hld.at_, hsq.c.cellAt (i := 0) rfl⟩
                have hwzs : wr.drew.heap.size = wr.heap.size := rfl
                have HHELD := Lib.hid hHeld
                have HSQ := Lib.hid hsq
                have HLD := Lib.hid hld
                have HOD := Lib.hid hod
                have HWZ := Lib.hid hwzs
                clear hq hlq hsq hld hoq hod hHeld hwzs HS6 HL6 HO6 HPOP HPN HAP
                go_upto_region 29 with fail
                refine wp_region_front (S := fun w' => w'.cell? ⟨lb, off, none⟩ = some lvm ∧ w'.cell? ⟨e.cb, 0, none⟩ = some (.func (.func 19) #[] #[.pointer (some ⟨e.ob, 0, none⟩), .pointer (some ⟨e.gb, 0, none⟩), .pointer (some ⟨e.mb, 0, none⟩), .pointer (some ⟨e.vb, 0, none⟩)])) 0 8 (by kernel_rfl) (by kernel_rfl) (by decide) rfl (by kernel_rfl) (by kernel_rfl) (fun _ _ _ h => h) (.inl ⟨by rfl, fun w' => by rfl⟩) ?_
                simp only [Act.put, List.setIfInBounds_toArray, List.set_cons_zero, List.set_cons_succ]
                have hHeld := HHELD.out
                revert hHeld HSQ HLD HOD HWZ
                generalize wr.drew = wz
                intro HSQ HLD HOD HWZ hHeld
                clear HHELD
                refine Front.take 1 (v := ?_) rfl (by decide) (by kernel_rfl) (by kernel_rfl) (fun _ _ _ h => h) rfl hHeld ?_ ?_
                case refine_2 => intro w' hSw; obtain ⟨q1, q2⟩ := hSw; go_simp <;> with_reducible rfl
                simp only [Act.put, List.setIfInBounds_toArray, List.set_cons_zero, List.set_cons_succ]
                refine Front.take 2 (v := ?_) rfl (by decide) (by kernel_rfl) (by kernel_rfl) (fun _ _ _ h => h) rfl hHeld ?_ ?_
                case refine_2 => intro w' hSw; obtain ⟨q1, q2⟩ := hSw; go_simp <;> with_reducible rfl
                simp only [Act.put, List.setIfInBounds_toArray, List.set_cons_zero, List.set_cons_succ]
                refine Front.take 3 (v := ?_) rfl (by decide) (by kernel_rfl) (by kernel_rfl) (fun _ _ _ h => h) rfl hHeld ?_ ?_
                case refine_2 => intro w' hSw; obtain ⟨q1, q2⟩ := hSw; go_simp <;> with_reducible rfl
                simp only [Act.put, List.setIfInBounds_toArray, List.set_cons_zero, List.set_cons_succ]
                refine Front.take 4 (v := ?_) rfl (by decide) (by kernel_rfl) (by kernel_rfl) (fun _ _ _ h => h) rfl hHeld ?_ ?_
                case refine_2 => intro w' hSw; obtain ⟨q1, q2⟩ := hSw; go_simp <;> with_reducible rfl
                simp only [Act.put, List.setIfInBounds_toArray, List.set_cons_zero, List.set_cons_succ]
                refine Front.take 5 (v := ?_) rfl (by decide) (by kernel_rfl) (by kernel_rfl) (fun _ _ _ h => h) rfl hHeld ?_ ?_
                case refine_2 => intro w' hSw; obtain ⟨q1, q2⟩ := hSw; go_simp <;> with_reducible rfl
                simp only [Act.put, List.setIfInBounds_toArray, List.set_cons_zero, List.set_cons_succ]
                have hwzs := HWZ.out
                have hcp := comp_any e HOK.out k HIH.out wz _ _ v t HSQ.out hv (by omega) HT.out
                have HCP := Lib.hid hcp
                clear hcp
                refine Front.one (i := 6) (by kernel_rfl) (by decide) ?_
                refine FrontStep.of rfl (fun K hK => ?_)
                go_simp
                refine HCP.out.mono ?_
                rintro en w10 ⟨bv, svc, Pc, usc, rfl, hs10, heo10, ho10, hm10⟩
                have hl10 := HLD.out.only ho10 (fun b hb ht h => by
                  rcases h with h | h | h | h
                  · omega
                  · omega
                  · omega
                  · exact ht (Typed.of_row HSQ.out.st h))
                refine hK _ w10 ⟨hl10.b.cellAt hl10.at_, hs10.c.cellAt (i := 0) rfl⟩ ?_
                clear K hK
                obtain ⟨Ab, cb, rfl⟩ := own_slice heo10.own
                have hz10 := ho10.size
                have HS10 := Lib.hid hs10
                have HEO10 := Lib.hid heo10
                have HO10 := Lib.hid ho10
                have HM10 := Lib.hid hm10
                have HL10 := Lib.hid hl10
                clear hs10 heo10 ho10 hm10 hl10 hHeld HCP HSQ
                refine Front.one (i := 7) (by kernel_rfl) (by decide) ?_
                refine FrontStep.of rfl (fun K hK => ?_)
                go_simp
                have hla := HL10.out.alloc (.cells #[.int .i64 (v : Int), .bool true, .slice Ab t.2.length cb] 36)
                have hsa := HS10.out.alloc HOK.out (.cells #[.int .i64 (v : Int), .bool true, .slice Ab t.2.length cb] 36)
                refine hK _ _ ⟨hla.b.cellAt hla.at_, hsa.c.cellAt (i := 0) rfl⟩ ?_
                clear K hK
                refine Front.done (by kernel_rfl) ?_
                simp only [List.drop_succ_cons, List.drop_zero]
                have hbl := Blk.newAt w10 36 #[.int .i64 (v : Int), .bool true, .slice Ab t.2.length cb] rfl
                have hins := insert_any base (w10.alloc (.cells #[.int .i64 (v : Int), .bool true, .slice Ab t.2.length cb] 36)) lvm sl.length w10.heap.size (elCells sl us') _ hla.eo.own hbl rfl
                  (fun h => by have := (HL10.out.eo.own.lt _ h).2; omega) hla.eo.one (by intro u hu; simp at hu; rcases hu with rfl | rfl | rfl <;> rfl) (by rw [World.size_alloc]; omega) (by omega)
                have heob := (HEO10.out.alloc (.cells #[.int .i64 (v : Int), .bool true, .slice Ab t.2.length cb] 36)).els (by omega)
                have hHld := HL10.out.eo.own.lt
                have c10 := hla.b.cellAt hla.at_
                have HINS := Lib.hid hins
                have HEOB := Lib.hid heob
                have HLA := Lib.hid hla
                have HSA := Lib.hid hsa
                clear hbl hins heob hla hsa hHld
                go_wp2_with (go_at_call 22; refine HINS.out.mono ?_; rintro en w12 ⟨g7, c7, rfl, hown7, hgr7, hat7⟩; have hb7 := HLA.out.b.same (hgr7.block lb HLA.out.b.lt (fun h => by have := (HLA.out.eo.own.lt lb h.symm).1; omega)); have c12 := hb7.cellAt HLA.out.at_; have f12 := hb7.frozen off)
                obtain ⟨hl13, ho13, hm13⟩ := HLA.out.put (Q := fun b => wz.heap.size + 2 ≤ b ∧ Typed (w10.alloc (.cells #[.int .i64 (v : Int), .bool true, .slice Ab t.2.length cb] 36)) b 36) (u := .slice Ab t.2.length cb) (El.mk (v : Int) true t.2) HEOB.out
                  (fun b f => ⟨by have := f.1; omega, f.2, fun h => by have := (HLD.out.eo.own.lt b h).2; have := f.1; omega⟩) ⟨by show _ ≤ (v : Int); omega, by show (v : Int) ≤ _; omega⟩ hgr7 hown7 hat7
                have hs13 := HSA.out.only HOK.out ho13 (fun b hb h => by
                    rcases h with h | h
                    · omega
                    · have := (HL10.out.eo.own.lt b h).1; omega) (fun b hb h => by
                    rcases h with h | h
                    · exact (Typed.of_row HSA.out.st hb).ne (Typed.blk HLA.out.b) (fun he => HLA.out.ne he.symm) h
                    · exact (Typed.of_row HSA.out.st hb).ne (Typed.of_row HLA.out.eo.own h) (by decide) rfl)
                have hoe : Only (SW e sv lv lb) w _ := ((HOD.out.trans HO10.out (fun b hb h => by
                    rcases h with h | h | h | h
                    · exact .inl h
                    · exact .inr (.inl h)
                    · exact .inr (.inr (.inl h))
                    · rcases HM6.out with hq | ⟨b', hb', hbs⟩
                      · exact .inr (.inr (.inr (.inr (.inl (hq ▸ h)))))
                      · rw [hb'] at h; cases h; omega)).alloc (.cells #[.int .i64 (v : Int), .bool true, .slice Ab t.2.length cb] 36)).trans ho13 (fun b hb h => by
                    rcases h with h | h
                    · exact .inr (.inr (.inr (.inl h)))
                    · rcases HLM.out with hq | ⟨b', hb', hbs⟩
                      · exact .inr (.inr (.inr (.inr (.inr (hq ▸ h)))))
                      · rw [hb'] at h; cases h; omega)
                have hme := HM6.out.trans HM10.out HOD.out.size
                have hmf := HLM.out.trans hm13 (by rw [World.size_alloc]; have := HOD.out.size; omega)
                go_ret
                exact ⟨rfl, _, _, _, _, hs13, hl13, hoe, hme, hmf⟩
        · go_upto_region 21 with fail
          generalize hpv0 : Value.slice (some ⟨gs, at_ + 1, none⟩) (st1.stack.length - (at_ + 1)) (cs' - (at_ + 1)) = pv
          have hpv : ∃ Ap cp, pv = .slice Ap (st1.stack.drop (at_ + 1)).length cp ∧ ∀ (j x : Nat), (st1.stack.drop (at_ + 1))[j]? = some x → Ap = some ⟨gs, at_ + 1, none⟩ := ⟨_, _, by rw [HPL.out]; exact hpv0.symm, fun j x hx => rfl⟩
          clear hpv0
          obtain ⟨Ap, cp, rfl, hap⟩ := hpv
          have HAP := Lib.hid hap
          clear hap
          revert HS6 HL6 HO6 HPOP
          generalize w5.setCell ⟨e.sb, 0, none⟩ (.slice (some ⟨gs, 0, none⟩) at_ cs') = w6
          intro HS6 HL6 HO6 HPOP
          have c6 := HL6.out.b.cellAt HL6.out.at_
          have f6 := HL6.out.b.frozen off
          have hlo := HL6.out.lo
          have hhi := HL6.out.hi
          have hw6 := HO6.out.size
          cases sp with
          | false =>
            have hle := HLE2.out
            rw [if_pos rfl] at hle
            obtain ⟨hsl, -, rfl⟩ := consL_map hle
            clear hle HLE2
            have hbl := Blk.newAt w6 36 #[.int .i64 (v : Int), .bool false, .slice none 0 0] rfl
            have heoA := HL6.out.eo.alloc (.cells #[.int .i64 (v : Int), .bool false, .slice none 0 0] 36)
            have hins := insert_any base (w6.alloc (.cells #[.int .i64 (v : Int), .bool false, .slice none 0 0] 36)) lvm sl.length w6.heap.size (elCells sl us') _ heoA.own hbl rfl
              (fun h => by have := (HL6.out.eo.own.lt _ h).2; omega) heoA.one (by intro u hu; simp at hu; rcases hu with rfl | rfl | rfl <;> rfl) (by rw [World.size_alloc]; omega) (by omega)
            have HINS := Lib.hid hins
            have HEO := Lib.hid heoA
            clear hbl heoA hins
            go_wp2_with (go_at_call 22; refine HINS.out.mono ?_; rintro en w7 ⟨g7, c7, rfl, hown7, hgr7, hat7⟩; have hb7 := (HL6.out.b.alloc (.cells #[.int .i64 (v : Int), .bool false, .slice none 0 0] 36)).same (hgr7.block lb (by rw [World.size_alloc]; have := HL6.out.b.lt; omega) (fun h => by have := (HL6.out.eo.own.lt lb h.symm).1; omega)); have c7 := hb7.cellAt HL6.out.at_; have f7 := hb7.frozen off)
            obtain ⟨hl8, ho8, hm8⟩ := (HL6.out.alloc (.cells #[.int .i64 (v : Int), .bool false, .slice none 0 0] 36)).put (Q := fun _ => False) (u := .slice none 0 0) (El.mk (v : Int) false []) Els.nil (fun b f => f.elim) ⟨by show _ ≤ (v : Int); omega, by show (v : Int) ≤ _; omega⟩ hgr7 hown7 hat7
            have hs8 := (HS6.out.alloc HOK.out (.cells #[.int .i64 (v : Int), .bool false, .slice none 0 0] 36)).only HOK.out ho8 (fun b hb h => by
                rcases h with h | h
                · omega
                · have := (HL6.out.eo.own.lt b h).1; omega) (fun b hb h => by
                rcases h with h | h
                · exact (Typed.of_row HS6.out.st hb).ne (Typed.blk HL6.out.b) (fun he => HL6.out.ne he.symm) h
                · exact (Typed.of_row HS6.out.st hb).ne (Typed.of_row HL6.out.eo.own h) (by decide) rfl)
            have ho9 : Only (SW e sv lv lb) w _ := (HO6.out.alloc (.cells #[.int .i64 (v : Int), .bool false, .slice none 0 0] 36)).trans ho8 (fun b hb h => by
                rcases h with h | h
                · exact .inr (.inr (.inr (.inl h)))
                · rcases HLM.out with hq | ⟨b', hb', hbs⟩
                  · exact .inr (.inr (.inr (.inr (.inr (hq ▸ h)))))
                  · rw [hb'] at h; cases h; omega)
            have hm9 := HLM.out.trans hm8 (by rw [World.size_alloc]; omega)
            go_ret
            exact ⟨rfl, _, _, _, _, hs8, hl8, ho9, HM6.out, hm9⟩
          | true =>
            have hle := HLE2.out
            rw [if_neg (by decide)] at hle
            obtain ⟨t, ht, hle⟩ := Option.bind_eq_some_iff.1 hle
            obtain ⟨hsl1, hsl2', rfl⟩ := consL_map hle
            have hsl2 : t.2.length < 1000000 := hsl2'
            have hp64 : (st1.stack.drop (at_ + 1)).length ≤ 9223372036854775807 := by rw [HPL.out]; omega
            revert HPOP HAP HPN hp64 ht
            generalize st1.stack.drop (at_ + 1) = pl
            intro HPN HAP HPOP ht hp64
            have HT := Lib.hid ht
            clear hle HLE2 HPL ht c6 f6
            go_wp2
            go_loopw [21, 97] (fun _ y wq => ∃ j : Nat, j ≤ pl.length ∧ y = .int .i64 j ∧ OS e wq ⟨zeroAll (st1.nums.set v maxI) (pl.take j), st1.stack.take at_, st1.next⟩ (.slice (some ⟨gs, 0, none⟩) at_ cs') ∧ Only (fun b => b = e.na) w6 wq) (fun _ y _ => pl.length - (intOf y).toNat)
            case atStart => exact ⟨0, Nat.zero_le _, rfl, HS6.out, Only.refl _ _⟩
            case round =>
              obtain ⟨j, hjl, rfl, hq, hoq⟩ := hrel
              by_cases hjlt : j < pl.length
              · have hjlt1 : (j : Int) < (pl.length : Int) := by omega
                have hxj : pl[j]? = some pl[j] := List.getElem?_eq_getElem hjlt
                have hxn := HPN.out _ (List.getElem_mem hjlt)
                revert hxj hxn
                generalize pl[j] = x
                intro hxj hxn
                obtain rfl := HAP.out j x hxj
                have d1 := HPOP.out j x hxj
                rw [← World.cell?_of_block (hoq.block gs (lt_of_cell' d1) hgna)] at d1
                have e3 := hq.m.cellAt (i := 0) rfl
                have e4 := hq.num hxn
                have e5 := hq.a.frozen x
                have hxn1 : (x : Int) < (e.n : Int) := by omega
                have hq2 := hq.setNum HOK.out x 0
                have hz := zeroAll_succ (st1.nums.set v maxI) pl j x hxj
                have HZ : Hid (zeroAll (st1.nums.set v maxI) (pl.take (j + 1)) = (zeroAll (st1.nums.set v maxI) (pl.take j)).set x 0) := Lib.hid hz
                have HQ2 := Lib.hid hq2
                have hoq2 := hoq.set (p := ⟨e.na, x, none⟩) (fun _ => rfl) (.int .i64 0)
                clear hz hxj hq hq2
                go_wp2
                go_roundw
                case rel => exact ⟨j + 1, by omega, by go_num, by rw [HZ.out]; exact HQ2.out, hoq2⟩
                case measure => simp [intOf]; omega
              · obtain rfl : j = pl.length := by omega
                rw [List.take_length] at hq
                have hlq := HL6.out.only hoq (fun b hb _ h => by omega)
                have hsq := hq.only HOK.out ((Only.refl (fun _ => False) wr).drew) (fun _ _ f => f) (fun _ _ f => f)
                have hld := hlq.only ((Only.refl (fun _ => False) wr).drew) (fun _ _ _ f => f)
                have hoqs := hoq.size
                have hod := (HO6.out.trans (hoq.mono (fun b _ h => (.inr (.inr (.inl h)) : SW e sv lv lb b))) (fun _ _ h => h)).drew
                have hHeld : wr.drew.cell? ⟨lb, off, none⟩ = some lvm ∧ wr.drew.cell? ⟨e.cb, 0, none⟩ = some (.func (.func 19) #[] #[.pointer (some ⟨e.ob, 0, none⟩), .pointer (some ⟨e.gb, 0, none⟩), .pointer (some ⟨e.mb, 0, none⟩), .pointer (some ⟨e.vb, 0, none⟩)]) := ⟨hld.b.cellAt hld.at_, hsq.c.cellAt (i := 0) rfl⟩
                have hwzs : wr.drew.heap.size = wr.heap.size := rfl
                have HHELD := Lib.hid hHeld
                have HSQ := Lib.hid hsq
                have HLD := Lib.hid hld
                have HOD := Lib.hid hod
                have HWZ := Lib.hid hwzs
                clear hq hlq hsq hld hoq hod hHeld hwzs HS6 HL6 HO6 HPOP HPN HAP
                go_upto_region 29 with fail
                refine wp_region_front (S := fun w' => w'.cell? ⟨lb, off, none⟩ = some lvm ∧ w'.cell? ⟨e.cb, 0, none⟩ = some (.func (.func 19) #[] #[.pointer (some ⟨e.ob, 0, none⟩), .pointer (some ⟨e.gb, 0, none⟩), .pointer (some ⟨e.mb, 0, none⟩), .pointer (some ⟨e.vb, 0, none⟩)])) 0 8 (by kernel_rfl) (by kernel_rfl) (by decide) rfl (by kernel_rfl) (by kernel_rfl) (fun _ _ _ h => h) (.inl ⟨by rfl, fun w' => by rfl⟩) ?_
                simp only [Act.put, List.setIfInBounds_toArray, List.set_cons_zero, List.set_cons_succ]
                have hHeld := HHELD.out
                revert hHeld HSQ HLD HOD HWZ
                generalize wr.drew = wz
                intro HSQ HLD HOD HWZ hHeld
                clear HHELD
                refine Front.take 1 (v := ?_) rfl (by decide) (by kernel_rfl) (by kernel_rfl) (fun _ _ _ h => h) rfl hHeld ?_ ?_
                case refine_2 => intro w' hSw; obtain ⟨q1, q2⟩ := hSw; go_simp <;> with_reducible rfl
                simp only [Act.put, List.setIfInBounds_toArray, List.set_cons_zero, List.set_cons_succ]
                refine Front.take 2 (v := ?_) rfl (by decide) (by kernel_rfl) (by kernel_rfl) (fun _ _ _ h => h) rfl hHeld ?_ ?_
                case refine_2 => intro w' hSw; obtain ⟨q1, q2⟩ := hSw; go_simp <;> with_reducible rfl
                simp only [Act.put, List.setIfInBounds_toArray, List.set_cons_zero, List.set_cons_succ]
                refine Front.take 3 (v := ?_) rfl (by decide) (by kernel_rfl) (by kernel_rfl) (fun _ _ _ h => h) rfl hHeld ?_ ?_
                case refine_2 => intro w' hSw; obtain ⟨q1, q2⟩ := hSw; go_simp <;> with_reducible rfl
                simp only [Act.put, List.setIfInBounds_toArray, List.set_cons_zero, List.set_cons_succ]
                refine Front.take 4 (v := ?_) rfl (by decide) (by kernel_rfl) (by kernel_rfl) (fun _ _ _ h => h) rfl hHeld ?_ ?_
                case refine_2 => intro w' hSw; obtain ⟨q1, q2⟩ := hSw; go_simp <;> with_reducible rfl
                simp only [Act.put, List.setIfInBounds_toArray, List.set_cons_zero, List.set_cons_succ]
                refine Front.take 5 (v := ?_) rfl (by decide) (by kernel_rfl) (by kernel_rfl) (fun _ _ _ h => h) rfl hHeld ?_ ?_
                case refine_2 => intro w' hSw; obtain ⟨q1, q2⟩ := hSw; go_simp <;> with_reducible rfl
                simp only [Act.put, List.setIfInBounds_toArray, List.set_cons_zero, List.set_cons_succ]
                have hwzs := HWZ.out
                have hcp := comp_any e HOK.out k HIH.out wz _ _ v t HSQ.out hv (by omega) HT.out
                have HCP := Lib.hid hcp
                clear hcp
                refine Front.one (i := 6) (by kernel_rfl) (by decide) ?_
                refine FrontStep.of rfl (fun K hK => ?_)
                go_simp
                refine HCP.out.mono ?_
                rintro en w10 ⟨bv, svc, Pc, usc, rfl, hs10, heo10, ho10, hm10⟩
                have hl10 := HLD.out.only ho10 (fun b hb ht h => by
                  rcases h with h | h | h | h
                  · omega
                  · omega
                  · omega
                  · exact ht (Typed.of_row HSQ.out.st h))
                refine hK _ w10 ⟨hl10.b.cellAt hl10.at_, hs10.c.cellAt (i := 0) rfl⟩ ?_
                clear K hK
                obtain ⟨Ab, cb, rfl⟩ := own_slice heo10.own
                have hz10 := ho10.size
                have HS10 := Lib.hid hs10
                have HEO10 := Lib.hid heo10
                have HO10 := Lib.hid ho10
                have HM10 := Lib.hid hm10
                have HL10 := Lib.hid hl10
                clear hs10 heo10 ho10 hm10 hl10 hHeld HCP HSQ
                refine Front.one (i := 7) (by kernel_rfl) (by decide) ?_
                refine FrontStep.of rfl (fun K hK => ?_)
                go_simp
                have hla := HL10.out.alloc (.cells #[.int .i64 (v : Int), .bool true, .slice Ab t.2.length cb] 36)
                have hsa := HS10.out.alloc HOK.out (.cells #[.int .i64 (v : Int), .bool true, .slice Ab t.2.length cb] 36)
                refine hK _ _ ⟨hla.b.cellAt hla.at_, hsa.c.cellAt (i := 0) rfl⟩ ?_
                clear K hK
                refine Front.done (by kernel_rfl) ?_
                simp only [List.drop_succ_cons, List.drop_zero]
                have hbl := Blk.newAt w10 36 #[.int .i64 (v : Int), .bool true, .slice Ab t.2.length cb] rfl
                have hins := insert_any base (w10.alloc (.cells #[.int .i64 (v : Int), .bool true, .slice Ab t.2.length cb] 36)) lvm sl.length w10.heap.size (elCells sl us') _ hla.eo.own hbl rfl
                  (fun h => by have := (HL10.out.eo.own.lt _ h).2; omega) hla.eo.one (by intro u hu; simp at hu; rcases hu with rfl | rfl | rfl <;> rfl) (by rw [World.size_alloc]; omega) (by omega)
                have heob := (HEO10.out.alloc (.cells #[.int .i64 (v : Int), .bool true, .slice Ab t.2.length cb] 36)).els (by omega)
                have hHld := HL10.out.eo.own.lt
                have c10 := hla.b.cellAt hla.at_
                have HINS := Lib.hid hins
                have HEOB := Lib.hid heob
                have HLA := Lib.hid hla
                have HSA := Lib.hid hsa
                clear hbl hins heob hla hsa hHld
                go_wp2_with (go_at_call 22; refine HINS.out.mono ?_; rintro en w12 ⟨g7, c7, rfl, hown7, hgr7, hat7⟩; have hb7 := HLA.out.b.same (hgr7.block lb HLA.out.b.lt (fun h => by have := (HLA.out.eo.own.lt lb h.symm).1; omega)); have c12 := hb7.cellAt HLA.out.at_; have f12 := hb7.frozen off)
                obtain ⟨hl13, ho13, hm13⟩ := HLA.out.put (Q := fun b => wz.heap.size + 2 ≤ b ∧ Typed (w10.alloc (.cells #[.int .i64 (v : Int), .bool true, .slice Ab t.2.length cb] 36)) b 36) (u := .slice Ab t.2.length cb) (El.mk (v : Int) true t.2) HEOB.out
                  (fun b f => ⟨by have := f.1; omega, f.2, fun h => by have := (HLD.out.eo.own.lt b h).2; have := f.1; omega⟩) ⟨by show _ ≤ (v : Int); omega, by show (v : Int) ≤ _; omega⟩ hgr7 hown7 hat7
                have hs13 := HSA.out.only HOK.out ho13 (fun b hb h => by
                    rcases h with h | h
                    · omega
                    · have := (HL10.out.eo.own.lt b h).1; omega) (fun b hb h => by
                    rcases h with h | h
                    · exact (Typed.of_row HSA.out.st hb).ne (Typed.blk HLA.out.b) (fun he => HLA.out.ne he.symm) h
                    · exact (Typed.of_row HSA.out.st hb).ne (Typed.of_row HLA.out.eo.own h) (by decide) rfl)
                have hoe : Only (SW e sv lv lb) w _ := ((HOD.out.trans HO10.out (fun b hb h => by
                    rcases h with h | h | h | h
                    · exact .inl h
                    · exact .inr (.inl h)
                    · exact .inr (.inr (.inl h))
                    · rcases HM6.out with hq | ⟨b', hb', hbs⟩
                      · exact .inr (.inr (.inr (.inr (.inl (hq ▸ h)))))
                      · rw [hb'] at h; cases h; omega)).alloc (.cells #[.int .i64 (v : Int), .bool true, .slice Ab t.2.length cb] 36)).trans ho13 (fun b hb h => by
                    rcases h with h | h
                    · exact .inr (.inr (.inr (.inl h)))
                    · rcases HLM.out with hq | ⟨b', hb', hbs⟩
                      · exact .inr (.inr (.inr (.inr (.inr (hq ▸ h)))))
                      · rw [hb'] at h; cases h; omega)
                have hme := HM6.out.trans HM10.out HOD.out.size
                have hmf := HLM.out.trans hm13 (by rw [World.size_alloc]; have := HOD.out.size; omega)
                go_ret
                exact ⟨rfl, _, _, _, _, hs13, hl13, hoe, hme, hmf⟩
end Go.Proofs.YthaampinmelgaaaGreatDoor
