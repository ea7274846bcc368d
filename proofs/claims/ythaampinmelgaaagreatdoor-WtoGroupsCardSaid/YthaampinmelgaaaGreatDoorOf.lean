/- The laws' Of: elements as elements of the reference. -/
import Derived.Test.YthaampinmelgaaaGreatDoorVisit
import Derived.Test.YthaampinmelgaaaGreatDoorFront
namespace Go.Proofs.YthaampinmelgaaaGreatDoor
open Go.RowKit Go.Shelf

theorem info_ref : (Tryz.prog.info? 114).map (fun i => (i.zero, i.size, i.bytes)) = some (some (.agg #[.int .i64 0, .bool false, .slice none 0 0]), 3, 40) := by kernel_rfl
set_option maxRecDepth 100000 in
set_option maxHeartbeats 4000000 in
theorem of_any {P : Nat → Prop} {w : World} {v : Value} {l : List El} (h : Els P w v l) : ∀ W : World, (∀ p : Addr, P p.block → W.cell? p = w.cell? p) → (∀ b, P b → b < W.heap.size) →
    Calls Tryz.prog 29 #[v] W fun en W' => ∃ vo, en = .returned vo ∧ Els (fun b => W.heap.size ≤ b ∧ Typed W' b 114) W' vo l ∧ Below W.heap.size W W' := by
  induction h with
  | mk A c l us hlc hm hz hc hr ih =>
    intro W hW hPW
    have HC := Lib.hid hc
    have HIH := Lib.hid ih
    have HR := Lib.hid hr
    have HW := Lib.hid hW
    have HPW := Lib.hid hPW
    have hl63 : l.length ≤ 9223372036854775807 := by unfold maxLen at hm; omega
    clear hc hr ih hW hPW hm
    go_enter Tryz.func29, Tryz.ntmps29
    go_wp2
    go_loopw [3, 8] (fun x y wr => ∃ (m : Nat) (vo : Value) (Q : Nat → Prop) (bs : List Value), m ≤ l.length ∧ vo = x ∧ y = .int .i64 m ∧ EO 114 W.heap.size Q wr vo (l.take m) bs ∧ Below W.heap.size W wr) (fun _ y _ => l.length - (intOf y).toNat)
    case atStart => exact ⟨0, _, _, [], Nat.zero_le _, rfl, rfl, EO.nil _ _ _, Below.refl _ _⟩
    case round =>
      obtain ⟨m, vo, Q, bs, hm, rfl, rfl, heo, hbw⟩ := hrel
      by_cases hlt : m < l.length
      · obtain ⟨x, hx⟩ : ∃ x, l[m]? = some x := ⟨_, List.getElem?_eq_getElem hlt⟩
        obtain ⟨ad, hA, hPad, e0, e1, e2, hI⟩ := HC.out m x hx
        subst hA
        have hk : ∀ i, wr.cell? (ad.add i) = w.cell? (ad.add i) := fun i => (hbw.cell (by rw [block_add]; exact HPW.out _ hPad)).trans (HW.out _ (by rw [block_add]; exact hPad))
        have c0 := (hk (m * 3)).trans e0
        have c1 := (hk (m * 3 + 1)).trans e1
        have c2 := (hk (m * 3 + 2)).trans e2
        rw [← add_add', addrOne] at c1
        rw [← add_add', addrTwo] at c2
        have hih := HIH.out m x hx
        have htk : l.take (m + 1) = l.take m ++ [x] := by rw [List.take_add_one, hx]; rfl
        obtain ⟨Au, cu, hu, -⟩ := (HR.out m x hx).shape
        rw [hu] at c2 hih
        clear hu
        obtain ⟨p, c, body⟩ := x
        simp only [El.p, El.c, El.body] at c0 c1 c2 hih hI
        have HI := Lib.hid hih
        have HE := Lib.hid heo
        have HB := Lib.hid hbw
        have HTK := Lib.hid htk
        have HPA := Lib.hid hPad
        have HII := Lib.hid hI
        have hlt1 : (m : Int) < (l.length : Int) := by omega
        clear hih heo hbw e0 e1 e2 hk htk hx hPad hI
        go_upto_region 5 with fail
        have hoa : Only (fun _ => False) wr (wr.alloc (.cells #[.int .i64 p, .bool c, .slice Au body.length cu] 36)).drew := ((Only.refl (fun _ => False) wr).alloc _).drew
        have hbk : Blk (wr.alloc (.cells #[.int .i64 p, .bool c, .slice Au body.length cu] 36)).drew wr.heap.size 36 [.int .i64 p, .bool c, .slice Au body.length cu] := Blk.newAt wr 36 #[.int .i64 p, .bool c, .slice Au body.length cu] rfl
        have hea := HE.out.only hoa (fun _ _ f => f) (fun _ _ f => f)
        have hba : Below W.heap.size W (wr.alloc (.cells #[.int .i64 p, .bool c, .slice Au body.length cu] 36)).drew := (HB.out.alloc HB.out.size _).drew
        have hsz : (wr.alloc (.cells #[.int .i64 p, .bool c, .slice Au body.length cu] 36)).drew.heap.size = wr.heap.size + 1 := by show (wr.alloc _).heap.size = _; rw [World.size_alloc]
        have hHeld := And.intro (hbk.cellAt (i := 0) rfl) (And.intro (hbk.cellAt (i := 1) rfl) (hbk.cellAt (i := 2) rfl))
        have HSZ := Lib.hid hsz
        clear hoa c0 c1 c2 hsz
        refine wp_region_front (S := fun w' => w'.cell? ⟨wr.heap.size, 0, none⟩ = some (.int .i64 p) ∧ w'.cell? ⟨wr.heap.size, 1, none⟩ = some (.bool c) ∧ w'.cell? ⟨wr.heap.size, 2, none⟩ = some (.slice Au body.length cu)) 0 8 (by kernel_rfl) (by kernel_rfl) (by decide) rfl (by kernel_rfl) (by kernel_rfl) (fun _ _ _ h => h) (.inl ⟨by rfl, fun w' => by rfl⟩) ?_
        simp only [Act.put, List.setIfInBounds_toArray, List.set_cons_zero, List.set_cons_succ]
        revert hbk hea hba hHeld HSZ
        generalize (wr.alloc (.cells #[.int .i64 p, .bool c, .slice Au body.length cu] 36)).drew = wz
        intro hbk hea hba hHeld HSZ
        have HEA := Lib.hid hea
        have HBA := Lib.hid hba
        have HBK := Lib.hid hbk
        clear hea hba hbk
        refine Front.take 1 (v := ?_) rfl (by decide) (by kernel_rfl) (by kernel_rfl) (fun _ _ _ h => h) rfl hHeld ?_ ?_
        case refine_2 => intro w' hSw; obtain ⟨q1, q2, q3⟩ := hSw; go_simp <;> with_reducible rfl
        simp only [Act.put, List.setIfInBounds_toArray, List.set_cons_zero, List.set_cons_succ]
        refine Front.take 2 (v := ?_) rfl (by decide) (by kernel_rfl) (by kernel_rfl) (fun _ _ _ h => h) rfl hHeld ?_ ?_
        case refine_2 => intro w' hSw; obtain ⟨q1, q2, q3⟩ := hSw; go_simp <;> with_reducible rfl
        simp only [Act.put, List.setIfInBounds_toArray, List.set_cons_zero, List.set_cons_succ]
        refine Front.take 3 (v := ?_) rfl (by decide) (by kernel_rfl) (by kernel_rfl) (fun _ _ _ h => h) rfl hHeld ?_ ?_
        case refine_2 => intro w' hSw; obtain ⟨q1, q2, q3⟩ := hSw; go_simp <;> with_reducible rfl
        simp only [Act.put, List.setIfInBounds_toArray, List.set_cons_zero, List.set_cons_succ]
        refine Front.take 4 (v := ?_) rfl (by decide) (by kernel_rfl) (by kernel_rfl) (fun _ _ _ h => h) rfl hHeld ?_ ?_
        case refine_2 => intro w' hSw; obtain ⟨q1, q2, q3⟩ := hSw; go_simp <;> with_reducible rfl
        simp only [Act.put, List.setIfInBounds_toArray, List.set_cons_zero, List.set_cons_succ]
        refine Front.take 5 (v := ?_) rfl (by decide) (by kernel_rfl) (by kernel_rfl) (fun _ _ _ h => h) rfl hHeld ?_ ?_
        case refine_2 => intro w' hSw; obtain ⟨q1, q2, q3⟩ := hSw; go_simp <;> with_reducible rfl
        simp only [Act.put, List.setIfInBounds_toArray, List.set_cons_zero, List.set_cons_succ]
        refine Front.take 6 (v := ?_) rfl (by decide) (by kernel_rfl) (by kernel_rfl) (fun _ _ _ h => h) rfl hHeld ?_ ?_
        case refine_2 => intro w' hSw; obtain ⟨q1, q2, q3⟩ := hSw; go_simp <;> with_reducible rfl
        simp only [Act.put, List.setIfInBounds_toArray, List.set_cons_zero, List.set_cons_succ]
        refine Front.one (i := 7) (by kernel_rfl) (by decide) ?_
        refine FrontStep.of rfl (fun K hK => ?_)
        go_simp
        refine (HI.out wz (fun p hp => (HBA.out.cell (HPW.out _ hp)).trans (HW.out p hp)) (fun b hb => by have := HPW.out b hb; have := HBA.out.size; omega)).mono ?_
        rintro en w5 ⟨v5, rfl, hels5, hb5⟩
        have hbk5 : Blk w5 wr.heap.size 36 [.int .i64 p, .bool c, .slice Au body.length cu] := HBK.out.same (hb5.block _ (by rw [HSZ.out]; omega))
        refine hK _ w5 ⟨hbk5.cellAt (i := 0) rfl, hbk5.cellAt (i := 1) rfl, hbk5.cellAt (i := 2) rfl⟩ ?_
        clear K hK hHeld
        refine Front.done (by kernel_rfl) ?_
        simp only [List.drop_succ_cons, List.drop_zero]
        obtain ⟨A5, c5, rfl, -⟩ := hels5.shape
        obtain ⟨il, hil, hl0, hl1, hl2⟩ := info_parts info_ref
        have ho5 : Only (fun _ => False) wz w5 := Only.of_below hb5 (fun b h1 h2 => by omega)
        have he5 := (HEA.out.only ho5 (fun _ _ f => f) (fun _ _ f => f)).alloc (.cells #[.int .i64 p, .bool c, .slice A5 body.length c5] 114)
        have hlm : (l.take m).length = m := by simp; omega
        have hown := he5.own
        rw [hlm] at hown
        have hnb := Blk.newAt w5 114 #[.int .i64 p, .bool c, .slice A5 body.length c5] rfl
        have hone := he5.one
        have hbt : Below W.heap.size W (w5.alloc (.cells #[.int .i64 p, .bool c, .slice A5 body.length c5] 114)) := (HBA.out.trans (hb5.mono HBA.out.size)).alloc (Nat.le_trans HBA.out.size hb5.size) _
        have hWs : W.heap.size ≤ (w5.alloc (.cells #[.int .i64 p, .bool c, .slice A5 body.length c5] 114)).heap.size := hbt.size
        have hu5 := (hels5.only ((Only.refl (fun _ => False) w5).alloc (.cells #[.int .i64 p, .bool c, .slice A5 body.length c5] 114)) (fun b hb => ⟨hb.2.lt, fun f => f⟩)).mono (Q := fun b => wz.heap.size ≤ b ∧ Typed (w5.alloc (.cells #[.int .i64 p, .bool c, .slice A5 body.length c5] 114)) b 114) (fun b hb => ⟨hb.1, hb.2.only ((Only.refl (fun _ => False) w5).alloc _) (fun f => f)⟩)
        have HU5 := Lib.hid hu5
        have HE5 := Lib.hid he5
        have HBT := Lib.hid hbt
        have HLM := Lib.hid hlm
        clear hels5 hb5 hbk5 ho5 he5 hlm hone hu5 hbt
        go_wp2_with (at_builtin; refine wpList_append_lies _ rfl (.tmp 12) (.tmp 21) 77 rfl W.heap.size 114 il (.agg #[.int .i64 0, .bool false, .slice none 0 0]) 3 40 Tryz.underlying77 hil hl0 hl1 hl2 rfl (by decide) vo m (elCells (l.take m) bs) rfl hown ⟨w5.heap.size, 0, none⟩ 1 1 [.int .i64 p, .bool c, .slice A5 body.length c5] rfl rfl (fun j u' hj => by rw [add_none]; exact hnb.cellAt hj) ?c2 (by decide) ?c3 ?c4 hWs _ rfl ?_)
        case c2 => first | exact ⟨rfl, rfl, rfl⟩ | (intro u' hu; simp at hu; rcases hu with rfl | rfl | rfl <;> rfl)
        case c3 => unfold maxLen; omega
        case c4 => omega
        intro g cg w7 hown7 hgr7 hat7 _
        have hput := HE5.out.put (Q := fun b => wz.heap.size ≤ b ∧ Typed (w5.alloc (.cells #[.int .i64 p, .bool c, .slice A5 body.length c5] 114)) b 114) (u := .slice A5 body.length c5) (x := El.mk p c body) (pre := l.take m) (post := []) (ups := bs) (uqs := []) (v' := .slice (some ⟨g, 0, none⟩) (m + 1) cg) (by simp) (by simp) HE5.out.len HU5.out
          (fun b hb => ⟨by have := hb.1; have := HBA.out.size; omega, hb.2, fun h => by have := (HEA.out.own.lt b h).2; have := hb.1; omega⟩) HII.out hgr7 (by rw [HLM.out, elCells_append _ _ _ _ HE5.out.len]; simpa [elCells, El.p, El.c] using hown7) (by
            rcases hat7 with h | h
            · exact .inl (by rw [h]; rfl)
            · exact .inr ⟨g, rfl, by first | exact Nat.le_of_eq h.symm | (rw [h]; simp) | (rw [h])⟩)
        rw [← HTK.out] at hput
        have hbe := HBT.out.grown hgr7 hWs (fun k hk => (HE5.out.own.lt k hk).1)
        have HPUT := Lib.hid hput
        have HBE := Lib.hid hbe
        clear hput hbe hown hown7 hgr7 hat7 hnb hWs
        go_wp2
        go_roundw
        case rel => exact ⟨m + 1, _, _, _, by omega, rfl, by go_num, HPUT.out, HBE.out⟩
        case measure => simp [intOf]; omega
      · obtain rfl : m = l.length := by omega
        rw [List.take_length] at heo
        have hels := (heo.els hz)
        go_wp2
        go_ret
        exact ⟨_, rfl, hels, hbw⟩
end Go.Proofs.YthaampinmelgaaaGreatDoor
