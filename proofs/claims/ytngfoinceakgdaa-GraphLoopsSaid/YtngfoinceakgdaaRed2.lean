/- Package graph: Reducible. -/
import Derived.Test.YtngfoinceakgdaaRed
import Derived.Test.YtngfoinceakgdaaDomTop
import Derived.Laws.EntriesVeiled
import Derived.Deep.RegionHeld3
namespace Go.Proofs.Ytngfoinceakgdaa
open Go.RowKit Go.Shelf Go.Maps

/-- A store of 'true', at a step of a list. -/
theorem wpList_put_mapB {w : World} {ops : Array Oper} {rest : List Oper} {o : Oper} {a : Act} {Q : Exit → Act → World → Prop} (hg : o.guard = none) (m x v : Operand) (hop : o.op = Op.mapUpdate 105 m x v)
    (b n : Nat) (S : Nat → Bool) (hm : a.eval m = .map (some b)) (h : MapB w b n S) (hn : n ≤ 1000000) (e : Nat) (he : e ≤ 1000000) (hx : a.eval x = .int .i64 (e : Int)) (hv : a.eval v = .bool true)
    (hK : ∀ w', MapB w' b (n + 1) (fun i => i == e || S i) → w.grownBy w' (some b) → wpList Try.prog ops Q rest (a.put o.dst undef) w') : wpList Try.prog ops Q (o :: rest) a w := by
  obtain ⟨D, h1, h2, h3⟩ := h
  refine wpList_mapUpdate_own w hg m x v 105 hop 3 4 lawI Try.underlying105 _ b n D hm h1 (by unfold maxLen; omega) _ _ _ hx hv (keyOf_int_mk Try.underlying3 (wf_nat e he)) _ [] (plainElem_bool Try.underlying4 true) ?_
  intro w' h4 h5
  refine hK w' ⟨_, h4, h2.put _ _, fun i hi => ?_⟩ h5
  by_cases hie : i = e
  · subst hie
    rw [Maps.atKey_put_same h2 (show WideAt.IsKeyLit (.int .i64 (i : Int)) from trivial)]
    simp
  · rw [Maps.atKey_put_other (by intro h; injection h with _ h; omega), h3 i hi]
    simp [hie]

set_option maxRecDepth 100000 in
set_option maxHeartbeats 4000000 in
theorem reducible_ok (B : Nat) (w : World) (v : Value) (n : Nat) (exit : Int) (E : List (Nat × Nat)) (hv : Edges B w v (castE E)) (hB : B ≤ w.heap.size) (hg : GOk n exit E)
    (k j : Nat) (t : List Bool × List Nat) (ab : List Int) (bl : List Nat) (r : List Nat × Bool)
    (hd : foldO (dfsV (shapeOf n E).next (-1) k) [0] (List.replicate n false, []) = some t) (hlen : t.2.length ≤ 100000) (hord : ∀ x ∈ t.2, x < n) (hdom : domF (shapeOf n E) k j t.2 = some ab) (habl : ab.length = n) (habn : ∀ p, getI ab p < n)
    (hbl : backF (shapeOf n E) ab t.1 k = some bl) (hble : ∀ e ∈ bl, e < E.length) (hbll : bl.length ≤ 100000) (hr : acyF (shapeOf n E) (inL bl) k (List.replicate n 0) 0 = some r) :
    Calls Try.prog 26 #[.agg #[.int .i64 (n : Int), .int .i64 exit, v]] w fun en w' => en = .returned (.tuple #[.bool r.2, .int .i64 0]) ∧ Below w.heap.size w w' := by
  obtain ⟨A, c, rfl, hlc, -, hm, hes⟩ := id hv.shape
  have hcheck := fun w1 (h1 : Below w.heap.size w w1) => check_any B w1 n exit _ _ (hv.below (h1.mono hB)) (by have := h1.size; omega)
  have hnew := fun w1 (h1 : Below w.heap.size w w1) => newShape_any B w1 n exit _ E (hv.below (h1.mono hB)) (by have := h1.size; omega) hg.n512 hg.lt hg.len
  rw [hg.chk] at hcheck
  have HC := Lib.hid hcheck
  have HN := Lib.hid hnew
  have hb0 := (Below.refl w.heap.size w).alloc (Nat.le_refl _) (.cells #[.int .i64 (n : Int), .int .i64 exit, .slice A (castE E).length c] 24)
  have hg0 := Blk.newAt w 24 #[.int .i64 (n : Int), .int .i64 exit, .slice A (castE E).length c] rfl
  have hn512 := hg.n512
  have hn1 := hg.n1
  have helen := hg.len
  have hback := fun (w1 : World) (sb B1 : Nat) (h1 : IsShape B1 w1 sb (shapeOf n E)) (h2 : B1 ≤ w1.heap.size) =>
    back_any B1 w1 sb (shapeOf n E) h1 h2 hg.shapeOk hg.okIn hg.okTo (by simp [shapeOf]; omega) k j t ab bl hd hlen hord hdom habl habn hbl
  have hmk := make_one (P := Try.prog) 27 3 (.int .i64 0) 8 Try.underlying27 info_int rfl n (by omega) (by omega)
  have hmm := @run_makeMap Try.prog
  have hmf : ∀ (fn : Fn) (first cap : Array Value) (w : World), (Instr.makeFunc fn first cap).run Try.prog w = .ok (.func fn first cap) w := fun _ _ _ _ => rfl
  have HK := Lib.hid hback
  have HR := Lib.hid hr
  have HG := Lib.hid hg
  clear hcheck hnew hes hv hd hback hdom hbl habl hr hg
  go_enter Try.func26, Try.ntmps26
  go_upto_region 6 with (first | (go_at_call 30; refine (HC.out _ hb0).mono ?_; rintro en w1 ⟨rfl, hb1⟩; have hg1 := hg0.below hb1 (by rw [World.size_alloc]; omega); have hb2 := hb0.trans (hb1.mono (by rw [World.size_alloc]; omega)); have c0 := hg1.cellAt (i := 0) rfl; have c1 := hg1.cellAt (i := 1) rfl; have c2 := hg1.cellAt (i := 2) rfl) | (go_at_call 47; refine (HN.out _ hb2).mono ?_; rintro en w2 ⟨sb, rfl, hsh, hb3⟩; have hb4 := hb2.trans (hb3.mono hb2.size)))
  clear c0 c1 c2 hb0 hb1 hb2 hb3 hg0 hg1 HC HN
  have hb5 : Below w2.heap.size w2 (((w2.alloc (.cells #[.pointer (some ⟨sb, 0, none⟩)] 88)).alloc (.map #[] 0)).alloc (.cells #[.map (some (w2.heap.size + 1))] 105)) :=
    (((Below.refl _ _).alloc (Nat.le_refl _) _).alloc (by simp) _).alloc (by simp; omega) _
  have hxv : Blk (((w2.alloc (.cells #[.pointer (some ⟨sb, 0, none⟩)] 88)).alloc (.map #[] 0)).alloc (.cells #[.map (some (w2.heap.size + 1))] 105)) w2.heap.size 88 [.pointer (some ⟨sb, 0, none⟩)] :=
    ((Blk.newAt w2 88 #[.pointer (some ⟨sb, 0, none⟩)] rfl).alloc _).alloc _
  have hmv : Blk (((w2.alloc (.cells #[.pointer (some ⟨sb, 0, none⟩)] 88)).alloc (.map #[] 0)).alloc (.cells #[.map (some (w2.heap.size + 1))] 105)) (w2.heap.size + 1 + 1) 105 [.map (some (w2.heap.size + 1))] :=
    Blk.newAt _ 105 #[.map (some (w2.heap.size + 1))] (by simp)
  have hmb : MapB (((w2.alloc (.cells #[.pointer (some ⟨sb, 0, none⟩)] 88)).alloc (.map #[] 0)).alloc (.cells #[.map (some (w2.heap.size + 1))] 105)) (w2.heap.size + 1) 0 (fun _ => false) := by
    have h := MapB.made (w2.alloc (.cells #[.pointer (some ⟨sb, 0, none⟩)] 88))
    rw [World.size_alloc] at h
    exact h.kept (World.grownBy_alloc _ _ none) (by simp)
  have hsz3 : w2.heap.size + 1 + 1 + 1 = (((w2.alloc (.cells #[.pointer (some ⟨sb, 0, none⟩)] 88)).alloc (.map #[] 0)).alloc (.cells #[.map (some (w2.heap.size + 1))] 105)).heap.size := by simp
  have cx := hxv.cellAt (i := 0) rfl
  revert hb5 hxv hmv hmb hsz3 cx
  generalize ((w2.alloc (.cells #[.pointer (some ⟨sb, 0, none⟩)] 88)).alloc (.map #[] 0)).alloc (.cells #[.map (some (w2.heap.size + 1))] 105) = w3
  intro hb5 hxv hmv hmb hsz3 cx
  have hsh3 := (hsh.below hb5).more hb5.size
  have HS3 := Lib.hid hsz3
  clear hsz3
  go_upto_region 7 with (go_at_call 56; refine (HK.out w3 sb w3.heap.size hsh3 (Nat.le_refl _)).mono ?_; rintro en w4 ⟨vb, rfl, hvb, hb8⟩; have hvb4 : Nats w4.heap.size w4 vb bl := Sl.of_own natV (fun _ _ => rfl) hvb; obtain ⟨Ab, cb, rfl, -, -, hmb2, -⟩ := hvb4.shape)
  have hb9 := hb5.trans (hb8.mono hb5.size)
  have hxv4 := hxv.below hb8 hxv.lt
  have hmv4 := hmv.below hb8 hmv.lt
  have hmb4 : MapB w4 (w2.heap.size + 1) 0 (inL (bl.take 0)) := hmb.keep (hb8.block _ hmb.lt)
  have hmblt : w2.heap.size + 1 < w4.heap.size := by have := hb8.size; have := HS3.out; omega
  have hrowne : ∀ b, (Value.slice Ab bl.length cb).ownBlock = some b → w3.heap.size ≤ b := fun b hb => (hvb.lt b hb).1
  have cm4 := hmv4.cellAt (i := 0) rfl
  clear hxv hmv hmb hvb4 hb8 hb5
  go_loopw [22] (fun y wr => ∃ m : Nat, m ≤ bl.length ∧ y = .int .i64 m ∧ MapB wr (w2.heap.size + 1) m (inL (bl.take m)) ∧ w4.grownBy wr (some (w2.heap.size + 1))) (fun y _ => bl.length - (intOf y).toNat)
  case atStart => exact ⟨0, Nat.zero_le _, rfl, hmb4, rfl, rfl, rfl, Nat.le_refl _, fun _ _ _ => rfl⟩
  case round =>
    obtain ⟨m, hm, rfl, hmb5, hgr⟩ := hrel
    clear hmb4
    have hmv5 := hmv4.same (hgr.block _ hmv4.lt (by simp))
    have hxv5 := hxv4.same (hgr.block _ hxv4.lt (by simp))
    have d1 := hmv5.cellAt (i := 0) rfl
    by_cases hlt : m < bl.length
    · have hvb5 := hvb.kept hgr (by
        cases h : (Value.slice Ab bl.length cb).ownBlock with
        | none => exact .inl rfl
        | some b => exact .inr (by have := hrowne b h; have := HS3.out; simp; omega))
      have hvb6 : Nats wr.heap.size wr (.slice Ab bl.length cb) bl := Sl.of_own natV (fun _ _ => rfl) hvb5
      obtain ⟨adb, rfl, -, hcb⟩ := Nats.at hvb6 hlt
      have heE := hble _ (List.getElem_mem hlt)
      have hgd : bl.getD m 0 = bl[m] := by rw [List.getD_eq_getElem?_getD, List.getElem?_eq_getElem hlt]; rfl
      rw [hgd] at hcb
      have htk := List.take_succ_eq_append_getElem hlt
      revert hcb heE htk
      clear hgd
      generalize bl[m] = e
      intro hcb heE htk
      have hlt1 : (m : Int) < (bl.length : Int) := by omega
      have HTK := Lib.hid htk
      clear htk
      go_wp2_with (at_mapUpdate; refine wpList_put_mapB rfl (.tmp 26) (.tmp 27) _ rfl (w2.heap.size + 1) m _ rfl hmb5 (by omega) e (by omega) rfl rfl ?_)
      intro w5 hmb6 hgr2
      have hS : (fun i => i == e || inL (bl.take m) i) = inL (bl.take (m + 1)) := by
        funext i
        unfold inL
        rw [HTK.out, List.contains_eq_any_beq, List.contains_eq_any_beq, List.any_append, Bool.or_comm]
        simp
      rw [hS] at hmb6
      have HMB := Lib.hid hmb6
      have HGR := Lib.hid (hgr.trans hgr2)
      clear hmb6 hS hgr2
      go_wp2
      go_roundw
      case rel => exact ⟨m + 1, by omega, by go_num, HMB.out, HGR.out⟩
      case measure => simp [intOf]; omega
    · have hge : ¬ ((m : Int) < (bl.length : Int)) := by omega
      obtain rfl : bl.length = m := by omega
      rw [List.take_length] at hmb5
      have hbw : Below w2.heap.size w2 wr := hb9.trans ⟨hgr.os, hgr.tape, hgr.output, hgr.size, fun k hk => hgr.block k (by have := hb9.size; omega) (by simp; omega)⟩
      obtain ⟨hsb, vf, vt, vo, vi, hsblk, -, -, -, -⟩ := id hsh
      have s0 : wr.cell? ⟨sb, 0, none⟩ = some (.int .i64 (n : Int)) := (hsblk.below hbw hsb).cellAt rfl
      have dx := hxv5.cellAt (i := 0) rfl
      go_upto_region 14 with fail
      obtain ⟨en0, hen0⟩ : ∃ en0 : REnv, en0 = { n₀ := wr.heap.size, sa := sb, s := shapeOf n E, S := inL bl, sv := wr.heap.size + 1, xv := w2.heap.size, mv := w2.heap.size + 1 + 1, av := wr.heap.size + 1 + 1, stb := wr.heap.size, mb := w2.heap.size + 1, mn := bl.length } := ⟨_, rfl⟩
      have hRS : RS en0 (((wr.alloc (.cells (Array.replicate n (.int .i64 0)) 3)).alloc (.cells #[.slice (some ⟨wr.heap.size, 0, none⟩) n n] 27)).alloc
          (.cells #[.func (.func 60) #[] #[.pointer (some ⟨wr.heap.size + 1, 0, none⟩), .pointer (some ⟨w2.heap.size, 0, none⟩), .pointer (some ⟨w2.heap.size + 1 + 1, 0, none⟩), .pointer (some ⟨wr.heap.size + 1 + 1, 0, none⟩)]] 106)) (List.replicate n 0) := by
        rw [hen0]
        refine ⟨((hsh.below hbw).more hbw.size).below ((((Below.refl _ wr).alloc (Nat.le_refl _) _).alloc (by simp) _).alloc (by simp; omega) _), ?_, ((hxv5.alloc _).alloc _).alloc _, ((hmv5.alloc _).alloc _).alloc _, ?_, ?_, ?_, by simp [shapeOf], Nat.le_refl _, ?_⟩
        · exact (Blk.newAt _ 27 #[.slice (some ⟨wr.heap.size, 0, none⟩) n n] (by simp)).alloc _
        · exact Blk.newAt _ _ _ (by simp)
        · have h := Blk.newAt wr 3 (Array.replicate n (.int .i64 0)) rfl
          rw [Array.toList_replicate] at h
          rw [List.map_replicate]
          exact (h.alloc _).alloc _
        · exact ((hmb5.kept (World.grownBy_alloc _ _ none) (by simp)).kept (World.grownBy_alloc _ _ none) (by simp)).kept (World.grownBy_alloc _ _ none) (by simp)
        · have := hmb5.lt; simp; omega
      have hbz := (((Below.refl wr.heap.size wr).alloc (Nat.le_refl _) (.cells (Array.replicate n (.int .i64 0)) 3)).alloc (by simp) (.cells #[.slice (some ⟨wr.heap.size, 0, none⟩) n n] 27)).alloc (by simp; omega)
          (.cells #[.func (.func 60) #[] #[.pointer (some ⟨wr.heap.size + 1, 0, none⟩), .pointer (some ⟨w2.heap.size, 0, none⟩), .pointer (some ⟨w2.heap.size + 1 + 1, 0, none⟩), .pointer (some ⟨wr.heap.size + 1 + 1, 0, none⟩)]] 106)
      revert hRS hbz
      generalize ((wr.alloc (.cells (Array.replicate n (.int .i64 0)) 3)).alloc (.cells #[.slice (some ⟨wr.heap.size, 0, none⟩) n n] 27)).alloc
          (.cells #[.func (.func 60) #[] #[.pointer (some ⟨wr.heap.size + 1, 0, none⟩), .pointer (some ⟨w2.heap.size, 0, none⟩), .pointer (some ⟨w2.heap.size + 1 + 1, 0, none⟩), .pointer (some ⟨wr.heap.size + 1 + 1, 0, none⟩)]] 106) = wz
      intro hRS hbz
      have hcall := acyclic_any en0 (by rw [hen0]; exact ⟨by simp [shapeOf], HG.out.shapeOk.hto, HG.out.shapeOk.htn, by simp [shapeOf]; omega⟩) k wz.drew (List.replicate n 0) 0 r (hRS.only (Only.drew (Only.refl _ _))) (by rw [hen0]; exact hn1) (by rw [hen0]; exact HR.out)
      have e1 : wz.cell? ⟨wr.heap.size + 1 + 1, 0, none⟩ = some (.func (.func 60) #[] #[.pointer (some ⟨wr.heap.size + 1, 0, none⟩), .pointer (some ⟨w2.heap.size, 0, none⟩), .pointer (some ⟨w2.heap.size + 1 + 1, 0, none⟩), .pointer (some ⟨wr.heap.size + 1 + 1, 0, none⟩)]) := by
        have h := hRS.av.cellAt (i := 0) rfl
        rw [hen0] at h
        exact h
      have e2 : wz.cell? ⟨w2.heap.size, 0, none⟩ = some (.pointer (some ⟨sb, 0, none⟩)) := by
        have h := hRS.xv.cellAt (i := 0) rfl
        rw [hen0] at h
        exact h
      have hbwz := hbw.trans (hbz.mono hbw.size)
      have e3 : wz.cell? ⟨sb, 1, none⟩ = some (.int .i64 0) := (hsblk.below hbwz hsb).cellAt rfl
      rw [hen0] at hcall
      have HCALL := Lib.hid hcall
      clear hcall hRS hen0 hmb5 d1 s0 dx
      go_region_held3 (fun w' => w'.cell? ⟨wr.heap.size + 1 + 1, 0, none⟩ = some (.func (.func 60) #[] #[.pointer (some ⟨wr.heap.size + 1, 0, none⟩), .pointer (some ⟨w2.heap.size, 0, none⟩), .pointer (some ⟨w2.heap.size + 1 + 1, 0, none⟩), .pointer (some ⟨wr.heap.size + 1 + 1, 0, none⟩)]) ∧
          w'.cell? ⟨w2.heap.size, 0, none⟩ = some (.pointer (some ⟨sb, 0, none⟩)) ∧ w'.cell? ⟨sb, 1, none⟩ = some (.int .i64 0))
        (first | exact ⟨e1, e2, e3⟩ | exact ⟨f1, f2, f3⟩)
        (first | (go_at_call 60; refine HCALL.out.mono ?_; rintro en w9 ⟨rfl, hrs9, ho9⟩; have f1 := hrs9.av.cellAt (i := 0) rfl; have f2 := hrs9.xv.cellAt (i := 0) rfl; have hb99 := hbz.drew.trans (ho9.below hbz.size (fun b hb hb' => by simp at hb'; omega)); have f3 : w9.cell? ⟨sb, 1, none⟩ = some (.int .i64 0) := (hsblk.below (hbw.trans (hb99.mono hbw.size)) hsb).cellAt rfl))
      go_wp2
      go_ret2
      exact ⟨rfl, hb4.trans ((hbw.trans (hb99.mono hbw.size)).mono hb4.size)⟩

section
variable (B : Nat) (w : World) (v : Value)
set_option maxRecDepth 100000
set_option maxHeartbeats 1000000
theorem reducible_bad (n exit : Int) (es : List (Int × Int)) (hv : Edges B w v es) (hB : B ≤ w.heap.size) (hc : chk n exit es ≠ 0) :
    Calls Try.prog 26 #[.agg #[.int .i64 n, .int .i64 exit, v]] w fun en w' => en = .returned (.tuple #[.bool false, .int .i64 (chk n exit es)]) ∧ Below w.heap.size w w' := by
  obtain ⟨A, c, rfl, hlc, -, hm, hes⟩ := id hv.shape
  have hcheck := fun w1 (h1 : Below w.heap.size w w1) => check_any B w1 n exit _ es (hv.below (h1.mono hB)) (by have := h1.size; omega)
  have HC := Lib.hid hcheck
  clear hcheck hes hv
  go_enter Try.func26, Try.ntmps26
  go_wp2_with (go_at_call 30; refine (HC.out _ ((Below.refl _ _).alloc (Nat.le_refl _) _)).mono ?_; rintro en w1 ⟨rfl, hb1⟩)
  go_ret2
  exact ⟨rfl, ((Below.refl _ _).alloc (Nat.le_refl _) _).trans (hb1.mono (by simp))⟩
end

end Go.Proofs.Ytngfoinceakgdaa
