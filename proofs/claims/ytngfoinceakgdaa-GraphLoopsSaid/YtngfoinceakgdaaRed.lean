/- Package graph: the closure of Reducible. -/
import Derived.Test.YtngfoinceakgdaaBack
import Derived.Maps.Own
import Derived.Maps.Views
import Derived.Deep.RegionHeld3
namespace Go.Proofs.Ytngfoinceakgdaa
open Go.RowKit Go.Shelf Go.Maps

theorem lawI : Keyed Try.prog 3 := int_keyed Try.underlying3
theorem zeroB (w : World) : (zeroValue 4).run Try.prog w = .ok (.bool false) w := by kernel_rfl

/-- Block b is a map from numbers to Booleans; S says which are true. -/
def MapB (w : World) (b n : Nat) (S : Nat → Bool) : Prop :=
  ∃ D : DataW Unit, w.ownsMap Try.prog 3 (plainElem Try.prog 4) b n D ∧ IsMap D ∧ ∀ e : Nat, e ≤ 1000000 → D.atKey (.int .i64 (e : Int)) (.lit (.bool false)) = .lit (.bool (S e))

theorem wf_nat (e : Nat) (he : e ≤ 1000000) : (Lit.int .i64 (e : Int)).wf = true := WalkArith.wf_i64 (by omega)

theorem MapB.made (w : World) : MapB (w.alloc (.map #[] 0)) w.heap.size 0 (fun _ => false) := ⟨.map [], World.ownsMap_made _ _ _ _, isMap_empty, fun _ _ => rfl⟩
theorem MapB.kept {w w' : World} {b n : Nat} {S : Nat → Bool} {row : Option Nat} (h : MapB w b n S) (hg : w.grownBy w' row) (hne : some b ≠ row) : MapB w' b n S := by
  obtain ⟨D, h1, h2, h3⟩ := h
  exact ⟨D, h1.kept hg hne, h2, h3⟩
theorem MapB.lt {w : World} {b n : Nat} {S : Nat → Bool} (h : MapB w b n S) : b < w.heap.size := by
  obtain ⟨D, h1, h2, h3⟩ := h
  exact h1.lt
theorem plainElem_bool_inv {P : Program} {e : TypeId} (he : P.underlying e = some .bool) {v : Value} {x : Bool} {ps : List MemPlace} (h : plainElem (H := Unit) P e v = some (.lit (.bool x), ps)) : v = .bool x := by
  unfold plainElem at h
  rw [he] at h
  cases v <;> simp at h
  rw [h.1]
theorem MapB.look {w : World} {b n : Nat} {S : Nat → Bool} (h : MapB w b n S) (e : Nat) (he : e ≤ 1000000) : (Instr.lookup 105 (.map (some b)) (.int .i64 (e : Int)) false).run Try.prog w = .ok (.bool (S e)) w := by
  obtain ⟨D, h1, h2, h3⟩ := h
  obtain ⟨v, ps, hrun, hv⟩ := h1.lookup (t := 105) lawI Try.underlying105 (zeroB w) (plainElem_bool Try.underlying4 false) (keyOf_int_mk Try.underlying3 (wf_nat e he))
  rw [h3 e he] at hv
  rw [hrun, plainElem_bool_inv Try.underlying4 hv]
theorem MapB.keep {w w' : World} {b n : Nat} {S : Nat → Bool} (h : MapB w b n S) (hb : w'.heap[b]? = w.heap[b]?) : MapB w' b n S := by
  obtain ⟨D, ⟨es, clock, hh, F, hs, hD⟩, h2, h3⟩ := h
  exact ⟨D, ⟨es, clock, hb.trans hh, F, hs, hD⟩, h2, h3⟩

/-- Where the closure's variables lie. -/
structure REnv where
  n₀ : Nat
  sa : Nat
  s : Shp
  S : Nat → Bool
  sv : Nat
  xv : Nat
  mv : Nat
  av : Nat
  stb : Nat
  mb : Nat
  mn : Nat

structure RS (e : REnv) (w : World) (st : List Nat) : Prop where
  sh : IsShape e.n₀ w e.sa e.s
  sv : Blk w e.sv 27 [.slice (some ⟨e.stb, 0, none⟩) e.s.n e.s.n]
  xv : Blk w e.xv 88 [.pointer (some ⟨e.sa, 0, none⟩)]
  mv : Blk w e.mv 105 [.map (some e.mb)]
  av : Blk w e.av 106 [.func (.func 60) #[] #[.pointer (some ⟨e.sv, 0, none⟩), .pointer (some ⟨e.xv, 0, none⟩), .pointer (some ⟨e.mv, 0, none⟩), .pointer (some ⟨e.av, 0, none⟩)]]
  stc : Blk w e.stb 3 (st.map natV)
  map : MapB w e.mb e.mn e.S
  len : st.length = e.s.n
  hn : e.n₀ ≤ e.stb
  hm : e.mb ≠ e.stb

structure REnv.Ok (e : REnv) : Prop where
  ho : e.s.out.length = e.s.n
  hto : ∀ es ∈ e.s.out, ∀ x ∈ es, x < e.s.tg.length
  htn : ∀ x ∈ e.s.tg, x < e.s.n
  hmax : e.s.tg.length ≤ 100000

theorem RS.only {e : REnv} {w w' : World} {st : List Nat} (h : RS e w st) (ho : Only (fun _ => False) w w') : RS e w' st :=
  ⟨h.sh.below (ho.below (Nat.le_trans h.hn (Nat.le_of_lt h.stc.lt)) (fun _ _ h => h)), h.sv.only ho id, h.xv.only ho id, h.mv.only ho id, h.av.only ho id, h.stc.only ho id, h.map.keep (ho.block _ h.map.lt id), h.len, h.hn, h.hm⟩
theorem RS.set {e : REnv} {w : World} {st : List Nat} (h : RS e w st) (p x : Nat) : RS e (w.setCell ⟨e.stb, p, none⟩ (.int .i64 (x : Int))) (st.set p x) := by
  refine ⟨h.sh.below ((Below.refl _ _).setCell h.hn _), h.sv.far (h.sv.ne h.stc (by decide)) _, h.xv.far (h.xv.ne h.stc (by decide)) _, h.mv.far (h.mv.ne h.stc (by decide)) _, h.av.far (h.av.ne h.stc (by decide)) _, ?_, h.map.keep (Below.heap_setCell _ _ _ _ h.hm), by simp [h.len], h.hn, h.hm⟩
  rw [List.map_set]
  exact h.stc.set p _

set_option maxRecDepth 100000 in
set_option maxHeartbeats 1000000 in
theorem acyclic_any (e : REnv) (hok : e.Ok) : ∀ (k : Nat) (w : World) (st : List Nat) (p : Nat) (r : List Nat × Bool), RS e w st → p < e.s.n → acyF e.s e.S k st p = some r →
    Calls Try.prog 60 #[.int .i64 (p : Int), .pointer (some ⟨e.sv, 0, none⟩), .pointer (some ⟨e.xv, 0, none⟩), .pointer (some ⟨e.mv, 0, none⟩), .pointer (some ⟨e.av, 0, none⟩)] w fun en w' =>
      en = .returned (.bool r.2) ∧ RS e w' r.1 ∧ Only (fun b => b = e.stb) w w' := by
  intro k
  induction k with
  | zero => intro w st p r _ _ h; simp [acyF] at h
  | succ k ih =>
    intro w st p r hs hp h
    simp only [acyF] at h
    have c1 := hs.sv.cellAt (i := 0) rfl
    have cst : w.cell? ⟨e.stb, p, none⟩ = some (.int .i64 (st.getD p 0 : Nat)) := hs.stc.cellAt (by rw [List.getElem?_map, List.getD_eq_getElem?_getD, List.getElem?_eq_getElem (by rw [hs.len]; exact hp)]; rfl)
    have hp1 : (p : Int) < (e.s.n : Int) := by omega
    by_cases h0 : st.getD p 0 ≠ 0
    · rw [if_pos h0] at h
      obtain rfl := Option.some.inj h
      have h0' : ¬ ((st.getD p 0 : Nat) : Int) = 0 := by omega
      have hr : (st.getD p 0 == 2) = decide (((st.getD p 0 : Nat) : Int) = 2) := by
        rw [Bool.eq_iff_iff]; simp; omega
      rw [hr]
      clear h h0 hr
      revert cst h0'
      generalize st.getD p 0 = x
      intro cst h0'
      go_enter Try.func60, Try.ntmps60
      go_wp2
      go_ret
      exact ⟨rfl, hs, Only.refl _ _⟩
    · rw [if_neg h0] at h
      obtain ⟨u, hu, rfl⟩ := Option.map_eq_some_iff.1 h
      have hz : st.getD p 0 = 0 := by omega
      rw [hz] at cst
      obtain ⟨hsa, vf, vt, vo, vi, hblk, -, hnt, hno, -⟩ := id hs.sh
      obtain ⟨At, ct, rfl, -, -, hmt, -⟩ := hnt.shape
      have hpo : p < e.s.out.length := by rw [hok.ho]; exact hp
      obtain ⟨es, hes⟩ : ∃ es, e.s.out[p]? = some es := ⟨_, List.getElem?_eq_getElem hpo⟩
      obtain ⟨Ao, co, rfl, -, -, hmo, hao⟩ := Sl.shape hno
      obtain ⟨ao, uo, rfl, hbo, hco, hne⟩ := hao p es hes
      obtain ⟨Ae, ce, rfl, -, -, hme, -⟩ := Sl.shape hne
      have hge : e.s.out.getD p [] = es := by rw [List.getD_eq_getElem?_getD, hes]; rfl
      rw [hge] at hu
      have hset : RS e (w.setCell ⟨e.stb, p, none⟩ (.int .i64 1)) (st.set p 1) := hs.set p 1
      have fz := hs.stc.frozen p
      have HU := Lib.hid hu
      have HES := Lib.hid hes
      clear h h0 hz hge hu hes hao
      have c2 := hset.xv.cellAt (i := 0) rfl
      have c4 : (w.setCell ⟨e.stb, p, none⟩ (.int .i64 1)).cell? ⟨e.sa, 4, none⟩ = some (.slice (some ao) e.s.out.length co) := by
        have hne : e.stb ≠ e.sa := by have := hs.hn; omega
        exact (hblk.far (p := ⟨e.stb, p, none⟩) (Ne.symm hne) _).cellAt rfl
      have hpo1 : (p : Int) < (e.s.out.length : Int) := by omega
      have hbS : Below e.n₀ w (w.setCell ⟨e.stb, p, none⟩ (.int .i64 1)) := (Below.refl _ _).setCell hs.hn _
      have hco' := (hbS.cell (p := ao.add p) (by rw [block_add]; exact hbo)).trans hco
      go_enter Try.func60, Try.ntmps60
      go_upto_region 5 with fail
      go_wp2
      have hOn : Only (fun b => b = e.stb) w (w.setCell ⟨e.stb, p, none⟩ (.int .i64 1)) := Only.set (p := ⟨e.stb, p, none⟩) (Only.refl (fun b => b = e.stb) w) (fun _ => rfl) (.int .i64 1)
      go_loopw [30] (fun y wr => ∃ (m : Nat) (stm : List Nat), m ≤ es.length ∧ y = .int .i64 m ∧ acyL e.s e.S (acyF e.s e.S k) (es.drop m) stm = some u ∧ RS e wr stm ∧ Only (fun b => b = e.stb) w wr)
        (fun y _ => es.length - (intOf y).toNat)
      case atStart => exact ⟨0, _, Nat.zero_le _, rfl, HU.out, hset, hOn⟩
      case round =>
        obtain ⟨m, stm, hm, rfl, hl, hrs, hon⟩ := hrel
        clear hset c2 c4 hco' hbS hOn c1 cst fz
        by_cases hlt : m < es.length
        · rw [List.drop_eq_getElem_cons hlt] at hl
          simp only [acyL] at hl
          obtain ⟨ade, rfl, hbe, hce⟩ := Nats.at hne hlt
          have hxm : es[m] < e.s.tg.length := hok.hto _ (List.mem_of_getElem? HES.out) _ (List.getElem_mem hlt)
          have hgd : es.getD m 0 = es[m] := by rw [List.getD_eq_getElem?_getD, List.getElem?_eq_getElem hlt]; rfl
          rw [hgd] at hce
          clear hgd
          revert hl hce hxm
          generalize es[m] = x
          intro hl hce hxm
          have hbel : Below e.n₀ w wr := hon.below (by have := hs.stc.lt; have := hs.hn; omega) (fun b hb hb' => by have := hs.hn; omega)
          have hce' := (hbel.cell (p := ade.add m) (by rw [block_add]; exact hbe)).trans hce
          have hlt1 : (m : Int) < (es.length : Int) := by omega
          have d3 := hrs.mv.cellAt (i := 0) rfl
          have hlook : ∀ q, (Instr.lookup 105 (.map (some e.mb)) (.int .i64 (x : Int)) false).run Try.prog (wr.drewN q) = .ok (.bool (e.S x)) (wr.drewN q) := fun q => (hrs.map.keep (w' := wr.drewN q) rfl).look x (by have := hok.hmax; omega)
          clear hce
          cases hS : e.S x with
          | true =>
            rw [hS, if_pos rfl] at hl
            simp only [hS] at hlook
            have HL := Lib.hid hl
            clear hl hS
            go_wp2
            go_quiet (fail)
            go_wp2
            case roundEnd =>
              refine ⟨⟨m + 1, stm, by omega, by simp, HL.out, hrs.only (Only.drewN (Only.refl _ _) nq), hon.drewN nq⟩, ?_⟩
              simp [intOf]; omega
          | false =>
            rw [hS, if_neg (by simp)] at hl
            simp only [hS] at hlook
            have hlook0 := hlook 0
            have hlook1 : (Instr.lookup 105 (.map (some e.mb)) (.int .i64 (x : Int)) false).run Try.prog { wr with drawn := wr.drawn + 1 } = .ok (.bool false) { wr with drawn := wr.drawn + 1 } := hlook 1
            obtain ⟨r1, hr1, hl2⟩ : ∃ r1, acyF e.s e.S k stm (e.s.tg.getD x 0) = some r1 ∧ (if r1.2 then acyL e.s e.S (acyF e.s e.S k) (es.drop (m + 1)) r1.1 else some (r1.1, false)) = some u := by
              cases hx : acyF e.s e.S k stm (e.s.tg.getD x 0) with
              | none => rw [hx] at hl; cases hl
              | some u => rw [hx] at hl; exact ⟨u, rfl, hl⟩
            obtain ⟨adt, rfl, hbt, hct⟩ := Nats.at hnt hxm
            have htq : e.s.tg.getD x 0 < e.s.n := hok.htn _ (by rw [List.getD_eq_getElem?_getD, List.getElem?_eq_getElem hxm]; exact List.getElem_mem _)
            have hxm1 : (x : Int) < (e.s.tg.length : Int) := by omega
            have d2 := hrs.xv.cellAt (i := 0) rfl
            have d4 := hrs.av.cellAt (i := 0) rfl
            have s3 : wr.cell? ⟨e.sa, 3, none⟩ = some (.slice (some adt) e.s.tg.length ct) := (hblk.below hbel hsa).cellAt rfl
            revert hct htq hr1
            generalize e.s.tg.getD x 0 = tq
            intro hr1 hct htq
            have hct' := (hbel.cell (p := adt.add x) (by rw [block_add]; exact hbt)).trans hct
            have hcall := ih wr.drew stm tq r1 (hrs.only (Only.drew (Only.refl _ _))) htq hr1
            have HCALL := Lib.hid hcall
            have HL2 := Lib.hid hl2
            clear hl hlook hl2 hcall hr1 ih
            go_wp2
            go_region_held3 (fun w' => w'.cell? ⟨e.mv, 0, none⟩ = some (.map (some e.mb)) ∧ (Instr.lookup 105 (.map (some e.mb)) (.int .i64 (x : Int)) false).run Try.prog w' = .ok (.bool false) w' ∧
                w'.cell? ⟨e.av, 0, none⟩ = some (.func (.func 60) #[] #[.pointer (some ⟨e.sv, 0, none⟩), .pointer (some ⟨e.xv, 0, none⟩), .pointer (some ⟨e.mv, 0, none⟩), .pointer (some ⟨e.av, 0, none⟩)]) ∧
                w'.cell? ⟨e.xv, 0, none⟩ = some (.pointer (some ⟨e.sa, 0, none⟩)) ∧ w'.cell? ⟨e.sa, 3, none⟩ = some (.slice (some adt) e.s.tg.length ct) ∧ w'.cell? (adt.add x) = some (.int .i64 (tq : Int)))
              (first | exact ⟨d3, hlook1, d4, d2, s3, hct'⟩ | exact ⟨hrs2.mv.cellAt rfl, hlk2, hrs2.av.cellAt rfl, hrs2.xv.cellAt rfl, (hblk.below hbel2 hsa).cellAt rfl, (hbel2.cell (by rw [block_add]; exact hbt)).trans hct⟩)
              (first | (go_at_call 60; refine HCALL.out.mono ?_; rintro en w2 ⟨rfl, hrs2, ho2⟩; have hbel2 := hbel.drew.trans (ho2.below (Nat.le_trans hrs.hn (Nat.le_of_lt hrs.stc.lt)) (fun b hb hb' => by have := hrs.hn; omega)); have hlk2 := hrs2.map.look x (by have := hok.hmax; omega); rw [hS] at hlk2))
            have hon2 := hon.drew.trans ho2 (fun _ _ h => h)
            obtain ⟨st1, b1⟩ := r1
            have hl3 := HL2.out
            clear HL2 HCALL d3 d4 d2 hlook0 hlook1 hlk2
            cases b1 with
            | false =>
              obtain rfl : (st1, false) = u := Option.some.inj hl3
              clear hl3
              go_wp2
              go_ret
              exact ⟨rfl, hrs2, hon2⟩
            | true =>
              have HL3 := Lib.hid hl3
              clear hl3
              go_wp2
              go_roundw
              case rel => exact ⟨m + 1, st1, by omega, by go_num, HL3.out, hrs2, hon2⟩
              case measure => simp [intOf]; omega
        · have hge : ¬ ((m : Int) < (es.length : Int)) := by omega
          obtain rfl : es.length = m := by omega
          rw [List.drop_length] at hl
          obtain rfl : (stm, true) = u := Option.some.inj hl
          have c1 := hrs.sv.cellAt (i := 0) rfl
          obtain ⟨v0, hv0⟩ : ∃ v0, (stm.map natV)[p]? = some v0 := ⟨_, List.getElem?_eq_getElem (by rw [List.length_map, hrs.len]; exact hp)⟩
          have cp := hrs.stc.cellAt hv0
          have fp := hrs.stc.frozen p
          have hfin : RS e (wr.setCell ⟨e.stb, p, none⟩ (.int .i64 2)) (stm.set p 2) := hrs.set p 2
          have hon3 := Only.set (p := ⟨e.stb, p, none⟩) hon (fun _ => rfl) (.int .i64 2)
          clear hl
          go_wp2
          go_ret
          exact ⟨rfl, hfin, hon3⟩

#print axioms acyclic_any

end Go.Proofs.Ytngfoinceakgdaa
