/- Package graph: reach. -/
import Derived.Test.YthaampinmelgaaaGreatDoorShape
import Derived.Test.YthaampinmelgaaaGreatDoorPlain1
import Derived.Test.YthaampinmelgaaaGreatDoorFam
import Derived.Laws.EntriesVeiled
/-! Package graph: 'reach' and its closure: they come to the plain search by depth. -/
namespace Go.Proofs.YthaampinmelgaaaGreatDoor
open Go.RowKit Go.Shelf

attribute [local go_sem] Oper.semAt_some


theorem info_int : (Tryz.prog.info? 3).map (fun i => (i.zero, i.size, i.bytes)) = some (some (.int .i64 0), 1, 8) := by kernel_rfl

/-- Where the closure's variables lie. -/
structure VEnv where
  n₀ : Nat
  sa : Nat
  s : Shp
  wo : Int
  bw : Nat
  sv : Nat
  ss : Nat
  vv : Nat
  ov : Nat
  sr : Nat
  base : Nat

def VEnv.fn (e : VEnv) : Value := .func (.func 58) #[] #[.pointer (some ⟨e.bw, 0, none⟩), .pointer (some ⟨e.sv, 0, none⟩), .pointer (some ⟨e.ss, 0, none⟩), .pointer (some ⟨e.vv, 0, none⟩), .pointer (some ⟨e.ov, 0, none⟩)]

structure VEnv.Ok (e : VEnv) : Prop where
  hbw : e.n₀ ≤ e.bw ∧ e.bw < e.base
  hsv : e.n₀ ≤ e.sv ∧ e.sv < e.base
  hss : e.n₀ ≤ e.ss ∧ e.ss < e.base
  hvv : e.n₀ ≤ e.vv ∧ e.vv < e.base
  hov : e.n₀ ≤ e.ov ∧ e.ov < e.base
  hsr : e.n₀ ≤ e.sr ∧ e.sr < e.base
  hn : e.s.out.length = e.s.n
  hto : ∀ es ∈ e.s.out, ∀ x ∈ es, x < e.s.tg.length
  htn : ∀ x ∈ e.s.tg, x < e.s.n
  hsz : e.s.n ≤ 100000

/-- The state of a search in memory: 'vo' is the value of the variable 'order'. -/
structure VS (e : VEnv) (w : World) (seen : List Bool) (order : List Nat) (vo : Value) : Prop where
  sh : IsShape e.n₀ w e.sa e.s
  bw : Blk w e.bw 3 [.int .i64 e.wo]
  sv : Blk w e.sv 93 [.slice (some ⟨e.sr, 0, none⟩) e.s.n e.s.n]
  sr : Blk w e.sr 4 (seen.map Value.bool)
  len : seen.length = e.s.n
  ss : Blk w e.ss 67 [.pointer (some ⟨e.sa, 0, none⟩)]
  vv : Blk w e.vv 105 [e.fn]
  ov : Blk w e.ov 31 [vo]
  row : w.ownsRow e.base 3 1 vo order.length (order.map natV)

def VW (e : VEnv) (vo : Value) (b : Nat) : Prop := b = e.sr ∨ b = e.ov ∨ vo.ownBlock = some b

theorem VEnv.Ok.next_lt {e : VEnv} (h : e.Ok) {p x : Nat} (hp : p < e.s.out.length) (hx : x ∈ e.s.next p) : x < e.s.n := by
  simp only [Shp.next, List.getD_eq_getElem?_getD, List.getElem?_eq_getElem hp, Option.getD_some, List.mem_map] at hx
  obtain ⟨y, hy, rfl⟩ := hx
  have := h.hto _ (List.getElem_mem hp) y hy
  simp only [List.getElem?_eq_getElem this, Option.getD_some]
  exact h.htn _ (List.getElem_mem this)

theorem VS.cells {e : VEnv} {w : World} {seen : List Bool} {order : List Nat} {vo : Value} (h : VS e w seen order vo) {b : Nat} (hb : VW e vo b) : ∃ o : Obj, w.heap[b]? = some o ∧ o.isCells = true := by
  rcases hb with rfl | rfl | hb
  · exact ⟨_, h.sr, rfl⟩
  · exact ⟨_, h.ov, rfl⟩
  · rcases h.row.2 with ⟨rfl, _⟩ | ⟨g, cap, cur, rfl, _, hh, _⟩
    · simp [Value.ownBlock] at hb
    · obtain rfl : g = b := by simpa [Value.ownBlock] using hb
      exact ⟨_, hh, rfl⟩

theorem VS.keep {e : VEnv} {w w' : World} {seen : List Bool} {order : List Nat} {vo : Value} (h : VS e w seen order vo) {row : Option Nat} (hg : w.grownBy w' row)
    (hr : ∀ r, row = some r → e.n₀ ≤ r ∧ ∃ o : Obj, w.heap[r]? = some o ∧ o.isCells = false) (hn : e.n₀ ≤ w.heap.size) : VS e w' seen order vo := by
  have hk : ∀ {g : Nat} {t : TypeId} {cs : List Value}, Blk w g t cs → Blk w' g t cs := fun {g t cs} hb => hb.same (hg.block g hb.lt (fun e' => by
    obtain ⟨_, o, ho, hc⟩ := hr g e'.symm
    unfold Blk at hb
    rw [hb] at ho
    cases ho
    simp [Obj.isCells] at hc))
  refine ⟨h.sh.below ((Below.refl _ _).grown hg hn (fun k hk => (hr k hk).1)), hk h.bw, hk h.sv, hk h.sr, h.len, hk h.ss, hk h.vv, hk h.ov, h.row.kept hg ?_⟩
  cases hv : vo.ownBlock with
  | none => exact .inl rfl
  | some g =>
    refine .inr (fun e' => ?_)
    obtain ⟨_, o, ho, hc⟩ := hr g e'.symm
    obtain ⟨o', ho', hc'⟩ := h.cells (.inr (.inr hv))
    rw [ho] at ho'
    cases ho'
    rw [hc] at hc'
    cases hc'

theorem VS.drewN {e : VEnv} {w : World} {seen : List Bool} {order : List Nat} {vo : Value} (h : VS e w seen order vo) (n : Nat) : VS e (w.drewN n) seen order vo :=
  ⟨h.sh.below ⟨rfl, rfl, rfl, Nat.le_refl _, fun _ _ => rfl⟩, h.bw, h.sv, h.sr, h.len, h.ss, h.vv, h.ov, h.row⟩

/-- What a visit leaves. -/
def Visited (e : VEnv) (w : World) (vo : Value) (t : List Bool × List Nat) (en : Ending) (w' : World) : Prop :=
  en = .returned (.tuple #[]) ∧ ∃ vo', VS e w' t.1 t.2 vo' ∧ Only (VW e vo) w w' ∧ (vo'.ownBlock = vo.ownBlock ∨ ∃ b, vo'.ownBlock = some b ∧ w.heap.size ≤ b)

theorem getD_set_true {l : List Bool} {i : Nat} : (l.set i true).map Value.bool = (l.map Value.bool).set i (.bool true) := by rw [List.map_set]

theorem VS.alloc {e : VEnv} {w : World} {seen : List Bool} {order : List Nat} {vo : Value} (h : VS e w seen order vo) (hn : e.n₀ ≤ w.heap.size) (o : Obj) : VS e (w.alloc o) seen order vo :=
  h.keep (World.grownBy_alloc w o none) (fun r e => by cases e) hn

theorem VS.see {e : VEnv} (hok : e.Ok) {w : World} {seen : List Bool} {order : List Nat} {vo : Value} (h : VS e w seen order vo) (p : Nat) : VS e (w.setCell ⟨e.sr, p, none⟩ (.bool true)) (seen.set p true) order vo := by
  have f := hok
  refine ⟨h.sh.below ((Below.refl _ w).setCell hok.hsr.1 _), h.bw.far (h.bw.ne h.sr (by decide)) _, h.sv.far (h.sv.ne h.sr (by decide)) _, ?_, by simpa using h.len, h.ss.far (h.ss.ne h.sr (by decide)) _,
    h.vv.far (h.vv.ne h.sr (by decide)) _, h.ov.far (h.ov.ne h.sr (by decide)) _, ownsRow_setCell_below h.row hok.hsr.2 _⟩
  have := h.sr.set p (.bool true)
  rw [List.map_set]
  exact this

theorem VS.lt {e : VEnv} {w : World} {seen : List Bool} {order : List Nat} {vo : Value} (h : VS e w seen order vo) {b : Nat} (hb : VW e vo b) : b < w.heap.size := by
  obtain ⟨o, ho, _⟩ := h.cells hb
  exact lt_of_block ho

/-- What stands of a state in memory when only what it owns has been written since w0. -/
theorem Only.vw {e : VEnv} {w0 w1 w2 : World} {vo vo1 : Value} (h : Only (VW e vo) w0 w1) (k : Only (VW e vo1) w1 w2) (hrow : vo1.ownBlock = vo.ownBlock ∨ ∃ b, vo1.ownBlock = some b ∧ w0.heap.size ≤ b) : Only (VW e vo) w0 w2 :=
  h.trans k fun b hb hv => by
    rcases hv with rfl | rfl | hv
    · exact .inl rfl
    · exact .inr (.inl rfl)
    · rcases hrow with hr | ⟨g, hr, hg⟩
      · exact .inr (.inr (hr ▸ hv))
      · rw [hr] at hv; cases hv; omega

theorem VS.grown {e : VEnv} (hok : e.Ok) {W w' : World} {seen : List Bool} {order : List Nat} {vo : Value} {o : Obj} (h : VS e W seen order vo) (hb : e.base ≤ W.heap.size) (hg : (W.alloc o).grownBy w' vo.ownBlock) :
    (∀ {g : Nat} {t : TypeId} {cs : List Value}, Blk W g t cs → g < e.base → Blk w' g t cs) ∧ Below e.n₀ W w' ∧ Only (VW e vo) W w' := by
  have hrow : ∀ k, vo.ownBlock = some k → e.base ≤ k := fun k hk => (h.row.lt k hk).1
  refine ⟨fun {g t cs} hblk hlt => ?_, ?_, ?_⟩
  · exact (hblk.alloc o).same (hg.block g (by simp; have := hblk.lt; omega) (fun e' => by have := hrow g e'.symm; omega))
  · have := hok.hov
    exact ((Below.refl _ W).alloc (by omega) o).grown hg (by simp; omega) (fun k hk => by have := hrow k hk; omega)
  · exact ((Only.refl _ W).alloc o).trans (Only.of_grown (S := VW e vo) hg (fun b hb => .inr (.inr hb))) (fun _ _ hb => hb)

theorem VS.push {e : VEnv} (hok : e.Ok) {W w' : World} {seen : List Bool} {order : List Nat} {vo v' : Value} {o : Obj} {p : Nat} (h : VS e W seen order vo) (hb : e.base ≤ W.heap.size)
    (hg : (W.alloc o).grownBy w' vo.ownBlock) (hown : w'.ownsRow e.base 3 1 v' (order.length + 1) (order.map natV ++ [.int .i64 (p : Int)])) :
    VS e (w'.setCell ⟨e.ov, 0, none⟩ v') seen (order ++ [p]) v' ∧ Only (VW e vo) W (w'.setCell ⟨e.ov, 0, none⟩ v') := by
  obtain ⟨hk, hbel, hon⟩ := h.grown hok hb hg
  have far : ∀ {g : Nat} {t : TypeId} {cs : List Value}, Blk W g t cs → g < e.base → g ≠ e.ov → Blk (w'.setCell ⟨e.ov, 0, none⟩ v') g t cs := fun hblk hlt hne => (hk hblk hlt).far (p := ⟨e.ov, 0, none⟩) hne v'
  refine ⟨⟨h.sh.below (hbel.setCell hok.hov.1 _), far h.bw hok.hbw.2 (h.bw.ne h.ov (by decide)), far h.sv hok.hsv.2 (h.sv.ne h.ov (by decide)), far h.sr hok.hsr.2 (h.sr.ne h.ov (by decide)), h.len,
    far h.ss hok.hss.2 (h.ss.ne h.ov (by decide)), far h.vv hok.hvv.2 (h.vv.ne h.ov (by decide)), by simpa using (hk h.ov hok.hov.2).set 0 v', ?_⟩, hon.set (fun _ => .inr (.inl rfl)) _⟩
  have := ownsRow_setCell_below (a := ⟨e.ov, 0, none⟩) hown hok.hov.2 v'
  simpa [natV] using this

set_option maxRecDepth 100000 in
set_option maxHeartbeats 2000000 in
theorem visit_any (e : VEnv) (hok : e.Ok) : ∀ (k : Nat) (w : World) (seen : List Bool) (order : List Nat) (vo : Value) (p : Nat) (t : List Bool × List Nat),
    VS e w seen order vo → p < e.s.n → e.base ≤ w.heap.size → dfsV e.s.next e.wo k (seen, order) p = some t → t.2.length ≤ 1000000 →
    Calls Tryz.prog 58 #[.int .i64 (p : Int), .pointer (some ⟨e.bw, 0, none⟩), .pointer (some ⟨e.sv, 0, none⟩), .pointer (some ⟨e.ss, 0, none⟩), .pointer (some ⟨e.vv, 0, none⟩), .pointer (some ⟨e.ov, 0, none⟩)] w (Visited e w vo t) := by
  intro k
  induction k with
  | zero => intro w seen order vo p t _ _ _ h; simp [dfsV] at h
  | succ k ih =>
    intro w seen order vo p t hvs hp hbase h hlen
    have c1 := hvs.bw.cellAt (i := 0) rfl
    have c2 := hvs.sv.cellAt (i := 0) rfl
    have hsl := hvs.len
    have c3 : w.cell? ⟨e.sr, p, none⟩ = some (.bool (seen.getD p false)) := hvs.sr.cellAt (by simp [show p < seen.length by omega])
    have hsz := hok.hsz
    simp only [dfsV] at h
    by_cases h1 : (p : Int) = e.wo
    · rw [if_pos h1] at h
      obtain rfl : (seen, order) = t := by simpa using h
      have g1 : ((p : Int) == e.wo) = true := by simpa using h1
      have H1 := Lib.hid h1
      clear h1 h ih hsl hlen
      go_enter Tryz.func58, Tryz.ntmps58
      go_wp2
      refine bodyPost_ret (results_none rfl _ _ _) rfl ⟨rfl, vo, hvs, Only.refl _ _, .inl rfl⟩
    rw [if_neg h1] at h
    have g1 : ((p : Int) == e.wo) = false := by simpa using h1
    clear h1
    by_cases h2 : seen.getD p false = true
    · rw [if_pos h2] at h
      obtain rfl : (seen, order) = t := by simpa using h
      rw [h2] at c3
      clear h2 h ih hsl hlen
      go_enter Tryz.func58, Tryz.ntmps58
      go_wp2
      refine bodyPost_ret (results_none rfl _ _ _) rfl ⟨rfl, vo, hvs, Only.refl _ _, .inl rfl⟩
    rw [if_neg h2] at h
    obtain ⟨u, hu, rfl⟩ : ∃ u, foldO (dfsV e.s.next e.wo k) (e.s.next p) (seen.set p true, order) = some u ∧ (u.1, u.2 ++ [p]) = t := by
      cases hf : foldO (dfsV e.s.next e.wo k) (e.s.next p) (seen.set p true, order) with
      | none => rw [hf] at h; cases h
      | some u => rw [hf] at h; exact ⟨u, rfl, by simpa using h⟩
    have h3 : seen.getD p false = false := by simpa using h2
    rw [h3] at c3
    have f3 := hvs.sr.frozen p
    have c4 := (hvs.ss.far (p := ⟨e.sr, p, none⟩) (hvs.ss.ne hvs.sr (by decide)) (.bool true)).cellAt (i := 0) rfl
    have hvz := hvs.see hok p
    have hn0 : e.n₀ ≤ w.heap.size := by have := hok.hbw; omega
    have hv0 := (hvz.alloc (by simp; exact hn0) (.cells #[.pointer (some ⟨e.sa, 0, none⟩)] 67)).alloc (by simp; omega) (.cells #[.int .i64 (p : Int)] 3)
    have hBs := (Blk.new (w.setCell ⟨e.sr, p, none⟩ (.bool true)) 67 [.pointer (some ⟨e.sa, 0, none⟩)]).alloc (.cells #[.int .i64 (p : Int)] 3)
    have hBp := Blk.new ((w.setCell ⟨e.sr, p, none⟩ (.bool true)).alloc (.cells #[.pointer (some ⟨e.sa, 0, none⟩)] 67)) 3 [.int .i64 (p : Int)]
    have hon := (((Only.refl (VW e vo) w).set (p := ⟨e.sr, p, none⟩) (fun _ => .inl rfl) (.bool true)).alloc (.cells #[.pointer (some ⟨e.sa, 0, none⟩)] 67)).alloc (.cells #[.int .i64 (p : Int)] 3)
    simp only [World.size_alloc, World.size_setCell] at hBs hBp
    have HB := Lib.hid hBs
    have HP := Lib.hid hBp
    have HO := Lib.hid hon
    have HV := Lib.hid hv0
    clear h2 h3 h hsl hBs hBp hon hv0 hvz
    refine (callsIn_wide (n := 5)).1 (callsIn_of_wp_marks Tryz.func58 rfl trivial (wpIn_wide.2 ?_) rfl)
    simp only [Tryz.ntmps58, List.size_toArray, List.length_cons, List.length_nil, Nat.reduceAdd, Nat.reduceSub, Array.replicate_succ, Array.replicate_zero, List.push_toArray, List.append_toArray, List.nil_append, List.cons_append]
    go_wp2_with (go_at_call 27; refine (next_any _ _ _).mono ?_; rintro en w1 ⟨rfl, rfl⟩)
    refine wpIn_wide (n := 5).1 ?_
    obtain ⟨W0, hW0⟩ : ∃ W0, W0 = ((w.setCell ⟨e.sr, p, none⟩ (.bool true)).alloc (.cells #[.pointer (some ⟨e.sa, 0, none⟩)] 67)).alloc (.cells #[.int .i64 (p : Int)] 3) := ⟨_, rfl⟩
    rw [← hW0] at HB HP HO HV ⊢
    have hs0 : W0.heap.size = w.heap.size + 2 := by rw [hW0]; simp
    clear hW0
    have hpl : p < e.s.out.length := by rw [hok.hn]; exact hp
    have hfresh : ∀ vo1 : Value, (vo1.ownBlock = vo.ownBlock ∨ ∃ b, vo1.ownBlock = some b ∧ W0.heap.size ≤ b) → ∀ b, w.heap.size ≤ b → b < W0.heap.size → ¬ VW e vo1 b := by
      rintro vo1 hr b hb hb' (rfl | rfl | hvw)
      · have := hok.hsr; omega
      · have := hok.hov; omega
      · rcases hr with hr | ⟨b', hr, hbb⟩
        · rw [hr] at hvw; have := hvs.row.lt _ hvw; omega
        · rw [hr] at hvw; cases hvw; omega
    obtain ⟨i0, hi, hz0, hz1, hz2⟩ := info_parts info_int
    refine wpIn_range_upd (e.s.next p) rfl (by omega) rfl trivial (enters_of Tryz.func48 (by kernel_rfl) rfl)
      (next_list 4 (by omega) w.heap.size (w.heap.size + 1) e.n₀ e.sa p e.s hpl hok.hto W0 HB.out HP.out HV.out.sh (by omega)) (fun h k => h.trans k)
      (fun W l o o' hl h _ _ => NextKp.book (B := W0.heap.size) (by omega) (by omega) (by omega) W l o o' hl h) (Below.refl _ _) (fun _ => rfl)
      (fun pre W => ∃ s1 vo1, foldO (dfsV e.s.next e.wo k) pre (seen.set p true, order) = some s1 ∧ VS e W s1.1 s1.2 vo1 ∧ Only (VW e vo) W0 W ∧ (vo1.ownBlock = vo.ownBlock ∨ ∃ b, vo1.ownBlock = some b ∧ W0.heap.size ≤ b))
      (fun _ _ _ => False) ?hI (fun _ _ _ _ _ h _ _ => h) ⟨_, vo, rfl, HV.out, Only.refl _ _, .inl rfl⟩
      (fun x a => (a.put (some 23) (.int .i64 (x : Int))).put (some 7) (.int .i64 (x : Int))) ?assign ?body ?done ?stop
    case hI =>
      rintro pre W W' row ⟨s1, vo1, hf, hv, ho, hr⟩ hg hrow
      exact ⟨s1, vo1, hf, hv.keep hg (fun r e' => ⟨by have := (hrow r e').1; omega, (hrow r e').2⟩) (by have := ho.size; omega), ho.trans (Only.of_grown (S := fun b => row = some b) hg (fun b e' => e')) (fun b hb e' => by have := (hrow b e').1; omega), hr⟩
    case assign =>
      intro l x W K hK
      gi_wp2
      simpa [Act.put] using hK
    case body =>
      rintro l pre x post W hys hWs ⟨s1, vo1, hf, hv, ho, hr⟩
      obtain ⟨s1', s2, hf', hx, hrest⟩ := foldO_part _ _ _ _ _ _ (hys ▸ hu)
      obtain rfl : s1' = s1 := by rw [hf] at hf'; exact (Option.some.inj hf').symm
      have hfs := foldO_snoc _ pre x _ _ hf
      rw [hx] at hfs
      have hc := ih W s1'.1 s1'.2 vo1 x s2 hv (hok.next_lt hpl (by rw [hys]; simp)) (by omega) hx (by have := dfsF_more _ _ _ _ hrest; simp only [List.length_append, List.length_singleton] at hlen; omega)
      have cv := hv.vv.cellAt (i := 0) rfl
      simp only [VEnv.fn] at cv
      have HS := Lib.hid hfs
      clear hfs hf hf' hx hys hu ih hrest
      gi_wp2_with ((try refine ⟨trivial, ?_⟩); gi_at_call 58; refine (CallsIn.inRound l (callsIn_wide.2 hc)).mono ?_; rintro en w2 ⟨rfl, vo2, hv2, ho2, hr2⟩)
      refine ⟨⟨ho2.size, fun b o hb hb' hc' => ?_⟩, ?_, s2, vo2, HS.out, hv2, ho.vw ho2 hr, ?_⟩
      · refine (ho2.block b (lt_of_block hb') (fun hvw => ?_)).trans hb'
        obtain ⟨o', h1, h2⟩ := hv.cells hvw
        rw [hb'] at h1
        cases h1
        rw [hc'] at h2
        cases h2
      · refine ⟨ho2.below (by have := hok.hbw; omega) (fun b hb hvw => ?_), ho2.block _ (by omega) ?_, ho2.block _ (by omega) ?_⟩
        · rcases hvw with rfl | rfl | hvw
          · have := hok.hsr; omega
          · have := hok.hov; omega
          · have h1 := hv.row.lt b hvw; have h2 := hok.hov; omega
        · exact hfresh vo1 hr _ (by omega) (by omega)
        · exact hfresh vo1 hr _ (by omega) (by omega)
      · rcases hr2 with hr2 | ⟨b, hb, hbs⟩
        · rw [hr2]; exact hr
        · exact .inr ⟨b, hb, by omega⟩
    case done =>
      rintro D W hD ⟨s1, vo1, hf, hv, ho, hr⟩ hdef
      obtain rfl : s1 = u := by rw [hu] at hf; exact (Option.some.inj hf).symm
      have cv := hv.ov.cellAt (i := 0) rfl
      have hln : s1.2.length + 1 ≤ 1000000 := by simpa using hlen
      have hbs : e.base ≤ W.heap.size := by have := ho.size; omega
      clear hu hf ih
      go_wp2_with (at_builtin; refine wpList_append_own_at _ rfl (.tmp 27) (.tmp 29) 31 rfl e.base 3 i0 (.int .i64 0) 1 8 Tryz.underlying31 hi hz0 hz1 hz2 rfl (by decide) vo1 s1.2.length (s1.2.map natV) rfl (hv.row.alloc _) ⟨W.heap.size, 0, none⟩ 1 1 [.int .i64 (p : Int)] rfl rfl ?c1 ?c2 ?c3 ?c4 ?c5 ?_)
      case c1 =>
        intro j u hj
        match j, hj with
        | 0, hj => simp at hj; subst hj; rw [add_none]; exact (Blk.new W 3 [.int .i64 (p : Int)]).cellAt rfl
      case c2 => intro u hu; simp at hu; subst hu; rfl
      case c3 => simp only [maxLen]; omega
      case c4 => omega
      case c5 => simp; omega
      intro v' w' hown hgrow _ hat
      obtain ⟨g, cap, rfl⟩ := ownsRow_succ hown
      have hgr := hv.grown hok hbs hgrow
      have co := (hgr.1 hv.ov hok.hov.2).cellAt (i := 0) rfl
      have fo := (hgr.1 hv.ov hok.hov.2).frozen 0
      have hpush := hv.push hok hbs hgrow hown
      have hD' : w'.heap[D]? = some (.deferred (some [])) := by
        refine (hgrow.block D (by simp; have := lt_of_block hdef; omega) (fun e' => ?_)).trans ((Below.heap_alloc W _ D (lt_of_block hdef)).trans hdef)
        obtain ⟨o', h1, h2⟩ := hv.cells (.inr (.inr e'.symm))
        rw [hdef] at h1
        cases h1
        simp [Obj.isCells] at h2
      have hDne : D ≠ e.ov := by have := hok.hov; omega
      have hDe := (Below.heap_setCell w' ⟨e.ov, 0, none⟩ (.slice (some ⟨g, 0, none⟩) (s1.2.length + 1) cap) D hDne).trans hD'
      clear hown hgrow hgr hv cv hdef
      go_wp2
      refine ⟨by simp, .inl ⟨_, _, rfl, run_takeDeferred hDe, ?_⟩⟩
      refine ⟨_, results_none rfl _ _ _, rfl, _, hpush.1.keep (grownBy_putObj' _ D _) (fun r e' => by cases e'; exact ⟨by omega, _, hDe, rfl⟩) (by have := lt_of_block hDe; omega), ?_, ?_⟩
      · exact ((HO.out.trans ho (fun _ _ h => h)).vw hpush.2 (by
          rcases hr with hr | ⟨b, hb, hbb⟩
          · exact .inl hr
          · exact .inr ⟨b, hb, by omega⟩)).trans (Only.of_grown (S := fun b => b = D) (grownBy_putObj' _ D _) (fun b e' => by cases e'; rfl)) (fun b hb e' => by omega)
      · rcases hat with hat | hat
        · rcases hr with hr | ⟨b, hb, hbb⟩
          · exact .inl (hat.trans hr)
          · exact .inr ⟨b, hat.trans hb, by omega⟩
        · exact .inr ⟨_, hat, by have := ho.size; simp; omega⟩
    case stop => intro D c pre post W _ _ h; exact h.elim

#print axioms visit_any

end Go.Proofs.YthaampinmelgaaaGreatDoor

/-! Package graph: 'reach'. -/
namespace Go.Proofs.YthaampinmelgaaaGreatDoor
open Go.RowKit Go.Shelf

theorem info_bool : (Tryz.prog.info? 4).map (fun i => (i.zero, i.size, i.bytes)) = some (some (.bool false), 1, 1) := by kernel_rfl

structure Shp.Ok (s : Shp) : Prop where
  hn : s.out.length = s.n
  hto : ∀ es ∈ s.out, ∀ x ∈ es, x < s.tg.length
  htn : ∀ x ∈ s.tg, x < s.n
  hsz : s.n ≤ 100000

def reachEnv (w : World) (sa : Nat) (s : Shp) (wo : Int) : VEnv :=
  { n₀ := w.heap.size, sa, s, wo, bw := w.heap.size + 1, sv := w.heap.size + 1 + 1 + 1, ss := w.heap.size, vv := w.heap.size + 1 + 1 + 1 + 1 + 1, ov := w.heap.size + 1 + 1 + 1 + 1, sr := w.heap.size + 1 + 1, base := w.heap.size + 1 + 1 + 1 + 1 + 1 + 1 }

theorem reachEnv_ok (w : World) (sa : Nat) (s : Shp) (wo : Int) (h : s.Ok) : (reachEnv w sa s wo).Ok := by
  refine ⟨?_, ?_, ?_, ?_, ?_, ?_, h.hn, h.hto, h.htn, h.hsz⟩ <;> simp only [reachEnv] <;> omega

theorem vs_start (w : World) (sa : Nat) (s : Shp) (wo : Int) (hs : IsShape w.heap.size w sa s) {W : World}
    (hW : W = (((((w.alloc (.cells #[.pointer (some ⟨sa, 0, none⟩)] 67)).alloc (.cells #[.int .i64 wo] 3)).alloc (.cells (Array.replicate s.n (.bool false)) 4)).alloc
      (.cells #[.slice (some ⟨w.heap.size + 1 + 1, 0, none⟩) s.n s.n] 93)).alloc (.cells #[.slice none 0 0] 31)).alloc (.cells #[(reachEnv w sa s wo).fn] 105)) :
    VS (reachEnv w sa s wo) W (List.replicate s.n false) [] (.slice none 0 0) ∧ Below w.heap.size w W ∧ W.heap.size = (reachEnv w sa s wo).base := by
  have hb : Below w.heap.size w W := by
    rw [hW]
    exact ((((((Below.refl _ w).alloc (Nat.le_refl _) _).alloc (by simp) _).alloc (by simp; omega) _).alloc (by simp; omega) _).alloc (by simp; omega) _).alloc (by simp; omega) _
  refine ⟨⟨hs.below hb, ?_, ?_, ?_, by simp [reachEnv], ?_, ?_, ?_, World.ownsRow_nil _ _ _ _⟩, hb, by rw [hW]; simp [reachEnv]⟩ <;> rw [hW]
  · exact ((((Blk.newAt _ _ _ (by simp [reachEnv])).alloc _).alloc _).alloc _).alloc _
  · exact ((Blk.newAt _ _ _ (by simp [reachEnv])).alloc _).alloc _
  · have h := Blk.newAt (N := (reachEnv w sa s wo).sr) ((w.alloc (.cells #[.pointer (some ⟨sa, 0, none⟩)] 67)).alloc (.cells #[.int .i64 wo] 3)) 4 (Array.replicate s.n (.bool false)) (by simp [reachEnv])
    simp only [Array.toList_replicate] at h
    simpa using ((h.alloc _).alloc _).alloc _
  · exact (((((Blk.newAt _ _ _ (by simp [reachEnv])).alloc _).alloc _).alloc _).alloc _).alloc _
  · exact Blk.newAt _ _ _ (by simp [reachEnv])
  · exact (Blk.newAt _ _ _ (by simp [reachEnv])).alloc _

set_option maxRecDepth 100000 in
set_option maxHeartbeats 2000000 in
theorem reach_any (B : Nat) (w : World) (sa : Nat) (s : Shp) (wo : Int) (v : Value) (sts : List Nat) (k : Nat) (t : List Bool × List Nat)
    (hs : IsShape B w sa s) (hB : B ≤ w.heap.size) (hok : s.Ok) (hv : Nats B w v sts) (hlt : ∀ x ∈ sts, x < s.n) (hf : foldO (dfsV s.next wo k) sts (List.replicate s.n false, []) = some t) (hlen : t.2.length ≤ 1000000) :
    Calls Tryz.prog 41 #[.pointer (some ⟨sa, 0, none⟩), .int .i64 wo, v] w fun en w' =>
      ∃ vr vo, en = .returned (.tuple #[vr, vo]) ∧ Bools w'.heap.size w' vr t.1 ∧ Nats w'.heap.size w' vo t.2 ∧ Below w.heap.size w w' := by
  obtain ⟨hsa, vf, vt, vo, vi, hblk, -, -, -, -⟩ := id hs
  obtain ⟨As, cs, rfl, hcs, -, hms, has⟩ := hv.shape
  have hsz := hok.hsz
  have hmk := make_one (P := Tryz.prog) 93 4 (.bool false) 1 Tryz.underlying93 info_bool rfl s.n (by omega) (by omega)
  have hmf : ∀ (fn : Fn) (first cap : Array Value) (w : World), (Instr.makeFunc fn first cap).run Tryz.prog w = .ok (.func fn first cap) w := fun _ _ _ _ => rfl
  have c0 : ∀ o1 o2, ((w.alloc o1).alloc o2).cell? ⟨sa, 0, none⟩ = some (.int .i64 (s.n : Int)) := fun o1 o2 => ((hblk.alloc o1).alloc o2).cellAt (i := 0) rfl
  have HK := Lib.hid hok
  have HF := Lib.hid hf
  have HL := Lib.hid hlen
  have HA := Lib.hid has
  have HT := Lib.hid hlt
  clear hok hf hlen has hlt
  go_enter Tryz.func41, Tryz.ntmps41
  go_wp2
  go_loopw [21] (fun i wr => ∃ (j : Nat) (s1 : List Bool × List Nat) (vo1 : Value), j ≤ sts.length ∧ i = .int .i64 j ∧ foldO (dfsV s.next wo k) (sts.take j) (List.replicate s.n false, []) = some s1 ∧ VS (reachEnv w sa s wo) wr s1.1 s1.2 vo1 ∧ Below w.heap.size w wr ∧ (reachEnv w sa s wo).base ≤ wr.heap.size)
    (fun i _ => sts.length - (intOf i).toNat)
  case atStart =>
    obtain ⟨hvs, hbel, hsz0⟩ := vs_start w sa s wo (hs.more hB) (W := _) rfl
    exact ⟨0, _, _, Nat.zero_le _, rfl, rfl, hvs, hbel, Nat.le_of_eq hsz0.symm⟩
  case round =>
    obtain ⟨j, s1, vo1, hj, rfl, hfj, hvs, hbel, hbs⟩ := hrel
    clear c0 hmk hmf
    by_cases hlj : j < sts.length
    · have hcut : sts = sts.take j ++ sts[j] :: sts.drop (j + 1) := by rw [← List.drop_eq_getElem_cons hlj, List.take_append_drop]
      obtain ⟨s1', s2, hf', hx, hrest⟩ := foldO_part _ _ _ _ _ _ (hcut ▸ HF.out)
      obtain rfl : s1' = s1 := by rw [hfj] at hf'; exact (Option.some.inj hf').symm
      have hfs : foldO (dfsV s.next wo k) (sts.take (j + 1)) (List.replicate s.n false, []) = some s2 := by
        rw [List.take_succ_eq_append_getElem hlj, foldO_snoc _ _ _ _ _ hfj]; exact hx
      obtain ⟨ad, u, rfl, hab, hac, hau⟩ := HA.out j sts[j] (List.getElem?_eq_getElem hlj)
      obtain rfl : u = .int .i64 ((sts[j] : Nat) : Int) := hau
      have hac' := (hbel.cell (p := ad.add j) (by rw [block_add]; omega)).trans hac
      have hok' := reachEnv_ok w sa s wo HK.out
      have hc := visit_any _ hok' k wr s1'.1 s1'.2 vo1 sts[j] s2 hvs (HT.out _ (List.getElem_mem hlj)) hbs hx (by have := dfsF_more _ _ _ _ hrest; have := HL.out; omega)
      have cv := hvs.vv.cellAt (i := 0) rfl
      simp only [VEnv.fn, reachEnv] at cv
      have hbs' : w.heap.size + 1 + 1 + 1 + 1 + 1 + 1 ≤ wr.heap.size := hbs
      have HS := Lib.hid hfs
      clear hcut hfs hf' hx hfj hrest hac
      go_wp2_with (go_at_call 58; refine hc.mono ?_; rintro en w2 ⟨rfl, vo2, hv2, ho2, hr2⟩)
      go_roundw
      case rel =>
        refine ⟨j + 1, s2, vo2, by omega, by simp, HS.out, hv2, hbel.trans (ho2.below (by omega) ?_), by have := ho2.size; omega⟩
        rintro b hb (rfl | rfl | hvw)
        · simp [reachEnv] at hb; omega
        · simp [reachEnv] at hb; omega
        · have := hvs.row.lt _ hvw; simp [reachEnv] at this; omega
      case measure => simp [intOf]; omega
    · obtain rfl : j = sts.length := by omega
      rw [List.take_length] at hfj
      obtain rfl : s1 = t := by rw [HF.out] at hfj; exact (Option.some.inj hfj).symm
      have cs1 := hvs.sv.cellAt (i := 0) rfl
      have co1 := hvs.ov.cellAt (i := 0) rfl
      simp only [reachEnv] at cs1 co1
      clear hfj
      go_wp2
      go_quiet (fail)
      go_wp2
      go_ret2
      refine ⟨_, _, rfl, ?_, ?_, below_drewN' hbel nq⟩
      · have h := Sl.of_blk (R := RBool) (c := s.n) Value.bool (fun _ _ => rfl) hvs.sr (Nat.le_of_eq hvs.len) (by unfold maxLen; omega) hvs.sr.lt
        rw [hvs.len] at h
        exact h
      · exact Sl.of_own (R := RNat) natV (fun _ _ => rfl) hvs.row

#print axioms reach_any

end Go.Proofs.YthaampinmelgaaaGreatDoor
