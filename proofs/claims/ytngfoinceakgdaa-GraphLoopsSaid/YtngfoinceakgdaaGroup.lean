/- Package graph: the closure of groups. -/
import Derived.Test.YtngfoinceakgdaaPlain1
import Derived.Test.YtngfoinceakgdaaReach
namespace Go.Proofs.Ytngfoinceakgdaa
open Go.RowKit Go.Shelf

attribute [local go_sem] Oper.semAt_some

/-- Where the closure's variables lie. -/
structure GEnv where
  n₀ : Nat
  sa : Nat
  s : Shp
  sv : Nat
  ss : Nat
  vv : Nat
  ov : Nat
  sr : Nat
  base : Nat

def GEnv.fn (e : GEnv) : Value := .func (.func 69) #[] #[.pointer (some ⟨e.sv, 0, none⟩), .pointer (some ⟨e.ov, 0, none⟩), .pointer (some ⟨e.ss, 0, none⟩), .pointer (some ⟨e.vv, 0, none⟩)]

structure GEnv.Ok (e : GEnv) : Prop where
  hsv : e.n₀ ≤ e.sv ∧ e.sv < e.base
  hss : e.n₀ ≤ e.ss ∧ e.ss < e.base
  hvv : e.n₀ ≤ e.vv ∧ e.vv < e.base
  hov : e.n₀ ≤ e.ov ∧ e.ov < e.base
  hsr : e.n₀ ≤ e.sr ∧ e.sr < e.base
  hn : e.s.out.length = e.s.n
  hto : ∀ es ∈ e.s.out, ∀ x ∈ es, x < e.s.tg.length
  htn : ∀ x ∈ e.s.tg, x < e.s.n
  hsz : e.s.n ≤ 100000

/-- The state of a search in memory: 'vo' is the value of the variable 'order'. -/
structure GS (e : GEnv) (w : World) (seen : List Bool) (order : List Nat) (vo : Value) : Prop where
  sh : IsShape e.n₀ w e.sa e.s
  sv : Blk w e.sv 61 [.slice (some ⟨e.sr, 0, none⟩) e.s.n e.s.n]
  sr : Blk w e.sr 4 (seen.map Value.bool)
  len : seen.length = e.s.n
  ss : Blk w e.ss 88 [.pointer (some ⟨e.sa, 0, none⟩)]
  vv : Blk w e.vv 115 [e.fn]
  ov : Blk w e.ov 27 [vo]
  row : w.ownsRow e.base 3 1 vo order.length (order.map natV)

def GW (e : GEnv) (vo : Value) (b : Nat) : Prop := b = e.sr ∨ b = e.ov ∨ vo.ownBlock = some b

theorem GEnv.Ok.next_lt {e : GEnv} (h : e.Ok) {p x : Nat} (hp : p < e.s.out.length) (hx : x ∈ e.s.next p) : x < e.s.n := by
  simp only [Shp.next, List.getD_eq_getElem?_getD, List.getElem?_eq_getElem hp, Option.getD_some, List.mem_map] at hx
  obtain ⟨y, hy, rfl⟩ := hx
  have := h.hto _ (List.getElem_mem hp) y hy
  simp only [List.getElem?_eq_getElem this, Option.getD_some]
  exact h.htn _ (List.getElem_mem this)

theorem GS.cells {e : GEnv} {w : World} {seen : List Bool} {order : List Nat} {vo : Value} (h : GS e w seen order vo) {b : Nat} (hb : GW e vo b) : ∃ o : Obj, w.heap[b]? = some o ∧ o.isCells = true := by
  rcases hb with rfl | rfl | hb
  · exact ⟨_, h.sr, rfl⟩
  · exact ⟨_, h.ov, rfl⟩
  · rcases h.row.2 with ⟨rfl, _⟩ | ⟨g, cap, cur, rfl, _, hh, _⟩
    · simp [Value.ownBlock] at hb
    · obtain rfl : g = b := by simpa [Value.ownBlock] using hb
      exact ⟨_, hh, rfl⟩

theorem GS.keep {e : GEnv} {w w' : World} {seen : List Bool} {order : List Nat} {vo : Value} (h : GS e w seen order vo) {row : Option Nat} (hg : w.grownBy w' row)
    (hr : ∀ r, row = some r → e.n₀ ≤ r ∧ ∃ o : Obj, w.heap[r]? = some o ∧ o.isCells = false) (hn : e.n₀ ≤ w.heap.size) : GS e w' seen order vo := by
  have hk : ∀ {g : Nat} {t : TypeId} {cs : List Value}, Blk w g t cs → Blk w' g t cs := fun {g t cs} hb => hb.same (hg.block g hb.lt (fun e' => by
    obtain ⟨_, o, ho, hc⟩ := hr g e'.symm
    unfold Blk at hb
    rw [hb] at ho
    cases ho
    simp [Obj.isCells] at hc))
  refine ⟨h.sh.below ((Below.refl _ _).grown hg hn (fun k hk => (hr k hk).1)), hk h.sv, hk h.sr, h.len, hk h.ss, hk h.vv, hk h.ov, h.row.kept hg ?_⟩
  cases hv : vo.ownBlock with
  | none => exact .inl rfl
  | some g =>
    refine .inr (fun e' => ?_)
    obtain ⟨_, o, ho, hc⟩ := hr g e'.symm
    obtain ⟨o', ho', hc'⟩ := h.cells (.inr (.inr hv))
    rw [ho] at ho'
    cases ho'
    rw [hc] at hc'
    cases hc'

theorem GS.drewN {e : GEnv} {w : World} {seen : List Bool} {order : List Nat} {vo : Value} (h : GS e w seen order vo) (n : Nat) : GS e (w.drewN n) seen order vo :=
  ⟨h.sh.below ⟨rfl, rfl, rfl, Nat.le_refl _, fun _ _ => rfl⟩, h.sv, h.sr, h.len, h.ss, h.vv, h.ov, h.row⟩

/-- What a visit leaves. -/
def GVisited (e : GEnv) (w : World) (vo : Value) (t : List Bool × List Nat) (en : Ending) (w' : World) : Prop :=
  en = .returned (.tuple #[]) ∧ ∃ vo', GS e w' t.1 t.2 vo' ∧ Only (GW e vo) w w' ∧ (vo'.ownBlock = vo.ownBlock ∨ ∃ b, vo'.ownBlock = some b ∧ w.heap.size ≤ b)


theorem GS.alloc {e : GEnv} {w : World} {seen : List Bool} {order : List Nat} {vo : Value} (h : GS e w seen order vo) (hn : e.n₀ ≤ w.heap.size) (o : Obj) : GS e (w.alloc o) seen order vo :=
  h.keep (World.grownBy_alloc w o none) (fun r e => by cases e) hn

theorem GS.see {e : GEnv} (hok : e.Ok) {w : World} {seen : List Bool} {order : List Nat} {vo : Value} (h : GS e w seen order vo) (p : Nat) : GS e (w.setCell ⟨e.sr, p, none⟩ (.bool true)) (seen.set p true) order vo := by
  have f := hok
  refine ⟨h.sh.below ((Below.refl _ w).setCell hok.hsr.1 _), h.sv.far (h.sv.ne h.sr (by decide)) _, ?_, by simpa using h.len, h.ss.far (h.ss.ne h.sr (by decide)) _,
    h.vv.far (h.vv.ne h.sr (by decide)) _, h.ov.far (h.ov.ne h.sr (by decide)) _, ownsRow_setCell_below h.row hok.hsr.2 _⟩
  have := h.sr.set p (.bool true)
  rw [List.map_set]
  exact this

theorem GS.lt {e : GEnv} {w : World} {seen : List Bool} {order : List Nat} {vo : Value} (h : GS e w seen order vo) {b : Nat} (hb : GW e vo b) : b < w.heap.size := by
  obtain ⟨o, ho, _⟩ := h.cells hb
  exact lt_of_block ho

/-- What stands of a state in memory when only what it owns has been written since w0. -/
theorem Only.gw {e : GEnv} {w0 w1 w2 : World} {vo vo1 : Value} (h : Only (GW e vo) w0 w1) (k : Only (GW e vo1) w1 w2) (hrow : vo1.ownBlock = vo.ownBlock ∨ ∃ b, vo1.ownBlock = some b ∧ w0.heap.size ≤ b) : Only (GW e vo) w0 w2 :=
  h.trans k fun b hb hv => by
    rcases hv with rfl | rfl | hv
    · exact .inl rfl
    · exact .inr (.inl rfl)
    · rcases hrow with hr | ⟨g, hr, hg⟩
      · exact .inr (.inr (hr ▸ hv))
      · rw [hr] at hv; cases hv; omega

theorem GS.grown {e : GEnv} (hok : e.Ok) {W w' : World} {seen : List Bool} {order : List Nat} {vo : Value} {o : Obj} (h : GS e W seen order vo) (hb : e.base ≤ W.heap.size) (hg : (W.alloc o).grownBy w' vo.ownBlock) :
    (∀ {g : Nat} {t : TypeId} {cs : List Value}, Blk W g t cs → g < e.base → Blk w' g t cs) ∧ Below e.n₀ W w' ∧ Only (GW e vo) W w' := by
  have hrow : ∀ k, vo.ownBlock = some k → e.base ≤ k := fun k hk => (h.row.lt k hk).1
  refine ⟨fun {g t cs} hblk hlt => ?_, ?_, ?_⟩
  · exact (hblk.alloc o).same (hg.block g (by simp; have := hblk.lt; omega) (fun e' => by have := hrow g e'.symm; omega))
  · have := hok.hov
    exact ((Below.refl _ W).alloc (by omega) o).grown hg (by simp; omega) (fun k hk => by have := hrow k hk; omega)
  · exact ((Only.refl _ W).alloc o).trans (Only.of_grown (S := GW e vo) hg (fun b hb => .inr (.inr hb))) (fun _ _ hb => hb)

theorem GS.push {e : GEnv} (hok : e.Ok) {W w' : World} {seen : List Bool} {order : List Nat} {vo v' : Value} {o : Obj} {p : Nat} (h : GS e W seen order vo) (hb : e.base ≤ W.heap.size)
    (hg : (W.alloc o).grownBy w' vo.ownBlock) (hown : w'.ownsRow e.base 3 1 v' (order.length + 1) (order.map natV ++ [.int .i64 (p : Int)])) :
    GS e (w'.setCell ⟨e.ov, 0, none⟩ v') seen (order ++ [p]) v' ∧ Only (GW e vo) W (w'.setCell ⟨e.ov, 0, none⟩ v') := by
  obtain ⟨hk, hbel, hon⟩ := h.grown hok hb hg
  have far : ∀ {g : Nat} {t : TypeId} {cs : List Value}, Blk W g t cs → g < e.base → g ≠ e.ov → Blk (w'.setCell ⟨e.ov, 0, none⟩ v') g t cs := fun hblk hlt hne => (hk hblk hlt).far (p := ⟨e.ov, 0, none⟩) hne v'
  refine ⟨⟨h.sh.below (hbel.setCell hok.hov.1 _), far h.sv hok.hsv.2 (h.sv.ne h.ov (by decide)), far h.sr hok.hsr.2 (h.sr.ne h.ov (by decide)), h.len,
    far h.ss hok.hss.2 (h.ss.ne h.ov (by decide)), far h.vv hok.hvv.2 (h.vv.ne h.ov (by decide)), by simpa using (hk h.ov hok.hov.2).set 0 v', ?_⟩, hon.set (fun _ => .inr (.inl rfl)) _⟩
  have := ownsRow_setCell_below (a := ⟨e.ov, 0, none⟩) hown hok.hov.2 v'
  simpa [natV] using this

set_option maxRecDepth 100000 in
set_option maxHeartbeats 2000000 in
theorem grp_any (e : GEnv) (hok : e.Ok) : ∀ (k : Nat) (w : World) (seen : List Bool) (order : List Nat) (vo : Value) (p : Nat) (t : List Bool × List Nat),
    GS e w seen order vo → p < e.s.n → e.base ≤ w.heap.size → grpV e.s.next k (seen, order) p = some t → t.2.length ≤ 1000000 →
    Calls Try.prog 69 #[.int .i64 (p : Int), .pointer (some ⟨e.sv, 0, none⟩), .pointer (some ⟨e.ov, 0, none⟩), .pointer (some ⟨e.ss, 0, none⟩), .pointer (some ⟨e.vv, 0, none⟩)] w (GVisited e w vo t) := by
  intro k
  induction k with
  | zero => intro w seen order vo p t _ _ _ h; simp [grpV] at h
  | succ k ih =>
    intro w seen order vo p t hvs hp hbase h hlen
    have c2 := hvs.sv.cellAt (i := 0) rfl
    have hsl := hvs.len
    have c3 : w.cell? ⟨e.sr, p, none⟩ = some (.bool (seen.getD p false)) := hvs.sr.cellAt (by simp [show p < seen.length by omega])
    have hsz := hok.hsz
    simp only [grpV] at h
    by_cases h2 : seen.getD p false = true
    · rw [if_pos h2] at h
      obtain rfl : (seen, order) = t := by simpa using h
      rw [h2] at c3
      clear h2 h ih hsl hlen
      go_enter Try.func69, Try.ntmps69
      go_wp2
      refine bodyPost_ret (results_none rfl _ _ _) rfl ⟨rfl, vo, hvs, Only.refl _ _, .inl rfl⟩
    rw [if_neg h2] at h
    have h3 : seen.getD p false = false := by simpa using h2
    rw [h3] at c3
    have f3 := hvs.sr.frozen p
    have c4 := (hvs.ss.far (p := ⟨e.sr, p, none⟩) (hvs.ss.ne hvs.sr (by decide)) (.bool true)).cellAt (i := 0) rfl
    have hvz := hvs.see hok p
    have hn0 : e.n₀ ≤ w.heap.size := by have := hok.hsr; omega
    have co := hvz.ov.cellAt (i := 0) rfl
    have hon0 := Only.set (p := ⟨e.sr, p, none⟩) (Only.refl (GW e vo) w) (fun _ => .inl rfl) (.bool true)
    have hlo : order.length + 1 ≤ 1000000 := by have := grpF_more _ _ _ _ h; simp only [List.length_append, List.length_singleton] at this; omega
    have HF := Lib.hid h
    obtain ⟨i0, hi, hz0, hz1, hz2⟩ := info_parts info_int
    clear h2 h3 h hsl
    refine (callsIn_wide (n := 5)).1 (callsIn_of_wp_marks Try.func69 rfl trivial (wpIn_wide.2 ?_) rfl)
    simp only [Try.ntmps69, List.size_toArray, List.length_cons, List.length_nil, Nat.reduceAdd, Nat.reduceSub, Array.replicate_succ, Array.replicate_zero, List.push_toArray, List.append_toArray, List.nil_append, List.cons_append]
    go_wp2_with (at_builtin; refine wpList_append_own_at _ rfl (.tmp 14) (.tmp 16) 27 rfl e.base 3 i0 (.int .i64 0) 1 8 Try.underlying27 hi hz0 hz1 hz2 rfl (by decide) vo order.length (order.map natV) rfl (hvz.row.alloc _) ⟨w.heap.size, 0, none⟩ 1 1 [.int .i64 (p : Int)] rfl rfl ?c1 ?c2 ?c3 ?c4 ?c5 ?_)
    case c1 =>
      intro j u hj
      match j, hj with
      | 0, hj =>
        simp at hj; subst hj; rw [add_none]
        have h := Blk.new (w.setCell ⟨e.sr, p, none⟩ (.bool true)) 3 [.int .i64 (p : Int)]
        rw [World.size_setCell] at h
        exact h.cellAt rfl
    case c2 => intro u hu; simp at hu; subst hu; rfl
    case c3 => simp only [maxLen]; omega
    case c4 => omega
    case c5 => simp; omega
    intro v' w' hown hgrow _ hat
    obtain ⟨g, cap, rfl⟩ := ownsRow_succ hown
    have hbs0 : e.base ≤ (w.setCell ⟨e.sr, p, none⟩ (.bool true)).heap.size := by rw [World.size_setCell]; exact hbase
    have hgr := hvz.grown hok hbs0 hgrow
    have co2 := (hgr.1 hvz.ov hok.hov.2).cellAt (i := 0) rfl
    have fo2 := (hgr.1 hvz.ov hok.hov.2).frozen 0
    obtain ⟨hv1, hon1⟩ := hvz.push hok hbs0 hgrow hown
    have hon2 := hon0.trans hon1 (fun _ _ h => h)
    have hsz1 : w.heap.size + 1 ≤ (w'.setCell ⟨e.ov, 0, none⟩ (.slice (some ⟨g, 0, none⟩) (order.length + 1) cap)).heap.size := by have := hgrow.size; simp at this ⊢; omega
    have hat2 : (Value.slice (some ⟨g, 0, none⟩) (order.length + 1) cap).ownBlock = vo.ownBlock ∨ ∃ b, (Value.slice (some ⟨g, 0, none⟩) (order.length + 1) cap).ownBlock = some b ∧ w.heap.size ≤ b := by
      rcases hat with hat | hat
      · exact .inl hat
      · exact .inr ⟨_, hat, by omega⟩
    have css := hv1.ss.cellAt (i := 0) rfl
    have HV1 := Lib.hid hv1
    have HO2 := Lib.hid hon2
    have HAT := Lib.hid hat2
    have HS1 := Lib.hid hsz1
    have HGS := Lib.hid hgrow.size
    clear hown hgrow hgr hat hv1 hon1 hon2 hon0 hat2 hsz1 co c4 hvz c2 c3 f3
    go_wp2_with (go_at_call 50; refine (next_any _ _ _).mono ?_; rintro en w1 ⟨rfl, rfl⟩)
    refine wpIn_wide (n := 5).1 ?_
    obtain ⟨W1, hW1⟩ : ∃ W1, W1 = w'.setCell ⟨e.ov, 0, none⟩ (.slice (some ⟨g, 0, none⟩) (order.length + 1) cap) := ⟨_, rfl⟩
    have hsw : W1.heap.size = w'.heap.size := by rw [hW1, World.size_setCell]
    rw [← hW1] at HV1 HO2 HS1 ⊢
    generalize Value.slice (some ⟨g, 0, none⟩) (order.length + 1) cap = vo0 at HV1 HAT
    have hn1 : e.n₀ ≤ W1.heap.size := by have := HS1.out; omega
    have HBs := Lib.hid ((Blk.new W1 88 [.pointer (some ⟨e.sa, 0, none⟩)]).alloc (.cells #[.int .i64 (p : Int)] 3))
    have HBp := Lib.hid (Blk.new (W1.alloc (.cells #[.pointer (some ⟨e.sa, 0, none⟩)] 88)) 3 [.int .i64 (p : Int)])
    rw [World.size_alloc] at HBp
    have HV := Lib.hid ((HV1.out.alloc hn1 (.cells #[.pointer (some ⟨e.sa, 0, none⟩)] 88)).alloc (by simp; omega) (.cells #[.int .i64 (p : Int)] 3))
    have HO := Lib.hid ((HO2.out.alloc (.cells #[.pointer (some ⟨e.sa, 0, none⟩)] 88)).alloc (.cells #[.int .i64 (p : Int)] 3))
    obtain ⟨W0, hW0⟩ : ∃ W0, W0 = (W1.alloc (.cells #[.pointer (some ⟨e.sa, 0, none⟩)] 88)).alloc (.cells #[.int .i64 (p : Int)] 3) := ⟨_, rfl⟩
    have hs0 : W0.heap.size = W1.heap.size + 2 := by rw [hW0]; simp
    rw [← hW0] at HBs HBp HV HO ⊢
    clear hW0
    rw [hsw] at HBs HBp
    have hpl : p < e.s.out.length := by rw [hok.hn]; exact hp
    have hHS1 := HS1.out
    have hfresh : ∀ vo1 : Value, (vo1.ownBlock = vo0.ownBlock ∨ ∃ b, vo1.ownBlock = some b ∧ W0.heap.size ≤ b) → ∀ b, W1.heap.size ≤ b → b < W0.heap.size → ¬ GW e vo1 b := by
      rintro vo1 hr b hb hb' (rfl | rfl | hvw)
      · have := hok.hsr; omega
      · have := hok.hov; omega
      · rcases hr with hr | ⟨b', hr, hbb⟩
        · rw [hr] at hvw; have := HV1.out.row.lt _ hvw; omega
        · rw [hr] at hvw; cases hvw; omega
    refine wpIn_range_upd (e.s.next p) rfl (by omega) rfl trivial (enters_of Try.func73 (by kernel_rfl) rfl)
      (next_list 4 (by omega) w'.heap.size (w'.heap.size + 1) e.n₀ e.sa p e.s hpl hok.hto W0 HBs.out HBp.out HV.out.sh (by omega)) (fun h k => h.trans k)
      (fun W l o o' hl h _ _ => NextKp.book (B := W0.heap.size) (by omega) (by omega) (by omega) W l o o' hl h) (Below.refl _ _) (fun _ => rfl)
      (fun pre W => ∃ s1 vo1, foldO (grpV e.s.next k) pre (seen.set p true, order ++ [p]) = some s1 ∧ GS e W s1.1 s1.2 vo1 ∧ Only (GW e vo0) W0 W ∧ (vo1.ownBlock = vo0.ownBlock ∨ ∃ b, vo1.ownBlock = some b ∧ W0.heap.size ≤ b))
      (fun _ _ _ => False) ?hI (fun _ _ _ _ _ h _ _ => h) ⟨_, vo0, rfl, HV.out, Only.refl _ _, .inl rfl⟩
      (fun x a => (a.put (some 21) (.int .i64 (x : Int))).put (some 6) (.int .i64 (x : Int))) ?assign ?body ?done ?stop
    case hI =>
      rintro pre W W' row ⟨s1, vo1, hf, hv, ho, hr⟩ hg hrow
      exact ⟨s1, vo1, hf, hv.keep hg (fun r e' => ⟨by have := (hrow r e').1; omega, (hrow r e').2⟩) (by have := ho.size; omega), ho.trans (Only.of_grown (S := fun b => row = some b) hg (fun b e' => e')) (fun b hb e' => by have := (hrow b e').1; omega), hr⟩
    case assign =>
      intro l x W K hK
      gi_wp2
      simpa [Act.put] using hK
    case body =>
      rintro l pre x post W hys hWs ⟨s1, vo1, hf, hv, ho, hr⟩
      obtain ⟨s1', s2, hf', hx, hrest⟩ := foldO_part _ _ _ _ _ _ (hys ▸ HF.out)
      obtain rfl : s1' = s1 := by rw [hf] at hf'; exact (Option.some.inj hf').symm
      have hfs := foldO_snoc _ pre x _ _ hf
      rw [hx] at hfs
      have hc := ih W s1'.1 s1'.2 vo1 x s2 hv (hok.next_lt hpl (by rw [hys]; simp)) (by omega) hx (by have := grpF_more _ _ _ _ hrest; omega)
      have cv := hv.vv.cellAt (i := 0) rfl
      simp only [GEnv.fn] at cv
      have HS := Lib.hid hfs
      clear hfs hf hf' hx hys ih hrest
      gi_wp2_with ((try refine ⟨trivial, ?_⟩); gi_at_call 69; refine (CallsIn.inRound l (callsIn_wide.2 hc)).mono ?_; rintro en w2 ⟨rfl, vo2, hv2, ho2, hr2⟩)
      refine ⟨⟨ho2.size, fun b o hb hb' hc' => ?_⟩, ?_, s2, vo2, HS.out, hv2, ho.gw ho2 hr, ?_⟩
      · refine (ho2.block b (lt_of_block hb') (fun hvw => ?_)).trans hb'
        obtain ⟨o', h1, h2⟩ := hv.cells hvw
        rw [hb'] at h1
        cases h1
        rw [hc'] at h2
        cases h2
      · refine ⟨ho2.below (by omega) (fun b hb hvw => ?_), ho2.block _ (by omega) ?_, ho2.block _ (by omega) ?_⟩
        · rcases hvw with rfl | rfl | hvw
          · have := hok.hsr; omega
          · have := hok.hov; omega
          · have h1 := hv.row.lt b hvw; have h2 := hok.hov; omega
        · exact hfresh vo1 hr _ (by omega) (by omega)
        · exact hfresh vo1 hr _ (by omega) (by omega)
      · rcases hr2 with hr2 | ⟨b, hb, hbs⟩
        · rw [hr2]; exact hr
        · exact .inr ⟨b, hb, by omega⟩
    case done =>
      rintro D W hD ⟨s1, vo1, hf, hv, ho, hr⟩ hdef
      obtain rfl : s1 = t := by rw [HF.out] at hf; exact (Option.some.inj hf).symm
      have hDlt := lt_of_block hdef
      refine ⟨by simp, .inl ⟨_, _, rfl, run_takeDeferred hdef, ?_⟩⟩
      refine ⟨_, results_none rfl _ _ _, rfl, _, hv.keep (grownBy_putObj' _ D _) (fun r e' => by cases e'; exact ⟨by omega, _, hdef, rfl⟩) (by have := ho.size; omega), ?_, ?_⟩
      · exact (HO.out.gw ho HAT.out).trans (Only.of_grown (S := fun b => b = D) (grownBy_putObj' _ D _) (fun b e' => by cases e'; rfl)) (fun b hb e' => by omega)
      · rcases hr with hr | ⟨b, hb, hbb⟩
        · rw [hr]; exact HAT.out
        · exact .inr ⟨b, hb, by omega⟩
    case stop => intro D c pre post W _ _ h; exact h.elim

#print axioms grp_any

end Go.Proofs.Ytngfoinceakgdaa
